/- The plain laws of the classes: mirrored, turned by a quarter, so many times as long, back; and which class says what of cross and dot. -/
import Derived.Test.YtkkaidliocadnaaBend
namespace Go.Proofs.Ytkkaidliocadnaa
theorem no_both {a b c d : Int} (h : ¬ (a = 0 ∧ b = 0)) (h' : ¬ (c = 0 ∧ d = 0)) : ¬ (a * d - b * c = 0 ∧ a * c + b * d = 0) := by
  rintro ⟨e1, e2⟩
  have k1 : c * (a * a + b * b) = 0 := by
    have : c * (a * a + b * b) = a * (a * c + b * d) - b * (a * d - b * c) := by grind
    rw [this, e1, e2]; simp
  have k2 : d * (a * a + b * b) = 0 := by
    have : d * (a * a + b * b) = b * (a * c + b * d) + a * (a * d - b * c) := by grind
    rw [this, e1, e2]; simp
  have hp : a * a + b * b ≠ 0 := by
    have p1 : 0 ≤ a * a := by rcases Int.le_total 0 a with x | x; exact Int.mul_nonneg x x; exact Int.mul_nonneg_of_nonpos_of_nonpos x x
    have p2 : 0 ≤ b * b := by rcases Int.le_total 0 b with x | x; exact Int.mul_nonneg x x; exact Int.mul_nonneg_of_nonpos_of_nonpos x x
    intro e
    have q1 : a * a = 0 := by omega
    have q2 : b * b = 0 := by omega
    exact h ⟨by rcases Int.mul_eq_zero.1 q1 with x | x <;> exact x, by rcases Int.mul_eq_zero.1 q2 with x | x <;> exact x⟩
  exact h' ⟨(Int.mul_eq_zero.1 k1).resolve_right hp, (Int.mul_eq_zero.1 k2).resolve_right hp⟩
theorem clsI_neg {c d : Int} (h : ¬ (c = 0 ∧ d = 0)) : clsI (-c) d = mirI (clsI c d) := by
  have hh : ∀ r s, r = clsI (-c) d → s = clsI c d → r = mirI s → clsI (-c) d = mirI (clsI c d) := by rintro r s rfl rfl e; exact e
  by_cases h1 : 0 < d ∧ 4 * c ≤ d ∧ -(4 * c) ≤ d
  · exact hh 1 1 (cls1 (by omega)) (cls1 (by omega)) rfl
  by_cases h5 : d < 0 ∧ 4 * c ≤ -d ∧ -(4 * c) ≤ -d
  · exact hh 5 5 (cls5 (by omega)) (cls5 (by omega)) rfl
  by_cases hc : 0 < c
  · by_cases h2 : 0 < d ∧ c ≤ d
    · exact hh _ 2 (cls6 (by omega)) (cls2 (by omega)) rfl
    by_cases h4 : d < 0 ∧ c ≤ -d
    · exact hh _ 4 (cls8 (by omega)) (cls4 (by omega)) rfl
    exact hh _ 3 (cls7 (by omega)) (cls3 (by omega)) rfl
  · by_cases h2 : 0 < d ∧ -c ≤ d
    · exact hh 2 _ (cls2 (by omega)) (cls6 (by omega)) rfl
    by_cases h4 : d < 0 ∧ -c ≤ -d
    · exact hh 4 _ (cls4 (by omega)) (cls8 (by omega)) rfl
    exact hh 3 _ (cls3 (by omega)) (cls7 (by omega)) rfl
theorem clsI_mul {k c d : Int} (hk : 1 ≤ k ∧ k ≤ 9) : clsI (k * c) (k * d) = clsI c d := by
  obtain rfl | rfl | rfl | rfl | rfl | rfl | rfl | rfl | rfl : k = 1 ∨ k = 2 ∨ k = 3 ∨ k = 4 ∨ k = 5 ∨ k = 6 ∨ k = 7 ∨ k = 8 ∨ k = 9 := by omega
  all_goals
    unfold clsI
    by_cases h1 : 0 < d ∧ 4 * c ≤ d ∧ -(4 * c) ≤ d
    · rw [if_pos h1, if_pos (by omega)]
    rw [if_neg h1, if_neg (by omega)]
    by_cases h5 : d < 0 ∧ 4 * c ≤ -d ∧ -(4 * c) ≤ -d
    · rw [if_pos h5, if_pos (by omega)]
    rw [if_neg h5, if_neg (by omega)]
    by_cases hc : 0 ≤ c
    · rw [if_pos hc, if_pos (by omega)]
      by_cases h2 : 0 < d ∧ c ≤ d
      · rw [if_pos h2, if_pos (by omega)]
      rw [if_neg h2, if_neg (by omega)]
      by_cases h4 : d < 0 ∧ c ≤ -d
      · rw [if_pos h4, if_pos (by omega)]
      rw [if_neg h4, if_neg (by omega)]
    · rw [if_neg hc, if_neg (by omega)]
      by_cases h2 : 0 < d ∧ -c ≤ d
      · rw [if_pos h2, if_pos (by omega)]
      rw [if_neg h2, if_neg (by omega)]
      by_cases h4 : d < 0 ∧ -c ≤ -d
      · rw [if_pos h4, if_pos (by omega)]
      rw [if_neg h4, if_neg (by omega)]
theorem clsI_range (c d : Int) : clsI c d = 1 ∨ clsI c d = 2 ∨ clsI c d = 3 ∨ clsI c d = 4 ∨ clsI c d = 5 ∨ clsI c d = 6 ∨ clsI c d = 7 ∨ clsI c d = 8 := by
  unfold clsI
  split
  · simp
  · split
    · simp
    · split
      · split
        · simp
        · split <;> simp
      · split
        · simp
        · split <;> simp
theorem mirI_mirI_cls (c d : Int) : mirI (mirI (clsI c d)) = clsI c d := by
  rcases clsI_range c d with h | h | h | h | h | h | h | h <;> rw [h] <;> rfl
theorem classF_in {ax ay bx by_ : Int} (h1 : -4095 ≤ ax ∧ ax ≤ 4095) (h2 : -4095 ≤ ay ∧ ay ≤ 4095) (h3 : -4095 ≤ bx ∧ bx ≤ 4095) (h4 : -4095 ≤ by_ ∧ by_ ≤ 4095) :
    ((ax = 0 ∧ ay = 0) ∨ (bx = 0 ∧ by_ = 0)) ∧ classF ax ay bx by_ = 0 ∨ (¬ (ax = 0 ∧ ay = 0) ∧ ¬ (bx = 0 ∧ by_ = 0)) ∧ classF ax ay bx by_ = clsI (ax * by_ - ay * bx) (ax * bx + ay * by_) := by
  have e1 := farB_in h1.1 h1.2
  have e2 := farB_in h2.1 h2.2
  have e3 := farB_in h3.1 h3.2
  have e4 := farB_in h4.1 h4.2
  by_cases hz : (ax = 0 ∧ ay = 0) ∨ (bx = 0 ∧ by_ = 0)
  · left; refine ⟨hz, ?_⟩; unfold classF; rw [if_pos]; simp only [hz, or_true]
  · right
    rw [not_or] at hz
    refine ⟨hz, ?_⟩
    unfold classF
    rw [if_neg]
    simp only [e1, e2, e3, e4, hz.1, hz.2, Bool.false_eq_true, or_self, not_false_eq_true]
theorem classF_mirror {ax ay bx by_ : Int} (h1 : -4095 ≤ ax ∧ ax ≤ 4095) (h2 : -4095 ≤ ay ∧ ay ≤ 4095) (h3 : -4095 ≤ bx ∧ bx ≤ 4095) (h4 : -4095 ≤ by_ ∧ by_ ≤ 4095) :
    classF ax (-ay) bx (-by_) = mirI (classF ax ay bx by_) := by
  rcases classF_in (ax := ax) (ay := -ay) (bx := bx) (by_ := -by_) h1 (by omega) h3 (by omega) with ⟨z, e⟩ | ⟨z, e⟩ <;> rcases classF_in h1 h2 h3 h4 with ⟨z', e'⟩ | ⟨z', e'⟩
  · rw [e, e']; rfl
  · exfalso; omega
  · exfalso; omega
  · rw [e, e', ← clsI_neg (no_both z'.1 z'.2)]
    congr 1
    · grind
    · grind
theorem classF_quarter {ax ay bx by_ : Int} (h1 : -4095 ≤ ax ∧ ax ≤ 4095) (h2 : -4095 ≤ ay ∧ ay ≤ 4095) (h3 : -4095 ≤ bx ∧ bx ≤ 4095) (h4 : -4095 ≤ by_ ∧ by_ ≤ 4095) :
    classF (-ay) ax (-by_) bx = classF ax ay bx by_ := by
  rcases classF_in (ax := -ay) (ay := ax) (bx := -by_) (by_ := bx) (by omega) h1 (by omega) h3 with ⟨z, e⟩ | ⟨z, e⟩ <;> rcases classF_in h1 h2 h3 h4 with ⟨z', e'⟩ | ⟨z', e'⟩
  · rw [e, e']
  · exfalso; omega
  · exfalso; omega
  · rw [e, e']
    congr 1
    · grind
    · grind
theorem mul_zero_iff {k a : Int} (hk : 1 ≤ k) : k * a = 0 ↔ a = 0 := by
  constructor
  · intro h; rcases Int.mul_eq_zero.1 h with x | x; omega; exact x
  · rintro rfl; simp
theorem mul_in {k a : Int} (hk : 1 ≤ k ∧ k ≤ 9) (ha : -400 ≤ a ∧ a ≤ 400) : -3600 ≤ k * a ∧ k * a ≤ 3600 := by
  obtain rfl | rfl | rfl | rfl | rfl | rfl | rfl | rfl | rfl : k = 1 ∨ k = 2 ∨ k = 3 ∨ k = 4 ∨ k = 5 ∨ k = 6 ∨ k = 7 ∨ k = 8 ∨ k = 9 := by omega
  all_goals omega
theorem classF_long {k ax ay bx by_ : Int} (hk : 1 ≤ k ∧ k ≤ 9) (h1 : -400 ≤ ax ∧ ax ≤ 400) (h2 : -400 ≤ ay ∧ ay ≤ 400) (h3 : -400 ≤ bx ∧ bx ≤ 400) (h4 : -400 ≤ by_ ∧ by_ ≤ 400) :
    classF (k * ax) (k * ay) bx by_ = classF ax ay bx by_ := by
  have m1 := mul_in hk h1
  have m2 := mul_in hk h2
  have z1 := mul_zero_iff (a := ax) hk.1
  have z2 := mul_zero_iff (a := ay) hk.1
  rcases classF_in (ax := k * ax) (ay := k * ay) (bx := bx) (by_ := by_) (by omega) (by omega) (by omega) (by omega) with ⟨z, e⟩ | ⟨z, e⟩ <;> rcases classF_in (ax := ax) (ay := ay) (bx := bx) (by_ := by_) (by omega) (by omega) (by omega) (by omega) with ⟨z', e'⟩ | ⟨z', e'⟩
  · rw [e, e']
  · exfalso; rw [z1, z2] at z; omega
  · exfalso; rw [z1, z2] at z; omega
  · rw [e, e', ← clsI_mul (c := ax * by_ - ay * bx) (d := ax * bx + ay * by_) hk]
    congr 1
    · grind
    · grind
theorem classF_long2 {k ax ay bx by_ : Int} (hk : 1 ≤ k ∧ k ≤ 9) (h1 : -400 ≤ ax ∧ ax ≤ 400) (h2 : -400 ≤ ay ∧ ay ≤ 400) (h3 : -400 ≤ bx ∧ bx ≤ 400) (h4 : -400 ≤ by_ ∧ by_ ≤ 400) :
    classF ax ay (k * bx) (k * by_) = classF ax ay bx by_ := by
  have m1 := mul_in hk h3
  have m2 := mul_in hk h4
  have z1 := mul_zero_iff (a := bx) hk.1
  have z2 := mul_zero_iff (a := by_) hk.1
  rcases classF_in (ax := ax) (ay := ay) (bx := k * bx) (by_ := k * by_) (by omega) (by omega) (by omega) (by omega) with ⟨z, e⟩ | ⟨z, e⟩ <;> rcases classF_in (ax := ax) (ay := ay) (bx := bx) (by_ := by_) (by omega) (by omega) (by omega) (by omega) with ⟨z', e'⟩ | ⟨z', e'⟩
  · rw [e, e']
  · exfalso; rw [z1, z2] at z; omega
  · exfalso; rw [z1, z2] at z; omega
  · rw [e, e', ← clsI_mul (c := ax * by_ - ay * bx) (d := ax * bx + ay * by_) hk]
    congr 1
    · grind
    · grind
theorem classF_mir2 {ax ay bx by_ : Int} (h1 : -4095 ≤ ax ∧ ax ≤ 4095) (h2 : -4095 ≤ ay ∧ ay ≤ 4095) (h3 : -4095 ≤ bx ∧ bx ≤ 4095) (h4 : -4095 ≤ by_ ∧ by_ ≤ 4095) : mirI (mirI (classF ax ay bx by_)) = classF ax ay bx by_ := by
  rcases classF_in h1 h2 h3 h4 with ⟨_, e⟩ | ⟨_, e⟩
  · rw [e]; rfl
  · rw [e]; exact mirI_mirI_cls _ _
theorem classF_back {ax ay bx by_ : Int} (h1 : -4095 ≤ ax ∧ ax ≤ 4095) (h2 : -4095 ≤ ay ∧ ay ≤ 4095) (h3 : -4095 ≤ bx ∧ bx ≤ 4095) (h4 : -4095 ≤ by_ ∧ by_ ≤ 4095) :
    classF (-bx) (-by_) (-ax) (-ay) = mirI (classF ax ay bx by_) := by
  rcases classF_in (ax := -bx) (ay := -by_) (bx := -ax) (by_ := -ay) (by omega) (by omega) (by omega) (by omega) with ⟨z, e⟩ | ⟨z, e⟩ <;> rcases classF_in h1 h2 h3 h4 with ⟨z', e'⟩ | ⟨z', e'⟩
  · rw [e, e']; rfl
  · exfalso; omega
  · exfalso; omega
  · rw [e, e', ← clsI_neg (no_both z'.1 z'.2)]
    congr 1
    · grind
    · grind
theorem sq_pos {a b : Int} (h : ¬ (a = 0 ∧ b = 0)) : 0 < a * a + b * b := by
  have p1 : 0 ≤ a * a := by rcases Int.le_total 0 a with x | x; exact Int.mul_nonneg x x; exact Int.mul_nonneg_of_nonpos_of_nonpos x x
  have p2 : 0 ≤ b * b := by rcases Int.le_total 0 b with x | x; exact Int.mul_nonneg x x; exact Int.mul_nonneg_of_nonpos_of_nonpos x x
  rcases Int.lt_or_le 0 (a * a + b * b) with x | x
  · exact x
  · exfalso
    have q1 : a * a = 0 := by omega
    have q2 : b * b = 0 := by omega
    exact h ⟨by rcases Int.mul_eq_zero.1 q1 with x | x <;> exact x, by rcases Int.mul_eq_zero.1 q2 with x | x <;> exact x⟩
theorem classF_own {ax ay : Int} (h1 : -4095 ≤ ax ∧ ax ≤ 4095) (h2 : -4095 ≤ ay ∧ ay ≤ 4095) (hz : ¬ (ax = 0 ∧ ay = 0)) : classF ax ay ax ay = 1 := by
  rcases classF_in h1 h2 h1 h2 with ⟨z, _⟩ | ⟨_, e⟩
  · omega
  · rw [e]
    have hp := sq_pos hz
    have hc : ax * ay - ay * ax = 0 := by grind
    exact (cls1 (by omega)).symm
theorem classF_opp {ax ay : Int} (h1 : -4095 ≤ ax ∧ ax ≤ 4095) (h2 : -4095 ≤ ay ∧ ay ≤ 4095) (hz : ¬ (ax = 0 ∧ ay = 0)) : classF ax ay (-ax) (-ay) = 5 := by
  rcases classF_in (bx := -ax) (by_ := -ay) h1 h2 (by omega) (by omega) with ⟨z, _⟩ | ⟨_, e⟩
  · omega
  · rw [e]
    have hp := sq_pos hz
    have hc : ax * -ay - ay * -ax = 0 := by grind
    have hd : ax * -ax + ay * -ay = -(ax * ax + ay * ay) := by grind
    exact (cls5 (by omega)).symm
theorem classF_zero {ax ay bx by_ : Int} (hz : ax = 0 ∧ ay = 0) : classF ax ay bx by_ = 0 := by unfold classF; rw [if_pos]; simp only [hz, and_self, true_or, or_true]
end Go.Proofs.Ytkkaidliocadnaa
