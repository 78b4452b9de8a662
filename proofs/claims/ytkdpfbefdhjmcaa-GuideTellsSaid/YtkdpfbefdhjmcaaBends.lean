/- Bends: Bend, BendPlain, BendOf, BendRef, ClassRef, Bend4, one behind the other. -/
import Derived.Test.YtkdpfbefdhjmcaaKit
import Derived.Test.YtkdpfbefdhjmcaaAccess
import Derived.Test.YtkdpfbefdhjmcaaTownMem
import Derived.Deep.RegionHeld3
/- bend.Class, bend.Mirror, and bend.Of of no graph: what each call comes to, and the plain laws of the classes. -/
namespace Go.Proofs.Ytkdpfbefdhjmcaa
open Go.RowKit
def farB (n : Int) : Bool := decide (n < -4095) || decide (4095 < n)
theorem farB_no {n : Int} (h : farB n = false) : -4095 ≤ n ∧ n ≤ 4095 := by simp [farB] at h; omega
theorem farB_in {n : Int} (h0 : -4095 ≤ n) (h1 : n ≤ 4095) : farB n = false := by simp [farB]; omega
set_option maxHeartbeats 400000 in
theorem far_any (n : Int) (w : World) : Calls Try.prog 80 #[.int .i64 n] w fun e w' => e = .returned (.bool (farB n)) ∧ w = w' := by
  by_cases h : n < -4095 <;> by_cases h2 : 4095 < n
  all_goals
    go_enter Try.func80, Try.ntmps80
    go_wp2
    go_ret
    exact ⟨by simp [farB, h, h2], rfl⟩
def mirI (c : Int) : Int := if c = 2 ∨ c = 3 ∨ c = 4 then c + 4 else if c = 6 ∨ c = 7 ∨ c = 8 then c - 4 else c
set_option maxHeartbeats 1000000 in
theorem mirror_any (c : Int) (w : World) : Calls Try.prog 81 #[.int .i64 c] w fun e w' => e = .returned (.int .i64 (mirI c)) ∧ w = w' := by
  by_cases h : c = 2 ∨ c = 3 ∨ c = 4 ∨ c = 6 ∨ c = 7 ∨ c = 8
  · rcases h with rfl | rfl | rfl | rfl | rfl | rfl
    all_goals
      go_enter Try.func81, Try.ntmps81
      go_wp2
      go_ret
      exact ⟨rfl, rfl⟩
  · have h2 : (c == 2) = false := by simp; omega
    have h3 : (c == 3) = false := by simp; omega
    have h4 : (c == 4) = false := by simp; omega
    have h6 : (c == 6) = false := by simp; omega
    have h7 : (c == 7) = false := by simp; omega
    have h8 : (c == 8) = false := by simp; omega
    have hm : mirI c = c := by unfold mirI; rw [if_neg (by omega), if_neg (by omega)]
    have H := Lib.hid hm; clear hm h
    go_enter Try.func81, Try.ntmps81
    go_wp2
    go_ret
    exact ⟨ret_int H.out.symm, rfl⟩
def clsI (c d : Int) : Int :=
  if 0 < d ∧ 4 * c ≤ d ∧ -(4 * c) ≤ d then 1
  else if d < 0 ∧ 4 * c ≤ -d ∧ -(4 * c) ≤ -d then 5
  else if 0 ≤ c then (if 0 < d ∧ c ≤ d then 2 else if d < 0 ∧ c ≤ -d then 4 else 3)
  else (if 0 < d ∧ -c ≤ d then 6 else if d < 0 ∧ -c ≤ -d then 8 else 7)
theorem mul_bd {a b : Int} (h1 : -4095 ≤ a ∧ a ≤ 4095) (h2 : -4095 ≤ b ∧ b ≤ 4095) : -16769025 ≤ a * b ∧ a * b ≤ 16769025 := by
  have e1 : a.natAbs ≤ 4095 := by omega
  have e2 : b.natAbs ≤ 4095 := by omega
  have e3 : (a * b).natAbs ≤ 4095 * 4095 := by rw [Int.natAbs_mul]; exact Nat.mul_le_mul e1 e2
  omega
theorem abs_ite (c : Int) : (c < 0 ∧ (if c < -c then -c else c) = -c) ∨ (0 ≤ c ∧ (if c < -c then -c else c) = c) := by split <;> omega
theorem cls1 {c d : Int} (h : 0 < d ∧ 4 * c ≤ d ∧ -(4 * c) ≤ d) : (1 : Int) = clsI c d := by unfold clsI; rw [if_pos h]
theorem cls5 {c d : Int} (h : d < 0 ∧ 4 * c ≤ -d ∧ -(4 * c) ≤ -d) : (5 : Int) = clsI c d := by unfold clsI; rw [if_neg (by omega), if_pos h]
theorem cls2 {c d : Int} (h : 0 ≤ c ∧ 0 < d ∧ d < 4 * c ∧ c ≤ d) : (2 : Int) = clsI c d := by unfold clsI; rw [if_neg (by omega), if_neg (by omega), if_pos h.1, if_pos (by omega)]
theorem cls4 {c d : Int} (h : 0 ≤ c ∧ d < 0 ∧ -d < 4 * c ∧ c ≤ -d) : (4 : Int) = clsI c d := by unfold clsI; rw [if_neg (by omega), if_neg (by omega), if_pos h.1, if_neg (by omega), if_pos (by omega)]
theorem cls3 {c d : Int} (h : 0 ≤ c ∧ (d = 0 ∨ (d < c ∧ -d < c))) : (3 : Int) = clsI c d := by unfold clsI; rw [if_neg (by omega), if_neg (by omega), if_pos h.1, if_neg (by omega), if_neg (by omega)]
theorem cls6 {c d : Int} (h : c < 0 ∧ 0 < d ∧ d < -(4 * c) ∧ -c ≤ d) : mirI 2 = clsI c d := by show (6 : Int) = _; unfold clsI; rw [if_neg (by omega), if_neg (by omega), if_neg (by omega), if_pos (by omega)]
theorem cls8 {c d : Int} (h : c < 0 ∧ d < 0 ∧ -d < -(4 * c) ∧ -c ≤ -d) : mirI 4 = clsI c d := by show (8 : Int) = _; unfold clsI; rw [if_neg (by omega), if_neg (by omega), if_neg (by omega), if_neg (by omega), if_pos (by omega)]
theorem cls7 {c d : Int} (h : c < 0 ∧ (d = 0 ∨ (d < -c ∧ -d < -c))) : mirI 3 = clsI c d := by show (7 : Int) = _; unfold clsI; rw [if_neg (by omega), if_neg (by omega), if_neg (by omega), if_neg (by omega), if_neg (by omega)]
inductive Out (ax ay bx by_ : Int) : Prop where
  | f1 (h : farB ax = true)
  | f2 (h1 : farB ax = false) (h : farB ay = true)
  | f3 (h1 : farB ax = false) (h2 : farB ay = false) (h : farB bx = true)
  | f4 (h1 : farB ax = false) (h2 : farB ay = false) (h3 : farB bx = false) (h : farB by_ = true)
  | z1 (h1 : farB ax = false) (h2 : farB ay = false) (h3 : farB bx = false) (h4 : farB by_ = false) (h : ax = 0) (h' : ay = 0)
  | z2 (h1 : farB ax = false) (h2 : farB ay = false) (h3 : farB bx = false) (h4 : farB by_ = false) (hz : ¬ (ax = 0 ∧ ay = 0)) (h : bx = 0) (h' : by_ = 0)
set_option maxHeartbeats 1000000 in
theorem class_no (ax ay bx by_ : Int) (w : World) (h : Out ax ay bx by_) : Calls Try.prog 78 #[.int .i64 ax, .int .i64 ay, .int .i64 bx, .int .i64 by_] w fun e w' => e = .returned (.int .i64 0) ∧ w = w' := by
  rcases h with h1 | ⟨h1, h2⟩ | ⟨h1, h2, h3⟩ | ⟨h1, h2, h3, h4⟩ | ⟨h1, h2, h3, h4, rfl, rfl⟩ | ⟨h1, h2, h3, h4, h5, rfl, rfl⟩
  case z2 =>
    by_cases hx : ax = 0
    · subst hx
      have hy : (ay == 0) = false := by simpa using h5
      clear h5
      go_enter Try.func78, Try.ntmps78
      go_wp2_with (go_at_call 80; refine (far_any _ _).mono ?_; rintro e w' ⟨rfl, rfl⟩)
      go_ret
      exact ⟨rfl, rfl⟩
    · have hx : (ax == 0) = false := by simpa using hx
      clear h5
      go_enter Try.func78, Try.ntmps78
      go_wp2_with (go_at_call 80; refine (far_any _ _).mono ?_; rintro e w' ⟨rfl, rfl⟩)
      go_ret
      exact ⟨rfl, rfl⟩
  all_goals
    go_enter Try.func78, Try.ntmps78
    go_wp2_with (go_at_call 80; refine (far_any _ _).mono ?_; rintro e w' ⟨rfl, rfl⟩)
    go_ret
    exact ⟨rfl, rfl⟩
set_option maxHeartbeats 1000000 in
theorem class_in (ax ay bx by_ : Int) (w : World) (h1 : farB ax = false) (h2 : farB ay = false) (h3 : farB bx = false) (h4 : farB by_ = false) (ha : ((ax == 0) = false ∨ (ay == 0) = false)) (hb : ((bx == 0) = false ∨ (by_ == 0) = false))
    (a1 : -16769025 ≤ ax * by_) (a2 : ax * by_ ≤ 16769025) (b1 : -16769025 ≤ ay * bx) (b2 : ay * bx ≤ 16769025) (c1 : -16769025 ≤ ax * bx) (c2 : ax * bx ≤ 16769025) (d1 : -16769025 ≤ ay * by_) (d2 : ay * by_ ≤ 16769025)
    : Calls Try.prog 78 #[.int .i64 ax, .int .i64 ay, .int .i64 bx, .int .i64 by_] w fun e w' => e = .returned (.int .i64 (clsI (ax * by_ - ay * bx) (ax * bx + ay * by_))) ∧ w = w' := by
  rcases Bool.eq_false_or_eq_true (ax == 0) with xa | xa <;> rcases Bool.eq_false_or_eq_true (bx == 0) with xb | xb
  all_goals (first | (have ya : (ay == 0) = false := by simpa [xa] using ha) | skip)
  all_goals (first | (have yb : (by_ == 0) = false := by simpa [xb] using hb) | skip)
  all_goals
    clear ha hb
    go_enter Try.func78, Try.ntmps78
    go_wp2_with (first | (go_at_call 80; refine (far_any _ _).mono ?_; rintro e w' ⟨rfl, rfl⟩) | (go_at_call 81; refine (mirror_any _ _).mono ?_; rintro e w' ⟨rfl, rfl⟩))
  all_goals (have ha := abs_ite (ax * by_ - ay * bx); go_ret; refine ⟨ret_int ?_, rfl⟩; first | exact cls1 (by omega) | exact cls5 (by omega) | exact cls2 (by omega) | exact cls4 (by omega) | exact cls6 (by omega) | exact cls8 (by omega) | exact cls3 (by omega) | exact cls7 (by omega))
/-- the class of two ways -/
def classF (ax ay bx by_ : Int) : Int :=
  if farB ax = true ∨ farB ay = true ∨ farB bx = true ∨ farB by_ = true ∨ (ax = 0 ∧ ay = 0) ∨ (bx = 0 ∧ by_ = 0) then 0 else clsI (ax * by_ - ay * bx) (ax * bx + ay * by_)
theorem class_any (ax ay bx by_ : Int) (w : World) : Calls Try.prog 78 #[.int .i64 ax, .int .i64 ay, .int .i64 bx, .int .i64 by_] w fun e w' => e = .returned (.int .i64 (classF ax ay bx by_)) ∧ w = w' := by
  by_cases h : farB ax = true ∨ farB ay = true ∨ farB bx = true ∨ farB by_ = true ∨ (ax = 0 ∧ ay = 0) ∨ (bx = 0 ∧ by_ = 0)
  · have e : classF ax ay bx by_ = 0 := by unfold classF; rw [if_pos h]
    rw [e]
    refine class_no ax ay bx by_ w ?_
    cases h1 : farB ax
    · cases h2 : farB ay
      · cases h3 : farB bx
        · cases h4 : farB by_
          · by_cases hz : ax = 0 ∧ ay = 0
            · exact .z1 h1 h2 h3 h4 hz.1 hz.2
            · simp only [h1, h2, h3, h4, hz, Bool.false_eq_true, false_or] at h
              exact .z2 h1 h2 h3 h4 hz h.1 h.2
          · exact .f4 h1 h2 h3 h4
        · exact .f3 h1 h2 h3
      · exact .f2 h1 h2
    · exact .f1 h1
  · have e : classF ax ay bx by_ = clsI (ax * by_ - ay * bx) (ax * bx + ay * by_) := by unfold classF; rw [if_neg h]
    rw [e]
    simp only [not_or, Bool.not_eq_true] at h
    obtain ⟨h1, h2, h3, h4, h5, h6⟩ := h
    have b1 := farB_no h1
    have b2 := farB_no h2
    have b3 := farB_no h3
    have b4 := farB_no h4
    refine class_in ax ay bx by_ w h1 h2 h3 h4 ?_ ?_ (mul_bd b1 b4).1 (mul_bd b1 b4).2 (mul_bd b2 b3).1 (mul_bd b2 b3).2 (mul_bd b1 b3).1 (mul_bd b1 b3).2 (mul_bd b2 b4).1 (mul_bd b2 b4).2
    · simp only [beq_eq_false_iff_ne]; omega
    · simp only [beq_eq_false_iff_ne]; omega
set_option maxHeartbeats 1000000 in
theorem edges_nil (w : World) : Calls Try.prog 19 #[.pointer none] w fun e w' => e = .returned (.int .i64 0) ∧ w = w' := by
  go_enter Try.func19, Try.ntmps19
  go_wp2
  go_ret
  exact ⟨rfl, rfl⟩
set_option maxHeartbeats 1000000 in
theorem nodes_nil (w : World) : Calls Try.prog 18 #[.pointer none] w fun e w' => e = .returned (.int .i64 0) ∧ w = w' := by
  go_enter Try.func18, Try.ntmps18
  go_wp2
  go_ret
  exact ⟨rfl, rfl⟩
set_option maxHeartbeats 1000000 in
theorem edge_nil (i : Int) (w : World) : Calls Try.prog 23 #[.pointer none, .int .i64 i] w fun e w' => e = .returned (.tuple #[.agg #[.int .i64 0, .int .i64 0, .int .i64 0], .bool false]) ∧ Below w.heap.size w w' := by
  by_cases h : i < 0
  all_goals
    go_enter Try.func23, Try.ntmps23
    go_wp2_with (go_at_call 19; refine (edges_nil _).mono ?_; rintro e w' ⟨rfl, rfl⟩)
    exact bodyPost_ret (v := .tuple #[.agg #[.int .i64 0, .int .i64 0, .int .i64 0], .bool false]) (by simp [results, Try.results23, go_sem]) rfl ⟨rfl, (Below.refl _ _).alloc (Nat.le_refl _) _⟩
set_option maxHeartbeats 1000000 in
theorem node_nil (i : Int) (w : World) : Calls Try.prog 22 #[.pointer none, .int .i64 i] w fun e w' => e = .returned (.tuple #[.agg #[.int .i64 0, .int .i64 0], .bool false]) ∧ Below w.heap.size w w' := by
  by_cases h : i < 0
  all_goals
    go_enter Try.func22, Try.ntmps22
    go_wp2_with (go_at_call 18; refine (nodes_nil _).mono ?_; rintro e w' ⟨rfl, rfl⟩)
    exact bodyPost_ret (v := .tuple #[.agg #[.int .i64 0, .int .i64 0], .bool false]) (by simp [results, Try.results22, go_sem]) rfl ⟨rfl, (Below.refl _ _).alloc (Nat.le_refl _) _⟩
set_option maxHeartbeats 1000000 in
theorem way_nil (i : Int) (w : World) : Calls Try.prog 77 #[.pointer none, .int .i64 i] w fun e w' => e = .returned (.tuple #[.int .i64 0, .int .i64 0, .bool false]) ∧ Below w.heap.size w w' := by
  go_enter Try.func77, Try.ntmps77
  go_wp2_with fail
  refine (edge_nil _ _).mono ?_
  rintro e w1 ⟨rfl, hb1⟩
  go_wp2_with fail
  refine (node_nil _ _).mono ?_
  rintro e w2 ⟨rfl, hb2⟩
  obtain ⟨hc2, hf2⟩ := bcell hb2
  have hz2 : w1.heap.size < w2.heap.size := by have := hb2.size; simp at this; omega
  go_wp2_with fail
  refine (node_nil _ _).mono ?_
  rintro e w3 ⟨rfl, hb3⟩
  obtain ⟨hc3, hf3⟩ := bcell hb3
  have hz3 : w2.heap.size < w3.heap.size := by have := hb3.size; simp at this; omega
  go_wp2_with fail
  go_quiet (fail)
  go_wp2
  go_ret3
  exact ⟨rfl, by repeat (first | exact Below.refl _ _ | assumption | refine bl_drewN ?_ _ | refine bl_alloc ?_ _ | refine bl_then ?_ (by assumption))⟩
set_option maxHeartbeats 1000000 in
theorem of_nil (i k : Int) (w : World) : Calls Try.prog 73 #[.pointer none, .int .i64 i, .int .i64 k] w fun e w' => e = .returned (.int .i64 0) ∧ Below w.heap.size w w' := by
  go_enter Try.func73, Try.ntmps73
  go_wp2_with fail
  refine (way_nil _ _).mono ?_
  rintro e w1 ⟨rfl, hb1⟩
  go_wp2_with fail
  refine (way_nil _ _).mono ?_
  rintro e w2 ⟨rfl, hb2⟩
  go_wp2_with fail
  go_ret
  exact ⟨rfl, by repeat (first | exact Below.refl _ _ | assumption | refine bl_drewN ?_ _ | refine bl_alloc ?_ _ | refine bl_then ?_ (by assumption))⟩
end Go.Proofs.Ytkdpfbefdhjmcaa
/- The plain laws of the classes: mirrored, turned by a quarter, so many times as long, back; and which class says what of cross and dot. -/
namespace Go.Proofs.Ytkdpfbefdhjmcaa
theorem no_both {a b c d : Int} (h : ¬ (a = 0 ∧ b = 0)) (h' : ¬ (c = 0 ∧ d = 0)) : ¬ (a * d - b * c = 0 ∧ a * c + b * d = 0) := by
  rintro ⟨e1, e2⟩
  have k1 : c * (a * a + b * b) = 0 := by
    have : c * (a * a + b * b) = a * (a * c + b * d) - b * (a * d - b * c) := by grind
    rw [this, e1, e2]; simp
  have k2 : d * (a * a + b * b) = 0 := by
    have : d * (a * a + b * b) = b * (a * c + b * d) + a * (a * d - b * c) := by grind
    rw [this, e1, e2]; simp
  have hp : a * a + b * b ≠ 0 := by
    have p1 : 0 ≤ a * a := by rcases Int.le_total 0 a with x | x; exact Int.mul_nonneg x x; exact Int.mul_nonneg_of_nonpos_of_nonpos x x
    have p2 : 0 ≤ b * b := by rcases Int.le_total 0 b with x | x; exact Int.mul_nonneg x x; exact Int.mul_nonneg_of_nonpos_of_nonpos x x
    intro e
    have q1 : a * a = 0 := by omega
    have q2 : b * b = 0 := by omega
    exact h ⟨by rcases Int.mul_eq_zero.1 q1 with x | x <;> exact x, by rcases Int.mul_eq_zero.1 q2 with x | x <;> exact x⟩
  exact h' ⟨(Int.mul_eq_zero.1 k1).resolve_right hp, (Int.mul_eq_zero.1 k2).resolve_right hp⟩
theorem clsI_neg {c d : Int} (h : ¬ (c = 0 ∧ d = 0)) : clsI (-c) d = mirI (clsI c d) := by
  have hh : ∀ r s, r = clsI (-c) d → s = clsI c d → r = mirI s → clsI (-c) d = mirI (clsI c d) := by rintro r s rfl rfl e; exact e
  by_cases h1 : 0 < d ∧ 4 * c ≤ d ∧ -(4 * c) ≤ d
  · exact hh 1 1 (cls1 (by omega)) (cls1 (by omega)) rfl
  by_cases h5 : d < 0 ∧ 4 * c ≤ -d ∧ -(4 * c) ≤ -d
  · exact hh 5 5 (cls5 (by omega)) (cls5 (by omega)) rfl
  by_cases hc : 0 < c
  · by_cases h2 : 0 < d ∧ c ≤ d
    · exact hh _ 2 (cls6 (by omega)) (cls2 (by omega)) rfl
    by_cases h4 : d < 0 ∧ c ≤ -d
    · exact hh _ 4 (cls8 (by omega)) (cls4 (by omega)) rfl
    exact hh _ 3 (cls7 (by omega)) (cls3 (by omega)) rfl
  · by_cases h2 : 0 < d ∧ -c ≤ d
    · exact hh 2 _ (cls2 (by omega)) (cls6 (by omega)) rfl
    by_cases h4 : d < 0 ∧ -c ≤ -d
    · exact hh 4 _ (cls4 (by omega)) (cls8 (by omega)) rfl
    exact hh 3 _ (cls3 (by omega)) (cls7 (by omega)) rfl
theorem clsI_mul {k c d : Int} (hk : 1 ≤ k ∧ k ≤ 9) : clsI (k * c) (k * d) = clsI c d := by
  obtain rfl | rfl | rfl | rfl | rfl | rfl | rfl | rfl | rfl : k = 1 ∨ k = 2 ∨ k = 3 ∨ k = 4 ∨ k = 5 ∨ k = 6 ∨ k = 7 ∨ k = 8 ∨ k = 9 := by omega
  all_goals
    unfold clsI
    by_cases h1 : 0 < d ∧ 4 * c ≤ d ∧ -(4 * c) ≤ d
    · rw [if_pos h1, if_pos (by omega)]
    rw [if_neg h1, if_neg (by omega)]
    by_cases h5 : d < 0 ∧ 4 * c ≤ -d ∧ -(4 * c) ≤ -d
    · rw [if_pos h5, if_pos (by omega)]
    rw [if_neg h5, if_neg (by omega)]
    by_cases hc : 0 ≤ c
    · rw [if_pos hc, if_pos (by omega)]
      by_cases h2 : 0 < d ∧ c ≤ d
      · rw [if_pos h2, if_pos (by omega)]
      rw [if_neg h2, if_neg (by omega)]
      by_cases h4 : d < 0 ∧ c ≤ -d
      · rw [if_pos h4, if_pos (by omega)]
      rw [if_neg h4, if_neg (by omega)]
    · rw [if_neg hc, if_neg (by omega)]
      by_cases h2 : 0 < d ∧ -c ≤ d
      · rw [if_pos h2, if_pos (by omega)]
      rw [if_neg h2, if_neg (by omega)]
      by_cases h4 : d < 0 ∧ -c ≤ -d
      · rw [if_pos h4, if_pos (by omega)]
      rw [if_neg h4, if_neg (by omega)]
theorem clsI_range (c d : Int) : clsI c d = 1 ∨ clsI c d = 2 ∨ clsI c d = 3 ∨ clsI c d = 4 ∨ clsI c d = 5 ∨ clsI c d = 6 ∨ clsI c d = 7 ∨ clsI c d = 8 := by
  unfold clsI
  split
  · simp
  · split
    · simp
    · split
      · split
        · simp
        · split <;> simp
      · split
        · simp
        · split <;> simp
theorem mirI_mirI_cls (c d : Int) : mirI (mirI (clsI c d)) = clsI c d := by
  rcases clsI_range c d with h | h | h | h | h | h | h | h <;> rw [h] <;> rfl
theorem classF_in {ax ay bx by_ : Int} (h1 : -4095 ≤ ax ∧ ax ≤ 4095) (h2 : -4095 ≤ ay ∧ ay ≤ 4095) (h3 : -4095 ≤ bx ∧ bx ≤ 4095) (h4 : -4095 ≤ by_ ∧ by_ ≤ 4095) :
    ((ax = 0 ∧ ay = 0) ∨ (bx = 0 ∧ by_ = 0)) ∧ classF ax ay bx by_ = 0 ∨ (¬ (ax = 0 ∧ ay = 0) ∧ ¬ (bx = 0 ∧ by_ = 0)) ∧ classF ax ay bx by_ = clsI (ax * by_ - ay * bx) (ax * bx + ay * by_) := by
  have e1 := farB_in h1.1 h1.2
  have e2 := farB_in h2.1 h2.2
  have e3 := farB_in h3.1 h3.2
  have e4 := farB_in h4.1 h4.2
  by_cases hz : (ax = 0 ∧ ay = 0) ∨ (bx = 0 ∧ by_ = 0)
  · left; refine ⟨hz, ?_⟩; unfold classF; rw [if_pos]; simp only [hz, or_true]
  · right
    rw [not_or] at hz
    refine ⟨hz, ?_⟩
    unfold classF
    rw [if_neg]
    simp only [e1, e2, e3, e4, hz.1, hz.2, Bool.false_eq_true, or_self, not_false_eq_true]
theorem classF_mirror {ax ay bx by_ : Int} (h1 : -4095 ≤ ax ∧ ax ≤ 4095) (h2 : -4095 ≤ ay ∧ ay ≤ 4095) (h3 : -4095 ≤ bx ∧ bx ≤ 4095) (h4 : -4095 ≤ by_ ∧ by_ ≤ 4095) :
    classF ax (-ay) bx (-by_) = mirI (classF ax ay bx by_) := by
  rcases classF_in (ax := ax) (ay := -ay) (bx := bx) (by_ := -by_) h1 (by omega) h3 (by omega) with ⟨z, e⟩ | ⟨z, e⟩ <;> rcases classF_in h1 h2 h3 h4 with ⟨z', e'⟩ | ⟨z', e'⟩
  · rw [e, e']; rfl
  · exfalso; omega
  · exfalso; omega
  · rw [e, e', ← clsI_neg (no_both z'.1 z'.2)]
    congr 1
    · grind
    · grind
theorem classF_quarter {ax ay bx by_ : Int} (h1 : -4095 ≤ ax ∧ ax ≤ 4095) (h2 : -4095 ≤ ay ∧ ay ≤ 4095) (h3 : -4095 ≤ bx ∧ bx ≤ 4095) (h4 : -4095 ≤ by_ ∧ by_ ≤ 4095) :
    classF (-ay) ax (-by_) bx = classF ax ay bx by_ := by
  rcases classF_in (ax := -ay) (ay := ax) (bx := -by_) (by_ := bx) (by omega) h1 (by omega) h3 with ⟨z, e⟩ | ⟨z, e⟩ <;> rcases classF_in h1 h2 h3 h4 with ⟨z', e'⟩ | ⟨z', e'⟩
  · rw [e, e']
  · exfalso; omega
  · exfalso; omega
  · rw [e, e']
    congr 1
    · grind
    · grind
theorem mul_zero_iff {k a : Int} (hk : 1 ≤ k) : k * a = 0 ↔ a = 0 := by
  constructor
  · intro h; rcases Int.mul_eq_zero.1 h with x | x; omega; exact x
  · rintro rfl; simp
theorem mul_in {k a : Int} (hk : 1 ≤ k ∧ k ≤ 9) (ha : -400 ≤ a ∧ a ≤ 400) : -3600 ≤ k * a ∧ k * a ≤ 3600 := by
  obtain rfl | rfl | rfl | rfl | rfl | rfl | rfl | rfl | rfl : k = 1 ∨ k = 2 ∨ k = 3 ∨ k = 4 ∨ k = 5 ∨ k = 6 ∨ k = 7 ∨ k = 8 ∨ k = 9 := by omega
  all_goals omega
theorem classF_long {k ax ay bx by_ : Int} (hk : 1 ≤ k ∧ k ≤ 9) (h1 : -400 ≤ ax ∧ ax ≤ 400) (h2 : -400 ≤ ay ∧ ay ≤ 400) (h3 : -400 ≤ bx ∧ bx ≤ 400) (h4 : -400 ≤ by_ ∧ by_ ≤ 400) :
    classF (k * ax) (k * ay) bx by_ = classF ax ay bx by_ := by
  have m1 := mul_in hk h1
  have m2 := mul_in hk h2
  have z1 := mul_zero_iff (a := ax) hk.1
  have z2 := mul_zero_iff (a := ay) hk.1
  rcases classF_in (ax := k * ax) (ay := k * ay) (bx := bx) (by_ := by_) (by omega) (by omega) (by omega) (by omega) with ⟨z, e⟩ | ⟨z, e⟩ <;> rcases classF_in (ax := ax) (ay := ay) (bx := bx) (by_ := by_) (by omega) (by omega) (by omega) (by omega) with ⟨z', e'⟩ | ⟨z', e'⟩
  · rw [e, e']
  · exfalso; rw [z1, z2] at z; omega
  · exfalso; rw [z1, z2] at z; omega
  · rw [e, e', ← clsI_mul (c := ax * by_ - ay * bx) (d := ax * bx + ay * by_) hk]
    congr 1
    · grind
    · grind
theorem classF_long2 {k ax ay bx by_ : Int} (hk : 1 ≤ k ∧ k ≤ 9) (h1 : -400 ≤ ax ∧ ax ≤ 400) (h2 : -400 ≤ ay ∧ ay ≤ 400) (h3 : -400 ≤ bx ∧ bx ≤ 400) (h4 : -400 ≤ by_ ∧ by_ ≤ 400) :
    classF ax ay (k * bx) (k * by_) = classF ax ay bx by_ := by
  have m1 := mul_in hk h3
  have m2 := mul_in hk h4
  have z1 := mul_zero_iff (a := bx) hk.1
  have z2 := mul_zero_iff (a := by_) hk.1
  rcases classF_in (ax := ax) (ay := ay) (bx := k * bx) (by_ := k * by_) (by omega) (by omega) (by omega) (by omega) with ⟨z, e⟩ | ⟨z, e⟩ <;> rcases classF_in (ax := ax) (ay := ay) (bx := bx) (by_ := by_) (by omega) (by omega) (by omega) (by omega) with ⟨z', e'⟩ | ⟨z', e'⟩
  · rw [e, e']
  · exfalso; rw [z1, z2] at z; omega
  · exfalso; rw [z1, z2] at z; omega
  · rw [e, e', ← clsI_mul (c := ax * by_ - ay * bx) (d := ax * bx + ay * by_) hk]
    congr 1
    · grind
    · grind
theorem classF_mir2 {ax ay bx by_ : Int} (h1 : -4095 ≤ ax ∧ ax ≤ 4095) (h2 : -4095 ≤ ay ∧ ay ≤ 4095) (h3 : -4095 ≤ bx ∧ bx ≤ 4095) (h4 : -4095 ≤ by_ ∧ by_ ≤ 4095) : mirI (mirI (classF ax ay bx by_)) = classF ax ay bx by_ := by
  rcases classF_in h1 h2 h3 h4 with ⟨_, e⟩ | ⟨_, e⟩
  · rw [e]; rfl
  · rw [e]; exact mirI_mirI_cls _ _
theorem classF_back {ax ay bx by_ : Int} (h1 : -4095 ≤ ax ∧ ax ≤ 4095) (h2 : -4095 ≤ ay ∧ ay ≤ 4095) (h3 : -4095 ≤ bx ∧ bx ≤ 4095) (h4 : -4095 ≤ by_ ∧ by_ ≤ 4095) :
    classF (-bx) (-by_) (-ax) (-ay) = mirI (classF ax ay bx by_) := by
  rcases classF_in (ax := -bx) (ay := -by_) (bx := -ax) (by_ := -ay) (by omega) (by omega) (by omega) (by omega) with ⟨z, e⟩ | ⟨z, e⟩ <;> rcases classF_in h1 h2 h3 h4 with ⟨z', e'⟩ | ⟨z', e'⟩
  · rw [e, e']; rfl
  · exfalso; omega
  · exfalso; omega
  · rw [e, e', ← clsI_neg (no_both z'.1 z'.2)]
    congr 1
    · grind
    · grind
theorem sq_pos {a b : Int} (h : ¬ (a = 0 ∧ b = 0)) : 0 < a * a + b * b := by
  have p1 : 0 ≤ a * a := by rcases Int.le_total 0 a with x | x; exact Int.mul_nonneg x x; exact Int.mul_nonneg_of_nonpos_of_nonpos x x
  have p2 : 0 ≤ b * b := by rcases Int.le_total 0 b with x | x; exact Int.mul_nonneg x x; exact Int.mul_nonneg_of_nonpos_of_nonpos x x
  rcases Int.lt_or_le 0 (a * a + b * b) with x | x
  · exact x
  · exfalso
    have q1 : a * a = 0 := by omega
    have q2 : b * b = 0 := by omega
    exact h ⟨by rcases Int.mul_eq_zero.1 q1 with x | x <;> exact x, by rcases Int.mul_eq_zero.1 q2 with x | x <;> exact x⟩
theorem classF_own {ax ay : Int} (h1 : -4095 ≤ ax ∧ ax ≤ 4095) (h2 : -4095 ≤ ay ∧ ay ≤ 4095) (hz : ¬ (ax = 0 ∧ ay = 0)) : classF ax ay ax ay = 1 := by
  rcases classF_in h1 h2 h1 h2 with ⟨z, _⟩ | ⟨_, e⟩
  · omega
  · rw [e]
    have hp := sq_pos hz
    have hc : ax * ay - ay * ax = 0 := by grind
    exact (cls1 (by omega)).symm
theorem classF_opp {ax ay : Int} (h1 : -4095 ≤ ax ∧ ax ≤ 4095) (h2 : -4095 ≤ ay ∧ ay ≤ 4095) (hz : ¬ (ax = 0 ∧ ay = 0)) : classF ax ay (-ax) (-ay) = 5 := by
  rcases classF_in (bx := -ax) (by_ := -ay) h1 h2 (by omega) (by omega) with ⟨z, _⟩ | ⟨_, e⟩
  · omega
  · rw [e]
    have hp := sq_pos hz
    have hc : ax * -ay - ay * -ax = 0 := by grind
    have hd : ax * -ax + ay * -ay = -(ax * ax + ay * ay) := by grind
    exact (cls5 (by omega)).symm
theorem classF_zero {ax ay bx by_ : Int} (hz : ax = 0 ∧ ay = 0) : classF ax ay bx by_ = 0 := by unfold classF; rw [if_pos]; simp only [hz, and_self, true_or, or_true]
end Go.Proofs.Ytkdpfbefdhjmcaa
/- bend.Of over a graph. -/
set_option linter.unusedVariables false
set_option linter.unusedSimpArgs false
namespace Go.Proofs.Ytkdpfbefdhjmcaa
open Go.ChangeShapes Go.WideShapes Go.ChangeAt Go.RowKit
theorem nodeT_bd {ns bs : List (Int × Int)} {es : List (Int × Int × Int)} (h : mayB ns es bs = true) (i : Int) : (0 ≤ (nodeT ns i).1 ∧ (nodeT ns i).1 ≤ 4095) ∧ 0 ≤ (nodeT ns i).2 ∧ (nodeT ns i).2 ≤ 4095 := by
  unfold nodeT
  split
  · rename_i hi
    unfold inB at hi
    simp only [Bool.and_eq_true, decide_eq_true_eq] at hi
    unfold mayB at h
    simp only [Bool.and_eq_true] at h
    obtain ⟨⟨⟨_, h2⟩, _⟩, _⟩ := h
    have hk : i.toNat < ns.length := by omega
    have e : ns.getD i.toNat (0, 0) = ns[i.toNat] := by rw [List.getD_eq_getElem?_getD, List.getElem?_eq_getElem hk]; rfl
    have := List.all_eq_true.1 h2 _ (List.getElem_mem hk)
    rw [e]
    unfold nodeOk inB at this
    simp only [Bool.and_eq_true, decide_eq_true_eq] at this
    omega
  · exact ⟨⟨by decide, by decide⟩, by decide, by decide⟩
def wayX (ns : List (Int × Int)) (es : List (Int × Int × Int)) (i : Int) : Int := (nodeT ns (edgeT es i).2.1).1 - (nodeT ns (edgeT es i).1).1
def wayY (ns : List (Int × Int)) (es : List (Int × Int × Int)) (i : Int) : Int := (nodeT ns (edgeT es i).2.1).2 - (nodeT ns (edgeT es i).1).2
set_option maxRecDepth 100000 in
set_option maxHeartbeats 4000000 in
theorem way_at {w : World} {B E p : Nat} {ns bs : List (Int × Int)} {es : List (Int × Int × Int)} (h : GraphAt w B E p ns es bs) (i : Int) : Calls Try.prog 77 #[.pointer (some ⟨p, 0, none⟩), .int .i64 i] w fun e w' =>
    e = .returned (.tuple #[.int .i64 (wayX ns es i), .int .i64 (wayY ns es i), .bool (inB 0 i ((es.length : Int) - 1))]) ∧ Below w.heap.size w w' := by
  have hm : mayB ns es bs = true := by obtain ⟨d, hd⟩ := h; exact hd.ok
  obtain ⟨⟨u1, u2⟩, u3, u4⟩ := nodeT_bd hm (edgeT es i).1
  obtain ⟨⟨v1, v2⟩, v3, v4⟩ := nodeT_bd hm (edgeT es i).2.1
  have HG := Lib.hid h
  unfold wayX wayY
  have he := edge_at h i
  obtain ⟨x, hx⟩ : ∃ x, x = edgeT es i := ⟨_, rfl⟩
  rw [← hx] at he u1 u2 u3 u4 v1 v2 v3 v4 ⊢
  obtain ⟨e0, e1, e2⟩ := x
  dsimp only at he u1 u2 u3 u4 v1 v2 v3 v4 ⊢
  have hn0 : ∀ w2, Below w.heap.size w w2 → Calls Try.prog 22 #[.pointer (some ⟨p, 0, none⟩), .int .i64 e0] w2 fun e w' => e = .returned (.tuple #[.agg #[.int .i64 (nodeT ns e0).1, .int .i64 (nodeT ns e0).2], .bool (inB 0 e0 ((ns.length : Int) - 1))]) ∧ Below w2.heap.size w2 w' := fun w2 hb => node_at (HG.out.below hb) e0
  have hn1 : ∀ w2, Below w.heap.size w w2 → Calls Try.prog 22 #[.pointer (some ⟨p, 0, none⟩), .int .i64 e1] w2 fun e w' => e = .returned (.tuple #[.agg #[.int .i64 (nodeT ns e1).1, .int .i64 (nodeT ns e1).2], .bool (inB 0 e1 ((ns.length : Int) - 1))]) ∧ Below w2.heap.size w2 w' := fun w2 hb => node_at (HG.out.below hb) e1
  obtain ⟨n0, hn0e⟩ : ∃ x, x = nodeT ns e0 := ⟨_, rfl⟩
  obtain ⟨n1, hn1e⟩ : ∃ x, x = nodeT ns e1 := ⟨_, rfl⟩
  rw [← hn0e] at u1 u2 u3 u4 hn0 ⊢
  rw [← hn1e] at v1 v2 v3 v4 hn1 ⊢
  obtain ⟨x0, y0⟩ := n0
  obtain ⟨x1, y1⟩ := n1
  dsimp only at u1 u2 u3 u4 v1 v2 v3 v4 hn0 hn1 ⊢
  have HE := Lib.hid he
  have HN0 := Lib.hid hn0
  have HN1 := Lib.hid hn1
  clear h hm he hn0 hn1 hx hn0e hn1e
  go_enter Try.func77, Try.ntmps77
  go_wp2_with fail
  refine HE.out.mono ?_
  rintro e w1 ⟨rfl, hb1⟩
  have HB1 := Lib.hid hb1
  have t0 := fun j v hv => cell_three_new (w := w1) (x := .int .i64 e0) (y := .int .i64 e1) (z := .int .i64 e2) (t := 63) j v hv
  have HT := Lib.hid t0
  clear hb1 t0
  go_wp2_with fail
  refine (HN0.out _ (bl_alloc HB1.out _)).mono ?_
  rintro e w2 ⟨rfl, hb2⟩
  have a1 : w2.cell? ⟨w1.heap.size, 1, none⟩ = some (.int .i64 e1) := cell_below (HT.out 1 _ rfl) hb2
  have HB2 : Hid (Below w.heap.size w w2) := Lib.hid ((bl_alloc HB1.out _).trans (hb2.mono (bl_alloc HB1.out _).size))
  have a1b := cell_below a1 (bl_alloc (Below.refl _ _) (.cells #[.int .i64 x0, .int .i64 y0] 59))
  have b0 := cell_two_new0 (w := w2) (x := .int .i64 x0) (y := .int .i64 y0) (t := 59) rfl
  have b1 := cell_two_new1 (w := w2) (x := .int .i64 x0) (y := .int .i64 y0) (t := 59) rfl
  have BB0 := Lib.hid b0
  have BB1 := Lib.hid b1
  clear hb2 b0 b1 HT
  go_wp2_with fail
  refine (HN1.out _ (bl_alloc HB2.out _)).mono ?_
  rintro e w3 ⟨rfl, hb3⟩
  have c0 := cell_below (cell_below BB0.out hb3) (bl_alloc (Below.refl _ _) (.cells #[.int .i64 x1, .int .i64 y1] 59))
  have c1 := cell_below (cell_below BB1.out hb3) (bl_alloc (Below.refl _ _) (.cells #[.int .i64 x1, .int .i64 y1] 59))
  have HB3 : Hid (Below w.heap.size w w3) := Lib.hid ((bl_alloc HB2.out _).trans (hb3.mono (bl_alloc HB2.out _).size))
  clear hb3 a1 a1b
  go_wp2_with fail
  go_quiet (fail)
  go_wp2_with fail
  go_ret3
  exact ⟨rfl, bl_drewN (bl_alloc HB3.out _) _⟩
def bendT (ns : List (Int × Int)) (es : List (Int × Int × Int)) (a b : Int) : Int := if inB 0 a ((es.length : Int) - 1) && inB 0 b ((es.length : Int) - 1) then classF (wayX ns es a) (wayY ns es a) (wayX ns es b) (wayY ns es b) else 0
set_option maxRecDepth 100000 in
set_option maxHeartbeats 4000000 in
theorem of_at {w : World} {B E p : Nat} {ns bs : List (Int × Int)} {es : List (Int × Int × Int)} (h : GraphAt w B E p ns es bs) (a b : Int) : Calls Try.prog 73 #[.pointer (some ⟨p, 0, none⟩), .int .i64 a, .int .i64 b] w fun e w' =>
    e = .returned (.int .i64 (bendT ns es a b)) ∧ Below w.heap.size w w' := by
  have HG := Lib.hid h
  unfold bendT
  cases ha : inB 0 a ((es.length : Int) - 1) <;> cases hb : inB 0 b ((es.length : Int) - 1)
  all_goals
    have HA := Lib.hid ha
    have HB := Lib.hid hb
    clear ha hb
    go_enter Try.func73, Try.ntmps73
    go_wp2_with fail
    refine (way_at HG.out a).mono ?_
    rw [HA.out]
    rintro e w1 ⟨rfl, hb1⟩
    have HB1 := Lib.hid hb1
    clear hb1
    go_wp2_with fail
    refine (way_at (HG.out.below HB1.out) b).mono ?_
    rw [HB.out]
    rintro e w2 ⟨rfl, hb2⟩
    have HB2 : Hid (Below w.heap.size w w2) := Lib.hid (HB1.out.trans (hb2.mono HB1.out.size))
    clear hb2
    go_wp2_with (go_at_call 78; refine (class_any _ _ _ _ _).mono ?_; rintro e w' ⟨rfl, rfl⟩)
    go_ret
    exact ⟨by simp, HB2.out⟩
end Go.Proofs.Ytkdpfbefdhjmcaa
/- The document's own answer of chapter 9. -/
set_option linter.unusedVariables false
set_option linter.unusedSimpArgs false
namespace Go.Proofs.Ytkdpfbefdhjmcaa
open Go.ChangeShapes Go.WideShapes Go.ChangeAt Go.RowKit
theorem within4_any (n a b : Int) (w : World) : Calls Try.prog 50 #[.int .i64 n, .int .i64 a, .int .i64 b] w fun e w' => e = .returned (.bool (inB a n b)) ∧ w = w' := by
  unfold inB
  by_cases h1 : a ≤ n <;> by_cases h2 : n ≤ b
  all_goals
    go_enter Try.func50, Try.ntmps50
    go_wp2
    go_ret
    exact ⟨by simp [h1, h2], rfl⟩
theorem far4_any (n : Int) (w : World) (h : -16769025000 ≤ n ∧ n ≤ 16769025000) : Calls Try.prog 79 #[.int .i64 n] w fun e w' => e = .returned (.int .i64 (if n < 0 then -n else n)) ∧ w = w' := by
  obtain ⟨h1, h2⟩ := h
  by_cases h3 : n < 0
  all_goals
    simp only [h3, if_true, if_false]
    go_enter Try.func79, Try.ntmps79
    go_wp2
    go_ret
    exact ⟨rfl, rfl⟩
set_option maxHeartbeats 2000000 in
set_option maxRecDepth 100000 in
theorem edge4_any {A1 A2 A3 : Option Addr} {n1 c1 n2 c2 n3 c3 : Nat} (h : n2 ≤ maxLen) (i : Int) (w : World) :
    Calls Try.prog 25 #[.agg #[.slice A1 n1 c1, .slice A2 n2 c2, .slice A3 n3 c3], .int .i64 i] w fun e w' => e = .returned (.bool (inB 0 i ((n2 : Int) - 1))) ∧ Below w.heap.size w w' := by
  unfold maxLen at h
  have g2 : n2 ≤ 9223372036854775807 := by omega
  clear h
  go_enter Try.func25, Try.ntmps25
  go_wp2_with fail
  refine (within4_any _ _ _ _).mono ?_
  rintro e w' ⟨rfl, rfl⟩
  go_wp2_with fail
  go_ret
  exact ⟨rfl, bl_alloc (Below.refl _ _) _⟩
end Go.Proofs.Ytkdpfbefdhjmcaa
/- milepostref4.Class. -/
set_option linter.unusedVariables false
set_option linter.unusedSimpArgs false
namespace Go.Proofs.Ytkdpfbefdhjmcaa
open Go.ChangeShapes Go.WideShapes Go.ChangeAt Go.RowKit
theorem far_inB (x : Int) : inB (-4095) x 4095 = !farB x := by
  unfold inB farB
  by_cases h1 : x < -4095 <;> by_cases h2 : 4095 < x <;> simp [h1, h2] <;> omega
theorem within4_is {n a b : Int} {r : Bool} (h : inB a n b = r) (w : World) : Calls Try.prog 50 #[.int .i64 n, .int .i64 a, .int .i64 b] w fun e w' => e = .returned (.bool r) ∧ w = w' := by
  rw [← h]; exact within4_any n a b w
theorem far4_pos {n : Int} (w : World) (h0 : 0 ≤ n) (h1 : n ≤ 16769025000) : Calls Try.prog 79 #[.int .i64 n] w fun e w' => e = .returned (.int .i64 n) ∧ w = w' := by
  have := far4_any n w ⟨by omega, h1⟩
  rwa [if_neg (by omega)] at this
theorem far4_neg {n : Int} (w : World) (h0 : n < 0) (h1 : -16769025000 ≤ n) : Calls Try.prog 79 #[.int .i64 n] w fun e w' => e = .returned (.int .i64 (-n)) ∧ w = w' := by
  have := far4_any n w ⟨h1, by omega⟩
  rwa [if_pos h0] at this
theorem cls7b {c d : Int} (h : c < 0 ∧ ¬ (0 < d ∧ 4 * -c ≤ d) ∧ ¬ (d < 0 ∧ 4 * -c ≤ -d) ∧ ¬ (0 < d ∧ -c ≤ d) ∧ ¬ (d < 0 ∧ -c ≤ -d)) : (7 : Int) = clsI c d := by
  unfold clsI; rw [if_neg (by omega), if_neg (by omega), if_neg (by omega), if_neg (by omega), if_neg (by omega)]
set_option maxRecDepth 100000 in
set_option maxHeartbeats 8000000 in
theorem class4_any (ax ay bx by_ : Int) (w : World) : Calls Try.prog 74 #[.int .i64 ax, .int .i64 ay, .int .i64 bx, .int .i64 by_] w fun e w' => e = .returned (.int .i64 (classF ax ay bx by_)) ∧ Below w.heap.size w w' := by
  obtain ⟨W1, hW1⟩ : ∃ W1, W1 = w.alloc (.cells #[.int .i64 ax, .int .i64 ay, .int .i64 bx, .int .i64 by_] 128) := ⟨_, rfl⟩
  have hB : Below w.heap.size w W1 := by rw [hW1]; exact bl_alloc (Below.refl _ _) _
  have hcell : ∀ (j : Nat) v, (#[Value.int .i64 ax, .int .i64 ay, .int .i64 bx, .int .i64 by_] : Array Value)[j]? = some v → W1.cell? ⟨w.heap.size, j, none⟩ = some v := by
    intro j v hv
    have : W1.heap[w.heap.size]? = some (.cells #[.int .i64 ax, .int .i64 ay, .int .i64 bx, .int .i64 by_] 128) := by rw [hW1]; show (w.heap.push _)[w.heap.size]? = _; simp
    exact block_cell this hv
  have c0 : W1.cell? ⟨w.heap.size, 0, none⟩ = some (.int .i64 ax) := hcell 0 _ rfl
  have c1 : W1.cell? ⟨w.heap.size, 1, none⟩ = some (.int .i64 ay) := hcell 1 _ rfl
  have c2 : W1.cell? ⟨w.heap.size, 2, none⟩ = some (.int .i64 bx) := hcell 2 _ rfl
  have c3 : W1.cell? ⟨w.heap.size, 3, none⟩ = some (.int .i64 by_) := hcell 3 _ rfl
  have HB := Lib.hid hB
  have HW := Lib.hid hW1.symm
  clear hcell hB hW1
  go_enter Try.func74, Try.ntmps74
  go_wp2_with fail
  rw [HW.out]
  go_loopg [10] 4 (fun m v wr => ∃ k : Nat, m = 4 - k ∧ k ≤ 4 ∧ v = .int .i64 (k : Nat) ∧ wr = W1 ∧ (0 < k → farB ax = false) ∧ (1 < k → farB ay = false) ∧ (2 < k → farB bx = false) ∧ (3 < k → farB by_ = false))
  case atStart => exact ⟨0, rfl, by omega, rfl, rfl, by omega, by omega, by omega, by omega⟩
  case round =>
    obtain ⟨k, hm, hk, rfl, rfl, h0, h1, h2, h3⟩ := hrel
    match k, hk with
    | 0, _ =>
      cases hf : farB ax
      · have hi : inB (-4095) ax 4095 = true := by rw [far_inB, hf]; rfl
        have HI := Lib.hid hi
        clear hi h0 h1 h2 h3
        go_wp2_with fail
        refine (within4_is HI.out _).mono ?_
        rintro e w' ⟨rfl, rfl⟩
        go_wp2_with fail
        go_roundg 3
        case measure => omega
        case rel => exact ⟨1, rfl, by omega, by go_num, rfl, fun _ => hf, by omega, by omega, by omega⟩
      · have hi : inB (-4095) ax 4095 = false := by rw [far_inB, hf]; rfl
        have HI := Lib.hid hi
        clear hi h0 h1 h2 h3
        go_wp2_with fail
        refine (within4_is HI.out _).mono ?_
        rintro e w' ⟨rfl, rfl⟩
        go_wp2_with fail
        go_ret
        exact ⟨by unfold classF; rw [if_pos (.inl hf)]; rfl, HB.out⟩
    | 1, _ =>
      cases hf : farB ay
      · have hi : inB (-4095) ay 4095 = true := by rw [far_inB, hf]; rfl
        have HI := Lib.hid hi
        have H0 := h0 (by omega)
        clear hi h0 h1 h2 h3
        go_wp2_with fail
        refine (within4_is HI.out _).mono ?_
        rintro e w' ⟨rfl, rfl⟩
        go_wp2_with fail
        go_roundg 2
        case measure => omega
        case rel => exact ⟨2, rfl, by omega, by go_num, rfl, fun _ => H0, fun _ => hf, by omega, by omega⟩
      · have hi : inB (-4095) ay 4095 = false := by rw [far_inB, hf]; rfl
        have HI := Lib.hid hi
        clear hi h0 h1 h2 h3
        go_wp2_with fail
        refine (within4_is HI.out _).mono ?_
        rintro e w' ⟨rfl, rfl⟩
        go_wp2_with fail
        go_ret
        exact ⟨by unfold classF; rw [if_pos (.inr (.inl hf))]; rfl, HB.out⟩
    | 2, _ =>
      cases hf : farB bx
      · have hi : inB (-4095) bx 4095 = true := by rw [far_inB, hf]; rfl
        have HI := Lib.hid hi
        have H0 := h0 (by omega)
        have H1 := h1 (by omega)
        clear hi h0 h1 h2 h3
        go_wp2_with fail
        refine (within4_is HI.out _).mono ?_
        rintro e w' ⟨rfl, rfl⟩
        go_wp2_with fail
        go_roundg 1
        case measure => omega
        case rel => exact ⟨3, rfl, by omega, by go_num, rfl, fun _ => H0, fun _ => H1, fun _ => hf, by omega⟩
      · have hi : inB (-4095) bx 4095 = false := by rw [far_inB, hf]; rfl
        have HI := Lib.hid hi
        clear hi h0 h1 h2 h3
        go_wp2_with fail
        refine (within4_is HI.out _).mono ?_
        rintro e w' ⟨rfl, rfl⟩
        go_wp2_with fail
        go_ret
        exact ⟨by unfold classF; rw [if_pos (.inr (.inr (.inl hf)))]; rfl, HB.out⟩
    | 3, _ =>
      cases hf : farB by_
      · have hi : inB (-4095) by_ 4095 = true := by rw [far_inB, hf]; rfl
        have HI := Lib.hid hi
        have H0 := h0 (by omega)
        have H1 := h1 (by omega)
        have H2 := h2 (by omega)
        clear hi h0 h1 h2 h3
        go_wp2_with fail
        refine (within4_is HI.out _).mono ?_
        rintro e w' ⟨rfl, rfl⟩
        go_wp2_with fail
        go_roundg 0
        case measure => omega
        case rel => exact ⟨4, rfl, by omega, by go_num, rfl, fun _ => H0, fun _ => H1, fun _ => H2, fun _ => hf⟩
      · have hi : inB (-4095) by_ 4095 = false := by rw [far_inB, hf]; rfl
        have HI := Lib.hid hi
        clear hi h0 h1 h2 h3
        go_wp2_with fail
        refine (within4_is HI.out _).mono ?_
        rintro e w' ⟨rfl, rfl⟩
        go_wp2_with fail
        go_ret
        exact ⟨by unfold classF; rw [if_pos (.inr (.inr (.inr (.inl hf))))]; rfl, HB.out⟩
    | 4, _ =>
      have f0 := h0 (by omega)
      have f1 := h1 (by omega)
      have f2 := h2 (by omega)
      have f3 := h3 (by omega)
      have b1 := farB_no f0
      have b2 := farB_no f1
      have b3 := farB_no f2
      have b4 := farB_no f3
      by_cases hz : (ax = 0 ∧ ay = 0) ∨ (bx = 0 ∧ by_ = 0)
      · have hcl : classF ax ay bx by_ = 0 := by unfold classF; rw [if_pos (.inr (.inr (.inr (.inr hz))))]
        have HCL := Lib.hid hcl
        clear hcl h0 h1 h2 h3
        by_cases za : ax = 0 ∧ ay = 0
        · obtain ⟨rfl, rfl⟩ := za
          go_wp2_with fail
          go_ret
          exact ⟨by rw [HCL.out]; rfl, HB.out⟩
        · obtain ⟨rfl, rfl⟩ : bx = 0 ∧ by_ = 0 := by rcases hz with h | h; · exact absurd h za
                                                     · exact h
          clear hz
          rcases Bool.eq_false_or_eq_true (ax == 0) with xa | xa
          · have ya : (ay == 0) = false := beq_false_of_ne fun e => za ⟨by simpa using xa, e⟩
            go_wp2_with fail
            go_ret
            exact ⟨by rw [HCL.out]; rfl, HB.out⟩
          · go_wp2_with fail
            go_ret
            exact ⟨by rw [HCL.out]; rfl, HB.out⟩
      · have hcl : classF ax ay bx by_ = clsI (ax * by_ - ay * bx) (ax * bx + ay * by_) := by unfold classF; rw [if_neg]; simp only [f0, f1, f2, f3, Bool.false_eq_true, false_or]; exact hz
        have hno := no_both (a := ax) (b := ay) (c := bx) (d := by_) (fun h => hz (.inl h)) (fun h => hz (.inr h))
        obtain ⟨p1, e1⟩ : ∃ p, ax * by_ = p := ⟨_, rfl⟩
        obtain ⟨p2, e2⟩ : ∃ p, ay * bx = p := ⟨_, rfl⟩
        obtain ⟨p3, e3⟩ : ∃ p, ax * bx = p := ⟨_, rfl⟩
        obtain ⟨p4, e4⟩ : ∃ p, ay * by_ = p := ⟨_, rfl⟩
        have q1 := mul_bd b1 b4
        have q2 := mul_bd b2 b3
        have q3 := mul_bd b1 b3
        have q4 := mul_bd b2 b4
        rw [e1] at q1
        rw [e2] at q2
        rw [e3] at q3
        rw [e4] at q4
        rw [e1, e2, e3, e4] at hno hcl
        obtain ⟨m1, m2⟩ := q1
        obtain ⟨m3, m4⟩ := q2
        obtain ⟨m5, m6⟩ := q3
        obtain ⟨m7, m8⟩ := q4
        obtain ⟨c, hc⟩ : ∃ c, p1 - p2 = c := ⟨_, rfl⟩
        obtain ⟨d, hd⟩ : ∃ d, p3 + p4 = d := ⟨_, rfl⟩
        have n1 : -33538050 ≤ c := by omega
        have n2 : c ≤ 33538050 := by omega
        have n3 : -33538050 ≤ d := by omega
        have n4 : d ≤ 33538050 := by omega
        rw [hc, hd] at hno hcl
        have HCL := Lib.hid hcl
        have hza : (ax == 0) = false ∨ (ay == 0) = false := by simp only [beq_eq_false_iff_ne]; omega
        have hzb : (bx == 0) = false ∨ (by_ == 0) = false := by simp only [beq_eq_false_iff_ne]; omega
        clear hcl h0 h1 h2 h3 hz b1 b2 b3 b4 f0 f1 f2 f3
        rcases Bool.eq_false_or_eq_true (ax == 0) with xa | xa <;> rcases Bool.eq_false_or_eq_true (bx == 0) with xb | xb
        all_goals (first | (have ya : (ay == 0) = false := by simpa [xa] using hza) | skip)
        all_goals (first | (have yb : (by_ == 0) = false := by simpa [xb] using hzb) | skip)
        all_goals clear hza hzb
        all_goals
          rcases Int.lt_or_le c 0 with hc0 | hc0
          all_goals
            go_wp2_with (first | (go_at_call 79; refine (far4_neg _ hc0 (by omega)).mono ?_; rintro e w' ⟨rfl, rfl⟩) | (go_at_call 79; refine (far4_pos _ hc0 (by omega)).mono ?_; rintro e w' ⟨rfl, rfl⟩))
        all_goals
          go_ret
          refine ⟨ret_int ?_, HB.out⟩
          rw [HCL.out]
          first | exact cls1 (by omega) | exact cls5 (by omega) | exact cls2 (by omega) | exact cls4 (by omega) | exact cls6 (by omega) | exact cls8 (by omega) | exact cls3 (by omega) | exact cls7 (by omega)
end Go.Proofs.Ytkdpfbefdhjmcaa
/- milepostref4.Bend. -/
set_option linter.unusedVariables false
set_option linter.unusedSimpArgs false
namespace Go.Proofs.Ytkdpfbefdhjmcaa
open Go.ChangeShapes Go.WideShapes Go.ChangeAt Go.RowKit
theorem edge4_is {A1 A2 A3 : Option Addr} {n1 c1 n2 c2 n3 c3 : Nat} (h : n2 ≤ maxLen) {i : Int} {r : Bool} (hr : inB 0 i ((n2 : Int) - 1) = r) (w : World) :
    Calls Try.prog 25 #[.agg #[.slice A1 n1 c1, .slice A2 n2 c2, .slice A3 n3 c3], .int .i64 i] w fun e w' => e = .returned (.bool r) ∧ Below w.heap.size w w' := by rw [← hr]; exact edge4_any h i w
/-- all that the reference's Bend reads -/
def BendS (w' : World) (bx bn on be oe i f t n1 c1 n2 c2 : Nat) (xp yp xq yq : Int) : Prop :=
  w'.cell? ⟨bx, 0, none⟩ = some (.slice (some ⟨bn, on, none⟩) n1 c1) ∧ w'.cell? ⟨bx, 1, none⟩ = some (.slice (some ⟨be, oe, none⟩) n2 c2) ∧
    w'.cell? ⟨be, oe + i * 3, none⟩ = some (.int .i64 (f : Nat)) ∧ w'.cell? ⟨be, oe + i * 3 + 1, none⟩ = some (.int .i64 (t : Nat)) ∧
    w'.cell? ⟨bn, on + f * 2, none⟩ = some (.int .i64 xp) ∧ w'.cell? ⟨bn, on + f * 2 + 1, none⟩ = some (.int .i64 yp) ∧ w'.cell? ⟨bn, on + t * 2, none⟩ = some (.int .i64 xq) ∧ w'.cell? ⟨bn, on + t * 2 + 1, none⟩ = some (.int .i64 yq)
theorem BendS.below {w w' : World} {bx bn on be oe i f t n1 c1 n2 c2 : Nat} {xp yp xq yq : Int} (h : BendS w bx bn on be oe i f t n1 c1 n2 c2 xp yp xq yq) (hb : Below w.heap.size w w') : BendS w' bx bn on be oe i f t n1 c1 n2 c2 xp yp xq yq := by
  obtain ⟨a, b, c, d, e, f, g, h⟩ := h
  exact ⟨cell_below a hb, cell_below b hb, cell_below c hb, cell_below d hb, cell_below e hb, cell_below f hb, cell_below g hb, cell_below h hb⟩
theorem nodeT_nat (ns : List (Int × Int)) {k : Nat} (h : k < ns.length) : nodeT ns (k : Int) = ns.getD k (0, 0) := by
  unfold nodeT inB; rw [if_pos (by simp; omega), Int.toNat_natCast]
theorem edgeT_nat (es : List (Int × Int × Int)) {k : Nat} (h : k < es.length) : edgeT es (k : Int) = es.getD k (0, 0, 0) := by
  unfold edgeT inB; rw [if_pos (by simp; omega), Int.toNat_natCast]
set_option maxRecDepth 100000 in
set_option maxHeartbeats 8000000 in
theorem bend4_any {A1 A2 A3 : Option Addr} {c1 c2 n3 c3 : Nat} {ns bs : List (Int × Int)} {es : List (Int × Int × Int)} {w : World} (r1 : ReadsP w A1 ns.length c1 ns) (r2 : ReadsT w A2 es.length c2 es) (hm : mayB ns es bs = true) (a b : Int) :
    Calls Try.prog 61 #[.agg #[.slice A1 ns.length c1, .slice A2 es.length c2, .slice A3 n3 c3], .int .i64 a, .int .i64 b] w fun e w' => e = .returned (.int .i64 (bendT ns es a b)) ∧ Below w.heap.size w w' := by
  unfold bendT
  have k := fun j v hv => cell_three_new (w := w) (x := .slice A1 ns.length c1) (y := .slice A2 es.length c2) (z := .slice A3 n3 c3) (t := 51) j v hv
  have k0 := k 0 _ rfl
  have k1 := k 1 _ rfl
  have k2 := k 2 _ rfl
  have HS2 := Lib.hid r2.small
  have HB0 : Hid (Below w.heap.size w (w.alloc (.cells #[.slice A1 ns.length c1, .slice A2 es.length c2, .slice A3 n3 c3] 51))) := Lib.hid (bl_alloc (Below.refl _ _) _)
  cases ha : inB 0 a ((es.length : Int) - 1)
  · have HA := Lib.hid ha
    clear ha r1 r2 hm k
    go_enter Try.func61, Try.ntmps61
    go_wp2_with fail
    refine (edge4_is HS2.out HA.out _).mono ?_
    rintro e w2 ⟨rfl, hb2⟩
    have HB2 := Lib.hid (HB0.out.trans (hb2.mono HB0.out.size))
    clear hb2
    go_wp2_with fail
    go_ret
    exact ⟨rfl, HB2.out⟩
  · cases hb : inB 0 b ((es.length : Int) - 1)
    · have HA := Lib.hid ha
      have HB := Lib.hid hb
      clear ha hb r1 r2 hm
      go_enter Try.func61, Try.ntmps61
      go_wp2_with fail
      refine (edge4_is HS2.out HA.out _).mono ?_
      rintro e w2 ⟨rfl, hb2⟩
      have l0 : w2.cell? ⟨w.heap.size, 0, none⟩ = some (.slice A1 ns.length c1) := cell_below (k 0 _ rfl) hb2
      have l1 : w2.cell? ⟨w.heap.size, 1, none⟩ = some (.slice A2 es.length c2) := cell_below (k 1 _ rfl) hb2
      have l2 : w2.cell? ⟨w.heap.size, 2, none⟩ = some (.slice A3 n3 c3) := cell_below (k 2 _ rfl) hb2
      have HB2 := Lib.hid (HB0.out.trans (hb2.mono HB0.out.size))
      clear hb2 k0 k1 k2 k
      go_wp2_with fail
      refine (edge4_is HS2.out HB.out _).mono ?_
      rintro e w3 ⟨rfl, hb3⟩
      have HB3 := Lib.hid (HB2.out.trans (hb3.mono HB2.out.size))
      clear hb3
      go_wp2_with fail
      go_ret
      exact ⟨by simp, HB3.out⟩
    · obtain ⟨_, hsz, hfr, hto⟩ := mayB_parts hm
      have ha' := ha
      have hb' := hb
      unfold inB at ha' hb'
      simp only [Bool.and_eq_true, decide_eq_true_eq] at ha' hb'
      obtain ⟨ia, rfl⟩ : ∃ k : Nat, a = (k : Int) := ⟨a.toNat, by omega⟩
      obtain ⟨ib, rfl⟩ : ∃ k : Nat, b = (k : Int) := ⟨b.toNat, by omega⟩
      have ja : ia < es.length := by omega
      have jb : ib < es.length := by omega
      obtain ⟨fa1, fa2⟩ := hfr ia ja
      obtain ⟨ta1, ta2⟩ := hto ia ja
      obtain ⟨fb1, fb2⟩ := hfr ib jb
      obtain ⟨tb1, tb2⟩ := hto ib jb
      have wxa : wayX ns es (ia : Int) = (ns.getD (toN es ia) (0, 0)).1 - (ns.getD (fromN es ia) (0, 0)).1 := by unfold wayX; rw [edgeT_nat es ja, fa1, ta1, nodeT_nat ns fa2, nodeT_nat ns ta2]
      have wya : wayY ns es (ia : Int) = (ns.getD (toN es ia) (0, 0)).2 - (ns.getD (fromN es ia) (0, 0)).2 := by unfold wayY; rw [edgeT_nat es ja, fa1, ta1, nodeT_nat ns fa2, nodeT_nat ns ta2]
      have wxb : wayX ns es (ib : Int) = (ns.getD (toN es ib) (0, 0)).1 - (ns.getD (fromN es ib) (0, 0)).1 := by unfold wayX; rw [edgeT_nat es jb, fb1, tb1, nodeT_nat ns fb2, nodeT_nat ns tb2]
      have wyb : wayY ns es (ib : Int) = (ns.getD (toN es ib) (0, 0)).2 - (ns.getD (fromN es ib) (0, 0)).2 := by unfold wayY; rw [edgeT_nat es jb, fb1, tb1, nodeT_nat ns fb2, nodeT_nat ns tb2]
      have bd1 := nodeT_bd hm (fromN es ia : Nat)
      have bd2 := nodeT_bd hm (toN es ia : Nat)
      have bd3 := nodeT_bd hm (fromN es ib : Nat)
      have bd4 := nodeT_bd hm (toN es ib : Nat)
      rw [nodeT_nat ns fa2] at bd1
      rw [nodeT_nat ns ta2] at bd2
      rw [nodeT_nat ns fb2] at bd3
      rw [nodeT_nat ns tb2] at bd4
      obtain ⟨bn, on, rfl, hcn⟩ := r1.cell (by omega)
      obtain ⟨be, oe, rfl, hce⟩ := r2.cell (by omega)
      have ea := hce ia ja
      have eb := hce ib jb
      have nfa := hcn _ fa2
      have nta := hcn _ ta2
      have nfb := hcn _ fb2
      have ntb := hcn _ tb2
      rw [fa1, ta1] at ea
      rw [fb1, tb1] at eb
      rw [wxa, wya, wxb, wyb]
      obtain ⟨fa, hfa⟩ : ∃ z, z = fromN es ia := ⟨_, rfl⟩
      obtain ⟨ta, hta⟩ : ∃ z, z = toN es ia := ⟨_, rfl⟩
      obtain ⟨fb, hfb⟩ : ∃ z, z = fromN es ib := ⟨_, rfl⟩
      obtain ⟨tb, htb⟩ : ∃ z, z = toN es ib := ⟨_, rfl⟩
      rw [← hfa] at ea nfa fa2 bd1 ⊢
      rw [← hta] at ea nta ta2 bd2 ⊢
      rw [← hfb] at eb nfb fb2 bd3 ⊢
      rw [← htb] at eb ntb tb2 bd4 ⊢
      obtain ⟨p, hp⟩ : ∃ z, z = ns.getD fa (0, 0) := ⟨_, rfl⟩
      obtain ⟨q, hq⟩ : ∃ z, z = ns.getD ta (0, 0) := ⟨_, rfl⟩
      obtain ⟨r, hr⟩ : ∃ z, z = ns.getD fb (0, 0) := ⟨_, rfl⟩
      obtain ⟨s, hs⟩ : ∃ z, z = ns.getD tb (0, 0) := ⟨_, rfl⟩
      rw [← hp] at nfa bd1 ⊢
      rw [← hq] at nta bd2 ⊢
      rw [← hr] at nfb bd3 ⊢
      rw [← hs] at ntb bd4 ⊢
      obtain ⟨px, py⟩ := p
      obtain ⟨qx, qy⟩ := q
      obtain ⟨rx, ry⟩ := r
      obtain ⟨sx, sy⟩ := s
      dsimp only at nfa nta nfb ntb bd1 bd2 bd3 bd4 ⊢
      obtain ⟨⟨z1, z2⟩, z3, z4⟩ := bd1
      obtain ⟨⟨z5, z6⟩, z7, z8⟩ := bd2
      obtain ⟨⟨z9, z10⟩, z11, z12⟩ := bd3
      obtain ⟨⟨z13, z14⟩, z15, z16⟩ := bd4
      have hSA : BendS (w.alloc (.cells #[.slice (some ⟨bn, on, none⟩) ns.length c1, .slice (some ⟨be, oe, none⟩) es.length c2, .slice A3 n3 c3] 51)) w.heap.size bn on be oe ia fa ta ns.length c1 es.length c2 px py qx qy :=
        ⟨k 0 _ rfl, k 1 _ rfl, cell_below ea.1 HB0.out, cell_below ea.2.1 HB0.out, cell_below nfa.1 HB0.out, cell_below nfa.2 HB0.out, cell_below nta.1 HB0.out, cell_below nta.2 HB0.out⟩
      have hSB : BendS (w.alloc (.cells #[.slice (some ⟨bn, on, none⟩) ns.length c1, .slice (some ⟨be, oe, none⟩) es.length c2, .slice A3 n3 c3] 51)) w.heap.size bn on be oe ib fb tb ns.length c1 es.length c2 rx ry sx sy :=
        ⟨k 0 _ rfl, k 1 _ rfl, cell_below eb.1 HB0.out, cell_below eb.2.1 HB0.out, cell_below nfb.1 HB0.out, cell_below nfb.2 HB0.out, cell_below ntb.1 HB0.out, cell_below ntb.2 HB0.out⟩
      have HSA := Lib.hid hSA
      have HSB := Lib.hid hSB
      have HA := Lib.hid ha
      have HB := Lib.hid hb
      have i1 : (ia : Int) < (es.length : Int) := by omega
      have i2 : (ib : Int) < (es.length : Int) := by omega
      have i3 : (fa : Int) < (ns.length : Int) := by omega
      have i4 : (ta : Int) < (ns.length : Int) := by omega
      have i5 : (fb : Int) < (ns.length : Int) := by omega
      have i6 : (tb : Int) < (ns.length : Int) := by omega
      clear ha hb r1 r2 hm hsz hfr hto ha' hb' fa1 ta1 fb1 tb1 wxa wya wxb wyb hcn hce ea eb nfa nta nfb ntb hfa hta hfb htb hp hq hr hs hSA hSB
      go_enter Try.func61, Try.ntmps61
      go_wp2_with fail
      refine (edge4_is HS2.out HA.out _).mono ?_
      rintro e w2 ⟨rfl, hb2⟩
      have l0 : w2.cell? ⟨w.heap.size, 0, none⟩ = some (.slice (some ⟨bn, on, none⟩) ns.length c1) := cell_below (k 0 _ rfl) hb2
      have l1 : w2.cell? ⟨w.heap.size, 1, none⟩ = some (.slice (some ⟨be, oe, none⟩) es.length c2) := cell_below (k 1 _ rfl) hb2
      have l2 : w2.cell? ⟨w.heap.size, 2, none⟩ = some (.slice A3 n3 c3) := cell_below (k 2 _ rfl) hb2
      have HB2 := Lib.hid (HB0.out.trans (hb2.mono HB0.out.size))
      have HSA2 := Lib.hid (HSA.out.below hb2)
      have HSB2 := Lib.hid (HSB.out.below hb2)
      clear hb2 k0 k1 k2 k
      go_wp2_with fail
      refine (edge4_is HS2.out HB.out _).mono ?_
      rintro e w3 ⟨rfl, hb3⟩
      have HB3 := Lib.hid (HB2.out.trans (hb3.mono HB2.out.size))
      have hA3 := HSA2.out.below hb3
      have hB3 := HSB2.out.below hb3
      have HSA3 : Hid (∀ w', Below w3.heap.size w3 w' → BendS w' w.heap.size bn on be oe ia fa ta ns.length c1 es.length c2 px py qx qy) := Lib.hid fun w' h => hA3.below h
      have HSB3 : Hid (∀ w', Below w3.heap.size w3 w' → BendS w' w.heap.size bn on be oe ib fb tb ns.length c1 es.length c2 rx ry sx sy) := Lib.hid fun w' h => hB3.below h
      clear hb3 l0 l1 l2 hA3 hB3 HSA HSB HSA2 HSB2
      go_wp2_with fail
      go_region_held3 (fun w' => w'.cell? ⟨w.heap.size, 0, none⟩ = some (.slice (some ⟨bn, on, none⟩) ns.length c1) ∧ w'.cell? ⟨w.heap.size, 1, none⟩ = some (.slice (some ⟨be, oe, none⟩) es.length c2) ∧
          w'.cell? ⟨be, oe + ia * 3, none⟩ = some (.int .i64 (fa : Nat)) ∧ w'.cell? ⟨be, oe + ia * 3 + 1, none⟩ = some (.int .i64 (ta : Nat)) ∧
          w'.cell? ⟨bn, on + fa * 2, none⟩ = some (.int .i64 px) ∧ w'.cell? ⟨bn, on + fa * 2 + 1, none⟩ = some (.int .i64 py) ∧ w'.cell? ⟨bn, on + ta * 2, none⟩ = some (.int .i64 qx) ∧ w'.cell? ⟨bn, on + ta * 2 + 1, none⟩ = some (.int .i64 qy))
        (exact HSA3.out _ (by repeat (first | exact Below.refl _ _ | refine bl_drew ?_ | refine bl_alloc ?_ _ | refine Below.setCell ?_ (by simp) _)))
        (fail)
      all_goals
        go_wp2_with fail
        go_region_held3 (fun w' => w'.cell? ⟨w.heap.size, 0, none⟩ = some (.slice (some ⟨bn, on, none⟩) ns.length c1) ∧ w'.cell? ⟨w.heap.size, 1, none⟩ = some (.slice (some ⟨be, oe, none⟩) es.length c2) ∧
            w'.cell? ⟨be, oe + ib * 3, none⟩ = some (.int .i64 (fb : Nat)) ∧ w'.cell? ⟨be, oe + ib * 3 + 1, none⟩ = some (.int .i64 (tb : Nat)) ∧
            w'.cell? ⟨bn, on + fb * 2, none⟩ = some (.int .i64 rx) ∧ w'.cell? ⟨bn, on + fb * 2 + 1, none⟩ = some (.int .i64 ry) ∧ w'.cell? ⟨bn, on + tb * 2, none⟩ = some (.int .i64 sx) ∧ w'.cell? ⟨bn, on + tb * 2 + 1, none⟩ = some (.int .i64 sy))
          (exact HSB3.out _ (by repeat (first | exact Below.refl _ _ | refine bl_drew ?_ | refine bl_alloc ?_ _ | refine Below.setCell ?_ (by simp) _)))
          (fail)
      all_goals
        go_wp2_with fail
        refine (class4_any _ _ _ _ _).mono ?_
        rintro e w9 ⟨rfl, hb9⟩
        have HB9 := Lib.hid hb9
        clear hb9
        go_wp2_with fail
        go_ret
        refine ⟨by simp, HB3.out.trans (Below.mono (bl_then ?_ HB9.out) HB3.out.size)⟩
        repeat (first | exact Below.refl _ _ | refine bl_drew ?_ | refine bl_alloc ?_ _ | refine Below.setCell ?_ (by simp) _)
end Go.Proofs.Ytkdpfbefdhjmcaa
