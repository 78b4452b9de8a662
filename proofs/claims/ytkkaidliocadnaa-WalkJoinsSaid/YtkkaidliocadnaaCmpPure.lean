/- Rows have one order: on lists alone. -/
import Derived.Test.YtkkaidliocadnaaWalkPure
set_option linter.unusedVariables false
set_option linter.unusedSimpArgs false
namespace Go.Proofs.Ytkkaidliocadnaa
theorem cmp_bd : ∀ a b : List Int, cmpL a b = -1 ∨ cmpL a b = 0 ∨ cmpL a b = 1
  | [], [] => by simp [cmpL]
  | [], _ :: _ => by simp [cmpL]
  | _ :: _, [] => by simp [cmpL]
  | x :: a, y :: b => by
    have := cmp_bd a b
    unfold cmpL
    split
    · exact .inl rfl
    · split
      · exact .inr (.inr rfl)
      · exact this
theorem cmp_neg : ∀ a b : List Int, cmpL b a = -cmpL a b
  | [], [] => by simp [cmpL]
  | [], _ :: _ => by simp [cmpL]
  | _ :: _, [] => by simp [cmpL]
  | x :: a, y :: b => by
    have := cmp_neg a b
    unfold cmpL
    by_cases h1 : x < y
    · rw [if_pos h1, if_neg (by omega), if_pos h1]; rfl
    · by_cases h2 : y < x
      · rw [if_pos h2, if_neg h1, if_pos h2]
      · rw [if_neg h2, if_neg h1, if_neg h1, if_neg h2]; exact this
theorem cmp_zero : ∀ a b : List Int, cmpL a b = 0 ↔ a = b
  | [], [] => by simp [cmpL]
  | [], _ :: _ => by simp [cmpL]
  | _ :: _, [] => by simp [cmpL]
  | x :: a, y :: b => by
    have := cmp_zero a b
    unfold cmpL
    by_cases h1 : x < y
    · rw [if_pos h1]; simp; omega
    · by_cases h2 : y < x
      · rw [if_neg h1, if_pos h2]; simp; omega
      · rw [if_neg h1, if_neg h2, this]
        have : x = y := by omega
        simp [this]
theorem cmp_trans : ∀ a b c : List Int, cmpL a b ≤ 0 → cmpL b c ≤ 0 → cmpL a c ≤ 0
  | [], _, [], _, _ => by simp [cmpL]
  | [], _, _ :: _, _, _ => by simp [cmpL]
  | _ :: _, [], _, h, _ => by simp [cmpL] at h
  | _ :: _, _ :: _, [], _, h => by simp [cmpL] at h
  | x :: a, y :: b, z :: c, h1, h2 => by
    unfold cmpL at h1 h2 ⊢
    by_cases e1 : x < y
    · by_cases e2 : y < z
      · rw [if_pos (by omega)]; omega
      · rw [if_neg e2] at h2
        by_cases e3 : z < y
        · rw [if_pos e3] at h2; omega
        · rw [if_pos (by omega)]; omega
    · rw [if_neg e1] at h1
      by_cases e3 : y < x
      · rw [if_pos e3] at h1; omega
      · rw [if_neg e3] at h1
        by_cases e2 : y < z
        · rw [if_pos (by omega)]; omega
        · rw [if_neg e2] at h2
          by_cases e4 : z < y
          · rw [if_pos e4] at h2; omega
          · rw [if_neg e4] at h2
            rw [if_neg (by omega), if_neg (by omega)]
            exact cmp_trans a b c h1 h2
theorem cmp_app : ∀ (a : List Int) (x : Int) (l : List Int), cmpL a (a ++ x :: l) = -1
  | [], _, _ => rfl
  | y :: a, x, l => by
    show cmpL (y :: a) (y :: (a ++ x :: l)) = -1
    unfold cmpL
    rw [if_neg (by omega), if_neg (by omega)]
    exact cmp_app a x l
theorem cmp_take {a : List Int} {k : Nat} (h : k < a.length) : cmpL (a.take k) a = -1 := by
  have := cmp_app (a.take k) (a.getD k 0) (a.drop (k + 1))
  rw [← dropI h, List.take_append_drop] at this
  exact this
theorem cmp_self (a : List Int) : cmpL a a = 0 := (cmp_zero a a).2 rfl
end Go.Proofs.Ytkkaidliocadnaa
