/- The document's own answer of chapter 9. -/
import Derived.Test.YtkkaidliocadnaaBendOf
import Derived.Test.YtkkaidliocadnaaTownMem
import Derived.Deep.RegionHeld3
set_option linter.unusedVariables false
set_option linter.unusedSimpArgs false
namespace Go.Proofs.Ytkkaidliocadnaa
open Go.ChangeShapes Go.WideShapes Go.ChangeAt Go.RowKit
theorem within4_any (n a b : Int) (w : World) : Calls Try.prog 45 #[.int .i64 n, .int .i64 a, .int .i64 b] w fun e w' => e = .returned (.bool (inB a n b)) ∧ w = w' := by
  unfold inB
  by_cases h1 : a ≤ n <;> by_cases h2 : n ≤ b
  all_goals
    go_enter Try.func45, Try.ntmps45
    go_wp2
    go_ret
    exact ⟨by simp [h1, h2], rfl⟩
theorem far4_any (n : Int) (w : World) (h : -16769025000 ≤ n ∧ n ≤ 16769025000) : Calls Try.prog 60 #[.int .i64 n] w fun e w' => e = .returned (.int .i64 (if n < 0 then -n else n)) ∧ w = w' := by
  obtain ⟨h1, h2⟩ := h
  by_cases h3 : n < 0
  all_goals
    simp only [h3, if_true, if_false]
    go_enter Try.func60, Try.ntmps60
    go_wp2
    go_ret
    exact ⟨rfl, rfl⟩
set_option maxHeartbeats 2000000 in
set_option maxRecDepth 100000 in
theorem edge4_any {A1 A2 A3 : Option Addr} {n1 c1 n2 c2 n3 c3 : Nat} (h : n2 ≤ maxLen) (i : Int) (w : World) :
    Calls Try.prog 32 #[.agg #[.slice A1 n1 c1, .slice A2 n2 c2, .slice A3 n3 c3], .int .i64 i] w fun e w' => e = .returned (.bool (inB 0 i ((n2 : Int) - 1))) ∧ Below w.heap.size w w' := by
  unfold maxLen at h
  have g2 : n2 ≤ 9223372036854775807 := by omega
  clear h
  go_enter Try.func32, Try.ntmps32
  go_wp2_with fail
  refine (within4_any _ _ _ _).mono ?_
  rintro e w' ⟨rfl, rfl⟩
  go_wp2_with fail
  go_ret
  exact ⟨rfl, bl_alloc (Below.refl _ _) _⟩
end Go.Proofs.Ytkkaidliocadnaa
