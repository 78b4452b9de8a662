/- graph.Banned: the search in the bans. -/
import Derived.Test.YtkdpfbefdhjmcaaAccess
import Derived.StillTailTactics
import Derived.BigQuiet
set_option linter.unusedVariables false
set_option linter.unusedSimpArgs false
namespace Go.Proofs.Ytkdpfbefdhjmcaa
open Go.ChangeShapes Go.WideShapes Go.ChangeAt Go.RowKit
theorem ordI_neg_iff (x y : Int × Int) : ordI x y < 0 ↔ (x.1 < y.1 ∨ (x.1 = y.1 ∧ x.2 < y.2)) := by
  unfold ordI orI cmpI
  by_cases h1 : x.1 < y.1
  · simp [h1]
  · by_cases h2 : y.1 < x.1
    · rw [if_neg h1, if_pos h2]; simp; omega
    · rw [if_neg h1, if_neg h2, if_pos rfl]
      by_cases h3 : x.2 < y.2
      · rw [if_pos h3]; simp; omega
      · rw [if_neg h3]; split <;> simp <;> omega
theorem ordI_zero_iff (x y : Int × Int) : ordI x y = 0 ↔ x = y := by
  obtain ⟨a, b⟩ := x
  obtain ⟨c, d⟩ := y
  unfold ordI orI cmpI
  simp only [Prod.mk.injEq]
  by_cases h1 : a < c
  · rw [if_pos h1]; simp; omega
  · by_cases h2 : c < a
    · rw [if_neg h1, if_pos h2]; simp; omega
    · rw [if_neg h1, if_neg h2, if_pos rfl]
      by_cases h3 : b < d
      · rw [if_pos h3]; simp; omega
      · rw [if_neg h3]; split <;> simp <;> omega
/-- bans that rise -/
def Rising (bs : List (Int × Int)) : Prop := ∀ q r, q < r → r < bs.length → ordI (bs.getD q (0, 0)) (bs.getD r (0, 0)) < 0
theorem rising_of {ns bs : List (Int × Int)} {es : List (Int × Int × Int)} (h : mayB ns es bs = true) : Rising bs := by
  unfold mayB at h
  simp only [Bool.and_eq_true] at h
  have h4 := h.2
  have step : ∀ i, 0 < i → i < bs.length → ordI (bs.getD (i - 1) (0, 0)) (bs.getD i (0, 0)) < 0 := by
    intro i h0 hi
    have := List.all_eq_true.1 h4 i (List.mem_range.2 hi)
    unfold banOk at this
    simp only [Bool.and_eq_true, Bool.or_eq_true, decide_eq_true_eq] at this
    rcases this.2 with h | h
    · omega
    · exact h
  intro q r hqr hr
  induction r with
  | zero => omega
  | succ r ih =>
    have hs := step (r + 1) (by omega) hr
    simp only [Nat.add_sub_cancel] at hs
    rcases Nat.lt_or_ge q r with h1 | h1
    · have h2 := ih h1 (by omega)
      rw [ordI_neg_iff] at *
      omega
    · rw [show q = r by omega]; exact hs
theorem found_iff {bs : List (Int × Int)} {t : Int × Int} {i : Nat} (hlo : ∀ q, q < i → ordI (bs.getD q (0, 0)) t < 0) (hhi : ∀ q, i ≤ q → q < bs.length → ¬ ordI (bs.getD q (0, 0)) t < 0) (hr : Rising bs) :
    (decide (i < bs.length) && decide (ordI (bs.getD i (0, 0)) t = 0)) = decide (t ∈ bs) := by
  rw [Bool.eq_iff_iff]
  simp only [Bool.and_eq_true, decide_eq_true_eq]
  constructor
  · rintro ⟨h1, h2⟩
    rw [ordI_zero_iff] at h2
    rw [← h2, List.getD_eq_getElem?_getD, List.getElem?_eq_getElem h1]
    exact List.getElem_mem h1
  · intro hm
    obtain ⟨q, hq, he⟩ := List.getElem_of_mem hm
    have e : bs.getD q (0, 0) = t := by rw [List.getD_eq_getElem?_getD, List.getElem?_eq_getElem hq]; exact he
    have h0 : ordI (bs.getD q (0, 0)) t = 0 := by rw [ordI_zero_iff]; exact e
    rcases Nat.lt_trichotomy q i with h1 | h1 | h1
    · have := hlo q h1; omega
    · subst h1; exact ⟨hq, h0⟩
    · have h2 := hr i q h1 hq
      rw [e] at h2
      exact absurd h2 (hhi i (Nat.le_refl _) (by omega))
end Go.Proofs.Ytkdpfbefdhjmcaa
