/- Out and In as their callers get them: slices that read. -/
import Derived.Test.YtkdpfbefdhjmcaaRowsUse
import Derived.Test.YtkdpfbefdhjmcaaRound
set_option linter.unusedVariables false
set_option linter.unusedSimpArgs false
namespace Go.Proofs.Ytkdpfbefdhjmcaa
open Go.ChangeShapes Go.WideShapes Go.ChangeAt Go.RowKit RowP
theorem outT_wf {ns bs : List (Int × Int)} {es : List (Int × Int × Int)} (h : mayB ns es bs = true) (v : Int) : (∀ x ∈ outT ns es v, (Lit.int .i64 x).wf = true) ∧ (outT ns es v).length ≤ es.length := by
  have hs := (mayB_parts h).2.1
  unfold outT
  split
  · refine ⟨fun x hx => ?_, ?_⟩
    · obtain ⟨i, hi, rfl⟩ := List.mem_map.1 hx
      have := List.mem_range.1 (List.mem_filter.1 hi).1
      exact wf_of (by omega) (by omega)
    · rw [List.length_map]; exact Nat.le_trans (List.length_filter_le _ _) (by simp)
  · simp
theorem out_reads {w : World} {B E p : Nat} {ns bs : List (Int × Int)} {es : List (Int × Int × Int)} (h : GraphAt w B E p ns es bs) (v : Int) : Calls Try.prog 40 #[.pointer (some ⟨p, 0, none⟩), .int .i64 v] w fun e w' =>
    ∃ A' c', e = .returned (.slice A' (outT ns es v).length c') ∧ ReadsI w' A' (outT ns es v).length c' (outT ns es v) ∧ (∀ b o, A' = some ⟨b, o, none⟩ → w.heap.size ≤ b ∧ b < w'.heap.size) ∧ Below w.heap.size w w' := by
  obtain ⟨d, hd⟩ := h
  have hwf := outT_wf hd.ok v
  have hs := (mayB_parts hd.ok).2.1
  refine (out_at ⟨d, hd⟩ v).mono ?_
  rintro e w' ⟨A', c', rfl, hown, hb⟩
  refine ⟨A', c', rfl, ReadsI.of_row hown (by unfold maxLen; omega) hwf.1, fun b o e => ?_, hb⟩
  subst e
  rcases hown.2 with ⟨h0, _⟩ | ⟨g, c, cur, e, hb, hg, _⟩
  · cases h0
  · injection e with e1 _ _
    injection e1 with e1
    injection e1 with e1 _ _
    subst e1
    refine ⟨hb, ?_⟩
    rcases Nat.lt_or_ge b w'.heap.size with h1 | h1
    · exact h1
    · rw [Array.getElem?_eq_none h1] at hg; cases hg
theorem inT_wf {ns bs : List (Int × Int)} {es : List (Int × Int × Int)} (h : mayB ns es bs = true) (v : Int) : (∀ x ∈ inT ns es v, (Lit.int .i64 x).wf = true) ∧ (inT ns es v).length ≤ es.length := by
  have hs := (mayB_parts h).2.1
  unfold inT
  split
  · refine ⟨fun x hx => ?_, ?_⟩
    · obtain ⟨i, hi, rfl⟩ := List.mem_map.1 hx
      have := List.mem_range.1 (List.mem_filter.1 hi).1
      exact wf_of (by omega) (by omega)
    · rw [List.length_map]; exact Nat.le_trans (List.length_filter_le _ _) (by simp)
  · simp
theorem in_reads {w : World} {B E p : Nat} {ns bs : List (Int × Int)} {es : List (Int × Int × Int)} (h : GraphAt w B E p ns es bs) (v : Int) : Calls Try.prog 41 #[.pointer (some ⟨p, 0, none⟩), .int .i64 v] w fun e w' =>
    ∃ A' c', e = .returned (.slice A' (inT ns es v).length c') ∧ ReadsI w' A' (inT ns es v).length c' (inT ns es v) ∧ (∀ b o, A' = some ⟨b, o, none⟩ → w.heap.size ≤ b ∧ b < w'.heap.size) ∧ Below w.heap.size w w' := by
  obtain ⟨d, hd⟩ := h
  have hwf := inT_wf hd.ok v
  have hs := (mayB_parts hd.ok).2.1
  refine (in_at ⟨d, hd⟩ v).mono ?_
  rintro e w' ⟨A', c', rfl, hown, hb⟩
  refine ⟨A', c', rfl, ReadsI.of_row hown (by unfold maxLen; omega) hwf.1, fun b o e => ?_, hb⟩
  subst e
  rcases hown.2 with ⟨h0, _⟩ | ⟨g, c, cur, e, hb, hg, _⟩
  · cases h0
  · injection e with e1 _ _
    injection e1 with e1
    injection e1 with e1 _ _
    subst e1
    refine ⟨hb, ?_⟩
    rcases Nat.lt_or_ge b w'.heap.size with h1 | h1
    · exact h1
    · rw [Array.getElem?_eq_none h1] at hg; cases hg
end Go.Proofs.Ytkdpfbefdhjmcaa
