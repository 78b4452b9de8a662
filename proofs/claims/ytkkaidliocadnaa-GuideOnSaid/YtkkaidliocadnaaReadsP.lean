/- Slices of pairs that came in. -/
import Derived.Test.YtkkaidliocadnaaReads
import Derived.Deep.Slices
set_option linter.unusedVariables false
set_option linter.unusedSimpArgs false
namespace Go.Proofs.Ytkkaidliocadnaa
open Go.ChangeShapes Go.WideShapes Go.ChangeAt Go.RowKit
/-- a slice of pairs of ints -/
structure ReadsP (w : World) (A : Option Addr) (n c : Nat) (xs : List (Int × Int)) : Prop where
  len : xs.length = n
  small : n ≤ maxLen
  cell : 0 < n → ∃ b o, A = some ⟨b, o, none⟩ ∧ ∀ i, i < n → w.cell? ⟨b, o + i * 2, none⟩ = some (.int .i64 (xs.getD i (0, 0)).1) ∧ w.cell? ⟨b, o + i * 2 + 1, none⟩ = some (.int .i64 (xs.getD i (0, 0)).2)
  wf : ∀ x ∈ xs, (Lit.int .i64 x.1).wf = true ∧ (Lit.int .i64 x.2).wf = true
theorem ReadsP.below {w w' : World} {A : Option Addr} {n c : Nat} {xs : List (Int × Int)} (h : ReadsP w A n c xs) (hb : Below w.heap.size w w') : ReadsP w' A n c xs := by
  refine ⟨h.len, h.small, fun hn => ?_, h.wf⟩
  obtain ⟨b, o, hA, hc⟩ := h.cell hn
  refine ⟨b, o, hA, fun i hi => ?_⟩
  have hlt := World.block_lt_of_cell? w ⟨b, o + i * 2, none⟩ (hc i hi).1
  exact ⟨(hb.cell (p := ⟨b, o + i * 2, none⟩) hlt).trans (hc i hi).1, (hb.cell (p := ⟨b, o + i * 2 + 1, none⟩) hlt).trans (hc i hi).2⟩
theorem cell_below {w w' : World} {b x : Nat} {v : Value} (h : w.cell? ⟨b, x, none⟩ = some v) (hb : Below w.heap.size w w') : w'.cell? ⟨b, x, none⟩ = some v := (hb.cell (p := ⟨b, x, none⟩) (World.block_lt_of_cell? w ⟨b, x, none⟩ h)).trans h
theorem two_of {α : Type} : ∀ {l : List α}, l.length = 2 → ∃ a b, l = [a, b]
  | [a, b], _ => ⟨a, b, rfl⟩
theorem getP_wf {xs : List (Int × Int)} (h : ∀ x ∈ xs, (Lit.int .i64 x.1).wf = true ∧ (Lit.int .i64 x.2).wf = true) (i : Nat) : Wf (xs.getD i (0, 0)) := by
  rw [List.getD_eq_getElem?_getD]
  rcases Nat.lt_or_ge i xs.length with hi | hi
  · rw [List.getElem?_eq_getElem hi]; exact h _ (List.getElem_mem hi)
  · rw [List.getElem?_eq_none hi]; exact ⟨by decide, by decide⟩
end Go.Proofs.Ytkkaidliocadnaa
