/- Slices that came in: what they hold, as the walk reads it. -/
import Derived.Test.YtkdpfbefdhjmcaaRow
import Derived.Test.YtkdpfbefdhjmcaaHeap
set_option linter.unusedVariables false
set_option linter.unusedSimpArgs false
namespace Go.Proofs.Ytkdpfbefdhjmcaa
open Go.ChangeShapes Go.WideShapes Go.ChangeAt Go.RowKit
/-- a slice of ints -/
structure ReadsI (w : World) (A : Option Addr) (n c : Nat) (xs : List Int) : Prop where
  len : xs.length = n
  small : n ≤ maxLen
  cell : 0 < n → ∃ b o, A = some ⟨b, o, none⟩ ∧ ∀ i, i < n → w.cell? ⟨b, o + i, none⟩ = some (.int .i64 (xs.getD i 0))
  wf : ∀ x ∈ xs, (Lit.int .i64 x).wf = true
theorem ReadsI.below {w w' : World} {A : Option Addr} {n c : Nat} {xs : List Int} (h : ReadsI w A n c xs) (hb : Below w.heap.size w w') : ReadsI w' A n c xs := by
  refine ⟨h.len, h.small, fun hn => ?_, h.wf⟩
  obtain ⟨b, o, hA, hc⟩ := h.cell hn
  refine ⟨b, o, hA, fun i hi => ?_⟩
  have hlt := World.block_lt_of_cell? w ⟨b, o + i, none⟩ (hc i hi)
  exact (hb.cell (p := ⟨b, o + i, none⟩) hlt).trans (hc i hi)
theorem ReadsI.upd {F : Nat → Prop} {w w' : World} {A : Option Addr} {n c : Nat} {xs : List Int} (h : ReadsI w A n c xs) (hu : Upd F w w') (hF : ∀ b o, A = some ⟨b, o, none⟩ → b < w.heap.size → ¬ F b) : ReadsI w' A n c xs := by
  refine ⟨h.len, h.small, fun hn => ?_, h.wf⟩
  obtain ⟨b, o, hA, hc⟩ := h.cell hn
  refine ⟨b, o, hA, fun i hi => ?_⟩
  have hlt := World.block_lt_of_cell? w ⟨b, o + i, none⟩ (hc i hi)
  exact (World.cell?_of_block (a := ⟨b, o + i, none⟩) (hu.block b hlt (hF b o hA hlt))).trans (hc i hi)
theorem getD_wf {xs : List Int} (h : ∀ x ∈ xs, (Lit.int .i64 x).wf = true) (i : Nat) : (Lit.int .i64 (xs.getD i 0)).wf = true := by
  rw [List.getD_eq_getElem?_getD]
  rcases Nat.lt_or_ge i xs.length with hi | hi
  · rw [List.getElem?_eq_getElem hi]; exact h _ (List.getElem_mem hi)
  · rw [List.getElem?_eq_none hi]; decide
section
variable {H : Type} {enc : TypeId × Value → H} {W : World} {base : Nat}
set_option maxRecDepth 100000 in
theorem open_reads {v : Value} {d : DataW H} {p : List MemPlace} (ho : Value.okWide Try.prog W .any base 71 v) (h : DataW.Trod enc Try.prog W 0 (fun _ => true) true 71 v d p) :
    ∃ A n c xs, v = .slice A n c ∧ ReadsI W A n c xs := by
  obtain ⟨A, n, c, rfl⟩ := okWide_slice Try.underlying71 ho
  obtain ⟨fuel, hf⟩ := h
  rcases open_ints Try.underlying71 Try.underlying3 (by kernel_rfl) hf with ⟨hcs, hx⟩ | ⟨a, len, cap, zs, hcs, _, hl, hm, hz, hx, hcell, hw⟩
  · have : Value.slice A n c = .slice none 0 0 := by simpa [Value.cells] using hcs
    injection this with e1 e2 e3
    subst e1 e2 e3
    exact ⟨none, 0, 0, [], rfl, rfl, Nat.zero_le _, fun h => absurd h (by omega), by simp⟩
  · have : Value.slice A n c = .slice (some a) len cap := by simpa [Value.cells] using hcs
    injection this with e1 e2 e3
    subst e1 e2 e3
    simp only [if_true] at hz
    refine ⟨some a, n, c, zs.take n, rfl, by rw [List.length_take]; omega, by omega, fun hn => ?_, fun x hx => hw x (List.mem_of_mem_take hx)⟩
    have hsp : a.spot = none := by
      have h0 := hcell 0 (by omega)
      cases hs : a.spot with
      | none => rfl
      | some s => simp [World.cell?, Addr.add, hs] at h0; split at h0 <;> simp at h0
    obtain ⟨b, o, sp⟩ := a
    subst hsp
    refine ⟨b, o, rfl, fun i hi => ?_⟩
    have := hcell i (by omega)
    rw [Addr.add_lit] at this
    rw [this, List.getD_eq_getElem?_getD, List.getD_eq_getElem?_getD, List.getElem?_take_of_lt hi]
end
end Go.Proofs.Ytkdpfbefdhjmcaa
