/- A slice of ints that came in, and its room. -/
import Derived.Test.YtkdpfbefdhjmcaaReads
set_option linter.unusedVariables false
set_option linter.unusedSimpArgs false
namespace Go.Proofs.Ytkdpfbefdhjmcaa
open Go.ChangeShapes Go.WideShapes Go.ChangeAt Go.RowKit
section
variable {H : Type} {enc : TypeId × Value → H} {W : World} {base : Nat}
set_option maxRecDepth 100000 in
theorem open_readsC {v : Value} {d : DataW H} {p : List MemPlace} (ho : Value.okWide Try.prog W .any base 71 v) (h : DataW.Trod enc Try.prog W 0 (fun _ => true) true 71 v d p) :
    ∃ A n c xs, v = .slice A n c ∧ ReadsI W A n c xs ∧ (n ≤ c ∧ c ≤ maxLen) := by
  obtain ⟨A, n, c, rfl⟩ := okWide_slice Try.underlying71 ho
  obtain ⟨fuel, hf⟩ := h
  rcases open_ints Try.underlying71 Try.underlying3 (by kernel_rfl) hf with ⟨hcs, hx⟩ | ⟨a, len, cap, zs, hcs, _, hl, hm, hz, hx, hcell, hw⟩
  · have : Value.slice A n c = .slice none 0 0 := by simpa [Value.cells] using hcs
    injection this with e1 e2 e3
    subst e1 e2 e3
    exact ⟨none, 0, 0, [], rfl, ⟨rfl, Nat.zero_le _, fun h => absurd h (by omega), by simp⟩, Nat.le_refl _, Nat.zero_le _⟩
  · have : Value.slice A n c = .slice (some a) len cap := by simpa [Value.cells] using hcs
    injection this with e1 e2 e3
    subst e1 e2 e3
    simp only [if_true] at hz
    refine ⟨some a, n, c, zs.take n, rfl, ⟨by rw [List.length_take]; omega, by omega, fun hn => ?_, fun x hx => hw x (List.mem_of_mem_take hx)⟩, by omega, by omega⟩
    have hsp : a.spot = none := by
      have h0 := hcell 0 (by omega)
      cases hs : a.spot with
      | none => rfl
      | some s => simp [World.cell?, Addr.add, hs] at h0; split at h0 <;> simp at h0
    obtain ⟨b, o, sp⟩ := a
    subst hsp
    refine ⟨b, o, rfl, fun i hi => ?_⟩
    have := hcell i (by omega)
    rw [Addr.add_lit] at this
    rw [this, List.getD_eq_getElem?_getD, List.getD_eq_getElem?_getD, List.getElem?_take_of_lt hi]
end
end Go.Proofs.Ytkdpfbefdhjmcaa
