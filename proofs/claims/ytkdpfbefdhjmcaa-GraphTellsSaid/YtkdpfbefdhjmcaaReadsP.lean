/- Slices of pairs that came in. -/
import Derived.Test.YtkdpfbefdhjmcaaReads
import Derived.Deep.Slices
set_option linter.unusedVariables false
set_option linter.unusedSimpArgs false
namespace Go.Proofs.Ytkdpfbefdhjmcaa
open Go.ChangeShapes Go.WideShapes Go.ChangeAt Go.RowKit
/-- a slice of pairs of ints -/
structure ReadsP (w : World) (A : Option Addr) (n c : Nat) (xs : List (Int × Int)) : Prop where
  len : xs.length = n
  small : n ≤ maxLen
  cell : 0 < n → ∃ b o, A = some ⟨b, o, none⟩ ∧ ∀ i, i < n → w.cell? ⟨b, o + i * 2, none⟩ = some (.int .i64 (xs.getD i (0, 0)).1) ∧ w.cell? ⟨b, o + i * 2 + 1, none⟩ = some (.int .i64 (xs.getD i (0, 0)).2)
  wf : ∀ x ∈ xs, (Lit.int .i64 x.1).wf = true ∧ (Lit.int .i64 x.2).wf = true
theorem ReadsP.below {w w' : World} {A : Option Addr} {n c : Nat} {xs : List (Int × Int)} (h : ReadsP w A n c xs) (hb : Below w.heap.size w w') : ReadsP w' A n c xs := by
  refine ⟨h.len, h.small, fun hn => ?_, h.wf⟩
  obtain ⟨b, o, hA, hc⟩ := h.cell hn
  refine ⟨b, o, hA, fun i hi => ?_⟩
  have hlt := World.block_lt_of_cell? w ⟨b, o + i * 2, none⟩ (hc i hi).1
  exact ⟨(hb.cell (p := ⟨b, o + i * 2, none⟩) hlt).trans (hc i hi).1, (hb.cell (p := ⟨b, o + i * 2 + 1, none⟩) hlt).trans (hc i hi).2⟩
theorem cell_below {w w' : World} {b x : Nat} {v : Value} (h : w.cell? ⟨b, x, none⟩ = some v) (hb : Below w.heap.size w w') : w'.cell? ⟨b, x, none⟩ = some v := (hb.cell (p := ⟨b, x, none⟩) (World.block_lt_of_cell? w ⟨b, x, none⟩ h)).trans h
theorem two_of {α : Type} : ∀ {l : List α}, l.length = 2 → ∃ a b, l = [a, b]
  | [a, b], _ => ⟨a, b, rfl⟩
theorem getP_wf {xs : List (Int × Int)} (h : ∀ x ∈ xs, (Lit.int .i64 x.1).wf = true ∧ (Lit.int .i64 x.2).wf = true) (i : Nat) : Wf (xs.getD i (0, 0)) := by
  rw [List.getD_eq_getElem?_getD]
  rcases Nat.lt_or_ge i xs.length with hi | hi
  · rw [List.getElem?_eq_getElem hi]; exact h _ (List.getElem_mem hi)
  · rw [List.getElem?_eq_none hi]; exact ⟨by decide, by decide⟩
section
variable {H : Type} {enc : TypeId × Value → H} {W : World} {base : Nat}
set_option maxRecDepth 100000 in
theorem open_reads2 {v : Value} {d : DataW H} {p : List MemPlace} (ho : Value.okWide Try.prog W .any base 22 v) (h : DataW.Trod enc Try.prog W 0 (fun _ => true) true 22 v d p) :
    ∃ A n c xs, v = .slice A n c ∧ ReadsP W A n c xs := by
  obtain ⟨A, n, c, rfl⟩ := okWide_slice Try.underlying22 ho
  obtain ⟨fuel, hf⟩ := h
  have hc2 : Try.prog.cellsOf 33 = 2 := by kernel_rfl
  have hc1 : Try.prog.cellsOf 3 = 1 := by kernel_rfl
  rcases Go.Deep.open_slice Try.underlying22 hf with ⟨hcs, hx⟩ | ⟨a, len, cap, m, q, D, Pl, hcs, _, hl, hm, hmm, _, hx⟩
  · have : Value.slice A n c = .slice none 0 0 := by simpa [Value.cells] using hcs
    injection this with e1 e2 e3
    subst e1 e2 e3
    exact ⟨none, 0, 0, [], rfl, rfl, Nat.zero_le _, fun h => absurd h (by omega), by simp⟩
  · have : Value.slice A n c = .slice (some a) len cap := by simpa [Value.cells] using hcs
    injection this with e1 e2 e3
    subst e1 e2 e3
    simp only [if_true] at hmm
    have each : ∀ i, i < n → ∃ x : Int × Int, W.cell? (a.add (i * 2)) = some (.int .i64 x.1) ∧ W.cell? (a.add (i * 2 + 1)) = some (.int .i64 x.2) ∧ (Lit.int .i64 x.1).wf = true ∧ (Lit.int .i64 x.2).wf = true := by
      intro i hi
      obtain ⟨cs', h1, h2⟩ := hx i (by omega)
      rw [hc2] at h1
      obtain ⟨_, hlen, hcell⟩ := World.cells?_some h1
      obtain ⟨xs, k, _, _, _, hxl, hf2⟩ := DataW.trod_array Try.underlying33 h2
      have g0 := hf2 0 (by omega)
      have g1 := hf2 1 (by omega)
      obtain ⟨y0, y1, rfl⟩ := two_of hxl
      obtain ⟨v0, v1, rfl⟩ := two_of hlen
      rw [hc1] at g0 g1
      rw [show List.take 1 (List.drop (0 * 1) [v0, v1]) = [v0] from rfl] at g0
      rw [show List.take 1 (List.drop (1 * 1) [v0, v1]) = [v1] from rfl] at g1
      rw [show [y0, y1][0]? = some y0 from rfl] at g0
      rw [show [y0, y1][1]? = some y1 from rfl] at g1
      obtain ⟨d0, q0⟩ := y0
      obtain ⟨d1, q1⟩ := y1
      obtain ⟨n0, e0, _, w0⟩ := DataW.trod_int Try.underlying3 g0
      obtain ⟨n1, e1, _, w1⟩ := DataW.trod_int Try.underlying3 g1
      injection e0 with e0 _
      injection e1 with e1 _
      subst e0 e1
      have c0 := hcell 0 (by omega)
      have c1 := hcell 1 (by omega)
      rw [Go.Deep.add_add] at c0 c1
      exact ⟨(n0, n1), by simpa using c0, by simpa using c1, w0, w1⟩
    obtain ⟨f, hf3⟩ := Go.Deep.choose_lt each
    refine ⟨some a, n, c, (List.range n).map f, rfl, by simp, by omega, fun hn => ?_, fun x hx => ?_⟩
    · have hsp : a.spot = none := by
        have h0 := (hf3 0 hn).1
        cases hs : a.spot with
        | none => rfl
        | some s => simp [World.cell?, Addr.add, hs] at h0; split at h0 <;> simp at h0
      obtain ⟨b, o, sp⟩ := a
      subst hsp
      refine ⟨b, o, rfl, fun i hi => ?_⟩
      have := hf3 i hi
      rw [Addr.add_lit, Addr.add_lit] at this
      have e : ((List.range n).map f).getD i (0, 0) = f i := by simp [List.getD_eq_getElem?_getD, hi]
      rw [e]
      exact ⟨this.1, by rw [Nat.add_assoc]; exact this.2.1⟩
    · obtain ⟨i, hi, rfl⟩ := List.mem_map.1 hx
      exact (hf3 i (List.mem_range.1 hi)).2.2
end
end Go.Proofs.Ytkdpfbefdhjmcaa
