/- A row of the call's own that grows, beside a slice that a call gave: in whatever order the two come. -/
import Derived.Test.YtkdpfbefdhjmcaaAppend
set_option linter.unusedVariables false
set_option linter.unusedSimpArgs false
namespace Go.Proofs.Ytkdpfbefdhjmcaa
open Go.ChangeShapes Go.WideShapes Go.ChangeAt Go.RowKit RowP
structure RS (V w : World) (v : Value) (m : Nat) (L : List Int) : Prop where
  bl : Below V.heap.size V w
  row : w.ownsRow V.heap.size 3 1 v m (flatI L)
structure NS (w : World) (C : Option Addr) (c : Nat) (M : List Int) (v : Value) : Prop where
  rd : ReadsI w C M.length c M
  apart : ∀ b o, C = some ⟨b, o, none⟩ → b < w.heap.size ∧ v.ownBlock ≠ some b
theorem RS.start {V w : World} (h : Below V.heap.size V w) : RS V w (.slice none 0 0) 0 [] := ⟨h, World.ownsRow_nil _ _ _ _⟩
theorem RS.build {V w : World} {v : Value} {m : Nat} {L : List Int} (h : RS V w v m L) : RS V (w.alloc (.cells #[] 3)) (.slice (some ⟨w.heap.size, 0, none⟩) 0 0) 0 [] := by
  refine ⟨bl_alloc h.bl _, ?_⟩
  have h0 := own_empty w 3 1
  exact ⟨h0.1, h0.2.imp id fun ⟨g, c, cur, e, hb, r⟩ => ⟨g, c, cur, e, Nat.le_trans h.bl.size hb, r⟩⟩
theorem RS.below {V w w' : World} {v : Value} {m : Nat} {L : List Int} (h : RS V w v m L) (hb : Below w.heap.size w w') : RS V w' v m L :=
  ⟨bl_then h.bl hb, own_upd h.row (Upd.of_below (F := fun _ => False) hb) (fun _ _ h => h)⟩
theorem RS.push {V w w' : World} {v v' : Value} {m k : Nat} {L M : List Int} (h : RS V w v m L) (hg : Grown w w' V.heap.size 3 1 v v' (m + k) (flatI L ++ flatI M)) : RS V w' v' (m + k) (L ++ M) :=
  ⟨h.bl.grown hg.by_ h.bl.size (fun g hg' => (World.ownsRow.lt h.row g hg').1), by rw [flatI_append]; exact hg.row⟩
theorem NS.of {V w w' : World} {C : Option Addr} {c : Nat} {M : List Int} {v : Value} {m : Nat} {L : List Int} (h : RS V w v m L) (hr : ReadsI w' C M.length c M) (hf : ∀ b o, C = some ⟨b, o, none⟩ → w.heap.size ≤ b ∧ b < w'.heap.size) : NS w' C c M v :=
  ⟨hr, fun b o e => ⟨(hf b o e).2, fun e2 => by have := (World.ownsRow.lt h.row b e2).2; have := (hf b o e).1; omega⟩⟩
theorem NS.build {w : World} {C : Option Addr} {c : Nat} {M : List Int} {v : Value} (h : NS w C c M v) : NS (w.alloc (.cells #[] 3)) C c M (.slice (some ⟨w.heap.size, 0, none⟩) 0 0) :=
  ⟨h.rd.below (bl_alloc (Below.refl _ _) _), fun b o e => by
    have := (h.apart b o e).1
    exact ⟨by rw [size_alloc]; omega, fun e2 => by simp [Value.ownBlock] at e2; omega⟩⟩
theorem NS.push {w w' : World} {C : Option Addr} {c : Nat} {M : List Int} {v v' : Value} {B : Nat} {e : TypeId} {s n : Nat} {xs : List Value} (h : NS w C c M v) (hg : Grown w w' B e s v v' n xs) : NS w' C c M v' := by
  refine ⟨h.rd.upd (F := fun b => v.ownBlock = some b) ⟨hg.by_.os, hg.by_.tape, hg.by_.output, hg.by_.size, fun k hk hF => hg.by_.block k hk fun e => hF e.symm⟩ fun b o e _ => (h.apart b o e).2, fun b o e => ?_⟩
  obtain ⟨h1, h2⟩ := h.apart b o e
  refine ⟨Nat.lt_of_lt_of_le h1 hg.by_.size, ?_⟩
  rcases hg.lies with h3 | h3
  · rw [h3]; exact h2
  · rw [h3]; intro e2; injection e2 with e2; omega
/-- the front of what lies there, and the rest -/
theorem Src.front {w : World} {b o n c : Nat} {xs : List Int} (h : ReadsI w (some ⟨b, o, none⟩) n c xs) (hn : 0 < n) {j : Nat} (hj : j ≤ n) : Src w 1 (some ⟨b, o, none⟩) j (flatI (xs.take j)) := by
  obtain ⟨b', o', e, hc⟩ := h.cell hn
  injection e with e
  injection e with e1 e2
  subst e1 e2
  refine ⟨by rw [flatI_len, List.length_take, h.len]; omega, flat_oneflatI _, fun ad hA i u hu => ?_, fun e => by cases e⟩
  injection hA with hA
  subst hA
  have hi : i < j := by
    have := (List.getElem?_eq_some_iff.1 hu).1
    rw [flatI_len, List.length_take] at this; omega
  rw [Addr.add_lit, hc i (by omega)]
  rw [← hu]
  have := h.len
  simp [flatI, hi, List.getElem?_eq_getElem (show i < xs.length by omega)]
theorem Src.rest {w : World} {b o n c : Nat} {xs : List Int} (h : ReadsI w (some ⟨b, o, none⟩) n c xs) (hn : 0 < n) {j : Nat} (hj : j ≤ n) (o' : Nat) (ho : j < n → o' = o + j) : Src w 1 (some ⟨b, o', none⟩) (n - j) (flatI (xs.drop j)) := by
  obtain ⟨b', o1, e, hc⟩ := h.cell hn
  injection e with e
  injection e with e1 e2
  subst e1 e2
  refine ⟨by rw [flatI_len, List.length_drop, h.len], flat_oneflatI _, fun ad hA i u hu => ?_, fun e => by cases e⟩
  injection hA with hA
  subst hA
  have hi : i < n - j := by
    have := (List.getElem?_eq_some_iff.1 hu).1
    rw [flatI_len, List.length_drop, h.len] at this; omega
  rw [ho (by omega), Addr.add_lit, Nat.add_assoc, hc (j + i) (by omega)]
  rw [← hu]
  have := h.len
  simp [flatI, List.getElem?_eq_getElem (show j + i < xs.length by omega)]
end Go.Proofs.Ytkdpfbefdhjmcaa
