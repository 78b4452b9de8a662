/- heap.Heap in memory: its head, its row of items, its map of places; what 'ahead' and 'set' come to. -/
import Derived.Test.YtkkaidliocadnaaKit
import Derived.Maps.OwnSet
import Derived.Maps.OwnOps
import Derived.WideKeyEntry
import Derived.Test.YtkkaidliocadnaaHeapPure
import Derived.BigRegion
set_option linter.unusedVariables false
set_option linter.unusedSimpArgs false
namespace Go.Proofs.Ytkkaidliocadnaa
open Go.RowKit Go.Maps Go.ChangeMaps Go.MapKept HeapP
/-- all that is not of F is as it was -/
structure Upd (F : Nat → Prop) (w w' : World) : Prop where
  os : w'.os = w.os
  tape : w'.tape = w.tape
  output : w'.output = w.output
  size : w.heap.size ≤ w'.heap.size
  block : ∀ k, k < w.heap.size → ¬ F k → w'.heap[k]? = w.heap[k]?
theorem Upd.refl (F : Nat → Prop) (w : World) : Upd F w w := ⟨rfl, rfl, rfl, Nat.le_refl _, fun _ _ _ => rfl⟩
theorem Upd.of_below {F : Nat → Prop} {w w' : World} (h : Below w.heap.size w w') : Upd F w w' := ⟨h.os, h.tape, h.output, h.size, fun k hk _ => h.block k hk⟩
theorem Upd.mono {F G : Nat → Prop} {w w' : World} (h : Upd F w w') (hFG : ∀ k, k < w.heap.size → F k → G k) : Upd G w w' := ⟨h.os, h.tape, h.output, h.size, fun k hk hG => h.block k hk fun hF => hG (hFG k hk hF)⟩
theorem Upd.trans {F G : Nat → Prop} {a b c : World} (h : Upd F a b) (k : Upd G b c) (hG : ∀ i, i < a.heap.size → G i → F i) : Upd F a c :=
  ⟨k.os.trans h.os, k.tape.trans h.tape, k.output.trans h.output, Nat.le_trans h.size k.size, fun i hi hF => (k.block i (Nat.lt_of_lt_of_le hi h.size) fun g => hF (hG i hi g)).trans (h.block i hi hF)⟩
theorem Upd.below {F : Nat → Prop} {B : Nat} {w w' : World} (h : Upd F w w') (hB : B ≤ w.heap.size) (hF : ∀ k, k < B → ¬ F k) : Below B w w' := ⟨h.os, h.tape, h.output, h.size, fun k hk => h.block k (Nat.lt_of_lt_of_le hk hB) (hF k hk)⟩
theorem upd_drew {F : Nat → Prop} {w W : World} (h : Upd F w W) : Upd F w W.drew := ⟨h.os, h.tape, h.output, h.size, h.block⟩
theorem upd_drewN {F : Nat → Prop} {w W : World} (h : Upd F w W) (n : Nat) : Upd F w (W.drewN n) := ⟨h.os, h.tape, h.output, h.size, h.block⟩
theorem size_alloc (w : World) (o : Obj) : (w.alloc o).heap.size = w.heap.size + 1 := by show (w.heap.push o).size = _; simp
theorem heap_alloc_lt {w : World} {o : Obj} {b : Nat} (h : b < w.heap.size) : (w.alloc o).heap[b]? = w.heap[b]? := by
  show (w.heap.push o)[b]? = _
  rw [Array.getElem?_push, if_neg (by omega)]
theorem size_setCell (w : World) (a : Addr) (v : Value) : (w.setCell a v).heap.size = w.heap.size := by simp [World.setCell]
theorem heap_setCell_ne {w : World} {a : Addr} {v : Value} {b : Nat} (h : a.block ≠ b) : (w.setCell a v).heap[b]? = w.heap[b]? := by
  simp only [World.setCell]
  rw [Array.getElem?_modify]
  simp [h]
theorem upd_alloc {F : Nat → Prop} {w W : World} (h : Upd F w W) (o : Obj) : Upd F w (W.alloc o) :=
  ⟨h.os, h.tape, h.output, by rw [size_alloc]; exact Nat.le_succ_of_le h.size, fun k hk hF => (heap_alloc_lt (Nat.lt_of_lt_of_le hk h.size)).trans (h.block k hk hF)⟩
theorem upd_setCell {F : Nat → Prop} {w W : World} (h : Upd F w W) {a : Addr} (ha : F a.block) (v : Value) : Upd F w (W.setCell a v) :=
  ⟨h.os, h.tape, h.output, by rw [size_setCell]; exact h.size, fun k hk hF => (heap_setCell_ne (by rintro rfl; exact hF ha)).trans (h.block k hk hF)⟩
def flat (l : List It) : List Value := l.flatMap fun x => [.int .i64 x.1, .int .i64 x.2]
theorem flat_length (l : List It) : (flat l).length = l.length * 2 := by
  induction l with
  | nil => rfl
  | cons x r ih => simp only [flat, List.flatMap_cons, List.length_append, List.length_cons, List.length_nil] at *; omega
theorem flat_cons (x : It) (l : List It) : flat (x :: l) = .int .i64 x.1 :: .int .i64 x.2 :: flat l := rfl
theorem flat_append (l k : List It) : flat (l ++ k) = flat l ++ flat k := by simp [flat]
theorem flat_get0 : ∀ (l : List It) (i : Nat), i < l.length → (flat l)[i * 2]? = some (.int .i64 (g l i).1)
  | x :: l, 0, _ => rfl
  | x :: l, i + 1, h => by
    have e : (i + 1) * 2 = i * 2 + 1 + 1 := by omega
    rw [flat_cons, e, List.getElem?_cons_succ, List.getElem?_cons_succ, flat_get0 l i (by simpa using h)]
    simp [g]
theorem flat_get1 : ∀ (l : List It) (i : Nat), i < l.length → (flat l)[i * 2 + 1]? = some (.int .i64 (g l i).2)
  | x :: l, 0, _ => rfl
  | x :: l, i + 1, h => by
    have e : (i + 1) * 2 + 1 = (i * 2 + 1) + 1 + 1 := by omega
    rw [flat_cons, e, List.getElem?_cons_succ, List.getElem?_cons_succ, flat_get1 l i (by simpa using h)]
    simp [g]
theorem flat_set : ∀ (l : List It) (i : Nat) (x : It), ((flat l).set (i * 2) (.int .i64 x.1)).set (i * 2 + 1) (.int .i64 x.2) = flat (l.set i x)
  | [], i, x => by simp [flat]
  | y :: l, 0, x => by simp [flat_cons]
  | y :: l, i + 1, x => by
    have e : (i + 1) * 2 = i * 2 + 1 + 1 := by omega
    rw [flat_cons, e, List.set_cons_succ, List.set_cons_succ, List.set_cons_succ, List.set_cons_succ, flat_set l i x]
    rfl
theorem flat_take (l : List It) (n : Nat) : flat (l.take n) = (flat l).take (n * 2) := by
  induction l generalizing n with
  | nil => simp [flat]
  | cons x r ih =>
    cases n with
    | zero => simp [flat]
    | succ n =>
      have e : (n + 1) * 2 = n * 2 + 1 + 1 := by omega
      rw [List.take_succ_cons, flat_cons, flat_cons, e, List.take_succ_cons, List.take_succ_cons, ih]
def Wf (x : It) : Prop := (Lit.int .i64 x.1).wf = true ∧ (Lit.int .i64 x.2).wf = true
end Go.Proofs.Ytkkaidliocadnaa
