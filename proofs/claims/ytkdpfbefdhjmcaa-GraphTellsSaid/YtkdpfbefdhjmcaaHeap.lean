/- heap.Heap in memory: its head, its row of items, its map of places; what 'ahead' and 'set' come to. -/
import Derived.Test.YtkdpfbefdhjmcaaKit
import Derived.Maps.OwnSet
import Derived.Maps.OwnOps
import Derived.WideKeyEntry
import Derived.Test.YtkdpfbefdhjmcaaMapV
import Derived.Test.YtkdpfbefdhjmcaaHeapPure
import Derived.BigRegion
set_option linter.unusedVariables false
set_option linter.unusedSimpArgs false
namespace Go.Proofs.Ytkdpfbefdhjmcaa
open Go.RowKit Go.Maps Go.ChangeMaps Go.MapKept HeapP
/-- all that is not of F is as it was -/
structure Upd (F : Nat → Prop) (w w' : World) : Prop where
  os : w'.os = w.os
  tape : w'.tape = w.tape
  output : w'.output = w.output
  size : w.heap.size ≤ w'.heap.size
  block : ∀ k, k < w.heap.size → ¬ F k → w'.heap[k]? = w.heap[k]?
theorem Upd.refl (F : Nat → Prop) (w : World) : Upd F w w := ⟨rfl, rfl, rfl, Nat.le_refl _, fun _ _ _ => rfl⟩
theorem Upd.of_below {F : Nat → Prop} {w w' : World} (h : Below w.heap.size w w') : Upd F w w' := ⟨h.os, h.tape, h.output, h.size, fun k hk _ => h.block k hk⟩
theorem Upd.mono {F G : Nat → Prop} {w w' : World} (h : Upd F w w') (hFG : ∀ k, k < w.heap.size → F k → G k) : Upd G w w' := ⟨h.os, h.tape, h.output, h.size, fun k hk hG => h.block k hk fun hF => hG (hFG k hk hF)⟩
theorem Upd.trans {F G : Nat → Prop} {a b c : World} (h : Upd F a b) (k : Upd G b c) (hG : ∀ i, i < a.heap.size → G i → F i) : Upd F a c :=
  ⟨k.os.trans h.os, k.tape.trans h.tape, k.output.trans h.output, Nat.le_trans h.size k.size, fun i hi hF => (k.block i (Nat.lt_of_lt_of_le hi h.size) fun g => hF (hG i hi g)).trans (h.block i hi hF)⟩
theorem Upd.below {F : Nat → Prop} {B : Nat} {w w' : World} (h : Upd F w w') (hB : B ≤ w.heap.size) (hF : ∀ k, k < B → ¬ F k) : Below B w w' := ⟨h.os, h.tape, h.output, h.size, fun k hk => h.block k (Nat.lt_of_lt_of_le hk hB) (hF k hk)⟩
theorem upd_drew {F : Nat → Prop} {w W : World} (h : Upd F w W) : Upd F w W.drew := ⟨h.os, h.tape, h.output, h.size, h.block⟩
theorem upd_drewN {F : Nat → Prop} {w W : World} (h : Upd F w W) (n : Nat) : Upd F w (W.drewN n) := ⟨h.os, h.tape, h.output, h.size, h.block⟩
theorem size_alloc (w : World) (o : Obj) : (w.alloc o).heap.size = w.heap.size + 1 := by show (w.heap.push o).size = _; simp
theorem heap_alloc_lt {w : World} {o : Obj} {b : Nat} (h : b < w.heap.size) : (w.alloc o).heap[b]? = w.heap[b]? := by
  show (w.heap.push o)[b]? = _
  rw [Array.getElem?_push, if_neg (by omega)]
theorem size_setCell (w : World) (a : Addr) (v : Value) : (w.setCell a v).heap.size = w.heap.size := by simp [World.setCell]
theorem heap_setCell_ne {w : World} {a : Addr} {v : Value} {b : Nat} (h : a.block ≠ b) : (w.setCell a v).heap[b]? = w.heap[b]? := by
  simp only [World.setCell]
  rw [Array.getElem?_modify]
  simp [h]
theorem upd_alloc {F : Nat → Prop} {w W : World} (h : Upd F w W) (o : Obj) : Upd F w (W.alloc o) :=
  ⟨h.os, h.tape, h.output, by rw [size_alloc]; exact Nat.le_succ_of_le h.size, fun k hk hF => (heap_alloc_lt (Nat.lt_of_lt_of_le hk h.size)).trans (h.block k hk hF)⟩
theorem upd_setCell {F : Nat → Prop} {w W : World} (h : Upd F w W) {a : Addr} (ha : F a.block) (v : Value) : Upd F w (W.setCell a v) :=
  ⟨h.os, h.tape, h.output, by rw [size_setCell]; exact h.size, fun k hk hF => (heap_setCell_ne (by rintro rfl; exact hF ha)).trans (h.block k hk hF)⟩
theorem upd_setBlock {F : Nat → Prop} {w W : World} (h : Upd F w W) {b : Nat} (hb : F b) (o : Obj) : Upd F w (setBlock W b o) :=
  ⟨h.os, h.tape, h.output, by rw [size_setBlock]; exact h.size, fun k hk hF => (heap_setBlock_ne (by rintro rfl; exact hF hb)).trans (h.block k hk hF)⟩
def flat (l : List It) : List Value := l.flatMap fun x => [.int .i64 x.1, .int .i64 x.2]
theorem flat_length (l : List It) : (flat l).length = l.length * 2 := by
  induction l with
  | nil => rfl
  | cons x r ih => simp only [flat, List.flatMap_cons, List.length_append, List.length_cons, List.length_nil] at *; omega
theorem flat_cons (x : It) (l : List It) : flat (x :: l) = .int .i64 x.1 :: .int .i64 x.2 :: flat l := rfl
theorem flat_append (l k : List It) : flat (l ++ k) = flat l ++ flat k := by simp [flat]
theorem flat_get0 : ∀ (l : List It) (i : Nat), i < l.length → (flat l)[i * 2]? = some (.int .i64 (g l i).1)
  | x :: l, 0, _ => rfl
  | x :: l, i + 1, h => by
    have e : (i + 1) * 2 = i * 2 + 1 + 1 := by omega
    rw [flat_cons, e, List.getElem?_cons_succ, List.getElem?_cons_succ, flat_get0 l i (by simpa using h)]
    simp [g]
theorem flat_get1 : ∀ (l : List It) (i : Nat), i < l.length → (flat l)[i * 2 + 1]? = some (.int .i64 (g l i).2)
  | x :: l, 0, _ => rfl
  | x :: l, i + 1, h => by
    have e : (i + 1) * 2 + 1 = (i * 2 + 1) + 1 + 1 := by omega
    rw [flat_cons, e, List.getElem?_cons_succ, List.getElem?_cons_succ, flat_get1 l i (by simpa using h)]
    simp [g]
theorem flat_set : ∀ (l : List It) (i : Nat) (x : It), ((flat l).set (i * 2) (.int .i64 x.1)).set (i * 2 + 1) (.int .i64 x.2) = flat (l.set i x)
  | [], i, x => by simp [flat]
  | y :: l, 0, x => by simp [flat_cons]
  | y :: l, i + 1, x => by
    have e : (i + 1) * 2 = i * 2 + 1 + 1 := by omega
    rw [flat_cons, e, List.set_cons_succ, List.set_cons_succ, List.set_cons_succ, List.set_cons_succ, flat_set l i x]
    rfl
theorem flat_take (l : List It) (n : Nat) : flat (l.take n) = (flat l).take (n * 2) := by
  induction l generalizing n with
  | nil => simp [flat]
  | cons x r ih =>
    cases n with
    | zero => simp [flat]
    | succ n =>
      have e : (n + 1) * 2 = n * 2 + 1 + 1 := by omega
      rw [List.take_succ_cons, flat_cons, flat_cons, e, List.take_succ_cons, List.take_succ_cons, ih]
def Wf (x : It) : Prop := (Lit.int .i64 x.1).wf = true ∧ (Lit.int .i64 x.2).wf = true
def toV (m : Int → Option Nat) : Int → Option Value := fun k => (m k).map fun (i : Nat) => Value.int .i64 i
theorem toV_upd (m : Int → Option Nat) (k : Int) (i : Nat) : toV (upd m k i) = updV (toV m) k (.int .i64 i) := by
  funext x; simp only [toV, upd, updV]; split <;> rfl
theorem toV_del (m : Int → Option Nat) (k : Int) : toV (del m k) = delV (toV m) k := by
  funext x; simp only [toV, del, delV]; split <;> rfl
/-- the heap's parts: head hb, row lb with room for cap, map mb -/
structure InR (w : World) (hb lb mb cap : Nat) (l : List It) (m : Int → Option Nat) : Prop where
  hd : w.heap[hb]? = some (.cells #[.slice (some ⟨lb, 0, none⟩) l.length cap, .map (some mb)] 28 (0, 0))
  row : w.ownsRow 0 88 2 (.slice (some ⟨lb, 0, none⟩) l.length cap) l.length (flat l)
  map : ∃ es ck, mapAt w mb es ck ∧ EntV es ck (toV m)
  wf : ∀ x ∈ l, Wf x
theorem InR.row_at {w : World} {hb lb mb cap : Nat} {l : List It} {m : Int → Option Nat} (h : InR w hb lb mb cap l m) : ∃ cur, w.heap[lb]? = some (.cells cur 88 (0, 0)) := by
  rcases h.row.2 with ⟨h1, _⟩ | ⟨g, c, cur, h1, _, h2, _⟩
  · cases h1
  · simp only [Value.slice.injEq, Option.some.injEq, Addr.mk.injEq, and_true] at h1
    obtain ⟨rfl, _⟩ := h1
    exact ⟨cur, h2⟩
theorem InR.apart {w : World} {hb lb mb cap : Nat} {l : List It} {m : Int → Option Nat} (h : InR w hb lb mb cap l m) : hb ≠ lb ∧ hb ≠ mb ∧ lb ≠ mb := by
  obtain ⟨cur, hr⟩ := h.row_at
  obtain ⟨es, ck, hm, _⟩ := h.map
  have hd := h.hd
  refine ⟨?_, ?_, ?_⟩
  · rintro rfl; rw [hd] at hr; simp at hr
  · rintro rfl; unfold mapAt at hm; rw [hd] at hm; simp at hm
  · rintro rfl; unfold mapAt at hm; rw [hr] at hm; simp at hm
theorem InR.sizes {w : World} {hb lb mb cap : Nat} {l : List It} {m : Int → Option Nat} (h : InR w hb lb mb cap l m) : hb < w.heap.size ∧ lb < w.heap.size ∧ mb < w.heap.size := by
  obtain ⟨cur, hr⟩ := h.row_at
  obtain ⟨es, ck, hm, _⟩ := h.map
  exact ⟨(Array.getElem?_eq_some_iff.1 h.hd).1, (Array.getElem?_eq_some_iff.1 hr).1, mapAt_lt hm⟩
theorem InR.c0 {w : World} {hb lb mb cap : Nat} {l : List It} {m : Int → Option Nat} (h : InR w hb lb mb cap l m) : w.cell? ⟨hb, 0, none⟩ = some (.slice (some ⟨lb, 0, none⟩) l.length cap) := by simp [World.cell?, h.hd]
theorem InR.c1 {w : World} {hb lb mb cap : Nat} {l : List It} {m : Int → Option Nat} (h : InR w hb lb mb cap l m) : w.cell? ⟨hb, 1, none⟩ = some (.map (some mb)) := by simp [World.cell?, h.hd]
theorem InR.i0 {w : World} {hb lb mb cap : Nat} {l : List It} {m : Int → Option Nat} (h : InR w hb lb mb cap l m) {i : Nat} (hi : i < l.length) : w.cell? ⟨lb, i * 2, none⟩ = some (.int .i64 (g l i).1) := by
  rw [h.row.cellAt (i * 2) (by omega), flat_get0 l i hi]
theorem InR.i1 {w : World} {hb lb mb cap : Nat} {l : List It} {m : Int → Option Nat} (h : InR w hb lb mb cap l m) {i : Nat} (hi : i < l.length) : w.cell? ⟨lb, i * 2 + 1, none⟩ = some (.int .i64 (g l i).2) := by
  rw [h.row.cellAt (i * 2 + 1) (by omega), flat_get1 l i hi]
theorem InR.len {w : World} {hb lb mb cap : Nat} {l : List It} {m : Int → Option Nat} (h : InR w hb lb mb cap l m) : l.length ≤ cap ∧ cap ≤ maxLen := by
  rcases h.row.2 with ⟨h1, _⟩ | ⟨g, c, cur, h1, _, h2, h3, h4, _⟩
  · cases h1
  · simp only [Value.slice.injEq, Option.some.injEq, Addr.mk.injEq, and_true] at h1
    obtain ⟨_, _, rfl⟩ := h1
    exact ⟨h3, h4⟩
/-- it stays while its blocks do -/
theorem InR.kept {w w' : World} {hb lb mb cap : Nat} {l : List It} {m : Int → Option Nat} (h : InR w hb lb mb cap l m) (h1 : w'.heap[hb]? = w.heap[hb]?) (h2 : w'.heap[lb]? = w.heap[lb]?) (h3 : w'.heap[mb]? = w.heap[mb]?) : InR w' hb lb mb cap l m := by
  refine ⟨h1.trans h.hd, ⟨h.row.1, ?_⟩, ?_, h.wf⟩
  · rcases h.row.2 with ⟨e, _⟩ | ⟨g, c, cur, e, r⟩
    · cases e
    · refine .inr ⟨g, c, cur, e, ?_⟩
      simp only [Value.slice.injEq, Option.some.injEq, Addr.mk.injEq, and_true] at e
      obtain ⟨rfl, _⟩ := e
      rw [h2]; exact r
  · obtain ⟨es, ck, hm, he⟩ := h.map
    exact ⟨es, ck, h3.trans hm, he⟩
theorem InR.upd {F : Nat → Prop} {w w' : World} {hb lb mb cap : Nat} {l : List It} {m : Int → Option Nat} (h : InR w hb lb mb cap l m) (hu : Upd F w w') (h1 : ¬ F hb) (h2 : ¬ F lb) (h3 : ¬ F mb) : InR w' hb lb mb cap l m :=
  h.kept (hu.block _ h.sizes.1 h1) (hu.block _ h.sizes.2.1 h2) (hu.block _ h.sizes.2.2 h3)

set_option maxHeartbeats 1000000 in
theorem ahead_any (x y : It) (w : World) :
    Calls Try.prog 62 #[.agg #[.int .i64 x.1, .int .i64 x.2], .agg #[.int .i64 y.1, .int .i64 y.2]] w fun e w' => e = .returned (.bool (HeapP.ahead x y)) ∧ Below w.heap.size w w' := by
  obtain ⟨a, b⟩ := x
  obtain ⟨c, d⟩ := y
  by_cases h1 : b < d
  · go_enter Try.func62, Try.ntmps62
    go_wp2
    go_ret
    exact ⟨ret_bool (by simp [HeapP.ahead, h1]), by repeat (first | exact Below.refl _ _ | refine bl_alloc ?_ _)⟩
  · by_cases h2 : (b == d) = true
    · obtain rfl : b = d := by simpa using h2
      by_cases h3 : a < c
      all_goals
        go_enter Try.func62, Try.ntmps62
        go_wp2
        go_ret
        exact ⟨ret_bool (by simp [HeapP.ahead, h3]), by repeat (first | exact Below.refl _ _ | refine bl_alloc ?_ _)⟩
    · have h2 : (b == d) = false := by simpa using h2
      go_enter Try.func62, Try.ntmps62
      go_wp2
      go_ret
      refine ⟨ret_bool ?_, by repeat (first | exact Below.refl _ _ | refine bl_alloc ?_ _)⟩
      have h2' : b ≠ d := by simpa using h2
      simp [HeapP.ahead, h1, h2']
end Go.Proofs.Ytkdpfbefdhjmcaa
