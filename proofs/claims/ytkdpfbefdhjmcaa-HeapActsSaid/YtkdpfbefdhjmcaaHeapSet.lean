/- 'set': an item is stored at a place, and its place in the map. -/
import Derived.Test.YtkdpfbefdhjmcaaHeap
set_option linter.unusedVariables false
set_option linter.unusedSimpArgs false
namespace Go.Proofs.Ytkdpfbefdhjmcaa
open Go.RowKit Go.Maps Go.ChangeMaps Go.MapKept HeapP
theorem zeroInt (w : World) : (zeroValue 3).run Try.prog w = .ok (.int .i64 0) w := by kernel_rfl
theorem set_world {w W : World} {hb lb mb cap : Nat} {l : List It} {m : Int → Option Nat} (h : InR w hb lb mb cap l m) {i : Nat} (hi : i < l.length) {x : It} (hx : Wf x) {es1 es2 : Array MapEntry} {ck1 ck2 : Nat}
    (hes : EntV es2 ck2 (updV (toV m) x.1 (.int .i64 i))) (hW : W = (w.setCell ⟨lb, i * 2, none⟩ (.int .i64 x.1)).setCell ⟨lb, i * 2 + 1, none⟩ (.int .i64 x.2)) (o : Obj) :
    InR (setBlock (setBlock (W.alloc o) mb (.map es1 ck1)) mb (.map es2 ck2)) hb lb mb cap (l.set i x) (upd m x.1 i) ∧ Upd (fun k => k = lb ∨ k = mb) w (setBlock (setBlock (W.alloc o) mb (.map es1 ck1)) mb (.map es2 ck2)) := by
  obtain ⟨a1, a2, a3⟩ := h.apart
  obtain ⟨s1, s2, s3⟩ := h.sizes
  have hsz : W.heap.size = w.heap.size := by rw [hW, size_setCell, size_setCell]
  have hu : Upd (fun k => k = lb ∨ k = mb) w (setBlock (setBlock (W.alloc o) mb (.map es1 ck1)) mb (.map es2 ck2)) := by
    refine upd_setBlock (upd_setBlock (upd_alloc ?_ _) (.inr rfl) _) (.inr rfl) _
    rw [hW]
    exact upd_setCell (upd_setCell (Upd.refl _ _) (.inl rfl) _) (.inl rfl) _
  refine ⟨⟨?_, ?_, ⟨es2, ck2, ?_, ?_⟩, ?_⟩, hu⟩
  · rw [List.length_set, hu.block hb s1 (by rintro (e | e) <;> omega)]
    exact h.hd
  · have r1 := ((h.row.stored (i * 2) (.int .i64 x.1)).1.stored (i * 2 + 1) (.int .i64 x.2)).1
    rw [flat_set] at r1
    have hb2 : (setBlock (setBlock (W.alloc o) mb (.map es1 ck1)) mb (.map es2 ck2)).heap[lb]? = W.heap[lb]? := by
      rw [heap_setBlock_ne (by omega), heap_setBlock_ne (by omega), heap_alloc_lt (by omega)]
    rw [← hW] at r1
    rw [List.length_set]
    refine ⟨r1.1, ?_⟩
    rcases r1.2 with ⟨e, _⟩ | ⟨g, c, cur, e, r⟩
    · cases e
    · refine .inr ⟨g, c, cur, e, ?_⟩
      simp only [Value.slice.injEq, Option.some.injEq, Addr.mk.injEq, and_true] at e
      obtain ⟨rfl, _⟩ := e
      rw [hb2]; exact r
  · exact mapAt_setBlock (by rw [size_setBlock, size_alloc]; omega)
  · rw [toV_upd]; exact hes
  · intro y hy
    rcases List.mem_or_eq_of_mem_set hy with h1 | rfl
    · exact h.wf y h1
    · exact hx
set_option maxRecDepth 100000 in
set_option maxHeartbeats 2000000 in
theorem set_any {w : World} {hb lb mb cap : Nat} {l : List It} {m : Int → Option Nat} (h : InR w hb lb mb cap l m) {i : Nat} (hi : i < l.length) {x : It} (hx : Wf x) :
    Calls Try.prog 63 #[.pointer (some ⟨hb, 0, none⟩), .int .i64 i, .agg #[.int .i64 x.1, .int .i64 x.2]] w fun e w' => e = .returned (.tuple #[]) ∧ InR w' hb lb mb cap (l.set i x) (upd m x.1 i) ∧ Upd (fun k => k = lb ∨ k = mb) w w' := by
  obtain ⟨es, ck, hmb, hes⟩ := h.map
  obtain ⟨v0, st, es1, ck1, es2, ck2, hes2, hE, hS⟩ := run_putV2 (b := mb) (t := 26) (e := 3) Try.underlying26 zeroInt hes hx.1 (.int .i64 i)
  have hfin := fun o => set_world (es1 := es1) (ck1 := ck1) h hi hx hes2 rfl o
  have c0 := h.c0
  have c1 := h.c1
  have x0 := h.i0 hi
  have x1 := h.i1 hi
  have f0 := h.row.frozenAt (i * 2)
  have f1 := h.row.frozenAt (i * 2 + 1)
  obtain ⟨a1, a2, a3⟩ := h.apart
  obtain ⟨s1, s2, s3⟩ := h.sizes
  have hl := h.len
  have hn : l.length ≤ 9223372036854775807 := by have := hl.1; have := hl.2; unfold maxLen at this; omega
  have e1 := hE ((((w.setCell ⟨lb, i * 2, none⟩ (.int .i64 x.1)).setCell ⟨lb, i * 2 + 1, none⟩ (.int .i64 x.2)).alloc (Obj.cells #[.int .i64 x.1, .int .i64 x.2] 88)).drew)
    (by rw [mapAt_drew, mapAt_alloc (by rw [size_setCell, size_setCell]; exact s3), mapAt_setCell a3, mapAt_setCell a3]; exact hmb)
  have e2 := hS (setBlock ((((w.setCell ⟨lb, i * 2, none⟩ (.int .i64 x.1)).setCell ⟨lb, i * 2 + 1, none⟩ (.int .i64 x.2)).alloc (Obj.cells #[.int .i64 x.1, .int .i64 x.2] 88)).drew) mb (.map es1 ck1))
    (mapAt_setBlock (by show mb < (World.alloc _ _).heap.size; rw [size_alloc, size_setCell, size_setCell]; omega))
  rw [setBlock_drew] at e1 e2
  have HF := Lib.hid hfin
  clear hE hS hes2 hmb hes h hl hfin
  obtain ⟨id, key⟩ := x
  go_enter Try.func63, Try.ntmps63
  go_wp2
  go_region
  go_wp2
  go_end0
  exact ⟨rfl, (HF.out _).1.kept rfl rfl rfl, upd_drew (HF.out _).2⟩
end Go.Proofs.Ytkdpfbefdhjmcaa
