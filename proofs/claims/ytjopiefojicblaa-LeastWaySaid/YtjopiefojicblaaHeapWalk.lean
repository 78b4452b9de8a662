/- HeapWalk: HeapSet, HeapUp, HeapDown, HeapOps, one behind the other. -/
import Derived.Test.YtjopiefojicblaaBase
import Derived.Deep.LoopGhost
import Derived.StillTailTactics
import Derived.Maps.AppendAt
/- 'set': an item is stored at a place, and its place in the map. -/
set_option linter.unusedVariables false
set_option linter.unusedSimpArgs false
namespace Go.Proofs.Ytjopiefojicblaa
open Go.RowKit Go.Maps Go.ChangeMaps Go.MapKept HeapP
theorem zeroInt (w : World) : (zeroValue 3).run Try.prog w = .ok (.int .i64 0) w := by kernel_rfl
theorem set_world {w W : World} {hb lb mb cap : Nat} {l : List It} {m : Int → Option Nat} (h : InR w hb lb mb cap l m) {i : Nat} (hi : i < l.length) {x : It} (hx : Wf x) {es1 es2 : Array MapEntry} {ck1 ck2 : Nat}
    (hes : EntV es2 ck2 (updV (toV m) x.1 (.int .i64 i))) (hW : W = (w.setCell ⟨lb, i * 2, none⟩ (.int .i64 x.1)).setCell ⟨lb, i * 2 + 1, none⟩ (.int .i64 x.2)) (o : Obj) :
    InR (setBlock (setBlock (W.alloc o) mb (.map es1 ck1)) mb (.map es2 ck2)) hb lb mb cap (l.set i x) (upd m x.1 i) ∧ Upd (fun k => k = lb ∨ k = mb) w (setBlock (setBlock (W.alloc o) mb (.map es1 ck1)) mb (.map es2 ck2)) := by
  obtain ⟨a1, a2, a3⟩ := h.apart
  obtain ⟨s1, s2, s3⟩ := h.sizes
  have hsz : W.heap.size = w.heap.size := by rw [hW, size_setCell, size_setCell]
  have hu : Upd (fun k => k = lb ∨ k = mb) w (setBlock (setBlock (W.alloc o) mb (.map es1 ck1)) mb (.map es2 ck2)) := by
    refine upd_setBlock (upd_setBlock (upd_alloc ?_ _) (.inr rfl) _) (.inr rfl) _
    rw [hW]
    exact upd_setCell (upd_setCell (Upd.refl _ _) (.inl rfl) _) (.inl rfl) _
  refine ⟨⟨?_, ?_, ⟨es2, ck2, ?_, ?_⟩, ?_⟩, hu⟩
  · rw [List.length_set, hu.block hb s1 (by rintro (e | e) <;> omega)]
    exact h.hd
  · have r1 := ((h.row.stored (i * 2) (.int .i64 x.1)).1.stored (i * 2 + 1) (.int .i64 x.2)).1
    rw [flat_set] at r1
    have hb2 : (setBlock (setBlock (W.alloc o) mb (.map es1 ck1)) mb (.map es2 ck2)).heap[lb]? = W.heap[lb]? := by
      rw [heap_setBlock_ne (by omega), heap_setBlock_ne (by omega), heap_alloc_lt (by omega)]
    rw [← hW] at r1
    rw [List.length_set]
    refine ⟨r1.1, ?_⟩
    rcases r1.2 with ⟨e, _⟩ | ⟨g, c, cur, e, r⟩
    · cases e
    · refine .inr ⟨g, c, cur, e, ?_⟩
      simp only [Value.slice.injEq, Option.some.injEq, Addr.mk.injEq, and_true] at e
      obtain ⟨rfl, _⟩ := e
      rw [hb2]; exact r
  · exact mapAt_setBlock (by rw [size_setBlock, size_alloc]; omega)
  · rw [toV_upd]; exact hes
  · intro y hy
    rcases List.mem_or_eq_of_mem_set hy with h1 | rfl
    · exact h.wf y h1
    · exact hx
set_option maxRecDepth 100000 in
set_option maxHeartbeats 2000000 in
theorem set_any {w : World} {hb lb mb cap : Nat} {l : List It} {m : Int → Option Nat} (h : InR w hb lb mb cap l m) {i : Nat} (hi : i < l.length) {x : It} (hx : Wf x) :
    Calls Try.prog 86 #[.pointer (some ⟨hb, 0, none⟩), .int .i64 i, .agg #[.int .i64 x.1, .int .i64 x.2]] w fun e w' => e = .returned (.tuple #[]) ∧ InR w' hb lb mb cap (l.set i x) (upd m x.1 i) ∧ Upd (fun k => k = lb ∨ k = mb) w w' := by
  obtain ⟨es, ck, hmb, hes⟩ := h.map
  obtain ⟨v0, st, es1, ck1, es2, ck2, hes2, hE, hS⟩ := run_putV2 (b := mb) (t := 74) (e := 3) Try.underlying74 zeroInt hes hx.1 (.int .i64 i)
  have hfin := fun o => set_world (es1 := es1) (ck1 := ck1) h hi hx hes2 rfl o
  have c0 := h.c0
  have c1 := h.c1
  have x0 := h.i0 hi
  have x1 := h.i1 hi
  have f0 := h.row.frozenAt (i * 2)
  have f1 := h.row.frozenAt (i * 2 + 1)
  obtain ⟨a1, a2, a3⟩ := h.apart
  obtain ⟨s1, s2, s3⟩ := h.sizes
  have hl := h.len
  have hn : l.length ≤ 9223372036854775807 := by have := hl.1; have := hl.2; unfold maxLen at this; omega
  have e1 := hE ((((w.setCell ⟨lb, i * 2, none⟩ (.int .i64 x.1)).setCell ⟨lb, i * 2 + 1, none⟩ (.int .i64 x.2)).alloc (Obj.cells #[.int .i64 x.1, .int .i64 x.2] 111)).drew)
    (by rw [mapAt_drew, mapAt_alloc (by rw [size_setCell, size_setCell]; exact s3), mapAt_setCell a3, mapAt_setCell a3]; exact hmb)
  have e2 := hS (setBlock ((((w.setCell ⟨lb, i * 2, none⟩ (.int .i64 x.1)).setCell ⟨lb, i * 2 + 1, none⟩ (.int .i64 x.2)).alloc (Obj.cells #[.int .i64 x.1, .int .i64 x.2] 111)).drew) mb (.map es1 ck1))
    (mapAt_setBlock (by show mb < (World.alloc _ _).heap.size; rw [size_alloc, size_setCell, size_setCell]; omega))
  rw [setBlock_drew] at e1 e2
  have HF := Lib.hid hfin
  clear hE hS hes2 hmb hes h hl hfin
  obtain ⟨id, key⟩ := x
  go_enter Try.func86, Try.ntmps86
  go_wp2
  go_region
  go_wp2
  go_end0
  exact ⟨rfl, (HF.out _).1.kept rfl rfl rfl, upd_drew (HF.out _).2⟩
end Go.Proofs.Ytjopiefojicblaa
/- 'up' and 'down': one rises, one sinks. -/
set_option linter.unusedVariables false
set_option linter.unusedSimpArgs false
namespace Go.Proofs.Ytjopiefojicblaa
open Go.RowKit Go.Maps Go.ChangeMaps Go.MapKept HeapP
theorem heap_alloc_eq (w : World) (o : Obj) : (w.alloc o).heap[w.heap.size]? = some o := by
  show (w.heap.push o)[w.heap.size]? = _
  simp
theorem upS_stop {x : It} {l : List It} {m : Int → Option Nat} {i : Nat} (h : ¬ (0 < i ∧ HeapP.ahead x (g l ((i - 1) / 2)) = true)) : upS x l m i = (l.set i x, upd m x.1 i) := by rw [upS, dif_neg h]
theorem upS_go {x : It} {l : List It} {m : Int → Option Nat} {i : Nat} (h : 0 < i ∧ HeapP.ahead x (g l ((i - 1) / 2)) = true) : upS x l m i = upS x (l.set i (g l ((i - 1) / 2))) (upd m (g l ((i - 1) / 2)).1 i) ((i - 1) / 2) := by rw [upS, dif_pos h]
set_option maxRecDepth 100000 in
set_option maxHeartbeats 4000000 in
theorem up_any {w : World} {hb lb mb cap : Nat} {l : List It} {m : Int → Option Nat} (h : InR w hb lb mb cap l m) {i : Nat} (hi : i < l.length) :
    Calls Try.prog 77 #[.pointer (some ⟨hb, 0, none⟩), .int .i64 i] w fun e w' => e = .returned (.tuple #[]) ∧ InR w' hb lb mb cap (upS (g l i) l m i).1 (upS (g l i) l m i).2 ∧ Upd (fun k => k = lb ∨ k = mb) w w' := by
  have c0 := h.c0
  have x0 := h.i0 hi
  have x1 := h.i1 hi
  obtain ⟨s1, s2, s3⟩ := h.sizes
  have hl := h.len
  have hn : l.length ≤ 9223372036854775807 := by have := hl.1; have := hl.2; unfold maxLen at this; omega
  have hwf := h.wf _ (g_mem hi)
  obtain ⟨x, hx⟩ : ∃ x, x = g l i := ⟨_, rfl⟩
  rw [← hx] at x0 x1 hwf ⊢
  have HX := Lib.hid hx
  have HR := Lib.hid h
  have HW := Lib.hid hwf
  clear h hl hx hwf
  go_enter Try.func77, Try.ntmps77
  go_wp2_with fail
  go_loopg [1] i (fun j v wr => ∃ (l' : List It) (m' : Int → Option Nat), v = .int .i64 (j : Nat) ∧ j < l'.length ∧ l'.length = l.length ∧ InR wr hb lb mb cap l' m' ∧
    wr.heap[w.heap.size]? = some (.cells #[.int .i64 x.1, .int .i64 x.2] 111 (0, 0)) ∧ Upd (fun k => k = lb ∨ k = mb) w wr ∧ upS x l' m' j = upS x l m i)
  case atStart =>
    refine ⟨l, m, rfl, hi, rfl, HR.out.kept (heap_alloc_lt s1) (heap_alloc_lt s2) (heap_alloc_lt s3), ?_, upd_alloc (Upd.refl _ _) _, rfl⟩
    exact heap_alloc_eq _ _
  case round =>
    obtain ⟨j, hjk⟩ : ∃ j, j = gk := ⟨_, rfl⟩
    rw [← hjk] at hrel
    have HK := Lib.hid hjk
    clear hjk
    obtain ⟨l', m', rfl, hj, hlen, hin, hxb, hu, hend⟩ := hrel
    have c0' := hin.c0
    have s' := hin.sizes
    have hsz := hu.size
    have xc0 : wr.cell? ⟨w.heap.size, 0, none⟩ = some (.int .i64 x.1) := by simp [World.cell?, hxb]
    have xc1 : wr.cell? ⟨w.heap.size, 1, none⟩ = some (.int .i64 x.2) := by simp [World.cell?, hxb]
    have HIN := Lib.hid hin
    have HXB := Lib.hid hxb
    have HU := Lib.hid hu
    have HEND := Lib.hid hend
    have HLEN := Lib.hid hlen
    have hn' : l'.length ≤ 9223372036854775807 := by omega
    clear hin hxb hu hend hlen
    by_cases h0 : j = 0
    · subst h0
      have hd : decide (0 < ((0 : Nat) : Int)) = false := by decide
      go_wp2_with fail
      go_quiet (fail)
      go_wp2_with fail
      refine (set_any (by exact HIN.out.kept rfl rfl rfl) hj HW.out).mono ?_
      rintro e w2 ⟨rfl, hr2, hu2⟩
      have HR2 := Lib.hid hr2
      have HU2 := Lib.hid hu2
      clear hr2 hu2
      go_wp2_with fail
      go_end0
      have hst : upS x l' m' 0 = (l'.set 0 x, upd m' x.1 0) := upS_stop (by omega)
      refine ⟨rfl, ?_, ?_⟩
      · rw [← HEND.out, hst]; exact HR2.out
      · exact HU.out.trans (Upd.trans (upd_drewN (Upd.refl _ _) _) HU2.out fun _ _ h => h) fun _ _ h => h
    · have h0' : 0 < j := by omega
      have hd : decide (0 < j) = true := by simpa using h0'
      obtain ⟨q, hqe⟩ : ∃ q : Nat, q = (j - 1) / 2 := ⟨_, rfl⟩
      have hq : q < l'.length := by omega
      have w1 : IntKind.i64.wrap ((j : Int) - 1) = (j : Int) - 1 := IntWalk.i64_in _ (by omega)
      have w2 : IntKind.i64.wrap (((j : Int) - 1).tdiv 2) = (q : Int) := by
        rw [Int.tdiv_eq_ediv_of_nonneg (by omega), IntWalk.i64_in _ (by omega)]; omega
      have y0 := HIN.out.i0 hq
      have y1 := HIN.out.i1 hq
      have HQ := Lib.hid hqe
      clear hqe
      have hwq := HIN.out.wf _ (g_mem hq)
      have HWQ := Lib.hid hwq
      clear hwq
      cases hah : HeapP.ahead x (g l' q)
      all_goals
        go_wp2_with fail
        go_still_tail 13, (by kernel_rfl)
        change wpList _ _ _ _ _ wr.drew
        clear w1
        go_wp2_with fail
        refine (ahead_any x (g l' q) _).mono ?_
        rintro e w2 ⟨rfl, hb2⟩
        have hin2 : InR w2 hb lb mb cap l' m' := (HIN.out.kept (w' := wr.drew) rfl rfl rfl).upd (F := fun _ => False) (Upd.of_below hb2) id id id
        have hxb2 : w2.heap[w.heap.size]? = some (.cells #[.int .i64 x.1, .int .i64 x.2] 111 (0, 0)) := (hb2.block _ (Array.getElem?_eq_some_iff.1 HXB.out).1).trans HXB.out
        have hu2 : Upd (fun k => k = lb ∨ k = mb) w w2 := HU.out.trans (Upd.trans (upd_drew (Upd.refl _ _)) (Upd.of_below hb2) fun _ _ h => h) fun _ _ h => h
        have c2 := hin2.c0
        have z0 := hin2.i0 hq
        have z1 := hin2.i1 hq
        have d0 : w2.cell? ⟨w.heap.size, 0, none⟩ = some (.int .i64 x.1) := by simp [World.cell?, hxb2]
        have d1 : w2.cell? ⟨w.heap.size, 1, none⟩ = some (.int .i64 x.2) := by simp [World.cell?, hxb2]
        have HIN2 := Lib.hid hin2
        have HXB2 := Lib.hid hxb2
        have HU2 := Lib.hid hu2
        clear hin2 hxb2 hu2 hb2
        go_wp2_with fail
      · refine (set_any HIN2.out hj HW.out).mono ?_
        rintro e w3 ⟨rfl, hr3, hu3⟩
        have HR3 := Lib.hid hr3
        have HU3 := Lib.hid hu3
        clear hr3 hu3
        go_wp2_with fail
        go_end0
        have hst : upS x l' m' j = (l'.set j x, upd m' x.1 j) := upS_stop (by rw [← HQ.out, hah]; simp)
        refine ⟨rfl, ?_, ?_⟩
        · rw [← HEND.out, hst]; exact HR3.out
        · exact HU2.out.trans HU3.out fun _ _ h => h
      · refine (set_any HIN2.out hj HWQ.out).mono ?_
        rintro e w3 ⟨rfl, hr3, hu3⟩
        have HR3 := Lib.hid hr3
        have HU3 := Lib.hid hu3
        clear hr3 hu3
        go_wp2_with fail
        go_roundg q
        case measure => rw [HQ.out, ← HK.out]; omega
        case rel =>
          refine ⟨_, _, rfl, by simpa using hq, by simpa using HLEN.out, HR3.out, ?_, HU2.out.trans HU3.out fun _ _ h => h, ?_⟩
          · rw [HU3.out.block _ (Array.getElem?_eq_some_iff.1 HXB2.out).1 (by rintro (e | e) <;> omega)]; exact HXB2.out
          · rw [← HEND.out, upS_go (x := x) (l := l') (i := j) ⟨h0', by rw [← HQ.out]; exact hah⟩, ← HQ.out]
end Go.Proofs.Ytjopiefojicblaa
/- 'down': one sinks. -/
set_option linter.unusedVariables false
set_option linter.unusedSimpArgs false
namespace Go.Proofs.Ytjopiefojicblaa
open Go.RowKit Go.Maps Go.ChangeMaps Go.MapKept HeapP
theorem downS_stop {x : It} {l : List It} {m : Int → Option Nat} {i : Nat} (h : ¬ (child l i < l.length ∧ HeapP.ahead (g l (child l i)) x = true)) : downS x l m i = (l.set i x, upd m x.1 i) := by rw [downS, dif_neg h]
theorem downS_go {x : It} {l : List It} {m : Int → Option Nat} {i : Nat} (h : child l i < l.length ∧ HeapP.ahead (g l (child l i)) x = true) : downS x l m i = downS x (l.set i (g l (child l i))) (upd m (g l (child l i)).1 i) (child l i) := by rw [downS, dif_pos h]
theorem child_two {l : List It} {i : Nat} (h : 2 * i + 1 + 1 < l.length) (ha : HeapP.ahead (g l (2 * i + 1 + 1)) (g l (2 * i + 1)) = true) : child l i = 2 * i + 1 + 1 := by unfold child; rw [if_pos ⟨h, ha⟩]
theorem child_one {l : List It} {i : Nat} (h : ¬ (2 * i + 1 + 1 < l.length ∧ HeapP.ahead (g l (2 * i + 1 + 1)) (g l (2 * i + 1)) = true)) : child l i = 2 * i + 1 := by unfold child; rw [if_neg h]
theorem child_is2 {l : List It} {j k1 k2 : Nat} (h1 : k1 = 2 * j + 1) (h2 : k2 = 2 * j + 1 + 1) (h : k2 < l.length) (ha : HeapP.ahead (g l k2) (g l k1) = true) : child l j = k2 := by
  subst h1 h2; exact child_two h ha
theorem child_is1 {l : List It} {j k1 k2 : Nat} (h1 : k1 = 2 * j + 1) (h2 : k2 = 2 * j + 1 + 1) (h : ¬ (k2 < l.length ∧ HeapP.ahead (g l k2) (g l k1) = true)) : child l j = k1 := by
  subst h1 h2; exact child_one h
set_option maxRecDepth 100000 in
set_option maxHeartbeats 8000000 in
theorem down_any {w : World} {hb lb mb cap : Nat} {l : List It} {m : Int → Option Nat} (h : InR w hb lb mb cap l m) {i : Nat} (hi : i < l.length) (hsmall : l.length ≤ 1152921504606846976) :
    Calls Try.prog 78 #[.pointer (some ⟨hb, 0, none⟩), .int .i64 i] w fun e w' => e = .returned (.tuple #[]) ∧ InR w' hb lb mb cap (downS (g l i) l m i).1 (downS (g l i) l m i).2 ∧ Upd (fun k => k = lb ∨ k = mb) w w' := by
  have c0 := h.c0
  have x0 := h.i0 hi
  have x1 := h.i1 hi
  obtain ⟨s1, s2, s3⟩ := h.sizes
  have hwf := h.wf _ (g_mem hi)
  obtain ⟨x, hx⟩ : ∃ x, x = g l i := ⟨_, rfl⟩
  rw [← hx] at x0 x1 hwf ⊢
  have HX := Lib.hid hx
  have HR := Lib.hid h
  have HW := Lib.hid hwf
  clear h hx hwf
  go_enter Try.func78, Try.ntmps78
  go_wp2_with fail
  go_loopg [1] (l.length - i) (fun n v wr => ∃ (l' : List It) (m' : Int → Option Nat) (j : Nat), n = l.length - j ∧ v = .int .i64 (j : Nat) ∧ j < l'.length ∧ l'.length = l.length ∧ InR wr hb lb mb cap l' m' ∧
    wr.heap[w.heap.size]? = some (.cells #[.int .i64 x.1, .int .i64 x.2] 111 (0, 0)) ∧ Upd (fun k => k = lb ∨ k = mb) w wr ∧ downS x l' m' j = downS x l m i)
  case atStart =>
    refine ⟨l, m, i, rfl, rfl, hi, rfl, HR.out.kept (heap_alloc_lt s1) (heap_alloc_lt s2) (heap_alloc_lt s3), ?_, upd_alloc (Upd.refl _ _) _, rfl⟩
    exact heap_alloc_eq _ _
  case round =>
    obtain ⟨l', m', j, hjk, rfl, hj, hlen, hin, hxb, hu, hend⟩ := hrel
    have HK := Lib.hid hjk
    clear hjk
    have c0' := hin.c0
    have s' := hin.sizes
    have hsz := hu.size
    have HIN := Lib.hid hin
    have HXB := Lib.hid hxb
    have HU := Lib.hid hu
    have HEND := Lib.hid hend
    have hn' : l'.length ≤ 1152921504606846976 := by omega
    have HLEN := Lib.hid hlen
    clear hin hxb hu hend hlen hsmall hi x0 x1 c0
    obtain ⟨k1, hk1⟩ : ∃ k1 : Nat, k1 = 2 * j + 1 := ⟨_, rfl⟩
    obtain ⟨k2, hk2⟩ : ∃ k2 : Nat, k2 = 2 * j + 1 + 1 := ⟨_, rfl⟩
    have r1 : 2 * (j : Int) + 1 = (k1 : Int) := by omega
    have r2 : (k1 : Int) + 1 = (k2 : Int) := by omega
    have w2 : IntKind.i64.wrap (k2 : Int) = (k2 : Int) := IntWalk.i64_in _ (by omega)
    have b1 : k1 ≤ 4611686018427387904 := by omega
    have b2 : k2 ≤ 4611686018427387904 := by omega
    have HK1 := Lib.hid hk1
    have HK2 := Lib.hid hk2
    clear hk1 hk2
    -- the region that chooses the child: three ways
    by_cases h2 : k2 < l'.length
    · have h1 : k1 < l'.length := by have := HK1.out; have := HK2.out; omega
      have hd : decide (k2 < l'.length) = true := by simpa using h2
      have y0 := HIN.out.i0 h2
      have y1 := HIN.out.i1 h2
      have z0 := HIN.out.i0 h1
      have z1 := HIN.out.i1 h1
      cases hah : HeapP.ahead (g l' k2) (g l' k1)
      all_goals
        go_wp2_with fail
        go_still_tail 24, (by kernel_rfl)
        change wpList _ _ _ _ _ wr.drew
        clear w2
        go_wp2_with fail
        refine (ahead_any (g l' k2) (g l' k1) _).mono ?_
        rintro e w2 ⟨rfl, hb2⟩
        have hin2 : InR w2 hb lb mb cap l' m' := (HIN.out.kept (w' := wr.drew) rfl rfl rfl).upd (F := fun _ => False) (Upd.of_below hb2) id id id
        have hxb2 : w2.heap[w.heap.size]? = some (.cells #[.int .i64 x.1, .int .i64 x.2] 111 (0, 0)) := (hb2.block _ (Array.getElem?_eq_some_iff.1 HXB.out).1).trans HXB.out
        have hu2 : Upd (fun k => k = lb ∨ k = mb) w w2 := HU.out.trans (Upd.trans (upd_drew (Upd.refl _ _)) (Upd.of_below hb2) fun _ _ h => h) fun _ _ h => h
        clear y0 y1 z0 z1 c0' hb2 hd
      · have HCH : Hid (child l' j = k1) := Lib.hid (child_is1 HK1.out HK2.out (by rw [hah]; simp))
        have hwk := HIN.out.wf _ (g_mem h1)
        have c2 := hin2.c0
        have z0 := hin2.i0 h1
        have z1 := hin2.i1 h1
        have d0 : w2.cell? ⟨w.heap.size, 0, none⟩ = some (.int .i64 x.1) := by simp [World.cell?, hxb2]
        have d1 : w2.cell? ⟨w.heap.size, 1, none⟩ = some (.int .i64 x.2) := by simp [World.cell?, hxb2]
        have hd : decide (l'.length ≤ k1) = false := by simp; omega
        have HWK := Lib.hid hwk
        have HIN2 := Lib.hid hin2
        have HXB2 := Lib.hid hxb2
        have HU2 := Lib.hid hu2
        clear hin2 hxb2 hu2 hwk
        cases hbh : HeapP.ahead (g l' k1) x
        all_goals
          go_wp2_with fail
          go_still_tail 16, (by kernel_rfl)
          change wpList _ _ _ _ _ w2.drew
          go_wp2_with fail
          refine (ahead_any (g l' k1) x _).mono ?_
          rintro e w3 ⟨rfl, hb3⟩
          have hin3 : InR w3 hb lb mb cap l' m' := (HIN2.out.kept (w' := w2.drew) rfl rfl rfl).upd (F := fun _ => False) (Upd.of_below hb3) id id id
          have hxb3 : w3.heap[w.heap.size]? = some (.cells #[.int .i64 x.1, .int .i64 x.2] 111 (0, 0)) := (hb3.block _ (Array.getElem?_eq_some_iff.1 HXB2.out).1).trans HXB2.out
          have hu3 : Upd (fun k => k = lb ∨ k = mb) w w3 := HU2.out.trans (Upd.trans (upd_drew (Upd.refl _ _)) (Upd.of_below hb3) fun _ _ h => h) fun _ _ h => h
          have c3 := hin3.c0
          have u0 := hin3.i0 h1
          have u1 := hin3.i1 h1
          have v0 : w3.cell? ⟨w.heap.size, 0, none⟩ = some (.int .i64 x.1) := by simp [World.cell?, hxb3]
          have v1 : w3.cell? ⟨w.heap.size, 1, none⟩ = some (.int .i64 x.2) := by simp [World.cell?, hxb3]
          have HIN3 := Lib.hid hin3
          have HXB3 := Lib.hid hxb3
          have HU3 := Lib.hid hu3
          clear hin3 hxb3 hu3 hb3 z0 z1 d0 d1 c2 hd
          go_wp2_with fail
        · have HST : Hid (downS x l' m' j = (l'.set j x, upd m' x.1 j)) := Lib.hid (downS_stop (by rw [HCH.out, hbh]; simp))
          refine (set_any HIN3.out hj HW.out).mono ?_
          rintro e w4 ⟨rfl, hr4, hu4⟩
          have HR4 := Lib.hid hr4
          have HU4 := Lib.hid hu4
          clear hr4 hu4
          go_wp2_with fail
          go_end0
          refine ⟨rfl, ?_, ?_⟩
          · rw [← HEND.out, HST.out]; exact HR4.out
          · exact HU3.out.trans HU4.out fun _ _ h => h
        · refine (set_any HIN3.out hj HWK.out).mono ?_
          rintro e w4 ⟨rfl, hr4, hu4⟩
          have HR4 := Lib.hid hr4
          have HU4 := Lib.hid hu4
          clear hr4 hu4
          go_wp2_with fail
          go_roundg (l.length - k1)
          case measure => rw [HK.out]; have := HK1.out; have := HK2.out; have := HLEN.out; omega
          case rel =>
            refine ⟨_, _, k1, rfl, rfl, by simpa using h1, by simpa using HLEN.out, HR4.out, ?_, HU3.out.trans HU4.out fun _ _ h => h, ?_⟩
            · rw [HU4.out.block _ (Array.getElem?_eq_some_iff.1 HXB3.out).1 (by rintro (e | e) <;> omega)]; exact HXB3.out
            · rw [← HEND.out, downS_go (x := x) (l := l') (i := j) (by rw [HCH.out]; exact ⟨h1, hbh⟩), HCH.out]
      · have HCH : Hid (child l' j = k2) := Lib.hid (child_is2 HK1.out HK2.out h2 hah)
        have hwk := HIN.out.wf _ (g_mem h2)
        have c2 := hin2.c0
        have z0 := hin2.i0 h2
        have z1 := hin2.i1 h2
        have d0 : w2.cell? ⟨w.heap.size, 0, none⟩ = some (.int .i64 x.1) := by simp [World.cell?, hxb2]
        have d1 : w2.cell? ⟨w.heap.size, 1, none⟩ = some (.int .i64 x.2) := by simp [World.cell?, hxb2]
        have hd : decide (l'.length ≤ k2) = false := by simp; omega
        have HWK := Lib.hid hwk
        have HIN2 := Lib.hid hin2
        have HXB2 := Lib.hid hxb2
        have HU2 := Lib.hid hu2
        clear hin2 hxb2 hu2 hwk
        cases hbh : HeapP.ahead (g l' k2) x
        all_goals
          go_wp2_with fail
          go_still_tail 16, (by kernel_rfl)
          change wpList _ _ _ _ _ w2.drew
          go_wp2_with fail
          refine (ahead_any (g l' k2) x _).mono ?_
          rintro e w3 ⟨rfl, hb3⟩
          have hin3 : InR w3 hb lb mb cap l' m' := (HIN2.out.kept (w' := w2.drew) rfl rfl rfl).upd (F := fun _ => False) (Upd.of_below hb3) id id id
          have hxb3 : w3.heap[w.heap.size]? = some (.cells #[.int .i64 x.1, .int .i64 x.2] 111 (0, 0)) := (hb3.block _ (Array.getElem?_eq_some_iff.1 HXB2.out).1).trans HXB2.out
          have hu3 : Upd (fun k => k = lb ∨ k = mb) w w3 := HU2.out.trans (Upd.trans (upd_drew (Upd.refl _ _)) (Upd.of_below hb3) fun _ _ h => h) fun _ _ h => h
          have c3 := hin3.c0
          have u0 := hin3.i0 h2
          have u1 := hin3.i1 h2
          have v0 : w3.cell? ⟨w.heap.size, 0, none⟩ = some (.int .i64 x.1) := by simp [World.cell?, hxb3]
          have v1 : w3.cell? ⟨w.heap.size, 1, none⟩ = some (.int .i64 x.2) := by simp [World.cell?, hxb3]
          have HIN3 := Lib.hid hin3
          have HXB3 := Lib.hid hxb3
          have HU3 := Lib.hid hu3
          clear hin3 hxb3 hu3 hb3 z0 z1 d0 d1 c2 hd
          go_wp2_with fail
        · have HST : Hid (downS x l' m' j = (l'.set j x, upd m' x.1 j)) := Lib.hid (downS_stop (by rw [HCH.out, hbh]; simp))
          refine (set_any HIN3.out hj HW.out).mono ?_
          rintro e w4 ⟨rfl, hr4, hu4⟩
          have HR4 := Lib.hid hr4
          have HU4 := Lib.hid hu4
          clear hr4 hu4
          go_wp2_with fail
          go_end0
          refine ⟨rfl, ?_, ?_⟩
          · rw [← HEND.out, HST.out]; exact HR4.out
          · exact HU3.out.trans HU4.out fun _ _ h => h
        · refine (set_any HIN3.out hj HWK.out).mono ?_
          rintro e w4 ⟨rfl, hr4, hu4⟩
          have HR4 := Lib.hid hr4
          have HU4 := Lib.hid hu4
          clear hr4 hu4
          go_wp2_with fail
          go_roundg (l.length - k2)
          case measure => rw [HK.out]; have := HK1.out; have := HK2.out; have := HLEN.out; omega
          case rel =>
            refine ⟨_, _, k2, rfl, rfl, by simpa using h2, by simpa using HLEN.out, HR4.out, ?_, HU3.out.trans HU4.out fun _ _ h => h, ?_⟩
            · rw [HU4.out.block _ (Array.getElem?_eq_some_iff.1 HXB3.out).1 (by rintro (e | e) <;> omega)]; exact HXB3.out
            · rw [← HEND.out, downS_go (x := x) (l := l') (i := j) (by rw [HCH.out]; exact ⟨h2, hbh⟩), HCH.out]
    · have HCH : Hid (child l' j = k1) := Lib.hid (child_is1 HK1.out HK2.out (fun h => h2 h.1))
      have hd : decide (k2 < l'.length) = false := by simpa using h2
      go_wp2_with fail
      go_quiet (fail)
      clear w2
      obtain ⟨w2, hw2⟩ : ∃ w2, w2 = wr.drewN nq := ⟨_, rfl⟩
      rw [← hw2]
      have hin2 : InR w2 hb lb mb cap l' m' := by rw [hw2]; exact HIN.out.kept rfl rfl rfl
      have hxb2 : w2.heap[w.heap.size]? = some (.cells #[.int .i64 x.1, .int .i64 x.2] 111 (0, 0)) := by rw [hw2]; exact HXB.out
      have hu2 : Upd (fun k => k = lb ∨ k = mb) w w2 := by rw [hw2]; exact upd_drewN HU.out _
      clear hw2 hd c0' h2
      by_cases h1 : k1 < l'.length
      · skip
        have hwk := HIN.out.wf _ (g_mem h1)
        have c2 := hin2.c0
        have z0 := hin2.i0 h1
        have z1 := hin2.i1 h1
        have d0 : w2.cell? ⟨w.heap.size, 0, none⟩ = some (.int .i64 x.1) := by simp [World.cell?, hxb2]
        have d1 : w2.cell? ⟨w.heap.size, 1, none⟩ = some (.int .i64 x.2) := by simp [World.cell?, hxb2]
        have hd : decide (l'.length ≤ k1) = false := by simp; omega
        have HWK := Lib.hid hwk
        have HIN2 := Lib.hid hin2
        have HXB2 := Lib.hid hxb2
        have HU2 := Lib.hid hu2
        clear hin2 hxb2 hu2 hwk
        cases hbh : HeapP.ahead (g l' k1) x
        all_goals
          go_wp2_with fail
          go_still_tail 16, (by kernel_rfl)
          change wpList _ _ _ _ _ w2.drew
          go_wp2_with fail
          refine (ahead_any (g l' k1) x _).mono ?_
          rintro e w3 ⟨rfl, hb3⟩
          have hin3 : InR w3 hb lb mb cap l' m' := (HIN2.out.kept (w' := w2.drew) rfl rfl rfl).upd (F := fun _ => False) (Upd.of_below hb3) id id id
          have hxb3 : w3.heap[w.heap.size]? = some (.cells #[.int .i64 x.1, .int .i64 x.2] 111 (0, 0)) := (hb3.block _ (Array.getElem?_eq_some_iff.1 HXB2.out).1).trans HXB2.out
          have hu3 : Upd (fun k => k = lb ∨ k = mb) w w3 := HU2.out.trans (Upd.trans (upd_drew (Upd.refl _ _)) (Upd.of_below hb3) fun _ _ h => h) fun _ _ h => h
          have c3 := hin3.c0
          have u0 := hin3.i0 h1
          have u1 := hin3.i1 h1
          have v0 : w3.cell? ⟨w.heap.size, 0, none⟩ = some (.int .i64 x.1) := by simp [World.cell?, hxb3]
          have v1 : w3.cell? ⟨w.heap.size, 1, none⟩ = some (.int .i64 x.2) := by simp [World.cell?, hxb3]
          have HIN3 := Lib.hid hin3
          have HXB3 := Lib.hid hxb3
          have HU3 := Lib.hid hu3
          clear hin3 hxb3 hu3 hb3 z0 z1 d0 d1 c2 hd
          go_wp2_with fail
        · have HST : Hid (downS x l' m' j = (l'.set j x, upd m' x.1 j)) := Lib.hid (downS_stop (by rw [HCH.out, hbh]; simp))
          refine (set_any HIN3.out hj HW.out).mono ?_
          rintro e w4 ⟨rfl, hr4, hu4⟩
          have HR4 := Lib.hid hr4
          have HU4 := Lib.hid hu4
          clear hr4 hu4
          go_wp2_with fail
          go_end0
          refine ⟨rfl, ?_, ?_⟩
          · rw [← HEND.out, HST.out]; exact HR4.out
          · exact HU3.out.trans HU4.out fun _ _ h => h
        · refine (set_any HIN3.out hj HWK.out).mono ?_
          rintro e w4 ⟨rfl, hr4, hu4⟩
          have HR4 := Lib.hid hr4
          have HU4 := Lib.hid hu4
          clear hr4 hu4
          go_wp2_with fail
          go_roundg (l.length - k1)
          case measure => rw [HK.out]; have := HK1.out; have := HK2.out; have := HLEN.out; omega
          case rel =>
            refine ⟨_, _, k1, rfl, rfl, by simpa using h1, by simpa using HLEN.out, HR4.out, ?_, HU3.out.trans HU4.out fun _ _ h => h, ?_⟩
            · rw [HU4.out.block _ (Array.getElem?_eq_some_iff.1 HXB3.out).1 (by rintro (e | e) <;> omega)]; exact HXB3.out
            · rw [← HEND.out, downS_go (x := x) (l := l') (i := j) (by rw [HCH.out]; exact ⟨h1, hbh⟩), HCH.out]
      · have c2 := hin2.c0
        have d0 : w2.cell? ⟨w.heap.size, 0, none⟩ = some (.int .i64 x.1) := by simp [World.cell?, hxb2]
        have d1 : w2.cell? ⟨w.heap.size, 1, none⟩ = some (.int .i64 x.2) := by simp [World.cell?, hxb2]
        have hd : decide (l'.length ≤ k1) = true := by simp; omega
        have HIN2 := Lib.hid hin2
        have HXB2 := Lib.hid hxb2
        have HU2 := Lib.hid hu2
        have HST : Hid (downS x l' m' j = (l'.set j x, upd m' x.1 j)) := Lib.hid (downS_stop (by rw [HCH.out]; omega))
        clear hin2 hxb2 hu2
        go_wp2_with fail
        go_quiet (fail)
        go_wp2_with fail
        have HIN3 : Hid (InR (w2.drewN nq) hb lb mb cap l' m') := Lib.hid (HIN2.out.kept rfl rfl rfl)
        have HU3 : Hid (Upd (fun k => k = lb ∨ k = mb) w (w2.drewN nq)) := Lib.hid (upd_drewN HU2.out _)
        refine (set_any HIN3.out hj HW.out).mono ?_
        rintro e w4 ⟨rfl, hr4, hu4⟩
        have HR4 := Lib.hid hr4
        have HU4 := Lib.hid hu4
        clear hr4 hu4
        go_wp2_with fail
        go_end0
        refine ⟨rfl, ?_, ?_⟩
        · rw [← HEND.out, HST.out]; exact HR4.out
        · exact HU3.out.trans HU4.out fun _ _ h => h
end Go.Proofs.Ytjopiefojicblaa
/- heap.Heap's Len, Key, Push, Pop, said of its parts. -/
set_option linter.unusedVariables false
set_option linter.unusedSimpArgs false
namespace Go.Proofs.Ytjopiefojicblaa
open Go.RowKit Go.Maps Go.ChangeMaps Go.MapKept HeapP
theorem infoItem : (Try.prog.info? 111).map (fun i => (i.zero, i.size, i.bytes)) = some (some (.agg #[.int .i64 0, .int .i64 0]), 2, 16) := by kernel_rfl
def Head (w : World) (hb : Nat) (lv mv : Value) : Prop := w.heap[hb]? = some (.cells #[lv, mv] 76 (0, 0))
theorem Head.c0 {w : World} {hb : Nat} {lv mv : Value} (h : Head w hb lv mv) : w.cell? ⟨hb, 0, none⟩ = some lv := by unfold Head at h; simp [World.cell?, h]
theorem Head.c1 {w : World} {hb : Nat} {lv mv : Value} (h : Head w hb lv mv) : w.cell? ⟨hb, 1, none⟩ = some mv := by unfold Head at h; simp [World.cell?, h]
theorem Head.fr {w : World} {hb : Nat} {lv mv : Value} (h : Head w hb lv mv) (o : Nat) : w.frozen? ⟨hb, o, none⟩ = false := by unfold Head at h; simp [World.frozen?, h]
theorem Head.lt {w : World} {hb : Nat} {lv mv : Value} (h : Head w hb lv mv) : hb < w.heap.size := (Array.getElem?_eq_some_iff.1 h).1
theorem InR.head {w : World} {hb lb mb cap : Nat} {l : List It} {m : Int → Option Nat} (h : InR w hb lb mb cap l m) : Head w hb (.slice (some ⟨lb, 0, none⟩) l.length cap) (.map (some mb)) := h.hd
set_option maxHeartbeats 1000000 in
theorem len_any {w : World} {hb n cap : Nat} {A : Option Addr} {mv : Value} (h : Head w hb (.slice A n cap) mv) : Calls Try.prog 50 #[.pointer (some ⟨hb, 0, none⟩)] w fun e w' => e = .returned (.int .i64 n) ∧ w = w' := by
  have c0 := h.c0
  go_enter Try.func50, Try.ntmps50
  go_wp2
  go_ret
  exact ⟨rfl, rfl⟩
set_option maxHeartbeats 1000000 in
theorem len_nil (w : World) : Calls Try.prog 50 #[.pointer none] w fun e w' => e = .returned (.int .i64 0) ∧ w = w' := by
  go_enter Try.func50, Try.ntmps50
  go_wp2
  go_ret
  exact ⟨rfl, rfl⟩
set_option maxHeartbeats 1000000 in
theorem push_nil (id key : Int) (w : World) : Calls Try.prog 49 #[.pointer none, .int .i64 id, .int .i64 key] w fun e w' => e = .returned (.bool false) ∧ w = w' := by
  go_enter Try.func49, Try.ntmps49
  go_wp2
  go_ret
  exact ⟨rfl, rfl⟩
set_option maxRecDepth 100000 in
set_option maxHeartbeats 1000000 in
theorem push_no {w : World} {hb lb mb cap : Nat} {l : List It} {m : Int → Option Nat} (h : InR w hb lb mb cap l m) {id key : Int} (hw : (Lit.int .i64 id).wf = true) {j : Nat} (hm : m id = some j) (hj : j < l.length) (hk : (g l j).2 ≤ key) :
    Calls Try.prog 49 #[.pointer (some ⟨hb, 0, none⟩), .int .i64 id, .int .i64 key] w fun e w' => e = .returned (.bool false) ∧ w = w' := by
  have c0 := h.c0
  have c1 := h.c1
  have y1 := h.i1 hj
  obtain ⟨es, ck, hmb, hes⟩ := h.map
  have hrun := run_lookV (t := 74) Try.underlying74 zeroInt hes hw hmb
  rw [show toV m id = some (.int .i64 j) by simp [toV, hm]] at hrun
  simp only [Option.getD_some, Option.isSome_some] at hrun
  have hl := h.len
  have hn : l.length ≤ 9223372036854775807 := by have := hl.1; have := hl.2; unfold maxLen at this; omega
  clear hes hmb h hm hl
  have heq := Go.run_eql_map_nil (P := Try.prog) w 74 3 3 (some mb) Try.underlying74
  go_enter Try.func49, Try.ntmps49
  go_wp2
  go_ret
  exact ⟨rfl, rfl⟩
/-- one item's key is written -/
theorem InR.setKey {w : World} {hb lb mb cap : Nat} {l : List It} {m : Int → Option Nat} (h : InR w hb lb mb cap l m) {j : Nat} (hj : j < l.length) {id key : Int} (hid : (g l j).1 = id) (hk : (Lit.int .i64 key).wf = true) :
    InR (w.setCell ⟨lb, j * 2 + 1, none⟩ (.int .i64 key)) hb lb mb cap (l.set j (id, key)) m := by
  obtain ⟨a1, a2, a3⟩ := h.apart
  have hfl : (flat l).set (j * 2 + 1) (.int .i64 key) = flat (l.set j (id, key)) := by
    rw [← flat_set]
    congr 1
    have hl : j * 2 < (flat l).length := by rw [flat_length]; omega
    have h0 := flat_get0 l j hj
    rw [List.getElem?_eq_getElem hl] at h0
    have h0' := Option.some.inj h0
    rw [hid] at h0'
    rw [← h0', List.set_getElem_self]
  have hr := (h.row.stored (j * 2 + 1) (.int .i64 key)).1
  rw [hfl] at hr
  refine ⟨?_, ?_, ?_, ?_⟩
  · rw [List.length_set, heap_setCell_ne (Ne.symm a1)]; exact h.hd
  · rw [List.length_set]; exact hr
  · obtain ⟨es, ck, hmb, hes⟩ := h.map
    exact ⟨es, ck, by rw [mapAt_setCell a3]; exact hmb, hes⟩
  · intro y hy
    rcases List.mem_or_eq_of_mem_set hy with h1 | rfl
    · exact h.wf y h1
    · exact ⟨by rw [← hid]; exact (h.wf _ (g_mem hj)).1, hk⟩
set_option maxRecDepth 100000 in
set_option maxHeartbeats 2000000 in
theorem push_lower {w : World} {hb lb mb cap : Nat} {l : List It} {m : Int → Option Nat} (h : InR w hb lb mb cap l m) {id key : Int} (hw : (Lit.int .i64 id).wf = true) (hwk : (Lit.int .i64 key).wf = true) {j : Nat} (hm : m id = some j) (hj : j < l.length) (hid : (g l j).1 = id) (hk : key < (g l j).2) :
    Calls Try.prog 49 #[.pointer (some ⟨hb, 0, none⟩), .int .i64 id, .int .i64 key] w fun e w' => e = .returned (.bool true) ∧
      InR w' hb lb mb cap (upS (id, key) (l.set j (id, key)) m j).1 (upS (id, key) (l.set j (id, key)) m j).2 ∧ Upd (fun k => k = lb ∨ k = mb) w w' := by
  have c0 := h.c0
  have c1 := h.c1
  have y1 := h.i1 hj
  have f1 := h.row.frozenAt (j * 2 + 1)
  obtain ⟨a1, a2, a3⟩ := h.apart
  obtain ⟨es, ck, hmb, hes⟩ := h.map
  have hrun := run_lookV (t := 74) Try.underlying74 zeroInt hes hw hmb
  rw [show toV m id = some (.int .i64 j) by simp [toV, hm]] at hrun
  simp only [Option.getD_some, Option.isSome_some] at hrun
  have hl := h.len
  have hn : l.length ≤ 9223372036854775807 := by have := hl.1; have := hl.2; unfold maxLen at this; omega
  have hset := h.setKey hj hid hwk
  have HS := Lib.hid hset
  have HG : Hid (g (l.set j (id, key)) j = (id, key)) := Lib.hid (g_set_eq hj)
  have HJ : Hid (j < (l.set j (id, key)).length) := Lib.hid (by simpa using hj)
  clear hes hmb h hm hl hset hid
  have heq := Go.run_eql_map_nil (P := Try.prog) w 74 3 3 (some mb) Try.underlying74
  go_enter Try.func49, Try.ntmps49
  go_wp2_with fail
  refine (up_any HS.out HJ.out).mono ?_
  rintro e w2 ⟨rfl, hr2, hu2⟩
  have HR2 := Lib.hid hr2
  have HU2 := Lib.hid hu2
  clear hr2 hu2
  go_wp2_with fail
  go_ret
  refine ⟨rfl, ?_, ?_⟩
  · have := HR2.out; rw [HG.out] at this; exact this
  · exact (upd_setCell (Upd.refl _ _) (.inl rfl) _).trans HU2.out fun _ _ h => h
/-- the row has grown by one -/
theorem InR.grown {w W : World} {hb lb mb cap : Nat} {l : List It} {m : Int → Option Nat} (h : InR w hb lb mb cap l m) {x : It} (hx : Wf x) {lb' cap' : Nat} {F : Nat → Prop} (hu : Upd F w W) (hF : ∀ k, F k → k = lb) (hrow : W.ownsRow 0 111 2 (.slice (some ⟨lb', 0, none⟩) (l.length + 1) cap') (l.length + 1) (flat l ++ [.int .i64 x.1, .int .i64 x.2])) :
    InR (W.setCell ⟨hb, 0, none⟩ (.slice (some ⟨lb', 0, none⟩) (l.length + 1) cap')) hb lb' mb cap' (l ++ [x]) m := by
  obtain ⟨a1, a2, a3⟩ := h.apart
  obtain ⟨s1, s2, s3⟩ := h.sizes
  have hh : W.heap[hb]? = some (.cells #[.slice (some ⟨lb, 0, none⟩) l.length cap, .map (some mb)] 76 (0, 0)) := (hu.block hb s1 (fun e => a1 (hF _ e))).trans h.hd
  have hm : W.heap[mb]? = w.heap[mb]? := hu.block mb s3 (fun e => a3 (hF _ e).symm)
  have hne : hb ≠ lb' := by
    rintro rfl
    rcases hrow.2 with ⟨e, _⟩ | ⟨g, c, cur, e, _, h2, _⟩
    · cases e
    · simp only [Value.slice.injEq, Option.some.injEq, Addr.mk.injEq, and_true] at e
      obtain ⟨rfl, _⟩ := e
      rw [hh] at h2; simp at h2
  refine ⟨?_, ⟨?_, ?_⟩, ?_, ?_⟩
  · rw [List.length_append]
    simp only [World.setCell]
    rw [Array.getElem?_modify]
    simp [hh]
  · rw [flat_length]
  · rw [List.length_append, flat_append]
    rcases hrow.2 with ⟨e, _⟩ | ⟨g, c, cur, e, r⟩
    · cases e
    · refine .inr ⟨g, c, cur, e, ?_⟩
      simp only [Value.slice.injEq, Option.some.injEq, Addr.mk.injEq, and_true] at e
      obtain ⟨rfl, _⟩ := e
      rw [heap_setCell_ne hne]; exact r
  · obtain ⟨es, ck, hmb, hes⟩ := h.map
    exact ⟨es, ck, by rw [mapAt_setCell a2]; exact hm.trans hmb, hes⟩
  · intro y hy
    rcases List.mem_append.1 hy with h1 | h1
    · exact h.wf y h1
    · rw [List.mem_singleton.1 h1]; exact hx
theorem own_formH {w : World} {e : TypeId} {size n : Nat} {v : Value} {xs : List Value} (h : w.ownsRow 0 e size v n xs) (hn : 0 < n) : ∃ g cap, v = .slice (some ⟨g, 0, none⟩) n cap := by
  rcases h.2 with ⟨_, h0⟩ | ⟨g, c, cur, e, _⟩
  · omega
  · exact ⟨g, c, e⟩
theorem upd_grown {w W w1 : World} {row : Option Nat} (hu : Upd (fun _ => False) w W) (hg : W.grownBy w1 row) : Upd (fun k => some k = row) w w1 :=
  ⟨hg.os.trans hu.os, hg.tape.trans hu.tape, hg.output.trans hu.output, Nat.le_trans hu.size hg.size, fun k hk hn => (hg.block k (Nat.lt_of_lt_of_le hk hu.size) hn).trans (hu.block k hk id)⟩
set_option maxRecDepth 100000 in
set_option maxHeartbeats 4000000 in
theorem push_fresh {w : World} {hb lb mb cap : Nat} {l : List It} {m : Int → Option Nat} (h : InR w hb lb mb cap l m) {id key : Int} (hw : (Lit.int .i64 id).wf = true) (hwk : (Lit.int .i64 key).wf = true) (hm : m id = none) (hsmall : l.length ≤ 1099511627776) :
    Calls Try.prog 49 #[.pointer (some ⟨hb, 0, none⟩), .int .i64 id, .int .i64 key] w fun e w' => e = .returned (.bool true) ∧
      ∃ lb' cap', InR w' hb lb' mb cap' (upS (id, key) (l ++ [(id, key)]) m l.length).1 (upS (id, key) (l ++ [(id, key)]) m l.length).2 ∧ (lb' = lb ∨ w.heap.size ≤ lb') ∧ Upd (fun k => k = hb ∨ k = lb ∨ k = mb) w w' := by
  have hh := h.head
  have c0 := h.c0
  have c1 := h.c1
  obtain ⟨a1, a2, a3⟩ := h.apart
  obtain ⟨s1, s2, s3⟩ := h.sizes
  obtain ⟨es, ck, hmb, hes⟩ := h.map
  have hrun := run_lookV (t := 74) Try.underlying74 zeroInt hes hw hmb
  rw [show toV m id = none by simp [toV, hm]] at hrun
  simp only [Option.getD_none, Option.isSome_none] at hrun
  obtain ⟨i0, hi, hz0, hz1, hz2⟩ := info_parts infoItem
  have HR := Lib.hid h
  have HH := Lib.hid hh
  have HWF : Hid (Wf (id, key)) := Lib.hid ⟨hw, hwk⟩
  have HI := Lib.hid (And.intro hi (And.intro hz0 (And.intro hz1 hz2)))
  clear hes hmb h hm hh hw hwk hi hz0 hz1 hz2
  have heq := Go.run_eql_map_nil (P := Try.prog) w 74 3 3 (some mb) Try.underlying74
  go_enter Try.func49, Try.ntmps49
  go_wp2_with (at_builtin; refine wpList_append_own_at _ rfl _ _ 73 rfl 0 111 i0 (.agg #[.int .i64 0, .int .i64 0]) 2 16 Try.underlying73 HI.out.1 HI.out.2.1 HI.out.2.2.1 HI.out.2.2.2 rfl (by decide) _ _ _ rfl (HR.out.row.alloc _) ⟨w.heap.size, 0, none⟩ 1 1 [.int .i64 id, .int .i64 key] rfl rfl ?c1 ?c2 ?c3 ?c4 ?c5 ?_)
  case c1 => exact cell_two_new _ _ _ _
  case c2 => intro u hu; simp only [List.mem_cons, List.not_mem_nil, or_false] at hu; rcases hu with rfl | rfl <;> rfl
  case c3 => unfold maxLen; omega
  case c4 => omega
  case c5 => omega
  intro v' w1 hown' hgrow _ hloc
  obtain ⟨lb', cap', hv⟩ := own_formH hown' (by omega)
  rw [hv] at hown' hloc ⊢
  have hu1 : Upd (fun k => some k = some lb) w w1 := upd_grown (upd_alloc (Upd.refl _ _) _) hgrow
  have hloc' : lb' = lb ∨ w.heap.size ≤ lb' := by
    simp only [Value.ownBlock, Option.some.injEq, size_alloc] at hloc; omega
  have hin2 := HR.out.grown HWF.out hu1 (fun k e => by simpa using e) hown'
  have hd1 : Head w1 hb (.slice (some ⟨lb, 0, none⟩) l.length cap) (.map (some mb)) := (hu1.block hb s1 (fun e => a1 (by simpa using e))).trans HH.out
  have hj : l.length < (l ++ [((id, key) : It)]).length := by simp
  have hg2 : g (l ++ [((id, key) : It)]) l.length = (id, key) := g_append_last l (id, key)
  have hin3 := hin2.setKey hj (id := id) (key := key) (by rw [hg2]) HWF.out.2
  rw [set_append_last] at hin3
  have d0 := hd1.c0
  have d0f := hd1.fr 0
  have e0 := hin2.c0
  have e1 := hin2.i1 hj
  have f1 := hin2.row.frozenAt (l.length * 2 + 1)
  rw [hg2] at e1
  rw [List.length_append, List.length_singleton] at e0
  have hne : hb ≠ lb' := hin2.apart.1
  have HL := Lib.hid hloc'
  have HIN3 := Lib.hid hin3
  have HJ := Lib.hid hj
  have HG2 := Lib.hid hg2
  have HU1 := Lib.hid hu1
  clear hloc' hin3 hin2 hd1 hj hg2 hu1 hgrow hown' hloc hv c0 c1 hrun heq
  go_wp2_with fail
  refine (up_any HIN3.out HJ.out).mono ?_
  rintro e w4 ⟨rfl, hr4, hu4⟩
  have HR4 := Lib.hid hr4
  have HU4 := Lib.hid hu4
  clear hr4 hu4
  go_wp2_with fail
  go_ret
  refine ⟨rfl, lb', cap', ?_, HL.out, ?_⟩
  · have := HR4.out; rw [HG2.out] at this; exact this
  · have hlo := HL.out
    have u1 : Upd (fun k => k = hb ∨ k = lb ∨ k = mb) w w1 := HU1.out.mono fun k _ e => .inr (.inl (by simpa using e))
    have u2 : Upd (fun k => k = hb ∨ k = lb' ∨ k = mb) w1 _ := upd_setCell (upd_setCell (Upd.refl _ w1) (a := ⟨hb, 0, none⟩) (.inl rfl) (.slice (some ⟨lb', 0, none⟩) (l.length + 1) cap')) (a := ⟨lb', l.length * 2 + 1, none⟩) (.inr (.inl rfl)) (.int .i64 key)
    refine u1.trans (u2.trans (HU4.out.mono fun k _ e => ?_) fun _ _ h => h) fun k hk e => ?_
    · exact .inr e
    · omega
theorem InR.first {W : World} {hb lb mb cap : Nat} {lv : Value} {x : It} (hx : Wf x) (hd : Head W hb lv (.map (some mb))) (hmap : mapAt W mb #[] 0)
    (hrow : W.ownsRow 0 111 2 (.slice (some ⟨lb, 0, none⟩) 1 cap) 1 [.int .i64 x.1, .int .i64 x.2]) : InR (W.setCell ⟨hb, 0, none⟩ (.slice (some ⟨lb, 0, none⟩) 1 cap)) hb lb mb cap [x] (fun _ => none) := by
  unfold Head at hd
  have hne : hb ≠ lb := by
    rintro rfl
    rcases hrow.2 with ⟨e, _⟩ | ⟨g, c, cur, e, _, h2, _⟩
    · cases e
    · simp only [Value.slice.injEq, Option.some.injEq, Addr.mk.injEq, and_true] at e
      obtain ⟨rfl, _⟩ := e
      rw [hd] at h2; simp at h2
  have hnm : hb ≠ mb := by rintro rfl; unfold mapAt at hmap; rw [hd] at hmap; simp at hmap
  refine ⟨?_, ⟨hrow.1, ?_⟩, ⟨#[], 0, by rw [mapAt_setCell hnm]; exact hmap, EntV.empty 0⟩, ?_⟩
  · simp only [World.setCell]
    rw [Array.getElem?_modify]
    simp [hd]
  · rcases hrow.2 with ⟨e, _⟩ | ⟨g, c, cur, e, r⟩
    · cases e
    · refine .inr ⟨g, c, cur, e, ?_⟩
      simp only [Value.slice.injEq, Option.some.injEq, Addr.mk.injEq, and_true] at e
      obtain ⟨rfl, _⟩ := e
      rw [heap_setCell_ne hne]; exact r
  · intro y hy
    rw [List.mem_singleton.1 hy]; exact hx
set_option maxRecDepth 100000 in
set_option maxHeartbeats 4000000 in
theorem push_first {w : World} {hb : Nat} (hh : Head w hb (.slice none 0 0) (.map none)) {id key : Int} (hw : (Lit.int .i64 id).wf = true) (hwk : (Lit.int .i64 key).wf = true) :
    Calls Try.prog 49 #[.pointer (some ⟨hb, 0, none⟩), .int .i64 id, .int .i64 key] w fun e w' => e = .returned (.bool true) ∧
      ∃ lb' mb' cap', InR w' hb lb' mb' cap' (upS (id, key) [(id, key)] (fun _ => none) 0).1 (upS (id, key) [(id, key)] (fun _ => none) 0).2 ∧ w.heap.size ≤ lb' ∧ w.heap.size ≤ mb' ∧ Upd (fun k => k = hb) w w' := by
  have s1 := hh.lt
  have c0 := hh.c0
  have c1 := hh.c1
  have f1 := hh.fr 1
  have hmm := @run_makeMap Try.prog
  have heq := Go.run_eql_map_nil (P := Try.prog) w 74 3 3 none Try.underlying74
  obtain ⟨i0, hi, hz0, hz1, hz2⟩ := info_parts infoItem
  have hmap : mapAt ((w.setCell ⟨hb, 1, none⟩ (.map (some w.heap.size))).alloc (.map #[] 0)) w.heap.size #[] 0 := by
    have := heap_alloc_eq (w.setCell ⟨hb, 1, none⟩ (.map (some w.heap.size))) (.map #[] 0)
    rw [size_setCell] at this
    exact this
  have hrun := run_lookV (t := 74) Try.underlying74 zeroInt (EntV.empty 0) hw hmap
  simp only [Option.getD_none, Option.isSome_none] at hrun
  have HH := Lib.hid hh
  have HWF : Hid (Wf (id, key)) := Lib.hid ⟨hw, hwk⟩
  have HI := Lib.hid (And.intro hi (And.intro hz0 (And.intro hz1 hz2)))
  clear hh hw hwk hi hz0 hz1 hz2 hmap
  go_enter Try.func49, Try.ntmps49
  go_wp2_with (at_builtin; refine wpList_append_own_at _ rfl _ _ 73 rfl 0 111 i0 (.agg #[.int .i64 0, .int .i64 0]) 2 16 Try.underlying73 HI.out.1 HI.out.2.1 HI.out.2.2.1 HI.out.2.2.2 rfl (by decide) (.slice none 0 0) 0 [] rfl (World.ownsRow_nil _ _ _ _) ⟨w.heap.size + 1, 0, none⟩ 1 1 [.int .i64 id, .int .i64 key] rfl rfl ?c1 ?c2 ?c3 ?c4 ?c5 ?_)
  case c1 =>
    have e : w.heap.size + 1 = ((w.setCell ⟨hb, 1, none⟩ (.map (some w.heap.size))).alloc (.map #[] 0)).heap.size := by rw [size_alloc, size_setCell]
    rw [e]
    exact cell_two_new _ _ _ _
  case c2 => intro u hu; simp only [List.mem_cons, List.not_mem_nil, or_false] at hu; rcases hu with rfl | rfl <;> rfl
  case c3 => unfold maxLen; omega
  case c4 => omega
  case c5 => omega
  intro v' w1 hown' hgrow _ hloc
  try simp only [Nat.zero_add, List.nil_append] at hown'
  obtain ⟨lb', cap', hv⟩ := own_formH hown' (by omega)
  rw [hv] at hown' hloc ⊢
  have hloc' : w.heap.size ≤ lb' := by
    simp only [Value.ownBlock, Option.some.injEq, size_alloc, size_setCell, reduceCtorEq, false_or] at hloc; omega
  have hgr : ∀ k, k < w.heap.size + 1 → w1.heap[k]? = ((w.setCell ⟨hb, 1, none⟩ (.map (some w.heap.size))).alloc (.map #[] 0)).heap[k]? := fun k hk =>
    (hgrow.block k (by rw [size_alloc, size_alloc, size_setCell]; omega) (by simp [Value.ownBlock])).trans (heap_alloc_lt (by rw [size_alloc, size_setCell]; omega))
  have hd1 : Head w1 hb (.slice none 0 0) (.map (some w.heap.size)) := by
    have h1 := HH.out
    unfold Head at h1 ⊢
    rw [hgr hb (by omega), heap_alloc_lt (by rw [size_setCell]; omega)]
    simp only [World.setCell]
    rw [Array.getElem?_modify]
    simp [h1]
  have hm1 : mapAt w1 w.heap.size #[] 0 := by
    have := heap_alloc_eq (w.setCell ⟨hb, 1, none⟩ (.map (some w.heap.size))) (.map #[] 0)
    rw [size_setCell] at this
    exact (hgr _ (by omega)).trans this
  have hu1 : Upd (fun k => k = hb) w w1 :=
    (upd_alloc (upd_alloc (upd_setCell (Upd.refl _ w) (a := ⟨hb, 1, none⟩) (by rfl) _) _) _).trans (G := fun _ => False) ⟨hgrow.os, hgrow.tape, hgrow.output, hgrow.size, fun k hk _ => hgrow.block k hk (by simp [Value.ownBlock])⟩ fun _ _ h => h.elim
  have hin2 := InR.first HWF.out hd1 hm1 hown'
  have hj : 0 < ([((id, key) : It)]).length := by simp
  have hg2 : g [((id, key) : It)] 0 = (id, key) := rfl
  have hin3 := hin2.setKey hj (id := id) (key := key) (by rw [hg2]) HWF.out.2
  have d0 := hd1.c0
  have d0f := hd1.fr 0
  have e0 := hin2.c0
  have e1 := hin2.i1 hj
  have f1 := hin2.row.frozenAt 1
  rw [hg2] at e1
  simp only [List.length_singleton, Nat.zero_mul, Nat.zero_add] at e0 e1
  have hne : hb ≠ lb' := hin2.apart.1
  have HL := Lib.hid hloc'
  have HIN3 := Lib.hid hin3
  have HJ := Lib.hid hj
  have HU1 := Lib.hid hu1
  clear hloc' hin3 hin2 hd1 hj hg2 hu1 hgrow hown' hloc hv c0 c1 hrun heq hmm hm1 hgr
  go_wp2_with fail
  refine (up_any HIN3.out HJ.out).mono ?_
  rintro e w4 ⟨rfl, hr4, hu4⟩
  have HR4 := Lib.hid hr4
  have HU4 := Lib.hid hu4
  clear hr4 hu4
  go_wp2_with fail
  go_ret
  refine ⟨rfl, lb', w.heap.size, cap', HR4.out, HL.out, Nat.le_refl _, ?_⟩
  have hlo := HL.out
  have u2 : Upd (fun k => k = hb ∨ k = lb' ∨ k = w.heap.size) w1 _ := upd_setCell (upd_setCell (Upd.refl _ w1) (a := ⟨hb, 0, none⟩) (.inl rfl) (.slice (some ⟨lb', 0, none⟩) 1 cap')) (a := ⟨lb', 1, none⟩) (.inr (.inl rfl)) (.int .i64 key)
  refine HU1.out.trans (u2.trans (HU4.out.mono fun k _ e => ?_) fun _ _ h => h) fun k hk e => ?_
  · exact .inr e
  · omega
end Go.Proofs.Ytjopiefojicblaa
