/- 'up' and 'down': one rises, one sinks. -/
import Derived.Test.YtkdpfbefdhjmcaaHeapSet
import Derived.Deep.LoopGhost
import Derived.StillTailTactics
set_option linter.unusedVariables false
set_option linter.unusedSimpArgs false
namespace Go.Proofs.Ytkdpfbefdhjmcaa
open Go.RowKit Go.Maps Go.ChangeMaps Go.MapKept HeapP
theorem heap_alloc_eq (w : World) (o : Obj) : (w.alloc o).heap[w.heap.size]? = some o := by
  show (w.heap.push o)[w.heap.size]? = _
  simp
theorem upS_stop {x : It} {l : List It} {m : Int → Option Nat} {i : Nat} (h : ¬ (0 < i ∧ HeapP.ahead x (g l ((i - 1) / 2)) = true)) : upS x l m i = (l.set i x, upd m x.1 i) := by rw [upS, dif_neg h]
theorem upS_go {x : It} {l : List It} {m : Int → Option Nat} {i : Nat} (h : 0 < i ∧ HeapP.ahead x (g l ((i - 1) / 2)) = true) : upS x l m i = upS x (l.set i (g l ((i - 1) / 2))) (upd m (g l ((i - 1) / 2)).1 i) ((i - 1) / 2) := by rw [upS, dif_pos h]
set_option maxRecDepth 100000 in
set_option maxHeartbeats 4000000 in
theorem up_any {w : World} {hb lb mb cap : Nat} {l : List It} {m : Int → Option Nat} (h : InR w hb lb mb cap l m) {i : Nat} (hi : i < l.length) :
    Calls Try.prog 38 #[.pointer (some ⟨hb, 0, none⟩), .int .i64 i] w fun e w' => e = .returned (.tuple #[]) ∧ InR w' hb lb mb cap (upS (g l i) l m i).1 (upS (g l i) l m i).2 ∧ Upd (fun k => k = lb ∨ k = mb) w w' := by
  have c0 := h.c0
  have x0 := h.i0 hi
  have x1 := h.i1 hi
  obtain ⟨s1, s2, s3⟩ := h.sizes
  have hl := h.len
  have hn : l.length ≤ 9223372036854775807 := by have := hl.1; have := hl.2; unfold maxLen at this; omega
  have hwf := h.wf _ (g_mem hi)
  obtain ⟨x, hx⟩ : ∃ x, x = g l i := ⟨_, rfl⟩
  rw [← hx] at x0 x1 hwf ⊢
  have HX := Lib.hid hx
  have HR := Lib.hid h
  have HW := Lib.hid hwf
  clear h hl hx hwf
  go_enter Try.func38, Try.ntmps38
  go_wp2_with fail
  go_loopg [1] i (fun j v wr => ∃ (l' : List It) (m' : Int → Option Nat), v = .int .i64 (j : Nat) ∧ j < l'.length ∧ l'.length = l.length ∧ InR wr hb lb mb cap l' m' ∧
    wr.heap[w.heap.size]? = some (.cells #[.int .i64 x.1, .int .i64 x.2] 88 (0, 0)) ∧ Upd (fun k => k = lb ∨ k = mb) w wr ∧ upS x l' m' j = upS x l m i)
  case atStart =>
    refine ⟨l, m, rfl, hi, rfl, HR.out.kept (heap_alloc_lt s1) (heap_alloc_lt s2) (heap_alloc_lt s3), ?_, upd_alloc (Upd.refl _ _) _, rfl⟩
    exact heap_alloc_eq _ _
  case round =>
    obtain ⟨j, hjk⟩ : ∃ j, j = gk := ⟨_, rfl⟩
    rw [← hjk] at hrel
    have HK := Lib.hid hjk
    clear hjk
    obtain ⟨l', m', rfl, hj, hlen, hin, hxb, hu, hend⟩ := hrel
    have c0' := hin.c0
    have s' := hin.sizes
    have hsz := hu.size
    have xc0 : wr.cell? ⟨w.heap.size, 0, none⟩ = some (.int .i64 x.1) := by simp [World.cell?, hxb]
    have xc1 : wr.cell? ⟨w.heap.size, 1, none⟩ = some (.int .i64 x.2) := by simp [World.cell?, hxb]
    have HIN := Lib.hid hin
    have HXB := Lib.hid hxb
    have HU := Lib.hid hu
    have HEND := Lib.hid hend
    have HLEN := Lib.hid hlen
    have hn' : l'.length ≤ 9223372036854775807 := by omega
    clear hin hxb hu hend hlen
    by_cases h0 : j = 0
    · subst h0
      have hd : decide (0 < ((0 : Nat) : Int)) = false := by decide
      go_wp2_with fail
      go_quiet (fail)
      go_wp2_with fail
      refine (set_any (by exact HIN.out.kept rfl rfl rfl) hj HW.out).mono ?_
      rintro e w2 ⟨rfl, hr2, hu2⟩
      have HR2 := Lib.hid hr2
      have HU2 := Lib.hid hu2
      clear hr2 hu2
      go_wp2_with fail
      go_end0
      have hst : upS x l' m' 0 = (l'.set 0 x, upd m' x.1 0) := upS_stop (by omega)
      refine ⟨rfl, ?_, ?_⟩
      · rw [← HEND.out, hst]; exact HR2.out
      · exact HU.out.trans (Upd.trans (upd_drewN (Upd.refl _ _) _) HU2.out fun _ _ h => h) fun _ _ h => h
    · have h0' : 0 < j := by omega
      have hd : decide (0 < j) = true := by simpa using h0'
      obtain ⟨q, hqe⟩ : ∃ q : Nat, q = (j - 1) / 2 := ⟨_, rfl⟩
      have hq : q < l'.length := by omega
      have w1 : IntKind.i64.wrap ((j : Int) - 1) = (j : Int) - 1 := IntWalk.i64_in _ (by omega)
      have w2 : IntKind.i64.wrap (((j : Int) - 1).tdiv 2) = (q : Int) := by
        rw [Int.tdiv_eq_ediv_of_nonneg (by omega), IntWalk.i64_in _ (by omega)]; omega
      have y0 := HIN.out.i0 hq
      have y1 := HIN.out.i1 hq
      have HQ := Lib.hid hqe
      clear hqe
      have hwq := HIN.out.wf _ (g_mem hq)
      have HWQ := Lib.hid hwq
      clear hwq
      cases hah : HeapP.ahead x (g l' q)
      all_goals
        go_wp2_with fail
        go_still_tail 13, (by kernel_rfl)
        change wpList _ _ _ _ _ wr.drew
        clear w1
        go_wp2_with fail
        refine (ahead_any x (g l' q) _).mono ?_
        rintro e w2 ⟨rfl, hb2⟩
        have hin2 : InR w2 hb lb mb cap l' m' := (HIN.out.kept (w' := wr.drew) rfl rfl rfl).upd (F := fun _ => False) (Upd.of_below hb2) id id id
        have hxb2 : w2.heap[w.heap.size]? = some (.cells #[.int .i64 x.1, .int .i64 x.2] 88 (0, 0)) := (hb2.block _ (Array.getElem?_eq_some_iff.1 HXB.out).1).trans HXB.out
        have hu2 : Upd (fun k => k = lb ∨ k = mb) w w2 := HU.out.trans (Upd.trans (upd_drew (Upd.refl _ _)) (Upd.of_below hb2) fun _ _ h => h) fun _ _ h => h
        have c2 := hin2.c0
        have z0 := hin2.i0 hq
        have z1 := hin2.i1 hq
        have d0 : w2.cell? ⟨w.heap.size, 0, none⟩ = some (.int .i64 x.1) := by simp [World.cell?, hxb2]
        have d1 : w2.cell? ⟨w.heap.size, 1, none⟩ = some (.int .i64 x.2) := by simp [World.cell?, hxb2]
        have HIN2 := Lib.hid hin2
        have HXB2 := Lib.hid hxb2
        have HU2 := Lib.hid hu2
        clear hin2 hxb2 hu2 hb2
        go_wp2_with fail
      · refine (set_any HIN2.out hj HW.out).mono ?_
        rintro e w3 ⟨rfl, hr3, hu3⟩
        have HR3 := Lib.hid hr3
        have HU3 := Lib.hid hu3
        clear hr3 hu3
        go_wp2_with fail
        go_end0
        have hst : upS x l' m' j = (l'.set j x, upd m' x.1 j) := upS_stop (by rw [← HQ.out, hah]; simp)
        refine ⟨rfl, ?_, ?_⟩
        · rw [← HEND.out, hst]; exact HR3.out
        · exact HU2.out.trans HU3.out fun _ _ h => h
      · refine (set_any HIN2.out hj HWQ.out).mono ?_
        rintro e w3 ⟨rfl, hr3, hu3⟩
        have HR3 := Lib.hid hr3
        have HU3 := Lib.hid hu3
        clear hr3 hu3
        go_wp2_with fail
        go_roundg q
        case measure => rw [HQ.out, ← HK.out]; omega
        case rel =>
          refine ⟨_, _, rfl, by simpa using hq, by simpa using HLEN.out, HR3.out, ?_, HU2.out.trans HU3.out fun _ _ h => h, ?_⟩
          · rw [HU3.out.block _ (Array.getElem?_eq_some_iff.1 HXB2.out).1 (by rintro (e | e) <;> omega)]; exact HXB2.out
          · rw [← HEND.out, upS_go (x := x) (l := l') (i := j) ⟨h0', by rw [← HQ.out]; exact hah⟩, ← HQ.out]
end Go.Proofs.Ytkdpfbefdhjmcaa
