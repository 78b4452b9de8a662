/- 'down': one sinks. -/
import Derived.Test.YtkdpfbefdhjmcaaHeapUp
set_option linter.unusedVariables false
set_option linter.unusedSimpArgs false
namespace Go.Proofs.Ytkdpfbefdhjmcaa
open Go.RowKit Go.Maps Go.ChangeMaps Go.MapKept HeapP
theorem downS_stop {x : It} {l : List It} {m : Int → Option Nat} {i : Nat} (h : ¬ (child l i < l.length ∧ HeapP.ahead (g l (child l i)) x = true)) : downS x l m i = (l.set i x, upd m x.1 i) := by rw [downS, dif_neg h]
theorem downS_go {x : It} {l : List It} {m : Int → Option Nat} {i : Nat} (h : child l i < l.length ∧ HeapP.ahead (g l (child l i)) x = true) : downS x l m i = downS x (l.set i (g l (child l i))) (upd m (g l (child l i)).1 i) (child l i) := by rw [downS, dif_pos h]
theorem child_two {l : List It} {i : Nat} (h : 2 * i + 1 + 1 < l.length) (ha : HeapP.ahead (g l (2 * i + 1 + 1)) (g l (2 * i + 1)) = true) : child l i = 2 * i + 1 + 1 := by unfold child; rw [if_pos ⟨h, ha⟩]
theorem child_one {l : List It} {i : Nat} (h : ¬ (2 * i + 1 + 1 < l.length ∧ HeapP.ahead (g l (2 * i + 1 + 1)) (g l (2 * i + 1)) = true)) : child l i = 2 * i + 1 := by unfold child; rw [if_neg h]
theorem child_is2 {l : List It} {j k1 k2 : Nat} (h1 : k1 = 2 * j + 1) (h2 : k2 = 2 * j + 1 + 1) (h : k2 < l.length) (ha : HeapP.ahead (g l k2) (g l k1) = true) : child l j = k2 := by
  subst h1 h2; exact child_two h ha
theorem child_is1 {l : List It} {j k1 k2 : Nat} (h1 : k1 = 2 * j + 1) (h2 : k2 = 2 * j + 1 + 1) (h : ¬ (k2 < l.length ∧ HeapP.ahead (g l k2) (g l k1) = true)) : child l j = k1 := by
  subst h1 h2; exact child_one h
set_option maxRecDepth 100000 in
set_option maxHeartbeats 8000000 in
theorem down_any {w : World} {hb lb mb cap : Nat} {l : List It} {m : Int → Option Nat} (h : InR w hb lb mb cap l m) {i : Nat} (hi : i < l.length) (hsmall : l.length ≤ 1152921504606846976) :
    Calls Try.prog 37 #[.pointer (some ⟨hb, 0, none⟩), .int .i64 i] w fun e w' => e = .returned (.tuple #[]) ∧ InR w' hb lb mb cap (downS (g l i) l m i).1 (downS (g l i) l m i).2 ∧ Upd (fun k => k = lb ∨ k = mb) w w' := by
  have c0 := h.c0
  have x0 := h.i0 hi
  have x1 := h.i1 hi
  obtain ⟨s1, s2, s3⟩ := h.sizes
  have hwf := h.wf _ (g_mem hi)
  obtain ⟨x, hx⟩ : ∃ x, x = g l i := ⟨_, rfl⟩
  rw [← hx] at x0 x1 hwf ⊢
  have HX := Lib.hid hx
  have HR := Lib.hid h
  have HW := Lib.hid hwf
  clear h hx hwf
  go_enter Try.func37, Try.ntmps37
  go_wp2_with fail
  go_loopg [1] (l.length - i) (fun n v wr => ∃ (l' : List It) (m' : Int → Option Nat) (j : Nat), n = l.length - j ∧ v = .int .i64 (j : Nat) ∧ j < l'.length ∧ l'.length = l.length ∧ InR wr hb lb mb cap l' m' ∧
    wr.heap[w.heap.size]? = some (.cells #[.int .i64 x.1, .int .i64 x.2] 88 (0, 0)) ∧ Upd (fun k => k = lb ∨ k = mb) w wr ∧ downS x l' m' j = downS x l m i)
  case atStart =>
    refine ⟨l, m, i, rfl, rfl, hi, rfl, HR.out.kept (heap_alloc_lt s1) (heap_alloc_lt s2) (heap_alloc_lt s3), ?_, upd_alloc (Upd.refl _ _) _, rfl⟩
    exact heap_alloc_eq _ _
  case round =>
    obtain ⟨l', m', j, hjk, rfl, hj, hlen, hin, hxb, hu, hend⟩ := hrel
    have HK := Lib.hid hjk
    clear hjk
    have c0' := hin.c0
    have s' := hin.sizes
    have hsz := hu.size
    have HIN := Lib.hid hin
    have HXB := Lib.hid hxb
    have HU := Lib.hid hu
    have HEND := Lib.hid hend
    have hn' : l'.length ≤ 1152921504606846976 := by omega
    have HLEN := Lib.hid hlen
    clear hin hxb hu hend hlen hsmall hi x0 x1 c0
    obtain ⟨k1, hk1⟩ : ∃ k1 : Nat, k1 = 2 * j + 1 := ⟨_, rfl⟩
    obtain ⟨k2, hk2⟩ : ∃ k2 : Nat, k2 = 2 * j + 1 + 1 := ⟨_, rfl⟩
    have r1 : 2 * (j : Int) + 1 = (k1 : Int) := by omega
    have r2 : (k1 : Int) + 1 = (k2 : Int) := by omega
    have w2 : IntKind.i64.wrap (k2 : Int) = (k2 : Int) := IntWalk.i64_in _ (by omega)
    have b1 : k1 ≤ 4611686018427387904 := by omega
    have b2 : k2 ≤ 4611686018427387904 := by omega
    have HK1 := Lib.hid hk1
    have HK2 := Lib.hid hk2
    clear hk1 hk2
    -- the region that chooses the child: three ways
    by_cases h2 : k2 < l'.length
    · have h1 : k1 < l'.length := by have := HK1.out; have := HK2.out; omega
      have hd : decide (k2 < l'.length) = true := by simpa using h2
      have y0 := HIN.out.i0 h2
      have y1 := HIN.out.i1 h2
      have z0 := HIN.out.i0 h1
      have z1 := HIN.out.i1 h1
      cases hah : HeapP.ahead (g l' k2) (g l' k1)
      all_goals
        go_wp2_with fail
        go_still_tail 24, (by kernel_rfl)
        change wpList _ _ _ _ _ wr.drew
        clear w2
        go_wp2_with fail
        refine (ahead_any (g l' k2) (g l' k1) _).mono ?_
        rintro e w2 ⟨rfl, hb2⟩
        have hin2 : InR w2 hb lb mb cap l' m' := (HIN.out.kept (w' := wr.drew) rfl rfl rfl).upd (F := fun _ => False) (Upd.of_below hb2) id id id
        have hxb2 : w2.heap[w.heap.size]? = some (.cells #[.int .i64 x.1, .int .i64 x.2] 88 (0, 0)) := (hb2.block _ (Array.getElem?_eq_some_iff.1 HXB.out).1).trans HXB.out
        have hu2 : Upd (fun k => k = lb ∨ k = mb) w w2 := HU.out.trans (Upd.trans (upd_drew (Upd.refl _ _)) (Upd.of_below hb2) fun _ _ h => h) fun _ _ h => h
        clear y0 y1 z0 z1 c0' hb2 hd
      · have HCH : Hid (child l' j = k1) := Lib.hid (child_is1 HK1.out HK2.out (by rw [hah]; simp))
        have hwk := HIN.out.wf _ (g_mem h1)
        have c2 := hin2.c0
        have z0 := hin2.i0 h1
        have z1 := hin2.i1 h1
        have d0 : w2.cell? ⟨w.heap.size, 0, none⟩ = some (.int .i64 x.1) := by simp [World.cell?, hxb2]
        have d1 : w2.cell? ⟨w.heap.size, 1, none⟩ = some (.int .i64 x.2) := by simp [World.cell?, hxb2]
        have hd : decide (l'.length ≤ k1) = false := by simp; omega
        have HWK := Lib.hid hwk
        have HIN2 := Lib.hid hin2
        have HXB2 := Lib.hid hxb2
        have HU2 := Lib.hid hu2
        clear hin2 hxb2 hu2 hwk
        cases hbh : HeapP.ahead (g l' k1) x
        all_goals
          go_wp2_with fail
          go_still_tail 16, (by kernel_rfl)
          change wpList _ _ _ _ _ w2.drew
          go_wp2_with fail
          refine (ahead_any (g l' k1) x _).mono ?_
          rintro e w3 ⟨rfl, hb3⟩
          have hin3 : InR w3 hb lb mb cap l' m' := (HIN2.out.kept (w' := w2.drew) rfl rfl rfl).upd (F := fun _ => False) (Upd.of_below hb3) id id id
          have hxb3 : w3.heap[w.heap.size]? = some (.cells #[.int .i64 x.1, .int .i64 x.2] 88 (0, 0)) := (hb3.block _ (Array.getElem?_eq_some_iff.1 HXB2.out).1).trans HXB2.out
          have hu3 : Upd (fun k => k = lb ∨ k = mb) w w3 := HU2.out.trans (Upd.trans (upd_drew (Upd.refl _ _)) (Upd.of_below hb3) fun _ _ h => h) fun _ _ h => h
          have c3 := hin3.c0
          have u0 := hin3.i0 h1
          have u1 := hin3.i1 h1
          have v0 : w3.cell? ⟨w.heap.size, 0, none⟩ = some (.int .i64 x.1) := by simp [World.cell?, hxb3]
          have v1 : w3.cell? ⟨w.heap.size, 1, none⟩ = some (.int .i64 x.2) := by simp [World.cell?, hxb3]
          have HIN3 := Lib.hid hin3
          have HXB3 := Lib.hid hxb3
          have HU3 := Lib.hid hu3
          clear hin3 hxb3 hu3 hb3 z0 z1 d0 d1 c2 hd
          go_wp2_with fail
        · have HST : Hid (downS x l' m' j = (l'.set j x, upd m' x.1 j)) := Lib.hid (downS_stop (by rw [HCH.out, hbh]; simp))
          refine (set_any HIN3.out hj HW.out).mono ?_
          rintro e w4 ⟨rfl, hr4, hu4⟩
          have HR4 := Lib.hid hr4
          have HU4 := Lib.hid hu4
          clear hr4 hu4
          go_wp2_with fail
          go_end0
          refine ⟨rfl, ?_, ?_⟩
          · rw [← HEND.out, HST.out]; exact HR4.out
          · exact HU3.out.trans HU4.out fun _ _ h => h
        · refine (set_any HIN3.out hj HWK.out).mono ?_
          rintro e w4 ⟨rfl, hr4, hu4⟩
          have HR4 := Lib.hid hr4
          have HU4 := Lib.hid hu4
          clear hr4 hu4
          go_wp2_with fail
          go_roundg (l.length - k1)
          case measure => rw [HK.out]; have := HK1.out; have := HK2.out; have := HLEN.out; omega
          case rel =>
            refine ⟨_, _, k1, rfl, rfl, by simpa using h1, by simpa using HLEN.out, HR4.out, ?_, HU3.out.trans HU4.out fun _ _ h => h, ?_⟩
            · rw [HU4.out.block _ (Array.getElem?_eq_some_iff.1 HXB3.out).1 (by rintro (e | e) <;> omega)]; exact HXB3.out
            · rw [← HEND.out, downS_go (x := x) (l := l') (i := j) (by rw [HCH.out]; exact ⟨h1, hbh⟩), HCH.out]
      · have HCH : Hid (child l' j = k2) := Lib.hid (child_is2 HK1.out HK2.out h2 hah)
        have hwk := HIN.out.wf _ (g_mem h2)
        have c2 := hin2.c0
        have z0 := hin2.i0 h2
        have z1 := hin2.i1 h2
        have d0 : w2.cell? ⟨w.heap.size, 0, none⟩ = some (.int .i64 x.1) := by simp [World.cell?, hxb2]
        have d1 : w2.cell? ⟨w.heap.size, 1, none⟩ = some (.int .i64 x.2) := by simp [World.cell?, hxb2]
        have hd : decide (l'.length ≤ k2) = false := by simp; omega
        have HWK := Lib.hid hwk
        have HIN2 := Lib.hid hin2
        have HXB2 := Lib.hid hxb2
        have HU2 := Lib.hid hu2
        clear hin2 hxb2 hu2 hwk
        cases hbh : HeapP.ahead (g l' k2) x
        all_goals
          go_wp2_with fail
          go_still_tail 16, (by kernel_rfl)
          change wpList _ _ _ _ _ w2.drew
          go_wp2_with fail
          refine (ahead_any (g l' k2) x _).mono ?_
          rintro e w3 ⟨rfl, hb3⟩
          have hin3 : InR w3 hb lb mb cap l' m' := (HIN2.out.kept (w' := w2.drew) rfl rfl rfl).upd (F := fun _ => False) (Upd.of_below hb3) id id id
          have hxb3 : w3.heap[w.heap.size]? = some (.cells #[.int .i64 x.1, .int .i64 x.2] 88 (0, 0)) := (hb3.block _ (Array.getElem?_eq_some_iff.1 HXB2.out).1).trans HXB2.out
          have hu3 : Upd (fun k => k = lb ∨ k = mb) w w3 := HU2.out.trans (Upd.trans (upd_drew (Upd.refl _ _)) (Upd.of_below hb3) fun _ _ h => h) fun _ _ h => h
          have c3 := hin3.c0
          have u0 := hin3.i0 h2
          have u1 := hin3.i1 h2
          have v0 : w3.cell? ⟨w.heap.size, 0, none⟩ = some (.int .i64 x.1) := by simp [World.cell?, hxb3]
          have v1 : w3.cell? ⟨w.heap.size, 1, none⟩ = some (.int .i64 x.2) := by simp [World.cell?, hxb3]
          have HIN3 := Lib.hid hin3
          have HXB3 := Lib.hid hxb3
          have HU3 := Lib.hid hu3
          clear hin3 hxb3 hu3 hb3 z0 z1 d0 d1 c2 hd
          go_wp2_with fail
        · have HST : Hid (downS x l' m' j = (l'.set j x, upd m' x.1 j)) := Lib.hid (downS_stop (by rw [HCH.out, hbh]; simp))
          refine (set_any HIN3.out hj HW.out).mono ?_
          rintro e w4 ⟨rfl, hr4, hu4⟩
          have HR4 := Lib.hid hr4
          have HU4 := Lib.hid hu4
          clear hr4 hu4
          go_wp2_with fail
          go_end0
          refine ⟨rfl, ?_, ?_⟩
          · rw [← HEND.out, HST.out]; exact HR4.out
          · exact HU3.out.trans HU4.out fun _ _ h => h
        · refine (set_any HIN3.out hj HWK.out).mono ?_
          rintro e w4 ⟨rfl, hr4, hu4⟩
          have HR4 := Lib.hid hr4
          have HU4 := Lib.hid hu4
          clear hr4 hu4
          go_wp2_with fail
          go_roundg (l.length - k2)
          case measure => rw [HK.out]; have := HK1.out; have := HK2.out; have := HLEN.out; omega
          case rel =>
            refine ⟨_, _, k2, rfl, rfl, by simpa using h2, by simpa using HLEN.out, HR4.out, ?_, HU3.out.trans HU4.out fun _ _ h => h, ?_⟩
            · rw [HU4.out.block _ (Array.getElem?_eq_some_iff.1 HXB3.out).1 (by rintro (e | e) <;> omega)]; exact HXB3.out
            · rw [← HEND.out, downS_go (x := x) (l := l') (i := j) (by rw [HCH.out]; exact ⟨h2, hbh⟩), HCH.out]
    · have HCH : Hid (child l' j = k1) := Lib.hid (child_is1 HK1.out HK2.out (fun h => h2 h.1))
      have hd : decide (k2 < l'.length) = false := by simpa using h2
      go_wp2_with fail
      go_quiet (fail)
      clear w2
      obtain ⟨w2, hw2⟩ : ∃ w2, w2 = wr.drewN nq := ⟨_, rfl⟩
      rw [← hw2]
      have hin2 : InR w2 hb lb mb cap l' m' := by rw [hw2]; exact HIN.out.kept rfl rfl rfl
      have hxb2 : w2.heap[w.heap.size]? = some (.cells #[.int .i64 x.1, .int .i64 x.2] 88 (0, 0)) := by rw [hw2]; exact HXB.out
      have hu2 : Upd (fun k => k = lb ∨ k = mb) w w2 := by rw [hw2]; exact upd_drewN HU.out _
      clear hw2 hd c0' h2
      by_cases h1 : k1 < l'.length
      · skip
        have hwk := HIN.out.wf _ (g_mem h1)
        have c2 := hin2.c0
        have z0 := hin2.i0 h1
        have z1 := hin2.i1 h1
        have d0 : w2.cell? ⟨w.heap.size, 0, none⟩ = some (.int .i64 x.1) := by simp [World.cell?, hxb2]
        have d1 : w2.cell? ⟨w.heap.size, 1, none⟩ = some (.int .i64 x.2) := by simp [World.cell?, hxb2]
        have hd : decide (l'.length ≤ k1) = false := by simp; omega
        have HWK := Lib.hid hwk
        have HIN2 := Lib.hid hin2
        have HXB2 := Lib.hid hxb2
        have HU2 := Lib.hid hu2
        clear hin2 hxb2 hu2 hwk
        cases hbh : HeapP.ahead (g l' k1) x
        all_goals
          go_wp2_with fail
          go_still_tail 16, (by kernel_rfl)
          change wpList _ _ _ _ _ w2.drew
          go_wp2_with fail
          refine (ahead_any (g l' k1) x _).mono ?_
          rintro e w3 ⟨rfl, hb3⟩
          have hin3 : InR w3 hb lb mb cap l' m' := (HIN2.out.kept (w' := w2.drew) rfl rfl rfl).upd (F := fun _ => False) (Upd.of_below hb3) id id id
          have hxb3 : w3.heap[w.heap.size]? = some (.cells #[.int .i64 x.1, .int .i64 x.2] 88 (0, 0)) := (hb3.block _ (Array.getElem?_eq_some_iff.1 HXB2.out).1).trans HXB2.out
          have hu3 : Upd (fun k => k = lb ∨ k = mb) w w3 := HU2.out.trans (Upd.trans (upd_drew (Upd.refl _ _)) (Upd.of_below hb3) fun _ _ h => h) fun _ _ h => h
          have c3 := hin3.c0
          have u0 := hin3.i0 h1
          have u1 := hin3.i1 h1
          have v0 : w3.cell? ⟨w.heap.size, 0, none⟩ = some (.int .i64 x.1) := by simp [World.cell?, hxb3]
          have v1 : w3.cell? ⟨w.heap.size, 1, none⟩ = some (.int .i64 x.2) := by simp [World.cell?, hxb3]
          have HIN3 := Lib.hid hin3
          have HXB3 := Lib.hid hxb3
          have HU3 := Lib.hid hu3
          clear hin3 hxb3 hu3 hb3 z0 z1 d0 d1 c2 hd
          go_wp2_with fail
        · have HST : Hid (downS x l' m' j = (l'.set j x, upd m' x.1 j)) := Lib.hid (downS_stop (by rw [HCH.out, hbh]; simp))
          refine (set_any HIN3.out hj HW.out).mono ?_
          rintro e w4 ⟨rfl, hr4, hu4⟩
          have HR4 := Lib.hid hr4
          have HU4 := Lib.hid hu4
          clear hr4 hu4
          go_wp2_with fail
          go_end0
          refine ⟨rfl, ?_, ?_⟩
          · rw [← HEND.out, HST.out]; exact HR4.out
          · exact HU3.out.trans HU4.out fun _ _ h => h
        · refine (set_any HIN3.out hj HWK.out).mono ?_
          rintro e w4 ⟨rfl, hr4, hu4⟩
          have HR4 := Lib.hid hr4
          have HU4 := Lib.hid hu4
          clear hr4 hu4
          go_wp2_with fail
          go_roundg (l.length - k1)
          case measure => rw [HK.out]; have := HK1.out; have := HK2.out; have := HLEN.out; omega
          case rel =>
            refine ⟨_, _, k1, rfl, rfl, by simpa using h1, by simpa using HLEN.out, HR4.out, ?_, HU3.out.trans HU4.out fun _ _ h => h, ?_⟩
            · rw [HU4.out.block _ (Array.getElem?_eq_some_iff.1 HXB3.out).1 (by rintro (e | e) <;> omega)]; exact HXB3.out
            · rw [← HEND.out, downS_go (x := x) (l := l') (i := j) (by rw [HCH.out]; exact ⟨h1, hbh⟩), HCH.out]
      · have c2 := hin2.c0
        have d0 : w2.cell? ⟨w.heap.size, 0, none⟩ = some (.int .i64 x.1) := by simp [World.cell?, hxb2]
        have d1 : w2.cell? ⟨w.heap.size, 1, none⟩ = some (.int .i64 x.2) := by simp [World.cell?, hxb2]
        have hd : decide (l'.length ≤ k1) = true := by simp; omega
        have HIN2 := Lib.hid hin2
        have HXB2 := Lib.hid hxb2
        have HU2 := Lib.hid hu2
        have HST : Hid (downS x l' m' j = (l'.set j x, upd m' x.1 j)) := Lib.hid (downS_stop (by rw [HCH.out]; omega))
        clear hin2 hxb2 hu2
        go_wp2_with fail
        go_quiet (fail)
        go_wp2_with fail
        have HIN3 : Hid (InR (w2.drewN nq) hb lb mb cap l' m') := Lib.hid (HIN2.out.kept rfl rfl rfl)
        have HU3 : Hid (Upd (fun k => k = lb ∨ k = mb) w (w2.drewN nq)) := Lib.hid (upd_drewN HU2.out _)
        refine (set_any HIN3.out hj HW.out).mono ?_
        rintro e w4 ⟨rfl, hr4, hu4⟩
        have HR4 := Lib.hid hr4
        have HU4 := Lib.hid hu4
        clear hr4 hu4
        go_wp2_with fail
        go_end0
        refine ⟨rfl, ?_, ?_⟩
        · rw [← HEND.out, HST.out]; exact HR4.out
        · exact HU3.out.trans HU4.out fun _ _ h => h
end Go.Proofs.Ytkdpfbefdhjmcaa
