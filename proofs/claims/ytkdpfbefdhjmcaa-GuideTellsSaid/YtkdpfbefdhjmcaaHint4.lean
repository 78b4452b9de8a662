/- milepostref4.Hint. -/
import Derived.Test.YtkdpfbefdhjmcaaHints
import Derived.Test.YtkdpfbefdhjmcaaWalk4
import Derived.Test.YtkdpfbefdhjmcaaNext4
import Derived.Test.YtkdpfbefdhjmcaaBends
import Derived.Test.YtkdpfbefdhjmcaaRegionLast
import Derived.Deep.RegionHeld3
import Derived.Deep.CutRange
set_option linter.unusedVariables false
set_option linter.unusedSimpArgs false
namespace Go.Proofs.Ytkdpfbefdhjmcaa
open Go.ChangeShapes Go.WideShapes Go.ChangeAt Go.RowKit
set_option maxRecDepth 100000 in
set_option maxHeartbeats 16000000 in
theorem hint4_any {A1 A2 A3 : Option Addr} {c1 c2 c3 : Nat} {ns bs : List (Int × Int)} {es : List (Int × Int × Int)} {w : World} (h : GR w A1 A2 A3 ns.length es.length bs.length c1 c2 c3 ns es bs) (hok : mayB ns es bs = true) {A : Option Addr} {n c : Nat} {xs : List Int} (hr : ReadsI w A n c xs) (hn : n ≤ 1099511627776) (a : Int) :
    Calls Try.prog 33 #[.agg #[.slice A1 ns.length c1, .slice A2 es.length c2, .slice A3 bs.length c3], .int .i64 a, .slice A n c] w fun e w' => e = .returned (.tuple #[hintV (hintR ns es bs a xs), .bool (walkB es bs a xs)]) ∧ Below w.heap.size w w' := by
  have hs1 : (w.alloc (.cells #[.slice A1 ns.length c1, .slice A2 es.length c2, .slice A3 bs.length c3] 51)).heap.size = w.heap.size + 1 := size_alloc _ _
  have hb1 : Below w.heap.size w (w.alloc (.cells #[.slice A1 ns.length c1, .slice A2 es.length c2, .slice A3 bs.length c3] 51)) := bl_alloc (Below.refl _ _) _
  obtain ⟨V1, hV1⟩ : ∃ V1, V1 = w.alloc (.cells #[.slice A1 ns.length c1, .slice A2 es.length c2, .slice A3 bs.length c3] 51) := ⟨_, rfl⟩
  have hg1 : V1.heap[w.heap.size]? = some (.cells #[.slice A1 ns.length c1, .slice A2 es.length c2, .slice A3 bs.length c3] 51) := by rw [hV1]; exact new_block _ _
  rw [← hV1] at hs1 hb1
  have hb2 : Below w.heap.size w (V1.alloc (.cells #[.int .i64 0, .int .i64 0, .int .i64 0, .int .i64 0] 78)) := bl_alloc hb1 _
  have hs2 : (V1.alloc (.cells #[.int .i64 0, .int .i64 0, .int .i64 0, .int .i64 0] 78)).heap.size = w.heap.size + 2 := by rw [size_alloc, hs1]
  have hr2 := new_block V1 (.cells #[.int .i64 0, .int .i64 0, .int .i64 0, .int .i64 0] 78)
  have hg2 := block_below hg1 (bl_alloc (Below.refl V1.heap.size V1) (.cells #[.int .i64 0, .int .i64 0, .int .i64 0, .int .i64 0] 78))
  rw [hs1] at hr2
  obtain ⟨V, hV⟩ : ∃ V, V = V1.alloc (.cells #[.int .i64 0, .int .i64 0, .int .i64 0, .int .i64 0] 78) := ⟨_, rfl⟩
  rw [← hV] at hb2 hs2 hr2 hg2
  have HV : Hid (V = (w.alloc (.cells #[.slice A1 ns.length c1, .slice A2 es.length c2, .slice A3 bs.length c3] 51)).alloc (.cells #[.int .i64 0, .int .i64 0, .int .i64 0, .int .i64 0] 78)) := Lib.hid (by rw [hV, hV1])
  have HS : Hid (∀ w', Below V.heap.size V w' → w'.cell? ⟨w.heap.size, 0, none⟩ = some (.slice A1 ns.length c1) ∧ w'.cell? ⟨w.heap.size, 1, none⟩ = some (.slice A2 es.length c2) ∧ w'.cell? ⟨w.heap.size, 2, none⟩ = some (.slice A3 bs.length c3)) :=
    Lib.hid fun w' hb => ⟨block_cell (block_below hg2 hb) (j := 0) rfl, block_cell (block_below hg2 hb) (j := 1) rfl, block_cell (block_below hg2 hb) (j := 2) rfl⟩
  have HRV := Lib.hid hr2
  have HG := Lib.hid (h.below hb2)
  have HR := Lib.hid (hr.below hb2)
  have HB2 := Lib.hid hb2
  have HSZ := Lib.hid hs2
  have HOK := Lib.hid hok
  have HNN := Lib.hid hn
  have HL := Lib.hid hr.len
  have hwk := walk4_any HG.out HR.out a
  obtain ⟨k0, k1, k2⟩ := HS.out V (Below.refl _ _)
  cases hw : walkB es bs a xs with
  | false =>
    rw [hw] at hwk
    have HWK := Lib.hid hwk
    have hR : hintR ns es bs a xs = (0, 0, 0, 0) := by unfold hintR; rw [if_neg (by rw [hw]; simp)]
    rw [hR]
    clear h hr hwk hw hR hb1 hb2 hs1 hs2 hr2 hg1 hg2 hV hV1 hok hn
    go_enter Try.func33, Try.ntmps33
    go_upto_region 1 with fail
    rw [← HV.out]
    go_wp2_with fail
    refine HWK.out.mono ?_
    rintro e y1 ⟨rfl, hb⟩
    have hp1 := block_below HRV.out hb
    have c0 := block_cell hp1 (j := 0) rfl
    have c1' := block_cell hp1 (j := 1) rfl
    have c2' := block_cell hp1 (j := 2) rfl
    have c3' := block_cell hp1 (j := 3) rfl
    have f0 := block_fr hp1 0
    have f1 := block_fr hp1 1
    have f2 := block_fr hp1 2
    have f3 := block_fr hp1 3
    have HBK := Lib.hid hp1
    have HB3 : Hid (Below w.heap.size w y1) := Lib.hid (bl_then HB2.out hb)
    clear hb hp1
    go_wp2_with fail
    have hbl4 := blk3 (blk2 (blk1 (blk0 HBK.out (.int .i64 0)) (.int .i64 0)) (.int .i64 0)) (.int .i64 0)
    have z0 := block_cell hbl4 (j := 0) rfl
    have z1 := block_cell hbl4 (j := 1) rfl
    have z2 := block_cell hbl4 (j := 2) rfl
    have z3 := block_cell hbl4 (j := 3) rfl
    refine bodyPost_ret (v := .tuple #[.agg #[.int .i64 0, .int .i64 0, .int .i64 0, .int .i64 0], .bool false]) (by simp [results, Try.results33, go_sem, z0, z1, z2, z3]) rfl ⟨rfl, ?_⟩
    exact (((HB3.out.setCell (p := ⟨w.heap.size + 1, 0, none⟩) (Nat.le_succ _) _).setCell (p := ⟨w.heap.size + 1, 1, none⟩) (Nat.le_succ _) _).setCell (p := ⟨w.heap.size + 1, 2, none⟩) (Nat.le_succ _) _).setCell (p := ⟨w.heap.size + 1, 3, none⟩) (Nat.le_succ _) _
  | true =>
    rw [hw] at hwk
    have HWK := Lib.hid hwk
    have HW := Lib.hid hw
    have hR : hintR ns es bs a xs = hintT ns es bs a xs := by unfold hintR; rw [if_pos hw]
    rw [hR]
    have hst := stop_le es bs a xs
    have HST : Hid (stopN es bs a xs ≤ n) := Lib.hid (by rw [← hr.len]; exact hst)
    obtain ⟨W, hWe⟩ : ∃ W, W = wgtT es xs := ⟨_, rfl⟩
    have HWE := Lib.hid hWe
    have HES : Hid (es.length ≤ 512) := Lib.hid (mayB_parts hok).2.1.2.2.1
    clear h hr hwk hw hR hb1 hb2 hs1 hs2 hr2 hg1 hg2 hV hV1 hok hst hWe hn
    go_enter Try.func33, Try.ntmps33
    go_upto_region 1 with fail
    rw [← HV.out]
    go_wp2_with fail
    refine HWK.out.mono ?_
    rintro e y1 ⟨rfl, hb⟩
    have HB1 := Lib.hid hb
    have HBA : Hid (Below V.heap.size V (y1.alloc (.cells #[.int .i64 0, .int .i64 0, .int .i64 0, .int .i64 0] 78))) := Lib.hid (bl_alloc hb _)
    obtain ⟨l0, l1, l2⟩ := HS.out _ HBA.out
    have HHB := Lib.hid (new_block y1 (.cells #[.int .i64 0, .int .i64 0, .int .i64 0, .int .i64 0] 78))
    have hwt := weight4_any (HG.out.below HBA.out) HOK.out (HR.out.below HBA.out) HNN.out
    rw [← HWE.out] at hwt
    have HWT := Lib.hid hwt
    have HYS : Hid (V.heap.size ≤ y1.heap.size) := Lib.hid hb.size
    clear hb hwt k0 k1 k2
    go_wp2_with fail
    refine HWT.out.mono ?_
    rintro e y2 ⟨rfl, hb⟩
    have hp2 := block_below HHB.out hb
    have f3 := block_fr hp2 3
    have c3' : y2.cell? ⟨y1.heap.size, 3, none⟩ = some (.int .i64 0) := block_cell hp2 (j := 3) rfl
    have HP2 := Lib.hid (blk3 hp2 (.int .i64 W))
    have HBS : Hid (Below V.heap.size V (y2.setCell ⟨y1.heap.size, 3, none⟩ (.int .i64 W))) := Lib.hid ((bl_then HBA.out hb).setCell (p := ⟨y1.heap.size, 3, none⟩) HYS.out _)
    clear hb hp2 l0 l1 l2
    go_wp2_with fail
    obtain ⟨hbk, hhb⟩ : ∃ hbk, hbk = y1.heap.size := ⟨_, rfl⟩
    rw [← hhb] at HP2 HBS HYS ⊢
    clear hhb f3 c3'
    go_loopg [1, 9] n (fun M v u wr => ∃ k : Nat, M = n - k ∧ k ≤ stopN es bs a xs ∧ u = .int .i64 (k : Nat) ∧ v = .int .i64 (lastI a (xs.take k)) ∧ wr.heap[hbk]? = some (.cells #[.int .i64 0, .int .i64 0, .int .i64 (sumW es (xs.take k)), .int .i64 W] 78) ∧ Below V.heap.size V wr)
    case atStart => exact ⟨0, rfl, Nat.zero_le _, rfl, rfl, HP2.out, HBS.out⟩
    case round =>
      obtain ⟨k, hM, hks, rfl, rfl, hblk, hb⟩ := hrel
      have HM := Lib.hid hM
      have HKS := Lib.hid hks
      have HBLK := Lib.hid hblk
      have HBR := Lib.hid hb
      have hk : k ≤ n := Nat.le_trans hks HST.out
      have hkb := Nat.le_trans hk HNN.out
      have hbd := sum_bd HOK.out (xs.take k)
      have hsz : hbk < wr.heap.size := block_at hblk
      have hne : ¬ hbk = w.heap.size := by have := HYS.out; have := HSZ.out; omega
      have hne1 : ¬ hbk = w.heap.size + 1 := by have := HYS.out; have := HSZ.out; omega
      obtain ⟨l0, l1, l2⟩ := HS.out _ hb
      clear hM hblk hb hks
      by_cases hlt : k < n
      · have hrd := HR.out.below HBR.out
        obtain ⟨bX, oX, hAX, hcell⟩ := hrd.cell (Nat.lt_of_le_of_lt (Nat.zero_le _) hlt)
        subst hAX
        have d0 := hcell k hlt
        obtain ⟨bX', oX', hAX', hcellV⟩ := HR.out.cell (Nat.lt_of_le_of_lt (Nat.zero_le _) hlt)
        injection hAX' with hAX'
        injection hAX' with e1 e2 _
        subst e1 e2
        have DXV := Lib.hid (hcellV k hlt)
        have hkl : k < xs.length := by rw [HL.out]; exact hlt
        rw [List.length_take_of_le (by omega)] at hbd
        have hnx := next4_any (HG.out.below HBR.out) HES.out (lastI a (xs.take k))
        have hnl := nextT_len es bs (lastI a (xs.take k))
        have k0 : (0 : Int) ≤ (k : Int) := by omega
        have k1 : (k : Int) < (n : Int) := by omega
        have hst := fun h1 => stop_step HKS.out hkl h1
        have hsh := fun h1 => stop_here HKS.out hkl h1
        have hls := last_step (a := a) hkl
        have hss := sum_step (es := es) hkl
        have hin := walk_mem HW.out hkl
        have hhh := fun h1 => hint_here (ns := ns) (hsh h1) hkl
        obtain ⟨y, hyn, hyl⟩ : ∃ y : Nat, xs.getD k 0 = (y : Int) ∧ y < es.length := by
          unfold inB at hin
          simp only [Bool.and_eq_true, decide_eq_true_eq] at hin
          exact ⟨(xs.getD k 0).toNat, by omega, by omega⟩
        rw [hyn] at d0 hls hss hhh DXV
        rw [Int.toNat_natCast] at hss
        obtain ⟨x, hx⟩ : ∃ x, x = lastI a (xs.take k) := ⟨_, rfl⟩
        rw [← hx] at hnx hnl hst hsh hhh
        have hof := fun (w' : World) (hb : Below V.heap.size V w') => bend4_any (A3 := A3) (n3 := bs.length) (c3 := c3) (HG.out.below hb).rN (HG.out.below hb).rE HOK.out x (y : Int)
        obtain ⟨bE, oE, hAE, hcE⟩ := HG.out.rE.cell (by omega)
        obtain ⟨_, _, dW⟩ := hcE y hyl
        have hwb := w_bd HOK.out y
        obtain ⟨S, hS⟩ : ∃ S, S = sumW es (xs.take k) := ⟨_, rfl⟩
        rw [← hS] at hss hhh hbd HBLK
        obtain ⟨g2, hg⟩ : ∃ g, g = (es.getD y (0, 0, 0)).2.2 := ⟨_, rfl⟩
        rw [← hg] at hss dW hwb
        obtain ⟨N, hN⟩ : ∃ N, N = (nextT es bs x).length := ⟨_, rfl⟩
        rw [← hN] at hnx hnl hst hsh hhh
        rw [← HWE.out] at hhh
        subst hAE
        have HNX := Lib.hid hnx
        have HSS := Lib.hid hss
        have HLS := Lib.hid hls
        have HST2 := Lib.hid hst
        have HSH := Lib.hid hsh
        have HHH := Lib.hid hhh
        have HOF := Lib.hid hof
        have HNL := Lib.hid (Nat.le_trans hnl HES.out)
        have D0 := Lib.hid d0
        have DW := Lib.hid dW
        have y0 : (0 : Int) ≤ (y : Int) := by omega
        have y1' : (y : Int) < (es.length : Int) := by omega
        have hx0 := hbd.1
        have hsb : S + g2 ≤ 144115188075855872 := by omega
        have hsb0 : 0 ≤ S + g2 := by omega
        have s0 : IntKind.i64.wrap (S + g2) = S + g2 := IntWalk.i64_in _ (by omega)
        rw [← hx]
        clear hcellV hcell hnx hss hls hst hsh hhh hof hnl hx hS hg hN hin hwb hbd hrd hcE dW d0 hyn
        go_wp2_with fail
        refine HNX.out.mono ?_
        rintro e v1 ⟨AN, cN, rfl, _, _, hb1⟩
        have HB1 := Lib.hid hb1
        have HBV : Hid (Below V.heap.size V v1) := Lib.hid (bl_then HBR.out hb1)
        have hn5 := HNL.out
        have d1 := cell_below D0.out hb1
        have hbl1 := block_below HBLK.out hb1
        have HBL1 := Lib.hid hbl1
        clear hb1 hbl1 l0 l1 l2
        by_cases hN1 : N = 1
        · have hq : ((N : Int) == 1) = true := by simp [hN1]
          have hq2 : ((N : Int) != 1) = false := by simp [hN1]
          have hk2 := HST2.out hN1
          have HK2 := Lib.hid hk2
          clear hN1 hk2
          have HSX : Hid (∀ w', Below v1.heap.size v1 w' → w'.cell? ⟨hbk, 2, none⟩ = some (.int .i64 S) ∧ w'.cell? ⟨w.heap.size, 1, none⟩ = some (.slice (some ⟨bE, oE, none⟩) es.length c2) ∧ w'.cell? ⟨bE, oE + y * 3 + 2, none⟩ = some (.int .i64 g2)) :=
            Lib.hid fun w' hb => ⟨block_cell (block_below HBL1.out hb) (j := 2) rfl, (HS.out w' (bl_then HBV.out hb)).2.1, cell_below DW.out (bl_then HBV.out hb)⟩
          have HDR : Hid (Below v1.heap.size v1 v1.drew) := Lib.hid (bl_drew (Below.refl _ _))
          go_wp2_with fail
          refine wp_regionL (S := fun w' => w'.cell? ⟨hbk, 2, none⟩ = some (.int .i64 S) ∧ w'.cell? ⟨w.heap.size, 1, none⟩ = some (.slice (some ⟨bE, oE, none⟩) es.length c2) ∧ w'.cell? ⟨bE, oE + y * 3 + 2, none⟩ = some (.int .i64 g2)) 10 (by kernel_rfl) (HSX.out _ HDR.out) (fun hHeld => ?_)
          refine anyL_take (i := 0) (v := ?_) rfl (by kernel_rfl) (by kernel_rfl) (by kernel_rfl) (by kernel_rfl) (fun _ _ _ h => h) (Or.inl ⟨by rfl, ?_⟩) (by assumption) ?_
          rotate_left
          · intro w hSw; (try dsimp only at hSw); go_simp <;> with_reducible rfl
          (try simp only [Act.put, List.setIfInBounds_toArray, List.set_cons_zero, List.set_cons_succ, List.getElem_toArray, List.getElem_cons_succ, List.getElem_cons_zero])
          refine anyL_take (i := 1) (v := ?_) rfl (by kernel_rfl) (by kernel_rfl) (by kernel_rfl) (by kernel_rfl) (fun _ _ _ h => h) (Or.inl ⟨by rfl, ?_⟩) (by assumption) ?_
          rotate_left
          · intro w hSw; (try dsimp only at hSw); go_simp <;> with_reducible rfl
          (try simp only [Act.put, List.setIfInBounds_toArray, List.set_cons_zero, List.set_cons_succ, List.getElem_toArray, List.getElem_cons_succ, List.getElem_cons_zero])
          refine anyL_take (i := 2) (v := ?_) rfl (by kernel_rfl) (by kernel_rfl) (by kernel_rfl) (by kernel_rfl) (fun _ _ _ h => h) (Or.inl ⟨by rfl, ?_⟩) (by assumption) ?_
          rotate_left
          · intro w hSw; (try dsimp only at hSw); go_simp <;> with_reducible rfl
          (try simp only [Act.put, List.setIfInBounds_toArray, List.set_cons_zero, List.set_cons_succ, List.getElem_toArray, List.getElem_cons_succ, List.getElem_cons_zero])
          refine anyL_take (i := 3) (v := ?_) rfl (by kernel_rfl) (by kernel_rfl) (by kernel_rfl) (by kernel_rfl) (fun _ _ _ h => h) (Or.inl ⟨by rfl, ?_⟩) (by assumption) ?_
          rotate_left
          · intro w hSw; (try dsimp only at hSw); go_simp <;> with_reducible rfl
          (try simp only [Act.put, List.setIfInBounds_toArray, List.set_cons_zero, List.set_cons_succ, List.getElem_toArray, List.getElem_cons_succ, List.getElem_cons_zero])
          refine anyL_take (i := 4) (v := ?_) rfl (by kernel_rfl) (by kernel_rfl) (by kernel_rfl) (by kernel_rfl) (fun _ _ _ h => h) (Or.inl ⟨by rfl, ?_⟩) (by assumption) ?_
          rotate_left
          · intro w hSw; (try dsimp only at hSw); go_simp <;> with_reducible rfl
          (try simp only [Act.put, List.setIfInBounds_toArray, List.set_cons_zero, List.set_cons_succ, List.getElem_toArray, List.getElem_cons_succ, List.getElem_cons_zero])
          refine anyL_take (i := 5) (v := ?_) rfl (by kernel_rfl) (by kernel_rfl) (by kernel_rfl) (by kernel_rfl) (fun _ _ _ h => h) (Or.inl ⟨by rfl, ?_⟩) (by assumption) ?_
          rotate_left
          · intro w hSw; (try dsimp only at hSw); go_simp <;> with_reducible rfl
          (try simp only [Act.put, List.setIfInBounds_toArray, List.set_cons_zero, List.set_cons_succ, List.getElem_toArray, List.getElem_cons_succ, List.getElem_cons_zero])
          refine anyL_take (i := 6) (v := ?_) rfl (by kernel_rfl) (by kernel_rfl) (by kernel_rfl) (by kernel_rfl) (fun _ _ _ h => h) (Or.inl ⟨by rfl, ?_⟩) (by assumption) ?_
          rotate_left
          · intro w hSw; (try dsimp only at hSw); go_simp <;> with_reducible rfl
          (try simp only [Act.put, List.setIfInBounds_toArray, List.set_cons_zero, List.set_cons_succ, List.getElem_toArray, List.getElem_cons_succ, List.getElem_cons_zero])
          refine anyL_take (i := 7) (v := ?_) rfl (by kernel_rfl) (by kernel_rfl) (by kernel_rfl) (by kernel_rfl) (fun _ _ _ h => h) (Or.inl ⟨by rfl, ?_⟩) (by assumption) ?_
          rotate_left
          · intro w hSw; (try dsimp only at hSw); go_simp <;> with_reducible rfl
          (try simp only [Act.put, List.setIfInBounds_toArray, List.set_cons_zero, List.set_cons_succ, List.getElem_toArray, List.getElem_cons_succ, List.getElem_cons_zero])
          refine anyL_take (i := 8) (v := ?_) rfl (by kernel_rfl) (by kernel_rfl) (by kernel_rfl) (by kernel_rfl) (fun _ _ _ h => h) (Or.inl ⟨by rfl, ?_⟩) (by assumption) ?_
          rotate_left
          · intro w hSw; (try dsimp only at hSw); go_simp <;> with_reducible rfl
          (try simp only [Act.put, List.setIfInBounds_toArray, List.set_cons_zero, List.set_cons_succ, List.getElem_toArray, List.getElem_cons_succ, List.getElem_cons_zero])
          refine anyL_take (i := 9) (v := ?_) rfl (by kernel_rfl) (by kernel_rfl) (by kernel_rfl) (by kernel_rfl) (fun _ _ _ h => h) (Or.inl ⟨by rfl, ?_⟩) (by assumption) ?_
          rotate_left
          · intro w hSw; (try dsimp only at hSw); go_simp <;> with_reducible rfl
          (try simp only [Act.put, List.setIfInBounds_toArray, List.set_cons_zero, List.set_cons_succ, List.getElem_toArray, List.getElem_cons_succ, List.getElem_cons_zero])
          have hd1 := block_below HBL1.out HDR.out
          have p2 := block_cell hd1 (j := 2) rfl
          have f2 := block_fr hd1 2
          have HD1 := Lib.hid (blk2 hd1 (.int .i64 (S + g2)))
          have HD2 : Hid (Below V.heap.size V (v1.drew.setCell ⟨hbk, 2, none⟩ (.int .i64 (S + g2)))) := Lib.hid ((bl_drew HBV.out).setCell (p := ⟨hbk, 2, none⟩) HYS.out _)
          clear hd1
          refine anyL_ready (rs := [10]) (by kernel_rfl) (by simp) ?_
          refine AllL.cons rfl (fun K hK => ?_) AllL.nil
          go_simp
          refine hK.out _ _ (fun h => absurd rfl h) ?_
          clear hK K
          (try simp only [Act.put, List.setIfInBounds_toArray, List.set_cons_zero, List.set_cons_succ, List.getElem_toArray, List.getElem_cons_succ, List.getElem_cons_zero])
          refine anyL_done (by kernel_rfl) ?_ _
          go_wp2_with fail
          go_roundg (n - (k + 1))
          case measure => have := HM.out; omega
          case rel => exact ⟨k + 1, rfl, HK2.out, by go_num, by rw [HLS.out], by rw [HSS.out]; exact HD1.out, HD2.out⟩
        · have hq : ((N : Int) == 1) = false := beq_false_of_ne (by omega)
          have hq2 : ((N : Int) != 1) = true := by simp; omega
          have hs := HSH.out hN1
          have hh := HHH.out hN1
          obtain ⟨bv, hbv⟩ : ∃ bv, bv = bendT ns es x (y : Int) := ⟨_, rfl⟩
          rw [← hbv] at hh
          have HH := Lib.hid hh
          have HOF2 : Hid (∀ w', Below V.heap.size V w' → _) := Lib.hid fun w' hb => HOF.out w' hb
          rw [← hbv] at HOF2
          have HSX : Hid (∀ w', Below v1.heap.size v1 w' → w'.cell? ⟨w.heap.size, 0, none⟩ = some (.slice A1 ns.length c1) ∧ w'.cell? ⟨w.heap.size, 1, none⟩ = some (.slice (some ⟨bE, oE, none⟩) es.length c2) ∧ w'.cell? ⟨w.heap.size, 2, none⟩ = some (.slice A3 bs.length c3) ∧ w'.cell? ⟨bX, oX + k, none⟩ = some (.int .i64 (y : Nat))) :=
            Lib.hid fun w' hb => ⟨(HS.out w' (bl_then HBV.out hb)).1, (HS.out w' (bl_then HBV.out hb)).2.1, (HS.out w' (bl_then HBV.out hb)).2.2, cell_below d1 hb⟩
          have HDR : Hid (Below v1.heap.size v1 v1.drew) := Lib.hid (bl_drew (Below.refl _ _))
          clear hN1 hs hh hbv d1
          go_wp2_with fail
          refine wp_region_held_drew (S := fun w' => w'.cell? ⟨w.heap.size, 0, none⟩ = some (.slice A1 ns.length c1) ∧ w'.cell? ⟨w.heap.size, 1, none⟩ = some (.slice (some ⟨bE, oE, none⟩) es.length c2) ∧ w'.cell? ⟨w.heap.size, 2, none⟩ = some (.slice A3 bs.length c3) ∧ w'.cell? ⟨bX, oX + k, none⟩ = some (.int .i64 (y : Nat))) (by kernel_rfl) (HSX.out _ HDR.out) (fun hHeld => ?_)
          refine wpAnyH_take (i := 0) (v := ?_) rfl (by kernel_rfl) (by kernel_rfl) (by kernel_rfl) (fun _ _ _ h => h) (Or.inl ⟨by rfl, ?_⟩) (by assumption) ?_
          rotate_left
          · intro w hSw; (try dsimp only at hSw); go_simp <;> with_reducible rfl
          (try simp only [Act.put, List.setIfInBounds_toArray, List.set_cons_zero, List.set_cons_succ, List.getElem_toArray, List.getElem_cons_succ, List.getElem_cons_zero])
          refine wpAnyH_take (i := 1) (v := ?_) rfl (by kernel_rfl) (by kernel_rfl) (by kernel_rfl) (fun _ _ _ h => h) (Or.inl ⟨by rfl, ?_⟩) (by assumption) ?_
          rotate_left
          · intro w hSw; (try dsimp only at hSw); go_simp <;> with_reducible rfl
          (try simp only [Act.put, List.setIfInBounds_toArray, List.set_cons_zero, List.set_cons_succ, List.getElem_toArray, List.getElem_cons_succ, List.getElem_cons_zero])
          refine wpAnyH_take (i := 2) (v := ?_) rfl (by kernel_rfl) (by kernel_rfl) (by kernel_rfl) (fun _ _ _ h => h) (Or.inl ⟨by rfl, ?_⟩) (by assumption) ?_
          rotate_left
          · intro w hSw; (try dsimp only at hSw); go_simp <;> with_reducible rfl
          (try simp only [Act.put, List.setIfInBounds_toArray, List.set_cons_zero, List.set_cons_succ, List.getElem_toArray, List.getElem_cons_succ, List.getElem_cons_zero])
          refine wpAnyH_take (i := 3) (v := ?_) rfl (by kernel_rfl) (by kernel_rfl) (by kernel_rfl) (fun _ _ _ h => h) (Or.inl ⟨by rfl, ?_⟩) (by assumption) ?_
          rotate_left
          · intro w hSw; (try dsimp only at hSw); go_simp <;> with_reducible rfl
          (try simp only [Act.put, List.setIfInBounds_toArray, List.set_cons_zero, List.set_cons_succ, List.getElem_toArray, List.getElem_cons_succ, List.getElem_cons_zero])
          refine wpAnyH_take (i := 4) (v := ?_) rfl (by kernel_rfl) (by kernel_rfl) (by kernel_rfl) (fun _ _ _ h => h) (Or.inl ⟨by rfl, ?_⟩) (by assumption) ?_
          rotate_left
          · intro w hSw; (try dsimp only at hSw); go_simp <;> with_reducible rfl
          (try simp only [Act.put, List.setIfInBounds_toArray, List.set_cons_zero, List.set_cons_succ, List.getElem_toArray, List.getElem_cons_succ, List.getElem_cons_zero])
          refine wpAnyH_take (i := 5) (v := ?_) rfl (by kernel_rfl) (by kernel_rfl) (by kernel_rfl) (fun _ _ _ h => h) (Or.inl ⟨by rfl, ?_⟩) (by assumption) ?_
          rotate_left
          · intro w hSw; (try dsimp only at hSw); go_simp <;> with_reducible rfl
          (try simp only [Act.put, List.setIfInBounds_toArray, List.set_cons_zero, List.set_cons_succ, List.getElem_toArray, List.getElem_cons_succ, List.getElem_cons_zero])
          refine wpAnyH_take (i := 7) (v := ?_) rfl (by kernel_rfl) (by kernel_rfl) (by kernel_rfl) (fun _ _ _ h => h) (Or.inl ⟨by rfl, ?_⟩) (by assumption) ?_
          rotate_left
          · intro w hSw; (try dsimp only at hSw); go_simp <;> with_reducible rfl
          (try simp only [Act.put, List.setIfInBounds_toArray, List.set_cons_zero, List.set_cons_succ, List.getElem_toArray, List.getElem_cons_succ, List.getElem_cons_zero])
          refine wpAnyH_take (i := 8) (v := ?_) rfl (by kernel_rfl) (by kernel_rfl) (by kernel_rfl) (fun _ _ _ h => h) (Or.inl ⟨by rfl, ?_⟩) (by assumption) ?_
          rotate_left
          · intro w hSw; (try dsimp only at hSw); go_simp <;> with_reducible rfl
          (try simp only [Act.put, List.setIfInBounds_toArray, List.set_cons_zero, List.set_cons_succ, List.getElem_toArray, List.getElem_cons_succ, List.getElem_cons_zero])
          refine wpAnyH_take (i := 9) (v := ?_) rfl (by kernel_rfl) (by kernel_rfl) (by kernel_rfl) (fun _ _ _ h => h) (Or.inl ⟨by rfl, ?_⟩) (by assumption) ?_
          rotate_left
          · intro w hSw; (try dsimp only at hSw); go_simp <;> with_reducible rfl
          (try simp only [Act.put, List.setIfInBounds_toArray, List.set_cons_zero, List.set_cons_succ, List.getElem_toArray, List.getElem_cons_succ, List.getElem_cons_zero])
          refine wpAnyH_take (i := 10) (v := ?_) rfl (by kernel_rfl) (by kernel_rfl) (by kernel_rfl) (fun _ _ _ h => h) (Or.inl ⟨by rfl, ?_⟩) (by assumption) ?_
          rotate_left
          · intro w hSw; (try dsimp only at hSw); go_simp <;> with_reducible rfl
          (try simp only [Act.put, List.setIfInBounds_toArray, List.set_cons_zero, List.set_cons_succ, List.getElem_toArray, List.getElem_cons_succ, List.getElem_cons_zero])
          refine wpAnyH_ready (rs := [6]) (by kernel_rfl) (by simp) ?_
          refine AllReadyH.cons rfl (fun K hK => ?_) AllReadyH.nil
          go_simp
          with_reducible refine (HOF2.out _ (bl_then HBV.out HDR.out)).mono ?_
          rintro e v2 ⟨rfl, hb⟩
          have HB2' : Hid (Below v1.heap.size v1 v2) := Lib.hid (bl_then HDR.out hb)
          have hbl2 := block_below HBL1.out HB2'.out
          have HBW : Hid (Below V.heap.size V v2) := Lib.hid (bl_then HBV.out HB2'.out)
          have hrr2 := block_below HRV.out HBW.out
          clear hb
          have HX1 : Hid (∀ v, Below v1.heap.size v1 (v2.setCell ⟨hbk, 0, none⟩ v) → True) := Lib.hid fun _ _ => trivial
          have hne2 : hbk < v1.heap.size := block_at HBL1.out
          have p0 := block_cell hbl2 (j := 0) rfl
          have p1 := block_cell hbl2 (j := 1) rfl
          have p2 := block_cell hbl2 (j := 2) rfl
          have p3 := block_cell hbl2 (j := 3) rfl
          have f0 := block_fr hbl2 0
          have f1 := block_fr hbl2 1
          have f2 := block_fr hbl2 2
          have f3 := block_fr hbl2 3
          have r0 := block_cell hrr2 (j := 0) rfl
          have r1 := block_cell hrr2 (j := 1) rfl
          have r2 := block_cell hrr2 (j := 2) rfl
          have r3 := block_cell hrr2 (j := 3) rfl
          have fr0 := block_fr hrr2 0
          have fr1 := block_fr hrr2 1
          have fr2 := block_fr hrr2 2
          have fr3 := block_fr hrr2 3
          have HSY : Hid (∀ v u, (fun w' : World => w'.cell? ⟨w.heap.size, 0, none⟩ = some (.slice A1 ns.length c1) ∧ w'.cell? ⟨w.heap.size, 1, none⟩ = some (.slice (some ⟨bE, oE, none⟩) es.length c2) ∧ w'.cell? ⟨w.heap.size, 2, none⟩ = some (.slice A3 bs.length c3) ∧ w'.cell? ⟨bX, oX + k, none⟩ = some (.int .i64 (y : Nat))) (v2.setCell ⟨hbk, 0, none⟩ v) ∧ (fun w' : World => w'.cell? ⟨w.heap.size, 0, none⟩ = some (.slice A1 ns.length c1) ∧ w'.cell? ⟨w.heap.size, 1, none⟩ = some (.slice (some ⟨bE, oE, none⟩) es.length c2) ∧ w'.cell? ⟨w.heap.size, 2, none⟩ = some (.slice A3 bs.length c3) ∧ w'.cell? ⟨bX, oX + k, none⟩ = some (.int .i64 (y : Nat))) ((v2.setCell ⟨hbk, 0, none⟩ v).setCell ⟨hbk, 1, none⟩ u)) := Lib.hid fun v u => by
            have h1 : Below V.heap.size V (v2.setCell ⟨hbk, 0, none⟩ v) := HBW.out.setCell (p := ⟨hbk, 0, none⟩) HYS.out v
            have h2 : Below V.heap.size V ((v2.setCell ⟨hbk, 0, none⟩ v).setCell ⟨hbk, 1, none⟩ u) := h1.setCell (p := ⟨hbk, 1, none⟩) HYS.out u
            have dx := DXV.out
            exact ⟨⟨(HS.out _ h1).1, (HS.out _ h1).2.1, (HS.out _ h1).2.2, cell_below dx h1⟩, ⟨(HS.out _ h2).1, (HS.out _ h2).2.1, (HS.out _ h2).2.2, cell_below dx h2⟩⟩
          have HBL2 := Lib.hid hbl2
          have HRR2 := Lib.hid hrr2
          clear hbl2 hrr2 HX1 hne2
          refine hK.out _ _ (HSX.out _ HB2'.out) (fun hHeld => ?_)
          (try simp only [Act.put, List.setIfInBounds_toArray, List.set_cons_zero, List.set_cons_succ, List.getElem_toArray, List.getElem_cons_succ, List.getElem_cons_zero])
          refine wpAnyH_take (i := 11) (v := ?_) rfl (by kernel_rfl) (by kernel_rfl) (by kernel_rfl) (fun _ _ _ h => h) (Or.inl ⟨by rfl, ?_⟩) (by assumption) ?_
          rotate_left
          · intro w hSw; (try dsimp only at hSw); go_simp <;> with_reducible rfl
          (try simp only [Act.put, List.setIfInBounds_toArray, List.set_cons_zero, List.set_cons_succ, List.getElem_toArray, List.getElem_cons_succ, List.getElem_cons_zero])
          refine wpAnyH_ready (rs := [12]) (by kernel_rfl) (by simp) ?_
          refine AllReadyH.cons rfl (fun K hK => ?_) AllReadyH.nil
          go_simp
          refine hK.out _ _ (HSY.out _ (.int .i64 0)).1 (fun hHeld => ?_)
          (try simp only [Act.put, List.setIfInBounds_toArray, List.set_cons_zero, List.set_cons_succ, List.getElem_toArray, List.getElem_cons_succ, List.getElem_cons_zero])
          refine wpAnyH_take (i := 13) (v := ?_) rfl (by kernel_rfl) (by kernel_rfl) (by kernel_rfl) (fun _ _ _ h => h) (Or.inl ⟨by rfl, ?_⟩) (by assumption) ?_
          rotate_left
          · intro w hSw; (try dsimp only at hSw); go_simp <;> with_reducible rfl
          (try simp only [Act.put, List.setIfInBounds_toArray, List.set_cons_zero, List.set_cons_succ, List.getElem_toArray, List.getElem_cons_succ, List.getElem_cons_zero])
          refine wpAnyH_ready (rs := [14]) (by kernel_rfl) (by simp) ?_
          refine AllReadyH.cons rfl (fun K hK => ?_) AllReadyH.nil
          go_simp
          refine hK.out _ _ (HSY.out _ _).2 (fun hHeld => ?_)
          (try simp only [Act.put, List.setIfInBounds_toArray, List.set_cons_zero, List.set_cons_succ, List.getElem_toArray, List.getElem_cons_succ, List.getElem_cons_zero])
          refine wpAnyH_done (by kernel_rfl) ?_ _
          go_wp2_with fail
          have HRR : Hid (((v2.setCell ⟨hbk, 0, none⟩ (.int .i64 bv)).setCell ⟨hbk, 1, none⟩ (.int .i64 (y : Nat))).heap[w.heap.size + 1]? = some (.cells #[.int .i64 0, .int .i64 0, .int .i64 0, .int .i64 0] 78)) := Lib.hid ((heap_setCell_ne (a := ⟨hbk, 1, none⟩) hne1).trans ((heap_setCell_ne (a := ⟨hbk, 0, none⟩) hne1).trans HRR2.out))
          have HBF : Hid (Below w.heap.size w ((v2.setCell ⟨hbk, 0, none⟩ (.int .i64 bv)).setCell ⟨hbk, 1, none⟩ (.int .i64 (y : Nat)))) := Lib.hid (((bl_then HB2.out HBW.out).setCell (p := ⟨hbk, 0, none⟩) (by have := HYS.out; have := HSZ.out; show w.heap.size ≤ hbk; omega) _).setCell (p := ⟨hbk, 1, none⟩) (by have := HYS.out; have := HSZ.out; show w.heap.size ≤ hbk; omega) _)
          have hr4 := blk3 (blk2 (blk1 (blk0 HRR.out (.int .i64 bv)) (.int .i64 ((y : Nat) : Int))) (.int .i64 S)) (.int .i64 W)
          have z0 := block_cell hr4 (j := 0) rfl
          have z1 := block_cell hr4 (j := 1) rfl
          have z2 := block_cell hr4 (j := 2) rfl
          have z3 := block_cell hr4 (j := 3) rfl
          refine bodyPost_ret (v := .tuple #[.agg #[.int .i64 bv, .int .i64 ((y : Nat) : Int), .int .i64 S, .int .i64 W], .bool true]) (by simp [results, Try.results33, go_sem, z0, z1, z2, z3]) rfl ⟨by rw [HH.out]; rfl, ?_⟩
          exact (((HBF.out.setCell (p := ⟨w.heap.size + 1, 0, none⟩) (Nat.le_succ _) _).setCell (p := ⟨w.heap.size + 1, 1, none⟩) (Nat.le_succ _) _).setCell (p := ⟨w.heap.size + 1, 2, none⟩) (Nat.le_succ _) _).setCell (p := ⟨w.heap.size + 1, 3, none⟩) (Nat.le_succ _) _
      · have hkn : n = k := by omega
        have hsn : stopN es bs a xs = n := by have := HKS.out; have := HST.out; omega
        have hh := hint_end (ns := ns) (es := es) (bs := bs) (a := a) (l := xs) (by rw [HL.out, hsn]; exact Nat.le_refl _)
        have he : xs.take k = xs := List.take_of_length_le (by rw [HL.out]; omega)
        have hbk0 := HBLK.out
        rw [he] at hbk0
        rw [← HWE.out] at hh
        obtain ⟨S, hS⟩ : ∃ S, S = sumW es xs := ⟨_, rfl⟩
        rw [← hS] at hbk0 hh
        subst hkn
        have HH := Lib.hid hh
        have hrr2 := block_below HRV.out HBR.out
        have p0 := block_cell hbk0 (j := 0) rfl
        have p1 := block_cell hbk0 (j := 1) rfl
        have p2 := block_cell hbk0 (j := 2) rfl
        have p3 := block_cell hbk0 (j := 3) rfl
        have f0 := block_fr hbk0 0
        have f1 := block_fr hbk0 1
        have r0 := block_cell hrr2 (j := 0) rfl
        have r1 := block_cell hrr2 (j := 1) rfl
        have r2 := block_cell hrr2 (j := 2) rfl
        have r3 := block_cell hrr2 (j := 3) rfl
        have fr0 := block_fr hrr2 0
        have fr1 := block_fr hrr2 1
        have fr2 := block_fr hrr2 2
        have fr3 := block_fr hrr2 3
        have HRR2 := Lib.hid hrr2
        clear hlt hk hsn hh he hbk0 hS hbd l0 l1 l2 hrr2
        go_wp2_with fail
        have HRR : Hid (((wr.setCell ⟨hbk, 0, none⟩ (.int .i64 9)).setCell ⟨hbk, 1, none⟩ (.int .i64 (-1))).heap[w.heap.size + 1]? = some (.cells #[.int .i64 0, .int .i64 0, .int .i64 0, .int .i64 0] 78)) := Lib.hid ((heap_setCell_ne (a := ⟨hbk, 1, none⟩) hne1).trans ((heap_setCell_ne (a := ⟨hbk, 0, none⟩) hne1).trans HRR2.out))
        have HBF : Hid (Below w.heap.size w ((wr.setCell ⟨hbk, 0, none⟩ (.int .i64 9)).setCell ⟨hbk, 1, none⟩ (.int .i64 (-1)))) := Lib.hid (((bl_then HB2.out HBR.out).setCell (p := ⟨hbk, 0, none⟩) (by have := HYS.out; have := HSZ.out; show w.heap.size ≤ hbk; omega) _).setCell (p := ⟨hbk, 1, none⟩) (by have := HYS.out; have := HSZ.out; show w.heap.size ≤ hbk; omega) _)
        have hr4 := blk3 (blk2 (blk1 (blk0 HRR.out (.int .i64 9)) (.int .i64 (-1))) (.int .i64 S)) (.int .i64 W)
        have z0 := block_cell hr4 (j := 0) rfl
        have z1 := block_cell hr4 (j := 1) rfl
        have z2 := block_cell hr4 (j := 2) rfl
        have z3 := block_cell hr4 (j := 3) rfl
        refine bodyPost_ret (v := .tuple #[.agg #[.int .i64 9, .int .i64 (-1), .int .i64 S, .int .i64 W], .bool true]) (by simp [results, Try.results33, go_sem, z0, z1, z2, z3]) rfl ⟨by rw [HH.out]; rfl, ?_⟩
        exact (((HBF.out.setCell (p := ⟨w.heap.size + 1, 0, none⟩) (Nat.le_succ _) _).setCell (p := ⟨w.heap.size + 1, 1, none⟩) (Nat.le_succ _) _).setCell (p := ⟨w.heap.size + 1, 2, none⟩) (Nat.le_succ _) _).setCell (p := ⟨w.heap.size + 1, 3, none⟩) (Nat.le_succ _) _
end Go.Proofs.Ytkdpfbefdhjmcaa
