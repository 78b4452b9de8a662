/- LeastFirst: no other walk as heavy that ends there is less: wherever one leaves it, it goes on by a greater number, or is heavier. For every input, without a condition. -/
import Derived.Test.YtjopiefojicblaaAwake12
import Derived.Test.YtjopiefojicblaaWay4
import Derived.Test.YtjopiefojicblaaStill
import Derived.Test.YtjopiefojicblaaBase
import Derived.BigQuiet
import Derived.Deep.RegionHeld3
set_option linter.unusedVariables false
set_option linter.unusedSimpArgs false
namespace Go.Proofs.Ytjopiefojicblaa.leastFirst
open Go.ChangeShapes Go.WideShapes Go.ChangeAt Go.RowKit HeapP DistP
set_option maxRecDepth 100000 in
set_option maxHeartbeats 4000000 in
theorem walk_out (A : Option Addr) (n k : Nat) (a b : Int) (s1 : n ≤ 9223372036854775807) (w : World) (h1 : 100 < n) :
    Calls Try.prog 9 #[.slice A n k, .int .i64 a, .int .i64 b] w fun e w' => e = .returned (.bool true) ∧ Below w.heap.size w w' := by
  go_enter Try.func9, Try.ntmps9
  go_wp2_with (go_at_call 28; refine (awake12 _).mono ?_; rintro e w1 ⟨rfl, hb1⟩)
  go_ret
  exact ⟨rfl, by assumption⟩
theorem next_rises (es : Es) (bs : Bs) (x : Nat) : (nextN es bs x).Pairwise (· < ·) := List.pairwise_lt_range.filter _
/-- where the step is found: what stands ahead of it is less and fits not -/
theorem step_pos {es : Es} {bs : Bs} {cl : List Bool} {D : Nat → Int} {x y : Nat} (h : stepN es bs cl D x = some y) :
    ∃ p, p < (nextN es bs x).length ∧ (nextN es bs x).getD p 0 = y ∧ ∀ j, j < p → fitB es cl D x ((nextN es bs x).getD j 0) = false ∧ (nextN es bs x).getD j 0 < y := by
  unfold stepN at h
  rw [List.find?_eq_some_iff_append] at h
  obtain ⟨_, l1, l2, e, hno⟩ := h
  have hr := next_rises es bs x
  rw [e] at hr ⊢
  refine ⟨l1.length, by simp, by simp [List.getD_eq_getElem?_getD], fun j hj => ?_⟩
  have e2 : (l1 ++ y :: l2).getD j 0 = l1[j] := by rw [List.getD_eq_getElem?_getD, List.getElem?_append_left hj, List.getElem?_eq_getElem hj]; rfl
  rw [e2]
  refine ⟨by have := hno l1[j] (List.getElem_mem hj); simpa using this, (List.pairwise_append.1 hr).2.2 _ (List.getElem_mem hj) y (by simp)⟩
theorem way_next {ns bs : Bs} {es : Es} {cl : List Bool} {v : Int} {D : Nat → Int} (h : mayB ns es bs = true) (hD : IsD es.length (toSrc es v) (toSucc es bs cl) (toW es) D) {x i : Nat} {L : List Nat} (hx : x < es.length) (hw : wayL es bs cl D x = L.drop i) (hi : i < L.length) :
    ∃ y, stepN es bs cl D x = some y ∧ L.getD i 0 = y ∧ wayL es bs cl D y = L.drop (i + 1) := by
  have hp : 0 < D x := by
    rcases Int.lt_or_le 0 (D x) with h1 | h1
    · exact h1
    · rw [way_end (by omega)] at hw
      have := congrArg List.length hw
      simp at this; omega
  obtain ⟨y, hy⟩ := step_some h hD hx hp
  rw [way_more hp hy, List.drop_eq_getElem_cons hi] at hw
  injection hw with e1 e2
  exact ⟨y, hy, by rw [List.getD_eq_getElem?_getD, List.getElem?_eq_getElem hi]; exact e1.symm, e2⟩
theorem castL_get {L : List Nat} {i : Nat} (h : i < L.length) : (castL L).getD i 0 = ((L.getD i 0 : Nat) : Int) := map_cast_getD h
set_option maxRecDepth 100000 in
set_option maxHeartbeats 16000000 in
theorem walk_ins (A : Option Addr) (n k : Nat) (xs : List Int) (eI : Int) (heI : (Lit.int .i64 eI).wf = true) (nI : Int) (hnI : (Lit.int .i64 nI).wf = true) (w : World) (h : n ≤ 100)
    (hk : ReadsI w A n k xs) :
    Calls Try.prog 9 #[.slice A n k, .int .i64 eI, .int .i64 nI] w fun e w' => e = .returned (.bool true) ∧ Below w.heap.size w w' := by
  have HOK := Lib.hid (town_good xs)
  have hmd := made12 hk
  have hE70 := len_townE xs
  obtain ⟨ns, hns⟩ : ∃ ns, ns = townN xs := ⟨_, rfl⟩
  obtain ⟨es, hes⟩ : ∃ es, es = townE xs := ⟨_, rfl⟩
  obtain ⟨bs, hbs⟩ : ∃ bs, bs = townB xs := ⟨_, rfl⟩
  rw [← hes] at hE70
  rw [← hns, ← hes, ← hbs] at HOK hmd
  have HMD := Lib.hid hmd
  obtain ⟨s1, s2, s3, s4⟩ := (mayB_parts HOK.out).2.1
  clear hmd hns hes hbs
  obtain ⟨e1, e70⟩ := hE70
  have ra := fun w => round_still heI (n := (es.length : Int)) (by omega) (by omega) w
  have rb := fun w => round_still hnI (n := (ns.length : Int)) (by omega) (by omega) w
  have j0 := Int.emod_nonneg eI (show (es.length : Int) ≠ 0 by omega)
  have j1 := Int.emod_lt_of_pos eI (show (0 : Int) < es.length by omega)
  have i0 := Int.emod_nonneg nI (show (ns.length : Int) ≠ 0 by omega)
  have i1 := Int.emod_lt_of_pos nI (show (0 : Int) < ns.length by omega)
  obtain ⟨q, ha⟩ : ∃ a : Nat, eI % (es.length : Int) = (a : Int) := ⟨(eI % (es.length : Int)).toNat, by omega⟩
  obtain ⟨v, hv⟩ : ∃ v : Nat, nI % (ns.length : Int) = (v : Int) := ⟨(nI % (ns.length : Int)).toNat, by omega⟩
  rw [ha] at ra j0 j1
  rw [hv] at rb i0 i1
  have HAN : Hid (q < es.length) := Lib.hid (by omega)
  have HVN : Hid (v < ns.length) := Lib.hid (by omega)
  have RA := Lib.hid ra
  have RB := Lib.hid rb
  clear hk ra rb ha hv heI hnI
  go_enter Try.func9, Try.ntmps9
  go_wp2_with fail
  refine HMD.out.mono ?_
  rintro e w1 ⟨A1, A2, A3, c1, c2, c3, B, t, p, rfl, hM⟩
  have hbx := bl_alloc (Below.refl w1.heap.size w1) (.cells #[.slice A1 ns.length c1, .slice A2 es.length c2, .slice A3 bs.length c3] 29)
  obtain ⟨v0, hv0⟩ : ∃ v0, v0 = w1.alloc (.cells #[.slice A1 ns.length c1, .slice A2 es.length c2, .slice A3 bs.length c3] 29) := ⟨_, rfl⟩
  have HS : Hid (∀ w', Below v0.heap.size v0 w' → w'.cell? ⟨w1.heap.size, 0, none⟩ = some (.slice A1 ns.length c1) ∧ w'.cell? ⟨w1.heap.size, 1, none⟩ = some (.slice A2 es.length c2) ∧ w'.cell? ⟨w1.heap.size, 2, none⟩ = some (.slice A3 bs.length c3)) := Lib.hid fun w' hb => by subst hv0; exact GR.box hb
  have k0 : (w1.alloc (.cells #[.slice A1 ns.length c1, .slice A2 es.length c2, .slice A3 bs.length c3] 29)).cell? ⟨w1.heap.size, 0, none⟩ = some (.slice A1 ns.length c1) := cell_three_new 0 _ rfl
  have k1 : (w1.alloc (.cells #[.slice A1 ns.length c1, .slice A2 es.length c2, .slice A3 bs.length c3] 29)).cell? ⟨w1.heap.size, 1, none⟩ = some (.slice A2 es.length c2) := cell_three_new 1 _ rfl
  have k2 : (w1.alloc (.cells #[.slice A1 ns.length c1, .slice A2 es.length c2, .slice A3 bs.length c3] 29)).cell? ⟨w1.heap.size, 2, none⟩ = some (.slice A3 bs.length c3) := cell_three_new 2 _ rfl
  rw [← hv0] at hbx
  have HG := Lib.hid (hM.g.below hbx)
  have HT := Lib.hid (hM.t.below hbx)
  have HBW : Hid (Below w.heap.size w v0) := Lib.hid (hM.below.trans (hbx.mono hM.below.size))
  have HV0 := Lib.hid hv0
  have HTE : Hid (w1.heap.size < v0.heap.size) := Lib.hid (by rw [hv0, size_alloc]; omega)
  have HLO : Hid (w.heap.size ≤ B) := Lib.hid hM.lo
  clear hM hbx hv0 HMD
  go_wp2_with fail
  rw [← HV0.out]
  clear k0 k1 k2
  obtain ⟨l0, l1, l2⟩ := HS.out _ (Below.refl _ _)
  go_quiet ((go_at_call 25; first | with_reducible refine Calls.quiet_of_same (RA.out _) | with_reducible refine Calls.quiet_of_same (RB.out _)))
  go_wp2_with fail
  generalize hV : World.drewN v0 _ = vz
  have B0 : Hid (Below v0.heap.size v0 vz) := Lib.hid (by rw [← hV]; exact bl_drewN (Below.refl _ _) _)
  clear hV l0 l1 l2
  have HSQ : Hid (∀ w', Below vz.heap.size vz w' → w'.cell? ⟨w1.heap.size, 0, none⟩ = some (.slice A1 ns.length c1) ∧ w'.cell? ⟨w1.heap.size, 1, none⟩ = some (.slice A2 es.length c2) ∧ w'.cell? ⟨w1.heap.size, 2, none⟩ = some (.slice A3 bs.length c3)) := Lib.hid fun w' h => HS.out w' (bl_then B0.out h)
  have HTZ := Lib.hid (HT.out.below B0.out)
  have HGZ := Lib.hid (HG.out.below B0.out)
  have BZ : Hid (∀ w', Below vz.heap.size vz w' → Below w.heap.size w w') := Lib.hid fun w' h => HBW.out.trans ((bl_then B0.out h).mono HBW.out.size)
  have r1 := way_at HTZ.out (nilB vz) e1 (q : Int) (v : Int)
  have r6 := fun (w' : World) (hb : Below vz.heap.size vz w') => to4_at (HGZ.out.below hb) HOK.out (nilB w') (v : Int)
  have hin2 : inB 0 (q : Int) ((es.length : Int) - 1) = true := by unfold inB; simp; omega
  have hin : inB 0 (v : Int) ((ns.length : Int) - 1) = true := by unfold inB; simp; omega
  have et : toT ns es bs [] (v : Int) = toD es bs [] (v : Int) := by unfold toT; rw [if_pos hin]
  have eb : btwT ns es bs [] (q : Int) (v : Int) = dl (toD es bs [] (v : Int)) q := by unfold btwT; rw [if_pos ⟨hin2, hin⟩, Int.toNat_natCast]
  have hD := toD_is HOK.out [] (v : Int)
  rw [et, hD.1] at r6
  have HL := Lib.hid hD.1
  have HIS := Lib.hid hD.2
  have hbd := fun x => dl_bd (toD_bd HOK.out [] (v : Int)) x
  have hwT : wayT ns es bs [] (q : Int) (v : Int) = if 0 ≤ dl (toD es bs [] (v : Int)) q then castL (wayL es bs [] (dl (toD es bs [] (v : Int))) q) else [] := by unfold wayT; rw [eb, Int.toNat_natCast]
  rw [hwT, eb] at r1
  obtain ⟨TL, hTL⟩ : ∃ TL, TL = toD es bs [] (v : Int) := ⟨_, rfl⟩
  rw [← hTL] at r1 r6 HL HIS hbd
  obtain ⟨D, hDD⟩ : ∃ D, D = dl TL := ⟨_, rfl⟩
  rw [← hDD] at r1 HIS hbd
  have HDE := Lib.hid hDD
  have R6 := Lib.hid r6
  have HBD := Lib.hid hbd
  clear r6 hD hbd hwT eb et hin hin2 hTL hDD
  by_cases h0 : 0 ≤ D q
  · rw [if_pos h0, decide_eq_true h0] at r1
    have hlen := way_len (es := es) (bs := bs) (cl := []) (D := D) (D q).toNat (e := q) (by omega)
    have hl9 : (wayL es bs [] D q).length ≤ 33553920 := by have := (HBD.out q).2; omega
    have hwq : wayL es bs [] D q = (wayL es bs [] D q).drop 0 := rfl
    obtain ⟨L, hL⟩ : ∃ L, L = wayL es bs [] D q := ⟨_, rfl⟩
    have hwq : wayL es bs [] D q = L.drop 0 := by rw [hL]; rfl
    rw [← hL] at r1 hl9
    rw [castL_len] at r1
    have R1 := Lib.hid r1
    have HWQ := Lib.hid hwq
    have HQ0 := Lib.hid h0
    clear r1 hlen hwq hL h0
    refine R1.out.mono ?_
    rintro r y1 ⟨AW, cW, rfl, hg, hb⟩
    have J1 := Lib.hid hb
    have hg1 := hg.1
    rw [castL_len] at hg1
    have HW1 := Lib.hid hg1
    obtain ⟨l0, l1, l2⟩ := HSQ.out _ hb
    clear hb hg hg1
    go_wp2_with fail
    refine (R6.out _ J1.out).mono ?_
    rintro r y2 ⟨AT, cT, rfl, hg, hb⟩
    have J2 := Lib.hid (bl_then J1.out hb)
    have hg1 := hg.1
    rw [HL.out] at hg1
    have HT2 := Lib.hid hg1
    have HW2 := Lib.hid (HW1.out.below hb)
    clear hb hg hg1 l0 l1 l2
    go_wp2_with fail
    go_loopg [14, 9] L.length (fun M u z wr => ∃ i x : Nat, M = L.length - i ∧ i ≤ L.length ∧ u = .int .i64 (i : Nat) ∧ z = .int .i64 (x : Nat) ∧ x < es.length ∧ 0 ≤ D x ∧ wayL es bs [] D x = L.drop i ∧ Below y2.heap.size y2 wr)
    case atStart => exact ⟨0, q, rfl, Nat.zero_le _, rfl, rfl, HAN.out, HQ0.out, HWQ.out, Below.refl _ _⟩
    case round =>
      obtain ⟨i, x, hM, hi, rfl, rfl, hx, hx0, hwx, hb⟩ := hrel
      have HM := Lib.hid hM
      have HX0 := Lib.hid hx0
      have HWX := Lib.hid hwx
      have HB := Lib.hid hb
      obtain ⟨bT, oT, hAT, hcT⟩ := (HT2.out.below HB.out).cell (by omega)
      have dX := hcT x hx
      rw [dl_get (by rw [HL.out]; exact hx), ← HDE.out] at dX
      subst hAT
      have x0 : (0 : Int) ≤ (x : Int) := by omega
      have x1 : (x : Int) < (es.length : Int) := by omega
      have hbx := HBD.out x
      clear hM hx0 hwx hb hcT
      by_cases hlt : i < L.length
      · obtain ⟨y, hy, hLy, hwy⟩ := way_next HOK.out HIS.out hx HWX.out hlt
        obtain ⟨p1, p2, p3, p4, p5, p6⟩ := step_parts hy
        obtain ⟨p', hp1, hp2, hp3⟩ := step_pos hy
        have hcD := fun z (hz : z < es.length) (ht : turnB es bs ((x : Nat) : Int) ((z : Nat) : Int) = true) h0 => HIS.out.c z x hz (toSucc_mem.2 ⟨rfl, hx, ht⟩) h0
        obtain ⟨bW, oW, hAW, hcW⟩ := (HW2.out.below HB.out).cell (by omega)
        have dW := hcW i hlt
        rw [castL_get hlt, hLy] at dW
        subst hAW
        obtain ⟨dx, hdx⟩ : ∃ dx, dx = D x := ⟨_, rfl⟩
        rw [← hdx] at dX hbx
        have HDX := Lib.hid hdx
        have hnx := next4_any (HGZ.out.below (bl_then J2.out HB.out)) s3 (x : Int)
        rw [nextT_eq] at hnx
        rw [List.length_map] at hnx
        have hnl : (nextN es bs x).length ≤ 512 := by unfold nextN; exact Nat.le_trans (List.length_filter_le _ _) (by simpa using s3)
        have HNX := Lib.hid hnx
        have HP1 := Lib.hid hp1
        have HP2 := Lib.hid hp2
        have HP3 := Lib.hid hp3
        have HY1 := Lib.hid p1
        have HY4 := Lib.hid p4
        have HWY := Lib.hid hwy
        have HCD := Lib.hid hcD
        have HXL := Lib.hid hx
        have y0 : (0 : Int) ≤ (y : Int) := by omega
        have i0' : (0 : Int) ≤ (i : Int) := by omega
        have i1' : (i : Int) < (L.length : Int) := by omega
        have hpn : p' ≤ 512 := by omega
        obtain ⟨l0, l1, l2⟩ := HSQ.out _ (bl_then J2.out HB.out)
        clear hy hLy hwy p1 p2 p3 p4 p5 p6 hp1 hp2 hp3 hcD hcW hnx hdx
        go_wp2_with fail
        refine HNX.out.mono ?_
        rintro r wn ⟨AN, cN, rfl, hr, _, hb⟩
        have HRN := Lib.hid hr
        have HBN := Lib.hid hb
        have dXn := cell_below dX hb
        have dWn := cell_below dW hb
        have DXN := Lib.hid dXn
        have DWN := Lib.hid dWn
        clear hr hb l0 l1 l2 dX dW dXn dWn
        go_wp2_with fail
        go_loopg [16] (p' + 1) (fun M u wr => ∃ k : Nat, M = p' - k + 1 ∧ k ≤ p' ∧ u = .int .i64 (k : Nat) ∧ Below wn.heap.size wn wr)
        case atStart => exact ⟨0, rfl, Nat.zero_le _, rfl, Below.refl _ _⟩
        case round =>
          obtain ⟨k, hMK, hkp, rfl, hbk⟩ := hrel
          have HMK := Lib.hid hMK
          have HBK := Lib.hid hbk
          have hkl : k < (nextN es bs x).length := by have := HP1.out; omega
          obtain ⟨bN, oN, hAN, hcN⟩ := (HRN.out.below HBK.out).cell (by omega)
          have dN := hcN k hkl
          rw [map_cast_getD hkl] at dN
          subst hAN
          have hmem : (nextN es bs x).getD k 0 ∈ nextN es bs x := by rw [List.getD_eq_getElem?_getD, List.getElem?_eq_getElem hkl]; exact List.getElem_mem hkl
          obtain ⟨hzl, hzt⟩ := nextN_mem.1 hmem
          have dW := cell_below DWN.out HBK.out
          have dX := cell_below DXN.out HBK.out
          have k0' : (0 : Int) ≤ (k : Int) := by omega
          have k1' : (k : Int) < ((nextN es bs x).length : Int) := by omega
          clear hMK hbk hcN hmem
          by_cases hkq : k < p'
          · obtain ⟨hf, hz⟩ := HP3.out k hkq
            obtain ⟨z, hz'⟩ : ∃ z, z = (nextN es bs x).getD k 0 := ⟨_, rfl⟩
            rw [← hz'] at dN hzl hzt hf hz
            have hwz := wN_bd HOK.out z
            obtain ⟨bT3, oT3, hAT3, hcT3⟩ := (HT2.out.below (bl_then HB.out (bl_then HBN.out HBK.out))).cell (by omega)
            injection hAT3 with hAT3
            injection hAT3 with hAT5 hAT6 _
            subst hAT5 hAT6
            have dZ := hcT3 z hzl
            rw [dl_get (by rw [HL.out]; exact hzl), ← HDE.out] at dZ
            obtain ⟨bE, oE, hAE, hcE⟩ := (HGZ.out.below (bl_then J2.out (bl_then HB.out (bl_then HBN.out HBK.out)))).rE.cell (by omega)
            obtain ⟨_, _, dV⟩ := hcE z hzl
            rw [show (es.getD z (0, 0, 0)).2.2 = wN es z from rfl] at dV
            obtain ⟨l0, l1, l2⟩ := HSQ.out _ (bl_then J2.out (bl_then HB.out (bl_then HBN.out HBK.out)))
            rw [hAE] at l1
            have hbz := HBD.out z
            have hcz := fun h0 => (HCD.out z hzl hzt h0).2
            have hfz := @fitB_iff es [] D x z
            rw [show toW es z x = wN es z from rfl] at hcz
            rw [← HDX.out] at hcz hfz
            obtain ⟨dz, hdz⟩ : ∃ dz, dz = D z := ⟨_, rfl⟩
            obtain ⟨wz, hwz2⟩ : ∃ wz, wz = wN es z := ⟨_, rfl⟩
            rw [← hdz] at dZ hbz hcz hfz
            rw [← hwz2] at dV hwz hcz hfz
            have hsum : IntKind.i64.wrap (dz + wz) = dz + wz := IntWalk.i64_in _ (by omega)
            have hno : 0 ≤ dz → ¬ dz + wz ≤ dx := fun h1 h2 => by
              have h3 := hcz h1
              have h4 := hwz.2.2 hzl
              have : fitB es [] D x z = true := hfz.2 ⟨rfl, h1, by omega, by omega⟩
              rw [this] at hf; cases hf
            have HNO := Lib.hid hno
            have z0 : (0 : Int) ≤ (z : Int) := by omega
            have z1 : (z : Int) < (es.length : Int) := by omega
            have c1' : decide ((z : Int) < (y : Int)) = true := decide_eq_true (by omega)
            have c2' : decide (z < y) = true := decide_eq_true hz
            have c3' : (z : Int) < (y : Int) := by omega
            clear hcT3 hcE hAE hcz hfz hno hdz hwz2 hwz hf hz hz' hzt
            by_cases hd0 : 0 ≤ dz
            · have b1 : decide (0 ≤ dz) = true := decide_eq_true hd0
              have b3 : decide (dz + wz ≤ dx) = false := decide_eq_false (HNO.out hd0)
              go_wp2_with fail
              go_quiet (fail)
              go_wp2_with fail
              go_quiet (fail)
              go_wp2_with fail
              go_roundg (p' - (k + 1) + 1)
              case measure => have := HMK.out; omega
              case rel => exact ⟨k + 1, rfl, by omega, by go_num, bl_drewN HBK.out _⟩
            · have b1 : decide (0 ≤ dz) = false := decide_eq_false hd0
              go_wp2_with fail
              go_quiet (fail)
              go_wp2_with fail
              go_quiet (fail)
              go_wp2_with fail
              go_roundg (p' - (k + 1) + 1)
              case measure => have := HMK.out; omega
              case rel => exact ⟨k + 1, rfl, by omega, by go_num, bl_drewN HBK.out _⟩
          · obtain rfl : k = p' := by omega
            have hz := HP2.out
            rw [hz] at dN
            have c1' : decide ((y : Int) < (y : Int)) = false := by simp
            have hed := fun w' : World => edge4_c (A1 := A1) (A2 := A2) (A3 := A3) (n1 := ns.length) (n2 := es.length) (n3 := bs.length) (c1 := c1) (c2 := c2) (c3 := c3) (by unfold maxLen; omega) (y : Int) w'
            have hyl := HY1.out
            rw [show inB 0 (y : Int) ((es.length : Int) - 1) = true by unfold inB; simp; omega] at hed
            have HED := Lib.hid hed
            have HDW := Lib.hid dW
            clear hz hed hzl hzt hyl
            go_wp2_with fail
            go_quiet (fail)
            go_wp2_with fail
            generalize hV : World.drewN wr _ = wd
            have HBD2 : Hid (Below wn.heap.size wn wd) := Lib.hid (by rw [← hV]; exact bl_drewN HBK.out _)
            have HWD : Hid (Below wr.heap.size wr wd) := Lib.hid (by rw [← hV]; exact bl_drewN (Below.refl _ _) _)
            have BD : Hid (∀ w', Below wd.heap.size wd w' → Below vz.heap.size vz w') := Lib.hid fun w' h => bl_then J2.out (bl_then HB.out (bl_then HBN.out (bl_then HBD2.out h)))
            have HSX : Hid (∀ w', Below wd.heap.size wd w' → (w'.cell? ⟨w1.heap.size, 0, none⟩ = some (.slice A1 ns.length c1) ∧ w'.cell? ⟨w1.heap.size, 1, none⟩ = some (.slice A2 es.length c2) ∧ w'.cell? ⟨w1.heap.size, 2, none⟩ = some (.slice A3 bs.length c3)) ∧ w'.cell? ⟨bW, oW + i, none⟩ = some (.int .i64 (y : Nat))) := Lib.hid fun w' h => ⟨HSQ.out w' (BD.out w' h), cell_below (cell_below HDW.out HWD.out) h⟩
            have Z0 : Hid (Below wd.heap.size wd wd.drew) := Lib.hid (bl_drew (Below.refl _ _))
            clear hV dN dW dX c1'
            go_region_held3 (fun w' => (w'.cell? ⟨w1.heap.size, 0, none⟩ = some (.slice A1 ns.length c1) ∧ w'.cell? ⟨w1.heap.size, 1, none⟩ = some (.slice A2 es.length c2) ∧ w'.cell? ⟨w1.heap.size, 2, none⟩ = some (.slice A3 bs.length c3)) ∧ w'.cell? ⟨bW, oW + i, none⟩ = some (.int .i64 (y : Nat)))
              (first | exact HSX.out _ Z0.out | exact HSX.out _ Z1.out)
              (first
                | (go_at_call 35
                   refine (HED.out _).mono ?_
                   rintro r z3 ⟨rfl, hb⟩
                   have Z1 : Hid (Below wd.heap.size wd z3) := Lib.hid (bl_then Z0.out hb)
                   clear hb))
            all_goals
              have dW := (HSX.out _ Z1.out).2
              go_wp2_with fail
              go_roundg (L.length - (i + 1))
              case measure => have := HM.out; omega
              case rel => exact ⟨i + 1, y, rfl, by omega, by go_num, rfl, HY1.out, HY4.out, HWY.out, bl_then HB.out (bl_then HBN.out (bl_then HBD2.out Z1.out))⟩
      · obtain rfl : i = L.length := by omega
        have hz : D x = 0 := by
          have hw := HWX.out
          rw [List.drop_length] at hw
          rcases Int.lt_or_le 0 (D x) with h1 | h1
          · obtain ⟨y, hy⟩ := step_some HOK.out HIS.out hx h1
            rw [way_more h1 hy] at hw; cases hw
          · have := HX0.out; omega
        rw [hz] at dX
        clear hz
        go_wp2_with (go_at_call 28; refine (awake12 _).mono ?_; rintro e w6 ⟨rfl, hb6⟩)
        go_ret
        exact ⟨rfl, BZ.out _ (bl_then J2.out (bl_then HB.out hb6))⟩
  · rw [if_neg h0, decide_eq_false h0] at r1
    have R1 := Lib.hid r1
    have HQN : Hid (D q < 0) := Lib.hid (by omega)
    clear r1 h0
    refine R1.out.mono ?_
    rintro r y1 ⟨AW, cW, rfl, hg, hb⟩
    have J1 := Lib.hid hb
    obtain ⟨l0, l1, l2⟩ := HSQ.out _ hb
    clear hb hg
    go_wp2_with fail
    refine (R6.out _ J1.out).mono ?_
    rintro r y2 ⟨AT, cT, rfl, hg, hb⟩
    have J2 := Lib.hid (bl_then J1.out hb)
    have hg1 := hg.1
    rw [HL.out] at hg1
    obtain ⟨bT, oT, hAT, hcT⟩ := hg1.cell (by omega)
    have dX := hcT q HAN.out
    rw [dl_get (by rw [HL.out]; exact HAN.out), ← HDE.out] at dX
    subst hAT
    have hqn := HQN.out
    obtain ⟨dq, hdq⟩ : ∃ dq, dq = D q := ⟨_, rfl⟩
    rw [← hdq] at dX hqn
    have b1 : decide (dq < 0) = true := decide_eq_true hqn
    clear hb hg hg1 hcT hdq l0 l1 l2
    go_wp2_with (go_at_call 28; refine (awake12 _).mono ?_; rintro e w6 ⟨rfl, hb6⟩)
    go_ret
    exact ⟨rfl, BZ.out _ (bl_then J2.out hb6)⟩
theorem walk {W : World} (A : Option Addr) (n k : Nat) (xs : List Int) (hk : ReadsI W A n k xs) (a : Int) (h5 : (Lit.int .i64 a).wf = true) (b : Int) (h6 : (Lit.int .i64 b).wf = true) :
    Calls Try.prog 9 #[.slice A n k, .int .i64 a, .int .i64 b] W fun e w' => e = .returned (.bool true) ∧ Below W.heap.size W w' := by
  have s1 := hk.small
  unfold maxLen at s1
  by_cases h : n ≤ 100
  · exact walk_ins A n k xs a h5 b h6 W h hk
  · exact walk_out A n k a b (by omega) W (by omega)
set_option maxRecDepth 100000 in
theorem lifted (os : Os) (started : os.Started) (H : Type) (enc : TypeId × Value → H) :
    ReturnsInHanded {} Try.checked os 9 .any (Rows.leastFirstSpec.pre6 enc Try.prog Try.f9 Rows.leastFirstRow.domain false) (Rows.leastFirstSpec.post enc Try.prog Try.f9 false true false false) := by
  refine returnsInHanded_of_change (C := Try.checked) own started (by kernel_rfl) Try.func9
    (ChangeSpec.witness6 (enc := enc) (C := Try.checked) false ⟨#[], #[.slice none 0 0, .int .i64 0, .int .i64 0], []⟩ 8 (by kernel_rfl) (by kernel_rfl) (by kernel_rfl) (by kernel_rfl)) ?_
  intro W base args ds gs before hval0 hW hcnd _
  have hval : ∀ (j : Nat) t v, Try.f9.params[j]? = some t → args[j]? = some v → Value.okWide Try.prog W .any base t v := hval0
  have hW' := hW
  obtain ⟨p, q, hA0, hV, rfl, hfz, hnd⟩ := hW
  have hA : DataW.TrodAll enc Try.prog W 0 (fun _ => true) true Try.f9.params.toList args.toList ds p := hA0
  rw [Try.params9] at hA hval
  obtain ⟨v0, vs0, d0, ds0, p0, q0, hargs, rfl, rfl, h0, r0⟩ := trodAll_cons hA
  obtain ⟨v1, vs1, d1, ds1, p1, q1, rfl, rfl, rfl, h1, r1⟩ := trodAll_cons r0
  obtain ⟨v2, vs2, d2, ds2, p2, q2, rfl, rfl, rfl, h2, r2⟩ := trodAll_cons r1
  obtain ⟨rfl, rfl, rfl⟩ := trodAll_nil r2
  obtain rfl : args = #[v0, v1, v2] := by cases args; simp_all
  obtain ⟨rfl, rfl⟩ := trodVars_none hV
  obtain ⟨a0, n0, c0, xs0, rfl, k0⟩ := open_reads (hval 0 22 v0 rfl rfl) h0
  obtain ⟨a1, rfl, rfl, rfl, w1⟩ := open_int Try.underlying3 (hval 1 3 v1 rfl rfl) h1
  obtain ⟨a2, rfl, rfl, rfl, w2⟩ := open_int Try.underlying3 (hval 2 3 v2 rfl rfl) h2
  refine (walk a0 n0 c0 xs0 k0 a1 w1 a2 w2).mono fun e W' ⟨he, hb⟩ => ?_
  subst he
  exact ⟨_, rfl, post_law hW' hb rfl rfl rfl rfl rfl (by rw [Try.params9]; exact readable_all (by kernel_rfl))⟩
theorem over : Rows.leastFirstRow.holds Try.pinned (OpenSpec.ofChange Rows.leastFirstSpec) :=
  OpenClaim.holds_of_wide 9 Try.f9 rfl rfl rfl rfl rfl rfl rfl ⟨rfl, rfl, rfl, rfl, rfl⟩ rfl rfl rfl rfl rfl (by kernel_rfl) Try.func9 (by kernel_rfl)
    (of_decide_eq_true (by kernel_rfl)) (by unfold Func.isWrapper; first | (rw [if_pos (by decide +kernel)]; kernel_rfl) | (rw [if_neg (by decide +kernel)]; exact ⟨rfl, rfl⟩))
    (fun os started H enc _ => lifted os started H enc)
theorem proved : Rows.LeastFirstSaid := over
#print axioms proved
end Go.Proofs.Ytjopiefojicblaa.leastFirst
