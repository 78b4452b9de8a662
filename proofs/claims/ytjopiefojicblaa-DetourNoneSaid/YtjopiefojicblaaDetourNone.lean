/- DetourNone: with all ways out closed there is none, but where one is already; with nothing closed it is the plain distance. For every input, without a condition. -/
import Derived.Test.YtjopiefojicblaaAwake19
import Derived.Test.YtjopiefojicblaaSetAll
import Derived.Test.YtjopiefojicblaaStrides
import Derived.Test.YtjopiefojicblaaStill
import Derived.Test.YtjopiefojicblaaBase
import Derived.BigQuiet
set_option linter.unusedVariables false
set_option linter.unusedSimpArgs false
namespace Go.Proofs.Ytjopiefojicblaa.detourNone
open Go.ChangeShapes Go.WideShapes Go.ChangeAt Go.RowKit HeapP DistP
set_option maxRecDepth 100000 in
set_option maxHeartbeats 4000000 in
theorem walk_out (A : Option Addr) (n k : Nat) (a b : Int) (s1 : n ≤ 9223372036854775807) (w : World) (h1 : 100 < n) :
    Calls Try.prog 13 #[.slice A n k, .int .i64 a, .int .i64 b] w fun e w' => e = .returned (.bool true) ∧ Below w.heap.size w w' := by
  go_enter Try.func13, Try.ntmps13
  go_wp2_with (go_at_call 37; refine (awake19 _).mono ?_; rintro e w1 ⟨rfl, hb1⟩)
  go_ret
  exact ⟨rfl, by assumption⟩
set_option maxRecDepth 100000 in
set_option maxHeartbeats 16000000 in
theorem walk_ins (A : Option Addr) (n k : Nat) (xs : List Int) (eI : Int) (heI : (Lit.int .i64 eI).wf = true) (nI : Int) (hnI : (Lit.int .i64 nI).wf = true) (w : World) (h : n ≤ 100)
    (hk : ReadsI w A n k xs) :
    Calls Try.prog 13 #[.slice A n k, .int .i64 eI, .int .i64 nI] w fun e w' => e = .returned (.bool true) ∧ Below w.heap.size w w' := by
  have HOK := Lib.hid (town_good xs)
  have hmd := made19 hk
  have hE70 := len_townE xs
  obtain ⟨ns, hns⟩ : ∃ ns, ns = townN xs := ⟨_, rfl⟩
  obtain ⟨es, hes⟩ : ∃ es, es = townE xs := ⟨_, rfl⟩
  obtain ⟨bs, hbs⟩ : ∃ bs, bs = townB xs := ⟨_, rfl⟩
  rw [← hes] at hE70
  rw [← hns, ← hes, ← hbs] at HOK hmd
  have HMD := Lib.hid hmd
  obtain ⟨s1, s2, s3, s4⟩ := (mayB_parts HOK.out).2.1
  clear hmd hns hes hbs
  obtain ⟨e1, e70⟩ := hE70
  have ra := fun w => round_still heI (n := (es.length : Int)) (by omega) (by omega) w
  have rb := fun w => round_still hnI (n := (ns.length : Int)) (by omega) (by omega) w
  have j0 := Int.emod_nonneg eI (show (es.length : Int) ≠ 0 by omega)
  have j1 := Int.emod_lt_of_pos eI (show (0 : Int) < es.length by omega)
  have i0 := Int.emod_nonneg nI (show (ns.length : Int) ≠ 0 by omega)
  have i1 := Int.emod_lt_of_pos nI (show (0 : Int) < ns.length by omega)
  obtain ⟨a, ha⟩ : ∃ a : Nat, eI % (es.length : Int) = (a : Int) := ⟨(eI % (es.length : Int)).toNat, by omega⟩
  obtain ⟨v, hv⟩ : ∃ v : Nat, nI % (ns.length : Int) = (v : Int) := ⟨(nI % (ns.length : Int)).toNat, by omega⟩
  rw [ha] at ra j0 j1
  rw [hv] at rb i0 i1
  have HAN : Hid (a < es.length) := Lib.hid (by omega)
  have HVN : Hid (v < ns.length) := Lib.hid (by omega)
  have RA := Lib.hid ra
  have RB := Lib.hid rb
  have hmk := run_make_row' (P := Try.prog) 23 4 (.bool false) 1 Try.underlying23 infoBool rfl .i64 .i64 es.length (by omega) (by omega)
  clear hk ra rb ha hv heI hnI
  go_enter Try.func13, Try.ntmps13
  go_wp2_with fail
  refine HMD.out.mono ?_
  rintro e w1 ⟨A1, A2, A3, c1, c2, c3, B, t, p, rfl, hM⟩
  have hbx := bl_alloc (Below.refl w1.heap.size w1) (.cells #[.slice A1 ns.length c1, .slice A2 es.length c2, .slice A3 bs.length c3] 29)
  obtain ⟨v0, hv0⟩ : ∃ v0, v0 = w1.alloc (.cells #[.slice A1 ns.length c1, .slice A2 es.length c2, .slice A3 bs.length c3] 29) := ⟨_, rfl⟩
  have HS : Hid (∀ w', Below v0.heap.size v0 w' → w'.cell? ⟨w1.heap.size, 0, none⟩ = some (.slice A1 ns.length c1) ∧ w'.cell? ⟨w1.heap.size, 1, none⟩ = some (.slice A2 es.length c2) ∧ w'.cell? ⟨w1.heap.size, 2, none⟩ = some (.slice A3 bs.length c3)) := Lib.hid fun w' hb => by subst hv0; exact GR.box hb
  have k0 : (w1.alloc (.cells #[.slice A1 ns.length c1, .slice A2 es.length c2, .slice A3 bs.length c3] 29)).cell? ⟨w1.heap.size, 0, none⟩ = some (.slice A1 ns.length c1) := cell_three_new 0 _ rfl
  have k1 : (w1.alloc (.cells #[.slice A1 ns.length c1, .slice A2 es.length c2, .slice A3 bs.length c3] 29)).cell? ⟨w1.heap.size, 1, none⟩ = some (.slice A2 es.length c2) := cell_three_new 1 _ rfl
  have k2 : (w1.alloc (.cells #[.slice A1 ns.length c1, .slice A2 es.length c2, .slice A3 bs.length c3] 29)).cell? ⟨w1.heap.size, 2, none⟩ = some (.slice A3 bs.length c3) := cell_three_new 2 _ rfl
  rw [← hv0] at hbx
  have HG := Lib.hid (hM.g.below hbx)
  have HT := Lib.hid (hM.t.below hbx)
  have HBW : Hid (Below w.heap.size w v0) := Lib.hid (hM.below.trans (hbx.mono hM.below.size))
  have HV0 := Lib.hid hv0
  have HTE : Hid (w1.heap.size < v0.heap.size) := Lib.hid (by rw [hv0, size_alloc]; omega)
  have HLO : Hid (w.heap.size ≤ B) := Lib.hid hM.lo
  clear hM hbx hv0 HMD
  go_wp2_with fail
  rw [← HV0.out]
  clear k0 k1 k2
  obtain ⟨l0, l1, l2⟩ := HS.out _ (Below.refl _ _)
  go_quiet ((go_at_call 25; first | with_reducible refine Calls.quiet_of_same (RA.out _) | with_reducible refine Calls.quiet_of_same (RB.out _)))
  generalize hV : World.drewN v0 _ = vz
  have B0 : Hid (Below v0.heap.size v0 vz) := Lib.hid (by rw [← hV]; exact bl_drewN (Below.refl _ _) _)
  clear hV l0 l1 l2
  have HSQ : Hid (∀ w', Below vz.heap.size vz w' → w'.cell? ⟨w1.heap.size, 0, none⟩ = some (.slice A1 ns.length c1) ∧ w'.cell? ⟨w1.heap.size, 1, none⟩ = some (.slice A2 es.length c2) ∧ w'.cell? ⟨w1.heap.size, 2, none⟩ = some (.slice A3 bs.length c3)) := Lib.hid fun w' h => HS.out w' (bl_then B0.out h)
  have HTZ := Lib.hid (HT.out.below B0.out)
  have HGZ := Lib.hid (HG.out.below B0.out)
  have BZ : Hid (∀ w', Below vz.heap.size vz w' → Below w.heap.size w w') := Lib.hid fun w' h => HBW.out.trans ((bl_then B0.out h).mono HBW.out.size)
  obtain ⟨l0, l1, l2⟩ := HSQ.out _ (Below.refl _ _)
  have B1 : Hid (Below vz.heap.size vz (vz.alloc (.cells (madeCells #[.bool false] es.length) 4))) := Lib.hid (bl_alloc (Below.refl _ _) _)
  have HR0 := Lib.hid (BRow.made vz es.length)
  have hnx := next4_any (HGZ.out.below B1.out) s3 (a : Int)
  rw [nextT_eq] at hnx
  rw [List.length_map] at hnx
  have hnl : (nextN es bs a).length ≤ 512 := by unfold nextN; exact Nat.le_trans (List.length_filter_le _ _) (by simpa using s3)
  have HNL := Lib.hid hnl
  have HNX := Lib.hid hnx
  obtain ⟨m0, m1, m2⟩ := HSQ.out _ B1.out
  clear hnl hnx
  go_wp2_with fail
  refine HNX.out.mono ?_
  rintro r y0 ⟨AN, cN, rfl, hr, hnw, hb⟩
  have HRN := Lib.hid hr
  have hbz : Below vz.heap.size vz y0 := bl_then B1.out hb
  have HBY := Lib.hid hbz
  have hrow := HR0.out.below hb
  obtain ⟨g, hg⟩ : ∃ g, g = vz.heap.size := ⟨_, rfl⟩
  rw [← hg] at hrow ⊢
  have HG0 := Lib.hid hg
  have HROW := Lib.hid hrow
  have HNW : Hid (∀ b o, AN = some ⟨b, o, none⟩ → g < b) := Lib.hid fun b o e => by have := (hnw b o e).1; rw [size_alloc] at this; omega
  clear hr hb hbz hrow hg hmk hnw l0 l1 l2 m0 m1 m2
  go_wp2_with fail
  go_loopg [13] (nextN es bs a).length (fun M u wr => ∃ q : Nat, M = (nextN es bs a).length - q ∧ q ≤ (nextN es bs a).length ∧ u = .int .i64 (q : Nat) ∧ BRow wr g es.length (setAll es.length ((nextN es bs a).take q)) ∧ Below vz.heap.size vz wr ∧ ReadsI wr AN (nextN es bs a).length cN ((nextN es bs a).map fun i => ((i : Nat) : Int)))
  case atStart => exact ⟨0, rfl, Nat.zero_le _, rfl, HROW.out, HBY.out, HRN.out⟩
  case round =>
    obtain ⟨q, hM, hq, rfl, hr, hb, hrn⟩ := hrel
    have HM := Lib.hid hM
    have HR := Lib.hid hr
    have HBR := Lib.hid hb
    have HRQ := Lib.hid hrn
    clear hM hr hb hrn
    have hnl := HNL.out
    by_cases hlt : q < (nextN es bs a).length
    · obtain ⟨bN, oN, rfl, hcN⟩ := HRQ.out.cell (by omega)
      have dN := hcN q hlt
      rw [map_cast_getD hlt] at dN
      have hmem : (nextN es bs a).getD q 0 ∈ nextN es bs a := by rw [List.getD_eq_getElem?_getD, List.getElem?_eq_getElem hlt]; exact List.getElem_mem hlt
      have hyl := (nextN_mem.1 hmem).1
      have hst := setAll_take (N := es.length) hlt
      obtain ⟨y, hy⟩ : ∃ y, y = (nextN es bs a).getD q 0 := ⟨_, rfl⟩
      rw [← hy] at dN hyl hst
      have hc0 := HR.out.cell hyl
      have f0 := HR.out.fr y
      have hu : Upd (fun b => b = g) wr (wr.setCell ⟨g, y, none⟩ (.bool true)) := upd_setCell (F := fun b => b = g) (a := ⟨g, y, none⟩) (Upd.refl _ _) rfl _
      have HU := Lib.hid hu
      have HST := Lib.hid hst
      have q0 : (0 : Int) ≤ (q : Int) := by omega
      have q1 : (q : Int) < ((nextN es bs a).length : Int) := by omega
      have y0' : (0 : Int) ≤ (y : Int) := by omega
      have y1' : (y : Int) < (es.length : Int) := by omega
      have HNB : Hid (bN ≠ g) := Lib.hid (by have := HNW.out bN oN rfl; omega)
      clear hcN hmem hst hy hu
      go_wp2_with fail
      go_roundg ((nextN es bs a).length - (q + 1))
      case measure => have := HM.out; omega
      case rel => exact ⟨q + 1, rfl, by omega, by go_num, by rw [HST.out]; exact HR.out.set y true, HBR.out.setCell (by have := HG0.out; simp; omega) _, HRQ.out.upd HU.out fun b o e _ e2 => by injection e with e; injection e with e3 _ _; exact HNB.out (e3.trans e2)⟩
    · obtain rfl : q = (nextN es bs a).length := by omega
      have hr := HR.out
      rw [List.take_length] at hr
      obtain ⟨C, hC⟩ : ∃ C, C = setAll es.length (nextN es bs a) := ⟨_, rfl⟩
      have hno := none_out HOK.out HAN.out HVN.out
      rw [← hC] at hr hno
      have HBL : Hid (Below vz.heap.size vz wr) := HBR
      have HSL : Hid (∀ w', Below wr.heap.size wr w' → w'.cell? ⟨w1.heap.size, 0, none⟩ = some (.slice A1 ns.length c1) ∧ w'.cell? ⟨w1.heap.size, 1, none⟩ = some (.slice A2 es.length c2) ∧ w'.cell? ⟨w1.heap.size, 2, none⟩ = some (.slice A3 bs.length c3)) := Lib.hid fun w' h => HSQ.out w' (bl_then HBL.out h)
      have RC := Lib.hid (hr.reads s3 es.length)
      have r1 := fun (w' : World) (hb : Below wr.heap.size wr w') => ddist_at (HTZ.out.below (bl_then HBL.out hb)) (RC.out.below hb) e1 (a : Int) (v : Int)
      have r2 := fun (w' : World) (hb : Below wr.heap.size wr w') => ddist_at (HTZ.out.below (bl_then HBL.out hb)) (nilB w') e1 (a : Int) (v : Int)
      have r3 := fun (w' : World) (hb : Below wr.heap.size wr w') => meets_at (HTZ.out.below (bl_then HBL.out hb)) (RC.out.below hb) e1 (a : Int) (v : Int)
      have r4 := fun (w' : World) (hb : Below wr.heap.size wr w') => btw4_at (HGZ.out.below (bl_then HBL.out hb)) HOK.out (nilB w') (a : Int) (v : Int)
      obtain ⟨D, hD⟩ : ∃ D, D = btwT ns es bs [] (a : Int) (v : Int) := ⟨_, rfl⟩
      rw [← hD] at r2 r4
      have R4 := Lib.hid r4
      obtain ⟨bE, oE, rfl, hcE⟩ := (HGZ.out.below HBL.out).rE.cell (by omega)
      obtain ⟨_, dT0, _⟩ := hcE a HAN.out
      have a0 : (0 : Int) ≤ (a : Int) := by omega
      have a1 : (a : Int) < (es.length : Int) := by have := HAN.out; omega
      unfold toSrcB at hno
      obtain ⟨tw, htw⟩ : ∃ tw, tw = (es.getD a (0, 0, 0)).2.1 := ⟨_, rfl⟩
      rw [← htw] at dT0 hno
      have DT0 := Lib.hid dT0
      clear r4 hr hcE dT0 htw hD hC
      by_cases ht : tw = (v : Int)
      · have hte : (tw == (v : Int)) = true := by simp [ht]
        rw [hte, if_pos rfl] at hno
        obtain ⟨m, hm, hma, _, _⟩ := meet_in (v := (v : Int)) (cl := C) HOK.out (by omega) HAN.out
        rw [hno, show max0 0 = 0 by decide, show decide ((0 : Int) ≤ 0) = true by decide] at r1
        rw [hm, show max0 (m : Int) = (m : Int) from if_pos (by omega), show decide (0 ≤ (m : Int)) = true from decide_eq_true (by omega)] at r3
        have m5 : decide ((m : Int) ≤ (a : Int)) = true := decide_eq_true (by omega)
        have m6 : decide (m ≤ a) = true := decide_eq_true hma
        have R1 := Lib.hid r1
        have R3 := Lib.hid r3
        clear r1 r3 ht hno hm
        by_cases hd0 : 0 ≤ D
        · rw [show max0 D = D from if_pos hd0, decide_eq_true hd0] at r2
          have R2 := Lib.hid r2
          have d6 : decide (0 ≤ D) = true := decide_eq_true hd0
          have d7 : ¬ D < 0 := by omega
          have d8 : (if D < 0 then (0 : Int) else D) = D := if_neg d7
          have d9 : (D == D) = true := by simp
          clear r2
          go_wp2_with fail
          refine (R1.out _ (Below.refl _ _)).mono ?_
          rintro r y1 ⟨rfl, hb⟩
          have J1 := Lib.hid hb
          clear hb
          go_wp2_with fail
          refine (R2.out _ J1.out).mono ?_
          rintro r y2 ⟨rfl, hb⟩
          have J2 := Lib.hid (bl_then J1.out hb)
          clear hb
          go_wp2_with fail
          refine (R3.out _ J2.out).mono ?_
          rintro r y3 ⟨rfl, hb⟩
          have J3 := Lib.hid (bl_then J2.out hb)
          clear hb
          obtain ⟨l0, l1, l2⟩ := HSL.out _ J3.out
          go_wp2_with fail
          refine (R4.out _ J3.out).mono ?_
          rintro r y4 ⟨rfl, hb⟩
          have J4 := Lib.hid (bl_then J3.out hb)
          clear hb l0 l1 l2
          obtain ⟨l0, l1, l2⟩ := HSL.out _ J4.out
          have dT := cell_below DT0.out J4.out
          go_wp2_with (go_at_call 37; refine (awake19 _).mono ?_; rintro e w6 ⟨rfl, hb6⟩)
          go_ret
          exact ⟨rfl, BZ.out _ (bl_then HBL.out (bl_then J4.out hb6))⟩
        · rw [show max0 D = 0 from if_neg hd0, decide_eq_false hd0] at r2
          have R2 := Lib.hid r2
          have d6 : decide (0 ≤ D) = false := decide_eq_false hd0
          have d7 : D < 0 := by omega
          have d8 : (if D < 0 then (0 : Int) else D) = 0 := if_pos d7
          clear r2 hd0
          go_wp2_with fail
          refine (R1.out _ (Below.refl _ _)).mono ?_
          rintro r y1 ⟨rfl, hb⟩
          have J1 := Lib.hid hb
          clear hb
          go_wp2_with fail
          refine (R2.out _ J1.out).mono ?_
          rintro r y2 ⟨rfl, hb⟩
          have J2 := Lib.hid (bl_then J1.out hb)
          clear hb
          go_wp2_with fail
          refine (R3.out _ J2.out).mono ?_
          rintro r y3 ⟨rfl, hb⟩
          have J3 := Lib.hid (bl_then J2.out hb)
          clear hb
          obtain ⟨l0, l1, l2⟩ := HSL.out _ J3.out
          go_wp2_with fail
          refine (R4.out _ J3.out).mono ?_
          rintro r y4 ⟨rfl, hb⟩
          have J4 := Lib.hid (bl_then J3.out hb)
          clear hb l0 l1 l2
          obtain ⟨l0, l1, l2⟩ := HSL.out _ J4.out
          have dT := cell_below DT0.out J4.out
          go_wp2_with (go_at_call 37; refine (awake19 _).mono ?_; rintro e w6 ⟨rfl, hb6⟩)
          go_ret
          exact ⟨rfl, BZ.out _ (bl_then HBL.out (bl_then J4.out hb6))⟩
      · have hte : (tw == (v : Int)) = false := beq_false_of_ne ht
        rw [hte] at hno
        rw [if_neg (by simp)] at hno
        rw [hno, show max0 (-1) = 0 by decide, show decide ((0 : Int) ≤ -1) = false by decide] at r1
        rw [meet_none (by omega), show max0 (-1) = 0 by decide, show decide ((0 : Int) ≤ -1) = false by decide] at r3
        have R1 := Lib.hid r1
        have R3 := Lib.hid r3
        clear r1 r3 ht hno
        by_cases hd0 : 0 ≤ D
        · rw [show max0 D = D from if_pos hd0, decide_eq_true hd0] at r2
          have R2 := Lib.hid r2
          have d6 : decide (0 ≤ D) = true := decide_eq_true hd0
          have d7 : ¬ D < 0 := by omega
          have d8 : (if D < 0 then (0 : Int) else D) = D := if_neg d7
          have d9 : (D == D) = true := by simp
          clear r2
          go_wp2_with fail
          refine (R1.out _ (Below.refl _ _)).mono ?_
          rintro r y1 ⟨rfl, hb⟩
          have J1 := Lib.hid hb
          clear hb
          go_wp2_with fail
          refine (R2.out _ J1.out).mono ?_
          rintro r y2 ⟨rfl, hb⟩
          have J2 := Lib.hid (bl_then J1.out hb)
          clear hb
          go_wp2_with fail
          refine (R3.out _ J2.out).mono ?_
          rintro r y3 ⟨rfl, hb⟩
          have J3 := Lib.hid (bl_then J2.out hb)
          clear hb
          obtain ⟨l0, l1, l2⟩ := HSL.out _ J3.out
          go_wp2_with fail
          refine (R4.out _ J3.out).mono ?_
          rintro r y4 ⟨rfl, hb⟩
          have J4 := Lib.hid (bl_then J3.out hb)
          clear hb l0 l1 l2
          obtain ⟨l0, l1, l2⟩ := HSL.out _ J4.out
          have dT := cell_below DT0.out J4.out
          go_wp2_with (go_at_call 37; refine (awake19 _).mono ?_; rintro e w6 ⟨rfl, hb6⟩)
          go_ret
          exact ⟨rfl, BZ.out _ (bl_then HBL.out (bl_then J4.out hb6))⟩
        · rw [show max0 D = 0 from if_neg hd0, decide_eq_false hd0] at r2
          have R2 := Lib.hid r2
          have d6 : decide (0 ≤ D) = false := decide_eq_false hd0
          have d7 : D < 0 := by omega
          have d8 : (if D < 0 then (0 : Int) else D) = 0 := if_pos d7
          clear r2 hd0
          go_wp2_with fail
          refine (R1.out _ (Below.refl _ _)).mono ?_
          rintro r y1 ⟨rfl, hb⟩
          have J1 := Lib.hid hb
          clear hb
          go_wp2_with fail
          refine (R2.out _ J1.out).mono ?_
          rintro r y2 ⟨rfl, hb⟩
          have J2 := Lib.hid (bl_then J1.out hb)
          clear hb
          go_wp2_with fail
          refine (R3.out _ J2.out).mono ?_
          rintro r y3 ⟨rfl, hb⟩
          have J3 := Lib.hid (bl_then J2.out hb)
          clear hb
          obtain ⟨l0, l1, l2⟩ := HSL.out _ J3.out
          go_wp2_with fail
          refine (R4.out _ J3.out).mono ?_
          rintro r y4 ⟨rfl, hb⟩
          have J4 := Lib.hid (bl_then J3.out hb)
          clear hb l0 l1 l2
          obtain ⟨l0, l1, l2⟩ := HSL.out _ J4.out
          have dT := cell_below DT0.out J4.out
          go_wp2_with (go_at_call 37; refine (awake19 _).mono ?_; rintro e w6 ⟨rfl, hb6⟩)
          go_ret
          exact ⟨rfl, BZ.out _ (bl_then HBL.out (bl_then J4.out hb6))⟩
theorem walk {W : World} (A : Option Addr) (n k : Nat) (xs : List Int) (hk : ReadsI W A n k xs) (a : Int) (h5 : (Lit.int .i64 a).wf = true) (b : Int) (h6 : (Lit.int .i64 b).wf = true) :
    Calls Try.prog 13 #[.slice A n k, .int .i64 a, .int .i64 b] W fun e w' => e = .returned (.bool true) ∧ Below W.heap.size W w' := by
  have s1 := hk.small
  unfold maxLen at s1
  by_cases h : n ≤ 100
  · exact walk_ins A n k xs a h5 b h6 W h hk
  · exact walk_out A n k a b (by omega) W (by omega)
set_option maxRecDepth 100000 in
theorem lifted (os : Os) (started : os.Started) (H : Type) (enc : TypeId × Value → H) :
    ReturnsInHanded {} Try.checked os 13 .any (Rows.detourNoneSpec.pre6 enc Try.prog Try.f13 Rows.detourNoneRow.domain false) (Rows.detourNoneSpec.post enc Try.prog Try.f13 false true false false) := by
  refine returnsInHanded_of_change (C := Try.checked) own started (by kernel_rfl) Try.func13
    (ChangeSpec.witness6 (enc := enc) (C := Try.checked) false ⟨#[], #[.slice none 0 0, .int .i64 0, .int .i64 0], []⟩ 8 (by kernel_rfl) (by kernel_rfl) (by kernel_rfl) (by kernel_rfl)) ?_
  intro W base args ds gs before hval0 hW hcnd _
  have hval : ∀ (j : Nat) t v, Try.f13.params[j]? = some t → args[j]? = some v → Value.okWide Try.prog W .any base t v := hval0
  have hW' := hW
  obtain ⟨p, q, hA0, hV, rfl, hfz, hnd⟩ := hW
  have hA : DataW.TrodAll enc Try.prog W 0 (fun _ => true) true Try.f13.params.toList args.toList ds p := hA0
  rw [Try.params13] at hA hval
  obtain ⟨v0, vs0, d0, ds0, p0, q0, hargs, rfl, rfl, h0, r0⟩ := trodAll_cons hA
  obtain ⟨v1, vs1, d1, ds1, p1, q1, rfl, rfl, rfl, h1, r1⟩ := trodAll_cons r0
  obtain ⟨v2, vs2, d2, ds2, p2, q2, rfl, rfl, rfl, h2, r2⟩ := trodAll_cons r1
  obtain ⟨rfl, rfl, rfl⟩ := trodAll_nil r2
  obtain rfl : args = #[v0, v1, v2] := by cases args; simp_all
  obtain ⟨rfl, rfl⟩ := trodVars_none hV
  obtain ⟨a0, n0, c0, xs0, rfl, k0⟩ := open_reads (hval 0 22 v0 rfl rfl) h0
  obtain ⟨a1, rfl, rfl, rfl, w1⟩ := open_int Try.underlying3 (hval 1 3 v1 rfl rfl) h1
  obtain ⟨a2, rfl, rfl, rfl, w2⟩ := open_int Try.underlying3 (hval 2 3 v2 rfl rfl) h2
  refine (walk a0 n0 c0 xs0 k0 a1 w1 a2 w2).mono fun e W' ⟨he, hb⟩ => ?_
  subst he
  exact ⟨_, rfl, post_law hW' hb rfl rfl rfl rfl rfl (by rw [Try.params13]; exact readable_all (by kernel_rfl))⟩
theorem over : Rows.detourNoneRow.holds Try.pinned (OpenSpec.ofChange Rows.detourNoneSpec) :=
  OpenClaim.holds_of_wide 13 Try.f13 rfl rfl rfl rfl rfl rfl rfl ⟨rfl, rfl, rfl, rfl, rfl⟩ rfl rfl rfl rfl rfl (by kernel_rfl) Try.func13 (by kernel_rfl)
    (of_decide_eq_true (by kernel_rfl)) (by unfold Func.isWrapper; first | (rw [if_pos (by decide +kernel)]; kernel_rfl) | (rw [if_neg (by decide +kernel)]; exact ⟨rfl, rfl⟩))
    (fun os started H enc _ => lifted os started H enc)
theorem proved : Rows.DetourNoneSaid := over
#print axioms proved
end Go.Proofs.Ytjopiefojicblaa.detourNone
