/- GuideSums: all that is far, and the edges that are turned into, are together what was left at first; what is left falls from hint to hint; the last one is the end. For every input, without a condition. -/
import Derived.Test.YtkkaidliocadnaaAwake21
import Derived.Test.YtkkaidliocadnaaStroll
import Derived.Test.YtkkaidliocadnaaRound
import Derived.Test.YtkkaidliocadnaaWalk4
import Derived.Test.YtkkaidliocadnaaRow
import Derived.Deep.RegionHeld3
import Derived.BigQuiet
set_option linter.unusedVariables false
set_option linter.unusedSimpArgs false
namespace Go.Proofs.Ytkkaidliocadnaa.guideSums
open Go.ChangeShapes Go.WideShapes Go.ChangeAt Go.RowKit
set_option maxRecDepth 100000 in
set_option maxHeartbeats 4000000 in
theorem walk_out (A : Option Addr) (n k : Nat) (a : Int) (A2 : Option Addr) (n2 k2 : Nat) (s1 : n ≤ 9223372036854775807) (s2 : n2 ≤ 9223372036854775807) (w : World) (h : ¬ (n ≤ 100 ∧ n2 ≤ 40)) :
    Calls Try.prog 8 #[.slice A n k, .int .i64 a, .slice A2 n2 k2] w fun e w' => e = .returned (.bool true) ∧ Below w.heap.size w w' := by
  by_cases h1 : 100 < n
  · clear h
    go_enter Try.func8, Try.ntmps8
    go_wp2_with (go_at_call 25; refine (awake21 _).mono ?_; rintro e w1 ⟨rfl, hb1⟩)
    go_ret
    exact ⟨rfl, by assumption⟩
  · have h2 : 40 < n2 := by omega
    clear h
    go_enter Try.func8, Try.ntmps8
    go_wp2_with (go_at_call 25; refine (awake21 _).mono ?_; rintro e w1 ⟨rfl, hb1⟩)
    go_ret
    exact ⟨rfl, by assumption⟩
theorem hints_head (ns : List (Int × Int)) (es : List (Int × Int × Int)) (bs : List (Int × Int)) (a : Int) (l : List Int) : ((hintsT ns es bs a l).getD 0 (0, 0, 0, 0)).2.2.2 = wgtT es l := by
  have h1 : (hintT ns es bs a l).2.2.2 = wgtT es l := by unfold hintT; split <;> rfl
  by_cases hs : stopN es bs a l < l.length
  · rw [hints_more hs]; exact h1
  · rw [hints_last hs]; exact h1
theorem hint_kinds {ns : List (Int × Int)} {es : List (Int × Int × Int)} {bs : List (Int × Int)} {a : Int} {l : List Int} : True := trivial
theorem bend_no9 (ns : List (Int × Int)) (es : List (Int × Int × Int)) (a b : Int) : bendT ns es a b ≠ 9 := by
  unfold bendT
  split
  · unfold classF
    split
    · decide
    · unfold clsI
      repeat' split
      all_goals decide
  · decide
set_option maxRecDepth 100000 in
set_option maxHeartbeats 16000000 in
theorem walk_ins (A : Option Addr) (n k : Nat) (xs : List Int) (a : Int) (ha : (Lit.int .i64 a).wf = true) (As : Option Addr) (n4 k4 : Nat) (st : List Int) (w : World) (h : n ≤ 100) (h4 : n4 ≤ 40)
    (hk : ReadsI w A n k xs) (q4 : ReadsI w As n4 k4 st) :
    Calls Try.prog 8 #[.slice A n k, .int .i64 a, .slice As n4 k4] w fun e w' => e = .returned (.bool true) ∧ Below w.heap.size w w' := by
  have HOK := Lib.hid (town_good xs)
  have hmd := made21 hk
  have hE70 := len_townE xs
  obtain ⟨ns, hns⟩ : ∃ ns, ns = townN xs := ⟨_, rfl⟩
  obtain ⟨es, hes⟩ : ∃ es, es = townE xs := ⟨_, rfl⟩
  obtain ⟨bs, hbs⟩ : ∃ bs, bs = townB xs := ⟨_, rfl⟩
  rw [← hes] at hE70
  rw [← hns, ← hes, ← hbs] at HOK hmd
  have HMD := Lib.hid hmd
  obtain ⟨s1, s2, s3, s4⟩ := (mayB_parts HOK.out).2.1
  clear hmd hns hes hbs
  have Q4 := Lib.hid q4
  obtain ⟨e1, e70⟩ := hE70
  have rb := fun w => round_any ha (n := (es.length : Int)) (by omega) (by omega) w
  have hE0 := Int.emod_nonneg a (show (es.length : Int) ≠ 0 by omega)
  have hE2 := Int.emod_lt_of_pos a (show (0 : Int) < es.length by omega)
  obtain ⟨E1, hE1⟩ : ∃ E1, E1 = a % (es.length : Int) := ⟨_, rfl⟩
  rw [← hE1] at rb hE0 hE2
  have hin : inB 0 E1 ((es.length : Int) - 1) = true := by unfold inB; simp; omega
  have hwk : walkB es bs E1 (strollT es bs E1 st) = true := by unfold walkB; rw [hin, stroll_chain]; rfl
  have HWK := Lib.hid hwk
  have RB := Lib.hid rb
  clear hk q4 rb hE1 ha hE0 hE2 hin hwk
  go_enter Try.func8, Try.ntmps8
  go_wp2_with fail
  refine HMD.out.mono ?_
  rintro e w1 ⟨A1, A2, A3, c1, c2, c3, B, t, p, rfl, hM⟩
  have hbx := bl_alloc (Below.refl w1.heap.size w1) (.cells #[.slice A1 ns.length c1, .slice A2 es.length c2, .slice A3 bs.length c3] 28)
  obtain ⟨v0, hv0⟩ : ∃ v0, v0 = w1.alloc (.cells #[.slice A1 ns.length c1, .slice A2 es.length c2, .slice A3 bs.length c3] 28) := ⟨_, rfl⟩
  have HS : Hid (∀ w', Below v0.heap.size v0 w' → w'.cell? ⟨w1.heap.size, 0, none⟩ = some (.slice A1 ns.length c1) ∧ w'.cell? ⟨w1.heap.size, 1, none⟩ = some (.slice A2 es.length c2) ∧ w'.cell? ⟨w1.heap.size, 2, none⟩ = some (.slice A3 bs.length c3)) := Lib.hid fun w' hb => by subst hv0; exact GR.box hb
  have k0 : (w1.alloc (.cells #[.slice A1 ns.length c1, .slice A2 es.length c2, .slice A3 bs.length c3] 28)).cell? ⟨w1.heap.size, 0, none⟩ = some (.slice A1 ns.length c1) := cell_three_new 0 _ rfl
  have k1 : (w1.alloc (.cells #[.slice A1 ns.length c1, .slice A2 es.length c2, .slice A3 bs.length c3] 28)).cell? ⟨w1.heap.size, 1, none⟩ = some (.slice A2 es.length c2) := cell_three_new 1 _ rfl
  have k2 : (w1.alloc (.cells #[.slice A1 ns.length c1, .slice A2 es.length c2, .slice A3 bs.length c3] 28)).cell? ⟨w1.heap.size, 2, none⟩ = some (.slice A3 bs.length c3) := cell_three_new 2 _ rfl
  rw [← hv0] at hbx
  have HG := Lib.hid (hM.g.below hbx)
  have HT := Lib.hid (hM.t.below hbx)
  have HBW : Hid (Below w.heap.size w v0) := Lib.hid (hM.below.trans (hbx.mono hM.below.size))
  have HV0 := Lib.hid hv0
  have HTE : Hid (w1.heap.size < v0.heap.size) := Lib.hid (by rw [hv0, size_alloc]; omega)
  have HLO : Hid (w.heap.size ≤ B) := Lib.hid hM.lo
  clear hM hbx hv0 HMD
  go_wp2_with fail
  rw [← HV0.out]
  refine (RB.out _).mono ?_
  rintro e y0 ⟨rfl, rfl⟩
  have hst := stroll_any HG.out (by omega) E1 (Q4.out.below HBW.out) (by omega)
  have hXl := stroll_len es bs E1 st
  have hsl := Q4.out.len
  obtain ⟨X, hX⟩ : ∃ X, X = strollT es bs E1 st := ⟨_, rfl⟩
  rw [← hX] at hst hXl HWK
  have HST := Lib.hid hst
  have HXL := Lib.hid (show X.length ≤ 40 by omega)
  clear hst hX hXl hsl k0 k1 k2
  obtain ⟨k0, k1, k2⟩ := HS.out _ (Below.refl _ _)
  go_wp2_with fail
  refine HST.out.mono ?_
  rintro e vb ⟨AX, cX, rfl, hr, _, hb, hown⟩
  have RX := Lib.hid hr
  have B0 := Lib.hid hb
  have hxl := HXL.out
  have HCX : Hid (X.length ≤ cX ∧ cX ≤ maxLen) := Lib.hid (by
    rcases hown with ⟨_, h1, h2⟩ | ⟨g, _, h1, h2⟩
    · rw [h1, h2]; exact ⟨Nat.le_refl _, by decide⟩
    · exact ⟨h1, h2⟩)
  have hal := all_at (HT.out.below hb) hr (by omega) HCX.out E1
  have hR : hintsR ns es bs E1 X = hintsT ns es bs E1 X := by unfold hintsR; rw [if_pos HWK.out]
  rw [hR] at hal
  have htl := hints_len (ns := ns) (es := es) (bs := bs) X.length (a := E1) (l := X) (Nat.le_refl _)
  obtain ⟨T, hT⟩ : ∃ T, T = hintsT ns es bs E1 X := ⟨_, rfl⟩
  rw [← hT] at hal htl
  have HTE := Lib.hid hT
  have HAL := Lib.hid hal
  have HTL := Lib.hid htl
  have hokx : okE es X = true := by
    have h1 := HWK.out
    unfold walkB at h1
    rw [Bool.and_eq_true] at h1
    exact chain_ok h1.2
  have HOKX := Lib.hid hokx
  have hwx := sum_bd HOK.out X
  have hwg : wgtT es X = sumW es X := by unfold wgtT; rw [if_pos hokx]
  have HWB : Hid (0 ≤ wgtT es X ∧ wgtT es X ≤ 2621400) := Lib.hid (by rw [hwg]; omega)
  clear hr hb hal hR hT k0 k1 k2 hown htl hokx hwx hwg
  go_wp2_with fail
  refine HAL.out.mono ?_
  rintro e y1 ⟨AL, cL, rfl, hrl, hb⟩
  have HRL := Lib.hid hrl
  have B1 := Lib.hid (bl_then B0.out hb)
  have RX1 := Lib.hid (RX.out.below hb)
  have r4 := weight4_any (HG.out.below (bl_then B0.out hb)) HOK.out (RX.out.below hb) (by omega)
  rw [HOKX.out] at r4
  have R4 := Lib.hid r4
  obtain ⟨l0, l1, l2⟩ := HS.out _ (bl_then B0.out hb)
  have htn := HTL.out.1
  have htn2 := HTL.out.2
  obtain ⟨bL, oL, eL, hcL⟩ := hrl.cell (by omega)
  subst eL
  clear hrl hb r4 hcL
  go_wp2_with fail
  refine R4.out.mono ?_
  rintro e y2 ⟨rfl, hb⟩
  have B2 := Lib.hid (bl_then B1.out hb)
  have HRL2 := Lib.hid (HRL.out.below hb)
  have hfirst : (T.getD 0 (0, 0, 0, 0)).2.2.2 = wgtT es X := by rw [HTE.out]; exact hints_head _ _ _ _ _
  obtain ⟨bL2, oL2, eL, hcL⟩ := HRL2.out.cell (by omega)
  injection eL with eL
  injection eL with eL1 eL2 _
  subst eL1 eL2
  obtain ⟨_, _, _, m3⟩ := hcL 0 (by omega)
  rw [hfirst] at m3
  have m3' : y2.cell? ⟨bL, oL + 3, none⟩ = some (.int .i64 (wgtT es X)) := by have := m3; rw [Nat.zero_mul, Nat.add_zero] at this; exact this
  obtain ⟨WX, hWX⟩ : ∃ WX, WX = wgtT es X := ⟨_, rfl⟩
  have hwb := HWB.out
  rw [← hWX] at m3' hwb ⊢
  have HWX := Lib.hid hWX
  have w9 : (WX != WX) = false := by simp
  have t9 : ((T.length : Int) == 0) = false := beq_false_of_ne (by omega)
  have t8 : (T.length == 0) = false := beq_false_of_ne (by omega)
  have t7 : (0 : Int) < (T.length : Int) := by omega
  clear hb hfirst hcL m3 l0 l1 l2 hWX
  go_wp2_with fail
  go_loopg [14, 12] T.length (fun M u z wr => ∃ (i : Nat) (x : Int) (l : List Int), M = T.length - i ∧ i < T.length ∧ u = .int .i64 (i : Nat) ∧ z = .int .i64 (wgtT es l) ∧ walkB es bs x l = true ∧ l.length ≤ X.length ∧ hintsT ns es bs x l = T.drop i ∧ Below y2.heap.size y2 wr)
  case atStart => exact ⟨0, E1, X, rfl, by omega, rfl, by rw [HWX.out], HWK.out, Nat.le_refl _, by rw [HTE.out]; rfl, Below.refl _ _⟩
  case round =>
    obtain ⟨i, x, l, hM, hi, rfl, rfl, hwl, hlX, hdr, hb⟩ := hrel
    have HM := Lib.hid hM
    have HB := Lib.hid hb
    obtain ⟨bL2, oL2, eL, hcL⟩ := (HRL2.out.below hb).cell (by omega)
    injection eL with eL
    injection eL with eL1 eL2 _
    subst eL1 eL2
    obtain ⟨m0, m1, m2, m3⟩ := hcL i hi
    have hwok := walk_ok hwl
    have hsb := sum_bd HOK.out l

    by_cases hs : stopN es bs x l < l.length
    · have hmo := hints_more (ns := ns) hs
      rw [hdr] at hmo
      have hi1 : i + 1 < T.length := by
        have h1 := congrArg List.length hmo
        have h2 := (hints_len (ns := ns) (es := es) (bs := bs) _ (a := l.getD (stopN es bs x l) 0) (l := l.drop (stopN es bs x l + 1)) (Nat.le_refl _)).1
        rw [List.length_drop, List.length_cons] at h1
        omega
      have hti : T.getD i (0, 0, 0, 0) = hintT ns es bs x l := by
        rw [List.drop_eq_getElem_cons hi] at hmo
        injection hmo with h1 h2
        rw [List.getD_eq_getElem?_getD, List.getElem?_eq_getElem hi]; exact h1
      have hdr2 : hintsT ns es bs (l.getD (stopN es bs x l) 0) (l.drop (stopN es bs x l + 1)) = T.drop (i + 1) := by
        rw [List.drop_eq_getElem_cons hi] at hmo
        injection hmo with h1 h2
        exact h2.symm
      have hnext : (T.getD (i + 1) (0, 0, 0, 0)).2.2.2 = wgtT es (l.drop (stopN es bs x l + 1)) := by
        have h3 := hints_head ns es bs (l.getD (stopN es bs x l) 0) (l.drop (stopN es bs x l + 1))
        rw [hdr2, List.drop_eq_getElem_cons hi1] at h3
        rw [List.getD_eq_getElem?_getD, List.getElem?_eq_getElem hi1]; exact h3
      obtain ⟨_, _, _, n3⟩ := hcL (i + 1) hi1
      rw [hnext] at n3
      rw [hti, hint_here rfl hs] at m0 m1 m2 m3
      dsimp only at m0 m1 m2 m3
      have hfa := hint_fall (ns := ns) (es := es) hwl hs
      have hcut := walk_cut hwl hs
      have hmem := walk_mem hwl hs
      have hsb2 := sum_bd HOK.out (l.take (stopN es bs x l))
      have hsb3 := sum_bd HOK.out (l.drop (stopN es bs x l + 1))
      have hwg3 := walk_ok hcut
      obtain ⟨y, hyn, hyl⟩ : ∃ y : Nat, l.getD (stopN es bs x l) 0 = (y : Int) ∧ y < es.length := by
        unfold inB at hmem
        simp only [Bool.and_eq_true, decide_eq_true_eq] at hmem
        exact ⟨(l.getD (stopN es bs x l) 0).toNat, by omega, by omega⟩
      have hwb2 := w_bd HOK.out y
      have hb9 := bend_no9 ns es (lastI x (l.take (stopN es bs x l))) (y : Int)
      rw [hyn] at m0 m1 hfa hdr2 hcut
      rw [Int.toNat_natCast] at hfa
      obtain ⟨l2, hl2⟩ : ∃ l2, l2 = l.drop (stopN es bs x l + 1) := ⟨_, rfl⟩
      have hl2X : l2.length ≤ X.length := by rw [hl2, List.length_drop]; omega
      rw [← hl2] at n3 hfa hdr2 hcut hsb3 hwg3
      obtain ⟨bv, hbv⟩ : ∃ bv, bv = bendT ns es (lastI x (l.take (stopN es bs x l))) (y : Int) := ⟨_, rfl⟩
      obtain ⟨F, hF⟩ : ∃ F, F = sumW es (l.take (stopN es bs x l)) := ⟨_, rfl⟩
      obtain ⟨W0, hW0⟩ : ∃ W0, W0 = wgtT es l := ⟨_, rfl⟩
      obtain ⟨W2, hW2⟩ : ∃ W2, W2 = wgtT es l2 := ⟨_, rfl⟩
      obtain ⟨wy, hwy⟩ : ∃ wy, wy = (es.getD y (0, 0, 0)).2.2 := ⟨_, rfl⟩
      rw [← hbv] at m0 hb9
      rw [← hF] at m2 hfa hsb2
      rw [← hW0] at m3 hfa hwok ⊢
      rw [← hW2] at n3 hfa hwg3
      rw [← hwy] at hfa hwb2
      rw [List.length_take] at hsb2
      have HW2 := Lib.hid hW2
      have g1 : IntKind.i64.wrap (W0 - F) = W0 - F := IntWalk.i64_in _ (by omega)
      have g2 : IntKind.i64.wrap (W0 - F - wy) = W2 := by rw [IntWalk.i64_in _ (by omega)]; omega
      have g3 : IntKind.i64.wrap ((T.length : Int) - 1) = (T.length : Int) - 1 := IntWalk.i64_in _ (by omega)
      have g4 : ((i : Int) == (T.length : Int) - 1) = false := beq_false_of_ne (by omega)
      have g5 : (bv == 9) = false := beq_false_of_ne hb9
      have g6 : decide (W0 ≤ W2) = false := decide_eq_false (by have := hwb2.2.2 hyl; omega)
      have g7 : (W2 != W2) = false := by simp
      obtain ⟨i2, hi2⟩ : ∃ m, m = i + 1 := ⟨_, rfl⟩
      have g8 : IntKind.i64.wrap ((i : Int) + 1) = (i2 : Int) := by rw [IntWalk.i64_in _ (by omega)]; omega
      have g9 : (0 : Int) ≤ (i2 : Int) := by omega
      have g10 : (i2 : Int) < (T.length : Int) := by omega
      have i0 : (0 : Int) ≤ (i : Int) := by omega
      have i1' : (i : Int) < (T.length : Int) := by omega
      have y0 : (0 : Int) ≤ (y : Int) := by omega
      have y1' : (y : Int) < (es.length : Int) := by omega
      rw [← hi2] at n3 hdr2 hi1
      have HI2 := Lib.hid hi2
      have hed := fun w' : World => edge4_c (A1 := A1) (A2 := A2) (A3 := A3) (n1 := ns.length) (n2 := es.length) (n3 := bs.length) (c1 := c1) (c2 := c2) (c3 := c3) (by unfold maxLen; omega) (y : Int) w'
      rw [show inB 0 (y : Int) ((es.length : Int) - 1) = true by unfold inB; simp; omega] at hed
      have HED := Lib.hid hed
      have hba := bl_alloc (Below.refl wr.heap.size wr) (.cells #[.int .i64 bv, .int .i64 (y : Nat), .int .i64 F, .int .i64 W0] 49)
      have hq := new_block wr (.cells #[.int .i64 bv, .int .i64 (y : Nat), .int .i64 F, .int .i64 W0] 49)
      have q0 := block_cell hq (j := 0) rfl
      have q1 := block_cell hq (j := 1) rfl
      have q2 := block_cell hq (j := 2) rfl
      have q3 := block_cell hq (j := 3) rfl
      obtain ⟨va, hva⟩ : ∃ va, va = wr.alloc (.cells #[.int .i64 bv, .int .i64 (y : Nat), .int .i64 F, .int .i64 W0] 49) := ⟨_, rfl⟩
      have HVA := Lib.hid hva
      have n3a := cell_below n3 hba
      rw [← hva] at hba hq n3a
      have Z0 : Hid (Below va.heap.size va va.drew) := Lib.hid (bl_drew (Below.refl _ _))
      have HBA := Lib.hid hba
      have HSX : Hid (∀ w', Below va.heap.size va w' → (w'.cell? ⟨w1.heap.size, 0, none⟩ = some (.slice A1 ns.length c1) ∧ w'.cell? ⟨w1.heap.size, 1, none⟩ = some (.slice A2 es.length c2) ∧ w'.cell? ⟨w1.heap.size, 2, none⟩ = some (.slice A3 bs.length c3)) ∧ (w'.cell? ⟨wr.heap.size, 0, none⟩ = some (.int .i64 bv) ∧ w'.cell? ⟨wr.heap.size, 1, none⟩ = some (.int .i64 (y : Nat)) ∧ w'.cell? ⟨wr.heap.size, 3, none⟩ = some (.int .i64 W0)) ∧ w'.cell? ⟨bL, oL + i2 * 4 + 3, none⟩ = some (.int .i64 W2)) := Lib.hid fun w' h =>
        ⟨HS.out w' (bl_then B2.out (bl_then HB.out (bl_then HBA.out h))), ⟨block_cell (block_below hq h) (j := 0) rfl, block_cell (block_below hq h) (j := 1) rfl, block_cell (block_below hq h) (j := 3) rfl⟩, cell_below n3a h⟩
      have HY2 := Lib.hid hyl
      have HCUT := Lib.hid hcut
      have HDR2 := Lib.hid hdr2
      have HL2X := Lib.hid hl2X
      have HWYE := Lib.hid hwy
      have HI1 := Lib.hid hi1
      clear hM hb hwl hlX hdr hcL hs hmo hti hdr2 hnext hfa hcut hmem hsb hsb2 hsb3 hwg3 hwok hyn hyl hwb2 hb9 hl2 hbv hF hW0 hW2 hwy hi2 hed hba hq hva n3 n3a hi1 hl2X
      go_upto_region 19 with fail
      rw [← HVA.out]
      clear q0 q1 q2 q3 m0 m1 m2 m3
      go_region_held3 (fun w' => (w'.cell? ⟨w1.heap.size, 0, none⟩ = some (.slice A1 ns.length c1) ∧ w'.cell? ⟨w1.heap.size, 1, none⟩ = some (.slice A2 es.length c2) ∧ w'.cell? ⟨w1.heap.size, 2, none⟩ = some (.slice A3 bs.length c3)) ∧ (w'.cell? ⟨wr.heap.size, 0, none⟩ = some (.int .i64 bv) ∧ w'.cell? ⟨wr.heap.size, 1, none⟩ = some (.int .i64 (y : Nat)) ∧ w'.cell? ⟨wr.heap.size, 3, none⟩ = some (.int .i64 W0)) ∧ w'.cell? ⟨bL, oL + i2 * 4 + 3, none⟩ = some (.int .i64 W2))
        (first | exact HSX.out _ Z0.out | exact HSX.out _ Z1.out)
        (first
          | (go_at_call 32
             refine (HED.out _).mono ?_
             rintro e z1 ⟨rfl, hb⟩
             have Z1 : Hid (Below va.heap.size va z1) := Lib.hid (bl_then Z0.out hb)
             clear hb))
      all_goals
        obtain ⟨⟨l0, l1, l2'⟩, ⟨s0, s1', s3'⟩, sN⟩ := HSX.out _ Z1.out
        obtain ⟨bE, oE, hAE, hcE⟩ := (HG.out.below (bl_then B2.out (bl_then HB.out (bl_then HBA.out Z1.out)))).rE.cell (by have := HY2.out; omega)
        obtain ⟨_, _, dW⟩ := hcE y HY2.out
        rw [← HWYE.out] at dW
        subst hAE
        clear hcE
        go_wp2_with fail
        go_roundg (T.length - i2)
        case measure => have := HM.out; have := HI2.out; omega
        case rel => exact ⟨i2, (y : Int), l2, rfl, HI1.out, rfl, by rw [HW2.out], HCUT.out, HL2X.out, HDR2.out, bl_then HB.out (bl_then HBA.out Z1.out)⟩
    · have hla := hints_last (ns := ns) hs
      rw [hdr] at hla
      have hi1 : i + 1 = T.length := by
        have h1 := congrArg List.length hla
        rw [List.length_drop] at h1
        simp at h1; omega
      have hti : T.getD i (0, 0, 0, 0) = hintT ns es bs x l := by
        rw [List.drop_eq_getElem_cons hi] at hla
        injection hla with h1 h2
        rw [List.getD_eq_getElem?_getD, List.getElem?_eq_getElem hi]; exact h1
      rw [hti, hint_end (by omega)] at m0 m1 m2 m3
      dsimp only at m0 m1 m2 m3
      rw [← hwok] at m2
      obtain ⟨W0, hW0⟩ : ∃ W0, W0 = wgtT es l := ⟨_, rfl⟩
      rw [← hW0] at m2 m3 hwok ⊢
      have g1 : IntKind.i64.wrap (W0 - W0) = 0 := by rw [Int.sub_self]; decide
      have g0 : IntKind.i64.wrap 0 = 0 := by decide
      have g3 : IntKind.i64.wrap ((T.length : Int) - 1) = (i : Int) := by rw [IntWalk.i64_in _ (by omega)]; omega
      have g4 : ((i : Int) == (i : Int)) = true := by simp
      have g5 : (W0 == W0) = true := by simp
      have i0 : (0 : Int) ≤ (i : Int) := by omega
      have i1' : (i : Int) < (T.length : Int) := by omega
      have hq := new_block wr (.cells #[.int .i64 9, .int .i64 (-1), .int .i64 W0, .int .i64 W0] 49)
      have q0 := block_cell hq (j := 0) rfl
      have q1 := block_cell hq (j := 1) rfl
      have q2 := block_cell hq (j := 2) rfl
      have q3 := block_cell hq (j := 3) rfl
      have HBA := Lib.hid (bl_alloc (Below.refl wr.heap.size wr) (.cells #[.int .i64 9, .int .i64 (-1), .int .i64 W0, .int .i64 W0] 49))
      clear hM hb hwl hlX hdr hcL hs hla hti hwok hsb hi1 hW0 hq
      go_wp2_with (go_at_call 25; refine (awake21 _).mono ?_; rintro e w6 ⟨rfl, hb6⟩)
      go_ret
      exact ⟨rfl, HBW.out.trans ((bl_then B2.out (bl_then HB.out (bl_then HBA.out hb6))).mono HBW.out.size)⟩
theorem walk {W : World} (A : Option Addr) (n k : Nat) (xs : List Int) (hk : ReadsI W A n k xs) (a : Int) (h5 : (Lit.int .i64 a).wf = true) (A4 : Option Addr) (n4 k4 : Nat) (x4 : List Int) (q4 : ReadsI W A4 n4 k4 x4) :
    Calls Try.prog 8 #[.slice A n k, .int .i64 a, .slice A4 n4 k4] W fun e w' => e = .returned (.bool true) ∧ Below W.heap.size W w' := by
  have s1 := hk.small
  have s4 := q4.small
  unfold maxLen at s1 s4
  by_cases h : n ≤ 100 ∧ n4 ≤ 40
  · exact walk_ins A n k xs a h5 A4 n4 k4 x4 W h.1 h.2 hk q4
  · exact walk_out A n k a A4 n4 k4 (by omega) (by omega) W h
set_option maxRecDepth 100000 in
theorem lifted (os : Os) (started : os.Started) (H : Type) (enc : TypeId × Value → H) :
    ReturnsInHanded {} Try.checked os 8 .any (Rows.guideSumsSpec.pre6 enc Try.prog Try.f8 Rows.guideSumsRow.domain false) (Rows.guideSumsSpec.post enc Try.prog Try.f8 false true false false) := by
  refine returnsInHanded_of_change (C := Try.checked) own started (by kernel_rfl) Try.func8
    (ChangeSpec.witness6 (enc := enc) (C := Try.checked) false ⟨#[], #[.slice none 0 0, .int .i64 0, .slice none 0 0], []⟩ 8 (by kernel_rfl) (by kernel_rfl) (by kernel_rfl) (by kernel_rfl)) ?_
  intro W base args ds gs before hval0 hW hcnd _
  have hval : ∀ (j : Nat) t v, Try.f8.params[j]? = some t → args[j]? = some v → Value.okWide Try.prog W .any base t v := hval0
  have hW' := hW
  obtain ⟨p, q, hA0, hV, rfl, hfz, hnd⟩ := hW
  have hA : DataW.TrodAll enc Try.prog W 0 (fun _ => true) true Try.f8.params.toList args.toList ds p := hA0
  rw [Try.params8] at hA hval
  obtain ⟨v0, vs0, d0, ds0, p0, q0, hargs, rfl, rfl, h0, r0⟩ := trodAll_cons hA
  obtain ⟨v1, vs1, d1, ds1, p1, q1, rfl, rfl, rfl, h1, r1⟩ := trodAll_cons r0
  obtain ⟨v2, vs2, d2, ds2, p2, q2, rfl, rfl, rfl, h2, r2⟩ := trodAll_cons r1
  obtain ⟨rfl, rfl, rfl⟩ := trodAll_nil r2
  obtain rfl : args = #[v0, v1, v2] := by cases args; simp_all
  obtain ⟨rfl, rfl⟩ := trodVars_none hV
  obtain ⟨a0, n0, c0, xs0, rfl, k0⟩ := open_reads (hval 0 22 v0 rfl rfl) h0
  obtain ⟨a1, rfl, rfl, rfl, w1⟩ := open_int Try.underlying3 (hval 1 3 v1 rfl rfl) h1
  obtain ⟨a2, n2, c2, xs2, rfl, k2⟩ := open_reads (hval 2 22 v2 rfl rfl) h2
  refine (walk a0 n0 c0 xs0 k0 a1 w1 a2 n2 c2 xs2 k2).mono fun e W' ⟨he, hb⟩ => ?_
  subst he
  exact ⟨_, rfl, post_law hW' hb rfl rfl rfl rfl rfl (by rw [Try.params8]; exact readable_all (by kernel_rfl))⟩
theorem over : Rows.guideSumsRow.holds Try.pinned (OpenSpec.ofChange Rows.guideSumsSpec) :=
  OpenClaim.holds_of_wide 8 Try.f8 rfl rfl rfl rfl rfl rfl rfl ⟨rfl, rfl, rfl, rfl, rfl⟩ rfl rfl rfl rfl rfl (by kernel_rfl) Try.func8 (by kernel_rfl)
    (of_decide_eq_true (by kernel_rfl)) (by unfold Func.isWrapper; first | (rw [if_pos (by decide +kernel)]; kernel_rfl) | (rw [if_neg (by decide +kernel)]; exact ⟨rfl, rfl⟩))
    (fun os started H enc _ => lifted os started H enc)
theorem proved : Rows.GuideSumsSaid := over
#print axioms proved
end Go.Proofs.Ytkkaidliocadnaa.guideSums
