/- GraphRows: each edge of a town's graph stands in one row of those that go and one of those that come, at its own ends, and the rows rise. For every input, without a condition. -/
import Derived.Test.YtjcaoejodjmmkaaAwake5
import Derived.Test.YtjcaoejodjmmkaaTownUse
import Derived.Test.YtjcaoejodjmmkaaRowsUse
import Derived.Test.YtjcaoejodjmmkaaGraphNew
import Derived.Test.YtjcaoejodjmmkaaRow
set_option linter.unusedVariables false
set_option linter.unusedSimpArgs false
namespace Go.Proofs.Ytjcaoejodjmmkaa.graphRows
open Go.ChangeShapes Go.WideShapes Go.ChangeAt Go.RowKit RowP
set_option maxRecDepth 100000 in
set_option maxHeartbeats 4000000 in
theorem walk_out (A : Option Addr) (n k : Nat) (odd : Int) (hs : n ≤ 9223372036854775807) (w : World) (h : 100 < n) :
    Calls Try.prog 3 #[.slice A n k, .int .i64 odd] w fun e w' => e = .returned (.bool true) ∧ Below w.heap.size w w' := by
  go_enter Try.func3, Try.ntmps3
  go_wp2_with (go_at_call 12; refine (awake5 _).mono ?_; rintro e w1 ⟨rfl, hb1⟩)
  go_ret
  exact ⟨rfl, by assumption⟩
theorem fromOK {ns bs : List (Int × Int)} {es : List (Int × Int × Int)} (h : mayB ns es bs = true) : ∀ i, i < es.length → (es.getD i (0, 0, 0)).1 = (fromN es i : Nat) := fun i hi => ((mayB_parts h).2.2.1 i hi).1
theorem toOK {ns bs : List (Int × Int)} {es : List (Int × Int × Int)} (h : mayB ns es bs = true) : ∀ i, i < es.length → (es.getD i (0, 0, 0)).2.1 = (toN es i : Nat) := fun i hi => ((mayB_parts h).2.2.2 i hi).1
set_option maxRecDepth 100000 in
set_option maxHeartbeats 8000000 in
theorem walk_ins (A : Option Addr) (n k : Nat) (xs : List Int) (odd : Int) (w : World) (h : n ≤ 100) (hk : ReadsI w A n k xs) :
    Calls Try.prog 3 #[.slice A n k, .int .i64 odd] w fun e w' => e = .returned (.bool true) ∧ Below w.heap.size w w' := by
  have HK := Lib.hid hk
  have HOK := Lib.hid (town_good xs)
  clear hk
  obtain ⟨ns, hns⟩ : ∃ ns, ns = townN xs := ⟨_, rfl⟩
  obtain ⟨es, hes⟩ : ∃ es, es = townE xs := ⟨_, rfl⟩
  obtain ⟨bs, hbs⟩ : ∃ bs, bs = townB xs := ⟨_, rfl⟩
  have HTC := Lib.hid (town_call HK.out)
  rw [← hns, ← hes, ← hbs] at HOK HTC
  clear hns hes hbs
  have hbd := (mayB_parts HOK.out).2.1
  obtain ⟨s1, s2, s3, s4⟩ := hbd
  go_enter Try.func3, Try.ntmps3
  go_wp2_with fail
  refine HTC.out.mono ?_
  rintro e w1 ⟨A1, A2, A3, c1, c2, c3, rfl, hT⟩
  have HT := Lib.hid hT
  have kk := fun j v hv => cell_three_new (w := w1) (x := .slice A1 ns.length c1) (y := .slice A2 es.length c2) (z := .slice A3 bs.length c3) (t := 28) j v hv
  have k0 := kk 0 _ rfl
  have k1 := kk 1 _ rfl
  have k2 := kk 2 _ rfl
  have hb2 : Below w1.heap.size w1 (w1.alloc (.cells #[.slice A1 ns.length c1, .slice A2 es.length c2, .slice A3 bs.length c3] 28)) := bl_alloc (Below.refl _ _) _
  have HNEW := Lib.hid (new_ok (HT.out.rN.below hb2) (HT.out.rE.below hb2) (HT.out.rB.below hb2) HOK.out)
  have KK := Lib.hid kk
  have HB2 := Lib.hid hb2
  clear hT kk hb2
  go_wp2_with fail
  refine HNEW.out.mono ?_
  rintro e w4 ⟨p, rfl, hG, hb4⟩
  have l0 : w4.cell? ⟨w1.heap.size, 0, none⟩ = some (.slice A1 ns.length c1) := cell_below (KK.out 0 _ rfl) hb4
  have l1 : w4.cell? ⟨w1.heap.size, 1, none⟩ = some (.slice A2 es.length c2) := cell_below (KK.out 1 _ rfl) hb4
  have l2 : w4.cell? ⟨w1.heap.size, 2, none⟩ = some (.slice A3 bs.length c3) := cell_below (KK.out 2 _ rfl) hb4
  have hb14 : Below w1.heap.size w1 w4 := HB2.out.trans (hb4.mono HB2.out.size)
  have HG := Lib.hid hG
  have HRN := Lib.hid (HT.out.rN.below hb14)
  have HRE := Lib.hid (HT.out.rE.below hb14)
  have HRB := Lib.hid (HT.out.rB.below hb14)
  have HBW : Hid (Below w.heap.size w w4) := Lib.hid (HT.out.below.trans (hb14.mono HT.out.below.size))
  have HS : Hid (∀ w', Below w4.heap.size w4 w' → w'.cell? ⟨w1.heap.size, 0, none⟩ = some (.slice A1 ns.length c1) ∧ w'.cell? ⟨w1.heap.size, 1, none⟩ = some (.slice A2 es.length c2) ∧ w'.cell? ⟨w1.heap.size, 2, none⟩ = some (.slice A3 bs.length c3)) := Lib.hid fun w' h => ⟨cell_below l0 h, cell_below l1 h, cell_below l2 h⟩
  clear hG hb4 l0 l1 l2 hb14 k0 k1 k2 KK HNEW HTC HB2
  go_wp2_with fail
  go_loopg [8, 9, 10] ns.length (fun M n m v wr => ∃ (k P Q : Nat), M = ns.length - k ∧ k ≤ ns.length ∧ n = .int .i64 (P : Nat) ∧ m = .int .i64 (Q : Nat) ∧ v = .int .i64 (k : Nat) ∧ P = pre (fromN es) es.length k ∧ Q = pre (toN es) es.length k ∧ Below w4.heap.size w4 wr)
  case atStart => exact ⟨0, 0, 0, rfl, Nat.zero_le _, rfl, rfl, rfl, by rw [pre_zero], by rw [pre_zero], Below.refl _ _⟩
  case round =>
    obtain ⟨k, P, Q, hm, hk, rfl, rfl, rfl, hP, hQ, hb⟩ := hrel
    have hP1 := pre_le (fromN es) es.length k
    have hQ1 := pre_le (toN es) es.length k
    rw [← hP] at hP1
    rw [← hQ] at hQ1
    have HM := Lib.hid hm
    have HB := Lib.hid hb
    have HP := Lib.hid hP
    have HQ := Lib.hid hQ
    obtain ⟨l0, l1, l2⟩ := HS.out _ hb
    clear hm hb hP hQ
    by_cases hlt : k < ns.length
    · obtain ⟨ln, hln⟩ : ∃ ln, ln = (outT ns es (k : Int)).length := ⟨_, rfl⟩
      obtain ⟨lm, hlm⟩ : ∃ lm, lm = (inT ns es (k : Int)).length := ⟨_, rfl⟩
      have hcln : ln = cnt (fromN es) es.length k := hln.trans (outT_len hlt)
      have hclm : lm = cnt (toN es) es.length k := hlm.trans (inT_len hlt)
      have hsg1 := seg_le (fromN es) es.length k
      have hsg2 := seg_le (toN es) es.length k
      rw [← HP.out, ← hcln] at hsg1
      rw [← HQ.out, ← hclm] at hsg2
      have HCln := Lib.hid hcln
      have HClm := Lib.hid hclm
      have hout := out_at (HG.out.below HB.out) (k : Int)
      rw [← hln] at hout
      have HOUT := Lib.hid hout
      have HL1 := Lib.hid hln
      have HL2 := Lib.hid hlm
      clear hln hlm hcln hclm hout
      go_wp2_with fail
      refine HOUT.out.mono ?_
      rintro e v1 ⟨A1', c1', rfl, hown, hb1⟩
      have hwf1 : ∀ x ∈ outT ns es (k : Int), (Lit.int .i64 x).wf = true := by
        intro x hx
        obtain ⟨q, rfl, hq, _⟩ := (outT_mem hlt).1 hx
        exact wf_of (by omega) (by omega)
      have hr1 := ReadsI.of_row hown (by unfold maxLen; omega) hwf1
      have HB1 : Hid (Below w4.heap.size w4 v1) := Lib.hid (HB.out.trans (hb1.mono HB.out.size))
      have HR1 := Lib.hid hr1
      have hin := in_at (HG.out.below HB1.out) (k : Int)
      rw [← HL2.out] at hin
      have HIN := Lib.hid hin
      clear hown hb1 hwf1 hr1 hin l0 l1 l2
      go_wp2_with fail
      refine HIN.out.mono ?_
      rintro e v2 ⟨A2', c2', rfl, hown, hb2⟩
      have hwf1 : ∀ x ∈ inT ns es (k : Int), (Lit.int .i64 x).wf = true := by
        intro x hx
        obtain ⟨q, rfl, hq, _⟩ := (inT_mem hlt).1 hx
        exact wf_of (by omega) (by omega)
      have hr2 := ReadsI.of_row hown (by unfold maxLen; omega) hwf1
      have HB2 : Hid (Below w4.heap.size w4 v2) := Lib.hid (HB1.out.trans (hb2.mono HB1.out.size))
      have HR2 := Lib.hid hr2
      have HR1' := Lib.hid (HR1.out.below hb2)
      clear hown hb2 hwf1 hr2
      go_wp2_with fail
      go_loopg [13] ln (fun M u wq => ∃ j : Nat, M = ln - j ∧ j ≤ ln ∧ u = .int .i64 (j : Nat) ∧ Below v2.heap.size v2 wq)
      case atStart => exact ⟨0, rfl, Nat.zero_le _, rfl, Below.refl _ _⟩
      case round =>
        obtain ⟨j, hm2, hj, rfl, hbq⟩ := hrel
        have HM2 := Lib.hid hm2
        have HBQ := Lib.hid hbq
        clear hm2 hbq
        by_cases hjl : j < ln
        · obtain ⟨q, hq, hq1, hq2, hq3⟩ := outT_get (es := es) hlt (by rw [← HCln.out]; exact hjl)
          obtain ⟨b, o, rfl, hcell⟩ := (HR1'.out.below HBQ.out).cell (by omega)
          have hc0 := hcell j hjl
          rw [hq] at hc0
          have hedge := edge_at (HG.out.below (HB2.out.trans (HBQ.out.mono HB2.out.size))) (q : Int)
          rw [edgeT_in hq1, inB_nat hq1] at hedge
          have hfr := (fromOK HOK.out q hq1)
          rw [hq2] at hfr
          obtain ⟨x, hx⟩ : ∃ x, x = es.getD q (0, 0, 0) := ⟨_, rfl⟩
          rw [← hx] at hedge hfr
          obtain ⟨x0, x1, x2⟩ := x
          dsimp only at hedge hfr
          have HEDGE := Lib.hid hedge
          have j0 : (0 : Int) ≤ (j : Int) := by omega
          have j1 : (j : Int) < (ln : Int) := by omega
          have hne : (x0 != (k : Int)) = false := by rw [hfr]; simp
          rcases Nat.eq_zero_or_pos j with hj0 | hj0
          · subst hj0
            rw [Nat.add_zero] at hc0
            clear hcell hq hq3 hedge hx hfr
            go_wp2_with fail
            refine HEDGE.out.mono ?_
            rintro e v5 ⟨rfl, hb5⟩
            have HB5 : Hid (Below v2.heap.size v2 (v5.alloc (.cells #[.int .i64 x0, .int .i64 x1, .int .i64 x2] 36))) := Lib.hid (bl_alloc (HBQ.out.trans (hb5.mono HBQ.out.size)) _)
            have c5 := cell_three_new (w := v5) (x := .int .i64 x0) (y := .int .i64 x1) (z := .int .i64 x2) (t := 36) 0 _ rfl
            clear hb5
            go_wp2_with fail
            go_quiet (fail)
            go_wp2_with fail
            go_roundg (ln - (0 + 1))
            case measure => have := HM2.out; omega
            case rel => exact ⟨0 + 1, rfl, by omega, by go_num, bl_drewN HB5.out _⟩
          · obtain ⟨y, rfl⟩ : ∃ y, j = y + 1 := ⟨j - 1, by omega⟩
            have hcm := hcell y (by omega)
            have hprev := hq3 hj0
            rw [Nat.add_sub_cancel] at hprev
            obtain ⟨z, hz⟩ : ∃ z, z = (outT ns es (k : Int)).getD y 0 := ⟨_, rfl⟩
            rw [← hz] at hcm hprev
            have hge : decide ((q : Int) ≤ z) = false := by simp; omega
            have j2 : (0 : Int) ≤ (y : Int) := by omega
            have j3 : (y : Int) < (ln : Int) := by omega
            have j4 : IntKind.i64.wrap (y : Int) = (y : Int) := IntWalk.i64_in _ (by omega)
            have d0 := hc0
            have dm := hcm
            have HD0 := Lib.hid hc0
            have HDM := Lib.hid hcm
            clear hcell hq hq3 hedge hx hfr hz hprev
            go_wp2_with fail
            refine HEDGE.out.mono ?_
            rintro e v5 ⟨rfl, hb5⟩
            have HB5 : Hid (Below v2.heap.size v2 (v5.alloc (.cells #[.int .i64 x0, .int .i64 x1, .int .i64 x2] 36))) := Lib.hid (bl_alloc (HBQ.out.trans (hb5.mono HBQ.out.size)) _)
            have c5 := cell_three_new (w := v5) (x := .int .i64 x0) (y := .int .i64 x1) (z := .int .i64 x2) (t := 36) 0 _ rfl
            have e0 := cell_below (cell_below HD0.out hb5) (bl_alloc (Below.refl _ _) (.cells #[.int .i64 x0, .int .i64 x1, .int .i64 x2] 36))
            have em := cell_below (cell_below HDM.out hb5) (bl_alloc (Below.refl _ _) (.cells #[.int .i64 x0, .int .i64 x1, .int .i64 x2] 36))
            clear hb5 d0 dm hc0 hcm
            go_wp2_with fail
            go_quiet (fail)
            go_wp2_with fail
            go_roundg (ln - (y + 1 + 1))
            case measure => have := HM2.out; omega
            case rel => exact ⟨y + 1 + 1, rfl, by omega, by go_num, bl_drewN HB5.out _⟩
        · have hjn : ln = j := by omega
          subst hjn
          clear hjl
          go_wp2_with fail
          have HB3 : Hid (Below w4.heap.size w4 wr) := Lib.hid (HB2.out.trans (HBQ.out.mono HB2.out.size))
          have HR3 := Lib.hid (HR2.out.below HBQ.out)
          have HV3 : Hid (Below v2.heap.size v2 wr) := HBQ
          clear HBQ HM2
          obtain ⟨v3, hv3⟩ : ∃ v3, v3 = wr := ⟨_, rfl⟩
          subst hv3
          go_wp2_with fail
          go_loopg [16] lm (fun M u wq => ∃ j : Nat, M = lm - j ∧ j ≤ lm ∧ u = .int .i64 (j : Nat) ∧ Below v3.heap.size v3 wq)
          case atStart => exact ⟨0, rfl, Nat.zero_le _, rfl, Below.refl _ _⟩
          case round =>
            obtain ⟨j, hm2, hj, rfl, hbq⟩ := hrel
            have HM2 := Lib.hid hm2
            have HBQ := Lib.hid hbq
            clear hm2 hbq
            by_cases hjl : j < lm
            · obtain ⟨q, hq, hq1, hq2, hq3⟩ := inT_get (es := es) hlt (by rw [← HClm.out]; exact hjl)
              obtain ⟨b, o, rfl, hcell⟩ := (HR3.out.below HBQ.out).cell (by omega)
              have hc0 := hcell j hjl
              rw [hq] at hc0
              have hedge := edge_at (HG.out.below (HB3.out.trans (HBQ.out.mono HB3.out.size))) (q : Int)
              rw [edgeT_in hq1, inB_nat hq1] at hedge
              have hfr := (toOK HOK.out q hq1)
              rw [hq2] at hfr
              obtain ⟨x, hx⟩ : ∃ x, x = es.getD q (0, 0, 0) := ⟨_, rfl⟩
              rw [← hx] at hedge hfr
              obtain ⟨x0, x1, x2⟩ := x
              dsimp only at hedge hfr
              have HEDGE := Lib.hid hedge
              have j0 : (0 : Int) ≤ (j : Int) := by omega
              have j1 : (j : Int) < (lm : Int) := by omega
              have hne : (x1 != (k : Int)) = false := by rw [hfr]; simp
              rcases Nat.eq_zero_or_pos j with hj0 | hj0
              · subst hj0
                rw [Nat.add_zero] at hc0
                clear hcell hq hq3 hedge hx hfr
                go_wp2_with fail
                refine HEDGE.out.mono ?_
                rintro e v5 ⟨rfl, hb5⟩
                have HB5 : Hid (Below v3.heap.size v3 (v5.alloc (.cells #[.int .i64 x0, .int .i64 x1, .int .i64 x2] 36))) := Lib.hid (bl_alloc (HBQ.out.trans (hb5.mono HBQ.out.size)) _)
                have c5 := cell_three_new (w := v5) (x := .int .i64 x0) (y := .int .i64 x1) (z := .int .i64 x2) (t := 36) 1 _ rfl
                clear hb5
                go_wp2_with fail
                go_quiet (fail)
                go_wp2_with fail
                go_roundg (lm - (0 + 1))
                case measure => have := HM2.out; omega
                case rel => exact ⟨0 + 1, rfl, by omega, by go_num, bl_drewN HB5.out _⟩
              · obtain ⟨y, rfl⟩ : ∃ y, j = y + 1 := ⟨j - 1, by omega⟩
                have hcm := hcell y (by omega)
                have hprev := hq3 hj0
                rw [Nat.add_sub_cancel] at hprev
                obtain ⟨z, hz⟩ : ∃ z, z = (inT ns es (k : Int)).getD y 0 := ⟨_, rfl⟩
                rw [← hz] at hcm hprev
                have hge : decide ((q : Int) ≤ z) = false := by simp; omega
                have j2 : (0 : Int) ≤ (y : Int) := by omega
                have j3 : (y : Int) < (lm : Int) := by omega
                have j4 : IntKind.i64.wrap (y : Int) = (y : Int) := IntWalk.i64_in _ (by omega)
                have d0 := hc0
                have dm := hcm
                have HD0 := Lib.hid hc0
                have HDM := Lib.hid hcm
                clear hcell hq hq3 hedge hx hfr hz hprev
                go_wp2_with fail
                refine HEDGE.out.mono ?_
                rintro e v5 ⟨rfl, hb5⟩
                have HB5 : Hid (Below v3.heap.size v3 (v5.alloc (.cells #[.int .i64 x0, .int .i64 x1, .int .i64 x2] 36))) := Lib.hid (bl_alloc (HBQ.out.trans (hb5.mono HBQ.out.size)) _)
                have c5 := cell_three_new (w := v5) (x := .int .i64 x0) (y := .int .i64 x1) (z := .int .i64 x2) (t := 36) 1 _ rfl
                have e0 := cell_below (cell_below HD0.out hb5) (bl_alloc (Below.refl _ _) (.cells #[.int .i64 x0, .int .i64 x1, .int .i64 x2] 36))
                have em := cell_below (cell_below HDM.out hb5) (bl_alloc (Below.refl _ _) (.cells #[.int .i64 x0, .int .i64 x1, .int .i64 x2] 36))
                clear hb5 d0 dm hc0 hcm
                go_wp2_with fail
                go_quiet (fail)
                go_wp2_with fail
                go_roundg (lm - (y + 1 + 1))
                case measure => have := HM2.out; omega
                case rel => exact ⟨y + 1 + 1, rfl, by omega, by go_num, bl_drewN HB5.out _⟩
            · have hjn : lm = j := by omega
              subst hjn
              clear hjl
              go_wp2_with fail
              have HB4 : Hid (Below w4.heap.size w4 wr) := Lib.hid (HB3.out.trans (HBQ.out.mono HB3.out.size))
              go_roundg (ns.length - (k + 1))
              case measure => have := HM.out; omega
              case rel =>
                refine ⟨k + 1, P + ln, Q + lm, rfl, by omega, by go_num, by go_num, by go_num, ?_, ?_, HB4.out⟩
                · rw [pre_succ, ← HP.out, ← HCln.out]
                · rw [pre_succ, ← HQ.out, ← HClm.out]
    · have hkn : ns.length = k := by omega
      subst hkn
      have hPe : P = es.length := HP.out.trans (out_all HOK.out)
      have hQe : Q = es.length := HQ.out.trans (in_all HOK.out)
      subst hPe hQe
      clear hP1 hQ1 hlt hk
      obtain ⟨ln, hln⟩ : ∃ ln, ln = (outT ns es odd).length := ⟨_, rfl⟩
      obtain ⟨lm, hlm⟩ : ∃ lm, lm = (inT ns es odd).length := ⟨_, rfl⟩
      have hnone : inB 0 odd ((ns.length : Int) - 1) = false → ln = 0 ∧ lm = 0 := fun e => ⟨by rw [hln, outT_not e]; rfl, by rw [hlm, inT_not e]; rfl⟩
      have hz1 : ln ≤ 512 := by
        rw [hln]; unfold outT; split
        · rw [List.length_map]; exact Nat.le_trans (Nat.le_trans (List.length_filter_le _ _) (by simp)) s3
        · simp
      have hz2 : lm ≤ 512 := by
        rw [hlm]; unfold inT; split
        · rw [List.length_map]; exact Nat.le_trans (Nat.le_trans (List.length_filter_le _ _) (by simp)) s3
        · simp
      have HNONE := Lib.hid hnone
      have HL1 := Lib.hid hln
      have HL2 := Lib.hid hlm
      have hs1 : ns.length ≤ maxLen := by unfold maxLen; omega
      have HS1 := Lib.hid hs1
      clear hnone hln hlm hs1
      have hout := out_at (HG.out.below HB.out) odd
      rw [← HL1.out] at hout
      have HOUT := Lib.hid hout
      clear hout
      go_wp2_with fail
      refine HOUT.out.mono ?_
      rintro e v1 ⟨A1', c1', rfl, hown, hb1⟩
      have HB1 : Hid (Below w4.heap.size w4 v1) := Lib.hid (HB.out.trans (hb1.mono HB.out.size))
      have hin := in_at (HG.out.below HB1.out) odd
      rw [← HL2.out] at hin
      have HIN := Lib.hid hin
      clear hin hown hb1 HOUT l0 l1 l2
      by_cases h1 : ln = 0
      · subst h1
        go_wp2_with fail
        refine HIN.out.mono ?_
        rintro e v2 ⟨A2', c2', rfl, hown, hb2⟩
        have HB2 : Hid (Below w4.heap.size w4 v2) := Lib.hid (HB1.out.trans (hb2.mono HB1.out.size))
        obtain ⟨l0, l1, l2⟩ := HS.out _ HB2.out
        clear hown hb2
        by_cases h2 : lm = 0
        · subst h2
          go_wp2_with fail
          refine (awake5 _).mono ?_
          rintro e v9 ⟨rfl, hb9⟩
          have HB9 : Hid (Below w.heap.size w v9) := Lib.hid (HBW.out.trans ((HB2.out.trans (hb9.mono HB2.out.size)).mono HBW.out.size))
          clear hb9
          go_wp2_with fail
          go_ret
          exact ⟨rfl, HB9.out⟩
        · have e2 : ((lm : Int) == 0) = false := by simp; omega
          have hin2 : inB 0 odd ((ns.length : Int) - 1) = true := by
            cases hx : inB 0 odd ((ns.length : Int) - 1)
            · exact absurd (HNONE.out hx).2 h2
            · rfl
          have HI := Lib.hid hin2
          clear h2 hin2
          go_wp2_with fail
          refine (node4_any HS1.out odd _).mono ?_
          rw [HI.out]
          rintro e v3 ⟨rfl, hb3⟩
          have HB3 : Hid (Below w4.heap.size w4 v3) := Lib.hid (HB2.out.trans (hb3.mono HB2.out.size))
          clear hb3
          go_wp2_with fail
          refine (awake5 _).mono ?_
          rintro e v9 ⟨rfl, hb9⟩
          have HB9 : Hid (Below w.heap.size w v9) := Lib.hid (HBW.out.trans ((HB3.out.trans (hb9.mono HB3.out.size)).mono HBW.out.size))
          clear hb9
          go_wp2_with fail
          go_ret
          exact ⟨rfl, HB9.out⟩
      · have e1 : ((ln : Int) == 0) = false := by simp; omega
        have hin2 : inB 0 odd ((ns.length : Int) - 1) = true := by
          cases hx : inB 0 odd ((ns.length : Int) - 1)
          · exact absurd (HNONE.out hx).1 h1
          · rfl
        have HI := Lib.hid hin2
        obtain ⟨l0, l1, l2⟩ := HS.out _ HB1.out
        have HB2 := HB1
        clear h1 hin2
        go_wp2_with fail
        refine (node4_any HS1.out odd _).mono ?_
        rw [HI.out]
        rintro e v3 ⟨rfl, hb3⟩
        have HB3 : Hid (Below w4.heap.size w4 v3) := Lib.hid (HB2.out.trans (hb3.mono HB2.out.size))
        clear hb3
        go_wp2_with fail
        refine (awake5 _).mono ?_
        rintro e v9 ⟨rfl, hb9⟩
        have HB9 : Hid (Below w.heap.size w v9) := Lib.hid (HBW.out.trans ((HB3.out.trans (hb9.mono HB3.out.size)).mono HBW.out.size))
        clear hb9
        go_wp2_with fail
        go_ret
        exact ⟨rfl, HB9.out⟩
theorem walk {W : World} (A : Option Addr) (n k : Nat) (xs : List Int) (hk : ReadsI W A n k xs) (odd : Int) (h5 : (Lit.int .i64 odd).wf = true) :
    Calls Try.prog 3 #[.slice A n k, .int .i64 odd] W fun e w' => e = .returned (.bool true) ∧ Below W.heap.size W w' := by
  by_cases h : 100 < n
  · have s1 := hk.small
    unfold maxLen at s1
    exact walk_out A n k odd (by omega) W h
  · exact walk_ins A n k xs odd W (by omega) hk
set_option maxRecDepth 100000 in
theorem lifted (os : Os) (started : os.Started) (H : Type) (enc : TypeId × Value → H) :
    ReturnsInHanded {} Try.checked os 3 .any (Rows.graphRowsSpec.pre6 enc Try.prog Try.f3 Rows.graphRowsRow.domain false) (Rows.graphRowsSpec.post enc Try.prog Try.f3 false true false false) := by
  refine returnsInHanded_of_change (C := Try.checked) own started (by kernel_rfl) Try.func3
    (ChangeSpec.witness6 (enc := enc) (C := Try.checked) false ⟨#[], #[.slice none 0 0, .int .i64 0], []⟩ 8 (by kernel_rfl) (by kernel_rfl) (by kernel_rfl) (by kernel_rfl)) ?_
  intro W base args ds gs before hval0 hW hcnd _
  have hval : ∀ (j : Nat) t v, Try.f3.params[j]? = some t → args[j]? = some v → Value.okWide Try.prog W .any base t v := hval0
  have hW' := hW
  obtain ⟨p, q, hA0, hV, rfl, hfz, hnd⟩ := hW
  have hA : DataW.TrodAll enc Try.prog W 0 (fun _ => true) true Try.f3.params.toList args.toList ds p := hA0
  rw [Try.params3] at hA hval
  obtain ⟨v0, vs0, d0, ds0, p0, q0, hargs, rfl, rfl, h0, r0⟩ := trodAll_cons hA
  obtain ⟨v1, vs1, d1, ds1, p1, q1, rfl, rfl, rfl, h1, r1⟩ := trodAll_cons r0
  obtain ⟨rfl, rfl, rfl⟩ := trodAll_nil r1
  obtain rfl : args = #[v0, v1] := by cases args; simp_all
  obtain ⟨rfl, rfl⟩ := trodVars_none hV
  obtain ⟨a0, n0, c0, xs0, rfl, k0⟩ := open_reads (hval 0 22 v0 rfl rfl) h0
  obtain ⟨a1, rfl, rfl, rfl, w1⟩ := open_int Try.underlying3 (hval 1 3 v1 rfl rfl) h1
  refine (walk a0 n0 c0 xs0 k0 a1 w1).mono fun e W' ⟨he, hb⟩ => ?_
  subst he
  exact ⟨_, rfl, post_law hW' hb rfl rfl rfl rfl rfl (by rw [Try.params3]; exact readable_all (by kernel_rfl))⟩
theorem over : Rows.graphRowsRow.holds Try.pinned (OpenSpec.ofChange Rows.graphRowsSpec) :=
  OpenClaim.holds_of_wide 3 Try.f3 rfl rfl rfl rfl rfl rfl rfl ⟨rfl, rfl, rfl, rfl, rfl⟩ rfl rfl rfl rfl rfl (by kernel_rfl) Try.func3 (by kernel_rfl)
    (of_decide_eq_true (by kernel_rfl)) (by unfold Func.isWrapper; first | (rw [if_pos (by decide +kernel)]; kernel_rfl) | (rw [if_neg (by decide +kernel)]; exact ⟨rfl, rfl⟩))
    (fun os started H enc _ => lifted os started H enc)
theorem proved : Rows.GraphRowsSaid := over
#print axioms proved
end Go.Proofs.Ytjcaoejodjmmkaa.graphRows
