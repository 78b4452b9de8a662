/- GraphStays: a graph is changed by nobody's changing of what it was made of, or of what it tells. For every input, without a condition. -/
import Derived.Test.YtjcaoejodjmmkaaAwake5
import Derived.Test.YtjcaoejodjmmkaaTownFree
import Derived.Test.YtjcaoejodjmmkaaOutUse
import Derived.Test.YtjcaoejodjmmkaaPlainAt
import Derived.Test.YtjcaoejodjmmkaaSameGraph
import Derived.Test.YtjcaoejodjmmkaaGraphNew
import Derived.Test.YtjcaoejodjmmkaaRow
import Derived.Deep.RegionHeld3
import Derived.Deep.CutRange
set_option linter.unusedVariables false
set_option linter.unusedSimpArgs false
namespace Go.Proofs.Ytjcaoejodjmmkaa.graphStays
open Go.ChangeShapes Go.WideShapes Go.ChangeAt Go.RowKit RowP
set_option maxRecDepth 100000 in
set_option maxHeartbeats 4000000 in
theorem walk_out (A : Option Addr) (n k : Nat) (a : Int) (hs : n ≤ 9223372036854775807) (w : World) (h : 100 < n) :
    Calls Try.prog 7 #[.slice A n k, .int .i64 a] w fun e w' => e = .returned (.bool true) ∧ Below w.heap.size w w' := by
  go_enter Try.func7, Try.ntmps7
  go_wp2_with (go_at_call 12; refine (awake5 _).mono ?_; rintro e w1 ⟨rfl, hb1⟩)
  go_ret
  exact ⟨rfl, by assumption⟩
set_option maxRecDepth 100000 in
set_option maxHeartbeats 8000000 in
theorem walk_ins (A : Option Addr) (n k : Nat) (xs : List Int) (a : Int) (w : World) (h : n ≤ 100) (hk : ReadsI w A n k xs) :
    Calls Try.prog 7 #[.slice A n k, .int .i64 a] w fun e w' => e = .returned (.bool true) ∧ Below w.heap.size w w' := by
  have HK := Lib.hid hk
  have HOK := Lib.hid (town_good xs)
  have tc := fun (w' : World) (h : Below w.heap.size w w') => town_free (hk.below h)
  have hE70 := len_townE xs
  obtain ⟨ns, hns⟩ : ∃ ns, ns = townN xs := ⟨_, rfl⟩
  obtain ⟨es, hes⟩ : ∃ es, es = townE xs := ⟨_, rfl⟩
  obtain ⟨bs, hbs⟩ : ∃ bs, bs = townB xs := ⟨_, rfl⟩
  simp only [← hns, ← hes, ← hbs] at tc hE70
  rw [← hns, ← hes, ← hbs] at HOK
  have TC := Lib.hid tc
  clear hns hes hbs tc hk
  obtain ⟨_, ⟨s1, s2, s3, s4⟩, hfr, hto⟩ := mayB_parts HOK.out
  have HFR := Lib.hid (hfr 0 (by omega))
  clear hfr hto
  go_enter Try.func7, Try.ntmps7
  go_wp2_with fail
  refine (TC.out _ (Below.refl _ _)).mono ?_
  rintro e w1 ⟨A1, A2, A3, c1, c2, c3, rfl, hT, hF⟩
  have HT := Lib.hid hT
  have HF := Lib.hid hF
  clear hT hF
  go_wp2_with fail
  refine (TC.out _ HT.out.below).mono ?_
  rintro e w2 ⟨B1, B2, B3, k1, k2, k3, rfl, hU, _⟩
  have HU := Lib.hid hU
  clear hU
  obtain ⟨bN, oN, rfl, hcN⟩ := HT.out.rN.cell (by omega)
  obtain ⟨bE, oE, rfl, hcE⟩ := HT.out.rE.cell (by omega)
  have kk := fun j v hv => cell_three_new (w := w2) (x := .slice (some ⟨bN, oN, none⟩) ns.length c1) (y := .slice (some ⟨bE, oE, none⟩) es.length c2) (z := .slice A3 bs.length c3) (t := 28) j v hv
  have mm := fun j v hv => cell_three_new (w := w2.alloc (.cells #[.slice (some ⟨bN, oN, none⟩) ns.length c1, .slice (some ⟨bE, oE, none⟩) es.length c2, .slice A3 bs.length c3] 28)) (x := .slice B1 ns.length k1) (y := .slice B2 es.length k2) (z := .slice B3 bs.length k3) (t := 28) j v hv
  simp only [size_alloc] at mm
  have hb2 : Below w2.heap.size w2 ((w2.alloc (.cells #[.slice (some ⟨bN, oN, none⟩) ns.length c1, .slice (some ⟨bE, oE, none⟩) es.length c2, .slice A3 bs.length c3] 28)).alloc (.cells #[.slice B1 ns.length k1, .slice B2 es.length k2, .slice B3 bs.length k3] 28)) := bl_alloc (bl_alloc (Below.refl _ _) _) _
  have hkk := fun j v hv => cell_below (kk j v hv) (bl_alloc (Below.refl _ _) (.cells #[.slice B1 ns.length k1, .slice B2 es.length k2, .slice B3 bs.length k3] 28))
  have k0 := hkk 0 _ rfl
  have k1_ := hkk 1 _ rfl
  have k2_ := hkk 2 _ rfl
  have m0 := mm 0 _ rfl
  have m1 := mm 1 _ rfl
  have m2 := mm 2 _ rfl
  have hb12 : Below w1.heap.size w1 ((w2.alloc (.cells #[.slice (some ⟨bN, oN, none⟩) ns.length c1, .slice (some ⟨bE, oE, none⟩) es.length c2, .slice A3 bs.length c3] 28)).alloc (.cells #[.slice B1 ns.length k1, .slice B2 es.length k2, .slice B3 bs.length k3] 28)) := HU.out.below.trans (hb2.mono HU.out.below.size)
  have HNEW := Lib.hid (new_ok (HT.out.rN.below hb12) (HT.out.rE.below hb12) (HT.out.rB.below hb12) HOK.out)
  have HB2 := Lib.hid hb2
  have HB12 := Lib.hid hb12
  have HM : Hid (_ ∧ _ ∧ _) := Lib.hid ⟨m0, m1, m2⟩
  have HKK : Hid (_ ∧ _) := Lib.hid ⟨k0, k1_⟩
  have HCN := Lib.hid (hcN 0 (by omega))
  have HCE := Lib.hid (hcE 0 (by omega))
  clear kk mm hkk hb2 hb12 hcN hcE
  go_wp2_with fail
  refine HNEW.out.mono ?_
  rintro e w4 ⟨p, rfl, hG, hb4⟩
  simp only [size_alloc] at hG
  have q1 := HT.out.nw bN oN (.inl rfl)
  have q2 := HT.out.nw bE oE (.inr (.inl rfl))
  have q3 := HU.out.below.size
  have hb14 : Below w1.heap.size w1 w4 := HB12.out.trans (hb4.mono HB12.out.size)
  have hb24 : Below w2.heap.size w2 w4 := HB2.out.trans (hb4.mono HB2.out.size)
  have q4 := hb24.size
  have l0 := cell_below HKK.out.1 hb4
  have l1 := cell_below HKK.out.2 hb4
  have HM4 : Hid (_ ∧ _ ∧ _) := Lib.hid ⟨cell_below HM.out.1 hb4, cell_below HM.out.2.1 hb4, cell_below HM.out.2.2 hb4⟩
  have d0 := cell_below HCN.out.1 hb14
  have d2 := cell_below HCE.out.2.2 hb14
  simp only [Nat.zero_mul, Nat.add_zero] at d0 d2
  have f0 : ∀ j, w4.frozen? ⟨bN, j, none⟩ = false := fun j => (hb14.frozen (p := ⟨bN, j, none⟩) q1.2).trans ((HF.out bN oN (.inl rfl)).1 j)
  have f2 : ∀ j, w4.frozen? ⟨bE, j, none⟩ = false := fun j => (hb14.frozen (p := ⟨bE, j, none⟩) q2.2).trans ((HF.out bE oE (.inr (.inl rfl))).1 j)
  have g0 := f0 oN
  have g2 := f2 (oE + 2)
  have hne : bN ≠ bE := (HF.out bN oN (.inl rfl)).2 bE oE rfl rfl
  have n1 : bN ≠ w2.heap.size := by omega
  have n2 : bE ≠ w2.heap.size := by omega
  have hne' : bE ≠ bN := fun e => hne e.symm
  have HG := Lib.hid hG
  have HBW : Hid (Below w.heap.size w w4) := Lib.hid (HT.out.below.trans (hb14.mono HT.out.below.size))
  have HU1 := Lib.hid (HU.out.rN.below hb24)
  have HU2 := Lib.hid (HU.out.rE.below hb24)
  have HU3 := Lib.hid (HU.out.rB.below hb24)
  clear hG hb4 hb14 hb24 f0 f2 HM HKK HCN HCE HNEW HB2 HB12
  have p1 : (0 : Int) < (ns.length : Int) := by omega
  have p2 : (0 : Int) < (es.length : Int) := by omega
  have p1' : 0 < ns.length := by omega
  have p2' : 0 < es.length := by omega
  go_upto_region 7 with fail
  go_cut [] from 30 to 39 (fun wx => Upd (fun b => b = bN ∨ b = bE) w4 wx)
  case first =>
    have L0 : Hid (w4.cell? ⟨w2.heap.size, 0, none⟩ = some (.slice (some ⟨bN, oN, none⟩) ns.length c1) ∧ w4.cell? ⟨w2.heap.size, 1, none⟩ = some (.slice (some ⟨bE, oE, none⟩) es.length c2)) := Lib.hid ⟨l0, l1⟩
    go_region_held3 (fun w' => w'.cell? ⟨w2.heap.size, 0, none⟩ = some (.slice (some ⟨bN, oN, none⟩) ns.length c1) ∧ w'.cell? ⟨w2.heap.size, 1, none⟩ = some (.slice (some ⟨bE, oE, none⟩) es.length c2)) (go_keep) (fail)
    all_goals
      go_wp2_with fail
      go_meet
      case rel => exact upd_setCell (F := fun b => b = bN ∨ b = bE) (a := ⟨bE, oE + 2, none⟩) (upd_setCell (F := fun b => b = bN ∨ b = bE) (a := ⟨bN, oN, none⟩) (upd_drew (Upd.refl _ _)) (.inl rfl) _) (.inr rfl) _
  case rest =>
    have q5 := hcut.size
    have NF : Hid (∀ b, w1.heap.size ≤ b → ¬ (b = bN ∨ b = bE)) := Lib.hid (fun b hb e => by omega)
    have hG5 : GraphAt wc (w2.heap.size + 1 + 1) w4.heap.size p ns es bs := HG.out.upd hcut fun b hb _ => NF.out b (by omega)
    have HG5 := Lib.hid hG5
    have HU15 := Lib.hid (HU1.out.upd hcut fun b o e => NF.out b (HU.out.nw b o (.inl e)).1)
    have HU25 := Lib.hid (HU2.out.upd hcut fun b o e => NF.out b (HU.out.nw b o (.inr (.inl e))).1)
    have HU35 := Lib.hid (HU3.out.upd hcut fun b o e => NF.out b (HU.out.nw b o (.inr (.inr e))).1)
    have m0 := cell_upd HM4.out.1 hcut (NF.out _ (by omega))
    have m1 := cell_upd HM4.out.2.1 hcut (NF.out _ (by omega))
    have m2 := cell_upd HM4.out.2.2 hcut (NF.out _ (by omega))
    have hbc : Below w.heap.size w wc := HBW.out.trans (hcut.below HBW.out.size fun k hk e => by omega)
    have HBC := Lib.hid hbc
    have HSO : Hid (∀ w', Below wc.heap.size wc w' → w'.cell? ⟨w2.heap.size + 1, 0, none⟩ = some (.slice B1 ns.length k1) ∧ w'.cell? ⟨w2.heap.size + 1, 1, none⟩ = some (.slice B2 es.length k2) ∧ w'.cell? ⟨w2.heap.size + 1, 2, none⟩ = some (.slice B3 bs.length k3)) := Lib.hid fun w' h => ⟨cell_below m0 h, cell_below m1 h, cell_below m2 h⟩
    clear hcut hG5 hbc m0 m1 m2 l0 l1 d0 d2 g0 g2 hne hne' n1 n2
    go_wp2_with fail
    obtain ⟨m0, m1, m2⟩ := HSO.out _ (Below.refl _ _)
    have K0 : Hid (Below wc.heap.size wc wc.drew) := Lib.hid (bl_drew (Below.refl _ _))
    go_region_held3 (fun w' => w'.cell? ⟨w2.heap.size + 1, 0, none⟩ = some (.slice B1 ns.length k1) ∧ w'.cell? ⟨w2.heap.size + 1, 1, none⟩ = some (.slice B2 es.length k2) ∧ w'.cell? ⟨w2.heap.size + 1, 2, none⟩ = some (.slice B3 bs.length k3))
      (first | exact HSO.out _ K0.out | exact HSO.out _ K1.out | exact HSO.out _ K2.out)
      (first
        | (go_at_call 29
           with_reducible refine (plain_at (HG5.out.below K0.out)).mono ?_
           rintro e y1 ⟨P1, P2, P3, j1, j2, j3, rfl, hp1, hp2, hp3, _, hb⟩
           have K1 : Hid (Below wc.heap.size wc y1) := Lib.hid (bl_then K0.out hb)
           have HP1 := Lib.hid hp1
           have HP2 := Lib.hid hp2
           have HP3 := Lib.hid hp3
           clear hb hp1 hp2 hp3)
        | (go_at_call 28
           with_reducible refine (same_true HP1.out HP2.out HP3.out (HU15.out.below K1.out) (HU25.out.below K1.out) (HU35.out.below K1.out)).mono ?_
           rintro e y2 ⟨rfl, hb⟩
           have K2 : Hid (Below wc.heap.size wc y2) := Lib.hid (bl_then K1.out hb)
           clear hb))
    all_goals
      clear m0 m1 m2 HP1 HP2 HP3 K0 K1
      go_wp2_with fail
    refine (plain_at (HG5.out.below K2.out)).mono ?_
    rintro e y3 ⟨P1, P2, P3, j1, j2, j3, rfl, hp1, hp2, hp3, hnw, hb3⟩
    obtain ⟨v0, rfl⟩ : ∃ v0 : World, v0 = wc := ⟨_, rfl⟩
    have K3 : Hid (Below v0.heap.size v0 y3) := Lib.hid (bl_then K2.out hb3)
    obtain ⟨bP, oP, rfl, hcP⟩ := hp1.cell (by omega)
    obtain ⟨bQ, oQ, rfl, hcQ⟩ := hp2.cell (by omega)
    have nP := hnw bP oP (.inl rfl)
    have nQ := hnw bQ oQ (.inr (.inl rfl))
    have z2 := K2.out.size
    have z3 := hb3.size
    have d1 := (hcP 0 (by omega)).2
    have d2 := (hcQ 0 (by omega)).2.1
    simp only [Nat.zero_mul, Nat.add_zero] at d1 d2
    have kk := fun j v hv => cell_three_new (w := y3) (x := .slice (some ⟨bP, oP, none⟩) ns.length j1) (y := .slice (some ⟨bQ, oQ, none⟩) es.length j2) (z := .slice P3 bs.length j3) (t := 28) j v hv
    have l0 := kk 0 _ rfl
    have l1 := kk 1 _ rfl
    have d1 := cell_below d1 (bl_alloc (Below.refl _ _) (.cells #[.slice (some ⟨bP, oP, none⟩) ns.length j1, .slice (some ⟨bQ, oQ, none⟩) es.length j2, .slice P3 bs.length j3] 28))
    have d2 := cell_below d2 (bl_alloc (Below.refl _ _) (.cells #[.slice (some ⟨bP, oP, none⟩) ns.length j1, .slice (some ⟨bQ, oQ, none⟩) es.length j2, .slice P3 bs.length j3] 28))
    have fa := bl_alloc (Below.refl y3.heap.size y3) (.cells #[.slice (some ⟨bP, oP, none⟩) ns.length j1, .slice (some ⟨bQ, oQ, none⟩) es.length j2, .slice P3 bs.length j3] 28)
    have g1 := (fa.frozen (p := ⟨bP, oP + 1, none⟩) nP.2.1).trans (nP.2.2.1 (oP + 1))
    have g2 := (fa.frozen (p := ⟨bQ, oQ + 1, none⟩) nQ.2.1).trans (nQ.2.2.1 (oQ + 1))
    have hne : bP ≠ bQ := nP.2.2.2 bQ oQ rfl rfl
    have n1 : bP ≠ y3.heap.size := by have := nP.2.1; omega
    have n2 : bQ ≠ y3.heap.size := by have := nQ.2.1; omega
    have hne' : bQ ≠ bP := fun e => hne e.symm
    have NP : Hid (v0.heap.size ≤ bP ∧ v0.heap.size ≤ bQ) := Lib.hid ⟨by have := nP.1; omega, by have := nQ.1; omega⟩
    have K4 : Hid (Below v0.heap.size v0 (y3.alloc (.cells #[.slice (some ⟨bP, oP, none⟩) ns.length j1, .slice (some ⟨bQ, oQ, none⟩) es.length j2, .slice P3 bs.length j3] 28))) := Lib.hid (bl_alloc K3.out _)
    clear hp1 hp2 hp3 hnw hb3 hcP hcQ kk fa nP nQ z2 z3
    go_upto_region 11 with fail
    go_cut [] from 47 to 56 (fun wx => Below v0.heap.size v0 wx)
    case first =>
      have L0 : Hid (_ ∧ _) := Lib.hid ⟨l0, l1⟩
      go_region_held3 (fun w' => w'.cell? ⟨y3.heap.size, 0, none⟩ = some (.slice (some ⟨bP, oP, none⟩) ns.length j1) ∧ w'.cell? ⟨y3.heap.size, 1, none⟩ = some (.slice (some ⟨bQ, oQ, none⟩) es.length j2)) (go_keep) (fail)
      all_goals
        go_wp2_with fail
        go_meet
        case rel => exact ((bl_drew K4.out).setCell (p := ⟨bP, oP + 1, none⟩) NP.out.1 _).setCell (p := ⟨bQ, oQ + 1, none⟩) NP.out.2 _
    case rest =>
      have HB0 := Lib.hid hcut
      obtain ⟨m0, m1, m2⟩ := HSO.out _ hcut
      obtain ⟨R, hR⟩ : ∃ R, R = outT ns es ((fromN es 0 : Nat) : Int) := ⟨_, rfl⟩
      obtain ⟨ln, hln⟩ : ∃ ln, ln = R.length := ⟨_, rfl⟩
      have h0R : 0 < ln := by
        rw [hln, hR]
        exact List.length_pos_of_mem ((outT_mem HFR.out.2).2 ⟨0, rfl, by omega, rfl⟩)
      have ho := fun (w' : World) (h : Below v0.heap.size v0 w') => out_at (HG5.out.below h) ((fromN es 0 : Nat) : Int)
      have hor := fun (w' : World) (h : Below v0.heap.size v0 w') => out_reads (HG5.out.below h) ((fromN es 0 : Nat) : Int)
      simp only [← hR, ← hln] at ho hor
      obtain ⟨bO, oO, rfl, hcO⟩ := HU25.out.cell (by omega)
      have e0 := (hcO 0 (by omega)).1
      rw [HFR.out.1] at e0
      simp only [Nat.zero_mul, Nat.add_zero] at e0
      have E0 := Lib.hid e0
      have e1 := cell_below e0 hcut
      have HO := Lib.hid ho
      have HOR := Lib.hid hor
      have HRN : Hid (decide (R = []) = false) := Lib.hid (decide_eq_false fun e => by rw [e] at hln; simp at hln; omega)
      have hln0 : ((ln : Int) == 0) = false := by simp; omega
      have hlnp : (0 : Int) < (ln : Int) := by omega
      have HR := Lib.hid hR
      have HLN := Lib.hid hln
      clear hcut ho hor hcO e0 hR hln l0 l1 d1 d2 g1 g2 hne n1 n2 hne'
      go_wp2_with fail
      refine (HO.out _ HB0.out).mono ?_
      rintro e y5 ⟨A', c', rfl, hown, hb5⟩
      obtain ⟨g, rfl, hg1, hg2⟩ := own_at hown h0R
      have hf := own_free hown 0
      have hc0 := hown.cellAt 0 (by omega)
      rw [flatI_get R 0 (by rw [← HLN.out]; exact h0R)] at hc0
      have HB5 : Hid (Below v0.heap.size v0 y5) := Lib.hid (bl_then HB0.out hb5)
      have HB6 : Hid (Below v0.heap.size v0 (y5.setCell ⟨g, 0, none⟩ (.int .i64 a)).drew) := Lib.hid (bl_drew (HB5.out.setCell (p := ⟨g, 0, none⟩) (by show _ ≤ g; have := HB0.out.size; omega) _))
      clear hown hb5
      go_wp2_with fail
      have HSP : Hid (∀ w', Below v0.heap.size v0 w' → w'.cell? ⟨w2.heap.size + 1, 0, none⟩ = some (.slice B1 ns.length k1) ∧ w'.cell? ⟨w2.heap.size + 1, 1, none⟩ = some (.slice (some ⟨bO, oO, none⟩) es.length k2) ∧ w'.cell? ⟨w2.heap.size + 1, 2, none⟩ = some (.slice B3 bs.length k3) ∧ w'.cell? ⟨bO, oO, none⟩ = some (.int .i64 ((fromN es 0 : Nat) : Int))) :=
        Lib.hid fun w' h => ⟨(HSO.out _ h).1, (HSO.out _ h).2.1, (HSO.out _ h).2.2, cell_below E0.out h⟩
      have p2 : (0 : Int) < (es.length : Int) := by omega
      have hnil : ∀ (w' : World) (A : Option Addr) (c : Nat), ReadsI w' A 0 c [] := fun w' A c => ⟨rfl, by decide, fun h => by omega, by simp⟩
      have HNIL := Lib.hid hnil
      clear m0 m1 m2 e1 hf hc0 hnil
      go_region_held3 (fun w' => w'.cell? ⟨w2.heap.size + 1, 0, none⟩ = some (.slice B1 ns.length k1) ∧ w'.cell? ⟨w2.heap.size + 1, 1, none⟩ = some (.slice (some ⟨bO, oO, none⟩) es.length k2) ∧ w'.cell? ⟨w2.heap.size + 1, 2, none⟩ = some (.slice B3 bs.length k3) ∧ w'.cell? ⟨bO, oO, none⟩ = some (.int .i64 ((fromN es 0 : Nat) : Int)))
        (first | exact HSP.out _ HB6.out | exact HSP.out _ L1.out | exact HSP.out _ L2.out | exact HSP.out _ L3.out | exact HSP.out _ L4.out | exact HSP.out _ L5.out | exact HSP.out _ (bl_alloc L2.out _) | exact HSP.out _ (bl_alloc L3.out _))
        (first
          | (go_at_call 29
             with_reducible refine (plain_at (HG5.out.below HB6.out)).mono ?_
             rintro e x1 ⟨P1, P2, P3, i1, i2, i3, rfl, hp1, hp2, hp3, _, hb⟩
             have L1 : Hid (Below v0.heap.size v0 x1) := Lib.hid (bl_then HB6.out hb)
             have HP1 := Lib.hid hp1
             have HP2 := Lib.hid hp2
             have HP3 := Lib.hid hp3
             clear hb hp1 hp2 hp3)
          | (go_at_call 28
             with_reducible refine (same_true HP1.out HP2.out HP3.out (HU15.out.below L1.out) (HU25.out.below L1.out) (HU35.out.below L1.out)).mono ?_
             rintro e x2 ⟨rfl, hb⟩
             have L2 : Hid (Below v0.heap.size v0 x2) := Lib.hid (bl_then L1.out hb)
             clear hb)
          | (go_at_call 15
             first
               | with_reducible refine (HOR.out _ L2.out).mono ?_
               | with_reducible refine (HOR.out _ (bl_alloc L2.out _)).mono ?_
             rintro e x3 ⟨A9, c9, rfl, hr, _, hb⟩
             have L3 : Hid (Below v0.heap.size v0 x3) := Lib.hid (by first | exact bl_then L2.out hb | exact bl_then (bl_alloc L2.out _) hb)
             have R9 := Lib.hid hr
             clear hb hr)
          | (go_at_call 23
             first
               | with_reducible refine (ints_any R9.out (HNIL.out _ _ _)).mono ?_
               | with_reducible refine (ints_any (R9.out.below (bl_alloc (Below.refl _ _) _)) (HNIL.out _ _ _)).mono ?_
             rw [HRN.out]
             rintro e x4 ⟨rfl, hb⟩
             have L4 : Hid (Below v0.heap.size v0 x4) := Lib.hid (by first | exact bl_then L3.out hb | exact bl_then (bl_alloc L3.out _) hb)
             clear hb)
          | (go_at_call 12
             refine (awake5 _).mono ?_
             rintro e x5 ⟨rfl, hb⟩
             have L5 : Hid (Below v0.heap.size v0 x5) := Lib.hid (bl_then L4.out hb)
             clear hb))
      all_goals
        go_wp2_with fail
        go_ret
        exact ⟨rfl, HBC.out.trans (L5.out.mono HBC.out.size)⟩
theorem walk {W : World} (A : Option Addr) (n k : Nat) (xs : List Int) (hk : ReadsI W A n k xs) (a : Int) (h5 : (Lit.int .i64 a).wf = true) :
    Calls Try.prog 7 #[.slice A n k, .int .i64 a] W fun e w' => e = .returned (.bool true) ∧ Below W.heap.size W w' := by
  by_cases h : 100 < n
  · have s1 := hk.small
    unfold maxLen at s1
    exact walk_out A n k a (by omega) W h
  · exact walk_ins A n k xs a W (by omega) hk
set_option maxRecDepth 100000 in
theorem lifted (os : Os) (started : os.Started) (H : Type) (enc : TypeId × Value → H) :
    ReturnsInHanded {} Try.checked os 7 .any (Rows.graphStaysSpec.pre6 enc Try.prog Try.f7 Rows.graphStaysRow.domain false) (Rows.graphStaysSpec.post enc Try.prog Try.f7 false true false false) := by
  refine returnsInHanded_of_change (C := Try.checked) own started (by kernel_rfl) Try.func7
    (ChangeSpec.witness6 (enc := enc) (C := Try.checked) false ⟨#[], #[.slice none 0 0, .int .i64 0], []⟩ 8 (by kernel_rfl) (by kernel_rfl) (by kernel_rfl) (by kernel_rfl)) ?_
  intro W base args ds gs before hval0 hW hcnd _
  have hval : ∀ (j : Nat) t v, Try.f7.params[j]? = some t → args[j]? = some v → Value.okWide Try.prog W .any base t v := hval0
  have hW' := hW
  obtain ⟨p, q, hA0, hV, rfl, hfz, hnd⟩ := hW
  have hA : DataW.TrodAll enc Try.prog W 0 (fun _ => true) true Try.f7.params.toList args.toList ds p := hA0
  rw [Try.params7] at hA hval
  obtain ⟨v0, vs0, d0, ds0, p0, q0, hargs, rfl, rfl, h0, r0⟩ := trodAll_cons hA
  obtain ⟨v1, vs1, d1, ds1, p1, q1, rfl, rfl, rfl, h1, r1⟩ := trodAll_cons r0
  obtain ⟨rfl, rfl, rfl⟩ := trodAll_nil r1
  obtain rfl : args = #[v0, v1] := by cases args; simp_all
  obtain ⟨rfl, rfl⟩ := trodVars_none hV
  obtain ⟨a0, n0, c0, xs0, rfl, k0⟩ := open_reads (hval 0 22 v0 rfl rfl) h0
  obtain ⟨a1, rfl, rfl, rfl, w1⟩ := open_int Try.underlying3 (hval 1 3 v1 rfl rfl) h1
  refine (walk a0 n0 c0 xs0 k0 a1 w1).mono fun e W' ⟨he, hb⟩ => ?_
  subst he
  exact ⟨_, rfl, post_law hW' hb rfl rfl rfl rfl rfl (by rw [Try.params7]; exact readable_all (by kernel_rfl))⟩
theorem over : Rows.graphStaysRow.holds Try.pinned (OpenSpec.ofChange Rows.graphStaysSpec) :=
  OpenClaim.holds_of_wide 7 Try.f7 rfl rfl rfl rfl rfl rfl rfl ⟨rfl, rfl, rfl, rfl, rfl⟩ rfl rfl rfl rfl rfl (by kernel_rfl) Try.func7 (by kernel_rfl)
    (of_decide_eq_true (by kernel_rfl)) (by unfold Func.isWrapper; first | (rw [if_pos (by decide +kernel)]; kernel_rfl) | (rw [if_neg (by decide +kernel)]; exact ⟨rfl, rfl⟩))
    (fun os started H enc _ => lifted os started H enc)
theorem proved : Rows.GraphStaysSaid := over
#print axioms proved
end Go.Proofs.Ytjcaoejodjmmkaa.graphStays
