/- DetourMeets: where both ends meet the two distances are together the whole; no edge below it is on a walk as short. For every input, without a condition. -/
import Derived.Test.YtjopiefojicblaaAwake19
import Derived.Test.YtjopiefojicblaaDistAll
import Derived.Test.YtjopiefojicblaaStill
import Derived.Test.YtjopiefojicblaaBase
import Derived.BigQuiet
set_option linter.unusedVariables false
set_option linter.unusedSimpArgs false
namespace Go.Proofs.Ytjopiefojicblaa.detourMeets
open Go.ChangeShapes Go.WideShapes Go.ChangeAt Go.RowKit HeapP DistP
set_option maxRecDepth 100000 in
set_option maxHeartbeats 4000000 in
theorem walk_out (A : Option Addr) (n k : Nat) (A2 : Option Addr) (n2 k2 : Nat) (a b : Int) (s1 : n ≤ 9223372036854775807) (s2 : n2 ≤ 9223372036854775807) (w : World) (h : ¬ (n ≤ 100 ∧ n2 ≤ 40)) :
    Calls Try.prog 12 #[.slice A n k, .slice A2 n2 k2, .int .i64 a, .int .i64 b] w fun e w' => e = .returned (.bool true) ∧ Below w.heap.size w w' := by
  by_cases h1 : 100 < n
  · clear h
    go_enter Try.func12, Try.ntmps12
    go_wp2_with (go_at_call 37; refine (awake19 _).mono ?_; rintro e w1 ⟨rfl, hb1⟩)
    go_ret
    exact ⟨rfl, by assumption⟩
  · have h2 : 40 < n2 := by omega
    clear h
    go_enter Try.func12, Try.ntmps12
    go_wp2_with (go_at_call 37; refine (awake19 _).mono ?_; rintro e w1 ⟨rfl, hb1⟩)
    go_ret
    exact ⟨rfl, by assumption⟩
set_option maxRecDepth 100000 in
set_option maxHeartbeats 16000000 in
theorem walk_ins (A : Option Addr) (n k : Nat) (xs : List Int) (Ah : Option Addr) (n2 k2 : Nat) (sh : List Int) (eI : Int) (heI : (Lit.int .i64 eI).wf = true) (nI : Int) (hnI : (Lit.int .i64 nI).wf = true) (w : World) (h : n ≤ 100) (h2 : n2 ≤ 40)
    (hk : ReadsI w A n k xs) (q2 : ReadsI w Ah n2 k2 sh) :
    Calls Try.prog 12 #[.slice A n k, .slice Ah n2 k2, .int .i64 eI, .int .i64 nI] w fun e w' => e = .returned (.bool true) ∧ Below w.heap.size w w' := by
  have HOK := Lib.hid (town_good xs)
  have hmd := made19 hk
  have hE70 := len_townE xs
  obtain ⟨ns, hns⟩ : ∃ ns, ns = townN xs := ⟨_, rfl⟩
  obtain ⟨es, hes⟩ : ∃ es, es = townE xs := ⟨_, rfl⟩
  obtain ⟨bs, hbs⟩ : ∃ bs, bs = townB xs := ⟨_, rfl⟩
  rw [← hes] at hE70
  rw [← hns, ← hes, ← hbs] at HOK hmd
  have HMD := Lib.hid hmd
  obtain ⟨s1, s2, s3, s4⟩ := (mayB_parts HOK.out).2.1
  clear hmd hns hes hbs
  have Q2 := Lib.hid q2
  obtain ⟨e1, e70⟩ := hE70
  have ra := fun w => round_still heI (n := (es.length : Int)) (by omega) (by omega) w
  have rb := fun w => round_still hnI (n := (ns.length : Int)) (by omega) (by omega) w
  have j0 := Int.emod_nonneg eI (show (es.length : Int) ≠ 0 by omega)
  have j1 := Int.emod_lt_of_pos eI (show (0 : Int) < es.length by omega)
  have i0 := Int.emod_nonneg nI (show (ns.length : Int) ≠ 0 by omega)
  have i1 := Int.emod_lt_of_pos nI (show (0 : Int) < ns.length by omega)
  obtain ⟨a, ha⟩ : ∃ a : Nat, eI % (es.length : Int) = (a : Int) := ⟨(eI % (es.length : Int)).toNat, by omega⟩
  obtain ⟨v, hv⟩ : ∃ v : Nat, nI % (ns.length : Int) = (v : Int) := ⟨(nI % (ns.length : Int)).toNat, by omega⟩
  rw [ha] at ra j0 j1
  rw [hv] at rb i0 i1
  have HAN : Hid (a < es.length) := Lib.hid (by omega)
  have HVN : Hid (v < ns.length) := Lib.hid (by omega)
  have RA := Lib.hid ra
  have RB := Lib.hid rb
  clear hk q2 ra rb ha hv heI hnI
  go_enter Try.func12, Try.ntmps12
  go_wp2_with fail
  refine HMD.out.mono ?_
  rintro e w1 ⟨A1, A2, A3, c1, c2, c3, B, t, p, rfl, hM⟩
  have hbx := bl_alloc (Below.refl w1.heap.size w1) (.cells #[.slice A1 ns.length c1, .slice A2 es.length c2, .slice A3 bs.length c3] 29)
  obtain ⟨v0, hv0⟩ : ∃ v0, v0 = w1.alloc (.cells #[.slice A1 ns.length c1, .slice A2 es.length c2, .slice A3 bs.length c3] 29) := ⟨_, rfl⟩
  have HS : Hid (∀ w', Below v0.heap.size v0 w' → w'.cell? ⟨w1.heap.size, 0, none⟩ = some (.slice A1 ns.length c1) ∧ w'.cell? ⟨w1.heap.size, 1, none⟩ = some (.slice A2 es.length c2) ∧ w'.cell? ⟨w1.heap.size, 2, none⟩ = some (.slice A3 bs.length c3)) := Lib.hid fun w' hb => by subst hv0; exact GR.box hb
  have k0 : (w1.alloc (.cells #[.slice A1 ns.length c1, .slice A2 es.length c2, .slice A3 bs.length c3] 29)).cell? ⟨w1.heap.size, 0, none⟩ = some (.slice A1 ns.length c1) := cell_three_new 0 _ rfl
  have k1 : (w1.alloc (.cells #[.slice A1 ns.length c1, .slice A2 es.length c2, .slice A3 bs.length c3] 29)).cell? ⟨w1.heap.size, 1, none⟩ = some (.slice A2 es.length c2) := cell_three_new 1 _ rfl
  have k2 : (w1.alloc (.cells #[.slice A1 ns.length c1, .slice A2 es.length c2, .slice A3 bs.length c3] 29)).cell? ⟨w1.heap.size, 2, none⟩ = some (.slice A3 bs.length c3) := cell_three_new 2 _ rfl
  rw [← hv0] at hbx
  have HG := Lib.hid (hM.g.below hbx)
  have HT := Lib.hid (hM.t.below hbx)
  have HBW : Hid (Below w.heap.size w v0) := Lib.hid (hM.below.trans (hbx.mono hM.below.size))
  have HV0 := Lib.hid hv0
  have HTE : Hid (w1.heap.size < v0.heap.size) := Lib.hid (by rw [hv0, size_alloc]; omega)
  have HLO : Hid (w.heap.size ≤ B) := Lib.hid hM.lo
  clear hM hbx hv0 HMD
  go_wp2_with fail
  rw [← HV0.out]
  have hsh := shut4_any (A1 := A1) (A2 := A2) (A3 := A3) (w := v0) (N := es.length) (n1 := ns.length) (n3 := bs.length) (c1 := c1) (c2 := c2) (c3 := c3) e1 s3 (Q2.out.below HBW.out) (by omega)
  obtain ⟨cl, hcl⟩ : ∃ cl, cl = shutK es.length sh := ⟨_, rfl⟩
  rw [← hcl] at hsh
  refine hsh.mono ?_
  clear hsh hcl k0 k1 k2
  rintro r vb ⟨gs, rfl, hr, _, hb⟩
  have BV := Lib.hid hb
  have RC := Lib.hid (hr.reads s3 es.length)
  obtain ⟨l0, l1, l2⟩ := HS.out _ hb
  clear hr hb
  go_wp2_with fail
  go_quiet ((go_at_call 25; first | with_reducible refine Calls.quiet_of_same (RA.out _) | with_reducible refine Calls.quiet_of_same (RB.out _)))
  go_wp2_with fail
  generalize hV : World.drewN vb _ = vz
  have B0 : Hid (Below vb.heap.size vb vz) := Lib.hid (by rw [← hV]; exact bl_drewN (Below.refl _ _) _)
  clear hV l0 l1 l2
  have HSQ : Hid (∀ w', Below vz.heap.size vz w' → w'.cell? ⟨w1.heap.size, 0, none⟩ = some (.slice A1 ns.length c1) ∧ w'.cell? ⟨w1.heap.size, 1, none⟩ = some (.slice A2 es.length c2) ∧ w'.cell? ⟨w1.heap.size, 2, none⟩ = some (.slice A3 bs.length c3)) := Lib.hid fun w' h => HS.out w' (bl_then BV.out (bl_then B0.out h))
  have HTZ := Lib.hid (HT.out.below (bl_then BV.out B0.out))
  have HGZ := Lib.hid (HG.out.below (bl_then BV.out B0.out))
  have RCZ := Lib.hid (RC.out.below B0.out)
  have BZ : Hid (∀ w', Below vz.heap.size vz w' → Below w.heap.size w w') := Lib.hid fun w' h => HBW.out.trans ((bl_then BV.out (bl_then B0.out h)).mono HBW.out.size)
  have r1 := ddist_at HTZ.out RCZ.out e1 (a : Int) (v : Int)
  have r3 := fun (w' : World) (hb : Below vz.heap.size vz w') => meets_at (HTZ.out.below hb) (RCZ.out.below hb) e1 (a : Int) (v : Int)
  by_cases h0 : 0 ≤ btwT ns es bs cl (a : Int) (v : Int)
  · obtain ⟨m, hm, hma, hmeet, hmin⟩ := meet_in HOK.out h0 HAN.out
    obtain ⟨q, k3, hq, -, -, -, ef, et, eb, -, -⟩ := btw_in HOK.out h0
    obtain rfl : q = a := by omega
    rw [show max0 (btwT ns es bs cl (q : Int) (v : Int)) = btwT ns es bs cl (q : Int) (v : Int) from if_pos h0, decide_eq_true h0, eb] at r1
    rw [hm, show max0 (m : Int) = (m : Int) from if_pos (by omega), show decide (0 ≤ (m : Int)) = true from decide_eq_true (by omega)] at r3
    have r5 := fun (w' : World) (hb : Below vz.heap.size vz w') => from4_at (HGZ.out.below hb) HOK.out (RCZ.out.below hb) (q : Int)
    have r6 := fun (w' : World) (hb : Below vz.heap.size vz w') => to4_at (HGZ.out.below hb) HOK.out (RCZ.out.below hb) (v : Int)
    rw [ef, (fromD_is HOK.out cl q).1] at r5
    rw [et, (toD_is HOK.out cl (v : Int)).1] at r6
    have lF := (fromD_is HOK.out cl q).1
    have lT := (toD_is HOK.out cl (v : Int)).1
    have hbF := fun i => dl_bd (fromD_bd HOK.out cl q) i
    have hbT := fun i => dl_bd (toD_bd HOK.out cl (v : Int)) i
    have hle : ∀ i, i < es.length → 0 ≤ dl (fromD es bs cl q) i → 0 ≤ dl (toD es bs cl (v : Int)) i → dl (toD es bs cl (v : Int)) q ≤ dl (fromD es bs cl q) i + dl (toD es bs cl (v : Int)) i := fun i hi x1 x2 =>
      (both_le HOK.out (toD_is HOK.out cl (v : Int)).2 (fromD_is HOK.out cl q).2 (dl (fromD es bs cl q) i).toNat i hi x1 (by omega) x2).2
    have hed := fun w' : World => edge4_c (A1 := A1) (A2 := A2) (A3 := A3) (n1 := ns.length) (n2 := es.length) (n3 := bs.length) (c1 := c1) (c2 := c2) (c3 := c3) (by unfold maxLen; omega) (m : Int) w'
    have hmN : m < es.length := by have := HAN.out; omega
    rw [show inB 0 (m : Int) ((es.length : Int) - 1) = true by unfold inB; simp; omega] at hed
    obtain ⟨F, hF⟩ : ∃ F, F = fromD es bs cl q := ⟨_, rfl⟩
    obtain ⟨T, hTT⟩ : ∃ T, T = toD es bs cl (v : Int) := ⟨_, rfl⟩
    rw [← hF] at r5 lF hbF hle hmeet hmin
    rw [← hTT] at r1 r6 lT hbT hle hmeet hmin
    obtain ⟨D, hD⟩ : ∃ D, D = dl T q := ⟨_, rfl⟩
    have hDb := hbT q
    rw [← hD] at r1 hle hmeet hmin hDb
    obtain ⟨m1, m2, m3⟩ := meetB_iff.1 hmeet
    have R1 := Lib.hid r1
    have R3 := Lib.hid r3
    have R5 := Lib.hid r5
    have R6 := Lib.hid r6
    have LF := Lib.hid lF
    have LT := Lib.hid lT
    have HBF := Lib.hid hbF
    have HBT := Lib.hid hbT
    have HLE := Lib.hid hle
    have HED := Lib.hid hed
    have HMIN := Lib.hid hmin
    have HMN := Lib.hid hmN
    have M1 := Lib.hid m1
    have M2 := Lib.hid m2
    have M3 := Lib.hid m3
    clear r1 r3 r5 r6 lF lT hbF hbT hle hed hmin hmN m1 m2 m3 hF hTT hD hm hmeet ef et eb h0 hq
    refine R1.out.mono ?_
    rintro r y1 ⟨rfl, hb⟩
    have J1 := Lib.hid hb
    clear hb
    go_wp2_with fail
    refine (R3.out _ J1.out).mono ?_
    rintro r y2 ⟨rfl, hb⟩
    have J2 := Lib.hid (bl_then J1.out hb)
    have K0 : Hid (Below vz.heap.size vz y2.drew) := Lib.hid (bl_drew J2.out)
    clear hb
    go_wp2_with fail
    go_region_held3 (fun w' => w'.cell? ⟨w1.heap.size, 0, none⟩ = some (.slice A1 ns.length c1) ∧ w'.cell? ⟨w1.heap.size, 1, none⟩ = some (.slice A2 es.length c2) ∧ w'.cell? ⟨w1.heap.size, 2, none⟩ = some (.slice A3 bs.length c3))
      (first | exact HSQ.out _ K0.out | exact HSQ.out _ K1.out | exact HSQ.out _ K2.out)
      (first
        | (go_at_call 24
           refine (R5.out _ K0.out).mono ?_
           rintro r z1 ⟨AF, cF, rfl, hg, hb⟩
           have K1 : Hid (Below vz.heap.size vz z1) := Lib.hid (bl_then K0.out hb)
           have hg1 := hg.1
           rw [LF.out] at hg1
           have HF2 := Lib.hid hg1
           clear hg hb hg1)
        | (go_at_call 20
           refine (R6.out _ K1.out).mono ?_
           rintro r z2 ⟨AT, cT, rfl, hg, hb⟩
           have K2 : Hid (Below vz.heap.size vz z2) := Lib.hid (bl_then K1.out hb)
           have hg1 := hg.1
           rw [LT.out] at hg1
           have HT3 := Lib.hid hg1
           have HF3 := Lib.hid (HF2.out.below hb)
           clear hg hb hg1))
    all_goals
      obtain ⟨bF, oF, rfl, hcF⟩ := HF3.out.cell (by omega)
      obtain ⟨bT, oT, rfl, hcT⟩ := HT3.out.cell (by omega)
      have dF := hcF m HMN.out
      have dT := hcT m HMN.out
      rw [dl_get (by rw [LF.out]; exact HMN.out)] at dF
      rw [dl_get (by rw [LT.out]; exact HMN.out)] at dT
      have hbF := HBF.out m
      have hbT := HBT.out m
      have f0 := M1.out
      have t0 := M2.out
      have s0 := M3.out
      obtain ⟨fm, hfm⟩ : ∃ fm, fm = dl F m := ⟨_, rfl⟩
      obtain ⟨tm, htm⟩ : ∃ tm, tm = dl T m := ⟨_, rfl⟩
      rw [← hfm] at dF hbF f0 s0
      rw [← htm] at dT hbT t0 s0
      have hsum : IntKind.i64.wrap (fm + tm) = fm + tm := IntWalk.i64_in _ (by omega)
      have f1 : decide (fm < 0) = false := decide_eq_false (by omega)
      have t1 : decide (tm < 0) = false := decide_eq_false (by omega)
      have f2 : ¬ fm < 0 := by omega
      have t2 : ¬ tm < 0 := by omega
      have s1 : (fm + tm != D) = false := by simp [s0]
      have q0 : (0 : Int) ≤ (m : Int) := by omega
      have q1 : (m : Int) < (es.length : Int) := by have := HMN.out; omega
      have HSX : Hid (∀ w', Below z2.heap.size z2 w' → (w'.cell? ⟨w1.heap.size, 0, none⟩ = some (.slice A1 ns.length c1) ∧ w'.cell? ⟨w1.heap.size, 1, none⟩ = some (.slice A2 es.length c2) ∧ w'.cell? ⟨w1.heap.size, 2, none⟩ = some (.slice A3 bs.length c3)) ∧ w'.cell? ⟨bF, oF + m, none⟩ = some (.int .i64 fm) ∧ w'.cell? ⟨bT, oT + m, none⟩ = some (.int .i64 tm)) := Lib.hid fun w' h => ⟨HSQ.out w' (bl_then K2.out h), cell_below dF h, cell_below dT h⟩
      have Z0 : Hid (Below z2.heap.size z2 z2.drew) := Lib.hid (bl_drew (Below.refl _ _))
      clear hcF hcT dF dT hfm htm f0 t0 s0 hbF hbT
      go_wp2_with fail
      go_region_held3 (fun w' => (w'.cell? ⟨w1.heap.size, 0, none⟩ = some (.slice A1 ns.length c1) ∧ w'.cell? ⟨w1.heap.size, 1, none⟩ = some (.slice A2 es.length c2) ∧ w'.cell? ⟨w1.heap.size, 2, none⟩ = some (.slice A3 bs.length c3)) ∧ w'.cell? ⟨bF, oF + m, none⟩ = some (.int .i64 fm) ∧ w'.cell? ⟨bT, oT + m, none⟩ = some (.int .i64 tm))
        (first | exact HSX.out _ Z0.out | exact HSX.out _ Z1.out)
        (first
          | (go_at_call 35
             refine (HED.out _).mono ?_
             rintro r z3 ⟨rfl, hb⟩
             have Z1 : Hid (Below z2.heap.size z2 z3) := Lib.hid (bl_then Z0.out hb)
             clear hb))
      all_goals
        clear hsum f1 t1 f2 t2 s1 q0 q1
        go_wp2_with fail
        go_loopg [20] (m + 1) (fun M u wr => ∃ i : Nat, M = m - i + 1 ∧ i ≤ m ∧ u = .int .i64 (i : Nat) ∧ Below z3.heap.size z3 wr)
        case atStart => exact ⟨0, rfl, Nat.zero_le _, rfl, Below.refl _ _⟩
        case round =>
          obtain ⟨i, hM, hi, rfl, hb⟩ := hrel
          have HM := Lib.hid hM
          have HB := Lib.hid hb
          clear hM hb
          by_cases hlt : i < m
          · have hiN : i < es.length := by have := HMN.out; omega
            have dF := ((HF3.out.below (bl_then Z1.out HB.out)).cell (by omega))
            obtain ⟨bF2, oF2, eF, hcF⟩ := dF
            injection eF with eF
            injection eF with eF1 eF2 _
            subst eF1 eF2
            obtain ⟨bT2, oT2, eT, hcT⟩ := ((HT3.out.below (bl_then Z1.out HB.out)).cell (by omega))
            injection eT with eT
            injection eT with eT1 eT2 _
            subst eT1 eT2
            have dF := hcF i hiN
            have dT := hcT i hiN
            rw [dl_get (by rw [LF.out]; exact hiN)] at dF
            rw [dl_get (by rw [LT.out]; exact hiN)] at dT
            have hbF := HBF.out i
            have hbT := HBT.out i
            have hle := HLE.out i hiN
            have hmi : 0 ≤ dl F i → 0 ≤ dl T i → dl F i + dl T i ≠ D := fun x1 x2 x3 => by
              have := HMIN.out i hlt
              rw [meetB_iff.2 ⟨x1, x2, x3⟩] at this; cases this
            obtain ⟨df, hdf⟩ : ∃ df, df = dl F i := ⟨_, rfl⟩
            obtain ⟨dt, hdt⟩ : ∃ dt, dt = dl T i := ⟨_, rfl⟩
            rw [← hdf] at dF hbF hle hmi
            rw [← hdt] at dT hbT hle hmi
            have hsum : IntKind.i64.wrap (df + dt) = df + dt := IntWalk.i64_in _ (by omega)
            have HLL := Lib.hid hle
            have HMI := Lib.hid hmi
            have i0' : (0 : Int) ≤ (i : Int) := by omega
            have i1' : (i : Int) < (es.length : Int) := by omega
            have i2' : (i : Int) < (m : Int) := by omega
            clear hcF hcT hle hmi hdf hdt
            by_cases hf0 : 0 ≤ df
            · have b1 : decide (0 ≤ df) = true := decide_eq_true hf0
              by_cases ht0 : 0 ≤ dt
              · have b2 : decide (0 ≤ dt) = true := decide_eq_true ht0
                have b3 : decide (df + dt ≤ D) = false := decide_eq_false (by have := HLL.out hf0 ht0; have := HMI.out hf0 ht0; omega)
                go_wp2_with fail
                go_quiet (fail)
                go_wp2_with fail
                go_roundg (m - (i + 1) + 1)
                case measure => have := HM.out; omega
                case rel => exact ⟨i + 1, rfl, by omega, by go_num, bl_drewN HB.out _⟩
              · have b2 : decide (0 ≤ dt) = false := decide_eq_false ht0
                go_wp2_with fail
                go_quiet (fail)
                go_wp2_with fail
                go_roundg (m - (i + 1) + 1)
                case measure => have := HM.out; omega
                case rel => exact ⟨i + 1, rfl, by omega, by go_num, bl_drewN HB.out _⟩
            · have b1 : decide (0 ≤ df) = false := decide_eq_false hf0
              go_wp2_with fail
              go_quiet (fail)
              go_wp2_with fail
              go_roundg (m - (i + 1) + 1)
              case measure => have := HM.out; omega
              case rel => exact ⟨i + 1, rfl, by omega, by go_num, bl_drewN HB.out _⟩
          · obtain rfl : i = m := by omega
            go_wp2_with (go_at_call 37; refine (awake19 _).mono ?_; rintro e w6 ⟨rfl, hb6⟩)
            go_ret
            exact ⟨rfl, BZ.out _ (bl_then K2.out (bl_then Z1.out (bl_then HB.out hb6)))⟩
  · have hneg : btwT ns es bs cl (a : Int) (v : Int) < 0 := by omega
    rw [show max0 (btwT ns es bs cl (a : Int) (v : Int)) = 0 from if_neg h0, decide_eq_false h0] at r1
    rw [meet_none hneg] at r3
    have r2 := fun (w' : World) (hb : Below vz.heap.size vz w') => btw4_at (HGZ.out.below hb) HOK.out (RCZ.out.below hb) (a : Int) (v : Int)
    obtain ⟨D, hD⟩ : ∃ D, D = btwT ns es bs cl (a : Int) (v : Int) := ⟨_, rfl⟩
    rw [← hD] at r2 hneg
    have d1 : decide (D < 0) = true := decide_eq_true hneg
    rw [show max0 (-1) = 0 by decide, show decide ((0 : Int) ≤ -1) = false by decide] at r3
    have R1 := Lib.hid r1
    have R2 := Lib.hid r2
    have R3 := Lib.hid r3
    clear r1 r2 r3 hD h0
    refine R1.out.mono ?_
    rintro r y1 ⟨rfl, hb⟩
    have J1 := Lib.hid hb
    clear hb
    go_wp2_with fail
    refine (R3.out _ J1.out).mono ?_
    rintro r y2 ⟨rfl, hb⟩
    have J2 := Lib.hid (bl_then J1.out hb)
    obtain ⟨l0, l1, l2⟩ := HSQ.out _ J2.out
    clear hb
    go_wp2_with fail
    refine (R2.out _ J2.out).mono ?_
    rintro r y3 ⟨rfl, hb⟩
    have J3 := Lib.hid (bl_then J2.out hb)
    clear hb l0 l1 l2
    go_wp2_with (go_at_call 37; refine (awake19 _).mono ?_; rintro e w6 ⟨rfl, hb6⟩)
    go_ret
    exact ⟨rfl, BZ.out _ (bl_then J3.out hb6)⟩
theorem walk {W : World} (A : Option Addr) (n k : Nat) (xs : List Int) (hk : ReadsI W A n k xs) (A2 : Option Addr) (n2 k2 : Nat) (x2 : List Int) (q2 : ReadsI W A2 n2 k2 x2) (a : Int) (h5 : (Lit.int .i64 a).wf = true) (b : Int) (h6 : (Lit.int .i64 b).wf = true) :
    Calls Try.prog 12 #[.slice A n k, .slice A2 n2 k2, .int .i64 a, .int .i64 b] W fun e w' => e = .returned (.bool true) ∧ Below W.heap.size W w' := by
  have s1 := hk.small
  have s2 := q2.small
  unfold maxLen at s1 s2
  by_cases h : n ≤ 100 ∧ n2 ≤ 40
  · exact walk_ins A n k xs A2 n2 k2 x2 a h5 b h6 W h.1 h.2 hk q2
  · exact walk_out A n k A2 n2 k2 a b (by omega) (by omega) W h
set_option maxRecDepth 100000 in
theorem lifted (os : Os) (started : os.Started) (H : Type) (enc : TypeId × Value → H) :
    ReturnsInHanded {} Try.checked os 12 .any (Rows.detourMeetsSpec.pre6 enc Try.prog Try.f12 Rows.detourMeetsRow.domain false) (Rows.detourMeetsSpec.post enc Try.prog Try.f12 false true false false) := by
  refine returnsInHanded_of_change (C := Try.checked) own started (by kernel_rfl) Try.func12
    (ChangeSpec.witness6 (enc := enc) (C := Try.checked) false ⟨#[], #[.slice none 0 0, .slice none 0 0, .int .i64 0, .int .i64 0], []⟩ 8 (by kernel_rfl) (by kernel_rfl) (by kernel_rfl) (by kernel_rfl)) ?_
  intro W base args ds gs before hval0 hW hcnd _
  have hval : ∀ (j : Nat) t v, Try.f12.params[j]? = some t → args[j]? = some v → Value.okWide Try.prog W .any base t v := hval0
  have hW' := hW
  obtain ⟨p, q, hA0, hV, rfl, hfz, hnd⟩ := hW
  have hA : DataW.TrodAll enc Try.prog W 0 (fun _ => true) true Try.f12.params.toList args.toList ds p := hA0
  rw [Try.params12] at hA hval
  obtain ⟨v0, vs0, d0, ds0, p0, q0, hargs, rfl, rfl, h0, r0⟩ := trodAll_cons hA
  obtain ⟨v1, vs1, d1, ds1, p1, q1, rfl, rfl, rfl, h1, r1⟩ := trodAll_cons r0
  obtain ⟨v2, vs2, d2, ds2, p2, q2, rfl, rfl, rfl, h2, r2⟩ := trodAll_cons r1
  obtain ⟨v3, vs3, d3, ds3, p3, q3, rfl, rfl, rfl, h3, r3⟩ := trodAll_cons r2
  obtain ⟨rfl, rfl, rfl⟩ := trodAll_nil r3
  obtain rfl : args = #[v0, v1, v2, v3] := by cases args; simp_all
  obtain ⟨rfl, rfl⟩ := trodVars_none hV
  obtain ⟨a0, n0, c0, xs0, rfl, k0⟩ := open_reads (hval 0 22 v0 rfl rfl) h0
  obtain ⟨a1, n1, c1, xs1, rfl, k1⟩ := open_reads (hval 1 22 v1 rfl rfl) h1
  obtain ⟨a2, rfl, rfl, rfl, w2⟩ := open_int Try.underlying3 (hval 2 3 v2 rfl rfl) h2
  obtain ⟨a3, rfl, rfl, rfl, w3⟩ := open_int Try.underlying3 (hval 3 3 v3 rfl rfl) h3
  refine (walk a0 n0 c0 xs0 k0 a1 n1 c1 xs1 k1 a2 w2 a3 w3).mono fun e W' ⟨he, hb⟩ => ?_
  subst he
  exact ⟨_, rfl, post_law hW' hb rfl rfl rfl rfl rfl (by rw [Try.params12]; exact readable_all (by kernel_rfl))⟩
theorem over : Rows.detourMeetsRow.holds Try.pinned (OpenSpec.ofChange Rows.detourMeetsSpec) :=
  OpenClaim.holds_of_wide 12 Try.f12 rfl rfl rfl rfl rfl rfl rfl ⟨rfl, rfl, rfl, rfl, rfl⟩ rfl rfl rfl rfl rfl (by kernel_rfl) Try.func12 (by kernel_rfl)
    (of_decide_eq_true (by kernel_rfl)) (by unfold Func.isWrapper; first | (rw [if_pos (by decide +kernel)]; kernel_rfl) | (rw [if_neg (by decide +kernel)]; exact ⟨rfl, rfl⟩))
    (fun os started H enc _ => lifted os started H enc)
theorem proved : Rows.DetourMeetsSaid := over
#print axioms proved
end Go.Proofs.Ytjopiefojicblaa.detourMeets
