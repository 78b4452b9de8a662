/- DistTells: of any town, and whatever is closed, how far each node is from each edge, and each edge from another one, is as the document says. For every input, without a condition. -/
import Derived.Test.YtjopiefojicblaaAwake11
import Derived.Test.YtjopiefojicblaaBase
import Derived.Test.YtjopiefojicblaaRefs
set_option linter.unusedVariables false
set_option linter.unusedSimpArgs false
namespace Go.Proofs.Ytjopiefojicblaa.distTells
open Go.ChangeShapes Go.WideShapes Go.ChangeAt Go.RowKit HeapP DistP
set_option maxRecDepth 100000 in
set_option maxHeartbeats 4000000 in
theorem walk_out (A : Option Addr) (n k : Nat) (A2 : Option Addr) (n2 k2 : Nat) (A3 : Option Addr) (n3 k3 : Nat) (a b : Int) (s1 : n ≤ 9223372036854775807) (s2 : n2 ≤ 9223372036854775807) (s3 : n3 ≤ 9223372036854775807) (w : World) (h : ¬ (n ≤ 100 ∧ n2 ≤ 40 ∧ n3 ≤ 80)) :
    Calls Try.prog 3 #[.slice A n k, .slice A2 n2 k2, .slice A3 n3 k3, .int .i64 a, .int .i64 b] w fun e w' => e = .returned (.bool true) ∧ Below w.heap.size w w' := by
  by_cases h1 : 100 < n
  · clear h
    go_enter Try.func3, Try.ntmps3
    go_wp2_with (go_at_call 15; refine (awake11 _).mono ?_; rintro e w1 ⟨rfl, hb1⟩)
    go_ret
    exact ⟨rfl, by assumption⟩
  · by_cases h2 : 40 < n2
    · clear h
      go_enter Try.func3, Try.ntmps3
      go_wp2_with (go_at_call 15; refine (awake11 _).mono ?_; rintro e w1 ⟨rfl, hb1⟩)
      go_ret
      exact ⟨rfl, by assumption⟩
    · have h3 : 80 < n3 := by omega
      clear h
      go_enter Try.func3, Try.ntmps3
      go_wp2_with (go_at_call 15; refine (awake11 _).mono ?_; rintro e w1 ⟨rfl, hb1⟩)
      go_ret
      exact ⟨rfl, by assumption⟩
set_option maxRecDepth 100000 in
set_option maxHeartbeats 16000000 in
theorem walk_ins (A : Option Addr) (n k : Nat) (xs : List Int) (Ah : Option Addr) (n2 k2 : Nat) (sh : List Int) (Ar : Option Addr) (n3 k3 : Nat) (rw_ : List Bool) (nI : Int) (eI : Int) (heI : (Lit.int .i64 eI).wf = true) (w : World) (h : n ≤ 100) (h2 : n2 ≤ 40) (h3 : n3 ≤ 80)
    (hk : ReadsI w A n k xs) (q2 : ReadsI w Ah n2 k2 sh) (q3 : ReadsB w Ar n3 k3 rw_) :
    Calls Try.prog 3 #[.slice A n k, .slice Ah n2 k2, .slice Ar n3 k3, .int .i64 nI, .int .i64 eI] w fun e w' => e = .returned (.bool true) ∧ Below w.heap.size w w' := by
  have HOK := Lib.hid (town_good xs)
  have hmd := made11 hk
  have hE70 := len_townE xs
  obtain ⟨ns, hns⟩ : ∃ ns, ns = townN xs := ⟨_, rfl⟩
  obtain ⟨es, hes⟩ : ∃ es, es = townE xs := ⟨_, rfl⟩
  obtain ⟨bs, hbs⟩ : ∃ bs, bs = townB xs := ⟨_, rfl⟩
  rw [← hes] at hE70
  rw [← hns, ← hes, ← hbs] at HOK hmd
  have HMD := Lib.hid hmd
  obtain ⟨s1, s2, s3, s4⟩ := (mayB_parts HOK.out).2.1
  clear hmd hns hes hbs
  have Q2 := Lib.hid q2
  have Q3 := Lib.hid q3
  obtain ⟨e1, e70⟩ := hE70
  have rb := fun w => round_any heI (n := (es.length : Int)) (by omega) (by omega) w
  obtain ⟨E1, hE1⟩ : ∃ E1, E1 = eI % (es.length : Int) := ⟨_, rfl⟩
  rw [← hE1] at rb
  have RB := Lib.hid rb
  clear hk q2 q3 rb hE1 heI
  go_enter Try.func3, Try.ntmps3
  go_wp2_with fail
  refine HMD.out.mono ?_
  rintro e w1 ⟨A1, A2, A3, c1, c2, c3, B, t, p, rfl, hM⟩
  have hbx := bl_alloc (Below.refl w1.heap.size w1) (.cells #[.slice A1 ns.length c1, .slice A2 es.length c2, .slice A3 bs.length c3] 29)
  obtain ⟨v0, hv0⟩ : ∃ v0, v0 = w1.alloc (.cells #[.slice A1 ns.length c1, .slice A2 es.length c2, .slice A3 bs.length c3] 29) := ⟨_, rfl⟩
  have HS : Hid (∀ w', Below v0.heap.size v0 w' → w'.cell? ⟨w1.heap.size, 0, none⟩ = some (.slice A1 ns.length c1) ∧ w'.cell? ⟨w1.heap.size, 1, none⟩ = some (.slice A2 es.length c2) ∧ w'.cell? ⟨w1.heap.size, 2, none⟩ = some (.slice A3 bs.length c3)) := Lib.hid fun w' hb => by subst hv0; exact GR.box hb
  have k0 : (w1.alloc (.cells #[.slice A1 ns.length c1, .slice A2 es.length c2, .slice A3 bs.length c3] 29)).cell? ⟨w1.heap.size, 0, none⟩ = some (.slice A1 ns.length c1) := cell_three_new 0 _ rfl
  have k1 : (w1.alloc (.cells #[.slice A1 ns.length c1, .slice A2 es.length c2, .slice A3 bs.length c3] 29)).cell? ⟨w1.heap.size, 1, none⟩ = some (.slice A2 es.length c2) := cell_three_new 1 _ rfl
  have k2 : (w1.alloc (.cells #[.slice A1 ns.length c1, .slice A2 es.length c2, .slice A3 bs.length c3] 29)).cell? ⟨w1.heap.size, 2, none⟩ = some (.slice A3 bs.length c3) := cell_three_new 2 _ rfl
  rw [← hv0] at hbx
  have HG := Lib.hid (hM.g.below hbx)
  have HT := Lib.hid (hM.t.below hbx)
  have HBW : Hid (Below w.heap.size w v0) := Lib.hid (hM.below.trans (hbx.mono hM.below.size))
  have HV0 := Lib.hid hv0
  have HTE : Hid (w1.heap.size < v0.heap.size) := Lib.hid (by rw [hv0, size_alloc]; omega)
  have HLO : Hid (w.heap.size ≤ B) := Lib.hid hM.lo
  clear hM hbx hv0 HMD
  go_wp2_with fail
  rw [← HV0.out]
  go_loopg [13] 3 (fun M u wr => ∃ k : Nat, M = 3 - k ∧ k ≤ 2 ∧ u = .int .i64 (k : Nat) ∧ Below v0.heap.size v0 wr)
  case atStart => exact ⟨0, rfl, Nat.zero_le _, rfl, Below.refl _ _⟩
  case round =>
    obtain ⟨k, hM, hk, rfl, hb⟩ := hrel
    have HM := Lib.hid hM
    have HB := Lib.hid hb
    obtain ⟨l0, l1, l2⟩ := HS.out _ hb
    clear hM hb k0 k1 k2
    rcases (by omega : k = 0 ∨ k = 1 ∨ k = 2) with rfl | rfl | rfl
    · have RC : Hid (ReadsB wr Ar n3 k3 rw_) := Lib.hid ((Q3.out.below HBW.out).below HB.out)
      have B0 := HB
      have r1 := fun (w' : World) (h : Below v0.heap.size v0 w') (v : Int) (hc : ReadsB w' Ar n3 k3 rw_) => to_at (HT.out.below h) hc e1 v
      have r2 := fun (w' : World) (h : Below v0.heap.size v0 w') (v : Int) (hc : ReadsB w' Ar n3 k3 rw_) => to4_at (HG.out.below h) HOK.out hc v
      have R1 := Lib.hid r1
      have R2 := Lib.hid r2
      clear r1 r2
      go_wp2_with fail
      go_loopg [15] (ns.length + 2) (fun M u wr => ∃ q : Nat, M = ns.length + 2 - q ∧ q ≤ ns.length + 2 ∧ u = .int .i64 ((q : Int) - 1) ∧ Below v0.heap.size v0 wr ∧ ReadsB wr Ar n3 k3 rw_)
      case atStart => exact ⟨0, rfl, Nat.zero_le _, rfl, B0.out, RC.out⟩
      case round =>
        obtain ⟨q, hM2, hq, rfl, hb2, hc2⟩ := hrel
        have HM2 := Lib.hid hM2
        have HB2 := Lib.hid hb2
        have HC2 := Lib.hid hc2
        obtain ⟨l0, l1, l2⟩ := HS.out _ hb2
        clear hM2 hb2 hc2
        by_cases hlt : q ≤ ns.length + 1
        · have K0 : Hid (Below v0.heap.size v0 wr.drew) := Lib.hid (bl_drew HB2.out)
          have HC3 := Lib.hid (HC2.out.below (bl_drew (Below.refl _ _)))
          have t1 := fun (w' : World) (h : Below wr.drew.heap.size wr.drew w') => R1.out w' (bl_then K0.out h) ((q : Int) - 1) (HC3.out.below h)
          have t2 := fun (w' : World) (h : Below wr.drew.heap.size wr.drew w') => R2.out w' (bl_then K0.out h) ((q : Int) - 1) (HC3.out.below h)
          obtain ⟨TT, hTT⟩ : ∃ TT, TT = toT ns es bs rw_ ((q : Int) - 1) := ⟨_, rfl⟩
          rw [← hTT] at t1 t2
          have T1 := Lib.hid t1
          have T2 := Lib.hid t2
          clear t1 t2 hTT
          go_wp2_with fail
          go_region_held3 (fun w' => w'.cell? ⟨w1.heap.size, 0, none⟩ = some (.slice A1 ns.length c1) ∧ w'.cell? ⟨w1.heap.size, 1, none⟩ = some (.slice A2 es.length c2) ∧ w'.cell? ⟨w1.heap.size, 2, none⟩ = some (.slice A3 bs.length c3))
            (first | exact HS.out _ K0.out | exact HS.out _ (bl_then K0.out K1.out) | exact HS.out _ (bl_then K0.out K2.out) | exact HS.out _ (bl_then K0.out K3.out))
            (first
              | (go_at_call 19
                 refine (T1.out _ (Below.refl _ _)).mono ?_
                 rintro r z1 ⟨D1, d1, rfl, hr, hb⟩
                 have K1 := Lib.hid hb
                 have Q1 := Lib.hid hr.1
                 clear hb hr)
              | (go_at_call 20
                 refine (T2.out _ K1.out).mono ?_
                 rintro r z2 ⟨D2, d2, rfl, hr, hb⟩
                 have K2 := Lib.hid (bl_then K1.out hb)
                 have Q2 := Lib.hid hr.1
                 have Q1' := Lib.hid (Q1.out.below hb)
                 clear hb hr)
              | (go_at_call 18
                 refine (ints_any Q1'.out Q2.out).mono ?_
                 rw [decide_eq_true rfl]
                 rintro r z3 ⟨rfl, hb⟩
                 have K3 := Lib.hid (bl_then K2.out hb)
                 clear hb))
          all_goals
            go_wp2_with fail
            go_roundg (ns.length + 2 - (q + 1))
            case measure => have := HM2.out; omega
            case rel => exact ⟨q + 1, rfl, by omega, congrArg (Value.int .i64) (by omega), bl_then K0.out K3.out, HC3.out.below K3.out⟩
        · obtain rfl : q = ns.length + 2 := by omega
          have r5 := fun (w' : World) (h : Below wr.heap.size wr w') => btw_at (HT.out.below (bl_then HB2.out h)) (HC2.out.below h) e1 eI nI
          have r6 := fun (w' : World) (h : Below wr.heap.size wr w') => btw4_at (HG.out.below (bl_then HB2.out h)) HOK.out (HC2.out.below h) eI nI
          have f1 := fun (w' : World) (h : Below wr.heap.size wr w') => from_at (HT.out.below (bl_then HB2.out h)) (HC2.out.below h) eI
          have f2 := fun (w' : World) (h : Below wr.heap.size wr w') => from4_at (HG.out.below (bl_then HB2.out h)) HOK.out (HC2.out.below h) eI
          have f3 := fun (w' : World) (h : Below wr.heap.size wr w') => from_at (HT.out.below (bl_then HB2.out h)) (HC2.out.below h) E1
          have f4 := fun (w' : World) (h : Below wr.heap.size wr w') => from4_at (HG.out.below (bl_then HB2.out h)) HOK.out (HC2.out.below h) E1
          have hbd := btw_bd HOK.out rw_ eI nI
          obtain ⟨D, hD⟩ : ∃ D, D = btwT ns es bs rw_ eI nI := ⟨_, rfl⟩
          obtain ⟨FA, hFA⟩ : ∃ FA, FA = fromT es bs rw_ eI := ⟨_, rfl⟩
          obtain ⟨FB, hFB⟩ : ∃ FB, FB = fromT es bs rw_ E1 := ⟨_, rfl⟩
          rw [← hD] at r5 r6 hbd
          rw [← hFA] at f1 f2
          rw [← hFB] at f3 f4
          have R6 := Lib.hid r6
          have F1 := Lib.hid f1
          have F2 := Lib.hid f2
          have F3 := Lib.hid f3
          have F4 := Lib.hid f4
          clear r6 f1 f2 f3 f4 hD hFA hFB hq hlt l0 l1 l2
          have HSQ : Hid (∀ w', Below wr.heap.size wr w' → w'.cell? ⟨w1.heap.size, 0, none⟩ = some (.slice A1 ns.length c1) ∧ w'.cell? ⟨w1.heap.size, 1, none⟩ = some (.slice A2 es.length c2) ∧ w'.cell? ⟨w1.heap.size, 2, none⟩ = some (.slice A3 bs.length c3)) := Lib.hid fun w' h => HS.out w' (bl_then HB2.out h)
          obtain ⟨l0, l1, l2⟩ := HSQ.out _ (Below.refl _ _)
          by_cases hd0 : 0 ≤ D
          · have e5 : max0 D = D := by unfold max0; rw [if_pos hd0]
            have e6 : decide (0 ≤ D) = true := decide_eq_true hd0
            have e7 : ¬ D < 0 := by omega
            have e8 : (if D < 0 then (0 : Int) else D) = D := if_neg e7
            have e9 : (D != D) = false := by simp
            rw [e5, e6] at r5
            have R5 := Lib.hid r5
            clear r5 e5
            go_wp2_with fail
            refine (R5.out _ (Below.refl _ _)).mono ?_
            rintro r y1 ⟨rfl, hb⟩
            have J1 := Lib.hid hb
            clear hb l0 l1 l2
            obtain ⟨l0, l1, l2⟩ := HSQ.out _ J1.out
            go_wp2_with fail
            refine (R6.out _ J1.out).mono ?_
            rintro r y2 ⟨rfl, hb⟩
            have J2 := Lib.hid (bl_then J1.out hb)
            have K0 : Hid (Below wr.heap.size wr y2.drew) := Lib.hid (bl_drew J2.out)
            clear hb l0 l1 l2
            go_wp2_with fail
            go_region_held3 (fun w' => w'.cell? ⟨w1.heap.size, 0, none⟩ = some (.slice A1 ns.length c1) ∧ w'.cell? ⟨w1.heap.size, 1, none⟩ = some (.slice A2 es.length c2) ∧ w'.cell? ⟨w1.heap.size, 2, none⟩ = some (.slice A3 bs.length c3))
              (first | exact HSQ.out _ K0.out | exact HSQ.out _ K1.out | exact HSQ.out _ K2.out | exact HSQ.out _ K3.out | exact HSQ.out _ K4.out | exact HSQ.out _ K5.out | exact HSQ.out _ K6.out)
              (first
                | (go_at_call 23
                   with_reducible refine (F1.out _ K0.out).mono ?_
                   rintro r z1 ⟨D1, d1, rfl, hr, hb⟩
                   have K1 : Hid (Below wr.heap.size wr z1) := Lib.hid (bl_then K0.out hb)
                   have Q1 := Lib.hid hr.1
                   clear hb hr)
                | (go_at_call 24
                   with_reducible refine (F2.out _ K1.out).mono ?_
                   rintro r z2 ⟨D2, d2, rfl, hr, hb⟩
                   have K2 : Hid (Below wr.heap.size wr z2) := Lib.hid (bl_then K1.out hb)
                   have Q2 := Lib.hid hr.1
                   have Q1' := Lib.hid (Q1.out.below hb)
                   clear hb hr)
                | (go_at_call 18
                   with_reducible refine (ints_any Q1'.out Q2.out).mono ?_
                   rw [decide_eq_true rfl]
                   rintro r z3 ⟨rfl, hb⟩
                   have K3 : Hid (Below wr.heap.size wr z3) := Lib.hid (bl_then K2.out hb)
                   clear hb)
                | (go_at_call 25
                   refine (RB.out _).mono ?_
                   rintro r z9 ⟨rfl, rfl⟩)
                | (go_at_call 23
                   refine (F3.out _ K3.out).mono ?_
                   rintro r z4 ⟨D3, d3, rfl, hr, hb⟩
                   have K4 : Hid (Below wr.heap.size wr z4) := Lib.hid (bl_then K3.out hb)
                   have Q3 := Lib.hid hr.1
                   clear hb hr)
                | (go_at_call 24
                   refine (F4.out _ K4.out).mono ?_
                   rintro r z5 ⟨D4, d4, rfl, hr, hb⟩
                   have K5 : Hid (Below wr.heap.size wr z5) := Lib.hid (bl_then K4.out hb)
                   have Q4 := Lib.hid hr.1
                   have Q3' := Lib.hid (Q3.out.below hb)
                   clear hb hr)
                | (go_at_call 18
                   refine (ints_any Q3'.out Q4.out).mono ?_
                   rw [decide_eq_true rfl]
                   rintro r z6 ⟨rfl, hb⟩
                   have K6 : Hid (Below wr.heap.size wr z6) := Lib.hid (bl_then K5.out hb)
                   clear hb))
            all_goals
              go_wp2_with fail
              go_roundg 2
              case measure => have := HM.out; omega
              case rel => exact ⟨1, rfl, by omega, by go_num, bl_then HB2.out K6.out⟩
          · have e5 : max0 D = 0 := by unfold max0; rw [if_neg hd0]
            have e6 : decide (0 ≤ D) = false := decide_eq_false hd0
            have e7 : D < 0 := by omega
            have e8 : (if D < 0 then (0 : Int) else D) = 0 := if_pos e7
            rw [e5, e6] at r5
            have R5 := Lib.hid r5
            clear r5 e5 hd0
            go_wp2_with fail
            refine (R5.out _ (Below.refl _ _)).mono ?_
            rintro r y1 ⟨rfl, hb⟩
            have J1 := Lib.hid hb
            clear hb l0 l1 l2
            obtain ⟨l0, l1, l2⟩ := HSQ.out _ J1.out
            go_wp2_with fail
            refine (R6.out _ J1.out).mono ?_
            rintro r y2 ⟨rfl, hb⟩
            have J2 := Lib.hid (bl_then J1.out hb)
            have K0 : Hid (Below wr.heap.size wr y2.drew) := Lib.hid (bl_drew J2.out)
            clear hb l0 l1 l2
            go_wp2_with fail
            go_region_held3 (fun w' => w'.cell? ⟨w1.heap.size, 0, none⟩ = some (.slice A1 ns.length c1) ∧ w'.cell? ⟨w1.heap.size, 1, none⟩ = some (.slice A2 es.length c2) ∧ w'.cell? ⟨w1.heap.size, 2, none⟩ = some (.slice A3 bs.length c3))
              (first | exact HSQ.out _ K0.out | exact HSQ.out _ K1.out | exact HSQ.out _ K2.out | exact HSQ.out _ K3.out | exact HSQ.out _ K4.out | exact HSQ.out _ K5.out | exact HSQ.out _ K6.out)
              (first
                | (go_at_call 23
                   with_reducible refine (F1.out _ K0.out).mono ?_
                   rintro r z1 ⟨D1, d1, rfl, hr, hb⟩
                   have K1 : Hid (Below wr.heap.size wr z1) := Lib.hid (bl_then K0.out hb)
                   have Q1 := Lib.hid hr.1
                   clear hb hr)
                | (go_at_call 24
                   with_reducible refine (F2.out _ K1.out).mono ?_
                   rintro r z2 ⟨D2, d2, rfl, hr, hb⟩
                   have K2 : Hid (Below wr.heap.size wr z2) := Lib.hid (bl_then K1.out hb)
                   have Q2 := Lib.hid hr.1
                   have Q1' := Lib.hid (Q1.out.below hb)
                   clear hb hr)
                | (go_at_call 18
                   with_reducible refine (ints_any Q1'.out Q2.out).mono ?_
                   rw [decide_eq_true rfl]
                   rintro r z3 ⟨rfl, hb⟩
                   have K3 : Hid (Below wr.heap.size wr z3) := Lib.hid (bl_then K2.out hb)
                   clear hb)
                | (go_at_call 25
                   refine (RB.out _).mono ?_
                   rintro r z9 ⟨rfl, rfl⟩)
                | (go_at_call 23
                   refine (F3.out _ K3.out).mono ?_
                   rintro r z4 ⟨D3, d3, rfl, hr, hb⟩
                   have K4 : Hid (Below wr.heap.size wr z4) := Lib.hid (bl_then K3.out hb)
                   have Q3 := Lib.hid hr.1
                   clear hb hr)
                | (go_at_call 24
                   refine (F4.out _ K4.out).mono ?_
                   rintro r z5 ⟨D4, d4, rfl, hr, hb⟩
                   have K5 : Hid (Below wr.heap.size wr z5) := Lib.hid (bl_then K4.out hb)
                   have Q4 := Lib.hid hr.1
                   have Q3' := Lib.hid (Q3.out.below hb)
                   clear hb hr)
                | (go_at_call 18
                   refine (ints_any Q3'.out Q4.out).mono ?_
                   rw [decide_eq_true rfl]
                   rintro r z6 ⟨rfl, hb⟩
                   have K6 : Hid (Below wr.heap.size wr z6) := Lib.hid (bl_then K5.out hb)
                   clear hb))
            all_goals
              go_wp2_with fail
              go_roundg 2
              case measure => have := HM.out; omega
              case rel => exact ⟨1, rfl, by omega, by go_num, bl_then HB2.out K6.out⟩
    · have hsh := shut4_any (A1 := A1) (A2 := A2) (A3 := A3) (w := wr) (N := es.length) (n1 := ns.length) (n3 := bs.length) (c1 := c1) (c2 := c2) (c3 := c3) e1 s3 ((Q2.out.below HBW.out).below HB.out) (by omega)
      obtain ⟨cl, hcl⟩ : ∃ cl, cl = shutK es.length sh := ⟨_, rfl⟩
      rw [← hcl] at hsh
      have HSH := Lib.hid hsh
      clear hsh hcl
      go_wp2_with fail
      refine HSH.out.mono ?_
      rintro r vb ⟨gs, rfl, hr, _, hb⟩
      have B0 := Lib.hid (bl_then HB.out hb)
      have RC := Lib.hid (hr.reads s3 es.length)
      clear hr hb l0 l1 l2
      have r1 := fun (w' : World) (h : Below v0.heap.size v0 w') (v : Int) (hc : ReadsB w' (some ⟨gs, 0, none⟩) es.length es.length cl) => to_at (HT.out.below h) hc e1 v
      have r2 := fun (w' : World) (h : Below v0.heap.size v0 w') (v : Int) (hc : ReadsB w' (some ⟨gs, 0, none⟩) es.length es.length cl) => to4_at (HG.out.below h) HOK.out hc v
      have R1 := Lib.hid r1
      have R2 := Lib.hid r2
      clear r1 r2
      go_wp2_with fail
      go_loopg [15] (ns.length + 2) (fun M u wr => ∃ q : Nat, M = ns.length + 2 - q ∧ q ≤ ns.length + 2 ∧ u = .int .i64 ((q : Int) - 1) ∧ Below v0.heap.size v0 wr ∧ ReadsB wr (some ⟨gs, 0, none⟩) es.length es.length cl)
      case atStart => exact ⟨0, rfl, Nat.zero_le _, rfl, B0.out, RC.out⟩
      case round =>
        obtain ⟨q, hM2, hq, rfl, hb2, hc2⟩ := hrel
        have HM2 := Lib.hid hM2
        have HB2 := Lib.hid hb2
        have HC2 := Lib.hid hc2
        obtain ⟨l0, l1, l2⟩ := HS.out _ hb2
        clear hM2 hb2 hc2
        by_cases hlt : q ≤ ns.length + 1
        · have K0 : Hid (Below v0.heap.size v0 wr.drew) := Lib.hid (bl_drew HB2.out)
          have HC3 := Lib.hid (HC2.out.below (bl_drew (Below.refl _ _)))
          have t1 := fun (w' : World) (h : Below wr.drew.heap.size wr.drew w') => R1.out w' (bl_then K0.out h) ((q : Int) - 1) (HC3.out.below h)
          have t2 := fun (w' : World) (h : Below wr.drew.heap.size wr.drew w') => R2.out w' (bl_then K0.out h) ((q : Int) - 1) (HC3.out.below h)
          obtain ⟨TT, hTT⟩ : ∃ TT, TT = toT ns es bs cl ((q : Int) - 1) := ⟨_, rfl⟩
          rw [← hTT] at t1 t2
          have T1 := Lib.hid t1
          have T2 := Lib.hid t2
          clear t1 t2 hTT
          go_wp2_with fail
          go_region_held3 (fun w' => w'.cell? ⟨w1.heap.size, 0, none⟩ = some (.slice A1 ns.length c1) ∧ w'.cell? ⟨w1.heap.size, 1, none⟩ = some (.slice A2 es.length c2) ∧ w'.cell? ⟨w1.heap.size, 2, none⟩ = some (.slice A3 bs.length c3))
            (first | exact HS.out _ K0.out | exact HS.out _ (bl_then K0.out K1.out) | exact HS.out _ (bl_then K0.out K2.out) | exact HS.out _ (bl_then K0.out K3.out))
            (first
              | (go_at_call 19
                 refine (T1.out _ (Below.refl _ _)).mono ?_
                 rintro r z1 ⟨D1, d1, rfl, hr, hb⟩
                 have K1 := Lib.hid hb
                 have Q1 := Lib.hid hr.1
                 clear hb hr)
              | (go_at_call 20
                 refine (T2.out _ K1.out).mono ?_
                 rintro r z2 ⟨D2, d2, rfl, hr, hb⟩
                 have K2 := Lib.hid (bl_then K1.out hb)
                 have Q2 := Lib.hid hr.1
                 have Q1' := Lib.hid (Q1.out.below hb)
                 clear hb hr)
              | (go_at_call 18
                 refine (ints_any Q1'.out Q2.out).mono ?_
                 rw [decide_eq_true rfl]
                 rintro r z3 ⟨rfl, hb⟩
                 have K3 := Lib.hid (bl_then K2.out hb)
                 clear hb))
          all_goals
            go_wp2_with fail
            go_roundg (ns.length + 2 - (q + 1))
            case measure => have := HM2.out; omega
            case rel => exact ⟨q + 1, rfl, by omega, congrArg (Value.int .i64) (by omega), bl_then K0.out K3.out, HC3.out.below K3.out⟩
        · obtain rfl : q = ns.length + 2 := by omega
          have r5 := fun (w' : World) (h : Below wr.heap.size wr w') => btw_at (HT.out.below (bl_then HB2.out h)) (HC2.out.below h) e1 eI nI
          have r6 := fun (w' : World) (h : Below wr.heap.size wr w') => btw4_at (HG.out.below (bl_then HB2.out h)) HOK.out (HC2.out.below h) eI nI
          have f1 := fun (w' : World) (h : Below wr.heap.size wr w') => from_at (HT.out.below (bl_then HB2.out h)) (HC2.out.below h) eI
          have f2 := fun (w' : World) (h : Below wr.heap.size wr w') => from4_at (HG.out.below (bl_then HB2.out h)) HOK.out (HC2.out.below h) eI
          have f3 := fun (w' : World) (h : Below wr.heap.size wr w') => from_at (HT.out.below (bl_then HB2.out h)) (HC2.out.below h) E1
          have f4 := fun (w' : World) (h : Below wr.heap.size wr w') => from4_at (HG.out.below (bl_then HB2.out h)) HOK.out (HC2.out.below h) E1
          have hbd := btw_bd HOK.out cl eI nI
          obtain ⟨D, hD⟩ : ∃ D, D = btwT ns es bs cl eI nI := ⟨_, rfl⟩
          obtain ⟨FA, hFA⟩ : ∃ FA, FA = fromT es bs cl eI := ⟨_, rfl⟩
          obtain ⟨FB, hFB⟩ : ∃ FB, FB = fromT es bs cl E1 := ⟨_, rfl⟩
          rw [← hD] at r5 r6 hbd
          rw [← hFA] at f1 f2
          rw [← hFB] at f3 f4
          have R6 := Lib.hid r6
          have F1 := Lib.hid f1
          have F2 := Lib.hid f2
          have F3 := Lib.hid f3
          have F4 := Lib.hid f4
          clear r6 f1 f2 f3 f4 hD hFA hFB hq hlt l0 l1 l2
          have HSQ : Hid (∀ w', Below wr.heap.size wr w' → w'.cell? ⟨w1.heap.size, 0, none⟩ = some (.slice A1 ns.length c1) ∧ w'.cell? ⟨w1.heap.size, 1, none⟩ = some (.slice A2 es.length c2) ∧ w'.cell? ⟨w1.heap.size, 2, none⟩ = some (.slice A3 bs.length c3)) := Lib.hid fun w' h => HS.out w' (bl_then HB2.out h)
          obtain ⟨l0, l1, l2⟩ := HSQ.out _ (Below.refl _ _)
          by_cases hd0 : 0 ≤ D
          · have e5 : max0 D = D := by unfold max0; rw [if_pos hd0]
            have e6 : decide (0 ≤ D) = true := decide_eq_true hd0
            have e7 : ¬ D < 0 := by omega
            have e8 : (if D < 0 then (0 : Int) else D) = D := if_neg e7
            have e9 : (D != D) = false := by simp
            rw [e5, e6] at r5
            have R5 := Lib.hid r5
            clear r5 e5
            go_wp2_with fail
            refine (R5.out _ (Below.refl _ _)).mono ?_
            rintro r y1 ⟨rfl, hb⟩
            have J1 := Lib.hid hb
            clear hb l0 l1 l2
            obtain ⟨l0, l1, l2⟩ := HSQ.out _ J1.out
            go_wp2_with fail
            refine (R6.out _ J1.out).mono ?_
            rintro r y2 ⟨rfl, hb⟩
            have J2 := Lib.hid (bl_then J1.out hb)
            have K0 : Hid (Below wr.heap.size wr y2.drew) := Lib.hid (bl_drew J2.out)
            clear hb l0 l1 l2
            go_wp2_with fail
            go_region_held3 (fun w' => w'.cell? ⟨w1.heap.size, 0, none⟩ = some (.slice A1 ns.length c1) ∧ w'.cell? ⟨w1.heap.size, 1, none⟩ = some (.slice A2 es.length c2) ∧ w'.cell? ⟨w1.heap.size, 2, none⟩ = some (.slice A3 bs.length c3))
              (first | exact HSQ.out _ K0.out | exact HSQ.out _ K1.out | exact HSQ.out _ K2.out | exact HSQ.out _ K3.out | exact HSQ.out _ K4.out | exact HSQ.out _ K5.out | exact HSQ.out _ K6.out)
              (first
                | (go_at_call 23
                   with_reducible refine (F1.out _ K0.out).mono ?_
                   rintro r z1 ⟨D1, d1, rfl, hr, hb⟩
                   have K1 : Hid (Below wr.heap.size wr z1) := Lib.hid (bl_then K0.out hb)
                   have Q1 := Lib.hid hr.1
                   clear hb hr)
                | (go_at_call 24
                   with_reducible refine (F2.out _ K1.out).mono ?_
                   rintro r z2 ⟨D2, d2, rfl, hr, hb⟩
                   have K2 : Hid (Below wr.heap.size wr z2) := Lib.hid (bl_then K1.out hb)
                   have Q2 := Lib.hid hr.1
                   have Q1' := Lib.hid (Q1.out.below hb)
                   clear hb hr)
                | (go_at_call 18
                   with_reducible refine (ints_any Q1'.out Q2.out).mono ?_
                   rw [decide_eq_true rfl]
                   rintro r z3 ⟨rfl, hb⟩
                   have K3 : Hid (Below wr.heap.size wr z3) := Lib.hid (bl_then K2.out hb)
                   clear hb)
                | (go_at_call 25
                   refine (RB.out _).mono ?_
                   rintro r z9 ⟨rfl, rfl⟩)
                | (go_at_call 23
                   refine (F3.out _ K3.out).mono ?_
                   rintro r z4 ⟨D3, d3, rfl, hr, hb⟩
                   have K4 : Hid (Below wr.heap.size wr z4) := Lib.hid (bl_then K3.out hb)
                   have Q3 := Lib.hid hr.1
                   clear hb hr)
                | (go_at_call 24
                   refine (F4.out _ K4.out).mono ?_
                   rintro r z5 ⟨D4, d4, rfl, hr, hb⟩
                   have K5 : Hid (Below wr.heap.size wr z5) := Lib.hid (bl_then K4.out hb)
                   have Q4 := Lib.hid hr.1
                   have Q3' := Lib.hid (Q3.out.below hb)
                   clear hb hr)
                | (go_at_call 18
                   refine (ints_any Q3'.out Q4.out).mono ?_
                   rw [decide_eq_true rfl]
                   rintro r z6 ⟨rfl, hb⟩
                   have K6 : Hid (Below wr.heap.size wr z6) := Lib.hid (bl_then K5.out hb)
                   clear hb))
            all_goals
              go_wp2_with fail
              go_roundg 1
              case measure => have := HM.out; omega
              case rel => exact ⟨2, rfl, by omega, by go_num, bl_then HB2.out K6.out⟩
          · have e5 : max0 D = 0 := by unfold max0; rw [if_neg hd0]
            have e6 : decide (0 ≤ D) = false := decide_eq_false hd0
            have e7 : D < 0 := by omega
            have e8 : (if D < 0 then (0 : Int) else D) = 0 := if_pos e7
            rw [e5, e6] at r5
            have R5 := Lib.hid r5
            clear r5 e5 hd0
            go_wp2_with fail
            refine (R5.out _ (Below.refl _ _)).mono ?_
            rintro r y1 ⟨rfl, hb⟩
            have J1 := Lib.hid hb
            clear hb l0 l1 l2
            obtain ⟨l0, l1, l2⟩ := HSQ.out _ J1.out
            go_wp2_with fail
            refine (R6.out _ J1.out).mono ?_
            rintro r y2 ⟨rfl, hb⟩
            have J2 := Lib.hid (bl_then J1.out hb)
            have K0 : Hid (Below wr.heap.size wr y2.drew) := Lib.hid (bl_drew J2.out)
            clear hb l0 l1 l2
            go_wp2_with fail
            go_region_held3 (fun w' => w'.cell? ⟨w1.heap.size, 0, none⟩ = some (.slice A1 ns.length c1) ∧ w'.cell? ⟨w1.heap.size, 1, none⟩ = some (.slice A2 es.length c2) ∧ w'.cell? ⟨w1.heap.size, 2, none⟩ = some (.slice A3 bs.length c3))
              (first | exact HSQ.out _ K0.out | exact HSQ.out _ K1.out | exact HSQ.out _ K2.out | exact HSQ.out _ K3.out | exact HSQ.out _ K4.out | exact HSQ.out _ K5.out | exact HSQ.out _ K6.out)
              (first
                | (go_at_call 23
                   with_reducible refine (F1.out _ K0.out).mono ?_
                   rintro r z1 ⟨D1, d1, rfl, hr, hb⟩
                   have K1 : Hid (Below wr.heap.size wr z1) := Lib.hid (bl_then K0.out hb)
                   have Q1 := Lib.hid hr.1
                   clear hb hr)
                | (go_at_call 24
                   with_reducible refine (F2.out _ K1.out).mono ?_
                   rintro r z2 ⟨D2, d2, rfl, hr, hb⟩
                   have K2 : Hid (Below wr.heap.size wr z2) := Lib.hid (bl_then K1.out hb)
                   have Q2 := Lib.hid hr.1
                   have Q1' := Lib.hid (Q1.out.below hb)
                   clear hb hr)
                | (go_at_call 18
                   with_reducible refine (ints_any Q1'.out Q2.out).mono ?_
                   rw [decide_eq_true rfl]
                   rintro r z3 ⟨rfl, hb⟩
                   have K3 : Hid (Below wr.heap.size wr z3) := Lib.hid (bl_then K2.out hb)
                   clear hb)
                | (go_at_call 25
                   refine (RB.out _).mono ?_
                   rintro r z9 ⟨rfl, rfl⟩)
                | (go_at_call 23
                   refine (F3.out _ K3.out).mono ?_
                   rintro r z4 ⟨D3, d3, rfl, hr, hb⟩
                   have K4 : Hid (Below wr.heap.size wr z4) := Lib.hid (bl_then K3.out hb)
                   have Q3 := Lib.hid hr.1
                   clear hb hr)
                | (go_at_call 24
                   refine (F4.out _ K4.out).mono ?_
                   rintro r z5 ⟨D4, d4, rfl, hr, hb⟩
                   have K5 : Hid (Below wr.heap.size wr z5) := Lib.hid (bl_then K4.out hb)
                   have Q4 := Lib.hid hr.1
                   have Q3' := Lib.hid (Q3.out.below hb)
                   clear hb hr)
                | (go_at_call 18
                   refine (ints_any Q3'.out Q4.out).mono ?_
                   rw [decide_eq_true rfl]
                   rintro r z6 ⟨rfl, hb⟩
                   have K6 : Hid (Below wr.heap.size wr z6) := Lib.hid (bl_then K5.out hb)
                   clear hb))
            all_goals
              go_wp2_with fail
              go_roundg 1
              case measure => have := HM.out; omega
              case rel => exact ⟨2, rfl, by omega, by go_num, bl_then HB2.out K6.out⟩
    · go_wp2_with (go_at_call 15; refine (awake11 _).mono ?_; rintro e w6 ⟨rfl, hb6⟩)
      go_ret
      exact ⟨rfl, HBW.out.trans ((bl_then HB.out hb6).mono HBW.out.size)⟩
theorem walk {W : World} (A : Option Addr) (n k : Nat) (xs : List Int) (hk : ReadsI W A n k xs) (A2 : Option Addr) (n2 k2 : Nat) (x2 : List Int) (q2 : ReadsI W A2 n2 k2 x2) (A3 : Option Addr) (n3 k3 : Nat) (x3 : List Bool) (q3 : ReadsB W A3 n3 k3 x3) (a : Int) (h5 : (Lit.int .i64 a).wf = true) (b : Int) (h6 : (Lit.int .i64 b).wf = true) :
    Calls Try.prog 3 #[.slice A n k, .slice A2 n2 k2, .slice A3 n3 k3, .int .i64 a, .int .i64 b] W fun e w' => e = .returned (.bool true) ∧ Below W.heap.size W w' := by
  have s1 := hk.small
  have s2 := q2.small
  have s3 := q3.small
  unfold maxLen at s1 s2 s3
  by_cases h : n ≤ 100 ∧ n2 ≤ 40 ∧ n3 ≤ 80
  · exact walk_ins A n k xs A2 n2 k2 x2 A3 n3 k3 x3 a b h6 W h.1 h.2.1 h.2.2 hk q2 q3
  · exact walk_out A n k A2 n2 k2 A3 n3 k3 a b (by omega) (by omega) (by omega) W h
set_option maxRecDepth 100000 in
theorem lifted (os : Os) (started : os.Started) (H : Type) (enc : TypeId × Value → H) :
    ReturnsInHanded {} Try.checked os 3 .any (Rows.distTellsSpec.pre6 enc Try.prog Try.f3 Rows.distTellsRow.domain false) (Rows.distTellsSpec.post enc Try.prog Try.f3 false true false false) := by
  refine returnsInHanded_of_change (C := Try.checked) own started (by kernel_rfl) Try.func3
    (ChangeSpec.witness6 (enc := enc) (C := Try.checked) false ⟨#[], #[.slice none 0 0, .slice none 0 0, .slice none 0 0, .int .i64 0, .int .i64 0], []⟩ 8 (by kernel_rfl) (by kernel_rfl) (by kernel_rfl) (by kernel_rfl)) ?_
  intro W base args ds gs before hval0 hW hcnd _
  have hval : ∀ (j : Nat) t v, Try.f3.params[j]? = some t → args[j]? = some v → Value.okWide Try.prog W .any base t v := hval0
  have hW' := hW
  obtain ⟨p, q, hA0, hV, rfl, hfz, hnd⟩ := hW
  have hA : DataW.TrodAll enc Try.prog W 0 (fun _ => true) true Try.f3.params.toList args.toList ds p := hA0
  rw [Try.params3] at hA hval
  obtain ⟨v0, vs0, d0, ds0, p0, q0, hargs, rfl, rfl, h0, r0⟩ := trodAll_cons hA
  obtain ⟨v1, vs1, d1, ds1, p1, q1, rfl, rfl, rfl, h1, r1⟩ := trodAll_cons r0
  obtain ⟨v2, vs2, d2, ds2, p2, q2, rfl, rfl, rfl, h2, r2⟩ := trodAll_cons r1
  obtain ⟨v3, vs3, d3, ds3, p3, q3, rfl, rfl, rfl, h3, r3⟩ := trodAll_cons r2
  obtain ⟨v4, vs4, d4, ds4, p4, q4, rfl, rfl, rfl, h4, r4⟩ := trodAll_cons r3
  obtain ⟨rfl, rfl, rfl⟩ := trodAll_nil r4
  obtain rfl : args = #[v0, v1, v2, v3, v4] := by cases args; simp_all
  obtain ⟨rfl, rfl⟩ := trodVars_none hV
  obtain ⟨a0, n0, c0, xs0, rfl, k0⟩ := open_reads (hval 0 22 v0 rfl rfl) h0
  obtain ⟨a1, n1, c1, xs1, rfl, k1⟩ := open_reads (hval 1 22 v1 rfl rfl) h1
  obtain ⟨a2, n2, c2, xs2, rfl, k2⟩ := open_readsB (hval 2 23 v2 rfl rfl) h2
  obtain ⟨a3, rfl, rfl, rfl, w3⟩ := open_int Try.underlying3 (hval 3 3 v3 rfl rfl) h3
  obtain ⟨a4, rfl, rfl, rfl, w4⟩ := open_int Try.underlying3 (hval 4 3 v4 rfl rfl) h4
  refine (walk a0 n0 c0 xs0 k0 a1 n1 c1 xs1 k1 a2 n2 c2 xs2 k2 a3 w3 a4 w4).mono fun e W' ⟨he, hb⟩ => ?_
  subst he
  exact ⟨_, rfl, post_law hW' hb rfl rfl rfl rfl rfl (by rw [Try.params3]; exact readable_all (by kernel_rfl))⟩
theorem over : Rows.distTellsRow.holds Try.pinned (OpenSpec.ofChange Rows.distTellsSpec) :=
  OpenClaim.holds_of_wide 3 Try.f3 rfl rfl rfl rfl rfl rfl rfl ⟨rfl, rfl, rfl, rfl, rfl⟩ rfl rfl rfl rfl rfl (by kernel_rfl) Try.func3 (by kernel_rfl)
    (of_decide_eq_true (by kernel_rfl)) (by unfold Func.isWrapper; first | (rw [if_pos (by decide +kernel)]; kernel_rfl) | (rw [if_neg (by decide +kernel)]; exact ⟨rfl, rfl⟩))
    (fun os started H enc _ => lifted os started H enc)
theorem proved : Rows.DistTellsSaid := over
#print axioms proved
end Go.Proofs.Ytjopiefojicblaa.distTells
