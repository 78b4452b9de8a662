/- WalkTells: of any edges of a town whether they are a walk, their weight, where it ends, and which of two is less, is as the document says. For every input, without a condition. -/
import Derived.Test.YtkkaidliocadnaaAwake8
import Derived.Test.YtkkaidliocadnaaStroll
import Derived.Test.YtkkaidliocadnaaWalk4
import Derived.Test.YtkkaidliocadnaaRound
import Derived.Test.YtkkaidliocadnaaRow
set_option linter.unusedVariables false
set_option linter.unusedSimpArgs false
namespace Go.Proofs.Ytkkaidliocadnaa.walkTells
open Go.ChangeShapes Go.WideShapes Go.ChangeAt Go.RowKit
set_option maxRecDepth 100000 in
set_option maxHeartbeats 4000000 in
theorem walk_out (A : Option Addr) (n k : Nat) (a : Int) (A2 : Option Addr) (n2 k2 : Nat) (A3 : Option Addr) (n3 k3 : Nat) (A4 : Option Addr) (n4 k4 : Nat) (s1 : n ≤ 9223372036854775807) (s2 : n2 ≤ 9223372036854775807) (s3 : n3 ≤ 9223372036854775807) (s4 : n4 ≤ 9223372036854775807) (w : World) (h : ¬ (n ≤ 100 ∧ n2 ≤ 40 ∧ n3 ≤ 40 ∧ n4 ≤ 40)) :
    Calls Try.prog 3 #[.slice A n k, .int .i64 a, .slice A2 n2 k2, .slice A3 n3 k3, .slice A4 n4 k4] w fun e w' => e = .returned (.bool true) ∧ Below w.heap.size w w' := by
  by_cases h1 : 100 < n
  · clear h
    go_enter Try.func3, Try.ntmps3
    go_wp2_with (go_at_call 11; refine (awake8 _).mono ?_; rintro e w1 ⟨rfl, hb1⟩)
    go_ret
    exact ⟨rfl, by assumption⟩
  · by_cases h2 : 40 < n2
    · clear h
      go_enter Try.func3, Try.ntmps3
      go_wp2_with (go_at_call 11; refine (awake8 _).mono ?_; rintro e w1 ⟨rfl, hb1⟩)
      go_ret
      exact ⟨rfl, by assumption⟩
    · by_cases h3 : 40 < n3
      · clear h
        go_enter Try.func3, Try.ntmps3
        go_wp2_with (go_at_call 11; refine (awake8 _).mono ?_; rintro e w1 ⟨rfl, hb1⟩)
        go_ret
        exact ⟨rfl, by assumption⟩
      · have h4 : 40 < n4 := by omega
        clear h
        go_enter Try.func3, Try.ntmps3
        go_wp2_with (go_at_call 11; refine (awake8 _).mono ?_; rintro e w1 ⟨rfl, hb1⟩)
        go_ret
        exact ⟨rfl, by assumption⟩
set_option maxRecDepth 100000 in
set_option maxHeartbeats 8000000 in
theorem walk_ins (A : Option Addr) (n k : Nat) (xs : List Int) (a : Int) (ha : (Lit.int .i64 a).wf = true) (Ae : Option Addr) (n2 k2 : Nat) (ed : List Int) (Ao : Option Addr) (n3 k3 : Nat) (os : List Int) (As : Option Addr) (n4 k4 : Nat) (st : List Int) (w : World) (h : n ≤ 100) (h2 : n2 ≤ 40) (h3 : n3 ≤ 40) (h4 : n4 ≤ 40)
    (hk : ReadsI w A n k xs) (q2 : ReadsI w Ae n2 k2 ed) (q3 : ReadsI w Ao n3 k3 os) (q4 : ReadsI w As n4 k4 st) :
    Calls Try.prog 3 #[.slice A n k, .int .i64 a, .slice Ae n2 k2, .slice Ao n3 k3, .slice As n4 k4] w fun e w' => e = .returned (.bool true) ∧ Below w.heap.size w w' := by
  have HOK := Lib.hid (town_good xs)
  have hmd := made8 hk
  have hE70 := len_townE xs
  obtain ⟨ns, hns⟩ : ∃ ns, ns = townN xs := ⟨_, rfl⟩
  obtain ⟨es, hes⟩ : ∃ es, es = townE xs := ⟨_, rfl⟩
  obtain ⟨bs, hbs⟩ : ∃ bs, bs = townB xs := ⟨_, rfl⟩
  rw [← hes] at hE70
  rw [← hns, ← hes, ← hbs] at HOK hmd
  have HMD := Lib.hid hmd
  obtain ⟨s1, s2, s3, s4⟩ := (mayB_parts HOK.out).2.1
  clear hmd hns hes hbs
  have Q2 := Lib.hid q2
  have Q3 := Lib.hid q3
  have Q4 := Lib.hid q4
  obtain ⟨e1, e70⟩ := hE70
  have rb := fun w => round_any ha (n := (es.length : Int)) (by omega) (by omega) w
  obtain ⟨E1, hE1⟩ : ∃ E1, E1 = a % (es.length : Int) := ⟨_, rfl⟩
  rw [← hE1] at rb
  have RB := Lib.hid rb
  clear hk q2 q3 q4 rb hE1 ha
  go_enter Try.func3, Try.ntmps3
  go_wp2_with fail
  refine HMD.out.mono ?_
  rintro e w1 ⟨A1, A2, A3, c1, c2, c3, B, t, p, rfl, hM⟩
  have hbx := bl_alloc (Below.refl w1.heap.size w1) (.cells #[.slice A1 ns.length c1, .slice A2 es.length c2, .slice A3 bs.length c3] 28)
  obtain ⟨v0, hv0⟩ : ∃ v0, v0 = w1.alloc (.cells #[.slice A1 ns.length c1, .slice A2 es.length c2, .slice A3 bs.length c3] 28) := ⟨_, rfl⟩
  have HS : Hid (∀ w', Below v0.heap.size v0 w' → w'.cell? ⟨w1.heap.size, 0, none⟩ = some (.slice A1 ns.length c1) ∧ w'.cell? ⟨w1.heap.size, 1, none⟩ = some (.slice A2 es.length c2) ∧ w'.cell? ⟨w1.heap.size, 2, none⟩ = some (.slice A3 bs.length c3)) := Lib.hid fun w' hb => by subst hv0; exact GR.box hb
  have k0 : (w1.alloc (.cells #[.slice A1 ns.length c1, .slice A2 es.length c2, .slice A3 bs.length c3] 28)).cell? ⟨w1.heap.size, 0, none⟩ = some (.slice A1 ns.length c1) := cell_three_new 0 _ rfl
  have k1 : (w1.alloc (.cells #[.slice A1 ns.length c1, .slice A2 es.length c2, .slice A3 bs.length c3] 28)).cell? ⟨w1.heap.size, 1, none⟩ = some (.slice A2 es.length c2) := cell_three_new 1 _ rfl
  have k2 : (w1.alloc (.cells #[.slice A1 ns.length c1, .slice A2 es.length c2, .slice A3 bs.length c3] 28)).cell? ⟨w1.heap.size, 2, none⟩ = some (.slice A3 bs.length c3) := cell_three_new 2 _ rfl
  rw [← hv0] at hbx
  have HG := Lib.hid (hM.g.below hbx)
  have HT := Lib.hid (hM.t.below hbx)
  have HBW : Hid (Below w.heap.size w v0) := Lib.hid (hM.below.trans (hbx.mono hM.below.size))
  have HV0 := Lib.hid hv0
  have HTE : Hid (w1.heap.size < v0.heap.size) := Lib.hid (by rw [hv0, size_alloc]; omega)
  have HLO : Hid (w.heap.size ≤ B) := Lib.hid hM.lo
  clear hM hbx hv0 HMD
  go_wp2_with fail
  rw [← HV0.out]
  go_loopg [13] 3 (fun M u wr => ∃ k : Nat, M = 3 - k ∧ k ≤ 2 ∧ u = .int .i64 (k : Nat) ∧ Below v0.heap.size v0 wr)
  case atStart => exact ⟨0, rfl, Nat.zero_le _, rfl, Below.refl _ _⟩
  case round =>
    obtain ⟨k, hM, hk, rfl, hb⟩ := hrel
    have HM := Lib.hid hM
    have HB := Lib.hid hb
    obtain ⟨l0, l1, l2⟩ := HS.out _ hb
    clear hM hb k0 k1 k2
    rcases (by omega : k = 0 ∨ k = 1 ∨ k = 2) with rfl | rfl | rfl
    · have RX : Hid (ReadsI wr Ae n2 k2 ed) := Lib.hid ((Q2.out.below HBW.out).below HB.out)
      have RO : Hid (ReadsI wr Ao n3 k3 os) := Lib.hid ((Q3.out.below HBW.out).below HB.out)
      have HNX : Hid (n2 ≤ 1099511627776) := Lib.hid (by omega)
      obtain ⟨vb, hvb⟩ : ∃ vb, vb = wr := ⟨_, rfl⟩
      obtain ⟨X, hX⟩ : ∃ X, X = ed := ⟨_, rfl⟩
      rw [← hvb] at HB RX RO l0 l1 l2 ⊢
      rw [← hX] at RX
      have B0 := HB
      clear hvb hX
      have r1 := fun (w' : World) (h : Below vb.heap.size vb w') => weight_at ((HT.out.below B0.out).below h) (RX.out.below h) HNX.out
      have r2 := fun (w' : World) (h : Below vb.heap.size vb w') => weight4_any ((HG.out.below B0.out).below h) HOK.out (RX.out.below h) HNX.out
      have r3 := fun (w' : World) (h : Below vb.heap.size vb w') => end_at ((HT.out.below B0.out).below h) (RX.out.below h) a
      have r4 := fun (w' : World) (h : Below vb.heap.size vb w') => end4_any ((HG.out.below B0.out).below h) (RX.out.below h) a
      have r5 := fun (w' : World) (h : Below vb.heap.size vb w') => valid_at ((HT.out.below B0.out).below h) (RX.out.below h) a
      have r6 := fun (w' : World) (h : Below vb.heap.size vb w') => walk4_any ((HG.out.below B0.out).below h) (RX.out.below h) a
      have r7 := fun (w' : World) (h : Below vb.heap.size vb w') => wcmp_any (RX.out.below h) (RO.out.below h)
      have r8 := fun (w' : World) (h : Below vb.heap.size vb w') => cmp4_any (RX.out.below h) (RO.out.below h)
      obtain ⟨wv, hwv⟩ : ∃ z, z = wgtT es X := ⟨_, rfl⟩
      obtain ⟨ov, hov⟩ : ∃ z, z = okE es X := ⟨_, rfl⟩
      obtain ⟨ev, hev⟩ : ∃ z, z = endT es bs a X := ⟨_, rfl⟩
      obtain ⟨bv, hbv⟩ : ∃ z, z = walkB es bs a X := ⟨_, rfl⟩
      obtain ⟨cv, hcv⟩ : ∃ z, z = cmpL X os := ⟨_, rfl⟩
      rw [← hwv, ← hov] at r1 r2
      rw [← hev, ← hbv] at r3 r4
      rw [← hbv] at r5 r6
      rw [← hcv] at r7 r8
      have R1 := Lib.hid r1
      have R2 := Lib.hid r2
      have R3 := Lib.hid r3
      have R4 := Lib.hid r4
      have R5 := Lib.hid r5
      have R6 := Lib.hid r6
      have R7 := Lib.hid r7
      have R8 := Lib.hid r8
      have t1 : (ov == ov) = true := by simp
      have t2 : (bv == bv) = true := by simp
      clear r1 r2 r3 r4 r5 r6 r7 r8 hwv hov hev hbv hcv
      go_wp2_with fail
      refine (R1.out _ (Below.refl _ _)).mono ?_
      rintro e y1 ⟨rfl, hb⟩
      have B1 := Lib.hid hb
      obtain ⟨l0, l1, l2⟩ := HS.out _ (bl_then B0.out hb)
      clear hb
      go_wp2_with fail
      refine (R2.out _ B1.out).mono ?_
      rintro e y2 ⟨rfl, hb⟩
      have B2 : Hid (Below vb.heap.size vb y2) := Lib.hid (bl_then B1.out hb)
      clear hb l0 l1 l2
      go_wp2_with fail
      refine (R3.out _ B2.out).mono ?_
      rintro e y3 ⟨rfl, hb⟩
      have B3 : Hid (Below vb.heap.size vb y3) := Lib.hid (bl_then B2.out hb)
      obtain ⟨l0, l1, l2⟩ := HS.out _ (bl_then B0.out B3.out)
      clear hb
      go_wp2_with fail
      refine (R4.out _ B3.out).mono ?_
      rintro e y4 ⟨rfl, hb⟩
      have B4 : Hid (Below vb.heap.size vb y4) := Lib.hid (bl_then B3.out hb)
      have K0 : Hid (Below vb.heap.size vb y4.drew) := Lib.hid (bl_drew B4.out)
      clear hb l0 l1 l2
      go_wp2_with fail
      go_region_held3 (fun w' => w'.cell? ⟨w1.heap.size, 0, none⟩ = some (.slice A1 ns.length c1) ∧ w'.cell? ⟨w1.heap.size, 1, none⟩ = some (.slice A2 es.length c2) ∧ w'.cell? ⟨w1.heap.size, 2, none⟩ = some (.slice A3 bs.length c3))
        (first | exact HS.out _ (bl_then B0.out K0.out) | exact HS.out _ (bl_then B0.out K1.out) | exact HS.out _ (bl_then B0.out K2.out) | exact HS.out _ (bl_then B0.out K4.out))
        (first
          | (go_at_call 19
             refine (R5.out _ K0.out).mono ?_
             rintro e z1 ⟨rfl, hb⟩
             have K1 : Hid (Below vb.heap.size vb z1) := Lib.hid (bl_then K0.out hb)
             clear hb)
          | (go_at_call 20
             refine (R6.out _ K1.out).mono ?_
             rintro e z2 ⟨rfl, hb⟩
             have K2 : Hid (Below vb.heap.size vb z2) := Lib.hid (bl_then K1.out hb)
             clear hb)
          | (go_at_call 21
             refine (R7.out _ K2.out).mono ?_
             rintro e z3 ⟨rfl, rfl⟩)
          | (go_at_call 22
             refine (R8.out _ K2.out).mono ?_
             rintro e z4 ⟨rfl, hb⟩
             have K4 : Hid (Below vb.heap.size vb z4) := Lib.hid (bl_then K2.out hb)
             clear hb))
      all_goals
        go_wp2_with fail
        go_roundg 2
        case measure => have := HM.out; omega
      case rel => exact ⟨1, rfl, by omega, by go_num, bl_then B0.out K4.out⟩
    · go_wp2_with fail
      refine (RB.out _).mono ?_
      rintro e y0 ⟨rfl, rfl⟩
      have hst := stroll_any (HG.out.below HB.out) (by omega) E1 ((Q4.out.below HBW.out).below HB.out) (by omega)
      obtain ⟨X, hX⟩ : ∃ X, X = strollT es bs E1 st := ⟨_, rfl⟩
      have hXl := stroll_len es bs E1 st
      have hsl := Q4.out.len
      rw [← hX] at hst hXl
      have HST := Lib.hid hst
      have HXL := Lib.hid (show X.length ≤ 40 by omega)
      clear hst hX hXl hsl
      go_wp2_with fail
      refine HST.out.mono ?_
      rintro e vb ⟨AX, cX, rfl, hr, _, hb, _⟩
      have RX := Lib.hid hr
      have B0 : Hid (Below v0.heap.size v0 vb) := Lib.hid (bl_then HB.out hb)
      have RO : Hid (ReadsI vb Ao n3 k3 os) := Lib.hid ((Q3.out.below HBW.out).below B0.out)
      have HNX : Hid (X.length ≤ 1099511627776) := Lib.hid (by have := HXL.out; omega)
      clear hr hb l0 l1 l2
      have r1 := fun (w' : World) (h : Below vb.heap.size vb w') => weight_at ((HT.out.below B0.out).below h) (RX.out.below h) HNX.out
      have r2 := fun (w' : World) (h : Below vb.heap.size vb w') => weight4_any ((HG.out.below B0.out).below h) HOK.out (RX.out.below h) HNX.out
      have r3 := fun (w' : World) (h : Below vb.heap.size vb w') => end_at ((HT.out.below B0.out).below h) (RX.out.below h) E1
      have r4 := fun (w' : World) (h : Below vb.heap.size vb w') => end4_any ((HG.out.below B0.out).below h) (RX.out.below h) E1
      have r5 := fun (w' : World) (h : Below vb.heap.size vb w') => valid_at ((HT.out.below B0.out).below h) (RX.out.below h) E1
      have r6 := fun (w' : World) (h : Below vb.heap.size vb w') => walk4_any ((HG.out.below B0.out).below h) (RX.out.below h) E1
      have r7 := fun (w' : World) (h : Below vb.heap.size vb w') => wcmp_any (RX.out.below h) (RO.out.below h)
      have r8 := fun (w' : World) (h : Below vb.heap.size vb w') => cmp4_any (RX.out.below h) (RO.out.below h)
      obtain ⟨wv, hwv⟩ : ∃ z, z = wgtT es X := ⟨_, rfl⟩
      obtain ⟨ov, hov⟩ : ∃ z, z = okE es X := ⟨_, rfl⟩
      obtain ⟨ev, hev⟩ : ∃ z, z = endT es bs E1 X := ⟨_, rfl⟩
      obtain ⟨bv, hbv⟩ : ∃ z, z = walkB es bs E1 X := ⟨_, rfl⟩
      obtain ⟨cv, hcv⟩ : ∃ z, z = cmpL X os := ⟨_, rfl⟩
      rw [← hwv, ← hov] at r1 r2
      rw [← hev, ← hbv] at r3 r4
      rw [← hbv] at r5 r6
      rw [← hcv] at r7 r8
      have R1 := Lib.hid r1
      have R2 := Lib.hid r2
      have R3 := Lib.hid r3
      have R4 := Lib.hid r4
      have R5 := Lib.hid r5
      have R6 := Lib.hid r6
      have R7 := Lib.hid r7
      have R8 := Lib.hid r8
      have t1 : (ov == ov) = true := by simp
      have t2 : (bv == bv) = true := by simp
      clear r1 r2 r3 r4 r5 r6 r7 r8 hwv hov hev hbv hcv
      go_wp2_with fail
      refine (R1.out _ (Below.refl _ _)).mono ?_
      rintro e y1 ⟨rfl, hb⟩
      have B1 := Lib.hid hb
      obtain ⟨l0, l1, l2⟩ := HS.out _ (bl_then B0.out hb)
      clear hb
      go_wp2_with fail
      refine (R2.out _ B1.out).mono ?_
      rintro e y2 ⟨rfl, hb⟩
      have B2 : Hid (Below vb.heap.size vb y2) := Lib.hid (bl_then B1.out hb)
      clear hb l0 l1 l2
      go_wp2_with fail
      refine (R3.out _ B2.out).mono ?_
      rintro e y3 ⟨rfl, hb⟩
      have B3 : Hid (Below vb.heap.size vb y3) := Lib.hid (bl_then B2.out hb)
      obtain ⟨l0, l1, l2⟩ := HS.out _ (bl_then B0.out B3.out)
      clear hb
      go_wp2_with fail
      refine (R4.out _ B3.out).mono ?_
      rintro e y4 ⟨rfl, hb⟩
      have B4 : Hid (Below vb.heap.size vb y4) := Lib.hid (bl_then B3.out hb)
      have K0 : Hid (Below vb.heap.size vb y4.drew) := Lib.hid (bl_drew B4.out)
      clear hb l0 l1 l2
      go_wp2_with fail
      go_region_held3 (fun w' => w'.cell? ⟨w1.heap.size, 0, none⟩ = some (.slice A1 ns.length c1) ∧ w'.cell? ⟨w1.heap.size, 1, none⟩ = some (.slice A2 es.length c2) ∧ w'.cell? ⟨w1.heap.size, 2, none⟩ = some (.slice A3 bs.length c3))
        (first | exact HS.out _ (bl_then B0.out K0.out) | exact HS.out _ (bl_then B0.out K1.out) | exact HS.out _ (bl_then B0.out K2.out) | exact HS.out _ (bl_then B0.out K4.out))
        (first
          | (go_at_call 19
             refine (R5.out _ K0.out).mono ?_
             rintro e z1 ⟨rfl, hb⟩
             have K1 : Hid (Below vb.heap.size vb z1) := Lib.hid (bl_then K0.out hb)
             clear hb)
          | (go_at_call 20
             refine (R6.out _ K1.out).mono ?_
             rintro e z2 ⟨rfl, hb⟩
             have K2 : Hid (Below vb.heap.size vb z2) := Lib.hid (bl_then K1.out hb)
             clear hb)
          | (go_at_call 21
             refine (R7.out _ K2.out).mono ?_
             rintro e z3 ⟨rfl, rfl⟩)
          | (go_at_call 22
             refine (R8.out _ K2.out).mono ?_
             rintro e z4 ⟨rfl, hb⟩
             have K4 : Hid (Below vb.heap.size vb z4) := Lib.hid (bl_then K2.out hb)
             clear hb))
      all_goals
        go_wp2_with fail
        go_roundg 1
        case measure => have := HM.out; omega
      case rel => exact ⟨2, rfl, by omega, by go_num, bl_then B0.out K4.out⟩
    · go_wp2_with (go_at_call 11; refine (awake8 _).mono ?_; rintro e w6 ⟨rfl, hb6⟩)
      go_ret
      exact ⟨rfl, HBW.out.trans ((bl_then HB.out hb6).mono HBW.out.size)⟩
theorem walk {W : World} (A : Option Addr) (n k : Nat) (xs : List Int) (hk : ReadsI W A n k xs) (a : Int) (h5 : (Lit.int .i64 a).wf = true) (A2 : Option Addr) (n2 k2 : Nat) (x2 : List Int) (q2 : ReadsI W A2 n2 k2 x2) (A3 : Option Addr) (n3 k3 : Nat) (x3 : List Int) (q3 : ReadsI W A3 n3 k3 x3) (A4 : Option Addr) (n4 k4 : Nat) (x4 : List Int) (q4 : ReadsI W A4 n4 k4 x4) :
    Calls Try.prog 3 #[.slice A n k, .int .i64 a, .slice A2 n2 k2, .slice A3 n3 k3, .slice A4 n4 k4] W fun e w' => e = .returned (.bool true) ∧ Below W.heap.size W w' := by
  have s1 := hk.small
  have s2 := q2.small
  have s3 := q3.small
  have s4 := q4.small
  unfold maxLen at s1 s2 s3 s4
  by_cases h : n ≤ 100 ∧ n2 ≤ 40 ∧ n3 ≤ 40 ∧ n4 ≤ 40
  · exact walk_ins A n k xs a h5 A2 n2 k2 x2 A3 n3 k3 x3 A4 n4 k4 x4 W h.1 h.2.1 h.2.2.1 h.2.2.2 hk q2 q3 q4
  · exact walk_out A n k a A2 n2 k2 A3 n3 k3 A4 n4 k4 (by omega) (by omega) (by omega) (by omega) W h
set_option maxRecDepth 100000 in
theorem lifted (os : Os) (started : os.Started) (H : Type) (enc : TypeId × Value → H) :
    ReturnsInHanded {} Try.checked os 3 .any (Rows.walkTellsSpec.pre6 enc Try.prog Try.f3 Rows.walkTellsRow.domain false) (Rows.walkTellsSpec.post enc Try.prog Try.f3 false true false false) := by
  refine returnsInHanded_of_change (C := Try.checked) own started (by kernel_rfl) Try.func3
    (ChangeSpec.witness6 (enc := enc) (C := Try.checked) false ⟨#[], #[.slice none 0 0, .int .i64 0, .slice none 0 0, .slice none 0 0, .slice none 0 0], []⟩ 8 (by kernel_rfl) (by kernel_rfl) (by kernel_rfl) (by kernel_rfl)) ?_
  intro W base args ds gs before hval0 hW hcnd _
  have hval : ∀ (j : Nat) t v, Try.f3.params[j]? = some t → args[j]? = some v → Value.okWide Try.prog W .any base t v := hval0
  have hW' := hW
  obtain ⟨p, q, hA0, hV, rfl, hfz, hnd⟩ := hW
  have hA : DataW.TrodAll enc Try.prog W 0 (fun _ => true) true Try.f3.params.toList args.toList ds p := hA0
  rw [Try.params3] at hA hval
  obtain ⟨v0, vs0, d0, ds0, p0, q0, hargs, rfl, rfl, h0, r0⟩ := trodAll_cons hA
  obtain ⟨v1, vs1, d1, ds1, p1, q1, rfl, rfl, rfl, h1, r1⟩ := trodAll_cons r0
  obtain ⟨v2, vs2, d2, ds2, p2, q2, rfl, rfl, rfl, h2, r2⟩ := trodAll_cons r1
  obtain ⟨v3, vs3, d3, ds3, p3, q3, rfl, rfl, rfl, h3, r3⟩ := trodAll_cons r2
  obtain ⟨v4, vs4, d4, ds4, p4, q4, rfl, rfl, rfl, h4, r4⟩ := trodAll_cons r3
  obtain ⟨rfl, rfl, rfl⟩ := trodAll_nil r4
  obtain rfl : args = #[v0, v1, v2, v3, v4] := by cases args; simp_all
  obtain ⟨rfl, rfl⟩ := trodVars_none hV
  obtain ⟨a0, n0, c0, xs0, rfl, k0⟩ := open_reads (hval 0 22 v0 rfl rfl) h0
  obtain ⟨a1, rfl, rfl, rfl, w1⟩ := open_int Try.underlying3 (hval 1 3 v1 rfl rfl) h1
  obtain ⟨a2, n2, c2, xs2, rfl, k2⟩ := open_reads (hval 2 22 v2 rfl rfl) h2
  obtain ⟨a3, n3, c3, xs3, rfl, k3⟩ := open_reads (hval 3 22 v3 rfl rfl) h3
  obtain ⟨a4, n4, c4, xs4, rfl, k4⟩ := open_reads (hval 4 22 v4 rfl rfl) h4
  refine (walk a0 n0 c0 xs0 k0 a1 w1 a2 n2 c2 xs2 k2 a3 n3 c3 xs3 k3 a4 n4 c4 xs4 k4).mono fun e W' ⟨he, hb⟩ => ?_
  subst he
  exact ⟨_, rfl, post_law hW' hb rfl rfl rfl rfl rfl (by rw [Try.params3]; exact readable_all (by kernel_rfl))⟩
theorem over : Rows.walkTellsRow.holds Try.pinned (OpenSpec.ofChange Rows.walkTellsSpec) :=
  OpenClaim.holds_of_wide 3 Try.f3 rfl rfl rfl rfl rfl rfl rfl ⟨rfl, rfl, rfl, rfl, rfl⟩ rfl rfl rfl rfl rfl (by kernel_rfl) Try.func3 (by kernel_rfl)
    (of_decide_eq_true (by kernel_rfl)) (by unfold Func.isWrapper; first | (rw [if_pos (by decide +kernel)]; kernel_rfl) | (rw [if_neg (by decide +kernel)]; exact ⟨rfl, rfl⟩))
    (fun os started H enc _ => lifted os started H enc)
theorem proved : Rows.WalkTellsSaid := over
#print axioms proved
end Go.Proofs.Ytkkaidliocadnaa.walkTells
