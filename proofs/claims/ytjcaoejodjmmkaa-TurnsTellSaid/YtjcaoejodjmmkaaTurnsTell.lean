/- TurnsTell: of any edges of a town what may come behind, and ahead, and all turns, is as the document says. For every input, without a condition. -/
import Derived.Test.YtjcaoejodjmmkaaAwake7
import Derived.Test.YtjcaoejodjmmkaaArcs
import Derived.Test.YtjcaoejodjmmkaaRow
set_option linter.unusedVariables false
set_option linter.unusedSimpArgs false
namespace Go.Proofs.Ytjcaoejodjmmkaa.turnsTell
open Go.ChangeShapes Go.WideShapes Go.ChangeAt Go.RowKit
set_option maxRecDepth 100000 in
set_option maxHeartbeats 4000000 in
theorem walk_out (A : Option Addr) (n k : Nat) (a b : Int) (hs : n ≤ 9223372036854775807) (w : World) (h : 100 < n) :
    Calls Try.prog 8 #[.slice A n k, .int .i64 a, .int .i64 b] w fun e w' => e = .returned (.bool true) ∧ Below w.heap.size w w' := by
  go_enter Try.func8, Try.ntmps8
  go_wp2_with (go_at_call 31; refine (awake7 _).mono ?_; rintro e w1 ⟨rfl, hb1⟩)
  go_ret
  exact ⟨rfl, by assumption⟩
set_option maxRecDepth 100000 in
set_option maxHeartbeats 8000000 in
theorem walk_ins (A : Option Addr) (n k : Nat) (xs : List Int) (a b : Int) (w : World) (h : n ≤ 100) (hk : ReadsI w A n k xs) :
    Calls Try.prog 8 #[.slice A n k, .int .i64 a, .int .i64 b] w fun e w' => e = .returned (.bool true) ∧ Below w.heap.size w w' := by
  have HOK := Lib.hid (town_good xs)
  have hmd := made7 hk
  have hE70 := len_townE xs
  obtain ⟨ns, hns⟩ : ∃ ns, ns = townN xs := ⟨_, rfl⟩
  obtain ⟨es, hes⟩ : ∃ es, es = townE xs := ⟨_, rfl⟩
  obtain ⟨bs, hbs⟩ : ∃ bs, bs = townB xs := ⟨_, rfl⟩
  rw [← hes] at hE70
  rw [← hns, ← hes, ← hbs] at HOK hmd
  have HMD := Lib.hid hmd
  obtain ⟨s1, s2, s3, s4⟩ := (mayB_parts HOK.out).2.1
  clear hmd hns hes hbs
  clear hk
  go_enter Try.func8, Try.ntmps8
  go_wp2_with fail
  refine HMD.out.mono ?_
  rintro e w1 ⟨A1, A2, A3, c1, c2, c3, B, t, p, rfl, hM⟩
  have hbx := bl_alloc (Below.refl w1.heap.size w1) (.cells #[.slice A1 ns.length c1, .slice A2 es.length c2, .slice A3 bs.length c3] 28)
  obtain ⟨v0, hv0⟩ : ∃ v0, v0 = w1.alloc (.cells #[.slice A1 ns.length c1, .slice A2 es.length c2, .slice A3 bs.length c3] 28) := ⟨_, rfl⟩
  have HS : Hid (∀ w', Below v0.heap.size v0 w' → w'.cell? ⟨w1.heap.size, 0, none⟩ = some (.slice A1 ns.length c1) ∧ w'.cell? ⟨w1.heap.size, 1, none⟩ = some (.slice A2 es.length c2) ∧ w'.cell? ⟨w1.heap.size, 2, none⟩ = some (.slice A3 bs.length c3)) := Lib.hid fun w' hb => by subst hv0; exact GR.box hb
  have k0 : (w1.alloc (.cells #[.slice A1 ns.length c1, .slice A2 es.length c2, .slice A3 bs.length c3] 28)).cell? ⟨w1.heap.size, 0, none⟩ = some (.slice A1 ns.length c1) := cell_three_new 0 _ rfl
  have k1 : (w1.alloc (.cells #[.slice A1 ns.length c1, .slice A2 es.length c2, .slice A3 bs.length c3] 28)).cell? ⟨w1.heap.size, 1, none⟩ = some (.slice A2 es.length c2) := cell_three_new 1 _ rfl
  have k2 : (w1.alloc (.cells #[.slice A1 ns.length c1, .slice A2 es.length c2, .slice A3 bs.length c3] 28)).cell? ⟨w1.heap.size, 2, none⟩ = some (.slice A3 bs.length c3) := cell_three_new 2 _ rfl
  rw [← hv0] at hbx
  have HG := Lib.hid (hM.g.below hbx)
  have HT := Lib.hid (hM.t.below hbx)
  have HBW : Hid (Below w.heap.size w v0) := Lib.hid (hM.below.trans (hbx.mono hM.below.size))
  have HV0 := Lib.hid hv0
  have HTE : Hid (w1.heap.size < v0.heap.size) := Lib.hid (by rw [hv0, size_alloc]; omega)
  have HLO : Hid (w.heap.size ≤ B) := Lib.hid hM.lo
  clear hM hbx hv0 HMD
  go_wp2_with fail
  rw [← HV0.out]
  go_loopg [9] (es.length + 2) (fun M u wr => ∃ k : Nat, M = es.length + 2 - k ∧ k ≤ es.length + 2 ∧ u = .int .i64 ((k : Int) - 1) ∧ Below v0.heap.size v0 wr)
  case atStart => exact ⟨0, rfl, Nat.zero_le _, rfl, Below.refl _ _⟩
  case round =>
    obtain ⟨k, hM, hk, rfl, hb⟩ := hrel
    have HM := Lib.hid hM
    have HB := Lib.hid hb
    obtain ⟨l0, l1, l2⟩ := HS.out _ hb
    clear hM hb k0 k1 k2
    by_cases hlt : k ≤ es.length + 1
    · obtain ⟨q, hq⟩ : ∃ q : Int, q = (k : Int) - 1 := ⟨_, rfl⟩
      have K0 : Hid (Below v0.heap.size v0 wr.drew) := Lib.hid (bl_drew HB.out)
      have r1 := fun (w' : World) (h : Below v0.heap.size v0 w') => next_at (HT.out.below h) ((k : Int) - 1)
      have r2 := fun (w' : World) (h : Below v0.heap.size v0 w') => next4_any (HG.out.below h) s3 ((k : Int) - 1)
      have r3 := fun (w' : World) (h : Below v0.heap.size v0 w') => prev_at (HT.out.below h) ((k : Int) - 1)
      have r4 := fun (w' : World) (h : Below v0.heap.size v0 w') => prev4_any (HG.out.below h) s3 ((k : Int) - 1)
      obtain ⟨N, hN⟩ : ∃ N, N = nextT es bs ((k : Int) - 1) := ⟨_, rfl⟩
      obtain ⟨P, hP⟩ : ∃ P, P = prevT es bs ((k : Int) - 1) := ⟨_, rfl⟩
      rw [← hN] at r1 r2
      rw [← hP] at r3 r4
      have R1 := Lib.hid r1
      have R2 := Lib.hid r2
      have R3 := Lib.hid r3
      have R4 := Lib.hid r4
      clear r1 r2 r3 r4 hN hP hq
      go_wp2_with fail
      go_region_held3 (fun w' => w'.cell? ⟨w1.heap.size, 0, none⟩ = some (.slice A1 ns.length c1) ∧ w'.cell? ⟨w1.heap.size, 1, none⟩ = some (.slice A2 es.length c2) ∧ w'.cell? ⟨w1.heap.size, 2, none⟩ = some (.slice A3 bs.length c3))
        (first | exact HS.out _ K0.out | exact HS.out _ K1.out | exact HS.out _ K2.out | exact HS.out _ K3.out | exact HS.out _ K4.out | exact HS.out _ K5.out | exact HS.out _ K6.out)
        (first
          | (go_at_call 33
             refine (R1.out _ K0.out).mono ?_
             rintro e y1 ⟨D1, d1, rfl, hr, _, hb⟩
             have K1 : Hid (Below v0.heap.size v0 y1) := Lib.hid (bl_then K0.out hb)
             have Q1 := Lib.hid hr
             clear hb hr)
          | (go_at_call 34
             refine (R2.out _ K1.out).mono ?_
             rintro e y2 ⟨D2, d2, rfl, hr, _, hb⟩
             have K2 : Hid (Below v0.heap.size v0 y2) := Lib.hid (bl_then K1.out hb)
             have Q2 := Lib.hid hr
             have Q1' := Lib.hid (Q1.out.below hb)
             clear hb hr)
          | (go_at_call 23
             with_reducible refine (ints_any Q1'.out Q2.out).mono ?_
             rw [decide_eq_true rfl]
             rintro e y3 ⟨rfl, hb⟩
             have K3 : Hid (Below v0.heap.size v0 y3) := Lib.hid (bl_then K2.out hb)
             clear hb)
          | (go_at_call 35
             refine (R3.out _ K3.out).mono ?_
             rintro e y4 ⟨D3, d3, rfl, hr, _, hb⟩
             have K4 : Hid (Below v0.heap.size v0 y4) := Lib.hid (bl_then K3.out hb)
             have Q3 := Lib.hid hr
             clear hb hr)
          | (go_at_call 36
             refine (R4.out _ K4.out).mono ?_
             rintro e y5 ⟨D4, d4, rfl, hr, _, hb⟩
             have K5 : Hid (Below v0.heap.size v0 y5) := Lib.hid (bl_then K4.out hb)
             have Q4 := Lib.hid hr
             have Q3' := Lib.hid (Q3.out.below hb)
             clear hb hr)
          | (go_at_call 23
             with_reducible refine (ints_any Q3'.out Q4.out).mono ?_
             rw [decide_eq_true rfl]
             rintro e y6 ⟨rfl, hb⟩
             have K6 : Hid (Below v0.heap.size v0 y6) := Lib.hid (bl_then K5.out hb)
             clear hb))
      all_goals
        go_wp2_with fail
        go_roundg (es.length + 2 - (k + 1))
        case measure => have := HM.out; omega
        case rel => exact ⟨k + 1, rfl, by omega, congrArg (Value.int .i64) (by omega), K6.out⟩
    · have hkn : k = es.length + 2 := by omega
      subst hkn
      clear hlt hk
      have K0 : Hid (Below v0.heap.size v0 wr.drew) := Lib.hid (bl_drew HB.out)
      have r1 := fun (w' : World) (h : Below v0.heap.size v0 w') => may_at (HT.out.below h) a b
      have r2 := fun (w' : World) (h : Below v0.heap.size v0 w') => turn4_any (HG.out.below h) a b
      have r3 := fun (w' : World) (h : Below v0.heap.size v0 w') => arcs_at (HT.out.below h)
      have r4 := fun (w' : World) (h : Below v0.heap.size v0 w') => arcs4_any (HG.out.below h) s3
      obtain ⟨tv, htv⟩ : ∃ tv, tv = turnB es bs a b := ⟨_, rfl⟩
      have hN : (arcsT es bs).length ≤ 1099511627776 := Nat.le_trans (arcsN_small s3 bs s3) (by omega)
      obtain ⟨N, hNN⟩ : ∃ N, N = arcsT es bs := ⟨_, rfl⟩
      rw [← htv] at r1 r2
      rw [← hNN] at r3 r4 hN
      have R1 := Lib.hid r1
      have R2 := Lib.hid r2
      have R3 := Lib.hid r3
      have R4 := Lib.hid r4
      have htt : (tv == tv) = true := by simp
      clear r1 r2 r3 r4 hNN htv
      go_wp2_with fail
      go_region_held3 (fun w' => w'.cell? ⟨w1.heap.size, 0, none⟩ = some (.slice A1 ns.length c1) ∧ w'.cell? ⟨w1.heap.size, 1, none⟩ = some (.slice A2 es.length c2) ∧ w'.cell? ⟨w1.heap.size, 2, none⟩ = some (.slice A3 bs.length c3))
        (first | exact HS.out _ K0.out | exact HS.out _ K1.out | exact HS.out _ K2.out | exact HS.out _ K3.out | exact HS.out _ K4.out | exact HS.out _ K5.out | exact HS.out _ K6.out)
        (first
          | (go_at_call 37
             refine (R1.out _ K0.out).mono ?_
             rintro e y1 ⟨rfl, hb⟩
             have K1 : Hid (Below v0.heap.size v0 y1) := Lib.hid (bl_then K0.out hb)
             clear hb)
          | (go_at_call 38
             refine (R2.out _ K1.out).mono ?_
             rintro e y2 ⟨rfl, hb⟩
             have K2 : Hid (Below v0.heap.size v0 y2) := Lib.hid (bl_then K1.out hb)
             clear hb)
          | (go_at_call 40
             refine (R3.out _ K2.out).mono ?_
             rintro e y3 ⟨D3, d3, rfl, hr, hb⟩
             have K3 : Hid (Below v0.heap.size v0 y3) := Lib.hid (bl_then K2.out hb)
             have Q3 := Lib.hid hr
             clear hb hr)
          | (go_at_call 41
             refine (R4.out _ K3.out).mono ?_
             rintro e y4 ⟨D4, d4, rfl, hr, _, hb⟩
             have K4 : Hid (Below v0.heap.size v0 y4) := Lib.hid (bl_then K3.out hb)
             have Q4 := Lib.hid hr
             have Q3' := Lib.hid (Q3.out.below hb)
             clear hb hr)
          | (go_at_call 39
             refine (arcs_same Q3'.out Q4.out hN).mono ?_
             rintro e y5 ⟨rfl, hb⟩
             have K5 : Hid (Below v0.heap.size v0 y5) := Lib.hid (bl_then K4.out hb)
             clear hb)
          | (go_at_call 31
             refine (awake7 _).mono ?_
             rintro e y6 ⟨rfl, hb⟩
             have K6 : Hid (Below v0.heap.size v0 y6) := Lib.hid (bl_then K5.out hb)
             clear hb))
      all_goals
        go_wp2_with fail
        go_ret
        exact ⟨rfl, HBW.out.trans (K6.out.mono HBW.out.size)⟩
theorem walk {W : World} (A : Option Addr) (n k : Nat) (xs : List Int) (hk : ReadsI W A n k xs) (a : Int) (h5 : (Lit.int .i64 a).wf = true) (b : Int) (h6 : (Lit.int .i64 b).wf = true) :
    Calls Try.prog 8 #[.slice A n k, .int .i64 a, .int .i64 b] W fun e w' => e = .returned (.bool true) ∧ Below W.heap.size W w' := by
  by_cases h : 100 < n
  · have s1 := hk.small
    unfold maxLen at s1
    exact walk_out A n k a b (by omega) W h
  · exact walk_ins A n k xs a b W (by omega) hk
set_option maxRecDepth 100000 in
theorem lifted (os : Os) (started : os.Started) (H : Type) (enc : TypeId × Value → H) :
    ReturnsInHanded {} Try.checked os 8 .any (Rows.turnsTellSpec.pre6 enc Try.prog Try.f8 Rows.turnsTellRow.domain false) (Rows.turnsTellSpec.post enc Try.prog Try.f8 false true false false) := by
  refine returnsInHanded_of_change (C := Try.checked) own started (by kernel_rfl) Try.func8
    (ChangeSpec.witness6 (enc := enc) (C := Try.checked) false ⟨#[], #[.slice none 0 0, .int .i64 0, .int .i64 0], []⟩ 8 (by kernel_rfl) (by kernel_rfl) (by kernel_rfl) (by kernel_rfl)) ?_
  intro W base args ds gs before hval0 hW hcnd _
  have hval : ∀ (j : Nat) t v, Try.f8.params[j]? = some t → args[j]? = some v → Value.okWide Try.prog W .any base t v := hval0
  have hW' := hW
  obtain ⟨p, q, hA0, hV, rfl, hfz, hnd⟩ := hW
  have hA : DataW.TrodAll enc Try.prog W 0 (fun _ => true) true Try.f8.params.toList args.toList ds p := hA0
  rw [Try.params8] at hA hval
  obtain ⟨v0, vs0, d0, ds0, p0, q0, hargs, rfl, rfl, h0, r0⟩ := trodAll_cons hA
  obtain ⟨v1, vs1, d1, ds1, p1, q1, rfl, rfl, rfl, h1, r1⟩ := trodAll_cons r0
  obtain ⟨v2, vs2, d2, ds2, p2, q2, rfl, rfl, rfl, h2, r2⟩ := trodAll_cons r1
  obtain ⟨rfl, rfl, rfl⟩ := trodAll_nil r2
  obtain rfl : args = #[v0, v1, v2] := by cases args; simp_all
  obtain ⟨rfl, rfl⟩ := trodVars_none hV
  obtain ⟨a0, n0, c0, xs0, rfl, k0⟩ := open_reads (hval 0 22 v0 rfl rfl) h0
  obtain ⟨a1, rfl, rfl, rfl, w1⟩ := open_int Try.underlying3 (hval 1 3 v1 rfl rfl) h1
  obtain ⟨a2, rfl, rfl, rfl, w2⟩ := open_int Try.underlying3 (hval 2 3 v2 rfl rfl) h2
  refine (walk a0 n0 c0 xs0 k0 a1 w1 a2 w2).mono fun e W' ⟨he, hb⟩ => ?_
  subst he
  exact ⟨_, rfl, post_law hW' hb rfl rfl rfl rfl rfl (by rw [Try.params8]; exact readable_all (by kernel_rfl))⟩
theorem over : Rows.turnsTellRow.holds Try.pinned (OpenSpec.ofChange Rows.turnsTellSpec) :=
  OpenClaim.holds_of_wide 8 Try.f8 rfl rfl rfl rfl rfl rfl rfl ⟨rfl, rfl, rfl, rfl, rfl⟩ rfl rfl rfl rfl rfl (by kernel_rfl) Try.func8 (by kernel_rfl)
    (of_decide_eq_true (by kernel_rfl)) (by unfold Func.isWrapper; first | (rw [if_pos (by decide +kernel)]; kernel_rfl) | (rw [if_neg (by decide +kernel)]; exact ⟨rfl, rfl⟩))
    (fun os started H enc _ => lifted os started H enc)
theorem proved : Rows.TurnsTellSaid := over
#print axioms proved
end Go.Proofs.Ytjcaoejodjmmkaa.turnsTell
