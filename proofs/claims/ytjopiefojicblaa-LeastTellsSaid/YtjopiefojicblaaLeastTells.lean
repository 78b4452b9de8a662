/- LeastTells: of any town, edge and node, and whatever is closed, the way is as the document says; by the distances it is the same. For every input, without a condition. -/
import Derived.Test.YtjopiefojicblaaAwake12
import Derived.Test.YtjopiefojicblaaWay4
import Derived.Test.YtjopiefojicblaaDistAll
import Derived.Test.YtjopiefojicblaaStill
import Derived.Test.YtjopiefojicblaaRefs
import Derived.Test.YtjopiefojicblaaBase
import Derived.BigQuiet
set_option linter.unusedVariables false
set_option linter.unusedSimpArgs false
namespace Go.Proofs.Ytjopiefojicblaa.leastTells
open Go.ChangeShapes Go.WideShapes Go.ChangeAt Go.RowKit HeapP DistP
set_option maxRecDepth 100000 in
set_option maxHeartbeats 4000000 in
theorem walk_out (A : Option Addr) (n k : Nat) (A2 : Option Addr) (n2 k2 : Nat) (a b : Int) (s1 : n ≤ 9223372036854775807) (s2 : n2 ≤ 9223372036854775807) (w : World) (h : ¬ (n ≤ 100 ∧ n2 ≤ 40)) :
    Calls Try.prog 7 #[.slice A n k, .slice A2 n2 k2, .int .i64 a, .int .i64 b] w fun e w' => e = .returned (.bool true) ∧ Below w.heap.size w w' := by
  by_cases h1 : 100 < n
  · clear h
    go_enter Try.func7, Try.ntmps7
    go_wp2_with (go_at_call 28; refine (awake12 _).mono ?_; rintro e w1 ⟨rfl, hb1⟩)
    go_ret
    exact ⟨rfl, by assumption⟩
  · have h2 : 40 < n2 := by omega
    clear h
    go_enter Try.func7, Try.ntmps7
    go_wp2_with (go_at_call 28; refine (awake12 _).mono ?_; rintro e w1 ⟨rfl, hb1⟩)
    go_ret
    exact ⟨rfl, by assumption⟩
set_option maxRecDepth 100000 in
set_option maxHeartbeats 16000000 in
theorem walk_ins (A : Option Addr) (n k : Nat) (xs : List Int) (Ah : Option Addr) (n2 k2 : Nat) (sh : List Int) (eI : Int) (heI : (Lit.int .i64 eI).wf = true) (nI : Int) (hnI : (Lit.int .i64 nI).wf = true) (w : World) (h : n ≤ 100) (h2 : n2 ≤ 40)
    (hk : ReadsI w A n k xs) (q2 : ReadsI w Ah n2 k2 sh) :
    Calls Try.prog 7 #[.slice A n k, .slice Ah n2 k2, .int .i64 eI, .int .i64 nI] w fun e w' => e = .returned (.bool true) ∧ Below w.heap.size w w' := by
  have HOK := Lib.hid (town_good xs)
  have hmd := made12 hk
  have hE70 := len_townE xs
  obtain ⟨ns, hns⟩ : ∃ ns, ns = townN xs := ⟨_, rfl⟩
  obtain ⟨es, hes⟩ : ∃ es, es = townE xs := ⟨_, rfl⟩
  obtain ⟨bs, hbs⟩ : ∃ bs, bs = townB xs := ⟨_, rfl⟩
  rw [← hes] at hE70
  rw [← hns, ← hes, ← hbs] at HOK hmd
  have HMD := Lib.hid hmd
  obtain ⟨s1, s2, s3, s4⟩ := (mayB_parts HOK.out).2.1
  clear hmd hns hes hbs
  have Q2 := Lib.hid q2
  obtain ⟨e1, e70⟩ := hE70
  have ra := fun w => round_still heI (n := (es.length : Int)) (by omega) (by omega) w
  have rb := fun w => round_still hnI (n := (ns.length : Int)) (by omega) (by omega) w
  obtain ⟨E1, hE1⟩ : ∃ E1, E1 = eI % (es.length : Int) := ⟨_, rfl⟩
  obtain ⟨N1, hN1⟩ : ∃ N1, N1 = nI % (ns.length : Int) := ⟨_, rfl⟩
  rw [← hE1] at ra
  rw [← hN1] at rb
  have RA := Lib.hid ra
  have RB := Lib.hid rb
  clear hk q2 ra rb hE1 hN1 heI hnI
  go_enter Try.func7, Try.ntmps7
  go_wp2_with fail
  refine HMD.out.mono ?_
  rintro e w1 ⟨A1, A2, A3, c1, c2, c3, B, t, p, rfl, hM⟩
  have hbx := bl_alloc (Below.refl w1.heap.size w1) (.cells #[.slice A1 ns.length c1, .slice A2 es.length c2, .slice A3 bs.length c3] 29)
  obtain ⟨v0, hv0⟩ : ∃ v0, v0 = w1.alloc (.cells #[.slice A1 ns.length c1, .slice A2 es.length c2, .slice A3 bs.length c3] 29) := ⟨_, rfl⟩
  have HS : Hid (∀ w', Below v0.heap.size v0 w' → w'.cell? ⟨w1.heap.size, 0, none⟩ = some (.slice A1 ns.length c1) ∧ w'.cell? ⟨w1.heap.size, 1, none⟩ = some (.slice A2 es.length c2) ∧ w'.cell? ⟨w1.heap.size, 2, none⟩ = some (.slice A3 bs.length c3)) := Lib.hid fun w' hb => by subst hv0; exact GR.box hb
  have k0 : (w1.alloc (.cells #[.slice A1 ns.length c1, .slice A2 es.length c2, .slice A3 bs.length c3] 29)).cell? ⟨w1.heap.size, 0, none⟩ = some (.slice A1 ns.length c1) := cell_three_new 0 _ rfl
  have k1 : (w1.alloc (.cells #[.slice A1 ns.length c1, .slice A2 es.length c2, .slice A3 bs.length c3] 29)).cell? ⟨w1.heap.size, 1, none⟩ = some (.slice A2 es.length c2) := cell_three_new 1 _ rfl
  have k2 : (w1.alloc (.cells #[.slice A1 ns.length c1, .slice A2 es.length c2, .slice A3 bs.length c3] 29)).cell? ⟨w1.heap.size, 2, none⟩ = some (.slice A3 bs.length c3) := cell_three_new 2 _ rfl
  rw [← hv0] at hbx
  have HG := Lib.hid (hM.g.below hbx)
  have HT := Lib.hid (hM.t.below hbx)
  have HBW : Hid (Below w.heap.size w v0) := Lib.hid (hM.below.trans (hbx.mono hM.below.size))
  have HV0 := Lib.hid hv0
  have HTE : Hid (w1.heap.size < v0.heap.size) := Lib.hid (by rw [hv0, size_alloc]; omega)
  have HLO : Hid (w.heap.size ≤ B) := Lib.hid hM.lo
  clear hM hbx hv0 HMD
  go_wp2_with fail
  rw [← HV0.out]
  have hsh := shut4_any (A1 := A1) (A2 := A2) (A3 := A3) (w := v0) (N := es.length) (n1 := ns.length) (n3 := bs.length) (c1 := c1) (c2 := c2) (c3 := c3) e1 s3 (Q2.out.below HBW.out) (by omega)
  obtain ⟨cl, hcl⟩ : ∃ cl, cl = shutK es.length sh := ⟨_, rfl⟩
  rw [← hcl] at hsh
  refine hsh.mono ?_
  clear hsh hcl k0 k1 k2
  rintro r vb ⟨gs, rfl, hr, _, hb⟩
  have BV := Lib.hid hb
  have RC := Lib.hid (hr.reads s3 es.length)
  clear hr hb
  go_wp2_with fail
  go_loopg [12] 3 (fun M u wr => ∃ k : Nat, M = 3 - k ∧ k ≤ 2 ∧ u = .int .i64 (k : Nat) ∧ Below vb.heap.size vb wr)
  case atStart => exact ⟨0, rfl, Nat.zero_le _, rfl, Below.refl _ _⟩
  case round =>
    obtain ⟨k, hM, hk, rfl, hb⟩ := hrel
    have HM := Lib.hid hM
    have HB := Lib.hid hb
    clear hM hb
    rcases (by omega : k = 0 ∨ k = 1 ∨ k = 2) with rfl | rfl | rfl
    · have B0 := HB
      have r1 := fun (w' : World) (hb : Below wr.heap.size wr w') => way_at (HT.out.below (bl_then BV.out (bl_then B0.out hb))) (RC.out.below (bl_then B0.out hb)) e1 eI nI
      have r2 := fun (w' : World) (hb : Below wr.heap.size wr w') => way4_at (HG.out.below (bl_then BV.out (bl_then B0.out hb))) HOK.out (RC.out.below (bl_then B0.out hb)) eI nI
      have r3 := fun (w' : World) (hb : Below wr.heap.size wr w') => to_at (HT.out.below (bl_then BV.out (bl_then B0.out hb))) (RC.out.below (bl_then B0.out hb)) e1 nI
      have r4 := fun (w' : World) (hb : Below wr.heap.size wr w') (AF : Option Addr) (cF : Nat) (hf : ReadsI w' AF (toT ns es bs cl nI).length cF (toT ns es bs cl nI)) => along_at (HT.out.below (bl_then BV.out (bl_then B0.out hb))) (RC.out.below (bl_then B0.out hb)) eI nI hf
      obtain ⟨L, hL⟩ : ∃ L, L = wayT ns es bs cl eI nI := ⟨_, rfl⟩
      obtain ⟨T, hTT⟩ : ∃ T, T = toT ns es bs cl nI := ⟨_, rfl⟩
      obtain ⟨o, ho⟩ : ∃ o, o = decide (0 ≤ btwT ns es bs cl eI nI) := ⟨_, rfl⟩
      rw [← hL, ← ho] at r1 r2 r4
      rw [← hTT] at r3 r4
      have oo : (o != o) = false := by simp
      have R1 := Lib.hid r1
      have R2 := Lib.hid r2
      have R3 := Lib.hid r3
      have R4 := Lib.hid r4
      have HSQ : Hid (∀ w', Below wr.heap.size wr w' → w'.cell? ⟨w1.heap.size, 0, none⟩ = some (.slice A1 ns.length c1) ∧ w'.cell? ⟨w1.heap.size, 1, none⟩ = some (.slice A2 es.length c2) ∧ w'.cell? ⟨w1.heap.size, 2, none⟩ = some (.slice A3 bs.length c3)) := Lib.hid fun w' h => HS.out w' (bl_then BV.out (bl_then B0.out h))
      clear r1 r2 r3 r4 hL hTT ho
      go_wp2_with fail
      refine (R1.out _ (Below.refl _ _)).mono ?_
      rintro r y1 ⟨D1, d1, rfl, hr, hb⟩
      have J1 := Lib.hid hb
      have Q1 := Lib.hid hr.1
      clear hb hr
      obtain ⟨l0, l1, l2⟩ := HSQ.out _ J1.out
      go_wp2_with fail
      refine (R2.out _ J1.out).mono ?_
      rintro r y2 ⟨D2, d2, rfl, hr, hb⟩
      have J2 := Lib.hid (bl_then J1.out hb)
      have Q2 := Lib.hid hr.1
      have Q1' := Lib.hid (Q1.out.below hb)
      clear hb hr l0 l1 l2
      go_wp2_with fail
      refine (ints_any Q1'.out Q2.out).mono ?_
      rw [decide_eq_true rfl]
      rintro r y3 ⟨rfl, hb⟩
      have J3 := Lib.hid (bl_then J2.out hb)
      have Q3 := Lib.hid (Q2.out.below hb)
      clear hb
      go_wp2_with fail
      go_roundg 2
      case measure => have := HM.out; omega
      case rel => exact ⟨1, rfl, by omega, by go_num, bl_then B0.out J3.out⟩
    · obtain ⟨l0, l1, l2⟩ := HS.out _ (bl_then BV.out HB.out)
      go_wp2_with fail
      go_quiet ((go_at_call 25; first | with_reducible refine Calls.quiet_of_same (RA.out _) | with_reducible refine Calls.quiet_of_same (RB.out _)))
      go_wp2_with fail
      generalize hV : World.drewN wr _ = vz
      have B0 : Hid (Below vb.heap.size vb vz) := Lib.hid (by rw [← hV]; exact bl_drewN HB.out _)
      clear hV l0 l1 l2
      have r1 := fun (w' : World) (hb : Below vz.heap.size vz w') => way_at (HT.out.below (bl_then BV.out (bl_then B0.out hb))) (RC.out.below (bl_then B0.out hb)) e1 E1 N1
      have r2 := fun (w' : World) (hb : Below vz.heap.size vz w') => way4_at (HG.out.below (bl_then BV.out (bl_then B0.out hb))) HOK.out (RC.out.below (bl_then B0.out hb)) E1 N1
      have r3 := fun (w' : World) (hb : Below vz.heap.size vz w') => to_at (HT.out.below (bl_then BV.out (bl_then B0.out hb))) (RC.out.below (bl_then B0.out hb)) e1 N1
      have r4 := fun (w' : World) (hb : Below vz.heap.size vz w') (AF : Option Addr) (cF : Nat) (hf : ReadsI w' AF (toT ns es bs cl N1).length cF (toT ns es bs cl N1)) => along_at (HT.out.below (bl_then BV.out (bl_then B0.out hb))) (RC.out.below (bl_then B0.out hb)) E1 N1 hf
      obtain ⟨L, hL⟩ : ∃ L, L = wayT ns es bs cl E1 N1 := ⟨_, rfl⟩
      obtain ⟨T, hTT⟩ : ∃ T, T = toT ns es bs cl N1 := ⟨_, rfl⟩
      obtain ⟨o, ho⟩ : ∃ o, o = decide (0 ≤ btwT ns es bs cl E1 N1) := ⟨_, rfl⟩
      rw [← hL, ← ho] at r1 r2 r4
      rw [← hTT] at r3 r4
      have oo : (o != o) = false := by simp
      have R1 := Lib.hid r1
      have R2 := Lib.hid r2
      have R3 := Lib.hid r3
      have R4 := Lib.hid r4
      have HSQ : Hid (∀ w', Below vz.heap.size vz w' → w'.cell? ⟨w1.heap.size, 0, none⟩ = some (.slice A1 ns.length c1) ∧ w'.cell? ⟨w1.heap.size, 1, none⟩ = some (.slice A2 es.length c2) ∧ w'.cell? ⟨w1.heap.size, 2, none⟩ = some (.slice A3 bs.length c3)) := Lib.hid fun w' h => HS.out w' (bl_then BV.out (bl_then B0.out h))
      clear r1 r2 r3 r4 hL hTT ho
      go_wp2_with fail
      refine (R1.out _ (Below.refl _ _)).mono ?_
      rintro r y1 ⟨D1, d1, rfl, hr, hb⟩
      have J1 := Lib.hid hb
      have Q1 := Lib.hid hr.1
      clear hb hr
      obtain ⟨l0, l1, l2⟩ := HSQ.out _ J1.out
      go_wp2_with fail
      refine (R2.out _ J1.out).mono ?_
      rintro r y2 ⟨D2, d2, rfl, hr, hb⟩
      have J2 := Lib.hid (bl_then J1.out hb)
      have Q2 := Lib.hid hr.1
      have Q1' := Lib.hid (Q1.out.below hb)
      clear hb hr l0 l1 l2
      go_wp2_with fail
      refine (ints_any Q1'.out Q2.out).mono ?_
      rw [decide_eq_true rfl]
      rintro r y3 ⟨rfl, hb⟩
      have J3 := Lib.hid (bl_then J2.out hb)
      have Q3 := Lib.hid (Q2.out.below hb)
      clear hb
      go_wp2_with fail
      refine (R3.out _ J3.out).mono ?_
      rintro r y4 ⟨D4, d4, rfl, hr, hb⟩
      have J4 := Lib.hid (bl_then J3.out hb)
      have Q4 := Lib.hid hr.1
      have Q4' := Lib.hid (Q3.out.below hb)
      clear hb hr
      go_wp2_with fail
      refine (R4.out _ J4.out _ _ Q4.out).mono ?_
      rintro r y5 ⟨D5, d5, rfl, hr, hb⟩
      have J5 := Lib.hid (bl_then J4.out hb)
      have Q5 := Lib.hid hr.1
      have Q5' := Lib.hid (Q4'.out.below hb)
      clear hb hr
      go_wp2_with fail
      refine (ints_any Q5.out Q5'.out).mono ?_
      rw [decide_eq_true rfl]
      rintro r y6 ⟨rfl, hb⟩
      have J6 := Lib.hid (bl_then J5.out hb)
      clear hb
      go_wp2_with fail
      go_roundg 1
      case measure => have := HM.out; omega
      case rel => exact ⟨2, rfl, by omega, by go_num, bl_then B0.out J6.out⟩
    · go_wp2_with (go_at_call 28; refine (awake12 _).mono ?_; rintro e w6 ⟨rfl, hb6⟩)
      go_ret
      exact ⟨rfl, HBW.out.trans ((bl_then BV.out (bl_then HB.out hb6)).mono HBW.out.size)⟩
theorem walk {W : World} (A : Option Addr) (n k : Nat) (xs : List Int) (hk : ReadsI W A n k xs) (A2 : Option Addr) (n2 k2 : Nat) (x2 : List Int) (q2 : ReadsI W A2 n2 k2 x2) (a : Int) (h5 : (Lit.int .i64 a).wf = true) (b : Int) (h6 : (Lit.int .i64 b).wf = true) :
    Calls Try.prog 7 #[.slice A n k, .slice A2 n2 k2, .int .i64 a, .int .i64 b] W fun e w' => e = .returned (.bool true) ∧ Below W.heap.size W w' := by
  have s1 := hk.small
  have s2 := q2.small
  unfold maxLen at s1 s2
  by_cases h : n ≤ 100 ∧ n2 ≤ 40
  · exact walk_ins A n k xs A2 n2 k2 x2 a h5 b h6 W h.1 h.2 hk q2
  · exact walk_out A n k A2 n2 k2 a b (by omega) (by omega) W h
set_option maxRecDepth 100000 in
theorem lifted (os : Os) (started : os.Started) (H : Type) (enc : TypeId × Value → H) :
    ReturnsInHanded {} Try.checked os 7 .any (Rows.leastTellsSpec.pre6 enc Try.prog Try.f7 Rows.leastTellsRow.domain false) (Rows.leastTellsSpec.post enc Try.prog Try.f7 false true false false) := by
  refine returnsInHanded_of_change (C := Try.checked) own started (by kernel_rfl) Try.func7
    (ChangeSpec.witness6 (enc := enc) (C := Try.checked) false ⟨#[], #[.slice none 0 0, .slice none 0 0, .int .i64 0, .int .i64 0], []⟩ 8 (by kernel_rfl) (by kernel_rfl) (by kernel_rfl) (by kernel_rfl)) ?_
  intro W base args ds gs before hval0 hW hcnd _
  have hval : ∀ (j : Nat) t v, Try.f7.params[j]? = some t → args[j]? = some v → Value.okWide Try.prog W .any base t v := hval0
  have hW' := hW
  obtain ⟨p, q, hA0, hV, rfl, hfz, hnd⟩ := hW
  have hA : DataW.TrodAll enc Try.prog W 0 (fun _ => true) true Try.f7.params.toList args.toList ds p := hA0
  rw [Try.params7] at hA hval
  obtain ⟨v0, vs0, d0, ds0, p0, q0, hargs, rfl, rfl, h0, r0⟩ := trodAll_cons hA
  obtain ⟨v1, vs1, d1, ds1, p1, q1, rfl, rfl, rfl, h1, r1⟩ := trodAll_cons r0
  obtain ⟨v2, vs2, d2, ds2, p2, q2, rfl, rfl, rfl, h2, r2⟩ := trodAll_cons r1
  obtain ⟨v3, vs3, d3, ds3, p3, q3, rfl, rfl, rfl, h3, r3⟩ := trodAll_cons r2
  obtain ⟨rfl, rfl, rfl⟩ := trodAll_nil r3
  obtain rfl : args = #[v0, v1, v2, v3] := by cases args; simp_all
  obtain ⟨rfl, rfl⟩ := trodVars_none hV
  obtain ⟨a0, n0, c0, xs0, rfl, k0⟩ := open_reads (hval 0 22 v0 rfl rfl) h0
  obtain ⟨a1, n1, c1, xs1, rfl, k1⟩ := open_reads (hval 1 22 v1 rfl rfl) h1
  obtain ⟨a2, rfl, rfl, rfl, w2⟩ := open_int Try.underlying3 (hval 2 3 v2 rfl rfl) h2
  obtain ⟨a3, rfl, rfl, rfl, w3⟩ := open_int Try.underlying3 (hval 3 3 v3 rfl rfl) h3
  refine (walk a0 n0 c0 xs0 k0 a1 n1 c1 xs1 k1 a2 w2 a3 w3).mono fun e W' ⟨he, hb⟩ => ?_
  subst he
  exact ⟨_, rfl, post_law hW' hb rfl rfl rfl rfl rfl (by rw [Try.params7]; exact readable_all (by kernel_rfl))⟩
theorem over : Rows.leastTellsRow.holds Try.pinned (OpenSpec.ofChange Rows.leastTellsSpec) :=
  OpenClaim.holds_of_wide 7 Try.f7 rfl rfl rfl rfl rfl rfl rfl ⟨rfl, rfl, rfl, rfl, rfl⟩ rfl rfl rfl rfl rfl (by kernel_rfl) Try.func7 (by kernel_rfl)
    (of_decide_eq_true (by kernel_rfl)) (by unfold Func.isWrapper; first | (rw [if_pos (by decide +kernel)]; kernel_rfl) | (rw [if_neg (by decide +kernel)]; exact ⟨rfl, rfl⟩))
    (fun os started H enc _ => lifted os started H enc)
theorem proved : Rows.LeastTellsSaid := over
#print axioms proved
end Go.Proofs.Ytjopiefojicblaa.leastTells
