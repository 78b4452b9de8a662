/- BendBack: who comes back the way turns the other way, by as much; one's own way goes on straight; the way back is back. For every input, without a condition. -/
import Derived.Test.YtojclogpjgeloaaBendPlain
import Derived.Test.YtojclogpjgeloaaRow
namespace Go.Proofs.Ytojclogpjgeloaa.bendBack
open Go.ChangeShapes Go.WideShapes Go.ChangeAt Go.RowKit
set_option maxHeartbeats 2000000 in
theorem walk_out (ax ay bx by_ : Int) (w : World) (h : ¬ ((-4095 ≤ ax ∧ ax ≤ 4095) ∧ (-4095 ≤ ay ∧ ay ≤ 4095) ∧ (-4095 ≤ bx ∧ bx ≤ 4095) ∧ (-4095 ≤ by_ ∧ by_ ≤ 4095))) :
    Calls Try.prog 4 #[.int .i64 ax, .int .i64 ay, .int .i64 bx, .int .i64 by_] w fun e w' => e = .returned (.bool true) ∧ Below w.heap.size w w' := by
  go_enter Try.func4, Try.ntmps4
  go_wp2_with (go_at_call 11; refine (awake9 _).mono ?_; rintro e w1 ⟨rfl, hb1⟩)
  all_goals (go_ret; exact ⟨rfl, by assumption⟩)
set_option maxHeartbeats 2000000 in
theorem walk_zero (bx by_ : Int) (w : World) (c1 : -4095 ≤ bx) (c2 : bx ≤ 4095) (d1 : -4095 ≤ by_) (d2 : by_ ≤ 4095) (e1 : (classF 0 0 bx by_ == 0) = true) :
    Calls Try.prog 4 #[.int .i64 0, .int .i64 0, .int .i64 bx, .int .i64 by_] w fun e w' => e = .returned (.bool true) ∧ Below w.heap.size w w' := by
  go_enter Try.func4, Try.ntmps4
  go_wp2_with (first | (go_at_call 12; refine (class_any _ _ _ _ _).mono ?_; rintro e w' ⟨rfl, rfl⟩) | (go_at_call 11; refine (awake9 _).mono ?_; rintro e w1 ⟨rfl, hb1⟩))
  go_ret
  exact ⟨rfl, by assumption⟩
set_option maxHeartbeats 2000000 in
theorem walk_ins (ax ay bx by_ : Int) (w : World) (a1 : -4095 ≤ ax) (a2 : ax ≤ 4095) (b1 : -4095 ≤ ay) (b2 : ay ≤ 4095) (c1 : -4095 ≤ bx) (c2 : bx ≤ 4095) (d1 : -4095 ≤ by_) (d2 : by_ ≤ 4095) (hz : (ax == 0) = false ∨ ((ax == 0) = true ∧ (ay == 0) = false))
    (e1 : (classF (-bx) (-by_) (-ax) (-ay) == mirI (classF ax ay bx by_)) = true) (e2 : (classF ax ay ax ay == 1) = true) (e3 : (classF ax ay (-ax) (-ay) == 5) = true) :
    Calls Try.prog 4 #[.int .i64 ax, .int .i64 ay, .int .i64 bx, .int .i64 by_] w fun e w' => e = .returned (.bool true) ∧ Below w.heap.size w w' := by
  rcases hz with hz | ⟨hz, hz'⟩
  · go_enter Try.func4, Try.ntmps4
    go_wp2_with (first | (go_at_call 12; refine (class_any _ _ _ _ _).mono ?_; rintro e w' ⟨rfl, rfl⟩) | (go_at_call 13; refine (mirror_any _ _).mono ?_; rintro e w' ⟨rfl, rfl⟩) | (go_at_call 11; refine (awake9 _).mono ?_; rintro e w1 ⟨rfl, hb1⟩))
    go_ret
    exact ⟨rfl, by assumption⟩
  · obtain rfl : ax = 0 := by simpa using hz
    clear hz
    simp only [Int.neg_zero] at e1 e3
    go_enter Try.func4, Try.ntmps4
    go_wp2_with (first | (go_at_call 12; refine (class_any _ _ _ _ _).mono ?_; rintro e w' ⟨rfl, rfl⟩) | (go_at_call 13; refine (mirror_any _ _).mono ?_; rintro e w' ⟨rfl, rfl⟩) | (go_at_call 11; refine (awake9 _).mono ?_; rintro e w1 ⟨rfl, hb1⟩))
    go_ret
    exact ⟨rfl, by assumption⟩
theorem walk (ax : Int) (_ : (Lit.int .i64 ax).wf = true) (ay : Int) (_ : (Lit.int .i64 ay).wf = true) (bx : Int) (_ : (Lit.int .i64 bx).wf = true) (by_ : Int) (_ : (Lit.int .i64 by_).wf = true) (w : World) :
    Calls Try.prog 4 #[.int .i64 ax, .int .i64 ay, .int .i64 bx, .int .i64 by_] w fun e w' => e = .returned (.bool true) ∧ Below w.heap.size w w' := by
  by_cases h : (-4095 ≤ ax ∧ ax ≤ 4095) ∧ (-4095 ≤ ay ∧ ay ≤ 4095) ∧ (-4095 ≤ bx ∧ bx ≤ 4095) ∧ (-4095 ≤ by_ ∧ by_ ≤ 4095)
  · obtain ⟨ha, hb, hc, hd⟩ := h
    by_cases hz : ax = 0 ∧ ay = 0
    · obtain ⟨rfl, rfl⟩ := hz
      exact walk_zero bx by_ w hc.1 hc.2 hd.1 hd.2 (beq_iff_eq.2 (classF_zero ⟨rfl, rfl⟩))
    · refine walk_ins ax ay bx by_ w ha.1 ha.2 hb.1 hb.2 hc.1 hc.2 hd.1 hd.2 ?_ (beq_iff_eq.2 (classF_back ha hb hc hd)) (beq_iff_eq.2 (classF_own ha hb hz)) (beq_iff_eq.2 (classF_opp ha hb hz))
      simp only [beq_eq_false_iff_ne, beq_iff_eq]; omega
  · exact walk_out ax ay bx by_ w h
set_option maxRecDepth 100000 in
theorem lifted (os : Os) (started : os.Started) (H : Type) (enc : TypeId × Value → H) :
    ReturnsInHanded {} Try.checked os 4 .any (Rows.bendBackSpec.pre6 enc Try.prog Try.f4 Rows.bendBackRow.domain false) (Rows.bendBackSpec.post enc Try.prog Try.f4 false true false false) := by
  refine returnsInHanded_of_change (C := Try.checked) own started (by kernel_rfl) Try.func4
    (ChangeSpec.witness6 (enc := enc) (C := Try.checked) false ⟨#[], #[.int .i64 0, .int .i64 0, .int .i64 0, .int .i64 0], []⟩ 8 (by kernel_rfl) (by kernel_rfl) (by kernel_rfl) (by kernel_rfl)) ?_
  intro W base args ds gs before hval0 hW hcnd _
  have hval : ∀ (j : Nat) t v, Try.f4.params[j]? = some t → args[j]? = some v → Value.okWide Try.prog W .any base t v := hval0
  have hW' := hW
  obtain ⟨p, q, hA0, hV, rfl, hfz, hnd⟩ := hW
  have hA : DataW.TrodAll enc Try.prog W 0 (fun _ => true) true Try.f4.params.toList args.toList ds p := hA0
  rw [Try.params4] at hA hval
  obtain ⟨v0, vs0, d0, ds0, p0, q0, hargs, rfl, rfl, h0, r0⟩ := trodAll_cons hA
  obtain ⟨v1, vs1, d1, ds1, p1, q1, rfl, rfl, rfl, h1, r1⟩ := trodAll_cons r0
  obtain ⟨v2, vs2, d2, ds2, p2, q2, rfl, rfl, rfl, h2, r2⟩ := trodAll_cons r1
  obtain ⟨v3, vs3, d3, ds3, p3, q3, rfl, rfl, rfl, h3, r3⟩ := trodAll_cons r2
  obtain ⟨rfl, rfl, rfl⟩ := trodAll_nil r3
  obtain rfl : args = #[v0, v1, v2, v3] := by cases args; simp_all
  obtain ⟨rfl, rfl⟩ := trodVars_none hV
  obtain ⟨a0, rfl, rfl, rfl, w0⟩ := open_int Try.underlying3 (hval 0 3 v0 rfl rfl) h0
  obtain ⟨a1, rfl, rfl, rfl, w1⟩ := open_int Try.underlying3 (hval 1 3 v1 rfl rfl) h1
  obtain ⟨a2, rfl, rfl, rfl, w2⟩ := open_int Try.underlying3 (hval 2 3 v2 rfl rfl) h2
  obtain ⟨a3, rfl, rfl, rfl, w3⟩ := open_int Try.underlying3 (hval 3 3 v3 rfl rfl) h3
  refine (walk a0 w0 a1 w1 a2 w2 a3 w3 W).mono fun e W' ⟨he, hb⟩ => ?_
  subst he
  exact ⟨_, rfl, post_law hW' hb rfl rfl rfl rfl rfl (by rw [Try.params4]; exact readable_all (by kernel_rfl))⟩
theorem over : Rows.bendBackRow.holds Try.pinned (OpenSpec.ofChange Rows.bendBackSpec) :=
  OpenClaim.holds_of_wide 4 Try.f4 rfl rfl rfl rfl rfl rfl rfl ⟨rfl, rfl, rfl, rfl, rfl⟩ rfl rfl rfl rfl rfl (by kernel_rfl) Try.func4 (by kernel_rfl)
    (of_decide_eq_true (by kernel_rfl)) (by unfold Func.isWrapper; first | (rw [if_pos (by decide +kernel)]; kernel_rfl) | (rw [if_neg (by decide +kernel)]; exact ⟨rfl, rfl⟩))
    (fun os started H enc _ => lifted os started H enc)
theorem proved : Rows.BendBackSaid := over
#print axioms proved
end Go.Proofs.Ytojclogpjgeloaa.bendBack
