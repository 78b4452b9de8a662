/- BendSides: what is to the left has its cross above nothing; what goes on, its dot; the classes part the whole round: just one for each turn. For every input, without a condition. -/
import Derived.Test.YtojclogpjgeloaaBendPlain
import Derived.Test.YtojclogpjgeloaaRow
namespace Go.Proofs.Ytojclogpjgeloaa.bendSides
open Go.ChangeShapes Go.WideShapes Go.ChangeAt Go.RowKit
theorem clsI_inv (c d : Int) (h : ¬ (c = 0 ∧ d = 0)) : (clsI c d = 1 ∧ 0 < d ∧ 4 * c ≤ d ∧ -(4 * c) ≤ d) ∨ (clsI c d = 5 ∧ d < 0 ∧ 4 * c ≤ -d ∧ -(4 * c) ≤ -d) ∨ (clsI c d = 2 ∧ 0 < c ∧ 0 < d ∧ c ≤ d ∧ d < 4 * c) ∨
    (clsI c d = 6 ∧ c < 0 ∧ 0 < d ∧ -c ≤ d ∧ d < -(4 * c)) ∨ (clsI c d = 4 ∧ 0 < c ∧ d < 0 ∧ c ≤ -d ∧ -d < 4 * c) ∨ (clsI c d = 8 ∧ c < 0 ∧ d < 0 ∧ -c ≤ -d ∧ -d < -(4 * c)) ∨ (clsI c d = 3 ∧ 0 < c ∧ d < c ∧ -d < c) ∨ (clsI c d = 7 ∧ c < 0 ∧ d < -c ∧ -d < -c) := by
  by_cases h1 : 0 < d ∧ 4 * c ≤ d ∧ -(4 * c) ≤ d
  · exact .inl ⟨(cls1 h1).symm, h1⟩
  by_cases h5 : d < 0 ∧ 4 * c ≤ -d ∧ -(4 * c) ≤ -d
  · exact .inr (.inl ⟨(cls5 h5).symm, h5⟩)
  by_cases hc : 0 < c
  · by_cases h2 : 0 < d ∧ c ≤ d
    · exact .inr (.inr (.inl ⟨(cls2 (by omega)).symm, by omega⟩))
    by_cases h4 : d < 0 ∧ c ≤ -d
    · exact .inr (.inr (.inr (.inr (.inl ⟨(cls4 (by omega)).symm, by omega⟩))))
    exact .inr (.inr (.inr (.inr (.inr (.inr (.inl ⟨(cls3 (by omega)).symm, by omega⟩))))))
  · by_cases h2 : 0 < d ∧ -c ≤ d
    · exact .inr (.inr (.inr (.inl ⟨(cls6 (by omega)).symm, by omega⟩)))
    by_cases h4 : d < 0 ∧ -c ≤ -d
    · exact .inr (.inr (.inr (.inr (.inr (.inl ⟨(cls8 (by omega)).symm, by omega⟩)))))
    exact .inr (.inr (.inr (.inr (.inr (.inr (.inr ⟨(cls7 (by omega)).symm, by omega⟩))))))
set_option maxRecDepth 100000 in
set_option maxHeartbeats 2000000 in
theorem walk_out (ax ay bx by_ : Int) (w : World) (h : ¬ ((-4095 ≤ ax ∧ ax ≤ 4095) ∧ (-4095 ≤ ay ∧ ay ≤ 4095) ∧ (-4095 ≤ bx ∧ bx ≤ 4095) ∧ (-4095 ≤ by_ ∧ by_ ≤ 4095))) :
    Calls Try.prog 5 #[.int .i64 ax, .int .i64 ay, .int .i64 bx, .int .i64 by_] w fun e w' => e = .returned (.bool true) ∧ Below w.heap.size w w' := by
  go_enter Try.func5, Try.ntmps5
  go_wp2_with (go_at_call 11; refine (awake9 _).mono ?_; rintro e w1 ⟨rfl, hb1⟩)
  all_goals (go_ret; exact ⟨rfl, by assumption⟩)
set_option maxRecDepth 100000 in
set_option maxHeartbeats 4000000 in
theorem walk_zero (ax ay bx by_ : Int) (w : World) (a1 : -4095 ≤ ax) (a2 : ax ≤ 4095) (b1 : -4095 ≤ ay) (b2 : ay ≤ 4095) (c1 : -4095 ≤ bx) (c2 : bx ≤ 4095) (d1 : -4095 ≤ by_) (d2 : by_ ≤ 4095)
    (p1 : -16769025 ≤ ax * by_) (p2 : ax * by_ ≤ 16769025) (q1 : -16769025 ≤ ay * bx) (q2 : ay * bx ≤ 16769025) (r1 : -16769025 ≤ ax * bx) (r2 : ax * bx ≤ 16769025) (s1 : -16769025 ≤ ay * by_) (s2 : ay * by_ ≤ 16769025)
    (hr : classF ax ay bx by_ = 0) (hz : ((ax == 0) = true ∧ (ay == 0) = true) ∨ ((ax == 0) = false ∧ (bx == 0) = true ∧ (by_ == 0) = true) ∨ ((ax == 0) = true ∧ (ay == 0) = false ∧ (bx == 0) = true ∧ (by_ == 0) = true)) :
    Calls Try.prog 5 #[.int .i64 ax, .int .i64 ay, .int .i64 bx, .int .i64 by_] w fun e w' => e = .returned (.bool true) ∧ Below w.heap.size w w' := by
  rcases hz with ⟨h1, h2⟩ | ⟨h1, h2, h3⟩ | ⟨h1, h2, h3, h4⟩
  all_goals
    go_enter Try.func5, Try.ntmps5
    go_wp2_with (first | (go_at_call 12; refine (class_any _ _ _ _ _).mono ?_; rintro e w' ⟨rfl, rfl⟩) | (go_at_call 11; refine (awake9 _).mono ?_; rintro e w1 ⟨rfl, hb1⟩))
    go_ret
    exact ⟨rfl, by assumption⟩
def Side (c d r : Int) : Prop := (r = 1 ∧ 0 < d ∧ 4 * c ≤ d ∧ -(4 * c) ≤ d) ∨ (r = 5 ∧ d < 0 ∧ 4 * c ≤ -d ∧ -(4 * c) ≤ -d) ∨ (r = 2 ∧ 0 < c ∧ 0 < d ∧ c ≤ d ∧ d < 4 * c) ∨
    (r = 6 ∧ c < 0 ∧ 0 < d ∧ -c ≤ d ∧ d < -(4 * c)) ∨ (r = 4 ∧ 0 < c ∧ d < 0 ∧ c ≤ -d ∧ -d < 4 * c) ∨ (r = 8 ∧ c < 0 ∧ d < 0 ∧ -c ≤ -d ∧ -d < -(4 * c)) ∨ (r = 3 ∧ 0 < c ∧ d < c ∧ -d < c) ∨ (r = 7 ∧ c < 0 ∧ d < -c ∧ -d < -c)
set_option maxRecDepth 100000 in
set_option maxHeartbeats 8000000 in
theorem walk_ins (ax ay bx by_ : Int) (w : World) (a1 : -4095 ≤ ax) (a2 : ax ≤ 4095) (b1 : -4095 ≤ ay) (b2 : ay ≤ 4095) (c1 : -4095 ≤ bx) (c2 : bx ≤ 4095) (d1 : -4095 ≤ by_) (d2 : by_ ≤ 4095)
    (p1 : -16769025 ≤ ax * by_) (p2 : ax * by_ ≤ 16769025) (q1 : -16769025 ≤ ay * bx) (q2 : ay * bx ≤ 16769025) (r1 : -16769025 ≤ ax * bx) (r2 : ax * bx ≤ 16769025) (s1 : -16769025 ≤ ay * by_) (s2 : ay * by_ ≤ 16769025)
    (r : Int) (hr : classF ax ay bx by_ = r) (hs : Side (ax * by_ - ay * bx) (ax * bx + ay * by_) r) :
    Calls Try.prog 5 #[.int .i64 ax, .int .i64 ay, .int .i64 bx, .int .i64 by_] w fun e w' => e = .returned (.bool true) ∧ Below w.heap.size w w' := by
  rcases hs with ⟨rfl, h1, h2, h3⟩ | ⟨rfl, h1, h2, h3⟩ | ⟨rfl, h1, h2, h3, h4⟩ | ⟨rfl, h1, h2, h3, h4⟩ | ⟨rfl, h1, h2, h3, h4⟩ | ⟨rfl, h1, h2, h3, h4⟩ | ⟨rfl, h1, h2, h3⟩ | ⟨rfl, h1, h2, h3⟩
  all_goals
    go_enter Try.func5, Try.ntmps5
    go_wp2_with (first | (go_at_call 12; refine (class_any _ _ _ _ _).mono ?_; rintro e w' ⟨rfl, rfl⟩) | (go_at_call 11; refine (awake9 _).mono ?_; rintro e w1 ⟨rfl, hb1⟩))
    go_ret
    exact ⟨rfl, by assumption⟩
theorem walk (ax : Int) (_ : (Lit.int .i64 ax).wf = true) (ay : Int) (_ : (Lit.int .i64 ay).wf = true) (bx : Int) (_ : (Lit.int .i64 bx).wf = true) (by_ : Int) (_ : (Lit.int .i64 by_).wf = true) (w : World) :
    Calls Try.prog 5 #[.int .i64 ax, .int .i64 ay, .int .i64 bx, .int .i64 by_] w fun e w' => e = .returned (.bool true) ∧ Below w.heap.size w w' := by
  by_cases h : (-4095 ≤ ax ∧ ax ≤ 4095) ∧ (-4095 ≤ ay ∧ ay ≤ 4095) ∧ (-4095 ≤ bx ∧ bx ≤ 4095) ∧ (-4095 ≤ by_ ∧ by_ ≤ 4095)
  · obtain ⟨ha, hb, hc, hd⟩ := h
    have m1 := mul_bd ha hd
    have m2 := mul_bd hb hc
    have m3 := mul_bd ha hc
    have m4 := mul_bd hb hd
    rcases classF_in ha hb hc hd with ⟨hz, e⟩ | ⟨hz, e⟩
    · refine walk_zero ax ay bx by_ w ha.1 ha.2 hb.1 hb.2 hc.1 hc.2 hd.1 hd.2 m1.1 m1.2 m2.1 m2.2 m3.1 m3.2 m4.1 m4.2 e ?_
      simp only [beq_eq_false_iff_ne, beq_iff_eq]; omega
    · refine walk_ins ax ay bx by_ w ha.1 ha.2 hb.1 hb.2 hc.1 hc.2 hd.1 hd.2 m1.1 m1.2 m2.1 m2.2 m3.1 m3.2 m4.1 m4.2 _ e (clsI_inv _ _ (no_both hz.1 hz.2))
  · exact walk_out ax ay bx by_ w h
set_option maxRecDepth 100000 in
theorem lifted (os : Os) (started : os.Started) (H : Type) (enc : TypeId × Value → H) :
    ReturnsInHanded {} Try.checked os 5 .any (Rows.bendSidesSpec.pre6 enc Try.prog Try.f5 Rows.bendSidesRow.domain false) (Rows.bendSidesSpec.post enc Try.prog Try.f5 false true false false) := by
  refine returnsInHanded_of_change (C := Try.checked) own started (by kernel_rfl) Try.func5
    (ChangeSpec.witness6 (enc := enc) (C := Try.checked) false ⟨#[], #[.int .i64 0, .int .i64 0, .int .i64 0, .int .i64 0], []⟩ 8 (by kernel_rfl) (by kernel_rfl) (by kernel_rfl) (by kernel_rfl)) ?_
  intro W base args ds gs before hval0 hW hcnd _
  have hval : ∀ (j : Nat) t v, Try.f5.params[j]? = some t → args[j]? = some v → Value.okWide Try.prog W .any base t v := hval0
  have hW' := hW
  obtain ⟨p, q, hA0, hV, rfl, hfz, hnd⟩ := hW
  have hA : DataW.TrodAll enc Try.prog W 0 (fun _ => true) true Try.f5.params.toList args.toList ds p := hA0
  rw [Try.params5] at hA hval
  obtain ⟨v0, vs0, d0, ds0, p0, q0, hargs, rfl, rfl, h0, r0⟩ := trodAll_cons hA
  obtain ⟨v1, vs1, d1, ds1, p1, q1, rfl, rfl, rfl, h1, r1⟩ := trodAll_cons r0
  obtain ⟨v2, vs2, d2, ds2, p2, q2, rfl, rfl, rfl, h2, r2⟩ := trodAll_cons r1
  obtain ⟨v3, vs3, d3, ds3, p3, q3, rfl, rfl, rfl, h3, r3⟩ := trodAll_cons r2
  obtain ⟨rfl, rfl, rfl⟩ := trodAll_nil r3
  obtain rfl : args = #[v0, v1, v2, v3] := by cases args; simp_all
  obtain ⟨rfl, rfl⟩ := trodVars_none hV
  obtain ⟨a0, rfl, rfl, rfl, w0⟩ := open_int Try.underlying3 (hval 0 3 v0 rfl rfl) h0
  obtain ⟨a1, rfl, rfl, rfl, w1⟩ := open_int Try.underlying3 (hval 1 3 v1 rfl rfl) h1
  obtain ⟨a2, rfl, rfl, rfl, w2⟩ := open_int Try.underlying3 (hval 2 3 v2 rfl rfl) h2
  obtain ⟨a3, rfl, rfl, rfl, w3⟩ := open_int Try.underlying3 (hval 3 3 v3 rfl rfl) h3
  refine (walk a0 w0 a1 w1 a2 w2 a3 w3 W).mono fun e W' ⟨he, hb⟩ => ?_
  subst he
  exact ⟨_, rfl, post_law hW' hb rfl rfl rfl rfl rfl (by rw [Try.params5]; exact readable_all (by kernel_rfl))⟩
theorem over : Rows.bendSidesRow.holds Try.pinned (OpenSpec.ofChange Rows.bendSidesSpec) :=
  OpenClaim.holds_of_wide 5 Try.f5 rfl rfl rfl rfl rfl rfl rfl ⟨rfl, rfl, rfl, rfl, rfl⟩ rfl rfl rfl rfl rfl (by kernel_rfl) Try.func5 (by kernel_rfl)
    (of_decide_eq_true (by kernel_rfl)) (by unfold Func.isWrapper; first | (rw [if_pos (by decide +kernel)]; kernel_rfl) | (rw [if_neg (by decide +kernel)]; exact ⟨rfl, rfl⟩))
    (fun os started H enc _ => lifted os started H enc)
theorem proved : Rows.BendSidesSaid := over
#print axioms proved
end Go.Proofs.Ytojclogpjgeloaa.bendSides
