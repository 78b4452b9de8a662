/- BendMirrors: mirrored ways turn the other way; turned by a quarter, both, they turn alike; so many times as long it is the same turn. For every input, without a condition. -/
import Derived.Test.YtojclogpjgeloaaBendPlain
import Derived.Test.YtojclogpjgeloaaRow
namespace Go.Proofs.Ytojclogpjgeloaa.bendMirrors
open Go.ChangeShapes Go.WideShapes Go.ChangeAt Go.RowKit
set_option maxHeartbeats 2000000 in
theorem walk_out (ax ay bx by_ k : Int) (w : World) (h : ¬ ((1 ≤ k ∧ k ≤ 9) ∧ (-400 ≤ ax ∧ ax ≤ 400) ∧ (-400 ≤ ay ∧ ay ≤ 400) ∧ (-400 ≤ bx ∧ bx ≤ 400) ∧ (-400 ≤ by_ ∧ by_ ≤ 400))) :
    Calls Try.prog 3 #[.int .i64 ax, .int .i64 ay, .int .i64 bx, .int .i64 by_, .int .i64 k] w fun e w' => e = .returned (.bool true) ∧ Below w.heap.size w w' := by
  go_enter Try.func3, Try.ntmps3
  go_wp2_with (go_at_call 11; refine (awake9 _).mono ?_; rintro e w1 ⟨rfl, hb1⟩)
  all_goals (go_ret; exact ⟨rfl, by assumption⟩)
set_option maxHeartbeats 2000000 in
theorem walk_ins (ax ay bx by_ k : Int) (w : World) (hk1 : 1 ≤ k) (hk2 : k ≤ 9) (a1 : -400 ≤ ax) (a2 : ax ≤ 400) (b1 : -400 ≤ ay) (b2 : ay ≤ 400) (c1 : -400 ≤ bx) (c2 : bx ≤ 400) (d1 : -400 ≤ by_) (d2 : by_ ≤ 400)
    (p1 : -3600 ≤ k * ax) (p2 : k * ax ≤ 3600) (q1 : -3600 ≤ k * ay) (q2 : k * ay ≤ 3600) (r1 : -3600 ≤ k * bx) (r2 : k * bx ≤ 3600) (s1 : -3600 ≤ k * by_) (s2 : k * by_ ≤ 3600)
    (e1 : (classF ax (-ay) bx (-by_) == mirI (classF ax ay bx by_)) = true) (e2 : (classF (-ay) ax (-by_) bx == classF ax ay bx by_) = true) (e3 : (classF (k * ax) (k * ay) bx by_ == classF ax ay bx by_) = true)
    (e4 : (classF ax ay (k * bx) (k * by_) == classF ax ay bx by_) = true) (e5 : (mirI (mirI (classF ax ay bx by_)) == classF ax ay bx by_) = true) :
    Calls Try.prog 3 #[.int .i64 ax, .int .i64 ay, .int .i64 bx, .int .i64 by_, .int .i64 k] w fun e w' => e = .returned (.bool true) ∧ Below w.heap.size w w' := by
  go_enter Try.func3, Try.ntmps3
  go_wp2_with (first | (go_at_call 12; refine (class_any _ _ _ _ _).mono ?_; rintro e w' ⟨rfl, rfl⟩) | (go_at_call 13; refine (mirror_any _ _).mono ?_; rintro e w' ⟨rfl, rfl⟩) | (go_at_call 11; refine (awake9 _).mono ?_; rintro e w1 ⟨rfl, hb1⟩))
  go_ret
  exact ⟨rfl, by assumption⟩
theorem walk (ax : Int) (_ : (Lit.int .i64 ax).wf = true) (ay : Int) (_ : (Lit.int .i64 ay).wf = true) (bx : Int) (_ : (Lit.int .i64 bx).wf = true) (by_ : Int) (_ : (Lit.int .i64 by_).wf = true) (k : Int) (_ : (Lit.int .i64 k).wf = true) (w : World) :
    Calls Try.prog 3 #[.int .i64 ax, .int .i64 ay, .int .i64 bx, .int .i64 by_, .int .i64 k] w fun e w' => e = .returned (.bool true) ∧ Below w.heap.size w w' := by
  by_cases h : (1 ≤ k ∧ k ≤ 9) ∧ (-400 ≤ ax ∧ ax ≤ 400) ∧ (-400 ≤ ay ∧ ay ≤ 400) ∧ (-400 ≤ bx ∧ bx ≤ 400) ∧ (-400 ≤ by_ ∧ by_ ≤ 400)
  · obtain ⟨hk, ha, hb, hc, hd⟩ := h
    have m1 := mul_in hk ha
    have m2 := mul_in hk hb
    have m3 := mul_in hk hc
    have m4 := mul_in hk hd
    exact walk_ins ax ay bx by_ k w hk.1 hk.2 ha.1 ha.2 hb.1 hb.2 hc.1 hc.2 hd.1 hd.2 m1.1 m1.2 m2.1 m2.2 m3.1 m3.2 m4.1 m4.2
      (beq_iff_eq.2 (classF_mirror (by omega) (by omega) (by omega) (by omega))) (beq_iff_eq.2 (classF_quarter (by omega) (by omega) (by omega) (by omega))) (beq_iff_eq.2 (classF_long hk ha hb hc hd)) (beq_iff_eq.2 (classF_long2 hk ha hb hc hd))
      (beq_iff_eq.2 (classF_mir2 (by omega) (by omega) (by omega) (by omega)))
  · exact walk_out ax ay bx by_ k w h

set_option maxRecDepth 100000 in
theorem lifted (os : Os) (started : os.Started) (H : Type) (enc : TypeId × Value → H) :
    ReturnsInHanded {} Try.checked os 3 .any (Rows.bendMirrorsSpec.pre6 enc Try.prog Try.f3 Rows.bendMirrorsRow.domain false) (Rows.bendMirrorsSpec.post enc Try.prog Try.f3 false true false false) := by
  refine returnsInHanded_of_change (C := Try.checked) own started (by kernel_rfl) Try.func3
    (ChangeSpec.witness6 (enc := enc) (C := Try.checked) false ⟨#[], #[.int .i64 0, .int .i64 0, .int .i64 0, .int .i64 0, .int .i64 0], []⟩ 8 (by kernel_rfl) (by kernel_rfl) (by kernel_rfl) (by kernel_rfl)) ?_
  intro W base args ds gs before hval0 hW hcnd _
  have hval : ∀ (j : Nat) t v, Try.f3.params[j]? = some t → args[j]? = some v → Value.okWide Try.prog W .any base t v := hval0
  have hW' := hW
  obtain ⟨p, q, hA0, hV, rfl, hfz, hnd⟩ := hW
  have hA : DataW.TrodAll enc Try.prog W 0 (fun _ => true) true Try.f3.params.toList args.toList ds p := hA0
  rw [Try.params3] at hA hval
  obtain ⟨v0, vs0, d0, ds0, p0, q0, hargs, rfl, rfl, h0, r0⟩ := trodAll_cons hA
  obtain ⟨v1, vs1, d1, ds1, p1, q1, rfl, rfl, rfl, h1, r1⟩ := trodAll_cons r0
  obtain ⟨v2, vs2, d2, ds2, p2, q2, rfl, rfl, rfl, h2, r2⟩ := trodAll_cons r1
  obtain ⟨v3, vs3, d3, ds3, p3, q3, rfl, rfl, rfl, h3, r3⟩ := trodAll_cons r2
  obtain ⟨v4, vs4, d4, ds4, p4, q4, rfl, rfl, rfl, h4, r4⟩ := trodAll_cons r3
  obtain ⟨rfl, rfl, rfl⟩ := trodAll_nil r4
  obtain rfl : args = #[v0, v1, v2, v3, v4] := by cases args; simp_all
  obtain ⟨rfl, rfl⟩ := trodVars_none hV
  obtain ⟨a0, rfl, rfl, rfl, w0⟩ := open_int Try.underlying3 (hval 0 3 v0 rfl rfl) h0
  obtain ⟨a1, rfl, rfl, rfl, w1⟩ := open_int Try.underlying3 (hval 1 3 v1 rfl rfl) h1
  obtain ⟨a2, rfl, rfl, rfl, w2⟩ := open_int Try.underlying3 (hval 2 3 v2 rfl rfl) h2
  obtain ⟨a3, rfl, rfl, rfl, w3⟩ := open_int Try.underlying3 (hval 3 3 v3 rfl rfl) h3
  obtain ⟨a4, rfl, rfl, rfl, w4⟩ := open_int Try.underlying3 (hval 4 3 v4 rfl rfl) h4
  refine (walk a0 w0 a1 w1 a2 w2 a3 w3 a4 w4 W).mono fun e W' ⟨he, hb⟩ => ?_
  subst he
  exact ⟨_, rfl, post_law hW' hb rfl rfl rfl rfl rfl (by rw [Try.params3]; exact readable_all (by kernel_rfl))⟩
theorem over : Rows.bendMirrorsRow.holds Try.pinned (OpenSpec.ofChange Rows.bendMirrorsSpec) :=
  OpenClaim.holds_of_wide 3 Try.f3 rfl rfl rfl rfl rfl rfl rfl ⟨rfl, rfl, rfl, rfl, rfl⟩ rfl rfl rfl rfl rfl (by kernel_rfl) Try.func3 (by kernel_rfl)
    (of_decide_eq_true (by kernel_rfl)) (by unfold Func.isWrapper; first | (rw [if_pos (by decide +kernel)]; kernel_rfl) | (rw [if_neg (by decide +kernel)]; exact ⟨rfl, rfl⟩))
    (fun os started H enc _ => lifted os started H enc)
theorem proved : Rows.BendMirrorsSaid := over
#print axioms proved
end Go.Proofs.Ytojclogpjgeloaa.bendMirrors
