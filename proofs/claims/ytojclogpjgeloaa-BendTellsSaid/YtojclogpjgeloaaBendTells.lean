/- BendTells: of any two ways, and any two edges of a town, the class of the turn is as the document says. For every input, without a condition. -/
import Derived.Test.YtojclogpjgeloaaBend4
import Derived.Test.YtojclogpjgeloaaTownUse
import Derived.Test.YtojclogpjgeloaaGraphNew
import Derived.Test.YtojclogpjgeloaaRow
set_option linter.unusedVariables false
set_option linter.unusedSimpArgs false
namespace Go.Proofs.Ytojclogpjgeloaa.bendTells
open Go.ChangeShapes Go.WideShapes Go.ChangeAt Go.RowKit
set_option maxRecDepth 100000 in
set_option maxHeartbeats 4000000 in
theorem walk_out (ax ay bx by_ : Int) (A : Option Addr) (n k : Nat) (a b c : Int) (hs : n ≤ 9223372036854775807) (w : World) (h : 100 < n) :
    Calls Try.prog 10 #[.int .i64 ax, .int .i64 ay, .int .i64 bx, .int .i64 by_, .slice A n k, .int .i64 a, .int .i64 b, .int .i64 c] w fun e w' => e = .returned (.bool true) ∧ Below w.heap.size w w' := by
  go_enter Try.func10, Try.ntmps10
  go_wp2_with (go_at_call 11; refine (awake9 _).mono ?_; rintro e w1 ⟨rfl, hb1⟩)
  go_ret
  exact ⟨rfl, by assumption⟩
set_option maxRecDepth 100000 in
set_option maxHeartbeats 8000000 in
theorem walk_ins (ax ay bx by_ : Int) (A : Option Addr) (n k : Nat) (xs : List Int) (a b c : Int) (w : World) (h : n ≤ 100) (hk : ReadsI w A n k xs) :
    Calls Try.prog 10 #[.int .i64 ax, .int .i64 ay, .int .i64 bx, .int .i64 by_, .slice A n k, .int .i64 a, .int .i64 b, .int .i64 c] w fun e w' => e = .returned (.bool true) ∧ Below w.heap.size w w' := by
  have HK := Lib.hid hk
  have HOK := Lib.hid (town_good xs)
  clear hk
  obtain ⟨ns, hns⟩ : ∃ ns, ns = townN xs := ⟨_, rfl⟩
  obtain ⟨es, hes⟩ : ∃ es, es = townE xs := ⟨_, rfl⟩
  obtain ⟨bs, hbs⟩ : ∃ bs, bs = townB xs := ⟨_, rfl⟩
  have HTC := Lib.hid (town_call HK.out)
  rw [← hns, ← hes, ← hbs] at HOK HTC
  clear hns hes hbs
  go_enter Try.func10, Try.ntmps10
  go_wp2_with fail
  refine HTC.out.mono ?_
  rintro e w1 ⟨A1, A2, A3, c1, c2, c3, rfl, hT⟩
  have HT := Lib.hid hT
  have kk := fun j v hv => cell_three_new (w := w1) (x := .slice A1 ns.length c1) (y := .slice A2 es.length c2) (z := .slice A3 bs.length c3) (t := 58) j v hv
  have k0 := kk 0 _ rfl
  have k1 := kk 1 _ rfl
  have k2 := kk 2 _ rfl
  have hb2 : Below w1.heap.size w1 (w1.alloc (.cells #[.slice A1 ns.length c1, .slice A2 es.length c2, .slice A3 bs.length c3] 58)) := bl_alloc (Below.refl _ _) _
  have HNEW := Lib.hid (new_ok (HT.out.rN.below hb2) (HT.out.rE.below hb2) (HT.out.rB.below hb2) HOK.out)
  have KK := Lib.hid kk
  have HB2 := Lib.hid hb2
  clear hT kk hb2
  go_wp2_with fail
  refine HNEW.out.mono ?_
  rintro e w4 ⟨p, rfl, hG, hb4⟩
  have l0 : w4.cell? ⟨w1.heap.size, 0, none⟩ = some (.slice A1 ns.length c1) := cell_below (KK.out 0 _ rfl) hb4
  have l1 : w4.cell? ⟨w1.heap.size, 1, none⟩ = some (.slice A2 es.length c2) := cell_below (KK.out 1 _ rfl) hb4
  have l2 : w4.cell? ⟨w1.heap.size, 2, none⟩ = some (.slice A3 bs.length c3) := cell_below (KK.out 2 _ rfl) hb4
  have hb14 : Below w1.heap.size w1 w4 := HB2.out.trans (hb4.mono HB2.out.size)
  have HG := Lib.hid hG
  have HRN := Lib.hid (HT.out.rN.below hb14)
  have HRE := Lib.hid (HT.out.rE.below hb14)
  have HBW : Hid (Below w.heap.size w w4) := Lib.hid (HT.out.below.trans (hb14.mono HT.out.below.size))
  have HS : Hid (∀ w', Below w4.heap.size w4 w' → w'.cell? ⟨w1.heap.size, 0, none⟩ = some (.slice A1 ns.length c1) ∧ w'.cell? ⟨w1.heap.size, 1, none⟩ = some (.slice A2 es.length c2) ∧ w'.cell? ⟨w1.heap.size, 2, none⟩ = some (.slice A3 bs.length c3)) := Lib.hid fun w' h => ⟨cell_below l0 h, cell_below l1 h, cell_below l2 h⟩
  have K0 : Hid (Below w4.heap.size w4 w4.drew) := Lib.hid (bl_drew (Below.refl _ _))
  clear hG hb4 l0 l1 l2 hb14 k0 k1 k2 KK HNEW HTC
  go_wp2_with fail
  go_region_held3 (fun w' => w'.cell? ⟨w1.heap.size, 0, none⟩ = some (.slice A1 ns.length c1) ∧ w'.cell? ⟨w1.heap.size, 1, none⟩ = some (.slice A2 es.length c2) ∧ w'.cell? ⟨w1.heap.size, 2, none⟩ = some (.slice A3 bs.length c3))
    (first | exact HS.out _ K0.out | exact HS.out _ K1.out | exact HS.out _ K2.out | exact HS.out _ K3.out | exact HS.out _ K4.out)
    (first
      | (go_at_call 12
         refine (class_any _ _ _ _ _).mono ?_
         rintro e w' ⟨rfl, rfl⟩)
      | (go_at_call 25
         refine (class4_any _ _ _ _ _).mono ?_
         rintro e v1 ⟨rfl, hb⟩
         have K1 : Hid (Below w4.heap.size w4 v1) := Lib.hid (bl_then K0.out hb)
         clear hb)
      | (go_at_call 26
         refine (of_at (HG.out.below K1.out) _ _).mono ?_
         rintro e v2 ⟨rfl, hb⟩
         have K2 : Hid (Below w4.heap.size w4 v2) := Lib.hid (bl_then K1.out hb)
         clear hb)
      | (go_at_call 27
         refine (bend4_any (HRN.out.below K2.out) (HRE.out.below K2.out) HOK.out _ _).mono ?_
         rintro e v3 ⟨rfl, hb⟩
         have K3 : Hid (Below w4.heap.size w4 v3) := Lib.hid (bl_then K2.out hb)
         clear hb)
      | (go_at_call 13
         refine (mirror_any _ _).mono ?_
         rintro e w' ⟨rfl, rfl⟩)
      | (go_at_call 28
         refine (mirror4_any _ _).mono ?_
         rintro e w' ⟨rfl, rfl⟩)
      | (go_at_call 11
         refine (awake9 _).mono ?_
         rintro e v4 ⟨rfl, hb⟩
         have K4 : Hid (Below w4.heap.size w4 v4) := Lib.hid (bl_then K3.out hb)
         clear hb))
  all_goals
    go_wp2_with fail
    go_ret
    exact ⟨rfl, HBW.out.trans (K4.out.mono HBW.out.size)⟩
theorem walk {W : World} (ax : Int) (h0 : (Lit.int .i64 ax).wf = true) (ay : Int) (h1 : (Lit.int .i64 ay).wf = true) (bx : Int) (h2 : (Lit.int .i64 bx).wf = true) (by_ : Int) (h3 : (Lit.int .i64 by_).wf = true)
    (A : Option Addr) (n k : Nat) (xs : List Int) (hk : ReadsI W A n k xs) (a : Int) (h5 : (Lit.int .i64 a).wf = true) (b : Int) (h6 : (Lit.int .i64 b).wf = true) (c : Int) (h7 : (Lit.int .i64 c).wf = true) :
    Calls Try.prog 10 #[.int .i64 ax, .int .i64 ay, .int .i64 bx, .int .i64 by_, .slice A n k, .int .i64 a, .int .i64 b, .int .i64 c] W fun e w' => e = .returned (.bool true) ∧ Below W.heap.size W w' := by
  by_cases h : 100 < n
  · have s1 := hk.small
    unfold maxLen at s1
    exact walk_out ax ay bx by_ A n k a b c (by omega) W h
  · exact walk_ins ax ay bx by_ A n k xs a b c W (by omega) hk
set_option maxRecDepth 100000 in
theorem lifted (os : Os) (started : os.Started) (H : Type) (enc : TypeId × Value → H) :
    ReturnsInHanded {} Try.checked os 10 .any (Rows.bendTellsSpec.pre6 enc Try.prog Try.f10 Rows.bendTellsRow.domain false) (Rows.bendTellsSpec.post enc Try.prog Try.f10 false true false false) := by
  refine returnsInHanded_of_change (C := Try.checked) own started (by kernel_rfl) Try.func10
    (ChangeSpec.witness6 (enc := enc) (C := Try.checked) false ⟨#[], #[.int .i64 0, .int .i64 0, .int .i64 0, .int .i64 0, .slice none 0 0, .int .i64 0, .int .i64 0, .int .i64 0], []⟩ 8 (by kernel_rfl) (by kernel_rfl) (by kernel_rfl) (by kernel_rfl)) ?_
  intro W base args ds gs before hval0 hW hcnd _
  have hval : ∀ (j : Nat) t v, Try.f10.params[j]? = some t → args[j]? = some v → Value.okWide Try.prog W .any base t v := hval0
  have hW' := hW
  obtain ⟨p, q, hA0, hV, rfl, hfz, hnd⟩ := hW
  have hA : DataW.TrodAll enc Try.prog W 0 (fun _ => true) true Try.f10.params.toList args.toList ds p := hA0
  rw [Try.params10] at hA hval
  obtain ⟨v0, vs0, d0, ds0, p0, q0, hargs, rfl, rfl, h0, r0⟩ := trodAll_cons hA
  obtain ⟨v1, vs1, d1, ds1, p1, q1, rfl, rfl, rfl, h1, r1⟩ := trodAll_cons r0
  obtain ⟨v2, vs2, d2, ds2, p2, q2, rfl, rfl, rfl, h2, r2⟩ := trodAll_cons r1
  obtain ⟨v3, vs3, d3, ds3, p3, q3, rfl, rfl, rfl, h3, r3⟩ := trodAll_cons r2
  obtain ⟨v4, vs4, d4, ds4, p4, q4, rfl, rfl, rfl, h4, r4⟩ := trodAll_cons r3
  obtain ⟨v5, vs5, d5, ds5, p5, q5, rfl, rfl, rfl, h5, r5⟩ := trodAll_cons r4
  obtain ⟨v6, vs6, d6, ds6, p6, q6, rfl, rfl, rfl, h6, r6⟩ := trodAll_cons r5
  obtain ⟨v7, vs7, d7, ds7, p7, q7, rfl, rfl, rfl, h7, r7⟩ := trodAll_cons r6
  obtain ⟨rfl, rfl, rfl⟩ := trodAll_nil r7
  obtain rfl : args = #[v0, v1, v2, v3, v4, v5, v6, v7] := by cases args; simp_all
  obtain ⟨rfl, rfl⟩ := trodVars_none hV
  obtain ⟨a0, rfl, rfl, rfl, w0⟩ := open_int Try.underlying3 (hval 0 3 v0 rfl rfl) h0
  obtain ⟨a1, rfl, rfl, rfl, w1⟩ := open_int Try.underlying3 (hval 1 3 v1 rfl rfl) h1
  obtain ⟨a2, rfl, rfl, rfl, w2⟩ := open_int Try.underlying3 (hval 2 3 v2 rfl rfl) h2
  obtain ⟨a3, rfl, rfl, rfl, w3⟩ := open_int Try.underlying3 (hval 3 3 v3 rfl rfl) h3
  obtain ⟨a4, n4, c4, xs4, rfl, k4⟩ := open_reads (hval 4 50 v4 rfl rfl) h4
  obtain ⟨a5, rfl, rfl, rfl, w5⟩ := open_int Try.underlying3 (hval 5 3 v5 rfl rfl) h5
  obtain ⟨a6, rfl, rfl, rfl, w6⟩ := open_int Try.underlying3 (hval 6 3 v6 rfl rfl) h6
  obtain ⟨a7, rfl, rfl, rfl, w7⟩ := open_int Try.underlying3 (hval 7 3 v7 rfl rfl) h7
  refine (walk a0 w0 a1 w1 a2 w2 a3 w3 a4 n4 c4 xs4 k4 a5 w5 a6 w6 a7 w7).mono fun e W' ⟨he, hb⟩ => ?_
  subst he
  exact ⟨_, rfl, post_law hW' hb rfl rfl rfl rfl rfl (by rw [Try.params10]; exact readable_all (by kernel_rfl))⟩
theorem over : Rows.bendTellsRow.holds Try.pinned (OpenSpec.ofChange Rows.bendTellsSpec) :=
  OpenClaim.holds_of_wide 10 Try.f10 rfl rfl rfl rfl rfl rfl rfl ⟨rfl, rfl, rfl, rfl, rfl⟩ rfl rfl rfl rfl rfl (by kernel_rfl) Try.func10 (by kernel_rfl)
    (of_decide_eq_true (by kernel_rfl)) (by unfold Func.isWrapper; first | (rw [if_pos (by decide +kernel)]; kernel_rfl) | (rw [if_neg (by decide +kernel)]; exact ⟨rfl, rfl⟩))
    (fun os started H enc _ => lifted os started H enc)
theorem proved : Rows.BendTellsSaid := over
#print axioms proved
end Go.Proofs.Ytojclogpjgeloaa.bendTells
