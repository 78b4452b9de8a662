/- bend.Of over a graph. -/
import Derived.Test.YtkkaidliocadnaaAccess
import Derived.Test.YtkkaidliocadnaaBend
set_option linter.unusedVariables false
set_option linter.unusedSimpArgs false
namespace Go.Proofs.Ytkkaidliocadnaa
open Go.ChangeShapes Go.WideShapes Go.ChangeAt Go.RowKit
theorem nodeT_bd {ns bs : List (Int × Int)} {es : List (Int × Int × Int)} (h : mayB ns es bs = true) (i : Int) : (0 ≤ (nodeT ns i).1 ∧ (nodeT ns i).1 ≤ 4095) ∧ 0 ≤ (nodeT ns i).2 ∧ (nodeT ns i).2 ≤ 4095 := by
  unfold nodeT
  split
  · rename_i hi
    unfold inB at hi
    simp only [Bool.and_eq_true, decide_eq_true_eq] at hi
    unfold mayB at h
    simp only [Bool.and_eq_true] at h
    obtain ⟨⟨⟨_, h2⟩, _⟩, _⟩ := h
    have hk : i.toNat < ns.length := by omega
    have e : ns.getD i.toNat (0, 0) = ns[i.toNat] := by rw [List.getD_eq_getElem?_getD, List.getElem?_eq_getElem hk]; rfl
    have := List.all_eq_true.1 h2 _ (List.getElem_mem hk)
    rw [e]
    unfold nodeOk inB at this
    simp only [Bool.and_eq_true, decide_eq_true_eq] at this
    omega
  · exact ⟨⟨by decide, by decide⟩, by decide, by decide⟩
def wayX (ns : List (Int × Int)) (es : List (Int × Int × Int)) (i : Int) : Int := (nodeT ns (edgeT es i).2.1).1 - (nodeT ns (edgeT es i).1).1
def wayY (ns : List (Int × Int)) (es : List (Int × Int × Int)) (i : Int) : Int := (nodeT ns (edgeT es i).2.1).2 - (nodeT ns (edgeT es i).1).2
set_option maxRecDepth 100000 in
set_option maxHeartbeats 4000000 in
theorem way_at {w : World} {B E p : Nat} {ns bs : List (Int × Int)} {es : List (Int × Int × Int)} (h : GraphAt w B E p ns es bs) (i : Int) : Calls Try.prog 68 #[.pointer (some ⟨p, 0, none⟩), .int .i64 i] w fun e w' =>
    e = .returned (.tuple #[.int .i64 (wayX ns es i), .int .i64 (wayY ns es i), .bool (inB 0 i ((es.length : Int) - 1))]) ∧ Below w.heap.size w w' := by
  have hm : mayB ns es bs = true := by obtain ⟨d, hd⟩ := h; exact hd.ok
  obtain ⟨⟨u1, u2⟩, u3, u4⟩ := nodeT_bd hm (edgeT es i).1
  obtain ⟨⟨v1, v2⟩, v3, v4⟩ := nodeT_bd hm (edgeT es i).2.1
  have HG := Lib.hid h
  unfold wayX wayY
  have he := edge_at h i
  obtain ⟨x, hx⟩ : ∃ x, x = edgeT es i := ⟨_, rfl⟩
  rw [← hx] at he u1 u2 u3 u4 v1 v2 v3 v4 ⊢
  obtain ⟨e0, e1, e2⟩ := x
  dsimp only at he u1 u2 u3 u4 v1 v2 v3 v4 ⊢
  have hn0 : ∀ w2, Below w.heap.size w w2 → Calls Try.prog 71 #[.pointer (some ⟨p, 0, none⟩), .int .i64 e0] w2 fun e w' => e = .returned (.tuple #[.agg #[.int .i64 (nodeT ns e0).1, .int .i64 (nodeT ns e0).2], .bool (inB 0 e0 ((ns.length : Int) - 1))]) ∧ Below w2.heap.size w2 w' := fun w2 hb => node_at (HG.out.below hb) e0
  have hn1 : ∀ w2, Below w.heap.size w w2 → Calls Try.prog 71 #[.pointer (some ⟨p, 0, none⟩), .int .i64 e1] w2 fun e w' => e = .returned (.tuple #[.agg #[.int .i64 (nodeT ns e1).1, .int .i64 (nodeT ns e1).2], .bool (inB 0 e1 ((ns.length : Int) - 1))]) ∧ Below w2.heap.size w2 w' := fun w2 hb => node_at (HG.out.below hb) e1
  obtain ⟨n0, hn0e⟩ : ∃ x, x = nodeT ns e0 := ⟨_, rfl⟩
  obtain ⟨n1, hn1e⟩ : ∃ x, x = nodeT ns e1 := ⟨_, rfl⟩
  rw [← hn0e] at u1 u2 u3 u4 hn0 ⊢
  rw [← hn1e] at v1 v2 v3 v4 hn1 ⊢
  obtain ⟨x0, y0⟩ := n0
  obtain ⟨x1, y1⟩ := n1
  dsimp only at u1 u2 u3 u4 v1 v2 v3 v4 hn0 hn1 ⊢
  have HE := Lib.hid he
  have HN0 := Lib.hid hn0
  have HN1 := Lib.hid hn1
  clear h hm he hn0 hn1 hx hn0e hn1e
  go_enter Try.func68, Try.ntmps68
  go_wp2_with fail
  refine HE.out.mono ?_
  rintro e w1 ⟨rfl, hb1⟩
  have HB1 := Lib.hid hb1
  have t0 := fun j v hv => cell_three_new (w := w1) (x := .int .i64 e0) (y := .int .i64 e1) (z := .int .i64 e2) (t := 60) j v hv
  have HT := Lib.hid t0
  clear hb1 t0
  go_wp2_with fail
  refine (HN0.out _ (bl_alloc HB1.out _)).mono ?_
  rintro e w2 ⟨rfl, hb2⟩
  have a1 : w2.cell? ⟨w1.heap.size, 1, none⟩ = some (.int .i64 e1) := cell_below (HT.out 1 _ rfl) hb2
  have HB2 : Hid (Below w.heap.size w w2) := Lib.hid ((bl_alloc HB1.out _).trans (hb2.mono (bl_alloc HB1.out _).size))
  have a1b := cell_below a1 (bl_alloc (Below.refl _ _) (.cells #[.int .i64 x0, .int .i64 y0] 81))
  have b0 := cell_two_new0 (w := w2) (x := .int .i64 x0) (y := .int .i64 y0) (t := 81) rfl
  have b1 := cell_two_new1 (w := w2) (x := .int .i64 x0) (y := .int .i64 y0) (t := 81) rfl
  have BB0 := Lib.hid b0
  have BB1 := Lib.hid b1
  clear hb2 b0 b1 HT
  go_wp2_with fail
  refine (HN1.out _ (bl_alloc HB2.out _)).mono ?_
  rintro e w3 ⟨rfl, hb3⟩
  have c0 := cell_below (cell_below BB0.out hb3) (bl_alloc (Below.refl _ _) (.cells #[.int .i64 x1, .int .i64 y1] 81))
  have c1 := cell_below (cell_below BB1.out hb3) (bl_alloc (Below.refl _ _) (.cells #[.int .i64 x1, .int .i64 y1] 81))
  have HB3 : Hid (Below w.heap.size w w3) := Lib.hid ((bl_alloc HB2.out _).trans (hb3.mono (bl_alloc HB2.out _).size))
  clear hb3 a1 a1b
  go_wp2_with fail
  go_quiet (fail)
  go_wp2_with fail
  go_ret3
  exact ⟨rfl, bl_drewN (bl_alloc HB3.out _) _⟩
def bendT (ns : List (Int × Int)) (es : List (Int × Int × Int)) (a b : Int) : Int := if inB 0 a ((es.length : Int) - 1) && inB 0 b ((es.length : Int) - 1) then classF (wayX ns es a) (wayY ns es a) (wayX ns es b) (wayY ns es b) else 0
set_option maxRecDepth 100000 in
set_option maxHeartbeats 4000000 in
theorem of_at {w : World} {B E p : Nat} {ns bs : List (Int × Int)} {es : List (Int × Int × Int)} (h : GraphAt w B E p ns es bs) (a b : Int) : Calls Try.prog 59 #[.pointer (some ⟨p, 0, none⟩), .int .i64 a, .int .i64 b] w fun e w' =>
    e = .returned (.int .i64 (bendT ns es a b)) ∧ Below w.heap.size w w' := by
  have HG := Lib.hid h
  unfold bendT
  cases ha : inB 0 a ((es.length : Int) - 1) <;> cases hb : inB 0 b ((es.length : Int) - 1)
  all_goals
    have HA := Lib.hid ha
    have HB := Lib.hid hb
    clear ha hb
    go_enter Try.func59, Try.ntmps59
    go_wp2_with fail
    refine (way_at HG.out a).mono ?_
    rw [HA.out]
    rintro e w1 ⟨rfl, hb1⟩
    have HB1 := Lib.hid hb1
    clear hb1
    go_wp2_with fail
    refine (way_at (HG.out.below HB1.out) b).mono ?_
    rw [HB.out]
    rintro e w2 ⟨rfl, hb2⟩
    have HB2 : Hid (Below w.heap.size w w2) := Lib.hid (HB1.out.trans (hb2.mono HB1.out.size))
    clear hb2
    go_wp2_with (go_at_call 69; refine (class_any _ _ _ _ _).mono ?_; rintro e w' ⟨rfl, rfl⟩)
    go_ret
    exact ⟨by simp, HB2.out⟩
end Go.Proofs.Ytkkaidliocadnaa
