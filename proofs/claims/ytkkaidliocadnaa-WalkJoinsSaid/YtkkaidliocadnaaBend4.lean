/- milepostref4.Bend. -/
import Derived.Test.YtkkaidliocadnaaClassRef
set_option linter.unusedVariables false
set_option linter.unusedSimpArgs false
namespace Go.Proofs.Ytkkaidliocadnaa
open Go.ChangeShapes Go.WideShapes Go.ChangeAt Go.RowKit
theorem edge4_is {A1 A2 A3 : Option Addr} {n1 c1 n2 c2 n3 c3 : Nat} (h : n2 ≤ maxLen) {i : Int} {r : Bool} (hr : inB 0 i ((n2 : Int) - 1) = r) (w : World) :
    Calls Try.prog 32 #[.agg #[.slice A1 n1 c1, .slice A2 n2 c2, .slice A3 n3 c3], .int .i64 i] w fun e w' => e = .returned (.bool r) ∧ Below w.heap.size w w' := by rw [← hr]; exact edge4_any h i w
/-- all that the reference's Bend reads -/
def BendS (w' : World) (bx bn on be oe i f t n1 c1 n2 c2 : Nat) (xp yp xq yq : Int) : Prop :=
  w'.cell? ⟨bx, 0, none⟩ = some (.slice (some ⟨bn, on, none⟩) n1 c1) ∧ w'.cell? ⟨bx, 1, none⟩ = some (.slice (some ⟨be, oe, none⟩) n2 c2) ∧
    w'.cell? ⟨be, oe + i * 3, none⟩ = some (.int .i64 (f : Nat)) ∧ w'.cell? ⟨be, oe + i * 3 + 1, none⟩ = some (.int .i64 (t : Nat)) ∧
    w'.cell? ⟨bn, on + f * 2, none⟩ = some (.int .i64 xp) ∧ w'.cell? ⟨bn, on + f * 2 + 1, none⟩ = some (.int .i64 yp) ∧ w'.cell? ⟨bn, on + t * 2, none⟩ = some (.int .i64 xq) ∧ w'.cell? ⟨bn, on + t * 2 + 1, none⟩ = some (.int .i64 yq)
theorem BendS.below {w w' : World} {bx bn on be oe i f t n1 c1 n2 c2 : Nat} {xp yp xq yq : Int} (h : BendS w bx bn on be oe i f t n1 c1 n2 c2 xp yp xq yq) (hb : Below w.heap.size w w') : BendS w' bx bn on be oe i f t n1 c1 n2 c2 xp yp xq yq := by
  obtain ⟨a, b, c, d, e, f, g, h⟩ := h
  exact ⟨cell_below a hb, cell_below b hb, cell_below c hb, cell_below d hb, cell_below e hb, cell_below f hb, cell_below g hb, cell_below h hb⟩
theorem nodeT_nat (ns : List (Int × Int)) {k : Nat} (h : k < ns.length) : nodeT ns (k : Int) = ns.getD k (0, 0) := by
  unfold nodeT inB; rw [if_pos (by simp; omega), Int.toNat_natCast]
theorem edgeT_nat (es : List (Int × Int × Int)) {k : Nat} (h : k < es.length) : edgeT es (k : Int) = es.getD k (0, 0, 0) := by
  unfold edgeT inB; rw [if_pos (by simp; omega), Int.toNat_natCast]
set_option maxRecDepth 100000 in
set_option maxHeartbeats 8000000 in
theorem bend4_any {A1 A2 A3 : Option Addr} {c1 c2 n3 c3 : Nat} {ns bs : List (Int × Int)} {es : List (Int × Int × Int)} {w : World} (r1 : ReadsP w A1 ns.length c1 ns) (r2 : ReadsT w A2 es.length c2 es) (hm : mayB ns es bs = true) (a b : Int) :
    Calls Try.prog 34 #[.agg #[.slice A1 ns.length c1, .slice A2 es.length c2, .slice A3 n3 c3], .int .i64 a, .int .i64 b] w fun e w' => e = .returned (.int .i64 (bendT ns es a b)) ∧ Below w.heap.size w w' := by
  unfold bendT
  have k := fun j v hv => cell_three_new (w := w) (x := .slice A1 ns.length c1) (y := .slice A2 es.length c2) (z := .slice A3 n3 c3) (t := 28) j v hv
  have k0 := k 0 _ rfl
  have k1 := k 1 _ rfl
  have k2 := k 2 _ rfl
  have HS2 := Lib.hid r2.small
  have HB0 : Hid (Below w.heap.size w (w.alloc (.cells #[.slice A1 ns.length c1, .slice A2 es.length c2, .slice A3 n3 c3] 28))) := Lib.hid (bl_alloc (Below.refl _ _) _)
  cases ha : inB 0 a ((es.length : Int) - 1)
  · have HA := Lib.hid ha
    clear ha r1 r2 hm k
    go_enter Try.func34, Try.ntmps34
    go_wp2_with fail
    refine (edge4_is HS2.out HA.out _).mono ?_
    rintro e w2 ⟨rfl, hb2⟩
    have HB2 := Lib.hid (HB0.out.trans (hb2.mono HB0.out.size))
    clear hb2
    go_wp2_with fail
    go_ret
    exact ⟨rfl, HB2.out⟩
  · cases hb : inB 0 b ((es.length : Int) - 1)
    · have HA := Lib.hid ha
      have HB := Lib.hid hb
      clear ha hb r1 r2 hm
      go_enter Try.func34, Try.ntmps34
      go_wp2_with fail
      refine (edge4_is HS2.out HA.out _).mono ?_
      rintro e w2 ⟨rfl, hb2⟩
      have l0 : w2.cell? ⟨w.heap.size, 0, none⟩ = some (.slice A1 ns.length c1) := cell_below (k 0 _ rfl) hb2
      have l1 : w2.cell? ⟨w.heap.size, 1, none⟩ = some (.slice A2 es.length c2) := cell_below (k 1 _ rfl) hb2
      have l2 : w2.cell? ⟨w.heap.size, 2, none⟩ = some (.slice A3 n3 c3) := cell_below (k 2 _ rfl) hb2
      have HB2 := Lib.hid (HB0.out.trans (hb2.mono HB0.out.size))
      clear hb2 k0 k1 k2 k
      go_wp2_with fail
      refine (edge4_is HS2.out HB.out _).mono ?_
      rintro e w3 ⟨rfl, hb3⟩
      have HB3 := Lib.hid (HB2.out.trans (hb3.mono HB2.out.size))
      clear hb3
      go_wp2_with fail
      go_ret
      exact ⟨by simp, HB3.out⟩
    · obtain ⟨_, hsz, hfr, hto⟩ := mayB_parts hm
      have ha' := ha
      have hb' := hb
      unfold inB at ha' hb'
      simp only [Bool.and_eq_true, decide_eq_true_eq] at ha' hb'
      obtain ⟨ia, rfl⟩ : ∃ k : Nat, a = (k : Int) := ⟨a.toNat, by omega⟩
      obtain ⟨ib, rfl⟩ : ∃ k : Nat, b = (k : Int) := ⟨b.toNat, by omega⟩
      have ja : ia < es.length := by omega
      have jb : ib < es.length := by omega
      obtain ⟨fa1, fa2⟩ := hfr ia ja
      obtain ⟨ta1, ta2⟩ := hto ia ja
      obtain ⟨fb1, fb2⟩ := hfr ib jb
      obtain ⟨tb1, tb2⟩ := hto ib jb
      have wxa : wayX ns es (ia : Int) = (ns.getD (toN es ia) (0, 0)).1 - (ns.getD (fromN es ia) (0, 0)).1 := by unfold wayX; rw [edgeT_nat es ja, fa1, ta1, nodeT_nat ns fa2, nodeT_nat ns ta2]
      have wya : wayY ns es (ia : Int) = (ns.getD (toN es ia) (0, 0)).2 - (ns.getD (fromN es ia) (0, 0)).2 := by unfold wayY; rw [edgeT_nat es ja, fa1, ta1, nodeT_nat ns fa2, nodeT_nat ns ta2]
      have wxb : wayX ns es (ib : Int) = (ns.getD (toN es ib) (0, 0)).1 - (ns.getD (fromN es ib) (0, 0)).1 := by unfold wayX; rw [edgeT_nat es jb, fb1, tb1, nodeT_nat ns fb2, nodeT_nat ns tb2]
      have wyb : wayY ns es (ib : Int) = (ns.getD (toN es ib) (0, 0)).2 - (ns.getD (fromN es ib) (0, 0)).2 := by unfold wayY; rw [edgeT_nat es jb, fb1, tb1, nodeT_nat ns fb2, nodeT_nat ns tb2]
      have bd1 := nodeT_bd hm (fromN es ia : Nat)
      have bd2 := nodeT_bd hm (toN es ia : Nat)
      have bd3 := nodeT_bd hm (fromN es ib : Nat)
      have bd4 := nodeT_bd hm (toN es ib : Nat)
      rw [nodeT_nat ns fa2] at bd1
      rw [nodeT_nat ns ta2] at bd2
      rw [nodeT_nat ns fb2] at bd3
      rw [nodeT_nat ns tb2] at bd4
      obtain ⟨bn, on, rfl, hcn⟩ := r1.cell (by omega)
      obtain ⟨be, oe, rfl, hce⟩ := r2.cell (by omega)
      have ea := hce ia ja
      have eb := hce ib jb
      have nfa := hcn _ fa2
      have nta := hcn _ ta2
      have nfb := hcn _ fb2
      have ntb := hcn _ tb2
      rw [fa1, ta1] at ea
      rw [fb1, tb1] at eb
      rw [wxa, wya, wxb, wyb]
      obtain ⟨fa, hfa⟩ : ∃ z, z = fromN es ia := ⟨_, rfl⟩
      obtain ⟨ta, hta⟩ : ∃ z, z = toN es ia := ⟨_, rfl⟩
      obtain ⟨fb, hfb⟩ : ∃ z, z = fromN es ib := ⟨_, rfl⟩
      obtain ⟨tb, htb⟩ : ∃ z, z = toN es ib := ⟨_, rfl⟩
      rw [← hfa] at ea nfa fa2 bd1 ⊢
      rw [← hta] at ea nta ta2 bd2 ⊢
      rw [← hfb] at eb nfb fb2 bd3 ⊢
      rw [← htb] at eb ntb tb2 bd4 ⊢
      obtain ⟨p, hp⟩ : ∃ z, z = ns.getD fa (0, 0) := ⟨_, rfl⟩
      obtain ⟨q, hq⟩ : ∃ z, z = ns.getD ta (0, 0) := ⟨_, rfl⟩
      obtain ⟨r, hr⟩ : ∃ z, z = ns.getD fb (0, 0) := ⟨_, rfl⟩
      obtain ⟨s, hs⟩ : ∃ z, z = ns.getD tb (0, 0) := ⟨_, rfl⟩
      rw [← hp] at nfa bd1 ⊢
      rw [← hq] at nta bd2 ⊢
      rw [← hr] at nfb bd3 ⊢
      rw [← hs] at ntb bd4 ⊢
      obtain ⟨px, py⟩ := p
      obtain ⟨qx, qy⟩ := q
      obtain ⟨rx, ry⟩ := r
      obtain ⟨sx, sy⟩ := s
      dsimp only at nfa nta nfb ntb bd1 bd2 bd3 bd4 ⊢
      obtain ⟨⟨z1, z2⟩, z3, z4⟩ := bd1
      obtain ⟨⟨z5, z6⟩, z7, z8⟩ := bd2
      obtain ⟨⟨z9, z10⟩, z11, z12⟩ := bd3
      obtain ⟨⟨z13, z14⟩, z15, z16⟩ := bd4
      have hSA : BendS (w.alloc (.cells #[.slice (some ⟨bn, on, none⟩) ns.length c1, .slice (some ⟨be, oe, none⟩) es.length c2, .slice A3 n3 c3] 28)) w.heap.size bn on be oe ia fa ta ns.length c1 es.length c2 px py qx qy :=
        ⟨k 0 _ rfl, k 1 _ rfl, cell_below ea.1 HB0.out, cell_below ea.2.1 HB0.out, cell_below nfa.1 HB0.out, cell_below nfa.2 HB0.out, cell_below nta.1 HB0.out, cell_below nta.2 HB0.out⟩
      have hSB : BendS (w.alloc (.cells #[.slice (some ⟨bn, on, none⟩) ns.length c1, .slice (some ⟨be, oe, none⟩) es.length c2, .slice A3 n3 c3] 28)) w.heap.size bn on be oe ib fb tb ns.length c1 es.length c2 rx ry sx sy :=
        ⟨k 0 _ rfl, k 1 _ rfl, cell_below eb.1 HB0.out, cell_below eb.2.1 HB0.out, cell_below nfb.1 HB0.out, cell_below nfb.2 HB0.out, cell_below ntb.1 HB0.out, cell_below ntb.2 HB0.out⟩
      have HSA := Lib.hid hSA
      have HSB := Lib.hid hSB
      have HA := Lib.hid ha
      have HB := Lib.hid hb
      have i1 : (ia : Int) < (es.length : Int) := by omega
      have i2 : (ib : Int) < (es.length : Int) := by omega
      have i3 : (fa : Int) < (ns.length : Int) := by omega
      have i4 : (ta : Int) < (ns.length : Int) := by omega
      have i5 : (fb : Int) < (ns.length : Int) := by omega
      have i6 : (tb : Int) < (ns.length : Int) := by omega
      clear ha hb r1 r2 hm hsz hfr hto ha' hb' fa1 ta1 fb1 tb1 wxa wya wxb wyb hcn hce ea eb nfa nta nfb ntb hfa hta hfb htb hp hq hr hs hSA hSB
      go_enter Try.func34, Try.ntmps34
      go_wp2_with fail
      refine (edge4_is HS2.out HA.out _).mono ?_
      rintro e w2 ⟨rfl, hb2⟩
      have l0 : w2.cell? ⟨w.heap.size, 0, none⟩ = some (.slice (some ⟨bn, on, none⟩) ns.length c1) := cell_below (k 0 _ rfl) hb2
      have l1 : w2.cell? ⟨w.heap.size, 1, none⟩ = some (.slice (some ⟨be, oe, none⟩) es.length c2) := cell_below (k 1 _ rfl) hb2
      have l2 : w2.cell? ⟨w.heap.size, 2, none⟩ = some (.slice A3 n3 c3) := cell_below (k 2 _ rfl) hb2
      have HB2 := Lib.hid (HB0.out.trans (hb2.mono HB0.out.size))
      have HSA2 := Lib.hid (HSA.out.below hb2)
      have HSB2 := Lib.hid (HSB.out.below hb2)
      clear hb2 k0 k1 k2 k
      go_wp2_with fail
      refine (edge4_is HS2.out HB.out _).mono ?_
      rintro e w3 ⟨rfl, hb3⟩
      have HB3 := Lib.hid (HB2.out.trans (hb3.mono HB2.out.size))
      have hA3 := HSA2.out.below hb3
      have hB3 := HSB2.out.below hb3
      have HSA3 : Hid (∀ w', Below w3.heap.size w3 w' → BendS w' w.heap.size bn on be oe ia fa ta ns.length c1 es.length c2 px py qx qy) := Lib.hid fun w' h => hA3.below h
      have HSB3 : Hid (∀ w', Below w3.heap.size w3 w' → BendS w' w.heap.size bn on be oe ib fb tb ns.length c1 es.length c2 rx ry sx sy) := Lib.hid fun w' h => hB3.below h
      clear hb3 l0 l1 l2 hA3 hB3 HSA HSB HSA2 HSB2
      go_wp2_with fail
      go_region_held3 (fun w' => w'.cell? ⟨w.heap.size, 0, none⟩ = some (.slice (some ⟨bn, on, none⟩) ns.length c1) ∧ w'.cell? ⟨w.heap.size, 1, none⟩ = some (.slice (some ⟨be, oe, none⟩) es.length c2) ∧
          w'.cell? ⟨be, oe + ia * 3, none⟩ = some (.int .i64 (fa : Nat)) ∧ w'.cell? ⟨be, oe + ia * 3 + 1, none⟩ = some (.int .i64 (ta : Nat)) ∧
          w'.cell? ⟨bn, on + fa * 2, none⟩ = some (.int .i64 px) ∧ w'.cell? ⟨bn, on + fa * 2 + 1, none⟩ = some (.int .i64 py) ∧ w'.cell? ⟨bn, on + ta * 2, none⟩ = some (.int .i64 qx) ∧ w'.cell? ⟨bn, on + ta * 2 + 1, none⟩ = some (.int .i64 qy))
        (exact HSA3.out _ (by repeat (first | exact Below.refl _ _ | refine bl_drew ?_ | refine bl_alloc ?_ _ | refine Below.setCell ?_ (by simp) _)))
        (fail)
      all_goals
        go_wp2_with fail
        go_region_held3 (fun w' => w'.cell? ⟨w.heap.size, 0, none⟩ = some (.slice (some ⟨bn, on, none⟩) ns.length c1) ∧ w'.cell? ⟨w.heap.size, 1, none⟩ = some (.slice (some ⟨be, oe, none⟩) es.length c2) ∧
            w'.cell? ⟨be, oe + ib * 3, none⟩ = some (.int .i64 (fb : Nat)) ∧ w'.cell? ⟨be, oe + ib * 3 + 1, none⟩ = some (.int .i64 (tb : Nat)) ∧
            w'.cell? ⟨bn, on + fb * 2, none⟩ = some (.int .i64 rx) ∧ w'.cell? ⟨bn, on + fb * 2 + 1, none⟩ = some (.int .i64 ry) ∧ w'.cell? ⟨bn, on + tb * 2, none⟩ = some (.int .i64 sx) ∧ w'.cell? ⟨bn, on + tb * 2 + 1, none⟩ = some (.int .i64 sy))
          (exact HSB3.out _ (by repeat (first | exact Below.refl _ _ | refine bl_drew ?_ | refine bl_alloc ?_ _ | refine Below.setCell ?_ (by simp) _)))
          (fail)
      all_goals
        go_wp2_with fail
        refine (class4_any _ _ _ _ _).mono ?_
        rintro e w9 ⟨rfl, hb9⟩
        have HB9 := Lib.hid hb9
        clear hb9
        go_wp2_with fail
        go_ret
        refine ⟨by simp, HB3.out.trans (Below.mono (bl_then ?_ HB9.out) HB3.out.size)⟩
        repeat (first | exact Below.refl _ _ | refine bl_drew ?_ | refine bl_alloc ?_ _ | refine Below.setCell ?_ (by simp) _)
end Go.Proofs.Ytkkaidliocadnaa
