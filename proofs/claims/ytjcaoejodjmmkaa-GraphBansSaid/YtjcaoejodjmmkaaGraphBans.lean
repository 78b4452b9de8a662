/- GraphBans: a ban of a town's graph is there just if it was handed in; without any all is as before but for these; nodes and edges are those that were handed in. For every input, without a condition. -/
import Derived.Test.YtjcaoejodjmmkaaAwake5
import Derived.Test.YtjcaoejodjmmkaaTownUse
import Derived.Test.YtjcaoejodjmmkaaRowsUse
import Derived.Test.YtjcaoejodjmmkaaGraphNew
import Derived.Test.YtjcaoejodjmmkaaRow
import Derived.Test.YtjcaoejodjmmkaaOutUse
import Derived.Deep.RegionHeld3
set_option linter.unusedVariables false
set_option linter.unusedSimpArgs false
namespace Go.Proofs.Ytjcaoejodjmmkaa.graphBans
open Go.ChangeShapes Go.WideShapes Go.ChangeAt Go.RowKit RowP
theorem mayB_nil {ns bs : List (Int × Int)} {es : List (Int × Int × Int)} (h : mayB ns es bs = true) : mayB ns es [] = true := by
  unfold mayB at h ⊢
  unfold sizeOk at h ⊢
  simp only [Bool.and_eq_true] at h ⊢
  obtain ⟨⟨⟨⟨⟨h1, h2⟩, h3⟩, h4⟩, h5⟩, h6⟩ := h
  exact ⟨⟨⟨⟨⟨h1, h2⟩, by decide⟩, h4⟩, h5⟩, rfl⟩
theorem no_neg {ns bs : List (Int × Int)} {es : List (Int × Int × Int)} (h : mayB ns es bs = true) (a : Int) : decide ((a, (-1 : Int)) ∈ bs) = false := by
  refine decide_eq_false fun hm => ?_
  obtain ⟨i, hi, he⟩ := List.getElem_of_mem hm
  unfold mayB at h
  simp only [Bool.and_eq_true] at h
  have := List.all_eq_true.1 h.2 i (List.mem_range.2 hi)
  have e : bs.getD i (0, 0) = bs[i] := by rw [List.getD_eq_getElem?_getD, List.getElem?_eq_getElem hi]; rfl
  unfold banOk at this
  rw [e, he] at this
  unfold inB at this
  simp at this
theorem round_still {k n : Int} (hk : (Lit.int .i64 k).wf = true) (hn : 0 < n) (hn2 : n ≤ 4611686018427387904) (w : World) :
    Calls Try.prog 19 #[.int .i64 k, .int .i64 n] w fun e w' => e = .returned (.int .i64 (k % n)) ∧ w' = w := (round_any hk hn hn2 w).mono fun e w' h => ⟨h.1, h.2.symm⟩
set_option maxRecDepth 100000 in
set_option maxHeartbeats 4000000 in
theorem walk_out (A : Option Addr) (n k : Nat) (a b : Int) (hs : n ≤ 9223372036854775807) (w : World) (h : 100 < n) :
    Calls Try.prog 5 #[.slice A n k, .int .i64 a, .int .i64 b] w fun e w' => e = .returned (.bool true) ∧ Below w.heap.size w w' := by
  go_enter Try.func5, Try.ntmps5
  go_wp2_with (go_at_call 12; refine (awake5 _).mono ?_; rintro e w1 ⟨rfl, hb1⟩)
  go_ret
  exact ⟨rfl, by assumption⟩
set_option maxRecDepth 100000 in
set_option maxHeartbeats 8000000 in
theorem walk_ins (A : Option Addr) (n k : Nat) (xs : List Int) (a b : Int) (ha : (Lit.int .i64 a).wf = true) (hb : (Lit.int .i64 b).wf = true) (w : World) (h : n ≤ 100) (hk : ReadsI w A n k xs) :
    Calls Try.prog 5 #[.slice A n k, .int .i64 a, .int .i64 b] w fun e w' => e = .returned (.bool true) ∧ Below w.heap.size w w' := by
  have HK := Lib.hid hk
  have HOK := Lib.hid (town_good xs)
  clear hk
  obtain ⟨ns, hns⟩ : ∃ ns, ns = townN xs := ⟨_, rfl⟩
  obtain ⟨es, hes⟩ : ∃ es, es = townE xs := ⟨_, rfl⟩
  obtain ⟨bs, hbs⟩ : ∃ bs, bs = townB xs := ⟨_, rfl⟩
  have HTC := Lib.hid (town_call HK.out)
  have hE70 := len_townE xs
  rw [← hes] at hE70
  rw [← hns, ← hes, ← hbs] at HOK HTC
  clear hns hes hbs
  have hbd := (mayB_parts HOK.out).2.1
  obtain ⟨s1, s2, s3, s4⟩ := hbd
  have HWA := Lib.hid ha
  have HWB := Lib.hid hb
  clear ha hb
  go_enter Try.func5, Try.ntmps5
  go_wp2_with fail
  refine HTC.out.mono ?_
  rintro e w1 ⟨A1, A2, A3, c1, c2, c3, rfl, hT⟩
  have HT := Lib.hid hT
  have kk := fun j v hv => cell_three_new (w := w1) (x := .slice A1 ns.length c1) (y := .slice A2 es.length c2) (z := .slice A3 bs.length c3) (t := 28) j v hv
  have k0 := kk 0 _ rfl
  have k1 := kk 1 _ rfl
  have k2 := kk 2 _ rfl
  have mm := fun j v hv => cell_three_new (w := w1.alloc (.cells #[.slice A1 ns.length c1, .slice A2 es.length c2, .slice A3 bs.length c3] 28)) (x := .slice A1 ns.length c1) (y := .slice A2 es.length c2) (z := .slice none 0 0) (t := 28) j v hv
  simp only [size_alloc] at mm
  have hb2 : Below w1.heap.size w1 ((w1.alloc (.cells #[.slice A1 ns.length c1, .slice A2 es.length c2, .slice A3 bs.length c3] 28)).alloc (.cells #[.slice A1 ns.length c1, .slice A2 es.length c2, .slice none 0 0] 28)) := bl_alloc (bl_alloc (Below.refl _ _) _) _
  have hkk : ∀ j v, (#[.slice A1 ns.length c1, .slice A2 es.length c2, .slice A3 bs.length c3] : Array Value)[j]? = some v → ((w1.alloc (.cells #[.slice A1 ns.length c1, .slice A2 es.length c2, .slice A3 bs.length c3] 28)).alloc (.cells #[.slice A1 ns.length c1, .slice A2 es.length c2, .slice none 0 0] 28)).cell? ⟨w1.heap.size, j, none⟩ = some v := fun j v hv => cell_below (kk j v hv) (bl_alloc (Below.refl _ _) _)
  have HKK := Lib.hid hkk
  have MM := Lib.hid mm
  have HB2 := Lib.hid hb2
  have HNEW := Lib.hid (new_ok (HT.out.rN.below hb2) (HT.out.rE.below hb2) (HT.out.rB.below hb2) HOK.out)
  clear hT kk mm hkk hb2
  go_wp2_with fail
  refine HNEW.out.mono ?_
  rintro e w4 ⟨p, rfl, hG, hb4⟩
  have hb14 : Below w1.heap.size w1 w4 := HB2.out.trans (hb4.mono HB2.out.size)
  have hrn : ReadsP w4 none 0 0 [] := ⟨rfl, by decide, fun h => by omega, by simp⟩
  have HNEW2 := Lib.hid (new_ok (HT.out.rN.below hb14) (HT.out.rE.below hb14) hrn (mayB_nil HOK.out))
  have m0 := cell_below (MM.out 0 _ rfl) hb4
  have m1 := cell_below (MM.out 1 _ rfl) hb4
  have m2 := cell_below (MM.out 2 _ rfl) hb4
  have l0 := cell_below (HKK.out 0 _ rfl) hb4
  have l1 := cell_below (HKK.out 1 _ rfl) hb4
  have l2 := cell_below (HKK.out 2 _ rfl) hb4
  have HG4 := Lib.hid hG
  have HB14 := Lib.hid hb14
  have HL4 : Hid (w4.cell? ⟨w1.heap.size, 0, none⟩ = some (.slice A1 ns.length c1) ∧ w4.cell? ⟨w1.heap.size, 1, none⟩ = some (.slice A2 es.length c2) ∧ w4.cell? ⟨w1.heap.size, 2, none⟩ = some (.slice A3 bs.length c3)) := Lib.hid ⟨l0, l1, l2⟩
  clear hb4 hG hrn hb14 k0 k1 k2 HNEW MM HKK HB2
  go_wp2_with fail
  refine HNEW2.out.mono ?_
  rintro e w5 ⟨q, rfl, hG5, hb5⟩
  have HG := Lib.hid (HG4.out.below hb5)
  have HY := Lib.hid hG5
  have hb15 : Below w1.heap.size w1 w5 := HB14.out.trans (hb5.mono HB14.out.size)
  have HRN := Lib.hid (HT.out.rN.below hb15)
  have HRE := Lib.hid (HT.out.rE.below hb15)
  have HRB := Lib.hid (HT.out.rB.below hb15)
  have HBW : Hid (Below w.heap.size w w5) := Lib.hid (HT.out.below.trans (hb15.mono HT.out.below.size))
  have HS : Hid (∀ w', Below w5.heap.size w5 w' → w'.cell? ⟨w1.heap.size, 0, none⟩ = some (.slice A1 ns.length c1) ∧ w'.cell? ⟨w1.heap.size, 1, none⟩ = some (.slice A2 es.length c2) ∧ w'.cell? ⟨w1.heap.size, 2, none⟩ = some (.slice A3 bs.length c3)) :=
    Lib.hid fun w' h => ⟨cell_below (cell_below HL4.out.1 hb5) h, cell_below (cell_below HL4.out.2.1 hb5) h, cell_below (cell_below HL4.out.2.2 hb5) h⟩
  clear l0 l1 l2 m0 m1 m2 HL4 hb5 hb15 hG5 HNEW2 HG4 HB14
  obtain ⟨l0, l1, l2⟩ := HS.out _ (Below.refl _ _)
  have i0 := Int.emod_nonneg a (show (es.length : Int) ≠ 0 by omega)
  have i1 := Int.emod_lt_of_pos a (show (0 : Int) < es.length by omega)
  have i2 := Int.emod_nonneg b (show (es.length : Int) ≠ 0 by omega)
  have i3 := Int.emod_lt_of_pos b (show (0 : Int) < es.length by omega)
  obtain ⟨i, hi⟩ : ∃ i : Nat, a % (es.length : Int) = (i : Int) := ⟨(a % (es.length : Int)).toNat, by omega⟩
  obtain ⟨j, hj⟩ : ∃ j : Nat, b % (es.length : Int) = (j : Int) := ⟨(b % (es.length : Int)).toNat, by omega⟩
  have ra := fun w => round_still HWA.out (n := (es.length : Int)) (by omega) (by omega) w
  have rb := fun w => round_still HWB.out (n := (es.length : Int)) (by omega) (by omega) w
  rw [hi] at ra i0 i1
  rw [hj] at rb i2 i3
  have HIL : Hid (i < es.length) := Lib.hid (by omega)
  have RA := Lib.hid ra
  have RB := Lib.hid rb
  clear ra rb hi hj
  go_wp2_with fail
  go_quiet ((go_at_call 19; first | with_reducible refine Calls.quiet_of_same (RA.out _) | with_reducible refine Calls.quiet_of_same (RB.out _)))
  go_wp2_with fail
  generalize hV : World.drewN w5 _ = v0
  have K0 : Hid (Below w5.heap.size w5 v0.drew) := Lib.hid (by rw [← hV]; exact bl_drew (bl_drewN (Below.refl _ _) _))
  obtain ⟨B, hB⟩ : ∃ B, B = decide (((i : Int), (j : Int)) ∈ bs) := ⟨_, rfl⟩
  have cx := fun (w' : World) (h : Below w5.heap.size w5 w') => banned_at (HG.out.below h) (i : Int) (j : Int)
  have c4 := fun (w' : World) (h : Below w5.heap.size w5 w') => banned4_any (A1 := A1) (n1 := ns.length) (c1 := c1) (A2 := A2) (n2 := es.length) (c2 := c2) (HRB.out.below h) (i : Int) (j : Int)
  have cy := fun (w' : World) (h : Below w5.heap.size w5 w') => banned_at (HY.out.below h) (i : Int) (j : Int)
  have cn := fun (w' : World) (h : Below w5.heap.size w5 w') => banned_at (HG.out.below h) a (-1)
  rw [← hB] at cx c4
  simp only [List.not_mem_nil, decide_false] at cy
  simp only [no_neg HOK.out] at cn
  have CX := Lib.hid cx
  have C4 := Lib.hid c4
  have CY := Lib.hid cy
  have CN := Lib.hid cn
  have HSS : Hid (∀ w', Below w5.heap.size w5 w' → w'.cell? ⟨w1.heap.size, 0, none⟩ = some (.slice A1 ns.length c1) ∧ w'.cell? ⟨w1.heap.size, 1, none⟩ = some (.slice A2 es.length c2) ∧ w'.cell? ⟨w1.heap.size, 2, none⟩ = some (.slice A3 bs.length c3)) := HS
  clear cx c4 cy cn hB hV l0 l1 l2 i0 i1 i2 i3
  have hBB : (B != B) = false := by simp
  all_goals
    go_region_held3 (fun w' => w'.cell? ⟨w1.heap.size, 0, none⟩ = some (.slice A1 ns.length c1) ∧ w'.cell? ⟨w1.heap.size, 1, none⟩ = some (.slice A2 es.length c2) ∧ w'.cell? ⟨w1.heap.size, 2, none⟩ = some (.slice A3 bs.length c3))
      (first | exact HSS.out _ K0.out | exact HSS.out _ K1.out | exact HSS.out _ K2.out | exact HSS.out _ K3.out | exact HSS.out _ K4.out)
      (first
        | (go_at_call 20
           with_reducible refine (CX.out _ K0.out).mono ?_
           rintro e v1 ⟨rfl, hb⟩
           have K1 : Hid (Below w5.heap.size w5 v1) := Lib.hid (bl_then K0.out hb)
           clear hb)
        | (go_at_call 21
           refine (C4.out _ K1.out).mono ?_
           rintro e v2 ⟨rfl, hb⟩
           have K2 : Hid (Below w5.heap.size w5 v2) := Lib.hid (bl_then K1.out hb)
           clear hb)
        | (go_at_call 20
           with_reducible refine (CY.out _ K2.out).mono ?_
           rintro e v3 ⟨rfl, hb⟩
           have K3 : Hid (Below w5.heap.size w5 v3) := Lib.hid (bl_then K2.out hb)
           clear hb)
        | (go_at_call 20
           with_reducible refine (CN.out _ K3.out).mono ?_
           rintro e v4 ⟨rfl, hb⟩
           have K4 : Hid (Below w5.heap.size w5 v4) := Lib.hid (bl_then K3.out hb)
           clear hb))
    go_wp2_with fail
  all_goals
    obtain ⟨l0, l1, l2⟩ := HSS.out _ K4.out
    go_loopg [15] ns.length (fun M v wr => ∃ k : Nat, M = ns.length - k ∧ k ≤ ns.length ∧ v = .int .i64 (k : Nat) ∧ Below w5.heap.size w5 wr)
    case atStart => exact ⟨0, rfl, Nat.zero_le _, rfl, K4.out⟩
    case round =>
      obtain ⟨k, hm, hk, rfl, hbr⟩ := hrel
      have HM := Lib.hid hm
      have HBR := Lib.hid hbr
      clear hm hbr l0 l1 l2
      obtain ⟨l0, l1, l2⟩ := HSS.out _ HBR.out
      by_cases hlt : k < ns.length
      · have hnode := node_at (HG.out.below HBR.out) (k : Int)
        rw [nodeT_in hlt, inB_nat hlt] at hnode
        obtain ⟨bN, oN, rfl, hcell⟩ := (HRN.out.below HBR.out).cell (by omega)
        obtain ⟨d0, d1⟩ := hcell k hlt
        obtain ⟨x, hx⟩ : ∃ x, x = ns.getD k (0, 0) := ⟨_, rfl⟩
        rw [← hx] at hnode d0 d1
        obtain ⟨x0, x1⟩ := x
        dsimp only at hnode d0 d1
        have HN := Lib.hid hnode
        have D0 := Lib.hid d0
        have D1 := Lib.hid d1
        have k0 : (0 : Int) ≤ (k : Int) := by omega
        have k1 : (k : Int) < (ns.length : Int) := by omega
        clear hnode hcell hx d0 d1
        go_wp2_with fail
        refine HN.out.mono ?_
        rintro e v5 ⟨rfl, hb5⟩
        have hbn : Below wr.heap.size wr (v5.alloc (.cells #[.int .i64 x0, .int .i64 x1] 48)) := bl_alloc hb5 _
        have HSN : Hid (∀ w', Below (v5.alloc (.cells #[.int .i64 x0, .int .i64 x1] 48)).heap.size (v5.alloc (.cells #[.int .i64 x0, .int .i64 x1] 48)) w' →
            w'.cell? ⟨w1.heap.size, 0, none⟩ = some (.slice (some ⟨bN, oN, none⟩) ns.length c1) ∧ w'.cell? ⟨bN, oN + k * 2, none⟩ = some (.int .i64 x0) ∧ w'.cell? ⟨bN, oN + k * 2 + 1, none⟩ = some (.int .i64 x1) ∧
            w'.cell? ⟨v5.heap.size, 0, none⟩ = some (.int .i64 x0) ∧ w'.cell? ⟨v5.heap.size, 1, none⟩ = some (.int .i64 x1)) :=
          Lib.hid fun w' h => ⟨cell_below (cell_below l0 hbn) h, cell_below (cell_below D0.out hbn) h, cell_below (cell_below D1.out hbn) h, cell_below (cell_two_new0 rfl) h, cell_below (cell_two_new1 rfl) h⟩
        have HB6 : Hid (Below w5.heap.size w5 (v5.alloc (.cells #[.int .i64 x0, .int .i64 x1] 48))) := Lib.hid (HBR.out.trans (hbn.mono HBR.out.size))
        clear hb5 hbn l0 l1 l2
        go_wp2_with fail
        obtain ⟨w6, hw6⟩ : ∃ w6, w6 = v5.alloc (.cells #[.int .i64 x0, .int .i64 x1] 48) := ⟨_, rfl⟩
        rw [← hw6] at HSN HB6 ⊢
        have L0 : Hid (Below w6.heap.size w6 w6.drew) := Lib.hid (bl_drew (Below.refl _ _))
        have co := fun (w' : World) (h : Below w6.heap.size w6 w') => out_reads (HG.out.below (HB6.out.trans (h.mono HB6.out.size))) (k : Int)
        have coy := fun (w' : World) (h : Below w6.heap.size w6 w') => out_reads (HY.out.below (HB6.out.trans (h.mono HB6.out.size))) (k : Int)
        have ci := fun (w' : World) (h : Below w6.heap.size w6 w') => in_reads (HG.out.below (HB6.out.trans (h.mono HB6.out.size))) (k : Int)
        have ciy := fun (w' : World) (h : Below w6.heap.size w6 w') => in_reads (HY.out.below (HB6.out.trans (h.mono HB6.out.size))) (k : Int)
        obtain ⟨R, hR⟩ : ∃ R, R = outT ns es (k : Int) := ⟨_, rfl⟩
        obtain ⟨S, hS⟩ : ∃ S, S = inT ns es (k : Int) := ⟨_, rfl⟩
        rw [← hR] at co coy
        rw [← hS] at ci ciy
        have CO := Lib.hid co
        have COY := Lib.hid coy
        have CI := Lib.hid ci
        have CIY := Lib.hid ciy
        clear co coy ci ciy hR hS hw6
        go_region_held3 (fun w' => w'.cell? ⟨w1.heap.size, 0, none⟩ = some (.slice (some ⟨bN, oN, none⟩) ns.length c1) ∧ w'.cell? ⟨bN, oN + k * 2, none⟩ = some (.int .i64 x0) ∧ w'.cell? ⟨bN, oN + k * 2 + 1, none⟩ = some (.int .i64 x1) ∧
            w'.cell? ⟨v5.heap.size, 0, none⟩ = some (.int .i64 x0) ∧ w'.cell? ⟨v5.heap.size, 1, none⟩ = some (.int .i64 x1))
          (first | exact HSN.out _ L0.out | exact HSN.out _ L1.out | exact HSN.out _ L2.out | exact HSN.out _ L3.out | exact HSN.out _ L4.out | exact HSN.out _ L5.out | exact HSN.out _ L6.out)
          (first
            | (go_at_call 15
               with_reducible refine (CO.out _ L0.out).mono ?_
               rintro e y1 ⟨A1', c1', rfl, hr, _, hb⟩
               have L1 : Hid (Below w6.heap.size w6 y1) := Lib.hid (bl_then L0.out hb)
               have R1 := Lib.hid hr
               clear hb hr)
            | (go_at_call 15
               with_reducible refine (COY.out _ L1.out).mono ?_
               rintro e y2 ⟨A2', c2', rfl, hr, _, hb⟩
               have L2 : Hid (Below w6.heap.size w6 y2) := Lib.hid (bl_then L1.out hb)
               have R2 := Lib.hid hr
               have R1' := Lib.hid (R1.out.below hb)
               clear hb hr)
            | (go_at_call 23
               with_reducible refine (ints_any R1'.out R2.out).mono ?_
               rw [decide_eq_true rfl]
               rintro e y3 ⟨rfl, hb⟩
               have L3 : Hid (Below w6.heap.size w6 y3) := Lib.hid (bl_then L2.out hb)
               clear hb)
            | (go_at_call 16
               with_reducible refine (CI.out _ L3.out).mono ?_
               rintro e y4 ⟨A3', c3', rfl, hr, _, hb⟩
               have L4 : Hid (Below w6.heap.size w6 y4) := Lib.hid (bl_then L3.out hb)
               have R3 := Lib.hid hr
               clear hb hr)
            | (go_at_call 16
               with_reducible refine (CIY.out _ L4.out).mono ?_
               rintro e y5 ⟨A4', c4', rfl, hr, _, hb⟩
               have L5 : Hid (Below w6.heap.size w6 y5) := Lib.hid (bl_then L4.out hb)
               have R4 := Lib.hid hr
               have R3' := Lib.hid (R3.out.below hb)
               clear hb hr)
            | (go_at_call 23
               with_reducible refine (ints_any R3'.out R4.out).mono ?_
               rw [decide_eq_true rfl]
               rintro e y6 ⟨rfl, hb⟩
               have L6 : Hid (Below w6.heap.size w6 y6) := Lib.hid (bl_then L5.out hb)
               clear hb))
        all_goals
          go_wp2_with fail
          go_roundg (ns.length - (k + 1))
          case measure => have := HM.out; omega
          case rel => exact ⟨k + 1, rfl, by omega, by go_num, HB6.out.trans (L6.out.mono HB6.out.size)⟩
      · have hkn : ns.length = k := by omega
        subst hkn
        clear hlt hk
        have hedge := edge_at (HG.out.below HBR.out) (i : Int)
        have hil := HIL.out
        rw [edgeT_in hil, inB_nat hil] at hedge
        obtain ⟨bE, oE, rfl, hcell⟩ := (HRE.out.below HBR.out).cell (by omega)
        obtain ⟨d0, d1, d2⟩ := hcell i hil
        obtain ⟨x, hx⟩ : ∃ x, x = es.getD i (0, 0, 0) := ⟨_, rfl⟩
        rw [← hx] at hedge d0 d1 d2
        obtain ⟨x0, x1, x2⟩ := x
        dsimp only at hedge d0 d1 d2
        have HN := Lib.hid hedge
        have D0 := Lib.hid d0
        have D1 := Lib.hid d1
        have D2 := Lib.hid d2
        have k0 : (0 : Int) ≤ (i : Int) := by omega
        have k1 : (i : Int) < (es.length : Int) := by omega
        clear hedge hcell hx d0 d1 d2
        go_wp2_with fail
        refine HN.out.mono ?_
        rintro e v5 ⟨rfl, hb5⟩
        have hbn : Below wr.heap.size wr (v5.alloc (.cells #[.int .i64 x0, .int .i64 x1, .int .i64 x2] 36)) := bl_alloc hb5 _
        have hc3 := fun j v hv => cell_three_new (w := v5) (x := .int .i64 x0) (y := .int .i64 x1) (z := .int .i64 x2) (t := 36) j v hv
        have HSN : Hid (∀ w', Below (v5.alloc (.cells #[.int .i64 x0, .int .i64 x1, .int .i64 x2] 36)).heap.size (v5.alloc (.cells #[.int .i64 x0, .int .i64 x1, .int .i64 x2] 36)) w' →
            w'.cell? ⟨w1.heap.size, 1, none⟩ = some (.slice (some ⟨bE, oE, none⟩) es.length c2) ∧ w'.cell? ⟨bE, oE + i * 3, none⟩ = some (.int .i64 x0) ∧ w'.cell? ⟨bE, oE + i * 3 + 1, none⟩ = some (.int .i64 x1) ∧ w'.cell? ⟨bE, oE + i * 3 + 2, none⟩ = some (.int .i64 x2) ∧
            w'.cell? ⟨v5.heap.size, 0, none⟩ = some (.int .i64 x0) ∧ w'.cell? ⟨v5.heap.size, 1, none⟩ = some (.int .i64 x1) ∧ w'.cell? ⟨v5.heap.size, 2, none⟩ = some (.int .i64 x2)) :=
          Lib.hid fun w' h => ⟨cell_below (cell_below l1 hbn) h, cell_below (cell_below D0.out hbn) h, cell_below (cell_below D1.out hbn) h, cell_below (cell_below D2.out hbn) h, cell_below (hc3 0 _ rfl) h, cell_below (hc3 1 _ rfl) h, cell_below (hc3 2 _ rfl) h⟩
        have HB6 : Hid (Below w5.heap.size w5 (v5.alloc (.cells #[.int .i64 x0, .int .i64 x1, .int .i64 x2] 36))) := Lib.hid (HBR.out.trans (hbn.mono HBR.out.size))
        clear hb5 hbn l0 l1 l2 hc3
        go_wp2_with fail
        obtain ⟨w6, hw6⟩ : ∃ w6, w6 = v5.alloc (.cells #[.int .i64 x0, .int .i64 x1, .int .i64 x2] 36) := ⟨_, rfl⟩
        rw [← hw6] at HSN HB6 ⊢
        have L0 : Hid (Below w6.heap.size w6 w6.drew) := Lib.hid (bl_drew (Below.refl _ _))
        clear hw6
        go_region_held3 (fun w' => w'.cell? ⟨w1.heap.size, 1, none⟩ = some (.slice (some ⟨bE, oE, none⟩) es.length c2) ∧ w'.cell? ⟨bE, oE + i * 3, none⟩ = some (.int .i64 x0) ∧ w'.cell? ⟨bE, oE + i * 3 + 1, none⟩ = some (.int .i64 x1) ∧ w'.cell? ⟨bE, oE + i * 3 + 2, none⟩ = some (.int .i64 x2) ∧
            w'.cell? ⟨v5.heap.size, 0, none⟩ = some (.int .i64 x0) ∧ w'.cell? ⟨v5.heap.size, 1, none⟩ = some (.int .i64 x1) ∧ w'.cell? ⟨v5.heap.size, 2, none⟩ = some (.int .i64 x2))
          (first | exact HSN.out _ L0.out | exact HSN.out _ L1.out)
          (first
            | (go_at_call 12
               refine (awake5 _).mono ?_
               rintro e y1 ⟨rfl, hb⟩
               have L1 : Hid (Below w6.heap.size w6 y1) := Lib.hid (bl_then L0.out hb)
               clear hb))
        all_goals
          go_wp2_with fail
          go_ret
          exact ⟨rfl, HBW.out.trans ((HB6.out.trans (L1.out.mono HB6.out.size)).mono HBW.out.size)⟩
theorem walk {W : World} (A : Option Addr) (n k : Nat) (xs : List Int) (hk : ReadsI W A n k xs) (a : Int) (h5 : (Lit.int .i64 a).wf = true) (b : Int) (h6 : (Lit.int .i64 b).wf = true) :
    Calls Try.prog 5 #[.slice A n k, .int .i64 a, .int .i64 b] W fun e w' => e = .returned (.bool true) ∧ Below W.heap.size W w' := by
  by_cases h : 100 < n
  · have s1 := hk.small
    unfold maxLen at s1
    exact walk_out A n k a b (by omega) W h
  · exact walk_ins A n k xs a b h5 h6 W (by omega) hk
set_option maxRecDepth 100000 in
theorem lifted (os : Os) (started : os.Started) (H : Type) (enc : TypeId × Value → H) :
    ReturnsInHanded {} Try.checked os 5 .any (Rows.graphBansSpec.pre6 enc Try.prog Try.f5 Rows.graphBansRow.domain false) (Rows.graphBansSpec.post enc Try.prog Try.f5 false true false false) := by
  refine returnsInHanded_of_change (C := Try.checked) own started (by kernel_rfl) Try.func5
    (ChangeSpec.witness6 (enc := enc) (C := Try.checked) false ⟨#[], #[.slice none 0 0, .int .i64 0, .int .i64 0], []⟩ 8 (by kernel_rfl) (by kernel_rfl) (by kernel_rfl) (by kernel_rfl)) ?_
  intro W base args ds gs before hval0 hW hcnd _
  have hval : ∀ (j : Nat) t v, Try.f5.params[j]? = some t → args[j]? = some v → Value.okWide Try.prog W .any base t v := hval0
  have hW' := hW
  obtain ⟨p, q, hA0, hV, rfl, hfz, hnd⟩ := hW
  have hA : DataW.TrodAll enc Try.prog W 0 (fun _ => true) true Try.f5.params.toList args.toList ds p := hA0
  rw [Try.params5] at hA hval
  obtain ⟨v0, vs0, d0, ds0, p0, q0, hargs, rfl, rfl, h0, r0⟩ := trodAll_cons hA
  obtain ⟨v1, vs1, d1, ds1, p1, q1, rfl, rfl, rfl, h1, r1⟩ := trodAll_cons r0
  obtain ⟨v2, vs2, d2, ds2, p2, q2, rfl, rfl, rfl, h2, r2⟩ := trodAll_cons r1
  obtain ⟨rfl, rfl, rfl⟩ := trodAll_nil r2
  obtain rfl : args = #[v0, v1, v2] := by cases args; simp_all
  obtain ⟨rfl, rfl⟩ := trodVars_none hV
  obtain ⟨a0, n0, c0, xs0, rfl, k0⟩ := open_reads (hval 0 22 v0 rfl rfl) h0
  obtain ⟨a1, rfl, rfl, rfl, w1⟩ := open_int Try.underlying3 (hval 1 3 v1 rfl rfl) h1
  obtain ⟨a2, rfl, rfl, rfl, w2⟩ := open_int Try.underlying3 (hval 2 3 v2 rfl rfl) h2
  refine (walk a0 n0 c0 xs0 k0 a1 w1 a2 w2).mono fun e W' ⟨he, hb⟩ => ?_
  subst he
  exact ⟨_, rfl, post_law hW' hb rfl rfl rfl rfl rfl (by rw [Try.params5]; exact readable_all (by kernel_rfl))⟩
theorem over : Rows.graphBansRow.holds Try.pinned (OpenSpec.ofChange Rows.graphBansSpec) :=
  OpenClaim.holds_of_wide 5 Try.f5 rfl rfl rfl rfl rfl rfl rfl ⟨rfl, rfl, rfl, rfl, rfl⟩ rfl rfl rfl rfl rfl (by kernel_rfl) Try.func5 (by kernel_rfl)
    (of_decide_eq_true (by kernel_rfl)) (by unfold Func.isWrapper; first | (rw [if_pos (by decide +kernel)]; kernel_rfl) | (rw [if_neg (by decide +kernel)]; exact ⟨rfl, rfl⟩))
    (fun os started H enc _ => lifted os started H enc)
theorem proved : Rows.GraphBansSaid := over
#print axioms proved
end Go.Proofs.Ytjcaoejodjmmkaa.graphBans
