/- TurnsFree: without bans each edge that begins where one ends may come behind it; with one ban more just that turn is gone. For every input, without a condition. -/
import Derived.Test.YtjcaoejodjmmkaaAwake7
import Derived.Test.YtjcaoejodjmmkaaArcs
import Derived.Test.YtjcaoejodjmmkaaTurnsSum
import Derived.Test.YtjcaoejodjmmkaaRow
import Derived.Test.YtjcaoejodjmmkaaAppend
import Derived.Test.YtjcaoejodjmmkaaOutUse
import Derived.Test.YtjcaoejodjmmkaaNextOwn
import Derived.Test.YtjcaoejodjmmkaaAside
import Derived.Test.YtjcaoejodjmmkaaAlike
import Derived.Deep.RegionHeld3
set_option linter.unusedVariables false
set_option linter.unusedSimpArgs false
namespace Go.Proofs.Ytjcaoejodjmmkaa.turnsFree
open Go.ChangeShapes Go.WideShapes Go.ChangeAt Go.RowKit RowP
/-- a graph without bans, and with one -/
theorem mayB_none {ns bs : List (Int × Int)} {es : List (Int × Int × Int)} (h : mayB ns es bs = true) : mayB ns es [] = true := by
  unfold mayB at h ⊢
  unfold sizeOk at h ⊢
  simp only [Bool.and_eq_true] at h ⊢
  obtain ⟨⟨⟨⟨⟨h1, h2⟩, h3⟩, h4⟩, h5⟩, h6⟩ := h
  exact ⟨⟨⟨⟨⟨h1, h2⟩, by decide⟩, h4⟩, h5⟩, rfl⟩
theorem mayB_one {ns bs : List (Int × Int)} {es : List (Int × Int × Int)} (h : mayB ns es bs = true) {a b : Nat} (ht : turnB es [] (a : Int) (b : Int) = true) : mayB ns es [((a : Int), (b : Int))] = true := by
  unfold mayB at h ⊢
  unfold sizeOk at h ⊢
  simp only [Bool.and_eq_true] at h ⊢
  obtain ⟨⟨⟨⟨⟨h1, h2⟩, h3⟩, h4⟩, h5⟩, h6⟩ := h
  refine ⟨⟨⟨⟨⟨h1, h2⟩, by simp⟩, h4⟩, h5⟩, ?_⟩
  unfold turnB at ht
  simp only [Bool.and_eq_true] at ht
  obtain ⟨⟨⟨t1, t2⟩, t3⟩, _⟩ := ht
  refine List.all_eq_true.2 fun i hi => ?_
  have : i = 0 := by simpa using hi
  subst this
  unfold banOk
  have e : ([((a : Int), (b : Int))] : List (Int × Int)).getD 0 (0, 0) = ((a : Int), (b : Int)) := rfl
  rw [e]
  simp only [Bool.and_eq_true]
  exact ⟨⟨⟨t1, t2⟩, t3⟩, by simp⟩
theorem next_out {ns bs : List (Int × Int)} {es : List (Int × Int × Int)} (h : mayB ns es bs = true) {a : Nat} (ha : a < es.length) : nextT es [] (a : Int) = outT ns es ((toN es a : Nat) : Int) := by
  obtain ⟨_, _, hf, ht⟩ := mayB_parts h
  rw [outT_in (ht a ha).2]
  unfold nextT rowOf
  congr 1
  apply List.filter_congr
  intro q hq
  rw [List.mem_range] at hq
  rw [turnB_nat ha hq, (ht a ha).1, (hf q hq).1, Bool.eq_iff_iff]
  simp
  omega
theorem turnB_one {es : List (Int × Int × Int)} {a b : Int} (x y : Int) : turnB es [(a, b)] x y = (turnB es [] x y && !decide ((x, y) = (a, b))) := by
  unfold turnB; simp
theorem next_other {es : List (Int × Int × Int)} {a b x : Int} (h : x ≠ a) : nextT es [(a, b)] x = nextT es [] x := by
  unfold nextT
  congr 1
  apply List.filter_congr
  intro q _
  rw [turnB_one]
  have : decide ((x, ((q : Nat) : Int)) = (a, b)) = false := decide_eq_false fun e => h (by injection e)
  rw [this]; simp
theorem filter_ne {l : List Int} (hn : l.Nodup) {j : Nat} (hj : j < l.length) : l.filter (fun x => !decide (x = l.getD j 0)) = l.take j ++ l.drop (j + 1) := by
  induction l generalizing j with
  | nil => simp at hj
  | cons y l ih =>
    have hn' := List.nodup_cons.1 hn
    cases j with
    | zero =>
      have : l.filter (fun x => !decide (x = y)) = l := List.filter_eq_self.2 fun x hx => by simp; intro e; subst e; exact hn'.1 hx
      simp [List.filter_cons, this]
    | succ j =>
      have hj' : j < l.length := by simpa using hj
      have e : (y :: l).getD (j + 1) 0 = l.getD j 0 := by simp
      have hne : y ≠ l.getD j 0 := fun e2 => hn'.1 (by rw [e2]; exact getD_mem hj')
      rw [e, List.filter_cons]
      simp only [hne, decide_false, Bool.not_false, if_true]
      rw [ih hn'.2 hj']; rfl
theorem next_nodup (es : List (Int × Int × Int)) (bs : List (Int × Int)) (e : Int) : (nextT es bs e).Nodup := by
  unfold nextT
  have h : ((List.range es.length).filter (fun i => turnB es bs e ((i : Nat) : Int))).Nodup := List.nodup_range.filter _
  exact List.Pairwise.map _ (fun a b h e => h (by omega)) h
theorem next_one {es : List (Int × Int × Int)} {a : Int} {j : Nat} (hj : j < (nextT es [] a).length) : nextT es [(a, (nextT es [] a).getD j 0)] a = (nextT es [] a).take j ++ (nextT es [] a).drop (j + 1) := by
  rw [← filter_ne (next_nodup es [] a) hj]
  obtain ⟨b, hb⟩ : ∃ b, b = (nextT es [] a).getD j 0 := ⟨_, rfl⟩
  rw [← hb]
  unfold nextT
  rw [List.filter_map, List.filter_filter]
  congr 1
  apply List.filter_congr
  intro q _
  rw [turnB_one, Bool.and_comm]
  simp
theorem arcs_one {es : List (Int × Int × Int)} {a : Nat} (ha : a < es.length) {j : Nat} (hj : j < (nextT es [] (a : Int)).length) : (arcsT es [((a : Int), (nextT es [] (a : Int)).getD j 0)]).length + 1 = (arcsT es []).length := by
  unfold arcsT
  rw [arcsN_sum, arcsN_sum]
  have e : sm (fun x => (nextT es [] ((x : Nat) : Int)).length) es.length = sm (fun x => (nextT es [((a : Int), (nextT es [] (a : Int)).getD j 0)] ((x : Nat) : Int)).length + if a = x then 1 else 0) es.length := by
    apply sm_congr
    intro x hx
    by_cases hxa : a = x
    · subst hxa
      rw [next_one hj, if_pos rfl, List.length_append, List.length_take, List.length_drop]; omega
    · rw [if_neg hxa, Nat.add_zero, next_other (fun e => hxa (by omega))]
  rw [e, sm_add, sm_single (fun _ => 1), if_pos ha]
theorem round_still {k n : Int} (hk : (Lit.int .i64 k).wf = true) (hn : 0 < n) (hn2 : n ≤ 4611686018427387904) (w : World) :
    Calls Try.prog 19 #[.int .i64 k, .int .i64 n] w fun e w' => e = .returned (.int .i64 (k % n)) ∧ w' = w := (round_any hk hn hn2 w).mono fun e w' h => ⟨h.1, h.2.symm⟩
set_option maxRecDepth 100000 in
set_option maxHeartbeats 4000000 in
theorem walk_out (A : Option Addr) (n k : Nat) (a b : Int) (hs : n ≤ 9223372036854775807) (w : World) (h : 100 < n) :
    Calls Try.prog 10 #[.slice A n k, .int .i64 a, .int .i64 b] w fun e w' => e = .returned (.bool true) ∧ Below w.heap.size w w' := by
  go_enter Try.func10, Try.ntmps10
  go_wp2_with (go_at_call 31; refine (awake7 _).mono ?_; rintro e w1 ⟨rfl, hb1⟩)
  go_ret
  exact ⟨rfl, by assumption⟩
set_option maxRecDepth 100000 in
set_option maxHeartbeats 8000000 in
theorem walk_ins (A : Option Addr) (n k : Nat) (xs : List Int) (a b : Int) (ha : (Lit.int .i64 a).wf = true) (hb : (Lit.int .i64 b).wf = true) (w : World) (h : n ≤ 100) (hk : ReadsI w A n k xs) :
    Calls Try.prog 10 #[.slice A n k, .int .i64 a, .int .i64 b] w fun e w' => e = .returned (.bool true) ∧ Below w.heap.size w w' := by
  have HK := Lib.hid hk
  have HOK := Lib.hid (town_good xs)
  clear hk
  obtain ⟨ns, hns⟩ : ∃ ns, ns = townN xs := ⟨_, rfl⟩
  obtain ⟨es, hes⟩ : ∃ es, es = townE xs := ⟨_, rfl⟩
  obtain ⟨bs, hbs⟩ : ∃ bs, bs = townB xs := ⟨_, rfl⟩
  have HTC := Lib.hid (town_call HK.out)
  have hE70 := len_townE xs
  rw [← hes] at hE70
  rw [← hns, ← hes, ← hbs] at HOK HTC
  clear hns hes hbs
  obtain ⟨s1, s2, s3, s4⟩ := (mayB_parts HOK.out).2.1
  have HWA := Lib.hid ha
  have HWB := Lib.hid hb
  have HNO := Lib.hid (mayB_none HOK.out)
  clear ha hb
  go_enter Try.func10, Try.ntmps10
  go_wp2_with fail
  refine HTC.out.mono ?_
  rintro e w1 ⟨A1, A2, A3, c1, c2, c3, rfl, hT⟩
  have HT := Lib.hid hT
  have kk := fun j v hv => cell_three_new (w := w1) (x := .slice A1 ns.length c1) (y := .slice A2 es.length c2) (z := .slice none 0 0) (t := 28) j v hv
  obtain ⟨v0, hv0⟩ : ∃ v0, v0 = w1.alloc (.cells #[.slice A1 ns.length c1, .slice A2 es.length c2, .slice none 0 0] 28) := ⟨_, rfl⟩
  have hbv : Below w1.heap.size w1 v0 := by rw [hv0]; exact bl_alloc (Below.refl w1.heap.size w1) _
  rw [← hv0] at kk
  have hrn : ReadsP v0 none 0 0 [] := ⟨rfl, by decide, fun h => by omega, by simp⟩
  have HNEW := Lib.hid (new_ok (HT.out.rN.below hbv) (HT.out.rE.below hbv) hrn HNO.out)
  have HBV := Lib.hid hbv
  have HV0 := Lib.hid hv0
  have HS : Hid (∀ w', Below v0.heap.size v0 w' → w'.cell? ⟨w1.heap.size, 0, none⟩ = some (.slice A1 ns.length c1) ∧ w'.cell? ⟨w1.heap.size, 1, none⟩ = some (.slice A2 es.length c2) ∧ w'.cell? ⟨w1.heap.size, 2, none⟩ = some (.slice none 0 0)) :=
    Lib.hid fun w' h => ⟨cell_below (kk 0 _ rfl) h, cell_below (kk 1 _ rfl) h, cell_below (kk 2 _ rfl) h⟩
  have hkk := fun j v hv => cell_three_new (w := w1) (x := .slice A1 ns.length c1) (y := .slice A2 es.length c2) (z := .slice A3 bs.length c3) (t := 28) j v hv
  have k0 := hkk 0 _ rfl
  have k1 := hkk 1 _ rfl
  have k2 := hkk 2 _ rfl
  clear hT HTC kk hbv hv0 hrn hkk
  go_wp2_with fail
  rw [← HV0.out]
  refine HNEW.out.mono ?_
  rintro e v1 ⟨p, rfl, hG, hb1⟩
  have B1 := Lib.hid hb1
  have hN1 := turns_new hG
  obtain ⟨k0, k1, k2⟩ := HS.out _ hb1
  have HN1 := Lib.hid hN1
  have HG := Lib.hid hG
  clear hb1 hG hN1 HNEW
  go_wp2_with fail
  refine HN1.out.mono ?_
  rintro e v2 ⟨t, rfl, hT2, hb2⟩
  have B2 := Lib.hid (bl_then B1.out hb2)
  have HTU := Lib.hid hT2
  have HG2 := Lib.hid (HG.out.below hb2)
  obtain ⟨k0, k1, k2⟩ := HS.out _ B2.out
  have i0 := Int.emod_nonneg a (show (es.length : Int) ≠ 0 by omega)
  have i1 := Int.emod_lt_of_pos a (show (0 : Int) < es.length by omega)
  obtain ⟨i, hi⟩ : ∃ i : Nat, a % (es.length : Int) = (i : Int) := ⟨(a % (es.length : Int)).toNat, by omega⟩
  have ra := fun w => round_still HWA.out (n := (es.length : Int)) (by omega) (by omega) w
  rw [hi] at ra i0 i1
  have RA := Lib.hid ra
  have HIL : Hid (i < es.length) := Lib.hid (by omega)
  clear hb2 hT2 hi ra HN1
  go_wp2_with fail
  refine (RA.out _).mono ?_
  rintro e v2' ⟨rfl, rfl⟩
  have HGR : Hid (∀ w', Below v0.heap.size v0 w' → GR w' A1 A2 none ns.length es.length 0 c1 c2 0 ns es []) := Lib.hid fun w' hb =>
    ⟨(HT.out.rN.below HBV.out).below hb, (HT.out.rE.below HBV.out).below hb, ⟨rfl, by decide, fun h => by omega, by simp⟩⟩
  have hn4 := next4_own (HGR.out _ B2.out) s3 (i : Int)
  have HN4 := Lib.hid hn4
  obtain ⟨bE, oE, rfl, hcell⟩ := ((HT.out.rE.below HBV.out).below B2.out).cell (by omega)
  obtain ⟨_, d1, _⟩ := hcell i HIL.out
  have D1 := Lib.hid d1
  obtain ⟨_, _, _, hto⟩ := mayB_parts HNO.out
  have hx1 := (hto i HIL.out).1
  have HX1 := Lib.hid hx1
  have hno := next_out HNO.out HIL.out
  have HNX := Lib.hid hno
  obtain ⟨N, hN⟩ : ∃ N, N = nextT es [] (i : Int) := ⟨_, rfl⟩
  have hNl := nextT_len es [] (i : Int)
  rw [← hN] at hNl
  have HNN := Lib.hid hN
  clear hcell d1 hx1 hno hn4
  go_wp2_with fail
  refine HN4.out.mono ?_
  rw [← HNN.out]
  rintro e v3 ⟨AN, cN, rfl, hrN, hfN, hb3, hcap1, hcap2⟩
  have B3 := Lib.hid (bl_then B2.out hb3)
  have HG3 := Lib.hid (HG2.out.below hb3)
  have HT3 := Lib.hid (HTU.out.below hb3)
  have HRN := Lib.hid hrN
  have d1 := cell_below D1.out hb3
  rw [HX1.out] at d1
  have D3 := Lib.hid d1
  obtain ⟨k0, k1, k2⟩ := HS.out _ B3.out
  clear hb3 hrN hfN D1 HN4 d1 HX1 hN
  have L0 : Hid (Below v3.heap.size v3 v3.drew) := Lib.hid (bl_drew (Below.refl _ _))
  have cn := fun (w' : World) (h : Below v3.heap.size v3 w') => next_at (HT3.out.below h) (i : Int)
  rw [← HNN.out] at cn
  have co := fun (w' : World) (h : Below v3.heap.size v3 w') => out_reads (HG3.out.below h) ((toN es i : Nat) : Int)
  rw [← HNX.out, ← HNN.out] at co
  have CN := Lib.hid cn
  have CO := Lib.hid co
  have HS3 : Hid (∀ w', Below v3.heap.size v3 w' → w'.cell? ⟨w1.heap.size, 1, none⟩ = some (.slice (some ⟨bE, oE, none⟩) es.length c2) ∧ w'.cell? ⟨bE, oE + i * 3 + 1, none⟩ = some (.int .i64 ((toN es i : Nat) : Int))) := Lib.hid fun w' hb => ⟨cell_below k1 hb, cell_below D3.out hb⟩
  have z0 : (0 : Int) ≤ (i : Int) := by omega
  have z1 : (i : Int) < (es.length : Int) := by omega
  clear cn co k0 k1 k2
  go_wp2_with fail
  go_region_held3 (fun w' => w'.cell? ⟨w1.heap.size, 1, none⟩ = some (.slice (some ⟨bE, oE, none⟩) es.length c2) ∧ w'.cell? ⟨bE, oE + i * 3 + 1, none⟩ = some (.int .i64 ((toN es i : Nat) : Int)))
    (first | exact HS3.out _ L0.out | exact HS3.out _ L1.out | exact HS3.out _ L2.out | exact HS3.out _ L3.out)
    (first
      | (go_at_call 33
         refine (CN.out _ L0.out).mono ?_
         rintro e y1 ⟨C1, d1, rfl, hr, _, hb⟩
         have L1 : Hid (Below v3.heap.size v3 y1) := Lib.hid (bl_then L0.out hb)
         have R1 := Lib.hid hr
         clear hb hr)
      | (go_at_call 15
         refine (CO.out _ L1.out).mono ?_
         rintro e y2 ⟨C2, d2, rfl, hr, _, hb⟩
         have L2 : Hid (Below v3.heap.size v3 y2) := Lib.hid (bl_then L1.out hb)
         have R2 := Lib.hid hr
         have R1' := Lib.hid (R1.out.below hb)
         clear hb hr)
      | (go_at_call 23
         refine (ints_any R1'.out R2.out).mono ?_
         rw [decide_eq_true rfl]
         rintro e y3 ⟨rfl, hb⟩
         have L3 : Hid (Below v3.heap.size v3 y3) := Lib.hid (bl_then L2.out hb)
         clear hb))
  all_goals
    clear L0 L1 L2 R1 R1' R2 CN CO HS3
    have B4 := Lib.hid (bl_then B3.out L3.out)
    have HG4 := Lib.hid (HG3.out.below L3.out)
    have HT4 := Lib.hid (HT3.out.below L3.out)
    have HRN4 := Lib.hid (HRN.out.below L3.out)
    obtain ⟨k0, k1, k2⟩ := HS.out _ B4.out
    have HBW : Hid (Below w.heap.size w y3) := Lib.hid ((HT.out.below.trans (HBV.out.mono HT.out.below.size)).trans (B4.out.mono (Nat.le_trans HT.out.below.size HBV.out.size)))
    obtain ⟨v4, rfl⟩ : ∃ v4 : World, v4 = y3 := ⟨_, rfl⟩
    clear L3 HRN HG3 HT3
    by_cases hz : N.length = 0
    · clear k0 k1 k2
      go_wp2_with fail
      refine (awake7 _).mono ?_
      rintro e y4 ⟨rfl, hb⟩
      have HB5 := Lib.hid hb
      clear hb
      go_wp2_with fail
      go_ret
      exact ⟨rfl, HBW.out.trans (HB5.out.mono HBW.out.size)⟩
    · have j0 := Int.emod_nonneg b (show (N.length : Int) ≠ 0 by omega)
      have j1 := Int.emod_lt_of_pos b (show (0 : Int) < N.length by omega)
      obtain ⟨j, hj⟩ : ∃ j : Nat, b % (N.length : Int) = (j : Int) := ⟨(b % (N.length : Int)).toNat, by omega⟩
      have rb := fun w => round_still HWB.out (n := (N.length : Int)) (by omega) (by omega) w
      rw [hj] at rb j0 j1
      have RB := Lib.hid rb
      have hjl : j < N.length := by omega
      obtain ⟨bN, oN, rfl, hcN⟩ := HRN4.out.cell (by omega)
      have hx := hcN j hjl
      have hmb : ∃ q : Nat, N.getD j 0 = (q : Int) := by
        have hm : N.getD j 0 ∈ nextT es [] (i : Int) := by rw [← HNN.out]; exact getD_mem hjl
        obtain ⟨_, q, _, e2, _⟩ := turnB_in (nextT_mem.1 hm)
        exact ⟨q, e2⟩
      obtain ⟨x, hxe⟩ : ∃ x, x = N.getD j 0 := ⟨_, rfl⟩
      rw [← hxe] at hx hmb
      have HXE := Lib.hid hxe
      have HMB := Lib.hid hmb
      clear hcN hj rb hxe hmb
      go_wp2_with fail
      refine (RB.out _).mono ?_
      rintro e v4' ⟨rfl, rfl⟩
      have hx2 := cell_below hx (bl_alloc (Below.refl v4'.heap.size v4') (.cells #[.slice A1 ns.length c1, .slice (some ⟨bE, oE, none⟩) es.length c2, .slice none 0 0] 28))
      have hne : bN ≠ v4'.heap.size := by have := World.block_lt_of_cell? v4' _ hx; simp only at this; omega
      clear hx
      go_wp2_with fail
      obtain ⟨v5, hv5⟩ : ∃ v5, v5 = (v4'.alloc (.cells #[.slice A1 ns.length c1, .slice (some ⟨bE, oE, none⟩) es.length c2, .slice (some ⟨v4'.heap.size + 1, 0, none⟩) 1 1] 28)).alloc (.cells #[.int .i64 (i : Int), .int .i64 x] 43) := ⟨_, rfl⟩
      rw [← hv5]
      obtain ⟨q, hq⟩ := HMB.out
      subst hq
      have hb5 : Below v4'.heap.size v4' v5 := by rw [hv5]; exact bl_alloc (bl_alloc (Below.refl _ _) _) _
      have hp0 : v5.cell? ⟨v4'.heap.size + 1, 0, none⟩ = some (.int .i64 (i : Int)) := by rw [hv5]; exact cell_two_new0 (size_alloc _ _)
      have hp1 : v5.cell? ⟨v4'.heap.size + 1, 1, none⟩ = some (.int .i64 (q : Int)) := by rw [hv5]; exact cell_two_new1 (size_alloc _ _)
      have hma : mayB ns es [((i : Int), (q : Int))] = true := by
        refine mayB_one HNO.out ?_
        have hm : N.getD j 0 ∈ nextT es [] (i : Int) := by rw [← HNN.out]; exact getD_mem hjl
        rw [← HXE.out] at hm
        exact nextT_mem.1 hm
      have hrp : ReadsP v5 (some ⟨v4'.heap.size + 1, 0, none⟩) 1 1 [((i : Int), (q : Int))] := by
        refine ⟨rfl, by decide, fun _ => ⟨_, _, rfl, fun k hk => ?_⟩, (mayB_wf hma).2.2⟩
        obtain rfl : k = 0 := by omega
        exact ⟨hp0, hp1⟩
      have hnew := new_ok (((HT.out.rN.below HBV.out).below B4.out).below hb5) (((HT.out.rE.below HBV.out).below B4.out).below hb5) hrp hma
      have HNEW := Lib.hid hnew
      have HB5 := Lib.hid hb5
      clear hx2 hv5 hb5 hp0 hp1 hrp hnew
      refine HNEW.out.mono ?_
      rintro e v6 ⟨p2, rfl, hG, hb6⟩
      have hN1 := turns_new hG
      have HB6 := Lib.hid (bl_then HB5.out (hb6))
      have HN1 := Lib.hid hN1
      clear hb6 hG hN1 HNEW HB5
      go_wp2_with fail
      refine HN1.out.mono ?_
      rintro e v7 ⟨u, rfl, hU, hb7⟩
      have HB7 := Lib.hid (bl_then HB6.out hb7)
      have HU := Lib.hid hU
      have HT7 := Lib.hid (HT4.out.below HB7.out)
      have HR7 := Lib.hid (HRN4.out.below HB7.out)
      have HBW7 : Hid (Below w.heap.size w v7) := Lib.hid (HBW.out.trans (HB7.out.mono HBW.out.size))
      clear hb7 hU HN1 HB6
      go_wp2_with fail
      obtain ⟨j1, hj1⟩ : ∃ m, m = j + 1 := ⟨_, rfl⟩
      have hrows : nextT es [((i : Int), (q : Int))] (i : Int) = N.take j ++ N.drop j1 := by
        rw [hj1]
        have h1 := next_one (es := es) (a := (i : Int)) (j := j) (by rw [← HNN.out]; exact hjl)
        rw [← HNN.out, ← HXE.out] at h1
        exact h1
      have harc : (arcsT es [((i : Int), (q : Int))]).length + 1 = (arcsT es []).length := by
        have h1 := arcs_one (es := es) (a := i) HIL.out (j := j) (by rw [← HNN.out]; exact hjl)
        rw [← HNN.out, ← HXE.out] at h1
        exact h1
      have hal : (arcsT es []).length ≤ 262144 := by
        unfold arcsT
        rw [arcsN_sum]
        exact Nat.le_trans (sm_le _ _ _ fun i hi => Nat.le_trans (nextT_len _ _ _) s3) (by omega)
      have un := fun (w' : World) (h : Below v7.heap.size v7 w') => next_at (HU.out.below h) (i : Int)
      have ua := fun (w' : World) (h : Below v7.heap.size v7 w') => arcs_at (HU.out.below h)
      have ta := fun (w' : World) (h : Below v7.heap.size v7 w') => arcs_at (HT7.out.below h)
      obtain ⟨M, hM⟩ : ∃ M, M = nextT es [((i : Int), (q : Int))] (i : Int) := ⟨_, rfl⟩
      obtain ⟨Lu, hLu⟩ : ∃ L, L = (arcsT es [((i : Int), (q : Int))]).length := ⟨_, rfl⟩
      obtain ⟨Lt, hLt⟩ : ∃ L, L = (arcsT es []).length := ⟨_, rfl⟩
      rw [← hLu, ← hLt] at harc
      rw [← hLt] at hal ta
      rw [← hLu] at ua
      rw [← hM] at hrows un
      have hMw : ∀ x ∈ N, (Lit.int .i64 x).wf = true := HR7.out.wf
      have UN := Lib.hid un
      have UA := Lib.hid ua
      have TA := Lib.hid ta
      have HMM := Lib.hid hrows
      have HWF : Hid (∀ x ∈ N.take j ++ N.drop j1, (Lit.int .i64 x).wf = true) := Lib.hid fun x hx => by
        rcases List.mem_append.1 hx with h1 | h1
        · exact hMw x (List.mem_of_mem_take h1)
        · exact hMw x (List.mem_of_mem_drop h1)
      have S0 : Hid (RS v7 v7.drew (.slice none 0 0) 0 []) := Lib.hid (RS.start (bl_drew (Below.refl _ _)))
      have S0B := Lib.hid S0.out.build
      have S0C : Hid (RS v7 (v7.alloc (.cells #[] 3)).drew (.slice (some ⟨v7.heap.size, 0, none⟩) 0 0) 0 []) := Lib.hid ((RS.start (Below.refl _ _)).build.below (bl_drew (Below.refl _ _)))
      have SF := Lib.hid (Src.front HR7.out (by omega) (j := j) (by omega))
      obtain ⟨i1', hi1'⟩ := info1
      have II := Lib.hid hi1'
      have HL1 : Hid (0 + j ≤ maxLen ∧ (0 + j) * 8 ≤ 140737488355328) := Lib.hid ⟨by unfold maxLen; omega, by omega⟩
      have HL2 : Hid (j + (N.length - j1) ≤ maxLen ∧ (j + (N.length - j1)) * 8 ≤ 140737488355328) := Lib.hid ⟨by unfold maxLen; omega, by omega⟩
      have e1 : IntKind.i64.wrap ((Lt : Int) - 1) = (Lu : Int) := by rw [IntWalk.i64_in _ (by omega)]; omega
      have e2 : IntKind.i64.wrap ((j : Int) + 1) = (j1 : Int) := by rw [IntWalk.i64_in _ (by omega)]; omega
      have g0 : (0 : Int) ≤ (j1 : Int) := by omega
      have g1 : (j : Int) ≤ (cN : Int) := by omega
      have g2 : (j1 : Int) ≤ (N.length : Int) := by omega
      have g3 : j ≤ cN := by omega
      have g5 : ¬ cN = 0 := by omega
      have HCN := Lib.hid hcap1
      have HJ := Lib.hid hj1
      have H4 : Hid (j1 ≤ N.length ∧ 0 < N.length) := Lib.hid ⟨by omega, by omega⟩
      clear hcap1 hcap2 hj1 hrows harc hal un ua ta hM hLu hLt hMw hi1'
      by_cases hc : cN = j1
      · subst hc
        have SR := Lib.hid (Src.rest HR7.out H4.out.2 (j := cN) H4.out.1 oN (fun h => by have := HCN.out; omega))
        go_region_held3 (fun _ => True) (exact trivial)
          (first
            | (go_at_call 33
               with_reducible refine (UN.out _ S0.out.bl).mono ?_
               rintro e y1 ⟨C1, d1, rfl, hr, hf, hb⟩
               have S1 := Lib.hid (S0.out.below hb)
               have NN1 := Lib.hid (NS.of S0.out hr hf)
               clear hr hf hb)
            | (go_at_call 33
               with_reducible refine (UN.out _ S0B.out.bl).mono ?_
               rintro e y1 ⟨C1, d1, rfl, hr, hf, hb⟩
               have S2 := Lib.hid (S0B.out.below hb)
               have NN2 := Lib.hid (NS.of S0B.out hr hf)
               clear hr hf hb)
            | (go_at_call 33
               with_reducible refine (UN.out _ S0C.out.bl).mono ?_
               rintro e y1 ⟨C1, d1, rfl, hr, hf, hb⟩
               have S2 := Lib.hid (S0C.out.below hb)
               have NN2 := Lib.hid (NS.of S0C.out hr hf)
               clear hr hf hb)
            | (refine step_push (by rfl) (.tmp 98) (.tmp 101) 22 (by rfl) _ 3 Try.underlying22 II.out ⟨rfl, by decide⟩ _ 0 _ (by rfl) (S1.out.build).row (some ⟨bN, oN, none⟩) j cN _ (by rfl) (SF.out.below (S1.out.build).bl) HL1.out (S1.out.build).bl.size ?_
               intro v1 u1 hgr
               have hs3 := (S1.out.build).push hgr
               rw [Nat.zero_add, List.nil_append] at hs3
               have S3 := Lib.hid hs3
               have NN3 := Lib.hid ((NN1.out.build).push hgr)
               clear hgr hs3)
            | (refine step_push (by rfl) (.tmp 98) (.tmp 101) 22 (by rfl) _ 3 Try.underlying22 II.out ⟨rfl, by decide⟩ _ 0 _ (by rfl) S2.out.row (some ⟨bN, oN, none⟩) j cN _ (by rfl) (SF.out.below S2.out.bl) HL1.out S2.out.bl.size ?_
               intro v1 u1 hgr
               have hs3 := S2.out.push hgr
               rw [Nat.zero_add, List.nil_append] at hs3
               have S3 := Lib.hid hs3
               have NN3 := Lib.hid (NN2.out.push hgr)
               clear hgr hs3)
            | (refine step_push (by rfl) (.tmp 102) (.tmp 106) 22 (by rfl) _ 3 Try.underlying22 II.out ⟨rfl, by decide⟩ _ j _ (by rfl) S3.out.row (some ⟨bN, oN, none⟩) (N.length - cN) 0 _ (by rfl) (SR.out.below S3.out.bl) HL2.out S3.out.bl.size ?_
               intro v2 u2 hgr
               have hs4 := S3.out.push hgr
               have hn4 := NN3.out.push hgr
               obtain ⟨A9, c9, hv9⟩ := hgr.val
               subst hv9
               have hr9 := ReadsI.of_row hs4.row HL2.out.1 HWF.out
               rw [← HMM.out] at hr9
               have R9 := Lib.hid hr9
               have NN4 := Lib.hid hn4.rd
               have B4' := Lib.hid hs4.bl
               clear hgr hs4 hn4 hr9)
            | (go_at_call 23
               refine (ints_any NN4.out R9.out).mono ?_
               rw [decide_eq_true rfl]
               rintro e y3 ⟨rfl, hb⟩
               have B5' : Hid (Below v7.heap.size v7 y3) := Lib.hid (bl_then B4'.out hb)
               clear hb)
            | (go_at_call 40
               with_reducible refine (UA.out _ B5'.out).mono ?_
               rintro e y4 ⟨D1, f1, rfl, _, hb⟩
               have B6' : Hid (Below v7.heap.size v7 y4) := Lib.hid (bl_then B5'.out hb)
               clear hb)
            | (go_at_call 40
               with_reducible refine (TA.out _ B6'.out).mono ?_
               rintro e y5 ⟨D2, f2, rfl, _, hb⟩
               have B7' : Hid (Below v7.heap.size v7 y5) := Lib.hid (bl_then B6'.out hb)
               clear hb)
            | (go_at_call 31
               refine (awake7 _).mono ?_
               rintro e y6 ⟨rfl, hb⟩
               have B8' : Hid (Below v7.heap.size v7 y6) := Lib.hid (bl_then B7'.out hb)
               clear hb))
        all_goals
          go_wp2_with fail
          go_ret
          exact ⟨rfl, HBW7.out.trans (B8'.out.mono HBW7.out.size)⟩
      · have SR := Lib.hid (Src.rest HR7.out H4.out.2 (j := j1) H4.out.1 (oN + j1) (fun h => rfl))
        go_region_held3 (fun _ => True) (exact trivial)
          (first
            | (go_at_call 33
               with_reducible refine (UN.out _ S0.out.bl).mono ?_
               rintro e y1 ⟨C1, d1, rfl, hr, hf, hb⟩
               have S1 := Lib.hid (S0.out.below hb)
               have NN1 := Lib.hid (NS.of S0.out hr hf)
               clear hr hf hb)
            | (go_at_call 33
               with_reducible refine (UN.out _ S0B.out.bl).mono ?_
               rintro e y1 ⟨C1, d1, rfl, hr, hf, hb⟩
               have S2 := Lib.hid (S0B.out.below hb)
               have NN2 := Lib.hid (NS.of S0B.out hr hf)
               clear hr hf hb)
            | (go_at_call 33
               with_reducible refine (UN.out _ S0C.out.bl).mono ?_
               rintro e y1 ⟨C1, d1, rfl, hr, hf, hb⟩
               have S2 := Lib.hid (S0C.out.below hb)
               have NN2 := Lib.hid (NS.of S0C.out hr hf)
               clear hr hf hb)
            | (refine step_push (by rfl) (.tmp 98) (.tmp 101) 22 (by rfl) _ 3 Try.underlying22 II.out ⟨rfl, by decide⟩ _ 0 _ (by rfl) (S1.out.build).row (some ⟨bN, oN, none⟩) j cN _ (by rfl) (SF.out.below (S1.out.build).bl) HL1.out (S1.out.build).bl.size ?_
               intro v1 u1 hgr
               have hs3 := (S1.out.build).push hgr
               rw [Nat.zero_add, List.nil_append] at hs3
               have S3 := Lib.hid hs3
               have NN3 := Lib.hid ((NN1.out.build).push hgr)
               clear hgr hs3)
            | (refine step_push (by rfl) (.tmp 98) (.tmp 101) 22 (by rfl) _ 3 Try.underlying22 II.out ⟨rfl, by decide⟩ _ 0 _ (by rfl) S2.out.row (some ⟨bN, oN, none⟩) j cN _ (by rfl) (SF.out.below S2.out.bl) HL1.out S2.out.bl.size ?_
               intro v1 u1 hgr
               have hs3 := S2.out.push hgr
               rw [Nat.zero_add, List.nil_append] at hs3
               have S3 := Lib.hid hs3
               have NN3 := Lib.hid (NN2.out.push hgr)
               clear hgr hs3)
            | (refine step_push (by rfl) (.tmp 102) (.tmp 106) 22 (by rfl) _ 3 Try.underlying22 II.out ⟨rfl, by decide⟩ _ j _ (by rfl) S3.out.row (some ⟨bN, (oN + j1), none⟩) (N.length - j1) (cN - j1) _ (by rfl) (SR.out.below S3.out.bl) HL2.out S3.out.bl.size ?_
               intro v2 u2 hgr
               have hs4 := S3.out.push hgr
               have hn4 := NN3.out.push hgr
               obtain ⟨A9, c9, hv9⟩ := hgr.val
               subst hv9
               have hr9 := ReadsI.of_row hs4.row HL2.out.1 HWF.out
               rw [← HMM.out] at hr9
               have R9 := Lib.hid hr9
               have NN4 := Lib.hid hn4.rd
               have B4' := Lib.hid hs4.bl
               clear hgr hs4 hn4 hr9)
            | (go_at_call 23
               refine (ints_any NN4.out R9.out).mono ?_
               rw [decide_eq_true rfl]
               rintro e y3 ⟨rfl, hb⟩
               have B5' : Hid (Below v7.heap.size v7 y3) := Lib.hid (bl_then B4'.out hb)
               clear hb)
            | (go_at_call 40
               with_reducible refine (UA.out _ B5'.out).mono ?_
               rintro e y4 ⟨D1, f1, rfl, _, hb⟩
               have B6' : Hid (Below v7.heap.size v7 y4) := Lib.hid (bl_then B5'.out hb)
               clear hb)
            | (go_at_call 40
               with_reducible refine (TA.out _ B6'.out).mono ?_
               rintro e y5 ⟨D2, f2, rfl, _, hb⟩
               have B7' : Hid (Below v7.heap.size v7 y5) := Lib.hid (bl_then B6'.out hb)
               clear hb)
            | (go_at_call 31
               refine (awake7 _).mono ?_
               rintro e y6 ⟨rfl, hb⟩
               have B8' : Hid (Below v7.heap.size v7 y6) := Lib.hid (bl_then B7'.out hb)
               clear hb))
        all_goals
          go_wp2_with fail
          go_ret
          exact ⟨rfl, HBW7.out.trans (B8'.out.mono HBW7.out.size)⟩
theorem walk {W : World} (A : Option Addr) (n k : Nat) (xs : List Int) (hk : ReadsI W A n k xs) (a : Int) (h5 : (Lit.int .i64 a).wf = true) (b : Int) (h6 : (Lit.int .i64 b).wf = true) :
    Calls Try.prog 10 #[.slice A n k, .int .i64 a, .int .i64 b] W fun e w' => e = .returned (.bool true) ∧ Below W.heap.size W w' := by
  by_cases h : 100 < n
  · have s1 := hk.small
    unfold maxLen at s1
    exact walk_out A n k a b (by omega) W h
  · exact walk_ins A n k xs a b h5 h6 W (by omega) hk
set_option maxRecDepth 100000 in
theorem lifted (os : Os) (started : os.Started) (H : Type) (enc : TypeId × Value → H) :
    ReturnsInHanded {} Try.checked os 10 .any (Rows.turnsFreeSpec.pre6 enc Try.prog Try.f10 Rows.turnsFreeRow.domain false) (Rows.turnsFreeSpec.post enc Try.prog Try.f10 false true false false) := by
  refine returnsInHanded_of_change (C := Try.checked) own started (by kernel_rfl) Try.func10
    (ChangeSpec.witness6 (enc := enc) (C := Try.checked) false ⟨#[], #[.slice none 0 0, .int .i64 0, .int .i64 0], []⟩ 8 (by kernel_rfl) (by kernel_rfl) (by kernel_rfl) (by kernel_rfl)) ?_
  intro W base args ds gs before hval0 hW hcnd _
  have hval : ∀ (j : Nat) t v, Try.f10.params[j]? = some t → args[j]? = some v → Value.okWide Try.prog W .any base t v := hval0
  have hW' := hW
  obtain ⟨p, q, hA0, hV, rfl, hfz, hnd⟩ := hW
  have hA : DataW.TrodAll enc Try.prog W 0 (fun _ => true) true Try.f10.params.toList args.toList ds p := hA0
  rw [Try.params10] at hA hval
  obtain ⟨v0, vs0, d0, ds0, p0, q0, hargs, rfl, rfl, h0, r0⟩ := trodAll_cons hA
  obtain ⟨v1, vs1, d1, ds1, p1, q1, rfl, rfl, rfl, h1, r1⟩ := trodAll_cons r0
  obtain ⟨v2, vs2, d2, ds2, p2, q2, rfl, rfl, rfl, h2, r2⟩ := trodAll_cons r1
  obtain ⟨rfl, rfl, rfl⟩ := trodAll_nil r2
  obtain rfl : args = #[v0, v1, v2] := by cases args; simp_all
  obtain ⟨rfl, rfl⟩ := trodVars_none hV
  obtain ⟨a0, n0, c0, xs0, rfl, k0⟩ := open_reads (hval 0 22 v0 rfl rfl) h0
  obtain ⟨a1, rfl, rfl, rfl, w1⟩ := open_int Try.underlying3 (hval 1 3 v1 rfl rfl) h1
  obtain ⟨a2, rfl, rfl, rfl, w2⟩ := open_int Try.underlying3 (hval 2 3 v2 rfl rfl) h2
  refine (walk a0 n0 c0 xs0 k0 a1 w1 a2 w2).mono fun e W' ⟨he, hb⟩ => ?_
  subst he
  exact ⟨_, rfl, post_law hW' hb rfl rfl rfl rfl rfl (by rw [Try.params10]; exact readable_all (by kernel_rfl))⟩
theorem over : Rows.turnsFreeRow.holds Try.pinned (OpenSpec.ofChange Rows.turnsFreeSpec) :=
  OpenClaim.holds_of_wide 10 Try.f10 rfl rfl rfl rfl rfl rfl rfl ⟨rfl, rfl, rfl, rfl, rfl⟩ rfl rfl rfl rfl rfl (by kernel_rfl) Try.func10 (by kernel_rfl)
    (of_decide_eq_true (by kernel_rfl)) (by unfold Func.isWrapper; first | (rw [if_pos (by decide +kernel)]; kernel_rfl) | (rw [if_neg (by decide +kernel)]; exact ⟨rfl, rfl⟩))
    (fun os started H enc _ => lifted os started H enc)
theorem proved : Rows.TurnsFreeSaid := over
#print axioms proved
end Go.Proofs.Ytjcaoejodjmmkaa.turnsFree
