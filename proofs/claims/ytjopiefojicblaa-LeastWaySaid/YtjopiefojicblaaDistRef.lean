/- DistRef: Dist4, To4, From4, one behind the other. -/
import Derived.Test.YtjopiefojicblaaDistBase
import Derived.Test.YtjopiefojicblaaStrides
import Derived.Test.YtjopiefojicblaaDistMem
/- The document's distances: arcs, closed, the begin. -/
set_option linter.unusedVariables false
set_option linter.unusedSimpArgs false
namespace Go.Proofs.Ytjopiefojicblaa
open Go.ChangeShapes Go.WideShapes Go.ChangeAt Go.RowKit HeapP DistP RowP
set_option maxRecDepth 100000 in
set_option maxHeartbeats 2000000 in
theorem closed4_any {w : World} {A : Option Addr} {n c : Nat} {cl : List Bool} (h : ReadsB w A n c cl) (e : Nat) (he : e ≤ 1048576) :
    Calls Try.prog 57 #[.slice A n c, .int .i64 (e : Nat)] w fun r w' => r = .returned (.bool (shutB cl e)) ∧ w = w' := by
  have hm := h.small
  unfold maxLen at hm
  have hm2 : n ≤ 9223372036854775807 := by omega
  have h0 : (0 : Int) ≤ (e : Int) := by omega
  by_cases hlt : e < n
  · obtain ⟨b, o, rfl, hc⟩ := h.cell (by omega)
    have d0 := hc e hlt
    have e1 : (e : Int) < (n : Int) := by omega
    unfold shutB
    obtain ⟨v, hv⟩ : ∃ v, v = cl.getD e false := ⟨_, rfl⟩
    rw [← hv] at d0 ⊢
    clear h hc hv hm
    go_enter Try.func57, Try.ntmps57
    go_wp2_with fail
    go_ret
    exact ⟨rfl, rfl⟩
  · have hs : shutB cl e = false := shutB_lt (by rw [h.len]; omega)
    rw [hs]
    have e1 : ¬ (e : Int) < (n : Int) := by omega
    clear h hs hm
    go_enter Try.func57, Try.ntmps57
    go_wp2_with fail
    go_ret
    exact ⟨rfl, rfl⟩
theorem arcs_mem {es : Es} {bs : Bs} {x : Int × Int × Int} : x ∈ arcsT es bs ↔ ∃ a b : Nat, x = ((a : Int), (b : Int), wN es b) ∧ a < es.length ∧ b < es.length ∧ turnB es bs (a : Int) (b : Int) = true := by
  unfold arcsT arcsN arcRow
  rw [List.mem_flatMap]
  constructor
  · rintro ⟨a, ha, hx⟩
    obtain ⟨b, hb, rfl⟩ := List.mem_map.1 hx
    have ht := nextT_mem.1 hb
    obtain ⟨i, q, h1, h2, h3, h4⟩ := turnB_in ht
    subst h2
    exact ⟨a, q, by rw [Int.toNat_natCast]; rfl, List.mem_range.1 ha, h4, ht⟩
  · rintro ⟨a, b, rfl, ha, hb, ht⟩
    exact ⟨a, List.mem_range.2 ha, List.mem_map.2 ⟨(b : Int), nextT_mem.2 ht, by rw [Int.toNat_natCast]; rfl⟩⟩
theorem arcs_get {es : Es} {bs : Bs} {k : Nat} (h : k < (arcsT es bs).length) : ∃ a b : Nat, (arcsT es bs).getD k (0, 0, 0) = ((a : Int), (b : Int), wN es b) ∧ a < es.length ∧ b < es.length ∧ turnB es bs (a : Int) (b : Int) = true := by
  refine arcs_mem.1 ?_
  rw [List.getD_eq_getElem?_getD, List.getElem?_eq_getElem h]; exact List.getElem_mem h
theorem arcs_all {es : Es} {bs : Bs} {a b : Nat} (ha : a < es.length) (hb : b < es.length) (ht : turnB es bs (a : Int) (b : Int) = true) : ∃ k, k < (arcsT es bs).length ∧ (arcsT es bs).getD k (0, 0, 0) = ((a : Int), (b : Int), wN es b) := by
  have hm : ((a : Int), (b : Int), wN es b) ∈ arcsT es bs := arcs_mem.2 ⟨a, b, rfl, ha, hb, ht⟩
  obtain ⟨k, hk, e⟩ := List.getElem_of_mem hm
  exact ⟨k, hk, by rw [List.getD_eq_getElem?_getD, List.getElem?_eq_getElem hk]; exact e⟩
instance (es : Es) (v : Int) : DecidablePred (toSrc es v) := fun x => inferInstanceAs (Decidable ((es.getD x (0, 0, 0)).2.1 = v))
/-- the row while it is begun -/
def initL (N : Nat) (src : Nat → Prop) [DecidablePred src] (i : Nat) : List Int := (List.range N).map fun x => if x < i then (if src x then 0 else -1) else 0
theorem initL_len (N : Nat) (src : Nat → Prop) [DecidablePred src] (i : Nat) : (initL N src i).length = N := by simp [initL]
theorem initL_zero (N : Nat) (src : Nat → Prop) [DecidablePred src] : initL N src 0 = List.replicate N 0 := by
  unfold initL
  apply List.ext_getElem (by simp)
  intro i h1 h2; simp
theorem initL_end (N : Nat) (src : Nat → Prop) [DecidablePred src] : initL N src N = (List.range N).map fun x => if src x then (0 : Int) else -1 := by
  unfold initL
  apply List.map_congr_left
  intro x hx
  rw [if_pos (List.mem_range.1 hx)]
theorem initL_yes {N : Nat} {src : Nat → Prop} [DecidablePred src] {i : Nat} (hi : i < N) (h : src i) : initL N src (i + 1) = ((initL N src i).set i (-1)).set i 0 := by
  apply List.ext_getElem (by simp [initL])
  intro x h1 h2
  have hx : x < N := by simpa [initL] using h1
  by_cases e : x = i
  · subst e; simp [initL, h]
  · rw [List.getElem_set_ne (by omega), List.getElem_set_ne (by omega)]
    simp only [initL, List.getElem_map, List.getElem_range]
    have : (x < i + 1) = (x < i) := by simp; omega
    simp only [this]
theorem initL_no {N : Nat} {src : Nat → Prop} [DecidablePred src] {i : Nat} (hi : i < N) (h : ¬ src i) : initL N src (i + 1) = (initL N src i).set i (-1) := by
  apply List.ext_getElem (by simp [initL])
  intro x h1 h2
  have hx : x < N := by simpa [initL] using h1
  by_cases e : x = i
  · subst e; simp [initL, h]
  · rw [List.getElem_set_ne (by omega)]
    simp only [initL, List.getElem_map, List.getElem_range]
    have : (x < i + 1) = (x < i) := by simp; omega
    simp only [this]
theorem init_one {N : Nat} {a : Nat} (ha : a < N) : (List.replicate N (-1 : Int)).set a 0 = (List.range N).map fun x => if x = a then (0 : Int) else -1 := by
  apply List.ext_getElem (by simp)
  intro x h1 h2
  by_cases e : x = a
  · subst e; simp
  · rw [List.getElem_set_ne (by omega)]; simp [e]
theorem minus_row (N i : Nat) (hi : i < N) : (List.replicate i (-1 : Int) ++ List.replicate (N - i) 0).set i (-1) = List.replicate (i + 1) (-1) ++ List.replicate (N - (i + 1)) 0 := by
  apply List.ext_getElem (by simp; omega)
  intro x h1 h2
  have hx : x < N := by simp at h1; omega
  by_cases e : x = i
  · subst e
    rw [List.getElem_set_self, List.getElem_append_left (by simp)]; simp
  · rw [List.getElem_set_ne (by omega)]
    by_cases e2 : x < i
    · rw [List.getElem_append_left (by simpa using e2), List.getElem_append_left (by simp; omega)]; simp
    · rw [List.getElem_append_right (by simp; omega), List.getElem_append_right (by simp; omega)]; simp
end Go.Proofs.Ytjopiefojicblaa
/- milepostref4.To: again and again, till nothing changes. -/
set_option linter.unusedVariables false
set_option linter.unusedSimpArgs false
namespace Go.Proofs.Ytjopiefojicblaa
open Go.ChangeShapes Go.WideShapes Go.ChangeAt Go.RowKit HeapP DistP RowP
/-- the row that is worked on, a block of the call's own -/
structure RW (W wr : World) (g N : Nat) (L : List Int) : Prop where
  row : IRow wr g N N L
  lo : W.heap.size ≤ g
  below : Below W.heap.size W wr
theorem RW.step {W wr w1 : World} {g N : Nat} {L : List Int} (h : RW W wr g N L) (hb : Below wr.heap.size wr w1) : RW W w1 g N L := ⟨h.row.below hb, h.lo, bl_then h.below hb⟩
theorem RW.put {W wr : World} {g N : Nat} {L : List Int} (h : RW W wr g N L) (x : Nat) (v : Int) : RW W (wr.setCell ⟨g, x, none⟩ (.int .i64 v)) g N (L.set x v) := ⟨h.row.set x v, h.lo, h.below.setCell (by exact h.lo) _⟩
theorem ReadsQ.upd {F : Nat → Prop} {w w' : World} {A : Option Addr} {n c : Nat} {xs : List (Int × Int × Int)} (h : ReadsQ w A n c xs) (hu : Upd F w w') (hF : ∀ b o, A = some ⟨b, o, none⟩ → ¬ F b) : ReadsQ w' A n c xs := by
  refine ⟨h.len, h.small, fun hn => ?_⟩
  obtain ⟨b, o, hA, hc⟩ := h.cell hn
  exact ⟨b, o, hA, fun i hi => ⟨cell_upd (hc i hi).1 hu (hF b o hA), cell_upd (hc i hi).2.1 hu (hF b o hA), cell_upd (hc i hi).2.2.1 hu (hF b o hA), cell_upd (hc i hi).2.2.2 hu (hF b o hA)⟩⟩
set_option maxRecDepth 100000 in
set_option maxHeartbeats 16000000 in
theorem to4_in {w : World} {A1 A2 A3 : Option Addr} {n3 c1 c2 c3 : Nat} {ns bs : List (Int × Int)} {es : List (Int × Int × Int)} (h : GR w A1 A2 A3 ns.length es.length n3 c1 c2 c3 ns es bs) (hok : mayB ns es bs = true) {A : Option Addr} {n c : Nat} {cl : List Bool} (hc : ReadsB w A n c cl) {v : Nat} (hv : v < ns.length) :
    Calls Try.prog 20 #[.agg #[.slice A1 ns.length c1, .slice A2 es.length c2, .slice A3 n3 c3], .int .i64 (v : Nat), .slice A n c] w fun r w' =>
      ∃ g, r = .returned (.slice (some ⟨g, 0, none⟩) es.length es.length) ∧ IRow w' g es.length es.length (toD es bs cl (v : Int)) ∧ w.heap.size ≤ g ∧ Below w.heap.size w w' := by
  have hs := (mayB_parts hok).2.1
  have hN5 : es.length ≤ 512 := hs.2.2.1
  have hn5 : ns.length ≤ 256 := hs.2.1
  have HB := Lib.hid (bl_alloc (Below.refl w.heap.size w) (.cells #[.slice A1 ns.length c1, .slice A2 es.length c2, .slice A3 n3 c3] 29))
  have HG := Lib.hid (h.below HB.out)
  have HC := Lib.hid (hc.below HB.out)
  have HOK := Lib.hid hok
  have HNET := Lib.hid (to_net hok cl)
  have hnd : ∀ w' : World, Calls Try.prog 55 #[.agg #[.slice A1 ns.length c1, .slice A2 es.length c2, .slice A3 n3 c3], .int .i64 (v : Nat)] w' fun e w'' => e = .returned (.bool true) ∧ Below w'.heap.size w' w'' := fun w' => by
    have := node4_any (A1 := A1) (A2 := A2) (A3 := A3) (c1 := c1) (c2 := c2) (n3 := n3) (c3 := c3) (n1 := ns.length) (n2 := es.length) (by unfold maxLen; omega) (v : Int) w'
    rw [show inB 0 (v : Int) ((ns.length : Int) - 1) = true by unfold inB; simp; omega] at this
    exact this
  have HND := Lib.hid hnd
  have hmk := run_make_row' (P := Try.prog) 22 3 (.int .i64 0) 8 Try.underlying22 infoInt rfl .i64 .i64 es.length (by omega) (by omega)
  have HMK := Lib.hid hmk
  have HDE : Hid (∀ L : List Int, L.length = es.length → IsD es.length (toSrc es (v : Int)) (toSucc es bs cl) (toW es) (dl L) → L = toD es bs cl (v : Int)) := Lib.hid fun L a b => distL_eq (to_net hok cl) a b
  have HVL := Lib.hid hv
  obtain ⟨W1, hW1⟩ : ∃ W1, W1 = w.alloc (.cells #[.slice A1 ns.length c1, .slice A2 es.length c2, .slice A3 n3 c3] 29) := ⟨_, rfl⟩
  have HS : Hid (∀ w', Below W1.heap.size W1 w' → w'.cell? ⟨w.heap.size, 0, none⟩ = some (.slice A1 ns.length c1) ∧ w'.cell? ⟨w.heap.size, 1, none⟩ = some (.slice A2 es.length c2) ∧ w'.cell? ⟨w.heap.size, 2, none⟩ = some (.slice A3 n3 c3)) := Lib.hid fun w' hb => by subst hW1; exact GR.box hb
  have HZ1 : Hid (W1.heap.size = w.heap.size + 1) := Lib.hid (by rw [hW1, size_alloc])
  rw [← hW1] at HG HC HB
  have HW := Lib.hid hW1
  clear h hc hok hs hnd hmk hv hW1
  go_enter Try.func20, Try.ntmps20
  go_wp2_with fail
  rw [← HW.out]
  refine (HND.out _).mono ?_
  rintro e y1 ⟨rfl, hb⟩
  obtain ⟨l0, l1, l2⟩ := HS.out _ hb
  have hmk := HMK.out
  have hi0 := IRow.made y1 es.length (by unfold maxLen; omega)
  have HB1 := Lib.hid hb
  have hr0 : RW W1 (y1.alloc (.cells (madeCells #[.int .i64 0] es.length) 3)) y1.heap.size es.length (List.replicate es.length 0) := ⟨hi0, hb.size, bl_alloc hb _⟩
  have HR0 := Lib.hid hr0
  clear hb hi0 hr0
  go_wp2_with fail
  obtain ⟨g, hg⟩ : ∃ g, g = y1.heap.size := ⟨_, rfl⟩
  obtain ⟨y2, hy2⟩ : ∃ y2, y2 = y1.alloc (.cells (madeCells #[.int .i64 0] es.length) 3) := ⟨_, rfl⟩
  rw [← hg, ← hy2] at HR0
  rw [← hg, ← hy2]
  clear hg hy2 l0 l1 l2 hmk HB1
  go_loopg [8] es.length (fun M u wr => ∃ i : Nat, M = es.length - i ∧ i ≤ es.length ∧ u = .int .i64 (i : Nat) ∧ RW W1 wr g es.length (initL es.length (toSrc es (v : Int)) i))
  case atStart => exact ⟨0, rfl, Nat.zero_le _, rfl, by rw [initL_zero]; exact HR0.out⟩
  case round =>
    obtain ⟨i, hM, hi, rfl, hr⟩ := hrel
    have HM := Lib.hid hM
    have HR := Lib.hid hr
    obtain ⟨l0, l1, l2⟩ := HS.out _ hr.below
    have hgw : g ≠ w.heap.size := by have := hr.lo; have := HZ1.out; omega
    have hgw2 : w.heap.size ≠ g := hgw.symm
    clear hM hr HR0
    by_cases hlt : i < es.length
    · have c0 := HR.out.row.cell hlt
      have f0 := HR.out.row.fr i
      have hge := (HG.out.below HR.out.below).rE
      obtain ⟨bE, oE, rfl, hcE⟩ := hge.cell (by omega)
      obtain ⟨_, e1, _⟩ := hcE i hlt
      have hbe : bE < W1.heap.size := by
        obtain ⟨b', o', e', hc'⟩ := HG.out.rE.cell (by omega)
        injection e' with e'
        injection e' with e1 e2 _
        subst e1 e2
        have := World.block_lt_of_cell? _ _ (hc' i hlt).1
        exact this
      have hbg : bE ≠ g := by have := HR.out.lo; omega
      have hbg2 : g ≠ bE := hbg.symm
      have i0 : (0 : Int) ≤ (i : Int) := by omega
      have i1 : (i : Int) < (es.length : Int) := by omega
      have hy := fun h1 => initL_yes (src := toSrc es (v : Int)) hlt h1
      have hn := fun h1 => initL_no (src := toSrc es (v : Int)) hlt h1
      have hdef : toSrc es (v : Int) i ↔ (es.getD i (0, 0, 0)).2.1 = (v : Int) := Iff.rfl
      obtain ⟨tw, hto⟩ : ∃ z, z = (es.getD i (0, 0, 0)).2.1 := ⟨_, rfl⟩
      rw [← hto] at e1 hdef
      have HY := Lib.hid hy
      have HN := Lib.hid hn
      have HDF := Lib.hid hdef
      clear hge hcE hbe hto hy hn hdef
      by_cases ht : tw = (v : Int)
      · have hq : (tw == (v : Int)) = true := by simp [ht]
        have hyy := HY.out (HDF.out.2 ht)
        have HYY := Lib.hid hyy
        clear ht hyy
        go_wp2_with fail
        go_roundg (es.length - (i + 1))
        case measure => have := HM.out; omega
        case rel => exact ⟨i + 1, rfl, by omega, by go_num, by rw [HYY.out]; exact (HR.out.put i (-1)).put i 0⟩
      · have hq : (tw == (v : Int)) = false := beq_false_of_ne ht
        have hnn := HN.out (fun h1 => ht (HDF.out.1 h1))
        have HNN := Lib.hid hnn
        clear ht hnn
        go_wp2_with fail
        go_roundg (es.length - (i + 1))
        case measure => have := HM.out; omega
        case rel => exact ⟨i + 1, rfl, by omega, by go_num, by rw [HNN.out]; exact HR.out.put i (-1)⟩
    · obtain rfl : i = es.length := by omega
      have hr := HR.out
      rw [initL_end] at hr
      have hrl : Relax es.length (toSrc es (v : Int)) (toSucc es bs cl) (toW es) (dl ((List.range es.length).map fun x => if toSrc es (v : Int) x then (0 : Int) else -1)) := relax_list
      have hsm : Small es.length ((List.range es.length).map fun x => if toSrc es (v : Int) x then (0 : Int) else -1) := small_list
      have hll : ((List.range es.length).map fun x => if toSrc es (v : Int) x then (0 : Int) else -1).length = es.length := by simp
      obtain ⟨L0, hL0⟩ : ∃ L0, L0 = (List.range es.length).map fun x => if toSrc es (v : Int) x then (0 : Int) else -1 := ⟨_, rfl⟩
      rw [← hL0] at hr hrl hsm hll
      have HR2 := Lib.hid hr
      have HRL := Lib.hid hrl
      have HSM := Lib.hid hsm
      have HLL := Lib.hid hll
      clear hr hrl hsm hll hL0 hlt hi HR
      go_wp2_with fail
      refine (arcs4_any (HG.out.below HR2.out.below) hN5).mono ?_
      rintro e y3 ⟨AQ, cQ, rfl, hq, hqn, hb3⟩
      have R3 := Lib.hid (HR2.out.step hb3)
      have HQ := Lib.hid hq
      have HQG : Hid (∀ b o, AQ = some ⟨b, o, none⟩ → b ≠ g) := Lib.hid fun b o e => by have := (hqn b o e).1; have := HR2.out.row.lt; omega
      have HARC : Hid (∀ k, k < (arcsT es bs).length → _) := Lib.hid fun k hk => arcs_get (es := es) (bs := bs) hk
      have hal : (arcsT es bs).length ≤ 262144 := arcsN_small hN5 bs hN5
      have HALL : Hid (∀ y x, y < es.length → x ∈ toSucc es bs cl y → ∃ j, j < (arcsT es bs).length ∧ (arcsT es bs).getD j (0, 0, 0) = ((x : Int), (y : Int), wN es y)) := Lib.hid fun y x hy hx => by
        obtain ⟨_, hx2, ht⟩ := toSucc_mem.1 hx
        exact arcs_all hx2 hy ht
      obtain ⟨AR, hAR⟩ : ∃ AR, AR = arcsT es bs := ⟨_, rfl⟩
      rw [← hAR] at HQ HARC hal HALL
      rw [← hAR]
      clear hq hqn hb3 l0 l1 l2 HR2 hAR
      go_wp2_with fail
      go_loopg [10] (2 * pot L0 + 1) (fun M u wr => ∃ (L : List Int) (ag : Bool), M = 2 * pot L + (if ag = true then 1 else 0) ∧ u = .bool ag ∧ RW W1 wr g es.length L ∧ ReadsQ wr AQ AR.length cQ AR ∧ L.length = es.length ∧ Relax es.length (toSrc es (v : Int)) (toSucc es bs cl) (toW es) (dl L) ∧ Small es.length L ∧ (ag = false → IsD es.length (toSrc es (v : Int)) (toSucc es bs cl) (toW es) (dl L)))
      case atStart => exact ⟨L0, true, rfl, rfl, R3.out, HQ.out, HLL.out, HRL.out, HSM.out, fun e => by cases e⟩
      case round =>
        obtain ⟨L, ag, hM, rfl, hr, hq, hll, hrl, hsm, hfin⟩ := hrel
        have HM := Lib.hid hM
        have HR := Lib.hid hr
        have HQR := Lib.hid hq
        have HL1 := Lib.hid hll
        have HRL1 := Lib.hid hrl
        have HSM1 := Lib.hid hsm
        have HFIN := Lib.hid hfin
        clear hM hr hq hll hrl hsm hfin
        cases ag with
        | false =>
          have hL := HDE.out L HL1.out (HFIN.out rfl)
          have hrow := HR.out.row
          rw [hL] at hrow
          have HROW := Lib.hid hrow
          clear hL hrow
          go_wp2_with fail
          go_ret
          exact ⟨g, rfl, HROW.out, by have := HR.out.lo; have := HZ1.out; omega, HB.out.trans (HR.out.below.mono HB.out.size)⟩
        | true =>
          have hps := PassR.start HL1.out HRL1.out HSM1.out
          have HPS := Lib.hid hps
          clear hps
          go_wp2_with fail
          go_loopg [11, 10] AR.length (fun M u z wr => ∃ (k : Nat) (L2 : List Int) (ag : Bool), M = AR.length - k ∧ k ≤ AR.length ∧ u = .int .i64 (k : Nat) ∧ z = .bool ag ∧ RW W1 wr g es.length L2 ∧ ReadsQ wr AQ AR.length cQ AR ∧ PassR es.length (toSrc es (v : Int)) (toSucc es bs cl) (toW es) L L2 ag (fun y x => ∃ j, j < k ∧ AR.getD j (0, 0, 0) = ((x : Int), (y : Int), wN es y)))
          case atStart => exact ⟨0, L, false, rfl, Nat.zero_le _, rfl, rfl, HR.out, HQR.out, HPS.out.skip fun y x ⟨j, hj, _⟩ => by omega⟩
          case round =>
            obtain ⟨k, L2, ag, hM2, hk, rfl, rfl, hr2, hq2, hp2⟩ := hrel
            have HM2 := Lib.hid hM2
            have HR2 := Lib.hid hr2
            have HQ2 := Lib.hid hq2
            have HP2 := Lib.hid hp2
            clear hM2 hr2 hq2 hp2
            by_cases hlt : k < AR.length
            · obtain ⟨bQ, oQ, rfl, hcQ⟩ := HQ2.out.cell (by omega)
              obtain ⟨d0, d1, d2, d3⟩ := hcQ k hlt
              obtain ⟨a, b, hgk, ha, hb, ht⟩ := HARC.out k hlt
              have HGK := Lib.hid hgk
              rw [hgk] at d0 d1 d2
              dsimp only at d0 d1 d2
              have hwx := wN_bd HOK.out b
              have hw1 := hwx.2.2 hb
              have hbq : bQ ≠ g := HQG.out bQ oQ rfl
              have HA := Lib.hid ha
              have HBB := Lib.hid hb
              have HTT := Lib.hid ht
              have HWB := Lib.hid hw1
              have HWC := Lib.hid hwx.2.1
              obtain ⟨wb, hwb⟩ : ∃ wb, wb = wN es b := ⟨_, rfl⟩
              rw [← hwb] at d2 hw1
              have HWE := Lib.hid hwb
              have k0 : (0 : Int) ≤ (k : Int) := by omega
              have k1 : (k : Int) < (AR.length : Int) := by omega
              have a0 : (0 : Int) ≤ (a : Int) := by omega
              have a1 : (a : Int) < (es.length : Int) := by omega
              have b0 : (0 : Int) ≤ (b : Int) := by omega
              have b1 : (b : Int) < (es.length : Int) := by omega
              have hwb2 : wb ≤ 65535 := by rw [hwb]; exact hwx.2.1
              clear hcQ hgk hwx hwb ht
              have hcl := fun (w' : World) (hb : Below W1.heap.size W1 w') => closed4_any (HC.out.below hb) b (by omega)
              have HCL := Lib.hid hcl
              have HR2a := Lib.hid (HR2.out.step (bl_alloc (Below.refl _ _) (.cells #[.int .i64 (a : Int), .int .i64 (b : Int), .int .i64 wb, .int .i64 (-1)] 86)))
              have HQ2a := Lib.hid (HQ2.out.below (bl_alloc (Below.refl _ _) (.cells #[.int .i64 (a : Int), .int .i64 (b : Int), .int .i64 wb, .int .i64 (-1)] 86)))
              have hgz : g < wr.heap.size := HR2.out.row.lt
              have hgn : g ≠ wr.heap.size := by omega
              have hgn2 : wr.heap.size ≠ g := hgn.symm
              have hnew := heap_alloc_eq wr (.cells #[.int .i64 (a : Int), .int .i64 (b : Int), .int .i64 wb, .int .i64 (-1)] 86)
              have HNEW := Lib.hid hnew
              clear hcl hnew ha hb
              go_wp2_with fail
              obtain ⟨wa, hwa⟩ : ∃ wa, wa = wr.alloc (.cells #[.int .i64 (a : Int), .int .i64 (b : Int), .int .i64 wb, .int .i64 (-1)] 86) := ⟨_, rfl⟩
              obtain ⟨vz, hvz⟩ : ∃ vz, vz = wr.heap.size := ⟨_, rfl⟩
              rw [← hwa] at HR2a HQ2a HNEW
              rw [← hvz] at HNEW hgn hgn2 hgz
              rw [← hwa, ← hvz]
              have n0 : wa.cell? ⟨vz, 0, none⟩ = some (.int .i64 (a : Int)) := block_cell HNEW.out rfl
              have n1 : wa.cell? ⟨vz, 1, none⟩ = some (.int .i64 (b : Int)) := block_cell HNEW.out rfl
              have n2 : wa.cell? ⟨vz, 2, none⟩ = some (.int .i64 wb) := block_cell HNEW.out rfl
              have ra := HR2a.out.row.cell (i := a) (by omega)
              have rb := HR2a.out.row.cell (i := b) (by omega)
              have fa := HR2a.out.row.fr a
              have hL2 := HP2.out.len
              rw [dl_get (by rw [hL2]; omega)] at ra rb
              have hda : 0 ≤ dl L2 a ∨ dl L2 a = -1 := HP2.out.rel.d a (by omega)
              have hdb : 0 ≤ dl L2 b ∨ dl L2 b = -1 := HP2.out.rel.d b (by omega)
              have hsa := HP2.out.small.le a (by omega)
              have hsb := HP2.out.small.le b (by omega)
              have hngs : 0 ≤ (negs L2 : Int) := by omega
              have HSKIP : Hid ((shutB cl b = true ∨ dl L2 b < 0 ∨ (0 ≤ dl L2 a ∧ dl L2 a ≤ dl L2 b + wb)) → PassR es.length (toSrc es (v : Int)) (toSucc es bs cl) (toW es) L L2 ag (fun y x => ∃ j, j < k + 1 ∧ AR.getD j (0, 0, 0) = ((x : Int), (y : Int), wN es y))) := Lib.hid fun hcase => HP2.out.skip fun y x ⟨j, hj, hj2⟩ => by
                by_cases hjk : j = k
                · subst hjk
                  right
                  rw [HGK.out] at hj2
                  simp only [Prod.mk.injEq] at hj2
                  obtain ⟨hja, hjb, _⟩ := hj2
                  obtain rfl : a = x := by omega
                  obtain rfl : b = y := by omega
                  intro _ hx h0
                  rcases hcase with h | h | h
                  · have := (toSucc_mem.1 hx).1; rw [h] at this; cases this
                  · omega
                  · rw [show toW es b a = wN es b from rfl, ← HWE.out]; exact h
                · left; exact ⟨j, by omega, hj2⟩
              have HPUT : Hid (shutB cl b = false → 0 ≤ dl L2 b → (dl L2 a < 0 ∨ dl L2 b + wb < dl L2 a) → PassR es.length (toSrc es (v : Int)) (toSucc es bs cl) (toW es) L (L2.set a (dl L2 b + wb)) true (fun y x => ∃ j, j < k + 1 ∧ AR.getD j (0, 0, 0) = ((x : Int), (y : Int), wN es y))) := Lib.hid fun h1 h2 h3 => by
                have e : toW es b a = wb := by rw [HWE.out]; rfl
                have := HP2.out.put (seen' := fun y x => ∃ j, j < k + 1 ∧ AR.getD j (0, 0, 0) = ((x : Int), (y : Int), wN es y)) (y := b) (x := a) HNET.out (toW_le HOK.out) hN5 HBB.out (toSucc_mem.2 ⟨h1, HA.out, HTT.out⟩) h2 (by rw [e]; exact h3)
                rw [e] at this; exact this
              obtain ⟨da, hdae⟩ : ∃ da, da = dl L2 a := ⟨_, rfl⟩
              obtain ⟨db, hdbe⟩ : ∃ db, db = dl L2 b := ⟨_, rfl⟩
              rw [← hdae] at ra hda hsa HSKIP HPUT
              rw [← hdbe] at rb hdb hsb HSKIP HPUT
              have hcl := HCL.out wa HR2a.out.below
              have HCL2 := Lib.hid hcl
              have hq5 : da ≤ 67108864 := by omega
              have hq6 : db ≤ 67108864 := by omega
              clear hL2 hdae hdbe hsa hsb hngs hwa hvz hcl d0 d1 d2 d3
              refine HCL2.out.mono ?_
              rintro e wc ⟨rfl, rfl⟩
              cases hsh : shutB cl b with
              | true =>
                have hsk := HSKIP.out (.inl hsh)
                have HSK := Lib.hid hsk
                clear hsh hsk
                go_wp2_with fail
                go_roundg (AR.length - (k + 1))
                case measure => have := HM2.out; omega
                case rel => exact ⟨k + 1, L2, ag, rfl, by omega, by go_num, rfl, HR2a.out, HQ2a.out, HSK.out⟩
              | false =>
                by_cases hy0 : db < 0
                · have hsk := HSKIP.out (.inr (.inl hy0))
                  have HSK := Lib.hid hsk
                  clear hsh hsk
                  go_wp2_with fail
                  go_roundg (AR.length - (k + 1))
                  case measure => have := HM2.out; omega
                  case rel => exact ⟨k + 1, L2, ag, rfl, by omega, by go_num, rfl, HR2a.out, HQ2a.out, HSK.out⟩
                · have hy1 : 0 ≤ db := by omega
                  have hsum : IntKind.i64.wrap (db + wb) = db + wb := IntWalk.i64_in _ (by omega)
                  by_cases hx0 : da < 0 ∨ db + wb < da
                  · have hpt := HPUT.out hsh hy1 hx0
                    have HPT := Lib.hid hpt
                    clear hsh hpt
                    by_cases hx1 : da < 0
                    · clear hx0
                      go_wp2_with fail
                      go_quiet (fail)
                      go_wp2_with fail
                      go_roundg (AR.length - (k + 1))
                      case measure => have := HM2.out; omega
                      case rel => exact ⟨k + 1, L2.set a (db + wb), true, rfl, by omega, by go_num, rfl, (HR2a.out.step (bl_drewN (Below.refl _ _) _)).put a _, (HQ2a.out.below (bl_drewN (Below.refl _ _) _)).upd (F := fun b => b = g) (upd_setCell (F := fun b => b = g) (a := ⟨g, a, none⟩) (Upd.refl _ _) rfl _) fun b o e => HQG.out b o e, HPT.out⟩
                    · have hx2 : db + wb < da := by omega
                      clear hx0
                      go_wp2_with fail
                      go_quiet (fail)
                      go_wp2_with fail
                      go_roundg (AR.length - (k + 1))
                      case measure => have := HM2.out; omega
                      case rel => exact ⟨k + 1, L2.set a (db + wb), true, rfl, by omega, by go_num, rfl, (HR2a.out.step (bl_drewN (Below.refl _ _) _)).put a _, (HQ2a.out.below (bl_drewN (Below.refl _ _) _)).upd (F := fun b => b = g) (upd_setCell (F := fun b => b = g) (a := ⟨g, a, none⟩) (Upd.refl _ _) rfl _) fun b o e => HQG.out b o e, HPT.out⟩
                  · have hsk := HSKIP.out (.inr (.inr (by omega)))
                    have HSK := Lib.hid hsk
                    have hx1 : ¬ da < 0 := by omega
                    have hx2 : ¬ db + wb < da := by omega
                    clear hsh hsk hx0
                    go_wp2_with fail
                    go_quiet (fail)
                    go_wp2_with fail
                    go_roundg (AR.length - (k + 1))
                    case measure => have := HM2.out; omega
                    case rel => exact ⟨k + 1, L2, ag, rfl, by omega, by go_num, rfl, HR2a.out.step (bl_drewN (Below.refl _ _) _), HQ2a.out.below (bl_drewN (Below.refl _ _) _), HSK.out⟩
            · obtain rfl : k = AR.length := by omega
              cases ag with
              | true =>
                have hpt := HP2.out.pot_ rfl
                have HPT := Lib.hid hpt
                clear hlt hk hpt
                go_wp2_with fail
                go_roundg (2 * pot L2 + 1)
                case measure => have := HM.out; have := HPT.out; simp at this ⊢; omega
                case rel => exact ⟨L2, true, rfl, rfl, HR2.out, HQ2.out, HP2.out.len, HP2.out.rel, HP2.out.small, fun e => by cases e⟩
              | false =>
                have heq := (HP2.out.end_ rfl).1
                have hfin := HP2.out.final HALL.out
                have HEQ := Lib.hid heq
                have HFN := Lib.hid hfin
                clear hlt hk heq hfin
                go_wp2_with fail
                go_roundg (2 * pot L2)
                case measure => have := HM.out; rw [HEQ.out]; simp at this ⊢; omega
                case rel => exact ⟨L2, false, rfl, rfl, HR2.out, HQ2.out, HP2.out.len, HP2.out.rel, HP2.out.small, fun _ => HFN.out⟩
end Go.Proofs.Ytjopiefojicblaa
/- milepostref4.From: again and again, till nothing changes. -/
set_option linter.unusedVariables false
set_option linter.unusedSimpArgs false
namespace Go.Proofs.Ytjopiefojicblaa
open Go.ChangeShapes Go.WideShapes Go.ChangeAt Go.RowKit HeapP DistP RowP
set_option maxRecDepth 100000 in
set_option maxHeartbeats 16000000 in
theorem from4_in {w : World} {A1 A2 A3 : Option Addr} {n3 c1 c2 c3 : Nat} {ns bs : List (Int × Int)} {es : List (Int × Int × Int)} (h : GR w A1 A2 A3 ns.length es.length n3 c1 c2 c3 ns es bs) (hok : mayB ns es bs = true) {A : Option Addr} {n c : Nat} {cl : List Bool} (hc : ReadsB w A n c cl) {v : Nat} (hv : v < es.length) :
    Calls Try.prog 24 #[.agg #[.slice A1 ns.length c1, .slice A2 es.length c2, .slice A3 n3 c3], .int .i64 (v : Nat), .slice A n c] w fun r w' =>
      ∃ g, r = .returned (.slice (some ⟨g, 0, none⟩) es.length es.length) ∧ IRow w' g es.length es.length (fromD es bs cl v) ∧ w.heap.size ≤ g ∧ Below w.heap.size w w' := by
  have hs := (mayB_parts hok).2.1
  have hN5 : es.length ≤ 512 := hs.2.2.1
  have hn5 : ns.length ≤ 256 := hs.2.1
  have HB := Lib.hid (bl_alloc (Below.refl w.heap.size w) (.cells #[.slice A1 ns.length c1, .slice A2 es.length c2, .slice A3 n3 c3] 29))
  have HG := Lib.hid (h.below HB.out)
  have HC := Lib.hid (hc.below HB.out)
  have HOK := Lib.hid hok
  have HNET := Lib.hid (from_net hok cl)
  have hnd : ∀ w' : World, Calls Try.prog 35 #[.agg #[.slice A1 ns.length c1, .slice A2 es.length c2, .slice A3 n3 c3], .int .i64 (v : Nat)] w' fun e w'' => e = .returned (.bool true) ∧ Below w'.heap.size w' w'' := fun w' => by
    have := edge4_c (A1 := A1) (A2 := A2) (A3 := A3) (c1 := c1) (c2 := c2) (n3 := n3) (c3 := c3) (n1 := ns.length) (n2 := es.length) (by unfold maxLen; omega) (v : Int) w'
    rw [show inB 0 (v : Int) ((es.length : Int) - 1) = true by unfold inB; simp; omega] at this
    exact this
  have HND := Lib.hid hnd
  have hmk := run_make_row' (P := Try.prog) 22 3 (.int .i64 0) 8 Try.underlying22 infoInt rfl .i64 .i64 es.length (by omega) (by omega)
  have HMK := Lib.hid hmk
  have HDE : Hid (∀ L : List Int, L.length = es.length → IsD es.length (fun x => x = v) (fromSucc es bs cl) (fromW es) (dl L) → L = fromD es bs cl v) := Lib.hid fun L a b => distL_eq (from_net hok cl) a b
  have HVL := Lib.hid hv
  obtain ⟨W1, hW1⟩ : ∃ W1, W1 = w.alloc (.cells #[.slice A1 ns.length c1, .slice A2 es.length c2, .slice A3 n3 c3] 29) := ⟨_, rfl⟩
  have HS : Hid (∀ w', Below W1.heap.size W1 w' → w'.cell? ⟨w.heap.size, 0, none⟩ = some (.slice A1 ns.length c1) ∧ w'.cell? ⟨w.heap.size, 1, none⟩ = some (.slice A2 es.length c2) ∧ w'.cell? ⟨w.heap.size, 2, none⟩ = some (.slice A3 n3 c3)) := Lib.hid fun w' hb => by subst hW1; exact GR.box hb
  have HZ1 : Hid (W1.heap.size = w.heap.size + 1) := Lib.hid (by rw [hW1, size_alloc])
  rw [← hW1] at HG HC HB
  have HW := Lib.hid hW1
  clear h hc hok hs hnd hmk hv hW1
  go_enter Try.func24, Try.ntmps24
  go_wp2_with fail
  rw [← HW.out]
  refine (HND.out _).mono ?_
  rintro e y1 ⟨rfl, hb⟩
  obtain ⟨l0, l1, l2⟩ := HS.out _ hb
  have hmk := HMK.out
  have hi0 := IRow.made y1 es.length (by unfold maxLen; omega)
  have HB1 := Lib.hid hb
  have hr0 : RW W1 (y1.alloc (.cells (madeCells #[.int .i64 0] es.length) 3)) y1.heap.size es.length (List.replicate es.length 0) := ⟨hi0, hb.size, bl_alloc hb _⟩
  have HR0 := Lib.hid hr0
  clear hb hi0 hr0
  go_wp2_with fail
  obtain ⟨g, hg⟩ : ∃ g, g = y1.heap.size := ⟨_, rfl⟩
  obtain ⟨y2, hy2⟩ : ∃ y2, y2 = y1.alloc (.cells (madeCells #[.int .i64 0] es.length) 3) := ⟨_, rfl⟩
  rw [← hg, ← hy2] at HR0
  rw [← hg, ← hy2]
  clear hg hy2 l0 l1 l2 hmk HB1
  go_loopg [8] es.length (fun M u wr => ∃ i : Nat, M = es.length - i ∧ i ≤ es.length ∧ u = .int .i64 (i : Nat) ∧ RW W1 wr g es.length (List.replicate i (-1) ++ List.replicate (es.length - i) 0))
  case atStart => exact ⟨0, rfl, Nat.zero_le _, rfl, HR0.out⟩
  case round =>
    obtain ⟨i, hM, hi, rfl, hr⟩ := hrel
    have HM := Lib.hid hM
    have HR := Lib.hid hr
    clear hM hr HR0
    by_cases hlt : i < es.length
    · have c0 := HR.out.row.cell hlt
      have f0 := HR.out.row.fr i
      have i0 : (0 : Int) ≤ (i : Int) := by omega
      have i1 : (i : Int) < (es.length : Int) := by omega
      have hmr := minus_row es.length i hlt
      have HMR := Lib.hid hmr
      clear hmr
      go_wp2_with fail
      go_roundg (es.length - (i + 1))
      case measure => have := HM.out; omega
      case rel => exact ⟨i + 1, rfl, by omega, by go_num, by rw [← HMR.out]; exact HR.out.put i (-1)⟩
    · obtain rfl : i = es.length := by omega
      have hr := HR.out
      rw [Nat.sub_self, List.replicate_zero, List.append_nil] at hr
      have hva := HVL.out
      have c0 := hr.row.cell hva
      have f0 := hr.row.fr v
      have hr1 := hr.put v 0
      rw [init_one hva] at hr1
      have HRR := Lib.hid hr1
      have hrl : Relax es.length (fun x => x = v) (fromSucc es bs cl) (fromW es) (dl ((List.range es.length).map fun x => if x = v then (0 : Int) else -1)) := relax_list
      have hsm : Small es.length ((List.range es.length).map fun x => if x = v then (0 : Int) else -1) := small_list
      have hll : ((List.range es.length).map fun x => if x = v then (0 : Int) else -1).length = es.length := by simp
      have v0 : (0 : Int) ≤ (v : Int) := by omega
      have v1 : (v : Int) < (es.length : Int) := by omega
      have hgw : g ≠ w.heap.size := by have := hr.lo; have := HZ1.out; omega
      have hgw2 : w.heap.size ≠ g := hgw.symm
      obtain ⟨l0, l1, l2⟩ := HS.out _ hr.below
      obtain ⟨L0, hL0⟩ : ∃ L0, L0 = (List.range es.length).map fun x => if x = v then (0 : Int) else -1 := ⟨_, rfl⟩
      rw [← hL0] at HRR hrl hsm hll
      have HR2 := HRR
      have HRL := Lib.hid hrl
      have HSM := Lib.hid hsm
      have HLL := Lib.hid hll
      clear hr hr1 hrl hsm hll hL0 hlt hi HR HRR hva
      go_wp2_with fail
      refine (arcs4_any (HG.out.below HR2.out.below) hN5).mono ?_
      rintro e y3 ⟨AQ, cQ, rfl, hq, hqn, hb3⟩
      have R3 := Lib.hid (HR2.out.step hb3)
      have HQ := Lib.hid hq
      have HQG : Hid (∀ b o, AQ = some ⟨b, o, none⟩ → b ≠ g) := Lib.hid fun b o e => by have := (hqn b o e).1; have := HR2.out.row.lt; omega
      have HARC : Hid (∀ k, k < (arcsT es bs).length → _) := Lib.hid fun k hk => arcs_get (es := es) (bs := bs) hk
      have hal : (arcsT es bs).length ≤ 262144 := arcsN_small hN5 bs hN5
      have HALL : Hid (∀ y x, y < es.length → x ∈ fromSucc es bs cl y → ∃ j, j < (arcsT es bs).length ∧ (arcsT es bs).getD j (0, 0, 0) = ((y : Int), (x : Int), wN es x)) := Lib.hid fun y x hy hx => by
        obtain ⟨_, hx2, ht⟩ := fromSucc_mem.1 hx
        exact arcs_all hy hx2 ht
      obtain ⟨AR, hAR⟩ : ∃ AR, AR = arcsT es bs := ⟨_, rfl⟩
      rw [← hAR] at HQ HARC hal HALL
      rw [← hAR]
      clear hq hqn hb3 l0 l1 l2 HR2 hAR
      go_wp2_with fail
      go_loopg [10] (2 * pot L0 + 1) (fun M u wr => ∃ (L : List Int) (ag : Bool), M = 2 * pot L + (if ag = true then 1 else 0) ∧ u = .bool ag ∧ RW W1 wr g es.length L ∧ ReadsQ wr AQ AR.length cQ AR ∧ L.length = es.length ∧ Relax es.length (fun x => x = v) (fromSucc es bs cl) (fromW es) (dl L) ∧ Small es.length L ∧ (ag = false → IsD es.length (fun x => x = v) (fromSucc es bs cl) (fromW es) (dl L)))
      case atStart => exact ⟨L0, true, rfl, rfl, R3.out, HQ.out, HLL.out, HRL.out, HSM.out, fun e => by cases e⟩
      case round =>
        obtain ⟨L, ag, hM, rfl, hr, hq, hll, hrl, hsm, hfin⟩ := hrel
        have HM := Lib.hid hM
        have HR := Lib.hid hr
        have HQR := Lib.hid hq
        have HL1 := Lib.hid hll
        have HRL1 := Lib.hid hrl
        have HSM1 := Lib.hid hsm
        have HFIN := Lib.hid hfin
        clear hM hr hq hll hrl hsm hfin
        cases ag with
        | false =>
          have hL := HDE.out L HL1.out (HFIN.out rfl)
          have hrow := HR.out.row
          rw [hL] at hrow
          have HROW := Lib.hid hrow
          clear hL hrow
          go_wp2_with fail
          go_ret
          exact ⟨g, rfl, HROW.out, by have := HR.out.lo; have := HZ1.out; omega, HB.out.trans (HR.out.below.mono HB.out.size)⟩
        | true =>
          have hps := PassR.start HL1.out HRL1.out HSM1.out
          have HPS := Lib.hid hps
          clear hps
          go_wp2_with fail
          go_loopg [11, 10] AR.length (fun M u z wr => ∃ (k : Nat) (L2 : List Int) (ag : Bool), M = AR.length - k ∧ k ≤ AR.length ∧ u = .int .i64 (k : Nat) ∧ z = .bool ag ∧ RW W1 wr g es.length L2 ∧ ReadsQ wr AQ AR.length cQ AR ∧ PassR es.length (fun x => x = v) (fromSucc es bs cl) (fromW es) L L2 ag (fun y x => ∃ j, j < k ∧ AR.getD j (0, 0, 0) = ((y : Int), (x : Int), wN es x)))
          case atStart => exact ⟨0, L, false, rfl, Nat.zero_le _, rfl, rfl, HR.out, HQR.out, HPS.out.skip fun y x ⟨j, hj, _⟩ => by omega⟩
          case round =>
            obtain ⟨k, L2, ag, hM2, hk, rfl, rfl, hr2, hq2, hp2⟩ := hrel
            have HM2 := Lib.hid hM2
            have HR2 := Lib.hid hr2
            have HQ2 := Lib.hid hq2
            have HP2 := Lib.hid hp2
            clear hM2 hr2 hq2 hp2
            by_cases hlt : k < AR.length
            · obtain ⟨bQ, oQ, rfl, hcQ⟩ := HQ2.out.cell (by omega)
              obtain ⟨d0, d1, d2, d3⟩ := hcQ k hlt
              obtain ⟨a, b, hgk, ha, hb, ht⟩ := HARC.out k hlt
              have HGK := Lib.hid hgk
              rw [hgk] at d0 d1 d2
              dsimp only at d0 d1 d2
              have hwx := wN_bd HOK.out b
              have hw1 := hwx.2.2 hb
              have hbq : bQ ≠ g := HQG.out bQ oQ rfl
              have HA := Lib.hid ha
              have HBB := Lib.hid hb
              have HTT := Lib.hid ht
              have HWB := Lib.hid hw1
              have HWC := Lib.hid hwx.2.1
              obtain ⟨wb, hwb⟩ : ∃ wb, wb = wN es b := ⟨_, rfl⟩
              rw [← hwb] at d2 hw1
              have HWE := Lib.hid hwb
              have k0 : (0 : Int) ≤ (k : Int) := by omega
              have k1 : (k : Int) < (AR.length : Int) := by omega
              have a0 : (0 : Int) ≤ (a : Int) := by omega
              have a1 : (a : Int) < (es.length : Int) := by omega
              have b0 : (0 : Int) ≤ (b : Int) := by omega
              have b1 : (b : Int) < (es.length : Int) := by omega
              have hwb2 : wb ≤ 65535 := by rw [hwb]; exact hwx.2.1
              clear hcQ hgk hwx hwb ht
              have hcl := fun (w' : World) (hb : Below W1.heap.size W1 w') => closed4_any (HC.out.below hb) b (by omega)
              have HCL := Lib.hid hcl
              have HR2a := Lib.hid (HR2.out.step (bl_alloc (Below.refl _ _) (.cells #[.int .i64 (a : Int), .int .i64 (b : Int), .int .i64 wb, .int .i64 (-1)] 86)))
              have HQ2a := Lib.hid (HQ2.out.below (bl_alloc (Below.refl _ _) (.cells #[.int .i64 (a : Int), .int .i64 (b : Int), .int .i64 wb, .int .i64 (-1)] 86)))
              have hgz : g < wr.heap.size := HR2.out.row.lt
              have hgn : g ≠ wr.heap.size := by omega
              have hgn2 : wr.heap.size ≠ g := hgn.symm
              have hnew := heap_alloc_eq wr (.cells #[.int .i64 (a : Int), .int .i64 (b : Int), .int .i64 wb, .int .i64 (-1)] 86)
              have HNEW := Lib.hid hnew
              clear hcl hnew ha hb
              go_wp2_with fail
              obtain ⟨wa, hwa⟩ : ∃ wa, wa = wr.alloc (.cells #[.int .i64 (a : Int), .int .i64 (b : Int), .int .i64 wb, .int .i64 (-1)] 86) := ⟨_, rfl⟩
              obtain ⟨vz, hvz⟩ : ∃ vz, vz = wr.heap.size := ⟨_, rfl⟩
              rw [← hwa] at HR2a HQ2a HNEW
              rw [← hvz] at HNEW hgn hgn2 hgz
              rw [← hwa, ← hvz]
              have n0 : wa.cell? ⟨vz, 0, none⟩ = some (.int .i64 (a : Int)) := block_cell HNEW.out rfl
              have n1 : wa.cell? ⟨vz, 1, none⟩ = some (.int .i64 (b : Int)) := block_cell HNEW.out rfl
              have n2 : wa.cell? ⟨vz, 2, none⟩ = some (.int .i64 wb) := block_cell HNEW.out rfl
              have ra := HR2a.out.row.cell (i := a) (by omega)
              have rb := HR2a.out.row.cell (i := b) (by omega)
              have fb := HR2a.out.row.fr b
              have hL2 := HP2.out.len
              rw [dl_get (by rw [hL2]; omega)] at ra rb
              have hda : 0 ≤ dl L2 a ∨ dl L2 a = -1 := HP2.out.rel.d a (by omega)
              have hdb : 0 ≤ dl L2 b ∨ dl L2 b = -1 := HP2.out.rel.d b (by omega)
              have hsa := HP2.out.small.le a (by omega)
              have hsb := HP2.out.small.le b (by omega)
              have hngs : 0 ≤ (negs L2 : Int) := by omega
              have HSKIP : Hid ((shutB cl b = true ∨ dl L2 a < 0 ∨ (0 ≤ dl L2 b ∧ dl L2 b ≤ dl L2 a + wb)) → PassR es.length (fun x => x = v) (fromSucc es bs cl) (fromW es) L L2 ag (fun y x => ∃ j, j < k + 1 ∧ AR.getD j (0, 0, 0) = ((y : Int), (x : Int), wN es x))) := Lib.hid fun hcase => HP2.out.skip fun y x ⟨j, hj, hj2⟩ => by
                by_cases hjk : j = k
                · subst hjk
                  right
                  rw [HGK.out] at hj2
                  simp only [Prod.mk.injEq] at hj2
                  obtain ⟨hja, hjb, _⟩ := hj2
                  obtain rfl : a = y := by omega
                  obtain rfl : b = x := by omega
                  intro _ hx h0
                  rcases hcase with h | h | h
                  · have := (fromSucc_mem.1 hx).1; rw [h] at this; cases this
                  · omega
                  · rw [show fromW es a b = wN es b from rfl, ← HWE.out]; exact h
                · left; exact ⟨j, by omega, hj2⟩
              have HPUT : Hid (shutB cl b = false → 0 ≤ dl L2 a → (dl L2 b < 0 ∨ dl L2 a + wb < dl L2 b) → PassR es.length (fun x => x = v) (fromSucc es bs cl) (fromW es) L (L2.set b (dl L2 a + wb)) true (fun y x => ∃ j, j < k + 1 ∧ AR.getD j (0, 0, 0) = ((y : Int), (x : Int), wN es x))) := Lib.hid fun h1 h2 h3 => by
                have e : fromW es a b = wb := by rw [HWE.out]; rfl
                have := HP2.out.put (seen' := fun y x => ∃ j, j < k + 1 ∧ AR.getD j (0, 0, 0) = ((y : Int), (x : Int), wN es x)) (y := a) (x := b) HNET.out (fromW_le HOK.out) hN5 HA.out (fromSucc_mem.2 ⟨h1, HBB.out, HTT.out⟩) h2 (by rw [e]; exact h3)
                rw [e] at this; exact this
              obtain ⟨da, hdae⟩ : ∃ da, da = dl L2 a := ⟨_, rfl⟩
              obtain ⟨db, hdbe⟩ : ∃ db, db = dl L2 b := ⟨_, rfl⟩
              rw [← hdae] at ra hda hsa HSKIP HPUT
              rw [← hdbe] at rb hdb hsb HSKIP HPUT
              have hcl := HCL.out wa HR2a.out.below
              have HCL2 := Lib.hid hcl
              have hq5 : da ≤ 67108864 := by omega
              have hq6 : db ≤ 67108864 := by omega
              clear hL2 hdae hdbe hsa hsb hngs hwa hvz hcl d0 d1 d2 d3
              refine HCL2.out.mono ?_
              rintro e wc ⟨rfl, rfl⟩
              cases hsh : shutB cl b with
              | true =>
                have hsk := HSKIP.out (.inl hsh)
                have HSK := Lib.hid hsk
                clear hsh hsk
                go_wp2_with fail
                go_roundg (AR.length - (k + 1))
                case measure => have := HM2.out; omega
                case rel => exact ⟨k + 1, L2, ag, rfl, by omega, by go_num, rfl, HR2a.out, HQ2a.out, HSK.out⟩
              | false =>
                by_cases hy0 : da < 0
                · have hsk := HSKIP.out (.inr (.inl hy0))
                  have HSK := Lib.hid hsk
                  clear hsh hsk
                  go_wp2_with fail
                  go_roundg (AR.length - (k + 1))
                  case measure => have := HM2.out; omega
                  case rel => exact ⟨k + 1, L2, ag, rfl, by omega, by go_num, rfl, HR2a.out, HQ2a.out, HSK.out⟩
                · have hy1 : 0 ≤ da := by omega
                  have hsum : IntKind.i64.wrap (da + wb) = da + wb := IntWalk.i64_in _ (by omega)
                  by_cases hx0 : db < 0 ∨ da + wb < db
                  · have hpt := HPUT.out hsh hy1 hx0
                    have HPT := Lib.hid hpt
                    clear hsh hpt
                    by_cases hx1 : db < 0
                    · clear hx0
                      go_wp2_with fail
                      go_quiet (fail)
                      go_wp2_with fail
                      go_roundg (AR.length - (k + 1))
                      case measure => have := HM2.out; omega
                      case rel => exact ⟨k + 1, L2.set b (da + wb), true, rfl, by omega, by go_num, rfl, (HR2a.out.step (bl_drewN (Below.refl _ _) _)).put b _, (HQ2a.out.below (bl_drewN (Below.refl _ _) _)).upd (F := fun b => b = g) (upd_setCell (F := fun b => b = g) (a := ⟨g, b, none⟩) (Upd.refl _ _) rfl _) fun b o e => HQG.out b o e, HPT.out⟩
                    · have hx2 : da + wb < db := by omega
                      clear hx0
                      go_wp2_with fail
                      go_quiet (fail)
                      go_wp2_with fail
                      go_roundg (AR.length - (k + 1))
                      case measure => have := HM2.out; omega
                      case rel => exact ⟨k + 1, L2.set b (da + wb), true, rfl, by omega, by go_num, rfl, (HR2a.out.step (bl_drewN (Below.refl _ _) _)).put b _, (HQ2a.out.below (bl_drewN (Below.refl _ _) _)).upd (F := fun b => b = g) (upd_setCell (F := fun b => b = g) (a := ⟨g, b, none⟩) (Upd.refl _ _) rfl _) fun b o e => HQG.out b o e, HPT.out⟩
                  · have hsk := HSKIP.out (.inr (.inr (by omega)))
                    have HSK := Lib.hid hsk
                    have hx1 : ¬ db < 0 := by omega
                    have hx2 : ¬ da + wb < db := by omega
                    clear hsh hsk hx0
                    go_wp2_with fail
                    go_quiet (fail)
                    go_wp2_with fail
                    go_roundg (AR.length - (k + 1))
                    case measure => have := HM2.out; omega
                    case rel => exact ⟨k + 1, L2, ag, rfl, by omega, by go_num, rfl, HR2a.out.step (bl_drewN (Below.refl _ _) _), HQ2a.out.below (bl_drewN (Below.refl _ _) _), HSK.out⟩
            · obtain rfl : k = AR.length := by omega
              cases ag with
              | true =>
                have hpt := HP2.out.pot_ rfl
                have HPT := Lib.hid hpt
                clear hlt hk hpt
                go_wp2_with fail
                go_roundg (2 * pot L2 + 1)
                case measure => have := HM.out; have := HPT.out; simp at this ⊢; omega
                case rel => exact ⟨L2, true, rfl, rfl, HR2.out, HQ2.out, HP2.out.len, HP2.out.rel, HP2.out.small, fun e => by cases e⟩
              | false =>
                have heq := (HP2.out.end_ rfl).1
                have hfin := HP2.out.final HALL.out
                have HEQ := Lib.hid heq
                have HFN := Lib.hid hfin
                clear hlt hk heq hfin
                go_wp2_with fail
                go_roundg (2 * pot L2)
                case measure => have := HM.out; rw [HEQ.out]; simp at this ⊢; omega
                case rel => exact ⟨L2, false, rfl, rfl, HR2.out, HQ2.out, HP2.out.len, HP2.out.rel, HP2.out.small, fun _ => HFN.out⟩
end Go.Proofs.Ytjopiefojicblaa
