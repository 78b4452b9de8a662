/- Outs: Out, RowsUse, OutUse, Append, Aside, TurnsPure, TurnsMem, one behind the other. -/
import Derived.Test.YtjopiefojicblaaGraphs
import Derived.StillTailTactics
import Derived.BigQuiet
import Derived.Test.YtjopiefojicblaaBase
import Derived.Maps.AppendAt
import Derived.Deep.AppendLies
import Derived.Deep.RegionHeld3
/- What goes from a node, and what comes to it. -/
set_option linter.unusedVariables false
set_option linter.unusedSimpArgs false
namespace Go.Proofs.Ytjopiefojicblaa
open Go.ChangeShapes Go.WideShapes Go.ChangeAt Go.RowKit RowP
theorem map_getD {l : List Nat} {j : Nat} (h : j < l.length) : (l.map fun i => ((i : Nat) : Int)).getD j 0 = ((l.getD j 0 : Nat) : Int) := by
  rw [List.getD_eq_getElem?_getD, List.getD_eq_getElem?_getD, List.getElem?_map, List.getElem?_eq_getElem h]; rfl
def outT (ns : List (Int × Int)) (es : List (Int × Int × Int)) (v : Int) : List Int := if inB 0 v ((ns.length : Int) - 1) = true then (rowOf (fromN es) es.length v.toNat).map fun i => ((i : Nat) : Int) else []
def inT (ns : List (Int × Int)) (es : List (Int × Int × Int)) (v : Int) : List Int := if inB 0 v ((ns.length : Int) - 1) = true then (rowOf (toN es) es.length v.toNat).map fun i => ((i : Nat) : Int) else []
set_option maxRecDepth 100000 in
set_option maxHeartbeats 4000000 in
theorem out_at {w : World} {B E p : Nat} {ns bs : List (Int × Int)} {es : List (Int × Int × Int)} (h : GraphAt w B E p ns es bs) (v : Int) : Calls Try.prog 73 #[.pointer (some ⟨p, 0, none⟩), .int .i64 v] w fun e w' =>
    ∃ A' c', e = .returned (.slice A' (outT ns es v).length c') ∧ w'.ownsRow w.heap.size 3 1 (.slice A' (outT ns es v).length c') (outT ns es v).length (flatI (outT ns es v)) ∧ Below w.heap.size w w' := by
  cases hin : inB 0 v ((ns.length : Int) - 1)
  · have he : outT ns es v = [] := by unfold outT; rw [hin]; rfl
    have HE := Lib.hid he
    have HG := Lib.hid h
    unfold inB at hin
    simp only [Bool.and_eq_false_iff, decide_eq_false_iff_not] at hin
    clear h he
    by_cases h0 : v < 0
    · clear hin
      go_enter Try.func73, Try.ntmps73
      go_wp2_with fail
      go_ret
      exact ⟨none, 0, by rw [HE.out]; rfl, by rw [HE.out]; exact World.ownsRow_nil _ _ _ _, Below.refl _ _⟩
    · have h1 : (ns.length : Int) ≤ v := by omega
      clear hin
      go_enter Try.func73, Try.ntmps73
      go_wp2_with (go_at_call 46; refine (nodes_at HG.out).mono ?_; rintro e w' ⟨rfl, rfl⟩)
      go_ret
      exact ⟨none, 0, by rw [HE.out]; rfl, by rw [HE.out]; exact World.ownsRow_nil _ _ _ _, Below.refl _ _⟩
  · unfold inB at hin
    have hin' := hin
    simp only [Bool.and_eq_true, decide_eq_true_eq] at hin'
    obtain ⟨i0, i1⟩ := hin'
    obtain ⟨k, rfl⟩ : ∃ k : Nat, v = (k : Int) := ⟨v.toNat, by omega⟩
    obtain ⟨d, hd⟩ := h
    obtain ⟨_, ⟨s1, s2, s3, s4⟩, _, _⟩ := mayB_parts hd.ok
    have hk : k < ns.length := by omega
    have hval : outT ns es (k : Int) = (rowOf (fromN es) es.length k).map fun i => ((i : Nat) : Int) := by unfold outT; rw [show inB 0 (k : Int) ((ns.length : Int) - 1) = true from hin, if_pos rfl, Int.toNat_natCast]
    have hlen : (outT ns es (k : Int)).length = cnt (fromN es) es.length k := by rw [hval, List.length_map]; rfl
    have hp0 := hd.sO.first k (by omega)
    have hp1 := hd.sO.first (k + 1) (by omega)
    rw [pre_succ] at hp1
    have hseg := seg_le (fromN es) es.length k
    have x0 := hd.iF.cell (i := k) (by omega)
    have x1 := hd.iF.cell (i := k + 1) (by omega)
    rw [hp0] at x0
    rw [hp1] at x1
    have hrow := hd.sO.row k hk
    have hcr := fun j (hj : j < cnt (fromN es) es.length k) => hd.iO.cell (i := pre (fromN es) es.length k + j) (by omega)
    obtain ⟨lo, hlo⟩ : ∃ lo, lo = pre (fromN es) es.length k := ⟨_, rfl⟩
    obtain ⟨ln, hln⟩ : ∃ ln, ln = cnt (fromN es) es.length k := ⟨_, rfl⟩
    rw [← hlo] at x0 x1 hseg hrow hcr
    rw [← hln] at x1 hseg hlen hrow hcr
    obtain ⟨R, hR⟩ : ∃ R, R = outT ns es (k : Int) := ⟨_, rfl⟩
    rw [← hR] at hlen hval ⊢
    have hgd : ∀ j, j < ln → w.cell? ⟨d.bO, lo + j, none⟩ = some (.int .i64 (R.getD j 0)) := by
      intro j hj
      rw [hcr j hj, hrow j hj, hval, map_getD (by show j < cnt (fromN es) es.length k; omega)]
    have hwf : ∀ x ∈ R, (Lit.int .i64 x).wf = true := by
      intro x hx
      rw [hval] at hx
      obtain ⟨i, hi, rfl⟩ := List.mem_map.1 hx
      have := (List.mem_filter.1 hi).1
      rw [List.mem_range] at this
      exact wf_of (by omega) (by omega)
    have hrd : ReadsI w (some ⟨d.bO, lo, none⟩) ln (es.length - lo) R := ⟨hlen, by unfold maxLen; omega, fun _ => ⟨d.bO, lo, rfl, hgd⟩, hwf⟩
    have g0 : w.cell? ⟨p, 3, none⟩ = some (.slice (some ⟨d.bO, 0, none⟩) es.length es.length) := block_cell hd.hp rfl
    have g1 : w.cell? ⟨p, 5, none⟩ = some (.slice (some ⟨d.bF, 0, none⟩) (ns.length + 1) d.cF) := block_cell hd.hp rfl
    have HG : Hid (GraphAt w B E p ns es bs) := Lib.hid ⟨d, hd⟩
    have HRD := Lib.hid hrd
    have HRD0 : Hid (es.length ≤ lo → ReadsI w (some ⟨d.bO, 0, none⟩) ln 0 R) := Lib.hid fun hle => ⟨hlen, by unfold maxLen; omega, fun h => by omega, hwf⟩
    have HLEN := Lib.hid hlen
    have hkI : (k : Int) < (ns.length : Int) := by omega
    have j2 : (k : Int) < (ns.length : Int) + 1 := by omega
    have j3 : (k : Int) + 1 < (ns.length : Int) + 1 := by omega
    have j4 : (lo : Int) ≤ (lo : Int) + (ln : Int) := by omega
    have j5 : (lo : Int) + (ln : Int) ≤ (es.length : Int) := by omega
    have j6 : lo + ln ≤ es.length := by omega
    have j7 : IntKind.i64.wrap ((k : Int) + 1) = (k : Int) + 1 := IntWalk.i64_in _ (by omega)
    have j8 : (0 : Int) ≤ (k : Int) + 1 := by omega
    have j9 : (0 : Int) ≤ (lo : Int) := by omega
    rw [show (((lo + ln : Nat)) : Int) = (lo : Int) + (ln : Int) by omega] at x1
    clear hin hd hval hlen hp0 hp1 hseg hrow hcr hR hgd hwf hrd i1 hlo hln
    go_enter Try.func73, Try.ntmps73
    go_wp2_with (go_at_call 46; refine (nodes_at HG.out).mono ?_; rintro e w' ⟨rfl, rfl⟩)
    go_still_tail 20, (by kernel_rfl)
    change wpList _ _ _ _ _ (World.drew _)
    go_wp2_with fail
    all_goals
      first
        | with_reducible refine (clone_int (HRD.out.below (bl_drew (Below.refl _ _))) (by omega)).mono ?_
        | refine (clone_int ((HRD0.out (by omega)).below (bl_drew (Below.refl _ _))) (by omega)).mono ?_
    all_goals
      rintro e w2 ⟨A', c', rfl, hown, hb, _⟩
      have HO := Lib.hid hown
      have HB := Lib.hid hb
      clear hown hb
      go_wp2_with fail
      go_ret
      refine ⟨A', c', by rw [HLEN.out]; rfl, ?_, bl_then (bl_drew (Below.refl _ _)) HB.out⟩
      have := HO.out
      rw [HLEN.out]; exact this
set_option maxRecDepth 100000 in
set_option maxHeartbeats 4000000 in
theorem in_at {w : World} {B E p : Nat} {ns bs : List (Int × Int)} {es : List (Int × Int × Int)} (h : GraphAt w B E p ns es bs) (v : Int) : Calls Try.prog 48 #[.pointer (some ⟨p, 0, none⟩), .int .i64 v] w fun e w' =>
    ∃ A' c', e = .returned (.slice A' (inT ns es v).length c') ∧ w'.ownsRow w.heap.size 3 1 (.slice A' (inT ns es v).length c') (inT ns es v).length (flatI (inT ns es v)) ∧ Below w.heap.size w w' := by
  cases hin : inB 0 v ((ns.length : Int) - 1)
  · have he : inT ns es v = [] := by unfold inT; rw [hin]; rfl
    have HE := Lib.hid he
    have HG := Lib.hid h
    unfold inB at hin
    simp only [Bool.and_eq_false_iff, decide_eq_false_iff_not] at hin
    clear h he
    by_cases h0 : v < 0
    · clear hin
      go_enter Try.func48, Try.ntmps48
      go_wp2_with fail
      go_ret
      exact ⟨none, 0, by rw [HE.out]; rfl, by rw [HE.out]; exact World.ownsRow_nil _ _ _ _, Below.refl _ _⟩
    · have h1 : (ns.length : Int) ≤ v := by omega
      clear hin
      go_enter Try.func48, Try.ntmps48
      go_wp2_with (go_at_call 46; refine (nodes_at HG.out).mono ?_; rintro e w' ⟨rfl, rfl⟩)
      go_ret
      exact ⟨none, 0, by rw [HE.out]; rfl, by rw [HE.out]; exact World.ownsRow_nil _ _ _ _, Below.refl _ _⟩
  · unfold inB at hin
    have hin' := hin
    simp only [Bool.and_eq_true, decide_eq_true_eq] at hin'
    obtain ⟨i0, i1⟩ := hin'
    obtain ⟨k, rfl⟩ : ∃ k : Nat, v = (k : Int) := ⟨v.toNat, by omega⟩
    obtain ⟨d, hd⟩ := h
    obtain ⟨_, ⟨s1, s2, s3, s4⟩, _, _⟩ := mayB_parts hd.ok
    have hk : k < ns.length := by omega
    have hval : inT ns es (k : Int) = (rowOf (toN es) es.length k).map fun i => ((i : Nat) : Int) := by unfold inT; rw [show inB 0 (k : Int) ((ns.length : Int) - 1) = true from hin, if_pos rfl, Int.toNat_natCast]
    have hlen : (inT ns es (k : Int)).length = cnt (toN es) es.length k := by rw [hval, List.length_map]; rfl
    have hp0 := hd.sI.first k (by omega)
    have hp1 := hd.sI.first (k + 1) (by omega)
    rw [pre_succ] at hp1
    have hseg := seg_le (toN es) es.length k
    have x0 := hd.iT.cell (i := k) (by omega)
    have x1 := hd.iT.cell (i := k + 1) (by omega)
    rw [hp0] at x0
    rw [hp1] at x1
    have hrow := hd.sI.row k hk
    have hcr := fun j (hj : j < cnt (toN es) es.length k) => hd.iI.cell (i := pre (toN es) es.length k + j) (by omega)
    obtain ⟨lo, hlo⟩ : ∃ lo, lo = pre (toN es) es.length k := ⟨_, rfl⟩
    obtain ⟨ln, hln⟩ : ∃ ln, ln = cnt (toN es) es.length k := ⟨_, rfl⟩
    rw [← hlo] at x0 x1 hseg hrow hcr
    rw [← hln] at x1 hseg hlen hrow hcr
    obtain ⟨R, hR⟩ : ∃ R, R = inT ns es (k : Int) := ⟨_, rfl⟩
    rw [← hR] at hlen hval ⊢
    have hgd : ∀ j, j < ln → w.cell? ⟨d.bI, lo + j, none⟩ = some (.int .i64 (R.getD j 0)) := by
      intro j hj
      rw [hcr j hj, hrow j hj, hval, map_getD (by show j < cnt (toN es) es.length k; omega)]
    have hwf : ∀ x ∈ R, (Lit.int .i64 x).wf = true := by
      intro x hx
      rw [hval] at hx
      obtain ⟨i, hi, rfl⟩ := List.mem_map.1 hx
      have := (List.mem_filter.1 hi).1
      rw [List.mem_range] at this
      exact wf_of (by omega) (by omega)
    have hrd : ReadsI w (some ⟨d.bI, lo, none⟩) ln (es.length - lo) R := ⟨hlen, by unfold maxLen; omega, fun _ => ⟨d.bI, lo, rfl, hgd⟩, hwf⟩
    have g0 : w.cell? ⟨p, 4, none⟩ = some (.slice (some ⟨d.bI, 0, none⟩) es.length es.length) := block_cell hd.hp rfl
    have g1 : w.cell? ⟨p, 6, none⟩ = some (.slice (some ⟨d.bT, 0, none⟩) (ns.length + 1) d.cT) := block_cell hd.hp rfl
    have HG : Hid (GraphAt w B E p ns es bs) := Lib.hid ⟨d, hd⟩
    have HRD := Lib.hid hrd
    have HRD0 : Hid (es.length ≤ lo → ReadsI w (some ⟨d.bI, 0, none⟩) ln 0 R) := Lib.hid fun hle => ⟨hlen, by unfold maxLen; omega, fun h => by omega, hwf⟩
    have HLEN := Lib.hid hlen
    have hkI : (k : Int) < (ns.length : Int) := by omega
    have j2 : (k : Int) < (ns.length : Int) + 1 := by omega
    have j3 : (k : Int) + 1 < (ns.length : Int) + 1 := by omega
    have j4 : (lo : Int) ≤ (lo : Int) + (ln : Int) := by omega
    have j5 : (lo : Int) + (ln : Int) ≤ (es.length : Int) := by omega
    have j6 : lo + ln ≤ es.length := by omega
    have j7 : IntKind.i64.wrap ((k : Int) + 1) = (k : Int) + 1 := IntWalk.i64_in _ (by omega)
    have j8 : (0 : Int) ≤ (k : Int) + 1 := by omega
    have j9 : (0 : Int) ≤ (lo : Int) := by omega
    rw [show (((lo + ln : Nat)) : Int) = (lo : Int) + (ln : Int) by omega] at x1
    clear hin hd hval hlen hp0 hp1 hseg hrow hcr hR hgd hwf hrd i1 hlo hln
    go_enter Try.func48, Try.ntmps48
    go_wp2_with (go_at_call 46; refine (nodes_at HG.out).mono ?_; rintro e w' ⟨rfl, rfl⟩)
    go_still_tail 20, (by kernel_rfl)
    change wpList _ _ _ _ _ (World.drew _)
    go_wp2_with fail
    all_goals
      first
        | with_reducible refine (clone_int (HRD.out.below (bl_drew (Below.refl _ _))) (by omega)).mono ?_
        | refine (clone_int ((HRD0.out (by omega)).below (bl_drew (Below.refl _ _))) (by omega)).mono ?_
    all_goals
      rintro e w2 ⟨A', c', rfl, hown, hb, _⟩
      have HO := Lib.hid hown
      have HB := Lib.hid hb
      clear hown hb
      go_wp2_with fail
      go_ret
      refine ⟨A', c', by rw [HLEN.out]; rfl, ?_, bl_then (bl_drew (Below.refl _ _)) HB.out⟩
      have := HO.out
      rw [HLEN.out]; exact this
end Go.Proofs.Ytjopiefojicblaa
/- What goes and what comes, as lists: lengths, numbers, order. -/
set_option linter.unusedVariables false
set_option linter.unusedSimpArgs false
namespace Go.Proofs.Ytjopiefojicblaa
open Go.RowKit RowP
theorem inB_nat {v n : Nat} (h : v < n) : inB 0 ((v : Nat) : Int) ((n : Int) - 1) = true := by unfold inB; simp; omega
theorem edgeT_in {es : List (Int × Int × Int)} {q : Nat} (h : q < es.length) : edgeT es ((q : Nat) : Int) = es.getD q (0, 0, 0) := by unfold edgeT; rw [if_pos (inB_nat h), Int.toNat_natCast]
theorem nodeT_in {ns : List (Int × Int)} {q : Nat} (h : q < ns.length) : nodeT ns ((q : Nat) : Int) = ns.getD q (0, 0) := by unfold nodeT; rw [if_pos (inB_nat h), Int.toNat_natCast]
theorem outT_in {ns : List (Int × Int)} {es : List (Int × Int × Int)} {v : Nat} (h : v < ns.length) : outT ns es ((v : Nat) : Int) = (rowOf (fromN es) es.length v).map fun i => ((i : Nat) : Int) := by unfold outT; rw [if_pos (inB_nat h), Int.toNat_natCast]
theorem outT_not {ns : List (Int × Int)} {es : List (Int × Int × Int)} {v : Int} (h : inB 0 v ((ns.length : Int) - 1) = false) : outT ns es v = [] := by unfold outT; rw [h]; rfl
theorem outT_len {ns : List (Int × Int)} {es : List (Int × Int × Int)} {v : Nat} (h : v < ns.length) : (outT ns es ((v : Nat) : Int)).length = cnt (fromN es) es.length v := by rw [outT_in h, List.length_map]; rfl
theorem outT_get {ns : List (Int × Int)} {es : List (Int × Int × Int)} {v j : Nat} (h : v < ns.length) (hj : j < cnt (fromN es) es.length v) : ∃ q : Nat, (outT ns es ((v : Nat) : Int)).getD j 0 = (q : Int) ∧ q < es.length ∧ fromN es q = v ∧ (0 < j → (outT ns es ((v : Nat) : Int)).getD (j - 1) 0 < (q : Int)) := by
  have h1 := rowOf_at hj
  rw [outT_in h, map_getD (by show j < cnt _ _ _; exact hj)]
  refine ⟨_, rfl, h1.2, h1.1, fun h0 => ?_⟩
  rw [map_getD (by show j - 1 < cnt _ _ _; omega)]
  have := rowOf_rising (f := fromN es) (m := es.length) (v := v) (show j - 1 < j by omega) hj
  omega
theorem outT_mem {ns : List (Int × Int)} {es : List (Int × Int × Int)} {v : Nat} (h : v < ns.length) {x : Int} : x ∈ outT ns es ((v : Nat) : Int) ↔ ∃ q : Nat, x = (q : Int) ∧ q < es.length ∧ fromN es q = v := by
  rw [outT_in h]
  unfold rowOf
  simp only [List.mem_map, List.mem_filter, List.mem_range, beq_iff_eq]
  constructor
  · rintro ⟨q, ⟨h1, h2⟩, rfl⟩; exact ⟨q, rfl, h1, h2⟩
  · rintro ⟨q, rfl, h1, h2⟩; exact ⟨q, ⟨h1, h2⟩, rfl⟩
theorem inT_in {ns : List (Int × Int)} {es : List (Int × Int × Int)} {v : Nat} (h : v < ns.length) : inT ns es ((v : Nat) : Int) = (rowOf (toN es) es.length v).map fun i => ((i : Nat) : Int) := by unfold inT; rw [if_pos (inB_nat h), Int.toNat_natCast]
theorem inT_not {ns : List (Int × Int)} {es : List (Int × Int × Int)} {v : Int} (h : inB 0 v ((ns.length : Int) - 1) = false) : inT ns es v = [] := by unfold inT; rw [h]; rfl
theorem inT_len {ns : List (Int × Int)} {es : List (Int × Int × Int)} {v : Nat} (h : v < ns.length) : (inT ns es ((v : Nat) : Int)).length = cnt (toN es) es.length v := by rw [inT_in h, List.length_map]; rfl
theorem inT_get {ns : List (Int × Int)} {es : List (Int × Int × Int)} {v j : Nat} (h : v < ns.length) (hj : j < cnt (toN es) es.length v) : ∃ q : Nat, (inT ns es ((v : Nat) : Int)).getD j 0 = (q : Int) ∧ q < es.length ∧ toN es q = v ∧ (0 < j → (inT ns es ((v : Nat) : Int)).getD (j - 1) 0 < (q : Int)) := by
  have h1 := rowOf_at hj
  rw [inT_in h, map_getD (by show j < cnt _ _ _; exact hj)]
  refine ⟨_, rfl, h1.2, h1.1, fun h0 => ?_⟩
  rw [map_getD (by show j - 1 < cnt _ _ _; omega)]
  have := rowOf_rising (f := toN es) (m := es.length) (v := v) (show j - 1 < j by omega) hj
  omega
theorem inT_mem {ns : List (Int × Int)} {es : List (Int × Int × Int)} {v : Nat} (h : v < ns.length) {x : Int} : x ∈ inT ns es ((v : Nat) : Int) ↔ ∃ q : Nat, x = (q : Int) ∧ q < es.length ∧ toN es q = v := by
  rw [inT_in h]
  unfold rowOf
  simp only [List.mem_map, List.mem_filter, List.mem_range, beq_iff_eq]
  constructor
  · rintro ⟨q, ⟨h1, h2⟩, rfl⟩; exact ⟨q, rfl, h1, h2⟩
  · rintro ⟨q, rfl, h1, h2⟩; exact ⟨q, ⟨h1, h2⟩, rfl⟩
theorem out_all {ns bs : List (Int × Int)} {es : List (Int × Int × Int)} (h : mayB ns es bs = true) : pre (fromN es) es.length ns.length = es.length := pre_all _ _ _ fun i hi => ((mayB_parts h).2.2.1 i hi).2
theorem in_all {ns bs : List (Int × Int)} {es : List (Int × Int × Int)} (h : mayB ns es bs = true) : pre (toN es) es.length ns.length = es.length := pre_all _ _ _ fun i hi => ((mayB_parts h).2.2.2 i hi).2
end Go.Proofs.Ytjopiefojicblaa
/- Out and In as their callers get them: slices that read. -/
set_option linter.unusedVariables false
set_option linter.unusedSimpArgs false
namespace Go.Proofs.Ytjopiefojicblaa
open Go.ChangeShapes Go.WideShapes Go.ChangeAt Go.RowKit RowP
theorem outT_wf {ns bs : List (Int × Int)} {es : List (Int × Int × Int)} (h : mayB ns es bs = true) (v : Int) : (∀ x ∈ outT ns es v, (Lit.int .i64 x).wf = true) ∧ (outT ns es v).length ≤ es.length := by
  have hs := (mayB_parts h).2.1
  unfold outT
  split
  · refine ⟨fun x hx => ?_, ?_⟩
    · obtain ⟨i, hi, rfl⟩ := List.mem_map.1 hx
      have := List.mem_range.1 (List.mem_filter.1 hi).1
      exact wf_of (by omega) (by omega)
    · rw [List.length_map]; exact Nat.le_trans (List.length_filter_le _ _) (by simp)
  · simp
theorem out_reads {w : World} {B E p : Nat} {ns bs : List (Int × Int)} {es : List (Int × Int × Int)} (h : GraphAt w B E p ns es bs) (v : Int) : Calls Try.prog 73 #[.pointer (some ⟨p, 0, none⟩), .int .i64 v] w fun e w' =>
    ∃ A' c', e = .returned (.slice A' (outT ns es v).length c') ∧ ReadsI w' A' (outT ns es v).length c' (outT ns es v) ∧ (∀ b o, A' = some ⟨b, o, none⟩ → w.heap.size ≤ b ∧ b < w'.heap.size) ∧ Below w.heap.size w w' := by
  obtain ⟨d, hd⟩ := h
  have hwf := outT_wf hd.ok v
  have hs := (mayB_parts hd.ok).2.1
  refine (out_at ⟨d, hd⟩ v).mono ?_
  rintro e w' ⟨A', c', rfl, hown, hb⟩
  refine ⟨A', c', rfl, ReadsI.of_row hown (by unfold maxLen; omega) hwf.1, fun b o e => ?_, hb⟩
  subst e
  rcases hown.2 with ⟨h0, _⟩ | ⟨g, c, cur, e, hb, hg, _⟩
  · cases h0
  · injection e with e1 _ _
    injection e1 with e1
    injection e1 with e1 _ _
    subst e1
    refine ⟨hb, ?_⟩
    rcases Nat.lt_or_ge b w'.heap.size with h1 | h1
    · exact h1
    · rw [Array.getElem?_eq_none h1] at hg; cases hg
theorem inT_wf {ns bs : List (Int × Int)} {es : List (Int × Int × Int)} (h : mayB ns es bs = true) (v : Int) : (∀ x ∈ inT ns es v, (Lit.int .i64 x).wf = true) ∧ (inT ns es v).length ≤ es.length := by
  have hs := (mayB_parts h).2.1
  unfold inT
  split
  · refine ⟨fun x hx => ?_, ?_⟩
    · obtain ⟨i, hi, rfl⟩ := List.mem_map.1 hx
      have := List.mem_range.1 (List.mem_filter.1 hi).1
      exact wf_of (by omega) (by omega)
    · rw [List.length_map]; exact Nat.le_trans (List.length_filter_le _ _) (by simp)
  · simp
theorem in_reads {w : World} {B E p : Nat} {ns bs : List (Int × Int)} {es : List (Int × Int × Int)} (h : GraphAt w B E p ns es bs) (v : Int) : Calls Try.prog 48 #[.pointer (some ⟨p, 0, none⟩), .int .i64 v] w fun e w' =>
    ∃ A' c', e = .returned (.slice A' (inT ns es v).length c') ∧ ReadsI w' A' (inT ns es v).length c' (inT ns es v) ∧ (∀ b o, A' = some ⟨b, o, none⟩ → w.heap.size ≤ b ∧ b < w'.heap.size) ∧ Below w.heap.size w w' := by
  obtain ⟨d, hd⟩ := h
  have hwf := inT_wf hd.ok v
  have hs := (mayB_parts hd.ok).2.1
  refine (in_at ⟨d, hd⟩ v).mono ?_
  rintro e w' ⟨A', c', rfl, hown, hb⟩
  refine ⟨A', c', rfl, ReadsI.of_row hown (by unfold maxLen; omega) hwf.1, fun b o e => ?_, hb⟩
  subst e
  rcases hown.2 with ⟨h0, _⟩ | ⟨g, c, cur, e, hb, hg, _⟩
  · cases h0
  · injection e with e1 _ _
    injection e1 with e1
    injection e1 with e1 _ _
    subst e1
    refine ⟨hb, ?_⟩
    rcases Nat.lt_or_ge b w'.heap.size with h1 | h1
    · exact h1
    · rw [Array.getElem?_eq_none h1] at hg; cases hg
end Go.Proofs.Ytjopiefojicblaa
/- append onto a row of the call's own, of cells that lie anywhere, or of none. -/
set_option linter.unusedVariables false
set_option linter.unusedSimpArgs false
namespace Go.Proofs.Ytjopiefojicblaa
open Go.ChangeShapes Go.WideShapes Go.ChangeAt Go.RowKit
/-- m elements lie at A: none where nothing is there -/
structure Src (w : World) (size : Nat) (A : Option Addr) (m : Nat) (news : List Value) : Prop where
  len : news.length = m * size
  one : ∀ u ∈ news, u.oneCell' = true
  at_ : ∀ ad, A = some ad → ∀ j u, news[j]? = some u → w.cell? (ad.add j) = some u
  none_ : A = none → m = 0
theorem Src.below {w w' : World} {size m : Nat} {A : Option Addr} {news : List Value} (h : Src w size A m news) (hb : Below w.heap.size w w') : Src w' size A m news :=
  ⟨h.len, h.one, fun ad hA j u hu => (hb.cell (World.block_lt_of_cell? _ _ (h.at_ ad hA j u hu))).trans (h.at_ ad hA j u hu), h.none_⟩
theorem Src.ofI {w : World} {A : Option Addr} {n c : Nat} {xs : List Int} (h : ReadsI w A n c xs) : Src w 1 A n (flatI xs) :=
  ⟨by rw [flatI_len, h.len], flat_oneflatI xs, h.flat, fun e => by rcases Nat.eq_zero_or_pos n with h0 | h0; exact h0; obtain ⟨b, o, e2, _⟩ := h.cell h0; rw [e] at e2; cases e2⟩
theorem Src.ofP {w : World} {A : Option Addr} {n c : Nat} {xs : List (Int × Int)} (h : ReadsP w A n c xs) : Src w 2 A n (flat2 xs) :=
  ⟨by rw [flat2_len, h.len], flat_oneflat2 xs, h.flat, fun e => by rcases Nat.eq_zero_or_pos n with h0 | h0; exact h0; obtain ⟨b, o, e2, _⟩ := h.cell h0; rw [e] at e2; cases e2⟩
theorem Src.ofT {w : World} {A : Option Addr} {n c : Nat} {xs : List (Int × Int × Int)} (h : ReadsT w A n c xs) : Src w 3 A n (flat3 xs) :=
  ⟨by rw [flat3_len, h.len], flat_oneflat3 xs, h.flat, fun e => by rcases Nat.eq_zero_or_pos n with h0 | h0; exact h0; obtain ⟨b, o, e2, _⟩ := h.cell h0; rw [e] at e2; cases e2⟩
/-- one element in a block that was just laid -/
theorem Src.new {w : World} {vs : Array Value} {t : TypeId} (h1 : ∀ u ∈ vs.toList, u.oneCell' = true) {size : Nat} (hs : vs.size = 1 * size) : Src (w.alloc (.cells vs t)) size (some ⟨w.heap.size, 0, none⟩) 1 vs.toList := by
  refine ⟨by simpa using hs, h1, fun ad hA j u hu => ?_, fun e => by cases e⟩
  injection hA with hA
  subst hA
  rw [Addr.add_lit, Nat.zero_add]
  exact block_cell_new w vs t j u (by simpa using hu)
where
  block_cell_new (w : World) (vs : Array Value) (t : TypeId) (j : Nat) (u : Value) (hu : vs[j]? = some u) : (w.alloc (.cells vs t)).cell? ⟨w.heap.size, j, none⟩ = some u := by
    have h : (w.alloc (.cells vs t)).heap[w.heap.size]? = some (.cells vs t) := by show (w.heap.push _)[w.heap.size]? = _; simp
    unfold World.cell?
    simp only [h]
    exact hu
theorem run_push_none (w : World) {base : Nat} {t ty e : TypeId} {i : TypeInfo} {size : Nat} (ht : Try.prog.underlying t = some (.slice e)) (hi : Try.prog.info? e = some i) {v : Value} {n : Nat} {xs : List Value} (hown : w.ownsRow base e size v n xs) (c : Nat) :
    (Builtin.append_ #[t, t] ty #[v, .slice none 0 c]).run Try.prog w = .ok v w := by
  rcases hown.2 with ⟨rfl, _⟩ | ⟨g, cap, cur, rfl, _, _, hle, _⟩ <;> simp [Builtin.append_, run_underlying ht, sizeOf, typeInfo, hi, Builtin.lenOf, Builtin.firstCells, storeCells, *]
/-- what an append leaves: the row is longer; it lies where it lay, or in the block that was just made -/
structure Grown (w w' : World) (base : Nat) (e : TypeId) (size : Nat) (v v' : Value) (n : Nat) (xs : List Value) : Prop where
  row : w'.ownsRow base e size v' n xs
  by_ : w.grownBy w' v.ownBlock
  lies : v'.ownBlock = v.ownBlock ∨ v'.ownBlock = some w.heap.size
theorem run_push (w : World) {base : Nat} {t : TypeId} (ty : TypeId) {e : TypeId} {i : TypeInfo} {z : Value} {size bytes : Nat} (ht : Try.prog.underlying t = some (.slice e)) (hI : Try.prog.info? e = some i ∧ i.zero = some z ∧ i.size = size ∧ i.bytes = bytes)
    (hzs : z.cells.size = size ∧ 0 < size) {v : Value} {n : Nat} {xs : List Value} (hown : w.ownsRow base e size v n xs) {A : Option Addr} {m : Nat} (c : Nat) {news : List Value} (hs : Src w size A m news)
    (hsm : n + m ≤ maxLen ∧ (n + m) * bytes ≤ 140737488355328) (hbase : base ≤ w.heap.size) :
    ∃ v' w', (Builtin.append_ #[t, t] ty #[v, .slice A m c]).run Try.prog w = .ok v' w' ∧ Grown w w' base e size v v' (n + m) (xs ++ news) := by
  cases A with
  | none =>
    obtain rfl := hs.none_ rfl
    obtain rfl : news = [] := List.eq_nil_of_length_eq_zero (by have := hs.len; omega)
    exact ⟨v, w, run_push_none w ht hI.1 hown c, by rw [List.append_nil]; exact hown, World.grownBy.refl _ _, .inl rfl⟩
  | some ad =>
    obtain ⟨v', w', h1, h2, h3, _, h5⟩ := run_append_own_at (P := Try.prog) w base t ty e i z size bytes ht hI.1 hI.2.1 hI.2.2.1 hI.2.2.2 hzs.1 hzs.2 v n xs hown ad m c news hs.len (hs.at_ ad rfl) hs.one hsm.1 hsm.2 hbase
    exact ⟨v', w', h1, h2, h3, h5⟩
theorem wp_builtin {o : Oper} {a : Act} {w w' : World} {v v' : Value} {K : Act → World → Prop} {Q : Exit → Act → World → Prop} (s x : Operand) (t : TypeId) {y : Value} (ho : o.op = .call { callee := .builtin .append, args := #[s, x], argTypes := #[t, t] })
    (hs : a.eval s = v) (hx : a.eval x = y) (hrun : (Builtin.append_ #[t, t] o.type #[v, y]).run Try.prog w = .ok v' w') (h : K (a.put o.dst v') w') : o.wp Try.prog a w K Q := by
  subst hs hx
  unfold Oper.wp execOp
  simp only [ho, resolve, invoke, builtin, Sem.run_bind, Sem.run_pure, Result.andThen_ok, List.map_toArray, List.map_cons, List.map_nil, hrun]
  exact h
theorem wpList_push {ops : Array Oper} {rest : List Oper} {o : Oper} {a : Act} {w : World} {Q : Exit → Act → World → Prop} (hg : o.guard = none) (s x : Operand) (t : TypeId) (ho : o.op = .call { callee := .builtin .append, args := #[s, x], argTypes := #[t, t] })
    (base : Nat) (e : TypeId) {i : TypeInfo} {z : Value} {size bytes : Nat} (ht : Try.prog.underlying t = some (.slice e)) (hI : Try.prog.info? e = some i ∧ i.zero = some z ∧ i.size = size ∧ i.bytes = bytes) (hzs : z.cells.size = size ∧ 0 < size)
    (v : Value) (n : Nat) (xs : List Value) (hs : a.eval s = v) (hown : w.ownsRow base e size v n xs) (A : Option Addr) (m c : Nat) (news : List Value) (hx : a.eval x = .slice A m c) (hsrc : Src w size A m news)
    (hsm : n + m ≤ maxLen ∧ (n + m) * bytes ≤ 140737488355328) (hbase : base ≤ w.heap.size)
    (h : ∀ v' w', Grown w w' base e size v v' (n + m) (xs ++ news) → wpList Try.prog ops Q rest (a.put o.dst v') w') : wpList Try.prog ops Q (o :: rest) a w := by
  obtain ⟨v', w', hrun, hgr⟩ := run_push w o.type ht hI hzs hown c hsrc hsm hbase
  exact wpList_plain hg fun K hK => wp_builtin s x t ho hs hx hrun (hK _ _ (h v' w' hgr))
theorem step_push {ops : Array Oper} {o : Oper} {a : Act} {w : World} {K : Act → World → Prop} {Q : Exit → Act → World → Prop} {E : Prop} (hg : o.guard = none) (s x : Operand) (t : TypeId) (ho : o.op = .call { callee := .builtin .append, args := #[s, x], argTypes := #[t, t] })
    (base : Nat) (e : TypeId) {i : TypeInfo} {z : Value} {size bytes : Nat} (ht : Try.prog.underlying t = some (.slice e)) (hI : Try.prog.info? e = some i ∧ i.zero = some z ∧ i.size = size ∧ i.bytes = bytes) (hzs : z.cells.size = size ∧ 0 < size)
    (v : Value) (n : Nat) (xs : List Value) (hs : a.eval s = v) (hown : w.ownsRow base e size v n xs) (A : Option Addr) (m c : Nat) (news : List Value) (hx : a.eval x = .slice A m c) (hsrc : Src w size A m news)
    (hsm : n + m ≤ maxLen ∧ (n + m) * bytes ≤ 140737488355328) (hbase : base ≤ w.heap.size)
    (h : ∀ v' w', Grown w w' base e size v v' (n + m) (xs ++ news) → K (a.put o.dst v') w') : if Region.wanted o (yielded ops a.tmps) = true then Oper.wp Try.prog o a w K Q else E := by
  rw [if_pos (by simp [Region.wanted, hg])]
  obtain ⟨v', w', hrun, hgr⟩ := run_push w o.type ht hI hzs hown c hsrc hsm hbase
  exact wp_builtin s x t ho hs hx hrun (h v' w' hgr)
theorem step_pushG {ops : Array Oper} {o : Oper} {a : Act} {w : World} {K : Act → World → Prop} {Q : Exit → Act → World → Prop} {E : Prop} (hg : Region.wanted o (yielded ops a.tmps) = true) (s x : Operand) (t : TypeId) (ho : o.op = .call { callee := .builtin .append, args := #[s, x], argTypes := #[t, t] })
    (base : Nat) (e : TypeId) {i : TypeInfo} {z : Value} {size bytes : Nat} (ht : Try.prog.underlying t = some (.slice e)) (hI : Try.prog.info? e = some i ∧ i.zero = some z ∧ i.size = size ∧ i.bytes = bytes) (hzs : z.cells.size = size ∧ 0 < size)
    (v : Value) (n : Nat) (xs : List Value) (hs : a.eval s = v) (hown : w.ownsRow base e size v n xs) (A : Option Addr) (m c : Nat) (news : List Value) (hx : a.eval x = .slice A m c) (hsrc : Src w size A m news)
    (hsm : n + m ≤ maxLen ∧ (n + m) * bytes ≤ 140737488355328) (hbase : base ≤ w.heap.size)
    (h : ∀ v' w', Grown w w' base e size v v' (n + m) (xs ++ news) → K (a.put o.dst v') w') : if Region.wanted o (yielded ops a.tmps) = true then Oper.wp Try.prog o a w K Q else E := by
  rw [if_pos hg]
  obtain ⟨v', w', hrun, hgr⟩ := run_push w o.type ht hI hzs hown c hsrc hsm hbase
  exact wp_builtin s x t ho hs hx hrun (h v' w' hgr)
/-- the new value, written out -/
theorem Grown.val {w w' : World} {base : Nat} {e : TypeId} {size : Nat} {v v' : Value} {n : Nat} {xs : List Value} (h : Grown w w' base e size v v' n xs) : ∃ A c, v' = .slice A n c := by
  rcases h.row.2 with ⟨rfl, h0⟩ | ⟨g, cap, cur, rfl, _⟩
  · subst h0; exact ⟨none, 0, rfl⟩
  · exact ⟨_, _, rfl⟩
theorem Grown.below {w w' : World} {B base : Nat} {e : TypeId} {size : Nat} {v v' : Value} {n : Nat} {xs : List Value} (h : Grown w w' base e size v v' n xs) (hB : B ≤ w.heap.size) (hv : ∀ b, v.ownBlock = some b → B ≤ b) : Below B w w' :=
  (Below.refl _ _).grown h.by_ hB fun k hk => hv k hk
theorem own_upd {F : Nat → Prop} {w w' : World} {base : Nat} {e : TypeId} {size : Nat} {v : Value} {n : Nat} {xs : List Value} (h : w.ownsRow base e size v n xs) (hu : Upd F w w') (hF : ∀ b, v.ownBlock = some b → ¬ F b) : w'.ownsRow base e size v n xs := by
  refine ⟨h.1, h.2.imp id ?_⟩
  rintro ⟨g, c, cur, rfl, hb, hg, r⟩
  have hlt : g < w.heap.size := by
    rcases Nat.lt_or_ge g w.heap.size with h1 | h1
    · exact h1
    · rw [Array.getElem?_eq_none h1] at hg; cases hg
  exact ⟨g, c, cur, rfl, hb, by rw [hu.block g hlt (hF g rfl)]; exact hg, r⟩
theorem Src.grown {w w' : World} {size m : Nat} {A : Option Addr} {news : List Value} {row : Option Nat} (h : Src w size A m news) (hg : w.grownBy w' row) (hne : ∀ ad, A = some ad → row ≠ some ad.block) : Src w' size A m news := by
  refine ⟨h.len, h.one, fun ad hA j u hu => ?_, h.none_⟩
  have h0 := h.at_ ad hA j u hu
  have hb : (ad.add j).block = ad.block := by unfold Addr.add; split <;> rfl
  have hlt := World.block_lt_of_cell? _ _ h0
  rw [hb] at hlt
  exact (World.cell?_of_block (a := ad.add j) (by rw [hb]; exact hg.block _ hlt (fun e => hne ad hA e.symm))).trans h0
theorem own_form {w : World} {B : Nat} {e : TypeId} {s n : Nat} {v : Value} {vs : List Value} (h : w.ownsRow B e s v n vs) : ∃ A c, v = .slice A n c := by
  rcases h.2 with ⟨h0, h1⟩ | ⟨g, c, cur, e1, _⟩
  · exact ⟨none, 0, by rw [h0, h1]⟩
  · exact ⟨_, c, e1⟩
theorem own_in {w : World} {B : Nat} {e : TypeId} {s n m c : Nat} {A : Option Addr} {vs : List Value} (h : w.ownsRow B e s (.slice A n c) m vs) : ∀ b o, A = some ⟨b, o, none⟩ → B ≤ b ∧ b < w.heap.size := by
  intro b o e2
  subst e2
  exact World.ownsRow.lt h b rfl
/-- an empty row that was just laid -/
theorem own_empty (w : World) (e : TypeId) (size : Nat) : (w.alloc (.cells #[] e)).ownsRow w.heap.size e size (.slice (some ⟨w.heap.size, 0, none⟩) 0 0) 0 [] := by
  refine ⟨by simp, .inr ⟨w.heap.size, 0, #[], rfl, Nat.le_refl _, ?_, Nat.le_refl _, by unfold maxLen; omega, by simp, by simp⟩⟩
  show (w.heap.push _)[w.heap.size]? = _; simp
theorem info1 : ∃ i, Try.prog.info? 3 = some i ∧ i.zero = some (.int .i64 0) ∧ i.size = 1 ∧ i.bytes = 8 := info_parts infoInt
theorem info2 : ∃ i, Try.prog.info? 96 = some i ∧ i.zero = some (.agg #[.int .i64 0, .int .i64 0]) ∧ i.size = 2 ∧ i.bytes = 16 := info_parts infoBan
theorem info3 : ∃ i, Try.prog.info? 43 = some i ∧ i.zero = some (.agg #[.int .i64 0, .int .i64 0, .int .i64 0]) ∧ i.size = 3 ∧ i.bytes = 24 := info_parts infoEdge
end Go.Proofs.Ytjopiefojicblaa
/- A row of the call's own that grows, beside a slice that a call gave: in whatever order the two come. -/
set_option linter.unusedVariables false
set_option linter.unusedSimpArgs false
namespace Go.Proofs.Ytjopiefojicblaa
open Go.ChangeShapes Go.WideShapes Go.ChangeAt Go.RowKit RowP
structure RS (V w : World) (v : Value) (m : Nat) (L : List Int) : Prop where
  bl : Below V.heap.size V w
  row : w.ownsRow V.heap.size 3 1 v m (flatI L)
structure NS (w : World) (C : Option Addr) (c : Nat) (M : List Int) (v : Value) : Prop where
  rd : ReadsI w C M.length c M
  apart : ∀ b o, C = some ⟨b, o, none⟩ → b < w.heap.size ∧ v.ownBlock ≠ some b
theorem RS.start {V w : World} (h : Below V.heap.size V w) : RS V w (.slice none 0 0) 0 [] := ⟨h, World.ownsRow_nil _ _ _ _⟩
theorem RS.build {V w : World} {v : Value} {m : Nat} {L : List Int} (h : RS V w v m L) : RS V (w.alloc (.cells #[] 3)) (.slice (some ⟨w.heap.size, 0, none⟩) 0 0) 0 [] := by
  refine ⟨bl_alloc h.bl _, ?_⟩
  have h0 := own_empty w 3 1
  exact ⟨h0.1, h0.2.imp id fun ⟨g, c, cur, e, hb, r⟩ => ⟨g, c, cur, e, Nat.le_trans h.bl.size hb, r⟩⟩
theorem RS.below {V w w' : World} {v : Value} {m : Nat} {L : List Int} (h : RS V w v m L) (hb : Below w.heap.size w w') : RS V w' v m L :=
  ⟨bl_then h.bl hb, own_upd h.row (Upd.of_below (F := fun _ => False) hb) (fun _ _ h => h)⟩
theorem RS.push {V w w' : World} {v v' : Value} {m k : Nat} {L M : List Int} (h : RS V w v m L) (hg : Grown w w' V.heap.size 3 1 v v' (m + k) (flatI L ++ flatI M)) : RS V w' v' (m + k) (L ++ M) :=
  ⟨h.bl.grown hg.by_ h.bl.size (fun g hg' => (World.ownsRow.lt h.row g hg').1), by rw [flatI_append]; exact hg.row⟩
theorem NS.of {V w w' : World} {C : Option Addr} {c : Nat} {M : List Int} {v : Value} {m : Nat} {L : List Int} (h : RS V w v m L) (hr : ReadsI w' C M.length c M) (hf : ∀ b o, C = some ⟨b, o, none⟩ → w.heap.size ≤ b ∧ b < w'.heap.size) : NS w' C c M v :=
  ⟨hr, fun b o e => ⟨(hf b o e).2, fun e2 => by have := (World.ownsRow.lt h.row b e2).2; have := (hf b o e).1; omega⟩⟩
theorem NS.build {w : World} {C : Option Addr} {c : Nat} {M : List Int} {v : Value} (h : NS w C c M v) : NS (w.alloc (.cells #[] 3)) C c M (.slice (some ⟨w.heap.size, 0, none⟩) 0 0) :=
  ⟨h.rd.below (bl_alloc (Below.refl _ _) _), fun b o e => by
    have := (h.apart b o e).1
    exact ⟨by rw [size_alloc]; omega, fun e2 => by simp [Value.ownBlock] at e2; omega⟩⟩
theorem NS.push {w w' : World} {C : Option Addr} {c : Nat} {M : List Int} {v v' : Value} {B : Nat} {e : TypeId} {s n : Nat} {xs : List Value} (h : NS w C c M v) (hg : Grown w w' B e s v v' n xs) : NS w' C c M v' := by
  refine ⟨h.rd.upd (F := fun b => v.ownBlock = some b) ⟨hg.by_.os, hg.by_.tape, hg.by_.output, hg.by_.size, fun k hk hF => hg.by_.block k hk fun e => hF e.symm⟩ fun b o e _ => (h.apart b o e).2, fun b o e => ?_⟩
  obtain ⟨h1, h2⟩ := h.apart b o e
  refine ⟨Nat.lt_of_lt_of_le h1 hg.by_.size, ?_⟩
  rcases hg.lies with h3 | h3
  · rw [h3]; exact h2
  · rw [h3]; intro e2; injection e2 with e2; omega
/-- the front of what lies there, and the rest -/
theorem Src.front {w : World} {b o n c : Nat} {xs : List Int} (h : ReadsI w (some ⟨b, o, none⟩) n c xs) (hn : 0 < n) {j : Nat} (hj : j ≤ n) : Src w 1 (some ⟨b, o, none⟩) j (flatI (xs.take j)) := by
  obtain ⟨b', o', e, hc⟩ := h.cell hn
  injection e with e
  injection e with e1 e2
  subst e1 e2
  refine ⟨by rw [flatI_len, List.length_take, h.len]; omega, flat_oneflatI _, fun ad hA i u hu => ?_, fun e => by cases e⟩
  injection hA with hA
  subst hA
  have hi : i < j := by
    have := (List.getElem?_eq_some_iff.1 hu).1
    rw [flatI_len, List.length_take] at this; omega
  rw [Addr.add_lit, hc i (by omega)]
  rw [← hu]
  have := h.len
  simp [flatI, hi, List.getElem?_eq_getElem (show i < xs.length by omega)]
theorem Src.rest {w : World} {b o n c : Nat} {xs : List Int} (h : ReadsI w (some ⟨b, o, none⟩) n c xs) (hn : 0 < n) {j : Nat} (hj : j ≤ n) (o' : Nat) (ho : j < n → o' = o + j) : Src w 1 (some ⟨b, o', none⟩) (n - j) (flatI (xs.drop j)) := by
  obtain ⟨b', o1, e, hc⟩ := h.cell hn
  injection e with e
  injection e with e1 e2
  subst e1 e2
  refine ⟨by rw [flatI_len, List.length_drop, h.len], flat_oneflatI _, fun ad hA i u hu => ?_, fun e => by cases e⟩
  injection hA with hA
  subst hA
  have hi : i < n - j := by
    have := (List.getElem?_eq_some_iff.1 hu).1
    rw [flatI_len, List.length_drop, h.len] at this; omega
  rw [ho (by omega), Addr.add_lit, Nat.add_assoc, hc (j + i) (by omega)]
  rw [← hu]
  have := h.len
  simp [flatI, List.getElem?_eq_getElem (show j + i < xs.length by omega)]
end Go.Proofs.Ytjopiefojicblaa
/- What may come behind an edge, and ahead: on lists alone. -/
set_option linter.unusedVariables false
set_option linter.unusedSimpArgs false
namespace Go.Proofs.Ytjopiefojicblaa
open Go.RowKit RowP
/-- may b come behind a? -/
def turnB (es : List (Int × Int × Int)) (bs : List (Int × Int)) (a b : Int) : Bool :=
  inB 0 a ((es.length : Int) - 1) && inB 0 b ((es.length : Int) - 1) && decide ((es.getD a.toNat (0, 0, 0)).2.1 = (es.getD b.toNat (0, 0, 0)).1) && !decide ((a, b) ∈ bs)
def nextT (es : List (Int × Int × Int)) (bs : List (Int × Int)) (e : Int) : List Int := ((List.range es.length).filter fun i => turnB es bs e ((i : Nat) : Int)).map fun i => ((i : Nat) : Int)
def prevT (es : List (Int × Int × Int)) (bs : List (Int × Int)) (e : Int) : List Int := ((List.range es.length).filter fun i => turnB es bs ((i : Nat) : Int) e).map fun i => ((i : Nat) : Int)
theorem turnB_nat {es : List (Int × Int × Int)} {bs : List (Int × Int)} {a b : Nat} (ha : a < es.length) (hb : b < es.length) :
    turnB es bs ((a : Nat) : Int) ((b : Nat) : Int) = (decide ((es.getD a (0, 0, 0)).2.1 = (es.getD b (0, 0, 0)).1) && !decide ((((a : Nat) : Int), ((b : Nat) : Int)) ∈ bs)) := by
  unfold turnB; rw [inB_nat ha, inB_nat hb]; simp
theorem turnB_in {es : List (Int × Int × Int)} {bs : List (Int × Int)} {a b : Int} (h : turnB es bs a b = true) : ∃ i j : Nat, a = (i : Int) ∧ b = (j : Int) ∧ i < es.length ∧ j < es.length := by
  unfold turnB inB at h
  simp only [Bool.and_eq_true, decide_eq_true_eq] at h
  exact ⟨a.toNat, b.toNat, by omega, by omega, by omega, by omega⟩
theorem turnB_out {es : List (Int × Int × Int)} {bs : List (Int × Int)} {a b : Int} (h : inB 0 a ((es.length : Int) - 1) = false) : turnB es bs a b = false := by unfold turnB; rw [h]; rfl
theorem turnB_out2 {es : List (Int × Int × Int)} {bs : List (Int × Int)} {a b : Int} (h : inB 0 b ((es.length : Int) - 1) = false) : turnB es bs a b = false := by unfold turnB; rw [h]; simp
theorem nextT_out {es : List (Int × Int × Int)} {bs : List (Int × Int)} {e : Int} (h : inB 0 e ((es.length : Int) - 1) = false) : nextT es bs e = [] := by
  unfold nextT; rw [List.filter_eq_nil_iff.2 fun i _ => by rw [turnB_out h]; simp]; rfl
theorem prevT_out {es : List (Int × Int × Int)} {bs : List (Int × Int)} {e : Int} (h : inB 0 e ((es.length : Int) - 1) = false) : prevT es bs e = [] := by
  unfold prevT; rw [List.filter_eq_nil_iff.2 fun i _ => by rw [turnB_out2 h]; simp]; rfl
theorem nextT_mem {es : List (Int × Int × Int)} {bs : List (Int × Int)} {e x : Int} : x ∈ nextT es bs e ↔ turnB es bs e x = true := by
  unfold nextT
  simp only [List.mem_map, List.mem_filter, List.mem_range]
  constructor
  · rintro ⟨i, ⟨_, h⟩, rfl⟩; exact h
  · intro h
    obtain ⟨i, j, _, rfl, _, hj⟩ := turnB_in h
    exact ⟨j, ⟨hj, h⟩, rfl⟩
theorem prevT_mem {es : List (Int × Int × Int)} {bs : List (Int × Int)} {e x : Int} : x ∈ prevT es bs e ↔ turnB es bs x e = true := by
  unfold prevT
  simp only [List.mem_map, List.mem_filter, List.mem_range]
  constructor
  · rintro ⟨i, ⟨_, h⟩, rfl⟩; exact h
  · intro h
    obtain ⟨i, j, rfl, _, hi, _⟩ := turnB_in h
    exact ⟨i, ⟨hi, h⟩, rfl⟩
theorem nextT_len (es : List (Int × Int × Int)) (bs : List (Int × Int)) (e : Int) : (nextT es bs e).length ≤ es.length := by unfold nextT; rw [List.length_map]; exact Nat.le_trans (List.length_filter_le _ _) (by simp)
theorem prevT_len (es : List (Int × Int × Int)) (bs : List (Int × Int)) (e : Int) : (prevT es bs e).length ≤ es.length := by unfold prevT; rw [List.length_map]; exact Nat.le_trans (List.length_filter_le _ _) (by simp)
/-- the rows that New builds: one step for each edge b that goes from where a ends -/
def pushL (L : Bool → Nat → List Int) (s : Bool) (i : Nat) (x : Int) : Bool → Nat → List Int := fun s' i' => if s' = s ∧ i' = i then L s' i' ++ [x] else L s' i'
def stepL (bs : List (Int × Int)) (a : Nat) (L : Bool → Nat → List Int) (b : Int) : Bool → Nat → List Int := if (((a : Nat) : Int), b) ∈ bs then L else pushL (pushL L true a b) false b.toNat ((a : Nat) : Int)
def innerL (bs : List (Int × Int)) (a : Nat) (L : Bool → Nat → List Int) (O : List Int) : Bool → Nat → List Int := O.foldl (stepL bs a) L
def outerL (ns : List (Int × Int)) (es : List (Int × Int × Int)) (bs : List (Int × Int)) : Nat → Bool → Nat → List Int
  | 0 => fun _ _ => []
  | k + 1 => innerL bs k (outerL ns es bs k) (outT ns es ((toN es k : Nat) : Int))
theorem innerL_snoc (bs : List (Int × Int)) (a : Nat) (L : Bool → Nat → List Int) (O : List Int) (b : Int) : innerL bs a L (O ++ [b]) = stepL bs a (innerL bs a L O) b := by unfold innerL; rw [List.foldl_append]; rfl
theorem innerL_true (bs : List (Int × Int)) (a : Nat) : ∀ (O : List Int) (L : Bool → Nat → List Int) (i : Nat), innerL bs a L O true i = if i = a then L true i ++ O.filter (fun b => !decide ((((a : Nat) : Int), b) ∈ bs)) else L true i
  | [], L, i => by unfold innerL; simp
  | b :: O, L, i => by
    have ih := innerL_true bs a O (stepL bs a L b) i
    have e : innerL bs a L (b :: O) = innerL bs a (stepL bs a L b) O := rfl
    rw [e, ih]
    unfold stepL
    by_cases hb : (((a : Nat) : Int), b) ∈ bs
    · simp [hb]
    · by_cases hi : i = a
      · simp [hb, hi, pushL]
      · simp [hb, hi, pushL]
theorem innerL_false (bs : List (Int × Int)) (a : Nat) : ∀ (O : List Int) (L : Bool → Nat → List Int) (j : Nat), (∀ b ∈ O, ∃ q : Nat, b = (q : Int)) → O.Nodup →
    innerL bs a L O false j = if ((j : Nat) : Int) ∈ O ∧ (((a : Nat) : Int), ((j : Nat) : Int)) ∉ bs then L false j ++ [((a : Nat) : Int)] else L false j
  | [], L, j, _, _ => by unfold innerL; simp
  | b :: O, L, j, hq, hn => by
    have ih := innerL_false bs a O (stepL bs a L b) j (fun x hx => hq x (List.mem_cons_of_mem _ hx)) (List.nodup_cons.1 hn).2
    have hnb := (List.nodup_cons.1 hn).1
    have e : innerL bs a L (b :: O) = innerL bs a (stepL bs a L b) O := rfl
    obtain ⟨q, rfl⟩ := hq b (List.mem_cons_self ..)
    rw [e, ih]
    unfold stepL
    by_cases hb : (((a : Nat) : Int), ((q : Nat) : Int)) ∈ bs
    · rw [if_pos hb]
      by_cases hj : j = q
      · subst hj; simp [hb]
      · have : ((j : Nat) : Int) ≠ ((q : Nat) : Int) := by omega
        simp [this]
    · rw [if_neg hb]
      by_cases hj : j = q
      · subst hj
        rw [if_neg (fun h => hnb h.1)]
        simp [hb, pushL]
      · have h1 : ((j : Nat) : Int) ≠ ((q : Nat) : Int) := by omega
        have h2 : pushL (pushL L true a ((q : Nat) : Int)) false ((q : Nat) : Int).toNat ((a : Nat) : Int) false j = L false j := by
          unfold pushL; simp [hj]
        rw [h2]; simp [h1]
theorem rowOf_nodup (f : Nat → Nat) (m v : Nat) : ((rowOf f m v).map fun i => ((i : Nat) : Int)).Nodup := by
  unfold rowOf
  have h : ((List.range m).filter (fun i => f i == v)).Nodup := List.nodup_range.filter _
  exact List.Pairwise.map _ (fun a b h e => h (by omega)) h
theorem filter_map_comm {l : List Nat} {p : Int → Bool} : ((l.map fun i => ((i : Nat) : Int)).filter p) = (l.filter fun i => p ((i : Nat) : Int)).map fun i => ((i : Nat) : Int) := by
  rw [List.filter_map]; rfl
theorem outerL_true {ns bs : List (Int × Int)} {es : List (Int × Int × Int)} (h : mayB ns es bs = true) : ∀ k, k ≤ es.length → ∀ i, outerL ns es bs k true i = if i < k then nextT es bs ((i : Nat) : Int) else []
  | 0, _, i => by simp [outerL]
  | k + 1, hk, i => by
    have ih := outerL_true h k (by omega) i
    obtain ⟨_, _, hf, ht⟩ := mayB_parts h
    show innerL bs k (outerL ns es bs k) (outT ns es ((toN es k : Nat) : Int)) true i = _
    rw [innerL_true, ih]
    by_cases hi : i = k
    · subst hi
      rw [if_pos rfl, if_neg (Nat.lt_irrefl _), if_pos (by omega), List.nil_append, outT_in (ht i (by omega)).2]
      unfold rowOf nextT
      rw [filter_map_comm, List.filter_filter]
      congr 1
      apply List.filter_congr
      intro q hq
      rw [List.mem_range] at hq
      rw [turnB_nat (by omega) hq, (ht i (by omega)).1, (hf q hq).1, Bool.and_comm]
      congr 1
      rw [Bool.eq_iff_iff]; simp; omega
    · rw [if_neg hi]
      by_cases h2 : i < k
      · rw [if_pos h2, if_pos (by omega)]
      · rw [if_neg h2, if_neg (by omega)]
theorem outerL_false {ns bs : List (Int × Int)} {es : List (Int × Int × Int)} (h : mayB ns es bs = true) : ∀ k, k ≤ es.length → ∀ j, j < es.length → outerL ns es bs k false j = ((List.range k).filter fun a => turnB es bs ((a : Nat) : Int) ((j : Nat) : Int)).map fun i => ((i : Nat) : Int)
  | 0, _, j, _ => by simp [outerL]
  | k + 1, hk, j, hj => by
    have ih := outerL_false h k (by omega) j hj
    obtain ⟨_, _, hf, ht⟩ := mayB_parts h
    have hv := (ht k (by omega)).2
    show innerL bs k (outerL ns es bs k) (outT ns es ((toN es k : Nat) : Int)) false j = _
    rw [innerL_false _ _ _ _ _ (fun b hb => by obtain ⟨q, rfl, _⟩ := (outT_mem hv).1 hb; exact ⟨q, rfl⟩) (by rw [outT_in hv]; exact rowOf_nodup _ _ _), ih, List.range_succ, List.filter_append, List.map_append]
    have hm : (((j : Nat) : Int) ∈ outT ns es ((toN es k : Nat) : Int)) ↔ fromN es j = toN es k := by
      rw [outT_mem hv]
      constructor
      · rintro ⟨q, e, _, h2⟩
        have : j = q := by omega
        subst this; exact h2
      · intro e; exact ⟨j, rfl, hj, e⟩
    have hb : turnB es bs ((k : Nat) : Int) ((j : Nat) : Int) = true ↔ (((j : Nat) : Int) ∈ outT ns es ((toN es k : Nat) : Int)) ∧ (((k : Nat) : Int), ((j : Nat) : Int)) ∉ bs := by
      rw [turnB_nat (by omega) hj, hm, (ht k (by omega)).1, (hf j hj).1]
      simp only [Bool.and_eq_true, decide_eq_true_eq, Bool.not_eq_true', decide_eq_false_iff_not]
      constructor
      · rintro ⟨h1, h2⟩; exact ⟨by omega, h2⟩
      · rintro ⟨h1, h2⟩; exact ⟨by omega, h2⟩
    by_cases hc : (((j : Nat) : Int) ∈ outT ns es ((toN es k : Nat) : Int)) ∧ (((k : Nat) : Int), ((j : Nat) : Int)) ∉ bs
    · rw [if_pos hc]; simp [hb.2 hc]
    · rw [if_neg hc]
      have : turnB es bs ((k : Nat) : Int) ((j : Nat) : Int) = false := by
        cases e : turnB es bs ((k : Nat) : Int) ((j : Nat) : Int)
        · rfl
        · exact absurd (hb.1 e) hc
      simp [this]
theorem rows_next {ns bs : List (Int × Int)} {es : List (Int × Int × Int)} (h : mayB ns es bs = true) {i : Nat} (hi : i < es.length) : outerL ns es bs es.length true i = nextT es bs ((i : Nat) : Int) := by rw [outerL_true h _ (Nat.le_refl _), if_pos hi]
theorem rows_prev {ns bs : List (Int × Int)} {es : List (Int × Int × Int)} (h : mayB ns es bs = true) {i : Nat} (hi : i < es.length) : outerL ns es bs es.length false i = prevT es bs ((i : Nat) : Int) := outerL_false h _ (Nat.le_refl _) _ hi
end Go.Proofs.Ytjopiefojicblaa
/- The two tables of rows that turns.New fills. -/
set_option linter.unusedVariables false
set_option linter.unusedSimpArgs false
namespace Go.Proofs.Ytjopiefojicblaa
open Go.ChangeShapes Go.WideShapes Go.ChangeAt Go.RowKit
/-- two tables of m rows of ints each; no two rows lie in one block -/
structure TR (w : World) (B m : Nat) (tb : Bool → Nat) (R : Bool → Nat → Value) (L : Bool → Nat → List Int) : Prop where
  tab : ∀ s, ∃ cs : Array Value, w.heap[tb s]? = some (.cells cs 22) ∧ cs.size = m ∧ ∀ i, i < m → cs[i]? = some (R s i)
  tbB : ∀ s, B ≤ tb s
  tne : tb true ≠ tb false
  row : ∀ s i, i < m → w.ownsRow B 3 1 (R s i) (L s i).length (flatI (L s i))
  nott : ∀ s i b, i < m → (R s i).ownBlock = some b → ∀ s', b ≠ tb s'
  apart : ∀ s i s' i', i < m → i' < m → ∀ b, (R s i).ownBlock = some b → (R s' i').ownBlock = some b → s = s' ∧ i = i'
theorem TR.lt {w : World} {B m : Nat} {tb : Bool → Nat} {R : Bool → Nat → Value} {L : Bool → Nat → List Int} (h : TR w B m tb R L) (s : Bool) : tb s < w.heap.size := by
  obtain ⟨cs, h1, _⟩ := h.tab s
  rcases Nat.lt_or_ge (tb s) w.heap.size with h2 | h2
  · exact h2
  · rw [Array.getElem?_eq_none h2] at h1; cases h1
theorem TR.cell {w : World} {B m : Nat} {tb : Bool → Nat} {R : Bool → Nat → Value} {L : Bool → Nat → List Int} (h : TR w B m tb R L) (s : Bool) {i : Nat} (hi : i < m) : w.cell? ⟨tb s, i, none⟩ = some (R s i) := by
  obtain ⟨cs, h1, _, h3⟩ := h.tab s
  exact block_cell h1 (h3 i hi)
theorem TR.fr {w : World} {B m : Nat} {tb : Bool → Nat} {R : Bool → Nat → Value} {L : Bool → Nat → List Int} (h : TR w B m tb R L) (s : Bool) (i : Nat) : w.frozen? ⟨tb s, i, none⟩ = false := by
  obtain ⟨cs, h1, _, h3⟩ := h.tab s
  exact block_fr h1 i
theorem TR.upd {F : Nat → Prop} {w w' : World} {B m : Nat} {tb : Bool → Nat} {R : Bool → Nat → Value} {L : Bool → Nat → List Int} (h : TR w B m tb R L) (hu : Upd F w w') (hF : ∀ b, B ≤ b → ¬ F b) : TR w' B m tb R L := by
  refine ⟨fun s => ?_, h.tbB, h.tne, fun s i hi => ?_, h.nott, h.apart⟩
  · obtain ⟨cs, h1, h2⟩ := h.tab s
    exact ⟨cs, by rw [hu.block _ (h.lt s) (hF _ (h.tbB s))]; exact h1, h2⟩
  · exact own_upd (h.row s i hi) hu fun b e => hF b ((World.ownsRow.lt (h.row s i hi) b e).1)
theorem TR.below {w w' : World} {B m : Nat} {tb : Bool → Nat} {R : Bool → Nat → Value} {L : Bool → Nat → List Int} (h : TR w B m tb R L) (hb : Below w.heap.size w w') : TR w' B m tb R L := h.upd (F := fun _ => False) (Upd.of_below hb) fun _ _ => id
theorem ownBlock_lt {w : World} {B : Nat} {e : TypeId} {s n : Nat} {v : Value} {xs : List Value} (h : w.ownsRow B e s v n xs) {b : Nat} (e1 : v.ownBlock = some b) : b < w.heap.size := (World.ownsRow.lt h b e1).2
/-- one number more at the end of one row: what the append leaves, and then the store into the table -/
theorem TR.push {w w1 : World} {B m : Nat} {tb : Bool → Nat} {R : Bool → Nat → Value} {L : Bool → Nat → List Int} (h : TR w B m tb R L) (s : Bool) {i : Nat} (hi : i < m) {v' : Value} {x : Int}
    (hg : Grown w w1 B 3 1 (R s i) v' ((L s i).length + 1) (flatI (L s i) ++ [.int .i64 x])) :
    TR (w1.setCell ⟨tb s, i, none⟩ v') B m tb (fun s' i' => if s' = s ∧ i' = i then v' else R s' i') (pushL L s i x) ∧ Upd (fun b => b = tb s ∨ (R s i).ownBlock = some b) w (w1.setCell ⟨tb s, i, none⟩ v') := by
  have hlt := h.lt
  have hsz : w.heap.size ≤ w1.heap.size := hg.by_.size
  have u1 : Upd (fun b => (R s i).ownBlock = some b) w w1 := ⟨hg.by_.os, hg.by_.tape, hg.by_.output, hg.by_.size, fun k hk hn => hg.by_.block k hk fun e => hn e.symm⟩
  have u2 : Upd (fun b => b = tb s) w1 (w1.setCell ⟨tb s, i, none⟩ v') := upd_setCell (F := fun b => b = tb s) (a := ⟨tb s, i, none⟩) (Upd.refl _ _) rfl v'
  have nb : ∀ b, v'.ownBlock = some b → ∀ s', b ≠ tb s' := by
    intro b e s'
    rcases hg.lies with h1 | h1
    · rw [h1] at e; exact h.nott s i b hi e s'
    · rw [h1] at e; injection e with e; have := hlt s'; omega
  have oldR : ∀ s' i', i' < m → ¬ (s' = s ∧ i' = i) → ∀ b, (R s' i').ownBlock = some b → v'.ownBlock ≠ some b := by
    intro s' i' hi' hne b e e2
    rcases hg.lies with h1 | h1
    · rw [h1] at e2; exact hne (h.apart s' i' s i hi' hi b e e2)
    · rw [h1] at e2; injection e2 with e2; have := ownBlock_lt (h.row s' i' hi') e; omega
  refine ⟨⟨fun s' => ?_, h.tbB, h.tne, fun s' i' hi' => ?_, fun s' i' b hi' e => ?_, fun s1 i1 s2 i2 h1 h2 b e1 e2 => ?_⟩, ?_⟩
  · obtain ⟨cs, c1, c2, c3⟩ := h.tab s'
    have c1' : w1.heap[tb s']? = some (.cells cs 22) := by rw [u1.block _ (hlt s') (fun e => h.nott s i _ hi e s' rfl)]; exact c1
    by_cases hs : s' = s
    · subst hs
      refine ⟨cs.setIfInBounds i v', block_set c1' i v', by simpa using c2, fun j hj => ?_⟩
      by_cases hji : j = i
      · subst hji; simp [c2, hj]
      · have := c3 j hj
        simp only [hji, and_false, if_false]
        rw [Array.getElem?_setIfInBounds_ne (by omega)]; exact this
    · refine ⟨cs, ?_, c2, fun j hj => ?_⟩
      · rw [heap_setCell_ne (by show tb s ≠ tb s'; cases s <;> cases s' <;> simp at hs ⊢ <;> first | exact h.tne | exact h.tne.symm)]; exact c1'
      · simp only [hs, false_and, if_false]; exact c3 j hj
  · by_cases hc : s' = s ∧ i' = i
    · obtain ⟨rfl, rfl⟩ := hc
      have hr := own_upd hg.row u2 (fun b e => nb b e s')
      have e1 : pushL L s' i' x s' i' = L s' i' ++ [x] := by unfold pushL; simp
      rw [e1, flatI_append]
      simp only [and_self, if_true, List.length_append, List.length_cons, List.length_nil]
      exact hr
    · have e1 : pushL L s i x s' i' = L s' i' := by unfold pushL; rw [if_neg hc]
      rw [e1]
      simp only [hc, if_false]
      refine own_upd (own_upd (h.row s' i' hi') u1 fun b e e2 => ?_) u2 fun b e => h.nott s' i' b hi' e s
      exact hc (h.apart s' i' s i hi' hi b e e2)
  · by_cases hc : s' = s ∧ i' = i
    · simp only [hc, and_self, if_true] at e; exact nb b e
    · simp only [hc, if_false] at e; exact h.nott s' i' b hi' e
  · by_cases ha : s1 = s ∧ i1 = i
    · by_cases hb : s2 = s ∧ i2 = i
      · exact ⟨ha.1.trans hb.1.symm, ha.2.trans hb.2.symm⟩
      · simp only [ha, and_self, if_true] at e1
        simp only [hb, if_false] at e2
        exact absurd e1 (oldR s2 i2 h2 hb b e2)
    · by_cases hb : s2 = s ∧ i2 = i
      · simp only [ha, if_false] at e1
        simp only [hb, and_self, if_true] at e2
        exact absurd e2 (oldR s1 i1 h1 ha b e1)
      · simp only [ha, if_false] at e1
        simp only [hb, if_false] at e2
        exact h.apart s1 i1 s2 i2 h1 h2 b e1 e2
  · refine Upd.trans (G := fun b => b = tb s) (u1.mono fun k hk e => .inr e) (u2.mono fun k hk e => e) (fun k hk e => .inl e)
theorem infoRow : (Try.prog.info? 22).map (fun i => (i.zero, i.size, i.bytes)) = some (some (.slice none 0 0), 1, 24) := by kernel_rfl
theorem made_get (m i : Nat) (h : i < m) : (madeCells #[.slice none 0 0] m)[i]? = some (.slice none 0 0) := by
  simp [madeCells, h, Nat.mod_one]
theorem TR.start {w : World} {B m : Nat} {tb : Bool → Nat} (h : ∀ s, w.heap[tb s]? = some (.cells (madeCells #[.slice none 0 0] m) 22)) (hB : ∀ s, B ≤ tb s) (hne : tb true ≠ tb false) :
    TR w B m tb (fun _ _ => .slice none 0 0) (fun _ _ => []) :=
  ⟨fun s => ⟨_, h s, by simp [madeCells], fun i hi => made_get m i hi⟩, hB, hne, fun s i hi => World.ownsRow_nil _ _ _ _, fun s i b hi e => by simp [Value.ownBlock] at e, fun s i s' i' h1 h2 b e => by simp [Value.ownBlock] at e⟩
/-- a block that is neither a table nor a row -/
def Off (tb : Bool → Nat) (R : Bool → Nat → Value) (m b : Nat) : Prop := (∀ s, b ≠ tb s) ∧ ∀ s i, i < m → (R s i).ownBlock ≠ some b
theorem Off.push {w w1 : World} {base n : Nat} {e : TypeId} {sz : Nat} {v v' : Value} {xs : List Value} {tb : Bool → Nat} {R : Bool → Nat → Value} {m b : Nat} (h : Off tb R m b) (hb : b < w.heap.size) {s : Bool} {i : Nat} (hi : i < m) (hv : v = R s i) (hg : Grown w w1 base e sz v v' n xs) :
    Off tb (fun s' i' => if s' = s ∧ i' = i then v' else R s' i') m b := by
  refine ⟨h.1, fun s' i' hi' => ?_⟩
  by_cases hc : s' = s ∧ i' = i
  · simp only [hc, and_self, if_true]
    intro e1
    rcases hg.lies with h1 | h1
    · rw [h1, hv] at e1; exact h.2 s i hi e1
    · rw [h1] at e1; injection e1 with e1; omega
  · simp only [hc, if_false]; exact h.2 s' i' hi'
/-- a graph's turns in memory -/
structure TurnsIs (w : World) (B E t p : Nat) (tb : Bool → Nat) (R : Bool → Nat → Value) (ns : List (Int × Int)) (es : List (Int × Int × Int)) (bs : List (Int × Int)) : Prop where
  g : GraphAt w B E p ns es bs
  tB : B ≤ t
  tE : t < E
  ht : w.heap[t]? = some (.cells #[.pointer (some ⟨p, 0, none⟩), .slice (some ⟨tb true, 0, none⟩) es.length es.length, .slice (some ⟨tb false, 0, none⟩) es.length es.length] 70)
  top : E ≤ w.heap.size
  tr : TR w B es.length tb R (fun s i => if s = true then nextT es bs ((i : Nat) : Int) else prevT es bs ((i : Nat) : Int))
  tbE : ∀ s, tb s < E
  rE : ∀ s i b, i < es.length → (R s i).ownBlock = some b → b < E
def TurnsAt (w : World) (B E t p : Nat) (ns : List (Int × Int)) (es : List (Int × Int × Int)) (bs : List (Int × Int)) : Prop := ∃ tb R, TurnsIs w B E t p tb R ns es bs
theorem TurnsIs.upd {F : Nat → Prop} {w w' : World} {B E t p : Nat} {tb : Bool → Nat} {R : Bool → Nat → Value} {ns bs : List (Int × Int)} {es : List (Int × Int × Int)} (h : TurnsIs w B E t p tb R ns es bs) (hu : Upd F w w') (hF : ∀ b, B ≤ b → b < E → ¬ F b) : TurnsIs w' B E t p tb R ns es bs := by
  refine ⟨h.g.upd hu hF, h.tB, h.tE, (hu.block t (Nat.lt_of_lt_of_le h.tE h.top) (hF t h.tB h.tE)).trans h.ht, Nat.le_trans h.top hu.size, ⟨fun s => ?_, h.tr.tbB, h.tr.tne, fun s i hi => ?_, h.tr.nott, h.tr.apart⟩, h.tbE, h.rE⟩
  · obtain ⟨cs, h1, h2⟩ := h.tr.tab s
    exact ⟨cs, by rw [hu.block _ (h.tr.lt s) (hF _ (h.tr.tbB s) (h.tbE s))]; exact h1, h2⟩
  · exact own_upd (h.tr.row s i hi) hu fun b e => hF b (World.ownsRow.lt (h.tr.row s i hi) b e).1 (h.rE s i b hi e)
theorem TurnsAt.upd {F : Nat → Prop} {w w' : World} {B E t p : Nat} {ns bs : List (Int × Int)} {es : List (Int × Int × Int)} (h : TurnsAt w B E t p ns es bs) (hu : Upd F w w') (hF : ∀ b, B ≤ b → b < E → ¬ F b) : TurnsAt w' B E t p ns es bs := by
  obtain ⟨tb, R, h⟩ := h; exact ⟨tb, R, h.upd hu hF⟩
theorem TurnsAt.below {w w' : World} {B E t p : Nat} {ns bs : List (Int × Int)} {es : List (Int × Int × Int)} (h : TurnsAt w B E t p ns es bs) (hb : Below w.heap.size w w') : TurnsAt w' B E t p ns es bs := h.upd (F := fun _ => False) (Upd.of_below hb) fun _ _ _ => id
theorem GraphAt.wide {w : World} {B E E' p : Nat} {ns bs : List (Int × Int)} {es : List (Int × Int × Int)} (h : GraphAt w B E p ns es bs) (h1 : E ≤ E') (h2 : E' ≤ w.heap.size) : GraphAt w B E' p ns es bs := by
  obtain ⟨d, h⟩ := h
  exact ⟨d, h.ok, h2, h.pB, Nat.lt_of_lt_of_le h.pE h1, h.hp, h.rN, h.rE, h.rB, fun b o e => ⟨(h.nA b o e).1, Nat.lt_of_lt_of_le (h.nA b o e).2 h1⟩, fun b e => ⟨(h.nR b e).1, Nat.lt_of_lt_of_le (h.nR b e).2 h1⟩, h.iO, h.iI, h.iF, h.iT, h.sO, h.sI⟩
theorem GraphAt.bd {w : World} {B E p : Nat} {ns bs : List (Int × Int)} {es : List (Int × Int × Int)} (h : GraphAt w B E p ns es bs) : mayB ns es bs = true ∧ B ≤ p ∧ p < E ∧ E ≤ w.heap.size := by
  obtain ⟨d, h⟩ := h; exact ⟨h.ok, h.pB, h.pE, h.top⟩
theorem TR.base {w : World} {B B' m : Nat} {tb : Bool → Nat} {R : Bool → Nat → Value} {L : Bool → Nat → List Int} (h : TR w B m tb R L) (hB : B' ≤ B) : TR w B' m tb R L :=
  ⟨h.tab, fun s => Nat.le_trans hB (h.tbB s), h.tne, fun s i hi => ⟨(h.row s i hi).1, (h.row s i hi).2.imp id fun ⟨g, c, cur, e, hb, r⟩ => ⟨g, c, cur, e, Nat.le_trans hB hb, r⟩⟩, h.nott, h.apart⟩
end Go.Proofs.Ytjopiefojicblaa
