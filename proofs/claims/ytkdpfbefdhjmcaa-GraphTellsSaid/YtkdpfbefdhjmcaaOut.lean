/- What goes from a node, and what comes to it. -/
import Derived.Test.YtkdpfbefdhjmcaaAccess
import Derived.StillTailTactics
import Derived.BigQuiet
set_option linter.unusedVariables false
set_option linter.unusedSimpArgs false
namespace Go.Proofs.Ytkdpfbefdhjmcaa
open Go.ChangeShapes Go.WideShapes Go.ChangeAt Go.RowKit RowP
theorem map_getD {l : List Nat} {j : Nat} (h : j < l.length) : (l.map fun i => ((i : Nat) : Int)).getD j 0 = ((l.getD j 0 : Nat) : Int) := by
  rw [List.getD_eq_getElem?_getD, List.getD_eq_getElem?_getD, List.getElem?_map, List.getElem?_eq_getElem h]; rfl
def outT (ns : List (Int × Int)) (es : List (Int × Int × Int)) (v : Int) : List Int := if inB 0 v ((ns.length : Int) - 1) = true then (rowOf (fromN es) es.length v.toNat).map fun i => ((i : Nat) : Int) else []
def inT (ns : List (Int × Int)) (es : List (Int × Int × Int)) (v : Int) : List Int := if inB 0 v ((ns.length : Int) - 1) = true then (rowOf (toN es) es.length v.toNat).map fun i => ((i : Nat) : Int) else []
set_option maxRecDepth 100000 in
set_option maxHeartbeats 4000000 in
theorem out_at {w : World} {B E p : Nat} {ns bs : List (Int × Int)} {es : List (Int × Int × Int)} (h : GraphAt w B E p ns es bs) (v : Int) : Calls Try.prog 40 #[.pointer (some ⟨p, 0, none⟩), .int .i64 v] w fun e w' =>
    ∃ A' c', e = .returned (.slice A' (outT ns es v).length c') ∧ w'.ownsRow w.heap.size 3 1 (.slice A' (outT ns es v).length c') (outT ns es v).length (flatI (outT ns es v)) ∧ Below w.heap.size w w' := by
  cases hin : inB 0 v ((ns.length : Int) - 1)
  · have he : outT ns es v = [] := by unfold outT; rw [hin]; rfl
    have HE := Lib.hid he
    have HG := Lib.hid h
    unfold inB at hin
    simp only [Bool.and_eq_false_iff, decide_eq_false_iff_not] at hin
    clear h he
    by_cases h0 : v < 0
    · clear hin
      go_enter Try.func40, Try.ntmps40
      go_wp2_with fail
      go_ret
      exact ⟨none, 0, by rw [HE.out]; rfl, by rw [HE.out]; exact World.ownsRow_nil _ _ _ _, Below.refl _ _⟩
    · have h1 : (ns.length : Int) ≤ v := by omega
      clear hin
      go_enter Try.func40, Try.ntmps40
      go_wp2_with (go_at_call 18; refine (nodes_at HG.out).mono ?_; rintro e w' ⟨rfl, rfl⟩)
      go_ret
      exact ⟨none, 0, by rw [HE.out]; rfl, by rw [HE.out]; exact World.ownsRow_nil _ _ _ _, Below.refl _ _⟩
  · unfold inB at hin
    have hin' := hin
    simp only [Bool.and_eq_true, decide_eq_true_eq] at hin'
    obtain ⟨i0, i1⟩ := hin'
    obtain ⟨k, rfl⟩ : ∃ k : Nat, v = (k : Int) := ⟨v.toNat, by omega⟩
    obtain ⟨d, hd⟩ := h
    obtain ⟨_, ⟨s1, s2, s3, s4⟩, _, _⟩ := mayB_parts hd.ok
    have hk : k < ns.length := by omega
    have hval : outT ns es (k : Int) = (rowOf (fromN es) es.length k).map fun i => ((i : Nat) : Int) := by unfold outT; rw [show inB 0 (k : Int) ((ns.length : Int) - 1) = true from hin, if_pos rfl, Int.toNat_natCast]
    have hlen : (outT ns es (k : Int)).length = cnt (fromN es) es.length k := by rw [hval, List.length_map]; rfl
    have hp0 := hd.sO.first k (by omega)
    have hp1 := hd.sO.first (k + 1) (by omega)
    rw [pre_succ] at hp1
    have hseg := seg_le (fromN es) es.length k
    have x0 := hd.iF.cell (i := k) (by omega)
    have x1 := hd.iF.cell (i := k + 1) (by omega)
    rw [hp0] at x0
    rw [hp1] at x1
    have hrow := hd.sO.row k hk
    have hcr := fun j (hj : j < cnt (fromN es) es.length k) => hd.iO.cell (i := pre (fromN es) es.length k + j) (by omega)
    obtain ⟨lo, hlo⟩ : ∃ lo, lo = pre (fromN es) es.length k := ⟨_, rfl⟩
    obtain ⟨ln, hln⟩ : ∃ ln, ln = cnt (fromN es) es.length k := ⟨_, rfl⟩
    rw [← hlo] at x0 x1 hseg hrow hcr
    rw [← hln] at x1 hseg hlen hrow hcr
    obtain ⟨R, hR⟩ : ∃ R, R = outT ns es (k : Int) := ⟨_, rfl⟩
    rw [← hR] at hlen hval ⊢
    have hgd : ∀ j, j < ln → w.cell? ⟨d.bO, lo + j, none⟩ = some (.int .i64 (R.getD j 0)) := by
      intro j hj
      rw [hcr j hj, hrow j hj, hval, map_getD (by show j < cnt (fromN es) es.length k; omega)]
    have hwf : ∀ x ∈ R, (Lit.int .i64 x).wf = true := by
      intro x hx
      rw [hval] at hx
      obtain ⟨i, hi, rfl⟩ := List.mem_map.1 hx
      have := (List.mem_filter.1 hi).1
      rw [List.mem_range] at this
      exact wf_of (by omega) (by omega)
    have hrd : ReadsI w (some ⟨d.bO, lo, none⟩) ln (es.length - lo) R := ⟨hlen, by unfold maxLen; omega, fun _ => ⟨d.bO, lo, rfl, hgd⟩, hwf⟩
    have g0 : w.cell? ⟨p, 3, none⟩ = some (.slice (some ⟨d.bO, 0, none⟩) es.length es.length) := block_cell hd.hp rfl
    have g1 : w.cell? ⟨p, 5, none⟩ = some (.slice (some ⟨d.bF, 0, none⟩) (ns.length + 1) d.cF) := block_cell hd.hp rfl
    have HG : Hid (GraphAt w B E p ns es bs) := Lib.hid ⟨d, hd⟩
    have HRD := Lib.hid hrd
    have HRD0 : Hid (es.length ≤ lo → ReadsI w (some ⟨d.bO, 0, none⟩) ln 0 R) := Lib.hid fun hle => ⟨hlen, by unfold maxLen; omega, fun h => by omega, hwf⟩
    have HLEN := Lib.hid hlen
    have hkI : (k : Int) < (ns.length : Int) := by omega
    have j2 : (k : Int) < (ns.length : Int) + 1 := by omega
    have j3 : (k : Int) + 1 < (ns.length : Int) + 1 := by omega
    have j4 : (lo : Int) ≤ (lo : Int) + (ln : Int) := by omega
    have j5 : (lo : Int) + (ln : Int) ≤ (es.length : Int) := by omega
    have j6 : lo + ln ≤ es.length := by omega
    have j7 : IntKind.i64.wrap ((k : Int) + 1) = (k : Int) + 1 := IntWalk.i64_in _ (by omega)
    have j8 : (0 : Int) ≤ (k : Int) + 1 := by omega
    have j9 : (0 : Int) ≤ (lo : Int) := by omega
    rw [show (((lo + ln : Nat)) : Int) = (lo : Int) + (ln : Int) by omega] at x1
    clear hin hd hval hlen hp0 hp1 hseg hrow hcr hR hgd hwf hrd i1 hlo hln
    go_enter Try.func40, Try.ntmps40
    go_wp2_with (go_at_call 18; refine (nodes_at HG.out).mono ?_; rintro e w' ⟨rfl, rfl⟩)
    go_still_tail 20, (by kernel_rfl)
    change wpList _ _ _ _ _ (World.drew _)
    go_wp2_with fail
    all_goals
      first
        | with_reducible refine (clone_int (HRD.out.below (bl_drew (Below.refl _ _))) (by omega)).mono ?_
        | refine (clone_int ((HRD0.out (by omega)).below (bl_drew (Below.refl _ _))) (by omega)).mono ?_
    all_goals
      rintro e w2 ⟨A', c', rfl, hown, hb, _⟩
      have HO := Lib.hid hown
      have HB := Lib.hid hb
      clear hown hb
      go_wp2_with fail
      go_ret
      refine ⟨A', c', by rw [HLEN.out]; rfl, ?_, bl_then (bl_drew (Below.refl _ _)) HB.out⟩
      have := HO.out
      rw [HLEN.out]; exact this
set_option maxRecDepth 100000 in
set_option maxHeartbeats 4000000 in
theorem in_at {w : World} {B E p : Nat} {ns bs : List (Int × Int)} {es : List (Int × Int × Int)} (h : GraphAt w B E p ns es bs) (v : Int) : Calls Try.prog 41 #[.pointer (some ⟨p, 0, none⟩), .int .i64 v] w fun e w' =>
    ∃ A' c', e = .returned (.slice A' (inT ns es v).length c') ∧ w'.ownsRow w.heap.size 3 1 (.slice A' (inT ns es v).length c') (inT ns es v).length (flatI (inT ns es v)) ∧ Below w.heap.size w w' := by
  cases hin : inB 0 v ((ns.length : Int) - 1)
  · have he : inT ns es v = [] := by unfold inT; rw [hin]; rfl
    have HE := Lib.hid he
    have HG := Lib.hid h
    unfold inB at hin
    simp only [Bool.and_eq_false_iff, decide_eq_false_iff_not] at hin
    clear h he
    by_cases h0 : v < 0
    · clear hin
      go_enter Try.func41, Try.ntmps41
      go_wp2_with fail
      go_ret
      exact ⟨none, 0, by rw [HE.out]; rfl, by rw [HE.out]; exact World.ownsRow_nil _ _ _ _, Below.refl _ _⟩
    · have h1 : (ns.length : Int) ≤ v := by omega
      clear hin
      go_enter Try.func41, Try.ntmps41
      go_wp2_with (go_at_call 18; refine (nodes_at HG.out).mono ?_; rintro e w' ⟨rfl, rfl⟩)
      go_ret
      exact ⟨none, 0, by rw [HE.out]; rfl, by rw [HE.out]; exact World.ownsRow_nil _ _ _ _, Below.refl _ _⟩
  · unfold inB at hin
    have hin' := hin
    simp only [Bool.and_eq_true, decide_eq_true_eq] at hin'
    obtain ⟨i0, i1⟩ := hin'
    obtain ⟨k, rfl⟩ : ∃ k : Nat, v = (k : Int) := ⟨v.toNat, by omega⟩
    obtain ⟨d, hd⟩ := h
    obtain ⟨_, ⟨s1, s2, s3, s4⟩, _, _⟩ := mayB_parts hd.ok
    have hk : k < ns.length := by omega
    have hval : inT ns es (k : Int) = (rowOf (toN es) es.length k).map fun i => ((i : Nat) : Int) := by unfold inT; rw [show inB 0 (k : Int) ((ns.length : Int) - 1) = true from hin, if_pos rfl, Int.toNat_natCast]
    have hlen : (inT ns es (k : Int)).length = cnt (toN es) es.length k := by rw [hval, List.length_map]; rfl
    have hp0 := hd.sI.first k (by omega)
    have hp1 := hd.sI.first (k + 1) (by omega)
    rw [pre_succ] at hp1
    have hseg := seg_le (toN es) es.length k
    have x0 := hd.iT.cell (i := k) (by omega)
    have x1 := hd.iT.cell (i := k + 1) (by omega)
    rw [hp0] at x0
    rw [hp1] at x1
    have hrow := hd.sI.row k hk
    have hcr := fun j (hj : j < cnt (toN es) es.length k) => hd.iI.cell (i := pre (toN es) es.length k + j) (by omega)
    obtain ⟨lo, hlo⟩ : ∃ lo, lo = pre (toN es) es.length k := ⟨_, rfl⟩
    obtain ⟨ln, hln⟩ : ∃ ln, ln = cnt (toN es) es.length k := ⟨_, rfl⟩
    rw [← hlo] at x0 x1 hseg hrow hcr
    rw [← hln] at x1 hseg hlen hrow hcr
    obtain ⟨R, hR⟩ : ∃ R, R = inT ns es (k : Int) := ⟨_, rfl⟩
    rw [← hR] at hlen hval ⊢
    have hgd : ∀ j, j < ln → w.cell? ⟨d.bI, lo + j, none⟩ = some (.int .i64 (R.getD j 0)) := by
      intro j hj
      rw [hcr j hj, hrow j hj, hval, map_getD (by show j < cnt (toN es) es.length k; omega)]
    have hwf : ∀ x ∈ R, (Lit.int .i64 x).wf = true := by
      intro x hx
      rw [hval] at hx
      obtain ⟨i, hi, rfl⟩ := List.mem_map.1 hx
      have := (List.mem_filter.1 hi).1
      rw [List.mem_range] at this
      exact wf_of (by omega) (by omega)
    have hrd : ReadsI w (some ⟨d.bI, lo, none⟩) ln (es.length - lo) R := ⟨hlen, by unfold maxLen; omega, fun _ => ⟨d.bI, lo, rfl, hgd⟩, hwf⟩
    have g0 : w.cell? ⟨p, 4, none⟩ = some (.slice (some ⟨d.bI, 0, none⟩) es.length es.length) := block_cell hd.hp rfl
    have g1 : w.cell? ⟨p, 6, none⟩ = some (.slice (some ⟨d.bT, 0, none⟩) (ns.length + 1) d.cT) := block_cell hd.hp rfl
    have HG : Hid (GraphAt w B E p ns es bs) := Lib.hid ⟨d, hd⟩
    have HRD := Lib.hid hrd
    have HRD0 : Hid (es.length ≤ lo → ReadsI w (some ⟨d.bI, 0, none⟩) ln 0 R) := Lib.hid fun hle => ⟨hlen, by unfold maxLen; omega, fun h => by omega, hwf⟩
    have HLEN := Lib.hid hlen
    have hkI : (k : Int) < (ns.length : Int) := by omega
    have j2 : (k : Int) < (ns.length : Int) + 1 := by omega
    have j3 : (k : Int) + 1 < (ns.length : Int) + 1 := by omega
    have j4 : (lo : Int) ≤ (lo : Int) + (ln : Int) := by omega
    have j5 : (lo : Int) + (ln : Int) ≤ (es.length : Int) := by omega
    have j6 : lo + ln ≤ es.length := by omega
    have j7 : IntKind.i64.wrap ((k : Int) + 1) = (k : Int) + 1 := IntWalk.i64_in _ (by omega)
    have j8 : (0 : Int) ≤ (k : Int) + 1 := by omega
    have j9 : (0 : Int) ≤ (lo : Int) := by omega
    rw [show (((lo + ln : Nat)) : Int) = (lo : Int) + (ln : Int) by omega] at x1
    clear hin hd hval hlen hp0 hp1 hseg hrow hcr hR hgd hwf hrd i1 hlo hln
    go_enter Try.func41, Try.ntmps41
    go_wp2_with (go_at_call 18; refine (nodes_at HG.out).mono ?_; rintro e w' ⟨rfl, rfl⟩)
    go_still_tail 20, (by kernel_rfl)
    change wpList _ _ _ _ _ (World.drew _)
    go_wp2_with fail
    all_goals
      first
        | with_reducible refine (clone_int (HRD.out.below (bl_drew (Below.refl _ _))) (by omega)).mono ?_
        | refine (clone_int ((HRD0.out (by omega)).below (bl_drew (Below.refl _ _))) (by omega)).mono ?_
    all_goals
      rintro e w2 ⟨A', c', rfl, hown, hb, _⟩
      have HO := Lib.hid hown
      have HB := Lib.hid hb
      clear hown hb
      go_wp2_with fail
      go_ret
      refine ⟨A', c', by rw [HLEN.out]; rfl, ?_, bl_then (bl_drew (Below.refl _ _)) HB.out⟩
      have := HO.out
      rw [HLEN.out]; exact this
end Go.Proofs.Ytkdpfbefdhjmcaa
