/- What goes and what comes, as lists: lengths, numbers, order. -/
import Derived.Test.YtkdpfbefdhjmcaaOut
import Derived.Test.YtkdpfbefdhjmcaaRowsMore
set_option linter.unusedVariables false
set_option linter.unusedSimpArgs false
namespace Go.Proofs.Ytkdpfbefdhjmcaa
open Go.RowKit RowP
theorem inB_nat {v n : Nat} (h : v < n) : inB 0 ((v : Nat) : Int) ((n : Int) - 1) = true := by unfold inB; simp; omega
theorem edgeT_in {es : List (Int × Int × Int)} {q : Nat} (h : q < es.length) : edgeT es ((q : Nat) : Int) = es.getD q (0, 0, 0) := by unfold edgeT; rw [if_pos (inB_nat h), Int.toNat_natCast]
theorem nodeT_in {ns : List (Int × Int)} {q : Nat} (h : q < ns.length) : nodeT ns ((q : Nat) : Int) = ns.getD q (0, 0) := by unfold nodeT; rw [if_pos (inB_nat h), Int.toNat_natCast]
theorem outT_in {ns : List (Int × Int)} {es : List (Int × Int × Int)} {v : Nat} (h : v < ns.length) : outT ns es ((v : Nat) : Int) = (rowOf (fromN es) es.length v).map fun i => ((i : Nat) : Int) := by unfold outT; rw [if_pos (inB_nat h), Int.toNat_natCast]
theorem outT_not {ns : List (Int × Int)} {es : List (Int × Int × Int)} {v : Int} (h : inB 0 v ((ns.length : Int) - 1) = false) : outT ns es v = [] := by unfold outT; rw [h]; rfl
theorem outT_len {ns : List (Int × Int)} {es : List (Int × Int × Int)} {v : Nat} (h : v < ns.length) : (outT ns es ((v : Nat) : Int)).length = cnt (fromN es) es.length v := by rw [outT_in h, List.length_map]; rfl
theorem outT_get {ns : List (Int × Int)} {es : List (Int × Int × Int)} {v j : Nat} (h : v < ns.length) (hj : j < cnt (fromN es) es.length v) : ∃ q : Nat, (outT ns es ((v : Nat) : Int)).getD j 0 = (q : Int) ∧ q < es.length ∧ fromN es q = v ∧ (0 < j → (outT ns es ((v : Nat) : Int)).getD (j - 1) 0 < (q : Int)) := by
  have h1 := rowOf_at hj
  rw [outT_in h, map_getD (by show j < cnt _ _ _; exact hj)]
  refine ⟨_, rfl, h1.2, h1.1, fun h0 => ?_⟩
  rw [map_getD (by show j - 1 < cnt _ _ _; omega)]
  have := rowOf_rising (f := fromN es) (m := es.length) (v := v) (show j - 1 < j by omega) hj
  omega
theorem outT_mem {ns : List (Int × Int)} {es : List (Int × Int × Int)} {v : Nat} (h : v < ns.length) {x : Int} : x ∈ outT ns es ((v : Nat) : Int) ↔ ∃ q : Nat, x = (q : Int) ∧ q < es.length ∧ fromN es q = v := by
  rw [outT_in h]
  unfold rowOf
  simp only [List.mem_map, List.mem_filter, List.mem_range, beq_iff_eq]
  constructor
  · rintro ⟨q, ⟨h1, h2⟩, rfl⟩; exact ⟨q, rfl, h1, h2⟩
  · rintro ⟨q, rfl, h1, h2⟩; exact ⟨q, ⟨h1, h2⟩, rfl⟩
theorem inT_in {ns : List (Int × Int)} {es : List (Int × Int × Int)} {v : Nat} (h : v < ns.length) : inT ns es ((v : Nat) : Int) = (rowOf (toN es) es.length v).map fun i => ((i : Nat) : Int) := by unfold inT; rw [if_pos (inB_nat h), Int.toNat_natCast]
theorem inT_not {ns : List (Int × Int)} {es : List (Int × Int × Int)} {v : Int} (h : inB 0 v ((ns.length : Int) - 1) = false) : inT ns es v = [] := by unfold inT; rw [h]; rfl
theorem inT_len {ns : List (Int × Int)} {es : List (Int × Int × Int)} {v : Nat} (h : v < ns.length) : (inT ns es ((v : Nat) : Int)).length = cnt (toN es) es.length v := by rw [inT_in h, List.length_map]; rfl
theorem inT_get {ns : List (Int × Int)} {es : List (Int × Int × Int)} {v j : Nat} (h : v < ns.length) (hj : j < cnt (toN es) es.length v) : ∃ q : Nat, (inT ns es ((v : Nat) : Int)).getD j 0 = (q : Int) ∧ q < es.length ∧ toN es q = v ∧ (0 < j → (inT ns es ((v : Nat) : Int)).getD (j - 1) 0 < (q : Int)) := by
  have h1 := rowOf_at hj
  rw [inT_in h, map_getD (by show j < cnt _ _ _; exact hj)]
  refine ⟨_, rfl, h1.2, h1.1, fun h0 => ?_⟩
  rw [map_getD (by show j - 1 < cnt _ _ _; omega)]
  have := rowOf_rising (f := toN es) (m := es.length) (v := v) (show j - 1 < j by omega) hj
  omega
theorem inT_mem {ns : List (Int × Int)} {es : List (Int × Int × Int)} {v : Nat} (h : v < ns.length) {x : Int} : x ∈ inT ns es ((v : Nat) : Int) ↔ ∃ q : Nat, x = (q : Int) ∧ q < es.length ∧ toN es q = v := by
  rw [inT_in h]
  unfold rowOf
  simp only [List.mem_map, List.mem_filter, List.mem_range, beq_iff_eq]
  constructor
  · rintro ⟨q, ⟨h1, h2⟩, rfl⟩; exact ⟨q, rfl, h1, h2⟩
  · rintro ⟨q, rfl, h1, h2⟩; exact ⟨q, ⟨h1, h2⟩, rfl⟩
theorem out_all {ns bs : List (Int × Int)} {es : List (Int × Int × Int)} (h : mayB ns es bs = true) : pre (fromN es) es.length ns.length = es.length := pre_all _ _ _ fun i hi => ((mayB_parts h).2.2.1 i hi).2
theorem in_all {ns bs : List (Int × Int)} {es : List (Int × Int × Int)} (h : mayB ns es bs = true) : pre (toN es) es.length ns.length = es.length := pre_all _ _ _ fun i hi => ((mayB_parts h).2.2.2 i hi).2
end Go.Proofs.Ytkdpfbefdhjmcaa
