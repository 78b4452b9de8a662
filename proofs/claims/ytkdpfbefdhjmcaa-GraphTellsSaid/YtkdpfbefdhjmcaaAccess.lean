/- What a graph tells: its numbers, its nodes and edges. -/
import Derived.Test.YtkdpfbefdhjmcaaGraphAt
set_option linter.unusedVariables false
set_option linter.unusedSimpArgs false
namespace Go.Proofs.Ytkdpfbefdhjmcaa
open Go.ChangeShapes Go.WideShapes Go.ChangeAt Go.RowKit
theorem GraphIs.g0 {w : World} {B E p : Nat} {d : GD} {ns bs : List (Int × Int)} {es : List (Int × Int × Int)} (h : GraphIs w B E p d ns es bs) : w.cell? ⟨p, 0, none⟩ = some (.slice d.A1 ns.length d.c1) := block_cell h.hp rfl
theorem GraphIs.g1 {w : World} {B E p : Nat} {d : GD} {ns bs : List (Int × Int)} {es : List (Int × Int × Int)} (h : GraphIs w B E p d ns es bs) : w.cell? ⟨p, 1, none⟩ = some (.slice d.A2 es.length d.c2) := block_cell h.hp rfl
theorem GraphIs.g2 {w : World} {B E p : Nat} {d : GD} {ns bs : List (Int × Int)} {es : List (Int × Int × Int)} (h : GraphIs w B E p d ns es bs) : w.cell? ⟨p, 2, none⟩ = some (.slice d.A3 bs.length d.c3) := block_cell h.hp rfl
set_option maxRecDepth 100000 in
set_option maxHeartbeats 2000000 in
theorem edges_at {w : World} {B E p : Nat} {ns bs : List (Int × Int)} {es : List (Int × Int × Int)} (h : GraphAt w B E p ns es bs) : Calls Try.prog 19 #[.pointer (some ⟨p, 0, none⟩)] w fun e w' => e = .returned (.int .i64 es.length) ∧ w = w' := by
  obtain ⟨d, h⟩ := h
  have c := h.g1
  have hs := h.rE.small
  unfold maxLen at hs
  clear h
  go_enter Try.func19, Try.ntmps19
  go_wp2_with fail
  go_ret
  exact ⟨rfl, rfl⟩
set_option maxRecDepth 100000 in
set_option maxHeartbeats 2000000 in
theorem nodes_at {w : World} {B E p : Nat} {ns bs : List (Int × Int)} {es : List (Int × Int × Int)} (h : GraphAt w B E p ns es bs) : Calls Try.prog 18 #[.pointer (some ⟨p, 0, none⟩)] w fun e w' => e = .returned (.int .i64 ns.length) ∧ w = w' := by
  obtain ⟨d, h⟩ := h
  have c := h.g0
  have hs := h.rN.small
  unfold maxLen at hs
  clear h
  go_enter Try.func18, Try.ntmps18
  go_wp2_with fail
  go_ret
  exact ⟨rfl, rfl⟩
def edgeT (es : List (Int × Int × Int)) (i : Int) : Int × Int × Int := if inB 0 i ((es.length : Int) - 1) = true then es.getD i.toNat (0, 0, 0) else (0, 0, 0)
def nodeT (ns : List (Int × Int)) (i : Int) : Int × Int := if inB 0 i ((ns.length : Int) - 1) = true then ns.getD i.toNat (0, 0) else (0, 0)
set_option maxRecDepth 100000 in
set_option maxHeartbeats 4000000 in
theorem edge_at {w : World} {B E p : Nat} {ns bs : List (Int × Int)} {es : List (Int × Int × Int)} (h : GraphAt w B E p ns es bs) (i : Int) : Calls Try.prog 23 #[.pointer (some ⟨p, 0, none⟩), .int .i64 i] w fun e w' =>
    e = .returned (.tuple #[.agg #[.int .i64 (edgeT es i).1, .int .i64 (edgeT es i).2.1, .int .i64 (edgeT es i).2.2], .bool (inB 0 i ((es.length : Int) - 1))]) ∧ Below w.heap.size w w' := by
  have HG := Lib.hid h
  have ha : ∀ o, GraphAt (w.alloc o) B E p ns es bs := fun o => h.below (bl_alloc (Below.refl _ _) o)
  have HA := Lib.hid ha
  unfold edgeT
  cases hin : inB 0 i ((es.length : Int) - 1)
  · rw [if_neg (by simp)]
    unfold inB at hin
    simp only [Bool.and_eq_false_iff, decide_eq_false_iff_not] at hin
    clear h ha
    by_cases h0 : i < 0
    · clear hin
      go_enter Try.func23, Try.ntmps23
      go_wp2_with fail
      exact bodyPost_ret (v := .tuple #[.agg #[.int .i64 0, .int .i64 0, .int .i64 0], .bool false]) (by simp [results, Try.results23, go_sem]) rfl ⟨rfl, bl_alloc (Below.refl _ _) _⟩
    · have h1 : (es.length : Int) ≤ i := by omega
      clear hin
      go_enter Try.func23, Try.ntmps23
      go_wp2_with (go_at_call 19; refine (edges_at (HA.out _)).mono ?_; rintro e w' ⟨rfl, rfl⟩)
      exact bodyPost_ret (v := .tuple #[.agg #[.int .i64 0, .int .i64 0, .int .i64 0], .bool false]) (by simp [results, Try.results23, go_sem]) rfl ⟨rfl, bl_alloc (Below.refl _ _) _⟩
  · rw [if_pos rfl]
    unfold inB at hin
    simp only [Bool.and_eq_true, decide_eq_true_eq] at hin
    obtain ⟨h0, h1⟩ := hin
    obtain ⟨k, rfl⟩ : ∃ k : Nat, i = (k : Int) := ⟨i.toNat, by omega⟩
    rw [Int.toNat_natCast]
    have hk : (k : Int) < (es.length : Int) := by omega
    obtain ⟨d, hd⟩ := h
    obtain ⟨b, o, hA, hc⟩ := hd.rE.cell (by omega)
    obtain ⟨c0, c1, c2⟩ := hc k (by omega)
    have c := hd.g1
    rw [hA] at c
    obtain ⟨x, hx⟩ : ∃ x, x = es.getD k (0, 0, 0) := ⟨_, rfl⟩
    rw [← hx] at c0 c1 c2 ⊢
    obtain ⟨x0, x1, x2⟩ := x
    have d := cell_below c (bl_alloc (Below.refl _ _) (.cells #[.int .i64 0, .int .i64 0, .int .i64 0] 63))
    have d0 := cell_below c0 (bl_alloc (Below.refl _ _) (.cells #[.int .i64 0, .int .i64 0, .int .i64 0] 63))
    have d1 := cell_below c1 (bl_alloc (Below.refl _ _) (.cells #[.int .i64 0, .int .i64 0, .int .i64 0] 63))
    have d2 := cell_below c2 (bl_alloc (Below.refl _ _) (.cells #[.int .i64 0, .int .i64 0, .int .i64 0] 63))
    clear hc hA hd ha c c0 c1 c2 hx
    go_enter Try.func23, Try.ntmps23
    go_wp2_with (go_at_call 19; refine (edges_at (HA.out _)).mono ?_; rintro e w' ⟨rfl, rfl⟩)
    exact bodyPost_ret (v := .tuple #[.agg #[.int .i64 x0, .int .i64 x1, .int .i64 x2], .bool true]) (by simp [results, Try.results23, go_sem]) rfl ⟨rfl, bl_alloc (Below.refl _ _) _⟩
set_option maxRecDepth 100000 in
set_option maxHeartbeats 4000000 in
theorem node_at {w : World} {B E p : Nat} {ns bs : List (Int × Int)} {es : List (Int × Int × Int)} (h : GraphAt w B E p ns es bs) (i : Int) : Calls Try.prog 22 #[.pointer (some ⟨p, 0, none⟩), .int .i64 i] w fun e w' =>
    e = .returned (.tuple #[.agg #[.int .i64 (nodeT ns i).1, .int .i64 (nodeT ns i).2], .bool (inB 0 i ((ns.length : Int) - 1))]) ∧ Below w.heap.size w w' := by
  have HG := Lib.hid h
  have ha : ∀ o, GraphAt (w.alloc o) B E p ns es bs := fun o => h.below (bl_alloc (Below.refl _ _) o)
  have HA := Lib.hid ha
  unfold nodeT
  cases hin : inB 0 i ((ns.length : Int) - 1)
  · rw [if_neg (by simp)]
    unfold inB at hin
    simp only [Bool.and_eq_false_iff, decide_eq_false_iff_not] at hin
    clear h ha
    by_cases h0 : i < 0
    · clear hin
      go_enter Try.func22, Try.ntmps22
      go_wp2_with fail
      exact bodyPost_ret (v := .tuple #[.agg #[.int .i64 0, .int .i64 0], .bool false]) (by simp [results, Try.results22, go_sem]) rfl ⟨rfl, bl_alloc (Below.refl _ _) _⟩
    · have h1 : (ns.length : Int) ≤ i := by omega
      clear hin
      go_enter Try.func22, Try.ntmps22
      go_wp2_with (go_at_call 18; refine (nodes_at (HA.out _)).mono ?_; rintro e w' ⟨rfl, rfl⟩)
      exact bodyPost_ret (v := .tuple #[.agg #[.int .i64 0, .int .i64 0], .bool false]) (by simp [results, Try.results22, go_sem]) rfl ⟨rfl, bl_alloc (Below.refl _ _) _⟩
  · rw [if_pos rfl]
    unfold inB at hin
    simp only [Bool.and_eq_true, decide_eq_true_eq] at hin
    obtain ⟨h0, h1⟩ := hin
    obtain ⟨k, rfl⟩ : ∃ k : Nat, i = (k : Int) := ⟨i.toNat, by omega⟩
    rw [Int.toNat_natCast]
    have hk : (k : Int) < (ns.length : Int) := by omega
    obtain ⟨d, hd⟩ := h
    obtain ⟨b, o, hA, hc⟩ := hd.rN.cell (by omega)
    obtain ⟨c0, c1⟩ := hc k (by omega)
    have c := hd.g0
    rw [hA] at c
    obtain ⟨x, hx⟩ : ∃ x, x = ns.getD k (0, 0) := ⟨_, rfl⟩
    rw [← hx] at c0 c1 ⊢
    obtain ⟨x0, x1⟩ := x
    have d := cell_below c (bl_alloc (Below.refl _ _) (.cells #[.int .i64 0, .int .i64 0] 59))
    have d0 := cell_below c0 (bl_alloc (Below.refl _ _) (.cells #[.int .i64 0, .int .i64 0] 59))
    have d1 := cell_below c1 (bl_alloc (Below.refl _ _) (.cells #[.int .i64 0, .int .i64 0] 59))
    clear hc hA hd ha c c0 c1 hx
    go_enter Try.func22, Try.ntmps22
    go_wp2_with (go_at_call 18; refine (nodes_at (HA.out _)).mono ?_; rintro e w' ⟨rfl, rfl⟩)
    exact bodyPost_ret (v := .tuple #[.agg #[.int .i64 x0, .int .i64 x1], .bool true]) (by simp [results, Try.results22, go_sem]) rfl ⟨rfl, bl_alloc (Below.refl _ _) _⟩
end Go.Proofs.Ytkdpfbefdhjmcaa
