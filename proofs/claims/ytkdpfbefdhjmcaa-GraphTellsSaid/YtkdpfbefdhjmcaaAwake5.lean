/- What the laws of the graph hold fixed. -/
import Derived.Test.YtkdpfbefdhjmcaaGraphNew
import Derived.Test.YtkdpfbefdhjmcaaMade5
import Derived.Test.YtkdpfbefdhjmcaaNils
import Derived.Test.YtkdpfbefdhjmcaaSearch
import Derived.Test.YtkdpfbefdhjmcaaAlike
set_option linter.unusedVariables false
set_option linter.unusedSimpArgs false
namespace Go.Proofs.Ytkdpfbefdhjmcaa
open Go.ChangeShapes Go.WideShapes Go.ChangeAt Go.RowKit
theorem block_new (w : World) (o : Obj) : (w.alloc o).heap[w.heap.size]? = some o := by show (w.heap.push _)[w.heap.size]? = _; simp
/-- rows that were written out: a block that is known whole -/
theorem readsP_block {w : World} {b c : Nat} {t : TypeId} {xs : List (Int × Int)} {n : Nat} (h : w.heap[b]? = some (.cells (flat2 xs).toArray t)) (hl : xs.length = n) (hn : n ≤ maxLen) (hw : ∀ x ∈ xs, (Lit.int .i64 x.1).wf = true ∧ (Lit.int .i64 x.2).wf = true) : ReadsP w (some ⟨b, 0, none⟩) n c xs := by
  refine ⟨hl, hn, fun _ => ⟨b, 0, rfl, fun i hi => ?_⟩, hw⟩
  have g := flat2_get xs i (by omega)
  rw [Nat.zero_add]
  exact ⟨block_cell h (by simpa using g.1), block_cell h (by simpa using g.2)⟩
theorem readsT_block {w : World} {b c : Nat} {t : TypeId} {xs : List (Int × Int × Int)} {n : Nat} (h : w.heap[b]? = some (.cells (flat3 xs).toArray t)) (hl : xs.length = n) (hn : n ≤ maxLen) (hw : ∀ x ∈ xs, (Lit.int .i64 x.1).wf = true ∧ (Lit.int .i64 x.2.1).wf = true ∧ (Lit.int .i64 x.2.2).wf = true) : ReadsT w (some ⟨b, 0, none⟩) n c xs := by
  refine ⟨hl, hn, fun _ => ⟨b, 0, rfl, fun i hi => ?_⟩, hw⟩
  have g := flat3_get xs i (by omega)
  rw [Nat.zero_add]
  exact ⟨block_cell h (by simpa using g.1), block_cell h (by simpa using g.2.1), block_cell h (by simpa using g.2.2)⟩
theorem readsI_one (w : World) (x : Int) (t : TypeId) (hx : (Lit.int .i64 x).wf = true) : ReadsI (w.alloc (.cells #[.int .i64 x] t)) (some ⟨w.heap.size, 0, none⟩) 1 1 [x] := by
  refine ⟨rfl, by decide, fun _ => ⟨w.heap.size, 0, rfl, fun i hi => ?_⟩, fun y hy => by rw [List.mem_singleton.1 hy]; exact hx⟩
  obtain rfl : i = 0 := by omega
  exact block_cell (block_new w _) rfl
set_option maxRecDepth 100000 in
set_option maxHeartbeats 4000000 in
theorem awake5 (w : World) : Calls Try.prog 15 #[] w fun e w' => e = .returned (.bool true) ∧ Below w.heap.size w w' := by
  have hb3 : Below w.heap.size w (((w.alloc (.cells #[.int .i64 1, .int .i64 2, .int .i64 0, .int .i64 0] 59)).alloc (.cells #[.int .i64 0, .int .i64 1, .int .i64 5, .int .i64 1, .int .i64 0, .int .i64 6] 63)).alloc (.cells #[.int .i64 0, .int .i64 1] 69)) := bl_alloc (bl_alloc (bl_alloc (Below.refl _ _) _) _) _
  have q0 : (((w.alloc (.cells #[.int .i64 1, .int .i64 2, .int .i64 0, .int .i64 0] 59)).alloc (.cells #[.int .i64 0, .int .i64 1, .int .i64 5, .int .i64 1, .int .i64 0, .int .i64 6] 63)).alloc (.cells #[.int .i64 0, .int .i64 1] 69)).heap[w.heap.size]? = some (.cells (flat2 aN).toArray 59) := by
    rw [heap_alloc_lt (by rw [size_alloc, size_alloc]; omega), heap_alloc_lt (by rw [size_alloc]; omega), block_new]; rfl
  have q1 : (((w.alloc (.cells #[.int .i64 1, .int .i64 2, .int .i64 0, .int .i64 0] 59)).alloc (.cells #[.int .i64 0, .int .i64 1, .int .i64 5, .int .i64 1, .int .i64 0, .int .i64 6] 63)).alloc (.cells #[.int .i64 0, .int .i64 1] 69)).heap[w.heap.size + 1]? = some (.cells (flat3 aE).toArray 63) := by
    rw [heap_alloc_lt (by rw [size_alloc, size_alloc]; omega), ← size_alloc w (.cells #[.int .i64 1, .int .i64 2, .int .i64 0, .int .i64 0] 59), block_new]; rfl
  have q2 : (((w.alloc (.cells #[.int .i64 1, .int .i64 2, .int .i64 0, .int .i64 0] 59)).alloc (.cells #[.int .i64 0, .int .i64 1, .int .i64 5, .int .i64 1, .int .i64 0, .int .i64 6] 63)).alloc (.cells #[.int .i64 0, .int .i64 1] 69)).heap[w.heap.size + 2]? = some (.cells (flat2 aB).toArray 69) := by
    rw [show w.heap.size + 2 = ((w.alloc (.cells #[.int .i64 1, .int .i64 2, .int .i64 0, .int .i64 0] 59)).alloc (.cells #[.int .i64 0, .int .i64 1, .int .i64 5, .int .i64 1, .int .i64 0, .int .i64 6] 63)).heap.size by rw [size_alloc, size_alloc], block_new]; rfl
  have r1 := readsP_block (c := 2) (n := 2) q0 rfl (by decide) (by decide)
  have r2 := readsT_block (c := 2) (n := 2) q1 rfl (by decide) (by decide)
  have r3 := readsP_block (c := 1) (n := 1) q2 rfl (by decide) (by decide)
  have hnew := new_ok r1 r2 r3 a_ok
  have HNEW := Lib.hid hnew
  have HB3 := Lib.hid hb3
  clear q0 q1 q2 r1 r2 r3 hnew hb3
  go_enter Try.func15, Try.ntmps15
  go_wp2_with fail
  refine HNEW.out.mono ?_
  rintro e w4 ⟨p, rfl, hG, hb4⟩
  have HG := Lib.hid hG
  have HB4 : Hid (Below w.heap.size w w4) := Lib.hid (HB3.out.trans (hb4.mono HB3.out.size))
  clear hG hb4 HNEW
  go_wp2_with fail
  have hn0 : ReadsP w4 none 0 0 [] := ⟨rfl, by decide, fun h => by omega, by simp⟩
  have hn1 : ReadsT w4 none 0 0 [] := ⟨rfl, by decide, fun h => by omega, by simp⟩
  refine (new_bad hn0 hn1 hn0 a_none).mono ?_
  rintro e w5 ⟨rfl, hb5⟩
  have HG5 := Lib.hid (HG.out.below hb5)
  have HB5 : Hid (Below w.heap.size w w5) := Lib.hid (HB4.out.trans (hb5.mono HB4.out.size))
  clear hb5 hn0 hn1
  go_wp2_with fail
  have z0 : ((w5.alloc (.cells #[.int .i64 0, .int .i64 0] 59)).alloc (.cells #[.int .i64 0, .int .i64 0, .int .i64 0] 63)).heap[w5.heap.size]? = some (.cells (flat2 [(0, 0)]).toArray 59) := by
    rw [heap_alloc_lt (by rw [size_alloc]; omega), block_new]; rfl
  have z1 : ((w5.alloc (.cells #[.int .i64 0, .int .i64 0] 59)).alloc (.cells #[.int .i64 0, .int .i64 0, .int .i64 0] 63)).heap[w5.heap.size + 1]? = some (.cells (flat3 [(0, 0, 0)]).toArray 63) := by
    rw [← size_alloc w5 (.cells #[.int .i64 0, .int .i64 0] 59), block_new]; rfl
  have hbz : Below w5.heap.size w5 ((w5.alloc (.cells #[.int .i64 0, .int .i64 0] 59)).alloc (.cells #[.int .i64 0, .int .i64 0, .int .i64 0] 63)) := bl_alloc (bl_alloc (Below.refl _ _) _) _
  have hnb : ReadsP ((w5.alloc (.cells #[.int .i64 0, .int .i64 0] 59)).alloc (.cells #[.int .i64 0, .int .i64 0, .int .i64 0] 63)) none 0 0 [] := ⟨rfl, by decide, fun h => by omega, by simp⟩
  refine (new_bad (readsP_block (c := 1) (n := 1) z0 rfl (by decide) (by decide)) (readsT_block (c := 1) (n := 1) z1 rfl (by decide) (by decide)) hnb a_zero).mono ?_
  rintro e w6 ⟨rfl, hb6⟩
  have hb56 := hbz.trans (hb6.mono hbz.size)
  have HG6 := Lib.hid (HG5.out.below hb56)
  have HB6 : Hid (Below w.heap.size w w6) := Lib.hid (HB5.out.trans (hb56.mono HB5.out.size))
  clear z0 z1 hbz hnb hb6 hb56
  go_wp2_with fail
  refine (node_at HG6.out 0).mono ?_
  rw [show nodeT aN 0 = (1, 2) by decide, show inB 0 0 ((aN.length : Int) - 1) = true by decide]
  rintro e w7 ⟨rfl, hb7⟩
  have HG7 := Lib.hid ((HG6.out.below hb7).below (bl_alloc (Below.refl _ _) (.cells #[.int .i64 1, .int .i64 2] 59)))
  have HB7 : Hid (Below w.heap.size w (w7.alloc (.cells #[.int .i64 1, .int .i64 2] 59))) := Lib.hid (bl_alloc (HB6.out.trans (hb7.mono HB6.out.size)) _)
  have n1 := cell_two_new1 (w := w7) (x := .int .i64 1) (y := .int .i64 2) (t := 59) rfl
  have N1 := Lib.hid n1
  clear hb7 n1
  go_wp2_with fail
  refine (edge_at HG7.out 1).mono ?_
  rw [show edgeT aE 1 = (1, 0, 6) by decide, show inB 0 1 ((aE.length : Int) - 1) = true by decide]
  rintro e w8 ⟨rfl, hb8⟩
  have HG8 := Lib.hid ((HG7.out.below hb8).below (bl_alloc (Below.refl _ _) (.cells #[.int .i64 1, .int .i64 0, .int .i64 6] 63)))
  have HB8 : Hid (Below w.heap.size w (w8.alloc (.cells #[.int .i64 1, .int .i64 0, .int .i64 6] 63))) := Lib.hid (bl_alloc (HB7.out.trans (hb8.mono HB7.out.size)) _)
  have N8 := Lib.hid (cell_below (cell_below N1.out hb8) (bl_alloc (Below.refl _ _) (.cells #[.int .i64 1, .int .i64 0, .int .i64 6] 63)))
  have E8 := Lib.hid (cell_three_new (w := w8) (x := .int .i64 1) (y := .int .i64 0) (z := .int .i64 6) (t := 63) 2 _ rfl)
  clear hb8
  go_wp2_with fail
  refine (edge_at HG8.out 2).mono ?_
  rw [show edgeT aE 2 = (0, 0, 0) by decide, show inB 0 2 ((aE.length : Int) - 1) = false by decide]
  rintro e w9 ⟨rfl, hb9⟩
  have HG9 := Lib.hid ((HG8.out.below hb9).below (bl_alloc (Below.refl _ _) (.cells #[.int .i64 0, .int .i64 0, .int .i64 0] 63)))
  have HB9 : Hid (Below w.heap.size w (w9.alloc (.cells #[.int .i64 0, .int .i64 0, .int .i64 0] 63))) := Lib.hid (bl_alloc (HB8.out.trans (hb9.mono HB8.out.size)) _)
  have n9 := cell_below (cell_below N8.out hb9) (bl_alloc (Below.refl _ _) (.cells #[.int .i64 0, .int .i64 0, .int .i64 0] 63))
  have e9 : (w9.alloc (.cells #[.int .i64 0, .int .i64 0, .int .i64 0] 63)).cell? ⟨w8.heap.size, 2, none⟩ = some (.int .i64 6) := cell_below (cell_below E8.out hb9) (bl_alloc (Below.refl _ _) (.cells #[.int .i64 0, .int .i64 0, .int .i64 0] 63))
  clear hb9
  have hl1 : aN.length = 2 := rfl
  have hl2 : aE.length = 2 := rfl
  go_wp2_with (first | (go_at_call 18; refine (nodes_at HG9.out).mono ?_; rw [hl1]; rintro e w' ⟨rfl, rfl⟩) | (go_at_call 19; refine (edges_at HG9.out).mono ?_; rw [hl2]; rintro e w' ⟨rfl, rfl⟩))
  refine (banned_at HG9.out 0 1).mono ?_
  rw [show decide (((0 : Int), (1 : Int)) ∈ aB) = true by decide]
  rintro e v1 ⟨rfl, hv1⟩
  have G1 := Lib.hid (HG9.out.below hv1)
  have B1 : Hid (Below w.heap.size w v1) := Lib.hid (HB9.out.trans (hv1.mono HB9.out.size))
  clear hv1
  go_wp2_with fail
  refine (banned_at G1.out 1 0).mono ?_
  rw [show decide (((1 : Int), (0 : Int)) ∈ aB) = false by decide]
  rintro e v2 ⟨rfl, hv2⟩
  have G2 := Lib.hid (G1.out.below hv2)
  have B2 : Hid (Below w.heap.size w v2) := Lib.hid (B1.out.trans (hv2.mono B1.out.size))
  clear hv2
  go_wp2_with fail
  refine (out_at G2.out 1).mono ?_
  rw [show outT aN aE 1 = [1] by decide]
  rintro e v3 ⟨A3, c3, rfl, hown3, hv3⟩
  have r3 := (ReadsI.of_row hown3 (by decide) (by decide)).below (bl_alloc (Below.refl _ _) (.cells #[.int .i64 1] 3))
  have HR3 := Lib.hid r3
  have HQ3 := Lib.hid (readsI_one v3 1 3 (by decide))
  have G3 := Lib.hid ((G2.out.below hv3).below (bl_alloc (Below.refl _ _) (.cells #[.int .i64 1] 3)))
  have B3 : Hid (Below w.heap.size w (v3.alloc (.cells #[.int .i64 1] 3))) := Lib.hid (bl_alloc (B2.out.trans (hv3.mono B2.out.size)) _)
  clear hown3 hv3 r3
  go_wp2_with fail
  refine (ints_any HR3.out HQ3.out).mono ?_
  rw [show decide (([1] : List Int) = [1]) = true by decide]
  rintro e v4 ⟨rfl, hv4⟩
  have G4 := Lib.hid (G3.out.below hv4)
  have B4 : Hid (Below w.heap.size w v4) := Lib.hid (B3.out.trans (hv4.mono B3.out.size))
  clear hv4
  go_wp2_with fail
  refine (in_at G4.out 1).mono ?_
  rw [show inT aN aE 1 = [0] by decide]
  rintro e v5 ⟨A5, c5, rfl, hown5, hv5⟩
  have r5 := (ReadsI.of_row hown5 (by decide) (by decide)).below (bl_alloc (Below.refl _ _) (.cells #[.int .i64 0] 3))
  have HR5 := Lib.hid r5
  have HQ5 := Lib.hid (readsI_one v5 0 3 (by decide))
  have B5 : Hid (Below w.heap.size w (v5.alloc (.cells #[.int .i64 0] 3))) := Lib.hid (bl_alloc (B4.out.trans (hv5.mono B4.out.size)) _)
  clear hown5 hv5 r5
  go_wp2_with fail
  refine (ints_any HR5.out HQ5.out).mono ?_
  rw [show decide (([0] : List Int) = [0]) = true by decide]
  rintro e v6 ⟨rfl, hv6⟩
  have B6 : Hid (Below w.heap.size w v6) := Lib.hid (B5.out.trans (hv6.mono B5.out.size))
  clear hv6
  go_wp2_with (first | (go_at_call 18; refine (nodes_none _).mono ?_; rintro e w' ⟨rfl, rfl⟩) | (go_at_call 40; refine (out_none _).mono ?_; rintro e w' ⟨rfl, rfl⟩))
  go_ret
  exact ⟨rfl, B6.out⟩
end Go.Proofs.Ytkdpfbefdhjmcaa
