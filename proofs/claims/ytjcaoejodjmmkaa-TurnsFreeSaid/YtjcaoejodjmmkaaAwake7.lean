/- What the laws of turns hold fixed. -/
import Derived.Test.YtjcaoejodjmmkaaMade
import Derived.Test.YtjcaoejodjmmkaaTurnsMay
import Derived.Test.YtjcaoejodjmmkaaAwake5
set_option linter.unusedVariables false
set_option linter.unusedSimpArgs false
namespace Go.Proofs.Ytjcaoejodjmmkaa
open Go.ChangeShapes Go.WideShapes Go.ChangeAt Go.RowKit
def bN : List (Int × Int) := [(0, 0), (1, 0)]
def bE : List (Int × Int × Int) := [(0, 1, 5), (1, 0, 6), (1, 1, 7)]
def bB : List (Int × Int) := [(0, 1)]
theorem b_ok : mayB bN bE bB = true := by decide
theorem readsI_new (w : World) (xs : List Int) (t : TypeId) {n : Nat} (hl : xs.length = n) (hn : n ≤ maxLen) (hw : ∀ x ∈ xs, (Lit.int .i64 x).wf = true) (c : Nat) : ReadsI (w.alloc (.cells (flatI xs).toArray t)) (some ⟨w.heap.size, 0, none⟩) n c xs := by
  refine ⟨hl, hn, fun _ => ⟨w.heap.size, 0, rfl, fun i hi => ?_⟩, hw⟩
  exact block_cell (block_new w _) (by rw [Nat.zero_add]; simpa using flatI_get xs i (by omega))
set_option maxRecDepth 100000 in
set_option maxHeartbeats 8000000 in
theorem awake7 (w : World) : Calls Try.prog 31 #[] w fun e w' => e = .returned (.bool true) ∧ Below w.heap.size w w' := by
  have hb3 : Below w.heap.size w (((w.alloc (.cells #[.int .i64 0, .int .i64 0, .int .i64 1, .int .i64 0] 48)).alloc (.cells #[.int .i64 0, .int .i64 1, .int .i64 5, .int .i64 1, .int .i64 0, .int .i64 6, .int .i64 1, .int .i64 1, .int .i64 7] 36)).alloc (.cells #[.int .i64 0, .int .i64 1] 43)) := bl_alloc (bl_alloc (bl_alloc (Below.refl _ _) _) _) _
  have q0 : (((w.alloc (.cells #[.int .i64 0, .int .i64 0, .int .i64 1, .int .i64 0] 48)).alloc (.cells #[.int .i64 0, .int .i64 1, .int .i64 5, .int .i64 1, .int .i64 0, .int .i64 6, .int .i64 1, .int .i64 1, .int .i64 7] 36)).alloc (.cells #[.int .i64 0, .int .i64 1] 43)).heap[w.heap.size]? = some (.cells (flat2 bN).toArray 48) := by
    rw [heap_alloc_lt (by rw [size_alloc, size_alloc]; omega), heap_alloc_lt (by rw [size_alloc]; omega), block_new]; rfl
  have q1 : (((w.alloc (.cells #[.int .i64 0, .int .i64 0, .int .i64 1, .int .i64 0] 48)).alloc (.cells #[.int .i64 0, .int .i64 1, .int .i64 5, .int .i64 1, .int .i64 0, .int .i64 6, .int .i64 1, .int .i64 1, .int .i64 7] 36)).alloc (.cells #[.int .i64 0, .int .i64 1] 43)).heap[w.heap.size + 1]? = some (.cells (flat3 bE).toArray 36) := by
    rw [heap_alloc_lt (by rw [size_alloc, size_alloc]; omega), ← size_alloc w (.cells #[.int .i64 0, .int .i64 0, .int .i64 1, .int .i64 0] 48), block_new]; rfl
  have q2 : (((w.alloc (.cells #[.int .i64 0, .int .i64 0, .int .i64 1, .int .i64 0] 48)).alloc (.cells #[.int .i64 0, .int .i64 1, .int .i64 5, .int .i64 1, .int .i64 0, .int .i64 6, .int .i64 1, .int .i64 1, .int .i64 7] 36)).alloc (.cells #[.int .i64 0, .int .i64 1] 43)).heap[w.heap.size + 2]? = some (.cells (flat2 bB).toArray 43) := by
    rw [show w.heap.size + 2 = ((w.alloc (.cells #[.int .i64 0, .int .i64 0, .int .i64 1, .int .i64 0] 48)).alloc (.cells #[.int .i64 0, .int .i64 1, .int .i64 5, .int .i64 1, .int .i64 0, .int .i64 6, .int .i64 1, .int .i64 1, .int .i64 7] 36)).heap.size by rw [size_alloc, size_alloc], block_new]; rfl
  have r1 := readsP_block (c := 2) (n := 2) q0 rfl (by decide) (by decide)
  have r2 := readsT_block (c := 3) (n := 3) q1 rfl (by decide) (by decide)
  have r3 := readsP_block (c := 1) (n := 1) q2 rfl (by decide) (by decide)
  have HNEW := Lib.hid (new_ok r1 r2 r3 b_ok)
  have HB3 := Lib.hid hb3
  clear q0 q1 q2 r1 r2 r3 hb3
  go_enter Try.func31, Try.ntmps31
  go_wp2_with fail
  refine HNEW.out.mono ?_
  rintro e w4 ⟨p, rfl, hG, hb4⟩
  have HG := Lib.hid hG
  have HB4 : Hid (Below w.heap.size w w4) := Lib.hid (bl_then HB3.out hb4)
  clear hG hb4 HNEW HB3
  go_wp2_with fail
  refine (turns_new HG.out).mono ?_
  rintro e w5 ⟨t, rfl, ht, hb5⟩
  have TU := Lib.hid ht
  have BW : Hid (Below w.heap.size w w5) := Lib.hid (bl_then HB4.out hb5)
  clear ht hb5 HB4 HG
  have HQ : Hid (∀ v : World, ReadsI (v.alloc (.cells #[.int .i64 2] 3)) (some ⟨v.heap.size, 0, none⟩) 1 1 [2]) := Lib.hid fun v => readsI_new v [2] _ rfl (by decide) (by decide) 1
  go_wp2_with fail
  refine (next_at TU.out 0).mono ?_
  rw [show nextT bE bB 0 = [2] by decide]
  rintro e x1 ⟨A', c', rfl, hr, _, hb⟩
  have HR := Lib.hid (hr.below (bl_alloc (Below.refl _ _) (.cells #[.int .i64 2] 3)))
  have BX : Hid (Below w.heap.size w (x1.alloc (.cells #[.int .i64 2] 3))) := Lib.hid (bl_alloc (bl_then BW.out hb) _)
  have TX := Lib.hid ((TU.out.below hb).below (bl_alloc (Below.refl _ _) (.cells #[.int .i64 2] 3)))
  clear hb hr TU BW
  go_wp2_with fail
  refine (ints_any HR.out (HQ.out x1)).mono ?_
  rw [decide_eq_true rfl]
  rintro e x2 ⟨rfl, hb⟩
  have TU := Lib.hid (TX.out.below hb)
  have BW : Hid (Below w.heap.size w x2) := Lib.hid (bl_then BX.out hb)
  clear hb TX BX HR HQ
  have HQ : Hid (∀ v : World, ReadsI (v.alloc (.cells #[.int .i64 1] 3)) (some ⟨v.heap.size, 0, none⟩) 1 1 [1]) := Lib.hid fun v => readsI_new v [1] _ rfl (by decide) (by decide) 1
  go_wp2_with fail
  refine (prev_at TU.out 0).mono ?_
  rw [show prevT bE bB 0 = [1] by decide]
  rintro e x3 ⟨A', c', rfl, hr, _, hb⟩
  have HR := Lib.hid (hr.below (bl_alloc (Below.refl _ _) (.cells #[.int .i64 1] 3)))
  have BX : Hid (Below w.heap.size w (x3.alloc (.cells #[.int .i64 1] 3))) := Lib.hid (bl_alloc (bl_then BW.out hb) _)
  have TX := Lib.hid ((TU.out.below hb).below (bl_alloc (Below.refl _ _) (.cells #[.int .i64 1] 3)))
  clear hb hr TU BW
  go_wp2_with fail
  refine (ints_any HR.out (HQ.out x3)).mono ?_
  rw [decide_eq_true rfl]
  rintro e x4 ⟨rfl, hb⟩
  have TU := Lib.hid (TX.out.below hb)
  have BW : Hid (Below w.heap.size w x4) := Lib.hid (bl_then BX.out hb)
  clear hb TX BX HR HQ
  have HQ : Hid (∀ v : World, ReadsI (v.alloc (.cells #[.int .i64 1, .int .i64 2] 3)) (some ⟨v.heap.size, 0, none⟩) 2 2 [1, 2]) := Lib.hid fun v => readsI_new v [1, 2] _ rfl (by decide) (by decide) 2
  go_wp2_with fail
  refine (next_at TU.out 2).mono ?_
  rw [show nextT bE bB 2 = [1, 2] by decide]
  rintro e x5 ⟨A', c', rfl, hr, _, hb⟩
  have HR := Lib.hid (hr.below (bl_alloc (Below.refl _ _) (.cells #[.int .i64 1, .int .i64 2] 3)))
  have BX : Hid (Below w.heap.size w (x5.alloc (.cells #[.int .i64 1, .int .i64 2] 3))) := Lib.hid (bl_alloc (bl_then BW.out hb) _)
  have TX := Lib.hid ((TU.out.below hb).below (bl_alloc (Below.refl _ _) (.cells #[.int .i64 1, .int .i64 2] 3)))
  clear hb hr TU BW
  go_wp2_with fail
  refine (ints_any HR.out (HQ.out x5)).mono ?_
  rw [decide_eq_true rfl]
  rintro e x6 ⟨rfl, hb⟩
  have TU := Lib.hid (TX.out.below hb)
  have BW : Hid (Below w.heap.size w x6) := Lib.hid (bl_then BX.out hb)
  clear hb TX BX HR HQ
  go_wp2_with fail
  refine (may_at TU.out 0 1).mono ?_
  rw [show turnB bE bB 0 1 = false by decide]
  rintro e x7 ⟨rfl, hb⟩
  have TX := Lib.hid (TU.out.below hb)
  have BX : Hid (Below w.heap.size w x7) := Lib.hid (bl_then BW.out hb)
  clear hb TU BW
  have TU := TX
  have BW := BX
  clear TX BX
  go_wp2_with fail
  refine (may_at TU.out 2 2).mono ?_
  rw [show turnB bE bB 2 2 = true by decide]
  rintro e x8 ⟨rfl, hb⟩
  have TX := Lib.hid (TU.out.below hb)
  have BX : Hid (Below w.heap.size w x8) := Lib.hid (bl_then BW.out hb)
  clear hb TU BW
  have TU := TX
  have BW := BX
  clear TX BX
  go_wp2_with fail
  refine (may_at TU.out 0 9).mono ?_
  rw [show turnB bE bB 0 9 = false by decide]
  rintro e x9 ⟨rfl, hb⟩
  have TX := Lib.hid (TU.out.below hb)
  have BX : Hid (Below w.heap.size w x9) := Lib.hid (bl_then BW.out hb)
  clear hb TU BW
  have TU := TX
  have BW := BX
  clear TX BX
  obtain ⟨tb, R, hT⟩ := TU.out
  have c0 := block_cell hT.ht (j := 0) rfl
  have HG9 := Lib.hid hT.g
  have hl2 : bE.length = 3 := rfl
  clear hT
  go_wp2_with (first | (go_at_call 27; refine (edges_at HG9.out).mono ?_; rw [hl2]; rintro e w' ⟨rfl, rfl⟩) | (go_at_call 42; refine (turns_none _).mono ?_; rintro e w' ⟨rfl, rfl⟩) | (go_at_call 33; refine (next_none _ _).mono ?_; rintro e w' ⟨rfl, rfl⟩) | (go_at_call 37; refine (may_none _ _ _).mono ?_; rintro e w' ⟨rfl, rfl⟩))
  go_ret
  exact ⟨rfl, BW.out⟩
end Go.Proofs.Ytjcaoejodjmmkaa
