/- turns.May; what no turns tell. -/
import Derived.Test.YtkdpfbefdhjmcaaTurnsUse
set_option linter.unusedVariables false
set_option linter.unusedSimpArgs false
namespace Go.Proofs.Ytkdpfbefdhjmcaa
open Go.ChangeShapes Go.WideShapes Go.ChangeAt Go.RowKit RowP
theorem bool_or (b : Bool) : b = true ∨ b = false := by cases b <;> simp
set_option maxRecDepth 100000 in
set_option maxHeartbeats 4000000 in
theorem may_at {w : World} {B E t p : Nat} {ns bs : List (Int × Int)} {es : List (Int × Int × Int)} (h : TurnsAt w B E t p ns es bs) (a b : Int) : Calls Try.prog 70 #[.pointer (some ⟨t, 0, none⟩), .int .i64 a, .int .i64 b] w fun e w' =>
    e = .returned (.bool (turnB es bs a b)) ∧ Below w.heap.size w w' := by
  obtain ⟨tb, R, h⟩ := h
  have HG := Lib.hid h.g
  have HOK := Lib.hid h.g.bd.1
  have HT := Lib.hid h.ht
  have htl : t < w.heap.size := Nat.lt_of_lt_of_le h.tE h.top
  have HTL := Lib.hid htl
  have c0 := block_cell h.ht (j := 0) rfl
  have he1 := edge_at HG.out a
  obtain ⟨x, hx⟩ : ∃ x, x = edgeT es a := ⟨_, rfl⟩
  rw [← hx] at he1
  obtain ⟨ba, hba⟩ : ∃ ba, ba = inB 0 a ((es.length : Int) - 1) := ⟨_, rfl⟩
  rw [← hba] at he1
  have he2 := fun (w' : World) (hb : Below w.heap.size w w') => edge_at (HG.out.below hb) b
  obtain ⟨y, hy⟩ : ∃ y, y = edgeT es b := ⟨_, rfl⟩
  simp only [← hy] at he2
  obtain ⟨bb, hbb⟩ : ∃ bb, bb = inB 0 b ((es.length : Int) - 1) := ⟨_, rfl⟩
  simp only [← hbb] at he2
  have hv : turnB es bs a b = (ba && bb && decide (x.2.1 = y.1) && !decide ((a, b) ∈ bs)) := by
    unfold turnB
    rw [hba, hbb, hx, hy]
    unfold edgeT
    cases h1 : inB 0 a ((es.length : Int) - 1) <;> cases h2 : inB 0 b ((es.length : Int) - 1) <;> simp
  obtain ⟨x0, x1, x2⟩ := x
  obtain ⟨y0, y1, y2⟩ := y
  dsimp only at he1 he2 hv
  have HE1 := Lib.hid he1
  have HE2 := Lib.hid he2
  have HV := Lib.hid hv
  have hban := fun (w' : World) (hb : Below w.heap.size w w') => banned_at (HG.out.below hb) a b
  obtain ⟨bn, hbn⟩ : ∃ bn, bn = decide ((a, b) ∈ bs) := ⟨_, rfl⟩
  simp only [← hbn] at hban
  rw [← hbn] at HV
  have HBAN := Lib.hid hban
  clear h he1 he2 hx hy hba hbb hv htl hban hbn
  go_enter Try.func70, Try.ntmps70
  go_wp2_with fail
  refine HE1.out.mono ?_
  rintro e v1 ⟨rfl, hb1⟩
  have hb2 : Below w.heap.size w (v1.alloc (.cells #[.int .i64 x0, .int .i64 x1, .int .i64 x2] 63)) := bl_alloc hb1 _
  have HB2 := Lib.hid hb2
  have d0 := cell_below c0 hb2
  have c3 := fun j v hv => cell_three_new (w := v1) (x := .int .i64 x0) (y := .int .i64 x1) (z := .int .i64 x2) (t := 63) j v hv
  have X1 : Hid ((v1.alloc (.cells #[.int .i64 x0, .int .i64 x1, .int .i64 x2] 63)).cell? ⟨v1.heap.size, 1, none⟩ = some (.int .i64 x1)) := Lib.hid (c3 1 _ rfl)
  clear hb1 hb2 c3 c0
  go_wp2_with fail
  refine (HE2.out _ HB2.out).mono ?_
  rintro e v2 ⟨rfl, hb3⟩
  have hb4 : Below (v1.alloc (.cells #[.int .i64 x0, .int .i64 x1, .int .i64 x2] 63)).heap.size (v1.alloc (.cells #[.int .i64 x0, .int .i64 x1, .int .i64 x2] 63)) (v2.alloc (.cells #[.int .i64 y0, .int .i64 y1, .int .i64 y2] 63)) := bl_alloc hb3 _
  have HB4 := Lib.hid (bl_then HB2.out hb4)
  have cx1 := cell_below X1.out hb4
  have f0 := cell_below d0 hb4
  have cy0 : (v2.alloc (.cells #[.int .i64 y0, .int .i64 y1, .int .i64 y2] 63)).cell? ⟨v2.heap.size, 0, none⟩ = some (.int .i64 y0) := cell_three_new (w := v2) (x := .int .i64 y0) (y := .int .i64 y1) (z := .int .i64 y2) (t := 63) 0 _ rfl
  clear hb3 hb4 d0
  rcases bool_or ba with rfl | rfl
  · rcases bool_or bb with rfl | rfl
    · by_cases he : x1 = y0
      · have hq : (x1 == y0) = true := by simpa using he
        have hdt : decide (x1 = y0) = true := decide_eq_true he
        rw [hdt] at HV
        clear he hdt
        go_wp2_with fail
        refine (HBAN.out _ HB4.out).mono ?_
        rintro e v3 ⟨rfl, hb5⟩
        have HB5 := Lib.hid (bl_then HB4.out hb5)
        clear hb5
        go_wp2_with fail
        go_ret
        exact ⟨by rw [HV.out]; rfl, HB5.out⟩
      · have hq : (x1 == y0) = false := by simpa using he
        have hdt : decide (x1 = y0) = false := decide_eq_false he
        rw [hdt] at HV
        clear he hdt
        go_wp2_with fail
        go_ret
        exact ⟨by rw [HV.out]; rfl, HB4.out⟩
    · go_wp2_with fail
      go_ret
      exact ⟨by rw [HV.out]; rfl, HB4.out⟩
  · go_wp2_with fail
    go_ret
    exact ⟨by rw [HV.out]; rfl, HB4.out⟩
set_option maxHeartbeats 1000000 in
theorem turns_none (w : World) : Calls Try.prog 54 #[.pointer none] w fun e w' => e = .returned (.pointer none) ∧ w = w' := by
  go_enter Try.func54, Try.ntmps54
  go_wp2
  go_ret
  exact ⟨rfl, rfl⟩
set_option maxHeartbeats 1000000 in
theorem may_none (a b : Int) (w : World) : Calls Try.prog 70 #[.pointer none, .int .i64 a, .int .i64 b] w fun e w' => e = .returned (.bool false) ∧ w = w' := by
  go_enter Try.func70, Try.ntmps70
  go_wp2
  go_ret
  exact ⟨rfl, rfl⟩
set_option maxHeartbeats 1000000 in
theorem next_none (a : Int) (w : World) : Calls Try.prog 72 #[.pointer none, .int .i64 a] w fun e w' => e = .returned (.slice none 0 0) ∧ w = w' := by
  go_enter Try.func72, Try.ntmps72
  go_wp2
  go_ret
  exact ⟨rfl, rfl⟩
end Go.Proofs.Ytkdpfbefdhjmcaa
