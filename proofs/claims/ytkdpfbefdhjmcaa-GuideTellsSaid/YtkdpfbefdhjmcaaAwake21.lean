/- What the laws of hints hold fixed; All, as callers get it. -/
import Derived.Test.YtkdpfbefdhjmcaaMade
import Derived.Test.YtkdpfbefdhjmcaaHints
import Derived.Deep.RegionHeld3
set_option linter.unusedVariables false
set_option linter.unusedSimpArgs false
namespace Go.Proofs.Ytkdpfbefdhjmcaa
open Go.ChangeShapes Go.WideShapes Go.ChangeAt Go.RowKit
theorem all_out {w : World} {B E t p : Nat} {ns bs : List (Int × Int)} {es : List (Int × Int × Int)} (h : TurnsAt w B E t p ns es bs) {A : Option Addr} {n c : Nat} {xs : List Int} (hr : ReadsI w A n c xs) (a : Int) (hw : walkB es bs a xs = false) :
    Calls Try.prog 35 #[.pointer (some ⟨t, 0, none⟩), .int .i64 a, .slice A n c] w fun e w' => e = .returned (.slice none 0 0) ∧ Below w.heap.size w w' := by
  have hv := valid_at h hr a
  rw [hw] at hv
  have HV := Lib.hid hv
  clear h hr hv hw
  go_enter Try.func35, Try.ntmps35
  go_wp2_with fail
  refine HV.out.mono ?_
  rintro e y1 ⟨rfl, hb⟩
  have B1 := Lib.hid hb
  clear hb
  go_wp2_with fail
  go_ret
  exact ⟨rfl, B1.out⟩
theorem all_at {w : World} {B E t p : Nat} {ns bs : List (Int × Int)} {es : List (Int × Int × Int)} (h : TurnsAt w B E t p ns es bs) {A : Option Addr} {n c : Nat} {xs : List Int} (hr : ReadsI w A n c xs) (hn : n ≤ 1048576) (hcap : n ≤ c ∧ c ≤ maxLen) (a : Int) :
    Calls Try.prog 35 #[.pointer (some ⟨t, 0, none⟩), .int .i64 a, .slice A n c] w fun e w' => ∃ A' c', e = .returned (.slice A' (hintsR ns es bs a xs).length c') ∧ ReadsH w' A' (hintsR ns es bs a xs).length c' (hintsR ns es bs a xs) ∧ Below w.heap.size w w' := by
  cases hw : walkB es bs a xs with
  | true =>
    have e : hintsR ns es bs a xs = hintsT ns es bs a xs := by unfold hintsR; rw [if_pos hw]
    rw [e]
    exact all_in h hr hn hcap a hw
  | false =>
    have e : hintsR ns es bs a xs = [] := by unfold hintsR; rw [if_neg (by rw [hw]; simp)]
    rw [e]
    refine (all_out h hr a hw).mono ?_
    rintro r w' ⟨rfl, hb⟩
    exact ⟨none, 0, rfl, ⟨rfl, by decide, fun h => by simp at h⟩, hb⟩
set_option maxRecDepth 100000 in
set_option maxHeartbeats 2000000 in
theorem valid_nil (a : Int) (A : Option Addr) (n c : Nat) (w : World) : Calls Try.prog 57 #[.pointer none, .int .i64 a, .slice A n c] w fun r w' => r = .returned (.bool false) ∧ w = w' := by
  go_enter Try.func57, Try.ntmps57
  go_wp2_with fail
  go_ret
  exact ⟨rfl, rfl⟩
set_option maxRecDepth 100000 in
set_option maxHeartbeats 2000000 in
theorem all_nil (a : Int) (A : Option Addr) (n c : Nat) (w : World) : Calls Try.prog 35 #[.pointer none, .int .i64 a, .slice A n c] w fun r w' => r = .returned (.slice none 0 0) ∧ w = w' := by
  go_enter Try.func35, Try.ntmps35
  go_wp2_with (go_at_call 57; refine (valid_nil _ _ _ _ _).mono ?_; rintro e w' ⟨rfl, rfl⟩)
  go_ret
  exact ⟨rfl, rfl⟩
theorem a21_new (w : World) (xs : List Int) (t : TypeId) {n : Nat} (hl : xs.length = n) (hn : n ≤ maxLen) (hw : ∀ x ∈ xs, (Lit.int .i64 x).wf = true) (c : Nat) : ReadsI (w.alloc (.cells (flatI xs).toArray t)) (some ⟨w.heap.size, 0, none⟩) n c xs := by
  refine ⟨hl, hn, fun _ => ⟨w.heap.size, 0, rfl, fun i hi => ?_⟩, hw⟩
  exact block_cell (heap_alloc_new w _) (by rw [Nat.zero_add]; simpa using flatI_get xs i (by omega))
theorem a21_len : (townE [3, 3, 5]).length = 43 := by decide +kernel
theorem a21_walk (bs : List (Int × Int)) : walkB (townE [3, 3, 5]) bs 0 [] = true := by unfold walkB chainB; rw [a21_len]; decide
theorem a21_neg (bs : List (Int × Int)) : walkB (townE [3, 3, 5]) bs (-1) [] = false := by unfold walkB; rw [a21_len]; rfl
theorem nilI21 (w : World) : ReadsI w none 0 0 [] := ⟨rfl, by decide, fun h => by omega, by simp⟩
set_option maxRecDepth 100000 in
set_option maxHeartbeats 8000000 in
theorem awake21 (w : World) : Calls Try.prog 28 #[] w fun e w' => e = .returned (.bool true) ∧ Below w.heap.size w w' := by
  have hq : ReadsI (w.alloc (.cells #[.int .i64 3, .int .i64 3, .int .i64 5] 3)) (some ⟨w.heap.size, 0, none⟩) 3 3 [3, 3, 5] := a21_new w [3, 3, 5] 3 rfl (by decide) (by decide) 3
  have hmd := made21 hq
  obtain ⟨ns, hns⟩ : ∃ ns, ns = townN [3, 3, 5] := ⟨_, rfl⟩
  obtain ⟨es, hes⟩ : ∃ es, es = townE [3, 3, 5] := ⟨_, rfl⟩
  obtain ⟨bs, hbs⟩ : ∃ bs, bs = townB [3, 3, 5] := ⟨_, rfl⟩
  have w0 := a21_walk bs
  have w1 := a21_neg bs
  rw [← hes] at w0 w1
  rw [← hns, ← hes, ← hbs] at hmd
  have e0 : hintR ns es bs 0 [] = (9, -1, 0, 0) := by unfold hintR; rw [if_pos w0]; rfl
  have e1 : hintR ns es bs (-1) [] = (0, 0, 0, 0) := ghint_out ns w1
  have e2 : hintsR ns es bs 0 [] = [(9, -1, 0, 0)] := by
    unfold hintsR
    rw [if_pos w0, hints_last (by simp)]
    rfl
  have HMD := Lib.hid hmd
  have E0 := Lib.hid e0
  have E1 := Lib.hid e1
  have E2 := Lib.hid e2
  have W0 := Lib.hid w0
  have W1 := Lib.hid w1
  clear hq hmd hns hes hbs w0 w1 e0 e1 e2
  go_enter Try.func28, Try.ntmps28
  go_wp2_with fail
  refine HMD.out.mono ?_
  rintro e v1 ⟨A1, A2, A3, c1, c2, c3, B, t, p, rfl, hM⟩
  have hbx := bl_alloc (Below.refl v1.heap.size v1) (.cells #[.slice A1 ns.length c1, .slice A2 es.length c2, .slice A3 bs.length c3] 51)
  obtain ⟨v0, hv0⟩ : ∃ v0, v0 = v1.alloc (.cells #[.slice A1 ns.length c1, .slice A2 es.length c2, .slice A3 bs.length c3] 51) := ⟨_, rfl⟩
  rw [← hv0] at hbx
  have HT := Lib.hid (hM.t.below hbx)
  have HBW : Hid (Below w.heap.size w v0) := Lib.hid ((bl_then (bl_alloc (Below.refl _ _) _) hM.below).trans (hbx.mono (by have := hM.below.size; rw [size_alloc] at this; omega)))
  have HV0 := Lib.hid hv0
  clear hM hbx hv0 HMD
  go_wp2_with fail
  rw [← HV0.out]
  have r1 := ghint_at HT.out (nilI21 v0) (by omega) 0
  rw [E0.out, W0.out] at r1
  simp only [hintV] at r1
  refine r1.mono ?_
  clear r1
  rintro e y1 ⟨rfl, hb⟩
  have B1 := Lib.hid hb
  have HQ := Lib.hid (new_block y1 (.cells #[.int .i64 9, .int .i64 (-1), .int .i64 0, .int .i64 0] 78))
  have B2 := Lib.hid (bl_alloc hb (.cells #[.int .i64 9, .int .i64 (-1), .int .i64 0, .int .i64 0] 78))
  clear hb
  go_wp2_with fail
  obtain ⟨v2, hv2⟩ : ∃ v2, v2 = y1.alloc (.cells #[.int .i64 9, .int .i64 (-1), .int .i64 0, .int .i64 0] 78) := ⟨_, rfl⟩
  rw [← hv2] at HQ B2 ⊢
  have r1 := ghint_at (HT.out.below B2.out) (nilI21 v2) (by omega) (-1)
  rw [E1.out, W1.out] at r1
  simp only [hintV] at r1
  refine r1.mono ?_
  clear r1 hv2
  rintro e y2 ⟨rfl, hb⟩
  have HQ2 := Lib.hid (block_below HQ.out (bl_alloc hb (.cells #[.int .i64 0, .int .i64 0, .int .i64 0, .int .i64 0] 78)))
  have B3 := Lib.hid (bl_then B2.out (bl_alloc hb (.cells #[.int .i64 0, .int .i64 0, .int .i64 0, .int .i64 0] 78)))
  clear hb
  go_wp2_with fail
  obtain ⟨v3, hv3⟩ : ∃ v3, v3 = y2.alloc (.cells #[.int .i64 0, .int .i64 0, .int .i64 0, .int .i64 0] 78) := ⟨_, rfl⟩
  rw [← hv3] at HQ2 B3 ⊢
  have r1 := all_at (HT.out.below B3.out) (nilI21 v3) (by omega) ⟨Nat.le_refl _, by decide⟩ 0
  rw [E2.out] at r1
  refine r1.mono ?_
  clear r1 hv3
  rintro e y3 ⟨AL, cL, rfl, hr, hb⟩
  have hq3 := block_below HQ2.out hb
  have B4 := Lib.hid (bl_then B3.out hb)
  obtain ⟨bL, oL, eL, hcL⟩ := hr.cell (by decide)
  obtain ⟨m0, m1, m2, m3⟩ := hcL 0 (by decide)
  subst eL
  have m0' : y3.cell? ⟨bL, oL, none⟩ = some (.int .i64 9) := m0
  have m1' : y3.cell? ⟨bL, oL + 1, none⟩ = some (.int .i64 (-1)) := by have := m1; rw [Nat.zero_mul, Nat.add_zero] at this; exact this
  have m2' : y3.cell? ⟨bL, oL + 2, none⟩ = some (.int .i64 0) := by have := m2; rw [Nat.zero_mul, Nat.add_zero] at this; exact this
  have m3' : y3.cell? ⟨bL, oL + 3, none⟩ = some (.int .i64 0) := by have := m3; rw [Nat.zero_mul, Nat.add_zero] at this; exact this
  have n0 : y3.cell? ⟨y1.heap.size, 0, none⟩ = some (.int .i64 9) := block_cell hq3 (j := 0) rfl
  have n1 : y3.cell? ⟨y1.heap.size, 1, none⟩ = some (.int .i64 (-1)) := block_cell hq3 (j := 1) rfl
  have n2 : y3.cell? ⟨y1.heap.size, 2, none⟩ = some (.int .i64 0) := block_cell hq3 (j := 2) rfl
  have n3 : y3.cell? ⟨y1.heap.size, 3, none⟩ = some (.int .i64 0) := block_cell hq3 (j := 3) rfl
  have HSX : Hid ((y3.cell? ⟨bL, oL, none⟩ = some (.int .i64 9) ∧ y3.cell? ⟨bL, oL + 1, none⟩ = some (.int .i64 (-1)) ∧ y3.cell? ⟨bL, oL + 2, none⟩ = some (.int .i64 0) ∧ y3.cell? ⟨bL, oL + 3, none⟩ = some (.int .i64 0)) ∧ y3.cell? ⟨y1.heap.size, 0, none⟩ = some (.int .i64 9) ∧ y3.cell? ⟨y1.heap.size, 1, none⟩ = some (.int .i64 (-1)) ∧ y3.cell? ⟨y1.heap.size, 2, none⟩ = some (.int .i64 0) ∧ y3.cell? ⟨y1.heap.size, 3, none⟩ = some (.int .i64 0)) := Lib.hid ⟨⟨m0', m1', m2', m3'⟩, n0, n1, n2, n3⟩
  clear hr hb hcL hq3 m0 m1 m2 m3 m0' m1' m2' m3' n0 n1 n2 n3
  simp only [List.length_cons, List.length_nil, Nat.zero_add]
  go_wp2_with fail
  go_region_held3 (fun w' => (w'.cell? ⟨bL, oL, none⟩ = some (.int .i64 9) ∧ w'.cell? ⟨bL, oL + 1, none⟩ = some (.int .i64 (-1)) ∧ w'.cell? ⟨bL, oL + 2, none⟩ = some (.int .i64 0) ∧ w'.cell? ⟨bL, oL + 3, none⟩ = some (.int .i64 0)) ∧ w'.cell? ⟨y1.heap.size, 0, none⟩ = some (.int .i64 9) ∧ w'.cell? ⟨y1.heap.size, 1, none⟩ = some (.int .i64 (-1)) ∧ w'.cell? ⟨y1.heap.size, 2, none⟩ = some (.int .i64 0) ∧ w'.cell? ⟨y1.heap.size, 3, none⟩ = some (.int .i64 0))
    (exact HSX.out)
    (first
      | (go_at_call 35
         refine (all_nil _ _ _ _ _).mono ?_
         rintro e w' ⟨rfl, rfl⟩))
  all_goals
    go_wp2_with fail
    go_ret
    exact ⟨rfl, HBW.out.trans ((bl_drew B4.out).mono HBW.out.size)⟩
end Go.Proofs.Ytkdpfbefdhjmcaa
