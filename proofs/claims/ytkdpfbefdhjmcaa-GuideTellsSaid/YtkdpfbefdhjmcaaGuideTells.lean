/- GuideTells: of any edges, a walk or not, the hint, and all hints, are as the document says. For every input, without a condition. -/
import Derived.Test.YtkdpfbefdhjmcaaAwake21
import Derived.Test.YtkdpfbefdhjmcaaStroll
import Derived.Test.YtkdpfbefdhjmcaaRound
import Derived.Test.YtkdpfbefdhjmcaaHints4
import Derived.Test.YtkdpfbefdhjmcaaReadsC
import Derived.Test.YtkdpfbefdhjmcaaRow
import Derived.Deep.RegionHeld3
import Derived.BigQuiet
set_option linter.unusedVariables false
set_option linter.unusedSimpArgs false
namespace Go.Proofs.Ytkdpfbefdhjmcaa.guideTells
open Go.ChangeShapes Go.WideShapes Go.ChangeAt Go.RowKit
set_option maxRecDepth 100000 in
set_option maxHeartbeats 4000000 in
theorem walk_out (A : Option Addr) (n k : Nat) (a : Int) (A2 : Option Addr) (n2 k2 : Nat) (A3 : Option Addr) (n3 k3 : Nat) (s1 : n ≤ 9223372036854775807) (s2 : n2 ≤ 9223372036854775807) (s3 : n3 ≤ 9223372036854775807) (w : World) (h : ¬ (n ≤ 100 ∧ n2 ≤ 40 ∧ n3 ≤ 40)) :
    Calls Try.prog 5 #[.slice A n k, .int .i64 a, .slice A2 n2 k2, .slice A3 n3 k3] w fun e w' => e = .returned (.bool true) ∧ Below w.heap.size w w' := by
  by_cases h1 : 100 < n
  · clear h
    go_enter Try.func5, Try.ntmps5
    go_wp2_with (go_at_call 28; refine (awake21 _).mono ?_; rintro e w1 ⟨rfl, hb1⟩)
    go_ret
    exact ⟨rfl, by assumption⟩
  · by_cases h2 : 40 < n2
    · clear h
      go_enter Try.func5, Try.ntmps5
      go_wp2_with (go_at_call 28; refine (awake21 _).mono ?_; rintro e w1 ⟨rfl, hb1⟩)
      go_ret
      exact ⟨rfl, by assumption⟩
    · have h3 : 40 < n3 := by omega
      clear h
      go_enter Try.func5, Try.ntmps5
      go_wp2_with (go_at_call 28; refine (awake21 _).mono ?_; rintro e w1 ⟨rfl, hb1⟩)
      go_ret
      exact ⟨rfl, by assumption⟩
set_option maxRecDepth 100000 in
set_option maxHeartbeats 16000000 in
theorem walk_ins (A : Option Addr) (n k : Nat) (xs : List Int) (a : Int) (ha : (Lit.int .i64 a).wf = true) (Ar : Option Addr) (n2 k2 : Nat) (x2 : List Int) (As : Option Addr) (n4 k4 : Nat) (st : List Int) (w : World) (h : n ≤ 100) (h2 : n2 ≤ 40) (h4 : n4 ≤ 40)
    (hk : ReadsI w A n k xs) (q2 : ReadsI w Ar n2 k2 x2) (hc2 : n2 ≤ k2 ∧ k2 ≤ maxLen) (q4 : ReadsI w As n4 k4 st) :
    Calls Try.prog 5 #[.slice A n k, .int .i64 a, .slice Ar n2 k2, .slice As n4 k4] w fun e w' => e = .returned (.bool true) ∧ Below w.heap.size w w' := by
  have HOK := Lib.hid (town_good xs)
  have hmd := made21 hk
  have hE70 := len_townE xs
  obtain ⟨ns, hns⟩ : ∃ ns, ns = townN xs := ⟨_, rfl⟩
  obtain ⟨es, hes⟩ : ∃ es, es = townE xs := ⟨_, rfl⟩
  obtain ⟨bs, hbs⟩ : ∃ bs, bs = townB xs := ⟨_, rfl⟩
  rw [← hes] at hE70
  rw [← hns, ← hes, ← hbs] at HOK hmd
  have HMD := Lib.hid hmd
  obtain ⟨s1, s2, s3, s4⟩ := (mayB_parts HOK.out).2.1
  clear hmd hns hes hbs
  have Q4 := Lib.hid q4
  have Q2 := Lib.hid q2
  have HC2 := Lib.hid hc2
  obtain ⟨e1, e70⟩ := hE70
  have rb := fun w => round_any ha (n := (es.length : Int)) (by omega) (by omega) w
  obtain ⟨E1, hE1⟩ : ∃ E1, E1 = a % (es.length : Int) := ⟨_, rfl⟩
  rw [← hE1] at rb
  have RB := Lib.hid rb
  clear hk q2 q4 rb hE1 ha hc2
  go_enter Try.func5, Try.ntmps5
  go_wp2_with fail
  refine HMD.out.mono ?_
  rintro e w1 ⟨A1, A2, A3, c1, c2, c3, B, t, p, rfl, hM⟩
  have hbx := bl_alloc (Below.refl w1.heap.size w1) (.cells #[.slice A1 ns.length c1, .slice A2 es.length c2, .slice A3 bs.length c3] 51)
  obtain ⟨v0, hv0⟩ : ∃ v0, v0 = w1.alloc (.cells #[.slice A1 ns.length c1, .slice A2 es.length c2, .slice A3 bs.length c3] 51) := ⟨_, rfl⟩
  have HS : Hid (∀ w', Below v0.heap.size v0 w' → w'.cell? ⟨w1.heap.size, 0, none⟩ = some (.slice A1 ns.length c1) ∧ w'.cell? ⟨w1.heap.size, 1, none⟩ = some (.slice A2 es.length c2) ∧ w'.cell? ⟨w1.heap.size, 2, none⟩ = some (.slice A3 bs.length c3)) := Lib.hid fun w' hb => by subst hv0; exact GR.box hb
  have k0 : (w1.alloc (.cells #[.slice A1 ns.length c1, .slice A2 es.length c2, .slice A3 bs.length c3] 51)).cell? ⟨w1.heap.size, 0, none⟩ = some (.slice A1 ns.length c1) := cell_three_new 0 _ rfl
  have k1 : (w1.alloc (.cells #[.slice A1 ns.length c1, .slice A2 es.length c2, .slice A3 bs.length c3] 51)).cell? ⟨w1.heap.size, 1, none⟩ = some (.slice A2 es.length c2) := cell_three_new 1 _ rfl
  have k2 : (w1.alloc (.cells #[.slice A1 ns.length c1, .slice A2 es.length c2, .slice A3 bs.length c3] 51)).cell? ⟨w1.heap.size, 2, none⟩ = some (.slice A3 bs.length c3) := cell_three_new 2 _ rfl
  rw [← hv0] at hbx
  have HG := Lib.hid (hM.g.below hbx)
  have HT := Lib.hid (hM.t.below hbx)
  have HBW : Hid (Below w.heap.size w v0) := Lib.hid (hM.below.trans (hbx.mono hM.below.size))
  have HV0 := Lib.hid hv0
  have HTE : Hid (w1.heap.size < v0.heap.size) := Lib.hid (by rw [hv0, size_alloc]; omega)
  have HLO : Hid (w.heap.size ≤ B) := Lib.hid hM.lo
  clear hM hbx hv0 HMD
  go_wp2_with fail
  rw [← HV0.out]
  clear k0 k1 k2
  go_loopg [11] 2 (fun M u wr => ∃ k : Nat, M = 2 - k ∧ k ≤ 2 ∧ u = .int .i64 (k : Nat) ∧ Below v0.heap.size v0 wr)
  case atStart => exact ⟨0, rfl, by omega, rfl, Below.refl _ _⟩
  case round =>
    obtain ⟨k, hM, hk, rfl, hb⟩ := hrel
    have HM := Lib.hid hM
    have HBR := Lib.hid hb
    obtain ⟨l0, l1, l2⟩ := HS.out _ hb
    clear hM hb
    rcases (show k = 0 ∨ k = 1 ∨ k = 2 by omega) with rfl | rfl | rfl
    · have HBQ := HBR
      have HRW := Lib.hid (Q2.out.below (bl_then HBW.out HBR.out))
      have HNW : Hid (n2 ≤ 40) := Lib.hid h2
      have HCW := HC2
      clear l0 l1 l2
      have hgh := ghint_at (HT.out.below HBQ.out) HRW.out (by have := HNW.out; omega) a
      have hg4 := fun (w' : World) (hb : Below v0.heap.size v0 w') (hr : ReadsI w' Ar n2 k2 x2) => hint4_any (HG.out.below hb) HOK.out hr (by have := HNW.out; omega) a
      have hall := fun (w' : World) (hb : Below v0.heap.size v0 w') (hr : ReadsI w' Ar n2 k2 x2) => all_at (HT.out.below hb) hr (by have := HNW.out; omega) HCW.out a
      have hal4 := fun (w' : World) (hb : Below v0.heap.size v0 w') (hr : ReadsI w' Ar n2 k2 x2) => hints4_any (HG.out.below hb) HOK.out hr (by have := HNW.out; omega) HCW.out a
      have htl : (hintsR ns es bs a x2).length ≤ 100 := by
        unfold hintsR
        split
        · have := (hints_len (ns := ns) (es := es) (bs := bs) (x2).length (a := a) (l := x2) (Nat.le_refl _)).2
          have := HRW.out.len
          have := HNW.out
          omega
        · simp
      obtain ⟨T, hT⟩ : ∃ T, T = hintsR ns es bs a x2 := ⟨_, rfl⟩
      rw [← hT] at hall hal4 htl
      obtain ⟨R, hR⟩ : ∃ R, R = hintR ns es bs a x2 := ⟨_, rfl⟩
      rw [← hR] at hgh hg4
      obtain ⟨r0, r1, r2, r3⟩ := R
      simp only [hintV] at hgh hg4
      obtain ⟨wb, hwb⟩ : ∃ wb, wb = walkB es bs a x2 := ⟨_, rfl⟩
      rw [← hwb] at hgh hg4
      have HGH := Lib.hid hgh
      have HG4 := Lib.hid hg4
      have HALL := Lib.hid hall
      have HAL4 := Lib.hid hal4
      have HTL := Lib.hid htl
      clear hgh hg4 hall hal4 hT hR hwb htl
      go_wp2_with fail
      refine HGH.out.mono ?_
      rintro e y1 ⟨rfl, hb⟩
      have hq1 := new_block y1 (.cells #[.int .i64 r0, .int .i64 r1, .int .i64 r2, .int .i64 r3] 78)
      have HB1 : Hid (Below wr.heap.size wr (y1.alloc (.cells #[.int .i64 r0, .int .i64 r1, .int .i64 r2, .int .i64 r3] 78))) := Lib.hid (bl_alloc hb _)
      have HQ1 := Lib.hid hq1
      have HBV1 : Hid (Below v0.heap.size v0 (y1.alloc (.cells #[.int .i64 r0, .int .i64 r1, .int .i64 r2, .int .i64 r3] 78))) := Lib.hid (bl_then HBQ.out HB1.out)
      obtain ⟨l0, l1, l2⟩ := HS.out _ HBV1.out
      have hg4 := HG4.out _ HBV1.out (HRW.out.below HB1.out)
      have HG4' := Lib.hid hg4
      clear hb hq1 hg4
      go_wp2_with fail
      refine HG4'.out.mono ?_
      rintro e y2 ⟨rfl, hb⟩
      have hq2 := new_block y2 (.cells #[.int .i64 r0, .int .i64 r1, .int .i64 r2, .int .i64 r3] 78)
      have hb2 : Below (y1.alloc (.cells #[.int .i64 r0, .int .i64 r1, .int .i64 r2, .int .i64 r3] 78)).heap.size (y1.alloc (.cells #[.int .i64 r0, .int .i64 r1, .int .i64 r2, .int .i64 r3] 78)) (y2.alloc (.cells #[.int .i64 r0, .int .i64 r1, .int .i64 r2, .int .i64 r3] 78)) := bl_alloc hb _
      have hq3 := block_below HQ1.out hb2
      obtain ⟨v4, hv4⟩ : ∃ v4, v4 = y2.alloc (.cells #[.int .i64 r0, .int .i64 r1, .int .i64 r2, .int .i64 r3] 78) := ⟨_, rfl⟩
      have HBV4 : Hid (Below v0.heap.size v0 v4) := Lib.hid (by rw [hv4]; exact bl_then HBV1.out hb2)
      have HRW4 : Hid (ReadsI v4 Ar n2 k2 x2) := Lib.hid (by rw [hv4]; exact (HRW.out.below HB1.out).below hb2)
      rw [← hv4] at hq2 hq3
      have HV4 := Lib.hid hv4
      have HSX : Hid (∀ w', Below v4.heap.size v4 w' → (w'.cell? ⟨y1.heap.size, 0, none⟩ = some (.int .i64 r0) ∧ w'.cell? ⟨y1.heap.size, 1, none⟩ = some (.int .i64 r1) ∧ w'.cell? ⟨y1.heap.size, 2, none⟩ = some (.int .i64 r2) ∧ w'.cell? ⟨y1.heap.size, 3, none⟩ = some (.int .i64 r3)) ∧ (w'.cell? ⟨y2.heap.size, 0, none⟩ = some (.int .i64 r0) ∧ w'.cell? ⟨y2.heap.size, 1, none⟩ = some (.int .i64 r1) ∧ w'.cell? ⟨y2.heap.size, 2, none⟩ = some (.int .i64 r2) ∧ w'.cell? ⟨y2.heap.size, 3, none⟩ = some (.int .i64 r3)) ∧ w'.cell? ⟨w1.heap.size, 0, none⟩ = some (.slice A1 ns.length c1) ∧ w'.cell? ⟨w1.heap.size, 1, none⟩ = some (.slice A2 es.length c2) ∧ w'.cell? ⟨w1.heap.size, 2, none⟩ = some (.slice A3 bs.length c3)) :=
        Lib.hid fun w' hb => ⟨⟨block_cell (block_below hq3 hb) (j := 0) rfl, block_cell (block_below hq3 hb) (j := 1) rfl, block_cell (block_below hq3 hb) (j := 2) rfl, block_cell (block_below hq3 hb) (j := 3) rfl⟩, ⟨block_cell (block_below hq2 hb) (j := 0) rfl, block_cell (block_below hq2 hb) (j := 1) rfl, block_cell (block_below hq2 hb) (j := 2) rfl, block_cell (block_below hq2 hb) (j := 3) rfl⟩, HS.out _ (bl_then HBV4.out hb)⟩
      have Z0 : Hid (Below v4.heap.size v4 v4.drew) := Lib.hid (bl_drew (Below.refl _ _))
      have n0 : (r0 != r0) = false := by simp
      have n1 : (wb != wb) = false := by simp
      clear hb hq2 hb2 hq3 hv4 l0 l1 l2
      go_upto_region 15 with fail
      rw [← HV4.out]
      refine wp_region_held_drew (S := fun w' => (w'.cell? ⟨y1.heap.size, 0, none⟩ = some (.int .i64 r0) ∧ w'.cell? ⟨y1.heap.size, 1, none⟩ = some (.int .i64 r1) ∧ w'.cell? ⟨y1.heap.size, 2, none⟩ = some (.int .i64 r2) ∧ w'.cell? ⟨y1.heap.size, 3, none⟩ = some (.int .i64 r3)) ∧ (w'.cell? ⟨y2.heap.size, 0, none⟩ = some (.int .i64 r0) ∧ w'.cell? ⟨y2.heap.size, 1, none⟩ = some (.int .i64 r1) ∧ w'.cell? ⟨y2.heap.size, 2, none⟩ = some (.int .i64 r2) ∧ w'.cell? ⟨y2.heap.size, 3, none⟩ = some (.int .i64 r3)) ∧ w'.cell? ⟨w1.heap.size, 0, none⟩ = some (.slice A1 ns.length c1) ∧ w'.cell? ⟨w1.heap.size, 1, none⟩ = some (.slice A2 es.length c2) ∧ w'.cell? ⟨w1.heap.size, 2, none⟩ = some (.slice A3 bs.length c3)) (by kernel_rfl) (HSX.out _ Z0.out) (fun hHeld => ?_)
      refine wpAnyH_take (i := 0) (v := ?_) rfl (by kernel_rfl) (by kernel_rfl) (by kernel_rfl) (fun _ _ _ h => h) (Or.inl ⟨by rfl, ?_⟩) (by assumption) ?_
      rotate_left
      · intro w hSw; (try dsimp only at hSw); go_simp <;> with_reducible rfl
      (try simp only [Act.put, List.setIfInBounds_toArray, List.set_cons_zero, List.set_cons_succ, List.getElem_toArray, List.getElem_cons_succ, List.getElem_cons_zero])
      refine wpAnyH_take (i := 1) (v := ?_) rfl (by kernel_rfl) (by kernel_rfl) (by kernel_rfl) (fun _ _ _ h => h) (Or.inl ⟨by rfl, ?_⟩) (by assumption) ?_
      rotate_left
      · intro w hSw; (try dsimp only at hSw); go_simp <;> with_reducible rfl
      (try simp only [Act.put, List.setIfInBounds_toArray, List.set_cons_zero, List.set_cons_succ, List.getElem_toArray, List.getElem_cons_succ, List.getElem_cons_zero])
      refine wpAnyH_take (i := 2) (v := ?_) rfl (by kernel_rfl) (by kernel_rfl) (by kernel_rfl) (fun _ _ _ h => h) (Or.inl ⟨by rfl, ?_⟩) (by assumption) ?_
      rotate_left
      · intro w hSw; (try dsimp only at hSw); go_simp <;> with_reducible rfl
      (try simp only [Act.put, List.setIfInBounds_toArray, List.set_cons_zero, List.set_cons_succ, List.getElem_toArray, List.getElem_cons_succ, List.getElem_cons_zero])
      refine wpAnyH_take (i := 3) (v := ?_) rfl (by kernel_rfl) (by kernel_rfl) (by kernel_rfl) (fun _ _ _ h => h) (Or.inl ⟨by rfl, ?_⟩) (by assumption) ?_
      rotate_left
      · intro w hSw; (try dsimp only at hSw); go_simp <;> with_reducible rfl
      (try simp only [Act.put, List.setIfInBounds_toArray, List.set_cons_zero, List.set_cons_succ, List.getElem_toArray, List.getElem_cons_succ, List.getElem_cons_zero])
      refine wpAnyH_take (i := 4) (v := ?_) rfl (by kernel_rfl) (by kernel_rfl) (by kernel_rfl) (fun _ _ _ h => h) (Or.inl ⟨by rfl, ?_⟩) (by assumption) ?_
      rotate_left
      · intro w hSw; (try dsimp only at hSw); go_simp <;> with_reducible rfl
      (try simp only [Act.put, List.setIfInBounds_toArray, List.set_cons_zero, List.set_cons_succ, List.getElem_toArray, List.getElem_cons_succ, List.getElem_cons_zero])
      refine wpAnyH_take (i := 5) (v := ?_) rfl (by kernel_rfl) (by kernel_rfl) (by kernel_rfl) (fun _ _ _ h => h) (Or.inl ⟨by rfl, ?_⟩) (by assumption) ?_
      rotate_left
      · intro w hSw; (try dsimp only at hSw); go_simp <;> with_reducible rfl
      (try simp only [Act.put, List.setIfInBounds_toArray, List.set_cons_zero, List.set_cons_succ, List.getElem_toArray, List.getElem_cons_succ, List.getElem_cons_zero])
      refine wpAnyH_take (i := 6) (v := ?_) rfl (by kernel_rfl) (by kernel_rfl) (by kernel_rfl) (fun _ _ _ h => h) (Or.inl ⟨by rfl, ?_⟩) (by assumption) ?_
      rotate_left
      · intro w hSw; (try dsimp only at hSw); go_simp <;> with_reducible rfl
      (try simp only [Act.put, List.setIfInBounds_toArray, List.set_cons_zero, List.set_cons_succ, List.getElem_toArray, List.getElem_cons_succ, List.getElem_cons_zero])
      refine wpAnyH_take (i := 7) (v := ?_) rfl (by kernel_rfl) (by kernel_rfl) (by kernel_rfl) (fun _ _ _ h => h) (Or.inl ⟨by rfl, ?_⟩) (by assumption) ?_
      rotate_left
      · intro w hSw; (try dsimp only at hSw); go_simp <;> with_reducible rfl
      (try simp only [Act.put, List.setIfInBounds_toArray, List.set_cons_zero, List.set_cons_succ, List.getElem_toArray, List.getElem_cons_succ, List.getElem_cons_zero])
      refine wpAnyH_take (i := 8) (v := ?_) rfl (by kernel_rfl) (by kernel_rfl) (by kernel_rfl) (fun _ _ _ h => h) (Or.inl ⟨by rfl, ?_⟩) (by assumption) ?_
      rotate_left
      · intro w hSw; (try dsimp only at hSw); go_simp <;> with_reducible rfl
      (try simp only [Act.put, List.setIfInBounds_toArray, List.set_cons_zero, List.set_cons_succ, List.getElem_toArray, List.getElem_cons_succ, List.getElem_cons_zero])
      refine wpAnyH_take (i := 9) (v := ?_) rfl (by kernel_rfl) (by kernel_rfl) (by kernel_rfl) (fun _ _ _ h => h) (Or.inl ⟨by rfl, ?_⟩) (by assumption) ?_
      rotate_left
      · intro w hSw; (try dsimp only at hSw); go_simp <;> with_reducible rfl
      (try simp only [Act.put, List.setIfInBounds_toArray, List.set_cons_zero, List.set_cons_succ, List.getElem_toArray, List.getElem_cons_succ, List.getElem_cons_zero])
      refine wpAnyH_take (i := 10) (v := ?_) rfl (by kernel_rfl) (by kernel_rfl) (by kernel_rfl) (fun _ _ _ h => h) (Or.inl ⟨by rfl, ?_⟩) (by assumption) ?_
      rotate_left
      · intro w hSw; (try dsimp only at hSw); go_simp <;> with_reducible rfl
      (try simp only [Act.put, List.setIfInBounds_toArray, List.set_cons_zero, List.set_cons_succ, List.getElem_toArray, List.getElem_cons_succ, List.getElem_cons_zero])
      refine wpAnyH_take (i := 11) (v := ?_) rfl (by kernel_rfl) (by kernel_rfl) (by kernel_rfl) (fun _ _ _ h => h) (Or.inl ⟨by rfl, ?_⟩) (by assumption) ?_
      rotate_left
      · intro w hSw; (try dsimp only at hSw); go_simp <;> with_reducible rfl
      (try simp only [Act.put, List.setIfInBounds_toArray, List.set_cons_zero, List.set_cons_succ, List.getElem_toArray, List.getElem_cons_succ, List.getElem_cons_zero])
      refine wpAnyH_take (i := 13) (v := ?_) rfl (by kernel_rfl) (by kernel_rfl) (by kernel_rfl) (fun _ _ _ h => h) (Or.inl ⟨by rfl, ?_⟩) (by assumption) ?_
      rotate_left
      · intro w hSw; (try dsimp only at hSw); go_simp <;> with_reducible rfl
      (try simp only [Act.put, List.setIfInBounds_toArray, List.set_cons_zero, List.set_cons_succ, List.getElem_toArray, List.getElem_cons_succ, List.getElem_cons_zero])
      refine wpAnyH_take (i := 14) (v := ?_) rfl (by kernel_rfl) (by kernel_rfl) (by kernel_rfl) (fun _ _ _ h => h) (Or.inl ⟨by rfl, ?_⟩) (by assumption) ?_
      rotate_left
      · intro w hSw; (try dsimp only at hSw); go_simp <;> with_reducible rfl
      (try simp only [Act.put, List.setIfInBounds_toArray, List.set_cons_zero, List.set_cons_succ, List.getElem_toArray, List.getElem_cons_succ, List.getElem_cons_zero])
      refine wpAnyH_take (i := 15) (v := ?_) rfl (by kernel_rfl) (by kernel_rfl) (by kernel_rfl) (fun _ _ _ h => h) (Or.inl ⟨by rfl, ?_⟩) (by assumption) ?_
      rotate_left
      · intro w hSw; (try dsimp only at hSw); go_simp <;> with_reducible rfl
      (try simp only [Act.put, List.setIfInBounds_toArray, List.set_cons_zero, List.set_cons_succ, List.getElem_toArray, List.getElem_cons_succ, List.getElem_cons_zero])
      refine wpAnyH_ready (rs := [12]) (by kernel_rfl) (by simp) ?_
      refine AllReadyH.cons rfl (fun K hK => ?_) AllReadyH.nil
      go_simp
      with_reducible refine (HALL.out _ (bl_then HBV4.out Z0.out) (HRW4.out.below Z0.out)).mono ?_
      rintro e u1 ⟨L1, q1, rfl, hr1, hb⟩
      have Z1 : Hid (Below v4.heap.size v4 u1) := Lib.hid (bl_then Z0.out hb)
      have HR1 := Lib.hid hr1
      clear hb hr1
      refine hK.out _ _ (HSX.out _ Z1.out) (fun hHeld => ?_)
      (try simp only [Act.put, List.setIfInBounds_toArray, List.set_cons_zero, List.set_cons_succ, List.getElem_toArray, List.getElem_cons_succ, List.getElem_cons_zero])
      refine wpAnyH_ready (rs := [16]) (by kernel_rfl) (by simp) ?_
      refine AllReadyH.cons rfl (fun K hK => ?_) AllReadyH.nil
      go_simp
      with_reducible refine (HAL4.out _ (bl_then HBV4.out Z1.out) (HRW4.out.below Z1.out)).mono ?_
      rintro e u2 ⟨L2, q2, rfl, hr2, hb⟩
      have Z2 : Hid (Below v4.heap.size v4 u2) := Lib.hid (bl_then Z1.out hb)
      have HR2 := Lib.hid hr2
      have HR1' := Lib.hid (HR1.out.below hb)
      clear hb hr2
      refine hK.out _ _ (HSX.out _ Z2.out) (fun hHeld => ?_)
      (try simp only [Act.put, List.setIfInBounds_toArray, List.set_cons_zero, List.set_cons_succ, List.getElem_toArray, List.getElem_cons_succ, List.getElem_cons_zero])
      refine wpAnyH_ready (rs := [17]) (by kernel_rfl) (by simp) ?_
      refine AllReadyH.cons rfl (fun K hK => ?_) AllReadyH.nil
      go_simp
      with_reducible refine (hints_same HR1'.out HR2.out (by have := HTL.out; omega)).mono ?_
      rintro e u3 ⟨rfl, hb⟩
      have Z3 : Hid (Below v4.heap.size v4 u3) := Lib.hid (bl_then Z2.out hb)
      clear hb
      refine hK.out _ _ (HSX.out _ Z3.out) (fun hHeld => ?_)
      (try simp only [Act.put, List.setIfInBounds_toArray, List.set_cons_zero, List.set_cons_succ, List.getElem_toArray, List.getElem_cons_succ, List.getElem_cons_zero])
      refine wpAnyH_take (i := 18) (v := ?_) rfl (by kernel_rfl) (by kernel_rfl) (by kernel_rfl) (fun _ _ _ h => h) (Or.inl ⟨by rfl, ?_⟩) (by assumption) ?_
      rotate_left
      · intro w hSw; (try dsimp only at hSw); go_simp <;> with_reducible rfl
      (try simp only [Act.put, List.setIfInBounds_toArray, List.set_cons_zero, List.set_cons_succ, List.getElem_toArray, List.getElem_cons_succ, List.getElem_cons_zero])
      refine wpAnyH_take (i := 19) (v := ?_) rfl (by kernel_rfl) (by kernel_rfl) (by kernel_rfl) (fun _ _ _ h => h) (Or.inl ⟨by rfl, ?_⟩) (by assumption) ?_
      rotate_left
      · intro w hSw; (try dsimp only at hSw); go_simp <;> with_reducible rfl
      (try simp only [Act.put, List.setIfInBounds_toArray, List.set_cons_zero, List.set_cons_succ, List.getElem_toArray, List.getElem_cons_succ, List.getElem_cons_zero])
      refine wpAnyH_done (by kernel_rfl) ?_ _
      go_wp2_with fail
      go_roundg 1
      case measure => have := HM.out; omega
      case rel => exact ⟨1, rfl, by omega, rfl, bl_then HBV4.out Z3.out⟩
    · go_wp2_with fail
      refine (RB.out _).mono ?_
      rintro e y0 ⟨rfl, rfl⟩
      have hst := stroll_any (HG.out.below HBR.out) (by omega) E1 (Q4.out.below (bl_then HBW.out HBR.out)) (by omega)
      have hXl := stroll_len es bs E1 st
      have hsl := Q4.out.len
      obtain ⟨X, hX⟩ : ∃ X, X = strollT es bs E1 st := ⟨_, rfl⟩
      rw [← hX] at hst hXl
      have HST := Lib.hid hst
      have HNW : Hid (X.length ≤ 40) := Lib.hid (show X.length ≤ 40 by omega)
      clear hst hX hXl hsl
      go_wp2_with fail
      refine HST.out.mono ?_
      rintro e vb ⟨AX, cX, rfl, hr, _, hb, hown⟩
      have HRW := Lib.hid hr
      have HBQ : Hid (Below v0.heap.size v0 vb) := Lib.hid (bl_then HBR.out hb)
      have HCW : Hid (X.length ≤ cX ∧ cX ≤ maxLen) := Lib.hid (by
        rcases hown with ⟨_, h1, h2⟩ | ⟨g, _, h1, h2⟩
        · rw [h1, h2]; exact ⟨Nat.le_refl _, by decide⟩
        · exact ⟨h1, h2⟩)
      clear hr hb hown l0 l1 l2
      have hgh := ghint_at (HT.out.below HBQ.out) HRW.out (by have := HNW.out; omega) E1
      have hg4 := fun (w' : World) (hb : Below v0.heap.size v0 w') (hr : ReadsI w' AX (X.length) cX X) => hint4_any (HG.out.below hb) HOK.out hr (by have := HNW.out; omega) E1
      have hall := fun (w' : World) (hb : Below v0.heap.size v0 w') (hr : ReadsI w' AX (X.length) cX X) => all_at (HT.out.below hb) hr (by have := HNW.out; omega) HCW.out E1
      have hal4 := fun (w' : World) (hb : Below v0.heap.size v0 w') (hr : ReadsI w' AX (X.length) cX X) => hints4_any (HG.out.below hb) HOK.out hr (by have := HNW.out; omega) HCW.out E1
      have htl : (hintsR ns es bs E1 X).length ≤ 100 := by
        unfold hintsR
        split
        · have := (hints_len (ns := ns) (es := es) (bs := bs) (X).length (a := E1) (l := X) (Nat.le_refl _)).2
          have := HRW.out.len
          have := HNW.out
          omega
        · simp
      obtain ⟨T, hT⟩ : ∃ T, T = hintsR ns es bs E1 X := ⟨_, rfl⟩
      rw [← hT] at hall hal4 htl
      obtain ⟨R, hR⟩ : ∃ R, R = hintR ns es bs E1 X := ⟨_, rfl⟩
      rw [← hR] at hgh hg4
      obtain ⟨r0, r1, r2, r3⟩ := R
      simp only [hintV] at hgh hg4
      obtain ⟨wb, hwb⟩ : ∃ wb, wb = walkB es bs E1 X := ⟨_, rfl⟩
      rw [← hwb] at hgh hg4
      have HGH := Lib.hid hgh
      have HG4 := Lib.hid hg4
      have HALL := Lib.hid hall
      have HAL4 := Lib.hid hal4
      have HTL := Lib.hid htl
      clear hgh hg4 hall hal4 hT hR hwb htl
      go_wp2_with fail
      refine HGH.out.mono ?_
      rintro e y1 ⟨rfl, hb⟩
      have hq1 := new_block y1 (.cells #[.int .i64 r0, .int .i64 r1, .int .i64 r2, .int .i64 r3] 78)
      have HB1 : Hid (Below vb.heap.size vb (y1.alloc (.cells #[.int .i64 r0, .int .i64 r1, .int .i64 r2, .int .i64 r3] 78))) := Lib.hid (bl_alloc hb _)
      have HQ1 := Lib.hid hq1
      have HBV1 : Hid (Below v0.heap.size v0 (y1.alloc (.cells #[.int .i64 r0, .int .i64 r1, .int .i64 r2, .int .i64 r3] 78))) := Lib.hid (bl_then HBQ.out HB1.out)
      obtain ⟨l0, l1, l2⟩ := HS.out _ HBV1.out
      have hg4 := HG4.out _ HBV1.out (HRW.out.below HB1.out)
      have HG4' := Lib.hid hg4
      clear hb hq1 hg4
      go_wp2_with fail
      refine HG4'.out.mono ?_
      rintro e y2 ⟨rfl, hb⟩
      have hq2 := new_block y2 (.cells #[.int .i64 r0, .int .i64 r1, .int .i64 r2, .int .i64 r3] 78)
      have hb2 : Below (y1.alloc (.cells #[.int .i64 r0, .int .i64 r1, .int .i64 r2, .int .i64 r3] 78)).heap.size (y1.alloc (.cells #[.int .i64 r0, .int .i64 r1, .int .i64 r2, .int .i64 r3] 78)) (y2.alloc (.cells #[.int .i64 r0, .int .i64 r1, .int .i64 r2, .int .i64 r3] 78)) := bl_alloc hb _
      have hq3 := block_below HQ1.out hb2
      obtain ⟨v4, hv4⟩ : ∃ v4, v4 = y2.alloc (.cells #[.int .i64 r0, .int .i64 r1, .int .i64 r2, .int .i64 r3] 78) := ⟨_, rfl⟩
      have HBV4 : Hid (Below v0.heap.size v0 v4) := Lib.hid (by rw [hv4]; exact bl_then HBV1.out hb2)
      have HRW4 : Hid (ReadsI v4 AX (X.length) cX X) := Lib.hid (by rw [hv4]; exact (HRW.out.below HB1.out).below hb2)
      rw [← hv4] at hq2 hq3
      have HV4 := Lib.hid hv4
      have HSX : Hid (∀ w', Below v4.heap.size v4 w' → (w'.cell? ⟨y1.heap.size, 0, none⟩ = some (.int .i64 r0) ∧ w'.cell? ⟨y1.heap.size, 1, none⟩ = some (.int .i64 r1) ∧ w'.cell? ⟨y1.heap.size, 2, none⟩ = some (.int .i64 r2) ∧ w'.cell? ⟨y1.heap.size, 3, none⟩ = some (.int .i64 r3)) ∧ (w'.cell? ⟨y2.heap.size, 0, none⟩ = some (.int .i64 r0) ∧ w'.cell? ⟨y2.heap.size, 1, none⟩ = some (.int .i64 r1) ∧ w'.cell? ⟨y2.heap.size, 2, none⟩ = some (.int .i64 r2) ∧ w'.cell? ⟨y2.heap.size, 3, none⟩ = some (.int .i64 r3)) ∧ w'.cell? ⟨w1.heap.size, 0, none⟩ = some (.slice A1 ns.length c1) ∧ w'.cell? ⟨w1.heap.size, 1, none⟩ = some (.slice A2 es.length c2) ∧ w'.cell? ⟨w1.heap.size, 2, none⟩ = some (.slice A3 bs.length c3)) :=
        Lib.hid fun w' hb => ⟨⟨block_cell (block_below hq3 hb) (j := 0) rfl, block_cell (block_below hq3 hb) (j := 1) rfl, block_cell (block_below hq3 hb) (j := 2) rfl, block_cell (block_below hq3 hb) (j := 3) rfl⟩, ⟨block_cell (block_below hq2 hb) (j := 0) rfl, block_cell (block_below hq2 hb) (j := 1) rfl, block_cell (block_below hq2 hb) (j := 2) rfl, block_cell (block_below hq2 hb) (j := 3) rfl⟩, HS.out _ (bl_then HBV4.out hb)⟩
      have Z0 : Hid (Below v4.heap.size v4 v4.drew) := Lib.hid (bl_drew (Below.refl _ _))
      have n0 : (r0 != r0) = false := by simp
      have n1 : (wb != wb) = false := by simp
      clear hb hq2 hb2 hq3 hv4 l0 l1 l2
      go_upto_region 15 with fail
      rw [← HV4.out]
      refine wp_region_held_drew (S := fun w' => (w'.cell? ⟨y1.heap.size, 0, none⟩ = some (.int .i64 r0) ∧ w'.cell? ⟨y1.heap.size, 1, none⟩ = some (.int .i64 r1) ∧ w'.cell? ⟨y1.heap.size, 2, none⟩ = some (.int .i64 r2) ∧ w'.cell? ⟨y1.heap.size, 3, none⟩ = some (.int .i64 r3)) ∧ (w'.cell? ⟨y2.heap.size, 0, none⟩ = some (.int .i64 r0) ∧ w'.cell? ⟨y2.heap.size, 1, none⟩ = some (.int .i64 r1) ∧ w'.cell? ⟨y2.heap.size, 2, none⟩ = some (.int .i64 r2) ∧ w'.cell? ⟨y2.heap.size, 3, none⟩ = some (.int .i64 r3)) ∧ w'.cell? ⟨w1.heap.size, 0, none⟩ = some (.slice A1 ns.length c1) ∧ w'.cell? ⟨w1.heap.size, 1, none⟩ = some (.slice A2 es.length c2) ∧ w'.cell? ⟨w1.heap.size, 2, none⟩ = some (.slice A3 bs.length c3)) (by kernel_rfl) (HSX.out _ Z0.out) (fun hHeld => ?_)
      refine wpAnyH_take (i := 0) (v := ?_) rfl (by kernel_rfl) (by kernel_rfl) (by kernel_rfl) (fun _ _ _ h => h) (Or.inl ⟨by rfl, ?_⟩) (by assumption) ?_
      rotate_left
      · intro w hSw; (try dsimp only at hSw); go_simp <;> with_reducible rfl
      (try simp only [Act.put, List.setIfInBounds_toArray, List.set_cons_zero, List.set_cons_succ, List.getElem_toArray, List.getElem_cons_succ, List.getElem_cons_zero])
      refine wpAnyH_take (i := 1) (v := ?_) rfl (by kernel_rfl) (by kernel_rfl) (by kernel_rfl) (fun _ _ _ h => h) (Or.inl ⟨by rfl, ?_⟩) (by assumption) ?_
      rotate_left
      · intro w hSw; (try dsimp only at hSw); go_simp <;> with_reducible rfl
      (try simp only [Act.put, List.setIfInBounds_toArray, List.set_cons_zero, List.set_cons_succ, List.getElem_toArray, List.getElem_cons_succ, List.getElem_cons_zero])
      refine wpAnyH_take (i := 2) (v := ?_) rfl (by kernel_rfl) (by kernel_rfl) (by kernel_rfl) (fun _ _ _ h => h) (Or.inl ⟨by rfl, ?_⟩) (by assumption) ?_
      rotate_left
      · intro w hSw; (try dsimp only at hSw); go_simp <;> with_reducible rfl
      (try simp only [Act.put, List.setIfInBounds_toArray, List.set_cons_zero, List.set_cons_succ, List.getElem_toArray, List.getElem_cons_succ, List.getElem_cons_zero])
      refine wpAnyH_take (i := 3) (v := ?_) rfl (by kernel_rfl) (by kernel_rfl) (by kernel_rfl) (fun _ _ _ h => h) (Or.inl ⟨by rfl, ?_⟩) (by assumption) ?_
      rotate_left
      · intro w hSw; (try dsimp only at hSw); go_simp <;> with_reducible rfl
      (try simp only [Act.put, List.setIfInBounds_toArray, List.set_cons_zero, List.set_cons_succ, List.getElem_toArray, List.getElem_cons_succ, List.getElem_cons_zero])
      refine wpAnyH_take (i := 4) (v := ?_) rfl (by kernel_rfl) (by kernel_rfl) (by kernel_rfl) (fun _ _ _ h => h) (Or.inl ⟨by rfl, ?_⟩) (by assumption) ?_
      rotate_left
      · intro w hSw; (try dsimp only at hSw); go_simp <;> with_reducible rfl
      (try simp only [Act.put, List.setIfInBounds_toArray, List.set_cons_zero, List.set_cons_succ, List.getElem_toArray, List.getElem_cons_succ, List.getElem_cons_zero])
      refine wpAnyH_take (i := 5) (v := ?_) rfl (by kernel_rfl) (by kernel_rfl) (by kernel_rfl) (fun _ _ _ h => h) (Or.inl ⟨by rfl, ?_⟩) (by assumption) ?_
      rotate_left
      · intro w hSw; (try dsimp only at hSw); go_simp <;> with_reducible rfl
      (try simp only [Act.put, List.setIfInBounds_toArray, List.set_cons_zero, List.set_cons_succ, List.getElem_toArray, List.getElem_cons_succ, List.getElem_cons_zero])
      refine wpAnyH_take (i := 6) (v := ?_) rfl (by kernel_rfl) (by kernel_rfl) (by kernel_rfl) (fun _ _ _ h => h) (Or.inl ⟨by rfl, ?_⟩) (by assumption) ?_
      rotate_left
      · intro w hSw; (try dsimp only at hSw); go_simp <;> with_reducible rfl
      (try simp only [Act.put, List.setIfInBounds_toArray, List.set_cons_zero, List.set_cons_succ, List.getElem_toArray, List.getElem_cons_succ, List.getElem_cons_zero])
      refine wpAnyH_take (i := 7) (v := ?_) rfl (by kernel_rfl) (by kernel_rfl) (by kernel_rfl) (fun _ _ _ h => h) (Or.inl ⟨by rfl, ?_⟩) (by assumption) ?_
      rotate_left
      · intro w hSw; (try dsimp only at hSw); go_simp <;> with_reducible rfl
      (try simp only [Act.put, List.setIfInBounds_toArray, List.set_cons_zero, List.set_cons_succ, List.getElem_toArray, List.getElem_cons_succ, List.getElem_cons_zero])
      refine wpAnyH_take (i := 8) (v := ?_) rfl (by kernel_rfl) (by kernel_rfl) (by kernel_rfl) (fun _ _ _ h => h) (Or.inl ⟨by rfl, ?_⟩) (by assumption) ?_
      rotate_left
      · intro w hSw; (try dsimp only at hSw); go_simp <;> with_reducible rfl
      (try simp only [Act.put, List.setIfInBounds_toArray, List.set_cons_zero, List.set_cons_succ, List.getElem_toArray, List.getElem_cons_succ, List.getElem_cons_zero])
      refine wpAnyH_take (i := 9) (v := ?_) rfl (by kernel_rfl) (by kernel_rfl) (by kernel_rfl) (fun _ _ _ h => h) (Or.inl ⟨by rfl, ?_⟩) (by assumption) ?_
      rotate_left
      · intro w hSw; (try dsimp only at hSw); go_simp <;> with_reducible rfl
      (try simp only [Act.put, List.setIfInBounds_toArray, List.set_cons_zero, List.set_cons_succ, List.getElem_toArray, List.getElem_cons_succ, List.getElem_cons_zero])
      refine wpAnyH_take (i := 10) (v := ?_) rfl (by kernel_rfl) (by kernel_rfl) (by kernel_rfl) (fun _ _ _ h => h) (Or.inl ⟨by rfl, ?_⟩) (by assumption) ?_
      rotate_left
      · intro w hSw; (try dsimp only at hSw); go_simp <;> with_reducible rfl
      (try simp only [Act.put, List.setIfInBounds_toArray, List.set_cons_zero, List.set_cons_succ, List.getElem_toArray, List.getElem_cons_succ, List.getElem_cons_zero])
      refine wpAnyH_take (i := 11) (v := ?_) rfl (by kernel_rfl) (by kernel_rfl) (by kernel_rfl) (fun _ _ _ h => h) (Or.inl ⟨by rfl, ?_⟩) (by assumption) ?_
      rotate_left
      · intro w hSw; (try dsimp only at hSw); go_simp <;> with_reducible rfl
      (try simp only [Act.put, List.setIfInBounds_toArray, List.set_cons_zero, List.set_cons_succ, List.getElem_toArray, List.getElem_cons_succ, List.getElem_cons_zero])
      refine wpAnyH_take (i := 13) (v := ?_) rfl (by kernel_rfl) (by kernel_rfl) (by kernel_rfl) (fun _ _ _ h => h) (Or.inl ⟨by rfl, ?_⟩) (by assumption) ?_
      rotate_left
      · intro w hSw; (try dsimp only at hSw); go_simp <;> with_reducible rfl
      (try simp only [Act.put, List.setIfInBounds_toArray, List.set_cons_zero, List.set_cons_succ, List.getElem_toArray, List.getElem_cons_succ, List.getElem_cons_zero])
      refine wpAnyH_take (i := 14) (v := ?_) rfl (by kernel_rfl) (by kernel_rfl) (by kernel_rfl) (fun _ _ _ h => h) (Or.inl ⟨by rfl, ?_⟩) (by assumption) ?_
      rotate_left
      · intro w hSw; (try dsimp only at hSw); go_simp <;> with_reducible rfl
      (try simp only [Act.put, List.setIfInBounds_toArray, List.set_cons_zero, List.set_cons_succ, List.getElem_toArray, List.getElem_cons_succ, List.getElem_cons_zero])
      refine wpAnyH_take (i := 15) (v := ?_) rfl (by kernel_rfl) (by kernel_rfl) (by kernel_rfl) (fun _ _ _ h => h) (Or.inl ⟨by rfl, ?_⟩) (by assumption) ?_
      rotate_left
      · intro w hSw; (try dsimp only at hSw); go_simp <;> with_reducible rfl
      (try simp only [Act.put, List.setIfInBounds_toArray, List.set_cons_zero, List.set_cons_succ, List.getElem_toArray, List.getElem_cons_succ, List.getElem_cons_zero])
      refine wpAnyH_ready (rs := [12]) (by kernel_rfl) (by simp) ?_
      refine AllReadyH.cons rfl (fun K hK => ?_) AllReadyH.nil
      go_simp
      with_reducible refine (HALL.out _ (bl_then HBV4.out Z0.out) (HRW4.out.below Z0.out)).mono ?_
      rintro e u1 ⟨L1, q1, rfl, hr1, hb⟩
      have Z1 : Hid (Below v4.heap.size v4 u1) := Lib.hid (bl_then Z0.out hb)
      have HR1 := Lib.hid hr1
      clear hb hr1
      refine hK.out _ _ (HSX.out _ Z1.out) (fun hHeld => ?_)
      (try simp only [Act.put, List.setIfInBounds_toArray, List.set_cons_zero, List.set_cons_succ, List.getElem_toArray, List.getElem_cons_succ, List.getElem_cons_zero])
      refine wpAnyH_ready (rs := [16]) (by kernel_rfl) (by simp) ?_
      refine AllReadyH.cons rfl (fun K hK => ?_) AllReadyH.nil
      go_simp
      with_reducible refine (HAL4.out _ (bl_then HBV4.out Z1.out) (HRW4.out.below Z1.out)).mono ?_
      rintro e u2 ⟨L2, q2, rfl, hr2, hb⟩
      have Z2 : Hid (Below v4.heap.size v4 u2) := Lib.hid (bl_then Z1.out hb)
      have HR2 := Lib.hid hr2
      have HR1' := Lib.hid (HR1.out.below hb)
      clear hb hr2
      refine hK.out _ _ (HSX.out _ Z2.out) (fun hHeld => ?_)
      (try simp only [Act.put, List.setIfInBounds_toArray, List.set_cons_zero, List.set_cons_succ, List.getElem_toArray, List.getElem_cons_succ, List.getElem_cons_zero])
      refine wpAnyH_ready (rs := [17]) (by kernel_rfl) (by simp) ?_
      refine AllReadyH.cons rfl (fun K hK => ?_) AllReadyH.nil
      go_simp
      with_reducible refine (hints_same HR1'.out HR2.out (by have := HTL.out; omega)).mono ?_
      rintro e u3 ⟨rfl, hb⟩
      have Z3 : Hid (Below v4.heap.size v4 u3) := Lib.hid (bl_then Z2.out hb)
      clear hb
      refine hK.out _ _ (HSX.out _ Z3.out) (fun hHeld => ?_)
      (try simp only [Act.put, List.setIfInBounds_toArray, List.set_cons_zero, List.set_cons_succ, List.getElem_toArray, List.getElem_cons_succ, List.getElem_cons_zero])
      refine wpAnyH_take (i := 18) (v := ?_) rfl (by kernel_rfl) (by kernel_rfl) (by kernel_rfl) (fun _ _ _ h => h) (Or.inl ⟨by rfl, ?_⟩) (by assumption) ?_
      rotate_left
      · intro w hSw; (try dsimp only at hSw); go_simp <;> with_reducible rfl
      (try simp only [Act.put, List.setIfInBounds_toArray, List.set_cons_zero, List.set_cons_succ, List.getElem_toArray, List.getElem_cons_succ, List.getElem_cons_zero])
      refine wpAnyH_take (i := 19) (v := ?_) rfl (by kernel_rfl) (by kernel_rfl) (by kernel_rfl) (fun _ _ _ h => h) (Or.inl ⟨by rfl, ?_⟩) (by assumption) ?_
      rotate_left
      · intro w hSw; (try dsimp only at hSw); go_simp <;> with_reducible rfl
      (try simp only [Act.put, List.setIfInBounds_toArray, List.set_cons_zero, List.set_cons_succ, List.getElem_toArray, List.getElem_cons_succ, List.getElem_cons_zero])
      refine wpAnyH_done (by kernel_rfl) ?_ _
      go_wp2_with fail
      go_roundg 0
      case measure => have := HM.out; omega
      case rel => exact ⟨2, rfl, by omega, rfl, bl_then HBV4.out Z3.out⟩
    · clear l0 l1 l2
      go_wp2_with (go_at_call 28; refine (awake21 _).mono ?_; rintro e w6 ⟨rfl, hb6⟩)
      go_ret
      exact ⟨rfl, HBW.out.trans ((bl_then HBR.out hb6).mono HBW.out.size)⟩
theorem walk {W : World} (A : Option Addr) (n k : Nat) (xs : List Int) (hk : ReadsI W A n k xs) (a : Int) (h5 : (Lit.int .i64 a).wf = true) (A2 : Option Addr) (n2 k2 : Nat) (x2 : List Int) (q2 : ReadsI W A2 n2 k2 x2) (hc2 : n2 ≤ k2 ∧ k2 ≤ maxLen) (A4 : Option Addr) (n4 k4 : Nat) (x4 : List Int) (q4 : ReadsI W A4 n4 k4 x4) :
    Calls Try.prog 5 #[.slice A n k, .int .i64 a, .slice A2 n2 k2, .slice A4 n4 k4] W fun e w' => e = .returned (.bool true) ∧ Below W.heap.size W w' := by
  have s1 := hk.small
  have s2 := q2.small
  have s4 := q4.small
  unfold maxLen at s1 s2 s4
  by_cases h : n ≤ 100 ∧ n2 ≤ 40 ∧ n4 ≤ 40
  · exact walk_ins A n k xs a h5 A2 n2 k2 x2 A4 n4 k4 x4 W h.1 h.2.1 h.2.2 hk q2 hc2 q4
  · exact walk_out A n k a A2 n2 k2 A4 n4 k4 (by omega) (by omega) (by omega) W h
set_option maxRecDepth 100000 in
theorem lifted (os : Os) (started : os.Started) (H : Type) (enc : TypeId × Value → H) :
    ReturnsInHanded {} Try.checked os 5 .any (Rows.guideTellsSpec.pre6 enc Try.prog Try.f5 Rows.guideTellsRow.domain false) (Rows.guideTellsSpec.post enc Try.prog Try.f5 false true false false) := by
  refine returnsInHanded_of_change (C := Try.checked) own started (by kernel_rfl) Try.func5
    (ChangeSpec.witness6 (enc := enc) (C := Try.checked) false ⟨#[], #[.slice none 0 0, .int .i64 0, .slice none 0 0, .slice none 0 0], []⟩ 8 (by kernel_rfl) (by kernel_rfl) (by kernel_rfl) (by kernel_rfl)) ?_
  intro W base args ds gs before hval0 hW hcnd _
  have hval : ∀ (j : Nat) t v, Try.f5.params[j]? = some t → args[j]? = some v → Value.okWide Try.prog W .any base t v := hval0
  have hW' := hW
  obtain ⟨p, q, hA0, hV, rfl, hfz, hnd⟩ := hW
  have hA : DataW.TrodAll enc Try.prog W 0 (fun _ => true) true Try.f5.params.toList args.toList ds p := hA0
  rw [Try.params5] at hA hval
  obtain ⟨v0, vs0, d0, ds0, p0, q0, hargs, rfl, rfl, h0, r0⟩ := trodAll_cons hA
  obtain ⟨v1, vs1, d1, ds1, p1, q1, rfl, rfl, rfl, h1, r1⟩ := trodAll_cons r0
  obtain ⟨v2, vs2, d2, ds2, p2, q2, rfl, rfl, rfl, h2, r2⟩ := trodAll_cons r1
  obtain ⟨v3, vs3, d3, ds3, p3, q3, rfl, rfl, rfl, h3, r3⟩ := trodAll_cons r2
  obtain ⟨rfl, rfl, rfl⟩ := trodAll_nil r3
  obtain rfl : args = #[v0, v1, v2, v3] := by cases args; simp_all
  obtain ⟨rfl, rfl⟩ := trodVars_none hV
  obtain ⟨a0, n0, c0, xs0, rfl, k0⟩ := open_reads (hval 0 71 v0 rfl rfl) h0
  obtain ⟨a1, rfl, rfl, rfl, w1⟩ := open_int Try.underlying3 (hval 1 3 v1 rfl rfl) h1
  obtain ⟨a2, n2, c2, xs2, rfl, k2, q2⟩ := open_readsC (hval 2 71 v2 rfl rfl) h2
  obtain ⟨a3, n3, c3, xs3, rfl, k3⟩ := open_reads (hval 3 71 v3 rfl rfl) h3
  refine (walk a0 n0 c0 xs0 k0 a1 w1 a2 n2 c2 xs2 k2 q2 a3 n3 c3 xs3 k3).mono fun e W' ⟨he, hb⟩ => ?_
  subst he
  exact ⟨_, rfl, post_law hW' hb rfl rfl rfl rfl rfl (by rw [Try.params5]; exact readable_all (by kernel_rfl))⟩
theorem over : Rows.guideTellsRow.holds Try.pinned (OpenSpec.ofChange Rows.guideTellsSpec) :=
  OpenClaim.holds_of_wide 5 Try.f5 rfl rfl rfl rfl rfl rfl rfl ⟨rfl, rfl, rfl, rfl, rfl⟩ rfl rfl rfl rfl rfl (by kernel_rfl) Try.func5 (by kernel_rfl)
    (of_decide_eq_true (by kernel_rfl)) (by unfold Func.isWrapper; first | (rw [if_pos (by decide +kernel)]; kernel_rfl) | (rw [if_neg (by decide +kernel)]; exact ⟨rfl, rfl⟩))
    (fun os started H enc _ => lifted os started H enc)
theorem proved : Rows.GuideTellsSaid := over
#print axioms proved
end Go.Proofs.Ytkdpfbefdhjmcaa.guideTells
