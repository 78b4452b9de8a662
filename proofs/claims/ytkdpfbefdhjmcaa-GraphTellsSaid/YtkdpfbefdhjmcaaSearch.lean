/- slices.BinarySearchFunc over bans, by graph.order. -/
import Derived.Test.YtkdpfbefdhjmcaaBanned
import Derived.Deep.RegionHeld3
set_option linter.unusedVariables false
set_option linter.unusedSimpArgs false
namespace Go.Proofs.Ytkdpfbefdhjmcaa
open Go.ChangeShapes Go.WideShapes Go.ChangeAt Go.RowKit
set_option maxRecDepth 100000 in
set_option maxHeartbeats 4000000 in
theorem search_any {A : Option Addr} {n c : Nat} {bs : List (Int × Int)} {w : World} (h : ReadsP w A n c bs) (hn : n ≤ 1024) (hr : Rising bs) (a b : Int) :
    Calls Try.prog 51 #[.slice A n c, .agg #[.int .i64 a, .int .i64 b], .func (.func 52) #[] #[]] w fun e w' => ∃ i : Int, e = .returned (.tuple #[.int .i64 i, .bool (decide ((a, b) ∈ bs))]) ∧ Below w.heap.size w w' := by
  have t0 := cell_two_new0 (w := w) (x := .int .i64 a) (y := .int .i64 b) (t := 69) rfl
  have t1 := cell_two_new1 (w := w) (x := .int .i64 a) (y := .int .i64 b) (t := 69) rfl
  have hB := bl_alloc (Below.refl w.heap.size w) (.cells #[.int .i64 a, .int .i64 b] 69)
  have HH := Lib.hid h
  have HR := Lib.hid hr
  clear h hr
  go_enter Try.func51, Try.ntmps51
  go_wp2_with fail
  obtain ⟨W1, hW1⟩ : ∃ W1, W1 = w.alloc (.cells #[.int .i64 a, .int .i64 b] 69) := ⟨_, rfl⟩
  rw [← hW1] at t0 t1 hB ⊢
  have T0 := Lib.hid t0
  have T1 := Lib.hid t1
  have HB := Lib.hid hB
  clear t0 t1 hB hW1
  go_loopg [9, 10] n (fun m v1 v2 wr => ∃ i j : Nat, m = j - i ∧ i ≤ j ∧ j ≤ n ∧ v1 = .int .i64 (i : Nat) ∧ v2 = .int .i64 (j : Nat) ∧ Below W1.heap.size W1 wr ∧ (∀ q, q < i → ordI (bs.getD q (0, 0)) (a, b) < 0) ∧ ∀ q, j ≤ q → q < bs.length → ¬ ordI (bs.getD q (0, 0)) (a, b) < 0)
  case atStart => exact ⟨0, n, rfl, Nat.zero_le _, Nat.le_refl _, rfl, rfl, Below.refl _ _, fun q h => by omega, fun q h1 h2 => by rw [HH.out.len] at h2; omega⟩
  case round =>
    obtain ⟨i, j, hm, hij, hjn, rfl, rfl, hb, hlo, hhi⟩ := hrel
    have HM := Lib.hid hm
    have HBB := Lib.hid hb
    have HLO := Lib.hid hlo
    have HHI := Lib.hid hhi
    have y0 := cell_below T0.out hb
    have y1 := cell_below T1.out hb
    clear hm hb hlo hhi
    by_cases hlt : i < j
    · obtain ⟨mid, hmid⟩ : ∃ mid, mid = (i + j) / 2 := ⟨_, rfl⟩
      have hmI : ((i : Int) + (j : Int)) / 2 = (mid : Int) := by omega
      have h1 : i ≤ mid := by omega
      have h2 : mid < j := by omega
      have h3 : mid < n := by omega
      have h4 : (mid : Int) < (n : Int) := by omega
      obtain ⟨B, o, rfl, hc⟩ := HH.out.cell (by omega)
      have hcm := hc mid h3
      obtain ⟨x, hx⟩ : ∃ x, x = bs.getD mid (0, 0) := ⟨_, rfl⟩
      rw [← hx] at hcm
      have z0 := cell_below hcm.1 (HB.out.trans (HBB.out.mono HB.out.size))
      have z1 := cell_below hcm.2 (HB.out.trans (HBB.out.mono HB.out.size))
      obtain ⟨z, hz⟩ : ∃ z, z = ordI x (a, b) := ⟨_, rfl⟩
      have HX := Lib.hid hx
      have HZ := Lib.hid hz
      have m0 : (0 : Int) ≤ (mid : Int) := by omega
      clear hc hcm hx hz hmid
      by_cases hneg : z < 0
      · have hn1 : decide (z < 0) = true := decide_eq_true hneg
        go_wp2_with fail
        go_still_tail 6, (by kernel_rfl)
        change wpList _ _ _ _ _ (World.drew _)
        go_wp2_with fail
        refine (order_any x (a, b) _).mono ?_
        rw [← HZ.out]
        rintro e w2 ⟨rfl, hb2⟩
        have HB2 := Lib.hid hb2
        clear hb2
        go_wp2_with fail
        go_roundg (j - (mid + 1))
        case measure => have := HM.out; omega
        case rel =>
          refine ⟨mid + 1, j, rfl, by omega, hjn, by go_num, rfl, bl_then (bl_drew HBB.out) HB2.out, fun q hq => ?_, HHI.out⟩
          by_cases e : q = mid
          · subst e; rw [← HX.out, ← HZ.out]; exact hneg
          · have hrz := HR.out q mid (by omega) (by rw [HH.out.len]; exact h3)
            rw [← HX.out] at hrz
            have hz2 := HZ.out
            rw [hz2] at hneg
            rw [ordI_neg_iff] at hneg hrz ⊢
            dsimp only at hneg ⊢
            omega
      · have hn1 : decide (z < 0) = false := decide_eq_false hneg
        go_wp2_with fail
        go_still_tail 6, (by kernel_rfl)
        change wpList _ _ _ _ _ (World.drew _)
        go_wp2_with fail
        refine (order_any x (a, b) _).mono ?_
        rw [← HZ.out]
        rintro e w2 ⟨rfl, hb2⟩
        have HB2 := Lib.hid hb2
        clear hb2
        go_wp2_with fail
        go_roundg (mid - i)
        case measure => have := HM.out; omega
        case rel =>
          refine ⟨i, mid, rfl, h1, by omega, rfl, rfl, bl_then (bl_drew HBB.out) HB2.out, HLO.out, fun q hq hql => ?_⟩
          by_cases e : q = mid
          · subst e; rw [← HX.out, ← HZ.out]; exact hneg
          · have hrz := HR.out mid q (by omega) hql
            rw [← HX.out] at hrz
            have hz2 := HZ.out
            have hneg2 : ¬ ordI x (a, b) < 0 := by rw [← hz2]; omega
            suffices hs : ¬ ordI (bs.getD q (0, 0)) (a, b) < 0 by omega
            intro hq2
            rw [ordI_neg_iff] at hneg2 hrz hq2
            dsimp only at hneg2 hq2
            omega
    · have hje : j = i := by omega
      subst hje
      have hfin := found_iff (bs := bs) (t := (a, b)) HLO.out HHI.out HR.out
      rw [HH.out.len] at hfin
      have HF := Lib.hid hfin
      clear hfin
      by_cases hin : j < n
      · obtain ⟨B, o, rfl, hc⟩ := HH.out.cell (by omega)
        have hcm := hc j hin
        obtain ⟨x, hx⟩ : ∃ x, x = bs.getD j (0, 0) := ⟨_, rfl⟩
        rw [← hx] at hcm
        have z0 := cell_below hcm.1 (HB.out.trans (HBB.out.mono HB.out.size))
        have z1 := cell_below hcm.2 (HB.out.trans (HBB.out.mono HB.out.size))
        obtain ⟨z, hz⟩ : ∃ z, z = ordI x (a, b) := ⟨_, rfl⟩
        have h4 : (j : Int) < (n : Int) := by omega
        have hv : (z == 0) = decide ((a, b) ∈ bs) := by
          rw [← HF.out, ← hx, ← hz, decide_eq_true hin, Bool.true_and]; rfl
        have HZ := Lib.hid hz
        have HV := Lib.hid hv
        clear hc hcm hx hz hv
        go_wp2_with fail
        have HS : Hid (∀ w', Below wr.heap.size wr w' → w'.cell? ⟨B, o + j * 2, none⟩ = some (.int .i64 x.1) ∧ w'.cell? ⟨B, o + j * 2 + 1, none⟩ = some (.int .i64 x.2) ∧ w'.cell? ⟨w.heap.size, 0, none⟩ = some (.int .i64 a) ∧ w'.cell? ⟨w.heap.size, 1, none⟩ = some (.int .i64 b)) :=
          Lib.hid fun w' h => ⟨cell_below z0 h, cell_below z1 h, cell_below y0 h, cell_below y1 h⟩
        have K0 : Hid (Below wr.heap.size wr wr.drew) := Lib.hid (bl_drew (Below.refl _ _))
        go_region_held3 (fun w' => w'.cell? ⟨B, o + j * 2, none⟩ = some (.int .i64 x.1) ∧ w'.cell? ⟨B, o + j * 2 + 1, none⟩ = some (.int .i64 x.2) ∧ w'.cell? ⟨w.heap.size, 0, none⟩ = some (.int .i64 a) ∧ w'.cell? ⟨w.heap.size, 1, none⟩ = some (.int .i64 b))
          (first | exact HS.out _ K0.out | exact HS.out _ K1.out)
          (first
            | (go_at_call 52
               refine (order_any x (a, b) _).mono ?_
               rw [← HZ.out]
               rintro e w2 ⟨rfl, hb2⟩
               have K1 : Hid (Below wr.heap.size wr w2) := Lib.hid (bl_then K0.out hb2)
               clear hb2))
        all_goals
          go_wp2_with fail
          go_ret2
          refine ⟨(j : Int), ?_, HB.out.trans ((HBB.out.trans (K1.out.mono HBB.out.size)).mono HB.out.size)⟩
          show Ending.returned (.tuple #[.int .i64 (j : Int), .bool (z == 0)]) = _
          rw [HV.out]
      · have hd : decide ((a, b) ∈ bs) = false := by rw [← HF.out, decide_eq_false hin]; rfl
        have HD := Lib.hid hd
        have hdd : decide ((j : Int) < (n : Int)) = false := decide_eq_false (by omega)
        clear hd
        go_wp2_with fail
        go_quiet (fail)
        go_wp2_with fail
        go_ret2
        refine ⟨(j : Int), ?_, HB.out.trans (Below.mono ?_ HB.out.size)⟩
        · rw [HD.out]; rfl
        · first | exact bl_drewN HBB.out _ | exact bl_drew HBB.out | exact HBB.out
set_option maxRecDepth 100000 in
set_option maxHeartbeats 2000000 in
theorem banned_at {w : World} {B E p : Nat} {ns bs : List (Int × Int)} {es : List (Int × Int × Int)} (h : GraphAt w B E p ns es bs) (a b : Int) : Calls Try.prog 26 #[.pointer (some ⟨p, 0, none⟩), .int .i64 a, .int .i64 b] w fun e w' =>
    e = .returned (.bool (decide ((a, b) ∈ bs))) ∧ Below w.heap.size w w' := by
  obtain ⟨d, hd⟩ := h
  obtain ⟨_, ⟨s1, s2, s3, s4⟩, _, _⟩ := mayB_parts hd.ok
  have g2 := hd.g2
  have HB := Lib.hid hd.rB
  have HR := Lib.hid (rising_of hd.ok)
  clear hd
  go_enter Try.func26, Try.ntmps26
  go_wp2_with fail
  refine (search_any HB.out s4 HR.out a b).mono ?_
  rintro e w2 ⟨i, rfl, hb⟩
  have HB2 := Lib.hid hb
  clear hb
  go_wp2_with fail
  go_ret
  exact ⟨rfl, HB2.out⟩
set_option maxHeartbeats 1000000 in
theorem banned_nil (a b : Int) (w : World) : Calls Try.prog 26 #[.pointer none, .int .i64 a, .int .i64 b] w fun e w' => e = .returned (.bool false) ∧ w = w' := by
  go_enter Try.func26, Try.ntmps26
  go_wp2_with fail
  go_ret
  exact ⟨rfl, rfl⟩
end Go.Proofs.Ytkdpfbefdhjmcaa
