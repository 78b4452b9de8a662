/- Bans: Banned, Search, one behind the other. -/
import Derived.Test.YtjopiefojicblaaGraphs
import Derived.StillTailTactics
import Derived.BigQuiet
import Derived.Deep.RegionHeld3
/- graph.Banned: the search in the bans. -/
set_option linter.unusedVariables false
set_option linter.unusedSimpArgs false
namespace Go.Proofs.Ytjopiefojicblaa
open Go.ChangeShapes Go.WideShapes Go.ChangeAt Go.RowKit
theorem ordI_neg_iff (x y : Int × Int) : ordI x y < 0 ↔ (x.1 < y.1 ∨ (x.1 = y.1 ∧ x.2 < y.2)) := by
  unfold ordI orI cmpI
  by_cases h1 : x.1 < y.1
  · simp [h1]
  · by_cases h2 : y.1 < x.1
    · rw [if_neg h1, if_pos h2]; simp; omega
    · rw [if_neg h1, if_neg h2, if_pos rfl]
      by_cases h3 : x.2 < y.2
      · rw [if_pos h3]; simp; omega
      · rw [if_neg h3]; split <;> simp <;> omega
theorem ordI_zero_iff (x y : Int × Int) : ordI x y = 0 ↔ x = y := by
  obtain ⟨a, b⟩ := x
  obtain ⟨c, d⟩ := y
  unfold ordI orI cmpI
  simp only [Prod.mk.injEq]
  by_cases h1 : a < c
  · rw [if_pos h1]; simp; omega
  · by_cases h2 : c < a
    · rw [if_neg h1, if_pos h2]; simp; omega
    · rw [if_neg h1, if_neg h2, if_pos rfl]
      by_cases h3 : b < d
      · rw [if_pos h3]; simp; omega
      · rw [if_neg h3]; split <;> simp <;> omega
/-- bans that rise -/
def Rising (bs : List (Int × Int)) : Prop := ∀ q r, q < r → r < bs.length → ordI (bs.getD q (0, 0)) (bs.getD r (0, 0)) < 0
theorem rising_of {ns bs : List (Int × Int)} {es : List (Int × Int × Int)} (h : mayB ns es bs = true) : Rising bs := by
  unfold mayB at h
  simp only [Bool.and_eq_true] at h
  have h4 := h.2
  have step : ∀ i, 0 < i → i < bs.length → ordI (bs.getD (i - 1) (0, 0)) (bs.getD i (0, 0)) < 0 := by
    intro i h0 hi
    have := List.all_eq_true.1 h4 i (List.mem_range.2 hi)
    unfold banOk at this
    simp only [Bool.and_eq_true, Bool.or_eq_true, decide_eq_true_eq] at this
    rcases this.2 with h | h
    · omega
    · exact h
  intro q r hqr hr
  induction r with
  | zero => omega
  | succ r ih =>
    have hs := step (r + 1) (by omega) hr
    simp only [Nat.add_sub_cancel] at hs
    rcases Nat.lt_or_ge q r with h1 | h1
    · have h2 := ih h1 (by omega)
      rw [ordI_neg_iff] at *
      omega
    · rw [show q = r by omega]; exact hs
theorem found_iff {bs : List (Int × Int)} {t : Int × Int} {i : Nat} (hlo : ∀ q, q < i → ordI (bs.getD q (0, 0)) t < 0) (hhi : ∀ q, i ≤ q → q < bs.length → ¬ ordI (bs.getD q (0, 0)) t < 0) (hr : Rising bs) :
    (decide (i < bs.length) && decide (ordI (bs.getD i (0, 0)) t = 0)) = decide (t ∈ bs) := by
  rw [Bool.eq_iff_iff]
  simp only [Bool.and_eq_true, decide_eq_true_eq]
  constructor
  · rintro ⟨h1, h2⟩
    rw [ordI_zero_iff] at h2
    rw [← h2, List.getD_eq_getElem?_getD, List.getElem?_eq_getElem h1]
    exact List.getElem_mem h1
  · intro hm
    obtain ⟨q, hq, he⟩ := List.getElem_of_mem hm
    have e : bs.getD q (0, 0) = t := by rw [List.getD_eq_getElem?_getD, List.getElem?_eq_getElem hq]; exact he
    have h0 : ordI (bs.getD q (0, 0)) t = 0 := by rw [ordI_zero_iff]; exact e
    rcases Nat.lt_trichotomy q i with h1 | h1 | h1
    · have := hlo q h1; omega
    · subst h1; exact ⟨hq, h0⟩
    · have h2 := hr i q h1 hq
      rw [e] at h2
      exact absurd h2 (hhi i (Nat.le_refl _) (by omega))
end Go.Proofs.Ytjopiefojicblaa
/- slices.BinarySearchFunc over bans, by graph.order. -/
set_option linter.unusedVariables false
set_option linter.unusedSimpArgs false
namespace Go.Proofs.Ytjopiefojicblaa
open Go.ChangeShapes Go.WideShapes Go.ChangeAt Go.RowKit
set_option maxRecDepth 100000 in
set_option maxHeartbeats 4000000 in
theorem search_any {A : Option Addr} {n c : Nat} {bs : List (Int × Int)} {w : World} (h : ReadsP w A n c bs) (hn : n ≤ 1024) (hr : Rising bs) (a b : Int) :
    Calls Try.prog 83 #[.slice A n c, .agg #[.int .i64 a, .int .i64 b], .func (.func 82) #[] #[]] w fun e w' => ∃ i : Int, e = .returned (.tuple #[.int .i64 i, .bool (decide ((a, b) ∈ bs))]) ∧ Below w.heap.size w w' := by
  have t0 := cell_two_new0 (w := w) (x := .int .i64 a) (y := .int .i64 b) (t := 96) rfl
  have t1 := cell_two_new1 (w := w) (x := .int .i64 a) (y := .int .i64 b) (t := 96) rfl
  have hB := bl_alloc (Below.refl w.heap.size w) (.cells #[.int .i64 a, .int .i64 b] 96)
  have HH := Lib.hid h
  have HR := Lib.hid hr
  clear h hr
  go_enter Try.func83, Try.ntmps83
  go_wp2_with fail
  obtain ⟨W1, hW1⟩ : ∃ W1, W1 = w.alloc (.cells #[.int .i64 a, .int .i64 b] 96) := ⟨_, rfl⟩
  rw [← hW1] at t0 t1 hB ⊢
  have T0 := Lib.hid t0
  have T1 := Lib.hid t1
  have HB := Lib.hid hB
  clear t0 t1 hB hW1
  go_loopg [9, 10] n (fun m v1 v2 wr => ∃ i j : Nat, m = j - i ∧ i ≤ j ∧ j ≤ n ∧ v1 = .int .i64 (i : Nat) ∧ v2 = .int .i64 (j : Nat) ∧ Below W1.heap.size W1 wr ∧ (∀ q, q < i → ordI (bs.getD q (0, 0)) (a, b) < 0) ∧ ∀ q, j ≤ q → q < bs.length → ¬ ordI (bs.getD q (0, 0)) (a, b) < 0)
  case atStart => exact ⟨0, n, rfl, Nat.zero_le _, Nat.le_refl _, rfl, rfl, Below.refl _ _, fun q h => by omega, fun q h1 h2 => by rw [HH.out.len] at h2; omega⟩
  case round =>
    obtain ⟨i, j, hm, hij, hjn, rfl, rfl, hb, hlo, hhi⟩ := hrel
    have HM := Lib.hid hm
    have HBB := Lib.hid hb
    have HLO := Lib.hid hlo
    have HHI := Lib.hid hhi
    have y0 := cell_below T0.out hb
    have y1 := cell_below T1.out hb
    clear hm hb hlo hhi
    by_cases hlt : i < j
    · obtain ⟨mid, hmid⟩ : ∃ mid, mid = (i + j) / 2 := ⟨_, rfl⟩
      have hmI : ((i : Int) + (j : Int)) / 2 = (mid : Int) := by omega
      have h1 : i ≤ mid := by omega
      have h2 : mid < j := by omega
      have h3 : mid < n := by omega
      have h4 : (mid : Int) < (n : Int) := by omega
      obtain ⟨B, o, rfl, hc⟩ := HH.out.cell (by omega)
      have hcm := hc mid h3
      obtain ⟨x, hx⟩ : ∃ x, x = bs.getD mid (0, 0) := ⟨_, rfl⟩
      rw [← hx] at hcm
      have z0 := cell_below hcm.1 (HB.out.trans (HBB.out.mono HB.out.size))
      have z1 := cell_below hcm.2 (HB.out.trans (HBB.out.mono HB.out.size))
      obtain ⟨z, hz⟩ : ∃ z, z = ordI x (a, b) := ⟨_, rfl⟩
      have HX := Lib.hid hx
      have HZ := Lib.hid hz
      have m0 : (0 : Int) ≤ (mid : Int) := by omega
      clear hc hcm hx hz hmid
      by_cases hneg : z < 0
      · have hn1 : decide (z < 0) = true := decide_eq_true hneg
        go_wp2_with fail
        go_still_tail 6, (by kernel_rfl)
        change wpList _ _ _ _ _ (World.drew _)
        go_wp2_with fail
        refine (order_any x (a, b) _).mono ?_
        rw [← HZ.out]
        rintro e w2 ⟨rfl, hb2⟩
        have HB2 := Lib.hid hb2
        clear hb2
        go_wp2_with fail
        go_roundg (j - (mid + 1))
        case measure => have := HM.out; omega
        case rel =>
          refine ⟨mid + 1, j, rfl, by omega, hjn, by go_num, rfl, bl_then (bl_drew HBB.out) HB2.out, fun q hq => ?_, HHI.out⟩
          by_cases e : q = mid
          · subst e; rw [← HX.out, ← HZ.out]; exact hneg
          · have hrz := HR.out q mid (by omega) (by rw [HH.out.len]; exact h3)
            rw [← HX.out] at hrz
            have hz2 := HZ.out
            rw [hz2] at hneg
            rw [ordI_neg_iff] at hneg hrz ⊢
            dsimp only at hneg ⊢
            omega
      · have hn1 : decide (z < 0) = false := decide_eq_false hneg
        go_wp2_with fail
        go_still_tail 6, (by kernel_rfl)
        change wpList _ _ _ _ _ (World.drew _)
        go_wp2_with fail
        refine (order_any x (a, b) _).mono ?_
        rw [← HZ.out]
        rintro e w2 ⟨rfl, hb2⟩
        have HB2 := Lib.hid hb2
        clear hb2
        go_wp2_with fail
        go_roundg (mid - i)
        case measure => have := HM.out; omega
        case rel =>
          refine ⟨i, mid, rfl, h1, by omega, rfl, rfl, bl_then (bl_drew HBB.out) HB2.out, HLO.out, fun q hq hql => ?_⟩
          by_cases e : q = mid
          · subst e; rw [← HX.out, ← HZ.out]; exact hneg
          · have hrz := HR.out mid q (by omega) hql
            rw [← HX.out] at hrz
            have hz2 := HZ.out
            have hneg2 : ¬ ordI x (a, b) < 0 := by rw [← hz2]; omega
            suffices hs : ¬ ordI (bs.getD q (0, 0)) (a, b) < 0 by omega
            intro hq2
            rw [ordI_neg_iff] at hneg2 hrz hq2
            dsimp only at hneg2 hq2
            omega
    · have hje : j = i := by omega
      subst hje
      have hfin := found_iff (bs := bs) (t := (a, b)) HLO.out HHI.out HR.out
      rw [HH.out.len] at hfin
      have HF := Lib.hid hfin
      clear hfin
      by_cases hin : j < n
      · obtain ⟨B, o, rfl, hc⟩ := HH.out.cell (by omega)
        have hcm := hc j hin
        obtain ⟨x, hx⟩ : ∃ x, x = bs.getD j (0, 0) := ⟨_, rfl⟩
        rw [← hx] at hcm
        have z0 := cell_below hcm.1 (HB.out.trans (HBB.out.mono HB.out.size))
        have z1 := cell_below hcm.2 (HB.out.trans (HBB.out.mono HB.out.size))
        obtain ⟨z, hz⟩ : ∃ z, z = ordI x (a, b) := ⟨_, rfl⟩
        have h4 : (j : Int) < (n : Int) := by omega
        have hv : (z == 0) = decide ((a, b) ∈ bs) := by
          rw [← HF.out, ← hx, ← hz, decide_eq_true hin, Bool.true_and]; rfl
        have HZ := Lib.hid hz
        have HV := Lib.hid hv
        clear hc hcm hx hz hv
        go_wp2_with fail
        have HS : Hid (∀ w', Below wr.heap.size wr w' → w'.cell? ⟨B, o + j * 2, none⟩ = some (.int .i64 x.1) ∧ w'.cell? ⟨B, o + j * 2 + 1, none⟩ = some (.int .i64 x.2) ∧ w'.cell? ⟨w.heap.size, 0, none⟩ = some (.int .i64 a) ∧ w'.cell? ⟨w.heap.size, 1, none⟩ = some (.int .i64 b)) :=
          Lib.hid fun w' h => ⟨cell_below z0 h, cell_below z1 h, cell_below y0 h, cell_below y1 h⟩
        have K0 : Hid (Below wr.heap.size wr wr.drew) := Lib.hid (bl_drew (Below.refl _ _))
        go_region_held3 (fun w' => w'.cell? ⟨B, o + j * 2, none⟩ = some (.int .i64 x.1) ∧ w'.cell? ⟨B, o + j * 2 + 1, none⟩ = some (.int .i64 x.2) ∧ w'.cell? ⟨w.heap.size, 0, none⟩ = some (.int .i64 a) ∧ w'.cell? ⟨w.heap.size, 1, none⟩ = some (.int .i64 b))
          (first | exact HS.out _ K0.out | exact HS.out _ K1.out)
          (first
            | (go_at_call 82
               refine (order_any x (a, b) _).mono ?_
               rw [← HZ.out]
               rintro e w2 ⟨rfl, hb2⟩
               have K1 : Hid (Below wr.heap.size wr w2) := Lib.hid (bl_then K0.out hb2)
               clear hb2))
        all_goals
          go_wp2_with fail
          go_ret2
          refine ⟨(j : Int), ?_, HB.out.trans ((HBB.out.trans (K1.out.mono HBB.out.size)).mono HB.out.size)⟩
          show Ending.returned (.tuple #[.int .i64 (j : Int), .bool (z == 0)]) = _
          rw [HV.out]
      · have hd : decide ((a, b) ∈ bs) = false := by rw [← HF.out, decide_eq_false hin]; rfl
        have HD := Lib.hid hd
        have hdd : decide ((j : Int) < (n : Int)) = false := decide_eq_false (by omega)
        clear hd
        go_wp2_with fail
        go_quiet (fail)
        go_wp2_with fail
        go_ret2
        refine ⟨(j : Int), ?_, HB.out.trans (Below.mono ?_ HB.out.size)⟩
        · rw [HD.out]; rfl
        · first | exact bl_drewN HBB.out _ | exact bl_drew HBB.out | exact HBB.out
set_option maxRecDepth 100000 in
set_option maxHeartbeats 2000000 in
theorem banned_at {w : World} {B E p : Nat} {ns bs : List (Int × Int)} {es : List (Int × Int × Int)} (h : GraphAt w B E p ns es bs) (a b : Int) : Calls Try.prog 74 #[.pointer (some ⟨p, 0, none⟩), .int .i64 a, .int .i64 b] w fun e w' =>
    e = .returned (.bool (decide ((a, b) ∈ bs))) ∧ Below w.heap.size w w' := by
  obtain ⟨d, hd⟩ := h
  obtain ⟨_, ⟨s1, s2, s3, s4⟩, _, _⟩ := mayB_parts hd.ok
  have g2 := hd.g2
  have HB := Lib.hid hd.rB
  have HR := Lib.hid (rising_of hd.ok)
  clear hd
  go_enter Try.func74, Try.ntmps74
  go_wp2_with fail
  refine (search_any HB.out s4 HR.out a b).mono ?_
  rintro e w2 ⟨i, rfl, hb⟩
  have HB2 := Lib.hid hb
  clear hb
  go_wp2_with fail
  go_ret
  exact ⟨rfl, HB2.out⟩
set_option maxHeartbeats 1000000 in
theorem banned_nil (a b : Int) (w : World) : Calls Try.prog 74 #[.pointer none, .int .i64 a, .int .i64 b] w fun e w' => e = .returned (.bool false) ∧ w = w' := by
  go_enter Try.func74, Try.ntmps74
  go_wp2_with fail
  go_ret
  exact ⟨rfl, rfl⟩
end Go.Proofs.Ytjopiefojicblaa
