/- Which of two rows comes first: the program's and the document's. -/
import Derived.Test.YtkkaidliocadnaaWalkAt
import Derived.Test.YtkkaidliocadnaaOrder
import Derived.BigQuiet
set_option linter.unusedVariables false
set_option linter.unusedSimpArgs false
namespace Go.Proofs.Ytkkaidliocadnaa
open Go.ChangeShapes Go.WideShapes Go.ChangeAt Go.RowKit
set_option maxRecDepth 100000 in
set_option maxHeartbeats 8000000 in
theorem compare_rows {w : World} {A1 A2 : Option Addr} {n1 c1 n2 c2 : Nat} {xs ys : List Int} (h1 : ReadsI w A1 n1 c1 xs) (h2 : ReadsI w A2 n2 c2 ys) :
    Calls Try.prog 42 #[.slice A1 n1 c1, .slice A2 n2 c2] w fun e w' => e = .returned (.int .i64 (cmpL xs ys)) ∧ w = w' := by
  have m1 := h1.small
  have m2 := h2.small
  unfold maxLen at m1 m2
  have g1 : n1 ≤ 9223372036854775807 := by omega
  have g2 : n2 ≤ 9223372036854775807 := by omega
  have L1 := Lib.hid h1.len
  have L2 := Lib.hid h2.len
  have R1 := Lib.hid h1
  have R2 := Lib.hid h2
  clear h1 h2 m1 m2
  go_enter Try.func42, Try.ntmps42
  go_wp2_with fail
  go_loopg [11] n1 (fun M v wr => ∃ k : Nat, M = n1 - k ∧ k ≤ n1 ∧ k ≤ n2 ∧ v = .int .i64 (k : Nat) ∧ cmpL xs ys = cmpL (xs.drop k) (ys.drop k) ∧ wr = w)
  case atStart => exact ⟨0, rfl, Nat.zero_le _, Nat.zero_le _, rfl, by simp, rfl⟩
  case round =>
    obtain ⟨k, hM, hk1, hk2, rfl, hc, rfl⟩ := hrel
    have HM := Lib.hid hM
    have HC := Lib.hid hc
    clear hM hc
    by_cases hlt : k < n1
    · obtain ⟨b, o, rfl, hcell⟩ := R1.out.cell (by omega)
      have d0 := hcell k hlt
      have hx1 : k < xs.length := by rw [L1.out]; exact hlt
      have k0 : (0 : Int) ≤ (k : Int) := by omega
      have k1 : (k : Int) < (n1 : Int) := by omega
      by_cases hlt2 : k < n2
      · obtain ⟨b', o', rfl, hcell'⟩ := R2.out.cell (by omega)
        have d1 := hcell' k hlt2
        have hx2 : k < ys.length := by rw [L2.out]; exact hlt2
        have q1 : (k : Int) < (n2 : Int) := by omega
        have e1 := cmp_lt hx1 hx2
        have e2 := cmp_gt hx1 hx2
        have e3 := cmp_step hx1 hx2
        obtain ⟨x, hx⟩ : ∃ x, x = xs.getD k 0 := ⟨_, rfl⟩
        obtain ⟨y, hy⟩ : ∃ y, y = ys.getD k 0 := ⟨_, rfl⟩
        rw [← hx] at d0 e1 e2 e3
        rw [← hy] at d1 e1 e2 e3
        have E1 := Lib.hid e1
        have E2 := Lib.hid e2
        have E3 := Lib.hid e3
        clear hcell hcell' hx hy e1 e2 e3
        obtain ⟨z, hz⟩ : ∃ z, z = cmpI x y := ⟨_, rfl⟩
        have hcmp := fun w => compare_any x y w
        rw [← hz] at hcmp
        have HCMP := Lib.hid hcmp
        have HZ := Lib.hid hz
        clear hcmp hz
        by_cases hz0 : z = 0
        · have hzb : (z != 0) = false := by simp [hz0]
          have hxy : x = y := by
            have := HZ.out; rw [hz0] at this
            unfold cmpI at this
            split at this
            · omega
            · split at this <;> omega
          have HXY := Lib.hid hxy
          clear hz0 hxy
          go_wp2_with fail
          refine (HCMP.out _).mono ?_
          rintro e w' ⟨rfl, rfl⟩
          go_wp2_with fail
          go_roundg (n1 - (k + 1))
          case measure => have := HM.out; omega
          case rel => exact ⟨k + 1, rfl, by omega, by omega, by go_num, HC.out.trans (E3.out HXY.out), rfl⟩
        · have hzb : (z != 0) = true := by simpa using hz0
          have hres : cmpL xs ys = z := by
            rw [HC.out, HZ.out]
            unfold cmpI at *
            by_cases h1 : x < y
            · rw [if_pos h1, E1.out h1]
            · rw [if_neg h1]
              by_cases h2 : y < x
              · rw [if_pos h2, E2.out h2]
              · exfalso; apply hz0; rw [HZ.out, if_neg h1, if_neg h2]
          have HRES := Lib.hid hres
          clear hz0 hres
          go_wp2_with fail
          refine (HCMP.out _).mono ?_
          rintro e w' ⟨rfl, rfl⟩
          go_wp2_with fail
          go_ret
          exact ⟨ret_int HRES.out.symm, rfl⟩
      · have hres : cmpL xs ys = 1 := HC.out.trans (cmp_longer hx1 (by rw [L2.out]; omega))
        have HRES := Lib.hid hres
        clear hcell hres
        go_wp2_with fail
        go_ret
        exact ⟨ret_int HRES.out.symm, rfl⟩
    · have hkn : n1 = k := by omega
      subst hkn
      clear hlt hk1
      by_cases hlt2 : n1 < n2
      · have hres : cmpL xs ys = -1 := HC.out.trans (cmp_shorter (by rw [L1.out]; exact Nat.le_refl _) (by rw [L2.out]; exact hlt2))
        have HRES := Lib.hid hres
        clear hres
        go_wp2_with fail
        go_ret
        exact ⟨ret_int HRES.out.symm, rfl⟩
      · have hres : cmpL xs ys = 0 := HC.out.trans (cmp_same (by rw [L1.out]; exact Nat.le_refl _) (by rw [L2.out]; omega))
        have HRES := Lib.hid hres
        clear hres
        go_wp2_with fail
        go_ret
        exact ⟨ret_int HRES.out.symm, rfl⟩
theorem wcmp_any {w : World} {A1 A2 : Option Addr} {n1 c1 n2 c2 : Nat} {xs ys : List Int} (h1 : ReadsI w A1 n1 c1 xs) (h2 : ReadsI w A2 n2 c2 ys) :
    Calls Try.prog 21 #[.slice A1 n1 c1, .slice A2 n2 c2] w fun e w' => e = .returned (.int .i64 (cmpL xs ys)) ∧ w = w' := by
  have HC := Lib.hid (compare_rows h1 h2)
  clear h1 h2
  go_enter Try.func21, Try.ntmps21
  go_wp2_with fail
  refine HC.out.mono ?_
  rintro e w' ⟨rfl, rfl⟩
  go_wp2_with fail
  go_ret
  exact ⟨rfl, rfl⟩
set_option maxRecDepth 100000 in
set_option maxHeartbeats 8000000 in
theorem cmp4_any {w : World} {A1 A2 : Option Addr} {n1 c1 n2 c2 : Nat} {xs ys : List Int} (h1 : ReadsI w A1 n1 c1 xs) (h2 : ReadsI w A2 n2 c2 ys) :
    Calls Try.prog 22 #[.slice A1 n1 c1, .slice A2 n2 c2] w fun e w' => e = .returned (.int .i64 (cmpL xs ys)) ∧ Below w.heap.size w w' := by
  have m1 := h1.small
  have m2 := h2.small
  unfold maxLen at m1 m2
  have g1 : n1 ≤ 9223372036854775807 := by omega
  have g2 : n2 ≤ 9223372036854775807 := by omega
  have L1 := Lib.hid h1.len
  have L2 := Lib.hid h2.len
  have R1 := Lib.hid h1
  have R2 := Lib.hid h2
  clear h1 h2 m1 m2
  go_enter Try.func22, Try.ntmps22
  go_wp2_with fail
  go_loopg [5] n1 (fun M v wr => ∃ k : Nat, M = n1 - k ∧ k ≤ n1 ∧ k ≤ n2 ∧ v = .int .i64 (k : Nat) ∧ cmpL xs ys = cmpL (xs.drop k) (ys.drop k) ∧ Below w.heap.size w wr)
  case atStart => exact ⟨0, rfl, Nat.zero_le _, Nat.zero_le _, rfl, by simp, Below.refl _ _⟩
  case round =>
    obtain ⟨k, hM, hk1, hk2, rfl, hc, hb⟩ := hrel
    have HM := Lib.hid hM
    have HC := Lib.hid hc
    have HB := Lib.hid hb
    clear hM hc hb
    by_cases hlt : k < n1
    · by_cases hlt2 : k < n2
      · obtain ⟨b, o, rfl, hcell⟩ := (R1.out.below HB.out).cell (by omega)
        have d0 := hcell k hlt
        have hx1 : k < xs.length := by rw [L1.out]; exact hlt
        obtain ⟨b', o', rfl, hcell'⟩ := (R2.out.below HB.out).cell (by omega)
        have d1 := hcell' k hlt2
        have hx2 : k < ys.length := by rw [L2.out]; exact hlt2
        have k0 : (0 : Int) ≤ (k : Int) := by omega
        have k1 : (k : Int) < (n1 : Int) := by omega
        have q1 : (k : Int) < (n2 : Int) := by omega
        have e1 := cmp_lt hx1 hx2
        have e2 := cmp_gt hx1 hx2
        have e3 := cmp_step hx1 hx2
        obtain ⟨x, hx⟩ : ∃ x, x = xs.getD k 0 := ⟨_, rfl⟩
        obtain ⟨y, hy⟩ : ∃ y, y = ys.getD k 0 := ⟨_, rfl⟩
        rw [← hx] at d0 e1 e2 e3
        rw [← hy] at d1 e1 e2 e3
        have E1 := Lib.hid e1
        have E2 := Lib.hid e2
        have E3 := Lib.hid e3
        clear hcell hcell' hx hy e1 e2 e3
        by_cases h1 : x < y
        · have hd : decide (x < y) = true := decide_eq_true h1
          have HRES := Lib.hid (HC.out.trans (E1.out h1))
          clear h1
          go_wp2_with fail
          go_quiet (fail)
          go_wp2_with fail
          go_ret
          exact ⟨ret_int HRES.out.symm, bl_drewN HB.out _⟩
        · have hd : decide (x < y) = false := decide_eq_false h1
          by_cases h2 : y < x
          · have hd2 : decide (y < x) = true := decide_eq_true h2
            have HRES := Lib.hid (HC.out.trans (E2.out h2))
            clear h1 h2
            go_wp2_with fail
            go_quiet (fail)
            go_wp2_with fail
            generalize hV : World.drewN wr _ = v1
            have d0' := cell_below d0 (show Below wr.heap.size wr v1 by rw [← hV]; exact bl_drewN (Below.refl _ _) _)
            have d1' := cell_below d1 (show Below wr.heap.size wr v1 by rw [← hV]; exact bl_drewN (Below.refl _ _) _)
            have HBV : Hid (Below w.heap.size w v1) := Lib.hid (by rw [← hV]; exact bl_drewN HB.out _)
            clear hV d0 d1
            go_quiet (fail)
            go_wp2_with fail
            go_ret
            exact ⟨ret_int HRES.out.symm, bl_drewN HBV.out _⟩
          · have hd2 : decide (y < x) = false := decide_eq_false h2
            have HST := Lib.hid (HC.out.trans (E3.out (by omega)))
            clear h1 h2
            go_wp2_with fail
            go_quiet (fail)
            go_wp2_with fail
            generalize hV : World.drewN wr _ = v1
            have d0' := cell_below d0 (show Below wr.heap.size wr v1 by rw [← hV]; exact bl_drewN (Below.refl _ _) _)
            have d1' := cell_below d1 (show Below wr.heap.size wr v1 by rw [← hV]; exact bl_drewN (Below.refl _ _) _)
            have HBV : Hid (Below w.heap.size w v1) := Lib.hid (by rw [← hV]; exact bl_drewN HB.out _)
            clear hV d0 d1
            go_quiet (fail)
            go_wp2_with fail
            go_roundg (n1 - (k + 1))
            case measure => have := HM.out; omega
            case rel => exact ⟨k + 1, rfl, by omega, by omega, by go_num, HST.out, bl_drewN HBV.out _⟩
      · have hx1 : k < xs.length := by rw [L1.out]; exact hlt
        have hres : cmpL xs ys = 1 := HC.out.trans (cmp_longer hx1 (by rw [L2.out]; omega))
        have HRES := Lib.hid hres
        have hn : ¬ n1 < n2 := by omega
        have hn2 : n2 < n1 := by omega
        clear hres hx1
        go_wp2_with fail
        go_ret
        exact ⟨ret_int HRES.out.symm, HB.out⟩
    · have hkn : n1 = k := by omega
      subst hkn
      clear hlt hk1
      by_cases hlt2 : n1 < n2
      · have hres : cmpL xs ys = -1 := HC.out.trans (cmp_shorter (by rw [L1.out]; exact Nat.le_refl _) (by rw [L2.out]; exact hlt2))
        have HRES := Lib.hid hres
        clear hres
        go_wp2_with fail
        go_ret
        exact ⟨ret_int HRES.out.symm, HB.out⟩
      · have hres : cmpL xs ys = 0 := HC.out.trans (cmp_same (by rw [L1.out]; exact Nat.le_refl _) (by rw [L2.out]; omega))
        have HRES := Lib.hid hres
        have hn2 : ¬ n2 < n1 := by omega
        clear hres
        go_wp2_with fail
        go_ret
        exact ⟨ret_int HRES.out.symm, HB.out⟩
end Go.Proofs.Ytkkaidliocadnaa
