/- milepostref1.SameGraph of two graphs that read alike. -/
import Derived.Test.YtkdpfbefdhjmcaaAccess
import Derived.BigQuiet
set_option linter.unusedVariables false
set_option linter.unusedSimpArgs false
namespace Go.Proofs.Ytkdpfbefdhjmcaa
open Go.ChangeShapes Go.WideShapes Go.ChangeAt Go.RowKit
set_option maxRecDepth 100000 in
set_option maxHeartbeats 8000000 in
theorem same_true {A1 A2 A3 B1 B2 B3 : Option Addr} {n1 c1 n2 c2 n3 c3 k1 k2 k3 : Nat} {ns bs : List (Int × Int)} {es : List (Int × Int × Int)} {w : World}
    (r1 : ReadsP w A1 n1 c1 ns) (r2 : ReadsT w A2 n2 c2 es) (r3 : ReadsP w A3 n3 c3 bs) (s1 : ReadsP w B1 n1 k1 ns) (s2 : ReadsT w B2 n2 k2 es) (s3 : ReadsP w B3 n3 k3 bs) :
    Calls Try.prog 20 #[.agg #[.slice A1 n1 c1, .slice A2 n2 c2, .slice A3 n3 c3], .agg #[.slice B1 n1 k1, .slice B2 n2 k2, .slice B3 n3 k3]] w fun e w' => e = .returned (.bool true) ∧ Below w.heap.size w w' := by
  have m1 := r1.small
  have m2 := r2.small
  have m3 := r3.small
  unfold maxLen at m1 m2 m3
  have g1 : n1 ≤ 9223372036854775807 := by omega
  have g2 : n2 ≤ 9223372036854775807 := by omega
  have g3 : n3 ≤ 9223372036854775807 := by omega
  have hb : Below w.heap.size w ((w.alloc (.cells #[.slice A1 n1 c1, .slice A2 n2 c2, .slice A3 n3 c3] 51)).alloc (.cells #[.slice B1 n1 k1, .slice B2 n2 k2, .slice B3 n3 k3] 51)) := bl_alloc (bl_alloc (Below.refl _ _) _) _
  have u1 := fun j v hv => cell_three_new (w := w) (x := .slice A1 n1 c1) (y := .slice A2 n2 c2) (z := .slice A3 n3 c3) (t := 51) j v hv
  have u2 := fun j v hv => cell_three_new (w := w.alloc (.cells #[.slice A1 n1 c1, .slice A2 n2 c2, .slice A3 n3 c3] 51)) (x := .slice B1 n1 k1) (y := .slice B2 n2 k2) (z := .slice B3 n3 k3) (t := 51) j v hv
  simp only [size_alloc] at u2
  have u1' := fun j v hv => cell_below (u1 j v hv) (bl_alloc (Below.refl _ _) (.cells #[.slice B1 n1 k1, .slice B2 n2 k2, .slice B3 n3 k3] 51))
  have a0 := u1' 0 _ rfl
  have a1 := u1' 1 _ rfl
  have a2 := u1' 2 _ rfl
  have b0 := u2 0 _ rfl
  have b1 := u2 1 _ rfl
  have b2 := u2 2 _ rfl
  have HB1 := Lib.hid hb
  have R1 := Lib.hid (r1.below hb)
  have R2 := Lib.hid (r2.below hb)
  have R3 := Lib.hid (r3.below hb)
  have S1 := Lib.hid (s1.below hb)
  have S2 := Lib.hid (s2.below hb)
  have S3 := Lib.hid (s3.below hb)
  clear u1 u2 u1' hb r1 r2 r3 s1 s2 s3 m1 m2 m3
  go_enter Try.func20, Try.ntmps20
  go_wp2_with fail
  obtain ⟨W1, hW1⟩ : ∃ W1, W1 = (w.alloc (.cells #[.slice A1 n1 c1, .slice A2 n2 c2, .slice A3 n3 c3] 51)).alloc (.cells #[.slice B1 n1 k1, .slice B2 n2 k2, .slice B3 n3 k3] 51) := ⟨_, rfl⟩
  rw [← hW1] at a0 a1 a2 b0 b1 b2 HB1 R1 R2 R3 S1 S2 S3 ⊢
  have HS : Hid (∀ w', Below W1.heap.size W1 w' → w'.cell? ⟨w.heap.size, 0, none⟩ = some (.slice A1 n1 c1) ∧ w'.cell? ⟨w.heap.size, 1, none⟩ = some (.slice A2 n2 c2) ∧ w'.cell? ⟨w.heap.size, 2, none⟩ = some (.slice A3 n3 c3) ∧
    w'.cell? ⟨w.heap.size + 1, 0, none⟩ = some (.slice B1 n1 k1) ∧ w'.cell? ⟨w.heap.size + 1, 1, none⟩ = some (.slice B2 n2 k2) ∧ w'.cell? ⟨w.heap.size + 1, 2, none⟩ = some (.slice B3 n3 k3)) :=
    Lib.hid fun w' h => ⟨cell_below a0 h, cell_below a1 h, cell_below a2 h, cell_below b0 h, cell_below b1 h, cell_below b2 h⟩
  have HX : Hid (Below W1.heap.size W1 W1) := Lib.hid (Below.refl _ _)
  clear hW1 a0 a1 a2 b0 b1 b2
  go_loopg [5] n1 (fun M v wr => ∃ k : Nat, M = n1 - k ∧ k ≤ n1 ∧ v = .int .i64 (k : Nat) ∧ Below W1.heap.size W1 wr)
  case atStart => exact ⟨0, rfl, Nat.zero_le _, rfl, HX.out⟩
  case round =>
    obtain ⟨k, hm, hk, rfl, hbr⟩ := hrel
    have HM := Lib.hid hm
    have HX := Lib.hid hbr
    clear hm hbr
    obtain ⟨a0, a1, a2, b0, b1, b2⟩ := HS.out _ HX.out
    by_cases hlt : k < n1
    · obtain ⟨bA, oA, rfl, hcA⟩ := (R1.out.below HX.out).cell (by omega)
      obtain ⟨bB, oB, rfl, hcB⟩ := (S1.out.below HX.out).cell (by omega)
      obtain ⟨d0, d1⟩ := hcA k hlt
      obtain ⟨f0, f1⟩ := hcB k hlt
      obtain ⟨x, hx⟩ : ∃ x, x = ns.getD k (0, 0) := ⟨_, rfl⟩
      rw [← hx] at d0 d1 f0 f1
      obtain ⟨x0, x1⟩ := x
      dsimp only at d0 d1 f0 f1
      have k0 : (0 : Int) ≤ (k : Int) := by omega
      have k1 : (k : Int) < (n1 : Int) := by omega
      clear hcA hcB hx
      go_wp2_with fail
      go_quiet (fail)
      go_wp2_with fail
      go_roundg (n1 - (k + 1))
      case measure => have := HM.out; omega
      case rel => exact ⟨k + 1, rfl, by omega, by go_num, bl_drewN HX.out _⟩
    · have hkn : n1 = k := by omega
      subst hkn
      clear hlt
      go_wp2_with fail
      go_loopg [6] n2 (fun M v wr => ∃ k : Nat, M = n2 - k ∧ k ≤ n2 ∧ v = .int .i64 (k : Nat) ∧ Below W1.heap.size W1 wr)
      case atStart => exact ⟨0, rfl, Nat.zero_le _, rfl, HX.out⟩
      case round =>
        obtain ⟨k, hm, hk, rfl, hbr⟩ := hrel
        have HM := Lib.hid hm
        have HX := Lib.hid hbr
        clear hm hbr
        obtain ⟨a0, a1, a2, b0, b1, b2⟩ := HS.out _ HX.out
        by_cases hlt : k < n2
        · obtain ⟨bA, oA, rfl, hcA⟩ := (R2.out.below HX.out).cell (by omega)
          obtain ⟨bB, oB, rfl, hcB⟩ := (S2.out.below HX.out).cell (by omega)
          obtain ⟨d0, d1, d2⟩ := hcA k hlt
          obtain ⟨f0, f1, f2⟩ := hcB k hlt
          obtain ⟨x, hx⟩ : ∃ x, x = es.getD k (0, 0, 0) := ⟨_, rfl⟩
          rw [← hx] at d0 d1 d2 f0 f1 f2
          obtain ⟨x0, x1, x2⟩ := x
          dsimp only at d0 d1 d2 f0 f1 f2
          have k0 : (0 : Int) ≤ (k : Int) := by omega
          have k1 : (k : Int) < (n2 : Int) := by omega
          clear hcA hcB hx
          go_wp2_with fail
          go_quiet (fail)
          go_wp2_with fail
          go_roundg (n2 - (k + 1))
          case measure => have := HM.out; omega
          case rel => exact ⟨k + 1, rfl, by omega, by go_num, bl_drewN HX.out _⟩
        · have hkn : n2 = k := by omega
          subst hkn
          clear hlt
          go_wp2_with fail
          go_loopg [7] n3 (fun M v wr => ∃ k : Nat, M = n3 - k ∧ k ≤ n3 ∧ v = .int .i64 (k : Nat) ∧ Below W1.heap.size W1 wr)
          case atStart => exact ⟨0, rfl, Nat.zero_le _, rfl, HX.out⟩
          case round =>
            obtain ⟨k, hm, hk, rfl, hbr⟩ := hrel
            have HM := Lib.hid hm
            have HX := Lib.hid hbr
            clear hm hbr
            obtain ⟨a0, a1, a2, b0, b1, b2⟩ := HS.out _ HX.out
            by_cases hlt : k < n3
            · obtain ⟨bA, oA, rfl, hcA⟩ := (R3.out.below HX.out).cell (by omega)
              obtain ⟨bB, oB, rfl, hcB⟩ := (S3.out.below HX.out).cell (by omega)
              obtain ⟨d0, d1⟩ := hcA k hlt
              obtain ⟨f0, f1⟩ := hcB k hlt
              obtain ⟨x, hx⟩ : ∃ x, x = bs.getD k (0, 0) := ⟨_, rfl⟩
              rw [← hx] at d0 d1 f0 f1
              obtain ⟨x0, x1⟩ := x
              dsimp only at d0 d1 f0 f1
              have k0 : (0 : Int) ≤ (k : Int) := by omega
              have k1 : (k : Int) < (n3 : Int) := by omega
              clear hcA hcB hx
              go_wp2_with fail
              go_quiet (fail)
              go_wp2_with fail
              go_roundg (n3 - (k + 1))
              case measure => have := HM.out; omega
              case rel => exact ⟨k + 1, rfl, by omega, by go_num, bl_drewN HX.out _⟩
            · have hkn : n3 = k := by omega
              subst hkn
              clear hlt
              go_wp2_with fail
              go_ret
              exact ⟨rfl, bl_then HB1.out HX.out⟩
end Go.Proofs.Ytkdpfbefdhjmcaa
