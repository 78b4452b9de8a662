/- The town's number at a place. -/
import Derived.Test.YtkdpfbefdhjmcaaOrder
import Derived.Deep.QuietTactic
set_option linter.unusedVariables false
set_option linter.unusedSimpArgs false
namespace Go.Proofs.Ytkdpfbefdhjmcaa
open Go.ChangeShapes Go.WideShapes Go.ChangeAt Go.RowKit
theorem round24_still {k n : Int} (hk : (Lit.int .i64 k).wf = true) (hn : 0 < n) (hn2 : n ≤ 4611686018427387904) (w : World) :
    Calls Try.prog 56 #[.int .i64 k, .int .i64 n] w fun e w' => e = .returned (.int .i64 (k % n)) ∧ w' = w := (round24_any hk hn hn2 w).mono fun e w' h => ⟨h.1, h.2.symm⟩
set_option maxRecDepth 100000 in
set_option maxHeartbeats 4000000 in
theorem at_drew {A : Option Addr} {n c : Nat} {xs : List Int} {w : World} (h : ReadsI w A n c xs) {k : Nat} (hk : k ≤ 1000000) {m : Int} (hm : 0 < m) (hm2 : m ≤ 4611686018427387904) :
    Calls Try.prog 68 #[.slice A n c, .int .i64 (k : Nat), .int .i64 m] w fun e w' => e = .returned (.int .i64 (atV xs k m)) ∧ ∃ q, w' = w.drewN q := by
  by_cases h0 : n = 0
  · subst h0
    refine (at_nil A c k m w).mono ?_
    rintro e w' ⟨rfl, rfl⟩
    refine ⟨?_, 0, rfl⟩
    unfold atV; rw [if_pos h.len]
  · have hsm := h.small
    unfold maxLen at hsm
    obtain ⟨b, o, rfl, hc⟩ := h.cell (by omega)
    have hkn : k % n < n := Nat.mod_lt _ (by omega)
    have hcell := hc _ hkn
    have hwf := wf_bd (getD_wf h.wf (k % n))
    obtain ⟨z, hz⟩ : ∃ z, z = xs.getD (k % n) 0 := ⟨_, rfl⟩
    rw [← hz] at hcell hwf
    have hdiv : k / n ≤ k := Nat.div_le_self _ _
    obtain ⟨i, hi⟩ : ∃ i, i = k % n := ⟨_, rfl⟩
    rw [← hi] at hkn hcell
    obtain ⟨d, hd⟩ : ∃ d, d = k / n := ⟨_, rfl⟩
    rw [← hd] at hdiv
    have q1 : ((k : Int)).tmod (n : Int) = (i : Int) := by rw [hi]; exact Int.ofNat_tmod ..
    have q2 : ((k : Int)).tdiv (n : Int) = (d : Int) := by rw [hd]; exact Int.ofNat_tdiv ..
    have hnz : ((n : Int) == 0) = false := by simp; omega
    have hr : -1000003 < z.tmod 1000003 ∧ z.tmod 1000003 < 1000003 := by
      have := Int.tmod_eq_emod (a := z) (b := 1000003)
      have e0 := Int.emod_nonneg z (show (1000003 : Int) ≠ 0 by omega)
      have e1 := Int.emod_lt_of_pos z (show (0 : Int) < 1000003 by omega)
      split at this <;> omega
    have hv : atV xs k m = (z.tmod 1000003 + (d : Int)) % m := by
      unfold atV
      rw [if_neg (by rw [h.len]; exact h0), h.len, ← hi, ← hd, hz, hi]
    obtain ⟨y, hy⟩ : ∃ y, y = z.tmod 1000003 := ⟨_, rfl⟩
    rw [← hy] at hr hv
    have hy' := hy.symm
    have hwy : (Lit.int .i64 (y + d)).wf = true := wf_of (by omega) (by omega)
    have HWY := Lib.hid hwy
    have HV := Lib.hid hv
    have HM := Lib.hid hm
    have HM2 := Lib.hid hm2
    have t0 : (0 : Int) ≤ (i : Int) := by omega
    have t1 : (i : Int) < (n : Int) := by omega
    have hn0 : ((n : Int) == 0) = false := hnz
    have hsum : IntKind.i64.wrap (y + (d : Int)) = y + (d : Int) := IntWalk.i64_in _ (by omega)
    have v1 : IntKind.i64.wrap (i : Int) = i := IntWalk.i64_in _ (by omega)
    have v2 : IntKind.i64.wrap (d : Int) = d := IntWalk.i64_in _ (by omega)
    have v3 : IntKind.i64.wrap y = y := IntWalk.i64_in _ (by omega)
    clear hc hwf hz hi hd hv hwy hy h hsm hdiv hr hm hm2 hk hkn hn0
    go_enter Try.func68, Try.ntmps68
    go_wp2_with fail
    go_quiet ((go_at_call 56; refine Calls.quiet_of_same (round24_still HWY.out HM.out HM2.out _)))
    go_wp2_with fail
    go_ret
    exact ⟨ret_int HV.out.symm, _, rfl⟩
theorem at_any {A : Option Addr} {n c : Nat} {xs : List Int} {w : World} (h : ReadsI w A n c xs) {k : Nat} (hk : k ≤ 1000000) {m : Int} (hm : 0 < m) (hm2 : m ≤ 4611686018427387904) :
    Calls Try.prog 68 #[.slice A n c, .int .i64 (k : Nat), .int .i64 m] w fun e w' => e = .returned (.int .i64 (atV xs k m)) ∧ Below w.heap.size w w' :=
  (at_drew h hk hm hm2).mono fun e w' ⟨he, q, hq⟩ => ⟨he, by rw [hq]; exact bl_drewN (Below.refl _ _) _⟩
end Go.Proofs.Ytkdpfbefdhjmcaa
