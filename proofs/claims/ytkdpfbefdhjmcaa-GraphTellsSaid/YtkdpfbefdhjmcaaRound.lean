/- milepostalike.Round: a number from 0 to ahead of n. -/
import Derived.Test.YtkdpfbefdhjmcaaKit
set_option linter.unusedVariables false
set_option linter.unusedSimpArgs false
namespace Go.Proofs.Ytkdpfbefdhjmcaa
open Go.RowKit
theorem wf_bd {k : Int} (h : (Lit.int .i64 k).wf = true) : -9223372036854775808 ≤ k ∧ k ≤ 9223372036854775807 := by
  simp [Lit.wf, IntKind.min, IntKind.max, IntKind.signed, IntKind.bits] at h; omega
theorem wf_of {k : Int} (h0 : -9223372036854775808 ≤ k) (h1 : k ≤ 9223372036854775807) : (Lit.int .i64 k).wf = true := by
  simp [Lit.wf, IntKind.min, IntKind.max, IntKind.signed, IntKind.bits]; omega
set_option maxHeartbeats 1000000 in
theorem round_any {k n : Int} (hk : (Lit.int .i64 k).wf = true) (hn : 0 < n) (hn2 : n ≤ 4611686018427387904) (w : World) :
    Calls Try.prog 30 #[.int .i64 k, .int .i64 n] w fun e w' => e = .returned (.int .i64 (k % n)) ∧ w = w' := by
  have hb := wf_bd hk
  have he0 := Int.emod_nonneg k (show n ≠ 0 by omega)
  have he1 := Int.emod_lt_of_pos k hn
  have ht := Int.tmod_eq_emod (a := k) (b := n)
  have hnz : (n == 0) = false := by simp; omega
  by_cases h : 0 ≤ k ∨ n ∣ k
  · rw [if_pos h] at ht
    have r1 : 0 ≤ k.tmod n := by omega
    have r2 : k.tmod n ≤ 4611686018427387904 := by omega
    have HT := Lib.hid ht
    clear ht h he0 he1 hk
    go_enter Try.func30, Try.ntmps30
    go_wp2
    go_ret
    exact ⟨ret_int (by have := HT.out; omega), rfl⟩
  · rw [if_neg h] at ht
    have r1 : k.tmod n < 0 := by omega
    have r2 : -4611686018427387904 ≤ k.tmod n := by omega
    have HT : Hid (k.tmod n + n = k % n) := Lib.hid (by omega)
    clear ht h he0 he1 hk
    go_enter Try.func30, Try.ntmps30
    go_wp2
    go_ret
    exact ⟨ret_int HT.out, rfl⟩
end Go.Proofs.Ytkdpfbefdhjmcaa
