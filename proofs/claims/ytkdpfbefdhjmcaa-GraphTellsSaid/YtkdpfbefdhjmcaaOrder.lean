/- The graph's small callees: comparing, the order of bans, bounds, and the town's numbers. -/
import Derived.Test.YtkdpfbefdhjmcaaKit
import Derived.Test.YtkdpfbefdhjmcaaReadsP
import Derived.Test.YtkdpfbefdhjmcaaRound
import Derived.StillTailTactics
import Derived.Deep.LoopGhost
import Derived.BigQuiet
import Derived.Deep.RegionWith
set_option linter.unusedVariables false
set_option linter.unusedSimpArgs false
namespace Go.Proofs.Ytkdpfbefdhjmcaa
open Go.ChangeShapes Go.WideShapes Go.ChangeAt Go.RowKit
def cmpI (a b : Int) : Int := if a < b then -1 else if b < a then 1 else 0
def orI (x y : Int) : Int := if x = 0 then y else x
def ordI (a b : Int × Int) : Int := orI (cmpI a.1 b.1) (cmpI a.2 b.2)
theorem isNaN_any (x : Int) (w : World) : Calls Try.prog 75 #[.int .i64 x] w fun e w' => e = .returned (.bool false) ∧ w = w' := by
  go_enter Try.func75, Try.ntmps75
  go_wp2
  go_ret
  exact ⟨by simp, rfl⟩
theorem compare_any (a b : Int) (w : World) : Calls Try.prog 67 #[.int .i64 a, .int .i64 b] w fun e w' => e = .returned (.int .i64 (cmpI a b)) ∧ w = w' := by
  unfold cmpI
  by_cases h1 : a < b
  · rw [if_pos h1]
    go_enter Try.func67, Try.ntmps67
    go_wp2_with (go_at_call 75; refine (isNaN_any _ _).mono ?_; rintro e w' ⟨rfl, rfl⟩)
    go_ret
    exact ⟨rfl, rfl⟩
  · rw [if_neg h1]
    by_cases h2 : b < a
    · rw [if_pos h2]
      go_enter Try.func67, Try.ntmps67
      go_wp2_with (go_at_call 75; refine (isNaN_any _ _).mono ?_; rintro e w' ⟨rfl, rfl⟩)
      go_ret
      exact ⟨rfl, rfl⟩
    · rw [if_neg h2]
      go_enter Try.func67, Try.ntmps67
      go_wp2_with (go_at_call 75; refine (isNaN_any _ _).mono ?_; rintro e w' ⟨rfl, rfl⟩)
      go_ret
      exact ⟨rfl, rfl⟩
theorem compare_still (a b : Int) (w : World) : Calls Try.prog 67 #[.int .i64 a, .int .i64 b] w fun e w' => e = .returned (.int .i64 (cmpI a b)) ∧ w' = w := (compare_any a b w).mono fun e w' h => ⟨h.1, h.2.symm⟩
theorem within_any (n a b : Int) (w : World) : Calls Try.prog 65 #[.int .i64 n, .int .i64 a, .int .i64 b] w fun e w' => e = .returned (.bool (decide (a ≤ n) && decide (n ≤ b))) ∧ w = w' := by
  by_cases h1 : a ≤ n <;> by_cases h2 : n ≤ b
  all_goals
    go_enter Try.func65, Try.ntmps65
    go_wp2
    go_ret
    exact ⟨by simp [h1, h2], rfl⟩
set_option maxHeartbeats 1000000 in
theorem or_two (x y : Int) (b : Nat) (w : World) (h0 : w.cell? ⟨b, 0, none⟩ = some (.int .i64 x)) (h1 : w.cell? ⟨b, 1, none⟩ = some (.int .i64 y)) :
    Calls Try.prog 66 #[.slice (some ⟨b, 0, none⟩) 2 2] w fun e w' => e = .returned (.int .i64 (orI x y)) ∧ w = w' := by
  unfold orI
  by_cases hx : x = 0
  · rw [if_pos hx]
    subst hx
    by_cases hy : y = 0
    · subst hy
      go_enter Try.func66, Try.ntmps66
      go_wp2
      go_loopg [8] 2 (fun m v wr => ∃ k : Nat, m = 2 - k ∧ k ≤ 2 ∧ v = .int .i64 (k : Nat) ∧ wr = w)
      case atStart => exact ⟨0, rfl, by omega, rfl, rfl⟩
      case round =>
        obtain ⟨k, hm, hk, rfl, rfl⟩ := hrel
        match k, hk with
        | 0, _ =>
          go_wp2
          go_roundg 1
          case measure => omega
          case rel => exact ⟨1, rfl, by omega, by go_num, rfl⟩
        | 1, _ =>
          go_wp2
          go_roundg 0
          case measure => omega
          case rel => exact ⟨2, rfl, by omega, by go_num, rfl⟩
        | 2, _ =>
          go_wp2
          go_ret
          exact ⟨rfl, rfl⟩
    · go_enter Try.func66, Try.ntmps66
      go_wp2
      go_loopg [8] 2 (fun m v wr => ∃ k : Nat, m = 2 - k ∧ k ≤ 1 ∧ v = .int .i64 (k : Nat) ∧ wr = w)
      case atStart => exact ⟨0, rfl, by omega, rfl, rfl⟩
      case round =>
        obtain ⟨k, hm, hk, rfl, rfl⟩ := hrel
        match k, hk with
        | 0, _ =>
          go_wp2
          go_roundg 1
          case measure => omega
          case rel => exact ⟨1, rfl, by omega, by go_num, rfl⟩
        | 1, _ =>
          have hy2 : (y != 0) = true := by simpa using hy
          go_wp2
          go_ret
          exact ⟨rfl, rfl⟩
  · rw [if_neg hx]
    have hx2 : (x != 0) = true := by simpa using hx
    go_enter Try.func66, Try.ntmps66
    go_wp2
    go_loopg [8] 2 (fun m v wr => m = 2 ∧ v = .int .i64 0 ∧ wr = w)
    case atStart => exact ⟨rfl, rfl, rfl⟩
    case round =>
      obtain ⟨hm, rfl, rfl⟩ := hrel
      go_wp2
      go_ret
      exact ⟨rfl, rfl⟩
theorem cmpI_small (a b : Int) : cmpI a b = -1 ∨ cmpI a b = 0 ∨ cmpI a b = 1 := by unfold cmpI; split <;> (try split) <;> simp
theorem cell_two_new0 {w : World} {x y : Value} {t : TypeId} {b : Nat} (h : w.heap.size = b) : (w.alloc (.cells #[x, y] t)).cell? ⟨b, 0, none⟩ = some x := by
  have : (w.alloc (.cells #[x, y] t)).heap[b]? = some (.cells #[x, y] t) := by show (w.heap.push _)[b]? = _; rw [← h]; simp
  unfold World.cell?; simp only [this]; rfl
theorem cell_two_new1 {w : World} {x y : Value} {t : TypeId} {b : Nat} (h : w.heap.size = b) : (w.alloc (.cells #[x, y] t)).cell? ⟨b, 1, none⟩ = some y := by
  have : (w.alloc (.cells #[x, y] t)).heap[b]? = some (.cells #[x, y] t) := by show (w.heap.push _)[b]? = _; rw [← h]; simp
  unfold World.cell?; simp only [this]; rfl
set_option maxRecDepth 100000 in
set_option maxHeartbeats 4000000 in
theorem order_any (a b : Int × Int) (w : World) : Calls Try.prog 52 #[.agg #[.int .i64 a.1, .int .i64 a.2], .agg #[.int .i64 b.1, .int .i64 b.2]] w fun e w' => e = .returned (.int .i64 (ordI a b)) ∧ Below w.heap.size w w' := by
  obtain ⟨a1, a2⟩ := a
  obtain ⟨b1, b2⟩ := b
  unfold ordI
  go_enter Try.func52, Try.ntmps52
  go_wp2_with fail
  have f0 := cell_two_new0 (w := w) (x := .int .i64 a1) (y := .int .i64 a2) (t := 69) rfl
  have f1 := cell_two_new1 (w := w) (x := .int .i64 a1) (y := .int .i64 a2) (t := 69) rfl
  have g0 := cell_two_new0 (w := w.alloc (.cells #[.int .i64 a1, .int .i64 a2] 69)) (x := .int .i64 b1) (y := .int .i64 b2) (t := 69) (b := w.heap.size + 1) (by simp)
  have g1 := cell_two_new1 (w := w.alloc (.cells #[.int .i64 a1, .int .i64 a2] 69)) (x := .int .i64 b1) (y := .int .i64 b2) (t := 69) (b := w.heap.size + 1) (by simp)
  have e0 := (cell_below f0 (bl_alloc (Below.refl _ _) (.cells #[.int .i64 b1, .int .i64 b2] 69)))
  have e1 := (cell_below f1 (bl_alloc (Below.refl _ _) (.cells #[.int .i64 b1, .int .i64 b2] 69)))
  have hb0 : Below w.heap.size w ((w.alloc (.cells #[.int .i64 a1, .int .i64 a2] 69)).alloc (.cells #[.int .i64 b1, .int .i64 b2] 69)) := bl_alloc (bl_alloc (Below.refl _ _) _) _
  clear f0 f1
  generalize hW : (w.alloc (.cells #[.int .i64 a1, .int .i64 a2] 69)).alloc (.cells #[.int .i64 b1, .int .i64 b2] 69) = W0 at *
  have HB0 := Lib.hid hb0
  clear hW hb0
  go_still_tail 10, (by kernel_rfl)
  still_call (compare_still _ _ _)
  repeat still_step
  still_call (compare_still _ _ _)
  repeat still_step
  refine wpStill_nil ?_
  generalize hc1 : cmpI a1 b1 = c1
  generalize hc2 : cmpI a2 b2 = c2
  change wpList _ _ _ _ _ (World.drew _)
  go_wp2_with (go_at_call 66; refine (or_two c1 c2 _ _ ?_ ?_).mono ?_)
  · exact cell_two_new0 rfl
  · exact cell_two_new1 rfl
  rintro e w' ⟨rfl, rfl⟩
  subst hc1 hc2
  go_wp2_with fail
  go_ret
  refine ⟨rfl, ?_⟩
  exact HB0.out.trans (bl_drew (bl_alloc (Below.refl _ _) _) |>.mono HB0.out.size)
set_option maxHeartbeats 1000000 in
theorem round24_any {k n : Int} (hk : (Lit.int .i64 k).wf = true) (hn : 0 < n) (hn2 : n ≤ 4611686018427387904) (w : World) :
    Calls Try.prog 56 #[.int .i64 k, .int .i64 n] w fun e w' => e = .returned (.int .i64 (k % n)) ∧ w = w' := by
  have hb := wf_bd hk
  have he0 := Int.emod_nonneg k (show n ≠ 0 by omega)
  have he1 := Int.emod_lt_of_pos k hn
  have ht := Int.tmod_eq_emod (a := k) (b := n)
  have hnz : (n == 0) = false := by simp; omega
  by_cases h : 0 ≤ k ∨ n ∣ k
  · rw [if_pos h] at ht
    have r1 : 0 ≤ k.tmod n := by omega
    have r2 : k.tmod n ≤ 4611686018427387904 := by omega
    have HT := Lib.hid ht
    clear ht h he0 he1 hk
    go_enter Try.func56, Try.ntmps56
    go_wp2
    go_ret
    exact ⟨ret_int (by have := HT.out; omega), rfl⟩
  · rw [if_neg h] at ht
    have r1 : k.tmod n < 0 := by omega
    have r2 : -4611686018427387904 ≤ k.tmod n := by omega
    have HT : Hid (k.tmod n + n = k % n) := Lib.hid (by omega)
    clear ht h he0 he1 hk
    go_enter Try.func56, Try.ntmps56
    go_wp2
    go_ret
    exact ⟨ret_int HT.out, rfl⟩
/-- the town's number at place k, from 0 to ahead of m -/
def atV (xs : List Int) (k : Nat) (m : Int) : Int := if xs.length = 0 then 0 else ((xs.getD (k % xs.length) 0).tmod 1000003 + ((k / xs.length : Nat) : Int)) % m
theorem atV_nonneg {xs : List Int} {k : Nat} {m : Int} (h : 0 < m) : 0 ≤ atV xs k m := by unfold atV; split; · omega
                                                                                          · exact Int.emod_nonneg _ (by omega)
theorem atV_lt {xs : List Int} {k : Nat} {m : Int} (h : 0 < m) : atV xs k m < m := by unfold atV; split; · omega
                                                                                      · exact Int.emod_lt_of_pos _ h
theorem at_nil (A : Option Addr) (c : Nat) (k m : Int) (w : World) : Calls Try.prog 68 #[.slice A 0 c, .int .i64 k, .int .i64 m] w fun e w' => e = .returned (.int .i64 0) ∧ w = w' := by
  go_enter Try.func68, Try.ntmps68
  go_wp2_with fail
  go_ret
  exact ⟨rfl, rfl⟩
end Go.Proofs.Ytkdpfbefdhjmcaa
