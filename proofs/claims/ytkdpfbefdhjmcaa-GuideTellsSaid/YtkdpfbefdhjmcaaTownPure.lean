/- The town of some numbers, on lists alone. -/
import Derived.Test.YtkdpfbefdhjmcaaTownAt
import Derived.Test.YtkdpfbefdhjmcaaMay
set_option linter.unusedVariables false
set_option linter.unusedSimpArgs false
namespace Go.Proofs.Ytkdpfbefdhjmcaa
open Go.ChangeShapes Go.WideShapes Go.ChangeAt Go.RowKit
def wOf (xs : List Int) : Nat := 1 + (atV xs 0 4).toNat
def hOf (xs : List Int) : Nat := 1 + (atV xs 1 4).toNat
def nodeAt (xs : List Int) (W i : Nat) : Int × Int := (100 * ((i % W : Nat) : Int), 100 * ((i / W : Nat) : Int) + atV xs (2 + i) 30)
def nextK (W H i k : Nat) : Option Nat := if k = 0 then (if i % W + 1 < W then some (i + 1) else none) else (if i / W + 1 < H then some (i + W) else none)
def streetA (xs : List Int) (i j k : Nat) : List (Int × Int × Int) := if atV xs (20 + 3 * i + k) 8 = 1 then [] else [((i : Nat), (j : Nat), 1 + atV xs (60 + i + k) 9)]
def streetB (xs : List Int) (i j k : Nat) : List (Int × Int × Int) := if atV xs (20 + 3 * i + k) 8 = 2 then [] else [((j : Nat), (i : Nat), 1 + atV xs (90 + i + k) 9)]
def streetK (xs : List Int) (W H i k : Nat) : List (Int × Int × Int) := match nextK W H i k with | none => [] | some j => streetA xs i j k ++ streetB xs i j k
def street (xs : List Int) (W H i : Nat) : List (Int × Int × Int) := streetK xs W H i 0 ++ streetK xs W H i 1
def extraAt (xs : List Int) (M i : Nat) : Int × Int × Int := (atV xs (4 + i) M, atV xs (8 + i) M, 1 + atV xs (12 + i) 40)
def streets (xs : List Int) (W H n : Nat) : List (Int × Int × Int) := (List.range n).flatMap (street xs W H)
def extras (xs : List Int) (M n : Nat) : List (Int × Int × Int) := (List.range n).map (extraAt xs M)
def townN (xs : List Int) : List (Int × Int) := (List.range (wOf xs * hOf xs)).map (nodeAt xs (wOf xs))
def townE0 (xs : List Int) : List (Int × Int × Int) := streets xs (wOf xs) (hOf xs) (wOf xs * hOf xs) ++ extras xs (wOf xs * hOf xs) (atV xs 3 4).toNat
def townE (xs : List Int) : List (Int × Int × Int) := if (townE0 xs).length = 0 then [(0, 0, 3)] else townE0 xs
def banB (xs : List Int) (es : List (Int × Int × Int)) (a b : Nat) : Bool := decide ((es.getD a (0, 0, 0)).2.1 = (es.getD b (0, 0, 0)).1) && decide (atV xs (7 * a + b) 9 = 0)
def banRow (xs : List Int) (es : List (Int × Int × Int)) (a n : Nat) : List (Int × Int) := ((List.range n).filter (banB xs es a)).map fun b => (((a : Nat) : Int), ((b : Nat) : Int))
def banRows (xs : List Int) (es : List (Int × Int × Int)) (n : Nat) : List (Int × Int) := (List.range n).flatMap fun a => banRow xs es a es.length
def townB (xs : List Int) : List (Int × Int) := banRows xs (townE xs) (townE xs).length
theorem len_streetK (xs : List Int) (W H i k : Nat) : (streetK xs W H i k).length ≤ 2 := by
  unfold streetK streetA streetB
  split
  · simp
  · rw [List.length_append]; split <;> split <;> simp
def streetN (xs : List Int) (W H i k : Nat) : List (Int × Int × Int) := (List.range k).flatMap (streetK xs W H i)
theorem streetN_succ (xs : List Int) (W H i k : Nat) : streetN xs W H i (k + 1) = streetN xs W H i k ++ streetK xs W H i k := by unfold streetN; rw [List.range_succ, List.flatMap_append]; simp
theorem streetN_two (xs : List Int) (W H i : Nat) : streetN xs W H i 2 = street xs W H i := by simp [streetN, street, List.range_succ]
def nx (W H i k : Nat) : Int := match nextK W H i k with | none => -1 | some j => (j : Nat)
theorem nx0_eq (W H i : Nat) : nx W H i 0 = if i % W + 1 < W then (i : Int) + 1 else -1 := by
  unfold nx nextK
  by_cases h : i % W + 1 < W
  · rw [if_pos rfl, if_pos h, if_pos h]; rfl
  · rw [if_pos rfl, if_neg h, if_neg h]
theorem nx1_eq (W H i : Nat) : nx W H i 1 = if i / W + 1 < H then (i : Int) + (W : Int) else -1 := by
  unfold nx nextK
  by_cases h : i / W + 1 < H
  · rw [if_neg (by omega), if_pos h, if_pos h]; exact Int.natCast_add _ _
  · rw [if_neg (by omega), if_neg h, if_neg h]
theorem streetK_none {xs : List Int} {W H i k : Nat} (h : nx W H i k < 0) : streetK xs W H i k = [] := by
  unfold nx at h; unfold streetK
  cases e : nextK W H i k with
  | none => rfl
  | some j => rw [e] at h; dsimp only at h; omega
theorem streetK_some {xs : List Int} {W H i k : Nat} (h : ¬ nx W H i k < 0) : ∃ j : Nat, nx W H i k = (j : Int) ∧ streetK xs W H i k = streetA xs i j k ++ streetB xs i j k := by
  unfold nx at h ⊢; unfold streetK
  cases e : nextK W H i k with
  | none => rw [e] at h; dsimp only at h; omega
  | some j => exact ⟨j, rfl, rfl⟩
theorem nx_lt {W H i k : Nat} (hW : W ≤ 4) (hi : i < 16) : -1 ≤ nx W H i k ∧ nx W H i k < 20 := by
  unfold nx nextK
  split <;> rename_i h
  · omega
  · split at h <;> split at h <;> simp at h <;> omega
theorem len_streetN (xs : List Int) (W H i k : Nat) (hk : k ≤ 2) : (streetN xs W H i k).length ≤ 2 * k := by
  match k, hk with
  | 0, _ => simp [streetN]
  | 1, _ => have := len_streetK xs W H i 0; simpa [streetN, List.range_succ] using this
  | 2, _ => have h0 := len_streetK xs W H i 0; have h1 := len_streetK xs W H i 1; rw [streetN_two, street, List.length_append]; omega
theorem wOf_eq (xs : List Int) : (wOf xs : Int) = 1 + atV xs 0 4 := by have := atV_nonneg (xs := xs) (k := 0) (m := 4) (by omega); unfold wOf; omega
theorem hOf_eq (xs : List Int) : (hOf xs : Int) = 1 + atV xs 1 4 := by have := atV_nonneg (xs := xs) (k := 1) (m := 4) (by omega); unfold hOf; omega
theorem wOf_bd (xs : List Int) : 1 ≤ wOf xs ∧ wOf xs ≤ 4 := by have h1 := atV_lt (xs := xs) (k := 0) (m := 4) (by omega); have h2 := wOf_eq xs; have h3 := atV_nonneg (xs := xs) (k := 0) (m := 4) (by omega); omega
theorem hOf_bd (xs : List Int) : 1 ≤ hOf xs ∧ hOf xs ≤ 4 := by have h1 := atV_lt (xs := xs) (k := 1) (m := 4) (by omega); have h2 := hOf_eq xs; have h3 := atV_nonneg (xs := xs) (k := 1) (m := 4) (by omega); omega
theorem mulWH_bd {W H : Nat} (h1 : 1 ≤ W ∧ W ≤ 4) (h2 : 1 ≤ H ∧ H ≤ 4) : 1 ≤ W * H ∧ W * H ≤ 16 := ⟨Nat.mul_le_mul h1.1 h2.1, Nat.mul_le_mul h1.2 h2.2⟩
theorem streets_succ (xs : List Int) (W H n : Nat) : streets xs W H (n + 1) = streets xs W H n ++ street xs W H n := by unfold streets; rw [List.range_succ, List.flatMap_append]; simp
theorem extras_succ (xs : List Int) (M n : Nat) : extras xs M (n + 1) = extras xs M n ++ [extraAt xs M n] := by unfold extras; rw [List.range_succ, List.map_append]; rfl
theorem nodes_succ (xs : List Int) (W n : Nat) : (List.range (n + 1)).map (nodeAt xs W) = (List.range n).map (nodeAt xs W) ++ [nodeAt xs W n] := by rw [List.range_succ, List.map_append]; rfl
theorem banRow_succ (xs : List Int) (es : List (Int × Int × Int)) (a n : Nat) : banRow xs es a (n + 1) = banRow xs es a n ++ (if banB xs es a n = true then [(((a : Nat) : Int), ((n : Nat) : Int))] else []) := by
  unfold banRow
  rw [List.range_succ, List.filter_append, List.map_append]
  cases h : banB xs es a n <;> simp [h]
theorem banRows_succ (xs : List Int) (es : List (Int × Int × Int)) (n : Nat) : banRows xs es (n + 1) = banRows xs es n ++ banRow xs es n es.length := by unfold banRows; rw [List.range_succ, List.flatMap_append]; simp
theorem len_streets (xs : List Int) (W H n : Nat) : (streets xs W H n).length ≤ 4 * n := by
  induction n with
  | zero => simp [streets]
  | succ n ih =>
    rw [streets_succ, List.length_append]
    have h0 := len_streetK xs W H n 0
    have h1 := len_streetK xs W H n 1
    unfold street; rw [List.length_append]; omega
theorem len_extras (xs : List Int) (M n : Nat) : (extras xs M n).length = n := by simp [extras]
theorem len_banRow (xs : List Int) (es : List (Int × Int × Int)) (a n : Nat) : (banRow xs es a n).length ≤ n := by
  have := List.length_filter_le (banB xs es a) (List.range n)
  rw [List.length_range] at this
  simpa [banRow] using this
theorem len_banRows (xs : List Int) (es : List (Int × Int × Int)) (n : Nat) : (banRows xs es n).length ≤ n * es.length := by
  induction n with
  | zero => simp [banRows]
  | succ n ih =>
    rw [banRows_succ, List.length_append]
    have := len_banRow xs es n es.length
    rw [Nat.succ_mul]; omega
set_option maxHeartbeats 1000000 in
theorem at_eq {A : Option Addr} {n c : Nat} {xs : List Int} {w : World} (h : ReadsI w A n c xs) {k : Nat} {kk m : Int} (hkk : kk = (k : Nat)) (hk : k ≤ 1000000) (hm : 0 < m) (hm2 : m ≤ 4611686018427387904) :
    Calls Try.prog 68 #[.slice A n c, .int .i64 kk, .int .i64 m] w fun e w' => e = .returned (.int .i64 (atV xs k m)) ∧ Below w.heap.size w w' := by
  subst hkk; exact at_any h hk hm hm2
theorem at_quiet {A : Option Addr} {n c : Nat} {xs : List Int} {w : World} {j : Nat} (h : ReadsI w A n c xs) {k : Nat} {kk m : Int} (hkk : kk = (k : Nat)) (hk : k ≤ 1000000) (hm : 0 < m) (hm2 : m ≤ 4611686018427387904) :
    Calls Try.prog 68 #[.slice A n c, .int .i64 kk, .int .i64 m] (w.drewN j) fun e w' => e = .returned (.int .i64 (atV xs k m)) ∧ ∃ q, w' = w.drewN q := by
  subst hkk; exact Calls.quiet_of (at_drew (h.below (bl_drewN (Below.refl _ _) _)) hk hm hm2)
end Go.Proofs.Ytkdpfbefdhjmcaa
