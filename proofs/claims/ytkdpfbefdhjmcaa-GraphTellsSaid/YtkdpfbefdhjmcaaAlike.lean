/- milepostalike.Ints; the document's Node and Banned. -/
import Derived.Test.YtkdpfbefdhjmcaaAccess
import Derived.BigQuiet
set_option linter.unusedVariables false
set_option linter.unusedSimpArgs false
namespace Go.Proofs.Ytkdpfbefdhjmcaa
open Go.ChangeShapes Go.WideShapes Go.ChangeAt Go.RowKit
theorem same_of {xs ys : List Int} (hl : xs.length = ys.length) (h : ∀ i, i < xs.length → xs.getD i 0 = ys.getD i 0) : xs = ys := by
  apply List.ext_getElem hl
  intro i h1 h2
  have := h i h1
  rwa [List.getD_eq_getElem?_getD, List.getD_eq_getElem?_getD, List.getElem?_eq_getElem h1, List.getElem?_eq_getElem h2] at this
set_option maxRecDepth 100000 in
set_option maxHeartbeats 4000000 in
theorem ints_any {A1 A2 : Option Addr} {n1 c1 n2 c2 : Nat} {xs ys : List Int} {w : World} (r1 : ReadsI w A1 n1 c1 xs) (r2 : ReadsI w A2 n2 c2 ys) :
    Calls Try.prog 39 #[.slice A1 n1 c1, .slice A2 n2 c2] w fun e w' => e = .returned (.bool (decide (xs = ys))) ∧ Below w.heap.size w w' := by
  have s1 := r1.small
  have s2 := r2.small
  unfold maxLen at s1 s2
  have g1 : n1 ≤ 9223372036854775807 := by omega
  have g2 : n2 ≤ 9223372036854775807 := by omega
  have l1 := r1.len
  have l2 := r2.len
  by_cases hn : n1 = n2
  · subst hn
    have R1 := Lib.hid r1
    have R2 := Lib.hid r2
    have L1 := Lib.hid l1
    have L2 := Lib.hid l2
    clear r1 r2 s1 s2 l1 l2
    go_enter Try.func39, Try.ntmps39
    go_wp2_with fail
    go_loopg [5] n1 (fun m v wr => ∃ k : Nat, m = n1 - k ∧ k ≤ n1 ∧ v = .int .i64 (k : Nat) ∧ Below w.heap.size w wr ∧ ∀ i, i < k → xs.getD i 0 = ys.getD i 0)
    case atStart => exact ⟨0, rfl, Nat.zero_le _, rfl, Below.refl _ _, fun i h => by omega⟩
    case round =>
      obtain ⟨k, hm, hk, rfl, hb, hall⟩ := hrel
      have HM := Lib.hid hm
      have HB := Lib.hid hb
      have HA := Lib.hid hall
      clear hm hb hall
      by_cases hlt : k < n1
      · obtain ⟨b, o, rfl, hc⟩ := R1.out.cell (by omega)
        obtain ⟨b', o', rfl, hc'⟩ := R2.out.cell (by omega)
        have c := cell_below (hc k hlt) HB.out
        have c' := cell_below (hc' k hlt) HB.out
        obtain ⟨x, hx⟩ : ∃ x, x = xs.getD k 0 := ⟨_, rfl⟩
        obtain ⟨y, hy⟩ : ∃ y, y = ys.getD k 0 := ⟨_, rfl⟩
        rw [← hx] at c
        rw [← hy] at c'
        have HX := Lib.hid hx
        have HY := Lib.hid hy
        have k0 : (0 : Int) ≤ (k : Int) := by omega
        have k1 : (k : Int) < (n1 : Int) := by omega
        clear hc hc' hx hy
        by_cases he : x = y
        · subst he
          have hq : (x != x) = false := by simp
          go_wp2_with fail
          go_quiet (fail)
          go_wp2_with fail
          go_roundg (n1 - (k + 1))
          case measure => have := HM.out; omega
          case rel =>
            refine ⟨k + 1, rfl, by omega, by go_num, bl_drewN HB.out _, fun i hi => ?_⟩
            by_cases e : i = k
            · subst e; rw [← HX.out, ← HY.out]
            · exact HA.out i (by omega)
        · have hq : (x != y) = true := by simpa using he
          have HE := Lib.hid he
          clear he
          go_wp2_with fail
          go_quiet (fail)
          go_wp2_with fail
          go_ret
          refine ⟨?_, bl_drewN HB.out _⟩
          rw [decide_eq_false (fun h => HE.out (by rw [HX.out, HY.out, h]))]; rfl
      · have hkn : k = n1 := by omega
        subst hkn
        have hd : decide (xs = ys) = true := decide_eq_true (same_of (L1.out.trans L2.out.symm) fun i hi => HA.out i (by rw [L1.out] at hi; exact hi))
        have HD := Lib.hid hd
        clear hd
        go_wp2_with fail
        go_ret
        exact ⟨by rw [HD.out]; rfl, HB.out⟩
  · have hq : ((n1 : Int) != (n2 : Int)) = true := by simp; omega
    have hd : decide (xs = ys) = false := decide_eq_false fun h => hn (by rw [← l1, ← l2, h])
    have HD := Lib.hid hd
    clear r1 r2 s1 s2 l1 l2 hd
    go_enter Try.func39, Try.ntmps39
    go_wp2_with fail
    go_ret
    exact ⟨by rw [HD.out]; rfl, Below.refl _ _⟩
theorem within4_c (n a b : Int) (w : World) : Calls Try.prog 50 #[.int .i64 n, .int .i64 a, .int .i64 b] w fun e w' => e = .returned (.bool (inB a n b)) ∧ w = w' := by
  unfold inB
  by_cases h1 : a ≤ n <;> by_cases h2 : n ≤ b
  all_goals
    go_enter Try.func50, Try.ntmps50
    go_wp2
    go_ret
    exact ⟨by simp [h1, h2], rfl⟩
set_option maxHeartbeats 2000000 in
set_option maxRecDepth 100000 in
theorem node4_any {A1 A2 A3 : Option Addr} {n1 c1 n2 c2 n3 c3 : Nat} (h : n1 ≤ maxLen) (i : Int) (w : World) :
    Calls Try.prog 24 #[.agg #[.slice A1 n1 c1, .slice A2 n2 c2, .slice A3 n3 c3], .int .i64 i] w fun e w' => e = .returned (.bool (inB 0 i ((n1 : Int) - 1))) ∧ Below w.heap.size w w' := by
  unfold maxLen at h
  have g2 : n1 ≤ 9223372036854775807 := by omega
  clear h
  go_enter Try.func24, Try.ntmps24
  go_wp2_with fail
  refine (within4_c _ _ _ _).mono ?_
  rintro e w' ⟨rfl, rfl⟩
  go_wp2_with fail
  go_ret
  exact ⟨rfl, bl_alloc (Below.refl _ _) _⟩
theorem mem_of_getD {bs : List (Int × Int)} {t : Int × Int} {k : Nat} (hk : k < bs.length) (h : bs.getD k (0, 0) = t) : t ∈ bs := by
  rw [List.getD_eq_getElem?_getD, List.getElem?_eq_getElem hk] at h
  rw [← h]; exact List.getElem_mem hk
theorem not_mem_of {bs : List (Int × Int)} {t : Int × Int} (h : ∀ q, q < bs.length → bs.getD q (0, 0) ≠ t) : t ∉ bs := by
  intro hm
  obtain ⟨q, hq, he⟩ := List.getElem_of_mem hm
  exact h q hq (by rw [List.getD_eq_getElem?_getD, List.getElem?_eq_getElem hq]; exact he)
set_option maxHeartbeats 4000000 in
set_option maxRecDepth 100000 in
theorem banned4_any {A1 A2 A3 : Option Addr} {n1 c1 n2 c2 n3 c3 : Nat} {bs : List (Int × Int)} {w : World} (r3 : ReadsP w A3 n3 c3 bs) (a b : Int) :
    Calls Try.prog 27 #[.agg #[.slice A1 n1 c1, .slice A2 n2 c2, .slice A3 n3 c3], .int .i64 a, .int .i64 b] w fun e w' => e = .returned (.bool (decide ((a, b) ∈ bs))) ∧ Below w.heap.size w w' := by
  have hB := bl_alloc (Below.refl w.heap.size w) (.cells #[.slice A1 n1 c1, .slice A2 n2 c2, .slice A3 n3 c3] 51)
  have k2 := cell_three_new (w := w) (x := .slice A1 n1 c1) (y := .slice A2 n2 c2) (z := .slice A3 n3 c3) (t := 51) 2 _ rfl
  have s3 := r3.small
  unfold maxLen at s3
  have g3 : n3 ≤ 9223372036854775807 := by omega
  have L3 := Lib.hid r3.len
  have HB := Lib.hid hB
  have R3 := Lib.hid (r3.below hB)
  clear r3 s3
  go_enter Try.func27, Try.ntmps27
  go_wp2_with fail
  obtain ⟨W1, hW1⟩ : ∃ W1, W1 = w.alloc (.cells #[.slice A1 n1 c1, .slice A2 n2 c2, .slice A3 n3 c3] 51) := ⟨_, rfl⟩
  rw [← hW1] at k2 hB HB R3 ⊢
  have k2' : W1.cell? ⟨w.heap.size, 2, none⟩ = some (.slice A3 n3 c3) := k2
  clear k2 hB hW1
  go_loopg [7] n3 (fun m v wr => ∃ k : Nat, m = n3 - k ∧ k ≤ n3 ∧ v = .int .i64 (k : Nat) ∧ wr = W1 ∧ ∀ q, q < k → bs.getD q (0, 0) ≠ (a, b))
  case atStart => exact ⟨0, rfl, Nat.zero_le _, rfl, rfl, fun q h => by omega⟩
  case round =>
    obtain ⟨k, hm, hk, rfl, rfl, hall⟩ := hrel
    have HM := Lib.hid hm
    have HA := Lib.hid hall
    clear hm hall
    by_cases hlt : k < n3
    · obtain ⟨B, o, rfl, hc⟩ := R3.out.cell (by omega)
      obtain ⟨c0, c1⟩ := hc k hlt
      obtain ⟨x, hx⟩ : ∃ x, x = bs.getD k (0, 0) := ⟨_, rfl⟩
      rw [← hx] at c0 c1
      obtain ⟨x0, x1⟩ := x
      dsimp only at c0 c1
      have HX := Lib.hid hx
      have k0 : (0 : Int) ≤ (k : Int) := by omega
      have k1 : (k : Int) < (n3 : Int) := by omega
      clear hc hx
      by_cases h0 : x0 = a
      · have e0 : (x0 == a) = true := by simpa using h0
        by_cases h1 : x1 = b
        · have e1 : (x1 == b) = true := by simpa using h1
          have hd : decide ((a, b) ∈ bs) = true := decide_eq_true (mem_of_getD (k := k) (by rw [L3.out]; exact hlt) (by rw [← HX.out, h0, h1]))
          have HD := Lib.hid hd
          clear hd h0 h1
          go_wp2_with fail
          all_goals (try go_quiet (fail))
          go_wp2_with fail
          go_ret
          exact ⟨by rw [HD.out]; rfl, by first | exact HB.out | exact bl_drewN HB.out _⟩
        · have e1 : (x1 == b) = false := beq_false_of_ne h1
          have HN : Hid (bs.getD k (0, 0) ≠ (a, b)) := Lib.hid (by rw [← HX.out]; intro h; injection h with _ h; exact h1 h)
          clear h0 h1
          go_wp2_with fail
          go_roundg (n3 - (k + 1))
          case measure => have := HM.out; omega
          case rel =>
            refine ⟨k + 1, rfl, by omega, by go_num, rfl, fun q hq => ?_⟩
            by_cases e : q = k
            · subst e; exact HN.out
            · exact HA.out q (by omega)
      · have e0 : (x0 == a) = false := beq_false_of_ne h0
        have HN : Hid (bs.getD k (0, 0) ≠ (a, b)) := Lib.hid (by rw [← HX.out]; intro h; injection h with h _; exact h0 h)
        clear h0
        go_wp2_with fail
        go_roundg (n3 - (k + 1))
        case measure => have := HM.out; omega
        case rel =>
          refine ⟨k + 1, rfl, by omega, by go_num, rfl, fun q hq => ?_⟩
          by_cases e : q = k
          · subst e; exact HN.out
          · exact HA.out q (by omega)
    · have hkn : k = n3 := by omega
      subst hkn
      have hd : decide ((a, b) ∈ bs) = false := decide_eq_false (not_mem_of fun q hq => HA.out q (by rw [L3.out] at hq; exact hq))
      have HD := Lib.hid hd
      clear hd
      go_wp2_with fail
      go_ret
      exact ⟨by rw [HD.out]; rfl, HB.out⟩
end Go.Proofs.Ytkdpfbefdhjmcaa
