/- The town of any numbers is a graph. -/
import Derived.Test.YtkdpfbefdhjmcaaTownPure
set_option linter.unusedVariables false
set_option linter.unusedSimpArgs false
namespace Go.Proofs.Ytkdpfbefdhjmcaa
theorem div_lt_of {W H i : Nat} (hi : i < W * H) : i / W < H := Nat.div_lt_of_lt_mul hi
theorem right_lt {W H i : Nat} (hi : i < W * H) (h : i % W + 1 < W) : i + 1 < W * H := by
  have h1 := Nat.div_add_mod i W
  have h2 := div_lt_of hi
  have h3 : W * (i / W) + W ≤ W * H := by rw [← Nat.mul_succ]; exact Nat.mul_le_mul_left _ h2
  omega
theorem down_lt {W H i : Nat} (hW : 1 ≤ W) (hi : i < W * H) (h : i / W + 1 < H) : i + W < W * H := by
  have h1 := Nat.div_add_mod i W
  have h2 := Nat.mod_lt i (show W > 0 by omega)
  have h3 : W * (i / W + 1) + W ≤ W * H := by rw [← Nat.mul_succ]; exact Nat.mul_le_mul_left _ h
  rw [Nat.mul_succ] at h3
  omega
theorem next_lt {W H i k j : Nat} (hW : 1 ≤ W) (hi : i < W * H) (h : nextK W H i k = some j) : j < W * H ∧ (j = i + 1 ∨ j = i + W) := by
  unfold nextK at h
  split at h
  · split at h
    · rename_i h2; simp only [Option.some.injEq] at h; subst h; exact ⟨right_lt hi h2, .inl rfl⟩
    · cases h
  · split at h
    · rename_i h2; simp only [Option.some.injEq] at h; subst h; exact ⟨down_lt hW hi h2, .inr rfl⟩
    · cases h
theorem mem_streetK {xs : List Int} {W H i k : Nat} {e : Int × Int × Int} (h : e ∈ streetK xs W H i k) : ∃ j, nextK W H i k = some j ∧ ((e = (((i : Nat) : Int), ((j : Nat) : Int), 1 + atV xs (60 + i + k) 9)) ∨ e = (((j : Nat) : Int), ((i : Nat) : Int), 1 + atV xs (90 + i + k) 9)) := by
  unfold streetK at h
  split at h
  · simp at h
  · rename_i j hj
    refine ⟨j, hj, ?_⟩
    rcases List.mem_append.1 h with h | h
    · unfold streetA at h; split at h
      · simp at h
      · exact .inl (List.mem_singleton.1 h)
    · unfold streetB at h; split at h
      · simp at h
      · exact .inr (List.mem_singleton.1 h)
theorem edge_street {xs : List Int} {W H i k : Nat} (hW : 1 ≤ W) (hi : i < W * H) {e : Int × Int × Int} (h : e ∈ streetK xs W H i k) : edgeOk (((W * H : Nat) : Int) - 1) e = true := by
  obtain ⟨j, hj, he⟩ := mem_streetK h
  have hlt := (next_lt hW hi hj).1
  have w1 := atV_nonneg (xs := xs) (k := 60 + i + k) (m := 9) (by omega)
  have w2 := atV_lt (xs := xs) (k := 60 + i + k) (m := 9) (by omega)
  have w3 := atV_nonneg (xs := xs) (k := 90 + i + k) (m := 9) (by omega)
  have w4 := atV_lt (xs := xs) (k := 90 + i + k) (m := 9) (by omega)
  generalize W * H = M at *
  unfold edgeOk inB
  rcases he with rfl | rfl <;> simp only [Bool.and_eq_true, decide_eq_true_eq] <;> omega
theorem edges_good (xs : List Int) : (townE xs).all (edgeOk (((townN xs).length : Int) - 1)) = true := by
  have bW := wOf_bd xs
  have bH := hOf_bd xs
  have hn : (townN xs).length = wOf xs * hOf xs := by simp [townN]
  have bM := mulWH_bd bW bH
  rw [hn, List.all_eq_true]
  intro e he
  unfold townE at he
  split at he
  · rw [List.mem_singleton.1 he]
    unfold edgeOk inB
    simp only [Bool.and_eq_true, decide_eq_true_eq]; omega
  · unfold townE0 at he
    rcases List.mem_append.1 he with h | h
    · unfold streets at h
      obtain ⟨i, hi, h⟩ := List.mem_flatMap.1 h
      rw [List.mem_range] at hi
      unfold street at h
      rcases List.mem_append.1 h with h | h
      · exact edge_street bW.1 hi h
      · exact edge_street bW.1 hi h
    · unfold extras at h
      obtain ⟨i, hi, rfl⟩ := List.mem_map.1 h
      unfold extraAt edgeOk inB
      generalize wOf xs * hOf xs = M at *
      have a1 := atV_nonneg (xs := xs) (k := 4 + i) (m := (M : Int)) (by omega)
      have a2 := atV_lt (xs := xs) (k := 4 + i) (m := (M : Int)) (by omega)
      have a3 := atV_nonneg (xs := xs) (k := 8 + i) (m := (M : Int)) (by omega)
      have a4 := atV_lt (xs := xs) (k := 8 + i) (m := (M : Int)) (by omega)
      have a5 := atV_nonneg (xs := xs) (k := 12 + i) (m := 40) (by omega)
      have a6 := atV_lt (xs := xs) (k := 12 + i) (m := 40) (by omega)
      simp only [Bool.and_eq_true, decide_eq_true_eq]; omega
theorem nodes_good (xs : List Int) : (townN xs).all nodeOk = true := by
  have bW := wOf_bd xs
  have bH := hOf_bd xs
  have bM := mulWH_bd bW bH
  rw [List.all_eq_true]
  intro e he
  unfold townN at he
  obtain ⟨i, hi, rfl⟩ := List.mem_map.1 he
  rw [List.mem_range] at hi
  unfold nodeAt nodeOk inB
  have h1 := Nat.mod_lt i (show wOf xs > 0 by omega)
  have h2 := div_lt_of hi
  have a5 := atV_nonneg (xs := xs) (k := 2 + i) (m := 30) (by omega)
  have a6 := atV_lt (xs := xs) (k := 2 + i) (m := 30) (by omega)
  generalize i % wOf xs = r at *
  generalize i / wOf xs = d at *
  simp only [Bool.and_eq_true, decide_eq_true_eq]; omega
def cntF (v : Int) (l : List (Int × Int × Int)) : Nat := (l.filter fun e => decide (e.1 = v)).length
theorem cntF_append (v : Int) (l k : List (Int × Int × Int)) : cntF v (l ++ k) = cntF v l + cntF v k := by simp [cntF]
theorem cntF_le (v : Int) (l : List (Int × Int × Int)) : cntF v l ≤ l.length := List.length_filter_le _ _
theorem cntF_K (xs : List Int) (W H i k : Nat) (v : Int) : cntF v (streetK xs W H i k) ≤ (if v = (i : Int) then 1 else 0) + (if v = (i : Int) + 1 then (if k = 0 then 1 else 0) else 0) + (if v = (i : Int) + W then (if k = 0 then 0 else 1) else 0) := by
  unfold streetK
  cases hj : nextK W H i k with
  | none => simp [cntF]
  | some j =>
    have hja : (k = 0 ∧ j = i + 1) ∨ (k ≠ 0 ∧ j = i + W) := by
      unfold nextK at hj
      split at hj <;> split at hj <;> simp at hj <;> omega
    rw [cntF_append]
    have h1 : cntF v (streetA xs i j k) ≤ if v = (i : Int) then 1 else 0 := by
      unfold streetA cntF; split
      · simp
      · by_cases h : (i : Int) = v
        · simp [h]
        · simp [h, Ne.symm h]
    have h2 : cntF v (streetB xs i j k) ≤ if v = (j : Int) then 1 else 0 := by
      unfold streetB cntF; split
      · simp
      · by_cases h : (j : Int) = v
        · simp [h]
        · simp [h, Ne.symm h]
    rcases hja with ⟨hk, rfl⟩ | ⟨hk, rfl⟩
    · subst hk; simp only [if_true] at *
      split at h1 <;> split at h2 <;> split <;> split <;> (try split) <;> omega
    · simp only [if_neg hk] at *
      split at h1 <;> split at h2 <;> split <;> split <;> (try split) <;> omega
theorem cntF_streets (xs : List Int) (W H n : Nat) (v : Int) : cntF v (streets xs W H n) ≤ (if v < (n : Int) then 2 else 0) + (if v < (n : Int) + 1 then 1 else 0) + (if v < (n : Int) + W then 1 else 0) := by
  induction n with
  | zero => simp [streets, cntF]
  | succ n ih =>
    rw [streets_succ, cntF_append]
    unfold street
    rw [cntF_append]
    have h0 := cntF_K xs W H n 0 v
    have h1 := cntF_K xs W H n 1 v
    simp only [if_true, show ¬ (1 : Nat) = 0 by omega, if_false] at h0 h1
    have e : ((n + 1 : Nat) : Int) = (n : Int) + 1 := by omega
    rw [e]
    split at ih <;> split at ih <;> split at ih <;> (repeat' split at h0) <;> (repeat' split at h1) <;> (repeat' split) <;> omega
theorem cntF_town (xs : List Int) (v : Int) : cntF v (townE xs) ≤ 7 := by
  unfold townE
  split
  · exact Nat.le_trans (cntF_le _ _) (by simp)
  · unfold townE0
    rw [cntF_append]
    have h1 := cntF_streets xs (wOf xs) (hOf xs) (wOf xs * hOf xs) v
    have h2 := cntF_le v (extras xs (wOf xs * hOf xs) (atV xs 3 4).toNat)
    rw [len_extras] at h2
    have h3 := atV_lt (xs := xs) (k := 3) (m := 4) (by omega)
    have : (if v < ((wOf xs * hOf xs : Nat) : Int) then 2 else 0) ≤ 2 := by split <;> omega
    have : (if v < ((wOf xs * hOf xs : Nat) : Int) + 1 then 1 else 0) ≤ 1 := by split <;> omega
    have : (if v < ((wOf xs * hOf xs : Nat) : Int) + (wOf xs : Int) then 1 else 0) ≤ 1 := by split <;> omega
    omega
theorem filter_getD (l : List (Int × Int × Int)) (v : Int) : ∀ n, n ≤ l.length → ((List.range n).filter fun b => decide (v = (l.getD b (0, 0, 0)).1)).length ≤ cntF v (l.take n) := by
  intro n
  induction n with
  | zero => simp
  | succ n ih =>
    intro hn
    rw [List.range_succ, List.filter_append, List.length_append, List.take_succ_eq_append_getElem (by omega), cntF_append]
    have := ih (by omega)
    have e : l.getD n (0, 0, 0) = l[n] := by rw [List.getD_eq_getElem?_getD, List.getElem?_eq_getElem (by omega)]; rfl
    have : ([n].filter fun b => decide (v = (l.getD b (0, 0, 0)).1)).length ≤ cntF v [l[n]] := by
      unfold cntF
      have e2 : ([n].filter fun b => decide (v = (l.getD b (0, 0, 0)).1)) = if v = (l[n]).1 then [n] else [] := by
        rw [List.filter_cons, e]
        by_cases h : v = (l[n]).1
        · rw [if_pos (by simpa using h), if_pos h]; rfl
        · rw [if_neg (by simpa using h), if_neg h]; rfl
      rw [e2]
      by_cases h : v = (l[n]).1
      · rw [if_pos h]; simp [h]
      · rw [if_neg h]; simp
    omega
theorem len_banRow7 (xs : List Int) (a : Nat) : (banRow xs (townE xs) a (townE xs).length).length ≤ 7 := by
  unfold banRow
  rw [List.length_map]
  have h1 : ((List.range (townE xs).length).filter (banB xs (townE xs) a)).length ≤ ((List.range (townE xs).length).filter fun b => decide (((townE xs).getD a (0, 0, 0)).2.1 = ((townE xs).getD b (0, 0, 0)).1)).length := by
    rw [← List.countP_eq_length_filter, ← List.countP_eq_length_filter]
    apply List.countP_mono_left
    intro b _ hb
    unfold banB at hb
    simp only [Bool.and_eq_true] at hb
    exact hb.1
  have h2 := filter_getD (townE xs) ((townE xs).getD a (0, 0, 0)).2.1 _ (Nat.le_refl _)
  rw [List.take_length] at h2
  have h3 := cntF_town xs ((townE xs).getD a (0, 0, 0)).2.1
  omega
theorem len_bans (xs : List Int) : ∀ n, (banRows xs (townE xs) n).length ≤ 7 * n := by
  intro n
  induction n with
  | zero => simp [banRows]
  | succ n ih => rw [banRows_succ, List.length_append]; have := len_banRow7 xs n; omega
theorem len_townE (xs : List Int) : 1 ≤ (townE xs).length ∧ (townE xs).length ≤ 70 := by
  unfold townE
  split
  · simp
  · rename_i h
    refine ⟨by omega, ?_⟩
    unfold townE0
    rw [List.length_append, len_extras]
    have h1 := len_streets xs (wOf xs) (hOf xs) (wOf xs * hOf xs)
    have h3 := atV_lt (xs := xs) (k := 3) (m := 4) (by omega)
    have bM := mulWH_bd (wOf_bd xs) (hOf_bd xs)
    omega
theorem mem_banRow {xs : List Int} {es : List (Int × Int × Int)} {a n : Nat} {x : Int × Int} (h : x ∈ banRow xs es a n) : ∃ b : Nat, b < n ∧ x = (((a : Nat) : Int), ((b : Nat) : Int)) ∧ (es.getD a (0, 0, 0)).2.1 = (es.getD b (0, 0, 0)).1 := by
  unfold banRow at h
  obtain ⟨b, hb, rfl⟩ := List.mem_map.1 h
  obtain ⟨h1, h2⟩ := List.mem_filter.1 hb
  rw [List.mem_range] at h1
  unfold banB at h2
  simp only [Bool.and_eq_true, decide_eq_true_eq] at h2
  exact ⟨b, h1, rfl, h2.1⟩
def lexLt (x y : Int × Int) : Prop := x.1 < y.1 ∨ (x.1 = y.1 ∧ x.2 < y.2)
theorem banRow_sorted (xs : List Int) (es : List (Int × Int × Int)) (a n : Nat) : (banRow xs es a n).Pairwise lexLt := by
  unfold banRow
  rw [List.pairwise_map]
  refine (List.Pairwise.filter _ (List.pairwise_lt_range (n := n))).imp ?_
  intro b c h
  exact .inr ⟨rfl, by show (b : Int) < (c : Int); omega⟩
theorem banRows_sorted (xs : List Int) (es : List (Int × Int × Int)) : ∀ n, (banRows xs es n).Pairwise lexLt := by
  intro n
  induction n with
  | zero => simp [banRows]
  | succ n ih =>
    rw [banRows_succ, List.pairwise_append]
    refine ⟨ih, banRow_sorted _ _ _ _, ?_⟩
    intro x hx y hy
    unfold banRows at hx
    obtain ⟨a, ha, hx⟩ := List.mem_flatMap.1 hx
    rw [List.mem_range] at ha
    obtain ⟨b, _, rfl, _⟩ := mem_banRow hx
    obtain ⟨c, _, rfl, _⟩ := mem_banRow hy
    exact .inl (by show (a : Int) < (n : Int); omega)
theorem ordI_lex {x y : Int × Int} (h : lexLt x y) : ordI x y < 0 := by
  unfold ordI orI cmpI
  rcases h with h | ⟨h1, h2⟩
  · rw [if_pos h]; simp
  · rw [if_neg (show ¬ x.1 < y.1 by omega), if_neg (show ¬ y.1 < x.1 by omega), if_pos rfl, if_pos h2]; omega
theorem bans_good (xs : List Int) : (List.range (townB xs).length).all (banOk (townE xs) (townB xs)) = true := by
  rw [List.all_eq_true]
  intro i hi
  rw [List.mem_range] at hi
  have e : (townB xs).getD i (0, 0) = (townB xs)[i] := by rw [List.getD_eq_getElem?_getD, List.getElem?_eq_getElem hi]; rfl
  have hm : (townB xs)[i] ∈ townB xs := List.getElem_mem hi
  unfold banOk
  rw [e]
  have hm2 := hm
  unfold townB banRows at hm2
  obtain ⟨a, ha, hx⟩ := List.mem_flatMap.1 hm2
  rw [List.mem_range] at ha
  obtain ⟨b, hb, hab, hj⟩ := mem_banRow hx
  have hs : i = 0 ∨ ordI ((townB xs).getD (i - 1) (0, 0)) (townB xs)[i] < 0 := by
    rcases Nat.eq_zero_or_pos i with h0 | h0
    · exact .inl h0
    · right
      have e1 : (townB xs).getD (i - 1) (0, 0) = (townB xs)[i - 1] := by rw [List.getD_eq_getElem?_getD, List.getElem?_eq_getElem (by omega)]; rfl
      rw [e1]
      exact ordI_lex (List.pairwise_iff_getElem.1 (banRows_sorted xs (townE xs) (townE xs).length) (i - 1) i (by have h9 : (banRows xs (townE xs) (townE xs).length).length = (townB xs).length := rfl; omega) hi (by omega))
  have hs' : (decide (i = 0) || decide (ordI ((townB xs).getD (i - 1) (0, 0)) (townB xs)[i] < 0)) = true := by
    simp only [Bool.or_eq_true, decide_eq_true_eq]; exact hs
  have hab' : (townB xs)[i] = (((a : Nat) : Int), ((b : Nat) : Int)) := hab
  rw [hs', hab']
  unfold inB
  simp only [Bool.and_eq_true, decide_eq_true_eq, Int.toNat_natCast, and_true]
  exact ⟨⟨by omega, by omega⟩, hj⟩
theorem town_good (xs : List Int) : mayB (townN xs) (townE xs) (townB xs) = true := by
  have bM := mulWH_bd (wOf_bd xs) (hOf_bd xs)
  have hn : (townN xs).length = wOf xs * hOf xs := by simp [townN]
  have he := len_townE xs
  have hb := len_bans xs (townE xs).length
  have hb2 : (townB xs).length ≤ 1024 := by
    show (banRows xs (townE xs) (townE xs).length).length ≤ 1024
    omega
  unfold mayB
  rw [nodes_good, edges_good, bans_good]
  unfold sizeOk inB
  simp only [Bool.and_eq_true, decide_eq_true_eq, and_true]
  omega
end Go.Proofs.Ytkdpfbefdhjmcaa
