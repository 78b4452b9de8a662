/- TownAll: TownGood, TownUse, GraphNew, one behind the other. -/
import Derived.Test.YtjopiefojicblaaTowns
import Derived.Test.YtjopiefojicblaaTown
import Derived.Test.YtjopiefojicblaaGraphs
import Derived.Deep.RegionHeld3
/- The town of any numbers is a graph. -/
set_option linter.unusedVariables false
set_option linter.unusedSimpArgs false
namespace Go.Proofs.Ytjopiefojicblaa
theorem div_lt_of {W H i : Nat} (hi : i < W * H) : i / W < H := Nat.div_lt_of_lt_mul hi
theorem right_lt {W H i : Nat} (hi : i < W * H) (h : i % W + 1 < W) : i + 1 < W * H := by
  have h1 := Nat.div_add_mod i W
  have h2 := div_lt_of hi
  have h3 : W * (i / W) + W ≤ W * H := by rw [← Nat.mul_succ]; exact Nat.mul_le_mul_left _ h2
  omega
theorem down_lt {W H i : Nat} (hW : 1 ≤ W) (hi : i < W * H) (h : i / W + 1 < H) : i + W < W * H := by
  have h1 := Nat.div_add_mod i W
  have h2 := Nat.mod_lt i (show W > 0 by omega)
  have h3 : W * (i / W + 1) + W ≤ W * H := by rw [← Nat.mul_succ]; exact Nat.mul_le_mul_left _ h
  rw [Nat.mul_succ] at h3
  omega
theorem next_lt {W H i k j : Nat} (hW : 1 ≤ W) (hi : i < W * H) (h : nextK W H i k = some j) : j < W * H ∧ (j = i + 1 ∨ j = i + W) := by
  unfold nextK at h
  split at h
  · split at h
    · rename_i h2; simp only [Option.some.injEq] at h; subst h; exact ⟨right_lt hi h2, .inl rfl⟩
    · cases h
  · split at h
    · rename_i h2; simp only [Option.some.injEq] at h; subst h; exact ⟨down_lt hW hi h2, .inr rfl⟩
    · cases h
theorem mem_streetK {xs : List Int} {W H i k : Nat} {e : Int × Int × Int} (h : e ∈ streetK xs W H i k) : ∃ j, nextK W H i k = some j ∧ ((e = (((i : Nat) : Int), ((j : Nat) : Int), 1 + atV xs (60 + i + k) 9)) ∨ e = (((j : Nat) : Int), ((i : Nat) : Int), 1 + atV xs (90 + i + k) 9)) := by
  unfold streetK at h
  split at h
  · simp at h
  · rename_i j hj
    refine ⟨j, hj, ?_⟩
    rcases List.mem_append.1 h with h | h
    · unfold streetA at h; split at h
      · simp at h
      · exact .inl (List.mem_singleton.1 h)
    · unfold streetB at h; split at h
      · simp at h
      · exact .inr (List.mem_singleton.1 h)
theorem edge_street {xs : List Int} {W H i k : Nat} (hW : 1 ≤ W) (hi : i < W * H) {e : Int × Int × Int} (h : e ∈ streetK xs W H i k) : edgeOk (((W * H : Nat) : Int) - 1) e = true := by
  obtain ⟨j, hj, he⟩ := mem_streetK h
  have hlt := (next_lt hW hi hj).1
  have w1 := atV_nonneg (xs := xs) (k := 60 + i + k) (m := 9) (by omega)
  have w2 := atV_lt (xs := xs) (k := 60 + i + k) (m := 9) (by omega)
  have w3 := atV_nonneg (xs := xs) (k := 90 + i + k) (m := 9) (by omega)
  have w4 := atV_lt (xs := xs) (k := 90 + i + k) (m := 9) (by omega)
  generalize W * H = M at *
  unfold edgeOk inB
  rcases he with rfl | rfl <;> simp only [Bool.and_eq_true, decide_eq_true_eq] <;> omega
theorem edges_good (xs : List Int) : (townE xs).all (edgeOk (((townN xs).length : Int) - 1)) = true := by
  have bW := wOf_bd xs
  have bH := hOf_bd xs
  have hn : (townN xs).length = wOf xs * hOf xs := by simp [townN]
  have bM := mulWH_bd bW bH
  rw [hn, List.all_eq_true]
  intro e he
  unfold townE at he
  split at he
  · rw [List.mem_singleton.1 he]
    unfold edgeOk inB
    simp only [Bool.and_eq_true, decide_eq_true_eq]; omega
  · unfold townE0 at he
    rcases List.mem_append.1 he with h | h
    · unfold streets at h
      obtain ⟨i, hi, h⟩ := List.mem_flatMap.1 h
      rw [List.mem_range] at hi
      unfold street at h
      rcases List.mem_append.1 h with h | h
      · exact edge_street bW.1 hi h
      · exact edge_street bW.1 hi h
    · unfold extras at h
      obtain ⟨i, hi, rfl⟩ := List.mem_map.1 h
      unfold extraAt edgeOk inB
      generalize wOf xs * hOf xs = M at *
      have a1 := atV_nonneg (xs := xs) (k := 4 + i) (m := (M : Int)) (by omega)
      have a2 := atV_lt (xs := xs) (k := 4 + i) (m := (M : Int)) (by omega)
      have a3 := atV_nonneg (xs := xs) (k := 8 + i) (m := (M : Int)) (by omega)
      have a4 := atV_lt (xs := xs) (k := 8 + i) (m := (M : Int)) (by omega)
      have a5 := atV_nonneg (xs := xs) (k := 12 + i) (m := 40) (by omega)
      have a6 := atV_lt (xs := xs) (k := 12 + i) (m := 40) (by omega)
      simp only [Bool.and_eq_true, decide_eq_true_eq]; omega
theorem nodes_good (xs : List Int) : (townN xs).all nodeOk = true := by
  have bW := wOf_bd xs
  have bH := hOf_bd xs
  have bM := mulWH_bd bW bH
  rw [List.all_eq_true]
  intro e he
  unfold townN at he
  obtain ⟨i, hi, rfl⟩ := List.mem_map.1 he
  rw [List.mem_range] at hi
  unfold nodeAt nodeOk inB
  have h1 := Nat.mod_lt i (show wOf xs > 0 by omega)
  have h2 := div_lt_of hi
  have a5 := atV_nonneg (xs := xs) (k := 2 + i) (m := 30) (by omega)
  have a6 := atV_lt (xs := xs) (k := 2 + i) (m := 30) (by omega)
  generalize i % wOf xs = r at *
  generalize i / wOf xs = d at *
  simp only [Bool.and_eq_true, decide_eq_true_eq]; omega
def cntF (v : Int) (l : List (Int × Int × Int)) : Nat := (l.filter fun e => decide (e.1 = v)).length
theorem cntF_append (v : Int) (l k : List (Int × Int × Int)) : cntF v (l ++ k) = cntF v l + cntF v k := by simp [cntF]
theorem cntF_le (v : Int) (l : List (Int × Int × Int)) : cntF v l ≤ l.length := List.length_filter_le _ _
theorem cntF_K (xs : List Int) (W H i k : Nat) (v : Int) : cntF v (streetK xs W H i k) ≤ (if v = (i : Int) then 1 else 0) + (if v = (i : Int) + 1 then (if k = 0 then 1 else 0) else 0) + (if v = (i : Int) + W then (if k = 0 then 0 else 1) else 0) := by
  unfold streetK
  cases hj : nextK W H i k with
  | none => simp [cntF]
  | some j =>
    have hja : (k = 0 ∧ j = i + 1) ∨ (k ≠ 0 ∧ j = i + W) := by
      unfold nextK at hj
      split at hj <;> split at hj <;> simp at hj <;> omega
    rw [cntF_append]
    have h1 : cntF v (streetA xs i j k) ≤ if v = (i : Int) then 1 else 0 := by
      unfold streetA cntF; split
      · simp
      · by_cases h : (i : Int) = v
        · simp [h]
        · simp [h, Ne.symm h]
    have h2 : cntF v (streetB xs i j k) ≤ if v = (j : Int) then 1 else 0 := by
      unfold streetB cntF; split
      · simp
      · by_cases h : (j : Int) = v
        · simp [h]
        · simp [h, Ne.symm h]
    rcases hja with ⟨hk, rfl⟩ | ⟨hk, rfl⟩
    · subst hk; simp only [if_true] at *
      split at h1 <;> split at h2 <;> split <;> split <;> (try split) <;> omega
    · simp only [if_neg hk] at *
      split at h1 <;> split at h2 <;> split <;> split <;> (try split) <;> omega
theorem cntF_streets (xs : List Int) (W H n : Nat) (v : Int) : cntF v (streets xs W H n) ≤ (if v < (n : Int) then 2 else 0) + (if v < (n : Int) + 1 then 1 else 0) + (if v < (n : Int) + W then 1 else 0) := by
  induction n with
  | zero => simp [streets, cntF]
  | succ n ih =>
    rw [streets_succ, cntF_append]
    unfold street
    rw [cntF_append]
    have h0 := cntF_K xs W H n 0 v
    have h1 := cntF_K xs W H n 1 v
    simp only [if_true, show ¬ (1 : Nat) = 0 by omega, if_false] at h0 h1
    have e : ((n + 1 : Nat) : Int) = (n : Int) + 1 := by omega
    rw [e]
    split at ih <;> split at ih <;> split at ih <;> (repeat' split at h0) <;> (repeat' split at h1) <;> (repeat' split) <;> omega
theorem cntF_town (xs : List Int) (v : Int) : cntF v (townE xs) ≤ 7 := by
  unfold townE
  split
  · exact Nat.le_trans (cntF_le _ _) (by simp)
  · unfold townE0
    rw [cntF_append]
    have h1 := cntF_streets xs (wOf xs) (hOf xs) (wOf xs * hOf xs) v
    have h2 := cntF_le v (extras xs (wOf xs * hOf xs) (atV xs 3 4).toNat)
    rw [len_extras] at h2
    have h3 := atV_lt (xs := xs) (k := 3) (m := 4) (by omega)
    have : (if v < ((wOf xs * hOf xs : Nat) : Int) then 2 else 0) ≤ 2 := by split <;> omega
    have : (if v < ((wOf xs * hOf xs : Nat) : Int) + 1 then 1 else 0) ≤ 1 := by split <;> omega
    have : (if v < ((wOf xs * hOf xs : Nat) : Int) + (wOf xs : Int) then 1 else 0) ≤ 1 := by split <;> omega
    omega
theorem filter_getD (l : List (Int × Int × Int)) (v : Int) : ∀ n, n ≤ l.length → ((List.range n).filter fun b => decide (v = (l.getD b (0, 0, 0)).1)).length ≤ cntF v (l.take n) := by
  intro n
  induction n with
  | zero => simp
  | succ n ih =>
    intro hn
    rw [List.range_succ, List.filter_append, List.length_append, List.take_succ_eq_append_getElem (by omega), cntF_append]
    have := ih (by omega)
    have e : l.getD n (0, 0, 0) = l[n] := by rw [List.getD_eq_getElem?_getD, List.getElem?_eq_getElem (by omega)]; rfl
    have : ([n].filter fun b => decide (v = (l.getD b (0, 0, 0)).1)).length ≤ cntF v [l[n]] := by
      unfold cntF
      have e2 : ([n].filter fun b => decide (v = (l.getD b (0, 0, 0)).1)) = if v = (l[n]).1 then [n] else [] := by
        rw [List.filter_cons, e]
        by_cases h : v = (l[n]).1
        · rw [if_pos (by simpa using h), if_pos h]; rfl
        · rw [if_neg (by simpa using h), if_neg h]; rfl
      rw [e2]
      by_cases h : v = (l[n]).1
      · rw [if_pos h]; simp [h]
      · rw [if_neg h]; simp
    omega
theorem len_banRow7 (xs : List Int) (a : Nat) : (banRow xs (townE xs) a (townE xs).length).length ≤ 7 := by
  unfold banRow
  rw [List.length_map]
  have h1 : ((List.range (townE xs).length).filter (banB xs (townE xs) a)).length ≤ ((List.range (townE xs).length).filter fun b => decide (((townE xs).getD a (0, 0, 0)).2.1 = ((townE xs).getD b (0, 0, 0)).1)).length := by
    rw [← List.countP_eq_length_filter, ← List.countP_eq_length_filter]
    apply List.countP_mono_left
    intro b _ hb
    unfold banB at hb
    simp only [Bool.and_eq_true] at hb
    exact hb.1
  have h2 := filter_getD (townE xs) ((townE xs).getD a (0, 0, 0)).2.1 _ (Nat.le_refl _)
  rw [List.take_length] at h2
  have h3 := cntF_town xs ((townE xs).getD a (0, 0, 0)).2.1
  omega
theorem len_bans (xs : List Int) : ∀ n, (banRows xs (townE xs) n).length ≤ 7 * n := by
  intro n
  induction n with
  | zero => simp [banRows]
  | succ n ih => rw [banRows_succ, List.length_append]; have := len_banRow7 xs n; omega
theorem len_townE (xs : List Int) : 1 ≤ (townE xs).length ∧ (townE xs).length ≤ 70 := by
  unfold townE
  split
  · simp
  · rename_i h
    refine ⟨by omega, ?_⟩
    unfold townE0
    rw [List.length_append, len_extras]
    have h1 := len_streets xs (wOf xs) (hOf xs) (wOf xs * hOf xs)
    have h3 := atV_lt (xs := xs) (k := 3) (m := 4) (by omega)
    have bM := mulWH_bd (wOf_bd xs) (hOf_bd xs)
    omega
theorem mem_banRow {xs : List Int} {es : List (Int × Int × Int)} {a n : Nat} {x : Int × Int} (h : x ∈ banRow xs es a n) : ∃ b : Nat, b < n ∧ x = (((a : Nat) : Int), ((b : Nat) : Int)) ∧ (es.getD a (0, 0, 0)).2.1 = (es.getD b (0, 0, 0)).1 := by
  unfold banRow at h
  obtain ⟨b, hb, rfl⟩ := List.mem_map.1 h
  obtain ⟨h1, h2⟩ := List.mem_filter.1 hb
  rw [List.mem_range] at h1
  unfold banB at h2
  simp only [Bool.and_eq_true, decide_eq_true_eq] at h2
  exact ⟨b, h1, rfl, h2.1⟩
def lexLt (x y : Int × Int) : Prop := x.1 < y.1 ∨ (x.1 = y.1 ∧ x.2 < y.2)
theorem banRow_sorted (xs : List Int) (es : List (Int × Int × Int)) (a n : Nat) : (banRow xs es a n).Pairwise lexLt := by
  unfold banRow
  rw [List.pairwise_map]
  refine (List.Pairwise.filter _ (List.pairwise_lt_range (n := n))).imp ?_
  intro b c h
  exact .inr ⟨rfl, by show (b : Int) < (c : Int); omega⟩
theorem banRows_sorted (xs : List Int) (es : List (Int × Int × Int)) : ∀ n, (banRows xs es n).Pairwise lexLt := by
  intro n
  induction n with
  | zero => simp [banRows]
  | succ n ih =>
    rw [banRows_succ, List.pairwise_append]
    refine ⟨ih, banRow_sorted _ _ _ _, ?_⟩
    intro x hx y hy
    unfold banRows at hx
    obtain ⟨a, ha, hx⟩ := List.mem_flatMap.1 hx
    rw [List.mem_range] at ha
    obtain ⟨b, _, rfl, _⟩ := mem_banRow hx
    obtain ⟨c, _, rfl, _⟩ := mem_banRow hy
    exact .inl (by show (a : Int) < (n : Int); omega)
theorem ordI_lex {x y : Int × Int} (h : lexLt x y) : ordI x y < 0 := by
  unfold ordI orI cmpI
  rcases h with h | ⟨h1, h2⟩
  · rw [if_pos h]; simp
  · rw [if_neg (show ¬ x.1 < y.1 by omega), if_neg (show ¬ y.1 < x.1 by omega), if_pos rfl, if_pos h2]; omega
theorem bans_good (xs : List Int) : (List.range (townB xs).length).all (banOk (townE xs) (townB xs)) = true := by
  rw [List.all_eq_true]
  intro i hi
  rw [List.mem_range] at hi
  have e : (townB xs).getD i (0, 0) = (townB xs)[i] := by rw [List.getD_eq_getElem?_getD, List.getElem?_eq_getElem hi]; rfl
  have hm : (townB xs)[i] ∈ townB xs := List.getElem_mem hi
  unfold banOk
  rw [e]
  have hm2 := hm
  unfold townB banRows at hm2
  obtain ⟨a, ha, hx⟩ := List.mem_flatMap.1 hm2
  rw [List.mem_range] at ha
  obtain ⟨b, hb, hab, hj⟩ := mem_banRow hx
  have hs : i = 0 ∨ ordI ((townB xs).getD (i - 1) (0, 0)) (townB xs)[i] < 0 := by
    rcases Nat.eq_zero_or_pos i with h0 | h0
    · exact .inl h0
    · right
      have e1 : (townB xs).getD (i - 1) (0, 0) = (townB xs)[i - 1] := by rw [List.getD_eq_getElem?_getD, List.getElem?_eq_getElem (by omega)]; rfl
      rw [e1]
      exact ordI_lex (List.pairwise_iff_getElem.1 (banRows_sorted xs (townE xs) (townE xs).length) (i - 1) i (by have h9 : (banRows xs (townE xs) (townE xs).length).length = (townB xs).length := rfl; omega) hi (by omega))
  have hs' : (decide (i = 0) || decide (ordI ((townB xs).getD (i - 1) (0, 0)) (townB xs)[i] < 0)) = true := by
    simp only [Bool.or_eq_true, decide_eq_true_eq]; exact hs
  have hab' : (townB xs)[i] = (((a : Nat) : Int), ((b : Nat) : Int)) := hab
  rw [hs', hab']
  unfold inB
  simp only [Bool.and_eq_true, decide_eq_true_eq, Int.toNat_natCast, and_true]
  exact ⟨⟨by omega, by omega⟩, hj⟩
theorem town_good (xs : List Int) : mayB (townN xs) (townE xs) (townB xs) = true := by
  have bM := mulWH_bd (wOf_bd xs) (hOf_bd xs)
  have hn : (townN xs).length = wOf xs * hOf xs := by simp [townN]
  have he := len_townE xs
  have hb := len_bans xs (townE xs).length
  have hb2 : (townB xs).length ≤ 1024 := by
    show (banRows xs (townE xs) (townE xs).length).length ≤ 1024
    omega
  unfold mayB
  rw [nodes_good, edges_good, bans_good]
  unfold sizeOk inB
  simp only [Bool.and_eq_true, decide_eq_true_eq, and_true]
  omega
end Go.Proofs.Ytjopiefojicblaa
/- The town as its callers get it. -/
set_option linter.unusedVariables false
set_option linter.unusedSimpArgs false
namespace Go.Proofs.Ytjopiefojicblaa
open Go.ChangeShapes Go.WideShapes Go.ChangeAt Go.RowKit
theorem mayB_wf {ns bs : List (Int × Int)} {es : List (Int × Int × Int)} (h : mayB ns es bs = true) :
    (∀ x ∈ ns, (Lit.int .i64 x.1).wf = true ∧ (Lit.int .i64 x.2).wf = true) ∧ (∀ x ∈ es, (Lit.int .i64 x.1).wf = true ∧ (Lit.int .i64 x.2.1).wf = true ∧ (Lit.int .i64 x.2.2).wf = true) ∧ (∀ x ∈ bs, (Lit.int .i64 x.1).wf = true ∧ (Lit.int .i64 x.2).wf = true) := by
  obtain ⟨_, ⟨s1, s2, s3, s4⟩, _, _⟩ := mayB_parts h
  unfold mayB at h
  simp only [Bool.and_eq_true] at h
  obtain ⟨⟨⟨h1, h2⟩, h3⟩, h4⟩ := h
  refine ⟨fun x hx => ?_, fun x hx => ?_, fun x hx => ?_⟩
  · have := List.all_eq_true.1 h2 x hx
    unfold nodeOk inB at this
    simp only [Bool.and_eq_true, decide_eq_true_eq] at this
    exact ⟨wf_of (by omega) (by omega), wf_of (by omega) (by omega)⟩
  · have := List.all_eq_true.1 h3 x hx
    unfold edgeOk inB at this
    simp only [Bool.and_eq_true, decide_eq_true_eq] at this
    exact ⟨wf_of (by omega) (by omega), wf_of (by omega) (by omega), wf_of (by omega) (by omega)⟩
  · obtain ⟨i, hi, rfl⟩ := List.getElem_of_mem hx
    have := List.all_eq_true.1 h4 i (List.mem_range.2 hi)
    have e : bs.getD i (0, 0) = bs[i] := by rw [List.getD_eq_getElem?_getD, List.getElem?_eq_getElem hi]; rfl
    unfold banOk at this
    rw [e] at this
    unfold inB at this
    simp only [Bool.and_eq_true, decide_eq_true_eq] at this
    obtain ⟨⟨⟨⟨a1, a2⟩, a3, a4⟩, _⟩, _⟩ := this
    exact ⟨wf_of (by omega) (by omega), wf_of (by omega) (by omega)⟩
theorem own_lt2 {w : World} {B b o : Nat} {e : TypeId} {size n m c : Nat} {xs : List Value} (h : w.ownsRow B e size (.slice (some ⟨b, o, none⟩) n c) m xs) : B ≤ b ∧ b < w.heap.size := by
  rcases h.2 with ⟨h0, _⟩ | ⟨g, c, cur, e, hb, hg, _⟩
  · cases h0
  · injection e with e1 _ _
    injection e1 with e1
    injection e1 with e1 _ _
    subst e1
    refine ⟨hb, ?_⟩
    rcases Nat.lt_or_ge b w.heap.size with h1 | h1
    · exact h1
    · rw [Array.getElem?_eq_none h1] at hg; cases hg
/-- a town in memory: three slices that the call has made -/
structure TownR (w w1 : World) (A1 A2 A3 : Option Addr) (c1 c2 c3 : Nat) (ns : List (Int × Int)) (es : List (Int × Int × Int)) (bs : List (Int × Int)) : Prop where
  rN : ReadsP w1 A1 ns.length c1 ns
  rE : ReadsT w1 A2 es.length c2 es
  rB : ReadsP w1 A3 bs.length c3 bs
  nw : ∀ b o, A1 = some ⟨b, o, none⟩ ∨ A2 = some ⟨b, o, none⟩ ∨ A3 = some ⟨b, o, none⟩ → w.heap.size ≤ b ∧ b < w1.heap.size
  below : Below w.heap.size w w1
theorem town_call {A : Option Addr} {n c : Nat} {xs : List Int} {w : World} (h : ReadsI w A n c xs) :
    Calls Try.prog 42 #[.slice A n c] w fun e w' => ∃ A1 A2 A3 c1 c2 c3, e = .returned (.agg #[.slice A1 (townN xs).length c1, .slice A2 (townE xs).length c2, .slice A3 (townB xs).length c3]) ∧ TownR w w' A1 A2 A3 c1 c2 c3 (townN xs) (townE xs) (townB xs) := by
  refine (town_any h).mono ?_
  rintro e w1 ⟨sN, sE, sB, wr, rfl, hT, hu⟩
  have hm := town_good xs
  obtain ⟨w1', w2', w3'⟩ := mayB_wf hm
  obtain ⟨_, ⟨s1, s2, s3, s4⟩, _, _⟩ := mayB_parts hm
  obtain ⟨A1, c1, rfl, _⟩ := own_val hT.oN
  obtain ⟨A2, c2, rfl, _⟩ := own_val hT.oE
  obtain ⟨A3, c3, rfl, _⟩ := own_val hT.oB
  have hz := hu.size
  have own : ∀ {e : TypeId} {s n c : Nat} {A : Option Addr} {vs : List Value}, wr.ownsRow (w.heap.size + 2) e s (.slice A n c) n vs → ∀ b o, A = some ⟨b, o, none⟩ → w.heap.size + 2 ≤ b ∧ b < wr.heap.size := by
    intro e s n c A vs hr b o e2
    subst e2
    exact own_lt2 hr
  refine ⟨A1, A2, A3, c1, c2, c3, rfl, ?_, ?_, ?_, ?_, ?_⟩
  · exact (ReadsP.of_row hT.oN (by unfold maxLen; omega) w1').upd hu fun b o e h => by have := own hT.oN b o e; omega
  · exact (ReadsT.of_row hT.oE (by unfold maxLen; omega) w2').upd hu fun b o e h => by have := own hT.oE b o e; omega
  · exact (ReadsP.of_row hT.oB (by unfold maxLen; omega) w3').upd hu fun b o e h => by have := own hT.oB b o e; omega
  · rintro b o (e | e | e)
    · have := own hT.oN b o e; omega
    · have := own hT.oE b o e; omega
    · have := own hT.oB b o e; omega
  · exact hT.below.trans (hu.below hT.below.size fun k hk e => by omega)
end Go.Proofs.Ytjopiefojicblaa
/- graph.New. -/
set_option linter.unusedVariables false
set_option linter.unusedSimpArgs false
namespace Go.Proofs.Ytjopiefojicblaa
open Go.ChangeShapes Go.WideShapes Go.ChangeAt Go.RowKit RowP
theorem own_lt {w : World} {B b o : Nat} {e : TypeId} {size n c : Nat} {xs : List Value} (h : w.ownsRow B e size (.slice (some ⟨b, o, none⟩) n c) n xs) : B ≤ b ∧ b < w.heap.size := by
  rcases h.2 with ⟨h0, _⟩ | ⟨g, c, cur, e, hb, hg, _⟩
  · cases h0
  · injection e with e1 _ _
    injection e1 with e1
    injection e1 with e1 _ _
    subst e1
    refine ⟨hb, ?_⟩
    rcases Nat.lt_or_ge b w.heap.size with h1 | h1
    · exact h1
    · rw [Array.getElem?_eq_none h1] at hg; cases hg
set_option maxRecDepth 100000 in
set_option maxHeartbeats 4000000 in
theorem new_bad {A1 A2 A3 : Option Addr} {n1 c1 n2 c2 n3 c3 : Nat} {ns : List (Int × Int)} {es : List (Int × Int × Int)} {bs : List (Int × Int)} {w : World}
    (r1 : ReadsP w A1 n1 c1 ns) (r2 : ReadsT w A2 n2 c2 es) (r3 : ReadsP w A3 n3 c3 bs) (h : mayB ns es bs = false) :
    Calls Try.prog 43 #[.agg #[.slice A1 n1 c1, .slice A2 n2 c2, .slice A3 n3 c3]] w fun e w' => e = .returned (.tuple #[.pointer none, .int .i64 1]) ∧ Below w.heap.size w w' := by
  have hb0 : Below w.heap.size w (w.alloc (.cells #[.slice A1 n1 c1, .slice A2 n2 c2, .slice A3 n3 c3] 29)) := bl_alloc (Below.refl _ _) _
  have hmay := may_any (r1.below hb0) (r2.below hb0) (r3.below hb0)
  rw [h] at hmay
  have HMAY := Lib.hid hmay
  have HB0 := Lib.hid hb0
  clear r1 r2 r3 h hmay hb0
  go_enter Try.func43, Try.ntmps43
  go_wp2_with fail
  refine HMAY.out.mono ?_
  rintro e w1 ⟨rfl, hb1⟩
  have hbw := HB0.out.trans (hb1.mono HB0.out.size)
  have HBW := Lib.hid hbw
  clear hb1 hbw
  go_wp2_with fail
  go_ret2
  exact ⟨rfl, HBW.out⟩
set_option maxRecDepth 100000 in
set_option maxHeartbeats 16000000 in
theorem new_ok {A1 A2 A3 : Option Addr} {n1 c1 n2 c2 n3 c3 : Nat} {ns : List (Int × Int)} {es : List (Int × Int × Int)} {bs : List (Int × Int)} {w : World}
    (r1 : ReadsP w A1 n1 c1 ns) (r2 : ReadsT w A2 n2 c2 es) (r3 : ReadsP w A3 n3 c3 bs) (h : mayB ns es bs = true) :
    Calls Try.prog 43 #[.agg #[.slice A1 n1 c1, .slice A2 n2 c2, .slice A3 n3 c3]] w fun e w' => ∃ p, e = .returned (.tuple #[.pointer (some ⟨p, 0, none⟩), .int .i64 0]) ∧ GraphAt w' w.heap.size w'.heap.size p ns es bs ∧ Below w.heap.size w w' := by
  obtain ⟨hsz, hsm, hfr, hto⟩ := mayB_parts h
  have hb0 : Below w.heap.size w (w.alloc (.cells #[.slice A1 n1 c1, .slice A2 n2 c2, .slice A3 n3 c3] 29)) := bl_alloc (Below.refl _ _) _
  have hmay := may_any (r1.below hb0) (r2.below hb0) (r3.below hb0)
  rw [h] at hmay
  have hc := fun j v hv => cell_three_new (w := w) (x := .slice A1 n1 c1) (y := .slice A2 n2 c2) (z := .slice A3 n3 c3) (t := 29) j v hv
  have l1 := r1.len
  have l2 := r2.len
  have l3 := r3.len
  have s1 : n1 ≤ 256 := by omega
  have s2 : n2 ≤ 512 := by omega
  have s3 : n3 ≤ 1024 := by omega
  have R1 := Lib.hid r1
  have R2 := Lib.hid r2
  have R3 := Lib.hid r3
  have HOK := Lib.hid h
  have HFR : Hid (∀ i, i < n2 → (es.getD i (0, 0, 0)).1 = (fromN es i : Nat) ∧ fromN es i < n1) := Lib.hid (by rw [← l1, ← l2]; exact hfr)
  have HTO : Hid (∀ i, i < n2 → (es.getD i (0, 0, 0)).2.1 = (toN es i : Nat) ∧ toN es i < n1) := Lib.hid (by rw [← l1, ← l2]; exact hto)
  have HMAY := Lib.hid hmay
  have HB0 := Lib.hid hb0
  have HC := Lib.hid hc
  have L1 := Lib.hid l1
  have L2 := Lib.hid l2
  have L3 := Lib.hid l3
  have ce0 := hc 0 _ rfl
  have ce1 := hc 1 _ rfl
  have ce2 := hc 2 _ rfl
  clear r1 r2 r3 h hmay hb0 hsz hsm hfr hto hc l1 l2 l3
  go_enter Try.func43, Try.ntmps43
  go_wp2_with fail
  refine HMAY.out.mono ?_
  rintro e w1 ⟨rfl, hb1⟩
  have d0 : w1.cell? ⟨w.heap.size, 0, none⟩ = some (.slice A1 n1 c1) := cell_below (HC.out 0 _ rfl) hb1
  have d1 : w1.cell? ⟨w.heap.size, 1, none⟩ = some (.slice A2 n2 c2) := cell_below (HC.out 1 _ rfl) hb1
  have d2 : w1.cell? ⟨w.heap.size, 2, none⟩ = some (.slice A3 n3 c3) := cell_below (HC.out 2 _ rfl) hb1
  have hbw := HB0.out.trans (hb1.mono HB0.out.size)
  have HBW := Lib.hid hbw
  have D0 := Lib.hid (cell_below d0 (bl_drew (Below.refl _ _)))
  have D1 := Lib.hid (cell_below d1 (bl_drew (Below.refl _ _)))
  have D2 := Lib.hid (cell_below d2 (bl_drew (Below.refl _ _)))
  clear hb1 hbw ce0 ce1 ce2 HC
  go_wp2_with fail
  go_region_held3 (fun w' => w'.cell? ⟨w.heap.size, 0, none⟩ = some (.slice A1 n1 c1) ∧ w'.cell? ⟨w.heap.size, 1, none⟩ = some (.slice A2 n2 c2) ∧ w'.cell? ⟨w.heap.size, 2, none⟩ = some (.slice A3 n3 c3))
    (first | exact ⟨d0, d1, d2⟩ | exact ⟨p0, p1, p2⟩ | exact ⟨q0, q1, q2⟩ | exact ⟨r0, r1, r2⟩ | exact ⟨cell_below r0 (bl_alloc (Below.refl _ _) _), cell_below r1 (bl_alloc (Below.refl _ _) _), cell_below r2 (bl_alloc (Below.refl _ _) _)⟩)
    (first
      | (go_at_call 66
         refine (clone_node (R1.out.below (bl_drew HBW.out)) (by omega)).mono ?_
         rintro e w2 ⟨A1', c1', rfl, hown1, hb2, _⟩
         have p0 := cell_below D0.out hb2
         have p1 := cell_below D1.out hb2
         have p2 := cell_below D2.out hb2
         have hbw2 := (bl_drew HBW.out).trans (hb2.mono HBW.out.size)
         have HOWN1 := Lib.hid hown1
         have HBW2 := Lib.hid hbw2
         have P0 := Lib.hid p0
         have P1 := Lib.hid p1
         have P2 := Lib.hid p2
         clear hown1 hb2 hbw2)
      | (go_at_call 67
         refine (clone_edge (R2.out.below HBW2.out) (by omega)).mono ?_
         rintro e w3 ⟨A2', c2', rfl, hown2, hb3, _⟩
         have q0 := cell_below P0.out hb3
         have q1 := cell_below P1.out hb3
         have q2 := cell_below P2.out hb3
         have hbw3 := HBW2.out.trans (hb3.mono HBW2.out.size)
         have HOWN2 := Lib.hid hown2
         have HBW3 := Lib.hid hbw3
         have HST3 := Lib.hid hb3
         have Q0 := Lib.hid q0
         have Q1 := Lib.hid q1
         have Q2 := Lib.hid q2
         clear hown2 hb3 hbw3)
      | (go_at_call 68
         refine (clone_ban (R3.out.below HBW3.out) (by omega)).mono ?_
         rintro e w4 ⟨A3', c3', rfl, hown3, hb4, _⟩
         have r0 := cell_below Q0.out hb4
         have r1 := cell_below Q1.out hb4
         have r2 := cell_below Q2.out hb4
         have hbw4 := HBW3.out.trans (hb4.mono HBW3.out.size)
         have HOWN3 := Lib.hid hown3
         have HBW4 := Lib.hid hbw4
         have HST4 := Lib.hid hb4
         clear hown3 hb4 hbw4))
  have x0 := cell_below r0 (bl_alloc (Below.refl _ _) (.cells #[.slice A1' n1 c1', .slice A2' n2 c2', .slice A3' n3 c3', .slice none 0 0, .slice none 0 0, .slice none 0 0, .slice none 0 0] 102))
  have x1 := cell_below r1 (bl_alloc (Below.refl _ _) (.cells #[.slice A1' n1 c1', .slice A2' n2 c2', .slice A3' n3 c3', .slice none 0 0, .slice none 0 0, .slice none 0 0, .slice none 0 0] 102))
  have x2 := cell_below r2 (bl_alloc (Below.refl _ _) (.cells #[.slice A1' n1 c1', .slice A2' n2 c2', .slice A3' n3 c3', .slice none 0 0, .slice none 0 0, .slice none 0 0, .slice none 0 0] 102))
  have hp : (w4.alloc (.cells #[.slice A1' n1 c1', .slice A2' n2 c2', .slice A3' n3 c3', .slice none 0 0, .slice none 0 0, .slice none 0 0, .slice none 0 0] 102)).heap[w4.heap.size]? = some (.cells #[.slice A1' n1 c1', .slice A2' n2 c2', .slice A3' n3 c3', .slice none 0 0, .slice none 0 0, .slice none 0 0, .slice none 0 0] 102) := by
    show (w4.heap.push _)[w4.heap.size]? = _; simp
  have hb5 := bl_alloc HBW4.out (.cells #[.slice A1' n1 c1', .slice A2' n2 c2', .slice A3' n3 c3', .slice none 0 0, .slice none 0 0, .slice none 0 0, .slice none 0 0] 102)
  have k5 := bl_alloc (Below.refl w4.heap.size w4) (.cells #[.slice A1' n1 c1', .slice A2' n2 c2', .slice A3' n3 c3', .slice none 0 0, .slice none 0 0, .slice none 0 0, .slice none 0 0] 102)
  have hz5 := size_alloc w4 (.cells #[.slice A1' n1 c1', .slice A2' n2 c2', .slice A3' n3 c3', .slice none 0 0, .slice none 0 0, .slice none 0 0, .slice none 0 0] 102)
  obtain ⟨w5, hw5⟩ : ∃ w5, w5 = w4.alloc (.cells #[.slice A1' n1 c1', .slice A2' n2 c2', .slice A3' n3 c3', .slice none 0 0, .slice none 0 0, .slice none 0 0, .slice none 0 0] 102) := ⟨_, rfl⟩
  rw [← hw5] at x0 x1 x2 hp hb5 k5 hz5 ⊢
  obtain ⟨p, hpp⟩ : ∃ p, p = w4.heap.size := ⟨_, rfl⟩
  have HPP := Lib.hid hpp
  rw [← hpp] at hp hz5 ⊢
  have X0 := Lib.hid x0
  have X1 := Lib.hid x1
  have X2 := Lib.hid x2
  have HP := Lib.hid hp
  have HB5 := Lib.hid hb5
  have K5 := Lib.hid k5
  have HZ5 := Lib.hid hz5
  have hgp : w.heap.size < p := by have := HBW4.out.size; have h2 := World.block_lt_of_cell? _ _ r0; rw [hpp]; exact h2
  clear d0 d1 d2 p0 p1 p2 q0 q1 q2 r0 r1 r2 D0 D1 D2 P0 P1 P2 Q0 Q1 Q2 hp hb5 k5 hz5 hw5 hpp
  (try clear hHeld hHeld2 hHeld3 hHeld4)
  go_wp2_with fail
  refine (rows_from s1 s2 (R2.out.below HB5.out) HFR.out).mono ?_
  rintro e w6 ⟨RO, XF, bO, bF, cF, rfl, hio, hif, go1, gf1, hne, hso, hb6⟩
  have hp6 := (hb6.block p (by rw [HZ5.out]; omega)).trans HP.out
  have f3 := block_fr hp6 3
  have hp6b := block_set hp6 3 (.slice (some ⟨bO, 0, none⟩) n2 n2)
  have f5 := block_fr hp6b 5
  have y3 := block_cell hp6 (j := 3) rfl
  have y5 := block_cell hp6b (j := 5) rfl
  have hpw : p ≠ w.heap.size := by omega
  have v0 := (World.cell?_setCell_far (w6.setCell ⟨p, 3, none⟩ (.slice (some ⟨bO, 0, none⟩) n2 n2)) ⟨p, 5, none⟩ ⟨w.heap.size, 0, none⟩ (.slice (some ⟨bF, 0, none⟩) (n1 + 1) cF) hpw).trans ((World.cell?_setCell_far w6 ⟨p, 3, none⟩ ⟨w.heap.size, 0, none⟩ (.slice (some ⟨bO, 0, none⟩) n2 n2) hpw).trans (cell_below X0.out hb6))
  have v1 := (World.cell?_setCell_far (w6.setCell ⟨p, 3, none⟩ (.slice (some ⟨bO, 0, none⟩) n2 n2)) ⟨p, 5, none⟩ ⟨w.heap.size, 1, none⟩ (.slice (some ⟨bF, 0, none⟩) (n1 + 1) cF) hpw).trans ((World.cell?_setCell_far w6 ⟨p, 3, none⟩ ⟨w.heap.size, 1, none⟩ (.slice (some ⟨bO, 0, none⟩) n2 n2) hpw).trans (cell_below X1.out hb6))
  have v2 := (World.cell?_setCell_far (w6.setCell ⟨p, 3, none⟩ (.slice (some ⟨bO, 0, none⟩) n2 n2)) ⟨p, 5, none⟩ ⟨w.heap.size, 2, none⟩ (.slice (some ⟨bF, 0, none⟩) (n1 + 1) cF) hpw).trans ((World.cell?_setCell_far w6 ⟨p, 3, none⟩ ⟨w.heap.size, 2, none⟩ (.slice (some ⟨bO, 0, none⟩) n2 n2) hpw).trans (cell_below X2.out hb6))
  have hp7 := block_set hp6b 5 (.slice (some ⟨bF, 0, none⟩) (n1 + 1) cF)
  have hu7 : Upd (fun b => b = p) w6 ((w6.setCell ⟨p, 3, none⟩ (.slice (some ⟨bO, 0, none⟩) n2 n2)).setCell ⟨p, 5, none⟩ (.slice (some ⟨bF, 0, none⟩) (n1 + 1) cF)) := upd_setCell (F := fun b => b = p) (a := ⟨p, 5, none⟩) (upd_setCell (F := fun b => b = p) (a := ⟨p, 3, none⟩) (Upd.refl _ _) rfl _) rfl _
  have hb7 : Below w.heap.size w ((w6.setCell ⟨p, 3, none⟩ (.slice (some ⟨bO, 0, none⟩) n2 n2)).setCell ⟨p, 5, none⟩ (.slice (some ⟨bF, 0, none⟩) (n1 + 1) cF)) := (HB5.out.trans (hb6.mono HB5.out.size)).trans (hu7.below (Nat.le_trans HB5.out.size hb6.size) fun k hk e => by omega)
  have HP7 := Lib.hid hp7
  have HU7 := Lib.hid hu7
  have HB7 := Lib.hid hb7
  have HIO := Lib.hid hio
  have HIF := Lib.hid hif
  have HSO := Lib.hid hso
  have HB6 := Lib.hid hb6
  have GO1 := Lib.hid go1
  have GF1 := Lib.hid gf1
  clear hp6 hp6b hio hif hso hb6 go1 gf1 x0 x1 x2 hp7 hu7 hb7
  go_wp2_with fail
  obtain ⟨w7, hw7⟩ : ∃ w7, w7 = (w6.setCell ⟨p, 3, none⟩ (.slice (some ⟨bO, 0, none⟩) n2 n2)).setCell ⟨p, 5, none⟩ (.slice (some ⟨bF, 0, none⟩) (n1 + 1) cF) := ⟨_, rfl⟩
  rw [← hw7] at HP7 HU7 HB7 ⊢
  clear hw7 v0 v1 v2 y3 y5 f3 f5
  refine (rows_to s1 s2 (R2.out.below HB7.out) HTO.out).mono ?_
  rintro e w8 ⟨RI, XT, bI, bT, cT, rfl, hii, hit, gi1, gt1, hne2, hsi, hb8⟩
  have hp8 := (hb8.block p (by have := HU7.out.size; have h2 := HB6.out.size; rw [HZ5.out] at h2; omega)).trans HP7.out
  have f4 := block_fr hp8 4
  have hp8b := block_set hp8 4 (.slice (some ⟨bI, 0, none⟩) n2 n2)
  have f6 := block_fr hp8b 6
  have y4 := block_cell hp8 (j := 4) rfl
  have y6 := block_cell hp8b (j := 6) rfl
  have hp9 := block_set hp8b 6 (.slice (some ⟨bT, 0, none⟩) (n1 + 1) cT)
  have HP9 := Lib.hid hp9
  have HII := Lib.hid hii
  have HIT := Lib.hid hit
  have HSI := Lib.hid hsi
  have HB8 := Lib.hid hb8
  have GI1 := Lib.hid gi1
  have GT1 := Lib.hid gt1
  clear hp8 hp8b hp9 hii hit hsi hb8 gi1 gt1
  go_wp2_with fail
  go_ret2
  obtain rfl := L1.out
  obtain rfl := L2.out
  obtain rfl := L3.out
  have hu9 : Upd (fun b => b = p) w8 ((w8.setCell ⟨p, 4, none⟩ (.slice (some ⟨bI, 0, none⟩) es.length es.length)).setCell ⟨p, 6, none⟩ (.slice (some ⟨bT, 0, none⟩) (ns.length + 1) cT)) := upd_setCell (F := fun b => b = p) (a := ⟨p, 6, none⟩) (upd_setCell (F := fun b => b = p) (a := ⟨p, 4, none⟩) (Upd.refl _ _) rfl _) rfl _
  obtain ⟨w9, hw9⟩ : ∃ w9, w9 = (w8.setCell ⟨p, 4, none⟩ (.slice (some ⟨bI, 0, none⟩) es.length es.length)).setCell ⟨p, 6, none⟩ (.slice (some ⟨bT, 0, none⟩) (ns.length + 1) cT) := ⟨_, rfl⟩
  have hp9 := HP9.out
  rw [← hw9] at hu9 hp9 ⊢
  have hu89 := hu9
  have hu79 : Upd (fun b => b = p) w7 w9 := (Upd.of_below HB8.out).trans hu9 (fun _ _ h => h)
  have hu69 : Upd (fun b => b = p) w6 w9 := HU7.out.trans hu79 (fun _ _ h => h)
  have hu59 : Upd (fun b => b = p) w5 w9 := (Upd.of_below HB6.out).trans hu69 (fun _ _ h => h)
  have hu49 : Upd (fun b => b = p) w4 w9 := (Upd.of_below K5.out).trans hu59 (fun _ _ h => h)
  have hu39 : Upd (fun b => b = p) w3 w9 := (Upd.of_below HST4.out).trans hu49 (fun _ _ h => h)
  have hu29 : Upd (fun b => b = p) w2 w9 := (Upd.of_below HST3.out).trans hu39 (fun _ _ h => h)
  have z5 := HZ5.out
  have zp := HPP.out
  have z24 : w2.heap.size ≤ w4.heap.size := Nat.le_trans HST3.out.size HST4.out.size
  have z34 : w3.heap.size ≤ w4.heap.size := HST4.out.size
  have z49 := hu49.size
  have z59 := hu59.size
  have z69 := hu69.size
  have z89 := hu89.size
  have z2 : w.heap.size ≤ w2.heap.size := HBW2.out.size
  have z3 : w.heap.size ≤ w3.heap.size := HBW3.out.size
  have zd : w.heap.size ≤ w1.drew.heap.size := HBW.out.size
  have g1 := GO1.out
  have g2 := GF1.out
  have g3 := GI1.out
  have g4 := GT1.out
  have z57 : w5.heap.size ≤ w7.heap.size := Nat.le_trans HB6.out.size HU7.out.size
  have t1 := HIO.out.lt
  have t2 := HIF.out.lt
  have t3 := HII.out.lt
  have t4 := HIT.out.lt
  refine ⟨p, rfl, ⟨⟨A1', A2', A3', c1', c2', c3', bO, bI, bF, bT, cF, cT, RO, RI, XF, XT⟩, HOK.out, Nat.le_refl _, by omega, by omega, hp9, ?_, ?_, ?_, ?_, ?_, ?_, ?_, ?_, ?_, HSO.out, HSI.out⟩, ?_⟩
  · exact (ReadsP.of_row HOWN1.out R1.out.small R1.out.wf).upd hu29 fun b o e h => by subst h; have h1 := HOWN1.out; rw [e] at h1; have := own_lt h1; omega
  · exact (ReadsT.of_row HOWN2.out R2.out.small R2.out.wf).upd hu39 fun b o e h => by subst h; have h1 := HOWN2.out; rw [e] at h1; have := own_lt h1; omega
  · exact (ReadsP.of_row HOWN3.out R3.out.small R3.out.wf).upd hu49 fun b o e h => by subst h; have h1 := HOWN3.out; rw [e] at h1; have := own_lt h1; omega
  · intro b o e
    dsimp only at e
    rcases e with e | e | e
    · have h1 := HOWN1.out; rw [e] at h1; have := own_lt h1; omega
    · have h1 := HOWN2.out; rw [e] at h1; have := own_lt h1; omega
    · have h1 := HOWN3.out; rw [e] at h1; have := own_lt h1; omega
  · intro b e
    dsimp only at e
    rcases e with rfl | rfl | rfl | rfl <;> omega
  · exact HIO.out.upd hu69 (by omega)
  · exact HII.out.upd hu89 (by omega)
  · exact HIF.out.upd hu69 (by omega)
  · exact HIT.out.upd hu89 (by omega)
  · exact (HB7.out.trans (HB8.out.mono HB7.out.size)).trans (hu89.below (Nat.le_trans HB7.out.size HB8.out.size) fun k hk e => by omega)
end Go.Proofs.Ytjopiefojicblaa
