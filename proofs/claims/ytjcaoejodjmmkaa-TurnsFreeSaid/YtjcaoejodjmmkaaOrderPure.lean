/- Bans swapped, an edge more, a ban that is none: on lists alone. -/
import Derived.Test.YtjcaoejodjmmkaaBanned
set_option linter.unusedVariables false
set_option linter.unusedSimpArgs false
namespace Go.Proofs.Ytjcaoejodjmmkaa
open Go.RowKit RowP
theorem getD_set2 {α : Type} (l : List α) (i j : Nat) (x d : α) (hi : i < l.length) : (l.set i x).getD j d = if i = j then x else l.getD j d := by
  rw [List.getD_eq_getElem?_getD, List.getD_eq_getElem?_getD, List.getElem?_set]
  split
  · rename_i h; subst h; simp [hi]
  · rfl
def swapL (bs : List (Int × Int)) (x y : Nat) : List (Int × Int) := (bs.set x (bs.getD y (0, 0))).set y (bs.getD x (0, 0))
theorem swapL_len (bs : List (Int × Int)) (x y : Nat) : (swapL bs x y).length = bs.length := by simp [swapL]
theorem swapL_same (bs : List (Int × Int)) (x : Nat) : swapL bs x x = bs := by
  unfold swapL
  rw [List.set_set]
  rcases Nat.lt_or_ge x bs.length with h | h
  · rw [List.getD_eq_getElem?_getD, List.getElem?_eq_getElem h]; exact List.set_getElem_self h
  · rw [List.set_eq_of_length_le h]
theorem ordI_asymm {a b : Int × Int} (h : ordI a b < 0) : ¬ ordI b a < 0 := by rw [ordI_neg_iff] at *; omega
theorem swapL_bad {ns bs : List (Int × Int)} {es : List (Int × Int × Int)} (h : mayB ns es bs = true) {x y : Nat} (hx : x < bs.length) (hy : y < bs.length) (hne : x ≠ y) : mayB ns es (swapL bs x y) = false := by
  cases hm : mayB ns es (swapL bs x y) with
  | false => rfl
  | true =>
    exfalso
    have r1 := rising_of h
    have r2 := rising_of hm
    have gx : (swapL bs x y).getD x (0, 0) = bs.getD y (0, 0) := by
      unfold swapL; rw [getD_set2 _ _ _ _ _ (by simpa using hy), if_neg (fun e => hne e.symm), getD_set2 _ _ _ _ _ hx, if_pos rfl]
    have gy : (swapL bs x y).getD y (0, 0) = bs.getD x (0, 0) := by
      unfold swapL; rw [getD_set2 _ _ _ _ _ (by simpa using hy), if_pos rfl]
    rcases Nat.lt_or_gt_of_ne hne with h1 | h1
    · have a1 := r1 x y h1 hy
      have a2 := r2 x y h1 (by rw [swapL_len]; exact hy)
      rw [gx, gy] at a2
      exact ordI_asymm a1 a2
    · have a1 := r1 y x h1 hx
      have a2 := r2 y x h1 (by rw [swapL_len]; exact hx)
      rw [gx, gy] at a2
      exact ordI_asymm a1 a2
theorem ban_bd {ns bs : List (Int × Int)} {es : List (Int × Int × Int)} (h : mayB ns es bs = true) {i : Nat} (hi : i < bs.length) : banOk es bs i = true := by
  unfold mayB at h
  simp only [Bool.and_eq_true] at h
  exact List.all_eq_true.1 h.2 i (List.mem_range.2 hi)
theorem getD_app {es : List (Int × Int × Int)} {x : Int × Int × Int} {q : Nat} (h : q < es.length) : (es ++ [x]).getD q (0, 0, 0) = es.getD q (0, 0, 0) := by
  rw [List.getD_eq_getElem?_getD, List.getD_eq_getElem?_getD, List.getElem?_append_left h]
theorem more_edges {ns bs : List (Int × Int)} {es : List (Int × Int × Int)} (h : mayB ns es bs = true) (hl : es.length < 512) : mayB ns (es ++ [(0, 0, 1)]) bs = true := by
  obtain ⟨_, ⟨s1, s2, s3, s4⟩, _, _⟩ := mayB_parts h
  have hb := fun i hi => ban_bd h (i := i) hi
  unfold mayB at h ⊢
  simp only [Bool.and_eq_true] at h ⊢
  obtain ⟨⟨⟨h1, h2⟩, h3⟩, h4⟩ := h
  refine ⟨⟨⟨?_, h2⟩, ?_⟩, ?_⟩
  · unfold sizeOk inB; simp only [Bool.and_eq_true, decide_eq_true_eq, List.length_append, List.length_cons, List.length_nil]; omega
  · rw [List.all_append, h3]
    unfold edgeOk inB
    simp; omega
  · refine List.all_eq_true.2 fun i hi => ?_
    have := hb i (List.mem_range.1 hi)
    unfold banOk inB at this ⊢
    simp only [Bool.and_eq_true, decide_eq_true_eq, List.length_append, List.length_cons, List.length_nil] at this ⊢
    obtain ⟨⟨⟨⟨a1, a2⟩, a3, a4⟩, a5⟩, a6⟩ := this
    refine ⟨⟨⟨⟨a1, by omega⟩, a3, by omega⟩, ?_⟩, a6⟩
    rw [getD_app (by omega), getD_app (by omega)]
    exact a5
theorem more_bans (ns bs : List (Int × Int)) (es : List (Int × Int × Int)) : mayB ns es (bs ++ [(0, (es.length : Int))]) = false := by
  unfold mayB
  rw [show (List.range (bs ++ [((0 : Int), (es.length : Int))]).length).all (banOk es (bs ++ [(0, (es.length : Int))])) = false from ?_]
  · simp
  · rw [List.all_eq_false]
    refine ⟨bs.length, by simp, ?_⟩
    have e : (bs ++ [((0 : Int), (es.length : Int))]).getD bs.length (0, 0) = (0, (es.length : Int)) := by rw [List.getD_eq_getElem?_getD]; simp
    unfold banOk
    rw [e]
    unfold inB
    simp
    omega
theorem swap_cells (bs : List (Int × Int)) (x y : Nat) : ((((flat2 bs).set (x * 2) (.int .i64 (bs.getD y (0, 0)).1)).set (x * 2 + 1) (.int .i64 (bs.getD y (0, 0)).2)).set (y * 2) (.int .i64 (bs.getD x (0, 0)).1)).set (y * 2 + 1) (.int .i64 (bs.getD x (0, 0)).2) = flat2 (swapL bs x y) := by
  unfold swapL
  rw [← flat2_set, ← flat2_set]
where
  flat2_set : ∀ (l : List (Int × Int)) (i : Nat) (x : Int × Int), ((flat2 l).set (i * 2) (.int .i64 x.1)).set (i * 2 + 1) (.int .i64 x.2) = flat2 (l.set i x)
  | [], i, x => by simp [flat2]
  | y :: l, 0, x => by simp [flat2]
  | y :: l, i + 1, x => by
    have ih := flat2_set l i x
    have e0 : flat2 (y :: l) = .int .i64 y.1 :: .int .i64 y.2 :: flat2 l := rfl
    have e1 : flat2 ((y :: l).set (i + 1) x) = .int .i64 y.1 :: .int .i64 y.2 :: flat2 (l.set i x) := rfl
    rw [e0, e1, show (i + 1) * 2 + 1 = (i * 2 + 1) + 1 + 1 by omega, show (i + 1) * 2 = i * 2 + 1 + 1 by omega, List.set_cons_succ, List.set_cons_succ, List.set_cons_succ, List.set_cons_succ, ih]
end Go.Proofs.Ytjcaoejodjmmkaa
