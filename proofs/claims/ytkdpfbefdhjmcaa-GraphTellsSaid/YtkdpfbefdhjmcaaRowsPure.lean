/- Sorting by counting, on lists alone: what graph.rows comes to. -/
set_option linter.unusedVariables false
set_option linter.unusedSimpArgs false
namespace Go.Proofs.Ytkdpfbefdhjmcaa.RowP
def cnt (f : Nat → Nat) (k v : Nat) : Nat := ((List.range k).filter (fun i => f i == v)).length
def pre (f : Nat → Nat) (m v : Nat) : Nat := ((List.range m).filter (fun i => decide (f i < v))).length
def rowOf (f : Nat → Nat) (k v : Nat) : List Nat := (List.range k).filter (fun i => f i == v)
theorem rowOf_len (f : Nat → Nat) (k v : Nat) : (rowOf f k v).length = cnt f k v := rfl
theorem rowOf_succ (f : Nat → Nat) (k v : Nat) : rowOf f (k + 1) v = if f k = v then rowOf f k v ++ [k] else rowOf f k v := by
  unfold rowOf
  rw [List.range_succ, List.filter_append]
  by_cases h : f k = v <;> simp [h]
theorem cnt_succ (f : Nat → Nat) (k v : Nat) : cnt f (k + 1) v = if f k = v then cnt f k v + 1 else cnt f k v := by
  rw [← rowOf_len, rowOf_succ]
  split <;> simp [rowOf_len]
theorem pre_zero (f : Nat → Nat) (m : Nat) : pre f m 0 = 0 := by simp [pre]
theorem pre_succ (f : Nat → Nat) (m v : Nat) : pre f m (v + 1) = pre f m v + cnt f m v := by
  induction m with
  | zero => rfl
  | succ m ih =>
    rw [cnt_succ]
    unfold pre at *
    rw [List.range_succ, List.filter_append, List.filter_append, List.length_append, List.length_append, ih]
    rcases Nat.lt_trichotomy (f m) v with h | h | h
    · have h1 : f m < v + 1 := by omega
      have h2 : ¬ f m = v := by omega
      simp [h, h1, h2]; omega
    · have h1 : f m < v + 1 := by omega
      have h2 : ¬ f m < v := by omega
      simp [h, h1, h2]; omega
    · have h1 : ¬ f m < v + 1 := by omega
      have h2 : ¬ f m < v := by omega
      have h3 : ¬ f m = v := by omega
      simp [h1, h2, h3]
theorem pre_mono (f : Nat → Nat) (m : Nat) {v u : Nat} (h : v ≤ u) : pre f m v ≤ pre f m u := by
  induction u with
  | zero => rw [show v = 0 by omega]; exact Nat.le_refl _
  | succ u ih =>
    rcases Nat.lt_or_ge v (u + 1) with h1 | h1
    · have := ih (by omega); rw [pre_succ]; omega
    · rw [show v = u + 1 by omega]; exact Nat.le_refl _
theorem pre_le (f : Nat → Nat) (m v : Nat) : pre f m v ≤ m := by
  have := List.length_filter_le (fun i => decide (f i < v)) (List.range m)
  rw [List.length_range] at this
  exact this
theorem pre_all (f : Nat → Nat) (m N : Nat) (h : ∀ i, i < m → f i < N) : pre f m N = m := by
  unfold pre
  rw [List.filter_eq_self.2 (fun i hi => by rw [List.mem_range] at hi; simpa using h i hi), List.length_range]
theorem cnt_mono (f : Nat → Nat) (v : Nat) {k m : Nat} (h : k ≤ m) : cnt f k v ≤ cnt f m v := by
  induction m with
  | zero => rw [show k = 0 by omega]; exact Nat.le_refl _
  | succ m ih =>
    rcases Nat.lt_or_ge k (m + 1) with h1 | h1
    · have := ih (by omega); rw [cnt_succ]; split <;> omega
    · rw [show k = m + 1 by omega]; exact Nat.le_refl _
theorem cnt_lt (f : Nat → Nat) {k m : Nat} (h : k < m) : cnt f k (f k) < cnt f m (f k) := by
  have := cnt_mono f (f k) (show k + 1 ≤ m by omega)
  rw [cnt_succ, if_pos rfl] at this; omega
theorem seg_le (f : Nat → Nat) (m v : Nat) : pre f m v + cnt f m v ≤ m := by rw [← pre_succ]; exact pre_le f m _
theorem getD_set (L : List Int) (i j : Nat) (x d : Int) (hi : i < L.length) : (L.set i x).getD j d = if i = j then x else L.getD j d := by
  rw [List.getD_eq_getElem?_getD, List.getD_eq_getElem?_getD, List.getElem?_set]
  by_cases h : i = j
  · subst h; simp [hi]
  · simp [h]
/-- behind k edges of the first loop -/
structure P1 (f : Nat → Nat) (N k : Nat) (L : List Int) : Prop where
  len : L.length = N + 1
  zero : L.getD 0 0 = 0
  at_ : ∀ v, v < N → L.getD (v + 1) 0 = (cnt f k v : Nat)
theorem P1.start (f : Nat → Nat) (N : Nat) : P1 f N 0 (List.replicate (N + 1) 0) := by
  refine ⟨by simp, ?_, fun v hv => ?_⟩
  · simp [List.getD_eq_getElem?_getD]
  · rw [List.getD_eq_getElem?_getD, List.getElem?_replicate]
    simp [hv, cnt]
theorem P1.step {f : Nat → Nat} {N k : Nat} {L : List Int} (h : P1 f N k L) (hf : f k < N) : P1 f N (k + 1) (L.set (f k + 1) (L.getD (f k + 1) 0 + 1)) := by
  have hl := h.len
  refine ⟨by rw [List.length_set, hl], ?_, fun v hv => ?_⟩
  · rw [getD_set _ _ _ _ _ (by omega), if_neg (by omega), h.zero]
  · rw [getD_set _ _ _ _ _ (by omega), cnt_succ]
    by_cases e : f k = v
    · subst e; rw [if_pos rfl, if_pos rfl, h.at_ _ hv]; omega
    · rw [if_neg (by omega), if_neg e, h.at_ _ hv]
theorem P1.small {f : Nat → Nat} {N k : Nat} {L : List Int} (h : P1 f N k L) (v : Nat) (hv : v < N) : 0 ≤ L.getD (v + 1) 0 ∧ L.getD (v + 1) 0 ≤ k := by
  rw [h.at_ v hv]
  have := List.length_filter_le (fun i => f i == v) (List.range k)
  rw [List.length_range] at this
  have h2 : cnt f k v ≤ k := this
  omega
/-- behind i nodes of the second loop -/
structure P2 (f : Nat → Nat) (N m i : Nat) (L : List Int) : Prop where
  len : L.length = N + 1
  lo : ∀ v, v ≤ i → L.getD v 0 = (pre f m v : Nat)
  hi : ∀ v, i ≤ v → v < N → L.getD (v + 1) 0 = (cnt f m v : Nat)
theorem P2.start {f : Nat → Nat} {N m : Nat} {L : List Int} (h : P1 f N m L) : P2 f N m 0 L :=
  ⟨h.len, fun v hv => by rw [show v = 0 by omega, h.zero, pre_zero]; rfl, fun v _ hv => h.at_ v hv⟩
theorem P2.step {f : Nat → Nat} {N m i : Nat} {L : List Int} (h : P2 f N m i L) (hi : i < N) : P2 f N m (i + 1) (L.set (i + 1) (L.getD (i + 1) 0 + L.getD i 0)) := by
  have hl := h.len
  refine ⟨by rw [List.length_set, hl], fun v hv => ?_, fun v h1 h2 => ?_⟩
  · rw [getD_set _ _ _ _ _ (by omega)]
    by_cases e : i + 1 = v
    · subst e; rw [if_pos rfl, h.hi i (Nat.le_refl _) hi, h.lo i (Nat.le_refl _), pre_succ]; omega
    · rw [if_neg e, h.lo v (by omega)]
  · rw [getD_set _ _ _ _ _ (by omega), if_neg (by omega), h.hi v (by omega) h2]
theorem P2.small {f : Nat → Nat} {N m i : Nat} {L : List Int} (h : P2 f N m i L) (hi : i < N) : (0 ≤ L.getD (i + 1) 0 ∧ L.getD (i + 1) 0 ≤ m) ∧ 0 ≤ L.getD i 0 ∧ L.getD i 0 ≤ m := by
  rw [h.hi i (Nat.le_refl _) hi, h.lo i (Nat.le_refl _)]
  have := seg_le f m i
  omega
/-- behind k edges of the third loop -/
structure P3 (f : Nat → Nat) (N m k : Nat) (R X : List Int) : Prop where
  lenR : R.length = m
  lenX : X.length = N + 1
  nx : ∀ v, v < N → X.getD v 0 = ((pre f m v + cnt f k v : Nat) : Int)
  row : ∀ v, v < N → ∀ j, j < cnt f k v → R.getD (pre f m v + j) 0 = (((rowOf f k v).getD j 0 : Nat) : Int)
theorem P3.start {f : Nat → Nat} {N m : Nat} {X : List Int} (h : P2 f N m N X) : P3 f N m 0 (List.replicate m 0) X :=
  ⟨by simp, h.len, fun v hv => by rw [h.lo v (by omega)]; simp [cnt], fun v _ j hj => by simp [cnt] at hj⟩
theorem P3.place {f : Nat → Nat} {N m k : Nat} {R X : List Int} (h : P3 f N m k R X) (hk : k < m) (hf : f k < N) : X.getD (f k) 0 = ((pre f m (f k) + cnt f k (f k) : Nat) : Int) ∧ pre f m (f k) + cnt f k (f k) < m := by
  refine ⟨h.nx _ hf, ?_⟩
  have h1 := cnt_lt f hk
  have h2 := seg_le f m (f k)
  omega
theorem P3.step {f : Nat → Nat} {N m k : Nat} {R X : List Int} (h : P3 f N m k R X) (hk : k < m) (hf : f k < N) :
    P3 f N m (k + 1) (R.set (pre f m (f k) + cnt f k (f k)) (k : Nat)) (X.set (f k) (X.getD (f k) 0 + 1)) := by
  have hp := (h.place hk hf).2
  have hR := h.lenR
  have hX := h.lenX
  have h1 := cnt_lt f hk
  refine ⟨by rw [List.length_set, hR], by rw [List.length_set, hX], fun v hv => ?_, fun v hv j hj => ?_⟩
  · rw [getD_set _ _ _ _ _ (by omega), cnt_succ]
    by_cases e : f k = v
    · subst e; rw [if_pos rfl, if_pos rfl, h.nx _ hv]; omega
    · rw [if_neg e, if_neg e, h.nx _ hv]
  · rw [getD_set _ _ _ _ _ (by omega), rowOf_succ]
    rw [cnt_succ] at hj
    by_cases e : f k = v
    · subst e
      rw [if_pos rfl] at hj ⊢
      by_cases ej : j = cnt f k (f k)
      · subst ej
        rw [if_pos rfl, List.getD_eq_getElem?_getD, List.getElem?_append_right (by rw [rowOf_len]; exact Nat.le_refl _), rowOf_len]
        simp
      · rw [if_neg (by omega), h.row _ hv j (by omega), List.getD_eq_getElem?_getD, List.getD_eq_getElem?_getD, List.getElem?_append_left (by rw [rowOf_len]; omega)]
    · rw [if_neg e] at hj ⊢
      rw [if_neg, h.row v hv j hj]
      intro ee
      have c1 := cnt_mono f v (show k ≤ m by omega)
      rcases Nat.lt_or_ge (f k) v with h3 | h3
      · have := pre_mono f m (show f k + 1 ≤ v by omega)
        rw [pre_succ] at this; omega
      · have := pre_mono f m (show v + 1 ≤ f k by omega)
        rw [pre_succ] at this; omega
/-- the rows and where each begins -/
structure Sorted (f : Nat → Nat) (N m : Nat) (R X : List Int) : Prop where
  lenR : R.length = m
  lenX : X.length = N + 1
  first : ∀ v, v ≤ N → X.getD v 0 = (pre f m v : Nat)
  row : ∀ v, v < N → ∀ j, j < cnt f m v → R.getD (pre f m v + j) 0 = (((rowOf f m v).getD j 0 : Nat) : Int)
theorem Sorted.of {f : Nat → Nat} {N m : Nat} {R X L : List Int} (h : P3 f N m m R L) (h2 : P2 f N m N X) : Sorted f N m R X := ⟨h.lenR, h2.len, h2.lo, h.row⟩
end Go.Proofs.Ytkdpfbefdhjmcaa.RowP
