/- Base: Kit, RowsPure, HeapPure, MapV, Heap, Row, Reads, ReadsP, Round, RowsMore, ReadsB, one behind the other. -/
import Derived.Test.YtjopiefojicblaaRows
import Derived.WalkKit
import Derived.WalkSpells
import Derived.WalkLawsBesides
import Derived.WalkSmall
import Derived.Lib.Hide
import Derived.Deep.QuietTactic
import Derived.BigQuiet
import Derived.Maps.OwnSet
import Derived.Maps.OwnOps
import Derived.WideKeyEntry
import Derived.BigRegion
import Derived.ProofKit
import Derived.OpenShut
import Derived.Deep.Slices
import Derived.Deep.Grids
/- Small words for walks over this seat's program: endings, 'Below' composed, cells kept. -/
namespace Go.Proofs.Ytjopiefojicblaa
open Go.RowKit
theorem ret_int {k : IntKind} {a b : Int} (h : a = b) : Ending.returned (.int k a) = .returned (.int k b) := by rw [h]
theorem ret_bool {a b : Bool} (h : a = b) : Ending.returned (.bool a) = .returned (.bool b) := by rw [h]
theorem bl_alloc {w W : World} (h : Below w.heap.size w W) (o : Obj) : Below w.heap.size w (W.alloc o) := h.alloc h.size o
theorem bl_drew {w W : World} (h : Below w.heap.size w W) : Below w.heap.size w W.drew := ⟨h.os, h.tape, h.output, h.size, h.block⟩
theorem bl_drewN {w W : World} (h : Below w.heap.size w W) (n : Nat) : Below w.heap.size w (W.drewN n) := ⟨h.os, h.tape, h.output, h.size, h.block⟩
theorem bl_then {w w1 w2 : World} (h : Below w.heap.size w w1) (k : Below w1.heap.size w1 w2) : Below w.heap.size w w2 :=
  h.trans ⟨k.os, k.tape, k.output, k.size, fun i hi => k.block i (Nat.lt_of_lt_of_le hi h.size)⟩
theorem bcell {W w1 : World} (hb : Below W.heap.size W w1) : (∀ b o, b < W.heap.size → w1.cell? ⟨b, o, none⟩ = W.cell? ⟨b, o, none⟩) ∧ (∀ b o, b < W.heap.size → w1.frozen? ⟨b, o, none⟩ = W.frozen? ⟨b, o, none⟩) :=
  ⟨fun b o h => hb.cell (p := ⟨b, o, none⟩) h, fun b o h => hb.frozen (p := ⟨b, o, none⟩) h⟩
end Go.Proofs.Ytjopiefojicblaa
/- Sorting by counting, on lists alone: what graph.rows comes to. -/
set_option linter.unusedVariables false
set_option linter.unusedSimpArgs false
namespace Go.Proofs.Ytjopiefojicblaa.RowP
def cnt (f : Nat → Nat) (k v : Nat) : Nat := ((List.range k).filter (fun i => f i == v)).length
def pre (f : Nat → Nat) (m v : Nat) : Nat := ((List.range m).filter (fun i => decide (f i < v))).length
def rowOf (f : Nat → Nat) (k v : Nat) : List Nat := (List.range k).filter (fun i => f i == v)
theorem rowOf_len (f : Nat → Nat) (k v : Nat) : (rowOf f k v).length = cnt f k v := rfl
theorem rowOf_succ (f : Nat → Nat) (k v : Nat) : rowOf f (k + 1) v = if f k = v then rowOf f k v ++ [k] else rowOf f k v := by
  unfold rowOf
  rw [List.range_succ, List.filter_append]
  by_cases h : f k = v <;> simp [h]
theorem cnt_succ (f : Nat → Nat) (k v : Nat) : cnt f (k + 1) v = if f k = v then cnt f k v + 1 else cnt f k v := by
  rw [← rowOf_len, rowOf_succ]
  split <;> simp [rowOf_len]
theorem pre_zero (f : Nat → Nat) (m : Nat) : pre f m 0 = 0 := by simp [pre]
theorem pre_succ (f : Nat → Nat) (m v : Nat) : pre f m (v + 1) = pre f m v + cnt f m v := by
  induction m with
  | zero => rfl
  | succ m ih =>
    rw [cnt_succ]
    unfold pre at *
    rw [List.range_succ, List.filter_append, List.filter_append, List.length_append, List.length_append, ih]
    rcases Nat.lt_trichotomy (f m) v with h | h | h
    · have h1 : f m < v + 1 := by omega
      have h2 : ¬ f m = v := by omega
      simp [h, h1, h2]; omega
    · have h1 : f m < v + 1 := by omega
      have h2 : ¬ f m < v := by omega
      simp [h, h1, h2]; omega
    · have h1 : ¬ f m < v + 1 := by omega
      have h2 : ¬ f m < v := by omega
      have h3 : ¬ f m = v := by omega
      simp [h1, h2, h3]
theorem pre_mono (f : Nat → Nat) (m : Nat) {v u : Nat} (h : v ≤ u) : pre f m v ≤ pre f m u := by
  induction u with
  | zero => rw [show v = 0 by omega]; exact Nat.le_refl _
  | succ u ih =>
    rcases Nat.lt_or_ge v (u + 1) with h1 | h1
    · have := ih (by omega); rw [pre_succ]; omega
    · rw [show v = u + 1 by omega]; exact Nat.le_refl _
theorem pre_le (f : Nat → Nat) (m v : Nat) : pre f m v ≤ m := by
  have := List.length_filter_le (fun i => decide (f i < v)) (List.range m)
  rw [List.length_range] at this
  exact this
theorem pre_all (f : Nat → Nat) (m N : Nat) (h : ∀ i, i < m → f i < N) : pre f m N = m := by
  unfold pre
  rw [List.filter_eq_self.2 (fun i hi => by rw [List.mem_range] at hi; simpa using h i hi), List.length_range]
theorem cnt_mono (f : Nat → Nat) (v : Nat) {k m : Nat} (h : k ≤ m) : cnt f k v ≤ cnt f m v := by
  induction m with
  | zero => rw [show k = 0 by omega]; exact Nat.le_refl _
  | succ m ih =>
    rcases Nat.lt_or_ge k (m + 1) with h1 | h1
    · have := ih (by omega); rw [cnt_succ]; split <;> omega
    · rw [show k = m + 1 by omega]; exact Nat.le_refl _
theorem cnt_lt (f : Nat → Nat) {k m : Nat} (h : k < m) : cnt f k (f k) < cnt f m (f k) := by
  have := cnt_mono f (f k) (show k + 1 ≤ m by omega)
  rw [cnt_succ, if_pos rfl] at this; omega
theorem seg_le (f : Nat → Nat) (m v : Nat) : pre f m v + cnt f m v ≤ m := by rw [← pre_succ]; exact pre_le f m _
theorem getD_set (L : List Int) (i j : Nat) (x d : Int) (hi : i < L.length) : (L.set i x).getD j d = if i = j then x else L.getD j d := by
  rw [List.getD_eq_getElem?_getD, List.getD_eq_getElem?_getD, List.getElem?_set]
  by_cases h : i = j
  · subst h; simp [hi]
  · simp [h]
/-- behind k edges of the first loop -/
structure P1 (f : Nat → Nat) (N k : Nat) (L : List Int) : Prop where
  len : L.length = N + 1
  zero : L.getD 0 0 = 0
  at_ : ∀ v, v < N → L.getD (v + 1) 0 = (cnt f k v : Nat)
theorem P1.start (f : Nat → Nat) (N : Nat) : P1 f N 0 (List.replicate (N + 1) 0) := by
  refine ⟨by simp, ?_, fun v hv => ?_⟩
  · simp [List.getD_eq_getElem?_getD]
  · rw [List.getD_eq_getElem?_getD, List.getElem?_replicate]
    simp [hv, cnt]
theorem P1.step {f : Nat → Nat} {N k : Nat} {L : List Int} (h : P1 f N k L) (hf : f k < N) : P1 f N (k + 1) (L.set (f k + 1) (L.getD (f k + 1) 0 + 1)) := by
  have hl := h.len
  refine ⟨by rw [List.length_set, hl], ?_, fun v hv => ?_⟩
  · rw [getD_set _ _ _ _ _ (by omega), if_neg (by omega), h.zero]
  · rw [getD_set _ _ _ _ _ (by omega), cnt_succ]
    by_cases e : f k = v
    · subst e; rw [if_pos rfl, if_pos rfl, h.at_ _ hv]; omega
    · rw [if_neg (by omega), if_neg e, h.at_ _ hv]
theorem P1.small {f : Nat → Nat} {N k : Nat} {L : List Int} (h : P1 f N k L) (v : Nat) (hv : v < N) : 0 ≤ L.getD (v + 1) 0 ∧ L.getD (v + 1) 0 ≤ k := by
  rw [h.at_ v hv]
  have := List.length_filter_le (fun i => f i == v) (List.range k)
  rw [List.length_range] at this
  have h2 : cnt f k v ≤ k := this
  omega
/-- behind i nodes of the second loop -/
structure P2 (f : Nat → Nat) (N m i : Nat) (L : List Int) : Prop where
  len : L.length = N + 1
  lo : ∀ v, v ≤ i → L.getD v 0 = (pre f m v : Nat)
  hi : ∀ v, i ≤ v → v < N → L.getD (v + 1) 0 = (cnt f m v : Nat)
theorem P2.start {f : Nat → Nat} {N m : Nat} {L : List Int} (h : P1 f N m L) : P2 f N m 0 L :=
  ⟨h.len, fun v hv => by rw [show v = 0 by omega, h.zero, pre_zero]; rfl, fun v _ hv => h.at_ v hv⟩
theorem P2.step {f : Nat → Nat} {N m i : Nat} {L : List Int} (h : P2 f N m i L) (hi : i < N) : P2 f N m (i + 1) (L.set (i + 1) (L.getD (i + 1) 0 + L.getD i 0)) := by
  have hl := h.len
  refine ⟨by rw [List.length_set, hl], fun v hv => ?_, fun v h1 h2 => ?_⟩
  · rw [getD_set _ _ _ _ _ (by omega)]
    by_cases e : i + 1 = v
    · subst e; rw [if_pos rfl, h.hi i (Nat.le_refl _) hi, h.lo i (Nat.le_refl _), pre_succ]; omega
    · rw [if_neg e, h.lo v (by omega)]
  · rw [getD_set _ _ _ _ _ (by omega), if_neg (by omega), h.hi v (by omega) h2]
theorem P2.small {f : Nat → Nat} {N m i : Nat} {L : List Int} (h : P2 f N m i L) (hi : i < N) : (0 ≤ L.getD (i + 1) 0 ∧ L.getD (i + 1) 0 ≤ m) ∧ 0 ≤ L.getD i 0 ∧ L.getD i 0 ≤ m := by
  rw [h.hi i (Nat.le_refl _) hi, h.lo i (Nat.le_refl _)]
  have := seg_le f m i
  omega
/-- behind k edges of the third loop -/
structure P3 (f : Nat → Nat) (N m k : Nat) (R X : List Int) : Prop where
  lenR : R.length = m
  lenX : X.length = N + 1
  nx : ∀ v, v < N → X.getD v 0 = ((pre f m v + cnt f k v : Nat) : Int)
  row : ∀ v, v < N → ∀ j, j < cnt f k v → R.getD (pre f m v + j) 0 = (((rowOf f k v).getD j 0 : Nat) : Int)
theorem P3.start {f : Nat → Nat} {N m : Nat} {X : List Int} (h : P2 f N m N X) : P3 f N m 0 (List.replicate m 0) X :=
  ⟨by simp, h.len, fun v hv => by rw [h.lo v (by omega)]; simp [cnt], fun v _ j hj => by simp [cnt] at hj⟩
theorem P3.place {f : Nat → Nat} {N m k : Nat} {R X : List Int} (h : P3 f N m k R X) (hk : k < m) (hf : f k < N) : X.getD (f k) 0 = ((pre f m (f k) + cnt f k (f k) : Nat) : Int) ∧ pre f m (f k) + cnt f k (f k) < m := by
  refine ⟨h.nx _ hf, ?_⟩
  have h1 := cnt_lt f hk
  have h2 := seg_le f m (f k)
  omega
theorem P3.step {f : Nat → Nat} {N m k : Nat} {R X : List Int} (h : P3 f N m k R X) (hk : k < m) (hf : f k < N) :
    P3 f N m (k + 1) (R.set (pre f m (f k) + cnt f k (f k)) (k : Nat)) (X.set (f k) (X.getD (f k) 0 + 1)) := by
  have hp := (h.place hk hf).2
  have hR := h.lenR
  have hX := h.lenX
  have h1 := cnt_lt f hk
  refine ⟨by rw [List.length_set, hR], by rw [List.length_set, hX], fun v hv => ?_, fun v hv j hj => ?_⟩
  · rw [getD_set _ _ _ _ _ (by omega), cnt_succ]
    by_cases e : f k = v
    · subst e; rw [if_pos rfl, if_pos rfl, h.nx _ hv]; omega
    · rw [if_neg e, if_neg e, h.nx _ hv]
  · rw [getD_set _ _ _ _ _ (by omega), rowOf_succ]
    rw [cnt_succ] at hj
    by_cases e : f k = v
    · subst e
      rw [if_pos rfl] at hj ⊢
      by_cases ej : j = cnt f k (f k)
      · subst ej
        rw [if_pos rfl, List.getD_eq_getElem?_getD, List.getElem?_append_right (by rw [rowOf_len]; exact Nat.le_refl _), rowOf_len]
        simp
      · rw [if_neg (by omega), h.row _ hv j (by omega), List.getD_eq_getElem?_getD, List.getD_eq_getElem?_getD, List.getElem?_append_left (by rw [rowOf_len]; omega)]
    · rw [if_neg e] at hj ⊢
      rw [if_neg, h.row v hv j hj]
      intro ee
      have c1 := cnt_mono f v (show k ≤ m by omega)
      rcases Nat.lt_or_ge (f k) v with h3 | h3
      · have := pre_mono f m (show f k + 1 ≤ v by omega)
        rw [pre_succ] at this; omega
      · have := pre_mono f m (show v + 1 ≤ f k by omega)
        rw [pre_succ] at this; omega
/-- the rows and where each begins -/
structure Sorted (f : Nat → Nat) (N m : Nat) (R X : List Int) : Prop where
  lenR : R.length = m
  lenX : X.length = N + 1
  first : ∀ v, v ≤ N → X.getD v 0 = (pre f m v : Nat)
  row : ∀ v, v < N → ∀ j, j < cnt f m v → R.getD (pre f m v + j) 0 = (((rowOf f m v).getD j 0 : Nat) : Int)
theorem Sorted.of {f : Nat → Nat} {N m : Nat} {R X L : List Int} (h : P3 f N m m R L) (h2 : P2 f N m N X) : Sorted f N m R X := ⟨h.lenR, h2.len, h2.lo, h.row⟩
end Go.Proofs.Ytjopiefojicblaa.RowP
/- A binary heap over lists: what rises and sinks, and the sorted list that it stands for. No program here. -/
set_option linter.unusedVariables false
set_option linter.unusedSimpArgs false
namespace Go.Proofs.Ytjopiefojicblaa.HeapP
abbrev It := Int × Int
def ahead (a b : It) : Bool := decide (a.2 < b.2) || (decide (a.2 = b.2) && decide (a.1 < b.1))
def g (l : List It) (k : Nat) : It := l.getD k (0, 0)
def upd (m : Int → Option Nat) (k : Int) (i : Nat) : Int → Option Nat := fun x => if x = k then some i else m x
def del (m : Int → Option Nat) (k : Int) : Int → Option Nat := fun x => if x = k then none else m x

theorem ahead_iff {a b : It} : ahead a b = true ↔ a.2 < b.2 ∨ (a.2 = b.2 ∧ a.1 < b.1) := by simp [ahead]
theorem ahead_asymm {a b : It} (h : ahead a b = true) : ¬ ahead b a = true := by rw [ahead_iff] at *; omega
theorem ahead_trans {a b c : It} (h : ahead a b = true) (h' : ahead b c = true) : ahead a c = true := by rw [ahead_iff] at *; omega
theorem nahead_trans {a b c : It} (h : ¬ ahead a b = true) (h' : ¬ ahead b c = true) : ¬ ahead a c = true := by rw [ahead_iff] at *; omega
theorem ahead_nahead {a b c : It} (h : ahead a b = true) (h' : ¬ ahead c b = true) : ¬ ahead c a = true := by rw [ahead_iff] at *; omega
theorem ahead_tot {a b : It} (h : ¬ ahead a b = true) (hn : a.1 ≠ b.1) : ahead b a = true := by rw [ahead_iff] at *; omega
theorem ahead_irrefl (a : It) : ¬ ahead a a = true := by rw [ahead_iff]; omega

theorem g_set_ne {l : List It} {i k : Nat} {v : It} (h : i ≠ k) : g (l.set i v) k = g l k := by
  simp [g, List.getD_eq_getElem?_getD, List.getElem?_set_ne h]
theorem g_set_eq {l : List It} {i : Nat} {v : It} (h : i < l.length) : g (l.set i v) i = v := by
  simp [g, List.getD_eq_getElem?_getD, h]
theorem g_eq {l : List It} {k : Nat} (h : k < l.length) : g l k = l[k] := by simp [g, List.getD_eq_getElem?_getD, h]
theorem g_mem {l : List It} {k : Nat} (h : k < l.length) : g l k ∈ l := by rw [g_eq h]; exact List.getElem_mem h
theorem mem_g {l : List It} {x : It} (h : x ∈ l) : ∃ k, k < l.length ∧ g l k = x := by
  obtain ⟨k, hk, e⟩ := List.getElem_of_mem h
  exact ⟨k, hk, by rw [g_eq hk, e]⟩

/-! ### up -/
def upS (x : It) (l : List It) (m : Int → Option Nat) (i : Nat) : List It × (Int → Option Nat) :=
  if h : 0 < i ∧ ahead x (g l ((i - 1) / 2)) = true then upS x (l.set i (g l ((i - 1) / 2))) (upd m (g l ((i - 1) / 2)).1 i) ((i - 1) / 2)
  else (l.set i x, upd m x.1 i)
termination_by i
decreasing_by omega

structure Hole (x : It) (l : List It) (m : Int → Option Nat) (i : Nat) : Prop where
  lt : i < l.length
  at_ : ∀ k, k < l.length → k ≠ i → m (g l k).1 = some k
  ne : ∀ k, k < l.length → k ≠ i → (g l k).1 ≠ x.1
  keys : ∀ id j, m id = some j → id = x.1 ∨ ∃ k, k < l.length ∧ k ≠ i ∧ (g l k).1 = id

def Consist (l : List It) (m : Int → Option Nat) : Prop :=
  (∀ k, k < l.length → m (g l k).1 = some k) ∧ ∀ id j, m id = some j → ∃ k, k < l.length ∧ (g l k).1 = id
def HeapOrd (l : List It) : Prop := ∀ k, 0 < k → k < l.length → ¬ ahead (g l k) (g l ((k - 1) / 2)) = true

theorem Hole.move {x : It} {l : List It} {m : Int → Option Nat} {i p : Nat} (h : Hole x l m i) (hp : p < l.length) (hne : p ≠ i) :
    Hole x (l.set i (g l p)) (upd m (g l p).1 i) p := by
  have hlt := h.lt
  have hmp := h.at_ p hp hne
  refine ⟨by simpa using hp, ?_, ?_, ?_⟩
  · intro k hk hkp
    rw [List.length_set] at hk
    by_cases hki : k = i
    · subst hki; rw [g_set_eq hlt]; simp [upd]
    · rw [g_set_ne (Ne.symm hki)]
      have hmk := h.at_ k hk hki
      have : (g l k).1 ≠ (g l p).1 := by intro e; rw [e, hmp] at hmk; injection hmk with e'; exact hkp e'.symm
      simp [upd, this, hmk]
  · intro k hk hkp
    rw [List.length_set] at hk
    by_cases hki : k = i
    · subst hki; rw [g_set_eq hlt]; exact h.ne p hp hne
    · rw [g_set_ne (Ne.symm hki)]; exact h.ne k hk hki
  · intro id j hid
    simp only [upd] at hid
    split at hid
    · rename_i e; right; exact ⟨i, by simpa using hlt, Ne.symm hne, by rw [g_set_eq hlt, e]⟩
    · rename_i e
      rcases h.keys id j hid with h1 | ⟨k, hk, hki, hg⟩
      · exact .inl h1
      · right
        refine ⟨k, by simpa using hk, ?_, by rw [g_set_ne (Ne.symm hki), hg]⟩
        rintro rfl; exact e hg.symm
theorem Hole.fill {x : It} {l : List It} {m : Int → Option Nat} {i : Nat} (h : Hole x l m i) : Consist (l.set i x) (upd m x.1 i) := by
  have hlt := h.lt
  constructor
  · intro k hk
    rw [List.length_set] at hk
    by_cases hki : k = i
    · subst hki; rw [g_set_eq hlt]; simp [upd]
    · rw [g_set_ne (Ne.symm hki)]; simp [upd, h.ne k hk hki, h.at_ k hk hki]
  · intro id j hid
    simp only [upd] at hid
    split at hid
    · rename_i e; exact ⟨i, by simpa using hlt, by rw [g_set_eq hlt, e]⟩
    · rename_i e
      rcases h.keys id j hid with h1 | ⟨k, hk, hki, hg⟩
      · exact absurd h1 e
      · exact ⟨k, by simpa using hk, by rw [g_set_ne (Ne.symm hki), hg]⟩
theorem set_move_perm {l : List It} {i p : Nat} {x : It} (hi : i < l.length) (hp : p < l.length) (hne : p ≠ i) : ((l.set i (g l p)).set p x).Perm (l.set i x) := by
  have hi' : i < (l.set i x).length := by simpa using hi
  have hp' : p < (l.set i x).length := by simpa using hp
  have := List.set_set_perm hi' hp'
  have e1 : (l.set i x)[p] = g l p := by rw [g_eq hp]; simp [Ne.symm hne]
  have e2 : (l.set i x)[i] = x := by simp
  rw [e1, e2, List.set_set] at this
  exact this

structure UpInv (x : It) (l : List It) (i : Nat) : Prop where
  rest : ∀ k, 0 < k → k < l.length → k ≠ i → (k - 1) / 2 ≠ i → ¬ ahead (g l k) (g l ((k - 1) / 2)) = true
  kids : ∀ k, 0 < k → k < l.length → (k - 1) / 2 = i → ¬ ahead (g l k) x = true ∧ (0 < i → ¬ ahead (g l k) (g l ((i - 1) / 2)) = true)

theorem upS_ok (x : It) (l : List It) (m : Int → Option Nat) (i : Nat) (hh : Hole x l m i) (hu : UpInv x l i) :
    Consist (upS x l m i).1 (upS x l m i).2 ∧ HeapOrd (upS x l m i).1 ∧ (upS x l m i).1.Perm (l.set i x) := by
  induction i using Nat.strongRecOn generalizing l m with
  | _ i ih =>
    have hlt := hh.lt
    rw [upS]
    by_cases hc : 0 < i ∧ ahead x (g l ((i - 1) / 2)) = true
    · rw [dif_pos hc]
      obtain ⟨h0, hx⟩ := hc
      have hpi : (i - 1) / 2 < i := by omega
      have hpl : (i - 1) / 2 < l.length := by omega
      have hne : (i - 1) / 2 ≠ i := by omega
      have hu' : UpInv x (l.set i (g l ((i - 1) / 2))) ((i - 1) / 2) := by
        constructor
        · intro k hk0 hk hkp hkk
          rw [List.length_set] at hk
          have hki : k ≠ i := by rintro rfl; exact hkk rfl
          rw [g_set_ne (Ne.symm hki)]
          by_cases hpk : (k - 1) / 2 = i
          · rw [hpk, g_set_eq hlt]; exact (hu.kids k hk0 hk hpk).2 h0
          · rw [g_set_ne (Ne.symm hpk)]; exact hu.rest k hk0 hk hki hpk
        · intro k hk0 hk hkp
          rw [List.length_set] at hk
          have hpp : ∀ h : 0 < (i - 1) / 2, ¬ ahead (g l ((i - 1) / 2)) (g l (((i - 1) / 2 - 1) / 2)) = true := fun h => hu.rest _ h hpl hne (by omega)
          by_cases hki : k = i
          · subst hki; rw [g_set_eq hlt]
            refine ⟨ahead_asymm hx, fun h => ?_⟩
            rw [g_set_ne (by omega)]; exact hpp h
          · rw [g_set_ne (Ne.symm hki)]
            have hkv := hu.rest k hk0 hk hki (by omega)
            rw [hkp] at hkv
            refine ⟨fun h => hkv (ahead_trans h hx), fun h => ?_⟩
            rw [g_set_ne (by omega)]; exact nahead_trans hkv (hpp h)
      obtain ⟨a, b, c⟩ := ih _ hpi _ _ (hh.move hpl hne) hu'
      exact ⟨a, b, c.trans (set_move_perm hlt hpl hne)⟩
    · rw [dif_neg hc]
      refine ⟨hh.fill, ?_, List.Perm.refl _⟩
      intro k hk0 hk
      rw [List.length_set] at hk
      by_cases hki : k = i
      · subst hki
        rw [g_set_eq hlt, g_set_ne (by omega)]
        exact fun h => hc ⟨hk0, h⟩
      · rw [g_set_ne (Ne.symm hki)]
        by_cases hpk : (k - 1) / 2 = i
        · rw [hpk, g_set_eq hlt]; exact (hu.kids k hk0 hk hpk).1
        · rw [g_set_ne (Ne.symm hpk)]; exact hu.rest k hk0 hk hki hpk

/-! ### down -/
def child (l : List It) (i : Nat) : Nat := if 2 * i + 1 + 1 < l.length ∧ ahead (g l (2 * i + 1 + 1)) (g l (2 * i + 1)) = true then 2 * i + 1 + 1 else 2 * i + 1
theorem child_gt (l : List It) (i : Nat) : i < child l i := by unfold child; split <;> omega
def downS (x : It) (l : List It) (m : Int → Option Nat) (i : Nat) : List It × (Int → Option Nat) :=
  if _h : child l i < l.length ∧ ahead (g l (child l i)) x = true then downS x (l.set i (g l (child l i))) (upd m (g l (child l i)).1 i) (child l i)
  else (l.set i x, upd m x.1 i)
termination_by l.length - i
decreasing_by have := child_gt l i; simp; omega

theorem child_par (l : List It) (i : Nat) : (child l i - 1) / 2 = i := by unfold child; split <;> omega
theorem child_least (l : List It) (i k : Nat) (hk0 : 0 < k) (hk : k < l.length) (hp : (k - 1) / 2 = i) : child l i < l.length ∧ ¬ ahead (g l k) (g l (child l i)) = true := by
  have hk' : k = 2 * i + 1 ∨ k = 2 * i + 1 + 1 := by omega
  unfold child
  split
  · rename_i h
    refine ⟨h.1, ?_⟩
    rcases hk' with rfl | rfl
    · exact ahead_asymm h.2
    · exact ahead_irrefl _
  · rename_i h
    rcases hk' with rfl | rfl
    · exact ⟨hk, ahead_irrefl _⟩
    · exact ⟨by omega, fun e => h ⟨hk, e⟩⟩

structure DownInv (x : It) (l : List It) (i : Nat) : Prop where
  rest : ∀ k, 0 < k → k < l.length → k ≠ i → (k - 1) / 2 ≠ i → ¬ ahead (g l k) (g l ((k - 1) / 2)) = true
  kids : 0 < i → ∀ k, 0 < k → k < l.length → (k - 1) / 2 = i → ¬ ahead (g l k) (g l ((i - 1) / 2)) = true
  top : 0 < i → ¬ ahead x (g l ((i - 1) / 2)) = true

theorem downS_ok (n : Nat) : ∀ (x : It) (l : List It) (m : Int → Option Nat) (i : Nat), l.length - i = n → Hole x l m i → DownInv x l i →
    Consist (downS x l m i).1 (downS x l m i).2 ∧ HeapOrd (downS x l m i).1 ∧ (downS x l m i).1.Perm (l.set i x) := by
  induction n using Nat.strongRecOn with
  | _ n ih =>
    intro x l m i hn hh hu
    have hlt := hh.lt
    rw [downS]
    by_cases hc : child l i < l.length ∧ ahead (g l (child l i)) x = true
    · rw [dif_pos hc]
      obtain ⟨hcl, hx⟩ := hc
      have hgt := child_gt l i
      have hpar := child_par l i
      have hmin := child_least l i
      generalize child l i = c at *
      have hne : c ≠ i := by omega
      have hu' : DownInv x (l.set i (g l c)) c := by
        constructor
        · intro k hk0 hk hkc hkk
          rw [List.length_set] at hk
          by_cases hki : k = i
          · subst hki
            rw [g_set_eq hlt, g_set_ne (by omega)]
            exact hu.kids hk0 c (by omega) hcl hpar
          · rw [g_set_ne (Ne.symm hki)]
            by_cases hpk : (k - 1) / 2 = i
            · rw [hpk, g_set_eq hlt]; exact (hmin k hk0 hk hpk).2
            · rw [g_set_ne (Ne.symm hpk)]; exact hu.rest k hk0 hk hki hpk
        · intro h0 k hk0 hk hkc
          rw [List.length_set] at hk
          rw [hpar, g_set_eq hlt, g_set_ne (by omega)]
          have := hu.rest k hk0 hk (by omega) (by omega)
          rwa [hkc] at this
        · intro h0
          rw [hpar, g_set_eq hlt]; exact ahead_asymm hx
      obtain ⟨a, b, d⟩ := ih ((l.set i (g l c)).length - c) (by rw [List.length_set]; omega) x _ _ c rfl (hh.move hcl hne) hu'
      exact ⟨a, b, d.trans (set_move_perm hlt hcl hne)⟩
    · rw [dif_neg hc]
      refine ⟨hh.fill, ?_, List.Perm.refl _⟩
      intro k hk0 hk
      rw [List.length_set] at hk
      by_cases hki : k = i
      · subst hki
        rw [g_set_eq hlt, g_set_ne (by omega)]
        exact hu.top hk0
      · rw [g_set_ne (Ne.symm hki)]
        by_cases hpk : (k - 1) / 2 = i
        · rw [hpk, g_set_eq hlt]
          obtain ⟨h1, h2⟩ := child_least l i k hk0 hk hpk
          exact nahead_trans h2 (fun h => hc ⟨h1, h⟩)
        · rw [g_set_ne (Ne.symm hpk)]; exact hu.rest k hk0 hk hki hpk

/-! ### what it stands for: a sorted list -/
def ins (x : It) : List It → List It
  | [] => [x]
  | y :: r => if ahead y x = true then y :: ins x r else x :: y :: r
theorem ins_perm (x : It) : ∀ S : List It, (ins x S).Perm (x :: S)
  | [] => List.Perm.refl _
  | y :: r => by
    unfold ins
    split
    · exact ((ins_perm x r).cons y).trans (List.Perm.swap x y r)
    · exact List.Perm.refl _
def Sorted (S : List It) : Prop := S.Pairwise fun a b => ahead a b = true
theorem ins_sorted (x : It) : ∀ S : List It, Sorted S → (∀ y ∈ S, y.1 ≠ x.1) → Sorted (ins x S)
  | [], _, _ => by simp [ins, Sorted]
  | y :: r, h, hn => by
    unfold ins
    have h' := List.pairwise_cons.1 h
    split
    · rename_i hy
      refine List.pairwise_cons.2 ⟨?_, ins_sorted x r h'.2 fun z hz => hn z (List.mem_cons_of_mem _ hz)⟩
      intro z hz
      rcases List.mem_cons.1 ((ins_perm x r).mem_iff.1 hz) with rfl | hz
      · exact hy
      · exact h'.1 z hz
    · rename_i hy
      have hxy := ahead_tot hy (hn y (List.mem_cons_self ..))
      refine List.pairwise_cons.2 ⟨?_, h⟩
      intro z hz
      rcases List.mem_cons.1 hz with rfl | hz
      · exact hxy
      · exact ahead_trans hxy (h'.1 z hz)

structure Abs (l : List It) (m : Int → Option Nat) (S : List It) : Prop where
  con : Consist l m
  ord : HeapOrd l
  sorted : Sorted S
  perm : l.Perm S

theorem ids_inj {l : List It} {m : Int → Option Nat} (h : Consist l m) {i j : Nat} (hi : i < l.length) (hj : j < l.length) (e : (g l i).1 = (g l j).1) : i = j := by
  have a := h.1 i hi
  have b := h.1 j hj
  rw [e, b] at a
  exact (Option.some.inj a).symm
theorem Abs.none {l : List It} {m : Int → Option Nat} {S : List It} (h : Abs l m S) {id : Int} (hm : m id = none) : ∀ y ∈ S, y.1 ≠ id := by
  intro y hy e
  obtain ⟨k, hk, hg⟩ := mem_g (h.perm.mem_iff.2 hy)
  have := h.con.1 k hk
  rw [hg, e, hm] at this
  cases this
theorem Abs.some {l : List It} {m : Int → Option Nat} {S : List It} (h : Abs l m S) {id : Int} {j : Nat} (hm : m id = some j) : j < l.length ∧ (g l j).1 = id ∧ g l j ∈ S := by
  obtain ⟨k, hk, hg⟩ := h.con.2 id j hm
  have := h.con.1 k hk
  rw [hg, hm] at this
  obtain rfl := Option.some.inj this
  exact ⟨hk, hg, h.perm.mem_iff.1 (g_mem hk)⟩
theorem Abs.uniq {l : List It} {m : Int → Option Nat} {S : List It} (h : Abs l m S) {x y : It} (hx : x ∈ S) (hy : y ∈ S) (e : x.1 = y.1) : x = y := by
  obtain ⟨i, hi, rfl⟩ := mem_g (h.perm.mem_iff.2 hx)
  obtain ⟨j, hj, rfl⟩ := mem_g (h.perm.mem_iff.2 hy)
  rw [ids_inj h.con hi hj e]
theorem abs_empty : Abs [] (fun _ => Option.none) [] := ⟨⟨by simp, by simp⟩, by intro k _ h; simp at h, List.Pairwise.nil, List.Perm.refl _⟩

theorem g_append_lt {l : List It} {x : It} {k : Nat} (h : k < l.length) : g (l ++ [x]) k = g l k := by simp [g, List.getD_eq_getElem?_getD, List.getElem?_append_left h]
theorem g_append_last (l : List It) (x : It) : g (l ++ [x]) l.length = x := by simp [g, List.getD_eq_getElem?_getD]
theorem set_append_last (l : List It) (x y : It) : (l ++ [x]).set l.length y = l ++ [y] := by simp
theorem push_new {l : List It} {m : Int → Option Nat} {S : List It} (h : Abs l m S) {x : It} (hm : m x.1 = Option.none) :
    Abs (upS x (l ++ [x]) m l.length).1 (upS x (l ++ [x]) m l.length).2 (ins x S) := by
  have hN := h.none hm
  have hne : ∀ k, k < l.length → (g l k).1 ≠ x.1 := fun k hk => hN _ (h.perm.mem_iff.1 (g_mem hk))
  have hh : Hole x (l ++ [x]) m l.length := by
    refine ⟨by simp, ?_, ?_, ?_⟩
    · intro k hk hki
      have hk : k < l.length := by simp at hk; omega
      rw [g_append_lt hk]; exact h.con.1 k hk
    · intro k hk hki
      have hk : k < l.length := by simp at hk; omega
      rw [g_append_lt hk]; exact hne k hk
    · intro id j hid
      obtain ⟨k, hk, hg⟩ := h.con.2 id j hid
      exact .inr ⟨k, by simp; omega, by omega, by rw [g_append_lt hk, hg]⟩
  have hu : UpInv x (l ++ [x]) l.length := by
    constructor
    · intro k hk0 hk hki hkk
      have hk : k < l.length := by simp at hk; omega
      rw [g_append_lt hk, g_append_lt (by omega)]; exact h.ord k hk0 hk
    · intro k hk0 hk hkk
      simp at hk; omega
  obtain ⟨a, b, c⟩ := upS_ok x _ m _ hh hu
  refine ⟨a, b, ins_sorted x S h.sorted hN, c.trans ?_⟩
  rw [set_append_last]
  exact (List.perm_append_comm (l₁ := l) (l₂ := [x])).trans ((h.perm.cons x).trans (ins_perm x S).symm)
theorem filter_set_perm {m : Int → Option Nat} {x : It} : ∀ {l : List It} {j : Nat}, j < l.length → (∀ k, k < l.length → k ≠ j → (g l k).1 ≠ x.1) → (g l j).1 = x.1 → (l.set j x).Perm (x :: l.filter fun y => !decide (y.1 = x.1)) := by
  intro l
  induction l with
  | nil => intro j hj; simp at hj
  | cons y r ih =>
    intro j hj hne hj1
    cases j with
    | zero =>
      have hy : y.1 = x.1 := hj1
      have hr : r.filter (fun y => !decide (y.1 = x.1)) = r := by
        rw [List.filter_eq_self]
        intro z hz
        obtain ⟨k, hk, e⟩ := mem_g hz
        have h1 := hne (k + 1) (by simp; omega) (by omega)
        have h2 : g (y :: r) (k + 1) = g r k := by simp [g]
        rw [h2, e] at h1
        simp [h1]
      simp [hy, hr]
    | succ j =>
      have hy : y.1 ≠ x.1 := by have := hne 0 (by simp) (by omega); simpa [g] using this
      have ih' := ih (j := j) (by simpa using hj) (fun k hk hkj => by have := hne (k + 1) (by simp; omega) (by omega); simpa [g] using this) (by simpa [g] using hj1)
      simp only [List.set_cons_succ, List.filter_cons, hy, decide_false, Bool.not_false, if_true]
      exact (ih'.cons y).trans (List.Perm.swap x y _)
theorem push_less {l : List It} {m : Int → Option Nat} {S : List It} (h : Abs l m S) {x : It} {j : Nat} (hm : m x.1 = Option.some j) (hlt : x.2 < (g l j).2) :
    Abs (upS x (l.set j x) m j).1 (upS x (l.set j x) m j).2 (ins x (S.filter fun y => !decide (y.1 = x.1))) := by
  obtain ⟨hj, hg, hS⟩ := h.some hm
  have hne : ∀ k, k < l.length → k ≠ j → (g l k).1 ≠ x.1 := fun k hk hkj e => hkj (ids_inj h.con hk hj (by rw [e, hg]))
  have hx : ahead x (g l j) = true := ahead_iff.2 (.inl hlt)
  have hh : Hole x (l.set j x) m j := by
    refine ⟨by simpa using hj, ?_, ?_, ?_⟩
    · intro k hk hki
      rw [List.length_set] at hk
      rw [g_set_ne (Ne.symm hki)]; exact h.con.1 k hk
    · intro k hk hki
      rw [List.length_set] at hk
      rw [g_set_ne (Ne.symm hki)]; exact hne k hk hki
    · intro id i hid
      obtain ⟨k, hk, hgk⟩ := h.con.2 id i hid
      by_cases hkj : k = j
      · subst hkj; exact .inl (by rw [← hgk, hg])
      · exact .inr ⟨k, by simpa using hk, hkj, by rw [g_set_ne (Ne.symm hkj), hgk]⟩
  have hu : UpInv x (l.set j x) j := by
    constructor
    · intro k hk0 hk hki hkk
      rw [List.length_set] at hk
      rw [g_set_ne (Ne.symm hki), g_set_ne (Ne.symm hkk)]; exact h.ord k hk0 hk
    · intro k hk0 hk hkk
      rw [List.length_set] at hk
      have hki : k ≠ j := by omega
      have h1 := h.ord k hk0 hk
      rw [hkk] at h1
      rw [g_set_ne (Ne.symm hki)]
      refine ⟨fun e => h1 (ahead_trans e hx), fun h0 => ?_⟩
      rw [g_set_ne (by omega)]
      exact nahead_trans h1 (h.ord j h0 hj)
  obtain ⟨a, b, c⟩ := upS_ok x _ m _ hh hu
  have hsub : Sorted (S.filter fun y => !decide (y.1 = x.1)) := h.sorted.sublist List.filter_sublist
  refine ⟨a, b, ins_sorted x _ hsub (fun y hy => by simpa using (List.mem_filter.1 hy).2), c.trans ?_⟩
  rw [List.set_set]
  refine (filter_set_perm (m := m) hj hne hg).trans (((h.perm.filter _).cons x).trans (ins_perm x _).symm)
theorem top_least {l : List It} (h : HeapOrd l) : ∀ k, k < l.length → ¬ ahead (g l k) (g l 0) = true := by
  intro k
  induction k using Nat.strongRecOn with
  | _ k ih =>
    intro hk
    by_cases h0 : k = 0
    · subst h0; exact ahead_irrefl _
    · exact nahead_trans (h k (by omega) hk) (ih ((k - 1) / 2) (by omega) (by omega))
theorem Abs.top {l : List It} {m : Int → Option Nat} {s : It} {S : List It} (h : Abs l m (s :: S)) : 0 < l.length ∧ g l 0 = s := by
  have hlen := h.perm.length_eq
  have h0 : 0 < l.length := by rw [hlen]; simp
  refine ⟨h0, ?_⟩
  have hm := h.perm.mem_iff.1 (g_mem h0)
  rcases List.mem_cons.1 hm with e | e
  · exact e
  · have h1 := (List.pairwise_cons.1 h.sorted).1 _ e
    obtain ⟨k, hk, hg⟩ := mem_g (h.perm.mem_iff.2 (List.mem_cons_self (a := s) (l := S)))
    have := top_least h.ord k hk
    rw [hg] at this
    exact absurd h1 this
theorem Abs.ids {l : List It} {m : Int → Option Nat} {s : It} {S : List It} (h : Abs l m (s :: S)) : ∀ y ∈ S, y.1 ≠ s.1 := by
  intro y hy e
  have := h.uniq (List.mem_cons_of_mem _ hy) (List.mem_cons_self ..) e
  subst this
  exact ahead_irrefl _ ((List.pairwise_cons.1 h.sorted).1 _ hy)
/-- what is left behind a pop: the last one in front, or nothing -/
theorem pop_one {l : List It} {m : Int → Option Nat} {s : It} {S : List It} (h : Abs l m (s :: S)) (h1 : l.length = 1) : S = [] ∧ Abs [] (del m s.1) [] := by
  have hlen := h.perm.length_eq
  have hS : S = [] := List.eq_nil_of_length_eq_zero (by simp at hlen; omega)
  subst hS
  obtain ⟨h0, hg⟩ := h.top
  refine ⟨rfl, ⟨by simp, ?_⟩, by intro k _ hk; simp at hk, List.Pairwise.nil, List.Perm.refl _⟩
  intro id j hid
  simp only [del] at hid
  split at hid
  · cases hid
  · rename_i e
    obtain ⟨k, hk, hgk⟩ := h.con.2 id j hid
    obtain rfl : k = 0 := by omega
    rw [hg] at hgk
    exact absurd hgk.symm e
theorem g_take {l : List It} {n k : Nat} (h : k < n) : g (l.take n) k = g l k := by simp [g, List.getD_eq_getElem?_getD, List.getElem?_take, h]
theorem perm_pop {l : List It} (h : 1 < l.length) : ((l.take (l.length - 1)).set 0 (g l (l.length - 1))).Perm (l.drop 1) := by
  cases l with
  | nil => simp at h
  | cons y r =>
    simp only [List.length_cons] at *
    have hr : r ≠ [] := by rintro rfl; simp at h
    have e1 : g (y :: r) (r.length + 1 - 1) = r.getLast hr := by
      rw [g_eq (by simp)]
      rw [List.getLast_eq_getElem]
      have : r.length + 1 - 1 = (r.length - 1) + 1 := by omega
      simp only [this, List.getElem_cons_succ]
    rw [e1]
    have e2 : (y :: r).take (r.length + 1 - 1) = y :: r.dropLast := by
      have : r.length + 1 - 1 = (r.length - 1) + 1 := by omega
      rw [this, List.take_succ_cons, List.dropLast_eq_take]
    rw [e2]
    simp only [List.set_cons_zero, List.drop_succ_cons, List.drop_zero]
    have e3 : r.dropLast ++ [r.getLast hr] = r := List.dropLast_concat_getLast hr
    have := List.perm_append_comm (l₁ := [r.getLast hr]) (l₂ := r.dropLast)
    rw [e3] at this
    exact this
theorem pop_more {l : List It} {m : Int → Option Nat} {s : It} {S : List It} (h : Abs l m (s :: S)) (h1 : 1 < l.length) :
    let r := downS (g l (l.length - 1)) ((l.take (l.length - 1)).set 0 (g l (l.length - 1))) (del m s.1) 0
    Abs r.1 r.2 S := by
  intro r
  obtain ⟨h0, hg⟩ := h.top
  have hk' : ∀ k, k < l.length - 1 → k ≠ 0 → g ((l.take (l.length - 1)).set 0 (g l (l.length - 1))) k = g l k := by
    intro k hk hk0
    rw [g_set_ne (Ne.symm hk0), g_take hk]
  have hlen : ((l.take (l.length - 1)).set 0 (g l (l.length - 1))).length = l.length - 1 := by simp
  have hs : ∀ k, k < l.length → k ≠ 0 → (g l k).1 ≠ s.1 := by
    intro k hk hk0 e
    exact hk0 (ids_inj h.con hk h0 (by rw [e, hg]))
  have hh : Hole (g l (l.length - 1)) ((l.take (l.length - 1)).set 0 (g l (l.length - 1))) (del m s.1) 0 := by
    refine ⟨by omega, ?_, ?_, ?_⟩
    · intro k hk hk0
      rw [hlen] at hk
      rw [hk' k hk hk0]
      simp [del, hs k (by omega) hk0, h.con.1 k (by omega)]
    · intro k hk hk0
      rw [hlen] at hk
      rw [hk' k hk hk0]
      intro e
      have := ids_inj h.con (by omega) (by omega) e
      omega
    · intro id j hid
      simp only [del] at hid
      split at hid
      · cases hid
      · rename_i e
        obtain ⟨k, hk, hgk⟩ := h.con.2 id j hid
        have hk0 : k ≠ 0 := by rintro rfl; rw [hg] at hgk; exact e hgk.symm
        by_cases hkl : k = l.length - 1
        · subst hkl; exact .inl hgk.symm
        · exact .inr ⟨k, by omega, hk0, by rw [hk' k (by omega) hk0, hgk]⟩
  have hu : DownInv (g l (l.length - 1)) ((l.take (l.length - 1)).set 0 (g l (l.length - 1))) 0 := by
    constructor
    · intro k hk0 hk hki hkk
      rw [hlen] at hk
      rw [hk' k hk hki, hk' _ (by omega) hkk]
      exact h.ord k hk0 (by omega)
    · intro h; omega
    · intro h; omega
  obtain ⟨a, b, c⟩ := downS_ok _ _ _ _ _ rfl hh hu
  refine ⟨a, b, (List.pairwise_cons.1 h.sorted).2, c.trans ?_⟩
  rw [List.set_set]
  refine (perm_pop h1).trans ?_
  have e : l = s :: l.drop 1 := by
    cases l with
    | nil => simp at h0
    | cons y t => simp only [g, List.getD_cons_zero] at hg; subst hg; simp
  have := h.perm
  rw [e] at this
  exact List.Perm.cons_inv this
end Go.Proofs.Ytjopiefojicblaa.HeapP
/- A map keyed by int, as its block holds it: what it tells at a key, and what a look-up, a store by two steps, a store and a delete come to, in whatever world holds that block. -/
namespace Go.Proofs.Ytjopiefojicblaa
open Go.RowKit Go.Maps Go.ChangeMaps Go.MapKept
def mapAt (w : World) (b : Nat) (es : Array MapEntry) (ck : Nat) : Prop := w.heap[b]? = some (.map es ck)
set_option maxRecDepth 100000 in
theorem mapAt_drew {w : World} {b : Nat} {es : Array MapEntry} {ck : Nat} : mapAt w.drew b es ck = mapAt w b es ck := rfl
set_option maxRecDepth 100000 in
theorem mapAt_drewN {w : World} {n b : Nat} {es : Array MapEntry} {ck : Nat} : mapAt (w.drewN n) b es ck = mapAt w b es ck := rfl
set_option maxRecDepth 100000 in
theorem mapAt_setCell {w : World} {a : Addr} {v : Value} {b : Nat} {es : Array MapEntry} {ck : Nat} (h : a.block ≠ b) : mapAt (w.setCell a v) b es ck = mapAt w b es ck := by
  unfold mapAt
  simp only [World.setCell]
  rw [Array.getElem?_modify]
  simp [h]
set_option maxRecDepth 100000 in
theorem mapAt_alloc {w : World} {o : Obj} {b : Nat} {es : Array MapEntry} {ck : Nat} (h : b < w.heap.size) : mapAt (w.alloc o) b es ck = mapAt w b es ck := by
  unfold mapAt
  show ((w.heap.push o)[b]? = _) = _
  rw [Array.getElem?_push, if_neg (by omega)]
set_option maxRecDepth 100000 in
theorem mapAt_lt {w : World} {b : Nat} {es : Array MapEntry} {ck : Nat} (h : mapAt w b es ck) : b < w.heap.size := (Array.getElem?_eq_some_iff.1 h).1
set_option maxRecDepth 100000 in
theorem setBlock_drew (w : World) (b : Nat) (o : Obj) : setBlock w.drew b o = (setBlock w b o).drew := rfl
set_option maxRecDepth 100000 in
theorem size_setBlock (w : World) (b : Nat) (o : Obj) : (setBlock w b o).heap.size = w.heap.size := by simp [setBlock]
set_option maxRecDepth 100000 in
theorem heap_setBlock_ne {w : World} {b k : Nat} {o : Obj} (h : b ≠ k) : (setBlock w b o).heap[k]? = w.heap[k]? := by
  simp only [setBlock]; rw [Array.getElem?_setIfInBounds_ne h]
set_option maxRecDepth 100000 in
theorem heap_setBlock_eq {w : World} {b : Nat} {o : Obj} (h : b < w.heap.size) : (setBlock w b o).heap[b]? = some o := by
  simp [setBlock, h]
set_option maxRecDepth 100000 in
theorem mapAt_setBlock {w : World} {b : Nat} {es : Array MapEntry} {ck : Nat} (h : b < w.heap.size) : mapAt (setBlock w b (.map es ck)) b es ck := heap_setBlock_eq h

def updV (m : Int → Option Value) (k : Int) (v : Value) : Int → Option Value := fun x => if x = k then some v else m x
def delV (m : Int → Option Value) (k : Int) : Int → Option Value := fun x => if x = k then none else m x
structure EntV (es : Array MapEntry) (ck : Nat) (m : Int → Option Value) : Prop where
  ent : ∀ x ∈ es.toList, ∃ k, x.key = .int .i64 k ∧ (Lit.int .i64 k).wf = true ∧ m k = some x.val
  cov : ∀ k v, m k = some v → ∃ x ∈ es.toList, x.key = .int .i64 k
  st : Stamped es ck
set_option maxRecDepth 100000 in
theorem EntV.empty (ck : Nat) : EntV #[] ck (fun _ => none) := ⟨by simp, by simp, stamped_empty ck⟩
set_option maxRecDepth 100000 in
theorem keyed3 : Keyed Try.prog 3 := int_keyed Try.underlying3
set_option maxRecDepth 100000 in
theorem EntV.keys {es : Array MapEntry} {ck : Nat} {m : Int → Option Value} (h : EntV es ck m) : ∀ x ∈ es.toList, ∃ l, keyOf Try.prog 3 x.key = some l := by
  intro x hx
  obtain ⟨k, hk, hw, _⟩ := h.ent x hx
  exact ⟨_, by rw [hk]; exact keyOf_int_mk Try.underlying3 hw⟩
set_option maxRecDepth 100000 in
/-- where a key is found -/
theorem EntV.find {es : Array MapEntry} {ck : Nat} {m : Int → Option Value} (h : EntV es ck m) {k : Int} (hw : (Lit.int .i64 k).wf = true) (w : World) :
    ((Instr.findKey 3 (.int .i64 k) es.toList).run Try.prog w = .ok none w ∧ m k = none ∧ ∀ x ∈ es.toList, x.key ≠ .int .i64 k) ∨
    ∃ j e, (Instr.findKey 3 (.int .i64 k) es.toList).run Try.prog w = .ok (some (j, e.val)) w ∧ es.toList[j]? = some e ∧ e.key = .int .i64 k ∧ m k = some e.val := by
  rcases keyed3.find w (keyOf_int_mk Try.underlying3 hw) es.toList h.keys with ⟨h1, h2⟩ | ⟨j, e, h1, h2, h3⟩
  · refine .inl ⟨h1, ?_, h2⟩
    cases hm : m k with
    | none => rfl
    | some v =>
      obtain ⟨x, hx, hk⟩ := h.cov k v hm
      exact absurd hk (h2 x hx)
  · refine .inr ⟨j, e, h1, h2, h3, ?_⟩
    obtain ⟨k', hk', _, hm⟩ := h.ent e (List.mem_of_getElem? h2)
    rw [h3] at hk'
    injection hk' with _ e1
    rw [e1]; exact hm
section
variable {t e : TypeId} {b : Nat} {es : Array MapEntry} {ck : Nat} {m : Int → Option Value} {k : Int}
set_option maxRecDepth 100000 in
/-- 'v, ok := m[k]' -/
theorem run_lookV (ht : Try.prog.underlying t = some (.map 3 e)) {z : Value} (hz : ∀ w : World, (zeroValue e).run Try.prog w = .ok z w) (h : EntV es ck m) (hw : (Lit.int .i64 k).wf = true) {w : World} (hb : mapAt w b es ck) :
    (Instr.lookup t (.map (some b)) (.int .i64 k) true).run Try.prog w = .ok (.tuple #[(m k).getD z, .bool (m k).isSome]) w := by
  have hkey := keyOf_int_mk Try.underlying3 hw
  rcases h.find hw w with ⟨h1, h2, _⟩ | ⟨j, e0, h1, _, _, h2⟩
  · simp [Instr.lookup, run_underlying ht, MapKept.run_getObj_map hb, keyed3.check w _ hkey, h1, hz, h2, Result.andThen]
  · simp [Instr.lookup, run_underlying ht, MapKept.run_getObj_map hb, keyed3.check w _ hkey, h1, h2, Result.andThen]
set_option maxRecDepth 100000 in
/-- 'm[k]' -/
theorem run_lookV1 (ht : Try.prog.underlying t = some (.map 3 e)) {z : Value} (hz : ∀ w : World, (zeroValue e).run Try.prog w = .ok z w) (h : EntV es ck m) (hw : (Lit.int .i64 k).wf = true) {w : World} (hb : mapAt w b es ck) :
    (Instr.lookup t (.map (some b)) (.int .i64 k) false).run Try.prog w = .ok ((m k).getD z) w := by
  have hkey := keyOf_int_mk Try.underlying3 hw
  rcases h.find hw w with ⟨h1, h2, _⟩ | ⟨j, e0, h1, _, _, h2⟩
  · simp [Instr.lookup, run_underlying ht, MapKept.run_getObj_map hb, keyed3.check w _ hkey, h1, hz, h2, Result.andThen]
  · simp [Instr.lookup, run_underlying ht, MapKept.run_getObj_map hb, keyed3.check w _ hkey, h1, h2, Result.andThen]
set_option maxRecDepth 100000 in
theorem EntV.push (h : EntV es ck m) (hw : (Lit.int .i64 k).wf = true) (hn : ∀ x ∈ es.toList, x.key ≠ .int .i64 k) (v : Value) : EntV (es.push ⟨.int .i64 k, v, ck⟩) (ck + 1) (updV m k v) := by
  refine ⟨?_, ?_, stamped_push h.st hn⟩
  · intro x hx
    simp only [Array.toList_push, List.mem_append, List.mem_singleton] at hx
    rcases hx with hx | rfl
    · obtain ⟨k', hk', hw', hm⟩ := h.ent x hx
      refine ⟨k', hk', hw', ?_⟩
      have : k' ≠ k := by rintro rfl; exact hn x hx hk'
      simp [updV, this, hm]
    · exact ⟨k, rfl, hw, by simp [updV]⟩
  · intro k' v' hm
    by_cases hk : k' = k
    · subst hk; exact ⟨⟨.int .i64 k', v, ck⟩, by simp, rfl⟩
    · simp only [updV, hk, if_false] at hm
      obtain ⟨x, hx, hxk⟩ := h.cov k' v' hm
      exact ⟨x, by simp [hx], hxk⟩
set_option maxRecDepth 100000 in
theorem EntV.put (h : EntV es ck m) {j : Nat} {e0 : MapEntry} (hj : es.toList[j]? = some e0) (hk : e0.key = .int .i64 k) (v : Value) : EntV (es.modify j fun x => { x with key := .int .i64 k, val := v }) ck (updV m k v) := by
  have hjl := (List.getElem?_eq_some_iff.1 hj).1
  have hl : (es.modify j fun x => { x with key := .int .i64 k, val := v }).toList = es.toList.set j { e0 with key := .int .i64 k, val := v } := by
    rw [Array.toList_modify, ChangeMaps.modify_eq_set _ _ _ _ hj]
  have hd := h.st.2.2
  refine ⟨?_, ?_, stamped_modify h.st j _ (fun _ _ => rfl) (fun x _ hx => by
    have : es.toList[j]? = some x := by simpa using hx
    rw [hj] at this; obtain rfl := Option.some.inj this; exact hk.symm)⟩
  · intro x hx
    rw [hl] at hx
    obtain ⟨i, hi, rfl⟩ := List.getElem_of_mem hx
    rw [List.length_set] at hi
    rw [List.getElem_set]
    split
    · rename_i e; subst e
      obtain ⟨k', hk', hw', _⟩ := h.ent e0 (List.mem_of_getElem? hj)
      rw [hk] at hk'; injection hk' with _ e1
      exact ⟨k, rfl, by rw [e1]; exact hw', by simp [updV]⟩
    · rename_i hne
      obtain ⟨k', hk', hw', hm⟩ := h.ent es.toList[i] (List.getElem_mem hi)
      refine ⟨k', hk', hw', ?_⟩
      have : k' ≠ k := by
        rintro rfl
        have e1 : (es.toList.map (·.key))[i]'(by simpa using hi) = (es.toList.map (·.key))[j]'(by simpa using hjl) := by
          simp only [List.getElem_map]
          rw [hk']
          have := (List.getElem?_eq_some_iff.1 hj).2
          rw [this, hk]
        have := (List.getElem_inj hd).1 e1
        exact hne this.symm
      simp only [updV, this, if_false]; exact hm
  · intro k' v' hm
    by_cases hkk : k' = k
    · subst hkk
      refine ⟨{ e0 with key := .int .i64 k', val := v }, ?_, rfl⟩
      rw [hl]
      exact List.mem_of_getElem? (i := j) (by rw [List.getElem?_set_self (by simpa using hjl)])
    · simp only [updV, hkk, if_false] at hm
      obtain ⟨x, hx, hxk⟩ := h.cov k' v' hm
      refine ⟨x, ?_, hxk⟩
      rw [hl]
      obtain ⟨i, hi, rfl⟩ := List.getElem_of_mem hx
      have hij : j ≠ i := by
        rintro rfl
        have := (List.getElem?_eq_some_iff.1 hj).2
        rw [this, hk] at hxk; injection hxk with _ e1; exact hkk e1.symm
      exact List.mem_of_getElem? (i := i) (by rw [List.getElem?_set_ne hij, List.getElem?_eq_getElem hi])
set_option maxRecDepth 100000 in
/-- 'm[k] = v' in one step -/
theorem run_putV (ht : Try.prog.underlying t = some (.map 3 e)) (h : EntV es ck m) (hw : (Lit.int .i64 k).wf = true) (v : Value) :
    ∃ es' ck', EntV es' ck' (updV m k v) ∧ ∀ w : World, mapAt w b es ck → (Instr.mapUpdate t (.map (some b)) (.int .i64 k) v).run Try.prog w = .ok () (setBlock w b (.map es' ck')) := by
  have hkey := keyOf_int_mk Try.underlying3 hw
  by_cases hin : ∃ x ∈ es.toList, x.key = .int .i64 k
  · obtain ⟨x, hx, hxk⟩ := hin
    have hF : ∀ w : World, ∃ j e0, (Instr.findKey 3 (.int .i64 k) es.toList).run Try.prog w = .ok (some (j, e0.val)) w ∧ es.toList[j]? = some e0 ∧ e0.key = .int .i64 k := by
      intro w
      rcases h.find hw w with ⟨_, _, h2⟩ | ⟨j, e0, h1, h2, h3, _⟩
      · exact absurd hxk (h2 x hx)
      · exact ⟨j, e0, h1, h2, h3⟩
    obtain ⟨j, hjl, hjx⟩ := List.getElem_of_mem hx
    have hj : es.toList[j]? = some x := by rw [List.getElem?_eq_getElem hjl, hjx]
    refine ⟨_, _, h.put hj hxk v, fun w hb => ?_⟩
    obtain ⟨j', e0, h1, h2, h3⟩ := hF w
    have hjj : j' = j := by
      have hj'l := (List.getElem?_eq_some_iff.1 h2).1
      have e1 : (es.toList.map (·.key))[j']'(by simpa using hj'l) = (es.toList.map (·.key))[j]'(by simpa using hjl) := by
        simp only [List.getElem_map]
        rw [(List.getElem?_eq_some_iff.1 h2).2, h3, hjx, hxk]
      exact (List.getElem_inj h.st.2.2).1 e1
    subst hjj
    have hje : es[j']? = some e0 := by simpa using h2
    simp [Instr.mapUpdate, run_underlying ht, MapKept.run_getObj_map hb, keyed3.check w false hkey, h1, hje, h3, keyed3.stays w hkey, MapKept.run_setObj_map _ hb, Result.andThen, setBlock]
  · have hn : ∀ x ∈ es.toList, x.key ≠ .int .i64 k := fun x hx e => hin ⟨x, hx, e⟩
    refine ⟨_, _, h.push hw hn v, fun w hb => ?_⟩
    rcases h.find hw w with ⟨h1, _, _⟩ | ⟨j, e0, _, h2, h3, _⟩
    · simp [Instr.mapUpdate, run_underlying ht, MapKept.run_getObj_map hb, keyed3.check w false hkey, h1, MapKept.run_setObj_map _ hb, Result.andThen, setBlock]
    · exact absurd h3 (hn e0 (List.mem_of_getElem? h2))
set_option maxRecDepth 100000 in
/-- 'm[k] = v' in two steps: the entry is laid, then its value -/
theorem run_putV2 (ht : Try.prog.underlying t = some (.map 3 e)) {z : Value} (hz : ∀ w : World, (zeroValue e).run Try.prog w = .ok z w) (h : EntV es ck m) (hw : (Lit.int .i64 k).wf = true) (v : Value) :
    ∃ v0 st es1 ck1 es2 ck2, EntV es2 ck2 (updV m k v) ∧ (∀ w : World, mapAt w b es ck → (Instr.mapEntry t (.map (some b)) (.int .i64 k)).run Try.prog w = .ok (.tuple #[v0, .int .i64 st]) (setBlock w b (.map es1 ck1))) ∧
      ∀ w : World, mapAt w b es1 ck1 → (Instr.entryStore t (.map (some b)) (.int .i64 st) v).run Try.prog w = .ok () (setBlock w b (.map es2 ck2)) := by
  have hkey := keyOf_int_mk Try.underlying3 hw
  obtain ⟨s1, s2, s3⟩ := h.st
  by_cases hin : ∃ x ∈ es.toList, x.key = .int .i64 k
  · obtain ⟨x, hx, hxk⟩ := hin
    obtain ⟨j, hjl, hjx⟩ := List.getElem_of_mem hx
    have hj : es.toList[j]? = some x := by rw [List.getElem?_eq_getElem hjl, hjx]
    have hsame : es.modify j (fun e => { e with key := .int .i64 k }) = es := by
      apply Array.ext'
      rw [Array.toList_modify, ChangeMaps.modify_eq_set _ _ _ _ hj]
      have : ({ x with key := .int .i64 k } : MapEntry) = x := by rw [← hxk]
      rw [this]
      exact WideElems.set_self _ _ _ hj
    refine ⟨x.val, x.born, es, ck, _, _, h.put hj hxk v, fun w hb => ?_, fun w hb => ?_⟩
    · rcases h.find hw w with ⟨_, _, h2⟩ | ⟨j', e0, h1, h2, h3, _⟩
      · exact absurd hxk (h2 x hx)
      · have hjj : j' = j := by
          have hj'l := (List.getElem?_eq_some_iff.1 h2).1
          have e1 : (es.toList.map (·.key))[j']'(by simpa using hj'l) = (es.toList.map (·.key))[j]'(by simpa using hjl) := by
            simp only [List.getElem_map]
            rw [(List.getElem?_eq_some_iff.1 h2).2, h3, hjx, hxk]
          exact (List.getElem_inj s3).1 e1
        subst hjj
        rw [hj] at h2; obtain rfl := Option.some.inj h2
        have hje : es[j']? = some x := by simpa using hj
        simp [Instr.mapEntry, run_underlying ht, MapKept.run_getObj_map hb, keyed3.check w false hkey, h1, hje, hxk, keyed3.stays w hkey, hsame, MapKept.run_setObj_map _ hb, Result.andThen, setBlock, goInt]
    · have hidx : es.findIdx? (fun e => ((e.born : Nat) : Int) == ((x.born : Nat) : Int)) = some j := by
        rw [WideElems.findIdx_arr]
        exact WideElems.findIdx_born s2 hj
      have hmod : es.modify j (fun e => { e with val := v }) = es.modify j (fun e' => { e' with key := .int .i64 k, val := v }) := by
        apply Array.ext'
        rw [Array.toList_modify, Array.toList_modify, ChangeMaps.modify_eq_set _ _ _ _ hj, ChangeMaps.modify_eq_set _ _ _ _ hj, ← hxk]
      simp [Instr.entryStore, MapKept.run_getObj_map hb, asInt, asIntOf, hidx, hmod, MapKept.run_setObj_map _ hb, Result.andThen, setBlock]
  · have hn : ∀ x ∈ es.toList, x.key ≠ .int .i64 k := fun x hx e => hin ⟨x, hx, e⟩
    refine ⟨z, ck, es.push ⟨.int .i64 k, z, ck⟩, ck + 1, es.push ⟨.int .i64 k, v, ck⟩, ck + 1, h.push hw hn v, fun w hb => ?_, fun w hb => ?_⟩
    · rcases h.find hw w with ⟨h1, _, _⟩ | ⟨j, e0, _, h2, h3, _⟩
      · simp [Instr.mapEntry, run_underlying ht, MapKept.run_getObj_map hb, keyed3.check w false hkey, h1, hz, MapKept.run_setObj_map _ hb, Result.andThen, setBlock, goInt]
      · exact absurd h3 (hn e0 (List.mem_of_getElem? h2))
    · have hidx : (es.push ⟨.int .i64 k, z, ck⟩).findIdx? (fun e => ((e.born : Nat) : Int) == ((ck : Nat) : Int)) = some es.size := by
        rw [WideElems.findIdx_arr]
        exact WideElems.findIdx_born (l := (es.push ⟨.int .i64 k, z, ck⟩).toList) (j := es.size) (e0 := ⟨.int .i64 k, z, ck⟩) (by
          simp only [Array.toList_push, List.map_append, List.map_cons, List.map_nil]
          refine List.nodup_append.2 ⟨s2, by simp, fun a ha c hc e1 => ?_⟩
          simp only [List.mem_singleton] at hc
          obtain ⟨x, hx, rfl⟩ := List.mem_map.1 ha
          have := s1 x hx
          omega) (by simp)
      have hmod : (es.push ⟨.int .i64 k, z, ck⟩).modify es.size (fun e => { e with val := v }) = es.push ⟨.int .i64 k, v, ck⟩ := by
        apply Array.ext'
        rw [Array.toList_modify, Array.toList_push, Array.toList_push, ← Array.length_toList, WideElems.modify_last]
      simp [Instr.entryStore, MapKept.run_getObj_map hb, asInt, asIntOf, hidx, hmod, MapKept.run_setObj_map _ hb, Result.andThen, setBlock]
set_option maxRecDepth 100000 in
/-- 'delete(m, k)' -/
theorem run_delV (ht : Try.prog.underlying t = some (.map 3 e)) (h : EntV es ck m) (hw : (Lit.int .i64 k).wf = true) (ty : TypeId) :
    ∃ es', EntV es' ck (delV m k) ∧ ∀ w : World, mapAt w b es ck → (Builtin.delete_ #[t, 3] ty #[.map (some b), .int .i64 k]).run Try.prog w = .ok (.tuple #[]) (setBlock w b (.map es' ck)) := by
  have hkey := keyOf_int_mk Try.underlying3 hw
  by_cases hin : ∃ x ∈ es.toList, x.key = .int .i64 k
  · obtain ⟨x, hx, hxk⟩ := hin
    obtain ⟨j, hjl, hjx⟩ := List.getElem_of_mem hx
    have hjs : j < es.size := by simpa using hjl
    have hsub : (es.eraseIdxIfInBounds j).toList = es.toList.eraseIdx j := by
      unfold Array.eraseIdxIfInBounds
      rw [dif_pos hjs]
      simp
    have hnk : ∀ y ∈ es.toList.eraseIdx j, y.key ≠ .int .i64 k := by
      intro y hy e
      rw [List.mem_eraseIdx_iff_getElem] at hy
      obtain ⟨i, hi, hne, rfl⟩ := hy
      have e1 : (es.toList.map (·.key))[i]'(by simpa using hi) = (es.toList.map (·.key))[j]'(by simpa using hjl) := by
        simp only [List.getElem_map]
        rw [e, hjx, hxk]
      exact hne ((List.getElem_inj h.st.2.2).1 e1)
    refine ⟨es.eraseIdxIfInBounds j, ⟨?_, ?_, stamped_erase h.st j⟩, fun w hb => ?_⟩
    · intro y hy
      rw [hsub] at hy
      obtain ⟨k', hk', hw', hm⟩ := h.ent y ((List.eraseIdx_sublist _ _).subset hy)
      refine ⟨k', hk', hw', ?_⟩
      have : k' ≠ k := by rintro rfl; exact hnk y hy hk'
      simp only [delV, this, if_false]; exact hm
    · intro k' v' hm
      have hkk : k' ≠ k := by rintro rfl; simp [delV] at hm
      simp only [delV, hkk, if_false] at hm
      obtain ⟨y, hy, hyk⟩ := h.cov k' v' hm
      refine ⟨y, ?_, hyk⟩
      rw [hsub, List.mem_eraseIdx_iff_getElem]
      obtain ⟨i, hi, rfl⟩ := List.getElem_of_mem hy
      refine ⟨i, hi, ?_, rfl⟩
      rintro rfl
      rw [hjx, hxk] at hyk; injection hyk with _ e1; exact hkk e1.symm
    · rcases h.find hw w with ⟨_, _, h2⟩ | ⟨j', e0, h1, h2, h3, _⟩
      · exact absurd hxk (h2 x hx)
      · have hjj : j' = j := by
          have hj'l := (List.getElem?_eq_some_iff.1 h2).1
          have e1 : (es.toList.map (·.key))[j']'(by simpa using hj'l) = (es.toList.map (·.key))[j]'(by simpa using hjl) := by
            simp only [List.getElem_map]
            rw [(List.getElem?_eq_some_iff.1 h2).2, h3, hjx, hxk]
          exact (List.getElem_inj h.st.2.2).1 e1
        subst hjj
        simp [Builtin.delete_, run_underlying ht, MapKept.run_getObj_map hb, keyed3.check w _ hkey, h1, MapKept.run_setObj_map _ hb, Result.andThen, setBlock]
  · have hn : ∀ x ∈ es.toList, x.key ≠ .int .i64 k := fun x hx e => hin ⟨x, hx, e⟩
    refine ⟨es, ⟨?_, ?_, h.st⟩, fun w hb => ?_⟩
    · intro y hy
      obtain ⟨k', hk', hw', hm⟩ := h.ent y hy
      refine ⟨k', hk', hw', ?_⟩
      have : k' ≠ k := by rintro rfl; exact hn y hy hk'
      simp only [delV, this, if_false]; exact hm
    · intro k' v' hm
      have hkk : k' ≠ k := by rintro rfl; simp [delV] at hm
      simp only [delV, hkk, if_false] at hm
      exact h.cov k' v' hm
    · rcases h.find hw w with ⟨h1, _, _⟩ | ⟨j', e0, h1, h2, h3, _⟩
      · simp [Builtin.delete_, run_underlying ht, MapKept.run_getObj_map hb, keyed3.check w _ hkey, h1, MapKept.run_setObj_map _ hb, Result.andThen, setBlock]
      · exact absurd h3 (hn e0 (List.mem_of_getElem? h2))
end
end Go.Proofs.Ytjopiefojicblaa
/- heap.Heap in memory: its head, its row of items, its map of places; what 'ahead' and 'set' come to. -/
set_option linter.unusedVariables false
set_option linter.unusedSimpArgs false
namespace Go.Proofs.Ytjopiefojicblaa
open Go.RowKit Go.Maps Go.ChangeMaps Go.MapKept HeapP
/-- all that is not of F is as it was -/
structure Upd (F : Nat → Prop) (w w' : World) : Prop where
  os : w'.os = w.os
  tape : w'.tape = w.tape
  output : w'.output = w.output
  size : w.heap.size ≤ w'.heap.size
  block : ∀ k, k < w.heap.size → ¬ F k → w'.heap[k]? = w.heap[k]?
theorem Upd.refl (F : Nat → Prop) (w : World) : Upd F w w := ⟨rfl, rfl, rfl, Nat.le_refl _, fun _ _ _ => rfl⟩
theorem Upd.of_below {F : Nat → Prop} {w w' : World} (h : Below w.heap.size w w') : Upd F w w' := ⟨h.os, h.tape, h.output, h.size, fun k hk _ => h.block k hk⟩
theorem Upd.mono {F G : Nat → Prop} {w w' : World} (h : Upd F w w') (hFG : ∀ k, k < w.heap.size → F k → G k) : Upd G w w' := ⟨h.os, h.tape, h.output, h.size, fun k hk hG => h.block k hk fun hF => hG (hFG k hk hF)⟩
theorem Upd.trans {F G : Nat → Prop} {a b c : World} (h : Upd F a b) (k : Upd G b c) (hG : ∀ i, i < a.heap.size → G i → F i) : Upd F a c :=
  ⟨k.os.trans h.os, k.tape.trans h.tape, k.output.trans h.output, Nat.le_trans h.size k.size, fun i hi hF => (k.block i (Nat.lt_of_lt_of_le hi h.size) fun g => hF (hG i hi g)).trans (h.block i hi hF)⟩
theorem Upd.below {F : Nat → Prop} {B : Nat} {w w' : World} (h : Upd F w w') (hB : B ≤ w.heap.size) (hF : ∀ k, k < B → ¬ F k) : Below B w w' := ⟨h.os, h.tape, h.output, h.size, fun k hk => h.block k (Nat.lt_of_lt_of_le hk hB) (hF k hk)⟩
theorem upd_drew {F : Nat → Prop} {w W : World} (h : Upd F w W) : Upd F w W.drew := ⟨h.os, h.tape, h.output, h.size, h.block⟩
theorem upd_drewN {F : Nat → Prop} {w W : World} (h : Upd F w W) (n : Nat) : Upd F w (W.drewN n) := ⟨h.os, h.tape, h.output, h.size, h.block⟩
theorem size_alloc (w : World) (o : Obj) : (w.alloc o).heap.size = w.heap.size + 1 := by show (w.heap.push o).size = _; simp
theorem heap_alloc_lt {w : World} {o : Obj} {b : Nat} (h : b < w.heap.size) : (w.alloc o).heap[b]? = w.heap[b]? := by
  show (w.heap.push o)[b]? = _
  rw [Array.getElem?_push, if_neg (by omega)]
theorem size_setCell (w : World) (a : Addr) (v : Value) : (w.setCell a v).heap.size = w.heap.size := by simp [World.setCell]
theorem heap_setCell_ne {w : World} {a : Addr} {v : Value} {b : Nat} (h : a.block ≠ b) : (w.setCell a v).heap[b]? = w.heap[b]? := by
  simp only [World.setCell]
  rw [Array.getElem?_modify]
  simp [h]
theorem upd_alloc {F : Nat → Prop} {w W : World} (h : Upd F w W) (o : Obj) : Upd F w (W.alloc o) :=
  ⟨h.os, h.tape, h.output, by rw [size_alloc]; exact Nat.le_succ_of_le h.size, fun k hk hF => (heap_alloc_lt (Nat.lt_of_lt_of_le hk h.size)).trans (h.block k hk hF)⟩
theorem upd_setCell {F : Nat → Prop} {w W : World} (h : Upd F w W) {a : Addr} (ha : F a.block) (v : Value) : Upd F w (W.setCell a v) :=
  ⟨h.os, h.tape, h.output, by rw [size_setCell]; exact h.size, fun k hk hF => (heap_setCell_ne (by rintro rfl; exact hF ha)).trans (h.block k hk hF)⟩
theorem upd_setBlock {F : Nat → Prop} {w W : World} (h : Upd F w W) {b : Nat} (hb : F b) (o : Obj) : Upd F w (setBlock W b o) :=
  ⟨h.os, h.tape, h.output, by rw [size_setBlock]; exact h.size, fun k hk hF => (heap_setBlock_ne (by rintro rfl; exact hF hb)).trans (h.block k hk hF)⟩
def flat (l : List It) : List Value := l.flatMap fun x => [.int .i64 x.1, .int .i64 x.2]
theorem flat_length (l : List It) : (flat l).length = l.length * 2 := by
  induction l with
  | nil => rfl
  | cons x r ih => simp only [flat, List.flatMap_cons, List.length_append, List.length_cons, List.length_nil] at *; omega
theorem flat_cons (x : It) (l : List It) : flat (x :: l) = .int .i64 x.1 :: .int .i64 x.2 :: flat l := rfl
theorem flat_append (l k : List It) : flat (l ++ k) = flat l ++ flat k := by simp [flat]
theorem flat_get0 : ∀ (l : List It) (i : Nat), i < l.length → (flat l)[i * 2]? = some (.int .i64 (g l i).1)
  | x :: l, 0, _ => rfl
  | x :: l, i + 1, h => by
    have e : (i + 1) * 2 = i * 2 + 1 + 1 := by omega
    rw [flat_cons, e, List.getElem?_cons_succ, List.getElem?_cons_succ, flat_get0 l i (by simpa using h)]
    simp [g]
theorem flat_get1 : ∀ (l : List It) (i : Nat), i < l.length → (flat l)[i * 2 + 1]? = some (.int .i64 (g l i).2)
  | x :: l, 0, _ => rfl
  | x :: l, i + 1, h => by
    have e : (i + 1) * 2 + 1 = (i * 2 + 1) + 1 + 1 := by omega
    rw [flat_cons, e, List.getElem?_cons_succ, List.getElem?_cons_succ, flat_get1 l i (by simpa using h)]
    simp [g]
theorem flat_set : ∀ (l : List It) (i : Nat) (x : It), ((flat l).set (i * 2) (.int .i64 x.1)).set (i * 2 + 1) (.int .i64 x.2) = flat (l.set i x)
  | [], i, x => by simp [flat]
  | y :: l, 0, x => by simp [flat_cons]
  | y :: l, i + 1, x => by
    have e : (i + 1) * 2 = i * 2 + 1 + 1 := by omega
    rw [flat_cons, e, List.set_cons_succ, List.set_cons_succ, List.set_cons_succ, List.set_cons_succ, flat_set l i x]
    rfl
theorem flat_take (l : List It) (n : Nat) : flat (l.take n) = (flat l).take (n * 2) := by
  induction l generalizing n with
  | nil => simp [flat]
  | cons x r ih =>
    cases n with
    | zero => simp [flat]
    | succ n =>
      have e : (n + 1) * 2 = n * 2 + 1 + 1 := by omega
      rw [List.take_succ_cons, flat_cons, flat_cons, e, List.take_succ_cons, List.take_succ_cons, ih]
def Wf (x : It) : Prop := (Lit.int .i64 x.1).wf = true ∧ (Lit.int .i64 x.2).wf = true
def toV (m : Int → Option Nat) : Int → Option Value := fun k => (m k).map fun (i : Nat) => Value.int .i64 i
theorem toV_upd (m : Int → Option Nat) (k : Int) (i : Nat) : toV (upd m k i) = updV (toV m) k (.int .i64 i) := by
  funext x; simp only [toV, upd, updV]; split <;> rfl
theorem toV_del (m : Int → Option Nat) (k : Int) : toV (del m k) = delV (toV m) k := by
  funext x; simp only [toV, del, delV]; split <;> rfl
/-- the heap's parts: head hb, row lb with room for cap, map mb -/
structure InR (w : World) (hb lb mb cap : Nat) (l : List It) (m : Int → Option Nat) : Prop where
  hd : w.heap[hb]? = some (.cells #[.slice (some ⟨lb, 0, none⟩) l.length cap, .map (some mb)] 76 (0, 0))
  row : w.ownsRow 0 111 2 (.slice (some ⟨lb, 0, none⟩) l.length cap) l.length (flat l)
  map : ∃ es ck, mapAt w mb es ck ∧ EntV es ck (toV m)
  wf : ∀ x ∈ l, Wf x
theorem InR.row_at {w : World} {hb lb mb cap : Nat} {l : List It} {m : Int → Option Nat} (h : InR w hb lb mb cap l m) : ∃ cur, w.heap[lb]? = some (.cells cur 111 (0, 0)) := by
  rcases h.row.2 with ⟨h1, _⟩ | ⟨g, c, cur, h1, _, h2, _⟩
  · cases h1
  · simp only [Value.slice.injEq, Option.some.injEq, Addr.mk.injEq, and_true] at h1
    obtain ⟨rfl, _⟩ := h1
    exact ⟨cur, h2⟩
theorem InR.apart {w : World} {hb lb mb cap : Nat} {l : List It} {m : Int → Option Nat} (h : InR w hb lb mb cap l m) : hb ≠ lb ∧ hb ≠ mb ∧ lb ≠ mb := by
  obtain ⟨cur, hr⟩ := h.row_at
  obtain ⟨es, ck, hm, _⟩ := h.map
  have hd := h.hd
  refine ⟨?_, ?_, ?_⟩
  · rintro rfl; rw [hd] at hr; simp at hr
  · rintro rfl; unfold mapAt at hm; rw [hd] at hm; simp at hm
  · rintro rfl; unfold mapAt at hm; rw [hr] at hm; simp at hm
theorem InR.sizes {w : World} {hb lb mb cap : Nat} {l : List It} {m : Int → Option Nat} (h : InR w hb lb mb cap l m) : hb < w.heap.size ∧ lb < w.heap.size ∧ mb < w.heap.size := by
  obtain ⟨cur, hr⟩ := h.row_at
  obtain ⟨es, ck, hm, _⟩ := h.map
  exact ⟨(Array.getElem?_eq_some_iff.1 h.hd).1, (Array.getElem?_eq_some_iff.1 hr).1, mapAt_lt hm⟩
theorem InR.c0 {w : World} {hb lb mb cap : Nat} {l : List It} {m : Int → Option Nat} (h : InR w hb lb mb cap l m) : w.cell? ⟨hb, 0, none⟩ = some (.slice (some ⟨lb, 0, none⟩) l.length cap) := by simp [World.cell?, h.hd]
theorem InR.c1 {w : World} {hb lb mb cap : Nat} {l : List It} {m : Int → Option Nat} (h : InR w hb lb mb cap l m) : w.cell? ⟨hb, 1, none⟩ = some (.map (some mb)) := by simp [World.cell?, h.hd]
theorem InR.i0 {w : World} {hb lb mb cap : Nat} {l : List It} {m : Int → Option Nat} (h : InR w hb lb mb cap l m) {i : Nat} (hi : i < l.length) : w.cell? ⟨lb, i * 2, none⟩ = some (.int .i64 (g l i).1) := by
  rw [h.row.cellAt (i * 2) (by omega), flat_get0 l i hi]
theorem InR.i1 {w : World} {hb lb mb cap : Nat} {l : List It} {m : Int → Option Nat} (h : InR w hb lb mb cap l m) {i : Nat} (hi : i < l.length) : w.cell? ⟨lb, i * 2 + 1, none⟩ = some (.int .i64 (g l i).2) := by
  rw [h.row.cellAt (i * 2 + 1) (by omega), flat_get1 l i hi]
theorem InR.len {w : World} {hb lb mb cap : Nat} {l : List It} {m : Int → Option Nat} (h : InR w hb lb mb cap l m) : l.length ≤ cap ∧ cap ≤ maxLen := by
  rcases h.row.2 with ⟨h1, _⟩ | ⟨g, c, cur, h1, _, h2, h3, h4, _⟩
  · cases h1
  · simp only [Value.slice.injEq, Option.some.injEq, Addr.mk.injEq, and_true] at h1
    obtain ⟨_, _, rfl⟩ := h1
    exact ⟨h3, h4⟩
/-- it stays while its blocks do -/
theorem InR.kept {w w' : World} {hb lb mb cap : Nat} {l : List It} {m : Int → Option Nat} (h : InR w hb lb mb cap l m) (h1 : w'.heap[hb]? = w.heap[hb]?) (h2 : w'.heap[lb]? = w.heap[lb]?) (h3 : w'.heap[mb]? = w.heap[mb]?) : InR w' hb lb mb cap l m := by
  refine ⟨h1.trans h.hd, ⟨h.row.1, ?_⟩, ?_, h.wf⟩
  · rcases h.row.2 with ⟨e, _⟩ | ⟨g, c, cur, e, r⟩
    · cases e
    · refine .inr ⟨g, c, cur, e, ?_⟩
      simp only [Value.slice.injEq, Option.some.injEq, Addr.mk.injEq, and_true] at e
      obtain ⟨rfl, _⟩ := e
      rw [h2]; exact r
  · obtain ⟨es, ck, hm, he⟩ := h.map
    exact ⟨es, ck, h3.trans hm, he⟩
theorem InR.upd {F : Nat → Prop} {w w' : World} {hb lb mb cap : Nat} {l : List It} {m : Int → Option Nat} (h : InR w hb lb mb cap l m) (hu : Upd F w w') (h1 : ¬ F hb) (h2 : ¬ F lb) (h3 : ¬ F mb) : InR w' hb lb mb cap l m :=
  h.kept (hu.block _ h.sizes.1 h1) (hu.block _ h.sizes.2.1 h2) (hu.block _ h.sizes.2.2 h3)

set_option maxHeartbeats 1000000 in
theorem ahead_any (x y : It) (w : World) :
    Calls Try.prog 85 #[.agg #[.int .i64 x.1, .int .i64 x.2], .agg #[.int .i64 y.1, .int .i64 y.2]] w fun e w' => e = .returned (.bool (HeapP.ahead x y)) ∧ Below w.heap.size w w' := by
  obtain ⟨a, b⟩ := x
  obtain ⟨c, d⟩ := y
  by_cases h1 : b < d
  · go_enter Try.func85, Try.ntmps85
    go_wp2
    go_ret
    exact ⟨ret_bool (by simp [HeapP.ahead, h1]), by repeat (first | exact Below.refl _ _ | refine bl_alloc ?_ _)⟩
  · by_cases h2 : (b == d) = true
    · obtain rfl : b = d := by simpa using h2
      by_cases h3 : a < c
      all_goals
        go_enter Try.func85, Try.ntmps85
        go_wp2
        go_ret
        exact ⟨ret_bool (by simp [HeapP.ahead, h3]), by repeat (first | exact Below.refl _ _ | refine bl_alloc ?_ _)⟩
    · have h2 : (b == d) = false := by simpa using h2
      go_enter Try.func85, Try.ntmps85
      go_wp2
      go_ret
      refine ⟨ret_bool ?_, by repeat (first | exact Below.refl _ _ | refine bl_alloc ?_ _)⟩
      have h2' : b ≠ d := by simpa using h2
      simp [HeapP.ahead, h1, h2']
end Go.Proofs.Ytjopiefojicblaa
/- From a law's walk (it returns true, and what was there is as it was) to what a row asks behind the call. -/
namespace Go.Proofs.Ytjopiefojicblaa
open Go.ChangeShapes Go.WideShapes Go.ChangeAt Go.RowKit
theorem own : ownKnob Try.prog.godebug = none := by kernel_rfl
theorem laidOut : laidOutB Try.prog = true := by kernel_rfl
theorem trodAll_below {H : Type} {enc : TypeId × Value → H} {W W' : World} (hb : Below W.heap.size W W') : ∀ (ts : List TypeId) (vs : List Value) (ds : List (DataW H)) (ps : List MemPlace),
    (∀ t ∈ ts, Try.prog.readableRec t = true ∧ t < Try.prog.types.size) → DataW.TrodAll enc Try.prog W 0 (fun _ => true) true ts vs ds ps → (∀ x ∈ ps, x.block < W.heap.size) →
    DataW.TrodAll enc Try.prog W' 0 (fun b => decide (b < W.heap.size)) true ts vs ds ps
  | [], vs, ds, ps, _, h, _ => by
    obtain ⟨rfl, rfl, rfl⟩ := trodAll_nil h
    exact trodAll_mk0
  | t :: ts, vs, ds, ps, ht, h, hlt => by
    obtain ⟨v, vs', d, ds', p, q, rfl, rfl, rfl, hd, hr⟩ := trodAll_cons h
    exact trodAll_cons_mk (Below.trod laidOut (ht t (List.mem_cons_self ..)).1 (ht t (List.mem_cons_self ..)).2 hd hb fun x hx => hlt x (List.mem_append_left _ hx))
      (trodAll_below hb ts vs' ds' q (fun u hu => ht u (List.mem_cons_of_mem _ hu)) hr fun x hx => hlt x (List.mem_append_right _ hx))
theorem readable_all {ts : List TypeId} (h : ts.all (fun t => Try.prog.readableRec t && decide (t < Try.prog.types.size)) = true) : ∀ t ∈ ts, Try.prog.readableRec t = true ∧ t < Try.prog.types.size := by
  intro t ht
  have := List.all_eq_true.1 h t ht
  simpa using this
theorem post_law {H : Type} {enc : TypeId × Value → H} {f : Func} {s : ChangeSpec} {W W' : World} {args : Array Value} {ds gs : List (DataW H)} {before : List MemPlace}
    (hW : DataW.Whole enc Try.prog f.params.toList s.vars false W args.toList ds gs before) (hb : Below W.heap.size W W')
    (hres : (s.fn H (ds ++ gs)).results = [.lit (.bool true)]) (hargs : (s.fn H (ds ++ gs)).args = ds) (hvars : (s.fn H (ds ++ gs)).vars = []) (hv : s.vars = []) (ht : f.resultTypes = #[4])
    (hro : ∀ t ∈ f.params.toList, Try.prog.readableRec t = true ∧ t < Try.prog.types.size) : s.post enc Try.prog f false true false false W args (.bool true) W' := by
  have hlt := hW.lt
  have hW' := hW
  obtain ⟨p, q, hA, hV, rfl, hfz, hnd⟩ := hW
  refine ⟨ds, gs, p ++ q, [], p, [], hW', ?_, ?_, ?_, hb.frame _, fun h => by cases h⟩
  · rw [hres, ht]
    exact trodAll_mk1 (shut_bool Try.underlying4 true)
  · rw [hargs]
    exact trodAll_below hb _ _ _ _ hro hA fun x hx => hlt x (List.mem_append_left _ hx)
  · rw [hvars, hv]
    exact rfl
end Go.Proofs.Ytjopiefojicblaa
/- Slices that came in: what they hold, as the walk reads it. -/
set_option linter.unusedVariables false
set_option linter.unusedSimpArgs false
namespace Go.Proofs.Ytjopiefojicblaa
open Go.ChangeShapes Go.WideShapes Go.ChangeAt Go.RowKit
/-- a slice of ints -/
structure ReadsI (w : World) (A : Option Addr) (n c : Nat) (xs : List Int) : Prop where
  len : xs.length = n
  small : n ≤ maxLen
  cell : 0 < n → ∃ b o, A = some ⟨b, o, none⟩ ∧ ∀ i, i < n → w.cell? ⟨b, o + i, none⟩ = some (.int .i64 (xs.getD i 0))
  wf : ∀ x ∈ xs, (Lit.int .i64 x).wf = true
theorem ReadsI.below {w w' : World} {A : Option Addr} {n c : Nat} {xs : List Int} (h : ReadsI w A n c xs) (hb : Below w.heap.size w w') : ReadsI w' A n c xs := by
  refine ⟨h.len, h.small, fun hn => ?_, h.wf⟩
  obtain ⟨b, o, hA, hc⟩ := h.cell hn
  refine ⟨b, o, hA, fun i hi => ?_⟩
  have hlt := World.block_lt_of_cell? w ⟨b, o + i, none⟩ (hc i hi)
  exact (hb.cell (p := ⟨b, o + i, none⟩) hlt).trans (hc i hi)
theorem ReadsI.upd {F : Nat → Prop} {w w' : World} {A : Option Addr} {n c : Nat} {xs : List Int} (h : ReadsI w A n c xs) (hu : Upd F w w') (hF : ∀ b o, A = some ⟨b, o, none⟩ → b < w.heap.size → ¬ F b) : ReadsI w' A n c xs := by
  refine ⟨h.len, h.small, fun hn => ?_, h.wf⟩
  obtain ⟨b, o, hA, hc⟩ := h.cell hn
  refine ⟨b, o, hA, fun i hi => ?_⟩
  have hlt := World.block_lt_of_cell? w ⟨b, o + i, none⟩ (hc i hi)
  exact (World.cell?_of_block (a := ⟨b, o + i, none⟩) (hu.block b hlt (hF b o hA hlt))).trans (hc i hi)
theorem getD_wf {xs : List Int} (h : ∀ x ∈ xs, (Lit.int .i64 x).wf = true) (i : Nat) : (Lit.int .i64 (xs.getD i 0)).wf = true := by
  rw [List.getD_eq_getElem?_getD]
  rcases Nat.lt_or_ge i xs.length with hi | hi
  · rw [List.getElem?_eq_getElem hi]; exact h _ (List.getElem_mem hi)
  · rw [List.getElem?_eq_none hi]; decide
section
variable {H : Type} {enc : TypeId × Value → H} {W : World} {base : Nat}
set_option maxRecDepth 100000 in
theorem open_reads {v : Value} {d : DataW H} {p : List MemPlace} (ho : Value.okWide Try.prog W .any base 22 v) (h : DataW.Trod enc Try.prog W 0 (fun _ => true) true 22 v d p) :
    ∃ A n c xs, v = .slice A n c ∧ ReadsI W A n c xs := by
  obtain ⟨A, n, c, rfl⟩ := okWide_slice Try.underlying22 ho
  obtain ⟨fuel, hf⟩ := h
  rcases open_ints Try.underlying22 Try.underlying3 (by kernel_rfl) hf with ⟨hcs, hx⟩ | ⟨a, len, cap, zs, hcs, _, hl, hm, hz, hx, hcell, hw⟩
  · have : Value.slice A n c = .slice none 0 0 := by simpa [Value.cells] using hcs
    injection this with e1 e2 e3
    subst e1 e2 e3
    exact ⟨none, 0, 0, [], rfl, rfl, Nat.zero_le _, fun h => absurd h (by omega), by simp⟩
  · have : Value.slice A n c = .slice (some a) len cap := by simpa [Value.cells] using hcs
    injection this with e1 e2 e3
    subst e1 e2 e3
    simp only [if_true] at hz
    refine ⟨some a, n, c, zs.take n, rfl, by rw [List.length_take]; omega, by omega, fun hn => ?_, fun x hx => hw x (List.mem_of_mem_take hx)⟩
    have hsp : a.spot = none := by
      have h0 := hcell 0 (by omega)
      cases hs : a.spot with
      | none => rfl
      | some s => simp [World.cell?, Addr.add, hs] at h0; split at h0 <;> simp at h0
    obtain ⟨b, o, sp⟩ := a
    subst hsp
    refine ⟨b, o, rfl, fun i hi => ?_⟩
    have := hcell i (by omega)
    rw [Addr.add_lit] at this
    rw [this, List.getD_eq_getElem?_getD, List.getD_eq_getElem?_getD, List.getElem?_take_of_lt hi]
end
end Go.Proofs.Ytjopiefojicblaa
/- Slices of pairs that came in. -/
set_option linter.unusedVariables false
set_option linter.unusedSimpArgs false
namespace Go.Proofs.Ytjopiefojicblaa
open Go.ChangeShapes Go.WideShapes Go.ChangeAt Go.RowKit
/-- a slice of pairs of ints -/
structure ReadsP (w : World) (A : Option Addr) (n c : Nat) (xs : List (Int × Int)) : Prop where
  len : xs.length = n
  small : n ≤ maxLen
  cell : 0 < n → ∃ b o, A = some ⟨b, o, none⟩ ∧ ∀ i, i < n → w.cell? ⟨b, o + i * 2, none⟩ = some (.int .i64 (xs.getD i (0, 0)).1) ∧ w.cell? ⟨b, o + i * 2 + 1, none⟩ = some (.int .i64 (xs.getD i (0, 0)).2)
  wf : ∀ x ∈ xs, (Lit.int .i64 x.1).wf = true ∧ (Lit.int .i64 x.2).wf = true
theorem ReadsP.below {w w' : World} {A : Option Addr} {n c : Nat} {xs : List (Int × Int)} (h : ReadsP w A n c xs) (hb : Below w.heap.size w w') : ReadsP w' A n c xs := by
  refine ⟨h.len, h.small, fun hn => ?_, h.wf⟩
  obtain ⟨b, o, hA, hc⟩ := h.cell hn
  refine ⟨b, o, hA, fun i hi => ?_⟩
  have hlt := World.block_lt_of_cell? w ⟨b, o + i * 2, none⟩ (hc i hi).1
  exact ⟨(hb.cell (p := ⟨b, o + i * 2, none⟩) hlt).trans (hc i hi).1, (hb.cell (p := ⟨b, o + i * 2 + 1, none⟩) hlt).trans (hc i hi).2⟩
theorem cell_below {w w' : World} {b x : Nat} {v : Value} (h : w.cell? ⟨b, x, none⟩ = some v) (hb : Below w.heap.size w w') : w'.cell? ⟨b, x, none⟩ = some v := (hb.cell (p := ⟨b, x, none⟩) (World.block_lt_of_cell? w ⟨b, x, none⟩ h)).trans h
theorem two_of {α : Type} : ∀ {l : List α}, l.length = 2 → ∃ a b, l = [a, b]
  | [a, b], _ => ⟨a, b, rfl⟩
theorem getP_wf {xs : List (Int × Int)} (h : ∀ x ∈ xs, (Lit.int .i64 x.1).wf = true ∧ (Lit.int .i64 x.2).wf = true) (i : Nat) : Wf (xs.getD i (0, 0)) := by
  rw [List.getD_eq_getElem?_getD]
  rcases Nat.lt_or_ge i xs.length with hi | hi
  · rw [List.getElem?_eq_getElem hi]; exact h _ (List.getElem_mem hi)
  · rw [List.getElem?_eq_none hi]; exact ⟨by decide, by decide⟩
end Go.Proofs.Ytjopiefojicblaa
/- milepostalike.Round: a number from 0 to ahead of n. -/
set_option linter.unusedVariables false
set_option linter.unusedSimpArgs false
namespace Go.Proofs.Ytjopiefojicblaa
open Go.RowKit
theorem wf_bd {k : Int} (h : (Lit.int .i64 k).wf = true) : -9223372036854775808 ≤ k ∧ k ≤ 9223372036854775807 := by
  simp [Lit.wf, IntKind.min, IntKind.max, IntKind.signed, IntKind.bits] at h; omega
theorem wf_of {k : Int} (h0 : -9223372036854775808 ≤ k) (h1 : k ≤ 9223372036854775807) : (Lit.int .i64 k).wf = true := by
  simp [Lit.wf, IntKind.min, IntKind.max, IntKind.signed, IntKind.bits]; omega
set_option maxHeartbeats 1000000 in
theorem round_any {k n : Int} (hk : (Lit.int .i64 k).wf = true) (hn : 0 < n) (hn2 : n ≤ 4611686018427387904) (w : World) :
    Calls Try.prog 25 #[.int .i64 k, .int .i64 n] w fun e w' => e = .returned (.int .i64 (k % n)) ∧ w = w' := by
  have hb := wf_bd hk
  have he0 := Int.emod_nonneg k (show n ≠ 0 by omega)
  have he1 := Int.emod_lt_of_pos k hn
  have ht := Int.tmod_eq_emod (a := k) (b := n)
  have hnz : (n == 0) = false := by simp; omega
  by_cases h : 0 ≤ k ∨ n ∣ k
  · rw [if_pos h] at ht
    have r1 : 0 ≤ k.tmod n := by omega
    have r2 : k.tmod n ≤ 4611686018427387904 := by omega
    have HT := Lib.hid ht
    clear ht h he0 he1 hk
    go_enter Try.func25, Try.ntmps25
    go_wp2
    go_ret
    exact ⟨ret_int (by have := HT.out; omega), rfl⟩
  · rw [if_neg h] at ht
    have r1 : k.tmod n < 0 := by omega
    have r2 : -4611686018427387904 ≤ k.tmod n := by omega
    have HT : Hid (k.tmod n + n = k % n) := Lib.hid (by omega)
    clear ht h he0 he1 hk
    go_enter Try.func25, Try.ntmps25
    go_wp2
    go_ret
    exact ⟨ret_int HT.out, rfl⟩
end Go.Proofs.Ytjopiefojicblaa
/- More of rows by counting: what stands in a row, and that it rises. -/
set_option linter.unusedVariables false
set_option linter.unusedSimpArgs false
namespace Go.Proofs.Ytjopiefojicblaa.RowP
theorem rowOf_at {f : Nat → Nat} {m v j : Nat} (h : j < cnt f m v) : f ((rowOf f m v).getD j 0) = v ∧ (rowOf f m v).getD j 0 < m := by
  have hj : j < (rowOf f m v).length := h
  have hm : (rowOf f m v)[j] ∈ rowOf f m v := List.getElem_mem hj
  rw [List.getD_eq_getElem?_getD, List.getElem?_eq_getElem hj]
  have h2 := List.mem_filter.1 hm
  exact ⟨by simpa using h2.2, List.mem_range.1 h2.1⟩
theorem rowOf_rising {f : Nat → Nat} {m v i j : Nat} (hij : i < j) (h : j < cnt f m v) : (rowOf f m v).getD i 0 < (rowOf f m v).getD j 0 := by
  have hj : j < (rowOf f m v).length := h
  have hp : (rowOf f m v).Pairwise (· < ·) := (List.pairwise_lt_range (n := m)).filter _
  rw [List.getD_eq_getElem?_getD, List.getD_eq_getElem?_getD, List.getElem?_eq_getElem hj, List.getElem?_eq_getElem (show i < (rowOf f m v).length by omega)]
  exact List.pairwise_iff_getElem.1 hp i j (by omega) hj hij
end Go.Proofs.Ytjopiefojicblaa.RowP
/- Slices of bools that came in, or were made. -/
set_option linter.unusedVariables false
set_option linter.unusedSimpArgs false
namespace Go.Proofs.Ytjopiefojicblaa
open Go.ChangeShapes Go.WideShapes Go.ChangeAt Go.RowKit
/-- a slice of bools -/
structure ReadsB (w : World) (A : Option Addr) (n c : Nat) (xs : List Bool) : Prop where
  len : xs.length = n
  small : n ≤ maxLen
  cell : 0 < n → ∃ b o, A = some ⟨b, o, none⟩ ∧ ∀ i, i < n → w.cell? ⟨b, o + i, none⟩ = some (.bool (xs.getD i false))
theorem ReadsB.below {w w' : World} {A : Option Addr} {n c : Nat} {xs : List Bool} (h : ReadsB w A n c xs) (hb : Below w.heap.size w w') : ReadsB w' A n c xs := by
  refine ⟨h.len, h.small, fun hn => ?_⟩
  obtain ⟨b, o, hA, hc⟩ := h.cell hn
  exact ⟨b, o, hA, fun i hi => cell_below (hc i hi) hb⟩
theorem ReadsB.upd {F : Nat → Prop} {w w' : World} {A : Option Addr} {n c : Nat} {xs : List Bool} (h : ReadsB w A n c xs) (hu : Upd F w w') (hF : ∀ b o, A = some ⟨b, o, none⟩ → b < w.heap.size → ¬ F b) : ReadsB w' A n c xs := by
  refine ⟨h.len, h.small, fun hn => ?_⟩
  obtain ⟨b, o, hA, hc⟩ := h.cell hn
  refine ⟨b, o, hA, fun i hi => ?_⟩
  have hlt := World.block_lt_of_cell? w ⟨b, o + i, none⟩ (hc i hi)
  exact (World.cell?_of_block (a := ⟨b, o + i, none⟩) (hu.block b hlt (hF b o hA hlt))).trans (hc i hi)
section
variable {H : Type} {enc : TypeId × Value → H} {W : World} {base : Nat}
set_option maxRecDepth 100000 in
theorem open_readsB {v : Value} {d : DataW H} {p : List MemPlace} (ho : Value.okWide Try.prog W .any base 23 v) (h : DataW.Trod enc Try.prog W 0 (fun _ => true) true 23 v d p) :
    ∃ A n c xs, v = .slice A n c ∧ ReadsB W A n c xs := by
  obtain ⟨A, n, c, rfl⟩ := okWide_slice Try.underlying23 ho
  obtain ⟨fuel, hf⟩ := h
  rcases Go.Deep.open_bools Try.underlying23 Try.underlying4 (by kernel_rfl) hf with ⟨hcs, hx⟩ | ⟨a, len, cap, Z, hcs, _, hl, hm, hx, hcell⟩
  · have : Value.slice A n c = .slice none 0 0 := by simpa [Value.cells] using hcs
    injection this with e1 e2 e3
    subst e1 e2 e3
    exact ⟨none, 0, 0, [], rfl, rfl, Nat.zero_le _, fun h => absurd h (by omega)⟩
  · have : Value.slice A n c = .slice (some a) len cap := by simpa [Value.cells] using hcs
    injection this with e1 e2 e3
    subst e1 e2 e3
    refine ⟨some a, n, c, (List.range n).map Z, rfl, by simp, by omega, fun hn => ?_⟩
    have hsp : a.spot = none := by
      have h0 := hcell 0 (by omega)
      cases hs : a.spot with
      | none => rfl
      | some s => simp [World.cell?, Addr.add, hs] at h0; split at h0 <;> simp at h0
    obtain ⟨b, o, sp⟩ := a
    subst hsp
    refine ⟨b, o, rfl, fun i hi => ?_⟩
    have := hcell i (by omega)
    rw [Addr.add_lit] at this
    rw [this]; simp [List.getD_eq_getElem?_getD, hi]
end
end Go.Proofs.Ytjopiefojicblaa
