/- A binary heap over lists: what rises and sinks, and the sorted list that it stands for. No program here. -/
set_option linter.unusedVariables false
set_option linter.unusedSimpArgs false
namespace Go.Proofs.Ytkdpfbefdhjmcaa.HeapP
abbrev It := Int × Int
def ahead (a b : It) : Bool := decide (a.2 < b.2) || (decide (a.2 = b.2) && decide (a.1 < b.1))
def g (l : List It) (k : Nat) : It := l.getD k (0, 0)
def upd (m : Int → Option Nat) (k : Int) (i : Nat) : Int → Option Nat := fun x => if x = k then some i else m x
def del (m : Int → Option Nat) (k : Int) : Int → Option Nat := fun x => if x = k then none else m x

theorem ahead_iff {a b : It} : ahead a b = true ↔ a.2 < b.2 ∨ (a.2 = b.2 ∧ a.1 < b.1) := by simp [ahead]
theorem ahead_asymm {a b : It} (h : ahead a b = true) : ¬ ahead b a = true := by rw [ahead_iff] at *; omega
theorem ahead_trans {a b c : It} (h : ahead a b = true) (h' : ahead b c = true) : ahead a c = true := by rw [ahead_iff] at *; omega
theorem nahead_trans {a b c : It} (h : ¬ ahead a b = true) (h' : ¬ ahead b c = true) : ¬ ahead a c = true := by rw [ahead_iff] at *; omega
theorem ahead_nahead {a b c : It} (h : ahead a b = true) (h' : ¬ ahead c b = true) : ¬ ahead c a = true := by rw [ahead_iff] at *; omega
theorem ahead_tot {a b : It} (h : ¬ ahead a b = true) (hn : a.1 ≠ b.1) : ahead b a = true := by rw [ahead_iff] at *; omega
theorem ahead_irrefl (a : It) : ¬ ahead a a = true := by rw [ahead_iff]; omega

theorem g_set_ne {l : List It} {i k : Nat} {v : It} (h : i ≠ k) : g (l.set i v) k = g l k := by
  simp [g, List.getD_eq_getElem?_getD, List.getElem?_set_ne h]
theorem g_set_eq {l : List It} {i : Nat} {v : It} (h : i < l.length) : g (l.set i v) i = v := by
  simp [g, List.getD_eq_getElem?_getD, h]
theorem g_eq {l : List It} {k : Nat} (h : k < l.length) : g l k = l[k] := by simp [g, List.getD_eq_getElem?_getD, h]
theorem g_mem {l : List It} {k : Nat} (h : k < l.length) : g l k ∈ l := by rw [g_eq h]; exact List.getElem_mem h
theorem mem_g {l : List It} {x : It} (h : x ∈ l) : ∃ k, k < l.length ∧ g l k = x := by
  obtain ⟨k, hk, e⟩ := List.getElem_of_mem h
  exact ⟨k, hk, by rw [g_eq hk, e]⟩

/-! ### up -/
def upS (x : It) (l : List It) (m : Int → Option Nat) (i : Nat) : List It × (Int → Option Nat) :=
  if h : 0 < i ∧ ahead x (g l ((i - 1) / 2)) = true then upS x (l.set i (g l ((i - 1) / 2))) (upd m (g l ((i - 1) / 2)).1 i) ((i - 1) / 2)
  else (l.set i x, upd m x.1 i)
termination_by i
decreasing_by omega

structure Hole (x : It) (l : List It) (m : Int → Option Nat) (i : Nat) : Prop where
  lt : i < l.length
  at_ : ∀ k, k < l.length → k ≠ i → m (g l k).1 = some k
  ne : ∀ k, k < l.length → k ≠ i → (g l k).1 ≠ x.1
  keys : ∀ id j, m id = some j → id = x.1 ∨ ∃ k, k < l.length ∧ k ≠ i ∧ (g l k).1 = id

def Consist (l : List It) (m : Int → Option Nat) : Prop :=
  (∀ k, k < l.length → m (g l k).1 = some k) ∧ ∀ id j, m id = some j → ∃ k, k < l.length ∧ (g l k).1 = id
def HeapOrd (l : List It) : Prop := ∀ k, 0 < k → k < l.length → ¬ ahead (g l k) (g l ((k - 1) / 2)) = true

theorem Hole.move {x : It} {l : List It} {m : Int → Option Nat} {i p : Nat} (h : Hole x l m i) (hp : p < l.length) (hne : p ≠ i) :
    Hole x (l.set i (g l p)) (upd m (g l p).1 i) p := by
  have hlt := h.lt
  have hmp := h.at_ p hp hne
  refine ⟨by simpa using hp, ?_, ?_, ?_⟩
  · intro k hk hkp
    rw [List.length_set] at hk
    by_cases hki : k = i
    · subst hki; rw [g_set_eq hlt]; simp [upd]
    · rw [g_set_ne (Ne.symm hki)]
      have hmk := h.at_ k hk hki
      have : (g l k).1 ≠ (g l p).1 := by intro e; rw [e, hmp] at hmk; injection hmk with e'; exact hkp e'.symm
      simp [upd, this, hmk]
  · intro k hk hkp
    rw [List.length_set] at hk
    by_cases hki : k = i
    · subst hki; rw [g_set_eq hlt]; exact h.ne p hp hne
    · rw [g_set_ne (Ne.symm hki)]; exact h.ne k hk hki
  · intro id j hid
    simp only [upd] at hid
    split at hid
    · rename_i e; right; exact ⟨i, by simpa using hlt, Ne.symm hne, by rw [g_set_eq hlt, e]⟩
    · rename_i e
      rcases h.keys id j hid with h1 | ⟨k, hk, hki, hg⟩
      · exact .inl h1
      · right
        refine ⟨k, by simpa using hk, ?_, by rw [g_set_ne (Ne.symm hki), hg]⟩
        rintro rfl; exact e hg.symm
theorem Hole.fill {x : It} {l : List It} {m : Int → Option Nat} {i : Nat} (h : Hole x l m i) : Consist (l.set i x) (upd m x.1 i) := by
  have hlt := h.lt
  constructor
  · intro k hk
    rw [List.length_set] at hk
    by_cases hki : k = i
    · subst hki; rw [g_set_eq hlt]; simp [upd]
    · rw [g_set_ne (Ne.symm hki)]; simp [upd, h.ne k hk hki, h.at_ k hk hki]
  · intro id j hid
    simp only [upd] at hid
    split at hid
    · rename_i e; exact ⟨i, by simpa using hlt, by rw [g_set_eq hlt, e]⟩
    · rename_i e
      rcases h.keys id j hid with h1 | ⟨k, hk, hki, hg⟩
      · exact absurd h1 e
      · exact ⟨k, by simpa using hk, by rw [g_set_ne (Ne.symm hki), hg]⟩
theorem set_move_perm {l : List It} {i p : Nat} {x : It} (hi : i < l.length) (hp : p < l.length) (hne : p ≠ i) : ((l.set i (g l p)).set p x).Perm (l.set i x) := by
  have hi' : i < (l.set i x).length := by simpa using hi
  have hp' : p < (l.set i x).length := by simpa using hp
  have := List.set_set_perm hi' hp'
  have e1 : (l.set i x)[p] = g l p := by rw [g_eq hp]; simp [Ne.symm hne]
  have e2 : (l.set i x)[i] = x := by simp
  rw [e1, e2, List.set_set] at this
  exact this

structure UpInv (x : It) (l : List It) (i : Nat) : Prop where
  rest : ∀ k, 0 < k → k < l.length → k ≠ i → (k - 1) / 2 ≠ i → ¬ ahead (g l k) (g l ((k - 1) / 2)) = true
  kids : ∀ k, 0 < k → k < l.length → (k - 1) / 2 = i → ¬ ahead (g l k) x = true ∧ (0 < i → ¬ ahead (g l k) (g l ((i - 1) / 2)) = true)

theorem upS_ok (x : It) (l : List It) (m : Int → Option Nat) (i : Nat) (hh : Hole x l m i) (hu : UpInv x l i) :
    Consist (upS x l m i).1 (upS x l m i).2 ∧ HeapOrd (upS x l m i).1 ∧ (upS x l m i).1.Perm (l.set i x) := by
  induction i using Nat.strongRecOn generalizing l m with
  | _ i ih =>
    have hlt := hh.lt
    rw [upS]
    by_cases hc : 0 < i ∧ ahead x (g l ((i - 1) / 2)) = true
    · rw [dif_pos hc]
      obtain ⟨h0, hx⟩ := hc
      have hpi : (i - 1) / 2 < i := by omega
      have hpl : (i - 1) / 2 < l.length := by omega
      have hne : (i - 1) / 2 ≠ i := by omega
      have hu' : UpInv x (l.set i (g l ((i - 1) / 2))) ((i - 1) / 2) := by
        constructor
        · intro k hk0 hk hkp hkk
          rw [List.length_set] at hk
          have hki : k ≠ i := by rintro rfl; exact hkk rfl
          rw [g_set_ne (Ne.symm hki)]
          by_cases hpk : (k - 1) / 2 = i
          · rw [hpk, g_set_eq hlt]; exact (hu.kids k hk0 hk hpk).2 h0
          · rw [g_set_ne (Ne.symm hpk)]; exact hu.rest k hk0 hk hki hpk
        · intro k hk0 hk hkp
          rw [List.length_set] at hk
          have hpp : ∀ h : 0 < (i - 1) / 2, ¬ ahead (g l ((i - 1) / 2)) (g l (((i - 1) / 2 - 1) / 2)) = true := fun h => hu.rest _ h hpl hne (by omega)
          by_cases hki : k = i
          · subst hki; rw [g_set_eq hlt]
            refine ⟨ahead_asymm hx, fun h => ?_⟩
            rw [g_set_ne (by omega)]; exact hpp h
          · rw [g_set_ne (Ne.symm hki)]
            have hkv := hu.rest k hk0 hk hki (by omega)
            rw [hkp] at hkv
            refine ⟨fun h => hkv (ahead_trans h hx), fun h => ?_⟩
            rw [g_set_ne (by omega)]; exact nahead_trans hkv (hpp h)
      obtain ⟨a, b, c⟩ := ih _ hpi _ _ (hh.move hpl hne) hu'
      exact ⟨a, b, c.trans (set_move_perm hlt hpl hne)⟩
    · rw [dif_neg hc]
      refine ⟨hh.fill, ?_, List.Perm.refl _⟩
      intro k hk0 hk
      rw [List.length_set] at hk
      by_cases hki : k = i
      · subst hki
        rw [g_set_eq hlt, g_set_ne (by omega)]
        exact fun h => hc ⟨hk0, h⟩
      · rw [g_set_ne (Ne.symm hki)]
        by_cases hpk : (k - 1) / 2 = i
        · rw [hpk, g_set_eq hlt]; exact (hu.kids k hk0 hk hpk).1
        · rw [g_set_ne (Ne.symm hpk)]; exact hu.rest k hk0 hk hki hpk

/-! ### down -/
def child (l : List It) (i : Nat) : Nat := if 2 * i + 1 + 1 < l.length ∧ ahead (g l (2 * i + 1 + 1)) (g l (2 * i + 1)) = true then 2 * i + 1 + 1 else 2 * i + 1
theorem child_gt (l : List It) (i : Nat) : i < child l i := by unfold child; split <;> omega
def downS (x : It) (l : List It) (m : Int → Option Nat) (i : Nat) : List It × (Int → Option Nat) :=
  if _h : child l i < l.length ∧ ahead (g l (child l i)) x = true then downS x (l.set i (g l (child l i))) (upd m (g l (child l i)).1 i) (child l i)
  else (l.set i x, upd m x.1 i)
termination_by l.length - i
decreasing_by have := child_gt l i; simp; omega

theorem child_par (l : List It) (i : Nat) : (child l i - 1) / 2 = i := by unfold child; split <;> omega
theorem child_least (l : List It) (i k : Nat) (hk0 : 0 < k) (hk : k < l.length) (hp : (k - 1) / 2 = i) : child l i < l.length ∧ ¬ ahead (g l k) (g l (child l i)) = true := by
  have hk' : k = 2 * i + 1 ∨ k = 2 * i + 1 + 1 := by omega
  unfold child
  split
  · rename_i h
    refine ⟨h.1, ?_⟩
    rcases hk' with rfl | rfl
    · exact ahead_asymm h.2
    · exact ahead_irrefl _
  · rename_i h
    rcases hk' with rfl | rfl
    · exact ⟨hk, ahead_irrefl _⟩
    · exact ⟨by omega, fun e => h ⟨hk, e⟩⟩

structure DownInv (x : It) (l : List It) (i : Nat) : Prop where
  rest : ∀ k, 0 < k → k < l.length → k ≠ i → (k - 1) / 2 ≠ i → ¬ ahead (g l k) (g l ((k - 1) / 2)) = true
  kids : 0 < i → ∀ k, 0 < k → k < l.length → (k - 1) / 2 = i → ¬ ahead (g l k) (g l ((i - 1) / 2)) = true
  top : 0 < i → ¬ ahead x (g l ((i - 1) / 2)) = true

theorem downS_ok (n : Nat) : ∀ (x : It) (l : List It) (m : Int → Option Nat) (i : Nat), l.length - i = n → Hole x l m i → DownInv x l i →
    Consist (downS x l m i).1 (downS x l m i).2 ∧ HeapOrd (downS x l m i).1 ∧ (downS x l m i).1.Perm (l.set i x) := by
  induction n using Nat.strongRecOn with
  | _ n ih =>
    intro x l m i hn hh hu
    have hlt := hh.lt
    rw [downS]
    by_cases hc : child l i < l.length ∧ ahead (g l (child l i)) x = true
    · rw [dif_pos hc]
      obtain ⟨hcl, hx⟩ := hc
      have hgt := child_gt l i
      have hpar := child_par l i
      have hmin := child_least l i
      generalize child l i = c at *
      have hne : c ≠ i := by omega
      have hu' : DownInv x (l.set i (g l c)) c := by
        constructor
        · intro k hk0 hk hkc hkk
          rw [List.length_set] at hk
          by_cases hki : k = i
          · subst hki
            rw [g_set_eq hlt, g_set_ne (by omega)]
            exact hu.kids hk0 c (by omega) hcl hpar
          · rw [g_set_ne (Ne.symm hki)]
            by_cases hpk : (k - 1) / 2 = i
            · rw [hpk, g_set_eq hlt]; exact (hmin k hk0 hk hpk).2
            · rw [g_set_ne (Ne.symm hpk)]; exact hu.rest k hk0 hk hki hpk
        · intro h0 k hk0 hk hkc
          rw [List.length_set] at hk
          rw [hpar, g_set_eq hlt, g_set_ne (by omega)]
          have := hu.rest k hk0 hk (by omega) (by omega)
          rwa [hkc] at this
        · intro h0
          rw [hpar, g_set_eq hlt]; exact ahead_asymm hx
      obtain ⟨a, b, d⟩ := ih ((l.set i (g l c)).length - c) (by rw [List.length_set]; omega) x _ _ c rfl (hh.move hcl hne) hu'
      exact ⟨a, b, d.trans (set_move_perm hlt hcl hne)⟩
    · rw [dif_neg hc]
      refine ⟨hh.fill, ?_, List.Perm.refl _⟩
      intro k hk0 hk
      rw [List.length_set] at hk
      by_cases hki : k = i
      · subst hki
        rw [g_set_eq hlt, g_set_ne (by omega)]
        exact hu.top hk0
      · rw [g_set_ne (Ne.symm hki)]
        by_cases hpk : (k - 1) / 2 = i
        · rw [hpk, g_set_eq hlt]
          obtain ⟨h1, h2⟩ := child_least l i k hk0 hk hpk
          exact nahead_trans h2 (fun h => hc ⟨h1, h⟩)
        · rw [g_set_ne (Ne.symm hpk)]; exact hu.rest k hk0 hk hki hpk

/-! ### what it stands for: a sorted list -/
def ins (x : It) : List It → List It
  | [] => [x]
  | y :: r => if ahead y x = true then y :: ins x r else x :: y :: r
theorem ins_perm (x : It) : ∀ S : List It, (ins x S).Perm (x :: S)
  | [] => List.Perm.refl _
  | y :: r => by
    unfold ins
    split
    · exact ((ins_perm x r).cons y).trans (List.Perm.swap x y r)
    · exact List.Perm.refl _
def Sorted (S : List It) : Prop := S.Pairwise fun a b => ahead a b = true
theorem ins_sorted (x : It) : ∀ S : List It, Sorted S → (∀ y ∈ S, y.1 ≠ x.1) → Sorted (ins x S)
  | [], _, _ => by simp [ins, Sorted]
  | y :: r, h, hn => by
    unfold ins
    have h' := List.pairwise_cons.1 h
    split
    · rename_i hy
      refine List.pairwise_cons.2 ⟨?_, ins_sorted x r h'.2 fun z hz => hn z (List.mem_cons_of_mem _ hz)⟩
      intro z hz
      rcases List.mem_cons.1 ((ins_perm x r).mem_iff.1 hz) with rfl | hz
      · exact hy
      · exact h'.1 z hz
    · rename_i hy
      have hxy := ahead_tot hy (hn y (List.mem_cons_self ..))
      refine List.pairwise_cons.2 ⟨?_, h⟩
      intro z hz
      rcases List.mem_cons.1 hz with rfl | hz
      · exact hxy
      · exact ahead_trans hxy (h'.1 z hz)

structure Abs (l : List It) (m : Int → Option Nat) (S : List It) : Prop where
  con : Consist l m
  ord : HeapOrd l
  sorted : Sorted S
  perm : l.Perm S

theorem ids_inj {l : List It} {m : Int → Option Nat} (h : Consist l m) {i j : Nat} (hi : i < l.length) (hj : j < l.length) (e : (g l i).1 = (g l j).1) : i = j := by
  have a := h.1 i hi
  have b := h.1 j hj
  rw [e, b] at a
  exact (Option.some.inj a).symm
theorem Abs.none {l : List It} {m : Int → Option Nat} {S : List It} (h : Abs l m S) {id : Int} (hm : m id = none) : ∀ y ∈ S, y.1 ≠ id := by
  intro y hy e
  obtain ⟨k, hk, hg⟩ := mem_g (h.perm.mem_iff.2 hy)
  have := h.con.1 k hk
  rw [hg, e, hm] at this
  cases this
theorem Abs.some {l : List It} {m : Int → Option Nat} {S : List It} (h : Abs l m S) {id : Int} {j : Nat} (hm : m id = some j) : j < l.length ∧ (g l j).1 = id ∧ g l j ∈ S := by
  obtain ⟨k, hk, hg⟩ := h.con.2 id j hm
  have := h.con.1 k hk
  rw [hg, hm] at this
  obtain rfl := Option.some.inj this
  exact ⟨hk, hg, h.perm.mem_iff.1 (g_mem hk)⟩
theorem Abs.uniq {l : List It} {m : Int → Option Nat} {S : List It} (h : Abs l m S) {x y : It} (hx : x ∈ S) (hy : y ∈ S) (e : x.1 = y.1) : x = y := by
  obtain ⟨i, hi, rfl⟩ := mem_g (h.perm.mem_iff.2 hx)
  obtain ⟨j, hj, rfl⟩ := mem_g (h.perm.mem_iff.2 hy)
  rw [ids_inj h.con hi hj e]
theorem abs_empty : Abs [] (fun _ => Option.none) [] := ⟨⟨by simp, by simp⟩, by intro k _ h; simp at h, List.Pairwise.nil, List.Perm.refl _⟩

theorem g_append_lt {l : List It} {x : It} {k : Nat} (h : k < l.length) : g (l ++ [x]) k = g l k := by simp [g, List.getD_eq_getElem?_getD, List.getElem?_append_left h]
theorem g_append_last (l : List It) (x : It) : g (l ++ [x]) l.length = x := by simp [g, List.getD_eq_getElem?_getD]
theorem set_append_last (l : List It) (x y : It) : (l ++ [x]).set l.length y = l ++ [y] := by simp
theorem push_new {l : List It} {m : Int → Option Nat} {S : List It} (h : Abs l m S) {x : It} (hm : m x.1 = Option.none) :
    Abs (upS x (l ++ [x]) m l.length).1 (upS x (l ++ [x]) m l.length).2 (ins x S) := by
  have hN := h.none hm
  have hne : ∀ k, k < l.length → (g l k).1 ≠ x.1 := fun k hk => hN _ (h.perm.mem_iff.1 (g_mem hk))
  have hh : Hole x (l ++ [x]) m l.length := by
    refine ⟨by simp, ?_, ?_, ?_⟩
    · intro k hk hki
      have hk : k < l.length := by simp at hk; omega
      rw [g_append_lt hk]; exact h.con.1 k hk
    · intro k hk hki
      have hk : k < l.length := by simp at hk; omega
      rw [g_append_lt hk]; exact hne k hk
    · intro id j hid
      obtain ⟨k, hk, hg⟩ := h.con.2 id j hid
      exact .inr ⟨k, by simp; omega, by omega, by rw [g_append_lt hk, hg]⟩
  have hu : UpInv x (l ++ [x]) l.length := by
    constructor
    · intro k hk0 hk hki hkk
      have hk : k < l.length := by simp at hk; omega
      rw [g_append_lt hk, g_append_lt (by omega)]; exact h.ord k hk0 hk
    · intro k hk0 hk hkk
      simp at hk; omega
  obtain ⟨a, b, c⟩ := upS_ok x _ m _ hh hu
  refine ⟨a, b, ins_sorted x S h.sorted hN, c.trans ?_⟩
  rw [set_append_last]
  exact (List.perm_append_comm (l₁ := l) (l₂ := [x])).trans ((h.perm.cons x).trans (ins_perm x S).symm)
theorem filter_set_perm {m : Int → Option Nat} {x : It} : ∀ {l : List It} {j : Nat}, j < l.length → (∀ k, k < l.length → k ≠ j → (g l k).1 ≠ x.1) → (g l j).1 = x.1 → (l.set j x).Perm (x :: l.filter fun y => !decide (y.1 = x.1)) := by
  intro l
  induction l with
  | nil => intro j hj; simp at hj
  | cons y r ih =>
    intro j hj hne hj1
    cases j with
    | zero =>
      have hy : y.1 = x.1 := hj1
      have hr : r.filter (fun y => !decide (y.1 = x.1)) = r := by
        rw [List.filter_eq_self]
        intro z hz
        obtain ⟨k, hk, e⟩ := mem_g hz
        have h1 := hne (k + 1) (by simp; omega) (by omega)
        have h2 : g (y :: r) (k + 1) = g r k := by simp [g]
        rw [h2, e] at h1
        simp [h1]
      simp [hy, hr]
    | succ j =>
      have hy : y.1 ≠ x.1 := by have := hne 0 (by simp) (by omega); simpa [g] using this
      have ih' := ih (j := j) (by simpa using hj) (fun k hk hkj => by have := hne (k + 1) (by simp; omega) (by omega); simpa [g] using this) (by simpa [g] using hj1)
      simp only [List.set_cons_succ, List.filter_cons, hy, decide_false, Bool.not_false, if_true]
      exact (ih'.cons y).trans (List.Perm.swap x y _)
theorem push_less {l : List It} {m : Int → Option Nat} {S : List It} (h : Abs l m S) {x : It} {j : Nat} (hm : m x.1 = Option.some j) (hlt : x.2 < (g l j).2) :
    Abs (upS x (l.set j x) m j).1 (upS x (l.set j x) m j).2 (ins x (S.filter fun y => !decide (y.1 = x.1))) := by
  obtain ⟨hj, hg, hS⟩ := h.some hm
  have hne : ∀ k, k < l.length → k ≠ j → (g l k).1 ≠ x.1 := fun k hk hkj e => hkj (ids_inj h.con hk hj (by rw [e, hg]))
  have hx : ahead x (g l j) = true := ahead_iff.2 (.inl hlt)
  have hh : Hole x (l.set j x) m j := by
    refine ⟨by simpa using hj, ?_, ?_, ?_⟩
    · intro k hk hki
      rw [List.length_set] at hk
      rw [g_set_ne (Ne.symm hki)]; exact h.con.1 k hk
    · intro k hk hki
      rw [List.length_set] at hk
      rw [g_set_ne (Ne.symm hki)]; exact hne k hk hki
    · intro id i hid
      obtain ⟨k, hk, hgk⟩ := h.con.2 id i hid
      by_cases hkj : k = j
      · subst hkj; exact .inl (by rw [← hgk, hg])
      · exact .inr ⟨k, by simpa using hk, hkj, by rw [g_set_ne (Ne.symm hkj), hgk]⟩
  have hu : UpInv x (l.set j x) j := by
    constructor
    · intro k hk0 hk hki hkk
      rw [List.length_set] at hk
      rw [g_set_ne (Ne.symm hki), g_set_ne (Ne.symm hkk)]; exact h.ord k hk0 hk
    · intro k hk0 hk hkk
      rw [List.length_set] at hk
      have hki : k ≠ j := by omega
      have h1 := h.ord k hk0 hk
      rw [hkk] at h1
      rw [g_set_ne (Ne.symm hki)]
      refine ⟨fun e => h1 (ahead_trans e hx), fun h0 => ?_⟩
      rw [g_set_ne (by omega)]
      exact nahead_trans h1 (h.ord j h0 hj)
  obtain ⟨a, b, c⟩ := upS_ok x _ m _ hh hu
  have hsub : Sorted (S.filter fun y => !decide (y.1 = x.1)) := h.sorted.sublist List.filter_sublist
  refine ⟨a, b, ins_sorted x _ hsub (fun y hy => by simpa using (List.mem_filter.1 hy).2), c.trans ?_⟩
  rw [List.set_set]
  refine (filter_set_perm (m := m) hj hne hg).trans (((h.perm.filter _).cons x).trans (ins_perm x _).symm)
theorem top_least {l : List It} (h : HeapOrd l) : ∀ k, k < l.length → ¬ ahead (g l k) (g l 0) = true := by
  intro k
  induction k using Nat.strongRecOn with
  | _ k ih =>
    intro hk
    by_cases h0 : k = 0
    · subst h0; exact ahead_irrefl _
    · exact nahead_trans (h k (by omega) hk) (ih ((k - 1) / 2) (by omega) (by omega))
theorem Abs.top {l : List It} {m : Int → Option Nat} {s : It} {S : List It} (h : Abs l m (s :: S)) : 0 < l.length ∧ g l 0 = s := by
  have hlen := h.perm.length_eq
  have h0 : 0 < l.length := by rw [hlen]; simp
  refine ⟨h0, ?_⟩
  have hm := h.perm.mem_iff.1 (g_mem h0)
  rcases List.mem_cons.1 hm with e | e
  · exact e
  · have h1 := (List.pairwise_cons.1 h.sorted).1 _ e
    obtain ⟨k, hk, hg⟩ := mem_g (h.perm.mem_iff.2 (List.mem_cons_self (a := s) (l := S)))
    have := top_least h.ord k hk
    rw [hg] at this
    exact absurd h1 this
theorem Abs.ids {l : List It} {m : Int → Option Nat} {s : It} {S : List It} (h : Abs l m (s :: S)) : ∀ y ∈ S, y.1 ≠ s.1 := by
  intro y hy e
  have := h.uniq (List.mem_cons_of_mem _ hy) (List.mem_cons_self ..) e
  subst this
  exact ahead_irrefl _ ((List.pairwise_cons.1 h.sorted).1 _ hy)
/-- what is left behind a pop: the last one in front, or nothing -/
theorem pop_one {l : List It} {m : Int → Option Nat} {s : It} {S : List It} (h : Abs l m (s :: S)) (h1 : l.length = 1) : S = [] ∧ Abs [] (del m s.1) [] := by
  have hlen := h.perm.length_eq
  have hS : S = [] := List.eq_nil_of_length_eq_zero (by simp at hlen; omega)
  subst hS
  obtain ⟨h0, hg⟩ := h.top
  refine ⟨rfl, ⟨by simp, ?_⟩, by intro k _ hk; simp at hk, List.Pairwise.nil, List.Perm.refl _⟩
  intro id j hid
  simp only [del] at hid
  split at hid
  · cases hid
  · rename_i e
    obtain ⟨k, hk, hgk⟩ := h.con.2 id j hid
    obtain rfl : k = 0 := by omega
    rw [hg] at hgk
    exact absurd hgk.symm e
theorem g_take {l : List It} {n k : Nat} (h : k < n) : g (l.take n) k = g l k := by simp [g, List.getD_eq_getElem?_getD, List.getElem?_take, h]
theorem perm_pop {l : List It} (h : 1 < l.length) : ((l.take (l.length - 1)).set 0 (g l (l.length - 1))).Perm (l.drop 1) := by
  cases l with
  | nil => simp at h
  | cons y r =>
    simp only [List.length_cons] at *
    have hr : r ≠ [] := by rintro rfl; simp at h
    have e1 : g (y :: r) (r.length + 1 - 1) = r.getLast hr := by
      rw [g_eq (by simp)]
      rw [List.getLast_eq_getElem]
      have : r.length + 1 - 1 = (r.length - 1) + 1 := by omega
      simp only [this, List.getElem_cons_succ]
    rw [e1]
    have e2 : (y :: r).take (r.length + 1 - 1) = y :: r.dropLast := by
      have : r.length + 1 - 1 = (r.length - 1) + 1 := by omega
      rw [this, List.take_succ_cons, List.dropLast_eq_take]
    rw [e2]
    simp only [List.set_cons_zero, List.drop_succ_cons, List.drop_zero]
    have e3 : r.dropLast ++ [r.getLast hr] = r := List.dropLast_concat_getLast hr
    have := List.perm_append_comm (l₁ := [r.getLast hr]) (l₂ := r.dropLast)
    rw [e3] at this
    exact this
theorem pop_more {l : List It} {m : Int → Option Nat} {s : It} {S : List It} (h : Abs l m (s :: S)) (h1 : 1 < l.length) :
    let r := downS (g l (l.length - 1)) ((l.take (l.length - 1)).set 0 (g l (l.length - 1))) (del m s.1) 0
    Abs r.1 r.2 S := by
  intro r
  obtain ⟨h0, hg⟩ := h.top
  have hk' : ∀ k, k < l.length - 1 → k ≠ 0 → g ((l.take (l.length - 1)).set 0 (g l (l.length - 1))) k = g l k := by
    intro k hk hk0
    rw [g_set_ne (Ne.symm hk0), g_take hk]
  have hlen : ((l.take (l.length - 1)).set 0 (g l (l.length - 1))).length = l.length - 1 := by simp
  have hs : ∀ k, k < l.length → k ≠ 0 → (g l k).1 ≠ s.1 := by
    intro k hk hk0 e
    exact hk0 (ids_inj h.con hk h0 (by rw [e, hg]))
  have hh : Hole (g l (l.length - 1)) ((l.take (l.length - 1)).set 0 (g l (l.length - 1))) (del m s.1) 0 := by
    refine ⟨by omega, ?_, ?_, ?_⟩
    · intro k hk hk0
      rw [hlen] at hk
      rw [hk' k hk hk0]
      simp [del, hs k (by omega) hk0, h.con.1 k (by omega)]
    · intro k hk hk0
      rw [hlen] at hk
      rw [hk' k hk hk0]
      intro e
      have := ids_inj h.con (by omega) (by omega) e
      omega
    · intro id j hid
      simp only [del] at hid
      split at hid
      · cases hid
      · rename_i e
        obtain ⟨k, hk, hgk⟩ := h.con.2 id j hid
        have hk0 : k ≠ 0 := by rintro rfl; rw [hg] at hgk; exact e hgk.symm
        by_cases hkl : k = l.length - 1
        · subst hkl; exact .inl hgk.symm
        · exact .inr ⟨k, by omega, hk0, by rw [hk' k (by omega) hk0, hgk]⟩
  have hu : DownInv (g l (l.length - 1)) ((l.take (l.length - 1)).set 0 (g l (l.length - 1))) 0 := by
    constructor
    · intro k hk0 hk hki hkk
      rw [hlen] at hk
      rw [hk' k hk hki, hk' _ (by omega) hkk]
      exact h.ord k hk0 (by omega)
    · intro h; omega
    · intro h; omega
  obtain ⟨a, b, c⟩ := downS_ok _ _ _ _ _ rfl hh hu
  refine ⟨a, b, (List.pairwise_cons.1 h.sorted).2, c.trans ?_⟩
  rw [List.set_set]
  refine (perm_pop h1).trans ?_
  have e : l = s :: l.drop 1 := by
    cases l with
    | nil => simp at h0
    | cons y t => simp only [g, List.getD_cons_zero] at hg; subst hg; simp
  have := h.perm
  rw [e] at this
  exact List.Perm.cons_inv this
end Go.Proofs.Ytkdpfbefdhjmcaa.HeapP
