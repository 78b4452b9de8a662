/- More of the sorted list that a heap stands for: what a map of its keys tells. -/
import Derived.Test.YtkdpfbefdhjmcaaHeapAt
set_option linter.unusedVariables false
set_option linter.unusedSimpArgs false
namespace Go.Proofs.Ytkdpfbefdhjmcaa
open Go.RowKit Go.Maps Go.ChangeMaps Go.MapKept HeapP DistP
def lookS : List It → Int → Option Int
  | [], _ => none
  | y :: r, id => if y.1 = id then some y.2 else lookS r id
def mapOf (S : List It) : Int → Option Value := fun id => (lookS S id).map fun k => Value.int .i64 k
theorem mapOf_eq (S : List It) (id : Int) : mapOf S id = (lookS S id).map fun k => Value.int .i64 k := rfl
theorem lookS_none : ∀ {S : List It} {id : Int}, lookS S id = none → ∀ y ∈ S, y.1 ≠ id
  | [], _, _, _, h => by simp at h
  | y :: r, id, h, z, hz => by
    unfold lookS at h
    split at h
    · cases h
    · rename_i hy
      rcases List.mem_cons.1 hz with rfl | hz
      · exact hy
      · exact lookS_none h z hz
theorem lookS_some : ∀ {S : List It} {id k : Int}, lookS S id = some k → ((id, k) : It) ∈ S
  | y :: r, id, k, h => by
    unfold lookS at h
    split at h
    · rename_i hy
      obtain ⟨a, b⟩ := y
      simp only at hy h
      subst hy
      injection h with h
      subst h
      exact List.mem_cons_self ..
    · exact List.mem_cons_of_mem _ (lookS_some h)
theorem lookS_mem {S : List It} (hu : Uniq S) {x : It} (hx : x ∈ S) : lookS S x.1 = some x.2 := by
  cases h : lookS S x.1 with
  | none => exact absurd rfl (lookS_none h x hx)
  | some k =>
    have := hu _ (lookS_some h) x hx rfl
    rw [← this]
theorem lookS_ext {S T : List It} (hS : Uniq S) (hT : Uniq T) {i j : Int} (h : ∀ k, ((i, k) : It) ∈ S ↔ ((j, k) : It) ∈ T) : lookS S i = lookS T j := by
  cases h1 : lookS S i with
  | none =>
    cases h2 : lookS T j with
    | none => rfl
    | some k => exact absurd rfl (lookS_none h1 _ ((h k).2 (lookS_some h2)))
  | some k => exact (lookS_mem hT ((h k).1 (lookS_some h1))).symm
theorem filter_none {S : List It} {id key : Int} (h : ∀ y ∈ S, y.1 ≠ id) : S.any (fun y => decide (y.1 = ((id, key) : It).1) && decide (y.2 ≤ ((id, key) : It).2)) = false := by
  rw [List.any_eq_false]; intro y hy; simp [h y hy]
theorem pushB_none {S : List It} {id key : Int} (h : lookS S id = none) : pushB S (id, key) = true := by
  unfold pushB; rw [filter_none (lookS_none h)]; rfl
theorem pushB_some {S : List It} (hu : Uniq S) {id key k : Int} (h : lookS S id = some k) : pushB S (id, key) = decide (key < k) := by
  have hm := lookS_some h
  unfold pushB
  by_cases hk : key < k
  · rw [show S.any (fun y => decide (y.1 = ((id, key) : It).1) && decide (y.2 ≤ ((id, key) : It).2)) = false by
      rw [List.any_eq_false]
      intro y hy hc
      simp only [Bool.and_eq_true, decide_eq_true_eq] at hc
      have := hu y hy _ hm hc.1
      rw [this] at hc
      have := hc.2
      simp only at this
      omega]
    simp [hk]
  · rw [show S.any (fun y => decide (y.1 = ((id, key) : It).1) && decide (y.2 ≤ ((id, key) : It).2)) = true by
      rw [List.any_eq_true]; exact ⟨_, hm, by simp; omega⟩]
    simp [hk]
theorem pushF_mem {S : List It} {x y : It} (hb : pushB S x = true) : y ∈ pushF S x ↔ y = x ∨ (y ∈ S ∧ y.1 ≠ x.1) := by
  have : S.any (fun y => decide (y.1 = x.1) && decide (y.2 ≤ x.2)) = false := by
    unfold pushB at hb; simpa using hb
  unfold pushF
  rw [this]
  simp only [Bool.false_eq_true, if_false]
  rw [(ins_perm _ _).mem_iff, List.mem_cons, List.mem_filter]
  simp
theorem pushF_not {S : List It} {x : It} (hb : pushB S x = false) : pushF S x = S := by
  have : S.any (fun y => decide (y.1 = x.1) && decide (y.2 ≤ x.2)) = true := by
    unfold pushB at hb; simpa using hb
  unfold pushF; rw [if_pos this]
theorem pushF_len (S : List It) (x : It) : (pushF S x).length ≤ S.length + (if pushB S x = true then 1 else 0) := by
  cases h : pushB S x with
  | false => rw [pushF_not h]; simp
  | true =>
    have : S.any (fun y => decide (y.1 = x.1) && decide (y.2 ≤ x.2)) = false := by unfold pushB at h; simpa using h
    unfold pushF
    rw [this]
    simp only [Bool.false_eq_true, if_false, if_true]
    rw [(ins_perm _ _).length_eq, List.length_cons]
    have := List.length_filter_le (fun y : It => !decide (y.1 = x.1)) S
    omega
theorem mapOf_push {S : List It} (hu : Uniq S) {id key : Int} (hu' : Uniq (pushF S (id, key))) (hb : pushB S (id, key) = true) : mapOf (pushF S (id, key)) = updV (mapOf S) id (.int .i64 key) := by
  funext z
  unfold updV mapOf
  by_cases hz : z = id
  · subst hz
    rw [if_pos rfl, lookS_mem hu' (x := (z, key)) ((pushF_mem hb).2 (.inl rfl))]
    rfl
  · rw [if_neg hz, lookS_ext hu' hu (i := z) (j := z) fun k => ?_]
    rw [pushF_mem hb]
    constructor
    · rintro (e | ⟨h, _⟩)
      · injection e with e _; exact absurd e hz
      · exact h
    · intro h; exact .inr ⟨h, hz⟩
theorem mapOf_pop {x : It} {S : List It} (hu : Uniq (x :: S)) (hn : ∀ y ∈ S, y.1 ≠ x.1) : delV (mapOf (x :: S)) x.1 = mapOf S := by
  funext z
  unfold delV mapOf
  by_cases hz : z = x.1
  · subst hz
    rw [if_pos rfl]
    cases h : lookS S x.1 with
    | none => rfl
    | some k => exact absurd (show ((x.1, k) : It).1 = x.1 from rfl) (hn _ (lookS_some h))
  · rw [if_neg hz]
    simp only [lookS, if_neg (Ne.symm hz)]
theorem head_ids {x : It} {S : List It} (hs : Sorted (x :: S)) (hu : Uniq (x :: S)) : ∀ y ∈ S, y.1 ≠ x.1 := by
  intro y hy e
  have := hu y (List.mem_cons_of_mem _ hy) x (List.mem_cons_self ..) e
  subst this
  exact ahead_irrefl _ ((List.pairwise_cons.1 hs).1 _ hy)
theorem uniq_tail {x : It} {S : List It} (hu : Uniq (x :: S)) : Uniq S := fun a ha c hc e => hu a (List.mem_cons_of_mem _ ha) c (List.mem_cons_of_mem _ hc) e
theorem nodup_ids : ∀ {S : List It}, Sorted S → Uniq S → (S.map (·.1)).Nodup
  | [], _, _ => List.nodup_nil
  | x :: r, hs, hu => by
    rw [List.map_cons, List.nodup_cons]
    refine ⟨?_, nodup_ids (List.pairwise_cons.1 hs).2 (uniq_tail hu)⟩
    intro h
    obtain ⟨y, hy, e⟩ := List.mem_map.1 h
    exact head_ids hs hu y hy e
theorem size_of {S : List It} (hs : Sorted S) (hu : Uniq S) {es : Array MapEntry} {ck : Nat} (h : EntV es ck (mapOf S)) : es.size = S.length := by
  have hp : (es.toList.map (·.key)).Perm ((S.map (·.1)).map fun i => Value.int .i64 i) := by
    refine (List.perm_ext_iff_of_nodup h.st.2.2 ?_).2 fun v => ?_
    · rw [List.nodup_iff_pairwise_ne, List.pairwise_map]
      exact (List.nodup_iff_pairwise_ne.1 (nodup_ids hs hu)).imp fun hab e => hab (by injection e)
    · constructor
      · intro hv
        obtain ⟨x, hx, rfl⟩ := List.mem_map.1 hv
        obtain ⟨k, hk, _, hm⟩ := h.ent x hx
        rw [mapOf_eq] at hm
        cases hl : lookS S k with
        | none => rw [hl] at hm; cases hm
        | some j => exact List.mem_map.2 ⟨k, List.mem_map.2 ⟨_, lookS_some hl, rfl⟩, hk.symm⟩
      · intro hv
        obtain ⟨i, hi, rfl⟩ := List.mem_map.1 hv
        obtain ⟨y, hy, rfl⟩ := List.mem_map.1 hi
        obtain ⟨x, hx, hxk⟩ := h.cov y.1 (.int .i64 y.2) (by rw [mapOf_eq, lookS_mem hu hy]; rfl)
        exact List.mem_map.2 ⟨x, hx, hxk⟩
  have := hp.length_eq
  simpa using this
end Go.Proofs.Ytkdpfbefdhjmcaa
