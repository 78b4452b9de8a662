/- The document's heap: a sorted list; where a number stands, what a push comes to. No program here. -/
import Derived.Test.YtkdpfbefdhjmcaaHeapMore
set_option linter.unusedVariables false
set_option linter.unusedSimpArgs false
namespace Go.Proofs.Ytkdpfbefdhjmcaa
open HeapP DistP
/-- where a number stands; the length: it is not there -/
def findN : List It → Int → Nat
  | [], _ => 0
  | y :: r, id => if y.1 = id then 0 else findN r id + 1
theorem findN_le : ∀ (S : List It) (id : Int), findN S id ≤ S.length
  | [], _ => Nat.le_refl _
  | y :: r, id => by
    have := findN_le r id
    unfold findN; split <;> simp <;> omega
theorem findN_step : ∀ {S : List It} {id : Int} {k : Nat}, k ≤ findN S id → k < S.length → (g S k).1 ≠ id → k + 1 ≤ findN S id
  | [], _, _, _, h, _ => by simp at h
  | y :: r, id, 0, _, _, hn => by
    have hn' : y.1 ≠ id := hn
    unfold findN; rw [if_neg hn']; omega
  | y :: r, id, k + 1, hk, hl, hn => by
    have hn' : (g r k).1 ≠ id := hn
    unfold findN at hk ⊢
    split at hk
    · omega
    · rename_i h1
      rw [if_neg h1]
      have := findN_step (S := r) (id := id) (k := k) (by omega) (by simpa using hl) hn'
      omega
theorem findN_here : ∀ {S : List It} {id : Int} {k : Nat}, k ≤ findN S id → k < S.length → (g S k).1 = id → findN S id = k
  | [], _, _, _, h, _ => by simp at h
  | y :: r, id, 0, _, _, hn => by
    have hn' : y.1 = id := hn
    unfold findN; rw [if_pos hn']
  | y :: r, id, k + 1, hk, hl, hn => by
    have hn' : (g r k).1 = id := hn
    unfold findN at hk ⊢
    split at hk
    · omega
    · rename_i h1
      rw [if_neg h1, findN_here (S := r) (id := id) (k := k) (by omega) (by simpa using hl) hn']
theorem findN_at : ∀ {S : List It} {id : Int}, findN S id < S.length → (g S (findN S id)).1 = id
  | [], _, h => by simp at h
  | y :: r, id, h => by
    unfold findN at h ⊢
    split
    · assumption
    · rename_i h1
      rw [if_neg h1] at h
      exact findN_at (S := r) (id := id) (by simpa using h)
theorem findN_no : ∀ {S : List It} {id : Int}, ¬ findN S id < S.length → ∀ y ∈ S, y.1 ≠ id
  | [], _, _, _, h => by simp at h
  | x :: r, id, h, y, hy => by
    unfold findN at h
    split at h
    · simp at h
    · rename_i h1
      rcases List.mem_cons.1 hy with rfl | hy
      · exact h1
      · exact findN_no (S := r) (id := id) (by simpa using h) y hy
def findI (S : List It) (id : Int) : Int := if findN S id < S.length then (findN S id : Nat) else -1
theorem push4_none {S : List It} {id key : Int} (h : ¬ findN S id < S.length) : pushB S (id, key) = true ∧ pushF S (id, key) = ins (id, key) S := by
  have hn := findN_no h
  have ha : S.any (fun y => decide (y.1 = ((id, key) : It).1) && decide (y.2 ≤ ((id, key) : It).2)) = false := filter_none hn
  have hf : S.filter (fun y => !decide (y.1 = ((id, key) : It).1)) = S := List.filter_eq_self.2 fun y hy => by simp [hn y hy]
  refine ⟨by unfold pushB; rw [ha]; rfl, ?_⟩
  unfold pushF
  rw [ha, hf]; rfl
theorem push4_kept {S : List It} {id key : Int} (h : findN S id < S.length) (hk : (g S (findN S id)).2 ≤ key) : pushB S (id, key) = false := by
  unfold pushB
  rw [Bool.not_eq_false', List.any_eq_true]
  exact ⟨g S (findN S id), g_mem h, by simp [findN_at h, hk]⟩
theorem filter_cut : ∀ {S : List It} {id : Int}, Sorted S → Uniq S → findN S id < S.length → S.filter (fun y => !decide (y.1 = id)) = S.take (findN S id) ++ S.drop (findN S id + 1)
  | [], _, _, _, h => by simp at h
  | y :: r, id, hs, hu, h => by
    unfold findN at h ⊢
    by_cases h1 : y.1 = id
    · rw [if_pos h1]
      rw [List.filter_cons_of_neg (by simp [h1])]
      simp only [List.take_zero, List.nil_append, Nat.zero_add, List.drop_succ_cons, List.drop_zero]
      refine List.filter_eq_self.2 fun z hz => ?_
      have : z.1 ≠ id := fun e => head_ids hs hu z hz (e.trans h1.symm)
      simp [this]
    · rw [if_neg h1] at h ⊢
      rw [List.filter_cons_of_pos (by simp [h1]), filter_cut (S := r) (List.pairwise_cons.1 hs).2 (uniq_tail hu) (by simpa using h)]
      rfl
theorem push4_lower {S : List It} {id key : Int} (hs : Sorted S) (hu : Uniq S) (h : findN S id < S.length) (hk : key < (g S (findN S id)).2) :
    pushB S (id, key) = true ∧ pushF S (id, key) = ins (id, key) (S.take (findN S id) ++ S.drop (findN S id + 1)) := by
  have hl : lookS S id = some (g S (findN S id)).2 := by
    have h1 := lookS_mem hu (g_mem h)
    rw [findN_at h] at h1; exact h1
  have hb : pushB S (id, key) = true := by rw [pushB_some hu hl]; exact decide_eq_true hk
  have ha : S.any (fun y => decide (y.1 = ((id, key) : It).1) && decide (y.2 ≤ ((id, key) : It).2)) = false := by
    unfold pushB at hb; simpa using hb
  refine ⟨hb, ?_⟩
  unfold pushF
  rw [ha]
  simp only [Bool.false_eq_true, if_false]
  rw [filter_cut hs hu h]
/-- where a new one comes to stand -/
theorem ins_split {x : It} : ∀ {S : List It} {k : Nat}, k ≤ S.length → (∀ j, j < k → HeapP.ahead (g S j) x = true) → (k < S.length → HeapP.ahead (g S k) x = false) → ins x S = S.take k ++ (x :: S.drop k)
  | [], k, hk, _, _ => by simp [ins]
  | y :: r, 0, _, _, h => by
    have h1 : HeapP.ahead y x = false := h (by simp)
    unfold ins
    rw [if_neg (by rw [h1]; simp)]
    rfl
  | y :: r, k + 1, hk, ha, h => by
    have h1 : HeapP.ahead y x = true := ha 0 (by omega)
    unfold ins
    rw [if_pos h1, ins_split (S := r) (k := k) (by simpa using hk) (fun j hj => ha (j + 1) (by omega)) (fun hl => h (by simpa using hl))]
    rfl
theorem ahead_parts {K I k i : Int} : HeapP.ahead ((I, K) : It) (i, k) = (decide (K < k) || (decide (K = k) && decide (I < i))) := rfl
end Go.Proofs.Ytkdpfbefdhjmcaa
