/- How many turns there are: on lists alone. -/
import Derived.Test.YtjcaoejodjmmkaaArcsMem
import Derived.Test.YtjcaoejodjmmkaaOrderPure
set_option linter.unusedVariables false
set_option linter.unusedSimpArgs false
namespace Go.Proofs.Ytjcaoejodjmmkaa
open Go.RowKit RowP
def sm (f : Nat → Nat) : Nat → Nat
  | 0 => 0
  | k + 1 => sm f k + f k
theorem sm_congr {f g : Nat → Nat} : ∀ k, (∀ i, i < k → f i = g i) → sm f k = sm g k
  | 0, _ => rfl
  | k + 1, h => by simp only [sm]; rw [sm_congr k fun i hi => h i (by omega), h k (by omega)]
theorem sm_add (f g : Nat → Nat) : ∀ k, sm (fun i => f i + g i) k = sm f k + sm g k
  | 0 => rfl
  | k + 1 => by simp only [sm]; rw [sm_add f g k]; omega
theorem sm_le (f : Nat → Nat) (b : Nat) : ∀ k, (∀ i, i < k → f i ≤ b) → sm f k ≤ k * b
  | 0, _ => by simp [sm]
  | k + 1, h => by simp only [sm]; have := sm_le f b k fun i hi => h i (by omega); have := h k (by omega); rw [Nat.add_mul]; omega
theorem sm_single (g : Nat → Nat) (v : Nat) : ∀ N, sm (fun u => if v = u then g u else 0) N = if v < N then g v else 0
  | 0 => by simp [sm]
  | N + 1 => by
    simp only [sm]
    rw [sm_single g v N]
    by_cases h : v = N
    · subst h; simp
    · by_cases h2 : v < N
      · simp [h, h2, show v < N + 1 by omega]
      · simp [h, h2, show ¬ v < N + 1 by omega]
theorem sm_group (t g : Nat → Nat) (N : Nat) : ∀ k, (∀ a, a < k → t a < N) → sm (fun a => g (t a)) k = sm (fun v => cnt t k v * g v) N
  | 0, _ => by
    have : ∀ N, sm (fun v => cnt t 0 v * g v) N = 0 := by
      intro N; induction N with
      | zero => rfl
      | succ N ih => simp only [sm]; rw [ih]; simp [cnt]
    rw [this]; rfl
  | k + 1, h => by
    have ih := sm_group t g N k fun a ha => h a (by omega)
    simp only [sm]
    rw [ih]
    have e : sm (fun v => cnt t (k + 1) v * g v) N = sm (fun v => cnt t k v * g v + if t k = v then g v else 0) N := by
      apply sm_congr
      intro v _
      rw [cnt_succ]
      by_cases hv : t k = v
      · rw [if_pos hv, if_pos hv, Nat.add_mul, Nat.one_mul]
      · rw [if_neg hv, if_neg hv, Nat.add_zero]
    rw [e, sm_add, sm_single, if_pos (h k (by omega))]
theorem sm_filter {α : Type} (key : α → Nat) (N : Nat) : ∀ (l : List α), (∀ x ∈ l, key x < N) → sm (fun a => (l.filter fun x => key x == a).length) N = l.length
  | [], _ => by
    have : ∀ N, sm (fun _ => 0) N = 0 := by
      intro N; induction N with
      | zero => rfl
      | succ N ih => simp only [sm]; rw [ih]
    simpa using this N
  | x :: l, h => by
    have ih := sm_filter key N l fun y hy => h y (List.mem_cons_of_mem _ hy)
    have e : sm (fun a => ((x :: l).filter fun x => key x == a).length) N = sm (fun a => (l.filter fun x => key x == a).length + if key x = a then 1 else 0) N := by
      apply sm_congr
      intro v _
      by_cases hv : key x = v
      · simp [List.filter_cons, hv]
      · simp [List.filter_cons, hv]
    rw [e, sm_add, ih, sm_single (fun _ => 1), if_pos (h x (List.mem_cons_self ..))]; simp
theorem arcsN_sum (es : List (Int × Int × Int)) (bs : List (Int × Int)) : ∀ k, (arcsN es bs k).length = sm (fun a => (nextT es bs ((a : Nat) : Int)).length) k
  | 0 => by simp [arcsN, sm]
  | k + 1 => by rw [arcsN_succ, List.length_append, arcsN_sum es bs k]; simp only [sm]; unfold arcRow; rw [List.length_map]
theorem rising_nodup {bs : List (Int × Int)} (h : Rising bs) : bs.Nodup := by
  rw [List.nodup_iff_pairwise_ne, List.pairwise_iff_getElem]
  intro i j hi hj hij e
  have := h i j hij hj
  rw [List.getD_eq_getElem?_getD, List.getD_eq_getElem?_getD, List.getElem?_eq_getElem hi, List.getElem?_eq_getElem hj] at this
  simp only [Option.getD_some] at this
  rw [e] at this
  exact absurd this (by rw [ordI_neg_iff]; omega)
theorem ban_parts {ns bs : List (Int × Int)} {es : List (Int × Int × Int)} (h : mayB ns es bs = true) {x : Int × Int} (hx : x ∈ bs) : ∃ a b : Nat, x = ((a : Int), (b : Int)) ∧ a < es.length ∧ b < es.length ∧ toN es a = fromN es b := by
  obtain ⟨i, hi, rfl⟩ := List.getElem_of_mem hx
  have hb := ban_bd h hi
  obtain ⟨_, _, hf, ht⟩ := mayB_parts h
  have e : bs.getD i (0, 0) = bs[i] := by rw [List.getD_eq_getElem?_getD, List.getElem?_eq_getElem hi]; rfl
  unfold banOk inB at hb
  rw [e] at hb
  simp only [Bool.and_eq_true, decide_eq_true_eq] at hb
  obtain ⟨⟨⟨⟨a1, a2⟩, a3, a4⟩, a5⟩, _⟩ := hb
  refine ⟨bs[i].1.toNat, bs[i].2.toNat, ?_, by omega, by omega, ?_⟩
  · ext <;> simp <;> omega
  · have h1 := ht bs[i].1.toNat (by omega)
    have h2 := hf bs[i].2.toNat (by omega)
    omega
theorem filter_split {α : Type} (p : α → Bool) : ∀ l : List α, (l.filter fun b => !p b).length + (l.filter p).length = l.length
  | [] => rfl
  | x :: l => by
    have ih := filter_split p l
    cases h : p x <;> simp [List.filter_cons, h] <;> omega
/-- what may come behind an edge, and what is banned behind it, is what goes from where it ends -/
theorem next_count {ns bs : List (Int × Int)} {es : List (Int × Int × Int)} (h : mayB ns es bs = true) {a : Nat} (ha : a < es.length) :
    (nextT es bs ((a : Nat) : Int)).length + (bs.filter fun x => x.1.toNat == a).length = cnt (fromN es) es.length (toN es a) := by
  obtain ⟨_, _, hf, ht⟩ := mayB_parts h
  have e1 : (nextT es bs ((a : Nat) : Int)).length = ((rowOf (fromN es) es.length (toN es a)).filter fun b => !decide ((((a : Nat) : Int), ((b : Nat) : Int)) ∈ bs)).length := by
    unfold nextT rowOf
    rw [List.length_map, List.filter_filter]
    congr 1
    apply List.filter_congr
    intro q hq
    rw [List.mem_range] at hq
    rw [turnB_nat ha hq, (ht a ha).1, (hf q hq).1, Bool.and_comm]
    congr 1
    rw [Bool.eq_iff_iff]; simp; omega
  have e2 : (bs.filter fun x => x.1.toNat == a).length = ((rowOf (fromN es) es.length (toN es a)).filter fun b => decide ((((a : Nat) : Int), ((b : Nat) : Int)) ∈ bs)).length := by
    have hperm : (bs.filter fun x => x.1.toNat == a).Perm (((rowOf (fromN es) es.length (toN es a)).filter fun b => decide ((((a : Nat) : Int), ((b : Nat) : Int)) ∈ bs)).map fun b => (((a : Nat) : Int), ((b : Nat) : Int))) := by
      refine (List.perm_ext_iff_of_nodup ((rising_nodup (rising_of h)).filter _) ?_).2 fun x => ?_
      · have hnd : ((rowOf (fromN es) es.length (toN es a)).filter fun b => decide ((((a : Nat) : Int), ((b : Nat) : Int)) ∈ bs)).Nodup := by
          unfold rowOf; exact (List.nodup_range.filter _).filter _
        refine List.Pairwise.map _ (fun p q hpq e => hpq ?_) hnd
        injection e with _ e; omega
      · simp only [List.mem_filter, List.mem_map, beq_iff_eq, decide_eq_true_eq]
        constructor
        · rintro ⟨hx, hxa⟩
          obtain ⟨p, q, rfl, hp, hq, hpq⟩ := ban_parts h hx
          have : p = a := by simpa using hxa
          subst this
          refine ⟨q, ⟨?_, hx⟩, rfl⟩
          unfold rowOf; rw [List.mem_filter, List.mem_range]; exact ⟨hq, by simpa using hpq.symm⟩
        · rintro ⟨q, ⟨_, hx⟩, rfl⟩
          exact ⟨hx, by simp⟩
    rw [hperm.length_eq, List.length_map]
  rw [e1, e2]
  exact filter_split (fun b => decide ((((a : Nat) : Int), ((b : Nat) : Int)) ∈ bs)) _
theorem turns_count {ns bs : List (Int × Int)} {es : List (Int × Int × Int)} (h : mayB ns es bs = true) :
    sm (fun a => (nextT es bs ((a : Nat) : Int)).length) es.length + bs.length = sm (fun v => cnt (toN es) es.length v * cnt (fromN es) es.length v) ns.length := by
  obtain ⟨_, _, hf, ht⟩ := mayB_parts h
  rw [← sm_group (toN es) (fun v => cnt (fromN es) es.length v) ns.length es.length fun a ha => (ht a ha).2]
  have e : sm (fun a => cnt (fromN es) es.length (toN es a)) es.length = sm (fun a => (nextT es bs ((a : Nat) : Int)).length + (bs.filter fun x => x.1.toNat == a).length) es.length := sm_congr _ fun a ha => (next_count h ha).symm
  rw [e, sm_add, sm_filter (fun x : Int × Int => x.1.toNat) es.length bs]
  intro x hx
  obtain ⟨p, q, rfl, hp, _⟩ := ban_parts h hx
  simpa using hp
end Go.Proofs.Ytjcaoejodjmmkaa
