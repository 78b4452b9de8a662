/- What may come behind an edge, and ahead: on lists alone. -/
import Derived.Test.YtkdpfbefdhjmcaaRowsUse
set_option linter.unusedVariables false
set_option linter.unusedSimpArgs false
namespace Go.Proofs.Ytkdpfbefdhjmcaa
open Go.RowKit RowP
/-- may b come behind a? -/
def turnB (es : List (Int × Int × Int)) (bs : List (Int × Int)) (a b : Int) : Bool :=
  inB 0 a ((es.length : Int) - 1) && inB 0 b ((es.length : Int) - 1) && decide ((es.getD a.toNat (0, 0, 0)).2.1 = (es.getD b.toNat (0, 0, 0)).1) && !decide ((a, b) ∈ bs)
def nextT (es : List (Int × Int × Int)) (bs : List (Int × Int)) (e : Int) : List Int := ((List.range es.length).filter fun i => turnB es bs e ((i : Nat) : Int)).map fun i => ((i : Nat) : Int)
def prevT (es : List (Int × Int × Int)) (bs : List (Int × Int)) (e : Int) : List Int := ((List.range es.length).filter fun i => turnB es bs ((i : Nat) : Int) e).map fun i => ((i : Nat) : Int)
theorem turnB_nat {es : List (Int × Int × Int)} {bs : List (Int × Int)} {a b : Nat} (ha : a < es.length) (hb : b < es.length) :
    turnB es bs ((a : Nat) : Int) ((b : Nat) : Int) = (decide ((es.getD a (0, 0, 0)).2.1 = (es.getD b (0, 0, 0)).1) && !decide ((((a : Nat) : Int), ((b : Nat) : Int)) ∈ bs)) := by
  unfold turnB; rw [inB_nat ha, inB_nat hb]; simp
theorem turnB_in {es : List (Int × Int × Int)} {bs : List (Int × Int)} {a b : Int} (h : turnB es bs a b = true) : ∃ i j : Nat, a = (i : Int) ∧ b = (j : Int) ∧ i < es.length ∧ j < es.length := by
  unfold turnB inB at h
  simp only [Bool.and_eq_true, decide_eq_true_eq] at h
  exact ⟨a.toNat, b.toNat, by omega, by omega, by omega, by omega⟩
theorem turnB_out {es : List (Int × Int × Int)} {bs : List (Int × Int)} {a b : Int} (h : inB 0 a ((es.length : Int) - 1) = false) : turnB es bs a b = false := by unfold turnB; rw [h]; rfl
theorem turnB_out2 {es : List (Int × Int × Int)} {bs : List (Int × Int)} {a b : Int} (h : inB 0 b ((es.length : Int) - 1) = false) : turnB es bs a b = false := by unfold turnB; rw [h]; simp
theorem nextT_out {es : List (Int × Int × Int)} {bs : List (Int × Int)} {e : Int} (h : inB 0 e ((es.length : Int) - 1) = false) : nextT es bs e = [] := by
  unfold nextT; rw [List.filter_eq_nil_iff.2 fun i _ => by rw [turnB_out h]; simp]; rfl
theorem prevT_out {es : List (Int × Int × Int)} {bs : List (Int × Int)} {e : Int} (h : inB 0 e ((es.length : Int) - 1) = false) : prevT es bs e = [] := by
  unfold prevT; rw [List.filter_eq_nil_iff.2 fun i _ => by rw [turnB_out2 h]; simp]; rfl
theorem nextT_mem {es : List (Int × Int × Int)} {bs : List (Int × Int)} {e x : Int} : x ∈ nextT es bs e ↔ turnB es bs e x = true := by
  unfold nextT
  simp only [List.mem_map, List.mem_filter, List.mem_range]
  constructor
  · rintro ⟨i, ⟨_, h⟩, rfl⟩; exact h
  · intro h
    obtain ⟨i, j, _, rfl, _, hj⟩ := turnB_in h
    exact ⟨j, ⟨hj, h⟩, rfl⟩
theorem prevT_mem {es : List (Int × Int × Int)} {bs : List (Int × Int)} {e x : Int} : x ∈ prevT es bs e ↔ turnB es bs x e = true := by
  unfold prevT
  simp only [List.mem_map, List.mem_filter, List.mem_range]
  constructor
  · rintro ⟨i, ⟨_, h⟩, rfl⟩; exact h
  · intro h
    obtain ⟨i, j, rfl, _, hi, _⟩ := turnB_in h
    exact ⟨i, ⟨hi, h⟩, rfl⟩
theorem nextT_len (es : List (Int × Int × Int)) (bs : List (Int × Int)) (e : Int) : (nextT es bs e).length ≤ es.length := by unfold nextT; rw [List.length_map]; exact Nat.le_trans (List.length_filter_le _ _) (by simp)
theorem prevT_len (es : List (Int × Int × Int)) (bs : List (Int × Int)) (e : Int) : (prevT es bs e).length ≤ es.length := by unfold prevT; rw [List.length_map]; exact Nat.le_trans (List.length_filter_le _ _) (by simp)
/-- the rows that New builds: one step for each edge b that goes from where a ends -/
def pushL (L : Bool → Nat → List Int) (s : Bool) (i : Nat) (x : Int) : Bool → Nat → List Int := fun s' i' => if s' = s ∧ i' = i then L s' i' ++ [x] else L s' i'
def stepL (bs : List (Int × Int)) (a : Nat) (L : Bool → Nat → List Int) (b : Int) : Bool → Nat → List Int := if (((a : Nat) : Int), b) ∈ bs then L else pushL (pushL L true a b) false b.toNat ((a : Nat) : Int)
def innerL (bs : List (Int × Int)) (a : Nat) (L : Bool → Nat → List Int) (O : List Int) : Bool → Nat → List Int := O.foldl (stepL bs a) L
def outerL (ns : List (Int × Int)) (es : List (Int × Int × Int)) (bs : List (Int × Int)) : Nat → Bool → Nat → List Int
  | 0 => fun _ _ => []
  | k + 1 => innerL bs k (outerL ns es bs k) (outT ns es ((toN es k : Nat) : Int))
theorem innerL_snoc (bs : List (Int × Int)) (a : Nat) (L : Bool → Nat → List Int) (O : List Int) (b : Int) : innerL bs a L (O ++ [b]) = stepL bs a (innerL bs a L O) b := by unfold innerL; rw [List.foldl_append]; rfl
theorem innerL_true (bs : List (Int × Int)) (a : Nat) : ∀ (O : List Int) (L : Bool → Nat → List Int) (i : Nat), innerL bs a L O true i = if i = a then L true i ++ O.filter (fun b => !decide ((((a : Nat) : Int), b) ∈ bs)) else L true i
  | [], L, i => by unfold innerL; simp
  | b :: O, L, i => by
    have ih := innerL_true bs a O (stepL bs a L b) i
    have e : innerL bs a L (b :: O) = innerL bs a (stepL bs a L b) O := rfl
    rw [e, ih]
    unfold stepL
    by_cases hb : (((a : Nat) : Int), b) ∈ bs
    · simp [hb]
    · by_cases hi : i = a
      · simp [hb, hi, pushL]
      · simp [hb, hi, pushL]
theorem innerL_false (bs : List (Int × Int)) (a : Nat) : ∀ (O : List Int) (L : Bool → Nat → List Int) (j : Nat), (∀ b ∈ O, ∃ q : Nat, b = (q : Int)) → O.Nodup →
    innerL bs a L O false j = if ((j : Nat) : Int) ∈ O ∧ (((a : Nat) : Int), ((j : Nat) : Int)) ∉ bs then L false j ++ [((a : Nat) : Int)] else L false j
  | [], L, j, _, _ => by unfold innerL; simp
  | b :: O, L, j, hq, hn => by
    have ih := innerL_false bs a O (stepL bs a L b) j (fun x hx => hq x (List.mem_cons_of_mem _ hx)) (List.nodup_cons.1 hn).2
    have hnb := (List.nodup_cons.1 hn).1
    have e : innerL bs a L (b :: O) = innerL bs a (stepL bs a L b) O := rfl
    obtain ⟨q, rfl⟩ := hq b (List.mem_cons_self ..)
    rw [e, ih]
    unfold stepL
    by_cases hb : (((a : Nat) : Int), ((q : Nat) : Int)) ∈ bs
    · rw [if_pos hb]
      by_cases hj : j = q
      · subst hj; simp [hb]
      · have : ((j : Nat) : Int) ≠ ((q : Nat) : Int) := by omega
        simp [this]
    · rw [if_neg hb]
      by_cases hj : j = q
      · subst hj
        rw [if_neg (fun h => hnb h.1)]
        simp [hb, pushL]
      · have h1 : ((j : Nat) : Int) ≠ ((q : Nat) : Int) := by omega
        have h2 : pushL (pushL L true a ((q : Nat) : Int)) false ((q : Nat) : Int).toNat ((a : Nat) : Int) false j = L false j := by
          unfold pushL; simp [hj]
        rw [h2]; simp [h1]
theorem rowOf_nodup (f : Nat → Nat) (m v : Nat) : ((rowOf f m v).map fun i => ((i : Nat) : Int)).Nodup := by
  unfold rowOf
  have h : ((List.range m).filter (fun i => f i == v)).Nodup := List.nodup_range.filter _
  exact List.Pairwise.map _ (fun a b h e => h (by omega)) h
theorem filter_map_comm {l : List Nat} {p : Int → Bool} : ((l.map fun i => ((i : Nat) : Int)).filter p) = (l.filter fun i => p ((i : Nat) : Int)).map fun i => ((i : Nat) : Int) := by
  rw [List.filter_map]; rfl
theorem outerL_true {ns bs : List (Int × Int)} {es : List (Int × Int × Int)} (h : mayB ns es bs = true) : ∀ k, k ≤ es.length → ∀ i, outerL ns es bs k true i = if i < k then nextT es bs ((i : Nat) : Int) else []
  | 0, _, i => by simp [outerL]
  | k + 1, hk, i => by
    have ih := outerL_true h k (by omega) i
    obtain ⟨_, _, hf, ht⟩ := mayB_parts h
    show innerL bs k (outerL ns es bs k) (outT ns es ((toN es k : Nat) : Int)) true i = _
    rw [innerL_true, ih]
    by_cases hi : i = k
    · subst hi
      rw [if_pos rfl, if_neg (Nat.lt_irrefl _), if_pos (by omega), List.nil_append, outT_in (ht i (by omega)).2]
      unfold rowOf nextT
      rw [filter_map_comm, List.filter_filter]
      congr 1
      apply List.filter_congr
      intro q hq
      rw [List.mem_range] at hq
      rw [turnB_nat (by omega) hq, (ht i (by omega)).1, (hf q hq).1, Bool.and_comm]
      congr 1
      rw [Bool.eq_iff_iff]; simp; omega
    · rw [if_neg hi]
      by_cases h2 : i < k
      · rw [if_pos h2, if_pos (by omega)]
      · rw [if_neg h2, if_neg (by omega)]
theorem outerL_false {ns bs : List (Int × Int)} {es : List (Int × Int × Int)} (h : mayB ns es bs = true) : ∀ k, k ≤ es.length → ∀ j, j < es.length → outerL ns es bs k false j = ((List.range k).filter fun a => turnB es bs ((a : Nat) : Int) ((j : Nat) : Int)).map fun i => ((i : Nat) : Int)
  | 0, _, j, _ => by simp [outerL]
  | k + 1, hk, j, hj => by
    have ih := outerL_false h k (by omega) j hj
    obtain ⟨_, _, hf, ht⟩ := mayB_parts h
    have hv := (ht k (by omega)).2
    show innerL bs k (outerL ns es bs k) (outT ns es ((toN es k : Nat) : Int)) false j = _
    rw [innerL_false _ _ _ _ _ (fun b hb => by obtain ⟨q, rfl, _⟩ := (outT_mem hv).1 hb; exact ⟨q, rfl⟩) (by rw [outT_in hv]; exact rowOf_nodup _ _ _), ih, List.range_succ, List.filter_append, List.map_append]
    have hm : (((j : Nat) : Int) ∈ outT ns es ((toN es k : Nat) : Int)) ↔ fromN es j = toN es k := by
      rw [outT_mem hv]
      constructor
      · rintro ⟨q, e, _, h2⟩
        have : j = q := by omega
        subst this; exact h2
      · intro e; exact ⟨j, rfl, hj, e⟩
    have hb : turnB es bs ((k : Nat) : Int) ((j : Nat) : Int) = true ↔ (((j : Nat) : Int) ∈ outT ns es ((toN es k : Nat) : Int)) ∧ (((k : Nat) : Int), ((j : Nat) : Int)) ∉ bs := by
      rw [turnB_nat (by omega) hj, hm, (ht k (by omega)).1, (hf j hj).1]
      simp only [Bool.and_eq_true, decide_eq_true_eq, Bool.not_eq_true', decide_eq_false_iff_not]
      constructor
      · rintro ⟨h1, h2⟩; exact ⟨by omega, h2⟩
      · rintro ⟨h1, h2⟩; exact ⟨by omega, h2⟩
    by_cases hc : (((j : Nat) : Int) ∈ outT ns es ((toN es k : Nat) : Int)) ∧ (((k : Nat) : Int), ((j : Nat) : Int)) ∉ bs
    · rw [if_pos hc]; simp [hb.2 hc]
    · rw [if_neg hc]
      have : turnB es bs ((k : Nat) : Int) ((j : Nat) : Int) = false := by
        cases e : turnB es bs ((k : Nat) : Int) ((j : Nat) : Int)
        · rfl
        · exact absurd (hb.1 e) hc
      simp [this]
theorem rows_next {ns bs : List (Int × Int)} {es : List (Int × Int × Int)} (h : mayB ns es bs = true) {i : Nat} (hi : i < es.length) : outerL ns es bs es.length true i = nextT es bs ((i : Nat) : Int) := by rw [outerL_true h _ (Nat.le_refl _), if_pos hi]
theorem rows_prev {ns bs : List (Int × Int)} {es : List (Int × Int × Int)} (h : mayB ns es bs = true) {i : Nat} (hi : i < es.length) : outerL ns es bs es.length false i = prevT es bs ((i : Nat) : Int) := outerL_false h _ (Nat.le_refl _) _ hi
end Go.Proofs.Ytkdpfbefdhjmcaa
