/- Hints, on lists alone. -/
import Derived.Test.YtkkaidliocadnaaWalkPure
import Derived.Test.YtkkaidliocadnaaBend4
set_option linter.unusedVariables false
set_option linter.unusedSimpArgs false
namespace Go.Proofs.Ytkkaidliocadnaa
open Go.RowKit
abbrev HintT := Int × Int × Int × Int
/-- how many edges stand ahead of the place that decides -/
def stopN (es : List (Int × Int × Int)) (bs : List (Int × Int)) : Int → List Int → Nat
  | _, [] => 0
  | a, e :: l => if (nextT es bs a).length = 1 then stopN es bs e l + 1 else 0
theorem stop_le (es : List (Int × Int × Int)) (bs : List (Int × Int)) : ∀ (a : Int) (l : List Int), stopN es bs a l ≤ l.length
  | _, [] => by simp [stopN]
  | a, e :: l => by
    have := stop_le es bs e l
    unfold stopN; split <;> simp <;> omega
theorem stop_step {es : List (Int × Int × Int)} {bs : List (Int × Int)} : ∀ {a : Int} {l : List Int} {k : Nat}, k ≤ stopN es bs a l → k < l.length → (nextT es bs (lastI a (l.take k))).length = 1 → k + 1 ≤ stopN es bs a l
  | _, [], _, _, h, _ => by simp at h
  | a, e :: l, 0, _, _, hn => by
    have hn' : (nextT es bs a).length = 1 := hn
    unfold stopN; rw [if_pos hn']; omega
  | a, e :: l, k + 1, hk, hl, hn => by
    have hn' : (nextT es bs (lastI e (l.take k))).length = 1 := hn
    unfold stopN at hk ⊢
    split at hk
    · rename_i h1
      rw [if_pos h1]
      have := stop_step (a := e) (l := l) (k := k) (by omega) (by simpa using hl) hn'
      omega
    · omega
theorem stop_here {es : List (Int × Int × Int)} {bs : List (Int × Int)} : ∀ {a : Int} {l : List Int} {k : Nat}, k ≤ stopN es bs a l → k < l.length → (nextT es bs (lastI a (l.take k))).length ≠ 1 → stopN es bs a l = k
  | _, [], _, _, h, _ => by simp at h
  | a, e :: l, 0, _, _, hn => by
    have hn' : (nextT es bs a).length ≠ 1 := hn
    unfold stopN; rw [if_neg hn']
  | a, e :: l, k + 1, hk, hl, hn => by
    have hn' : (nextT es bs (lastI e (l.take k))).length ≠ 1 := hn
    unfold stopN at hk ⊢
    split at hk
    · rename_i h1
      rw [if_pos h1]
      have := stop_here (a := e) (l := l) (k := k) (by omega) (by simpa using hl) hn'
      omega
    · omega
/-- the hint: class, edge, far, left -/
def hintT (ns : List (Int × Int)) (es : List (Int × Int × Int)) (bs : List (Int × Int)) (a : Int) (l : List Int) : HintT :=
  if stopN es bs a l < l.length then (bendT ns es (lastI a (l.take (stopN es bs a l))) (l.getD (stopN es bs a l) 0), l.getD (stopN es bs a l) 0, sumW es (l.take (stopN es bs a l)), wgtT es l)
  else (9, -1, sumW es l, wgtT es l)
def hintsT (ns : List (Int × Int)) (es : List (Int × Int × Int)) (bs : List (Int × Int)) (a : Int) (l : List Int) : List HintT :=
  if h : stopN es bs a l < l.length then hintT ns es bs a l :: hintsT ns es bs (l.getD (stopN es bs a l) 0) (l.drop (stopN es bs a l + 1)) else [hintT ns es bs a l]
termination_by l.length
decreasing_by simp; omega
theorem hints_more {ns : List (Int × Int)} {es : List (Int × Int × Int)} {bs : List (Int × Int)} {a : Int} {l : List Int} (h : stopN es bs a l < l.length) : hintsT ns es bs a l = hintT ns es bs a l :: hintsT ns es bs (l.getD (stopN es bs a l) 0) (l.drop (stopN es bs a l + 1)) := by
  rw [hintsT, dif_pos h]
theorem hints_last {ns : List (Int × Int)} {es : List (Int × Int × Int)} {bs : List (Int × Int)} {a : Int} {l : List Int} (h : ¬ stopN es bs a l < l.length) : hintsT ns es bs a l = [hintT ns es bs a l] := by
  rw [hintsT, dif_neg h]
theorem hints_len {ns : List (Int × Int)} {es : List (Int × Int × Int)} {bs : List (Int × Int)} (n : Nat) : ∀ {a : Int} {l : List Int}, l.length ≤ n → 1 ≤ (hintsT ns es bs a l).length ∧ (hintsT ns es bs a l).length ≤ l.length + 1 := by
  induction n with
  | zero =>
    intro a l h
    rw [hints_last (by omega)]
    simp
  | succ n ih =>
    intro a l h
    by_cases hs : stopN es bs a l < l.length
    · rw [hints_more hs]
      have := ih (a := l.getD (stopN es bs a l) 0) (l := l.drop (stopN es bs a l + 1)) (by simp; omega)
      simp only [List.length_cons, List.length_drop] at this ⊢
      omega
    · rw [hints_last hs]; simp
/-- a way that goes on, cut -/
theorem walk_cut {es : List (Int × Int × Int)} {bs : List (Int × Int)} {a : Int} {l : List Int} {k : Nat} (h : walkB es bs a l = true) (hk : k < l.length) : walkB es bs (l.getD k 0) (l.drop (k + 1)) = true := by
  unfold walkB at h ⊢
  rw [Bool.and_eq_true] at h ⊢
  have e := chainB_append es bs a (l.take (k + 1)) (l.drop (k + 1))
  rw [List.take_append_drop, h.2] at e
  have e1 := (Bool.and_eq_true _ _).mp e.symm
  rw [last_step hk] at e1
  refine ⟨?_, e1.2⟩
  have := last_in (es := es) (bs := bs) (a := a) (l := l.take (k + 1)) h.1 e1.1
  rw [last_step hk] at this
  exact this
theorem walk_ok {es : List (Int × Int × Int)} {bs : List (Int × Int)} {a : Int} {l : List Int} (h : walkB es bs a l = true) : wgtT es l = sumW es l := by
  unfold walkB at h
  rw [Bool.and_eq_true] at h
  unfold wgtT
  rw [if_pos (chain_ok h.2)]
theorem walk_in1 {es : List (Int × Int × Int)} {bs : List (Int × Int)} {a : Int} {l : List Int} (h : walkB es bs a l = true) : inB 0 a ((es.length : Int) - 1) = true := by
  unfold walkB at h
  rw [Bool.and_eq_true] at h
  exact h.1
theorem walk_mem {es : List (Int × Int × Int)} {bs : List (Int × Int)} {a : Int} {l : List Int} (h : walkB es bs a l = true) {k : Nat} (hk : k < l.length) : inB 0 (l.getD k 0) ((es.length : Int) - 1) = true := walk_in1 (walk_cut h hk)
/-- the hint where one decides -/
theorem hint_here {ns : List (Int × Int)} {es : List (Int × Int × Int)} {bs : List (Int × Int)} {a : Int} {l : List Int} {k : Nat} (h : stopN es bs a l = k) (hk : k < l.length) : hintT ns es bs a l = (bendT ns es (lastI a (l.take k)) (l.getD k 0), l.getD k 0, sumW es (l.take k), wgtT es l) := by
  unfold hintT; rw [h, if_pos hk]
theorem hint_end {ns : List (Int × Int)} {es : List (Int × Int × Int)} {bs : List (Int × Int)} {a : Int} {l : List Int} (h : l.length ≤ stopN es bs a l) : hintT ns es bs a l = (9, -1, sumW es l, wgtT es l) := by
  unfold hintT; rw [if_neg (by omega)]
/-- what is left falls: the next hint's -/
theorem hint_fall {ns : List (Int × Int)} {es : List (Int × Int × Int)} {bs : List (Int × Int)} {a : Int} {l : List Int} {k : Nat} (hw : walkB es bs a l = true) (hk : k < l.length) :
    wgtT es (l.drop (k + 1)) = wgtT es l - sumW es (l.take k) - (es.getD (l.getD k 0).toNat (0, 0, 0)).2.2 := by
  rw [walk_ok hw, walk_ok (walk_cut hw hk)]
  have e := sumW_append es (l.take k) (l.drop k)
  rw [List.take_append_drop, dropI hk] at e
  have e2 : sumW es (l.getD k 0 :: l.drop (k + 1)) = (es.getD (l.getD k 0).toNat (0, 0, 0)).2.2 + sumW es (l.drop (k + 1)) := rfl
  rw [e2] at e
  omega
/-- one edge on -/
theorem hint_on {ns : List (Int × Int)} {es : List (Int × Int × Int)} {bs : List (Int × Int)} {a e : Int} {l : List Int} (hw : walkB es bs a (e :: l) = true) (hok : mayB ns es bs = true) :
    (hintT ns es bs e l).2.2.2 = (hintT ns es bs a (e :: l)).2.2.2 - (es.getD e.toNat (0, 0, 0)).2.2 ∧
      (0 < (hintT ns es bs a (e :: l)).2.2.1 → (hintT ns es bs a (e :: l)).1 = (hintT ns es bs e l).1 ∧ (hintT ns es bs a (e :: l)).2.1 = (hintT ns es bs e l).2.1 ∧ (hintT ns es bs e l).2.2.1 = (hintT ns es bs a (e :: l)).2.2.1 - (es.getD e.toNat (0, 0, 0)).2.2) := by
  have hw2 := walk_cut hw (k := 0) (by simp)
  have hl : ∀ (b : Int) (m : List Int), (hintT ns es bs b m).2.2.2 = wgtT es m := fun b m => by unfold hintT; split <;> rfl
  have hw3 : walkB es bs e l = true := hw2
  have es1 : sumW es (e :: l) = (es.getD e.toNat (0, 0, 0)).2.2 + sumW es l := rfl
  refine ⟨by rw [hl, hl, walk_ok hw, walk_ok hw3, es1]; omega, fun hf => ?_⟩
  by_cases h1 : (nextT es bs a).length = 1
  · have hs : stopN es bs a (e :: l) = stopN es bs e l + 1 := by rw [stopN, if_pos h1]
    by_cases h2 : stopN es bs e l < l.length
    · rw [hint_here hs (by simpa using h2), hint_here rfl h2]
      refine ⟨rfl, rfl, ?_⟩
      show sumW es (l.take _) = sumW es ((e :: l).take (stopN es bs e l + 1)) - _
      rw [List.take_succ_cons]
      have : sumW es (e :: l.take (stopN es bs e l)) = (es.getD e.toNat (0, 0, 0)).2.2 + sumW es (l.take (stopN es bs e l)) := rfl
      omega
    · rw [hint_end (l := e :: l) (by rw [hs]; simp; omega), hint_end (by omega)]
      refine ⟨rfl, rfl, ?_⟩
      show sumW es l = sumW es (e :: l) - _
      omega
  · exfalso
    have hs : stopN es bs a (e :: l) = 0 := by rw [stopN, if_neg h1]
    rw [hint_here hs (by simp)] at hf
    simp [sumW] at hf
theorem hint_nil (ns : List (Int × Int)) (es : List (Int × Int × Int)) (bs : List (Int × Int)) (a : Int) : hintT ns es bs a [] = (9, -1, 0, 0) := rfl
theorem sum_pos {ns bs : List (Int × Int)} {es : List (Int × Int × Int)} (h : mayB ns es bs = true) {l : List Int} (ho : okE es l = true) : 0 ≤ sumW es l := (sum_bd h l).1
end Go.Proofs.Ytkkaidliocadnaa
