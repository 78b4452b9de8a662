/- Walks, on lists alone. -/
import Derived.Test.YtkdpfbefdhjmcaaNext4
set_option linter.unusedVariables false
set_option linter.unusedSimpArgs false
namespace Go.Proofs.Ytkdpfbefdhjmcaa
open Go.RowKit
def chainB (es : List (Int × Int × Int)) (bs : List (Int × Int)) : Int → List Int → Bool
  | _, [] => true
  | a, b :: l => turnB es bs a b && chainB es bs b l
def lastI : Int → List Int → Int
  | a, [] => a
  | _, b :: l => lastI b l
def walkB (es : List (Int × Int × Int)) (bs : List (Int × Int)) (a : Int) (l : List Int) : Bool := inB 0 a ((es.length : Int) - 1) && chainB es bs a l
theorem lastI_append : ∀ (a : Int) (l k : List Int), lastI a (l ++ k) = lastI (lastI a l) k
  | _, [], _ => rfl
  | _, b :: l, k => lastI_append b l k
theorem chainB_append (es : List (Int × Int × Int)) (bs : List (Int × Int)) : ∀ (a : Int) (l k : List Int), chainB es bs a (l ++ k) = (chainB es bs a l && chainB es bs (lastI a l) k)
  | _, [], _ => by simp [chainB, lastI]
  | a, b :: l, k => by
    have ih := chainB_append es bs b l k
    show (turnB es bs a b && chainB es bs b (l ++ k)) = _
    rw [ih]; simp [chainB, lastI, Bool.and_assoc]
theorem takeI {xs : List Int} {j : Nat} (h : j < xs.length) : xs.take (j + 1) = xs.take j ++ [xs.getD j 0] := by
  rw [List.take_succ_eq_append_getElem h, List.getD_eq_getElem?_getD, List.getElem?_eq_getElem h]; rfl
theorem dropI {xs : List Int} {j : Nat} (h : j < xs.length) : xs.drop j = xs.getD j 0 :: xs.drop (j + 1) := by
  rw [List.drop_eq_getElem_cons h, List.getD_eq_getElem?_getD, List.getElem?_eq_getElem h]; rfl
theorem chain_step {es : List (Int × Int × Int)} {bs : List (Int × Int)} {a : Int} {xs : List Int} {j : Nat} (h : j < xs.length) : chainB es bs a (xs.take (j + 1)) = (chainB es bs a (xs.take j) && turnB es bs (lastI a (xs.take j)) (xs.getD j 0)) := by
  rw [takeI h, chainB_append]; simp [chainB]
theorem last_step {a : Int} {xs : List Int} {j : Nat} (h : j < xs.length) : lastI a (xs.take (j + 1)) = xs.getD j 0 := by rw [takeI h, lastI_append]; rfl
theorem chain_false {es : List (Int × Int × Int)} {bs : List (Int × Int)} {a : Int} {xs : List Int} {j : Nat} (h : chainB es bs a (xs.take j) = false) : chainB es bs a xs = false := by
  have := chainB_append es bs a (xs.take j) (xs.drop j)
  rw [List.take_append_drop, h] at this
  exact this
theorem last_get {a : Int} {xs : List Int} (h : 0 < xs.length) : lastI a xs = xs.getD (xs.length - 1) 0 := by
  have := last_step (a := a) (xs := xs) (j := xs.length - 1) (by omega)
  rw [show xs.length - 1 + 1 = xs.length by omega, List.take_length] at this
  exact this
/-- the last edge of a walk is an edge -/
theorem last_in {es : List (Int × Int × Int)} {bs : List (Int × Int)} : ∀ {a : Int} {l : List Int}, inB 0 a ((es.length : Int) - 1) = true → chainB es bs a l = true → inB 0 (lastI a l) ((es.length : Int) - 1) = true
  | a, [], h, _ => h
  | a, b :: l, h, hc => by
    unfold chainB at hc
    rw [Bool.and_eq_true] at hc
    have hb : inB 0 b ((es.length : Int) - 1) = true := by
      cases hb : inB 0 b ((es.length : Int) - 1)
      · rw [turnB_out2 hb] at hc; exact absurd hc.1 (by simp)
      · rfl
    exact last_in (a := b) (l := l) hb hc.2
def okE (es : List (Int × Int × Int)) (l : List Int) : Bool := l.all fun b => inB 0 b ((es.length : Int) - 1)
def sumW (es : List (Int × Int × Int)) : List Int → Int
  | [] => 0
  | b :: l => (es.getD b.toNat (0, 0, 0)).2.2 + sumW es l
theorem sumW_append (es : List (Int × Int × Int)) : ∀ l k : List Int, sumW es (l ++ k) = sumW es l + sumW es k
  | [], k => by simp [sumW]
  | b :: l, k => by
    have ih := sumW_append es l k
    show _ + sumW es (l ++ k) = _
    rw [ih]; simp only [sumW]; omega
theorem sum_step {es : List (Int × Int × Int)} {xs : List Int} {j : Nat} (h : j < xs.length) : sumW es (xs.take (j + 1)) = sumW es (xs.take j) + (es.getD (xs.getD j 0).toNat (0, 0, 0)).2.2 := by
  rw [takeI h, sumW_append]; simp [sumW]
theorem ok_step {es : List (Int × Int × Int)} {xs : List Int} {j : Nat} (h : j < xs.length) : okE es (xs.take (j + 1)) = (okE es (xs.take j) && inB 0 (xs.getD j 0) ((es.length : Int) - 1)) := by
  unfold okE; rw [takeI h, List.all_append]; simp
theorem ok_false {es : List (Int × Int × Int)} {xs : List Int} {j : Nat} (h : okE es (xs.take j) = false) : okE es xs = false := by
  have : okE es xs = (okE es (xs.take j) && okE es (xs.drop j)) := by unfold okE; rw [← List.all_append, List.take_append_drop]
  rw [this, h]; rfl
theorem w_bd {ns bs : List (Int × Int)} {es : List (Int × Int × Int)} (h : mayB ns es bs = true) (b : Nat) : 0 ≤ (es.getD b (0, 0, 0)).2.2 ∧ (es.getD b (0, 0, 0)).2.2 ≤ 65535 ∧ (b < es.length → 1 ≤ (es.getD b (0, 0, 0)).2.2) := by
  unfold mayB at h
  simp only [Bool.and_eq_true] at h
  obtain ⟨⟨⟨_, _⟩, h3⟩, _⟩ := h
  rcases Nat.lt_or_ge b es.length with hb | hb
  · have := List.all_eq_true.1 h3 _ (List.getElem_mem hb)
    unfold edgeOk inB at this
    simp only [Bool.and_eq_true, decide_eq_true_eq] at this
    rw [List.getD_eq_getElem?_getD, List.getElem?_eq_getElem hb]
    simp only [Option.getD_some]
    omega
  · rw [List.getD_eq_getElem?_getD, List.getElem?_eq_none hb]
    simp; omega
theorem sum_bd {ns bs : List (Int × Int)} {es : List (Int × Int × Int)} (h : mayB ns es bs = true) : ∀ l : List Int, 0 ≤ sumW es l ∧ sumW es l ≤ l.length * 65535
  | [] => by simp [sumW]
  | b :: l => by
    have ih := sum_bd h l
    have hb := w_bd h b.toNat
    simp only [sumW, List.length_cons]
    omega
def wgtT (es : List (Int × Int × Int)) (l : List Int) : Int := if okE es l = true then sumW es l else 0
def endT (es : List (Int × Int × Int)) (bs : List (Int × Int)) (a : Int) (l : List Int) : Int := if walkB es bs a l = true then (es.getD (lastI a l).toNat (0, 0, 0)).2.1 else 0
def cmpL : List Int → List Int → Int
  | [], [] => 0
  | [], _ :: _ => -1
  | _ :: _, [] => 1
  | x :: a, y :: b => if x < y then -1 else if y < x then 1 else cmpL a b
def strollT (es : List (Int × Int × Int)) (bs : List (Int × Int)) : Int → List Int → List Int
  | _, [] => []
  | e, s :: l => if (nextT es bs e).length = 0 then [] else
      (nextT es bs e).getD (s % ((nextT es bs e).length : Int)).toNat 0 :: strollT es bs ((nextT es bs e).getD (s % ((nextT es bs e).length : Int)).toNat 0) l
theorem stroll_len (es : List (Int × Int × Int)) (bs : List (Int × Int)) : ∀ (e : Int) (l : List Int), (strollT es bs e l).length ≤ l.length
  | _, [] => by simp [strollT]
  | e, s :: l => by
    unfold strollT
    split
    · simp
    · have := stroll_len es bs ((nextT es bs e).getD (s % ((nextT es bs e).length : Int)).toNat 0) l
      simp only [List.length_cons]; omega
theorem mod_lt {s : Int} {n : Nat} (h : 0 < n) : (s % (n : Int)).toNat < n := by
  have h0 := Int.emod_nonneg s (show (n : Int) ≠ 0 by omega)
  have h1 := Int.emod_lt_of_pos s (show (0 : Int) < n by omega)
  omega
theorem getD_memI {xs : List Int} {j : Nat} (h : j < xs.length) : xs.getD j 0 ∈ xs := by
  rw [List.getD_eq_getElem?_getD, List.getElem?_eq_getElem h]; exact List.getElem_mem h
theorem stroll_chain (es : List (Int × Int × Int)) (bs : List (Int × Int)) : ∀ (e : Int) (l : List Int), chainB es bs e (strollT es bs e l) = true
  | _, [] => by simp [strollT, chainB]
  | e, s :: l => by
    unfold strollT
    split
    · simp [chainB]
    · rename_i h
      unfold chainB
      rw [stroll_chain es bs _ l, Bool.and_true]
      exact nextT_mem.1 (getD_memI (mod_lt (by omega)))
theorem chain_ok {es : List (Int × Int × Int)} {bs : List (Int × Int)} : ∀ {a : Int} {l : List Int}, chainB es bs a l = true → okE es l = true
  | _, [], _ => by simp [okE]
  | a, b :: l, h => by
    unfold chainB at h
    rw [Bool.and_eq_true] at h
    have ih := chain_ok (es := es) (bs := bs) h.2
    unfold okE at ih ⊢
    rw [List.all_cons, ih, Bool.and_true]
    cases hb : inB 0 b ((es.length : Int) - 1)
    · rw [turnB_out2 hb] at h; exact absurd h.1 (by simp)
    · rfl
theorem cmp_step {a b : List Int} {k : Nat} (ha : k < a.length) (hb : k < b.length) (he : a.getD k 0 = b.getD k 0) : cmpL (a.drop k) (b.drop k) = cmpL (a.drop (k + 1)) (b.drop (k + 1)) := by
  rw [dropI ha, dropI hb, he]; simp [cmpL]
theorem cmp_lt {a b : List Int} {k : Nat} (ha : k < a.length) (hb : k < b.length) (he : a.getD k 0 < b.getD k 0) : cmpL (a.drop k) (b.drop k) = -1 := by
  rw [dropI ha, dropI hb]; unfold cmpL; rw [if_pos he]
theorem cmp_gt {a b : List Int} {k : Nat} (ha : k < a.length) (hb : k < b.length) (he : b.getD k 0 < a.getD k 0) : cmpL (a.drop k) (b.drop k) = 1 := by
  rw [dropI ha, dropI hb]; unfold cmpL; rw [if_neg (by omega), if_pos he]
theorem cmp_longer {a b : List Int} {k : Nat} (ha : k < a.length) (hb : b.length ≤ k) : cmpL (a.drop k) (b.drop k) = 1 := by
  rw [dropI ha, List.drop_eq_nil_of_le hb]; rfl
theorem cmp_shorter {a b : List Int} {k : Nat} (ha : a.length ≤ k) (hb : k < b.length) : cmpL (a.drop k) (b.drop k) = -1 := by
  rw [dropI hb, List.drop_eq_nil_of_le ha]; rfl
theorem cmp_same {a b : List Int} {k : Nat} (ha : a.length ≤ k) (hb : b.length ≤ k) : cmpL (a.drop k) (b.drop k) = 0 := by
  rw [List.drop_eq_nil_of_le ha, List.drop_eq_nil_of_le hb]; rfl
end Go.Proofs.Ytkdpfbefdhjmcaa
