/- Hints: GuidePure, HintMem, GuideAt, GuideUse, one behind the other. -/
import Derived.Test.YtkdpfbefdhjmcaaWalkPure
import Derived.Test.YtkdpfbefdhjmcaaBends
import Derived.Test.YtkdpfbefdhjmcaaAppend
import Derived.Test.YtkdpfbefdhjmcaaWalkAt
import Derived.Test.YtkdpfbefdhjmcaaTurnsUse
/- Hints, on lists alone. -/
set_option linter.unusedVariables false
set_option linter.unusedSimpArgs false
namespace Go.Proofs.Ytkdpfbefdhjmcaa
open Go.RowKit
abbrev HintT := Int × Int × Int × Int
/-- how many edges stand ahead of the place that decides -/
def stopN (es : List (Int × Int × Int)) (bs : List (Int × Int)) : Int → List Int → Nat
  | _, [] => 0
  | a, e :: l => if (nextT es bs a).length = 1 then stopN es bs e l + 1 else 0
theorem stop_le (es : List (Int × Int × Int)) (bs : List (Int × Int)) : ∀ (a : Int) (l : List Int), stopN es bs a l ≤ l.length
  | _, [] => by simp [stopN]
  | a, e :: l => by
    have := stop_le es bs e l
    unfold stopN; split <;> simp <;> omega
theorem stop_step {es : List (Int × Int × Int)} {bs : List (Int × Int)} : ∀ {a : Int} {l : List Int} {k : Nat}, k ≤ stopN es bs a l → k < l.length → (nextT es bs (lastI a (l.take k))).length = 1 → k + 1 ≤ stopN es bs a l
  | _, [], _, _, h, _ => by simp at h
  | a, e :: l, 0, _, _, hn => by
    have hn' : (nextT es bs a).length = 1 := hn
    unfold stopN; rw [if_pos hn']; omega
  | a, e :: l, k + 1, hk, hl, hn => by
    have hn' : (nextT es bs (lastI e (l.take k))).length = 1 := hn
    unfold stopN at hk ⊢
    split at hk
    · rename_i h1
      rw [if_pos h1]
      have := stop_step (a := e) (l := l) (k := k) (by omega) (by simpa using hl) hn'
      omega
    · omega
theorem stop_here {es : List (Int × Int × Int)} {bs : List (Int × Int)} : ∀ {a : Int} {l : List Int} {k : Nat}, k ≤ stopN es bs a l → k < l.length → (nextT es bs (lastI a (l.take k))).length ≠ 1 → stopN es bs a l = k
  | _, [], _, _, h, _ => by simp at h
  | a, e :: l, 0, _, _, hn => by
    have hn' : (nextT es bs a).length ≠ 1 := hn
    unfold stopN; rw [if_neg hn']
  | a, e :: l, k + 1, hk, hl, hn => by
    have hn' : (nextT es bs (lastI e (l.take k))).length ≠ 1 := hn
    unfold stopN at hk ⊢
    split at hk
    · rename_i h1
      rw [if_pos h1]
      have := stop_here (a := e) (l := l) (k := k) (by omega) (by simpa using hl) hn'
      omega
    · omega
/-- the hint: class, edge, far, left -/
def hintT (ns : List (Int × Int)) (es : List (Int × Int × Int)) (bs : List (Int × Int)) (a : Int) (l : List Int) : HintT :=
  if stopN es bs a l < l.length then (bendT ns es (lastI a (l.take (stopN es bs a l))) (l.getD (stopN es bs a l) 0), l.getD (stopN es bs a l) 0, sumW es (l.take (stopN es bs a l)), wgtT es l)
  else (9, -1, sumW es l, wgtT es l)
def hintsT (ns : List (Int × Int)) (es : List (Int × Int × Int)) (bs : List (Int × Int)) (a : Int) (l : List Int) : List HintT :=
  if h : stopN es bs a l < l.length then hintT ns es bs a l :: hintsT ns es bs (l.getD (stopN es bs a l) 0) (l.drop (stopN es bs a l + 1)) else [hintT ns es bs a l]
termination_by l.length
decreasing_by simp; omega
theorem hints_more {ns : List (Int × Int)} {es : List (Int × Int × Int)} {bs : List (Int × Int)} {a : Int} {l : List Int} (h : stopN es bs a l < l.length) : hintsT ns es bs a l = hintT ns es bs a l :: hintsT ns es bs (l.getD (stopN es bs a l) 0) (l.drop (stopN es bs a l + 1)) := by
  rw [hintsT, dif_pos h]
theorem hints_last {ns : List (Int × Int)} {es : List (Int × Int × Int)} {bs : List (Int × Int)} {a : Int} {l : List Int} (h : ¬ stopN es bs a l < l.length) : hintsT ns es bs a l = [hintT ns es bs a l] := by
  rw [hintsT, dif_neg h]
theorem hints_len {ns : List (Int × Int)} {es : List (Int × Int × Int)} {bs : List (Int × Int)} (n : Nat) : ∀ {a : Int} {l : List Int}, l.length ≤ n → 1 ≤ (hintsT ns es bs a l).length ∧ (hintsT ns es bs a l).length ≤ l.length + 1 := by
  induction n with
  | zero =>
    intro a l h
    rw [hints_last (by omega)]
    simp
  | succ n ih =>
    intro a l h
    by_cases hs : stopN es bs a l < l.length
    · rw [hints_more hs]
      have := ih (a := l.getD (stopN es bs a l) 0) (l := l.drop (stopN es bs a l + 1)) (by simp; omega)
      simp only [List.length_cons, List.length_drop] at this ⊢
      omega
    · rw [hints_last hs]; simp
/-- a way that goes on, cut -/
theorem walk_cut {es : List (Int × Int × Int)} {bs : List (Int × Int)} {a : Int} {l : List Int} {k : Nat} (h : walkB es bs a l = true) (hk : k < l.length) : walkB es bs (l.getD k 0) (l.drop (k + 1)) = true := by
  unfold walkB at h ⊢
  rw [Bool.and_eq_true] at h ⊢
  have e := chainB_append es bs a (l.take (k + 1)) (l.drop (k + 1))
  rw [List.take_append_drop, h.2] at e
  have e1 := (Bool.and_eq_true _ _).mp e.symm
  rw [last_step hk] at e1
  refine ⟨?_, e1.2⟩
  have := last_in (es := es) (bs := bs) (a := a) (l := l.take (k + 1)) h.1 e1.1
  rw [last_step hk] at this
  exact this
theorem walk_ok {es : List (Int × Int × Int)} {bs : List (Int × Int)} {a : Int} {l : List Int} (h : walkB es bs a l = true) : wgtT es l = sumW es l := by
  unfold walkB at h
  rw [Bool.and_eq_true] at h
  unfold wgtT
  rw [if_pos (chain_ok h.2)]
theorem walk_in1 {es : List (Int × Int × Int)} {bs : List (Int × Int)} {a : Int} {l : List Int} (h : walkB es bs a l = true) : inB 0 a ((es.length : Int) - 1) = true := by
  unfold walkB at h
  rw [Bool.and_eq_true] at h
  exact h.1
theorem walk_mem {es : List (Int × Int × Int)} {bs : List (Int × Int)} {a : Int} {l : List Int} (h : walkB es bs a l = true) {k : Nat} (hk : k < l.length) : inB 0 (l.getD k 0) ((es.length : Int) - 1) = true := walk_in1 (walk_cut h hk)
/-- the hint where one decides -/
theorem hint_here {ns : List (Int × Int)} {es : List (Int × Int × Int)} {bs : List (Int × Int)} {a : Int} {l : List Int} {k : Nat} (h : stopN es bs a l = k) (hk : k < l.length) : hintT ns es bs a l = (bendT ns es (lastI a (l.take k)) (l.getD k 0), l.getD k 0, sumW es (l.take k), wgtT es l) := by
  unfold hintT; rw [h, if_pos hk]
theorem hint_end {ns : List (Int × Int)} {es : List (Int × Int × Int)} {bs : List (Int × Int)} {a : Int} {l : List Int} (h : l.length ≤ stopN es bs a l) : hintT ns es bs a l = (9, -1, sumW es l, wgtT es l) := by
  unfold hintT; rw [if_neg (by omega)]
/-- what is left falls: the next hint's -/
theorem hint_fall {ns : List (Int × Int)} {es : List (Int × Int × Int)} {bs : List (Int × Int)} {a : Int} {l : List Int} {k : Nat} (hw : walkB es bs a l = true) (hk : k < l.length) :
    wgtT es (l.drop (k + 1)) = wgtT es l - sumW es (l.take k) - (es.getD (l.getD k 0).toNat (0, 0, 0)).2.2 := by
  rw [walk_ok hw, walk_ok (walk_cut hw hk)]
  have e := sumW_append es (l.take k) (l.drop k)
  rw [List.take_append_drop, dropI hk] at e
  have e2 : sumW es (l.getD k 0 :: l.drop (k + 1)) = (es.getD (l.getD k 0).toNat (0, 0, 0)).2.2 + sumW es (l.drop (k + 1)) := rfl
  rw [e2] at e
  omega
/-- one edge on -/
theorem hint_on {ns : List (Int × Int)} {es : List (Int × Int × Int)} {bs : List (Int × Int)} {a e : Int} {l : List Int} (hw : walkB es bs a (e :: l) = true) (hok : mayB ns es bs = true) :
    (hintT ns es bs e l).2.2.2 = (hintT ns es bs a (e :: l)).2.2.2 - (es.getD e.toNat (0, 0, 0)).2.2 ∧
      (0 < (hintT ns es bs a (e :: l)).2.2.1 → (hintT ns es bs a (e :: l)).1 = (hintT ns es bs e l).1 ∧ (hintT ns es bs a (e :: l)).2.1 = (hintT ns es bs e l).2.1 ∧ (hintT ns es bs e l).2.2.1 = (hintT ns es bs a (e :: l)).2.2.1 - (es.getD e.toNat (0, 0, 0)).2.2) := by
  have hw2 := walk_cut hw (k := 0) (by simp)
  have hl : ∀ (b : Int) (m : List Int), (hintT ns es bs b m).2.2.2 = wgtT es m := fun b m => by unfold hintT; split <;> rfl
  have hw3 : walkB es bs e l = true := hw2
  have es1 : sumW es (e :: l) = (es.getD e.toNat (0, 0, 0)).2.2 + sumW es l := rfl
  refine ⟨by rw [hl, hl, walk_ok hw, walk_ok hw3, es1]; omega, fun hf => ?_⟩
  by_cases h1 : (nextT es bs a).length = 1
  · have hs : stopN es bs a (e :: l) = stopN es bs e l + 1 := by rw [stopN, if_pos h1]
    by_cases h2 : stopN es bs e l < l.length
    · rw [hint_here hs (by simpa using h2), hint_here rfl h2]
      refine ⟨rfl, rfl, ?_⟩
      show sumW es (l.take _) = sumW es ((e :: l).take (stopN es bs e l + 1)) - _
      rw [List.take_succ_cons]
      have : sumW es (e :: l.take (stopN es bs e l)) = (es.getD e.toNat (0, 0, 0)).2.2 + sumW es (l.take (stopN es bs e l)) := rfl
      omega
    · rw [hint_end (l := e :: l) (by rw [hs]; simp; omega), hint_end (by omega)]
      refine ⟨rfl, rfl, ?_⟩
      show sumW es l = sumW es (e :: l) - _
      omega
  · exfalso
    have hs : stopN es bs a (e :: l) = 0 := by rw [stopN, if_neg h1]
    rw [hint_here hs (by simp)] at hf
    simp [sumW] at hf
theorem hint_nil (ns : List (Int × Int)) (es : List (Int × Int × Int)) (bs : List (Int × Int)) (a : Int) : hintT ns es bs a [] = (9, -1, 0, 0) := rfl
theorem sum_pos {ns bs : List (Int × Int)} {es : List (Int × Int × Int)} (h : mayB ns es bs = true) {l : List Int} (ho : okE es l = true) : 0 ≤ sumW es l := (sum_bd h l).1
end Go.Proofs.Ytkdpfbefdhjmcaa
/- Rows of hints: class, edge, far, left. -/
set_option linter.unusedVariables false
set_option linter.unusedSimpArgs false
namespace Go.Proofs.Ytkdpfbefdhjmcaa
open Go.ChangeShapes Go.WideShapes Go.ChangeAt Go.RowKit
theorem infoHint : (Try.prog.info? 78).map (fun i => (i.zero, i.size, i.bytes)) = some (some (.agg #[.int .i64 0, .int .i64 0, .int .i64 0, .int .i64 0]), 4, 32) := by kernel_rfl
theorem infoH : ∃ i, Try.prog.info? 78 = some i ∧ i.zero = some (.agg #[.int .i64 0, .int .i64 0, .int .i64 0, .int .i64 0]) ∧ i.size = 4 ∧ i.bytes = 32 := info_parts infoHint
def flatH (xs : List HintT) : List Value := xs.flatMap fun x => [.int .i64 x.1, .int .i64 x.2.1, .int .i64 x.2.2.1, .int .i64 x.2.2.2]
theorem flatH_len (xs : List HintT) : (flatH xs).length = xs.length * 4 := by
  induction xs with
  | nil => rfl
  | cons x r ih => simp only [flatH, List.flatMap_cons, List.length_append, List.length_cons, List.length_nil] at *; omega
theorem flatH_append (l k : List HintT) : flatH (l ++ k) = flatH l ++ flatH k := by simp [flatH]
theorem flatH_get : ∀ (xs : List HintT) (i : Nat), i < xs.length → (flatH xs)[i * 4]? = some (.int .i64 (xs.getD i (0, 0, 0, 0)).1) ∧ (flatH xs)[i * 4 + 1]? = some (.int .i64 (xs.getD i (0, 0, 0, 0)).2.1) ∧ (flatH xs)[i * 4 + 2]? = some (.int .i64 (xs.getD i (0, 0, 0, 0)).2.2.1) ∧ (flatH xs)[i * 4 + 3]? = some (.int .i64 (xs.getD i (0, 0, 0, 0)).2.2.2)
  | x :: l, 0, _ => ⟨rfl, rfl, rfl, rfl⟩
  | x :: l, i + 1, h => by
    have ih := flatH_get l i (by simpa using h)
    have e0 : flatH (x :: l) = .int .i64 x.1 :: .int .i64 x.2.1 :: .int .i64 x.2.2.1 :: .int .i64 x.2.2.2 :: flatH l := rfl
    have e : (i + 1) * 4 = (i * 4) + 1 + 1 + 1 + 1 := by omega
    rw [e0, e, show i * 4 + 1 + 1 + 1 + 1 + 1 = (i * 4 + 1) + 1 + 1 + 1 + 1 from rfl, show i * 4 + 1 + 1 + 1 + 1 + 2 = (i * 4 + 2) + 1 + 1 + 1 + 1 from rfl, show i * 4 + 1 + 1 + 1 + 1 + 3 = (i * 4 + 3) + 1 + 1 + 1 + 1 from rfl]
    simp only [List.getElem?_cons_succ, List.getD_cons_succ]
    exact ih
structure ReadsH (w : World) (A : Option Addr) (n c : Nat) (xs : List HintT) : Prop where
  len : xs.length = n
  small : n ≤ maxLen
  cell : 0 < n → ∃ b o, A = some ⟨b, o, none⟩ ∧ ∀ i, i < n → w.cell? ⟨b, o + i * 4, none⟩ = some (.int .i64 (xs.getD i (0, 0, 0, 0)).1) ∧ w.cell? ⟨b, o + i * 4 + 1, none⟩ = some (.int .i64 (xs.getD i (0, 0, 0, 0)).2.1) ∧ w.cell? ⟨b, o + i * 4 + 2, none⟩ = some (.int .i64 (xs.getD i (0, 0, 0, 0)).2.2.1) ∧ w.cell? ⟨b, o + i * 4 + 3, none⟩ = some (.int .i64 (xs.getD i (0, 0, 0, 0)).2.2.2)
theorem ReadsH.below {w w' : World} {A : Option Addr} {n c : Nat} {xs : List HintT} (h : ReadsH w A n c xs) (hb : Below w.heap.size w w') : ReadsH w' A n c xs := by
  refine ⟨h.len, h.small, fun hn => ?_⟩
  obtain ⟨b, o, hA, hc⟩ := h.cell hn
  exact ⟨b, o, hA, fun i hi => ⟨cell_below (hc i hi).1 hb, cell_below (hc i hi).2.1 hb, cell_below (hc i hi).2.2.1 hb, cell_below (hc i hi).2.2.2 hb⟩⟩
theorem ReadsH.of_row {w : World} {B : Nat} {e : TypeId} {A : Option Addr} {n c : Nat} {xs : List HintT} (h : w.ownsRow B e 4 (.slice A n c) n (flatH xs)) (hn : n ≤ maxLen) : ReadsH w A n c xs := by
  have hl : xs.length = n := by have := h.1; rw [flatH_len] at this; omega
  refine ⟨hl, hn, fun h0 => ?_⟩
  rcases h.2 with ⟨_, h1⟩ | ⟨g, cc, _, h1, _⟩
  · omega
  · injection h1 with e1 e2 e3
    subst e1
    refine ⟨g, 0, rfl, fun i hi => ?_⟩
    have := flatH_get xs i (by omega)
    rw [Nat.zero_add, h.cellAt _ (by omega), h.cellAt _ (by omega), h.cellAt _ (by omega), h.cellAt _ (by omega)]
    exact this
/-- the rest of what lies there -/
theorem ReadsI.rest {w : World} {b o n c : Nat} {xs : List Int} (h : ReadsI w (some ⟨b, o, none⟩) n c xs) {j : Nat} (hj : j ≤ n) {o' : Nat} (c' : Nat) (ho : j < n → o' = o + j) : ReadsI w (some ⟨b, o', none⟩) (n - j) c' (xs.drop j) := by
  refine ⟨by rw [List.length_drop, h.len], by have := h.small; omega, fun hn => ?_, fun x hx => h.wf x (List.mem_of_mem_drop hx)⟩
  obtain ⟨b1, o1, e, hc⟩ := h.cell (by omega)
  injection e with e
  injection e with e1 e2
  subst e1 e2
  have := ho (by omega)
  subst this
  refine ⟨b, o + j, rfl, fun i hi => ?_⟩
  rw [show o + j + i = o + (j + i) by omega, hc (j + i) (by omega)]
  simp [List.getD_eq_getElem?_getD]
theorem ReadsI.front {w : World} {A : Option Addr} {n c : Nat} {xs : List Int} (h : ReadsI w A n c xs) {j : Nat} (hj : j ≤ n) (c' : Nat) : ReadsI w A j c' (xs.take j) := by
  refine ⟨by rw [List.length_take, h.len]; omega, by have := h.small; omega, fun hn => ?_, fun x hx => h.wf x (List.mem_of_mem_take hx)⟩
  obtain ⟨b1, o1, e, hc⟩ := h.cell (by omega)
  refine ⟨b1, o1, e, fun i hi => ?_⟩
  rw [hc i (by omega), List.getD_eq_getElem?_getD, List.getD_eq_getElem?_getD, List.getElem?_take_of_lt hi]
theorem ReadsI.cap {w : World} {A : Option Addr} {n c : Nat} {xs : List Int} (h : ReadsI w A n c xs) (c' : Nat) : ReadsI w A n c' xs := ⟨h.len, h.small, h.cell, h.wf⟩
end Go.Proofs.Ytkdpfbefdhjmcaa
/- guide.hint, guide.Hint. -/
set_option linter.unusedVariables false
set_option linter.unusedSimpArgs false
namespace Go.Proofs.Ytkdpfbefdhjmcaa
open Go.ChangeShapes Go.WideShapes Go.ChangeAt Go.RowKit
def hintV (h : HintT) : Value := .agg #[.int .i64 h.1, .int .i64 h.2.1, .int .i64 h.2.2.1, .int .i64 h.2.2.2]
theorem new_block (w : World) (o : Obj) : (w.alloc o).heap[w.heap.size]? = some o := by show (w.heap.push _)[w.heap.size]? = _; simp
theorem block_below {w w' : World} {b : Nat} {o : Obj} (h : w.heap[b]? = some o) (hb : Below w.heap.size w w') : w'.heap[b]? = some o := by
  have hlt : b < w.heap.size := by
    rcases Nat.lt_or_ge b w.heap.size with h1 | h1
    · exact h1
    · rw [Array.getElem?_eq_none h1] at h; cases h
  exact (hb.block b hlt).trans h
theorem block_at {w : World} {b : Nat} {o : Obj} (h : w.heap[b]? = some o) : b < w.heap.size := by
  rcases Nat.lt_or_ge b w.heap.size with h1 | h1
  · exact h1
  · rw [Array.getElem?_eq_none h1] at h; cases h
section
variable {w : World} {p : Nat} {a b c d : Value} {t : TypeId}
theorem blk0 (h : w.heap[p]? = some (.cells #[a, b, c, d] t)) (v : Value) : (w.setCell ⟨p, 0, none⟩ v).heap[p]? = some (.cells #[v, b, c, d] t) := block_set h 0 v
theorem blk1 (h : w.heap[p]? = some (.cells #[a, b, c, d] t)) (v : Value) : (w.setCell ⟨p, 1, none⟩ v).heap[p]? = some (.cells #[a, v, c, d] t) := block_set h 1 v
theorem blk2 (h : w.heap[p]? = some (.cells #[a, b, c, d] t)) (v : Value) : (w.setCell ⟨p, 2, none⟩ v).heap[p]? = some (.cells #[a, b, v, d] t) := block_set h 2 v
theorem blk3 (h : w.heap[p]? = some (.cells #[a, b, c, d] t)) (v : Value) : (w.setCell ⟨p, 3, none⟩ v).heap[p]? = some (.cells #[a, b, c, v] t) := block_set h 3 v
end
set_option maxRecDepth 100000 in
set_option maxHeartbeats 8000000 in
theorem hint_at {w : World} {B E t p : Nat} {ns bs : List (Int × Int)} {es : List (Int × Int × Int)} (h : TurnsAt w B E t p ns es bs) {A : Option Addr} {n c : Nat} {xs : List Int} (hr : ReadsI w A n c xs) (hn : n ≤ 1099511627776) (a : Int) (hw : walkB es bs a xs = true) :
    Calls Try.prog 58 #[.pointer (some ⟨t, 0, none⟩), .int .i64 a, .slice A n c] w fun e w' => e = .returned (.tuple #[hintV (hintT ns es bs a xs), .int .i64 (stopN es bs a xs : Nat)]) ∧ Below w.heap.size w w' := by
  have hst := stop_le es bs a xs
  have HT := Lib.hid h
  have HR := Lib.hid hr
  have HL := Lib.hid hr.len
  have HNN := Lib.hid hn
  have HW := Lib.hid hw
  have HST : Hid (stopN es bs a xs ≤ n) := Lib.hid (by rw [← hr.len]; exact hst)
  obtain ⟨tb, R, hT⟩ := h
  have HC0 : Hid (w.cell? ⟨t, 0, none⟩ = some (.pointer (some ⟨p, 0, none⟩))) := Lib.hid (block_cell hT.ht (j := 0) rfl)
  have HG := Lib.hid hT.g
  have HOK := Lib.hid hT.g.bd.1
  have hwt := fun (w' : World) (hb : Below w.heap.size w w') => weight_at (HT.out.below hb) (HR.out.below hb) hn
  obtain ⟨W, hWe⟩ : ∃ W, W = wgtT es xs := ⟨_, rfl⟩
  rw [← hWe] at hwt
  have HWT := Lib.hid hwt
  have HWE := Lib.hid hWe
  have hb0 : Below w.heap.size w (w.alloc (.cells #[.int .i64 0, .int .i64 0, .int .i64 0, .int .i64 0] 78)) := bl_alloc (Below.refl _ _) _
  have HB0 := Lib.hid hb0
  clear hT hr hst hw hwt hWe hb0 hn
  go_enter Try.func58, Try.ntmps58
  go_wp2_with fail
  refine (HWT.out _ HB0.out).mono ?_
  rintro e y1 ⟨rfl, hb⟩
  have hr1 := block_below (new_block w (.cells #[.int .i64 0, .int .i64 0, .int .i64 0, .int .i64 0] 78)) hb
  have f3 := block_fr hr1 3
  have c3 : y1.cell? ⟨w.heap.size, 3, none⟩ = some (.int .i64 0) := block_cell hr1 (j := 3) rfl
  have HR1 := Lib.hid (blk3 hr1 (.int .i64 W))
  have HB1 : Hid (Below w.heap.size w (y1.setCell ⟨w.heap.size, 3, none⟩ (.int .i64 W))) := Lib.hid ((bl_then HB0.out hb).setCell (Nat.le_refl _) _)
  clear hb hr1
  go_wp2_with fail
  go_loopg [21, 1] n (fun M u v wr => ∃ k : Nat, M = n - k ∧ k ≤ stopN es bs a xs ∧ u = .int .i64 (k : Nat) ∧ v = .int .i64 (lastI a (xs.take k)) ∧ wr.heap[w.heap.size]? = some (.cells #[.int .i64 0, .int .i64 0, .int .i64 (sumW es (xs.take k)), .int .i64 W] 78) ∧ Below w.heap.size w wr)
  case atStart => exact ⟨0, rfl, Nat.zero_le _, rfl, rfl, HR1.out, HB1.out⟩
  case round =>
    obtain ⟨k, hM, hks, rfl, rfl, hblk, hb⟩ := hrel
    have HM := Lib.hid hM
    have HKS := Lib.hid hks
    have HBLK := Lib.hid hblk
    have HB := Lib.hid hb
    have hk : k ≤ n := Nat.le_trans hks HST.out
    have hkb := Nat.le_trans hk HNN.out
    have hbd := sum_bd HOK.out (xs.take k)
    have hsz : w.heap.size < wr.heap.size := block_at hblk
    clear hM hblk hb f3 c3 hks
    by_cases hlt : k < n
    · have hrd := HR.out.below HB.out
      have hce := hrd.cell (Nat.lt_of_le_of_lt (Nat.zero_le _) hlt)
      obtain ⟨bX, oX, hAX, hcell⟩ := hce
      subst hAX
      have d0 := hcell k hlt
      have D0 := Lib.hid d0
      have hkl : k < xs.length := by rw [HL.out]; exact hlt
      rw [List.length_take_of_le (by omega)] at hbd
      have hnx := next_at (HT.out.below HB.out) (lastI a (xs.take k))
      have hnl := nextT_len es bs (lastI a (xs.take k))
      have HES : Hid (es.length ≤ 512) := Lib.hid (mayB_parts HOK.out).2.1.2.2.1
      have k0 : (0 : Int) ≤ (k : Int) := by omega
      have k1 : (k : Int) < (n : Int) := by omega
      have hst := fun h1 => stop_step HKS.out hkl h1
      have hsh := fun h1 => stop_here HKS.out hkl h1
      have hls := last_step (a := a) hkl
      have hss := sum_step (es := es) hkl
      have hin := walk_mem HW.out hkl
      have hhh := fun h1 => hint_here (ns := ns) (hsh h1) hkl
      have hof := fun (w' : World) (hb : Below wr.heap.size wr w') => of_at ((HG.out.below HB.out).below hb) (lastI a (xs.take k)) (xs.getD k 0)
      have hed := fun (w' : World) (hb : Below wr.heap.size wr w') => edge_at ((HG.out.below HB.out).below hb) (xs.getD k 0)
      rw [hin] at hed
      have het : edgeT es (xs.getD k 0) = es.getD (xs.getD k 0).toNat (0, 0, 0) := by unfold edgeT; rw [if_pos hin]
      rw [het] at hed
      have hwb := w_bd HOK.out (xs.getD k 0).toNat
      obtain ⟨y, hy⟩ : ∃ y, y = xs.getD k 0 := ⟨_, rfl⟩
      rw [← hy] at d0 D0 hls hss hhh hof hed hwb
      obtain ⟨x, hx⟩ : ∃ x, x = lastI a (xs.take k) := ⟨_, rfl⟩
      rw [← hx] at hnx hnl hst hsh hhh hof
      obtain ⟨S, hS⟩ : ∃ S, S = sumW es (xs.take k) := ⟨_, rfl⟩
      rw [← hS] at hss hhh hbd HBLK
      obtain ⟨g, hg⟩ : ∃ g, g = es.getD y.toNat (0, 0, 0) := ⟨_, rfl⟩
      rw [← hg] at hss hed hwb
      obtain ⟨g0, g1, g2⟩ := g
      dsimp only at hss hed hwb
      obtain ⟨N, hN⟩ : ∃ N, N = (nextT es bs x).length := ⟨_, rfl⟩
      rw [← hN] at hnx hnl hst hsh hhh
      rw [← HWE.out] at hhh
      have HNX := Lib.hid hnx
      have HSS := Lib.hid hss
      have HLS := Lib.hid hls
      have HST2 := Lib.hid hst
      have HSH := Lib.hid hsh
      have HHH := Lib.hid hhh
      have HOF := Lib.hid hof
      have HED := Lib.hid hed
      have HNL := Lib.hid (Nat.le_trans hnl HES.out)
      have hx0 := hbd.1
      have hsb : S + g2 ≤ 144115188075855872 := by omega
      have hsb0 : 0 ≤ S + g2 := by omega
      rw [← hx]
      clear hcell hnx hss hls hst hsh hhh hof hed hnl hy hx hS hg hN het hin hwb hbd d0
      have d0 := D0.out
      go_wp2_with fail
      refine HNX.out.mono ?_
      rintro e v1 ⟨AN, cN, rfl, _, _, hb1⟩
      have HB1 := Lib.hid hb1
      have hn5 := HNL.out
      have t0 := cell_below HC0.out (bl_then HB.out hb1)
      have T0 := Lib.hid t0
      have hbl1 := block_below HBLK.out hb1
      have HBL1 := Lib.hid hbl1
      clear hb1 hbl1 d0
      by_cases hN1 : N = 1
      · have hq : ((N : Int) == 1) = true := by simp [hN1]
        have hk2 := HST2.out hN1
        have HK2 := Lib.hid hk2
        clear hN1 hk2
        go_wp2_with fail
        refine (HED.out _ HB1.out).mono ?_
        rintro e v2 ⟨rfl, hb2⟩
        have hbl2 := block_below HBL1.out (bl_alloc hb2 (.cells #[.int .i64 g0, .int .i64 g1, .int .i64 g2] 63))
        have c2 : (v2.alloc (.cells #[.int .i64 g0, .int .i64 g1, .int .i64 g2] 63)).cell? ⟨w.heap.size, 2, none⟩ = some (.int .i64 S) := block_cell hbl2 (j := 2) rfl
        have f2 := block_fr hbl2 2
        have e2 : (v2.alloc (.cells #[.int .i64 g0, .int .i64 g1, .int .i64 g2] 63)).cell? ⟨v2.heap.size, 2, none⟩ = some (.int .i64 g2) := cell_three_new 2 _ rfl
        have HBL3 := Lib.hid (blk2 hbl2 (.int .i64 (S + g2)))
        have HB3 : Hid (Below w.heap.size w ((v2.alloc (.cells #[.int .i64 g0, .int .i64 g1, .int .i64 g2] 63)).setCell ⟨w.heap.size, 2, none⟩ (.int .i64 (S + g2)))) := Lib.hid ((bl_then (bl_then HB.out HB1.out) (bl_alloc hb2 _)).setCell (Nat.le_refl _) _)
        clear hb2 hbl2
        go_wp2_with fail
        go_roundg (n - (k + 1))
        case measure => have := HM.out; omega
        case rel => exact ⟨k + 1, rfl, HK2.out, by go_num, by rw [HLS.out], by rw [HSS.out]; exact HBL3.out, HB3.out⟩
      · have hq : ((N : Int) == 1) = false := beq_false_of_ne (by omega)
        have hs := HSH.out hN1
        have hh := HHH.out hN1
        obtain ⟨bv, hbv⟩ : ∃ bv, bv = bendT ns es x y := ⟨_, rfl⟩
        have hof := HOF.out v1 HB1.out
        rw [← hbv] at hh hof
        have HS2 := Lib.hid hs
        have HH := Lib.hid hh
        have HOF2 := Lib.hid hof
        clear hN1 hs hh hof hbv
        go_wp2_with fail
        refine HOF2.out.mono ?_
        rintro e v2 ⟨rfl, hb2⟩
        have hbl2 := block_below HBL1.out hb2
        have f0 := block_fr hbl2 0
        have c0 : v2.cell? ⟨w.heap.size, 0, none⟩ = some (.int .i64 0) := block_cell hbl2 (j := 0) rfl
        have c1 : v2.cell? ⟨w.heap.size, 1, none⟩ = some (.int .i64 0) := block_cell hbl2 (j := 1) rfl
        have c2 : v2.cell? ⟨w.heap.size, 2, none⟩ = some (.int .i64 S) := block_cell hbl2 (j := 2) rfl
        have c3 : v2.cell? ⟨w.heap.size, 3, none⟩ = some (.int .i64 W) := block_cell hbl2 (j := 3) rfl
        have f1 := block_fr hbl2 1
        have f2 := block_fr hbl2 2
        have f3 := block_fr hbl2 3
        have HBK := Lib.hid hbl2
        have HB3 : Hid (Below w.heap.size w v2) := Lib.hid (bl_then (bl_then HB.out HB1.out) hb2)
        clear hb2 hbl2
        go_wp2_with fail
        have hbl4 := blk3 (blk2 (blk1 (blk0 (blk1 (blk0 HBK.out (.int .i64 bv)) (.int .i64 y)) (.int .i64 bv)) (.int .i64 y)) (.int .i64 S)) (.int .i64 W)
        have z0 := block_cell hbl4 (j := 0) rfl
        have z1 := block_cell hbl4 (j := 1) rfl
        have z2 := block_cell hbl4 (j := 2) rfl
        have z3 := block_cell hbl4 (j := 3) rfl
        refine bodyPost_ret (v := .tuple #[.agg #[.int .i64 bv, .int .i64 y, .int .i64 S, .int .i64 W], .int .i64 (k : Nat)]) (by simp [results, Try.results58, go_sem, z0, z1, z2, z3]) rfl ⟨by rw [HH.out, HS2.out]; rfl, ?_⟩
        exact (((((HB3.out.setCell (Nat.le_refl _) _).setCell (Nat.le_refl _) _).setCell (Nat.le_refl _) _).setCell (Nat.le_refl _) _).setCell (Nat.le_refl _) _).setCell (Nat.le_refl _) _
    · have hkn : n = k := by omega
      have hsn : stopN es bs a xs = n := by have := HKS.out; have := HST.out; omega
      have hh := hint_end (ns := ns) (es := es) (bs := bs) (a := a) (l := xs) (by rw [HL.out, hsn]; exact Nat.le_refl _)
      have he : xs.take k = xs := List.take_of_length_le (by rw [HL.out]; omega)
      have hbk := HBLK.out
      rw [he] at hbk
      rw [← HWE.out] at hh
      obtain ⟨S, hS⟩ : ∃ S, S = sumW es xs := ⟨_, rfl⟩
      rw [← hS] at hbk hh
      subst hkn
      have HSN := Lib.hid hsn
      have HH := Lib.hid hh
      have f0 := block_fr hbk 0
      have c0 : wr.cell? ⟨w.heap.size, 0, none⟩ = some (.int .i64 0) := block_cell hbk (j := 0) rfl
      have c1 : wr.cell? ⟨w.heap.size, 1, none⟩ = some (.int .i64 0) := block_cell hbk (j := 1) rfl
      have c2 : wr.cell? ⟨w.heap.size, 2, none⟩ = some (.int .i64 S) := block_cell hbk (j := 2) rfl
      have c3 : wr.cell? ⟨w.heap.size, 3, none⟩ = some (.int .i64 W) := block_cell hbk (j := 3) rfl
      have f1 := block_fr hbk 1
      have f2 := block_fr hbk 2
      have f3 := block_fr hbk 3
      have HBK := Lib.hid hbk
      clear hlt hk hsn hh he hbk hS hbd
      go_wp2_with fail
      have hbl4 := blk3 (blk2 (blk1 (blk0 (blk1 (blk0 HBK.out (.int .i64 9)) (.int .i64 (-1))) (.int .i64 9)) (.int .i64 (-1))) (.int .i64 S)) (.int .i64 W)
      have z0 := block_cell hbl4 (j := 0) rfl
      have z1 := block_cell hbl4 (j := 1) rfl
      have z2 := block_cell hbl4 (j := 2) rfl
      have z3 := block_cell hbl4 (j := 3) rfl
      refine bodyPost_ret (v := .tuple #[.agg #[.int .i64 9, .int .i64 (-1), .int .i64 S, .int .i64 W], .int .i64 (n : Nat)]) (by simp [results, Try.results58, go_sem, z0, z1, z2, z3]) rfl ⟨by rw [HH.out, HSN.out]; rfl, ?_⟩
      exact (((((HB.out.setCell (Nat.le_refl _) _).setCell (Nat.le_refl _) _).setCell (Nat.le_refl _) _).setCell (Nat.le_refl _) _).setCell (Nat.le_refl _) _).setCell (Nat.le_refl _) _
end Go.Proofs.Ytkdpfbefdhjmcaa
/- guide.Hint, guide.All, as callers get them. -/
set_option linter.unusedVariables false
set_option linter.unusedSimpArgs false
namespace Go.Proofs.Ytkdpfbefdhjmcaa
open Go.ChangeShapes Go.WideShapes Go.ChangeAt Go.RowKit
/-- what Hint tells: none, where it is no walk -/
def hintR (ns : List (Int × Int)) (es : List (Int × Int × Int)) (bs : List (Int × Int)) (a : Int) (l : List Int) : HintT := if walkB es bs a l = true then hintT ns es bs a l else (0, 0, 0, 0)
def hintsR (ns : List (Int × Int)) (es : List (Int × Int × Int)) (bs : List (Int × Int)) (a : Int) (l : List Int) : List HintT := if walkB es bs a l = true then hintsT ns es bs a l else []
set_option maxRecDepth 100000 in
set_option maxHeartbeats 8000000 in
theorem ghint_at {w : World} {B E t p : Nat} {ns bs : List (Int × Int)} {es : List (Int × Int × Int)} (h : TurnsAt w B E t p ns es bs) {A : Option Addr} {n c : Nat} {xs : List Int} (hr : ReadsI w A n c xs) (hn : n ≤ 1099511627776) (a : Int) :
    Calls Try.prog 32 #[.pointer (some ⟨t, 0, none⟩), .int .i64 a, .slice A n c] w fun e w' => e = .returned (.tuple #[hintV (hintR ns es bs a xs), .bool (walkB es bs a xs)]) ∧ Below w.heap.size w w' := by
  have hb0 : Below w.heap.size w (w.alloc (.cells #[.int .i64 0, .int .i64 0, .int .i64 0, .int .i64 0] 78)) := bl_alloc (Below.refl _ _) _
  have hv := valid_at (h.below hb0) (hr.below hb0) a
  have HP0 := Lib.hid (new_block w (.cells #[.int .i64 0, .int .i64 0, .int .i64 0, .int .i64 0] 78))
  have HB0 := Lib.hid hb0
  cases hw : walkB es bs a xs with
  | false =>
    rw [hw] at hv
    have HV := Lib.hid hv
    have hR : hintR ns es bs a xs = (0, 0, 0, 0) := by unfold hintR; rw [if_neg (by rw [hw]; simp)]
    rw [hR]
    clear h hr hv hw hR hb0
    go_enter Try.func32, Try.ntmps32
    go_wp2_with fail
    refine HV.out.mono ?_
    rintro e y1 ⟨rfl, hb⟩
    have hp1 := block_below HP0.out hb
    have c0 : y1.cell? ⟨w.heap.size, 0, none⟩ = some (.int .i64 0) := block_cell hp1 (j := 0) rfl
    have c1 : y1.cell? ⟨w.heap.size, 1, none⟩ = some (.int .i64 0) := block_cell hp1 (j := 1) rfl
    have c2 : y1.cell? ⟨w.heap.size, 2, none⟩ = some (.int .i64 0) := block_cell hp1 (j := 2) rfl
    have c3 : y1.cell? ⟨w.heap.size, 3, none⟩ = some (.int .i64 0) := block_cell hp1 (j := 3) rfl
    have f0 := block_fr hp1 0
    have f1 := block_fr hp1 1
    have f2 := block_fr hp1 2
    have f3 := block_fr hp1 3
    have HBK := Lib.hid hp1
    have HB3 : Hid (Below w.heap.size w y1) := Lib.hid (bl_then HB0.out hb)
    clear hb hp1
    go_wp2_with fail
    have hbl4 := blk3 (blk2 (blk1 (blk0 HBK.out (.int .i64 0)) (.int .i64 0)) (.int .i64 0)) (.int .i64 0)
    have z0 := block_cell hbl4 (j := 0) rfl
    have z1 := block_cell hbl4 (j := 1) rfl
    have z2 := block_cell hbl4 (j := 2) rfl
    have z3 := block_cell hbl4 (j := 3) rfl
    refine bodyPost_ret (v := .tuple #[.agg #[.int .i64 0, .int .i64 0, .int .i64 0, .int .i64 0], .bool false]) (by simp [results, Try.results32, go_sem, z0, z1, z2, z3]) rfl ⟨rfl, ?_⟩
    exact (((HB3.out.setCell (Nat.le_refl _) _).setCell (Nat.le_refl _) _).setCell (Nat.le_refl _) _).setCell (Nat.le_refl _) _
  | true =>
    rw [hw] at hv
    have HV := Lib.hid hv
    have hh := fun (w' : World) (hb : Below w.heap.size w w') => hint_at (h.below hb) (hr.below hb) hn a hw
    have hR : hintR ns es bs a xs = hintT ns es bs a xs := by unfold hintR; rw [if_pos hw]
    rw [hR]
    obtain ⟨g, hg⟩ : ∃ g, g = hintT ns es bs a xs := ⟨_, rfl⟩
    rw [← hg] at hh ⊢
    obtain ⟨g0, g1, g2, g3⟩ := g
    simp only [hintV] at hh ⊢
    obtain ⟨S, hS⟩ : ∃ S, S = stopN es bs a xs := ⟨_, rfl⟩
    rw [← hS] at hh
    have HH := Lib.hid hh
    clear h hr hv hw hR hb0 hh hg hS
    go_enter Try.func32, Try.ntmps32
    go_wp2_with fail
    refine HV.out.mono ?_
    rintro e y1 ⟨rfl, hb⟩
    have HP1 := Lib.hid (block_below HP0.out hb)
    have HB1 : Hid (Below w.heap.size w y1) := Lib.hid (bl_then HB0.out hb)
    clear hb
    go_wp2_with fail
    refine (HH.out _ HB1.out).mono ?_
    rintro e y2 ⟨rfl, hb⟩
    have hp2 := block_below (block_below HP1.out hb) (bl_alloc (Below.refl y2.heap.size y2) (.cells #[.int .i64 g0, .int .i64 g1, .int .i64 g2, .int .i64 g3] 78))
    have HB2 : Hid (Below w.heap.size w (y2.alloc (.cells #[.int .i64 g0, .int .i64 g1, .int .i64 g2, .int .i64 g3] 78))) := Lib.hid (bl_alloc (bl_then HB1.out hb) _)
    have hq := new_block y2 (.cells #[.int .i64 g0, .int .i64 g1, .int .i64 g2, .int .i64 g3] 78)
    have q0 := block_cell hq (j := 0) rfl
    have q1 := block_cell hq (j := 1) rfl
    have q2 := block_cell hq (j := 2) rfl
    have q3 := block_cell hq (j := 3) rfl
    have c0 := block_cell hp2 (j := 0) rfl
    have c1 := block_cell hp2 (j := 1) rfl
    have c2 := block_cell hp2 (j := 2) rfl
    have c3 := block_cell hp2 (j := 3) rfl
    have f0 := block_fr hp2 0
    have f1 := block_fr hp2 1
    have f2 := block_fr hp2 2
    have f3 := block_fr hp2 3
    have HBK := Lib.hid hp2
    clear hb hp2 hq
    go_wp2_with fail
    have hbl4 := blk3 (blk2 (blk1 (blk0 HBK.out (.int .i64 g0)) (.int .i64 g1)) (.int .i64 g2)) (.int .i64 g3)
    have z0 := block_cell hbl4 (j := 0) rfl
    have z1 := block_cell hbl4 (j := 1) rfl
    have z2 := block_cell hbl4 (j := 2) rfl
    have z3 := block_cell hbl4 (j := 3) rfl
    refine bodyPost_ret (v := .tuple #[.agg #[.int .i64 g0, .int .i64 g1, .int .i64 g2, .int .i64 g3], .bool true]) (by simp [results, Try.results32, go_sem, z0, z1, z2, z3]) rfl ⟨rfl, ?_⟩
    exact (((HB2.out.setCell (Nat.le_refl _) _).setCell (Nat.le_refl _) _).setCell (Nat.le_refl _) _).setCell (Nat.le_refl _) _
/-- Hint without any turns: none -/
theorem ghint_out (ns : List (Int × Int)) {es : List (Int × Int × Int)} {bs : List (Int × Int)} {a : Int} {l : List Int} (h : walkB es bs a l = false) : hintR ns es bs a l = (0, 0, 0, 0) := by
  unfold hintR; rw [if_neg (by rw [h]; simp)]
theorem flatH_one (xs : List HintT) : ∀ u ∈ flatH xs, u.oneCell' = true := by
  intro u hu
  unfold flatH at hu
  obtain ⟨x, _, hx⟩ := List.mem_flatMap.1 hu
  simp only [List.mem_cons, List.not_mem_nil, or_false] at hx
  rcases hx with rfl | rfl | rfl | rfl <;> rfl
theorem hintT_kind {ns : List (Int × Int)} {es : List (Int × Int × Int)} {bs : List (Int × Int)} {a : Int} {l : List Int} : (stopN es bs a l < l.length ∧ (hintT ns es bs a l).2.1 = l.getD (stopN es bs a l) 0) ∨ (¬ stopN es bs a l < l.length ∧ (hintT ns es bs a l).1 = 9 ∧ (hintT ns es bs a l).2.1 = -1) := by
  by_cases h : stopN es bs a l < l.length
  · exact .inl ⟨h, by unfold hintT; rw [if_pos h]⟩
  · exact .inr ⟨h, by unfold hintT; rw [if_neg h], by unfold hintT; rw [if_neg h]⟩
theorem own_formH {w : World} {B m : Nat} {v : Value} {vs : List Value} (h : w.ownsRow B 78 4 v m vs) : ∃ A c, v = .slice A m c := by
  rcases h.2 with ⟨h1, h2⟩ | ⟨g, cc, _, h1, _⟩
  · exact ⟨none, 0, by rw [h1, h2]⟩
  · exact ⟨_, _, h1⟩
set_option maxRecDepth 100000 in
set_option maxHeartbeats 16000000 in
theorem all_in {w : World} {B E t p : Nat} {ns bs : List (Int × Int)} {es : List (Int × Int × Int)} (h : TurnsAt w B E t p ns es bs) {A : Option Addr} {n c : Nat} {xs : List Int} (hr : ReadsI w A n c xs) (hn : n ≤ 1048576) (hcap : n ≤ c ∧ c ≤ maxLen) (a : Int) (hw : walkB es bs a xs = true) :
    Calls Try.prog 35 #[.pointer (some ⟨t, 0, none⟩), .int .i64 a, .slice A n c] w fun e w' => ∃ A' c', e = .returned (.slice A' (hintsT ns es bs a xs).length c') ∧ ReadsH w' A' (hintsT ns es bs a xs).length c' (hintsT ns es bs a xs) ∧ Below w.heap.size w w' := by
  have hv := valid_at h hr a
  rw [hw] at hv
  have hlen := hints_len (ns := ns) (es := es) (bs := bs) xs.length (a := a) (l := xs) (Nat.le_refl _)
  rw [hr.len] at hlen
  have hh := fun (w' : World) (hb : Below w.heap.size w w') (A' : Option Addr) (n' c' : Nat) (x : Int) (l : List Int) (hr' : ReadsI w' A' n' c' l) (hn' : n' ≤ 1099511627776) (hw' : walkB es bs x l = true) => hint_at (h.below hb) hr' hn' x hw'
  obtain ⟨i1, hi1⟩ := infoH
  have II := Lib.hid hi1
  have HV := Lib.hid hv
  have HH := Lib.hid hh
  have HR := Lib.hid hr
  have HW := Lib.hid hw
  have HCAP := Lib.hid hcap
  obtain ⟨T, hT⟩ : ∃ T, T = hintsT ns es bs a xs := ⟨_, rfl⟩
  rw [← hT] at hlen ⊢
  have HTE := Lib.hid hT
  have HTL := Lib.hid hlen
  clear h hr hv hlen hh hi1 hw hcap hT
  go_enter Try.func35, Try.ntmps35
  go_wp2_with fail
  refine HV.out.mono ?_
  rintro e y1 ⟨rfl, hb⟩
  have HB1 := Lib.hid hb
  have HR1 := Lib.hid (HR.out.below hb)
  clear hb
  go_wp2_with fail
  go_loopg [1, 2, 6] (n + 1) (fun M u z s wr => ∃ (x : Int) (A' : Option Addr) (m k : Nat) (l : List Int) (O : List HintT), M = m + 1 ∧ m ≤ n ∧ u = .int .i64 x ∧ z = .slice A' m k ∧ ReadsI y1 A' m k l ∧ m ≤ k ∧ k ≤ maxLen ∧ walkB es bs x l = true ∧ O ++ hintsT ns es bs x l = T ∧ wr.ownsRow y1.heap.size 78 4 s O.length (flatH O) ∧ Below y1.heap.size y1 wr)
  case atStart => exact ⟨a, A, n, c, xs, [], rfl, Nat.le_refl _, rfl, rfl, HR1.out, HCAP.out.1, HCAP.out.2, HW.out, by rw [HTE.out]; rfl, World.ownsRow_nil _ _ _ _, Below.refl _ _⟩
  case round =>
    obtain ⟨x, A', m, k, l, O, hM, hmn, rfl, rfl, hrl, hmk, hkm, hwl, hO, hown, hb⟩ := hrel
    have HM := Lib.hid hM
    have HRL := Lib.hid hrl
    have HWL := Lib.hid hwl
    have HO := Lib.hid hO
    have HOWN := Lib.hid hown
    have HB := Lib.hid hb
    have HKM := Lib.hid hkm
    have hhx := HH.out wr (bl_then HB1.out hb) A' m k x l (hrl.below hb) (by omega) hwl
    have hll := hrl.len
    have hkind := hintT_kind (ns := ns) (es := es) (bs := bs) (a := x) (l := l)
    have hmore := fun h => hints_more (ns := ns) (es := es) (bs := bs) (a := x) (l := l) h
    have hlast := fun h => hints_last (ns := ns) (es := es) (bs := bs) (a := x) (l := l) h
    have hcut := fun (hk : stopN es bs x l < l.length) => walk_cut hwl hk
    have hmem := fun (hk : stopN es bs x l < l.length) => walk_mem hwl hk
    obtain ⟨g, hg⟩ : ∃ g, g = hintT ns es bs x l := ⟨_, rfl⟩
    obtain ⟨S, hS⟩ : ∃ S, S = stopN es bs x l := ⟨_, rfl⟩
    rw [← hg] at hhx hkind hmore hlast
    rw [← hS] at hhx hkind hmore hlast hcut hmem
    obtain ⟨g0, g1, g2, g3⟩ := g
    simp only [hintV] at hhx
    dsimp only at hkind
    have HHX := Lib.hid hhx
    have HMORE := Lib.hid hmore
    have HLAST := Lib.hid hlast
    have HCUT := Lib.hid hcut
    have HMEM := Lib.hid hmem
    have HLL := Lib.hid hll
    have HKI := Lib.hid hkind
    have hol : O.length + 1 ≤ 1048580 := by
      have h1 := HTL.out
      have h2 := hints_len (ns := ns) (es := es) (bs := bs) l.length (a := x) (l := l) (Nat.le_refl _)
      rw [← HO.out, List.length_append] at h1
      omega
    clear hM hrl hwl hO hown hb hhx hmore hlast hcut hmem hll hg hS hkind hkm
    go_wp2_with fail
    refine HHX.out.mono ?_
    rintro e y2 ⟨rfl, hb⟩
    have hq := new_block y2 (.cells #[.int .i64 g0, .int .i64 g1, .int .i64 g2, .int .i64 g3] 78)
    have hb3 := bl_then HB.out (bl_alloc hb (.cells #[.int .i64 g0, .int .i64 g1, .int .i64 g2, .int .i64 g3] 78))
    have q0 := block_cell hq (j := 0) rfl
    have q1 := block_cell hq (j := 1) rfl
    have q2 := block_cell hq (j := 2) rfl
    have q3 := block_cell hq (j := 3) rfl
    obtain ⟨y3, hy3⟩ : ∃ y3, y3 = y2.alloc (.cells #[.int .i64 g0, .int .i64 g1, .int .i64 g2, .int .i64 g3] 78) := ⟨_, rfl⟩
    have hb23 : Below wr.heap.size wr y3 := by rw [hy3]; exact bl_alloc hb _
    have HOA := Lib.hid (own_upd (own_upd HOWN.out (Upd.of_below (F := fun _ => False) hb23) (fun _ _ h => h)) (Upd.of_below (F := fun _ => False) (bl_alloc (Below.refl _ _) (.cells #[.int .i64 g0, .int .i64 g1, .int .i64 g2, .int .i64 g3] 78))) (fun _ _ h => h))
    have HSRC := Lib.hid (Src.new (w := y3) (vs := #[.int .i64 g0, .int .i64 g1, .int .i64 g2, .int .i64 g3]) (t := 78) (size := 4) (by intro u hu; simp at hu; rcases hu with rfl | rfl | rfl | rfl <;> rfl) rfl)
    rw [← hy3] at hb3 hq
    have HB3 := Lib.hid hb3
    have HQ := Lib.hid hq
    have HBS : Hid (y1.heap.size ≤ (y3.alloc (.cells #[.int .i64 g0, .int .i64 g1, .int .i64 g2, .int .i64 g3] 78)).heap.size) := Lib.hid (bl_alloc hb3 _).size
    have HOL : Hid (O.length + 1 ≤ maxLen ∧ (O.length + 1) * 32 ≤ 140737488355328) := Lib.hid ⟨by unfold maxLen; omega, by omega⟩
    have HY3 := Lib.hid hy3
    have HYW : Hid (wr.heap.size ≤ y2.heap.size) := Lib.hid hb.size
    have HYS : Hid (y2.heap.size < y3.heap.size) := Lib.hid (by rw [hy3, size_alloc]; omega)
    clear hb hb3 hy3 hq hb23 hol
    go_upto_region 4 with fail
    rw [← HY3.out]
    rw [← HY3.out] at q0 q1 q2 q3
    go_wp2_with (at_builtin; refine wpList_push rfl (.tmp 21) (.tmp 23) 83 rfl y1.heap.size 78 Try.underlying83 II.out ⟨rfl, by decide⟩ _ O.length _ rfl HOA.out (some ⟨y3.heap.size, 0, none⟩) 1 1 _ rfl HSRC.out HOL.out HBS.out ?_)
    intro v' w3 hgr
    have hrow := hgr.row
    have hlt := HB3.out.size
    have hqb : w3.heap[y2.heap.size]? = some (.cells #[.int .i64 g0, .int .i64 g1, .int .i64 g2, .int .i64 g3] 78) := by
      refine (hgr.by_.block y2.heap.size (by rw [size_alloc]; have := HYS.out; omega) fun e => ?_).trans (block_below HQ.out (bl_alloc (Below.refl _ _) _))
      have := (World.ownsRow.lt HOWN.out y2.heap.size e.symm).2
      have := HYW.out
      omega
    have hb3 : Below y1.heap.size y1 w3 := (bl_alloc HB3.out (.cells #[.int .i64 g0, .int .i64 g1, .int .i64 g2, .int .i64 g3] 78)).grown hgr.by_ HBS.out (fun g hg => (World.ownsRow.lt HOA.out g hg).1)
    have d0 := block_cell hqb (j := 0) rfl
    have d1 := block_cell hqb (j := 1) rfl
    have HROW := Lib.hid hrow
    have HB4 := Lib.hid hb3
    clear hgr hrow hlt hqb hb3 q0 q1 q2 q3
    rcases HKI.out with ⟨hs, hg1⟩ | ⟨hs, hg0, hg1⟩
    · have hsm : S < m := by rw [← HLL.out]; exact hs
      have hin := HMEM.out hs
      have hwk := HCUT.out hs
      have hmo := HMORE.out hs
      rw [← hg1] at hin hwk hmo
      unfold inB at hin
      simp only [Bool.and_eq_true, decide_eq_true_eq] at hin
      have b2 : decide (g1 < 0) = false := decide_eq_false (by omega)
      have b3 : ¬ g1 < 0 := by omega
      obtain ⟨bL, oL, eL, _⟩ := HRL.out.cell (by omega)
      subst eL
      obtain ⟨j1, hj1⟩ : ∃ j, j = S + 1 := ⟨_, rfl⟩
      have e1 : IntKind.i64.wrap ((S : Int) + 1) = (j1 : Int) := by rw [IntWalk.i64_in _ (by omega)]; omega
      have e2 : (0 : Int) ≤ (j1 : Int) := by omega
      have e3 : (j1 : Int) ≤ (k : Int) := by omega
      have e4 : (j1 : Int) ≤ (m : Int) := by omega
      have e5 : j1 ≤ k := by omega
      have e6 : ¬ k = 0 := by omega
      have HWK := Lib.hid hwk
      have HMO := Lib.hid hmo
      have HJ1 := Lib.hid hj1
      have HJM : Hid (j1 ≤ m ∧ m ≤ k) := Lib.hid ⟨by omega, hmk⟩
      clear hs hg1 hin hwk hmo hsm hj1 hmk
      by_cases hcl : g0 = 9
      · have b1 : (g0 == 9) = true := by simp [hcl]
        clear hcl
        by_cases hk : k = j1
        · have HNL : Hid (ReadsI y1 (some ⟨bL, oL, none⟩) (m - j1) 0 (l.drop j1)) := Lib.hid (HRL.out.rest HJM.out.1 0 (fun h => by have := HJM.out.2; omega))
          subst hk
          go_wp2_with fail
          go_quiet (fail)
          go_wp2_with fail
          go_roundg (m - k + 1)
          case measure => have := HM.out; have := HJ1.out; have := HJM.out.1; omega
          case rel =>
            refine ⟨g1, _, m - k, 0, l.drop k, O ++ [(g0, g1, g2, g3)], rfl, by omega, rfl, rfl, HNL.out, ?_, ?_, ?_, ?_, ?_, bl_drewN HB4.out _⟩
            · have := HJM.out.2; have := HJM.out.1; omega
            · have := HKM.out; omega
            · have := HWK.out; rw [← HJ1.out] at this; exact this
            · have := HMO.out; rw [← HJ1.out] at this; rw [List.append_assoc]; rw [← HO.out, this]; rfl
            · rw [flatH_append, List.length_append]; exact HROW.out
        · have HNL : Hid (ReadsI y1 (some ⟨bL, oL + j1, none⟩) (m - j1) (k - j1) (l.drop j1)) := Lib.hid (HRL.out.rest HJM.out.1 _ (fun h => rfl))
          go_wp2_with fail
          go_quiet (fail)
          go_wp2_with fail
          go_roundg (m - j1 + 1)
          case measure => have := HM.out; have := HJ1.out; have := HJM.out.1; omega
          case rel =>
            refine ⟨g1, _, m - j1, (k-j1), l.drop j1, O ++ [(g0, g1, g2, g3)], rfl, by omega, rfl, rfl, HNL.out, ?_, ?_, ?_, ?_, ?_, bl_drewN HB4.out _⟩
            · have := HJM.out.2; have := HJM.out.1; omega
            · have := HKM.out; omega
            · have := HWK.out; rw [← HJ1.out] at this; exact this
            · have := HMO.out; rw [← HJ1.out] at this; rw [List.append_assoc]; rw [← HO.out, this]; rfl
            · rw [flatH_append, List.length_append]; exact HROW.out
      · have b1 : (g0 == 9) = false := beq_false_of_ne hcl
        clear hcl
        by_cases hk : k = j1
        · have HNL : Hid (ReadsI y1 (some ⟨bL, oL, none⟩) (m - j1) 0 (l.drop j1)) := Lib.hid (HRL.out.rest HJM.out.1 0 (fun h => by have := HJM.out.2; omega))
          subst hk
          go_wp2_with fail
          go_quiet (fail)
          go_wp2_with fail
          go_roundg (m - k + 1)
          case measure => have := HM.out; have := HJ1.out; have := HJM.out.1; omega
          case rel =>
            refine ⟨g1, _, m - k, 0, l.drop k, O ++ [(g0, g1, g2, g3)], rfl, by omega, rfl, rfl, HNL.out, ?_, ?_, ?_, ?_, ?_, bl_drewN HB4.out _⟩
            · have := HJM.out.2; have := HJM.out.1; omega
            · have := HKM.out; omega
            · have := HWK.out; rw [← HJ1.out] at this; exact this
            · have := HMO.out; rw [← HJ1.out] at this; rw [List.append_assoc]; rw [← HO.out, this]; rfl
            · rw [flatH_append, List.length_append]; exact HROW.out
        · have HNL : Hid (ReadsI y1 (some ⟨bL, oL + j1, none⟩) (m - j1) (k - j1) (l.drop j1)) := Lib.hid (HRL.out.rest HJM.out.1 _ (fun h => rfl))
          go_wp2_with fail
          go_quiet (fail)
          go_wp2_with fail
          go_roundg (m - j1 + 1)
          case measure => have := HM.out; have := HJ1.out; have := HJM.out.1; omega
          case rel =>
            refine ⟨g1, _, m - j1, (k-j1), l.drop j1, O ++ [(g0, g1, g2, g3)], rfl, by omega, rfl, rfl, HNL.out, ?_, ?_, ?_, ?_, ?_, bl_drewN HB4.out _⟩
            · have := HJM.out.2; have := HJM.out.1; omega
            · have := HKM.out; omega
            · have := HWK.out; rw [← HJ1.out] at this; exact this
            · have := HMO.out; rw [← HJ1.out] at this; rw [List.append_assoc]; rw [← HO.out, this]; rfl
            · rw [flatH_append, List.length_append]; exact HROW.out
    · subst hg0 hg1
      have hla := HLAST.out hs
      have hO := HO.out
      rw [hla] at hO
      obtain ⟨A2, c2, hv⟩ := own_formH HROW.out
      subst hv
      have HO2 := Lib.hid hO
      clear hs hla hO hmk
      go_wp2_with fail
      go_ret
      have hr := HROW.out
      rw [show flatH O ++ [Value.int .i64 9, .int .i64 (-1), .int .i64 g2, .int .i64 g3] = flatH T by rw [← HO2.out, flatH_append]; rfl] at hr
      have hl : O.length + 1 = T.length := by rw [← HO2.out]; simp
      refine ⟨A2, c2, by rw [← hl]; rfl, ?_, bl_then HB1.out HB4.out⟩
      rw [← hl]
      exact ReadsH.of_row hr HOL.out.1
end Go.Proofs.Ytkdpfbefdhjmcaa
