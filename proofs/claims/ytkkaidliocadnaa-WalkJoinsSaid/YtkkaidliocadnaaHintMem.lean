/- Rows of hints: class, edge, far, left. -/
import Derived.Test.YtkkaidliocadnaaGuidePure
import Derived.Test.YtkkaidliocadnaaAppend
set_option linter.unusedVariables false
set_option linter.unusedSimpArgs false
namespace Go.Proofs.Ytkkaidliocadnaa
open Go.ChangeShapes Go.WideShapes Go.ChangeAt Go.RowKit
theorem infoHint : (Try.prog.info? 49).map (fun i => (i.zero, i.size, i.bytes)) = some (some (.agg #[.int .i64 0, .int .i64 0, .int .i64 0, .int .i64 0]), 4, 32) := by kernel_rfl
theorem infoH : ∃ i, Try.prog.info? 49 = some i ∧ i.zero = some (.agg #[.int .i64 0, .int .i64 0, .int .i64 0, .int .i64 0]) ∧ i.size = 4 ∧ i.bytes = 32 := info_parts infoHint
def flatH (xs : List HintT) : List Value := xs.flatMap fun x => [.int .i64 x.1, .int .i64 x.2.1, .int .i64 x.2.2.1, .int .i64 x.2.2.2]
theorem flatH_len (xs : List HintT) : (flatH xs).length = xs.length * 4 := by
  induction xs with
  | nil => rfl
  | cons x r ih => simp only [flatH, List.flatMap_cons, List.length_append, List.length_cons, List.length_nil] at *; omega
theorem flatH_append (l k : List HintT) : flatH (l ++ k) = flatH l ++ flatH k := by simp [flatH]
theorem flatH_get : ∀ (xs : List HintT) (i : Nat), i < xs.length → (flatH xs)[i * 4]? = some (.int .i64 (xs.getD i (0, 0, 0, 0)).1) ∧ (flatH xs)[i * 4 + 1]? = some (.int .i64 (xs.getD i (0, 0, 0, 0)).2.1) ∧ (flatH xs)[i * 4 + 2]? = some (.int .i64 (xs.getD i (0, 0, 0, 0)).2.2.1) ∧ (flatH xs)[i * 4 + 3]? = some (.int .i64 (xs.getD i (0, 0, 0, 0)).2.2.2)
  | x :: l, 0, _ => ⟨rfl, rfl, rfl, rfl⟩
  | x :: l, i + 1, h => by
    have ih := flatH_get l i (by simpa using h)
    have e0 : flatH (x :: l) = .int .i64 x.1 :: .int .i64 x.2.1 :: .int .i64 x.2.2.1 :: .int .i64 x.2.2.2 :: flatH l := rfl
    have e : (i + 1) * 4 = (i * 4) + 1 + 1 + 1 + 1 := by omega
    rw [e0, e, show i * 4 + 1 + 1 + 1 + 1 + 1 = (i * 4 + 1) + 1 + 1 + 1 + 1 from rfl, show i * 4 + 1 + 1 + 1 + 1 + 2 = (i * 4 + 2) + 1 + 1 + 1 + 1 from rfl, show i * 4 + 1 + 1 + 1 + 1 + 3 = (i * 4 + 3) + 1 + 1 + 1 + 1 from rfl]
    simp only [List.getElem?_cons_succ, List.getD_cons_succ]
    exact ih
structure ReadsH (w : World) (A : Option Addr) (n c : Nat) (xs : List HintT) : Prop where
  len : xs.length = n
  small : n ≤ maxLen
  cell : 0 < n → ∃ b o, A = some ⟨b, o, none⟩ ∧ ∀ i, i < n → w.cell? ⟨b, o + i * 4, none⟩ = some (.int .i64 (xs.getD i (0, 0, 0, 0)).1) ∧ w.cell? ⟨b, o + i * 4 + 1, none⟩ = some (.int .i64 (xs.getD i (0, 0, 0, 0)).2.1) ∧ w.cell? ⟨b, o + i * 4 + 2, none⟩ = some (.int .i64 (xs.getD i (0, 0, 0, 0)).2.2.1) ∧ w.cell? ⟨b, o + i * 4 + 3, none⟩ = some (.int .i64 (xs.getD i (0, 0, 0, 0)).2.2.2)
theorem ReadsH.below {w w' : World} {A : Option Addr} {n c : Nat} {xs : List HintT} (h : ReadsH w A n c xs) (hb : Below w.heap.size w w') : ReadsH w' A n c xs := by
  refine ⟨h.len, h.small, fun hn => ?_⟩
  obtain ⟨b, o, hA, hc⟩ := h.cell hn
  exact ⟨b, o, hA, fun i hi => ⟨cell_below (hc i hi).1 hb, cell_below (hc i hi).2.1 hb, cell_below (hc i hi).2.2.1 hb, cell_below (hc i hi).2.2.2 hb⟩⟩
theorem ReadsH.of_row {w : World} {B : Nat} {e : TypeId} {A : Option Addr} {n c : Nat} {xs : List HintT} (h : w.ownsRow B e 4 (.slice A n c) n (flatH xs)) (hn : n ≤ maxLen) : ReadsH w A n c xs := by
  have hl : xs.length = n := by have := h.1; rw [flatH_len] at this; omega
  refine ⟨hl, hn, fun h0 => ?_⟩
  rcases h.2 with ⟨_, h1⟩ | ⟨g, cc, _, h1, _⟩
  · omega
  · injection h1 with e1 e2 e3
    subst e1
    refine ⟨g, 0, rfl, fun i hi => ?_⟩
    have := flatH_get xs i (by omega)
    rw [Nat.zero_add, h.cellAt _ (by omega), h.cellAt _ (by omega), h.cellAt _ (by omega), h.cellAt _ (by omega)]
    exact this
/-- the rest of what lies there -/
theorem ReadsI.rest {w : World} {b o n c : Nat} {xs : List Int} (h : ReadsI w (some ⟨b, o, none⟩) n c xs) {j : Nat} (hj : j ≤ n) {o' : Nat} (c' : Nat) (ho : j < n → o' = o + j) : ReadsI w (some ⟨b, o', none⟩) (n - j) c' (xs.drop j) := by
  refine ⟨by rw [List.length_drop, h.len], by have := h.small; omega, fun hn => ?_, fun x hx => h.wf x (List.mem_of_mem_drop hx)⟩
  obtain ⟨b1, o1, e, hc⟩ := h.cell (by omega)
  injection e with e
  injection e with e1 e2
  subst e1 e2
  have := ho (by omega)
  subst this
  refine ⟨b, o + j, rfl, fun i hi => ?_⟩
  rw [show o + j + i = o + (j + i) by omega, hc (j + i) (by omega)]
  simp [List.getD_eq_getElem?_getD]
theorem ReadsI.front {w : World} {A : Option Addr} {n c : Nat} {xs : List Int} (h : ReadsI w A n c xs) {j : Nat} (hj : j ≤ n) (c' : Nat) : ReadsI w A j c' (xs.take j) := by
  refine ⟨by rw [List.length_take, h.len]; omega, by have := h.small; omega, fun hn => ?_, fun x hx => h.wf x (List.mem_of_mem_take hx)⟩
  obtain ⟨b1, o1, e, hc⟩ := h.cell (by omega)
  refine ⟨b1, o1, e, fun i hi => ?_⟩
  rw [hc i (by omega), List.getD_eq_getElem?_getD, List.getD_eq_getElem?_getD, List.getElem?_take_of_lt hi]
theorem ReadsI.cap {w : World} {A : Option Addr} {n c : Nat} {xs : List Int} (h : ReadsI w A n c xs) (c' : Nat) : ReadsI w A n c' xs := ⟨h.len, h.small, h.cell, h.wf⟩
end Go.Proofs.Ytkkaidliocadnaa
