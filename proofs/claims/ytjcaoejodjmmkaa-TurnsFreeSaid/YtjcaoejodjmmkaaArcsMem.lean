/- Rows of arcs: from, to, weight, and -1. -/
import Derived.Test.YtjcaoejodjmmkaaNext4
set_option linter.unusedVariables false
set_option linter.unusedSimpArgs false
namespace Go.Proofs.Ytjcaoejodjmmkaa
open Go.ChangeShapes Go.WideShapes Go.ChangeAt Go.RowKit
theorem infoArc : (Try.prog.info? 69).map (fun i => (i.zero, i.size, i.bytes)) = some (some (.agg #[.int .i64 0, .int .i64 0, .int .i64 0, .int .i64 0]), 4, 32) := by kernel_rfl
theorem info4 : ∃ i, Try.prog.info? 69 = some i ∧ i.zero = some (.agg #[.int .i64 0, .int .i64 0, .int .i64 0, .int .i64 0]) ∧ i.size = 4 ∧ i.bytes = 32 := info_parts infoArc
def flat4 (xs : List (Int × Int × Int)) : List Value := xs.flatMap fun x => [.int .i64 x.1, .int .i64 x.2.1, .int .i64 x.2.2, .int .i64 (-1)]
theorem flat4_len (xs : List (Int × Int × Int)) : (flat4 xs).length = xs.length * 4 := by
  induction xs with
  | nil => rfl
  | cons x r ih => simp only [flat4, List.flatMap_cons, List.length_append, List.length_cons, List.length_nil] at *; omega
theorem flat4_append (l k : List (Int × Int × Int)) : flat4 (l ++ k) = flat4 l ++ flat4 k := by simp [flat4]
theorem flat4_get : ∀ (xs : List (Int × Int × Int)) (i : Nat), i < xs.length → (flat4 xs)[i * 4]? = some (.int .i64 (xs.getD i (0, 0, 0)).1) ∧ (flat4 xs)[i * 4 + 1]? = some (.int .i64 (xs.getD i (0, 0, 0)).2.1) ∧ (flat4 xs)[i * 4 + 2]? = some (.int .i64 (xs.getD i (0, 0, 0)).2.2) ∧ (flat4 xs)[i * 4 + 3]? = some (.int .i64 (-1))
  | x :: l, 0, _ => ⟨rfl, rfl, rfl, rfl⟩
  | x :: l, i + 1, h => by
    have ih := flat4_get l i (by simpa using h)
    have e0 : flat4 (x :: l) = .int .i64 x.1 :: .int .i64 x.2.1 :: .int .i64 x.2.2 :: .int .i64 (-1) :: flat4 l := rfl
    have e : (i + 1) * 4 = (i * 4) + 1 + 1 + 1 + 1 := by omega
    rw [e0, e, show i * 4 + 1 + 1 + 1 + 1 + 1 = (i * 4 + 1) + 1 + 1 + 1 + 1 from rfl, show i * 4 + 1 + 1 + 1 + 1 + 2 = (i * 4 + 2) + 1 + 1 + 1 + 1 from rfl, show i * 4 + 1 + 1 + 1 + 1 + 3 = (i * 4 + 3) + 1 + 1 + 1 + 1 from rfl]
    simp only [List.getElem?_cons_succ, List.getD_cons_succ]
    exact ih
structure ReadsQ (w : World) (A : Option Addr) (n c : Nat) (xs : List (Int × Int × Int)) : Prop where
  len : xs.length = n
  small : n ≤ maxLen
  cell : 0 < n → ∃ b o, A = some ⟨b, o, none⟩ ∧ ∀ i, i < n → w.cell? ⟨b, o + i * 4, none⟩ = some (.int .i64 (xs.getD i (0, 0, 0)).1) ∧ w.cell? ⟨b, o + i * 4 + 1, none⟩ = some (.int .i64 (xs.getD i (0, 0, 0)).2.1) ∧ w.cell? ⟨b, o + i * 4 + 2, none⟩ = some (.int .i64 (xs.getD i (0, 0, 0)).2.2) ∧ w.cell? ⟨b, o + i * 4 + 3, none⟩ = some (.int .i64 (-1))
theorem ReadsQ.below {w w' : World} {A : Option Addr} {n c : Nat} {xs : List (Int × Int × Int)} (h : ReadsQ w A n c xs) (hb : Below w.heap.size w w') : ReadsQ w' A n c xs := by
  refine ⟨h.len, h.small, fun hn => ?_⟩
  obtain ⟨b, o, hA, hc⟩ := h.cell hn
  exact ⟨b, o, hA, fun i hi => ⟨cell_below (hc i hi).1 hb, cell_below (hc i hi).2.1 hb, cell_below (hc i hi).2.2.1 hb, cell_below (hc i hi).2.2.2 hb⟩⟩
theorem ReadsQ.of_row {w : World} {B : Nat} {e : TypeId} {A : Option Addr} {n c : Nat} {xs : List (Int × Int × Int)} (h : w.ownsRow B e 4 (.slice A n c) n (flat4 xs)) (hn : n ≤ maxLen) : ReadsQ w A n c xs := by
  have hl : xs.length = n := by have := h.1; rw [flat4_len] at this; omega
  refine ⟨hl, hn, fun h0 => ?_⟩
  rcases h.2 with ⟨_, h1⟩ | ⟨g, cc, _, h1, _⟩
  · omega
  · injection h1 with e1 e2 e3
    subst e1
    refine ⟨g, 0, rfl, fun i hi => ?_⟩
    have := flat4_get xs i (by omega)
    rw [Nat.zero_add, h.cellAt _ (by omega), h.cellAt _ (by omega), h.cellAt _ (by omega), h.cellAt _ (by omega)]
    exact this
/-- all turns: of each edge what may come behind, as heavy as that -/
def arcRow (es : List (Int × Int × Int)) (a : Nat) (l : List Int) : List (Int × Int × Int) := l.map fun b => (((a : Nat) : Int), b, (es.getD b.toNat (0, 0, 0)).2.2)
def arcsN (es : List (Int × Int × Int)) (bs : List (Int × Int)) (k : Nat) : List (Int × Int × Int) := (List.range k).flatMap fun a => arcRow es a (nextT es bs ((a : Nat) : Int))
def arcsT (es : List (Int × Int × Int)) (bs : List (Int × Int)) : List (Int × Int × Int) := arcsN es bs es.length
theorem arcsN_succ (es : List (Int × Int × Int)) (bs : List (Int × Int)) (k : Nat) : arcsN es bs (k + 1) = arcsN es bs k ++ arcRow es k (nextT es bs ((k : Nat) : Int)) := by unfold arcsN; rw [List.range_succ, List.flatMap_append]; simp
theorem arcsN_len (es : List (Int × Int × Int)) (bs : List (Int × Int)) : ∀ k, (arcsN es bs k).length ≤ k * es.length
  | 0 => by simp [arcsN]
  | k + 1 => by
    have ih := arcsN_len es bs k
    have h := nextT_len es bs ((k : Nat) : Int)
    rw [arcsN_succ, List.length_append]
    unfold arcRow
    rw [List.length_map, Nat.add_mul]; omega
theorem arcsN_small {es : List (Int × Int × Int)} (h : es.length ≤ 512) (bs : List (Int × Int)) {k : Nat} (hk : k ≤ 512) : (arcsN es bs k).length ≤ 262144 :=
  Nat.le_trans (arcsN_len es bs k) (Nat.le_trans (Nat.mul_le_mul hk h) (by omega))
theorem arcRow_snoc (es : List (Int × Int × Int)) (a : Nat) (l : List Int) (b : Int) : arcRow es a (l ++ [b]) = arcRow es a l ++ [(((a : Nat) : Int), b, (es.getD b.toNat (0, 0, 0)).2.2)] := by unfold arcRow; rw [List.map_append]; rfl
theorem take_snocI {xs : List Int} {j : Nat} (h : j < xs.length) : xs.take (j + 1) = xs.take j ++ [xs.getD j 0] := by
  rw [List.take_succ_eq_append_getElem h, List.getD_eq_getElem?_getD, List.getElem?_eq_getElem h]; rfl
theorem getD_mem {xs : List Int} {j : Nat} (h : j < xs.length) : xs.getD j 0 ∈ xs := by
  rw [List.getD_eq_getElem?_getD, List.getElem?_eq_getElem h]; exact List.getElem_mem h
theorem next_get {es : List (Int × Int × Int)} {bs : List (Int × Int)} {a : Int} {j : Nat} (h : j < (nextT es bs a).length) : ∃ q : Nat, (nextT es bs a).getD j 0 = (q : Int) ∧ q < es.length ∧ turnB es bs a (q : Int) = true := by
  have hm := nextT_mem.1 (getD_mem h)
  obtain ⟨i, q, _, hq, _, hlt⟩ := turnB_in hm
  exact ⟨q, hq, hlt, by rw [← hq]; exact hm⟩
theorem Grown.upd {w w' : World} {base : Nat} {e : TypeId} {size : Nat} {v v' : Value} {n : Nat} {xs : List Value} (h : Grown w w' base e size v v' n xs) : Upd (fun b => v.ownBlock = some b) w w' :=
  ⟨h.by_.os, h.by_.tape, h.by_.output, h.by_.size, fun k hk hn => h.by_.block k hk fun e => hn e.symm⟩
theorem Grown.off {w w' : World} {base : Nat} {e : TypeId} {size : Nat} {v v' : Value} {n : Nat} {xs : List Value} (h : Grown w w' base e size v v' n xs) {b : Nat} (hb : b < w.heap.size) (hv : v.ownBlock ≠ some b) : v'.ownBlock ≠ some b := by
  intro e1
  rcases h.lies with h1 | h1
  · rw [h1] at e1; exact hv e1
  · rw [h1] at e1; injection e1 with e1; omega
end Go.Proofs.Ytjcaoejodjmmkaa
