/- graph.may: whether nodes, edges and bans are a graph. -/
import Derived.Test.YtkdpfbefdhjmcaaOrder
import Derived.Test.YtkdpfbefdhjmcaaTownAt
set_option linter.unusedVariables false
set_option linter.unusedSimpArgs false
namespace Go.Proofs.Ytkdpfbefdhjmcaa
open Go.ChangeShapes Go.WideShapes Go.ChangeAt Go.RowKit
/-- a slice of triples of ints -/
structure ReadsT (w : World) (A : Option Addr) (n c : Nat) (xs : List (Int × Int × Int)) : Prop where
  len : xs.length = n
  small : n ≤ maxLen
  cell : 0 < n → ∃ b o, A = some ⟨b, o, none⟩ ∧ ∀ i, i < n → w.cell? ⟨b, o + i * 3, none⟩ = some (.int .i64 (xs.getD i (0, 0, 0)).1) ∧ w.cell? ⟨b, o + i * 3 + 1, none⟩ = some (.int .i64 (xs.getD i (0, 0, 0)).2.1) ∧ w.cell? ⟨b, o + i * 3 + 2, none⟩ = some (.int .i64 (xs.getD i (0, 0, 0)).2.2)
  wf : ∀ x ∈ xs, (Lit.int .i64 x.1).wf = true ∧ (Lit.int .i64 x.2.1).wf = true ∧ (Lit.int .i64 x.2.2).wf = true
theorem ReadsT.below {w w' : World} {A : Option Addr} {n c : Nat} {xs : List (Int × Int × Int)} (h : ReadsT w A n c xs) (hb : Below w.heap.size w w') : ReadsT w' A n c xs := by
  refine ⟨h.len, h.small, fun hn => ?_, h.wf⟩
  obtain ⟨b, o, hA, hc⟩ := h.cell hn
  exact ⟨b, o, hA, fun i hi => ⟨cell_below (hc i hi).1 hb, cell_below (hc i hi).2.1 hb, cell_below (hc i hi).2.2 hb⟩⟩
def inB (a n b : Int) : Bool := decide (a ≤ n) && decide (n ≤ b)
def nodeOk (x : Int × Int) : Bool := inB 0 x.1 4095 && inB 0 x.2 4095
def edgeOk (last : Int) (e : Int × Int × Int) : Bool := inB 0 e.1 last && inB 0 e.2.1 last && inB 1 e.2.2 65535
def banOk (es : List (Int × Int × Int)) (bs : List (Int × Int)) (i : Nat) : Bool :=
  inB 0 (bs.getD i (0, 0)).1 ((es.length : Int) - 1) && inB 0 (bs.getD i (0, 0)).2 ((es.length : Int) - 1) &&
  decide ((es.getD (bs.getD i (0, 0)).1.toNat (0, 0, 0)).2.1 = (es.getD (bs.getD i (0, 0)).2.toNat (0, 0, 0)).1) && (decide (i = 0) || decide (ordI (bs.getD (i - 1) (0, 0)) (bs.getD i (0, 0)) < 0))
def sizeOk (a b c : Nat) : Bool := inB 1 a 256 && decide (b ≤ 512) && decide (c ≤ 1024)
def mayB (ns : List (Int × Int)) (es : List (Int × Int × Int)) (bs : List (Int × Int)) : Bool :=
  sizeOk ns.length es.length bs.length && ns.all nodeOk && es.all (edgeOk ((ns.length : Int) - 1)) && (List.range bs.length).all (banOk es bs)
theorem within_is {n a b : Int} {r : Bool} (h : inB a n b = r) (w : World) : Calls Try.prog 65 #[.int .i64 n, .int .i64 a, .int .i64 b] w fun e w' => e = .returned (.bool r) ∧ w = w' := by
  rw [← h]; exact within_any n a b w
theorem all_false {α : Type} {p : α → Bool} {xs : List α} {i : Nat} {d : α} (hi : i < xs.length) (h : p (xs.getD i d) = false) : xs.all p = false := by
  rw [List.all_eq_false]
  refine ⟨xs[i], List.getElem_mem hi, ?_⟩
  rw [List.getD_eq_getElem?_getD, List.getElem?_eq_getElem hi] at h
  simpa using h
theorem all_true {α : Type} {p : α → Bool} {xs : List α} {d : α} (h : ∀ i, i < xs.length → p (xs.getD i d) = true) : xs.all p = true := by
  rw [List.all_eq_true]
  intro x hx
  obtain ⟨i, hi, rfl⟩ := List.getElem_of_mem hx
  have := h i hi
  rwa [List.getD_eq_getElem?_getD, List.getElem?_eq_getElem hi] at this
set_option maxRecDepth 100000 in
set_option maxHeartbeats 8000000 in
theorem may_size {A1 A2 A3 : Option Addr} {n1 c1 n2 c2 n3 c3 : Nat} {w : World} (s1 : n1 ≤ maxLen) (s2 : n2 ≤ maxLen) (s3 : n3 ≤ maxLen) (h : sizeOk n1 n2 n3 = false) :
    Calls Try.prog 42 #[.agg #[.slice A1 n1 c1, .slice A2 n2 c2, .slice A3 n3 c3]] w fun e w' => e = .returned (.bool false) ∧ Below w.heap.size w w' := by
  unfold maxLen at s1 s2 s3
  have g1 : n1 ≤ 9223372036854775807 := by omega
  have g2 : n2 ≤ 9223372036854775807 := by omega
  have g3 : n3 ≤ 9223372036854775807 := by omega
  clear s1 s2 s3
  unfold sizeOk at h
  cases h1 : inB 1 n1 256
  · clear h
    go_enter Try.func42, Try.ntmps42
    go_wp2_with fail
    refine (within_is h1 _).mono ?_
    rintro e w' ⟨rfl, rfl⟩
    go_wp2_with fail
    go_ret
    exact ⟨rfl, bl_alloc (Below.refl _ _) _⟩
  · rw [h1] at h
    by_cases h2 : n2 ≤ 512
    · have h3 : ¬ n3 ≤ 1024 := by simpa [h2] using h
      clear h
      go_enter Try.func42, Try.ntmps42
      go_wp2_with fail
      refine (within_is h1 _).mono ?_
      rintro e w' ⟨rfl, rfl⟩
      go_wp2_with fail
      go_ret
      exact ⟨rfl, bl_alloc (Below.refl _ _) _⟩
    · clear h
      go_enter Try.func42, Try.ntmps42
      go_wp2_with fail
      refine (within_is h1 _).mono ?_
      rintro e w' ⟨rfl, rfl⟩
      go_wp2_with fail
      go_ret
      exact ⟨rfl, bl_alloc (Below.refl _ _) _⟩
end Go.Proofs.Ytkdpfbefdhjmcaa
