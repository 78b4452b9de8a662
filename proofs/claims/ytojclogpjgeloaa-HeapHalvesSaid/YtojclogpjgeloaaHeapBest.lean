/- What was pushed fixes the sorted list: its least keys. -/
import Derived.Test.YtojclogpjgeloaaHeapMore
set_option linter.unusedVariables false
set_option linter.unusedSimpArgs false
namespace Go.Proofs.Ytojclogpjgeloaa
open Go.RowKit Go.Maps Go.ChangeMaps Go.MapKept HeapP DistP
theorem sorted_ext : ∀ {S T : List It}, Sorted S → Sorted T → (∀ y, y ∈ S ↔ y ∈ T) → S = T
  | [], [], _, _, _ => rfl
  | [], y :: T, _, _, h => absurd ((h y).2 (List.mem_cons_self ..)) (by simp)
  | x :: S, [], _, _, h => absurd ((h x).1 (List.mem_cons_self ..)) (by simp)
  | x :: S, y :: T, hS, hT, h => by
    have hS' := List.pairwise_cons.1 hS
    have hT' := List.pairwise_cons.1 hT
    have hxy : x = y := by
      rcases List.mem_cons.1 ((h x).1 (List.mem_cons_self ..)) with e | hx
      · exact e
      · rcases List.mem_cons.1 ((h y).2 (List.mem_cons_self ..)) with e | hy
        · exact e.symm
        · exact absurd (hS'.1 _ hy) (ahead_asymm (hT'.1 _ hx))
    subst hxy
    rw [sorted_ext hS'.2 hT'.2 fun z => ?_]
    constructor
    · intro hz
      rcases List.mem_cons.1 ((h z).1 (List.mem_cons_of_mem _ hz)) with rfl | hz'
      · exact absurd (hS'.1 _ hz) (ahead_irrefl _)
      · exact hz'
    · intro hz
      rcases List.mem_cons.1 ((h z).2 (List.mem_cons_of_mem _ hz)) with rfl | hz'
      · exact absurd (hT'.1 _ hz) (ahead_irrefl _)
      · exact hz'
structure Best (S : List It) (M : It → Prop) : Prop where
  sound : ∀ y ∈ S, M y
  dom : ∀ y, M y → ∃ k, ((y.1, k) : It) ∈ S ∧ k ≤ y.2
theorem best_nil : Best [] fun _ => False := ⟨by simp, fun y h => h.elim⟩
theorem Best.congr {S : List It} {M M' : It → Prop} (h : Best S M) (e : ∀ y, M y ↔ M' y) : Best S M' := ⟨fun y hy => (e y).1 (h.sound y hy), fun y hy => h.dom y ((e y).2 hy)⟩
theorem best_push {S : List It} {M : It → Prop} (h : Best S M) (x : It) : Best (pushF S x) fun y => M y ∨ y = x := by
  cases hb : pushB S x with
  | false =>
    rw [pushF_not hb]
    refine ⟨fun y hy => .inl (h.sound y hy), ?_⟩
    rintro y (hy | rfl)
    · exact h.dom y hy
    · have : S.any (fun z => decide (z.1 = y.1) && decide (z.2 ≤ y.2)) = true := by unfold pushB at hb; simpa using hb
      obtain ⟨z, hz, hc⟩ := List.any_eq_true.1 this
      simp only [Bool.and_eq_true, decide_eq_true_eq] at hc
      exact ⟨z.2, by rw [← hc.1]; exact hz, hc.2⟩
  | true =>
    have hn : S.any (fun z => decide (z.1 = x.1) && decide (z.2 ≤ x.2)) = false := by unfold pushB at hb; simpa using hb
    rw [List.any_eq_false] at hn
    refine ⟨fun y hy => ?_, ?_⟩
    · rcases (pushF_mem hb).1 hy with e | ⟨hy, _⟩
      · exact .inr e
      · exact .inl (h.sound y hy)
    · rintro y (hy | rfl)
      · obtain ⟨k, hk, hle⟩ := h.dom y hy
        by_cases he : y.1 = x.1
        · refine ⟨x.2, (pushF_mem hb).2 (.inl (by rw [he])), ?_⟩
          have := hn _ hk
          simp only [he, decide_true, Bool.true_and, decide_eq_true_eq] at this
          omega
        · exact ⟨k, (pushF_mem hb).2 (.inr ⟨hk, he⟩), hle⟩
      · exact ⟨y.2, (pushF_mem hb).2 (.inl rfl), Int.le_refl _⟩
theorem best_sub {S T : List It} {M M' : It → Prop} (hS : Best S M) (hT : Best T M') (hu : Uniq S) (h : ∀ y, M y ↔ M' y) : ∀ y ∈ S, y ∈ T := by
  intro y hy
  obtain ⟨k, hk, hle⟩ := hT.dom y ((h y).1 (hS.sound y hy))
  obtain ⟨k2, hk2, hle2⟩ := hS.dom _ ((h _).2 (hT.sound _ hk))
  have e := hu _ hk2 y hy rfl
  have : k = y.2 := by have e2 : k2 = y.2 := by rw [← e]
                       simp only at hle2; omega
  subst this
  exact hk
theorem best_eq {S T : List It} {M M' : It → Prop} (hS : Best S M) (hT : Best T M') (sS : Sorted S) (sT : Sorted T) (uS : Uniq S) (uT : Uniq T) (h : ∀ y, M y ↔ M' y) : S = T :=
  sorted_ext sS sT fun y => ⟨best_sub hS hT uS h y, best_sub hT hS uT (fun y => (h y).symm) y⟩
/-- pushing back what was popped last -/
theorem push_back {x : It} {S : List It} (hs : Sorted (x :: S)) (hu : Uniq (x :: S)) : pushB S x = true ∧ pushF S x = x :: S := by
  have hn := head_ids hs hu
  have hb : pushB S x = true := by
    unfold pushB
    rw [show S.any (fun y => decide (y.1 = x.1) && decide (y.2 ≤ x.2)) = false by rw [List.any_eq_false]; intro y hy; simp [hn y hy]]
    rfl
  refine ⟨hb, ?_⟩
  have : S.any (fun y => decide (y.1 = x.1) && decide (y.2 ≤ x.2)) = false := by unfold pushB at hb; simpa using hb
  have hp : Sorted (pushF S x) := by
    unfold pushF
    rw [this]
    simp only [Bool.false_eq_true, if_false]
    rw [filter_all hn]
    exact ins_sorted x S (List.pairwise_cons.1 hs).2 hn
  refine sorted_ext hp hs fun y => ?_
  rw [pushF_mem hb, List.mem_cons]
  constructor
  · rintro (e | ⟨h, _⟩)
    · exact .inl e
    · exact .inr h
  · rintro (e | h)
    · exact .inl e
    · exact .inr ⟨h, hn y h⟩
/-- the slice of pairs that is made of what is popped -/
structure OutAt (w : World) (B : Nat) (v : Value) (l : List It) : Prop where
  row : w.ownsRow 0 37 2 v l.length (flat l)
  form : (v = .slice none 0 0 ∧ l = []) ∨ ∃ lb cap, v = .slice (some ⟨lb, 0, none⟩) l.length cap ∧ B ≤ lb ∧ lb < w.heap.size
theorem OutAt.nil (w : World) (B : Nat) : OutAt w B (.slice none 0 0) [] := ⟨World.ownsRow_nil _ _ _ _, .inl ⟨rfl, rfl⟩⟩
theorem OutAt.upd {F : Nat → Prop} {w w' : World} {B : Nat} {v : Value} {l : List It} (h : OutAt w B v l) (hu : Upd F w w') (hF : ∀ b, v.ownBlock = some b → ¬ F b) : OutAt w' B v l := by
  have hrow := h.row
  rcases h.form with ⟨rfl, rfl⟩ | ⟨lb, cap, rfl, h1, h2⟩
  · exact OutAt.nil _ _
  · refine ⟨⟨hrow.1, ?_⟩, .inr ⟨lb, cap, rfl, h1, Nat.lt_of_lt_of_le h2 hu.size⟩⟩
    rcases hrow.2 with ⟨e, _⟩ | ⟨g, c, cur, e, r⟩
    · cases e
    · refine .inr ⟨g, c, cur, e, ?_⟩
      simp only [Value.slice.injEq, Option.some.injEq, Addr.mk.injEq, and_true] at e
      obtain ⟨rfl, _⟩ := e
      rw [hu.block _ h2 (hF _ rfl)]; exact r
theorem OutAt.ge {w : World} {B : Nat} {v : Value} {l : List It} (h : OutAt w B v l) {b : Nat} (e : v.ownBlock = some b) : B ≤ b ∧ b < w.heap.size := by
  rcases h.form with ⟨rfl, _⟩ | ⟨lb, cap, rfl, h1, h2⟩
  · simp [Value.ownBlock] at e
  · simp only [Value.ownBlock, Option.some.injEq] at e; omega
theorem OutAt.slice {w : World} {B : Nat} {v : Value} {l : List It} (h : OutAt w B v l) : ∃ A cap, v = .slice A l.length cap ∧ (0 < l.length → ∃ lb, A = some ⟨lb, 0, none⟩) := by
  rcases h.form with ⟨rfl, rfl⟩ | ⟨lb, cap, rfl, h1, h2⟩
  · exact ⟨none, 0, rfl, fun h => by simp at h⟩
  · exact ⟨_, _, rfl, fun _ => ⟨lb, rfl⟩⟩
theorem OutAt.more {w : World} {B lb cap : Nat} {l : List It} {x : It} (h : w.ownsRow 0 37 2 (.slice (some ⟨lb, 0, none⟩) (l.length + 1) cap) (l.length + 1) (flat l ++ [.int .i64 x.1, .int .i64 x.2])) (hB : B ≤ lb) : OutAt w B (.slice (some ⟨lb, 0, none⟩) (l.length + 1) cap) (l ++ [x]) := by
  have e1 : (l ++ [x]).length = l.length + 1 := by simp
  have e2 : flat (l ++ [x]) = flat l ++ [.int .i64 x.1, .int .i64 x.2] := flat_append l [x]
  refine ⟨by rw [e1, e2]; exact h, .inr ⟨lb, cap, by rw [e1], hB, ?_⟩⟩
  rcases h.2 with ⟨e, _⟩ | ⟨g, c, cur, e, _, h2, _⟩
  · cases e
  · simp only [Value.slice.injEq, Option.some.injEq, Addr.mk.injEq, and_true] at e
    obtain ⟨rfl, _⟩ := e
    exact (Array.getElem?_eq_some_iff.1 h2).1
theorem OutAt.c0 {w : World} {B : Nat} {lb cap : Nat} {l : List It} (h : OutAt w B (.slice (some ⟨lb, 0, none⟩) l.length cap) l) {i : Nat} (hi : i < l.length) : w.cell? ⟨lb, i * 2, none⟩ = some (.int .i64 (g l i).1) := by
  rw [h.row.cellAt (i * 2) (by omega), flat_get0 l i hi]
theorem OutAt.c1 {w : World} {B : Nat} {lb cap : Nat} {l : List It} (h : OutAt w B (.slice (some ⟨lb, 0, none⟩) l.length cap) l) {i : Nat} (hi : i < l.length) : w.cell? ⟨lb, i * 2 + 1, none⟩ = some (.int .i64 (g l i).2) := by
  rw [h.row.cellAt (i * 2 + 1) (by omega), flat_get1 l i hi]
end Go.Proofs.Ytojclogpjgeloaa
