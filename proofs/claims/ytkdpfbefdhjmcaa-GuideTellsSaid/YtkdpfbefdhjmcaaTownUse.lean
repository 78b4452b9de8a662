/- The town as its callers get it. -/
import Derived.Test.YtkdpfbefdhjmcaaTown
import Derived.Test.YtkdpfbefdhjmcaaTownGood
set_option linter.unusedVariables false
set_option linter.unusedSimpArgs false
namespace Go.Proofs.Ytkdpfbefdhjmcaa
open Go.ChangeShapes Go.WideShapes Go.ChangeAt Go.RowKit
theorem mayB_wf {ns bs : List (Int × Int)} {es : List (Int × Int × Int)} (h : mayB ns es bs = true) :
    (∀ x ∈ ns, (Lit.int .i64 x.1).wf = true ∧ (Lit.int .i64 x.2).wf = true) ∧ (∀ x ∈ es, (Lit.int .i64 x.1).wf = true ∧ (Lit.int .i64 x.2.1).wf = true ∧ (Lit.int .i64 x.2.2).wf = true) ∧ (∀ x ∈ bs, (Lit.int .i64 x.1).wf = true ∧ (Lit.int .i64 x.2).wf = true) := by
  obtain ⟨_, ⟨s1, s2, s3, s4⟩, _, _⟩ := mayB_parts h
  unfold mayB at h
  simp only [Bool.and_eq_true] at h
  obtain ⟨⟨⟨h1, h2⟩, h3⟩, h4⟩ := h
  refine ⟨fun x hx => ?_, fun x hx => ?_, fun x hx => ?_⟩
  · have := List.all_eq_true.1 h2 x hx
    unfold nodeOk inB at this
    simp only [Bool.and_eq_true, decide_eq_true_eq] at this
    exact ⟨wf_of (by omega) (by omega), wf_of (by omega) (by omega)⟩
  · have := List.all_eq_true.1 h3 x hx
    unfold edgeOk inB at this
    simp only [Bool.and_eq_true, decide_eq_true_eq] at this
    exact ⟨wf_of (by omega) (by omega), wf_of (by omega) (by omega), wf_of (by omega) (by omega)⟩
  · obtain ⟨i, hi, rfl⟩ := List.getElem_of_mem hx
    have := List.all_eq_true.1 h4 i (List.mem_range.2 hi)
    have e : bs.getD i (0, 0) = bs[i] := by rw [List.getD_eq_getElem?_getD, List.getElem?_eq_getElem hi]; rfl
    unfold banOk at this
    rw [e] at this
    unfold inB at this
    simp only [Bool.and_eq_true, decide_eq_true_eq] at this
    obtain ⟨⟨⟨⟨a1, a2⟩, a3, a4⟩, _⟩, _⟩ := this
    exact ⟨wf_of (by omega) (by omega), wf_of (by omega) (by omega)⟩
theorem own_lt2 {w : World} {B b o : Nat} {e : TypeId} {size n m c : Nat} {xs : List Value} (h : w.ownsRow B e size (.slice (some ⟨b, o, none⟩) n c) m xs) : B ≤ b ∧ b < w.heap.size := by
  rcases h.2 with ⟨h0, _⟩ | ⟨g, c, cur, e, hb, hg, _⟩
  · cases h0
  · injection e with e1 _ _
    injection e1 with e1
    injection e1 with e1 _ _
    subst e1
    refine ⟨hb, ?_⟩
    rcases Nat.lt_or_ge b w.heap.size with h1 | h1
    · exact h1
    · rw [Array.getElem?_eq_none h1] at hg; cases hg
/-- a town in memory: three slices that the call has made -/
structure TownR (w w1 : World) (A1 A2 A3 : Option Addr) (c1 c2 c3 : Nat) (ns : List (Int × Int)) (es : List (Int × Int × Int)) (bs : List (Int × Int)) : Prop where
  rN : ReadsP w1 A1 ns.length c1 ns
  rE : ReadsT w1 A2 es.length c2 es
  rB : ReadsP w1 A3 bs.length c3 bs
  nw : ∀ b o, A1 = some ⟨b, o, none⟩ ∨ A2 = some ⟨b, o, none⟩ ∨ A3 = some ⟨b, o, none⟩ → w.heap.size ≤ b ∧ b < w1.heap.size
  below : Below w.heap.size w w1
theorem town_call {A : Option Addr} {n c : Nat} {xs : List Int} {w : World} (h : ReadsI w A n c xs) :
    Calls Try.prog 53 #[.slice A n c] w fun e w' => ∃ A1 A2 A3 c1 c2 c3, e = .returned (.agg #[.slice A1 (townN xs).length c1, .slice A2 (townE xs).length c2, .slice A3 (townB xs).length c3]) ∧ TownR w w' A1 A2 A3 c1 c2 c3 (townN xs) (townE xs) (townB xs) := by
  refine (town_any h).mono ?_
  rintro e w1 ⟨sN, sE, sB, wr, rfl, hT, hu⟩
  have hm := town_good xs
  obtain ⟨w1', w2', w3'⟩ := mayB_wf hm
  obtain ⟨_, ⟨s1, s2, s3, s4⟩, _, _⟩ := mayB_parts hm
  obtain ⟨A1, c1, rfl, _⟩ := own_val hT.oN
  obtain ⟨A2, c2, rfl, _⟩ := own_val hT.oE
  obtain ⟨A3, c3, rfl, _⟩ := own_val hT.oB
  have hz := hu.size
  have own : ∀ {e : TypeId} {s n c : Nat} {A : Option Addr} {vs : List Value}, wr.ownsRow (w.heap.size + 2) e s (.slice A n c) n vs → ∀ b o, A = some ⟨b, o, none⟩ → w.heap.size + 2 ≤ b ∧ b < wr.heap.size := by
    intro e s n c A vs hr b o e2
    subst e2
    exact own_lt2 hr
  refine ⟨A1, A2, A3, c1, c2, c3, rfl, ?_, ?_, ?_, ?_, ?_⟩
  · exact (ReadsP.of_row hT.oN (by unfold maxLen; omega) w1').upd hu fun b o e h => by have := own hT.oN b o e; omega
  · exact (ReadsT.of_row hT.oE (by unfold maxLen; omega) w2').upd hu fun b o e h => by have := own hT.oE b o e; omega
  · exact (ReadsP.of_row hT.oB (by unfold maxLen; omega) w3').upd hu fun b o e h => by have := own hT.oB b o e; omega
  · rintro b o (e | e | e)
    · have := own hT.oN b o e; omega
    · have := own hT.oE b o e; omega
    · have := own hT.oB b o e; omega
  · exact hT.below.trans (hu.below hT.below.size fun k hk e => by omega)
end Go.Proofs.Ytkdpfbefdhjmcaa
