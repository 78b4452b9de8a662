/- The town as one who changes it gets it: its rows are the call's own, and may be written. -/
import Derived.Test.YtjcaoejodjmmkaaTownUse
set_option linter.unusedVariables false
set_option linter.unusedSimpArgs false
namespace Go.Proofs.Ytjcaoejodjmmkaa
open Go.ChangeShapes Go.WideShapes Go.ChangeAt Go.RowKit
theorem own_free {w : World} {B b o : Nat} {e : TypeId} {size n m c : Nat} {xs : List Value} (h : w.ownsRow B e size (.slice (some ⟨b, o, none⟩) n c) m xs) : ∀ j, w.frozen? ⟨b, j, none⟩ = false := by
  rcases h.2 with ⟨h0, _⟩ | ⟨g, cc, cur, e, hb, hg, _⟩
  · cases h0
  · injection e with e1 _ _
    injection e1 with e1
    injection e1 with e1 _ _
    subst e1
    intro j
    simp [World.frozen?, hg]
theorem town_free {A : Option Addr} {n c : Nat} {xs : List Int} {w : World} (h : ReadsI w A n c xs) :
    Calls Try.prog 13 #[.slice A n c] w fun e w' => ∃ A1 A2 A3 c1 c2 c3, e = .returned (.agg #[.slice A1 (townN xs).length c1, .slice A2 (townE xs).length c2, .slice A3 (townB xs).length c3]) ∧ TownR w w' A1 A2 A3 c1 c2 c3 (townN xs) (townE xs) (townB xs) ∧
      ∀ b o, A1 = some ⟨b, o, none⟩ ∨ A2 = some ⟨b, o, none⟩ ∨ A3 = some ⟨b, o, none⟩ → (∀ j, w'.frozen? ⟨b, j, none⟩ = false) ∧ ∀ b' o', A1 = some ⟨b, o, none⟩ → A2 = some ⟨b', o', none⟩ → b ≠ b' := by
  refine (town_any h).mono ?_
  rintro e w1 ⟨sN, sE, sB, wr, rfl, hT, hu⟩
  have hm := town_good xs
  obtain ⟨w1', w2', w3'⟩ := mayB_wf hm
  obtain ⟨_, ⟨s1, s2, s3, s4⟩, _, _⟩ := mayB_parts hm
  obtain ⟨A1, c1, rfl, _⟩ := own_val hT.oN
  obtain ⟨A2, c2, rfl, _⟩ := own_val hT.oE
  obtain ⟨A3, c3, rfl, _⟩ := own_val hT.oB
  have hz := hu.size
  have own : ∀ {e : TypeId} {s n c : Nat} {A : Option Addr} {vs : List Value}, wr.ownsRow (w.heap.size + 2) e s (.slice A n c) n vs → ∀ b o, A = some ⟨b, o, none⟩ → w.heap.size + 2 ≤ b ∧ b < wr.heap.size := by
    intro e s n c A vs hr b o e2
    subst e2
    exact own_lt2 hr
  have fre : ∀ {e : TypeId} {s n c : Nat} {A : Option Addr} {vs : List Value}, wr.ownsRow (w.heap.size + 2) e s (.slice A n c) n vs → ∀ b o, A = some ⟨b, o, none⟩ → ∀ j, w1.frozen? ⟨b, j, none⟩ = false := by
    intro e s n c A vs hr b o e2 j
    have hl := own hr b o e2
    subst e2
    exact (World.frozen?_of_block (a := ⟨b, j, none⟩) (hu.block b hl.2 (fun e => by omega))).trans (own_free hr j)
  refine ⟨A1, A2, A3, c1, c2, c3, rfl, ⟨?_, ?_, ?_, ?_, ?_⟩, ?_⟩
  · exact (ReadsP.of_row hT.oN (by unfold maxLen; omega) w1').upd hu fun b o e h => by have := own hT.oN b o e; omega
  · exact (ReadsT.of_row hT.oE (by unfold maxLen; omega) w2').upd hu fun b o e h => by have := own hT.oE b o e; omega
  · exact (ReadsP.of_row hT.oB (by unfold maxLen; omega) w3').upd hu fun b o e h => by have := own hT.oB b o e; omega
  · rintro b o (e | e | e)
    · have := own hT.oN b o e; omega
    · have := own hT.oE b o e; omega
    · have := own hT.oB b o e; omega
  · exact hT.below.trans (hu.below hT.below.size fun k hk e => by omega)
  · have hne : ∀ b o b' o', A1 = some ⟨b, o, none⟩ → A2 = some ⟨b', o', none⟩ → b ≠ b' := by
      intro b o b' o' e1 e2 e3
      subst e1 e2 e3
      rcases hT.oN.2 with ⟨h0, _⟩ | ⟨g, cc, cur, e, _, hg, _⟩
      · cases h0
      · rcases hT.oE.2 with ⟨h0, _⟩ | ⟨g', cc', cur', e', _, hg', _⟩
        · cases h0
        · injection e with e1 _ _
          injection e1 with e1
          injection e1 with e1 _ _
          injection e' with e2 _ _
          injection e2 with e2
          injection e2 with e2 _ _
          rw [← e1] at hg
          rw [← e2, hg] at hg'
          simp at hg'
    rintro b o (e | e | e)
    · exact ⟨fre hT.oN b o e, fun b' o' => hne b o b' o'⟩
    · exact ⟨fre hT.oE b o e, fun b' o' => hne b o b' o'⟩
    · exact ⟨fre hT.oB b o e, fun b' o' => hne b o b' o'⟩
end Go.Proofs.Ytjcaoejodjmmkaa
