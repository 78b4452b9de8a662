/- The two tables of rows that turns.New fills. -/
import Derived.Test.YtkdpfbefdhjmcaaTurnsPure
import Derived.Test.YtkdpfbefdhjmcaaAppend
import Derived.Test.YtkdpfbefdhjmcaaOutUse
set_option linter.unusedVariables false
set_option linter.unusedSimpArgs false
namespace Go.Proofs.Ytkdpfbefdhjmcaa
open Go.ChangeShapes Go.WideShapes Go.ChangeAt Go.RowKit
/-- two tables of m rows of ints each; no two rows lie in one block -/
structure TR (w : World) (B m : Nat) (tb : Bool → Nat) (R : Bool → Nat → Value) (L : Bool → Nat → List Int) : Prop where
  tab : ∀ s, ∃ cs : Array Value, w.heap[tb s]? = some (.cells cs 71) ∧ cs.size = m ∧ ∀ i, i < m → cs[i]? = some (R s i)
  tbB : ∀ s, B ≤ tb s
  tne : tb true ≠ tb false
  row : ∀ s i, i < m → w.ownsRow B 3 1 (R s i) (L s i).length (flatI (L s i))
  nott : ∀ s i b, i < m → (R s i).ownBlock = some b → ∀ s', b ≠ tb s'
  apart : ∀ s i s' i', i < m → i' < m → ∀ b, (R s i).ownBlock = some b → (R s' i').ownBlock = some b → s = s' ∧ i = i'
theorem TR.lt {w : World} {B m : Nat} {tb : Bool → Nat} {R : Bool → Nat → Value} {L : Bool → Nat → List Int} (h : TR w B m tb R L) (s : Bool) : tb s < w.heap.size := by
  obtain ⟨cs, h1, _⟩ := h.tab s
  rcases Nat.lt_or_ge (tb s) w.heap.size with h2 | h2
  · exact h2
  · rw [Array.getElem?_eq_none h2] at h1; cases h1
theorem TR.cell {w : World} {B m : Nat} {tb : Bool → Nat} {R : Bool → Nat → Value} {L : Bool → Nat → List Int} (h : TR w B m tb R L) (s : Bool) {i : Nat} (hi : i < m) : w.cell? ⟨tb s, i, none⟩ = some (R s i) := by
  obtain ⟨cs, h1, _, h3⟩ := h.tab s
  exact block_cell h1 (h3 i hi)
theorem TR.fr {w : World} {B m : Nat} {tb : Bool → Nat} {R : Bool → Nat → Value} {L : Bool → Nat → List Int} (h : TR w B m tb R L) (s : Bool) (i : Nat) : w.frozen? ⟨tb s, i, none⟩ = false := by
  obtain ⟨cs, h1, _, h3⟩ := h.tab s
  exact block_fr h1 i
theorem TR.upd {F : Nat → Prop} {w w' : World} {B m : Nat} {tb : Bool → Nat} {R : Bool → Nat → Value} {L : Bool → Nat → List Int} (h : TR w B m tb R L) (hu : Upd F w w') (hF : ∀ b, B ≤ b → ¬ F b) : TR w' B m tb R L := by
  refine ⟨fun s => ?_, h.tbB, h.tne, fun s i hi => ?_, h.nott, h.apart⟩
  · obtain ⟨cs, h1, h2⟩ := h.tab s
    exact ⟨cs, by rw [hu.block _ (h.lt s) (hF _ (h.tbB s))]; exact h1, h2⟩
  · exact own_upd (h.row s i hi) hu fun b e => hF b ((World.ownsRow.lt (h.row s i hi) b e).1)
theorem TR.below {w w' : World} {B m : Nat} {tb : Bool → Nat} {R : Bool → Nat → Value} {L : Bool → Nat → List Int} (h : TR w B m tb R L) (hb : Below w.heap.size w w') : TR w' B m tb R L := h.upd (F := fun _ => False) (Upd.of_below hb) fun _ _ => id
theorem ownBlock_lt {w : World} {B : Nat} {e : TypeId} {s n : Nat} {v : Value} {xs : List Value} (h : w.ownsRow B e s v n xs) {b : Nat} (e1 : v.ownBlock = some b) : b < w.heap.size := (World.ownsRow.lt h b e1).2
/-- one number more at the end of one row: what the append leaves, and then the store into the table -/
theorem TR.push {w w1 : World} {B m : Nat} {tb : Bool → Nat} {R : Bool → Nat → Value} {L : Bool → Nat → List Int} (h : TR w B m tb R L) (s : Bool) {i : Nat} (hi : i < m) {v' : Value} {x : Int}
    (hg : Grown w w1 B 3 1 (R s i) v' ((L s i).length + 1) (flatI (L s i) ++ [.int .i64 x])) :
    TR (w1.setCell ⟨tb s, i, none⟩ v') B m tb (fun s' i' => if s' = s ∧ i' = i then v' else R s' i') (pushL L s i x) ∧ Upd (fun b => b = tb s ∨ (R s i).ownBlock = some b) w (w1.setCell ⟨tb s, i, none⟩ v') := by
  have hlt := h.lt
  have hsz : w.heap.size ≤ w1.heap.size := hg.by_.size
  have u1 : Upd (fun b => (R s i).ownBlock = some b) w w1 := ⟨hg.by_.os, hg.by_.tape, hg.by_.output, hg.by_.size, fun k hk hn => hg.by_.block k hk fun e => hn e.symm⟩
  have u2 : Upd (fun b => b = tb s) w1 (w1.setCell ⟨tb s, i, none⟩ v') := upd_setCell (F := fun b => b = tb s) (a := ⟨tb s, i, none⟩) (Upd.refl _ _) rfl v'
  have nb : ∀ b, v'.ownBlock = some b → ∀ s', b ≠ tb s' := by
    intro b e s'
    rcases hg.lies with h1 | h1
    · rw [h1] at e; exact h.nott s i b hi e s'
    · rw [h1] at e; injection e with e; have := hlt s'; omega
  have oldR : ∀ s' i', i' < m → ¬ (s' = s ∧ i' = i) → ∀ b, (R s' i').ownBlock = some b → v'.ownBlock ≠ some b := by
    intro s' i' hi' hne b e e2
    rcases hg.lies with h1 | h1
    · rw [h1] at e2; exact hne (h.apart s' i' s i hi' hi b e e2)
    · rw [h1] at e2; injection e2 with e2; have := ownBlock_lt (h.row s' i' hi') e; omega
  refine ⟨⟨fun s' => ?_, h.tbB, h.tne, fun s' i' hi' => ?_, fun s' i' b hi' e => ?_, fun s1 i1 s2 i2 h1 h2 b e1 e2 => ?_⟩, ?_⟩
  · obtain ⟨cs, c1, c2, c3⟩ := h.tab s'
    have c1' : w1.heap[tb s']? = some (.cells cs 71) := by rw [u1.block _ (hlt s') (fun e => h.nott s i _ hi e s' rfl)]; exact c1
    by_cases hs : s' = s
    · subst hs
      refine ⟨cs.setIfInBounds i v', block_set c1' i v', by simpa using c2, fun j hj => ?_⟩
      by_cases hji : j = i
      · subst hji; simp [c2, hj]
      · have := c3 j hj
        simp only [hji, and_false, if_false]
        rw [Array.getElem?_setIfInBounds_ne (by omega)]; exact this
    · refine ⟨cs, ?_, c2, fun j hj => ?_⟩
      · rw [heap_setCell_ne (by show tb s ≠ tb s'; cases s <;> cases s' <;> simp at hs ⊢ <;> first | exact h.tne | exact h.tne.symm)]; exact c1'
      · simp only [hs, false_and, if_false]; exact c3 j hj
  · by_cases hc : s' = s ∧ i' = i
    · obtain ⟨rfl, rfl⟩ := hc
      have hr := own_upd hg.row u2 (fun b e => nb b e s')
      have e1 : pushL L s' i' x s' i' = L s' i' ++ [x] := by unfold pushL; simp
      rw [e1, flatI_append]
      simp only [and_self, if_true, List.length_append, List.length_cons, List.length_nil]
      exact hr
    · have e1 : pushL L s i x s' i' = L s' i' := by unfold pushL; rw [if_neg hc]
      rw [e1]
      simp only [hc, if_false]
      refine own_upd (own_upd (h.row s' i' hi') u1 fun b e e2 => ?_) u2 fun b e => h.nott s' i' b hi' e s
      exact hc (h.apart s' i' s i hi' hi b e e2)
  · by_cases hc : s' = s ∧ i' = i
    · simp only [hc, and_self, if_true] at e; exact nb b e
    · simp only [hc, if_false] at e; exact h.nott s' i' b hi' e
  · by_cases ha : s1 = s ∧ i1 = i
    · by_cases hb : s2 = s ∧ i2 = i
      · exact ⟨ha.1.trans hb.1.symm, ha.2.trans hb.2.symm⟩
      · simp only [ha, and_self, if_true] at e1
        simp only [hb, if_false] at e2
        exact absurd e1 (oldR s2 i2 h2 hb b e2)
    · by_cases hb : s2 = s ∧ i2 = i
      · simp only [ha, if_false] at e1
        simp only [hb, and_self, if_true] at e2
        exact absurd e2 (oldR s1 i1 h1 ha b e1)
      · simp only [ha, if_false] at e1
        simp only [hb, if_false] at e2
        exact h.apart s1 i1 s2 i2 h1 h2 b e1 e2
  · refine Upd.trans (G := fun b => b = tb s) (u1.mono fun k hk e => .inr e) (u2.mono fun k hk e => e) (fun k hk e => .inl e)
theorem infoRow : (Try.prog.info? 71).map (fun i => (i.zero, i.size, i.bytes)) = some (some (.slice none 0 0), 1, 24) := by kernel_rfl
theorem made_get (m i : Nat) (h : i < m) : (madeCells #[.slice none 0 0] m)[i]? = some (.slice none 0 0) := by
  simp [madeCells, h, Nat.mod_one]
theorem TR.start {w : World} {B m : Nat} {tb : Bool → Nat} (h : ∀ s, w.heap[tb s]? = some (.cells (madeCells #[.slice none 0 0] m) 71)) (hB : ∀ s, B ≤ tb s) (hne : tb true ≠ tb false) :
    TR w B m tb (fun _ _ => .slice none 0 0) (fun _ _ => []) :=
  ⟨fun s => ⟨_, h s, by simp [madeCells], fun i hi => made_get m i hi⟩, hB, hne, fun s i hi => World.ownsRow_nil _ _ _ _, fun s i b hi e => by simp [Value.ownBlock] at e, fun s i s' i' h1 h2 b e => by simp [Value.ownBlock] at e⟩
/-- a block that is neither a table nor a row -/
def Off (tb : Bool → Nat) (R : Bool → Nat → Value) (m b : Nat) : Prop := (∀ s, b ≠ tb s) ∧ ∀ s i, i < m → (R s i).ownBlock ≠ some b
theorem Off.push {w w1 : World} {base n : Nat} {e : TypeId} {sz : Nat} {v v' : Value} {xs : List Value} {tb : Bool → Nat} {R : Bool → Nat → Value} {m b : Nat} (h : Off tb R m b) (hb : b < w.heap.size) {s : Bool} {i : Nat} (hi : i < m) (hv : v = R s i) (hg : Grown w w1 base e sz v v' n xs) :
    Off tb (fun s' i' => if s' = s ∧ i' = i then v' else R s' i') m b := by
  refine ⟨h.1, fun s' i' hi' => ?_⟩
  by_cases hc : s' = s ∧ i' = i
  · simp only [hc, and_self, if_true]
    intro e1
    rcases hg.lies with h1 | h1
    · rw [h1, hv] at e1; exact h.2 s i hi e1
    · rw [h1] at e1; injection e1 with e1; omega
  · simp only [hc, if_false]; exact h.2 s' i' hi'
/-- a graph's turns in memory -/
structure TurnsIs (w : World) (B E t p : Nat) (tb : Bool → Nat) (R : Bool → Nat → Value) (ns : List (Int × Int)) (es : List (Int × Int × Int)) (bs : List (Int × Int)) : Prop where
  g : GraphAt w B E p ns es bs
  tB : B ≤ t
  tE : t < E
  ht : w.heap[t]? = some (.cells #[.pointer (some ⟨p, 0, none⟩), .slice (some ⟨tb true, 0, none⟩) es.length es.length, .slice (some ⟨tb false, 0, none⟩) es.length es.length] 120)
  top : E ≤ w.heap.size
  tr : TR w B es.length tb R (fun s i => if s = true then nextT es bs ((i : Nat) : Int) else prevT es bs ((i : Nat) : Int))
  tbE : ∀ s, tb s < E
  rE : ∀ s i b, i < es.length → (R s i).ownBlock = some b → b < E
def TurnsAt (w : World) (B E t p : Nat) (ns : List (Int × Int)) (es : List (Int × Int × Int)) (bs : List (Int × Int)) : Prop := ∃ tb R, TurnsIs w B E t p tb R ns es bs
theorem TurnsIs.upd {F : Nat → Prop} {w w' : World} {B E t p : Nat} {tb : Bool → Nat} {R : Bool → Nat → Value} {ns bs : List (Int × Int)} {es : List (Int × Int × Int)} (h : TurnsIs w B E t p tb R ns es bs) (hu : Upd F w w') (hF : ∀ b, B ≤ b → b < E → ¬ F b) : TurnsIs w' B E t p tb R ns es bs := by
  refine ⟨h.g.upd hu hF, h.tB, h.tE, (hu.block t (Nat.lt_of_lt_of_le h.tE h.top) (hF t h.tB h.tE)).trans h.ht, Nat.le_trans h.top hu.size, ⟨fun s => ?_, h.tr.tbB, h.tr.tne, fun s i hi => ?_, h.tr.nott, h.tr.apart⟩, h.tbE, h.rE⟩
  · obtain ⟨cs, h1, h2⟩ := h.tr.tab s
    exact ⟨cs, by rw [hu.block _ (h.tr.lt s) (hF _ (h.tr.tbB s) (h.tbE s))]; exact h1, h2⟩
  · exact own_upd (h.tr.row s i hi) hu fun b e => hF b (World.ownsRow.lt (h.tr.row s i hi) b e).1 (h.rE s i b hi e)
theorem TurnsAt.upd {F : Nat → Prop} {w w' : World} {B E t p : Nat} {ns bs : List (Int × Int)} {es : List (Int × Int × Int)} (h : TurnsAt w B E t p ns es bs) (hu : Upd F w w') (hF : ∀ b, B ≤ b → b < E → ¬ F b) : TurnsAt w' B E t p ns es bs := by
  obtain ⟨tb, R, h⟩ := h; exact ⟨tb, R, h.upd hu hF⟩
theorem TurnsAt.below {w w' : World} {B E t p : Nat} {ns bs : List (Int × Int)} {es : List (Int × Int × Int)} (h : TurnsAt w B E t p ns es bs) (hb : Below w.heap.size w w') : TurnsAt w' B E t p ns es bs := h.upd (F := fun _ => False) (Upd.of_below hb) fun _ _ _ => id
theorem GraphAt.wide {w : World} {B E E' p : Nat} {ns bs : List (Int × Int)} {es : List (Int × Int × Int)} (h : GraphAt w B E p ns es bs) (h1 : E ≤ E') (h2 : E' ≤ w.heap.size) : GraphAt w B E' p ns es bs := by
  obtain ⟨d, h⟩ := h
  exact ⟨d, h.ok, h2, h.pB, Nat.lt_of_lt_of_le h.pE h1, h.hp, h.rN, h.rE, h.rB, fun b o e => ⟨(h.nA b o e).1, Nat.lt_of_lt_of_le (h.nA b o e).2 h1⟩, fun b e => ⟨(h.nR b e).1, Nat.lt_of_lt_of_le (h.nR b e).2 h1⟩, h.iO, h.iI, h.iF, h.iT, h.sO, h.sI⟩
theorem GraphAt.bd {w : World} {B E p : Nat} {ns bs : List (Int × Int)} {es : List (Int × Int × Int)} (h : GraphAt w B E p ns es bs) : mayB ns es bs = true ∧ B ≤ p ∧ p < E ∧ E ≤ w.heap.size := by
  obtain ⟨d, h⟩ := h; exact ⟨h.ok, h.pB, h.pE, h.top⟩
theorem TR.base {w : World} {B B' m : Nat} {tb : Bool → Nat} {R : Bool → Nat → Value} {L : Bool → Nat → List Int} (h : TR w B m tb R L) (hB : B' ≤ B) : TR w B' m tb R L :=
  ⟨h.tab, fun s => Nat.le_trans hB (h.tbB s), h.tne, fun s i hi => ⟨(h.row s i hi).1, (h.row s i hi).2.imp id fun ⟨g, c, cur, e, hb, r⟩ => ⟨g, c, cur, e, Nat.le_trans hB hb, r⟩⟩, h.nott, h.apart⟩
end Go.Proofs.Ytkdpfbefdhjmcaa
