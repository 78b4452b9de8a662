/- The least of all shortest ways, on lists alone. -/
import Derived.Test.YtjopiefojicblaaDistBase
set_option linter.unusedVariables false
set_option linter.unusedSimpArgs false
namespace Go.Proofs.Ytjopiefojicblaa
open Go.RowKit HeapP DistP
/-- n goes on from e on a shortest way -/
def fitB (es : Es) (cl : List Bool) (D : Nat → Int) (e n : Nat) : Bool := !shutB cl n && decide (0 ≤ D n) && decide (D n < D e) && decide (D n = D e - wN es n)
def stepN (es : Es) (bs : Bs) (cl : List Bool) (D : Nat → Int) (e : Nat) : Option Nat := (nextN es bs e).find? (fitB es cl D e)
theorem fitB_iff {es : Es} {cl : List Bool} {D : Nat → Int} {e n : Nat} : fitB es cl D e n = true ↔ shutB cl n = false ∧ 0 ≤ D n ∧ D n < D e ∧ D n = D e - wN es n := by
  unfold fitB; simp [and_assoc]
theorem step_parts {es : Es} {bs : Bs} {cl : List Bool} {D : Nat → Int} {e n : Nat} (h : stepN es bs cl D e = some n) : n < es.length ∧ turnB es bs ((e : Nat) : Int) ((n : Nat) : Int) = true ∧ shutB cl n = false ∧ 0 ≤ D n ∧ D n < D e ∧ D n = D e - wN es n := by
  unfold stepN at h
  have h1 := List.mem_of_find?_eq_some h
  have h2 := List.find?_some h
  obtain ⟨a, b⟩ := nextN_mem.1 h1
  obtain ⟨c, d, e', f⟩ := fitB_iff.1 h2
  exact ⟨a, b, c, d, e', f⟩
/-- the way that is left -/
def wayL (es : Es) (bs : Bs) (cl : List Bool) (D : Nat → Int) (e : Nat) : List Nat :=
  if 0 < D e then
    match h : stepN es bs cl D e with
    | none => []
    | some n => n :: wayL es bs cl D n
  else []
termination_by (D e).toNat
decreasing_by
  have := step_parts h
  omega
theorem way_more {es : Es} {bs : Bs} {cl : List Bool} {D : Nat → Int} {e n : Nat} (h0 : 0 < D e) (h : stepN es bs cl D e = some n) : wayL es bs cl D e = n :: wayL es bs cl D n := by
  rw [wayL, if_pos h0]
  split
  · rename_i h2; rw [h] at h2; cases h2
  · rename_i m h2; rw [h] at h2; cases h2; rfl
theorem way_end {es : Es} {bs : Bs} {cl : List Bool} {D : Nat → Int} {e : Nat} (h0 : ¬ 0 < D e) : wayL es bs cl D e = [] := by
  rw [wayL, if_neg h0]
/-- distances to a node: one step is always there -/
theorem step_some {ns bs : Bs} {es : Es} {cl : List Bool} {v : Int} {D : Nat → Int} (h : mayB ns es bs = true) (hD : IsD es.length (toSrc es v) (toSucc es bs cl) (toW es) D) {e : Nat} (he : e < es.length) (h0 : 0 < D e) : ∃ n, stepN es bs cl D e = some n := by
  have hs : ¬ toSrc es v e := fun hs => by have := hD.a e he hs; omega
  obtain ⟨y, hy, hm, hy0, e2⟩ := hD.b e he hs (by omega)
  obtain ⟨m1, _, m3⟩ := toSucc_mem.1 hm
  have hp : 1 ≤ wN es y := (wN_bd h y).2.2 hy
  have e3 : toW es y e = wN es y := rfl
  cases hst : stepN es bs cl D e with
  | some n => exact ⟨n, rfl⟩
  | none =>
    exfalso
    unfold stepN at hst
    have := List.find?_eq_none.1 hst y (nextN_mem.2 ⟨hy, m3⟩)
    exact this (fitB_iff.2 ⟨m1, hy0, by omega, by omega⟩)
/-- all that the way is -/
structure WayOk (es : Es) (bs : Bs) (cl : List Bool) (v : Int) (D : Nat → Int) (e : Nat) (l : List Nat) : Prop where
  lt : ∀ x ∈ l, x < es.length ∧ shutB cl x = false ∧ 0 ≤ D x ∧ D x < D e
  chain : chainB es bs (e : Int) (l.map fun i => ((i : Nat) : Int)) = true
  sum : sumW es (l.map fun i => ((i : Nat) : Int)) = D e
  last : ∃ z : Nat, lastI (e : Int) (l.map fun i => ((i : Nat) : Int)) = (z : Int) ∧ z < es.length ∧ toSrc es v z
  falls : l.Pairwise fun x y => D y < D x
theorem way_ok {ns bs : Bs} {es : Es} {cl : List Bool} {v : Int} {D : Nat → Int} (h : mayB ns es bs = true) (hD : IsD es.length (toSrc es v) (toSucc es bs cl) (toW es) D) (k : Nat) :
    ∀ e, e < es.length → 0 ≤ D e → D e ≤ (k : Int) → WayOk es bs cl v D e (wayL es bs cl D e) := by
  have base : ∀ e, e < es.length → D e = 0 → WayOk es bs cl v D e (wayL es bs cl D e) := by
    intro e he h0
    rw [way_end (by omega)]
    refine ⟨by simp, rfl, by simp [sumW, h0], ⟨e, rfl, he, ?_⟩, List.Pairwise.nil⟩
    by_cases hs : toSrc es v e
    · exact hs
    · exfalso
      obtain ⟨y, hy, hm, hy0, e2⟩ := hD.b e he hs (by omega)
      have : 1 ≤ toW es y e := (wN_bd h y).2.2 hy
      omega
  induction k with
  | zero => intro e he h0 h1; exact base e he (by omega)
  | succ k ih =>
    intro e he h0 h1
    by_cases hz : D e = 0
    · exact base e he hz
    · obtain ⟨n, hn⟩ := step_some h hD he (by omega)
      obtain ⟨p1, p2, p3, p4, p5, p6⟩ := step_parts hn
      rw [way_more (by omega) hn]
      have hw := ih n p1 p4 (by omega)
      refine ⟨?_, ?_, ?_, ?_, ?_⟩
      · intro x hx
        rcases List.mem_cons.1 hx with rfl | hx
        · exact ⟨p1, p3, p4, p5⟩
        · obtain ⟨q1, q2, q3, q4⟩ := hw.lt x hx
          exact ⟨q1, q2, q3, by omega⟩
      · show (turnB es bs (e : Int) (n : Int) && chainB es bs (n : Int) _) = true
        rw [p2, hw.chain]; rfl
      · show (es.getD ((n : Int)).toNat (0, 0, 0)).2.2 + sumW es _ = D e
        rw [hw.sum, Int.toNat_natCast]
        have : wN es n = (es.getD n (0, 0, 0)).2.2 := rfl
        omega
      · exact hw.last
      · refine List.pairwise_cons.2 ⟨fun y hy => (hw.lt y hy).2.2.2, hw.falls⟩
/-- each edge of it has the way's rest as its own way -/
theorem way_rest {es : Es} {bs : Bs} {cl : List Bool} {D : Nat → Int} (k : Nat) : ∀ {e i : Nat}, D e ≤ (k : Int) → i < (wayL es bs cl D e).length → (wayL es bs cl D e).drop (i + 1) = wayL es bs cl D ((wayL es bs cl D e).getD i 0) := by
  induction k with
  | zero =>
    intro e i h1 hi
    rw [way_end (by omega)] at hi
    simp at hi
  | succ k ih =>
    intro e i h1 hi
    by_cases h0 : 0 < D e
    · cases hn : stepN es bs cl D e with
      | none =>
        exfalso
        rw [wayL, if_pos h0] at hi
        split at hi
        · simp at hi
        · rename_i m h2; rw [hn] at h2; cases h2
      | some n =>
        obtain ⟨_, _, _, _, p5, _⟩ := step_parts hn
        rw [way_more h0 hn] at hi ⊢
        cases i with
        | zero => rfl
        | succ i =>
          have := ih (e := n) (i := i) (by omega) (by simpa using hi)
          simpa using this
    · rw [way_end h0] at hi
      simp at hi
/-- with nothing closed that is on it, the way stays as it is -/
theorem way_stays {ns bs : Bs} {es : Es} {c1 c2 : List Bool} {v : Int} {X Y : Nat → Int} (h : mayB ns es bs = true) (hc : ∀ e, shutB c1 e = true → shutB c2 e = true)
    (hX : IsD es.length (toSrc es v) (toSucc es bs c1) (toW es) X) (hY : IsD es.length (toSrc es v) (toSucc es bs c2) (toW es) Y) (k : Nat) :
    ∀ e, e < es.length → 0 ≤ X e → X e ≤ (k : Int) → (∀ x ∈ wayL es bs c1 X e, shutB c2 x = false) → Y e = X e ∧ wayL es bs c2 Y e = wayL es bs c1 X e := by
  have more := fun x (hx : x < es.length) (h0 : 0 ≤ Y x) => to_more h hc hX hY (Y x).toNat x hx h0 (by omega)
  have base : ∀ e, e < es.length → X e = 0 → Y e = X e ∧ wayL es bs c2 Y e = wayL es bs c1 X e := by
    intro e he h0
    have hs : toSrc es v e := by
      obtain ⟨z, z1, z2, z3⟩ := (way_ok h hX 0 e he (by omega) (by omega)).last
      rw [way_end (by omega)] at z1
      have : z = e := by have z2 : (e : Int) = (z : Int) := z1; omega
      subst this; exact z3
    have hy := hY.a e he hs
    exact ⟨by omega, by rw [way_end (by omega), way_end (by omega)]⟩
  induction k with
  | zero => intro e he h0 h1 _; exact base e he (by omega)
  | succ k ih =>
    intro e he h0 h1 hon
    by_cases hz : X e = 0
    · exact base e he hz
    · obtain ⟨n, hn⟩ := step_some h hX he (by omega)
      obtain ⟨p1, p2, p3, p4, p5, p6⟩ := step_parts hn
      rw [way_more (by omega) hn] at hon ⊢
      have hp : 1 ≤ wN es n := (wN_bd h n).2.2 p1
      obtain ⟨i1, i2⟩ := ih n p1 p4 (by omega) fun x hx => hon x (List.mem_cons_of_mem _ hx)
      have hn2 := hon n (List.mem_cons_self ..)
      have hcY := hY.c n e p1 (toSucc_mem.2 ⟨hn2, he, p2⟩) (by omega)
      have e3 : toW es n e = wN es n := rfl
      have hmY := more e he hcY.1
      have hYe : Y e = X e := by omega
      refine ⟨hYe, ?_⟩
      have hst : stepN es bs c2 Y e = some n := by
        unfold stepN at hn ⊢
        rw [List.find?_eq_some_iff_append] at hn ⊢
        obtain ⟨q1, l1, l2, q2, q3⟩ := hn
        refine ⟨fitB_iff.2 ⟨hn2, by omega, by omega, by omega⟩, l1, l2, q2, fun x hx => ?_⟩
        have hx' := q3 x hx
        have hmem : x ∈ nextN es bs e := by rw [q2]; simp [hx]
        obtain ⟨x1, x2⟩ := nextN_mem.1 hmem
        cases hf : fitB es c2 Y e x with
        | false => rfl
        | true =>
          exfalso
          obtain ⟨f1, f2, f3, f4⟩ := fitB_iff.1 hf
          have hx1 : shutB c1 x = false := by cases hh : shutB c1 x with
            | false => rfl
            | true => rw [hc x hh] at f1; cases f1
          have hm := more x x1 f2
          have hcX := hX.c x e x1 (toSucc_mem.2 ⟨hx1, he, x2⟩) hm.1
          have e4 : toW es x e = wN es x := rfl
          have hpx : 1 ≤ wN es x := (wN_bd h x).2.2 x1
          have : fitB es c1 X e x = true := fitB_iff.2 ⟨hx1, hm.1, by omega, by omega⟩
          rw [this] at hx'; exact absurd hx' (by simp)
      rw [way_more (by omega) hst, i2]
/-! ### where both ends meet -/
def meetB (F T : Nat → Int) (n : Int) (i : Nat) : Bool := decide (0 ≤ F i) && decide (0 ≤ T i) && decide (F i + T i = n)
theorem meetB_iff {F T : Nat → Int} {n : Int} {i : Nat} : meetB F T n i = true ↔ 0 ≤ F i ∧ 0 ≤ T i ∧ F i + T i = n := by unfold meetB; simp [and_assoc]
/-- where closing leaves a shortest walk alone, what is on it stays as far -/
theorem from_on {ns bs : Bs} {es : Es} {c1 c2 : List Bool} {v : Int} {a : Nat} {F T G : Nat → Int} (h : mayB ns es bs = true) (hc : ∀ e, shutB c1 e = true → shutB c2 e = true)
    (hT : IsD es.length (toSrc es v) (toSucc es bs c1) (toW es) T) (hF : IsD es.length (fun x => x = a) (fromSucc es bs c1) (fromW es) F) (hG : IsD es.length (fun x => x = a) (fromSucc es bs c2) (fromW es) G)
    (hon : ∀ x, x < es.length → meetB F T (T a) x = true → shutB c2 x = false) (ha : a < es.length) (k : Nat) :
    ∀ x, x < es.length → meetB F T (T a) x = true → F x ≤ (k : Int) → G x = F x := by
  induction k with
  | zero =>
    intro x hx hm h1
    obtain ⟨m1, m2, m3⟩ := meetB_iff.1 hm
    by_cases e : x = a
    · rw [hG.a x hx e, hF.a x hx e]
    · obtain ⟨y, hy, hmm, hy0, e2⟩ := hF.b x hx e m1
      have : 1 ≤ fromW es y x := (wN_bd h x).2.2 hx
      omega
  | succ k ih =>
    intro x hx hm h1
    obtain ⟨m1, m2, m3⟩ := meetB_iff.1 hm
    by_cases e : x = a
    · rw [hG.a x hx e, hF.a x hx e]
    · obtain ⟨y, hy, hmm, hy0, e2⟩ := hF.b x hx e m1
      have hp : 1 ≤ wN es x := (wN_bd h x).2.2 hx
      have e3 : fromW es y x = wN es x := rfl
      obtain ⟨n1, _, n3⟩ := fromSucc_mem.1 hmm
      have hcT := hT.c x y hx (toSucc_mem.2 ⟨n1, hy, n3⟩) m2
      have e4 : toW es x y = wN es x := rfl
      have hb := both_le h hT hF (F y).toNat y hy hy0 (by omega) hcT.1
      have hy2 : meetB F T (T a) y = true := meetB_iff.2 ⟨hy0, hcT.1, by omega⟩
      have hGy := ih y hy hy2 (by omega)
      have hx2 := hon x hx hm
      have hcG := hG.c y x hy (fromSucc_mem.2 ⟨hx2, hx, n3⟩) (by omega)
      have hmore := from_more h hc hF hG (G x).toNat x hx hcG.1 (by omega)
      omega
theorem to_on {ns bs : Bs} {es : Es} {c1 c2 : List Bool} {v : Int} {a : Nat} {F T G : Nat → Int} (h : mayB ns es bs = true) (hc : ∀ e, shutB c1 e = true → shutB c2 e = true)
    (hT : IsD es.length (toSrc es v) (toSucc es bs c1) (toW es) T) (hF : IsD es.length (fun x => x = a) (fromSucc es bs c1) (fromW es) F) (hG : IsD es.length (toSrc es v) (toSucc es bs c2) (toW es) G)
    (hon : ∀ x, x < es.length → meetB F T (T a) x = true → shutB c2 x = false) (ha : a < es.length) (k : Nat) :
    ∀ x, x < es.length → meetB F T (T a) x = true → T x ≤ (k : Int) → G x = T x := by
  induction k with
  | zero =>
    intro x hx hm h1
    obtain ⟨m1, m2, m3⟩ := meetB_iff.1 hm
    by_cases e : toSrc es v x
    · rw [hG.a x hx e, hT.a x hx e]
    · obtain ⟨y, hy, hmm, hy0, e2⟩ := hT.b x hx e m2
      have : 1 ≤ toW es y x := (wN_bd h y).2.2 hy
      omega
  | succ k ih =>
    intro x hx hm h1
    obtain ⟨m1, m2, m3⟩ := meetB_iff.1 hm
    by_cases e : toSrc es v x
    · rw [hG.a x hx e, hT.a x hx e]
    · obtain ⟨y, hy, hmm, hy0, e2⟩ := hT.b x hx e m2
      have hp : 1 ≤ wN es y := (wN_bd h y).2.2 hy
      have e3 : toW es y x = wN es y := rfl
      obtain ⟨n1, _, n3⟩ := toSucc_mem.1 hmm
      have hcF := hF.c x y hx (fromSucc_mem.2 ⟨n1, hy, n3⟩) m1
      have e4 : fromW es x y = wN es y := rfl
      have hb := both_le h hT hF (F y).toNat y hy hcF.1 (by omega) hy0
      have hy2 : meetB F T (T a) y = true := meetB_iff.2 ⟨hcF.1, hy0, by omega⟩
      have hGy := ih y hy hy2 (by omega)
      have hy3 := hon y hy hy2
      have hcG := hG.c y x hy (toSucc_mem.2 ⟨hy3, hx, n3⟩) (by omega)
      have hmore := to_more h hc hT hG (G x).toNat x hx hcG.1 (by omega)
      omega
end Go.Proofs.Ytjopiefojicblaa
