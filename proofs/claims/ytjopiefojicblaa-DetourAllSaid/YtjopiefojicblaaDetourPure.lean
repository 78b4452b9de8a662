/- Closing what is on no shortest walk; closing one edge. On lists alone. -/
import Derived.Test.YtjopiefojicblaaSetAll
import Derived.Test.YtjopiefojicblaaDetour
set_option linter.unusedVariables false
set_option linter.unusedSimpArgs false
namespace Go.Proofs.Ytjopiefojicblaa
open Go.RowKit HeapP DistP
/-- what is on no shortest walk -/
def offB (F T : Nat → Int) (D : Int) (i : Nat) : Bool := decide (F i < 0) || (decide (T i < 0) || decide (D < F i + T i))
def offL (F T : Nat → Int) (D : Int) (N : Nat) : List Bool := (List.range N).map (offB F T D)
theorem offL_len (F T : Nat → Int) (D : Int) (N : Nat) : (offL F T D N).length = N := by simp [offL]
theorem offL_get {F T : Nat → Int} {D : Int} {N i : Nat} (h : i < N) : shutB (offL F T D N) i = offB F T D i := by
  unfold shutB offL; simp [List.getD_eq_getElem?_getD, h]
/-- the first i of them reckoned -/
def offP (F T : Nat → Int) (D : Int) (N i : Nat) : List Bool := (List.range N).map fun j => if j < i then offB F T D j else false
theorem offP_start (F T : Nat → Int) (D : Int) (N : Nat) : offP F T D N 0 = List.replicate N false := by
  apply List.ext_getElem
  · simp [offP]
  · intro j h1 h2; simp [offP]
theorem offP_end (F T : Nat → Int) (D : Int) (N : Nat) : offP F T D N N = offL F T D N := by
  apply List.ext_getElem
  · simp [offP, offL]
  · intro j h1 h2
    simp [offP] at h1
    simp [offP, offL, h1]
theorem offP_step (F T : Nat → Int) (D : Int) {N i : Nat} (h : i < N) : offP F T D N (i + 1) = (offP F T D N i).set i (offB F T D i) := by
  apply List.ext_getElem
  · simp [offP]
  · intro j h1 h2
    rw [List.getElem_set]
    by_cases e : i = j
    · subst e; simp [offP]
    · rw [if_neg e]
      simp only [offP, List.getElem_map, List.getElem_range]
      by_cases hj : j < i
      · rw [if_pos hj, if_pos (by omega)]
      · rw [if_neg hj, if_neg (by omega)]
theorem shutB_nil (e : Nat) : shutB [] e = false := rfl
section
variable {ns bs : Bs} {es : Es} {a v : Nat}
theorem off_dist (h : mayB ns es bs = true) (ha : a < es.length) (hv : v < ns.length) (h0 : 0 ≤ btwT ns es bs [] (a : Int) (v : Int)) :
    btwT ns es bs (offL (dl (fromD es bs [] a)) (dl (toD es bs [] (v : Int))) (dl (toD es bs [] (v : Int)) a) es.length) (a : Int) (v : Int) = dl (toD es bs [] (v : Int)) a ∧
    meetT ns es bs (offL (dl (fromD es bs [] a)) (dl (toD es bs [] (v : Int))) (dl (toD es bs [] (v : Int)) a) es.length) (a : Int) (v : Int) = meetT ns es bs [] (a : Int) (v : Int) := by
  obtain ⟨C, hC⟩ : ∃ C, C = offL (dl (fromD es bs [] a)) (dl (toD es bs [] (v : Int))) (dl (toD es bs [] (v : Int)) a) es.length := ⟨_, rfl⟩
  rw [← hC]
  have hbC : btwT ns es bs C (a : Int) (v : Int) = dl (toD es bs C (v : Int)) a := by
    unfold btwT inB; rw [if_pos ⟨by simp; omega, by simp; omega⟩, Int.toNat_natCast]
  have hb0 : btwT ns es bs [] (a : Int) (v : Int) = dl (toD es bs [] (v : Int)) a := by
    unfold btwT inB; rw [if_pos ⟨by simp; omega, by simp; omega⟩, Int.toNat_natCast]
  have hT := (toD_is h [] (v : Int)).2
  have hF := (fromD_is h [] a).2
  have hT2 := (toD_is h C (v : Int)).2
  have hF2 := (fromD_is h C a).2
  have hc : ∀ e, shutB [] e = true → shutB C e = true := fun e he => by rw [shutB_nil] at he; cases he
  have hFa := hF.a a ha rfl
  have hTa : 0 ≤ dl (toD es bs [] (v : Int)) a := by rw [← hb0]; exact h0
  have hon : ∀ x, x < es.length → meetB (dl (fromD es bs [] a)) (dl (toD es bs [] (v : Int))) (dl (toD es bs [] (v : Int)) a) x = true → shutB C x = false := by
    intro x hx hm
    obtain ⟨m1, m2, m3⟩ := meetB_iff.1 hm
    rw [hC, offL_get hx]
    unfold offB
    rw [decide_eq_false (by omega), decide_eq_false (by omega), decide_eq_false (by omega)]
    rfl
  have hma : meetB (dl (fromD es bs [] a)) (dl (toD es bs [] (v : Int))) (dl (toD es bs [] (v : Int)) a) a = true := meetB_iff.2 ⟨by omega, hTa, by omega⟩
  have eF := fun x hx hm => from_on h hc hT hF hF2 hon ha (dl (fromD es bs [] a) x).toNat x hx hm (by have := (meetB_iff.1 hm).1; omega)
  have eT := fun x hx hm => to_on h hc hT hF hT2 hon ha (dl (toD es bs [] (v : Int)) x).toNat x hx hm (by have := (meetB_iff.1 hm).2.1; omega)
  have hD : dl (toD es bs C (v : Int)) a = dl (toD es bs [] (v : Int)) a := eT a ha hma
  refine ⟨by rw [hbC, hD], ?_⟩
  have key : ∀ x, x < es.length → meetB (dl (fromD es bs C a)) (dl (toD es bs C (v : Int))) (dl (toD es bs C (v : Int)) a) x = meetB (dl (fromD es bs [] a)) (dl (toD es bs [] (v : Int))) (dl (toD es bs [] (v : Int)) a) x := by
    intro x hx
    rw [hD]
    cases hm : meetB (dl (fromD es bs [] a)) (dl (toD es bs [] (v : Int))) (dl (toD es bs [] (v : Int)) a) x with
    | true =>
      obtain ⟨m1, m2, m3⟩ := meetB_iff.1 hm
      have x1 := eF x hx hm
      have x2 := eT x hx hm
      exact meetB_iff.2 ⟨by omega, by omega, by omega⟩
    | false =>
      cases hm2 : meetB (dl (fromD es bs C a)) (dl (toD es bs C (v : Int))) (dl (toD es bs [] (v : Int)) a) x with
      | false => rfl
      | true =>
        exfalso
        obtain ⟨m1, m2, m3⟩ := meetB_iff.1 hm2
        have f1 := from_more h hc hF hF2 (dl (fromD es bs C a) x).toNat x hx m1 (by omega)
        have t1 := to_more h hc hT hT2 (dl (toD es bs C (v : Int)) x).toNat x hx m2 (by omega)
        have b1 := both_le h hT hF (dl (fromD es bs [] a) x).toNat x hx f1.1 (by omega) t1.1
        have : meetB (dl (fromD es bs [] a)) (dl (toD es bs [] (v : Int))) (dl (toD es bs [] (v : Int)) a) x = true := meetB_iff.2 ⟨f1.1, t1.1, by omega⟩
        rw [this] at hm; cases hm
  obtain ⟨m, g1, g2, g3, g4⟩ := meet_in h h0 ha
  obtain ⟨m', k1, k2, k3, k4⟩ := meet_in (cl := C) (v := (v : Int)) h (by rw [hbC, hD]; exact hTa) ha
  rw [g1, k1]
  rw [key m' (by omega)] at k3
  have g5 := key m (by omega)
  rw [g3] at g5
  have : m = m' := by
    rcases Nat.lt_trichotomy m m' with hlt | heq | hlt
    · rw [k4 m hlt] at g5; cases g5
    · exact heq
    · rw [g4 m' hlt] at k3; cases k3
  rw [this]
/-- one edge closed, where both ends meet -/
theorem one_dist (h : mayB ns es bs = true) (ha : a < es.length) (hv : v < ns.length) {m : Nat} (hm : m < es.length) (hne : m ≠ a) (h0 : 0 ≤ btwT ns es bs [] (a : Int) (v : Int)) :
    (0 ≤ btwT ns es bs (setAll es.length [m]) (a : Int) (v : Int) → dl (toD es bs [] (v : Int)) a ≤ btwT ns es bs (setAll es.length [m]) (a : Int) (v : Int) ∧ meetT ns es bs (setAll es.length [m]) (a : Int) (v : Int) ≠ (m : Int)) := by
  intro h1
  have hb1 : btwT ns es bs (setAll es.length [m]) (a : Int) (v : Int) = dl (toD es bs (setAll es.length [m]) (v : Int)) a := by
    unfold btwT inB; rw [if_pos ⟨by simp; omega, by simp; omega⟩, Int.toNat_natCast]
  have hc : ∀ e, shutB [] e = true → shutB (setAll es.length [m]) e = true := fun e he => by rw [shutB_nil] at he; cases he
  have h2 := h1
  rw [hb1] at h2
  have hmo := to_more h hc (toD_is h [] (v : Int)).2 (toD_is h (setAll es.length [m]) (v : Int)).2 (dl (toD es bs (setAll es.length [m]) (v : Int)) a).toNat a ha h2 (by omega)
  refine ⟨by rw [hb1]; exact hmo.2, fun e => ?_⟩
  obtain ⟨m', g1, g2, g3, g4⟩ := meet_in (cl := setAll es.length [m]) (v := (v : Int)) h h1 ha
  rw [g1] at e
  obtain rfl : m' = m := by omega
  obtain ⟨f1, _, _⟩ := meetB_iff.1 g3
  obtain ⟨y, hy, hmm, hy0, e2⟩ := (fromD_is h (setAll es.length [m']) a).2.b m' hm hne f1
  have := (fromSucc_mem.1 hmm).1
  rw [setAll_mem hm] at this
  simp at this
end
end Go.Proofs.Ytjopiefojicblaa
