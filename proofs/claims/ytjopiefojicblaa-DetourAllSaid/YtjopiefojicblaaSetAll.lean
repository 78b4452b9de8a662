/- A row of bools, some of them set. -/
import Derived.Test.YtjopiefojicblaaDistAll
set_option linter.unusedVariables false
set_option linter.unusedSimpArgs false
namespace Go.Proofs.Ytjopiefojicblaa
open Go.RowKit HeapP DistP
def setAll (N : Nat) (l : List Nat) : List Bool := l.foldl (fun c i => c.set i true) (List.replicate N false)
theorem setAll_snoc (N : Nat) (l : List Nat) (x : Nat) : setAll N (l ++ [x]) = (setAll N l).set x true := by simp [setAll, List.foldl_append]
theorem setAll_fold (l : List Nat) : ∀ (c : List Bool), (l.foldl (fun c i => c.set i true) c).length = c.length := by
  induction l with
  | nil => intro c; rfl
  | cons i l ih => intro c; rw [List.foldl_cons, ih]; simp
theorem setAll_len (N : Nat) (l : List Nat) : (setAll N l).length = N := by unfold setAll; rw [setAll_fold]; simp
theorem setAll_get (l : List Nat) : ∀ (c : List Bool) (x : Nat), x < c.length → (l.foldl (fun c i => c.set i true) c).getD x false = (c.getD x false || decide (x ∈ l)) := by
  induction l with
  | nil => intro c x h; simp
  | cons i l ih =>
    intro c x h
    rw [List.foldl_cons, ih (c.set i true) x (by simpa using h)]
    by_cases e : i = x
    · subst e
      have : (c.set i true).getD i false = true := by rw [List.getD_eq_getElem?_getD, List.getElem?_set_self h]; rfl
      rw [this]; simp
    · have : (c.set i true).getD x false = c.getD x false := by rw [List.getD_eq_getElem?_getD, List.getD_eq_getElem?_getD, List.getElem?_set_ne e]
      have hx : x ≠ i := fun h => e h.symm
      rw [this]; simp [hx]
theorem setAll_mem {N : Nat} {l : List Nat} {x : Nat} (hx : x < N) : shutB (setAll N l) x = decide (x ∈ l) := by
  unfold shutB setAll
  rw [setAll_get l _ x (by simpa using hx)]
  simp [List.getD_eq_getElem?_getD, List.getElem?_replicate, hx]
theorem setAll_take {N : Nat} {l : List Nat} {k : Nat} (hk : k < l.length) : setAll N (l.take (k + 1)) = (setAll N (l.take k)).set (l.getD k 0) true := by
  rw [List.take_succ_eq_append_getElem hk, setAll_snoc, List.getD_eq_getElem?_getD, List.getElem?_eq_getElem hk]; rfl
def toSrcB (es : Es) (v x : Nat) : Bool := (es.getD x (0, 0, 0)).2.1 == (v : Int)
/-- with all that may come closed there is no way but where one is already -/
theorem none_out {ns bs : Bs} {es : Es} (h : mayB ns es bs = true) {a v : Nat} (ha : a < es.length) (hv : v < ns.length) :
    btwT ns es bs (setAll es.length (nextN es bs a)) (a : Int) (v : Int) = if toSrcB es v a then 0 else -1 := by
  have hb : btwT ns es bs (setAll es.length (nextN es bs a)) (a : Int) (v : Int) = dl (toD es bs (setAll es.length (nextN es bs a)) (v : Int)) a := by
    unfold btwT inB; rw [if_pos ⟨by simp; omega, by simp; omega⟩, Int.toNat_natCast]
  rw [hb]
  have hD := (toD_is h (setAll es.length (nextN es bs a)) (v : Int)).2
  by_cases hs : toSrc es (v : Int) a
  · rw [hD.a a ha hs, if_pos (by unfold toSrcB; exact beq_iff_eq.2 hs)]
  · rw [if_neg (by unfold toSrcB; exact fun e => hs (beq_iff_eq.1 e))]
    rcases hD.d a ha with hd | hd
    · exfalso
      obtain ⟨y, hy, hm, hy0, e2⟩ := hD.b a ha hs hd
      obtain ⟨m1, _, m3⟩ := toSucc_mem.1 hm
      rw [setAll_mem hy] at m1
      have : y ∈ nextN es bs a := nextN_mem.2 ⟨hy, m3⟩
      simp [this] at m1
    · exact hd
end Go.Proofs.Ytjopiefojicblaa
