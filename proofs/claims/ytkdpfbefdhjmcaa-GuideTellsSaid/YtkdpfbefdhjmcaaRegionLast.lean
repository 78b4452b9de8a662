/- A region that draws its order and whose last operation stores into a cell that its loads read: S need not hold behind that one. -/
import Derived.Test.YtkdpfbefdhjmcaaKit
import Derived.OrdersHeld
import Derived.Deep.RegionHeld3
set_option linter.unusedVariables false
set_option linter.unusedSimpArgs false
namespace Go.Proofs.Ytkdpfbefdhjmcaa
open Go
section
variable {P : Program} {ops : Array Oper} {Q : Exit → Act → World → Prop} {md : Region.Mode} {S : World → Prop} {z : Nat}
/-- whatever order is picked; S holds behind each operation but number z -/
def AnyL (P : Program) (md : Region.Mode) (ops : Array Oper) (Q : Exit → Act → World → Prop) (S : World → Prop) (z : Nat) : Nat → Array Bool → Act → World → Prop
  | 0, l, a, w => Region.ready md ops l = [] ∧ Q .normal a w
  | n + 1, l, a, w => (Region.ready md ops l = [] → Q .normal a w) ∧ ∀ i ∈ Region.ready md ops l, wpOp P ops Q i (fun a' w' => (i ≠ z → S w') ∧ AnyL P md ops Q S z n (l.setIfInBounds i true) a' w') a w
theorem anyL_any : ∀ (n : Nat) (l : Array Bool) (a : Act) (w : World), AnyL P md ops Q S z n l a w → wpAny P md ops Q n l a w
  | 0, _, _, _, h => h
  | n + 1, _, _, _, h => ⟨h.1, fun i hi => wpOp_mono (fun a' w' h' => anyL_any n _ a' w' h'.2) (h.2 i hi)⟩
/-- what waits for number i, straight or through others -/
def downs (md : Region.Mode) (ops : Array Oper) (i : Nat) : List Nat :=
  (List.range ops.size).foldl (fun D j => match ops[j]? with
    | some o => if o.after.any (fun e => Region.binds md e && (e.on == i || D.contains e.on)) then j :: D else D
    | none => D) []
def waitOne (md : Region.Mode) (ops : Array Oper) (i : Nat) (D : List Nat) (d : Nat) : Bool :=
  match ops[d]? with
  | some o => o.after.any fun e => Region.binds md e && (e.on == i || D.contains e.on)
  | none => false
def waitsB (md : Region.Mode) (ops : Array Oper) (i z : Nat) (l : Array Bool) : Bool :=
  (downs md ops i).contains z && (downs md ops i).all fun d => !(l.getD d true) && waitOne md ops i (downs md ops i) d
theorem waits_spec {i : Nat} {l : Array Bool} (h : waitsB md ops i z l = true) :
    ∃ D : List Nat, z ∈ D ∧ (∀ d ∈ D, l.getD d true = false) ∧ ∀ d ∈ D, waitOne md ops i D d = true := by
  unfold waitsB at h
  rw [Bool.and_eq_true, List.all_eq_true] at h
  refine ⟨downs md ops i, by simpa using h.1, fun d hd => ?_, fun d hd => ?_⟩
  · have := h.2 d hd
    rw [Bool.and_eq_true] at this
    simpa using this.1
  · have := h.2 d hd
    rw [Bool.and_eq_true] at this
    exact this.2
/-- one that waits is not ready while number i is not listed -/
theorem waits_not {i d : Nat} {D : List Nat} {l : Array Bool} (hi : l.getD i true = false) (hD : ∀ x ∈ D, l.getD x true = false) (hw : waitOne md ops i D d = true) : d ∉ Region.ready md ops l := by
  intro hd
  obtain ⟨_, o, ho, hall⟩ := mem_ready.1 hd
  unfold waitOne at hw
  rw [ho] at hw
  obtain ⟨e, he, hb⟩ := Array.any_eq_true'.1 hw
  rw [Bool.and_eq_true, Bool.or_eq_true] at hb
  have h1 := hall e he hb.1
  have hno : l.getD e.on true = false := by
    rcases hb.2 with h2 | h2
    · rw [beq_iff_eq] at h2; rw [h2]; exact hi
    · exact hD _ (by simpa using h2)
  rcases Nat.lt_or_ge e.on l.size with h' | h'
  · simp [h'] at h1 hno
    rw [hno] at h1; cases h1
  · simp [Array.getElem?_eq_none h'] at h1
theorem anyL_first {i : Nat} {oi : Oper} {v : Value} (hi : ops[i]? = some oi) (hsel : ∀ (j : Nat) (o : Oper) cs b, ops[j]? = some o → o.op ≠ .select cs b)
    (hQ : ∀ c a w, Q (.panic c) (a.put oi.dst v) w → Q (.panic c) a w) (D : List Nat) (hz : z ∈ D) (hD : ∀ d ∈ D, waitOne md ops i D d = true) :
    ∀ (n : Nat) (l : Array Bool) (a : Act) (w : World),
      (∀ j oj, ops[j]? = some oj → j ≠ i → l.getD j true = false → (∀ e ∈ oj.after, Region.binds md e = true → e.on ≠ i) → oi.apart ops oj = true) →
      (∀ d ∈ D, l.getD d true = false) → i ∈ Region.ready md ops l → YieldsIf P ops S oi v a → S w →
      AnyL P md ops Q S z n (l.setIfInBounds i true) (a.put oi.dst v) w → AnyL P md ops Q S z (n + 1) l a w := by
  intro n
  induction n with
  | zero =>
    intro l a w _ _ hr hy hS H
    refine ⟨fun h => (by rw [h] at hr; cases hr), fun j hj => ?_⟩
    by_cases hji : j = i
    · subst hji; exact hy.wpOp hi hS ⟨fun _ => hS, H⟩
    · have := ready_mono hj hji
      rw [H.1] at this
      cases this
  | succ n ih =>
    intro l a w hfree hun hr hy hS H
    refine ⟨fun h => (by rw [h] at hr; cases hr), fun j hj => ?_⟩
    by_cases hji : j = i
    · subst hji; exact hy.wpOp hi hS ⟨fun _ => hS, H⟩
    · have hjD : j ∉ D := fun hd => waits_not (mem_ready.1 hr).1 hun (hD j hd) hj
      have hjz : j ≠ z := fun e => hjD (e ▸ hz)
      have h1 := H.2 j (ready_mono hj hji)
      obtain ⟨hjun, oj, hoj, hall⟩ := mem_ready.1 hj
      have hnot : ∀ e ∈ oj.after, Region.binds md e = true → e.on ≠ i := fun e he hb heq => by
        have h2 := hall e he hb
        have h0 := (mem_ready.1 hr).1
        rw [heq] at h2
        rcases Nat.lt_or_ge i l.size with h' | h'
        · simp [h'] at h0 h2; rw [h0] at h2; cases h2
        · simp [Array.getElem?_eq_none h'] at h2
      have h2 := wpOp_putIf hoj (hfree j oj hoj hji hjun hnot) (fun cs b => hsel i oi cs b hi) (fun cs b => hsel j oj cs b hoj) hQ hy h1
      have hset : ∀ k, j ≠ k → (l.setIfInBounds j true).getD k true = l.getD k true := fun k hk => getD_set_ne true hk
      refine wpOp_mono (fun a' w' h3 => ⟨fun _ => h3.2.1 hjz, ih (l.setIfInBounds j true) a' w' ?_ ?_ (ready_mono hr (Ne.symm hji)) h3.1 (h3.2.1 hjz) ?_⟩) h2
      · intro k ok hk hki hku hno
        refine hfree k ok hk hki ?_ hno
        by_cases hjk : j = k
        · subst hjk; exact hjun
        · rw [hset k hjk] at hku; exact hku
      · intro d hd
        rw [hset d (fun e => hjD (e ▸ hd))]
        exact hun d hd
      · rw [Array.setIfInBounds_comm _ _ hji]
        exact h3.2.2
theorem anyL_take {i : Nat} {oi : Oper} {v : Value} {n : Nat} {l : Array Bool} {a : Act} {w : World} (hi : ops[i]? = some oi)
    (hs : Region.noSelect ops = true) (hf : Region.free md ops l i = true) (hr : (Region.ready md ops l).contains i = true) (hd : waitsB md ops i z l = true)
    (hQ : ∀ c a w, Q (.panic c) (a.put oi.dst v) w → Q (.panic c) a w) (hy : YieldsIf P ops S oi v a) (hS : S w)
    (h : AnyL P md ops Q S z n (l.setIfInBounds i true) (a.put oi.dst v) w) : AnyL P md ops Q S z (n + 1) l a w := by
  obtain ⟨D, h1, h2, h3⟩ := waits_spec hd
  exact anyL_first hi (Region.noSelect_spec hs) hQ D h1 h3 n l a w (Region.free_spec hi hf) h2 (by simpa using hr) hy hS h
def AllL (P : Program) (md : Region.Mode) (ops : Array Oper) (Q : Exit → Act → World → Prop) (S : World → Prop) (z n : Nat) (l : Array Bool) (a : Act) (w : World) (rs : List Nat) : Prop :=
  ∀ i ∈ rs, wpOp P ops Q i (fun a' w' => (i ≠ z → S w') ∧ AnyL P md ops Q S z n (l.setIfInBounds i true) a' w') a w
theorem AllL.nil {n : Nat} {l : Array Bool} {a : Act} {w : World} : AllL P md ops Q S z n l a w [] := fun _ h => by cases h
theorem AllL.cons {n : Nat} {l : Array Bool} {a : Act} {w : World} {i : Nat} {o : Oper} {rs : List Nat} (ho : ops[i]? = some o)
    (h : ∀ K' : Act → World → Prop, Shut (∀ a w, (i ≠ z → S w) → AnyL P md ops Q S z n (l.setIfInBounds i true) a w → K' a w) → if Region.wanted o (yielded ops a.tmps) = true then Oper.wp P o a w K' Q else K' (a.put o.dst undef) w)
    (hs : AllL P md ops Q S z n l a w rs) : AllL P md ops Q S z n l a w (i :: rs) := fun j hj => by
  rcases List.mem_cons.1 hj with rfl | hj
  · exact wpOp_step ho (fun K' hK => h K' (fun a w hS hW => hK a w ⟨hS, hW⟩))
  · exact hs j hj
theorem anyL_ready {rs : List Nat} {n : Nat} {l : Array Bool} {a : Act} {w : World} (hr : Region.ready md ops l = rs) (hne : rs ≠ [])
    (h : AllL P md ops Q S z n l a w rs) : AnyL P md ops Q S z (n + 1) l a w := ⟨fun h0 => absurd (hr ▸ h0) hne, hr ▸ h⟩
theorem anyL_done {l : Array Bool} {a : Act} {w : World} (hr : Region.ready md ops l = []) (h : Q .normal a w) : ∀ n, AnyL P md ops Q S z n l a w
  | 0 => ⟨hr, h⟩
  | _ + 1 => ⟨fun _ => h, by rw [hr]; simp⟩
/-- the beginning; z: the store -/
theorem wp_regionL (z : Nat) {id : Nat} {a : Act} {w : World} (hm : P.follows .mixedOrders = true) (hS : S w.drew)
    (h : S w.drew → AnyL P .any ops Q S z ops.size (Array.replicate ops.size false) a w.drew) : (Code.region id ops true).wp P Q a w :=
  wp_region_any hm (anyL_any _ _ _ _ (h hS))
end
end Go.Proofs.Ytkdpfbefdhjmcaa
