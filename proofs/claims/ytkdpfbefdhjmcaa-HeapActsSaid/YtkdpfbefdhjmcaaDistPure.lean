/- Plain distances over an abstract net: what they are, that there is one, and that the least first finds them. No program here. -/
import Derived.Test.YtkdpfbefdhjmcaaHeapPure
set_option linter.unusedVariables false
set_option linter.unusedSimpArgs false
namespace Go.Proofs.Ytkdpfbefdhjmcaa.DistP
open Go.Proofs.Ytkdpfbefdhjmcaa.HeapP
/-- plain distances over an abstract net -/
structure IsD (N : Nat) (src : Nat → Prop) (succ : Nat → List Nat) (W : Nat → Nat → Int) (D : Nat → Int) : Prop where
  a : ∀ x, x < N → src x → D x = 0
  b : ∀ x, x < N → ¬ src x → 0 ≤ D x → ∃ y, y < N ∧ x ∈ succ y ∧ 0 ≤ D y ∧ D x = D y + W y x
  c : ∀ y x, y < N → x ∈ succ y → 0 ≤ D y → 0 ≤ D x ∧ D x ≤ D y + W y x
  d : ∀ x, x < N → 0 ≤ D x ∨ D x = -1
structure Net (N : Nat) (succ : Nat → List Nat) (W : Nat → Nat → Int) : Prop where
  lt : ∀ y x, y < N → x ∈ succ y → x < N
  pos : ∀ y x, y < N → x ∈ succ y → 1 ≤ W y x
theorem IsD.le {N : Nat} {src : Nat → Prop} {succ : Nat → List Nat} {W : Nat → Nat → Int} {D E : Nat → Int} (hn : Net N succ W) (h : IsD N src succ W D) (k : IsD N src succ W E) (n : Nat) :
    ∀ x, x < N → 0 ≤ D x → D x ≤ (n : Int) → 0 ≤ E x ∧ E x ≤ D x := by
  induction n with
  | zero =>
    intro x hx h0 h1
    by_cases hs : src x
    · rw [k.a x hx hs]; omega
    · obtain ⟨y, hy, hm, hy0, e⟩ := h.b x hx hs h0
      have := hn.pos y x hy hm
      omega
  | succ n ih =>
    intro x hx h0 h1
    by_cases hs : src x
    · rw [k.a x hx hs]; omega
    · obtain ⟨y, hy, hm, hy0, e⟩ := h.b x hx hs h0
      have hp := hn.pos y x hy hm
      obtain ⟨i1, i2⟩ := ih y hy hy0 (by omega)
      have := k.c y x hy hm i1
      omega
theorem IsD.uniq {N : Nat} {src : Nat → Prop} {succ : Nat → List Nat} {W : Nat → Nat → Int} {D E : Nat → Int} (hn : Net N succ W) (h : IsD N src succ W D) (k : IsD N src succ W E) :
    ∀ x, x < N → D x = E x := by
  intro x hx
  rcases h.d x hx with h0 | h0
  · obtain ⟨i1, i2⟩ := h.le hn k (D x).toNat x hx h0 (by omega)
    obtain ⟨_, i4⟩ := k.le hn h (E x).toNat x hx i1 (by omega)
    omega
  · rcases k.d x hx with k0 | k0
    · have := (k.le hn h (E x).toNat x hx k0 (by omega)).1
      omega
    · omega

/-! ### the least first -/
def pushF (S : List It) (x : It) : List It := if S.any (fun y => decide (y.1 = x.1) && decide (y.2 ≤ x.2)) then S else ins x (S.filter fun y => !decide (y.1 = x.1))
theorem pushF_ids {S : List It} {x z : It} (h : z ∈ pushF S x) : z = x ∨ (z ∈ S) := by
  unfold pushF at h
  split at h
  · exact .inr h
  · rcases List.mem_cons.1 ((ins_perm x _).mem_iff.1 h) with e | e
    · exact .inl e
    · exact .inr (List.mem_filter.1 e).1
theorem pushF_other {S : List It} {x z : It} (h : z ∈ S) (hne : z.1 ≠ x.1) : z ∈ pushF S x := by
  unfold pushF
  split
  · exact h
  · exact (ins_perm x _).mem_iff.2 (List.mem_cons_of_mem _ (List.mem_filter.2 ⟨h, by simp [hne]⟩))
/-- whoever was there is there, with no greater key -/
theorem pushF_less {S : List It} {x z : It} (h : z ∈ S) : ∃ z' ∈ pushF S x, z'.1 = z.1 ∧ z'.2 ≤ z.2 := by
  by_cases hne : z.1 = x.1
  · by_cases ha : S.any (fun y => decide (y.1 = x.1) && decide (y.2 ≤ x.2)) = true
    · exact ⟨z, by unfold pushF; rw [if_pos ha]; exact h, rfl, Int.le_refl _⟩
    · refine ⟨x, by unfold pushF; rw [if_neg ha]; exact (ins_perm x _).mem_iff.2 (List.mem_cons_self ..), hne.symm, ?_⟩
      rcases Int.lt_or_le x.2 z.2 with h1 | h1
      · omega
      · exfalso; apply ha
        rw [List.any_eq_true]
        exact ⟨z, h, by simp [hne, h1]⟩
  · exact ⟨z, pushF_other h hne, rfl, Int.le_refl _⟩
theorem pushF_there (S : List It) (x : It) : ∃ z ∈ pushF S x, z.1 = x.1 ∧ z.2 ≤ x.2 := by
  unfold pushF
  split
  · rename_i h
    obtain ⟨y, hy, hc⟩ := List.any_eq_true.1 h
    simp at hc
    exact ⟨y, hy, hc.1, hc.2⟩
  · exact ⟨x, (ins_perm x _).mem_iff.2 (List.mem_cons_self ..), rfl, Int.le_refl _⟩
theorem pushF_sorted {S : List It} {x : It} (h : Sorted S) : Sorted (pushF S x) := by
  unfold pushF
  split
  · exact h
  · exact ins_sorted x _ (h.sublist List.filter_sublist) fun y hy => by simpa using (List.mem_filter.1 hy).2
def Uniq (S : List It) : Prop := ∀ y ∈ S, ∀ z ∈ S, y.1 = z.1 → y = z
theorem pushF_uniq {S : List It} {x : It} (h : Uniq S) : Uniq (pushF S x) := by
  unfold pushF
  split
  · exact h
  · intro y hy z hz e
    rcases List.mem_cons.1 ((ins_perm x _).mem_iff.1 hy) with rfl | hy
    · rcases List.mem_cons.1 ((ins_perm y _).mem_iff.1 hz) with rfl | hz
      · rfl
      · have := (List.mem_filter.1 hz).2; simp at this; exact absurd e.symm this
    · rcases List.mem_cons.1 ((ins_perm x _).mem_iff.1 hz) with rfl | hz
      · have := (List.mem_filter.1 hy).2; simp at this; exact absurd e this
      · exact h y (List.mem_filter.1 hy).1 z (List.mem_filter.1 hz).1 e

/-- the state: D: what is settled; S: what waits; pend x y: the arc from x, settled, to y has been looked at -/
structure Inv (N : Nat) (src : Nat → Prop) (succ : Nat → List Nat) (W : Nat → Nat → Int) (D : Nat → Int) (S : List It) (done : Nat → Nat → Prop) : Prop where
  d : ∀ x, x < N → 0 ≤ D x ∨ D x = -1
  sorted : Sorted S
  uniq : Uniq S
  inN : ∀ z ∈ S, 0 ≤ z.1 ∧ z.1.toNat < N ∧ D z.1.toNat = -1
  keys : ∀ z ∈ S, ∀ x, x < N → D x ≤ z.2
  nneg : ∀ z ∈ S, 0 ≤ z.2
  srcs : ∀ x, x < N → src x → D x = 0 ∨ ((x : Int), (0 : Int)) ∈ S
  wit : ∀ x, x < N → 0 ≤ D x → (src x ∧ D x = 0) ∨ ∃ y, y < N ∧ x ∈ succ y ∧ 0 ≤ D y ∧ D x = D y + W y x
  witS : ∀ z ∈ S, (src z.1.toNat ∧ z.2 = 0) ∨ ∃ y, y < N ∧ z.1.toNat ∈ succ y ∧ 0 ≤ D y ∧ z.2 = D y + W y z.1.toNat
  arcs : ∀ y x, y < N → x ∈ succ y → 0 ≤ D y → done y x → (0 ≤ D x ∧ D x ≤ D y + W y x) ∨ ∃ z ∈ S, z.1 = (x : Int) ∧ z.2 ≤ D y + W y x

theorem Inv.final {N : Nat} {src : Nat → Prop} {succ : Nat → List Nat} {W : Nat → Nat → Int} {D : Nat → Int} (h : Inv N src succ W D [] (fun _ _ => True)) : IsD N src succ W D := by
  refine ⟨?_, ?_, ?_, h.d⟩
  · intro x hx hs
    rcases h.srcs x hx hs with e | e
    · exact e
    · simp at e
  · intro x hx hs h0
    rcases h.wit x hx h0 with e | e
    · exact absurd e.1 hs
    · exact e
  · intro y x hy hx h0
    rcases h.arcs y x hy hx h0 trivial with e | ⟨z, hz, _⟩
    · exact e
    · simp at hz
def setD (D : Nat → Int) (x : Nat) (v : Int) : Nat → Int := fun y => if y = x then v else D y
/-- the least is taken out and settled -/
theorem Inv.pop {N : Nat} {src : Nat → Prop} {succ : Nat → List Nat} {W : Nat → Nat → Int} {D : Nat → Int} {z : It} {S : List It} (h : Inv N src succ W D (z :: S) (fun _ _ => True)) :
    Inv N src succ W (setD D z.1.toNat z.2) S (fun y _ => y ≠ z.1.toNat) := by
  have hz := h.inN z (List.mem_cons_self ..)
  have hk := h.keys z (List.mem_cons_self ..)
  have h0 := h.nneg z (List.mem_cons_self ..)
  have hS := List.pairwise_cons.1 h.sorted
  have hne : ∀ y ∈ S, y.1 ≠ z.1 := by
    intro y hy e
    have := h.uniq y (List.mem_cons_of_mem _ hy) z (List.mem_cons_self ..) e
    subst this
    exact ahead_irrefl _ (hS.1 _ hy)
  have hmono : ∀ y ∈ S, z.2 ≤ y.2 := by
    intro y hy
    have := ahead_iff.1 (hS.1 y hy)
    omega
  have hold : ∀ y, 0 ≤ D y → setD D z.1.toNat z.2 y = D y := by
    intro y hy
    unfold setD
    split
    · rename_i e; subst e; omega
    · rfl
  refine ⟨?_, hS.2, ?_, ?_, ?_, ?_, ?_, ?_, ?_, ?_⟩
  · intro x hx
    unfold setD
    split
    · exact .inl h0
    · exact h.d x hx
  · intro y hy y' hy' e
    exact h.uniq y (List.mem_cons_of_mem _ hy) y' (List.mem_cons_of_mem _ hy') e
  · intro y hy
    have := h.inN y (List.mem_cons_of_mem _ hy)
    have hn := hne y hy
    refine ⟨this.1, this.2.1, ?_⟩
    unfold setD
    rw [if_neg (by omega)]
    exact this.2.2
  · intro y hy x hx
    unfold setD
    split
    · exact hmono y hy
    · exact h.keys y (List.mem_cons_of_mem _ hy) x hx
  · intro y hy
    exact h.nneg y (List.mem_cons_of_mem _ hy)
  · intro x hx hs
    rcases h.srcs x hx hs with e | e
    · left; rw [hold x (by omega)]; exact e
    · rcases List.mem_cons.1 e with e | e
      · left; unfold setD; rw [← e]; simp
      · exact .inr e
  · intro x hx hx0
    have key : ∀ y, 0 ≤ D y → setD D z.1.toNat z.2 y = D y := hold
    by_cases hxz : x = z.1.toNat
    · subst hxz
      have e : setD D z.1.toNat z.2 z.1.toNat = z.2 := by simp [setD]
      rw [e]
      rcases h.witS z (List.mem_cons_self ..) with w | ⟨y, hy, hm, hy0, ez⟩
      · exact .inl w
      · exact .inr ⟨y, hy, hm, by rw [key y hy0]; exact hy0, by rw [key y hy0]; exact ez⟩
    · have e : setD D z.1.toNat z.2 x = D x := by simp [setD, hxz]
      rw [e] at hx0 ⊢
      rcases h.wit x hx hx0 with w | ⟨y, hy, hm, hy0, ez⟩
      · exact .inl w
      · exact .inr ⟨y, hy, hm, by rw [key y hy0]; exact hy0, by rw [key y hy0]; exact ez⟩
  · intro u hu
    rcases h.witS u (List.mem_cons_of_mem _ hu) with w | ⟨y, hy, hm, hy0, ez⟩
    · exact .inl w
    · exact .inr ⟨y, hy, hm, by rw [hold y hy0]; exact hy0, by rw [hold y hy0]; exact ez⟩
  · intro y x hy hx hy0 hyz
    have e : setD D z.1.toNat z.2 y = D y := by simp [setD, hyz]
    rw [e] at hy0 ⊢
    rcases h.arcs y x hy hx hy0 trivial with ⟨h1, h2⟩ | ⟨u, hu, hu1, hu2⟩
    · left; rw [hold x h1]; exact ⟨h1, h2⟩
    · rcases List.mem_cons.1 hu with rfl | hu
      · left
        have e2 : setD D u.1.toNat u.2 x = u.2 := by rw [hu1]; simp [setD]
        rw [e2]; exact ⟨h0, hu2⟩
      · exact .inr ⟨u, hu, hu1, hu2⟩
/-- one arc of what has just been settled is looked at: what it goes to is settled, or it is pushed -/
theorem Inv.look {N : Nat} {src : Nat → Prop} {succ : Nat → List Nat} {W : Nat → Nat → Int} {D : Nat → Int} {S : List It} {done : Nat → Nat → Prop} {x y : Nat} (hn : Net N succ W)
    (h : Inv N src succ W D S done) (hx : x < N) (hy : y ∈ succ x) (hx0 : 0 ≤ D x) (hall : ∀ u, u < N → D u ≤ D x) :
    Inv N src succ W D (if D y < 0 then pushF S ((y : Int), D x + W x y) else S) (fun a b => done a b ∨ (a = x ∧ b = y)) := by
  have hyN := hn.lt x y hx hy
  have hW := hn.pos x y hx hy
  split
  · rename_i hy0
    have hy1 : D y = -1 := by have := h.d y hyN; omega
    refine ⟨h.d, pushF_sorted h.sorted, pushF_uniq h.uniq, ?_, ?_, ?_, ?_, h.wit, ?_, ?_⟩
    · intro z hz
      rcases pushF_ids hz with rfl | hz
      · exact ⟨by simp, by simpa using hyN, by simpa using hy1⟩
      · exact h.inN z hz
    · intro z hz u hu
      rcases pushF_ids hz with rfl | hz
      · have := hall u hu; show D u ≤ D x + W x y; omega
      · exact h.keys z hz u hu
    · intro z hz
      rcases pushF_ids hz with rfl | hz
      · show 0 ≤ D x + W x y; omega
      · exact h.nneg z hz
    · intro u hu hs
      rcases h.srcs u hu hs with e | e
      · exact .inl e
      · right
        by_cases hne : u = y
        · subst hne
          unfold pushF
          rw [if_pos (List.any_eq_true.2 ⟨_, e, by simp; omega⟩)]
          exact e
        · exact pushF_other e (by simp; omega)
    · intro z hz
      rcases pushF_ids hz with rfl | hz
      · exact .inr ⟨x, hx, by simpa using hy, hx0, by simp⟩
      · exact h.witS z hz
    · intro a b ha hb ha0 hd
      rcases hd with hd | ⟨rfl, rfl⟩
      · rcases h.arcs a b ha hb ha0 hd with e | ⟨z, hz, hz1, hz2⟩
        · exact .inl e
        · obtain ⟨z', hz', e1, e2⟩ := pushF_less (x := ((y : Int), D x + W x y)) hz
          exact .inr ⟨z', hz', by rw [e1, hz1], by omega⟩
      · obtain ⟨z, hz, e1, e2⟩ := pushF_there S ((b : Int), D a + W a b)
        exact .inr ⟨z, hz, e1, e2⟩
  · rename_i hy0
    refine ⟨h.d, h.sorted, h.uniq, h.inN, h.keys, h.nneg, h.srcs, h.wit, h.witS, ?_⟩
    intro a b ha hb ha0 hd
    rcases hd with hd | ⟨rfl, rfl⟩
    · exact h.arcs a b ha hb ha0 hd
    · left; have := hall b hyN; omega

theorem Inv.done_mono {N : Nat} {src : Nat → Prop} {succ : Nat → List Nat} {W : Nat → Nat → Int} {D : Nat → Int} {S : List It} {done done' : Nat → Nat → Prop}
    (h : Inv N src succ W D S done) (hd : ∀ y x, x ∈ succ y → done' y x → done y x) : Inv N src succ W D S done' :=
  ⟨h.d, h.sorted, h.uniq, h.inN, h.keys, h.nneg, h.srcs, h.wit, h.witS, fun y x hy hx h0 k => h.arcs y x hy hx h0 (hd y x hx k)⟩
def looks (W : Nat → Nat → Int) (D : Nat → Int) (x : Nat) (S : List It) (ys : List Nat) : List It :=
  ys.foldl (fun S y => if D y < 0 then pushF S ((y : Int), D x + W x y) else S) S
theorem looks_snoc (W : Nat → Nat → Int) (D : Nat → Int) (x : Nat) (S : List It) (ys : List Nat) (y : Nat) :
    looks W D x S (ys ++ [y]) = if D y < 0 then pushF (looks W D x S ys) ((y : Int), D x + W x y) else looks W D x S ys := by
  simp [looks, List.foldl_append]
theorem Inv.looks {N : Nat} {src : Nat → Prop} {succ : Nat → List Nat} {W : Nat → Nat → Int} {D : Nat → Int} {x : Nat} (hn : Net N succ W) (hx : x < N) (hx0 : 0 ≤ D x) (hall : ∀ u, u < N → D u ≤ D x) :
    ∀ (ys : List Nat) (S : List It) (done : Nat → Nat → Prop), Inv N src succ W D S done → (∀ y ∈ ys, y ∈ succ x) → Inv N src succ W D (looks W D x S ys) (fun a b => done a b ∨ (a = x ∧ b ∈ ys))
  | [], S, done, h, _ => h.done_mono fun y z _ k => by simpa using k
  | y :: ys, S, done, h, hs => by
    have h1 := h.look hn hx (hs y (List.mem_cons_self ..)) hx0 hall
    have h2 := Inv.looks hn hx hx0 hall ys _ _ h1 fun z hz => hs z (List.mem_cons_of_mem _ hz)
    exact h2.done_mono fun a b _ k => by
      rcases k with k | ⟨k, k'⟩
      · exact .inl (.inl k)
      · rcases List.mem_cons.1 k' with e | e
        · exact .inl (.inr ⟨k, e⟩)
        · exact .inr ⟨k, e⟩
/-- a whole round -/
theorem Inv.round {N : Nat} {src : Nat → Prop} {succ : Nat → List Nat} {W : Nat → Nat → Int} {D : Nat → Int} {z : It} {S : List It} (hn : Net N succ W) (h : Inv N src succ W D (z :: S) (fun _ _ => True)) :
    Inv N src succ W (setD D z.1.toNat z.2) (Go.Proofs.Ytkdpfbefdhjmcaa.DistP.looks W (setD D z.1.toNat z.2) z.1.toNat S (succ z.1.toNat)) (fun _ _ => True) := by
  have hz := h.inN z (List.mem_cons_self ..)
  have h0 := h.nneg z (List.mem_cons_self ..)
  have e : setD D z.1.toNat z.2 z.1.toNat = z.2 := by simp [setD]
  have hall : ∀ u, u < N → setD D z.1.toNat z.2 u ≤ setD D z.1.toNat z.2 z.1.toNat := by
    intro u hu
    rw [e]
    unfold setD
    split
    · exact Int.le_refl _
    · exact h.keys z (List.mem_cons_self ..) u hu
  refine (Inv.looks hn hz.2.1 (by rw [e]; exact h0) hall (succ z.1.toNat) S _ h.pop fun y hy => hy).done_mono ?_
  intro a b hb _
  by_cases ha : a = z.1.toNat
  · right; subst ha; exact ⟨rfl, hb⟩
  · exact .inl ha
/-- the begin: the sources, each with nothing -/
theorem Inv.start {N : Nat} {src : Nat → Prop} {succ : Nat → List Nat} {W : Nat → Nat → Int} {S : List It} (hs : Sorted S) (hu : Uniq S)
    (hS : ∀ z ∈ S, 0 ≤ z.1 ∧ z.1.toNat < N ∧ src z.1.toNat ∧ z.2 = 0) (hall : ∀ x, x < N → src x → ((x : Int), (0 : Int)) ∈ S) : Inv N src succ W (fun _ => -1) S (fun _ _ => True) := by
  refine ⟨fun _ _ => .inr rfl, hs, hu, fun z hz => ⟨(hS z hz).1, (hS z hz).2.1, rfl⟩, fun z hz x _ => ?_, fun z hz => ?_, fun x hx h => .inr (hall x hx h), fun x _ h => ?_, fun z hz => .inl ⟨(hS z hz).2.2.1, (hS z hz).2.2.2⟩, fun y x _ _ h => ?_⟩
  · have := (hS z hz).2.2.2; omega
  · have := (hS z hz).2.2.2; omega
  · omega
  · omega

/-! ### again and again, till nothing changes -/
structure Relax (N : Nat) (src : Nat → Prop) (succ : Nat → List Nat) (W : Nat → Nat → Int) (D : Nat → Int) : Prop where
  a : ∀ x, x < N → src x → D x = 0
  b : ∀ x, x < N → ¬ src x → 0 ≤ D x → ∃ y, y < N ∧ x ∈ succ y ∧ 0 ≤ D y ∧ D y + W y x ≤ D x
  d : ∀ x, x < N → 0 ≤ D x ∨ D x = -1
theorem Relax.start {N : Nat} {src : Nat → Prop} [DecidablePred src] {succ : Nat → List Nat} {W : Nat → Nat → Int} : Relax N src succ W (fun x => if src x then 0 else -1) := by
  refine ⟨fun x _ h => by simp [h], fun x _ h h0 => ?_, fun x _ => ?_⟩
  · simp [h] at h0
  · by_cases h : src x <;> simp [h]
theorem Relax.step {N : Nat} {src : Nat → Prop} {succ : Nat → List Nat} {W : Nat → Nat → Int} {D : Nat → Int} {y x : Nat} (hn : Net N succ W) (h : Relax N src succ W D) (hy : y < N) (hx : x ∈ succ y) (hy0 : 0 ≤ D y)
    (hc : D x < 0 ∨ D y + W y x < D x) : Relax N src succ W (setD D x (D y + W y x)) := by
  have hp := hn.pos y x hy hx
  have hxN := hn.lt y x hy hx
  have hns : ¬ src x := by intro hs; have := h.a x hxN hs; omega
  have hle : ∀ u, u < N → 0 ≤ D u → 0 ≤ setD D x (D y + W y x) u ∧ setD D x (D y + W y x) u ≤ D u := by
    intro u _ hu
    unfold setD
    split
    · rename_i e; subst e; omega
    · omega
  refine ⟨?_, ?_, ?_⟩
  · intro u hu hs
    unfold setD
    rw [if_neg (by rintro rfl; exact hns hs)]
    exact h.a u hu hs
  · intro u hu hs h0
    by_cases e : u = x
    · subst e
      obtain ⟨l1, l2⟩ := hle y hy hy0
      refine ⟨y, hy, hx, l1, ?_⟩
      have e2 : setD D u (D y + W y u) u = D y + W y u := by simp [setD]
      omega
    · have e2 : setD D x (D y + W y x) u = D u := by simp [setD, e]
      rw [e2] at h0 ⊢
      obtain ⟨v, hv, hm, hv0, hle2⟩ := h.b u hu hs h0
      obtain ⟨l1, l2⟩ := hle v hv hv0
      exact ⟨v, hv, hm, l1, by omega⟩
  · intro u hu
    unfold setD
    split
    · left; omega
    · exact h.d u hu
theorem Relax.final {N : Nat} {src : Nat → Prop} {succ : Nat → List Nat} {W : Nat → Nat → Int} {D : Nat → Int} (h : Relax N src succ W D) (hc : ∀ y x, y < N → x ∈ succ y → 0 ≤ D y → 0 ≤ D x ∧ D x ≤ D y + W y x) : IsD N src succ W D := by
  refine ⟨h.a, ?_, hc, h.d⟩
  intro x hx hs h0
  obtain ⟨y, hy, hm, hy0, hle⟩ := h.b x hx hs h0
  have := hc y x hy hm hy0
  exact ⟨y, hy, hm, hy0, by omega⟩
end Go.Proofs.Ytkdpfbefdhjmcaa.DistP
