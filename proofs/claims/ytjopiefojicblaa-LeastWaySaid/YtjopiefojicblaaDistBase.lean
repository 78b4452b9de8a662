/- DistBase: DistNet, DistRun, Repeat, DistAt, one behind the other. -/
import Derived.Test.YtjopiefojicblaaHeapUse
import Derived.Test.YtjopiefojicblaaStrides
import Derived.Test.YtjopiefojicblaaGraphs
import Derived.Deep.RegionLaw
import Derived.Deep.RegionHeld3
import Derived.Laws.CopyOwn
import Derived.Test.YtjopiefojicblaaBase
import Derived.Test.YtjopiefojicblaaTurnsAll
import Derived.Test.YtjopiefojicblaaOuts
/- The distances of a town, as lists: that there are some, that they are one, and what they keep to. No program here. -/
set_option linter.unusedVariables false
set_option linter.unusedSimpArgs false
namespace Go.Proofs.Ytjopiefojicblaa
open Go.RowKit HeapP DistP
abbrev Es := List (Int × Int × Int)
abbrev Bs := List (Int × Int)
def dl (L : List Int) : Nat → Int := fun x => L.getD x (-1)
theorem dl_set {L : List Int} {x : Nat} (hx : x < L.length) (v : Int) : dl (L.set x v) = setD (dl L) x v := by
  funext y
  show (L.set x v).getD y (-1) = if y = x then v else L.getD y (-1)
  by_cases h : y = x
  · subst h; simp [List.getD_eq_getElem?_getD, hx]
  · rw [if_neg h, List.getD_eq_getElem?_getD, List.getD_eq_getElem?_getD, List.getElem?_set_ne (by omega)]
def negs (L : List Int) : Nat := L.countP fun x => decide (x < 0)
theorem negs_set {L : List Int} {x : Nat} (hx : x < L.length) (h : dl L x < 0) {v : Int} (hv : 0 ≤ v) : negs (L.set x v) + 1 = negs L := by
  unfold negs
  have e : dl L x = L[x] := by unfold dl; rw [List.getD_eq_getElem?_getD, List.getElem?_eq_getElem hx]; rfl
  rw [e] at h
  have hp : 0 < L.countP fun x => decide (x < 0) := List.countP_pos_iff.2 ⟨L[x], List.getElem_mem hx, by simpa using h⟩
  rw [List.countP_set hx]
  have h1 : decide (L[x] < 0) = true := by simpa using h
  have h2 : decide (v < 0) = false := by simp; omega
  rw [if_pos h1, h2]
  simp
  omega
/-- from any state on there is an end -/
theorem inv_ends {N : Nat} {src : Nat → Prop} {succ : Nat → List Nat} {W : Nat → Nat → Int} (hn : Net N succ W) (n : Nat) : ∀ (L : List Int) (S : List It), L.length = N → negs L ≤ n → Inv N src succ W (dl L) S (fun _ _ => True) → ∃ L', L'.length = N ∧ IsD N src succ W (dl L') := by
  induction n with
  | zero =>
    intro L S hl hg h
    cases S with
    | nil => exact ⟨L, hl, h.final⟩
    | cons z S =>
      have hz := h.inN z (List.mem_cons_self ..)
      have := negs_set (L := L) (x := z.1.toNat) (by omega) (by omega) (h.nneg z (List.mem_cons_self ..))
      omega
  | succ n ih =>
    intro L S hl hg h
    cases S with
    | nil => exact ⟨L, hl, h.final⟩
    | cons z S =>
      have hz := h.inN z (List.mem_cons_self ..)
      have hc := negs_set (L := L) (x := z.1.toNat) (by omega) (by omega) (h.nneg z (List.mem_cons_self ..))
      have hr := h.round hn
      rw [← dl_set (by omega)] at hr
      exact ih _ _ (by rw [List.length_set]; exact hl) (by omega) hr
/-- the sources, pushed one by one -/
def seeds (l : List Nat) : List It := l.foldl (fun (S : List It) (x : Nat) => pushF S ((x : Int), 0)) []
theorem seeds_snoc (l : List Nat) (x : Nat) : seeds (l ++ [x]) = pushF (seeds l) ((x : Int), 0) := by simp [seeds, List.foldl_append]
theorem seeds_ok (n : Nat) : ∀ l : List Nat, l.length = n → Sorted (seeds l) ∧ Uniq (seeds l) ∧ (∀ z ∈ seeds l, ∃ x ∈ l, z = ((x : Int), (0 : Int))) ∧ ∀ x ∈ l, ((x : Int), (0 : Int)) ∈ seeds l := by
  induction n with
  | zero =>
    intro l h
    obtain rfl := List.eq_nil_of_length_eq_zero h
    exact ⟨List.Pairwise.nil, fun y hy => by simp [seeds] at hy, fun z hz => by simp [seeds] at hz, fun x hx => by simp at hx⟩
  | succ n ih =>
    intro l h
    obtain ⟨l', x, rfl⟩ : ∃ l' x, l = l' ++ [x] := ⟨l.dropLast, l.getLast (by intro e; subst e; simp at h), (List.dropLast_concat_getLast _).symm⟩
    obtain ⟨h1, h2, h3, h4⟩ := ih l' (by simpa using h)
    rw [seeds_snoc]
    refine ⟨pushF_sorted h1, pushF_uniq h2, fun z hz => ?_, fun y hy => ?_⟩
    · rcases pushF_ids hz with rfl | hz
      · exact ⟨x, by simp, rfl⟩
      · obtain ⟨y, hy, e⟩ := h3 z hz
        exact ⟨y, by simp [hy], e⟩
    · by_cases e : y = x
      · subst e
        obtain ⟨z, hz, e1, e2⟩ := pushF_there (seeds l') ((y : Int), 0)
        have : z = ((y : Int), (0 : Int)) := by
          rcases pushF_ids hz with rfl | hz'
          · rfl
          · obtain ⟨q, _, rfl⟩ := h3 z hz'
            dsimp only at e1
            rw [e1]
        rw [this] at hz; exact hz
      · exact pushF_other (h4 y (by simp at hy; rcases hy with hy | hy; exact hy; exact absurd hy e)) (by simp; omega)
theorem seeds_inv {N : Nat} {src : Nat → Prop} {succ : Nat → List Nat} {W : Nat → Nat → Int} {l : List Nat} (hl : ∀ x, x ∈ l ↔ x < N ∧ src x) : Inv N src succ W (dl (List.replicate N (-1))) (seeds l) (fun _ _ => True) := by
  obtain ⟨h1, h2, h3, h4⟩ := seeds_ok l.length l rfl
  have e : dl (List.replicate N (-1)) = fun _ => -1 := by
    funext x
    unfold dl
    rw [List.getD_eq_getElem?_getD, List.getElem?_replicate]
    split <;> rfl
  rw [e]
  refine Inv.start h1 h2 (fun z hz => ?_) fun x hx hs => h4 x ((hl x).2 ⟨hx, hs⟩)
  obtain ⟨x, hx, rfl⟩ := h3 z hz
  obtain ⟨h5, h6⟩ := (hl x).1 hx
  exact ⟨by simp, by simpa using h5, by simpa using h6, rfl⟩
theorem negs_start (N : Nat) : negs (List.replicate N (-1)) = N := by
  unfold negs; rw [List.countP_replicate]; simp
open Classical in
/-- the distances -/
noncomputable def distL (N : Nat) (src : Nat → Prop) (succ : Nat → List Nat) (W : Nat → Nat → Int) : List Int := if h : ∃ L : List Int, L.length = N ∧ IsD N src succ W (dl L) then Classical.choose h else []
theorem distL_is {N : Nat} {src : Nat → Prop} {succ : Nat → List Nat} {W : Nat → Nat → Int} (hn : Net N succ W) : (distL N src succ W).length = N ∧ IsD N src succ W (dl (distL N src succ W)) := by
  classical
  have h : ∃ L : List Int, L.length = N ∧ IsD N src succ W (dl L) := by
    refine inv_ends hn N (List.replicate N (-1)) (seeds ((List.range N).filter fun x => decide (src x))) (by simp) (by rw [negs_start]; exact Nat.le_refl _) (seeds_inv fun x => ?_)
    simp
  unfold distL
  rw [dif_pos h]
  exact Classical.choose_spec h
theorem distL_eq {N : Nat} {src : Nat → Prop} {succ : Nat → List Nat} {W : Nat → Nat → Int} (hn : Net N succ W) {L : List Int} (hl : L.length = N) (h : IsD N src succ W (dl L)) : L = distL N src succ W := by
  obtain ⟨h1, h2⟩ := distL_is (src := src) hn
  apply List.ext_getElem (by omega)
  intro x hx hy
  have := h.uniq hn h2 x (by omega)
  unfold dl at this
  rw [List.getD_eq_getElem?_getD, List.getD_eq_getElem?_getD, List.getElem?_eq_getElem hx, List.getElem?_eq_getElem hy] at this
  exact this
/-! ### a town's -/
def shutB (cl : List Bool) (e : Nat) : Bool := cl.getD e false
def wN (es : Es) (x : Nat) : Int := (es.getD x (0, 0, 0)).2.2
def prevN (es : Es) (bs : Bs) (e : Nat) : List Nat := (List.range es.length).filter fun i => turnB es bs ((i : Nat) : Int) ((e : Nat) : Int)
def nextN (es : Es) (bs : Bs) (e : Nat) : List Nat := (List.range es.length).filter fun i => turnB es bs ((e : Nat) : Int) ((i : Nat) : Int)
theorem prevT_eq (es : Es) (bs : Bs) (e : Nat) : prevT es bs (e : Int) = (prevN es bs e).map fun i => ((i : Nat) : Int) := rfl
theorem nextT_eq (es : Es) (bs : Bs) (e : Nat) : nextT es bs (e : Int) = (nextN es bs e).map fun i => ((i : Nat) : Int) := rfl
def toSrc (es : Es) (v : Int) (x : Nat) : Prop := (es.getD x (0, 0, 0)).2.1 = v
def toSucc (es : Es) (bs : Bs) (cl : List Bool) (y : Nat) : List Nat := if shutB cl y = true then [] else prevN es bs y
def toW (es : Es) (y x : Nat) : Int := wN es y
def fromSucc (es : Es) (bs : Bs) (cl : List Bool) (y : Nat) : List Nat := (nextN es bs y).filter fun i => !shutB cl i
def fromW (es : Es) (y x : Nat) : Int := wN es x
theorem prevN_mem {es : Es} {bs : Bs} {e x : Nat} : x ∈ prevN es bs e ↔ x < es.length ∧ turnB es bs ((x : Nat) : Int) ((e : Nat) : Int) = true := by simp [prevN]
theorem nextN_mem {es : Es} {bs : Bs} {e x : Nat} : x ∈ nextN es bs e ↔ x < es.length ∧ turnB es bs ((e : Nat) : Int) ((x : Nat) : Int) = true := by simp [nextN]
theorem toSucc_mem {es : Es} {bs : Bs} {cl : List Bool} {y x : Nat} : x ∈ toSucc es bs cl y ↔ shutB cl y = false ∧ x < es.length ∧ turnB es bs ((x : Nat) : Int) ((y : Nat) : Int) = true := by
  unfold toSucc
  split
  · rename_i h; simp [h]
  · rename_i h; rw [prevN_mem]; simp at h; simp [h]
theorem fromSucc_mem {es : Es} {bs : Bs} {cl : List Bool} {y x : Nat} : x ∈ fromSucc es bs cl y ↔ shutB cl x = false ∧ x < es.length ∧ turnB es bs ((y : Nat) : Int) ((x : Nat) : Int) = true := by
  unfold fromSucc
  rw [List.mem_filter, nextN_mem]
  simp; constructor <;> (intro h; simp [h])
theorem wN_bd {ns bs : Bs} {es : Es} (h : mayB ns es bs = true) (x : Nat) : 0 ≤ wN es x ∧ wN es x ≤ 65535 ∧ (x < es.length → 1 ≤ wN es x) := w_bd h x
theorem to_net {ns bs : Bs} {es : Es} (h : mayB ns es bs = true) (cl : List Bool) : Net es.length (toSucc es bs cl) (toW es) :=
  ⟨fun y x _ hx => (toSucc_mem.1 hx).2.1, fun y x hy _ => (wN_bd h y).2.2 hy⟩
theorem from_net {ns bs : Bs} {es : Es} (h : mayB ns es bs = true) (cl : List Bool) : Net es.length (fromSucc es bs cl) (fromW es) :=
  ⟨fun y x _ hx => (fromSucc_mem.1 hx).2.1, fun y x _ hx => (wN_bd h x).2.2 (fromSucc_mem.1 hx).2.1⟩
noncomputable def toD (es : Es) (bs : Bs) (cl : List Bool) (v : Int) : List Int := distL es.length (toSrc es v) (toSucc es bs cl) (toW es)
noncomputable def fromD (es : Es) (bs : Bs) (cl : List Bool) (e : Nat) : List Int := distL es.length (fun x => x = e) (fromSucc es bs cl) (fromW es)
/-- what To and From tell: nothing, where the number is none -/
noncomputable def toT (ns : Bs) (es : Es) (bs : Bs) (cl : List Bool) (v : Int) : List Int := if inB 0 v ((ns.length : Int) - 1) = true then toD es bs cl v else []
noncomputable def fromT (es : Es) (bs : Bs) (cl : List Bool) (e : Int) : List Int := if inB 0 e ((es.length : Int) - 1) = true then fromD es bs cl e.toNat else []
theorem toD_is {ns bs : Bs} {es : Es} (h : mayB ns es bs = true) (cl : List Bool) (v : Int) : (toD es bs cl v).length = es.length ∧ IsD es.length (toSrc es v) (toSucc es bs cl) (toW es) (dl (toD es bs cl v)) := distL_is (to_net h cl)
theorem fromD_is {ns bs : Bs} {es : Es} (h : mayB ns es bs = true) (cl : List Bool) (e : Nat) : (fromD es bs cl e).length = es.length ∧ IsD es.length (fun x => x = e) (fromSucc es bs cl) (fromW es) (dl (fromD es bs cl e)) := distL_is (from_net h cl)
/-- no key, no distance is great -/
structure Small (N : Nat) (L : List Int) : Prop where
  le : ∀ x, x < N → dl L x ≤ 65535 * ((N : Int) - negs L)
theorem small_start (N : Nat) : Small N (List.replicate N (-1)) := ⟨fun x hx => by
  rw [negs_start]
  have : dl (List.replicate N (-1)) x = -1 := by unfold dl; rw [List.getD_eq_getElem?_getD, List.getElem?_replicate, if_pos hx]; rfl
  omega⟩
/-! ### both ways -/
section
variable {ns bs : Bs} {es : Es} {cl : List Bool} {v : Int} {a : Nat} {T F : Nat → Int}
theorem both_le (h : mayB ns es bs = true) (hT : IsD es.length (toSrc es v) (toSucc es bs cl) (toW es) T) (hF : IsD es.length (fun x => x = a) (fromSucc es bs cl) (fromW es) F) (n : Nat) :
    ∀ x, x < es.length → 0 ≤ F x → F x ≤ (n : Int) → 0 ≤ T x → 0 ≤ T a ∧ T a ≤ F x + T x := by
  induction n with
  | zero =>
    intro x hx h0 h1 hT0
    by_cases e : x = a
    · subst e; omega
    · obtain ⟨y, hy, hm, hy0, e2⟩ := hF.b x hx e h0
      have : 1 ≤ fromW es y x := (wN_bd h x).2.2 hx
      omega
  | succ n ih =>
    intro x hx h0 h1 hT0
    by_cases e : x = a
    · subst e; omega
    · obtain ⟨y, hy, hm, hy0, e2⟩ := hF.b x hx e h0
      have hp : 1 ≤ wN es x := (wN_bd h x).2.2 hx
      have e3 : fromW es y x = wN es x := rfl
      obtain ⟨m1, _, m3⟩ := fromSucc_mem.1 hm
      have hc := hT.c x y hx (toSucc_mem.2 ⟨m1, hy, m3⟩) hT0
      have e4 : toW es x y = wN es x := rfl
      have := ih y hy hy0 (by omega) hc.1
      omega
theorem both_some (h : mayB ns es bs = true) (hT : IsD es.length (toSrc es v) (toSucc es bs cl) (toW es) T) (hF : IsD es.length (fun x => x = a) (fromSucc es bs cl) (fromW es) F) (n : Nat) :
    ∀ x, x < es.length → 0 ≤ T x → T x ≤ (n : Int) → 0 ≤ F x → ∃ i, i < es.length ∧ toSrc es v i ∧ 0 ≤ F i ∧ F i ≤ F x + T x := by
  induction n with
  | zero =>
    intro x hx h0 h1 hF0
    by_cases e : toSrc es v x
    · exact ⟨x, hx, e, hF0, by omega⟩
    · obtain ⟨y, hy, hm, hy0, e2⟩ := hT.b x hx e h0
      have : 1 ≤ toW es y x := (wN_bd h y).2.2 hy
      omega
  | succ n ih =>
    intro x hx h0 h1 hF0
    by_cases e : toSrc es v x
    · exact ⟨x, hx, e, hF0, by omega⟩
    · obtain ⟨y, hy, hm, hy0, e2⟩ := hT.b x hx e h0
      have hp : 1 ≤ wN es y := (wN_bd h y).2.2 hy
      have e3 : toW es y x = wN es y := rfl
      obtain ⟨m1, _, m3⟩ := toSucc_mem.1 hm
      have hc := hF.c x y hx (fromSucc_mem.2 ⟨m1, hy, m3⟩) hF0
      have e4 : fromW es x y = wN es y := rfl
      obtain ⟨i, i1, i2, i3, i4⟩ := ih y hy hy0 (by omega) hc.1
      exact ⟨i, i1, i2, i3, by omega⟩
/-- the nearest edge that ends there is as far as the node -/
theorem both_best (h : mayB ns es bs = true) (hT : IsD es.length (toSrc es v) (toSucc es bs cl) (toW es) T) (hF : IsD es.length (fun x => x = a) (fromSucc es bs cl) (fromW es) F) (ha : a < es.length) :
    (0 ≤ T a → ∃ i, i < es.length ∧ toSrc es v i ∧ 0 ≤ F i ∧ F i = T a) ∧ ∀ i, i < es.length → toSrc es v i → 0 ≤ F i → 0 ≤ T a ∧ T a ≤ F i := by
  have hlow : ∀ i, i < es.length → toSrc es v i → 0 ≤ F i → 0 ≤ T a ∧ T a ≤ F i := by
    intro i hi hs h0
    have e := hT.a i hi hs
    have := both_le h hT hF (F i).toNat i hi h0 (by omega) (by omega)
    omega
  refine ⟨fun h0 => ?_, hlow⟩
  have e := hF.a a ha rfl
  obtain ⟨i, i1, i2, i3, i4⟩ := both_some h hT hF (T a).toNat a ha h0 (by omega) (by omega)
  have := hlow i i1 i2 i3
  exact ⟨i, i1, i2, i3, by omega⟩
end
/-! ### more closed -/
theorem to_more {ns bs : Bs} {es : Es} {c1 c2 : List Bool} {v : Int} {X Y : Nat → Int} (h : mayB ns es bs = true) (hc : ∀ e, shutB c1 e = true → shutB c2 e = true) (hX : IsD es.length (toSrc es v) (toSucc es bs c1) (toW es) X) (hY : IsD es.length (toSrc es v) (toSucc es bs c2) (toW es) Y) (n : Nat) :
    ∀ x, x < es.length → 0 ≤ Y x → Y x ≤ (n : Int) → 0 ≤ X x ∧ X x ≤ Y x := by
  induction n with
  | zero =>
    intro x hx h0 h1
    by_cases e : toSrc es v x
    · rw [hX.a x hx e]; omega
    · obtain ⟨y, hy, hm, hy0, e2⟩ := hY.b x hx e h0
      have : 1 ≤ toW es y x := (wN_bd h y).2.2 hy
      omega
  | succ n ih =>
    intro x hx h0 h1
    by_cases e : toSrc es v x
    · rw [hX.a x hx e]; omega
    · obtain ⟨y, hy, hm, hy0, e2⟩ := hY.b x hx e h0
      have hp : 1 ≤ toW es y x := (wN_bd h y).2.2 hy
      obtain ⟨i1, i2⟩ := ih y hy hy0 (by omega)
      obtain ⟨m1, m2, m3⟩ := toSucc_mem.1 hm
      have hm1 : shutB c1 y = false := by cases hh : shutB c1 y with
        | false => rfl
        | true => rw [hc y hh] at m1; cases m1
      have := hX.c y x hy (toSucc_mem.2 ⟨hm1, m2, m3⟩) i1
      omega
theorem from_more {ns bs : Bs} {es : Es} {c1 c2 : List Bool} {a : Nat} {X Y : Nat → Int} (h : mayB ns es bs = true) (hc : ∀ e, shutB c1 e = true → shutB c2 e = true) (hX : IsD es.length (fun x => x = a) (fromSucc es bs c1) (fromW es) X) (hY : IsD es.length (fun x => x = a) (fromSucc es bs c2) (fromW es) Y) (n : Nat) :
    ∀ x, x < es.length → 0 ≤ Y x → Y x ≤ (n : Int) → 0 ≤ X x ∧ X x ≤ Y x := by
  induction n with
  | zero =>
    intro x hx h0 h1
    by_cases e : x = a
    · rw [hX.a x hx e]; omega
    · obtain ⟨y, hy, hm, hy0, e2⟩ := hY.b x hx e h0
      have : 1 ≤ fromW es y x := (wN_bd h x).2.2 hx
      omega
  | succ n ih =>
    intro x hx h0 h1
    by_cases e : x = a
    · rw [hX.a x hx e]; omega
    · obtain ⟨y, hy, hm, hy0, e2⟩ := hY.b x hx e h0
      have hp : 1 ≤ fromW es y x := (wN_bd h x).2.2 hx
      obtain ⟨i1, i2⟩ := ih y hy hy0 (by omega)
      obtain ⟨m1, m2, m3⟩ := fromSucc_mem.1 hm
      have hm1 : shutB c1 x = false := by cases hh : shutB c1 x with
        | false => rfl
        | true => rw [hc x hh] at m1; cases m1
      have := hX.c y x hy (fromSucc_mem.2 ⟨hm1, m2, m3⟩) i1
      omega
end Go.Proofs.Ytjopiefojicblaa
/- The least first, and again and again till nothing changes, as lists that are stored into. No program here. -/
set_option linter.unusedVariables false
set_option linter.unusedSimpArgs false
namespace Go.Proofs.Ytjopiefojicblaa
open Go.RowKit HeapP DistP
theorem nodup_len (N : Nat) : ∀ l : List Nat, l.Nodup → (∀ x ∈ l, x < N) → l.length ≤ N := by
  induction N with
  | zero =>
    intro l _ h
    cases l with
    | nil => simp
    | cons x l => exact absurd (h x (List.mem_cons_self ..)) (by omega)
  | succ N ih =>
    intro l hn h
    have h1 := ih (l.erase N) (hn.erase N) fun x hx => by
      have := (hn.mem_erase_iff).1 hx
      have := h x this.2
      omega
    have h2 := List.length_erase (a := N) (l := l)
    split at h2 <;> omega
theorem inv_len {N : Nat} {src : Nat → Prop} {succ : Nat → List Nat} {W : Nat → Nat → Int} {D : Nat → Int} {S : List It} {done : Nat → Nat → Prop} (h : Inv N src succ W D S done) : S.length ≤ N := by
  have h1 : (S.map fun z => z.1.toNat).Nodup := by
    unfold List.Nodup
    rw [List.pairwise_map]
    refine List.Pairwise.imp_of_mem ?_ h.sorted
    intro a b ha hb hab e
    have ea := h.inN a ha
    have eb := h.inN b hb
    have := h.uniq a ha b hb (by omega)
    subst this
    exact ahead_irrefl _ hab
  have := nodup_len N _ h1 fun x hx => by
    obtain ⟨z, hz, rfl⟩ := List.mem_map.1 hx
    exact (h.inN z hz).2.1
  simpa using this
theorem negs_le {L : List Int} : negs L ≤ L.length := List.countP_le_length
theorem small_pop {N : Nat} {src : Nat → Prop} {succ : Nat → List Nat} {W : Nat → Nat → Int} {L : List Int} {z : It} {S : List It} (hl : L.length = N) (hW : ∀ y x, W y x ≤ 65535) (h : Inv N src succ W (dl L) (z :: S) (fun _ _ => True)) (hs : Small N L) :
    Small N (L.set z.1.toNat z.2) ∧ negs (L.set z.1.toNat z.2) + 1 = negs L ∧ 0 ≤ z.2 ∧ z.2 ≤ 65535 * (N : Int) := by
  have hz := h.inN z (List.mem_cons_self ..)
  have h0 := h.nneg z (List.mem_cons_self ..)
  have hc := negs_set (L := L) (x := z.1.toNat) (by omega) (by omega) h0
  have hn := negs_le (L := L)
  have hzb : z.2 ≤ 65535 * ((N : Int) - negs L) + 65535 := by
    rcases h.witS z (List.mem_cons_self ..) with ⟨_, e⟩ | ⟨y, hy, _, hy0, e⟩
    · rw [hl] at hn; omega
    · have := hs.le y hy
      have := hW y z.1.toNat
      omega
  refine ⟨⟨fun x hx => ?_⟩, hc, h0, by rw [hl] at hn; omega⟩
  rw [dl_set (by omega)]
  unfold setD
  split
  · omega
  · have := hs.le x hx; omega
theorem looks_to {W : Nat → Nat → Int} {D : Nat → Int} {x : Nat} {S : List It} {ys : List Nat} {k : Nat} (hk : k < ys.length) :
    looks W D x S (ys.take (k + 1)) = if D (ys.getD k 0) < 0 then pushF (looks W D x S (ys.take k)) ((ys.getD k 0 : Nat), D x + W x (ys.getD k 0)) else looks W D x S (ys.take k) := by
  rw [List.take_succ_eq_append_getElem hk, looks_snoc, List.getD_eq_getElem?_getD, List.getElem?_eq_getElem hk]; rfl
theorem filter_take_step {p : Nat → Bool} {ys : List Nat} {k : Nat} (hk : k < ys.length) : (ys.take (k + 1)).filter p = if p (ys.getD k 0) = true then (ys.take k).filter p ++ [ys.getD k 0] else (ys.take k).filter p := by
  rw [List.take_succ_eq_append_getElem hk, List.filter_append, List.getD_eq_getElem?_getD, List.getElem?_eq_getElem hk]
  by_cases h : p ys[k] = true
  · simp [h]
  · simp [h]
theorem looks_from {W : Nat → Nat → Int} {D : Nat → Int} {x : Nat} {S : List It} {p : Nat → Bool} {ys : List Nat} {k : Nat} (hk : k < ys.length) :
    looks W D x S ((ys.take (k + 1)).filter p) = if D (ys.getD k 0) < 0 ∧ p (ys.getD k 0) = true then pushF (looks W D x S ((ys.take k).filter p)) ((ys.getD k 0 : Nat), D x + W x (ys.getD k 0)) else looks W D x S ((ys.take k).filter p) := by
  rw [filter_take_step hk]
  by_cases h : p (ys.getD k 0) = true
  · rw [if_pos h, looks_snoc]
    by_cases h2 : D (ys.getD k 0) < 0
    · rw [if_pos h2, if_pos ⟨h2, h⟩]
    · rw [if_neg h2, if_neg (fun h3 => h2 h3.1)]
  · rw [if_neg h, if_neg (fun h3 => h h3.2)]
/-- the heap while the neighbours are looked at is no larger than the net -/
theorem looks_len {N : Nat} {src : Nat → Prop} {succ : Nat → List Nat} {W : Nat → Nat → Int} {L : List Int} {z : It} {S : List It} (hn : Net N succ W) (hl : L.length = N) (h : Inv N src succ W (dl L) (z :: S) (fun _ _ => True)) {ys : List Nat} (hs : ∀ y ∈ ys, y ∈ succ z.1.toNat) :
    (looks W (dl (L.set z.1.toNat z.2)) z.1.toNat S ys).length ≤ N := by
  have hz := h.inN z (List.mem_cons_self ..)
  have h0 := h.nneg z (List.mem_cons_self ..)
  rw [dl_set (by omega)]
  have e : setD (dl L) z.1.toNat z.2 z.1.toNat = z.2 := by simp [setD]
  have hall : ∀ u, u < N → setD (dl L) z.1.toNat z.2 u ≤ setD (dl L) z.1.toNat z.2 z.1.toNat := by
    intro u hu
    rw [e]
    unfold setD
    split
    · exact Int.le_refl _
    · exact h.keys z (List.mem_cons_self ..) u hu
  exact inv_len (Inv.looks hn hz.2.1 (by rw [e]; exact h0) hall ys S _ h.pop hs)
/-! ### again and again -/
def potI (x : Int) : Nat := if x < 0 then 1073741824 else x.toNat
def pot (L : List Int) : Nat := (L.map potI).sum
theorem sum_set (l : List Nat) : ∀ (i v : Nat), (h : i < l.length) → (l.set i v).sum + l[i] = l.sum + v := by
  induction l with
  | nil => intro i v h; simp at h
  | cons a l ih =>
    intro i v h
    cases i with
    | zero => simp; omega
    | succ i =>
      have := ih i v (by simpa using h)
      simp; omega
theorem pot_set {L : List Int} {x : Nat} (hx : x < L.length) {v : Int} (h0 : 0 ≤ v) (hs : v < 1073741824) (hd : dl L x < 0 ∨ v < dl L x) : pot (L.set x v) < pot L := by
  unfold pot
  have e : dl L x = L[x] := by unfold dl; rw [List.getD_eq_getElem?_getD, List.getElem?_eq_getElem hx]; rfl
  rw [e] at hd
  have h1 := sum_set (L.map potI) x (potI v) (by simpa using hx)
  rw [List.getElem_map] at h1
  rw [List.map_set]
  have h2 : potI v = v.toNat := by unfold potI; rw [if_neg (by omega)]
  have h3 : potI v < potI L[x] := by
    rw [h2]; unfold potI
    split <;> omega
  omega
/-- one arc: from y, x is as far as y and the arc's weight -/
structure PassR (N : Nat) (src : Nat → Prop) (succ : Nat → List Nat) (W : Nat → Nat → Int) (L0 L : List Int) (again : Bool) (seen : Nat → Nat → Prop) : Prop where
  len : L.length = N
  rel : Relax N src succ W (dl L)
  small : Small N L
  end_ : again = false → L = L0 ∧ ∀ y x, seen y x → y < N → x ∈ succ y → 0 ≤ dl L y → 0 ≤ dl L x ∧ dl L x ≤ dl L y + W y x
  pot_ : again = true → pot L < pot L0
theorem PassR.start {N : Nat} {src : Nat → Prop} {succ : Nat → List Nat} {W : Nat → Nat → Int} {L : List Int} (hl : L.length = N) (h : Relax N src succ W (dl L)) (hs : Small N L) : PassR N src succ W L L false (fun _ _ => False) :=
  ⟨hl, h, hs, fun _ => ⟨rfl, fun _ _ h => h.elim⟩, fun h => by cases h⟩
theorem PassR.skip {N : Nat} {src : Nat → Prop} {succ : Nat → List Nat} {W : Nat → Nat → Int} {L0 L : List Int} {again : Bool} {seen seen' : Nat → Nat → Prop} (h : PassR N src succ W L0 L again seen)
    (hs : ∀ y x, seen' y x → seen y x ∨ (y < N → x ∈ succ y → 0 ≤ dl L y → 0 ≤ dl L x ∧ dl L x ≤ dl L y + W y x)) : PassR N src succ W L0 L again seen' :=
  ⟨h.len, h.rel, h.small, fun e => ⟨(h.end_ e).1, fun y x hyx a b c => by
    rcases hs y x hyx with hh | hh
    · exact (h.end_ e).2 y x hh a b c
    · exact hh a b c⟩, h.pot_⟩
theorem small_relax {N : Nat} {L : List Int} (hl : L.length = N) (hs : Small N L) {y x : Nat} (hx : x < N) (hy : y < N) (hy0 : 0 ≤ dl L y) {w : Int} (hw0 : 1 ≤ w) (hw : w ≤ 65535) (hd : dl L x < 0 ∨ dl L y + w < dl L x) : Small N (L.set x (dl L y + w)) := by
  have hyb := hs.le y hy
  refine ⟨fun u hu => ?_⟩
  rw [dl_set (by omega)]
  by_cases hn : dl L x < 0
  · have hc := negs_set (L := L) (x := x) (by omega) hn (v := dl L y + w) (by omega)
    unfold setD
    split
    · omega
    · have := hs.le u hu; omega
  · have he : negs (L.set x (dl L y + w)) = negs L := by
      unfold negs
      have e : dl L x = L[x]'(by omega) := by unfold dl; rw [List.getD_eq_getElem?_getD, List.getElem?_eq_getElem (by omega)]; rfl
      rw [List.countP_set (by omega)]
      rw [if_neg (by simp; omega), if_neg (by simp; omega)]; omega
    rw [he]
    unfold setD
    split
    · have := hs.le x hx; omega
    · exact hs.le u hu
theorem PassR.put {N : Nat} {src : Nat → Prop} {succ : Nat → List Nat} {W : Nat → Nat → Int} {L0 L : List Int} {again : Bool} {seen seen' : Nat → Nat → Prop} {y x : Nat} (hn : Net N succ W) (hW : ∀ y x, W y x ≤ 65535) (hN : N ≤ 512)
    (h : PassR N src succ W L0 L again seen) (hy : y < N) (hx : x ∈ succ y) (hy0 : 0 ≤ dl L y) (hd : dl L x < 0 ∨ dl L y + W y x < dl L x) : PassR N src succ W L0 (L.set x (dl L y + W y x)) true seen' := by
  have hxN := hn.lt y x hy hx
  have hp := hn.pos y x hy hx
  have hlx : x < L.length := by rw [h.len]; exact hxN
  have hyb := h.small.le y hy
  have hpt := pot_set (L := L) (x := x) hlx (v := dl L y + W y x) (by omega) (by have := hW y x; omega) hd
  refine ⟨by rw [List.length_set]; exact h.len, ?_, small_relax h.len h.small hxN hy hy0 hp (hW y x) hd, fun e => (by cases e), fun _ => ?_⟩
  · rw [dl_set hlx]
    exact h.rel.step hn hy hx hy0 hd
  · cases again with
    | false => rw [← (h.end_ rfl).1]; exact hpt
    | true => exact Nat.lt_trans hpt (h.pot_ rfl)
theorem PassR.final {N : Nat} {src : Nat → Prop} {succ : Nat → List Nat} {W : Nat → Nat → Int} {L0 L : List Int} {seen : Nat → Nat → Prop} (h : PassR N src succ W L0 L false seen) (hs : ∀ y x, y < N → x ∈ succ y → seen y x) : IsD N src succ W (dl L) :=
  h.rel.final fun y x hy hx h0 => (h.end_ rfl).2 y x (hs y x hy hx) hy hx h0
/-- the begin of both -/
theorem relax_list {N : Nat} {src : Nat → Prop} [DecidablePred src] {succ : Nat → List Nat} {W : Nat → Nat → Int} : Relax N src succ W (dl ((List.range N).map fun x => if src x then 0 else -1)) := by
  have e : ∀ x, x < N → dl ((List.range N).map fun x => if src x then (0 : Int) else -1) x = if src x then 0 else -1 := by
    intro x hx
    unfold dl
    rw [List.getD_eq_getElem?_getD]
    simp [hx]
  refine ⟨fun x hx h => ?_, fun x hx h h0 => ?_, fun x hx => ?_⟩
  · rw [e x hx, if_pos h]
  · rw [e x hx, if_neg h] at h0; omega
  · rw [e x hx]; split
    · exact .inl (Int.le_refl _)
    · exact .inr rfl
theorem small_list {N : Nat} {src : Nat → Prop} [DecidablePred src] : Small N ((List.range N).map fun x => if src x then (0 : Int) else -1) := by
  refine ⟨fun x hx => ?_⟩
  have hn := negs_le (L := (List.range N).map fun x => if src x then (0 : Int) else -1)
  rw [List.length_map, List.length_range] at hn
  have e : dl ((List.range N).map fun x => if src x then (0 : Int) else -1) x = if src x then 0 else -1 := by
    unfold dl
    rw [List.getD_eq_getElem?_getD]
    simp [hx]
  rw [e]
  split <;> omega
end Go.Proofs.Ytjopiefojicblaa
/- slices.Repeat of one number. -/
set_option linter.unusedVariables false
set_option linter.unusedSimpArgs false
namespace Go.Proofs.Ytjopiefojicblaa
open Go.ChangeShapes Go.WideShapes Go.ChangeAt Go.RowKit
theorem and_small : ∀ k : Fin 513, bits BinOp.and IntKind.u64 ((k.val : Nat) : Int) 4294967295 = ((k.val : Nat) : Int) := by decide +kernel
set_option maxRecDepth 100000 in
set_option maxHeartbeats 2000000 in
theorem mul64_one (n : Nat) (hn : n ≤ 512) (w : World) : Calls Try.prog 90 #[.int .u64 1, .int .u64 n] w fun e w' => e = .returned (.tuple #[.int .u64 0, .int .u64 n]) ∧ w = w' := by
  have h0 : (0 : Int) ≤ (n : Int) := by omega
  have h1 : (n : Int) ≤ 512 := by omega
  have b1 : bits BinOp.and IntKind.u64 1 4294967295 = 1 := by decide
  have b0 : bits BinOp.and IntKind.u64 0 4294967295 = 0 := by decide
  have b2 : bits BinOp.and IntKind.u64 (n : Int) 4294967295 = (n : Int) := and_small ⟨n, by omega⟩
  have d1 : (n : Int) / 4294967296 = 0 := by omega
  have w0 : IntKind.u64.wrap 0 = 0 := by decide
  have w1 : IntKind.u64.wrap (n : Int) = (n : Int) := IntWalk.u64_in _ (by omega)
  go_enter Try.func90, Try.ntmps90
  go_wp2
  go_ret2
  exact ⟨rfl, rfl⟩
set_option maxRecDepth 100000 in
set_option maxHeartbeats 2000000 in
theorem mul_one (n : Nat) (hn : n ≤ 512) (w : World) : Calls Try.prog 84 #[.int .u64 1, .int .u64 n] w fun e w' => e = .returned (.tuple #[.int .u64 0, .int .u64 n]) ∧ w = w' := by
  have HN := Lib.hid hn
  clear hn
  go_enter Try.func84, Try.ntmps84
  go_wp2_with fail
  refine (mul64_one n HN.out _).mono ?_
  rintro e w' ⟨rfl, rfl⟩
  go_wp2_with fail
  go_ret2
  exact ⟨rfl, rfl⟩
def repV (n k : Nat) : List Value := List.replicate k (.int .i64 (-1)) ++ List.replicate (n - k) (.int .i64 0)
theorem repV_len {n k : Nat} (h : k ≤ n) : (repV n k).length = n := by simp [repV]; omega
theorem repV_made (n : Nat) : madeCells #[.int .i64 0] n = (repV n 0).toArray := by
  have := toList_madeCells_one (.int .i64 0) n
  apply Array.toList_inj.1
  rw [this]; simp [repV]
theorem repV_all (n : Nat) : repV n n = flatI (List.replicate n (-1)) := by simp [repV, flatI]
theorem repV_splice {n k m : Nat} (h : k + m ≤ n) : splice (repV n k) k (List.replicate m (.int .i64 (-1))) = repV n (k + m) := by
  unfold splice repV
  rw [List.take_left' (by simp), List.length_replicate]
  have e : (List.replicate k (Value.int .i64 (-1)) ++ List.replicate (n - k) (Value.int .i64 0)).drop (k + m) = List.replicate (n - (k + m)) (Value.int .i64 0) := by
    rw [List.drop_append, List.drop_eq_nil_of_le (by simp)]
    simp; omega
  rw [e, ← List.append_assoc, List.replicate_append_replicate]
theorem repV_get {n k j : Nat} (h : j < k) : (repV n k)[j]? = some (.int .i64 (-1)) := by
  unfold repV; rw [List.getElem?_append_left (by simpa using h)]; simp [h]
theorem block_get {w : World} {g : Nat} {l : List Value} {t : TypeId} (h : w.heap[g]? = some (.cells l.toArray t)) {j : Nat} {v : Value} (hv : l[j]? = some v) : w.cell? ⟨g, j, none⟩ = some v := by
  unfold World.cell?; simp only [h]; simpa using hv
set_option maxRecDepth 100000 in
set_option maxHeartbeats 4000000 in
theorem repeat_any {w : World} {A : Option Addr} {c : Nat} (h : ReadsI w A 1 c [-1]) {n : Nat} (h1 : 1 ≤ n) (hn : n ≤ 512) :
    Calls Try.prog 75 #[.slice A 1 c, .int .i64 n] w fun e w' => e = .returned (.slice (some ⟨w.heap.size, 0, none⟩) n n) ∧ IRow w' w.heap.size n n (List.replicate n (-1)) ∧ Below w.heap.size w w' := by
  obtain ⟨bA, oA, rfl, hc⟩ := h.cell (by omega)
  have hc0 := hc 0 (by omega)
  have hm := mul_one n hn
  have HM := Lib.hid hm
  have HC := Lib.hid hc0
  have g1 : IntKind.u64.wrap (n : Int) = (n : Int) := IntWalk.u64_in _ (by omega)
  have g2 : IntKind.i64.wrap (n : Int) = (n : Int) := IntWalk.i64_in _ (by omega)
  have g3 : (0 : Int) ≤ (n : Int) := by omega
  have g4 : (n : Int) ≤ 512 := by omega
  have g5 : ¬ (n : Int) < 0 := by omega
  have g6 : decide ((9223372036854775807 : Int) < (n : Int)) = false := by simp; omega
  have g7 : (n : Int) ≤ 9223372036854775807 := by omega
  have hmk := run_make_row' (P := Try.prog) 22 3 (.int .i64 0) 8 Try.underlying22 infoInt rfl .i64 .i64 n (by omega) (by omega)
  have hel : (Try.prog.info? 3).map (·.size) = some 1 := by kernel_rfl
  have HEL := Lib.hid hel
  have H1 := Lib.hid h1
  have HN := Lib.hid hn
  have hz0 : (w.alloc (.cells (madeCells #[.int .i64 0] n) 3)).heap[w.heap.size]? = some (.cells (repV n 0).toArray 3) := by rw [← repV_made]; show (w.heap.push _)[w.heap.size]? = _; simp
  have HZ0 := Lib.hid hz0
  have HB0 : Hid (Below w.heap.size w (w.alloc (.cells (madeCells #[.int .i64 0] n) 3))) := Lib.hid (bl_alloc (Below.refl _ _) _)
  have P1 : Hid ([Value.int .i64 (-1)].length = Nat.min 1 n) := Lib.hid (by simp [Nat.min_def]; omega)
  have P2 : Hid (∀ j v, [Value.int .i64 (-1)][j]? = some v → (w.alloc (.cells (madeCells #[.int .i64 0] n) 3)).cell? ((⟨bA, oA, none⟩ : Addr).add j) = some v) := Lib.hid fun j v hv => by
    cases j with
    | zero => simp at hv; subst hv; rw [Addr.add_lit]; exact cell_below hc0 HB0.out
    | succ j => simp at hv
  have P3 : Hid (0 + [Value.int .i64 (-1)].length ≤ (repV n 0).length) := Lib.hid (by rw [repV_len (by omega)]; simp; omega)
  have P4 : Hid (∀ v ∈ [Value.int .i64 (-1)], v.oneCell' = true) := Lib.hid (by intro v hv; rw [List.mem_singleton.1 hv]; rfl)
  clear h hc hc0 hm hel hz0
  go_enter Try.func75, Try.ntmps75
  go_wp2_with fail
  refine (HM.out _).mono ?_
  rintro e w' ⟨rfl, rfl⟩
  go_wp2_with (refine wpList_copy_splice rfl (.tmp 31) (.tmp 32) 22 22 rfl 3 Try.underlying22 HEL.out (some ⟨w.heap.size, 0, none⟩) (some ⟨bA, oA, none⟩) n n 1 c rfl rfl w.heap.size 0 (repV n 0) 3 HZ0.out [.int .i64 (-1)] P1.out (fun _ => ⟨rfl, _, rfl, P2.out⟩) P3.out P4.out w.heap.size w HB0.out (Nat.le_refl _) ?_)
  intro w1 hr1 hb1
  have hr1' := hr1.out
  rw [show [Value.int .i64 (-1)] = List.replicate 1 (Value.int .i64 (-1)) from rfl, repV_splice (by have := H1.out; omega)] at hr1'
  have HR1 := Lib.hid hr1'
  have HB1 := Lib.hid hb1
  clear hr1 hr1' hb1
  go_wp2_with fail
  go_loopg [8] n (fun M u wr => ∃ k : Nat, M = n + 1 - k ∧ 1 ≤ k ∧ k ≤ n ∧ u = .int .i64 (k : Nat) ∧ wr.heap[w.heap.size]? = some (.cells (repV n k).toArray 3) ∧ Below w.heap.size w wr)
  case atStart => exact ⟨1, (by omega), Nat.le_refl _, H1.out, rfl, by simpa using HR1.out, HB1.out⟩
  case round =>
    obtain ⟨k, hM, hk1, hk, rfl, hr, hb⟩ := hrel
    have HM := Lib.hid hM
    have HR := Lib.hid hr
    have HB := Lib.hid hb
    clear hM hr hb
    by_cases hlt : k < n
    · obtain ⟨m, hm⟩ : ∃ m, m = Nat.min k (n - k) := ⟨_, rfl⟩
      have hm1 : 1 ≤ m := by rw [hm]; show 1 ≤ min k (n - k); omega
      have hm2 : k + m ≤ n := by rw [hm]; show k + min k (n - k) ≤ n; omega
      have hm3 : m ≤ k := by rw [hm]; exact Nat.min_le_left _ _
      have HMM := Lib.hid hm
      have HD : Hid (wr.drew.heap[w.heap.size]? = some (.cells (repV n k).toArray 3)) := HR
      have HBD : Hid (Below w.heap.size w wr.drew) := Lib.hid (bl_drew HB.out)
      have k0 : (0 : Int) ≤ (k : Int) := by omega
      have k1 : (k : Int) < (n : Int) := by omega
      have k2 : (k : Int) ≤ (n : Int) := by omega
      have k3 : ¬ n = k := by omega
      have k4 : k ≤ n := hk
      have s1 : IntKind.i64.wrap ((k : Int) + (m : Int)) = (k : Int) + (m : Int) := IntWalk.i64_in _ (by omega)
      have P5 : Hid (∀ j v, (List.replicate m (Value.int .i64 (-1)))[j]? = some v → wr.drew.cell? ((⟨w.heap.size, 0, none⟩ : Addr).add j) = some v) := Lib.hid fun j v hv => by
        have hj : j < m := by have := (List.getElem?_eq_some_iff.1 hv).1; simpa using this
        rw [Addr.add_lit, Nat.zero_add]
        refine block_get HD.out ?_
        rw [repV_get (by omega), ← hv]
        simp [hj]
      have P6 : Hid (k + (List.replicate m (Value.int .i64 (-1))).length ≤ (repV n k).length) := Lib.hid (by rw [repV_len hk, List.length_replicate]; exact hm2)
      have P7 : Hid (∀ v ∈ List.replicate m (Value.int .i64 (-1)), v.oneCell' = true) := Lib.hid (by intro v hv; rw [List.eq_of_mem_replicate hv]; rfl)
      have P8 : Hid ((List.replicate m (Value.int .i64 (-1))).length = Nat.min k (n - k)) := Lib.hid (by rw [List.length_replicate]; exact hm)
      clear hm
      go_wp2_with fail
      refine wp_region_held_drew (S := fun _ => True) (by kernel_rfl) trivial (fun hHeld => ?_)
      refine wpAnyH_take (i := 0) (v := ?_) rfl (by kernel_rfl) (by kernel_rfl) (by kernel_rfl) (fun _ _ _ h => h) (Or.inl ⟨by rfl, ?_⟩) (by assumption) ?_
      rotate_left
      · intro w hSw; (try dsimp only at hSw); go_simp <;> with_reducible rfl
      (try simp only [Act.put, List.setIfInBounds_toArray, List.set_cons_zero, List.set_cons_succ, List.getElem_toArray, List.getElem_cons_succ, List.getElem_cons_zero])
      refine wpAnyH_take (i := 1) (v := ?_) rfl (by kernel_rfl) (by kernel_rfl) (by kernel_rfl) (fun _ _ _ h => h) (Or.inl ⟨by rfl, ?_⟩) (by assumption) ?_
      rotate_left
      · intro w hSw; (try dsimp only at hSw); go_simp <;> with_reducible rfl
      (try simp only [Act.put, List.setIfInBounds_toArray, List.set_cons_zero, List.set_cons_succ, List.getElem_toArray, List.getElem_cons_succ, List.getElem_cons_zero])
      refine wpAnyH_take (i := 2) (v := ?_) rfl (by kernel_rfl) (by kernel_rfl) (by kernel_rfl) (fun _ _ _ h => h) (Or.inl ⟨by rfl, ?_⟩) (by assumption) ?_
      rotate_left
      · intro w hSw; (try dsimp only at hSw); go_simp <;> with_reducible rfl
      (try simp only [Act.put, List.setIfInBounds_toArray, List.set_cons_zero, List.set_cons_succ, List.getElem_toArray, List.getElem_cons_succ, List.getElem_cons_zero])
      refine wpAnyH_take (i := 3) (v := ?_) rfl (by kernel_rfl) (by kernel_rfl) (by kernel_rfl) (fun _ _ _ h => h) (Or.inl ⟨by rfl, ?_⟩) (by assumption) ?_
      rotate_left
      · intro w hSw; (try dsimp only at hSw); go_simp <;> with_reducible rfl
      (try simp only [Act.put, List.setIfInBounds_toArray, List.set_cons_zero, List.set_cons_succ, List.getElem_toArray, List.getElem_cons_succ, List.getElem_cons_zero])
      refine wpAnyH_take (i := 4) (v := ?_) rfl (by kernel_rfl) (by kernel_rfl) (by kernel_rfl) (fun _ _ _ h => h) (Or.inl ⟨by rfl, ?_⟩) (by assumption) ?_
      rotate_left
      · intro w hSw; (try dsimp only at hSw); go_simp <;> with_reducible rfl
      (try simp only [Act.put, List.setIfInBounds_toArray, List.set_cons_zero, List.set_cons_succ, List.getElem_toArray, List.getElem_cons_succ, List.getElem_cons_zero])
      refine wpAnyH_take (i := 5) (v := ?_) rfl (by kernel_rfl) (by kernel_rfl) (by kernel_rfl) (fun _ _ _ h => h) (Or.inl ⟨by rfl, ?_⟩) (by assumption) ?_
      rotate_left
      · intro w hSw; (try dsimp only at hSw); go_simp <;> with_reducible rfl
      (try simp only [Act.put, List.setIfInBounds_toArray, List.set_cons_zero, List.set_cons_succ, List.getElem_toArray, List.getElem_cons_succ, List.getElem_cons_zero])
      refine wpAnyH_take (i := 6) (v := ?_) rfl (by kernel_rfl) (by kernel_rfl) (by kernel_rfl) (fun _ _ _ h => h) (Or.inl ⟨by rfl, ?_⟩) (by assumption) ?_
      rotate_left
      · intro w hSw; (try dsimp only at hSw); go_simp <;> with_reducible rfl
      (try simp only [Act.put, List.setIfInBounds_toArray, List.set_cons_zero, List.set_cons_succ, List.getElem_toArray, List.getElem_cons_succ, List.getElem_cons_zero])
      refine wpAnyH_ready (rs := [7]) (by kernel_rfl) (by simp) ?_
      refine AllReadyH.cons rfl (fun K hK => ?_) AllReadyH.nil
      refine step_copy_splice rfl (.tmp 41) (.tmp 44) 22 22 rfl 3 Try.underlying22 HEL.out (some ⟨w.heap.size, k, none⟩) (some ⟨w.heap.size, 0, none⟩) (n - k) (n - k) k n (by rfl) (by rfl) w.heap.size k (repV n k) 3 HD.out (List.replicate m (.int .i64 (-1))) P8.out (fun _ => ⟨rfl, _, rfl, P5.out⟩) P6.out P7.out w.heap.size w HBD.out (Nat.le_refl _) ?_
      intro w2 hr2 hb2
      have hr2' := hr2.out
      rw [repV_splice hm2] at hr2'
      rw [List.length_replicate]
      have HR2 := Lib.hid hr2'
      have HB2 := Lib.hid hb2
      clear hr2 hr2' hb2
      refine hK.out _ _ trivial (fun hHeld => ?_)
      (try simp only [Act.put, List.setIfInBounds_toArray, List.set_cons_zero, List.set_cons_succ, List.getElem_toArray, List.getElem_cons_succ, List.getElem_cons_zero])
      refine wpAnyH_take (i := 8) (v := ?_) rfl (by kernel_rfl) (by kernel_rfl) (by kernel_rfl) (fun _ _ _ h => h) (Or.inl ⟨by rfl, ?_⟩) (by assumption) ?_
      rotate_left
      · intro w hSw; (try dsimp only at hSw); go_simp <;> with_reducible rfl
      (try simp only [Act.put, List.setIfInBounds_toArray, List.set_cons_zero, List.set_cons_succ, List.getElem_toArray, List.getElem_cons_succ, List.getElem_cons_zero])
      refine wpAnyH_take (i := 9) (v := ?_) rfl (by kernel_rfl) (by kernel_rfl) (by kernel_rfl) (fun _ _ _ h => h) (Or.inl ⟨by rfl, ?_⟩) (by assumption) ?_
      rotate_left
      · intro w hSw; (try dsimp only at hSw); go_simp <;> with_reducible rfl
      (try simp only [Act.put, List.setIfInBounds_toArray, List.set_cons_zero, List.set_cons_succ, List.getElem_toArray, List.getElem_cons_succ, List.getElem_cons_zero])
      refine wpAnyH_done (by kernel_rfl) ?_ _
      go_wp2_with fail
      go_roundg (n + 1 - (k + m))
      case measure => have := HM.out; omega
      case rel => exact ⟨k + m, rfl, by omega, hm2, by go_num, HR2.out, HB2.out⟩
    · have hkn : n = k := by omega
      subst hkn
      have hr := HR.out
      rw [repV_all] at hr
      clear hlt hk hk1 g3 g4 g5 g1 g2
      go_wp2_with fail
      go_ret
      refine ⟨rfl, ⟨by simp [flatI], .inr ⟨w.heap.size, n, (flatI (List.replicate n (-1))).toArray, rfl, Nat.zero_le _, hr, Nat.le_refl _, ?_, ?_, ?_⟩⟩, HB.out⟩
      · have := HN.out; unfold maxLen; omega
      · simp [flatI]
      · simp [flatI]
end Go.Proofs.Ytjopiefojicblaa
/- dist.shut, none, weight; what the search for distances holds in memory. -/
set_option linter.unusedVariables false
set_option linter.unusedSimpArgs false
namespace Go.Proofs.Ytjopiefojicblaa
open Go.ChangeShapes Go.WideShapes Go.ChangeAt Go.RowKit HeapP DistP RowP
theorem shutB_lt {cl : List Bool} {e : Nat} (h : cl.length ≤ e) : shutB cl e = false := by unfold shutB; rw [List.getD_eq_getElem?_getD, List.getElem?_eq_none h]; rfl
set_option maxRecDepth 100000 in
set_option maxHeartbeats 2000000 in
theorem shut_any {w : World} {A : Option Addr} {n c : Nat} {cl : List Bool} (h : ReadsB w A n c cl) (e : Nat) (he : e ≤ 1048576) :
    Calls Try.prog 52 #[.slice A n c, .int .i64 (e : Nat)] w fun r w' => r = .returned (.bool (shutB cl e)) ∧ w = w' := by
  have hm := h.small
  unfold maxLen at hm
  have hm2 : n ≤ 9223372036854775807 := by omega
  have h0 : (0 : Int) ≤ (e : Int) := by omega
  by_cases hlt : e < n
  · obtain ⟨b, o, rfl, hc⟩ := h.cell (by omega)
    have d0 := hc e hlt
    have e1 : (e : Int) < (n : Int) := by omega
    unfold shutB
    obtain ⟨v, hv⟩ : ∃ v, v = cl.getD e false := ⟨_, rfl⟩
    rw [← hv] at d0 ⊢
    clear h hc hv hm
    go_enter Try.func52, Try.ntmps52
    go_wp2_with fail
    go_ret
    exact ⟨rfl, rfl⟩
  · have hs : shutB cl e = false := shutB_lt (by rw [h.len]; omega)
    rw [hs]
    have e1 : ¬ (e : Int) < (n : Int) := by omega
    clear h hs hm
    go_enter Try.func52, Try.ntmps52
    go_wp2_with fail
    go_ret
    exact ⟨rfl, rfl⟩
set_option maxRecDepth 100000 in
set_option maxHeartbeats 2000000 in
theorem wgt_at {w : World} {B E t p : Nat} {ns bs : List (Int × Int)} {es : List (Int × Int × Int)} (h : TurnsAt w B E t p ns es bs) {x : Nat} (hx : x < es.length) :
    Calls Try.prog 54 #[.pointer (some ⟨t, 0, none⟩), .int .i64 (x : Nat)] w fun r w' => r = .returned (.int .i64 (wN es x)) ∧ Below w.heap.size w w' := by
  obtain ⟨tb, R, hT⟩ := h
  have c0 : w.cell? ⟨t, 0, none⟩ = some (.pointer (some ⟨p, 0, none⟩)) := block_cell hT.ht (j := 0) rfl
  have hed := edge_at hT.g (x : Int)
  have het : edgeT es (x : Int) = es.getD x (0, 0, 0) := by unfold edgeT inB; rw [if_pos (by simp; omega), Int.toNat_natCast]
  rw [het] at hed
  unfold wN
  obtain ⟨g, hg⟩ : ∃ g, g = es.getD x (0, 0, 0) := ⟨_, rfl⟩
  rw [← hg] at hed ⊢
  obtain ⟨g0, g1, g2⟩ := g
  dsimp only at hed ⊢
  have HED := Lib.hid hed
  clear hT hed het hg hx
  go_enter Try.func54, Try.ntmps54
  go_wp2_with fail
  refine HED.out.mono ?_
  rintro e w1 ⟨rfl, hb⟩
  have HB := Lib.hid (bl_alloc hb (.cells #[.int .i64 g0, .int .i64 g1, .int .i64 g2] 43))
  have e2 : (w1.alloc (.cells #[.int .i64 g0, .int .i64 g1, .int .i64 g2] 43)).cell? ⟨w1.heap.size, 2, none⟩ = some (.int .i64 g2) := cell_three_new 2 _ rfl
  clear hb
  go_wp2_with fail
  go_ret
  exact ⟨rfl, HB.out⟩
set_option maxRecDepth 100000 in
set_option maxHeartbeats 2000000 in
theorem none_at {w : World} {B E t p : Nat} {ns bs : List (Int × Int)} {es : List (Int × Int × Int)} (h : TurnsAt w B E t p ns es bs) (h1 : 1 ≤ es.length) :
    Calls Try.prog 47 #[.pointer (some ⟨t, 0, none⟩)] w fun r w' => ∃ g, r = .returned (.slice (some ⟨g, 0, none⟩) es.length es.length) ∧ IRow w' g es.length es.length (List.replicate es.length (-1)) ∧ w.heap.size ≤ g ∧ Below w.heap.size w w' := by
  obtain ⟨tb, R, hT⟩ := h
  have hs := (mayB_parts hT.g.bd.1).2.1
  have c0 : w.cell? ⟨t, 0, none⟩ = some (.pointer (some ⟨p, 0, none⟩)) := block_cell hT.ht (j := 0) rfl
  have hb0 : Below w.heap.size w (w.alloc (.cells #[.int .i64 (-1)] 3)) := bl_alloc (Below.refl _ _) _
  have c1 := cell_below c0 hb0
  have hed := edges_at (hT.g.below hb0)
  have hrd : ReadsI (w.alloc (.cells #[.int .i64 (-1)] 3)) (some ⟨w.heap.size, 0, none⟩) 1 1 [-1] := by
    refine ⟨rfl, by decide, fun _ => ⟨_, _, rfl, fun i hi => ?_⟩, by intro x hx; rw [List.mem_singleton.1 hx]; decide⟩
    obtain rfl : i = 0 := by omega
    exact block_cell (heap_alloc_eq w (.cells #[.int .i64 (-1)] 3)) rfl
  have hrp := repeat_any hrd h1 hs.2.2.1
  have HED := Lib.hid hed
  have HRP := Lib.hid hrp
  have HB0 := Lib.hid hb0
  clear hT hed hrd hrp hb0 hs h1
  go_enter Try.func47, Try.ntmps47
  go_wp2_with fail
  refine HED.out.mono ?_
  rintro e w1 ⟨rfl, rfl⟩
  go_wp2_with fail
  refine HRP.out.mono ?_
  rintro e w1 ⟨rfl, hr, hb⟩
  have HR := Lib.hid hr
  have HB := Lib.hid (bl_then HB0.out hb)
  clear hr hb
  go_wp2_with fail
  go_ret
  rw [size_alloc] at HR
  exact ⟨_, rfl, HR.out, Nat.le_succ _, HB.out⟩
/-- what the search holds: its row of distances, its heap -/
structure DS (w wr : World) (g hb : Nat) (fp : List Nat) (L : List Int) (S : List It) : Prop where
  row : IRow wr g L.length L.length L
  heap : HeapAt wr hb fp S
  off : g ∉ fp
  lo : w.heap.size ≤ g ∧ ∀ b ∈ fp, w.heap.size ≤ b
  below : Below w.heap.size w wr
theorem DS.step {w wr w1 : World} {g hb : Nat} {fp : List Nat} {L : List Int} {S : List It} (h : DS w wr g hb fp L S) (hb1 : Below wr.heap.size wr w1) : DS w w1 g hb fp L S :=
  ⟨h.row.below hb1, h.heap.below hb1, h.off, h.lo, bl_then h.below hb1⟩
theorem DS.heapTo {w wr w1 : World} {g hb : Nat} {fp fp' : List Nat} {L : List Int} {S S' : List It} (h : DS w wr g hb fp L S) (h1 : HeapAt w1 hb fp' S') (hf : ∀ k ∈ fp', k ∈ fp ∨ wr.heap.size ≤ k) (hu : Upd (· ∈ fp) wr w1) : DS w w1 g hb fp' L S' := by
  refine ⟨h.row.upd hu h.off, h1, fun hg => ?_, ⟨h.lo.1, fun b hb => ?_⟩, h.below.trans (hu.below h.below.size fun k hk e => by have := h.lo.2 k e; omega)⟩
  · rcases hf g hg with e | e
    · exact h.off e
    · have := h.row.lt; omega
  · rcases hf b hb with e | e
    · exact h.lo.2 b e
    · have := h.below.size; omega
theorem DS.put {w wr : World} {g hb : Nat} {fp : List Nat} {L : List Int} {S : List It} (h : DS w wr g hb fp L S) (x : Nat) (v : Int) : DS w (wr.setCell ⟨g, x, none⟩ (.int .i64 v)) g hb fp (L.set x v) S := by
  refine ⟨by rw [List.length_set]; exact h.row.set x v, h.heap.upd (F := fun b => b = g) (upd_setCell (F := fun b => b = g) (a := ⟨g, x, none⟩) (Upd.refl _ _) rfl _) fun k hk e => h.off (e ▸ hk), h.off, h.lo, h.below.setCell (by exact h.lo.1) _⟩
/-- another row that lies there, apart from the heap and from the row of distances -/
structure RA (wr : World) (g : Nat) (fp : List Nat) (A : Option Addr) (n c : Nat) (xs : List Int) : Prop where
  rd : ReadsI wr A n c xs
  off : ∀ b o, A = some ⟨b, o, none⟩ → b < wr.heap.size ∧ b ∉ fp ∧ b ≠ g
theorem RA.step {wr w1 : World} {g : Nat} {fp : List Nat} {A : Option Addr} {n c : Nat} {xs : List Int} (h : RA wr g fp A n c xs) (hb1 : Below wr.heap.size wr w1) : RA w1 g fp A n c xs :=
  ⟨h.rd.below hb1, fun b o e => ⟨Nat.lt_of_lt_of_le (h.off b o e).1 hb1.size, (h.off b o e).2⟩⟩
theorem RA.heapTo {wr w1 : World} {g : Nat} {fp fp' : List Nat} {A : Option Addr} {n c : Nat} {xs : List Int} (h : RA wr g fp A n c xs) (hf : ∀ k ∈ fp', k ∈ fp ∨ wr.heap.size ≤ k) (hu : Upd (· ∈ fp) wr w1) : RA w1 g fp' A n c xs := by
  refine ⟨h.rd.upd hu fun b o e _ => (h.off b o e).2.1, fun b o e => ?_⟩
  obtain ⟨h1, h2, h3⟩ := h.off b o e
  refine ⟨Nat.lt_of_lt_of_le h1 hu.size, fun hb => ?_, h3⟩
  rcases hf b hb with e1 | e1
  · exact h2 e1
  · omega
theorem RA.of {w wr w1 : World} {g hb : Nat} {fp : List Nat} {L : List Int} {S : List It} {A : Option Addr} {n c : Nat} {xs : List Int} (h : DS w wr g hb fp L S) (hr : ReadsI w1 A n c xs) (hn : ∀ b o, A = some ⟨b, o, none⟩ → wr.heap.size ≤ b ∧ b < w1.heap.size) : RA w1 g fp A n c xs :=
  ⟨hr, fun b o e => ⟨(hn b o e).2, fun hb => by have := h.heap.lt b hb; have := (hn b o e).1; omega, fun e2 => by have := h.row.lt; have := (hn b o e).1; omega⟩⟩
theorem heapAt_start (w : World) : HeapAt (w.alloc (.cells #[.slice none 0 0, .map none] 76)) w.heap.size [w.heap.size] [] := .inl ⟨rfl, rfl, heap_alloc_eq _ _⟩
theorem DS.start {w w1 : World} {g n : Nat} {L : List Int} (hl : L.length = n) (hr : IRow w1 g n n L) (hg : w.heap.size ≤ g) (hb : Below w.heap.size w w1) : DS w (w1.alloc (.cells #[.slice none 0 0, .map none] 76)) g w1.heap.size [w1.heap.size] L [] := by
  refine ⟨by rw [hl]; exact hr.below (bl_alloc (Below.refl _ _) _), heapAt_start _, fun h => ?_, ⟨hg, fun b hb2 => ?_⟩, bl_alloc hb _⟩
  · have := hr.lt; rw [List.mem_singleton.1 h] at this; omega
  · rw [List.mem_singleton.1 hb2]; exact hb.size
theorem dl_get {L : List Int} {x : Nat} (h : x < L.length) : L.getD x 0 = dl L x := by
  unfold dl; rw [List.getD_eq_getElem?_getD, List.getD_eq_getElem?_getD, List.getElem?_eq_getElem h]; rfl
def srcN (es : Es) (v : Nat) : List Nat := rowOf (toN es) es.length v
theorem inT_src {ns : Bs} {es : Es} {v : Nat} (h : v < ns.length) : inT ns es (v : Int) = (srcN es v).map fun i => ((i : Nat) : Int) := by
  unfold inT srcN inB; rw [if_pos (by simp; omega), Int.toNat_natCast]
theorem srcN_mem {ns bs : Bs} {es : Es} (h : mayB ns es bs = true) {v x : Nat} : x ∈ srcN es v ↔ x < es.length ∧ toSrc es (v : Int) x := by
  unfold srcN rowOf toSrc
  rw [List.mem_filter, List.mem_range]
  constructor
  · rintro ⟨h1, h2⟩
    have := ((mayB_parts h).2.2.2 x h1).1
    refine ⟨h1, ?_⟩
    rw [this]; simp at h2; rw [h2]
  · rintro ⟨h1, h2⟩
    have := ((mayB_parts h).2.2.2 x h1).1
    refine ⟨h1, ?_⟩
    rw [this] at h2; simp; omega
theorem map_cast_getD {l : List Nat} {k : Nat} (h : k < l.length) : (l.map fun i => ((i : Nat) : Int)).getD k 0 = ((l.getD k 0 : Nat) : Int) := by
  simp [List.getD_eq_getElem?_getD, h]
theorem seeds_take {l : List Nat} {k : Nat} (h : k < l.length) : seeds (l.take (k + 1)) = pushF (seeds (l.take k)) (((l.getD k 0 : Nat) : Int), 0) := by
  rw [List.take_succ_eq_append_getElem h, seeds_snoc, List.getD_eq_getElem?_getD, List.getElem?_eq_getElem h]; rfl
theorem seeds_len {N : Nat} {l : List Nat} (hl : ∀ x ∈ l, x < N) : (seeds l).length ≤ N := by
  obtain ⟨h1, h2, h3, h4⟩ := seeds_ok l.length l rfl
  have : Inv N (fun x => x ∈ l) (fun _ => []) (fun _ _ => 0) (fun _ => -1) (seeds l) (fun _ _ => True) := Inv.start h1 h2 (fun z hz => by
    obtain ⟨x, hx, rfl⟩ := h3 z hz
    exact ⟨by simp, by simpa using hl x hx, by simpa using hx, rfl⟩) fun x _ hx => h4 x hx
  exact inv_len this
end Go.Proofs.Ytjopiefojicblaa
