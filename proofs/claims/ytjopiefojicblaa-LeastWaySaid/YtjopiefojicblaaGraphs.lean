/- Graphs: Clone, GRows, GraphAt, Access, one behind the other. -/
import Derived.Test.YtjopiefojicblaaMays
import Derived.Maps.AppendAt
import Derived.Test.YtjopiefojicblaaBase
import Derived.Deep.OwnRows
import Derived.BigRegion
import Derived.Deep.RegionHeld
/- Rows of ints, pairs and triples as cells; slices.Clone of each. -/
set_option linter.unusedVariables false
set_option linter.unusedSimpArgs false
namespace Go.Proofs.Ytjopiefojicblaa
open Go.ChangeShapes Go.WideShapes Go.ChangeAt Go.RowKit
theorem infoInt : (Try.prog.info? 3).map (fun i => (i.zero, i.size, i.bytes)) = some (some (.int .i64 0), 1, 8) := by kernel_rfl
theorem infoNode : (Try.prog.info? 93).map (fun i => (i.zero, i.size, i.bytes)) = some (some (.agg #[.int .i64 0, .int .i64 0]), 2, 16) := by kernel_rfl
theorem infoEdge : (Try.prog.info? 43).map (fun i => (i.zero, i.size, i.bytes)) = some (some (.agg #[.int .i64 0, .int .i64 0, .int .i64 0]), 3, 24) := by kernel_rfl
theorem infoBan : (Try.prog.info? 96).map (fun i => (i.zero, i.size, i.bytes)) = some (some (.agg #[.int .i64 0, .int .i64 0]), 2, 16) := by kernel_rfl
def flatI (xs : List Int) : List Value := xs.map (Value.int .i64)
def flat2 (xs : List (Int × Int)) : List Value := xs.flatMap fun x => [.int .i64 x.1, .int .i64 x.2]
def flat3 (xs : List (Int × Int × Int)) : List Value := xs.flatMap fun x => [.int .i64 x.1, .int .i64 x.2.1, .int .i64 x.2.2]
theorem flatI_len (xs : List Int) : (flatI xs).length = xs.length * 1 := by simp [flatI]
theorem flat2_len (xs : List (Int × Int)) : (flat2 xs).length = xs.length * 2 := by
  induction xs with
  | nil => rfl
  | cons x r ih => simp only [flat2, List.flatMap_cons, List.length_append, List.length_cons, List.length_nil] at *; omega
theorem flat3_len (xs : List (Int × Int × Int)) : (flat3 xs).length = xs.length * 3 := by
  induction xs with
  | nil => rfl
  | cons x r ih => simp only [flat3, List.flatMap_cons, List.length_append, List.length_cons, List.length_nil] at *; omega
theorem flatI_append (l k : List Int) : flatI (l ++ k) = flatI l ++ flatI k := by simp [flatI]
theorem flat2_append (l k : List (Int × Int)) : flat2 (l ++ k) = flat2 l ++ flat2 k := by simp [flat2]
theorem flat3_append (l k : List (Int × Int × Int)) : flat3 (l ++ k) = flat3 l ++ flat3 k := by simp [flat3]
theorem flat_oneflatI (xs : List Int) : ∀ u ∈ flatI xs, u.oneCell' = true := ints_oneCell .i64 xs
theorem flat_oneflat2 (xs : List (Int × Int)) : ∀ u ∈ flat2 xs, u.oneCell' = true := by
  intro u hu
  obtain ⟨x, _, hx⟩ := List.mem_flatMap.1 hu
  simp only [List.mem_cons, List.not_mem_nil, or_false] at hx
  rcases hx with rfl | rfl <;> rfl
theorem flat_oneflat3 (xs : List (Int × Int × Int)) : ∀ u ∈ flat3 xs, u.oneCell' = true := by
  intro u hu
  obtain ⟨x, _, hx⟩ := List.mem_flatMap.1 hu
  simp only [List.mem_cons, List.not_mem_nil, or_false] at hx
  rcases hx with rfl | rfl | rfl <;> rfl
theorem flatI_get (xs : List Int) (i : Nat) (h : i < xs.length) : (flatI xs)[i]? = some (.int .i64 (xs.getD i 0)) := by
  simp [flatI, List.getD_eq_getElem?_getD, h]
theorem flat2_get : ∀ (xs : List (Int × Int)) (i : Nat), i < xs.length → (flat2 xs)[i * 2]? = some (.int .i64 (xs.getD i (0, 0)).1) ∧ (flat2 xs)[i * 2 + 1]? = some (.int .i64 (xs.getD i (0, 0)).2)
  | x :: l, 0, _ => ⟨rfl, rfl⟩
  | x :: l, i + 1, h => by
    have ih := flat2_get l i (by simpa using h)
    have e : (i + 1) * 2 = (i * 2) + 1 + 1 := by omega
    have e0 : flat2 (x :: l) = .int .i64 x.1 :: .int .i64 x.2 :: flat2 l := rfl
    rw [e0, e, List.getElem?_cons_succ, List.getElem?_cons_succ, List.getElem?_cons_succ, List.getElem?_cons_succ, List.getD_cons_succ]
    exact ih
theorem flat3_get : ∀ (xs : List (Int × Int × Int)) (i : Nat), i < xs.length → (flat3 xs)[i * 3]? = some (.int .i64 (xs.getD i (0, 0, 0)).1) ∧ (flat3 xs)[i * 3 + 1]? = some (.int .i64 (xs.getD i (0, 0, 0)).2.1) ∧ (flat3 xs)[i * 3 + 2]? = some (.int .i64 (xs.getD i (0, 0, 0)).2.2)
  | x :: l, 0, _ => ⟨rfl, rfl, rfl⟩
  | x :: l, i + 1, h => by
    have ih := flat3_get l i (by simpa using h)
    have e : (i + 1) * 3 = (i * 3) + 1 + 1 + 1 := by omega
    have e0 : flat3 (x :: l) = .int .i64 x.1 :: .int .i64 x.2.1 :: .int .i64 x.2.2 :: flat3 l := rfl
    rw [e0, e, show i * 3 + 1 + 1 + 1 + 1 = (i * 3 + 1) + 1 + 1 + 1 from rfl, show i * 3 + 1 + 1 + 1 + 2 = (i * 3 + 2) + 1 + 1 + 1 from rfl]
    simp only [List.getElem?_cons_succ, List.getD_cons_succ]
    exact ih
/-- the cells of a slice that came in, in one row -/
theorem ReadsI.flat {w : World} {A : Option Addr} {n c : Nat} {xs : List Int} (h : ReadsI w A n c xs) : ∀ ad, A = some ad → ∀ j u, (flatI xs)[j]? = some u → w.cell? (ad.add j) = some u := by
  intro ad hA j u hu
  have hj : j < n := by
    have := (List.getElem?_eq_some_iff.1 hu).1
    rw [flatI_len, h.len] at this; omega
  obtain ⟨b, o, e, hc⟩ := h.cell (by omega)
  rw [hA] at e; injection e with e; subst e
  have := hc j hj
  rw [flatI_get xs j (by rw [h.len]; exact hj)] at hu
  rw [Addr.add_lit]
  exact this.trans hu
theorem ReadsP.flat {w : World} {A : Option Addr} {n c : Nat} {xs : List (Int × Int)} (h : ReadsP w A n c xs) : ∀ ad, A = some ad → ∀ j u, (flat2 xs)[j]? = some u → w.cell? (ad.add j) = some u := by
  intro ad hA j u hu
  have hj : j < n * 2 := by
    have := (List.getElem?_eq_some_iff.1 hu).1
    rw [flat2_len, h.len] at this; omega
  obtain ⟨b, o, e, hc⟩ := h.cell (by omega)
  rw [hA] at e; injection e with e; subst e
  have hi : j / 2 < n := by omega
  have g := flat2_get xs (j / 2) (by rw [h.len]; exact hi)
  have c := hc (j / 2) hi
  rw [Addr.add_lit]
  rcases Nat.mod_two_eq_zero_or_one j with hm | hm
  · have e : j = j / 2 * 2 := by omega
    rw [e] at hu ⊢
    exact c.1.trans (g.1.symm.trans hu)
  · have e : j = j / 2 * 2 + 1 := by omega
    rw [e] at hu ⊢
    exact c.2.trans (g.2.symm.trans hu)
theorem ReadsT.flat {w : World} {A : Option Addr} {n c : Nat} {xs : List (Int × Int × Int)} (h : ReadsT w A n c xs) : ∀ ad, A = some ad → ∀ j u, (flat3 xs)[j]? = some u → w.cell? (ad.add j) = some u := by
  intro ad hA j u hu
  have hj : j < n * 3 := by
    have := (List.getElem?_eq_some_iff.1 hu).1
    rw [flat3_len, h.len] at this; omega
  obtain ⟨b, o, e, hc⟩ := h.cell (by omega)
  rw [hA] at e; injection e with e; subst e
  have hi : j / 3 < n := by omega
  have g := flat3_get xs (j / 3) (by rw [h.len]; exact hi)
  have c := hc (j / 3) hi
  rw [Addr.add_lit]
  obtain ⟨q, hq⟩ : ∃ q, q = j / 3 := ⟨_, rfl⟩
  rw [← hq] at g c
  have hm : j = q * 3 ∨ j = q * 3 + 1 ∨ j = q * 3 + 2 := by omega
  clear hq
  rcases hm with rfl | rfl | rfl
  · exact c.1.trans (g.1.symm.trans hu)
  · exact c.2.1.trans (g.2.1.symm.trans hu)
  · exact c.2.2.trans (g.2.2.symm.trans hu)
theorem ReadsI.of_row {w : World} {B : Nat} {e : TypeId} {A : Option Addr} {n c : Nat} {xs : List Int} (h : w.ownsRow B e 1 (.slice A n c) n (flatI xs)) (hn : n ≤ maxLen) (hw : ∀ x ∈ xs, (Lit.int .i64 x).wf = true) : ReadsI w A n c xs := by
  have hl : xs.length = n := by have := h.1; rw [flatI_len] at this; omega
  refine ⟨hl, hn, fun h0 => ?_, hw⟩
  rcases h.2 with ⟨_, h1⟩ | ⟨g, cc, _, h1, _⟩
  · omega
  · injection h1 with e1 e2 e3
    subst e1
    exact ⟨g, 0, rfl, fun i hi => by rw [Nat.zero_add, h.cellAt i (by omega), flatI_get xs i (by omega)]⟩
theorem ReadsP.of_row {w : World} {B : Nat} {e : TypeId} {A : Option Addr} {n c : Nat} {xs : List (Int × Int)} (h : w.ownsRow B e 2 (.slice A n c) n (flat2 xs)) (hn : n ≤ maxLen) (hw : ∀ x ∈ xs, (Lit.int .i64 x.1).wf = true ∧ (Lit.int .i64 x.2).wf = true) : ReadsP w A n c xs := by
  have hl : xs.length = n := by have := h.1; rw [flat2_len] at this; omega
  refine ⟨hl, hn, fun h0 => ?_, hw⟩
  rcases h.2 with ⟨_, h1⟩ | ⟨g, cc, _, h1, _⟩
  · omega
  · injection h1 with e1 e2 e3
    subst e1
    refine ⟨g, 0, rfl, fun i hi => ?_⟩
    have := flat2_get xs i (by omega)
    rw [Nat.zero_add, h.cellAt _ (by omega), h.cellAt _ (by omega)]
    exact this
theorem ReadsT.of_row {w : World} {B : Nat} {e : TypeId} {A : Option Addr} {n c : Nat} {xs : List (Int × Int × Int)} (h : w.ownsRow B e 3 (.slice A n c) n (flat3 xs)) (hn : n ≤ maxLen) (hw : ∀ x ∈ xs, (Lit.int .i64 x.1).wf = true ∧ (Lit.int .i64 x.2.1).wf = true ∧ (Lit.int .i64 x.2.2).wf = true) : ReadsT w A n c xs := by
  have hl : xs.length = n := by have := h.1; rw [flat3_len] at this; omega
  refine ⟨hl, hn, fun h0 => ?_, hw⟩
  rcases h.2 with ⟨_, h1⟩ | ⟨g, cc, _, h1, _⟩
  · omega
  · injection h1 with e1 e2 e3
    subst e1
    refine ⟨g, 0, rfl, fun i hi => ?_⟩
    have := flat3_get xs i (by omega)
    rw [Nat.zero_add, h.cellAt _ (by omega), h.cellAt _ (by omega), h.cellAt _ (by omega)]
    exact this
set_option maxRecDepth 100000 in
set_option maxHeartbeats 4000000 in
theorem clone_int {A : Option Addr} {n c : Nat} {xs : List _} {w : World} (h : ReadsI w A n c xs) (hn : n ≤ 1099511627776) :
    Calls Try.prog 76 #[.slice A n c] w fun e w' => ∃ A' c', e = .returned (.slice A' n c') ∧ w'.ownsRow w.heap.size 3 1 (.slice A' n c') n (flatI xs) ∧ Below w.heap.size w w' ∧ (A' = none ↔ A = none) := by
  obtain ⟨i0, hi, hz0, hz1, hz2⟩ := info_parts infoInt
  by_cases hA : A = none
  · subst hA
    have h0 : n = 0 := by
      rcases Nat.eq_zero_or_pos n with h0 | h0
      · exact h0
      · obtain ⟨b, o, e, _⟩ := h.cell h0; cases e
    subst h0
    have hx : xs = [] := List.eq_nil_of_length_eq_zero h.len
    subst hx
    have he : ∀ w : World, (binOp .eql 22 (.slice none 0 c) (.slice none 0 0)).run Try.prog w = .ok (.bool true) w := fun _ => rfl
    clear h hn hi hz0 hz1 hz2
    go_enter Try.func76, Try.ntmps76
    go_wp2_with fail
    go_ret
    exact ⟨_, _, rfl, World.ownsRow_nil _ _ _ _, Below.refl _ _, by simp⟩
  · obtain ⟨ad, rfl⟩ : ∃ ad, A = some ad := Option.ne_none_iff_exists'.1 hA
    clear hA
    have hown0 : (w.alloc (.cells #[] 3)).ownsRow w.heap.size 3 1 (.slice (some ⟨w.heap.size, 0, none⟩) 0 0) 0 [] :=
      ⟨rfl, .inr ⟨w.heap.size, 0, #[], rfl, Nat.le_refl _, by show (w.heap.push _)[w.heap.size]? = _; simp, Nat.le_refl _, by unfold maxLen; omega, rfl, rfl⟩⟩
    have he : ∀ w : World, (binOp .eql 22 (.slice (some ad) n c) (.slice none 0 0)).run Try.prog w = .ok (.bool false) w := fun _ => rfl
    have hl := flatI_len xs
    rw [h.len] at hl
    have hcell := h.flat
    have hone := flat_oneflatI xs
    have HH := Lib.hid h
    clear h
    go_enter Try.func76, Try.ntmps76
    go_wp2_with (at_builtin; refine wpList_append_own _ rfl (.tmp 5) (.tmp 6) 22 rfl w.heap.size 3 i0 _ 1 8 Try.underlying22 hi hz0 hz1 hz2 rfl (by decide) _ _ _ rfl hown0 ad n c (flatI xs) rfl hl ?c1 hone (by unfold maxLen; omega) (by omega) (by simp) ?_)
    case c1 =>
      intro j u hu
      have := hcell ad rfl j u hu
      exact (bl_alloc (Below.refl _ _) _).cell (World.block_lt_of_cell? _ _ this) |>.trans this
    intro v' w1 hown' hgrow hnil
    have hform : ∃ A' c', v' = .slice A' n c' ∧ (A' = none ↔ some ad = none) := by
      rcases hown'.2 with ⟨h1, h2⟩ | ⟨g, cc, _, h1, _⟩
      · rw [h1] at hnil; simp at hnil
      · exact ⟨_, cc, h1, by simp⟩
    obtain ⟨A', c', rfl, hA⟩ := hform
    have hb : Below w.heap.size w w1 := ((Below.refl _ _).alloc (Nat.le_refl _) _).grown hgrow (by simp) (fun k hk => by simp [Value.ownBlock] at hk; omega)
    clear hl hcell hone hown0 he
    go_wp2_with fail
    go_ret
    exact ⟨_, _, rfl, hown', hb, hA⟩
set_option maxRecDepth 100000 in
set_option maxHeartbeats 4000000 in
theorem clone_node {A : Option Addr} {n c : Nat} {xs : List _} {w : World} (h : ReadsP w A n c xs) (hn : n ≤ 1099511627776) :
    Calls Try.prog 66 #[.slice A n c] w fun e w' => ∃ A' c', e = .returned (.slice A' n c') ∧ w'.ownsRow w.heap.size 93 2 (.slice A' n c') n (flat2 xs) ∧ Below w.heap.size w w' ∧ (A' = none ↔ A = none) := by
  obtain ⟨i0, hi, hz0, hz1, hz2⟩ := info_parts infoNode
  by_cases hA : A = none
  · subst hA
    have h0 : n = 0 := by
      rcases Nat.eq_zero_or_pos n with h0 | h0
      · exact h0
      · obtain ⟨b, o, e, _⟩ := h.cell h0; cases e
    subst h0
    have hx : xs = [] := List.eq_nil_of_length_eq_zero h.len
    subst hx
    have he : ∀ w : World, (binOp .eql 25 (.slice none 0 c) (.slice none 0 0)).run Try.prog w = .ok (.bool true) w := fun _ => rfl
    clear h hn hi hz0 hz1 hz2
    go_enter Try.func66, Try.ntmps66
    go_wp2_with fail
    go_ret
    exact ⟨_, _, rfl, World.ownsRow_nil _ _ _ _, Below.refl _ _, by simp⟩
  · obtain ⟨ad, rfl⟩ : ∃ ad, A = some ad := Option.ne_none_iff_exists'.1 hA
    clear hA
    have hown0 : (w.alloc (.cells #[] 93)).ownsRow w.heap.size 93 2 (.slice (some ⟨w.heap.size, 0, none⟩) 0 0) 0 [] :=
      ⟨rfl, .inr ⟨w.heap.size, 0, #[], rfl, Nat.le_refl _, by show (w.heap.push _)[w.heap.size]? = _; simp, Nat.le_refl _, by unfold maxLen; omega, rfl, rfl⟩⟩
    have he : ∀ w : World, (binOp .eql 25 (.slice (some ad) n c) (.slice none 0 0)).run Try.prog w = .ok (.bool false) w := fun _ => rfl
    have hl := flat2_len xs
    rw [h.len] at hl
    have hcell := h.flat
    have hone := flat_oneflat2 xs
    have HH := Lib.hid h
    clear h
    go_enter Try.func66, Try.ntmps66
    go_wp2_with (at_builtin; refine wpList_append_own _ rfl (.tmp 5) (.tmp 6) 25 rfl w.heap.size 93 i0 _ 2 16 Try.underlying25 hi hz0 hz1 hz2 rfl (by decide) _ _ _ rfl hown0 ad n c (flat2 xs) rfl hl ?c1 hone (by unfold maxLen; omega) (by omega) (by simp) ?_)
    case c1 =>
      intro j u hu
      have := hcell ad rfl j u hu
      exact (bl_alloc (Below.refl _ _) _).cell (World.block_lt_of_cell? _ _ this) |>.trans this
    intro v' w1 hown' hgrow hnil
    have hform : ∃ A' c', v' = .slice A' n c' ∧ (A' = none ↔ some ad = none) := by
      rcases hown'.2 with ⟨h1, h2⟩ | ⟨g, cc, _, h1, _⟩
      · rw [h1] at hnil; simp at hnil
      · exact ⟨_, cc, h1, by simp⟩
    obtain ⟨A', c', rfl, hA⟩ := hform
    have hb : Below w.heap.size w w1 := ((Below.refl _ _).alloc (Nat.le_refl _) _).grown hgrow (by simp) (fun k hk => by simp [Value.ownBlock] at hk; omega)
    clear hl hcell hone hown0 he
    go_wp2_with fail
    go_ret
    exact ⟨_, _, rfl, hown', hb, hA⟩
set_option maxRecDepth 100000 in
set_option maxHeartbeats 4000000 in
theorem clone_edge {A : Option Addr} {n c : Nat} {xs : List _} {w : World} (h : ReadsT w A n c xs) (hn : n ≤ 1099511627776) :
    Calls Try.prog 67 #[.slice A n c] w fun e w' => ∃ A' c', e = .returned (.slice A' n c') ∧ w'.ownsRow w.heap.size 43 3 (.slice A' n c') n (flat3 xs) ∧ Below w.heap.size w w' ∧ (A' = none ↔ A = none) := by
  obtain ⟨i0, hi, hz0, hz1, hz2⟩ := info_parts infoEdge
  by_cases hA : A = none
  · subst hA
    have h0 : n = 0 := by
      rcases Nat.eq_zero_or_pos n with h0 | h0
      · exact h0
      · obtain ⟨b, o, e, _⟩ := h.cell h0; cases e
    subst h0
    have hx : xs = [] := List.eq_nil_of_length_eq_zero h.len
    subst hx
    have he : ∀ w : World, (binOp .eql 26 (.slice none 0 c) (.slice none 0 0)).run Try.prog w = .ok (.bool true) w := fun _ => rfl
    clear h hn hi hz0 hz1 hz2
    go_enter Try.func67, Try.ntmps67
    go_wp2_with fail
    go_ret
    exact ⟨_, _, rfl, World.ownsRow_nil _ _ _ _, Below.refl _ _, by simp⟩
  · obtain ⟨ad, rfl⟩ : ∃ ad, A = some ad := Option.ne_none_iff_exists'.1 hA
    clear hA
    have hown0 : (w.alloc (.cells #[] 43)).ownsRow w.heap.size 43 3 (.slice (some ⟨w.heap.size, 0, none⟩) 0 0) 0 [] :=
      ⟨rfl, .inr ⟨w.heap.size, 0, #[], rfl, Nat.le_refl _, by show (w.heap.push _)[w.heap.size]? = _; simp, Nat.le_refl _, by unfold maxLen; omega, rfl, rfl⟩⟩
    have he : ∀ w : World, (binOp .eql 26 (.slice (some ad) n c) (.slice none 0 0)).run Try.prog w = .ok (.bool false) w := fun _ => rfl
    have hl := flat3_len xs
    rw [h.len] at hl
    have hcell := h.flat
    have hone := flat_oneflat3 xs
    have HH := Lib.hid h
    clear h
    go_enter Try.func67, Try.ntmps67
    go_wp2_with (at_builtin; refine wpList_append_own _ rfl (.tmp 5) (.tmp 6) 26 rfl w.heap.size 43 i0 _ 3 24 Try.underlying26 hi hz0 hz1 hz2 rfl (by decide) _ _ _ rfl hown0 ad n c (flat3 xs) rfl hl ?c1 hone (by unfold maxLen; omega) (by omega) (by simp) ?_)
    case c1 =>
      intro j u hu
      have := hcell ad rfl j u hu
      exact (bl_alloc (Below.refl _ _) _).cell (World.block_lt_of_cell? _ _ this) |>.trans this
    intro v' w1 hown' hgrow hnil
    have hform : ∃ A' c', v' = .slice A' n c' ∧ (A' = none ↔ some ad = none) := by
      rcases hown'.2 with ⟨h1, h2⟩ | ⟨g, cc, _, h1, _⟩
      · rw [h1] at hnil; simp at hnil
      · exact ⟨_, cc, h1, by simp⟩
    obtain ⟨A', c', rfl, hA⟩ := hform
    have hb : Below w.heap.size w w1 := ((Below.refl _ _).alloc (Nat.le_refl _) _).grown hgrow (by simp) (fun k hk => by simp [Value.ownBlock] at hk; omega)
    clear hl hcell hone hown0 he
    go_wp2_with fail
    go_ret
    exact ⟨_, _, rfl, hown', hb, hA⟩
set_option maxRecDepth 100000 in
set_option maxHeartbeats 4000000 in
theorem clone_ban {A : Option Addr} {n c : Nat} {xs : List _} {w : World} (h : ReadsP w A n c xs) (hn : n ≤ 1099511627776) :
    Calls Try.prog 68 #[.slice A n c] w fun e w' => ∃ A' c', e = .returned (.slice A' n c') ∧ w'.ownsRow w.heap.size 96 2 (.slice A' n c') n (flat2 xs) ∧ Below w.heap.size w w' ∧ (A' = none ↔ A = none) := by
  obtain ⟨i0, hi, hz0, hz1, hz2⟩ := info_parts infoBan
  by_cases hA : A = none
  · subst hA
    have h0 : n = 0 := by
      rcases Nat.eq_zero_or_pos n with h0 | h0
      · exact h0
      · obtain ⟨b, o, e, _⟩ := h.cell h0; cases e
    subst h0
    have hx : xs = [] := List.eq_nil_of_length_eq_zero h.len
    subst hx
    have he : ∀ w : World, (binOp .eql 27 (.slice none 0 c) (.slice none 0 0)).run Try.prog w = .ok (.bool true) w := fun _ => rfl
    clear h hn hi hz0 hz1 hz2
    go_enter Try.func68, Try.ntmps68
    go_wp2_with fail
    go_ret
    exact ⟨_, _, rfl, World.ownsRow_nil _ _ _ _, Below.refl _ _, by simp⟩
  · obtain ⟨ad, rfl⟩ : ∃ ad, A = some ad := Option.ne_none_iff_exists'.1 hA
    clear hA
    have hown0 : (w.alloc (.cells #[] 96)).ownsRow w.heap.size 96 2 (.slice (some ⟨w.heap.size, 0, none⟩) 0 0) 0 [] :=
      ⟨rfl, .inr ⟨w.heap.size, 0, #[], rfl, Nat.le_refl _, by show (w.heap.push _)[w.heap.size]? = _; simp, Nat.le_refl _, by unfold maxLen; omega, rfl, rfl⟩⟩
    have he : ∀ w : World, (binOp .eql 27 (.slice (some ad) n c) (.slice none 0 0)).run Try.prog w = .ok (.bool false) w := fun _ => rfl
    have hl := flat2_len xs
    rw [h.len] at hl
    have hcell := h.flat
    have hone := flat_oneflat2 xs
    have HH := Lib.hid h
    clear h
    go_enter Try.func68, Try.ntmps68
    go_wp2_with (at_builtin; refine wpList_append_own _ rfl (.tmp 5) (.tmp 6) 27 rfl w.heap.size 96 i0 _ 2 16 Try.underlying27 hi hz0 hz1 hz2 rfl (by decide) _ _ _ rfl hown0 ad n c (flat2 xs) rfl hl ?c1 hone (by unfold maxLen; omega) (by omega) (by simp) ?_)
    case c1 =>
      intro j u hu
      have := hcell ad rfl j u hu
      exact (bl_alloc (Below.refl _ _) _).cell (World.block_lt_of_cell? _ _ this) |>.trans this
    intro v' w1 hown' hgrow hnil
    have hform : ∃ A' c', v' = .slice A' n c' ∧ (A' = none ↔ some ad = none) := by
      rcases hown'.2 with ⟨h1, h2⟩ | ⟨g, cc, _, h1, _⟩
      · rw [h1] at hnil; simp at hnil
      · exact ⟨_, cc, h1, by simp⟩
    obtain ⟨A', c', rfl, hA⟩ := hform
    have hb : Below w.heap.size w w1 := ((Below.refl _ _).alloc (Nat.le_refl _) _).grown hgrow (by simp) (fun k hk => by simp [Value.ownBlock] at hk; omega)
    clear hl hcell hone hown0 he
    go_wp2_with fail
    go_ret
    exact ⟨_, _, rfl, hown', hb, hA⟩
end Go.Proofs.Ytjopiefojicblaa
/- graph.rows: edges by a node of theirs. -/
set_option linter.unusedVariables false
set_option linter.unusedSimpArgs false
namespace Go.Proofs.Ytjopiefojicblaa
open Go.ChangeShapes Go.WideShapes Go.ChangeAt Go.RowKit RowP
/-- a row of ints that is the call's own -/
def IRow (w : World) (b n cap : Nat) (L : List Int) : Prop := w.ownsRow 0 3 1 (.slice (some ⟨b, 0, none⟩) n cap) n (flatI L)
theorem IRow.len {w : World} {b n cap : Nat} {L : List Int} (h : IRow w b n cap L) : L.length = n := by have := h.1; rw [flatI_len] at this; omega
theorem IRow.cell {w : World} {b n cap : Nat} {L : List Int} (h : IRow w b n cap L) {i : Nat} (hi : i < n) : w.cell? ⟨b, i, none⟩ = some (.int .i64 (L.getD i 0)) := by
  have hl := h.len
  rw [World.ownsRow.cellAt h i (by omega), flatI_get L i (by omega)]
theorem IRow.fr {w : World} {b n cap : Nat} {L : List Int} (h : IRow w b n cap L) (i : Nat) : w.frozen? ⟨b, i, none⟩ = false := World.ownsRow.frozenAt h i
theorem flatI_set (L : List Int) (i : Nat) (x : Int) : (flatI L).set i (.int .i64 x) = flatI (L.set i x) := by simp [flatI, List.map_set]
theorem IRow.set {w : World} {b n cap : Nat} {L : List Int} (h : IRow w b n cap L) (i : Nat) (x : Int) : IRow (w.setCell ⟨b, i, none⟩ (.int .i64 x)) b n cap (L.set i x) := by
  have := (World.ownsRow.stored h i (.int .i64 x)).1
  rw [flatI_set] at this
  exact this
theorem IRow.upd {F : Nat → Prop} {w w' : World} {b n cap : Nat} {L : List Int} (h : IRow w b n cap L) (hu : Upd F w w') (hF : ¬ F b) : IRow w' b n cap L := by
  refine ⟨h.1, ?_⟩
  rcases h.2 with ⟨e, _⟩ | ⟨g, c, cur, e, hb, hg, r⟩
  · cases e
  · refine .inr ⟨g, c, cur, e, hb, ?_, r⟩
    simp only [Value.slice.injEq, Option.some.injEq, Addr.mk.injEq, and_true] at e
    obtain ⟨rfl, _⟩ := e
    have hlt : b < w.heap.size := by
      rcases Nat.lt_or_ge b w.heap.size with h1 | h1
      · exact h1
      · rw [Array.getElem?_eq_none h1] at hg; cases hg
    rw [hu.block b hlt hF]; exact hg
theorem IRow.lt {w : World} {b n cap : Nat} {L : List Int} (h : IRow w b n cap L) : b < w.heap.size := (World.ownsRow.lt h b rfl).2
theorem IRow.below {w w' : World} {b n cap : Nat} {L : List Int} (h : IRow w b n cap L) (hb : Below w.heap.size w w') : IRow w' b n cap L := h.upd (F := fun _ => False) (Upd.of_below hb) id
theorem IRow.base {w : World} {B b n cap : Nat} {L : List Int} (h : w.ownsRow B 3 1 (.slice (some ⟨b, 0, none⟩) n cap) n (flatI L)) : IRow w b n cap L := ⟨h.1, h.2.imp id fun ⟨g, c, cur, e, hb, r⟩ => ⟨g, c, cur, e, Nat.zero_le _, r⟩⟩
theorem IRow.made (w : World) (n : Nat) (hn : n ≤ maxLen) : IRow (w.alloc (.cells (madeCells #[.int .i64 0] n) 3)) w.heap.size n n (List.replicate n 0) := by
  refine ⟨by simp [flatI], .inr ⟨w.heap.size, n, madeCells #[.int .i64 0] n, rfl, Nat.zero_le _, ?_, Nat.le_refl _, hn, ?_, ?_⟩⟩
  · show (w.heap.push _)[w.heap.size]? = _; simp
  · simp [madeCells]
  · rw [toList_madeCells_one]; simp [flatI]
theorem cell_upd {F : Nat → Prop} {w w' : World} {b x : Nat} {v : Value} (h : w.cell? ⟨b, x, none⟩ = some v) (hu : Upd F w w') (hF : ¬ F b) : w'.cell? ⟨b, x, none⟩ = some v :=
  (World.cell?_of_block (a := ⟨b, x, none⟩) (hu.block b (World.block_lt_of_cell? w ⟨b, x, none⟩ h) hF)).trans h
theorem new1_any (a b c : Int) (w : World) : Calls Try.prog 70 #[.agg #[.int .i64 a, .int .i64 b, .int .i64 c]] w fun e w' => e = .returned (.int .i64 a) ∧ Below w.heap.size w w' := by
  go_enter Try.func70, Try.ntmps70
  go_wp2_with fail
  go_ret
  exact ⟨rfl, bl_alloc (Below.refl _ _) _⟩
theorem new2_any (a b c : Int) (w : World) : Calls Try.prog 71 #[.agg #[.int .i64 a, .int .i64 b, .int .i64 c]] w fun e w' => e = .returned (.int .i64 b) ∧ Below w.heap.size w w' := by
  go_enter Try.func71, Try.ntmps71
  go_wp2_with fail
  go_ret
  exact ⟨rfl, bl_alloc (Below.refl _ _) _⟩
theorem cell_three_new {w : World} {x y z : Value} {t : TypeId} : ∀ j v, (#[x, y, z] : Array Value)[j]? = some v → (w.alloc (.cells #[x, y, z] t)).cell? ⟨w.heap.size, j, none⟩ = some v := by
  intro j v hv
  have : (w.alloc (.cells #[x, y, z] t)).heap[w.heap.size]? = some (.cells #[x, y, z] t) := by show (w.heap.push _)[w.heap.size]? = _; simp
  unfold World.cell?; simp only [this]; exact hv
theorem wf_P2 {f : Nat → Nat} {N m : Nat} {L : List Int} (h : P2 f N m N L) (hm : m ≤ 512) : ∀ x ∈ L, (Lit.int .i64 x).wf = true := by
  intro x hx
  obtain ⟨i, hi, rfl⟩ := List.getElem_of_mem hx
  have hl := h.len
  have e := h.lo i (by omega)
  rw [List.getD_eq_getElem?_getD, List.getElem?_eq_getElem hi] at e
  have e2 : L[i] = (pre f m i : Nat) := e
  rw [e2]
  have := pre_le f m i
  exact wf_of (by omega) (by omega)
theorem own_at {w : World} {B : Nat} {e : TypeId} {size n c : Nat} {A : Option Addr} {xs : List Value} (h : w.ownsRow B e size (.slice A n c) n xs) (hn : 0 < n) : ∃ g, A = some ⟨g, 0, none⟩ ∧ B ≤ g ∧ g < w.heap.size := by
  rcases h.2 with ⟨_, h0⟩ | ⟨g, c, cur, e, hb, hg, _⟩
  · omega
  · injection e with e1 _ _
    refine ⟨g, e1, hb, ?_⟩
    rcases Nat.lt_or_ge g w.heap.size with h1 | h1
    · exact h1
    · rw [Array.getElem?_eq_none h1] at hg; cases hg
set_option maxRecDepth 100000 in
set_option maxHeartbeats 16000000 in
theorem rows_from {A1 A2 A3 : Option Addr} {n1 c1 n2 c2 n3 c3 : Nat} {es : List (Int × Int × Int)} {w : World} (h1 : n1 ≤ 256) (h2 : n2 ≤ 512)
    (r2 : ReadsT w A2 n2 c2 es) {f : Nat → Nat} (hf : ∀ i, i < n2 → (es.getD i (0, 0, 0)).1 = (f i : Nat) ∧ f i < n1) :
    Calls Try.prog 69 #[.agg #[.slice A1 n1 c1, .slice A2 n2 c2, .slice A3 n3 c3], .func (.func 70) #[] #[]] w fun e w' =>
      ∃ R X bR bX cX, e = .returned (.tuple #[.slice (some ⟨bR, 0, none⟩) n2 n2, .slice (some ⟨bX, 0, none⟩) (n1 + 1) cX]) ∧ IRow w' bR n2 n2 R ∧ IRow w' bX (n1 + 1) cX X ∧ w.heap.size ≤ bR ∧ w.heap.size ≤ bX ∧ bR ≠ bX ∧ Sorted f n1 n2 R X ∧ Below w.heap.size w w' := by
  have hc0 : ∀ j v, (#[Value.slice A1 n1 c1, .slice A2 n2 c2, .slice A3 n3 c3] : Array Value)[j]? = some v → (w.alloc (.cells #[.slice A1 n1 c1, .slice A2 n2 c2, .slice A3 n3 c3] 29)).cell? ⟨w.heap.size, j, none⟩ = some v := by
    intro j v hv
    have : (w.alloc (.cells #[.slice A1 n1 c1, .slice A2 n2 c2, .slice A3 n3 c3] 29)).heap[w.heap.size]? = some (.cells #[.slice A1 n1 c1, .slice A2 n2 c2, .slice A3 n3 c3] 29) := by show (w.heap.push _)[w.heap.size]? = _; simp
    unfold World.cell?; simp only [this]; exact hv
  have k0 := hc0 0 _ rfl
  have k1 := hc0 1 _ rfl
  have R2 := Lib.hid r2
  have HF := Lib.hid hf
  have hmk1 := run_make_row' (P := Try.prog) 22 3 (.int .i64 0) 8 Try.underlying22 infoInt rfl .i64 .i64 (n1 + 1) (by omega) (by omega)
  have hmk2 := run_make_row' (P := Try.prog) 22 3 (.int .i64 0) 8 Try.underlying22 infoInt rfl .i64 .i64 n2 (by omega) (by omega)
  rw [show (((n1 + 1 : Nat)) : Int) = (n1 : Int) + 1 by omega] at hmk1
  have HMK2 := Lib.hid hmk2
  clear hc0 r2 hf hmk2
  go_enter Try.func69, Try.ntmps69
  go_wp2_with fail
  have hi1 := IRow.made (w.alloc (.cells #[.slice A1 n1 c1, .slice A2 n2 c2, .slice A3 n3 c3] 29)) (n1 + 1) (by unfold maxLen; omega)
  rw [size_alloc] at hi1
  have kk0 := cell_below k0 (bl_alloc (Below.refl _ _) (.cells (madeCells #[.int .i64 0] (n1 + 1)) 3))
  have kk1 := cell_below k1 (bl_alloc (Below.refl _ _) (.cells (madeCells #[.int .i64 0] (n1 + 1)) 3))
  have hb1 : Below w.heap.size w ((w.alloc (.cells #[.slice A1 n1 c1, .slice A2 n2 c2, .slice A3 n3 c3] 29)).alloc (.cells (madeCells #[.int .i64 0] (n1 + 1)) 3)) := bl_alloc (bl_alloc (Below.refl _ _) _) _
  obtain ⟨W1, hW1⟩ : ∃ W1, W1 = (w.alloc (.cells #[.slice A1 n1 c1, .slice A2 n2 c2, .slice A3 n3 c3] 29)).alloc (.cells (madeCells #[.int .i64 0] (n1 + 1)) 3) := ⟨_, rfl⟩
  rw [← hW1] at hi1 kk0 kk1 hb1 ⊢
  have hz1 : W1.heap.size = w.heap.size + 2 := by rw [hW1, size_alloc, size_alloc]
  have KK0 := Lib.hid kk0
  have KK1 := Lib.hid kk1
  have HB1 := Lib.hid hb1
  have HI1 := Lib.hid hi1
  have HZ1 := Lib.hid hz1
  clear k0 k1 hW1 hmk1 kk0 kk1 hb1 hi1 hz1
  go_loopg [20] n2 (fun m v wr => ∃ (k : Nat) (L : List Int), m = n2 - k ∧ k ≤ n2 ∧ v = .int .i64 (k : Nat) ∧ Upd (fun b => b = w.heap.size + 1) W1 wr ∧ IRow wr (w.heap.size + 1) (n1 + 1) (n1 + 1) L ∧ P1 f n1 k L)
  case atStart => exact ⟨0, _, rfl, Nat.zero_le _, rfl, Upd.refl _ _, HI1.out, P1.start f n1⟩
  case round =>
    obtain ⟨k, L, hm, hk, rfl, hu, hi, hp⟩ := hrel
    have HM := Lib.hid hm
    have HU := Lib.hid hu
    have HI := Lib.hid hi
    have HP := Lib.hid hp
    clear hm hu hi hp
    have hbw : Below w.heap.size w wr := HB1.out.trans (HU.out.below (by rw [HZ1.out]; omega) fun b hb e => by omega)
    have HBW := Lib.hid hbw
    clear hbw
    by_cases hlt : k < n2
    · obtain ⟨b, o, rfl, hc⟩ := R2.out.cell (by omega)
      have hw01 := hc k hlt
      obtain ⟨hf1, hf2⟩ := HF.out k hlt
      have hsm := HP.out.small _ hf2
      obtain ⟨x, hx⟩ : ∃ x, x = es.getD k (0, 0, 0) := ⟨_, rfl⟩
      rw [← hx] at hw01 hf1
      obtain ⟨ef, et, ew⟩ := x
      obtain rfl : ef = (f k : Nat) := hf1
      obtain ⟨fk, hfk⟩ : ∃ fk, fk = f k := ⟨_, rfl⟩
      rw [← hfk] at hf2 hw01 hsm
      have HFK := Lib.hid hfk
      have hc0 := cell_below hw01.1 HBW.out
      have hc1 := cell_below hw01.2.1 HBW.out
      have hc2 := cell_below hw01.2.2 HBW.out
      clear hc hw01 hx hfk
      go_wp2_with fail
      refine (new1_any _ _ _ _).mono ?_
      rintro e w2 ⟨rfl, hb2⟩
      have hbw2 : Below wr.heap.size wr w2 := (bl_alloc (Below.refl _ _) _).trans (hb2.mono (by rw [size_alloc]; omega))
      have hi2 := HI.out.below hbw2
      have hu2 := HU.out.trans (Upd.of_below hbw2 (F := fun b => b = w.heap.size + 1)) (fun i _ h => h)
      have hcl := hi2.cell (i := fk + 1) (by omega)
      have hfr := hi2.fr (fk + 1)
      obtain ⟨y, hy⟩ : ∃ y, y = L.getD (fk + 1) 0 := ⟨_, rfl⟩
      rw [← hy] at hcl hsm
      have HI2 := Lib.hid hi2
      have HU2 := Lib.hid hu2
      have HY := Lib.hid hy
      clear hb2 hbw2 hi2 hu2 hc0 hc1 hc2 hy
      go_wp2_with fail
      go_roundg (n2 - (k + 1))
      case measure => have := HM.out; omega
      case rel =>
        refine ⟨k + 1, L.set (fk + 1) (y + 1), rfl, by omega, by go_num, upd_setCell HU2.out rfl _, ?_, ?_⟩
        · exact HI2.out.set _ _
        · rw [HY.out, HFK.out]; rw [HFK.out] at hf2; exact HP.out.step hf2
    · have hkn : k = n2 := by omega
      subst hkn
      have j0 := cell_upd KK0.out HU.out (by omega)
      have j1 := cell_upd KK1.out HU.out (by omega)
      have J0 := Lib.hid j0
      have J1 := Lib.hid j1
      have hp2 := P2.start HP.out
      have HP2 := Lib.hid hp2
      clear hlt hp2 HP HM
      go_wp2_with fail
      go_loopg [37] n1 (fun m v wq => ∃ (i : Nat) (L : List Int), m = n1 - i ∧ i ≤ n1 ∧ v = .int .i64 (i : Nat) ∧ Upd (fun b => b = w.heap.size + 1) W1 wq ∧ IRow wq (w.heap.size + 1) (n1 + 1) (n1 + 1) L ∧ P2 f n1 k i L)
      case atStart => exact ⟨0, L, rfl, Nat.zero_le _, rfl, HU.out, HI.out, HP2.out⟩
      case round =>
        obtain ⟨i, L2, hm, hi, rfl, hu, hir, hp⟩ := hrel
        have HM2 := Lib.hid hm
        have HUU := Lib.hid hu
        have HII := Lib.hid hir
        have HPP := Lib.hid hp
        clear hm hu hir hp HP2 HI HU
        by_cases hlt : i < n1
        · have hsm := HPP.out.small hlt
          have hcl := HII.out.cell (i := i + 1) (by omega)
          have hcl2 := HII.out.cell (i := i) (by omega)
          have hfr := HII.out.fr (i + 1)
          obtain ⟨y, hy⟩ : ∃ y, y = L2.getD (i + 1) 0 := ⟨_, rfl⟩
          obtain ⟨z, hz⟩ : ∃ z, z = L2.getD i 0 := ⟨_, rfl⟩
          rw [← hy, ← hz] at hsm
          rw [← hy] at hcl
          rw [← hz] at hcl2
          obtain ⟨⟨y0, y1⟩, z0, z1⟩ := hsm
          have HY := Lib.hid hy
          have HZ := Lib.hid hz
          have i0 : (0 : Int) ≤ (i : Int) := by omega
          have i1 : (i : Int) < (n1 : Int) + 1 := by omega
          have i2 : (0 : Int) ≤ (i : Int) + 1 := by omega
          have i3 : (i : Int) + 1 < (n1 : Int) + 1 := by omega
          clear hy hz
          go_wp2_with fail
          go_region
          go_wp2_with fail
          go_roundg (n1 - (i + 1))
          case measure => have := HM2.out; omega
          case rel =>
            refine ⟨i + 1, L2.set (i + 1) (y + z), rfl, by omega, by go_num, upd_drew (upd_setCell HUU.out rfl _), ?_, ?_⟩
            · exact (HII.out.set _ _).below (bl_drew (Below.refl _ _))
            · rw [HY.out, HZ.out]; exact HPP.out.step hlt
        · have hin : i = n1 := by omega
          subst hin
          have m1 := cell_upd KK1.out HUU.out (by omega)
          have hmk2 := HMK2.out
          have hwf := wf_P2 HPP.out h2
          have hia := HII.out.below (bl_alloc (Below.refl _ _) (.cells (madeCells #[.int .i64 0] k) 3))
          have hmade := IRow.made wr k (by unfold maxLen; omega)
          have hrd : ReadsI (wr.alloc (.cells (madeCells #[.int .i64 0] k) 3)) (some ⟨w.heap.size + 1, 0, none⟩) (i + 1) (i + 1) L2 := ReadsI.of_row hia (by unfold maxLen; omega) hwf
          have HRD := Lib.hid hrd
          have HIA := Lib.hid hia
          have HMD := Lib.hid hmade
          have M1 := Lib.hid m1
          have hb4 : Below w.heap.size w (wr.alloc (.cells (madeCells #[.int .i64 0] k) 3)) := bl_alloc (HB1.out.trans (HUU.out.below (by rw [HZ1.out]; omega) fun b hb e => by omega)) _
          have hge : w.heap.size + 2 ≤ wr.heap.size := by have := HUU.out.size; rw [HZ1.out] at this; exact this
          have HB4 := Lib.hid hb4
          clear hlt hwf hia hmade hrd HM2 hb4
          go_wp2_with fail
          refine (clone_int HRD.out (by omega)).mono ?_
          rintro e w3 ⟨A', cN, rfl, hown, hb3, hnil⟩
          obtain ⟨bN, rfl, hN1, hN2⟩ := own_at hown (by omega)
          rw [size_alloc] at hN1
          have hi3 : IRow w3 bN (i + 1) cN L2 := IRow.base hown
          have hx3 : IRow w3 (w.heap.size + 1) (i + 1) (i + 1) L2 := HIA.out.below hb3
          have hr3 : IRow w3 wr.heap.size k k (List.replicate k 0) := HMD.out.below hb3
          have m3 : w3.cell? ⟨w.heap.size, 1, none⟩ = some (#[Value.slice A1 i c1, .slice A2 k c2, .slice A3 n3 c3][1]) := cell_below M1.out ((bl_alloc (Below.refl _ _) _).trans (hb3.mono (by rw [size_alloc]; omega)))
          have hbw3 : Below w.heap.size w w3 := HB4.out.trans (hb3.mono HB4.out.size)
          obtain ⟨bR, hbR⟩ : ∃ bR, bR = wr.heap.size := ⟨_, rfl⟩
          rw [← hbR] at hN1 hr3 hge ⊢
          have HI3 := Lib.hid hi3
          have HX3 := Lib.hid hx3
          have HR3 := Lib.hid hr3
          have HB3 := Lib.hid hbw3
          have HN1 := Lib.hid hN1
          have HN2 := Lib.hid hN2
          have HGE := Lib.hid hge
          clear hown hb3 hnil hN1 hN2 hi3 hx3 hr3 hbw3 hge hbR HRD HIA HMD HB4 HUU HII M1 m1 hmk2 J0 J1 j0 j1 HMK2
          go_wp2_with fail
          go_loopg [61] k (fun m v wq => ∃ (q : Nat) (R X : List Int), m = k - q ∧ q ≤ k ∧ v = .int .i64 (q : Nat) ∧ Upd (fun b => b = bR ∨ b = bN) w3 wq ∧ IRow wq bR k k R ∧ IRow wq bN (i + 1) cN X ∧ P3 f i k q R X)
          case atStart => exact ⟨0, _, _, rfl, Nat.zero_le _, rfl, Upd.refl _ _, HR3.out, HI3.out, P3.start HPP.out⟩
          case round =>
            obtain ⟨q, R, X, hm, hq, rfl, hu, hr, hx, hp⟩ := hrel
            have HM3 := Lib.hid hm
            have HU3 := Lib.hid hu
            have HR4 := Lib.hid hr
            have HX4 := Lib.hid hx
            have HP4 := Lib.hid hp
            clear hm hu hr hx hp
            have hbq : Below w.heap.size w wr := HB3.out.trans (HU3.out.below HB3.out.size fun b hb e => by have := HN1.out; have := HGE.out; omega)
            have HBQ := Lib.hid hbq
            clear hbq
            by_cases hlt : q < k
            · obtain ⟨b, o, rfl, hc⟩ := R2.out.cell (by omega)
              have hw01 := hc q hlt
              obtain ⟨hf1, hf2⟩ := HF.out q hlt
              obtain ⟨hpl, hpm⟩ := HP4.out.place hlt hf2
              obtain ⟨x, hx⟩ : ∃ x, x = es.getD q (0, 0, 0) := ⟨_, rfl⟩
              rw [← hx] at hw01 hf1
              obtain ⟨ef, et, ew⟩ := x
              obtain rfl : ef = (f q : Nat) := hf1
              obtain ⟨pl, hpl2⟩ : ∃ pl, pl = pre f k (f q) + cnt f q (f q) := ⟨_, rfl⟩
              have hst := HP4.out.step hlt hf2
              rw [← hpl2] at hpl hpm hst
              have hxl := HX4.out.cell (i := f q) (by omega)
              rw [hpl] at hst hxl
              obtain ⟨fq, hfq⟩ : ∃ fq, fq = f q := ⟨_, rfl⟩
              rw [← hfq] at hf2 hw01 hst hxl
              have hc0 := cell_below hw01.1 HBQ.out
              have hc1 := cell_below hw01.2.1 HBQ.out
              have hc2 := cell_below hw01.2.2 HBQ.out
              have HXL := Lib.hid hxl
              have HST := Lib.hid hst
              have pq0 : (0 : Int) ≤ (pl : Int) := by omega
              have pq1 : (pl : Int) < (k : Int) := by omega
              have fq0 : (0 : Int) ≤ (fq : Int) := by omega
              have fq1 : (fq : Int) < (i : Int) + 1 := by omega
              have hpk : pl ≤ 512 := by omega
              clear hc hw01 hx hst hfq hpl2 hxl hpl hpm
              go_wp2_with fail
              refine (new1_any _ _ _ _).mono ?_
              rintro e w4 ⟨rfl, hb4⟩
              have hn4 := fun j v hv => cell_below (cell_three_new (w := wr) (x := .int .i64 fq) (y := .int .i64 et) (z := .int .i64 ew) (t := 43) j v hv) hb4
              have hbw4 : Below wr.heap.size wr w4 := (bl_alloc (Below.refl _ _) _).trans (hb4.mono (by rw [size_alloc]; omega))
              have hr4 := HR4.out.below hbw4
              have hx4 := HX4.out.below hbw4
              have hxl4 := cell_below HXL.out hbw4
              have hfr4 := hr4.fr pl
              have hne : bR ≠ wr.heap.size := by have := HR4.out.lt; omega
              have e0 := (World.cell?_setCell_far w4 ⟨bR, pl, none⟩ ⟨wr.heap.size, 0, none⟩ (.int .i64 q) hne).trans (hn4 0 _ rfl)
              have e1 := (World.cell?_setCell_far w4 ⟨bR, pl, none⟩ ⟨wr.heap.size, 1, none⟩ (.int .i64 q) hne).trans (hn4 1 _ rfl)
              have e2 := (World.cell?_setCell_far w4 ⟨bR, pl, none⟩ ⟨wr.heap.size, 2, none⟩ (.int .i64 q) hne).trans (hn4 2 _ rfl)
              have hcr := hr4.cell (i := pl) (by omega)
              have hrs := hr4.set pl (q : Nat)
              have hub4 := HU3.out.trans (Upd.of_below hbw4 (F := fun b => b = bR ∨ b = bN)) (fun i _ h => h)
              have hu4 := upd_setCell hub4 (a := ⟨bR, pl, none⟩) (Or.inl rfl) (.int .i64 q)
              have hbn : bN ≠ bR := by have := HN1.out; omega
              have hx5 := hx4.upd (upd_setCell (F := fun b => b = bR) (Upd.refl _ w4) (a := ⟨bR, pl, none⟩) rfl (.int .i64 q)) hbn
              have HRS := Lib.hid hrs
              have HU4 := Lib.hid hu4
              have HX5 := Lib.hid hx5
              have hxl5 := hx5.cell (i := fq) (by omega)
              have hxl4b := hxl4
              rw [hx4.cell (i := fq) (by omega)] at hxl4b
              rw [show X.getD fq 0 = (pl : Int) by injection hxl4b with h; injection h] at hxl5
              have HXL5 := Lib.hid hxl5
              have HHN := Lib.hid hn4
              clear hb4 hn4 hbw4 hr4 hx4 hne hrs hub4 hu4 hx5 hbn hc0 hc1 hc2 hxl5 hxl4b
              go_wp2_with fail
              refine (new1_any _ _ _ _).mono ?_
              rintro e w6 ⟨rfl, hb6⟩
              have hr6 := HRS.out.below hb6
              have hx6 := HX5.out.below hb6
              have hxl6 := cell_below HXL5.out hb6
              have hfr6 := hx6.fr fq
              have hu6 := HU4.out.trans (Upd.of_below hb6 (F := fun b => b = bR ∨ b = bN)) (fun i _ h => h)
              have HR6 := Lib.hid hr6
              have HX6 := Lib.hid hx6
              have HU6 := Lib.hid hu6
              clear hb6 hr6 hx6 hu6 e0 e1 e2 hcr hxl4 hfr4
              go_wp2_with fail
              go_roundg (k - (q + 1))
              case measure => have := HM3.out; omega
              case rel =>
                refine ⟨q + 1, R.set pl (q : Nat), X.set fq ((pl : Int) + 1), rfl, by omega, by go_num, upd_setCell HU6.out (Or.inr rfl) _, ?_, HX6.out.set _ _, HST.out⟩
                exact HR6.out.upd (upd_setCell (F := fun b => b = bN) (Upd.refl _ w6) (a := ⟨bN, fq, none⟩) rfl _) (by have := HN1.out; omega)
            · have hqn : q = k := by omega
              subst hqn
              have hxf := HX3.out.upd HU3.out (by have := HN1.out; have := HGE.out; omega)
              have HXF := Lib.hid hxf
              have hso : Sorted f i q R L2 := Sorted.of HP4.out HPP.out
              have HSO := Lib.hid hso
              clear hxf hso
              go_wp2_with fail
              go_ret2
              exact ⟨R, L2, bR, w.heap.size + 1, i + 1, rfl, HR4.out, HXF.out, by have := HGE.out; omega, by omega, by have := HGE.out; omega, HSO.out, HBQ.out⟩
set_option maxRecDepth 100000 in
set_option maxHeartbeats 16000000 in
theorem rows_to {A1 A2 A3 : Option Addr} {n1 c1 n2 c2 n3 c3 : Nat} {es : List (Int × Int × Int)} {w : World} (h1 : n1 ≤ 256) (h2 : n2 ≤ 512)
    (r2 : ReadsT w A2 n2 c2 es) {f : Nat → Nat} (hf : ∀ i, i < n2 → (es.getD i (0, 0, 0)).2.1 = (f i : Nat) ∧ f i < n1) :
    Calls Try.prog 69 #[.agg #[.slice A1 n1 c1, .slice A2 n2 c2, .slice A3 n3 c3], .func (.func 71) #[] #[]] w fun e w' =>
      ∃ R X bR bX cX, e = .returned (.tuple #[.slice (some ⟨bR, 0, none⟩) n2 n2, .slice (some ⟨bX, 0, none⟩) (n1 + 1) cX]) ∧ IRow w' bR n2 n2 R ∧ IRow w' bX (n1 + 1) cX X ∧ w.heap.size ≤ bR ∧ w.heap.size ≤ bX ∧ bR ≠ bX ∧ Sorted f n1 n2 R X ∧ Below w.heap.size w w' := by
  have hc0 : ∀ j v, (#[Value.slice A1 n1 c1, .slice A2 n2 c2, .slice A3 n3 c3] : Array Value)[j]? = some v → (w.alloc (.cells #[.slice A1 n1 c1, .slice A2 n2 c2, .slice A3 n3 c3] 29)).cell? ⟨w.heap.size, j, none⟩ = some v := by
    intro j v hv
    have : (w.alloc (.cells #[.slice A1 n1 c1, .slice A2 n2 c2, .slice A3 n3 c3] 29)).heap[w.heap.size]? = some (.cells #[.slice A1 n1 c1, .slice A2 n2 c2, .slice A3 n3 c3] 29) := by show (w.heap.push _)[w.heap.size]? = _; simp
    unfold World.cell?; simp only [this]; exact hv
  have k0 := hc0 0 _ rfl
  have k1 := hc0 1 _ rfl
  have R2 := Lib.hid r2
  have HF := Lib.hid hf
  have hmk1 := run_make_row' (P := Try.prog) 22 3 (.int .i64 0) 8 Try.underlying22 infoInt rfl .i64 .i64 (n1 + 1) (by omega) (by omega)
  have hmk2 := run_make_row' (P := Try.prog) 22 3 (.int .i64 0) 8 Try.underlying22 infoInt rfl .i64 .i64 n2 (by omega) (by omega)
  rw [show (((n1 + 1 : Nat)) : Int) = (n1 : Int) + 1 by omega] at hmk1
  have HMK2 := Lib.hid hmk2
  clear hc0 r2 hf hmk2
  go_enter Try.func69, Try.ntmps69
  go_wp2_with fail
  have hi1 := IRow.made (w.alloc (.cells #[.slice A1 n1 c1, .slice A2 n2 c2, .slice A3 n3 c3] 29)) (n1 + 1) (by unfold maxLen; omega)
  rw [size_alloc] at hi1
  have kk0 := cell_below k0 (bl_alloc (Below.refl _ _) (.cells (madeCells #[.int .i64 0] (n1 + 1)) 3))
  have kk1 := cell_below k1 (bl_alloc (Below.refl _ _) (.cells (madeCells #[.int .i64 0] (n1 + 1)) 3))
  have hb1 : Below w.heap.size w ((w.alloc (.cells #[.slice A1 n1 c1, .slice A2 n2 c2, .slice A3 n3 c3] 29)).alloc (.cells (madeCells #[.int .i64 0] (n1 + 1)) 3)) := bl_alloc (bl_alloc (Below.refl _ _) _) _
  obtain ⟨W1, hW1⟩ : ∃ W1, W1 = (w.alloc (.cells #[.slice A1 n1 c1, .slice A2 n2 c2, .slice A3 n3 c3] 29)).alloc (.cells (madeCells #[.int .i64 0] (n1 + 1)) 3) := ⟨_, rfl⟩
  rw [← hW1] at hi1 kk0 kk1 hb1 ⊢
  have hz1 : W1.heap.size = w.heap.size + 2 := by rw [hW1, size_alloc, size_alloc]
  have KK0 := Lib.hid kk0
  have KK1 := Lib.hid kk1
  have HB1 := Lib.hid hb1
  have HI1 := Lib.hid hi1
  have HZ1 := Lib.hid hz1
  clear k0 k1 hW1 hmk1 kk0 kk1 hb1 hi1 hz1
  go_loopg [20] n2 (fun m v wr => ∃ (k : Nat) (L : List Int), m = n2 - k ∧ k ≤ n2 ∧ v = .int .i64 (k : Nat) ∧ Upd (fun b => b = w.heap.size + 1) W1 wr ∧ IRow wr (w.heap.size + 1) (n1 + 1) (n1 + 1) L ∧ P1 f n1 k L)
  case atStart => exact ⟨0, _, rfl, Nat.zero_le _, rfl, Upd.refl _ _, HI1.out, P1.start f n1⟩
  case round =>
    obtain ⟨k, L, hm, hk, rfl, hu, hi, hp⟩ := hrel
    have HM := Lib.hid hm
    have HU := Lib.hid hu
    have HI := Lib.hid hi
    have HP := Lib.hid hp
    clear hm hu hi hp
    have hbw : Below w.heap.size w wr := HB1.out.trans (HU.out.below (by rw [HZ1.out]; omega) fun b hb e => by omega)
    have HBW := Lib.hid hbw
    clear hbw
    by_cases hlt : k < n2
    · obtain ⟨b, o, rfl, hc⟩ := R2.out.cell (by omega)
      have hw01 := hc k hlt
      obtain ⟨hf1, hf2⟩ := HF.out k hlt
      have hsm := HP.out.small _ hf2
      obtain ⟨x, hx⟩ : ∃ x, x = es.getD k (0, 0, 0) := ⟨_, rfl⟩
      rw [← hx] at hw01 hf1
      obtain ⟨ef, et, ew⟩ := x
      obtain rfl : et = (f k : Nat) := hf1
      obtain ⟨fk, hfk⟩ : ∃ fk, fk = f k := ⟨_, rfl⟩
      rw [← hfk] at hf2 hw01 hsm
      have HFK := Lib.hid hfk
      have hc0 := cell_below hw01.1 HBW.out
      have hc1 := cell_below hw01.2.1 HBW.out
      have hc2 := cell_below hw01.2.2 HBW.out
      clear hc hw01 hx hfk
      go_wp2_with fail
      refine (new2_any _ _ _ _).mono ?_
      rintro e w2 ⟨rfl, hb2⟩
      have hbw2 : Below wr.heap.size wr w2 := (bl_alloc (Below.refl _ _) _).trans (hb2.mono (by rw [size_alloc]; omega))
      have hi2 := HI.out.below hbw2
      have hu2 := HU.out.trans (Upd.of_below hbw2 (F := fun b => b = w.heap.size + 1)) (fun i _ h => h)
      have hcl := hi2.cell (i := fk + 1) (by omega)
      have hfr := hi2.fr (fk + 1)
      obtain ⟨y, hy⟩ : ∃ y, y = L.getD (fk + 1) 0 := ⟨_, rfl⟩
      rw [← hy] at hcl hsm
      have HI2 := Lib.hid hi2
      have HU2 := Lib.hid hu2
      have HY := Lib.hid hy
      clear hb2 hbw2 hi2 hu2 hc0 hc1 hc2 hy
      go_wp2_with fail
      go_roundg (n2 - (k + 1))
      case measure => have := HM.out; omega
      case rel =>
        refine ⟨k + 1, L.set (fk + 1) (y + 1), rfl, by omega, by go_num, upd_setCell HU2.out rfl _, ?_, ?_⟩
        · exact HI2.out.set _ _
        · rw [HY.out, HFK.out]; rw [HFK.out] at hf2; exact HP.out.step hf2
    · have hkn : k = n2 := by omega
      subst hkn
      have j0 := cell_upd KK0.out HU.out (by omega)
      have j1 := cell_upd KK1.out HU.out (by omega)
      have J0 := Lib.hid j0
      have J1 := Lib.hid j1
      have hp2 := P2.start HP.out
      have HP2 := Lib.hid hp2
      clear hlt hp2 HP HM
      go_wp2_with fail
      go_loopg [37] n1 (fun m v wq => ∃ (i : Nat) (L : List Int), m = n1 - i ∧ i ≤ n1 ∧ v = .int .i64 (i : Nat) ∧ Upd (fun b => b = w.heap.size + 1) W1 wq ∧ IRow wq (w.heap.size + 1) (n1 + 1) (n1 + 1) L ∧ P2 f n1 k i L)
      case atStart => exact ⟨0, L, rfl, Nat.zero_le _, rfl, HU.out, HI.out, HP2.out⟩
      case round =>
        obtain ⟨i, L2, hm, hi, rfl, hu, hir, hp⟩ := hrel
        have HM2 := Lib.hid hm
        have HUU := Lib.hid hu
        have HII := Lib.hid hir
        have HPP := Lib.hid hp
        clear hm hu hir hp HP2 HI HU
        by_cases hlt : i < n1
        · have hsm := HPP.out.small hlt
          have hcl := HII.out.cell (i := i + 1) (by omega)
          have hcl2 := HII.out.cell (i := i) (by omega)
          have hfr := HII.out.fr (i + 1)
          obtain ⟨y, hy⟩ : ∃ y, y = L2.getD (i + 1) 0 := ⟨_, rfl⟩
          obtain ⟨z, hz⟩ : ∃ z, z = L2.getD i 0 := ⟨_, rfl⟩
          rw [← hy, ← hz] at hsm
          rw [← hy] at hcl
          rw [← hz] at hcl2
          obtain ⟨⟨y0, y1⟩, z0, z1⟩ := hsm
          have HY := Lib.hid hy
          have HZ := Lib.hid hz
          have i0 : (0 : Int) ≤ (i : Int) := by omega
          have i1 : (i : Int) < (n1 : Int) + 1 := by omega
          have i2 : (0 : Int) ≤ (i : Int) + 1 := by omega
          have i3 : (i : Int) + 1 < (n1 : Int) + 1 := by omega
          clear hy hz
          go_wp2_with fail
          go_region
          go_wp2_with fail
          go_roundg (n1 - (i + 1))
          case measure => have := HM2.out; omega
          case rel =>
            refine ⟨i + 1, L2.set (i + 1) (y + z), rfl, by omega, by go_num, upd_drew (upd_setCell HUU.out rfl _), ?_, ?_⟩
            · exact (HII.out.set _ _).below (bl_drew (Below.refl _ _))
            · rw [HY.out, HZ.out]; exact HPP.out.step hlt
        · have hin : i = n1 := by omega
          subst hin
          have m1 := cell_upd KK1.out HUU.out (by omega)
          have hmk2 := HMK2.out
          have hwf := wf_P2 HPP.out h2
          have hia := HII.out.below (bl_alloc (Below.refl _ _) (.cells (madeCells #[.int .i64 0] k) 3))
          have hmade := IRow.made wr k (by unfold maxLen; omega)
          have hrd : ReadsI (wr.alloc (.cells (madeCells #[.int .i64 0] k) 3)) (some ⟨w.heap.size + 1, 0, none⟩) (i + 1) (i + 1) L2 := ReadsI.of_row hia (by unfold maxLen; omega) hwf
          have HRD := Lib.hid hrd
          have HIA := Lib.hid hia
          have HMD := Lib.hid hmade
          have M1 := Lib.hid m1
          have hb4 : Below w.heap.size w (wr.alloc (.cells (madeCells #[.int .i64 0] k) 3)) := bl_alloc (HB1.out.trans (HUU.out.below (by rw [HZ1.out]; omega) fun b hb e => by omega)) _
          have hge : w.heap.size + 2 ≤ wr.heap.size := by have := HUU.out.size; rw [HZ1.out] at this; exact this
          have HB4 := Lib.hid hb4
          clear hlt hwf hia hmade hrd HM2 hb4
          go_wp2_with fail
          refine (clone_int HRD.out (by omega)).mono ?_
          rintro e w3 ⟨A', cN, rfl, hown, hb3, hnil⟩
          obtain ⟨bN, rfl, hN1, hN2⟩ := own_at hown (by omega)
          rw [size_alloc] at hN1
          have hi3 : IRow w3 bN (i + 1) cN L2 := IRow.base hown
          have hx3 : IRow w3 (w.heap.size + 1) (i + 1) (i + 1) L2 := HIA.out.below hb3
          have hr3 : IRow w3 wr.heap.size k k (List.replicate k 0) := HMD.out.below hb3
          have m3 : w3.cell? ⟨w.heap.size, 1, none⟩ = some (#[Value.slice A1 i c1, .slice A2 k c2, .slice A3 n3 c3][1]) := cell_below M1.out ((bl_alloc (Below.refl _ _) _).trans (hb3.mono (by rw [size_alloc]; omega)))
          have hbw3 : Below w.heap.size w w3 := HB4.out.trans (hb3.mono HB4.out.size)
          obtain ⟨bR, hbR⟩ : ∃ bR, bR = wr.heap.size := ⟨_, rfl⟩
          rw [← hbR] at hN1 hr3 hge ⊢
          have HI3 := Lib.hid hi3
          have HX3 := Lib.hid hx3
          have HR3 := Lib.hid hr3
          have HB3 := Lib.hid hbw3
          have HN1 := Lib.hid hN1
          have HN2 := Lib.hid hN2
          have HGE := Lib.hid hge
          clear hown hb3 hnil hN1 hN2 hi3 hx3 hr3 hbw3 hge hbR HRD HIA HMD HB4 HUU HII M1 m1 hmk2 J0 J1 j0 j1 HMK2
          go_wp2_with fail
          go_loopg [61] k (fun m v wq => ∃ (q : Nat) (R X : List Int), m = k - q ∧ q ≤ k ∧ v = .int .i64 (q : Nat) ∧ Upd (fun b => b = bR ∨ b = bN) w3 wq ∧ IRow wq bR k k R ∧ IRow wq bN (i + 1) cN X ∧ P3 f i k q R X)
          case atStart => exact ⟨0, _, _, rfl, Nat.zero_le _, rfl, Upd.refl _ _, HR3.out, HI3.out, P3.start HPP.out⟩
          case round =>
            obtain ⟨q, R, X, hm, hq, rfl, hu, hr, hx, hp⟩ := hrel
            have HM3 := Lib.hid hm
            have HU3 := Lib.hid hu
            have HR4 := Lib.hid hr
            have HX4 := Lib.hid hx
            have HP4 := Lib.hid hp
            clear hm hu hr hx hp
            have hbq : Below w.heap.size w wr := HB3.out.trans (HU3.out.below HB3.out.size fun b hb e => by have := HN1.out; have := HGE.out; omega)
            have HBQ := Lib.hid hbq
            clear hbq
            by_cases hlt : q < k
            · obtain ⟨b, o, rfl, hc⟩ := R2.out.cell (by omega)
              have hw01 := hc q hlt
              obtain ⟨hf1, hf2⟩ := HF.out q hlt
              obtain ⟨hpl, hpm⟩ := HP4.out.place hlt hf2
              obtain ⟨x, hx⟩ : ∃ x, x = es.getD q (0, 0, 0) := ⟨_, rfl⟩
              rw [← hx] at hw01 hf1
              obtain ⟨ef, et, ew⟩ := x
              obtain rfl : et = (f q : Nat) := hf1
              obtain ⟨pl, hpl2⟩ : ∃ pl, pl = pre f k (f q) + cnt f q (f q) := ⟨_, rfl⟩
              have hst := HP4.out.step hlt hf2
              rw [← hpl2] at hpl hpm hst
              have hxl := HX4.out.cell (i := f q) (by omega)
              rw [hpl] at hst hxl
              obtain ⟨fq, hfq⟩ : ∃ fq, fq = f q := ⟨_, rfl⟩
              rw [← hfq] at hf2 hw01 hst hxl
              have hc0 := cell_below hw01.1 HBQ.out
              have hc1 := cell_below hw01.2.1 HBQ.out
              have hc2 := cell_below hw01.2.2 HBQ.out
              have HXL := Lib.hid hxl
              have HST := Lib.hid hst
              have pq0 : (0 : Int) ≤ (pl : Int) := by omega
              have pq1 : (pl : Int) < (k : Int) := by omega
              have fq0 : (0 : Int) ≤ (fq : Int) := by omega
              have fq1 : (fq : Int) < (i : Int) + 1 := by omega
              have hpk : pl ≤ 512 := by omega
              clear hc hw01 hx hst hfq hpl2 hxl hpl hpm
              go_wp2_with fail
              refine (new2_any _ _ _ _).mono ?_
              rintro e w4 ⟨rfl, hb4⟩
              have hn4 := fun j v hv => cell_below (cell_three_new (w := wr) (x := .int .i64 ef) (y := .int .i64 fq) (z := .int .i64 ew) (t := 43) j v hv) hb4
              have hbw4 : Below wr.heap.size wr w4 := (bl_alloc (Below.refl _ _) _).trans (hb4.mono (by rw [size_alloc]; omega))
              have hr4 := HR4.out.below hbw4
              have hx4 := HX4.out.below hbw4
              have hxl4 := cell_below HXL.out hbw4
              have hfr4 := hr4.fr pl
              have hne : bR ≠ wr.heap.size := by have := HR4.out.lt; omega
              have e0 := (World.cell?_setCell_far w4 ⟨bR, pl, none⟩ ⟨wr.heap.size, 0, none⟩ (.int .i64 q) hne).trans (hn4 0 _ rfl)
              have e1 := (World.cell?_setCell_far w4 ⟨bR, pl, none⟩ ⟨wr.heap.size, 1, none⟩ (.int .i64 q) hne).trans (hn4 1 _ rfl)
              have e2 := (World.cell?_setCell_far w4 ⟨bR, pl, none⟩ ⟨wr.heap.size, 2, none⟩ (.int .i64 q) hne).trans (hn4 2 _ rfl)
              have hcr := hr4.cell (i := pl) (by omega)
              have hrs := hr4.set pl (q : Nat)
              have hub4 := HU3.out.trans (Upd.of_below hbw4 (F := fun b => b = bR ∨ b = bN)) (fun i _ h => h)
              have hu4 := upd_setCell hub4 (a := ⟨bR, pl, none⟩) (Or.inl rfl) (.int .i64 q)
              have hbn : bN ≠ bR := by have := HN1.out; omega
              have hx5 := hx4.upd (upd_setCell (F := fun b => b = bR) (Upd.refl _ w4) (a := ⟨bR, pl, none⟩) rfl (.int .i64 q)) hbn
              have HRS := Lib.hid hrs
              have HU4 := Lib.hid hu4
              have HX5 := Lib.hid hx5
              have hxl5 := hx5.cell (i := fq) (by omega)
              have hxl4b := hxl4
              rw [hx4.cell (i := fq) (by omega)] at hxl4b
              rw [show X.getD fq 0 = (pl : Int) by injection hxl4b with h; injection h] at hxl5
              have HXL5 := Lib.hid hxl5
              have HHN := Lib.hid hn4
              clear hb4 hn4 hbw4 hr4 hx4 hne hrs hub4 hu4 hx5 hbn hc0 hc1 hc2 hxl5 hxl4b
              go_wp2_with fail
              refine (new2_any _ _ _ _).mono ?_
              rintro e w6 ⟨rfl, hb6⟩
              have hr6 := HRS.out.below hb6
              have hx6 := HX5.out.below hb6
              have hxl6 := cell_below HXL5.out hb6
              have hfr6 := hx6.fr fq
              have hu6 := HU4.out.trans (Upd.of_below hb6 (F := fun b => b = bR ∨ b = bN)) (fun i _ h => h)
              have HR6 := Lib.hid hr6
              have HX6 := Lib.hid hx6
              have HU6 := Lib.hid hu6
              clear hb6 hr6 hx6 hu6 e0 e1 e2 hcr hxl4 hfr4
              go_wp2_with fail
              go_roundg (k - (q + 1))
              case measure => have := HM3.out; omega
              case rel =>
                refine ⟨q + 1, R.set pl (q : Nat), X.set fq ((pl : Int) + 1), rfl, by omega, by go_num, upd_setCell HU6.out (Or.inr rfl) _, ?_, HX6.out.set _ _, HST.out⟩
                exact HR6.out.upd (upd_setCell (F := fun b => b = bN) (Upd.refl _ w6) (a := ⟨bN, fq, none⟩) rfl _) (by have := HN1.out; omega)
            · have hqn : q = k := by omega
              subst hqn
              have hxf := HX3.out.upd HU3.out (by have := HN1.out; have := HGE.out; omega)
              have HXF := Lib.hid hxf
              have hso : Sorted f i q R L2 := Sorted.of HP4.out HPP.out
              have HSO := Lib.hid hso
              clear hxf hso
              go_wp2_with fail
              go_ret2
              exact ⟨R, L2, bR, w.heap.size + 1, i + 1, rfl, HR4.out, HXF.out, by have := HGE.out; omega, by omega, by have := HGE.out; omega, HSO.out, HBQ.out⟩
end Go.Proofs.Ytjopiefojicblaa
/- A graph in memory: what New leaves and all others read. -/
set_option linter.unusedVariables false
set_option linter.unusedSimpArgs false
namespace Go.Proofs.Ytjopiefojicblaa
open Go.ChangeShapes Go.WideShapes Go.ChangeAt Go.RowKit RowP
def fromN (es : List (Int × Int × Int)) (i : Nat) : Nat := (es.getD i (0, 0, 0)).1.toNat
def toN (es : List (Int × Int × Int)) (i : Nat) : Nat := (es.getD i (0, 0, 0)).2.1.toNat
theorem ReadsP.upd {F : Nat → Prop} {w w' : World} {A : Option Addr} {n c : Nat} {xs : List (Int × Int)} (h : ReadsP w A n c xs) (hu : Upd F w w') (hF : ∀ b o, A = some ⟨b, o, none⟩ → ¬ F b) : ReadsP w' A n c xs := by
  refine ⟨h.len, h.small, fun hn => ?_, h.wf⟩
  obtain ⟨b, o, hA, hc⟩ := h.cell hn
  exact ⟨b, o, hA, fun i hi => ⟨cell_upd (hc i hi).1 hu (hF b o hA), cell_upd (hc i hi).2 hu (hF b o hA)⟩⟩
theorem ReadsT.upd {F : Nat → Prop} {w w' : World} {A : Option Addr} {n c : Nat} {xs : List (Int × Int × Int)} (h : ReadsT w A n c xs) (hu : Upd F w w') (hF : ∀ b o, A = some ⟨b, o, none⟩ → ¬ F b) : ReadsT w' A n c xs := by
  refine ⟨h.len, h.small, fun hn => ?_, h.wf⟩
  obtain ⟨b, o, hA, hc⟩ := h.cell hn
  exact ⟨b, o, hA, fun i hi => ⟨cell_upd (hc i hi).1 hu (hF b o hA), cell_upd (hc i hi).2.1 hu (hF b o hA), cell_upd (hc i hi).2.2 hu (hF b o hA)⟩⟩
/-- where a graph's parts lie -/
structure GD where
  A1 : Option Addr
  A2 : Option Addr
  A3 : Option Addr
  c1 : Nat
  c2 : Nat
  c3 : Nat
  bO : Nat
  bI : Nat
  bF : Nat
  bT : Nat
  cF : Nat
  cT : Nat
  RO : List Int
  RI : List Int
  XF : List Int
  XT : List Int
def GD.cells (d : GD) (n1 n2 n3 : Nat) : Array Value := #[.slice d.A1 n1 d.c1, .slice d.A2 n2 d.c2, .slice d.A3 n3 d.c3, .slice (some ⟨d.bO, 0, none⟩) n2 n2, .slice (some ⟨d.bI, 0, none⟩) n2 n2, .slice (some ⟨d.bF, 0, none⟩) (n1 + 1) d.cF, .slice (some ⟨d.bT, 0, none⟩) (n1 + 1) d.cT]
/-- the graph of nodes, edges and bans at block p; all of it lies from B to ahead of E -/
structure GraphIs (w : World) (B E p : Nat) (d : GD) (ns : List (Int × Int)) (es : List (Int × Int × Int)) (bs : List (Int × Int)) : Prop where
  ok : mayB ns es bs = true
  top : E ≤ w.heap.size
  pB : B ≤ p
  pE : p < E
  hp : w.heap[p]? = some (.cells (d.cells ns.length es.length bs.length) 102)
  rN : ReadsP w d.A1 ns.length d.c1 ns
  rE : ReadsT w d.A2 es.length d.c2 es
  rB : ReadsP w d.A3 bs.length d.c3 bs
  nA : ∀ b o, d.A1 = some ⟨b, o, none⟩ ∨ d.A2 = some ⟨b, o, none⟩ ∨ d.A3 = some ⟨b, o, none⟩ → B ≤ b ∧ b < E
  nR : ∀ b, b = d.bO ∨ b = d.bI ∨ b = d.bF ∨ b = d.bT → B ≤ b ∧ b < E
  iO : IRow w d.bO es.length es.length d.RO
  iI : IRow w d.bI es.length es.length d.RI
  iF : IRow w d.bF (ns.length + 1) d.cF d.XF
  iT : IRow w d.bT (ns.length + 1) d.cT d.XT
  sO : Sorted (fromN es) ns.length es.length d.RO d.XF
  sI : Sorted (toN es) ns.length es.length d.RI d.XT
def GraphAt (w : World) (B E p : Nat) (ns : List (Int × Int)) (es : List (Int × Int × Int)) (bs : List (Int × Int)) : Prop := ∃ d, GraphIs w B E p d ns es bs
theorem GraphIs.upd {F : Nat → Prop} {w w' : World} {B E p : Nat} {d : GD} {ns bs : List (Int × Int)} {es : List (Int × Int × Int)} (h : GraphIs w B E p d ns es bs) (hu : Upd F w w') (hF : ∀ b, B ≤ b → b < E → ¬ F b) : GraphIs w' B E p d ns es bs := by
  have hr : ∀ b, b = d.bO ∨ b = d.bI ∨ b = d.bF ∨ b = d.bT → ¬ F b := fun b hb => hF b (h.nR b hb).1 (h.nR b hb).2
  refine ⟨h.ok, Nat.le_trans h.top hu.size, h.pB, h.pE, (hu.block p (Nat.lt_of_lt_of_le h.pE h.top) (hF p h.pB h.pE)).trans h.hp, h.rN.upd hu ?_, h.rE.upd hu ?_, h.rB.upd hu ?_, h.nA, h.nR, h.iO.upd hu (hr _ (.inl rfl)), h.iI.upd hu (hr _ (.inr (.inl rfl))), h.iF.upd hu (hr _ (.inr (.inr (.inl rfl)))), h.iT.upd hu (hr _ (.inr (.inr (.inr rfl)))), h.sO, h.sI⟩
  · exact fun b o e => hF b (h.nA b o (.inl e)).1 (h.nA b o (.inl e)).2
  · exact fun b o e => hF b (h.nA b o (.inr (.inl e))).1 (h.nA b o (.inr (.inl e))).2
  · exact fun b o e => hF b (h.nA b o (.inr (.inr e))).1 (h.nA b o (.inr (.inr e))).2
theorem GraphIs.below {w w' : World} {B E p : Nat} {d : GD} {ns bs : List (Int × Int)} {es : List (Int × Int × Int)} (h : GraphIs w B E p d ns es bs) (hb : Below w.heap.size w w') : GraphIs w' B E p d ns es bs := h.upd (F := fun _ => False) (Upd.of_below hb) fun _ _ _ => id
theorem GraphAt.upd {F : Nat → Prop} {w w' : World} {B E p : Nat} {ns bs : List (Int × Int)} {es : List (Int × Int × Int)} (h : GraphAt w B E p ns es bs) (hu : Upd F w w') (hF : ∀ b, B ≤ b → b < E → ¬ F b) : GraphAt w' B E p ns es bs := h.imp fun d k => k.upd hu hF
theorem GraphAt.below {w w' : World} {B E p : Nat} {ns bs : List (Int × Int)} {es : List (Int × Int × Int)} (h : GraphAt w B E p ns es bs) (hb : Below w.heap.size w w') : GraphAt w' B E p ns es bs := h.imp fun d k => k.below hb
theorem block_cell {w : World} {p : Nat} {vs : Array Value} {t : TypeId} (h : w.heap[p]? = some (.cells vs t)) {j : Nat} {v : Value} (hv : vs[j]? = some v) : w.cell? ⟨p, j, none⟩ = some v := by unfold World.cell?; simp only [h]; exact hv
theorem block_fr {w : World} {p : Nat} {vs : Array Value} {t : TypeId} (h : w.heap[p]? = some (.cells vs t)) (j : Nat) : w.frozen? ⟨p, j, none⟩ = false := by simp [World.frozen?, h]
theorem block_set {w : World} {p : Nat} {vs : Array Value} {t : TypeId} (h : w.heap[p]? = some (.cells vs t)) (j : Nat) (u : Value) : (w.setCell ⟨p, j, none⟩ u).heap[p]? = some (.cells (vs.setIfInBounds j u) t) := heap_setCell_same w p j vs t u h
theorem mayB_parts {ns bs : List (Int × Int)} {es : List (Int × Int × Int)} (h : mayB ns es bs = true) : sizeOk ns.length es.length bs.length = true ∧ (1 ≤ ns.length ∧ ns.length ≤ 256 ∧ es.length ≤ 512 ∧ bs.length ≤ 1024) ∧
    (∀ i, i < es.length → (es.getD i (0, 0, 0)).1 = (fromN es i : Nat) ∧ fromN es i < ns.length) ∧ (∀ i, i < es.length → (es.getD i (0, 0, 0)).2.1 = (toN es i : Nat) ∧ toN es i < ns.length) := by
  unfold mayB at h
  simp only [Bool.and_eq_true] at h
  obtain ⟨⟨⟨h1, h2⟩, h3⟩, h4⟩ := h
  have hs := h1
  unfold sizeOk inB at hs
  simp only [Bool.and_eq_true, decide_eq_true_eq] at hs
  have he : ∀ i, i < es.length → edgeOk ((ns.length : Int) - 1) (es.getD i (0, 0, 0)) = true := by
    intro i hi
    rw [List.getD_eq_getElem?_getD, List.getElem?_eq_getElem hi]
    exact List.all_eq_true.1 h3 _ (List.getElem_mem hi)
  refine ⟨h1, by omega, fun i hi => ?_, fun i hi => ?_⟩
  · have := he i hi
    unfold edgeOk inB at this
    simp only [Bool.and_eq_true, decide_eq_true_eq] at this
    unfold fromN; omega
  · have := he i hi
    unfold edgeOk inB at this
    simp only [Bool.and_eq_true, decide_eq_true_eq] at this
    unfold toN; omega
theorem may_any {A1 A2 A3 : Option Addr} {n1 c1 n2 c2 n3 c3 : Nat} {ns : List (Int × Int)} {es : List (Int × Int × Int)} {bs : List (Int × Int)} {w : World}
    (r1 : ReadsP w A1 n1 c1 ns) (r2 : ReadsT w A2 n2 c2 es) (r3 : ReadsP w A3 n3 c3 bs) :
    Calls Try.prog 65 #[.agg #[.slice A1 n1 c1, .slice A2 n2 c2, .slice A3 n3 c3]] w fun e w' => e = .returned (.bool (mayB ns es bs)) ∧ Below w.heap.size w w' := by
  cases h : sizeOk n1 n2 n3
  · have : mayB ns es bs = false := by unfold mayB; rw [r1.len, r2.len, r3.len, h]; rfl
    rw [this]
    exact may_size r1.small r2.small r3.small h
  · exact may_in r1 r2 r3 h
end Go.Proofs.Ytjopiefojicblaa
/- What a graph tells: its numbers, its nodes and edges. -/
set_option linter.unusedVariables false
set_option linter.unusedSimpArgs false
namespace Go.Proofs.Ytjopiefojicblaa
open Go.ChangeShapes Go.WideShapes Go.ChangeAt Go.RowKit
theorem GraphIs.g0 {w : World} {B E p : Nat} {d : GD} {ns bs : List (Int × Int)} {es : List (Int × Int × Int)} (h : GraphIs w B E p d ns es bs) : w.cell? ⟨p, 0, none⟩ = some (.slice d.A1 ns.length d.c1) := block_cell h.hp rfl
theorem GraphIs.g1 {w : World} {B E p : Nat} {d : GD} {ns bs : List (Int × Int)} {es : List (Int × Int × Int)} (h : GraphIs w B E p d ns es bs) : w.cell? ⟨p, 1, none⟩ = some (.slice d.A2 es.length d.c2) := block_cell h.hp rfl
theorem GraphIs.g2 {w : World} {B E p : Nat} {d : GD} {ns bs : List (Int × Int)} {es : List (Int × Int × Int)} (h : GraphIs w B E p d ns es bs) : w.cell? ⟨p, 2, none⟩ = some (.slice d.A3 bs.length d.c3) := block_cell h.hp rfl
set_option maxRecDepth 100000 in
set_option maxHeartbeats 2000000 in
theorem edges_at {w : World} {B E p : Nat} {ns bs : List (Int × Int)} {es : List (Int × Int × Int)} (h : GraphAt w B E p ns es bs) : Calls Try.prog 58 #[.pointer (some ⟨p, 0, none⟩)] w fun e w' => e = .returned (.int .i64 es.length) ∧ w = w' := by
  obtain ⟨d, h⟩ := h
  have c := h.g1
  have hs := h.rE.small
  unfold maxLen at hs
  clear h
  go_enter Try.func58, Try.ntmps58
  go_wp2_with fail
  go_ret
  exact ⟨rfl, rfl⟩
set_option maxRecDepth 100000 in
set_option maxHeartbeats 2000000 in
theorem nodes_at {w : World} {B E p : Nat} {ns bs : List (Int × Int)} {es : List (Int × Int × Int)} (h : GraphAt w B E p ns es bs) : Calls Try.prog 46 #[.pointer (some ⟨p, 0, none⟩)] w fun e w' => e = .returned (.int .i64 ns.length) ∧ w = w' := by
  obtain ⟨d, h⟩ := h
  have c := h.g0
  have hs := h.rN.small
  unfold maxLen at hs
  clear h
  go_enter Try.func46, Try.ntmps46
  go_wp2_with fail
  go_ret
  exact ⟨rfl, rfl⟩
def edgeT (es : List (Int × Int × Int)) (i : Int) : Int × Int × Int := if inB 0 i ((es.length : Int) - 1) = true then es.getD i.toNat (0, 0, 0) else (0, 0, 0)
def nodeT (ns : List (Int × Int)) (i : Int) : Int × Int := if inB 0 i ((ns.length : Int) - 1) = true then ns.getD i.toNat (0, 0) else (0, 0)
set_option maxRecDepth 100000 in
set_option maxHeartbeats 4000000 in
theorem edge_at {w : World} {B E p : Nat} {ns bs : List (Int × Int)} {es : List (Int × Int × Int)} (h : GraphAt w B E p ns es bs) (i : Int) : Calls Try.prog 72 #[.pointer (some ⟨p, 0, none⟩), .int .i64 i] w fun e w' =>
    e = .returned (.tuple #[.agg #[.int .i64 (edgeT es i).1, .int .i64 (edgeT es i).2.1, .int .i64 (edgeT es i).2.2], .bool (inB 0 i ((es.length : Int) - 1))]) ∧ Below w.heap.size w w' := by
  have HG := Lib.hid h
  have ha : ∀ o, GraphAt (w.alloc o) B E p ns es bs := fun o => h.below (bl_alloc (Below.refl _ _) o)
  have HA := Lib.hid ha
  unfold edgeT
  cases hin : inB 0 i ((es.length : Int) - 1)
  · rw [if_neg (by simp)]
    unfold inB at hin
    simp only [Bool.and_eq_false_iff, decide_eq_false_iff_not] at hin
    clear h ha
    by_cases h0 : i < 0
    · clear hin
      go_enter Try.func72, Try.ntmps72
      go_wp2_with fail
      exact bodyPost_ret (v := .tuple #[.agg #[.int .i64 0, .int .i64 0, .int .i64 0], .bool false]) (by simp [results, Try.results72, go_sem]) rfl ⟨rfl, bl_alloc (Below.refl _ _) _⟩
    · have h1 : (es.length : Int) ≤ i := by omega
      clear hin
      go_enter Try.func72, Try.ntmps72
      go_wp2_with (go_at_call 58; refine (edges_at (HA.out _)).mono ?_; rintro e w' ⟨rfl, rfl⟩)
      exact bodyPost_ret (v := .tuple #[.agg #[.int .i64 0, .int .i64 0, .int .i64 0], .bool false]) (by simp [results, Try.results72, go_sem]) rfl ⟨rfl, bl_alloc (Below.refl _ _) _⟩
  · rw [if_pos rfl]
    unfold inB at hin
    simp only [Bool.and_eq_true, decide_eq_true_eq] at hin
    obtain ⟨h0, h1⟩ := hin
    obtain ⟨k, rfl⟩ : ∃ k : Nat, i = (k : Int) := ⟨i.toNat, by omega⟩
    rw [Int.toNat_natCast]
    have hk : (k : Int) < (es.length : Int) := by omega
    obtain ⟨d, hd⟩ := h
    obtain ⟨b, o, hA, hc⟩ := hd.rE.cell (by omega)
    obtain ⟨c0, c1, c2⟩ := hc k (by omega)
    have c := hd.g1
    rw [hA] at c
    obtain ⟨x, hx⟩ : ∃ x, x = es.getD k (0, 0, 0) := ⟨_, rfl⟩
    rw [← hx] at c0 c1 c2 ⊢
    obtain ⟨x0, x1, x2⟩ := x
    have d := cell_below c (bl_alloc (Below.refl _ _) (.cells #[.int .i64 0, .int .i64 0, .int .i64 0] 43))
    have d0 := cell_below c0 (bl_alloc (Below.refl _ _) (.cells #[.int .i64 0, .int .i64 0, .int .i64 0] 43))
    have d1 := cell_below c1 (bl_alloc (Below.refl _ _) (.cells #[.int .i64 0, .int .i64 0, .int .i64 0] 43))
    have d2 := cell_below c2 (bl_alloc (Below.refl _ _) (.cells #[.int .i64 0, .int .i64 0, .int .i64 0] 43))
    clear hc hA hd ha c c0 c1 c2 hx
    go_enter Try.func72, Try.ntmps72
    go_wp2_with (go_at_call 58; refine (edges_at (HA.out _)).mono ?_; rintro e w' ⟨rfl, rfl⟩)
    exact bodyPost_ret (v := .tuple #[.agg #[.int .i64 x0, .int .i64 x1, .int .i64 x2], .bool true]) (by simp [results, Try.results72, go_sem]) rfl ⟨rfl, bl_alloc (Below.refl _ _) _⟩
end Go.Proofs.Ytjopiefojicblaa
