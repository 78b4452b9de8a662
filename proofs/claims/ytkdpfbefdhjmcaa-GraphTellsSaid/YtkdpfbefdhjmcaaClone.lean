/- Rows of ints, pairs and triples as cells; slices.Clone of each. -/
import Derived.Test.YtkdpfbefdhjmcaaMay
import Derived.Maps.AppendAt
set_option linter.unusedVariables false
set_option linter.unusedSimpArgs false
namespace Go.Proofs.Ytkdpfbefdhjmcaa
open Go.ChangeShapes Go.WideShapes Go.ChangeAt Go.RowKit
theorem infoInt : (Try.prog.info? 3).map (fun i => (i.zero, i.size, i.bytes)) = some (some (.int .i64 0), 1, 8) := by kernel_rfl
theorem infoNode : (Try.prog.info? 59).map (fun i => (i.zero, i.size, i.bytes)) = some (some (.agg #[.int .i64 0, .int .i64 0]), 2, 16) := by kernel_rfl
theorem infoEdge : (Try.prog.info? 63).map (fun i => (i.zero, i.size, i.bytes)) = some (some (.agg #[.int .i64 0, .int .i64 0, .int .i64 0]), 3, 24) := by kernel_rfl
theorem infoBan : (Try.prog.info? 69).map (fun i => (i.zero, i.size, i.bytes)) = some (some (.agg #[.int .i64 0, .int .i64 0]), 2, 16) := by kernel_rfl
def flatI (xs : List Int) : List Value := xs.map (Value.int .i64)
def flat2 (xs : List (Int × Int)) : List Value := xs.flatMap fun x => [.int .i64 x.1, .int .i64 x.2]
def flat3 (xs : List (Int × Int × Int)) : List Value := xs.flatMap fun x => [.int .i64 x.1, .int .i64 x.2.1, .int .i64 x.2.2]
theorem flatI_len (xs : List Int) : (flatI xs).length = xs.length * 1 := by simp [flatI]
theorem flat2_len (xs : List (Int × Int)) : (flat2 xs).length = xs.length * 2 := by
  induction xs with
  | nil => rfl
  | cons x r ih => simp only [flat2, List.flatMap_cons, List.length_append, List.length_cons, List.length_nil] at *; omega
theorem flat3_len (xs : List (Int × Int × Int)) : (flat3 xs).length = xs.length * 3 := by
  induction xs with
  | nil => rfl
  | cons x r ih => simp only [flat3, List.flatMap_cons, List.length_append, List.length_cons, List.length_nil] at *; omega
theorem flatI_append (l k : List Int) : flatI (l ++ k) = flatI l ++ flatI k := by simp [flatI]
theorem flat2_append (l k : List (Int × Int)) : flat2 (l ++ k) = flat2 l ++ flat2 k := by simp [flat2]
theorem flat3_append (l k : List (Int × Int × Int)) : flat3 (l ++ k) = flat3 l ++ flat3 k := by simp [flat3]
theorem flat_oneflatI (xs : List Int) : ∀ u ∈ flatI xs, u.oneCell' = true := ints_oneCell .i64 xs
theorem flat_oneflat2 (xs : List (Int × Int)) : ∀ u ∈ flat2 xs, u.oneCell' = true := by
  intro u hu
  obtain ⟨x, _, hx⟩ := List.mem_flatMap.1 hu
  simp only [List.mem_cons, List.not_mem_nil, or_false] at hx
  rcases hx with rfl | rfl <;> rfl
theorem flat_oneflat3 (xs : List (Int × Int × Int)) : ∀ u ∈ flat3 xs, u.oneCell' = true := by
  intro u hu
  obtain ⟨x, _, hx⟩ := List.mem_flatMap.1 hu
  simp only [List.mem_cons, List.not_mem_nil, or_false] at hx
  rcases hx with rfl | rfl | rfl <;> rfl
theorem flatI_get (xs : List Int) (i : Nat) (h : i < xs.length) : (flatI xs)[i]? = some (.int .i64 (xs.getD i 0)) := by
  simp [flatI, List.getD_eq_getElem?_getD, h]
theorem flat2_get : ∀ (xs : List (Int × Int)) (i : Nat), i < xs.length → (flat2 xs)[i * 2]? = some (.int .i64 (xs.getD i (0, 0)).1) ∧ (flat2 xs)[i * 2 + 1]? = some (.int .i64 (xs.getD i (0, 0)).2)
  | x :: l, 0, _ => ⟨rfl, rfl⟩
  | x :: l, i + 1, h => by
    have ih := flat2_get l i (by simpa using h)
    have e : (i + 1) * 2 = (i * 2) + 1 + 1 := by omega
    have e0 : flat2 (x :: l) = .int .i64 x.1 :: .int .i64 x.2 :: flat2 l := rfl
    rw [e0, e, List.getElem?_cons_succ, List.getElem?_cons_succ, List.getElem?_cons_succ, List.getElem?_cons_succ, List.getD_cons_succ]
    exact ih
theorem flat3_get : ∀ (xs : List (Int × Int × Int)) (i : Nat), i < xs.length → (flat3 xs)[i * 3]? = some (.int .i64 (xs.getD i (0, 0, 0)).1) ∧ (flat3 xs)[i * 3 + 1]? = some (.int .i64 (xs.getD i (0, 0, 0)).2.1) ∧ (flat3 xs)[i * 3 + 2]? = some (.int .i64 (xs.getD i (0, 0, 0)).2.2)
  | x :: l, 0, _ => ⟨rfl, rfl, rfl⟩
  | x :: l, i + 1, h => by
    have ih := flat3_get l i (by simpa using h)
    have e : (i + 1) * 3 = (i * 3) + 1 + 1 + 1 := by omega
    have e0 : flat3 (x :: l) = .int .i64 x.1 :: .int .i64 x.2.1 :: .int .i64 x.2.2 :: flat3 l := rfl
    rw [e0, e, show i * 3 + 1 + 1 + 1 + 1 = (i * 3 + 1) + 1 + 1 + 1 from rfl, show i * 3 + 1 + 1 + 1 + 2 = (i * 3 + 2) + 1 + 1 + 1 from rfl]
    simp only [List.getElem?_cons_succ, List.getD_cons_succ]
    exact ih
/-- the cells of a slice that came in, in one row -/
theorem ReadsI.flat {w : World} {A : Option Addr} {n c : Nat} {xs : List Int} (h : ReadsI w A n c xs) : ∀ ad, A = some ad → ∀ j u, (flatI xs)[j]? = some u → w.cell? (ad.add j) = some u := by
  intro ad hA j u hu
  have hj : j < n := by
    have := (List.getElem?_eq_some_iff.1 hu).1
    rw [flatI_len, h.len] at this; omega
  obtain ⟨b, o, e, hc⟩ := h.cell (by omega)
  rw [hA] at e; injection e with e; subst e
  have := hc j hj
  rw [flatI_get xs j (by rw [h.len]; exact hj)] at hu
  rw [Addr.add_lit]
  exact this.trans hu
theorem ReadsP.flat {w : World} {A : Option Addr} {n c : Nat} {xs : List (Int × Int)} (h : ReadsP w A n c xs) : ∀ ad, A = some ad → ∀ j u, (flat2 xs)[j]? = some u → w.cell? (ad.add j) = some u := by
  intro ad hA j u hu
  have hj : j < n * 2 := by
    have := (List.getElem?_eq_some_iff.1 hu).1
    rw [flat2_len, h.len] at this; omega
  obtain ⟨b, o, e, hc⟩ := h.cell (by omega)
  rw [hA] at e; injection e with e; subst e
  have hi : j / 2 < n := by omega
  have g := flat2_get xs (j / 2) (by rw [h.len]; exact hi)
  have c := hc (j / 2) hi
  rw [Addr.add_lit]
  rcases Nat.mod_two_eq_zero_or_one j with hm | hm
  · have e : j = j / 2 * 2 := by omega
    rw [e] at hu ⊢
    exact c.1.trans (g.1.symm.trans hu)
  · have e : j = j / 2 * 2 + 1 := by omega
    rw [e] at hu ⊢
    exact c.2.trans (g.2.symm.trans hu)
theorem ReadsT.flat {w : World} {A : Option Addr} {n c : Nat} {xs : List (Int × Int × Int)} (h : ReadsT w A n c xs) : ∀ ad, A = some ad → ∀ j u, (flat3 xs)[j]? = some u → w.cell? (ad.add j) = some u := by
  intro ad hA j u hu
  have hj : j < n * 3 := by
    have := (List.getElem?_eq_some_iff.1 hu).1
    rw [flat3_len, h.len] at this; omega
  obtain ⟨b, o, e, hc⟩ := h.cell (by omega)
  rw [hA] at e; injection e with e; subst e
  have hi : j / 3 < n := by omega
  have g := flat3_get xs (j / 3) (by rw [h.len]; exact hi)
  have c := hc (j / 3) hi
  rw [Addr.add_lit]
  obtain ⟨q, hq⟩ : ∃ q, q = j / 3 := ⟨_, rfl⟩
  rw [← hq] at g c
  have hm : j = q * 3 ∨ j = q * 3 + 1 ∨ j = q * 3 + 2 := by omega
  clear hq
  rcases hm with rfl | rfl | rfl
  · exact c.1.trans (g.1.symm.trans hu)
  · exact c.2.1.trans (g.2.1.symm.trans hu)
  · exact c.2.2.trans (g.2.2.symm.trans hu)
theorem ReadsI.of_row {w : World} {B : Nat} {e : TypeId} {A : Option Addr} {n c : Nat} {xs : List Int} (h : w.ownsRow B e 1 (.slice A n c) n (flatI xs)) (hn : n ≤ maxLen) (hw : ∀ x ∈ xs, (Lit.int .i64 x).wf = true) : ReadsI w A n c xs := by
  have hl : xs.length = n := by have := h.1; rw [flatI_len] at this; omega
  refine ⟨hl, hn, fun h0 => ?_, hw⟩
  rcases h.2 with ⟨_, h1⟩ | ⟨g, cc, _, h1, _⟩
  · omega
  · injection h1 with e1 e2 e3
    subst e1
    exact ⟨g, 0, rfl, fun i hi => by rw [Nat.zero_add, h.cellAt i (by omega), flatI_get xs i (by omega)]⟩
theorem ReadsP.of_row {w : World} {B : Nat} {e : TypeId} {A : Option Addr} {n c : Nat} {xs : List (Int × Int)} (h : w.ownsRow B e 2 (.slice A n c) n (flat2 xs)) (hn : n ≤ maxLen) (hw : ∀ x ∈ xs, (Lit.int .i64 x.1).wf = true ∧ (Lit.int .i64 x.2).wf = true) : ReadsP w A n c xs := by
  have hl : xs.length = n := by have := h.1; rw [flat2_len] at this; omega
  refine ⟨hl, hn, fun h0 => ?_, hw⟩
  rcases h.2 with ⟨_, h1⟩ | ⟨g, cc, _, h1, _⟩
  · omega
  · injection h1 with e1 e2 e3
    subst e1
    refine ⟨g, 0, rfl, fun i hi => ?_⟩
    have := flat2_get xs i (by omega)
    rw [Nat.zero_add, h.cellAt _ (by omega), h.cellAt _ (by omega)]
    exact this
theorem ReadsT.of_row {w : World} {B : Nat} {e : TypeId} {A : Option Addr} {n c : Nat} {xs : List (Int × Int × Int)} (h : w.ownsRow B e 3 (.slice A n c) n (flat3 xs)) (hn : n ≤ maxLen) (hw : ∀ x ∈ xs, (Lit.int .i64 x.1).wf = true ∧ (Lit.int .i64 x.2.1).wf = true ∧ (Lit.int .i64 x.2.2).wf = true) : ReadsT w A n c xs := by
  have hl : xs.length = n := by have := h.1; rw [flat3_len] at this; omega
  refine ⟨hl, hn, fun h0 => ?_, hw⟩
  rcases h.2 with ⟨_, h1⟩ | ⟨g, cc, _, h1, _⟩
  · omega
  · injection h1 with e1 e2 e3
    subst e1
    refine ⟨g, 0, rfl, fun i hi => ?_⟩
    have := flat3_get xs i (by omega)
    rw [Nat.zero_add, h.cellAt _ (by omega), h.cellAt _ (by omega), h.cellAt _ (by omega)]
    exact this
set_option maxRecDepth 100000 in
set_option maxHeartbeats 4000000 in
theorem clone_int {A : Option Addr} {n c : Nat} {xs : List _} {w : World} (h : ReadsI w A n c xs) (hn : n ≤ 1099511627776) :
    Calls Try.prog 64 #[.slice A n c] w fun e w' => ∃ A' c', e = .returned (.slice A' n c') ∧ w'.ownsRow w.heap.size 3 1 (.slice A' n c') n (flatI xs) ∧ Below w.heap.size w w' ∧ (A' = none ↔ A = none) := by
  obtain ⟨i0, hi, hz0, hz1, hz2⟩ := info_parts infoInt
  by_cases hA : A = none
  · subst hA
    have h0 : n = 0 := by
      rcases Nat.eq_zero_or_pos n with h0 | h0
      · exact h0
      · obtain ⟨b, o, e, _⟩ := h.cell h0; cases e
    subst h0
    have hx : xs = [] := List.eq_nil_of_length_eq_zero h.len
    subst hx
    have he : ∀ w : World, (binOp .eql 71 (.slice none 0 c) (.slice none 0 0)).run Try.prog w = .ok (.bool true) w := fun _ => rfl
    clear h hn hi hz0 hz1 hz2
    go_enter Try.func64, Try.ntmps64
    go_wp2_with fail
    go_ret
    exact ⟨_, _, rfl, World.ownsRow_nil _ _ _ _, Below.refl _ _, by simp⟩
  · obtain ⟨ad, rfl⟩ : ∃ ad, A = some ad := Option.ne_none_iff_exists'.1 hA
    clear hA
    have hown0 : (w.alloc (.cells #[] 3)).ownsRow w.heap.size 3 1 (.slice (some ⟨w.heap.size, 0, none⟩) 0 0) 0 [] :=
      ⟨rfl, .inr ⟨w.heap.size, 0, #[], rfl, Nat.le_refl _, by show (w.heap.push _)[w.heap.size]? = _; simp, Nat.le_refl _, by unfold maxLen; omega, rfl, rfl⟩⟩
    have he : ∀ w : World, (binOp .eql 71 (.slice (some ad) n c) (.slice none 0 0)).run Try.prog w = .ok (.bool false) w := fun _ => rfl
    have hl := flatI_len xs
    rw [h.len] at hl
    have hcell := h.flat
    have hone := flat_oneflatI xs
    have HH := Lib.hid h
    clear h
    go_enter Try.func64, Try.ntmps64
    go_wp2_with (at_builtin; refine wpList_append_own _ rfl (.tmp 5) (.tmp 6) 71 rfl w.heap.size 3 i0 _ 1 8 Try.underlying71 hi hz0 hz1 hz2 rfl (by decide) _ _ _ rfl hown0 ad n c (flatI xs) rfl hl ?c1 hone (by unfold maxLen; omega) (by omega) (by simp) ?_)
    case c1 =>
      intro j u hu
      have := hcell ad rfl j u hu
      exact (bl_alloc (Below.refl _ _) _).cell (World.block_lt_of_cell? _ _ this) |>.trans this
    intro v' w1 hown' hgrow hnil
    have hform : ∃ A' c', v' = .slice A' n c' ∧ (A' = none ↔ some ad = none) := by
      rcases hown'.2 with ⟨h1, h2⟩ | ⟨g, cc, _, h1, _⟩
      · rw [h1] at hnil; simp at hnil
      · exact ⟨_, cc, h1, by simp⟩
    obtain ⟨A', c', rfl, hA⟩ := hform
    have hb : Below w.heap.size w w1 := ((Below.refl _ _).alloc (Nat.le_refl _) _).grown hgrow (by simp) (fun k hk => by simp [Value.ownBlock] at hk; omega)
    clear hl hcell hone hown0 he
    go_wp2_with fail
    go_ret
    exact ⟨_, _, rfl, hown', hb, hA⟩
set_option maxRecDepth 100000 in
set_option maxHeartbeats 4000000 in
theorem clone_node {A : Option Addr} {n c : Nat} {xs : List _} {w : World} (h : ReadsP w A n c xs) (hn : n ≤ 1099511627776) :
    Calls Try.prog 43 #[.slice A n c] w fun e w' => ∃ A' c', e = .returned (.slice A' n c') ∧ w'.ownsRow w.heap.size 59 2 (.slice A' n c') n (flat2 xs) ∧ Below w.heap.size w w' ∧ (A' = none ↔ A = none) := by
  obtain ⟨i0, hi, hz0, hz1, hz2⟩ := info_parts infoNode
  by_cases hA : A = none
  · subst hA
    have h0 : n = 0 := by
      rcases Nat.eq_zero_or_pos n with h0 | h0
      · exact h0
      · obtain ⟨b, o, e, _⟩ := h.cell h0; cases e
    subst h0
    have hx : xs = [] := List.eq_nil_of_length_eq_zero h.len
    subst hx
    have he : ∀ w : World, (binOp .eql 47 (.slice none 0 c) (.slice none 0 0)).run Try.prog w = .ok (.bool true) w := fun _ => rfl
    clear h hn hi hz0 hz1 hz2
    go_enter Try.func43, Try.ntmps43
    go_wp2_with fail
    go_ret
    exact ⟨_, _, rfl, World.ownsRow_nil _ _ _ _, Below.refl _ _, by simp⟩
  · obtain ⟨ad, rfl⟩ : ∃ ad, A = some ad := Option.ne_none_iff_exists'.1 hA
    clear hA
    have hown0 : (w.alloc (.cells #[] 59)).ownsRow w.heap.size 59 2 (.slice (some ⟨w.heap.size, 0, none⟩) 0 0) 0 [] :=
      ⟨rfl, .inr ⟨w.heap.size, 0, #[], rfl, Nat.le_refl _, by show (w.heap.push _)[w.heap.size]? = _; simp, Nat.le_refl _, by unfold maxLen; omega, rfl, rfl⟩⟩
    have he : ∀ w : World, (binOp .eql 47 (.slice (some ad) n c) (.slice none 0 0)).run Try.prog w = .ok (.bool false) w := fun _ => rfl
    have hl := flat2_len xs
    rw [h.len] at hl
    have hcell := h.flat
    have hone := flat_oneflat2 xs
    have HH := Lib.hid h
    clear h
    go_enter Try.func43, Try.ntmps43
    go_wp2_with (at_builtin; refine wpList_append_own _ rfl (.tmp 5) (.tmp 6) 47 rfl w.heap.size 59 i0 _ 2 16 Try.underlying47 hi hz0 hz1 hz2 rfl (by decide) _ _ _ rfl hown0 ad n c (flat2 xs) rfl hl ?c1 hone (by unfold maxLen; omega) (by omega) (by simp) ?_)
    case c1 =>
      intro j u hu
      have := hcell ad rfl j u hu
      exact (bl_alloc (Below.refl _ _) _).cell (World.block_lt_of_cell? _ _ this) |>.trans this
    intro v' w1 hown' hgrow hnil
    have hform : ∃ A' c', v' = .slice A' n c' ∧ (A' = none ↔ some ad = none) := by
      rcases hown'.2 with ⟨h1, h2⟩ | ⟨g, cc, _, h1, _⟩
      · rw [h1] at hnil; simp at hnil
      · exact ⟨_, cc, h1, by simp⟩
    obtain ⟨A', c', rfl, hA⟩ := hform
    have hb : Below w.heap.size w w1 := ((Below.refl _ _).alloc (Nat.le_refl _) _).grown hgrow (by simp) (fun k hk => by simp [Value.ownBlock] at hk; omega)
    clear hl hcell hone hown0 he
    go_wp2_with fail
    go_ret
    exact ⟨_, _, rfl, hown', hb, hA⟩
set_option maxRecDepth 100000 in
set_option maxHeartbeats 4000000 in
theorem clone_edge {A : Option Addr} {n c : Nat} {xs : List _} {w : World} (h : ReadsT w A n c xs) (hn : n ≤ 1099511627776) :
    Calls Try.prog 44 #[.slice A n c] w fun e w' => ∃ A' c', e = .returned (.slice A' n c') ∧ w'.ownsRow w.heap.size 63 3 (.slice A' n c') n (flat3 xs) ∧ Below w.heap.size w w' ∧ (A' = none ↔ A = none) := by
  obtain ⟨i0, hi, hz0, hz1, hz2⟩ := info_parts infoEdge
  by_cases hA : A = none
  · subst hA
    have h0 : n = 0 := by
      rcases Nat.eq_zero_or_pos n with h0 | h0
      · exact h0
      · obtain ⟨b, o, e, _⟩ := h.cell h0; cases e
    subst h0
    have hx : xs = [] := List.eq_nil_of_length_eq_zero h.len
    subst hx
    have he : ∀ w : World, (binOp .eql 48 (.slice none 0 c) (.slice none 0 0)).run Try.prog w = .ok (.bool true) w := fun _ => rfl
    clear h hn hi hz0 hz1 hz2
    go_enter Try.func44, Try.ntmps44
    go_wp2_with fail
    go_ret
    exact ⟨_, _, rfl, World.ownsRow_nil _ _ _ _, Below.refl _ _, by simp⟩
  · obtain ⟨ad, rfl⟩ : ∃ ad, A = some ad := Option.ne_none_iff_exists'.1 hA
    clear hA
    have hown0 : (w.alloc (.cells #[] 63)).ownsRow w.heap.size 63 3 (.slice (some ⟨w.heap.size, 0, none⟩) 0 0) 0 [] :=
      ⟨rfl, .inr ⟨w.heap.size, 0, #[], rfl, Nat.le_refl _, by show (w.heap.push _)[w.heap.size]? = _; simp, Nat.le_refl _, by unfold maxLen; omega, rfl, rfl⟩⟩
    have he : ∀ w : World, (binOp .eql 48 (.slice (some ad) n c) (.slice none 0 0)).run Try.prog w = .ok (.bool false) w := fun _ => rfl
    have hl := flat3_len xs
    rw [h.len] at hl
    have hcell := h.flat
    have hone := flat_oneflat3 xs
    have HH := Lib.hid h
    clear h
    go_enter Try.func44, Try.ntmps44
    go_wp2_with (at_builtin; refine wpList_append_own _ rfl (.tmp 5) (.tmp 6) 48 rfl w.heap.size 63 i0 _ 3 24 Try.underlying48 hi hz0 hz1 hz2 rfl (by decide) _ _ _ rfl hown0 ad n c (flat3 xs) rfl hl ?c1 hone (by unfold maxLen; omega) (by omega) (by simp) ?_)
    case c1 =>
      intro j u hu
      have := hcell ad rfl j u hu
      exact (bl_alloc (Below.refl _ _) _).cell (World.block_lt_of_cell? _ _ this) |>.trans this
    intro v' w1 hown' hgrow hnil
    have hform : ∃ A' c', v' = .slice A' n c' ∧ (A' = none ↔ some ad = none) := by
      rcases hown'.2 with ⟨h1, h2⟩ | ⟨g, cc, _, h1, _⟩
      · rw [h1] at hnil; simp at hnil
      · exact ⟨_, cc, h1, by simp⟩
    obtain ⟨A', c', rfl, hA⟩ := hform
    have hb : Below w.heap.size w w1 := ((Below.refl _ _).alloc (Nat.le_refl _) _).grown hgrow (by simp) (fun k hk => by simp [Value.ownBlock] at hk; omega)
    clear hl hcell hone hown0 he
    go_wp2_with fail
    go_ret
    exact ⟨_, _, rfl, hown', hb, hA⟩
set_option maxRecDepth 100000 in
set_option maxHeartbeats 4000000 in
theorem clone_ban {A : Option Addr} {n c : Nat} {xs : List _} {w : World} (h : ReadsP w A n c xs) (hn : n ≤ 1099511627776) :
    Calls Try.prog 45 #[.slice A n c] w fun e w' => ∃ A' c', e = .returned (.slice A' n c') ∧ w'.ownsRow w.heap.size 69 2 (.slice A' n c') n (flat2 xs) ∧ Below w.heap.size w w' ∧ (A' = none ↔ A = none) := by
  obtain ⟨i0, hi, hz0, hz1, hz2⟩ := info_parts infoBan
  by_cases hA : A = none
  · subst hA
    have h0 : n = 0 := by
      rcases Nat.eq_zero_or_pos n with h0 | h0
      · exact h0
      · obtain ⟨b, o, e, _⟩ := h.cell h0; cases e
    subst h0
    have hx : xs = [] := List.eq_nil_of_length_eq_zero h.len
    subst hx
    have he : ∀ w : World, (binOp .eql 49 (.slice none 0 c) (.slice none 0 0)).run Try.prog w = .ok (.bool true) w := fun _ => rfl
    clear h hn hi hz0 hz1 hz2
    go_enter Try.func45, Try.ntmps45
    go_wp2_with fail
    go_ret
    exact ⟨_, _, rfl, World.ownsRow_nil _ _ _ _, Below.refl _ _, by simp⟩
  · obtain ⟨ad, rfl⟩ : ∃ ad, A = some ad := Option.ne_none_iff_exists'.1 hA
    clear hA
    have hown0 : (w.alloc (.cells #[] 69)).ownsRow w.heap.size 69 2 (.slice (some ⟨w.heap.size, 0, none⟩) 0 0) 0 [] :=
      ⟨rfl, .inr ⟨w.heap.size, 0, #[], rfl, Nat.le_refl _, by show (w.heap.push _)[w.heap.size]? = _; simp, Nat.le_refl _, by unfold maxLen; omega, rfl, rfl⟩⟩
    have he : ∀ w : World, (binOp .eql 49 (.slice (some ad) n c) (.slice none 0 0)).run Try.prog w = .ok (.bool false) w := fun _ => rfl
    have hl := flat2_len xs
    rw [h.len] at hl
    have hcell := h.flat
    have hone := flat_oneflat2 xs
    have HH := Lib.hid h
    clear h
    go_enter Try.func45, Try.ntmps45
    go_wp2_with (at_builtin; refine wpList_append_own _ rfl (.tmp 5) (.tmp 6) 49 rfl w.heap.size 69 i0 _ 2 16 Try.underlying49 hi hz0 hz1 hz2 rfl (by decide) _ _ _ rfl hown0 ad n c (flat2 xs) rfl hl ?c1 hone (by unfold maxLen; omega) (by omega) (by simp) ?_)
    case c1 =>
      intro j u hu
      have := hcell ad rfl j u hu
      exact (bl_alloc (Below.refl _ _) _).cell (World.block_lt_of_cell? _ _ this) |>.trans this
    intro v' w1 hown' hgrow hnil
    have hform : ∃ A' c', v' = .slice A' n c' ∧ (A' = none ↔ some ad = none) := by
      rcases hown'.2 with ⟨h1, h2⟩ | ⟨g, cc, _, h1, _⟩
      · rw [h1] at hnil; simp at hnil
      · exact ⟨_, cc, h1, by simp⟩
    obtain ⟨A', c', rfl, hA⟩ := hform
    have hb : Below w.heap.size w w1 := ((Below.refl _ _).alloc (Nat.le_refl _) _).grown hgrow (by simp) (fun k hk => by simp [Value.ownBlock] at hk; omega)
    clear hl hcell hone hown0 he
    go_wp2_with fail
    go_ret
    exact ⟨_, _, rfl, hown', hb, hA⟩
end Go.Proofs.Ytkdpfbefdhjmcaa
