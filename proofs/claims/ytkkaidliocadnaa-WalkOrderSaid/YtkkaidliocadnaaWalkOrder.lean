/- WalkOrder: rows have one order: of two one is ahead, or they are one; of three what is ahead of what is ahead. For every input, without a condition. -/
import Derived.Test.YtkkaidliocadnaaAwake8
import Derived.Test.YtkkaidliocadnaaAside
import Derived.Test.YtkkaidliocadnaaCmpPure
import Derived.Test.YtkkaidliocadnaaRow
set_option linter.unusedVariables false
set_option linter.unusedSimpArgs false
namespace Go.Proofs.Ytkkaidliocadnaa.walkOrder
open Go.ChangeShapes Go.WideShapes Go.ChangeAt Go.RowKit RowP
theorem wpList_pushG {ops : Array Oper} {rest : List Oper} {o : Oper} {a : Act} {w : World} {Q : Exit → Act → World → Prop} (hg : Region.wanted o (yielded ops a.tmps) = true) (s x : Operand) (t : TypeId) (ho : o.op = .call { callee := .builtin .append, args := #[s, x], argTypes := #[t, t] })
    (base : Nat) (e : TypeId) {i : TypeInfo} {z : Value} {size bytes : Nat} (ht : Try.prog.underlying t = some (.slice e)) (hI : Try.prog.info? e = some i ∧ i.zero = some z ∧ i.size = size ∧ i.bytes = bytes) (hzs : z.cells.size = size ∧ 0 < size)
    (v : Value) (n : Nat) (xs : List Value) (hs : a.eval s = v) (hown : w.ownsRow base e size v n xs) (A : Option Addr) (m c : Nat) (news : List Value) (hx : a.eval x = .slice A m c) (hsrc : Src w size A m news)
    (hsm : n + m ≤ maxLen ∧ (n + m) * bytes ≤ 140737488355328) (hbase : base ≤ w.heap.size)
    (h : ∀ v' w', Grown w w' base e size v v' (n + m) (xs ++ news) → wpList Try.prog ops Q rest (a.put o.dst v') w') : wpList Try.prog ops Q (o :: rest) a w :=
  wpList_step fun K hK => step_pushG hg s x t ho base e ht hI hzs v n xs hs hown A m c news hx hsrc hsm hbase fun v' w' hgr => hK _ _ (h v' w' hgr)
set_option maxRecDepth 100000 in
set_option maxHeartbeats 4000000 in
theorem walk_out (A : Option Addr) (n k : Nat) (A2 : Option Addr) (n2 k2 : Nat) (A3 : Option Addr) (n3 k3 : Nat) (s1 : n ≤ 9223372036854775807) (s2 : n2 ≤ 9223372036854775807) (s3 : n3 ≤ 9223372036854775807) (w : World) (h : ¬ (n ≤ 30 ∧ n2 ≤ 30 ∧ n3 ≤ 30)) :
    Calls Try.prog 5 #[.slice A n k, .slice A2 n2 k2, .slice A3 n3 k3] w fun e w' => e = .returned (.bool true) ∧ Below w.heap.size w w' := by
  by_cases h1 : 30 < n
  · clear h
    go_enter Try.func5, Try.ntmps5
    go_wp2_with (go_at_call 11; refine (awake8 _).mono ?_; rintro e w1 ⟨rfl, hb1⟩)
    go_ret
    exact ⟨rfl, by assumption⟩
  · by_cases h2 : 30 < n2
    · clear h
      go_enter Try.func5, Try.ntmps5
      go_wp2_with (go_at_call 11; refine (awake8 _).mono ?_; rintro e w1 ⟨rfl, hb1⟩)
      go_ret
      exact ⟨rfl, by assumption⟩
    · have h3 : 30 < n3 := by omega
      clear h
      go_enter Try.func5, Try.ntmps5
      go_wp2_with (go_at_call 11; refine (awake8 _).mono ?_; rintro e w1 ⟨rfl, hb1⟩)
      go_ret
      exact ⟨rfl, by assumption⟩
set_option maxRecDepth 100000 in
set_option maxHeartbeats 16000000 in
theorem walk_ins (A : Option Addr) (n k : Nat) (xs : List Int) (A2 : Option Addr) (n2 k2 : Nat) (x2 : List Int) (A3 : Option Addr) (n3 k3 : Nat) (x3 : List Int) (w : World) (h1 : n ≤ 30) (h2 : n2 ≤ 30) (h3 : n3 ≤ 30) (q1 : ReadsI w A n k xs) (q2 : ReadsI w A2 n2 k2 x2) (q3 : ReadsI w A3 n3 k3 x3) :
    Calls Try.prog 5 #[.slice A n k, .slice A2 n2 k2, .slice A3 n3 k3] w fun e w' => e = .returned (.bool true) ∧ Below w.heap.size w w' := by
  have Q1 := Lib.hid q1
  have Q2 := Lib.hid q2
  have Q3 := Lib.hid q3
  obtain ⟨i1, hi1⟩ := info1
  have II := Lib.hid hi1
  have SA := Lib.hid (Src.ofI q1)
  have HL1 : Hid (0 + n ≤ maxLen ∧ (0 + n) * 8 ≤ 140737488355328) := Lib.hid ⟨by unfold maxLen; omega, by omega⟩
  have HL2 : Hid (n + 1 ≤ maxLen ∧ (n + 1) * 8 ≤ 140737488355328) := Lib.hid ⟨by unfold maxLen; omega, by omega⟩
  have HWF : Hid (∀ x ∈ xs ++ [5], (Lit.int .i64 x).wf = true) := Lib.hid fun x hx => by
    rcases List.mem_append.1 hx with h | h
    · exact q1.wf x h
    · rw [List.mem_singleton.1 h]; decide
  have C5 : Hid (∀ w', Below w.heap.size w w' → ∀ A9 c9, ReadsI w' A9 (n + 1) c9 (xs ++ [5]) → Calls Try.prog 21 #[.slice A n k, .slice A9 (n + 1) c9] w' fun e w'' => e = .returned (.int .i64 (-1)) ∧ w' = w'') := Lib.hid fun w' h A9 c9 r => by
    have := wcmp_any (q1.below h) r
    rw [cmp_app] at this
    exact this
  have t1 := cmp_trans xs x2 x3
  have t2 := cmp_trans x3 x2 xs
  rw [cmp_neg x2 x3, cmp_neg xs x2, cmp_neg xs x3] at t2
  have bx := cmp_bd xs x2
  have byy := cmp_bd x2 x3
  have bz := cmp_bd xs x3
  obtain ⟨zv, hz⟩ : ∃ zv, cmpL xs x3 = zv := ⟨_, rfl⟩
  rw [hz] at t1 t2 bz
  clear q1 q2 q3 hi1
  rcases bx with hx | hx | hx
  · rw [hx] at t1 t2
    rcases byy with hy | hy | hy
    · rw [hy] at t1 t2
      have g1 : decide (zv ≤ 0) = true := decide_eq_true (t1 (by decide) (by decide))
      clear t1 t2 bz
      have C1 : Hid (∀ w', Below w.heap.size w w' → Calls Try.prog 21 #[.slice A n k, .slice A2 n2 k2] w' fun e w'' => e = .returned (.int .i64 (-1)) ∧ w' = w'') := Lib.hid fun w' h => by rw [← hx]; exact wcmp_any (Q1.out.below h) (Q2.out.below h)
      have C2 : Hid (∀ w', Below w.heap.size w w' → Calls Try.prog 21 #[.slice A2 n2 k2, .slice A3 n3 k3] w' fun e w'' => e = .returned (.int .i64 (-1)) ∧ w' = w'') := Lib.hid fun w' h => by rw [← hy]; exact wcmp_any (Q2.out.below h) (Q3.out.below h)
      have C3 : Hid (∀ w', Below w.heap.size w w' → Calls Try.prog 21 #[.slice A n k, .slice A3 n3 k3] w' fun e w'' => e = .returned (.int .i64 zv) ∧ w' = w'') := Lib.hid fun w' h => by rw [← hz]; exact wcmp_any (Q1.out.below h) (Q3.out.below h)
      have C4 : Hid (∀ w', Below w.heap.size w w' → Calls Try.prog 21 #[.slice A2 n2 k2, .slice A n k] w' fun e w'' => e = .returned (.int .i64 1) ∧ w' = w'') := Lib.hid fun w' h => by rw [show (1 : Int) = cmpL x2 xs by rw [cmp_neg xs x2, hx] <;> rfl]; exact wcmp_any (Q2.out.below h) (Q1.out.below h)
      have C6 : Hid (∀ w', Below w.heap.size w w' → Calls Try.prog 23 #[.slice A n k, .slice A2 n2 k2] w' fun e w'' => e = .returned (.bool false) ∧ Below w'.heap.size w' w'') := Lib.hid fun w' h => by rw [show false = decide (xs = x2) by have e := cmp_zero xs x2; rw [hx] at e; simp at e; simp [e]]; exact ints_any (Q1.out.below h) (Q2.out.below h)
      clear hx hy hz
      go_enter Try.func5, Try.ntmps5
      go_wp2_with (go_at_call 21; first | (with_reducible refine (C1.out _ (Below.refl _ _)).mono ?_; rintro e w1 ⟨rfl, rfl⟩) | (with_reducible refine (C2.out _ (Below.refl _ _)).mono ?_; rintro e w1 ⟨rfl, rfl⟩) | (with_reducible refine (C3.out _ (Below.refl _ _)).mono ?_; rintro e w1 ⟨rfl, rfl⟩) | (with_reducible refine (C4.out _ (Below.refl _ _)).mono ?_; rintro e w1 ⟨rfl, rfl⟩))
      refine (C6.out _ (Below.refl _ _)).mono ?_
      rintro e wd ⟨rfl, hb⟩
      have S1 : Hid (RS w wd (.slice none 0 0) 0 []) := Lib.hid (RS.start hb)
      have S2 := Lib.hid S1.out.build
      clear hb
      go_wp2_with (at_builtin; refine wpList_pushG (by rfl) (.tmp 73) (.tmp 74) 22 rfl _ 3 Try.underlying22 II.out ⟨rfl, by decide⟩ _ 0 _ rfl S2.out.row A n k _ rfl (SA.out.below S2.out.bl) HL1.out S2.out.bl.size ?_)
      intro v1 u1 hgr
      have hs3 := S2.out.push (k := n) (M := xs) (by rw [Nat.zero_add]; exact hgr)
      rw [Nat.zero_add, List.nil_append] at hs3
      have S4 := Lib.hid (hs3.below (bl_alloc (Below.refl _ _) (.cells #[.int .i64 5] 3)))
      have HSRC := Lib.hid (Src.new (w := u1) (vs := #[.int .i64 5]) (t := 3) (size := 1) (by intro u hu; simp at hu; subst hu; rfl) rfl)
      clear hgr hs3
      go_wp2_with (at_builtin; refine wpList_pushG (by rfl) (.tmp 75) (.tmp 76) 22 rfl _ 3 Try.underlying22 II.out ⟨rfl, by decide⟩ _ n _ rfl S4.out.row (some ⟨u1.heap.size, 0, none⟩) 1 1 _ rfl HSRC.out HL2.out S4.out.bl.size ?_)
      intro v2 u2 hgr
      have hs5 := S4.out.push (M := [5]) hgr
      obtain ⟨A9, c9, hv9⟩ := hgr.val
      subst hv9
      have R9 := Lib.hid (ReadsI.of_row hs5.row HL2.out.1 HWF.out)
      have B5 := Lib.hid hs5.bl
      clear hgr hs5
      go_wp2_with fail
      refine (C5.out _ B5.out _ _ R9.out).mono ?_
      rintro e y5 ⟨rfl, rfl⟩
      go_wp2_with fail
      refine (awake8 _).mono ?_
      rintro e y6 ⟨rfl, hb6⟩
      have B6 : Hid (Below w.heap.size w y6) := Lib.hid (bl_then B5.out hb6)
      clear hb6
      go_wp2_with fail
      go_ret
      exact ⟨rfl, B6.out⟩
    · rw [hy] at t1 t2
      have g1 : decide (zv ≤ 0) = true := decide_eq_true (t1 (by decide) (by decide))
      clear t1 t2 bz
      have C1 : Hid (∀ w', Below w.heap.size w w' → Calls Try.prog 21 #[.slice A n k, .slice A2 n2 k2] w' fun e w'' => e = .returned (.int .i64 (-1)) ∧ w' = w'') := Lib.hid fun w' h => by rw [← hx]; exact wcmp_any (Q1.out.below h) (Q2.out.below h)
      have C2 : Hid (∀ w', Below w.heap.size w w' → Calls Try.prog 21 #[.slice A2 n2 k2, .slice A3 n3 k3] w' fun e w'' => e = .returned (.int .i64 0) ∧ w' = w'') := Lib.hid fun w' h => by rw [← hy]; exact wcmp_any (Q2.out.below h) (Q3.out.below h)
      have C3 : Hid (∀ w', Below w.heap.size w w' → Calls Try.prog 21 #[.slice A n k, .slice A3 n3 k3] w' fun e w'' => e = .returned (.int .i64 zv) ∧ w' = w'') := Lib.hid fun w' h => by rw [← hz]; exact wcmp_any (Q1.out.below h) (Q3.out.below h)
      have C4 : Hid (∀ w', Below w.heap.size w w' → Calls Try.prog 21 #[.slice A2 n2 k2, .slice A n k] w' fun e w'' => e = .returned (.int .i64 1) ∧ w' = w'') := Lib.hid fun w' h => by rw [show (1 : Int) = cmpL x2 xs by rw [cmp_neg xs x2, hx] <;> rfl]; exact wcmp_any (Q2.out.below h) (Q1.out.below h)
      have C6 : Hid (∀ w', Below w.heap.size w w' → Calls Try.prog 23 #[.slice A n k, .slice A2 n2 k2] w' fun e w'' => e = .returned (.bool false) ∧ Below w'.heap.size w' w'') := Lib.hid fun w' h => by rw [show false = decide (xs = x2) by have e := cmp_zero xs x2; rw [hx] at e; simp at e; simp [e]]; exact ints_any (Q1.out.below h) (Q2.out.below h)
      clear hx hy hz
      go_enter Try.func5, Try.ntmps5
      go_wp2_with (go_at_call 21; first | (with_reducible refine (C1.out _ (Below.refl _ _)).mono ?_; rintro e w1 ⟨rfl, rfl⟩) | (with_reducible refine (C2.out _ (Below.refl _ _)).mono ?_; rintro e w1 ⟨rfl, rfl⟩) | (with_reducible refine (C3.out _ (Below.refl _ _)).mono ?_; rintro e w1 ⟨rfl, rfl⟩) | (with_reducible refine (C4.out _ (Below.refl _ _)).mono ?_; rintro e w1 ⟨rfl, rfl⟩))
      refine (C6.out _ (Below.refl _ _)).mono ?_
      rintro e wd ⟨rfl, hb⟩
      have S1 : Hid (RS w wd (.slice none 0 0) 0 []) := Lib.hid (RS.start hb)
      have S2 := Lib.hid S1.out.build
      clear hb
      go_wp2_with (at_builtin; refine wpList_pushG (by rfl) (.tmp 73) (.tmp 74) 22 rfl _ 3 Try.underlying22 II.out ⟨rfl, by decide⟩ _ 0 _ rfl S2.out.row A n k _ rfl (SA.out.below S2.out.bl) HL1.out S2.out.bl.size ?_)
      intro v1 u1 hgr
      have hs3 := S2.out.push (k := n) (M := xs) (by rw [Nat.zero_add]; exact hgr)
      rw [Nat.zero_add, List.nil_append] at hs3
      have S4 := Lib.hid (hs3.below (bl_alloc (Below.refl _ _) (.cells #[.int .i64 5] 3)))
      have HSRC := Lib.hid (Src.new (w := u1) (vs := #[.int .i64 5]) (t := 3) (size := 1) (by intro u hu; simp at hu; subst hu; rfl) rfl)
      clear hgr hs3
      go_wp2_with (at_builtin; refine wpList_pushG (by rfl) (.tmp 75) (.tmp 76) 22 rfl _ 3 Try.underlying22 II.out ⟨rfl, by decide⟩ _ n _ rfl S4.out.row (some ⟨u1.heap.size, 0, none⟩) 1 1 _ rfl HSRC.out HL2.out S4.out.bl.size ?_)
      intro v2 u2 hgr
      have hs5 := S4.out.push (M := [5]) hgr
      obtain ⟨A9, c9, hv9⟩ := hgr.val
      subst hv9
      have R9 := Lib.hid (ReadsI.of_row hs5.row HL2.out.1 HWF.out)
      have B5 := Lib.hid hs5.bl
      clear hgr hs5
      go_wp2_with fail
      refine (C5.out _ B5.out _ _ R9.out).mono ?_
      rintro e y5 ⟨rfl, rfl⟩
      go_wp2_with fail
      refine (awake8 _).mono ?_
      rintro e y6 ⟨rfl, hb6⟩
      have B6 : Hid (Below w.heap.size w y6) := Lib.hid (bl_then B5.out hb6)
      clear hb6
      go_wp2_with fail
      go_ret
      exact ⟨rfl, B6.out⟩
    · clear t1 t2 bz
      have C1 : Hid (∀ w', Below w.heap.size w w' → Calls Try.prog 21 #[.slice A n k, .slice A2 n2 k2] w' fun e w'' => e = .returned (.int .i64 (-1)) ∧ w' = w'') := Lib.hid fun w' h => by rw [← hx]; exact wcmp_any (Q1.out.below h) (Q2.out.below h)
      have C2 : Hid (∀ w', Below w.heap.size w w' → Calls Try.prog 21 #[.slice A2 n2 k2, .slice A3 n3 k3] w' fun e w'' => e = .returned (.int .i64 1) ∧ w' = w'') := Lib.hid fun w' h => by rw [← hy]; exact wcmp_any (Q2.out.below h) (Q3.out.below h)
      have C3 : Hid (∀ w', Below w.heap.size w w' → Calls Try.prog 21 #[.slice A n k, .slice A3 n3 k3] w' fun e w'' => e = .returned (.int .i64 zv) ∧ w' = w'') := Lib.hid fun w' h => by rw [← hz]; exact wcmp_any (Q1.out.below h) (Q3.out.below h)
      have C4 : Hid (∀ w', Below w.heap.size w w' → Calls Try.prog 21 #[.slice A2 n2 k2, .slice A n k] w' fun e w'' => e = .returned (.int .i64 1) ∧ w' = w'') := Lib.hid fun w' h => by rw [show (1 : Int) = cmpL x2 xs by rw [cmp_neg xs x2, hx] <;> rfl]; exact wcmp_any (Q2.out.below h) (Q1.out.below h)
      have C6 : Hid (∀ w', Below w.heap.size w w' → Calls Try.prog 23 #[.slice A n k, .slice A2 n2 k2] w' fun e w'' => e = .returned (.bool false) ∧ Below w'.heap.size w' w'') := Lib.hid fun w' h => by rw [show false = decide (xs = x2) by have e := cmp_zero xs x2; rw [hx] at e; simp at e; simp [e]]; exact ints_any (Q1.out.below h) (Q2.out.below h)
      clear hx hy hz
      go_enter Try.func5, Try.ntmps5
      go_wp2_with (go_at_call 21; first | (with_reducible refine (C1.out _ (Below.refl _ _)).mono ?_; rintro e w1 ⟨rfl, rfl⟩) | (with_reducible refine (C2.out _ (Below.refl _ _)).mono ?_; rintro e w1 ⟨rfl, rfl⟩) | (with_reducible refine (C3.out _ (Below.refl _ _)).mono ?_; rintro e w1 ⟨rfl, rfl⟩) | (with_reducible refine (C4.out _ (Below.refl _ _)).mono ?_; rintro e w1 ⟨rfl, rfl⟩))
      refine (C6.out _ (Below.refl _ _)).mono ?_
      rintro e wd ⟨rfl, hb⟩
      have S1 : Hid (RS w wd (.slice none 0 0) 0 []) := Lib.hid (RS.start hb)
      have S2 := Lib.hid S1.out.build
      clear hb
      go_wp2_with (at_builtin; refine wpList_pushG (by rfl) (.tmp 73) (.tmp 74) 22 rfl _ 3 Try.underlying22 II.out ⟨rfl, by decide⟩ _ 0 _ rfl S2.out.row A n k _ rfl (SA.out.below S2.out.bl) HL1.out S2.out.bl.size ?_)
      intro v1 u1 hgr
      have hs3 := S2.out.push (k := n) (M := xs) (by rw [Nat.zero_add]; exact hgr)
      rw [Nat.zero_add, List.nil_append] at hs3
      have S4 := Lib.hid (hs3.below (bl_alloc (Below.refl _ _) (.cells #[.int .i64 5] 3)))
      have HSRC := Lib.hid (Src.new (w := u1) (vs := #[.int .i64 5]) (t := 3) (size := 1) (by intro u hu; simp at hu; subst hu; rfl) rfl)
      clear hgr hs3
      go_wp2_with (at_builtin; refine wpList_pushG (by rfl) (.tmp 75) (.tmp 76) 22 rfl _ 3 Try.underlying22 II.out ⟨rfl, by decide⟩ _ n _ rfl S4.out.row (some ⟨u1.heap.size, 0, none⟩) 1 1 _ rfl HSRC.out HL2.out S4.out.bl.size ?_)
      intro v2 u2 hgr
      have hs5 := S4.out.push (M := [5]) hgr
      obtain ⟨A9, c9, hv9⟩ := hgr.val
      subst hv9
      have R9 := Lib.hid (ReadsI.of_row hs5.row HL2.out.1 HWF.out)
      have B5 := Lib.hid hs5.bl
      clear hgr hs5
      go_wp2_with fail
      refine (C5.out _ B5.out _ _ R9.out).mono ?_
      rintro e y5 ⟨rfl, rfl⟩
      go_wp2_with fail
      refine (awake8 _).mono ?_
      rintro e y6 ⟨rfl, hb6⟩
      have B6 : Hid (Below w.heap.size w y6) := Lib.hid (bl_then B5.out hb6)
      clear hb6
      go_wp2_with fail
      go_ret
      exact ⟨rfl, B6.out⟩
  · rw [hx] at t1 t2
    rcases byy with hy | hy | hy
    · rw [hy] at t1 t2
      have g1 : decide (zv ≤ 0) = true := decide_eq_true (t1 (by decide) (by decide))
      clear t1 t2 bz
      have C1 : Hid (∀ w', Below w.heap.size w w' → Calls Try.prog 21 #[.slice A n k, .slice A2 n2 k2] w' fun e w'' => e = .returned (.int .i64 0) ∧ w' = w'') := Lib.hid fun w' h => by rw [← hx]; exact wcmp_any (Q1.out.below h) (Q2.out.below h)
      have C2 : Hid (∀ w', Below w.heap.size w w' → Calls Try.prog 21 #[.slice A2 n2 k2, .slice A3 n3 k3] w' fun e w'' => e = .returned (.int .i64 (-1)) ∧ w' = w'') := Lib.hid fun w' h => by rw [← hy]; exact wcmp_any (Q2.out.below h) (Q3.out.below h)
      have C3 : Hid (∀ w', Below w.heap.size w w' → Calls Try.prog 21 #[.slice A n k, .slice A3 n3 k3] w' fun e w'' => e = .returned (.int .i64 zv) ∧ w' = w'') := Lib.hid fun w' h => by rw [← hz]; exact wcmp_any (Q1.out.below h) (Q3.out.below h)
      have C4 : Hid (∀ w', Below w.heap.size w w' → Calls Try.prog 21 #[.slice A2 n2 k2, .slice A n k] w' fun e w'' => e = .returned (.int .i64 0) ∧ w' = w'') := Lib.hid fun w' h => by rw [show (0 : Int) = cmpL x2 xs by rw [cmp_neg xs x2, hx] <;> rfl]; exact wcmp_any (Q2.out.below h) (Q1.out.below h)
      have C6 : Hid (∀ w', Below w.heap.size w w' → Calls Try.prog 23 #[.slice A n k, .slice A2 n2 k2] w' fun e w'' => e = .returned (.bool true) ∧ Below w'.heap.size w' w'') := Lib.hid fun w' h => by rw [show true = decide (xs = x2) by have e := cmp_zero xs x2; rw [hx] at e; simp at e; simp [e]]; exact ints_any (Q1.out.below h) (Q2.out.below h)
      clear hx hy hz
      go_enter Try.func5, Try.ntmps5
      go_wp2_with (go_at_call 21; first | (with_reducible refine (C1.out _ (Below.refl _ _)).mono ?_; rintro e w1 ⟨rfl, rfl⟩) | (with_reducible refine (C2.out _ (Below.refl _ _)).mono ?_; rintro e w1 ⟨rfl, rfl⟩) | (with_reducible refine (C3.out _ (Below.refl _ _)).mono ?_; rintro e w1 ⟨rfl, rfl⟩) | (with_reducible refine (C4.out _ (Below.refl _ _)).mono ?_; rintro e w1 ⟨rfl, rfl⟩))
      refine (C6.out _ (Below.refl _ _)).mono ?_
      rintro e wd ⟨rfl, hb⟩
      have S1 : Hid (RS w wd (.slice none 0 0) 0 []) := Lib.hid (RS.start hb)
      have S2 := Lib.hid S1.out.build
      clear hb
      go_wp2_with (at_builtin; refine wpList_pushG (by rfl) (.tmp 73) (.tmp 74) 22 rfl _ 3 Try.underlying22 II.out ⟨rfl, by decide⟩ _ 0 _ rfl S2.out.row A n k _ rfl (SA.out.below S2.out.bl) HL1.out S2.out.bl.size ?_)
      intro v1 u1 hgr
      have hs3 := S2.out.push (k := n) (M := xs) (by rw [Nat.zero_add]; exact hgr)
      rw [Nat.zero_add, List.nil_append] at hs3
      have S4 := Lib.hid (hs3.below (bl_alloc (Below.refl _ _) (.cells #[.int .i64 5] 3)))
      have HSRC := Lib.hid (Src.new (w := u1) (vs := #[.int .i64 5]) (t := 3) (size := 1) (by intro u hu; simp at hu; subst hu; rfl) rfl)
      clear hgr hs3
      go_wp2_with (at_builtin; refine wpList_pushG (by rfl) (.tmp 75) (.tmp 76) 22 rfl _ 3 Try.underlying22 II.out ⟨rfl, by decide⟩ _ n _ rfl S4.out.row (some ⟨u1.heap.size, 0, none⟩) 1 1 _ rfl HSRC.out HL2.out S4.out.bl.size ?_)
      intro v2 u2 hgr
      have hs5 := S4.out.push (M := [5]) hgr
      obtain ⟨A9, c9, hv9⟩ := hgr.val
      subst hv9
      have R9 := Lib.hid (ReadsI.of_row hs5.row HL2.out.1 HWF.out)
      have B5 := Lib.hid hs5.bl
      clear hgr hs5
      go_wp2_with fail
      refine (C5.out _ B5.out _ _ R9.out).mono ?_
      rintro e y5 ⟨rfl, rfl⟩
      go_wp2_with fail
      refine (awake8 _).mono ?_
      rintro e y6 ⟨rfl, hb6⟩
      have B6 : Hid (Below w.heap.size w y6) := Lib.hid (bl_then B5.out hb6)
      clear hb6
      go_wp2_with fail
      go_ret
      exact ⟨rfl, B6.out⟩
    · rw [hy] at t1 t2
      have g1 : decide (zv ≤ 0) = true := decide_eq_true (t1 (by decide) (by decide))
      have g2 : decide (0 ≤ zv) = true := decide_eq_true (by have := t2 (by decide) (by decide); omega)
      clear t1 t2 bz
      have C1 : Hid (∀ w', Below w.heap.size w w' → Calls Try.prog 21 #[.slice A n k, .slice A2 n2 k2] w' fun e w'' => e = .returned (.int .i64 0) ∧ w' = w'') := Lib.hid fun w' h => by rw [← hx]; exact wcmp_any (Q1.out.below h) (Q2.out.below h)
      have C2 : Hid (∀ w', Below w.heap.size w w' → Calls Try.prog 21 #[.slice A2 n2 k2, .slice A3 n3 k3] w' fun e w'' => e = .returned (.int .i64 0) ∧ w' = w'') := Lib.hid fun w' h => by rw [← hy]; exact wcmp_any (Q2.out.below h) (Q3.out.below h)
      have C3 : Hid (∀ w', Below w.heap.size w w' → Calls Try.prog 21 #[.slice A n k, .slice A3 n3 k3] w' fun e w'' => e = .returned (.int .i64 zv) ∧ w' = w'') := Lib.hid fun w' h => by rw [← hz]; exact wcmp_any (Q1.out.below h) (Q3.out.below h)
      have C4 : Hid (∀ w', Below w.heap.size w w' → Calls Try.prog 21 #[.slice A2 n2 k2, .slice A n k] w' fun e w'' => e = .returned (.int .i64 0) ∧ w' = w'') := Lib.hid fun w' h => by rw [show (0 : Int) = cmpL x2 xs by rw [cmp_neg xs x2, hx] <;> rfl]; exact wcmp_any (Q2.out.below h) (Q1.out.below h)
      have C6 : Hid (∀ w', Below w.heap.size w w' → Calls Try.prog 23 #[.slice A n k, .slice A2 n2 k2] w' fun e w'' => e = .returned (.bool true) ∧ Below w'.heap.size w' w'') := Lib.hid fun w' h => by rw [show true = decide (xs = x2) by have e := cmp_zero xs x2; rw [hx] at e; simp at e; simp [e]]; exact ints_any (Q1.out.below h) (Q2.out.below h)
      clear hx hy hz
      go_enter Try.func5, Try.ntmps5
      go_wp2_with (go_at_call 21; first | (with_reducible refine (C1.out _ (Below.refl _ _)).mono ?_; rintro e w1 ⟨rfl, rfl⟩) | (with_reducible refine (C2.out _ (Below.refl _ _)).mono ?_; rintro e w1 ⟨rfl, rfl⟩) | (with_reducible refine (C3.out _ (Below.refl _ _)).mono ?_; rintro e w1 ⟨rfl, rfl⟩) | (with_reducible refine (C4.out _ (Below.refl _ _)).mono ?_; rintro e w1 ⟨rfl, rfl⟩))
      refine (C6.out _ (Below.refl _ _)).mono ?_
      rintro e wd ⟨rfl, hb⟩
      have S1 : Hid (RS w wd (.slice none 0 0) 0 []) := Lib.hid (RS.start hb)
      have S2 := Lib.hid S1.out.build
      clear hb
      go_wp2_with (at_builtin; refine wpList_pushG (by rfl) (.tmp 73) (.tmp 74) 22 rfl _ 3 Try.underlying22 II.out ⟨rfl, by decide⟩ _ 0 _ rfl S2.out.row A n k _ rfl (SA.out.below S2.out.bl) HL1.out S2.out.bl.size ?_)
      intro v1 u1 hgr
      have hs3 := S2.out.push (k := n) (M := xs) (by rw [Nat.zero_add]; exact hgr)
      rw [Nat.zero_add, List.nil_append] at hs3
      have S4 := Lib.hid (hs3.below (bl_alloc (Below.refl _ _) (.cells #[.int .i64 5] 3)))
      have HSRC := Lib.hid (Src.new (w := u1) (vs := #[.int .i64 5]) (t := 3) (size := 1) (by intro u hu; simp at hu; subst hu; rfl) rfl)
      clear hgr hs3
      go_wp2_with (at_builtin; refine wpList_pushG (by rfl) (.tmp 75) (.tmp 76) 22 rfl _ 3 Try.underlying22 II.out ⟨rfl, by decide⟩ _ n _ rfl S4.out.row (some ⟨u1.heap.size, 0, none⟩) 1 1 _ rfl HSRC.out HL2.out S4.out.bl.size ?_)
      intro v2 u2 hgr
      have hs5 := S4.out.push (M := [5]) hgr
      obtain ⟨A9, c9, hv9⟩ := hgr.val
      subst hv9
      have R9 := Lib.hid (ReadsI.of_row hs5.row HL2.out.1 HWF.out)
      have B5 := Lib.hid hs5.bl
      clear hgr hs5
      go_wp2_with fail
      refine (C5.out _ B5.out _ _ R9.out).mono ?_
      rintro e y5 ⟨rfl, rfl⟩
      go_wp2_with fail
      refine (awake8 _).mono ?_
      rintro e y6 ⟨rfl, hb6⟩
      have B6 : Hid (Below w.heap.size w y6) := Lib.hid (bl_then B5.out hb6)
      clear hb6
      go_wp2_with fail
      go_ret
      exact ⟨rfl, B6.out⟩
    · rw [hy] at t1 t2
      have g2 : decide (0 ≤ zv) = true := decide_eq_true (by have := t2 (by decide) (by decide); omega)
      clear t1 t2 bz
      have C1 : Hid (∀ w', Below w.heap.size w w' → Calls Try.prog 21 #[.slice A n k, .slice A2 n2 k2] w' fun e w'' => e = .returned (.int .i64 0) ∧ w' = w'') := Lib.hid fun w' h => by rw [← hx]; exact wcmp_any (Q1.out.below h) (Q2.out.below h)
      have C2 : Hid (∀ w', Below w.heap.size w w' → Calls Try.prog 21 #[.slice A2 n2 k2, .slice A3 n3 k3] w' fun e w'' => e = .returned (.int .i64 1) ∧ w' = w'') := Lib.hid fun w' h => by rw [← hy]; exact wcmp_any (Q2.out.below h) (Q3.out.below h)
      have C3 : Hid (∀ w', Below w.heap.size w w' → Calls Try.prog 21 #[.slice A n k, .slice A3 n3 k3] w' fun e w'' => e = .returned (.int .i64 zv) ∧ w' = w'') := Lib.hid fun w' h => by rw [← hz]; exact wcmp_any (Q1.out.below h) (Q3.out.below h)
      have C4 : Hid (∀ w', Below w.heap.size w w' → Calls Try.prog 21 #[.slice A2 n2 k2, .slice A n k] w' fun e w'' => e = .returned (.int .i64 0) ∧ w' = w'') := Lib.hid fun w' h => by rw [show (0 : Int) = cmpL x2 xs by rw [cmp_neg xs x2, hx] <;> rfl]; exact wcmp_any (Q2.out.below h) (Q1.out.below h)
      have C6 : Hid (∀ w', Below w.heap.size w w' → Calls Try.prog 23 #[.slice A n k, .slice A2 n2 k2] w' fun e w'' => e = .returned (.bool true) ∧ Below w'.heap.size w' w'') := Lib.hid fun w' h => by rw [show true = decide (xs = x2) by have e := cmp_zero xs x2; rw [hx] at e; simp at e; simp [e]]; exact ints_any (Q1.out.below h) (Q2.out.below h)
      clear hx hy hz
      go_enter Try.func5, Try.ntmps5
      go_wp2_with (go_at_call 21; first | (with_reducible refine (C1.out _ (Below.refl _ _)).mono ?_; rintro e w1 ⟨rfl, rfl⟩) | (with_reducible refine (C2.out _ (Below.refl _ _)).mono ?_; rintro e w1 ⟨rfl, rfl⟩) | (with_reducible refine (C3.out _ (Below.refl _ _)).mono ?_; rintro e w1 ⟨rfl, rfl⟩) | (with_reducible refine (C4.out _ (Below.refl _ _)).mono ?_; rintro e w1 ⟨rfl, rfl⟩))
      refine (C6.out _ (Below.refl _ _)).mono ?_
      rintro e wd ⟨rfl, hb⟩
      have S1 : Hid (RS w wd (.slice none 0 0) 0 []) := Lib.hid (RS.start hb)
      have S2 := Lib.hid S1.out.build
      clear hb
      go_wp2_with (at_builtin; refine wpList_pushG (by rfl) (.tmp 73) (.tmp 74) 22 rfl _ 3 Try.underlying22 II.out ⟨rfl, by decide⟩ _ 0 _ rfl S2.out.row A n k _ rfl (SA.out.below S2.out.bl) HL1.out S2.out.bl.size ?_)
      intro v1 u1 hgr
      have hs3 := S2.out.push (k := n) (M := xs) (by rw [Nat.zero_add]; exact hgr)
      rw [Nat.zero_add, List.nil_append] at hs3
      have S4 := Lib.hid (hs3.below (bl_alloc (Below.refl _ _) (.cells #[.int .i64 5] 3)))
      have HSRC := Lib.hid (Src.new (w := u1) (vs := #[.int .i64 5]) (t := 3) (size := 1) (by intro u hu; simp at hu; subst hu; rfl) rfl)
      clear hgr hs3
      go_wp2_with (at_builtin; refine wpList_pushG (by rfl) (.tmp 75) (.tmp 76) 22 rfl _ 3 Try.underlying22 II.out ⟨rfl, by decide⟩ _ n _ rfl S4.out.row (some ⟨u1.heap.size, 0, none⟩) 1 1 _ rfl HSRC.out HL2.out S4.out.bl.size ?_)
      intro v2 u2 hgr
      have hs5 := S4.out.push (M := [5]) hgr
      obtain ⟨A9, c9, hv9⟩ := hgr.val
      subst hv9
      have R9 := Lib.hid (ReadsI.of_row hs5.row HL2.out.1 HWF.out)
      have B5 := Lib.hid hs5.bl
      clear hgr hs5
      go_wp2_with fail
      refine (C5.out _ B5.out _ _ R9.out).mono ?_
      rintro e y5 ⟨rfl, rfl⟩
      go_wp2_with fail
      refine (awake8 _).mono ?_
      rintro e y6 ⟨rfl, hb6⟩
      have B6 : Hid (Below w.heap.size w y6) := Lib.hid (bl_then B5.out hb6)
      clear hb6
      go_wp2_with fail
      go_ret
      exact ⟨rfl, B6.out⟩
  · rw [hx] at t1 t2
    rcases byy with hy | hy | hy
    · clear t1 t2 bz
      have C1 : Hid (∀ w', Below w.heap.size w w' → Calls Try.prog 21 #[.slice A n k, .slice A2 n2 k2] w' fun e w'' => e = .returned (.int .i64 1) ∧ w' = w'') := Lib.hid fun w' h => by rw [← hx]; exact wcmp_any (Q1.out.below h) (Q2.out.below h)
      have C2 : Hid (∀ w', Below w.heap.size w w' → Calls Try.prog 21 #[.slice A2 n2 k2, .slice A3 n3 k3] w' fun e w'' => e = .returned (.int .i64 (-1)) ∧ w' = w'') := Lib.hid fun w' h => by rw [← hy]; exact wcmp_any (Q2.out.below h) (Q3.out.below h)
      have C3 : Hid (∀ w', Below w.heap.size w w' → Calls Try.prog 21 #[.slice A n k, .slice A3 n3 k3] w' fun e w'' => e = .returned (.int .i64 zv) ∧ w' = w'') := Lib.hid fun w' h => by rw [← hz]; exact wcmp_any (Q1.out.below h) (Q3.out.below h)
      have C4 : Hid (∀ w', Below w.heap.size w w' → Calls Try.prog 21 #[.slice A2 n2 k2, .slice A n k] w' fun e w'' => e = .returned (.int .i64 (-1)) ∧ w' = w'') := Lib.hid fun w' h => by rw [show ((-1) : Int) = cmpL x2 xs by rw [cmp_neg xs x2, hx] <;> rfl]; exact wcmp_any (Q2.out.below h) (Q1.out.below h)
      have C6 : Hid (∀ w', Below w.heap.size w w' → Calls Try.prog 23 #[.slice A n k, .slice A2 n2 k2] w' fun e w'' => e = .returned (.bool false) ∧ Below w'.heap.size w' w'') := Lib.hid fun w' h => by rw [show false = decide (xs = x2) by have e := cmp_zero xs x2; rw [hx] at e; simp at e; simp [e]]; exact ints_any (Q1.out.below h) (Q2.out.below h)
      clear hx hy hz
      go_enter Try.func5, Try.ntmps5
      go_wp2_with (go_at_call 21; first | (with_reducible refine (C1.out _ (Below.refl _ _)).mono ?_; rintro e w1 ⟨rfl, rfl⟩) | (with_reducible refine (C2.out _ (Below.refl _ _)).mono ?_; rintro e w1 ⟨rfl, rfl⟩) | (with_reducible refine (C3.out _ (Below.refl _ _)).mono ?_; rintro e w1 ⟨rfl, rfl⟩) | (with_reducible refine (C4.out _ (Below.refl _ _)).mono ?_; rintro e w1 ⟨rfl, rfl⟩))
      refine (C6.out _ (Below.refl _ _)).mono ?_
      rintro e wd ⟨rfl, hb⟩
      have S1 : Hid (RS w wd (.slice none 0 0) 0 []) := Lib.hid (RS.start hb)
      have S2 := Lib.hid S1.out.build
      clear hb
      go_wp2_with (at_builtin; refine wpList_pushG (by rfl) (.tmp 73) (.tmp 74) 22 rfl _ 3 Try.underlying22 II.out ⟨rfl, by decide⟩ _ 0 _ rfl S2.out.row A n k _ rfl (SA.out.below S2.out.bl) HL1.out S2.out.bl.size ?_)
      intro v1 u1 hgr
      have hs3 := S2.out.push (k := n) (M := xs) (by rw [Nat.zero_add]; exact hgr)
      rw [Nat.zero_add, List.nil_append] at hs3
      have S4 := Lib.hid (hs3.below (bl_alloc (Below.refl _ _) (.cells #[.int .i64 5] 3)))
      have HSRC := Lib.hid (Src.new (w := u1) (vs := #[.int .i64 5]) (t := 3) (size := 1) (by intro u hu; simp at hu; subst hu; rfl) rfl)
      clear hgr hs3
      go_wp2_with (at_builtin; refine wpList_pushG (by rfl) (.tmp 75) (.tmp 76) 22 rfl _ 3 Try.underlying22 II.out ⟨rfl, by decide⟩ _ n _ rfl S4.out.row (some ⟨u1.heap.size, 0, none⟩) 1 1 _ rfl HSRC.out HL2.out S4.out.bl.size ?_)
      intro v2 u2 hgr
      have hs5 := S4.out.push (M := [5]) hgr
      obtain ⟨A9, c9, hv9⟩ := hgr.val
      subst hv9
      have R9 := Lib.hid (ReadsI.of_row hs5.row HL2.out.1 HWF.out)
      have B5 := Lib.hid hs5.bl
      clear hgr hs5
      go_wp2_with fail
      refine (C5.out _ B5.out _ _ R9.out).mono ?_
      rintro e y5 ⟨rfl, rfl⟩
      go_wp2_with fail
      refine (awake8 _).mono ?_
      rintro e y6 ⟨rfl, hb6⟩
      have B6 : Hid (Below w.heap.size w y6) := Lib.hid (bl_then B5.out hb6)
      clear hb6
      go_wp2_with fail
      go_ret
      exact ⟨rfl, B6.out⟩
    · rw [hy] at t1 t2
      have g2 : decide (0 ≤ zv) = true := decide_eq_true (by have := t2 (by decide) (by decide); omega)
      clear t1 t2 bz
      have C1 : Hid (∀ w', Below w.heap.size w w' → Calls Try.prog 21 #[.slice A n k, .slice A2 n2 k2] w' fun e w'' => e = .returned (.int .i64 1) ∧ w' = w'') := Lib.hid fun w' h => by rw [← hx]; exact wcmp_any (Q1.out.below h) (Q2.out.below h)
      have C2 : Hid (∀ w', Below w.heap.size w w' → Calls Try.prog 21 #[.slice A2 n2 k2, .slice A3 n3 k3] w' fun e w'' => e = .returned (.int .i64 0) ∧ w' = w'') := Lib.hid fun w' h => by rw [← hy]; exact wcmp_any (Q2.out.below h) (Q3.out.below h)
      have C3 : Hid (∀ w', Below w.heap.size w w' → Calls Try.prog 21 #[.slice A n k, .slice A3 n3 k3] w' fun e w'' => e = .returned (.int .i64 zv) ∧ w' = w'') := Lib.hid fun w' h => by rw [← hz]; exact wcmp_any (Q1.out.below h) (Q3.out.below h)
      have C4 : Hid (∀ w', Below w.heap.size w w' → Calls Try.prog 21 #[.slice A2 n2 k2, .slice A n k] w' fun e w'' => e = .returned (.int .i64 (-1)) ∧ w' = w'') := Lib.hid fun w' h => by rw [show ((-1) : Int) = cmpL x2 xs by rw [cmp_neg xs x2, hx] <;> rfl]; exact wcmp_any (Q2.out.below h) (Q1.out.below h)
      have C6 : Hid (∀ w', Below w.heap.size w w' → Calls Try.prog 23 #[.slice A n k, .slice A2 n2 k2] w' fun e w'' => e = .returned (.bool false) ∧ Below w'.heap.size w' w'') := Lib.hid fun w' h => by rw [show false = decide (xs = x2) by have e := cmp_zero xs x2; rw [hx] at e; simp at e; simp [e]]; exact ints_any (Q1.out.below h) (Q2.out.below h)
      clear hx hy hz
      go_enter Try.func5, Try.ntmps5
      go_wp2_with (go_at_call 21; first | (with_reducible refine (C1.out _ (Below.refl _ _)).mono ?_; rintro e w1 ⟨rfl, rfl⟩) | (with_reducible refine (C2.out _ (Below.refl _ _)).mono ?_; rintro e w1 ⟨rfl, rfl⟩) | (with_reducible refine (C3.out _ (Below.refl _ _)).mono ?_; rintro e w1 ⟨rfl, rfl⟩) | (with_reducible refine (C4.out _ (Below.refl _ _)).mono ?_; rintro e w1 ⟨rfl, rfl⟩))
      refine (C6.out _ (Below.refl _ _)).mono ?_
      rintro e wd ⟨rfl, hb⟩
      have S1 : Hid (RS w wd (.slice none 0 0) 0 []) := Lib.hid (RS.start hb)
      have S2 := Lib.hid S1.out.build
      clear hb
      go_wp2_with (at_builtin; refine wpList_pushG (by rfl) (.tmp 73) (.tmp 74) 22 rfl _ 3 Try.underlying22 II.out ⟨rfl, by decide⟩ _ 0 _ rfl S2.out.row A n k _ rfl (SA.out.below S2.out.bl) HL1.out S2.out.bl.size ?_)
      intro v1 u1 hgr
      have hs3 := S2.out.push (k := n) (M := xs) (by rw [Nat.zero_add]; exact hgr)
      rw [Nat.zero_add, List.nil_append] at hs3
      have S4 := Lib.hid (hs3.below (bl_alloc (Below.refl _ _) (.cells #[.int .i64 5] 3)))
      have HSRC := Lib.hid (Src.new (w := u1) (vs := #[.int .i64 5]) (t := 3) (size := 1) (by intro u hu; simp at hu; subst hu; rfl) rfl)
      clear hgr hs3
      go_wp2_with (at_builtin; refine wpList_pushG (by rfl) (.tmp 75) (.tmp 76) 22 rfl _ 3 Try.underlying22 II.out ⟨rfl, by decide⟩ _ n _ rfl S4.out.row (some ⟨u1.heap.size, 0, none⟩) 1 1 _ rfl HSRC.out HL2.out S4.out.bl.size ?_)
      intro v2 u2 hgr
      have hs5 := S4.out.push (M := [5]) hgr
      obtain ⟨A9, c9, hv9⟩ := hgr.val
      subst hv9
      have R9 := Lib.hid (ReadsI.of_row hs5.row HL2.out.1 HWF.out)
      have B5 := Lib.hid hs5.bl
      clear hgr hs5
      go_wp2_with fail
      refine (C5.out _ B5.out _ _ R9.out).mono ?_
      rintro e y5 ⟨rfl, rfl⟩
      go_wp2_with fail
      refine (awake8 _).mono ?_
      rintro e y6 ⟨rfl, hb6⟩
      have B6 : Hid (Below w.heap.size w y6) := Lib.hid (bl_then B5.out hb6)
      clear hb6
      go_wp2_with fail
      go_ret
      exact ⟨rfl, B6.out⟩
    · rw [hy] at t1 t2
      have g2 : decide (0 ≤ zv) = true := decide_eq_true (by have := t2 (by decide) (by decide); omega)
      clear t1 t2 bz
      have C1 : Hid (∀ w', Below w.heap.size w w' → Calls Try.prog 21 #[.slice A n k, .slice A2 n2 k2] w' fun e w'' => e = .returned (.int .i64 1) ∧ w' = w'') := Lib.hid fun w' h => by rw [← hx]; exact wcmp_any (Q1.out.below h) (Q2.out.below h)
      have C2 : Hid (∀ w', Below w.heap.size w w' → Calls Try.prog 21 #[.slice A2 n2 k2, .slice A3 n3 k3] w' fun e w'' => e = .returned (.int .i64 1) ∧ w' = w'') := Lib.hid fun w' h => by rw [← hy]; exact wcmp_any (Q2.out.below h) (Q3.out.below h)
      have C3 : Hid (∀ w', Below w.heap.size w w' → Calls Try.prog 21 #[.slice A n k, .slice A3 n3 k3] w' fun e w'' => e = .returned (.int .i64 zv) ∧ w' = w'') := Lib.hid fun w' h => by rw [← hz]; exact wcmp_any (Q1.out.below h) (Q3.out.below h)
      have C4 : Hid (∀ w', Below w.heap.size w w' → Calls Try.prog 21 #[.slice A2 n2 k2, .slice A n k] w' fun e w'' => e = .returned (.int .i64 (-1)) ∧ w' = w'') := Lib.hid fun w' h => by rw [show ((-1) : Int) = cmpL x2 xs by rw [cmp_neg xs x2, hx] <;> rfl]; exact wcmp_any (Q2.out.below h) (Q1.out.below h)
      have C6 : Hid (∀ w', Below w.heap.size w w' → Calls Try.prog 23 #[.slice A n k, .slice A2 n2 k2] w' fun e w'' => e = .returned (.bool false) ∧ Below w'.heap.size w' w'') := Lib.hid fun w' h => by rw [show false = decide (xs = x2) by have e := cmp_zero xs x2; rw [hx] at e; simp at e; simp [e]]; exact ints_any (Q1.out.below h) (Q2.out.below h)
      clear hx hy hz
      go_enter Try.func5, Try.ntmps5
      go_wp2_with (go_at_call 21; first | (with_reducible refine (C1.out _ (Below.refl _ _)).mono ?_; rintro e w1 ⟨rfl, rfl⟩) | (with_reducible refine (C2.out _ (Below.refl _ _)).mono ?_; rintro e w1 ⟨rfl, rfl⟩) | (with_reducible refine (C3.out _ (Below.refl _ _)).mono ?_; rintro e w1 ⟨rfl, rfl⟩) | (with_reducible refine (C4.out _ (Below.refl _ _)).mono ?_; rintro e w1 ⟨rfl, rfl⟩))
      refine (C6.out _ (Below.refl _ _)).mono ?_
      rintro e wd ⟨rfl, hb⟩
      have S1 : Hid (RS w wd (.slice none 0 0) 0 []) := Lib.hid (RS.start hb)
      have S2 := Lib.hid S1.out.build
      clear hb
      go_wp2_with (at_builtin; refine wpList_pushG (by rfl) (.tmp 73) (.tmp 74) 22 rfl _ 3 Try.underlying22 II.out ⟨rfl, by decide⟩ _ 0 _ rfl S2.out.row A n k _ rfl (SA.out.below S2.out.bl) HL1.out S2.out.bl.size ?_)
      intro v1 u1 hgr
      have hs3 := S2.out.push (k := n) (M := xs) (by rw [Nat.zero_add]; exact hgr)
      rw [Nat.zero_add, List.nil_append] at hs3
      have S4 := Lib.hid (hs3.below (bl_alloc (Below.refl _ _) (.cells #[.int .i64 5] 3)))
      have HSRC := Lib.hid (Src.new (w := u1) (vs := #[.int .i64 5]) (t := 3) (size := 1) (by intro u hu; simp at hu; subst hu; rfl) rfl)
      clear hgr hs3
      go_wp2_with (at_builtin; refine wpList_pushG (by rfl) (.tmp 75) (.tmp 76) 22 rfl _ 3 Try.underlying22 II.out ⟨rfl, by decide⟩ _ n _ rfl S4.out.row (some ⟨u1.heap.size, 0, none⟩) 1 1 _ rfl HSRC.out HL2.out S4.out.bl.size ?_)
      intro v2 u2 hgr
      have hs5 := S4.out.push (M := [5]) hgr
      obtain ⟨A9, c9, hv9⟩ := hgr.val
      subst hv9
      have R9 := Lib.hid (ReadsI.of_row hs5.row HL2.out.1 HWF.out)
      have B5 := Lib.hid hs5.bl
      clear hgr hs5
      go_wp2_with fail
      refine (C5.out _ B5.out _ _ R9.out).mono ?_
      rintro e y5 ⟨rfl, rfl⟩
      go_wp2_with fail
      refine (awake8 _).mono ?_
      rintro e y6 ⟨rfl, hb6⟩
      have B6 : Hid (Below w.heap.size w y6) := Lib.hid (bl_then B5.out hb6)
      clear hb6
      go_wp2_with fail
      go_ret
      exact ⟨rfl, B6.out⟩
theorem walk {W : World} (A : Option Addr) (n k : Nat) (xs : List Int) (hk : ReadsI W A n k xs) (A2 : Option Addr) (n2 k2 : Nat) (x2 : List Int) (q2 : ReadsI W A2 n2 k2 x2) (A3 : Option Addr) (n3 k3 : Nat) (x3 : List Int) (q3 : ReadsI W A3 n3 k3 x3) :
    Calls Try.prog 5 #[.slice A n k, .slice A2 n2 k2, .slice A3 n3 k3] W fun e w' => e = .returned (.bool true) ∧ Below W.heap.size W w' := by
  have s1 := hk.small
  have s2 := q2.small
  have s3 := q3.small
  unfold maxLen at s1 s2 s3
  by_cases h : n ≤ 30 ∧ n2 ≤ 30 ∧ n3 ≤ 30
  · exact walk_ins A n k xs A2 n2 k2 x2 A3 n3 k3 x3 W h.1 h.2.1 h.2.2 hk q2 q3
  · exact walk_out A n k A2 n2 k2 A3 n3 k3 (by omega) (by omega) (by omega) W h
set_option maxRecDepth 100000 in
theorem lifted (os : Os) (started : os.Started) (H : Type) (enc : TypeId × Value → H) :
    ReturnsInHanded {} Try.checked os 5 .any (Rows.walkOrderSpec.pre6 enc Try.prog Try.f5 Rows.walkOrderRow.domain false) (Rows.walkOrderSpec.post enc Try.prog Try.f5 false true false false) := by
  refine returnsInHanded_of_change (C := Try.checked) own started (by kernel_rfl) Try.func5
    (ChangeSpec.witness6 (enc := enc) (C := Try.checked) false ⟨#[], #[.slice none 0 0, .slice none 0 0, .slice none 0 0], []⟩ 8 (by kernel_rfl) (by kernel_rfl) (by kernel_rfl) (by kernel_rfl)) ?_
  intro W base args ds gs before hval0 hW hcnd _
  have hval : ∀ (j : Nat) t v, Try.f5.params[j]? = some t → args[j]? = some v → Value.okWide Try.prog W .any base t v := hval0
  have hW' := hW
  obtain ⟨p, q, hA0, hV, rfl, hfz, hnd⟩ := hW
  have hA : DataW.TrodAll enc Try.prog W 0 (fun _ => true) true Try.f5.params.toList args.toList ds p := hA0
  rw [Try.params5] at hA hval
  obtain ⟨v0, vs0, d0, ds0, p0, q0, hargs, rfl, rfl, h0, r0⟩ := trodAll_cons hA
  obtain ⟨v1, vs1, d1, ds1, p1, q1, rfl, rfl, rfl, h1, r1⟩ := trodAll_cons r0
  obtain ⟨v2, vs2, d2, ds2, p2, q2, rfl, rfl, rfl, h2, r2⟩ := trodAll_cons r1
  obtain ⟨rfl, rfl, rfl⟩ := trodAll_nil r2
  obtain rfl : args = #[v0, v1, v2] := by cases args; simp_all
  obtain ⟨rfl, rfl⟩ := trodVars_none hV
  obtain ⟨a0, n0, c0, xs0, rfl, k0⟩ := open_reads (hval 0 22 v0 rfl rfl) h0
  obtain ⟨a1, n1, c1, xs1, rfl, k1⟩ := open_reads (hval 1 22 v1 rfl rfl) h1
  obtain ⟨a2, n2, c2, xs2, rfl, k2⟩ := open_reads (hval 2 22 v2 rfl rfl) h2
  refine (walk a0 n0 c0 xs0 k0 a1 n1 c1 xs1 k1 a2 n2 c2 xs2 k2).mono fun e W' ⟨he, hb⟩ => ?_
  subst he
  exact ⟨_, rfl, post_law hW' hb rfl rfl rfl rfl rfl (by rw [Try.params5]; exact readable_all (by kernel_rfl))⟩
theorem over : Rows.walkOrderRow.holds Try.pinned (OpenSpec.ofChange Rows.walkOrderSpec) :=
  OpenClaim.holds_of_wide 5 Try.f5 rfl rfl rfl rfl rfl rfl rfl ⟨rfl, rfl, rfl, rfl, rfl⟩ rfl rfl rfl rfl rfl (by kernel_rfl) Try.func5 (by kernel_rfl)
    (of_decide_eq_true (by kernel_rfl)) (by unfold Func.isWrapper; first | (rw [if_pos (by decide +kernel)]; kernel_rfl) | (rw [if_neg (by decide +kernel)]; exact ⟨rfl, rfl⟩))
    (fun os started H enc _ => lifted os started H enc)
theorem proved : Rows.WalkOrderSaid := over
#print axioms proved
end Go.Proofs.Ytkkaidliocadnaa.walkOrder
