/- DistAll: DistUse, Shut4, AwakeE, one behind the other. -/
import Derived.Test.YtjopiefojicblaaDistMem
import Derived.Test.YtjopiefojicblaaDistRef
import Derived.Test.YtjopiefojicblaaStrolls
import Derived.Test.YtjopiefojicblaaDistBase
import Derived.Test.YtjopiefojicblaaMays
import Derived.Test.YtjopiefojicblaaRefs
/- dist as its callers get it: To, From, Between, whatever the numbers are; the document's. -/
set_option linter.unusedVariables false
set_option linter.unusedSimpArgs false
namespace Go.Proofs.Ytjopiefojicblaa
open Go.ChangeShapes Go.WideShapes Go.ChangeAt Go.RowKit HeapP DistP RowP
theorem inv_small {N : Nat} {src : Nat → Prop} {succ : Nat → List Nat} {W : Nat → Nat → Int} (hn : Net N succ W) (hW : ∀ y x, W y x ≤ 65535) (n : Nat) : ∀ (L : List Int) (S : List It), L.length = N → negs L ≤ n → Inv N src succ W (dl L) S (fun _ _ => True) → Small N L → ∃ L', L'.length = N ∧ IsD N src succ W (dl L') ∧ Small N L' := by
  induction n with
  | zero =>
    intro L S hl hg h hs
    cases S with
    | nil => exact ⟨L, hl, h.final, hs⟩
    | cons z S => have := (small_pop hl hW h hs).2.1; omega
  | succ n ih =>
    intro L S hl hg h hs
    cases S with
    | nil => exact ⟨L, hl, h.final, hs⟩
    | cons z S =>
      obtain ⟨s1, s2, s3, s4⟩ := small_pop hl hW h hs
      have hz := h.inN z (List.mem_cons_self ..)
      have hr := h.round hn
      rw [← dl_set (by omega)] at hr
      exact ih _ _ (by rw [List.length_set]; exact hl) (by omega) hr s1
theorem dist_bd {N : Nat} {src : Nat → Prop} {succ : Nat → List Nat} {W : Nat → Nat → Int} (hn : Net N succ W) (hW : ∀ y x, W y x ≤ 65535) (hN : N ≤ 512) : ∀ x ∈ distL N src succ W, -1 ≤ x ∧ x ≤ 33553920 := by
  classical
  obtain ⟨L, l1, l2, l3⟩ := inv_small (src := src) hn hW N (List.replicate N (-1)) (seeds ((List.range N).filter fun x => decide (src x))) (by simp) (by rw [negs_start]; exact Nat.le_refl _) (seeds_inv fun x => by simp) (small_start N)
  rw [← distL_eq hn l1 l2]
  intro x hx
  obtain ⟨i, hi, rfl⟩ := List.getElem_of_mem hx
  have e : dl L i = L[i] := by unfold dl; rw [List.getD_eq_getElem?_getD, List.getElem?_eq_getElem hi]; rfl
  have h1 := l3.le i (by omega)
  have h2 := l2.d i (by omega)
  have h3 := negs_le (L := L)
  rw [e] at h1 h2
  omega
theorem toD_bd {ns bs : Bs} {es : Es} (h : mayB ns es bs = true) (cl : List Bool) (v : Int) : ∀ x ∈ toD es bs cl v, -1 ≤ x ∧ x ≤ 33553920 := dist_bd (to_net h cl) (toW_le h) (mayB_parts h).2.1.2.2.1
theorem fromD_bd {ns bs : Bs} {es : Es} (h : mayB ns es bs = true) (cl : List Bool) (e : Nat) : ∀ x ∈ fromD es bs cl e, -1 ≤ x ∧ x ≤ 33553920 := dist_bd (from_net h cl) (fromW_le h) (mayB_parts h).2.1.2.2.1
theorem dl_bd {L : List Int} (h : ∀ x ∈ L, -1 ≤ x ∧ x ≤ 33553920) (i : Nat) : -1 ≤ dl L i ∧ dl L i ≤ 33553920 := by
  unfold dl
  rw [List.getD_eq_getElem?_getD]
  rcases Nat.lt_or_ge i L.length with hi | hi
  · rw [List.getElem?_eq_getElem hi]; exact h _ (List.getElem_mem hi)
  · rw [List.getElem?_eq_none hi]; simp
theorem wf_bdL {L : List Int} (h : ∀ x ∈ L, -1 ≤ x ∧ x ≤ 33553920) : ∀ x ∈ L, (Lit.int .i64 x).wf = true := fun x hx => wf_of (by have := h x hx; omega) (by have := h x hx; omega)
/-- a row that a call gave -/
def Given (w w' : World) (A : Option Addr) (c : Nat) (L : List Int) : Prop := ReadsI w' A L.length c L ∧ (∀ b o, A = some ⟨b, o, none⟩ → w.heap.size ≤ b ∧ b < w'.heap.size) ∧ OwnS A L.length c
theorem given_nil (w w' : World) : Given w w' none 0 [] := ⟨⟨rfl, by decide, fun h => by simp at h, by simp⟩, (fun b o e => by cases e), .inl ⟨rfl, rfl, rfl⟩⟩
theorem given_row {w w' : World} {g N : Nat} {L : List Int} (hl : L.length = N) (hN : N ≤ 512) (h : IRow w' g N N L) (hg : w.heap.size ≤ g) (hw : ∀ x ∈ L, (Lit.int .i64 x).wf = true) : Given w w' (some ⟨g, 0, none⟩) N L := by
  subst hl
  exact ⟨ReadsI.of_row h (by unfold maxLen; omega) hw, fun b o e => by injection e with e; injection e with e1 e2 _; subst e1; exact ⟨hg, h.lt⟩, .inr ⟨g, rfl, Nat.le_refl _, by unfold maxLen; omega⟩⟩
theorem inB_cases {v : Int} {n : Nat} : (∃ k : Nat, v = (k : Int) ∧ k < n ∧ inB 0 v ((n : Int) - 1) = true) ∨ ((v < 0 ∨ (n : Int) ≤ v) ∧ inB 0 v ((n : Int) - 1) = false) := by
  cases h : inB 0 v ((n : Int) - 1)
  · right
    unfold inB at h
    simp only [Bool.and_eq_false_iff, decide_eq_false_iff_not] at h
    exact ⟨by omega, rfl⟩
  · left
    have h' := h
    unfold inB at h'
    simp only [Bool.and_eq_true, decide_eq_true_eq] at h'
    exact ⟨v.toNat, by omega, by omega, rfl⟩
set_option maxRecDepth 100000 in
set_option maxHeartbeats 4000000 in
theorem to_at {w : World} {B E t p : Nat} {ns bs : List (Int × Int)} {es : List (Int × Int × Int)} (h : TurnsAt w B E t p ns es bs) {A : Option Addr} {n c : Nat} {cl : List Bool} (hc : ReadsB w A n c cl) (h1 : 1 ≤ es.length) (v : Int) :
    Calls Try.prog 19 #[.pointer (some ⟨t, 0, none⟩), .int .i64 v, .slice A n c] w fun r w' =>
      ∃ A' c', r = .returned (.slice A' (toT ns es bs cl v).length c') ∧ Given w w' A' c' (toT ns es bs cl v) ∧ Below w.heap.size w w' := by
  obtain ⟨tb, R, hT⟩ := h
  have hok := hT.g.bd.1
  have hs := (mayB_parts hok).2.1
  rcases inB_cases (v := v) (n := ns.length) with ⟨k, rfl, hk, hin⟩ | ⟨hout, hin⟩
  · have e : toT ns es bs cl (k : Int) = toD es bs cl (k : Int) := by unfold toT; rw [if_pos hin]
    rw [e]
    have hl := (toD_is hok cl (k : Int)).1
    refine (to_in ⟨tb, R, hT⟩ hc h1 hk).mono ?_
    rintro e2 w' ⟨g, rfl, hr, hg, hb⟩
    exact ⟨some ⟨g, 0, none⟩, es.length, by rw [hl], given_row hl hs.2.2.1 hr hg (wf_bdL (toD_bd hok cl _)), hb⟩
  · have e : toT ns es bs cl v = [] := by unfold toT; rw [if_neg (by rw [hin]; simp)]
    rw [e]
    have c0 : w.cell? ⟨t, 0, none⟩ = some (.pointer (some ⟨p, 0, none⟩)) := block_cell hT.ht (j := 0) rfl
    have HG := Lib.hid hT.g
    clear hT hc h1 hok hs hin e
    by_cases h0 : v < 0
    · clear hout
      go_enter Try.func19, Try.ntmps19
      go_wp2_with fail
      go_ret
      exact ⟨none, 0, rfl, given_nil _ _, Below.refl _ _⟩
    · have h2 : (ns.length : Int) ≤ v := by omega
      clear hout
      go_enter Try.func19, Try.ntmps19
      go_wp2_with (go_at_call 46; refine (nodes_at HG.out).mono ?_; rintro e w' ⟨rfl, rfl⟩)
      go_ret
      exact ⟨none, 0, rfl, given_nil _ _, Below.refl _ _⟩
set_option maxRecDepth 100000 in
set_option maxHeartbeats 4000000 in
theorem from_at {w : World} {B E t p : Nat} {ns bs : List (Int × Int)} {es : List (Int × Int × Int)} (h : TurnsAt w B E t p ns es bs) {A : Option Addr} {n c : Nat} {cl : List Bool} (hc : ReadsB w A n c cl) (a : Int) :
    Calls Try.prog 23 #[.pointer (some ⟨t, 0, none⟩), .int .i64 a, .slice A n c] w fun r w' =>
      ∃ A' c', r = .returned (.slice A' (fromT es bs cl a).length c') ∧ Given w w' A' c' (fromT es bs cl a) ∧ Below w.heap.size w w' := by
  obtain ⟨tb, R, hT⟩ := h
  have hok := hT.g.bd.1
  have hs := (mayB_parts hok).2.1
  rcases inB_cases (v := a) (n := es.length) with ⟨k, rfl, hk, hin⟩ | ⟨hout, hin⟩
  · have e : fromT es bs cl (k : Int) = fromD es bs cl k := by unfold fromT; rw [if_pos hin, Int.toNat_natCast]
    rw [e]
    have hl := (fromD_is hok cl k).1
    refine (from_in ⟨tb, R, hT⟩ hc hk).mono ?_
    rintro e2 w' ⟨g, rfl, hr, hg, hb⟩
    exact ⟨some ⟨g, 0, none⟩, es.length, by rw [hl], given_row hl hs.2.2.1 hr hg (wf_bdL (fromD_bd hok cl _)), hb⟩
  · have e : fromT es bs cl a = [] := by unfold fromT; rw [if_neg (by rw [hin]; simp)]
    rw [e]
    have c0 : w.cell? ⟨t, 0, none⟩ = some (.pointer (some ⟨p, 0, none⟩)) := block_cell hT.ht (j := 0) rfl
    have HG := Lib.hid hT.g
    clear hT hc hok hs hin e
    by_cases h0 : a < 0
    · clear hout
      go_enter Try.func23, Try.ntmps23
      go_wp2_with fail
      go_ret
      exact ⟨none, 0, rfl, given_nil _ _, Below.refl _ _⟩
    · have h2 : (es.length : Int) ≤ a := by omega
      clear hout
      go_enter Try.func23, Try.ntmps23
      go_wp2_with (go_at_call 58; refine (edges_at HG.out).mono ?_; rintro e w' ⟨rfl, rfl⟩)
      go_ret
      exact ⟨none, 0, rfl, given_nil _ _, Below.refl _ _⟩
set_option maxRecDepth 100000 in
set_option maxHeartbeats 4000000 in
theorem to4_at {w : World} {A1 A2 A3 : Option Addr} {n3 c1 c2 c3 : Nat} {ns bs : List (Int × Int)} {es : List (Int × Int × Int)} (h : GR w A1 A2 A3 ns.length es.length n3 c1 c2 c3 ns es bs) (hok : mayB ns es bs = true) {A : Option Addr} {n c : Nat} {cl : List Bool} (hc : ReadsB w A n c cl) (v : Int) :
    Calls Try.prog 20 #[.agg #[.slice A1 ns.length c1, .slice A2 es.length c2, .slice A3 n3 c3], .int .i64 v, .slice A n c] w fun r w' =>
      ∃ A' c', r = .returned (.slice A' (toT ns es bs cl v).length c') ∧ Given w w' A' c' (toT ns es bs cl v) ∧ Below w.heap.size w w' := by
  have hs := (mayB_parts hok).2.1
  rcases inB_cases (v := v) (n := ns.length) with ⟨k, rfl, hk, hin⟩ | ⟨hout, hin⟩
  · have e : toT ns es bs cl (k : Int) = toD es bs cl (k : Int) := by unfold toT; rw [if_pos hin]
    rw [e]
    have hl := (toD_is hok cl (k : Int)).1
    refine (to4_in h hok hc hk).mono ?_
    rintro e2 w' ⟨g, rfl, hr, hg, hb⟩
    exact ⟨some ⟨g, 0, none⟩, es.length, by rw [hl], given_row hl hs.2.2.1 hr hg (wf_bdL (toD_bd hok cl _)), hb⟩
  · have e : toT ns es bs cl v = [] := by unfold toT; rw [if_neg (by rw [hin]; simp)]
    rw [e]
    have hnd := fun w' : World => node4_any (A1 := A1) (A2 := A2) (A3 := A3) (n1 := ns.length) (n2 := es.length) (c1 := c1) (c2 := c2) (n3 := n3) (c3 := c3) (by unfold maxLen; omega) v w'
    rw [hin] at hnd
    have HND := Lib.hid hnd
    clear h hok hc hs hin hout e hnd
    go_enter Try.func20, Try.ntmps20
    go_wp2_with fail
    refine (HND.out _).mono ?_
    rintro e w1 ⟨rfl, hb⟩
    have HB := Lib.hid (bl_then (bl_alloc (Below.refl _ _) _) hb)
    clear hb
    go_wp2_with fail
    go_ret
    exact ⟨none, 0, rfl, given_nil _ _, HB.out⟩
set_option maxRecDepth 100000 in
set_option maxHeartbeats 4000000 in
theorem from4_at {w : World} {A1 A2 A3 : Option Addr} {n3 c1 c2 c3 : Nat} {ns bs : List (Int × Int)} {es : List (Int × Int × Int)} (h : GR w A1 A2 A3 ns.length es.length n3 c1 c2 c3 ns es bs) (hok : mayB ns es bs = true) {A : Option Addr} {n c : Nat} {cl : List Bool} (hc : ReadsB w A n c cl) (a : Int) :
    Calls Try.prog 24 #[.agg #[.slice A1 ns.length c1, .slice A2 es.length c2, .slice A3 n3 c3], .int .i64 a, .slice A n c] w fun r w' =>
      ∃ A' c', r = .returned (.slice A' (fromT es bs cl a).length c') ∧ Given w w' A' c' (fromT es bs cl a) ∧ Below w.heap.size w w' := by
  have hs := (mayB_parts hok).2.1
  rcases inB_cases (v := a) (n := es.length) with ⟨k, rfl, hk, hin⟩ | ⟨hout, hin⟩
  · have e : fromT es bs cl (k : Int) = fromD es bs cl k := by unfold fromT; rw [if_pos hin, Int.toNat_natCast]
    rw [e]
    have hl := (fromD_is hok cl k).1
    refine (from4_in h hok hc hk).mono ?_
    rintro e2 w' ⟨g, rfl, hr, hg, hb⟩
    exact ⟨some ⟨g, 0, none⟩, es.length, by rw [hl], given_row hl hs.2.2.1 hr hg (wf_bdL (fromD_bd hok cl _)), hb⟩
  · have e : fromT es bs cl a = [] := by unfold fromT; rw [if_neg (by rw [hin]; simp)]
    rw [e]
    have hnd := fun w' : World => edge4_c (A1 := A1) (A2 := A2) (A3 := A3) (n1 := ns.length) (n2 := es.length) (c1 := c1) (c2 := c2) (n3 := n3) (c3 := c3) (by unfold maxLen; omega) a w'
    rw [hin] at hnd
    have HND := Lib.hid hnd
    clear h hok hc hs hin hout e hnd
    go_enter Try.func24, Try.ntmps24
    go_wp2_with fail
    refine (HND.out _).mono ?_
    rintro e w1 ⟨rfl, hb⟩
    have HB := Lib.hid (bl_then (bl_alloc (Below.refl _ _) _) hb)
    clear hb
    go_wp2_with fail
    go_ret
    exact ⟨none, 0, rfl, given_nil _ _, HB.out⟩
/-- how far a node is from an edge; -1: there is no way -/
noncomputable def btwT (ns : Bs) (es : Es) (bs : Bs) (cl : List Bool) (e v : Int) : Int := if inB 0 e ((es.length : Int) - 1) = true ∧ inB 0 v ((ns.length : Int) - 1) = true then dl (toD es bs cl v) e.toNat else -1
theorem btw_bd {ns bs : Bs} {es : Es} (h : mayB ns es bs = true) (cl : List Bool) (e v : Int) : -1 ≤ btwT ns es bs cl e v ∧ btwT ns es bs cl e v ≤ 33553920 := by
  unfold btwT
  split
  · exact dl_bd (toD_bd h cl v) _
  · omega
def max0 (x : Int) : Int := if 0 ≤ x then x else 0
theorem dl_d {ns bs : Bs} {es : Es} (h : mayB ns es bs = true) (cl : List Bool) (v : Int) {e : Nat} (he : e < es.length) : 0 ≤ dl (toD es bs cl v) e ∨ dl (toD es bs cl v) e = -1 := (toD_is h cl v).2.d e he
set_option maxRecDepth 100000 in
set_option maxHeartbeats 4000000 in
theorem btw_at {w : World} {B E t p : Nat} {ns bs : List (Int × Int)} {es : List (Int × Int × Int)} (h : TurnsAt w B E t p ns es bs) {A : Option Addr} {n c : Nat} {cl : List Bool} (hc : ReadsB w A n c cl) (h1 : 1 ≤ es.length) (e v : Int) :
    Calls Try.prog 21 #[.pointer (some ⟨t, 0, none⟩), .int .i64 e, .int .i64 v, .slice A n c] w fun r w' => r = .returned (.tuple #[.int .i64 (max0 (btwT ns es bs cl e v)), .bool (decide (0 ≤ btwT ns es bs cl e v))]) ∧ Below w.heap.size w w' := by
  have hto := to_at h hc h1 v
  obtain ⟨tb, R, hT⟩ := h
  have hok := hT.g.bd.1
  have hs := (mayB_parts hok).2.1
  have HTO := Lib.hid hto
  clear hT hc hto
  rcases inB_cases (v := v) (n := ns.length) with ⟨k, rfl, hk, hin⟩ | ⟨hout, hin⟩
  · have et : toT ns es bs cl (k : Int) = toD es bs cl (k : Int) := by unfold toT; rw [if_pos hin]
    have hl := (toD_is hok cl (k : Int)).1
    rw [et, hl] at HTO
    rcases inB_cases (v := e) (n := es.length) with ⟨q, rfl, hq, hin2⟩ | ⟨hout2, hin2⟩
    · have eb : btwT ns es bs cl (q : Int) (k : Int) = dl (toD es bs cl (k : Int)) q := by unfold btwT; rw [if_pos ⟨hin2, hin⟩, Int.toNat_natCast]
      rw [eb]
      have hd := dl_d hok cl (k : Int) hq
      have hg := dl_get (L := toD es bs cl (k : Int)) (x := q) (by omega)
      obtain ⟨D, hD⟩ : ∃ D, D = dl (toD es bs cl (k : Int)) q := ⟨_, rfl⟩
      rw [← hD] at hd hg
      rw [← hD]
      have HGG := Lib.hid hg
      have HQ := Lib.hid hq
      have q0 : (0 : Int) ≤ (q : Int) := by omega
      have q1 : (q : Int) < (es.length : Int) := by omega
      clear et hl eb hg hin hin2 hD
      rcases hd with hd | hd
      · have e1 : decide (0 ≤ D) = true := decide_eq_true hd
        have e2 : max0 D = D := by unfold max0; rw [if_pos hd]
        have e3 : ¬ D < 0 := by omega
        rw [e1, e2]
        clear e1 e2 hd
        go_enter Try.func21, Try.ntmps21
        go_wp2_with fail
        refine HTO.out.mono ?_
        rintro r w1 ⟨A', c', rfl, hg, hb⟩
        obtain ⟨b, o, rfl, hcell⟩ := hg.1.cell (by have := (toD_is hok cl (k : Int)).1; omega)
        have d0 := hcell q (by have := (toD_is hok cl (k : Int)).1; omega)
        rw [HGG.out] at d0
        have HB := Lib.hid hb
        clear hg hcell hb hok hs
        go_wp2_with fail
        go_ret2
        exact ⟨rfl, HB.out⟩
      · have e1 : decide (0 ≤ D) = false := decide_eq_false (by omega)
        have e2 : max0 D = 0 := by unfold max0; rw [if_neg (by omega)]
        have e3 : D < 0 := by omega
        rw [e1, e2]
        clear e1 e2 hd
        go_enter Try.func21, Try.ntmps21
        go_wp2_with fail
        refine HTO.out.mono ?_
        rintro r w1 ⟨A', c', rfl, hg, hb⟩
        obtain ⟨b, o, rfl, hcell⟩ := hg.1.cell (by have := (toD_is hok cl (k : Int)).1; omega)
        have d0 := hcell q (by have := (toD_is hok cl (k : Int)).1; omega)
        rw [HGG.out] at d0
        have HB := Lib.hid hb
        clear hg hcell hb hok hs
        go_wp2_with fail
        go_ret2
        exact ⟨rfl, HB.out⟩
    · have eb : btwT ns es bs cl e (k : Int) = -1 := by unfold btwT; rw [if_neg (by rw [hin2]; simp)]
      rw [eb]
      have e1 : decide ((0 : Int) ≤ -1) = false := by decide
      have e2 : max0 (-1) = 0 := by decide
      rw [e1, e2]
      clear et hl eb hin hin2 e1 e2
      by_cases h0 : e < 0
      · clear hout2
        go_enter Try.func21, Try.ntmps21
        go_wp2_with fail
        refine HTO.out.mono ?_
        rintro r w1 ⟨A', c', rfl, hg, hb⟩
        have HB := Lib.hid hb
        clear hg hb hok hs
        go_wp2_with fail
        go_ret2
        exact ⟨rfl, HB.out⟩
      · have h2 : (es.length : Int) ≤ e := by omega
        clear hout2
        go_enter Try.func21, Try.ntmps21
        go_wp2_with fail
        refine HTO.out.mono ?_
        rintro r w1 ⟨A', c', rfl, hg, hb⟩
        have HB := Lib.hid hb
        clear hg hb hok hs
        go_wp2_with fail
        go_ret2
        exact ⟨rfl, HB.out⟩
  · have et : toT ns es bs cl v = [] := by unfold toT; rw [if_neg (by rw [hin]; simp)]
    rw [et] at HTO
    have eb : btwT ns es bs cl e v = -1 := by unfold btwT; rw [if_neg (by rw [hin]; simp)]
    rw [eb]
    have e1 : decide ((0 : Int) ≤ -1) = false := by decide
    have e2 : max0 (-1) = 0 := by decide
    rw [e1, e2]
    clear et eb hin e1 e2 hout
    by_cases h0 : e < 0
    · go_enter Try.func21, Try.ntmps21
      go_wp2_with fail
      refine HTO.out.mono ?_
      rintro r w1 ⟨A', c', rfl, hg, hb⟩
      have HB := Lib.hid hb
      clear hg hb hok hs
      go_wp2_with fail
      go_ret2
      exact ⟨rfl, HB.out⟩
    · have h2 : (0 : Int) ≤ e := by omega
      go_enter Try.func21, Try.ntmps21
      go_wp2_with fail
      refine HTO.out.mono ?_
      rintro r w1 ⟨A', c', rfl, hg, hb⟩
      have HB := Lib.hid hb
      clear hg hb hok hs
      go_wp2_with fail
      go_ret2
      exact ⟨rfl, HB.out⟩
set_option maxRecDepth 100000 in
set_option maxHeartbeats 4000000 in
theorem btw4_at {w : World} {A1 A2 A3 : Option Addr} {n3 c1 c2 c3 : Nat} {ns bs : List (Int × Int)} {es : List (Int × Int × Int)} (h : GR w A1 A2 A3 ns.length es.length n3 c1 c2 c3 ns es bs) (hok : mayB ns es bs = true) {A : Option Addr} {n c : Nat} {cl : List Bool} (hc : ReadsB w A n c cl) (e v : Int) :
    Calls Try.prog 22 #[.agg #[.slice A1 ns.length c1, .slice A2 es.length c2, .slice A3 n3 c3], .int .i64 e, .int .i64 v, .slice A n c] w fun r w' => r = .returned (.int .i64 (btwT ns es bs cl e v)) ∧ Below w.heap.size w w' := by
  have hs := (mayB_parts hok).2.1
  have HB := Lib.hid (bl_alloc (Below.refl w.heap.size w) (.cells #[.slice A1 ns.length c1, .slice A2 es.length c2, .slice A3 n3 c3] 29))
  have HG := Lib.hid (h.below HB.out)
  have HC := Lib.hid (hc.below HB.out)
  have hnd := fun w' : World => node4_any (A1 := A1) (A2 := A2) (A3 := A3) (n1 := ns.length) (n2 := es.length) (c1 := c1) (c2 := c2) (n3 := n3) (c3 := c3) (by unfold maxLen; omega) v w'
  have hed := fun w' : World => edge4_c (A1 := A1) (A2 := A2) (A3 := A3) (n1 := ns.length) (n2 := es.length) (c1 := c1) (c2 := c2) (n3 := n3) (c3 := c3) (by unfold maxLen; omega) e w'
  obtain ⟨W1, hW1⟩ : ∃ W1, W1 = w.alloc (.cells #[.slice A1 ns.length c1, .slice A2 es.length c2, .slice A3 n3 c3] 29) := ⟨_, rfl⟩
  have HS : Hid (∀ w', Below W1.heap.size W1 w' → w'.cell? ⟨w.heap.size, 0, none⟩ = some (.slice A1 ns.length c1) ∧ w'.cell? ⟨w.heap.size, 1, none⟩ = some (.slice A2 es.length c2) ∧ w'.cell? ⟨w.heap.size, 2, none⟩ = some (.slice A3 n3 c3)) := Lib.hid fun w' hb => by subst hW1; exact GR.box hb
  rw [← hW1] at HG HC HB
  have HW := Lib.hid hW1
  have hto := fun (w' : World) (hb : Below W1.heap.size W1 w') => to4_at (HG.out.below hb) hok (HC.out.below hb) v
  have HTO := Lib.hid hto
  clear h hc hW1 hto
  rcases inB_cases (v := e) (n := es.length) with ⟨q, rfl, hq, hin2⟩ | ⟨hout2, hin2⟩
  · rw [hin2] at hed
    have HED := Lib.hid hed
    rcases inB_cases (v := v) (n := ns.length) with ⟨k, rfl, hk, hin⟩ | ⟨hout, hin⟩
    · rw [hin] at hnd
      have HND := Lib.hid hnd
      have et : toT ns es bs cl (k : Int) = toD es bs cl (k : Int) := by unfold toT; rw [if_pos hin]
      have hl := (toD_is hok cl (k : Int)).1
      rw [et, hl] at HTO
      have eb : btwT ns es bs cl (q : Int) (k : Int) = dl (toD es bs cl (k : Int)) q := by unfold btwT; rw [if_pos ⟨hin2, hin⟩, Int.toNat_natCast]
      rw [eb]
      have hg := dl_get (L := toD es bs cl (k : Int)) (x := q) (by omega)
      obtain ⟨D, hD⟩ : ∃ D, D = dl (toD es bs cl (k : Int)) q := ⟨_, rfl⟩
      rw [← hD] at hg
      rw [← hD]
      have HGG := Lib.hid hg
      have q0 : (0 : Int) ≤ (q : Int) := by omega
      have q1 : (q : Int) < (es.length : Int) := by omega
      have HL := Lib.hid hl
      have HQ := Lib.hid hq
      clear et hl eb hg hin hin2 hD hnd hed hs hok hk
      go_enter Try.func22, Try.ntmps22
      go_wp2_with fail
      rw [← HW.out]
      refine (HED.out _).mono ?_
      rintro r y1 ⟨rfl, hb1⟩
      obtain ⟨l0, l1, l2⟩ := HS.out _ hb1
      have B1 := Lib.hid hb1
      clear hb1
      go_wp2_with fail
      refine (HND.out _).mono ?_
      rintro r y2 ⟨rfl, hb2⟩
      have B2 := Lib.hid (bl_then B1.out hb2)
      clear l0 l1 l2 hb2
      obtain ⟨l0, l1, l2⟩ := HS.out _ B2.out
      go_wp2_with fail
      refine (HTO.out _ B2.out).mono ?_
      rintro r y3 ⟨A', c', rfl, hg, hb⟩
      obtain ⟨b, o, rfl, hcell⟩ := hg.1.cell (by have := HL.out; have := HQ.out; omega)
      have d0 := hcell q (by have := HL.out; have := HQ.out; omega)
      rw [HGG.out] at d0
      have B3 := Lib.hid (bl_then B2.out hb)
      clear hg hcell hb l0 l1 l2
      go_wp2_with fail
      go_ret
      exact ⟨rfl, HB.out.trans (B3.out.mono HB.out.size)⟩
    · rw [hin] at hnd
      have HND := Lib.hid hnd
      have eb : btwT ns es bs cl (q : Int) v = -1 := by unfold btwT; rw [if_neg (by rw [hin]; simp)]
      rw [eb]
      clear eb hin hin2 hnd hed hs hok hout
      go_enter Try.func22, Try.ntmps22
      go_wp2_with fail
      rw [← HW.out]
      refine (HED.out _).mono ?_
      rintro r y1 ⟨rfl, hb1⟩
      obtain ⟨l0, l1, l2⟩ := HS.out _ hb1
      have B1 := Lib.hid hb1
      clear hb1
      go_wp2_with fail
      refine (HND.out _).mono ?_
      rintro r y2 ⟨rfl, hb2⟩
      have B2 := Lib.hid (bl_then B1.out hb2)
      clear l0 l1 l2 hb2
      go_wp2_with fail
      go_ret
      exact ⟨rfl, HB.out.trans (B2.out.mono HB.out.size)⟩
  · rw [hin2] at hed
    have HED := Lib.hid hed
    have eb : btwT ns es bs cl e v = -1 := by unfold btwT; rw [if_neg (by rw [hin2]; simp)]
    rw [eb]
    clear eb hin2 hnd hed hs hok hout2
    go_enter Try.func22, Try.ntmps22
    go_wp2_with fail
    rw [← HW.out]
    refine (HED.out _).mono ?_
    rintro r y1 ⟨rfl, hb1⟩
    have B1 := Lib.hid hb1
    clear hb1
    go_wp2_with fail
    go_ret
    exact ⟨rfl, HB.out.trans (B1.out.mono HB.out.size)⟩
end Go.Proofs.Ytjopiefojicblaa
/- milepostref24.Shut: which edges are closed, by numbers. -/
set_option linter.unusedVariables false
set_option linter.unusedSimpArgs false
namespace Go.Proofs.Ytjopiefojicblaa
open Go.ChangeShapes Go.WideShapes Go.ChangeAt Go.RowKit HeapP DistP RowP
def shutK (N : Nat) (l : List Int) : List Bool := l.foldl (fun c s => c.set (s % (N : Int)).toNat true) (List.replicate N false)
theorem shutK_snoc (N : Nat) (l : List Int) (s : Int) : shutK N (l ++ [s]) = (shutK N l).set (s % (N : Int)).toNat true := by simp [shutK, List.foldl_append]
theorem shutK_len (N : Nat) : ∀ (n : Nat) (l : List Int), l.length = n → (shutK N l).length = N := by
  intro n
  induction n with
  | zero => intro l h; obtain rfl := List.eq_nil_of_length_eq_zero h; simp [shutK]
  | succ n ih =>
    intro l h
    obtain ⟨l', x, rfl⟩ : ∃ l' x, l = l' ++ [x] := ⟨l.dropLast, l.getLast (by intro e; subst e; simp at h), (List.dropLast_concat_getLast _).symm⟩
    rw [shutK_snoc, List.length_set]; exact ih l' (by simpa using h)
theorem shutK_length (N : Nat) (l : List Int) : (shutK N l).length = N := shutK_len N _ l rfl
theorem shutK_more (N : Nat) (l k : List Int) (e : Nat) (h : shutB (shutK N l) e = true) : shutB (shutK N (l ++ k)) e = true := by
  have key : ∀ (n : Nat) (k : List Int), k.length = n → shutB (shutK N (l ++ k)) e = true := by
    intro n
    induction n with
    | zero => intro k hk; obtain rfl := List.eq_nil_of_length_eq_zero hk; rw [List.append_nil]; exact h
    | succ n ih =>
      intro k hk
      obtain ⟨k', x, rfl⟩ : ∃ l' x, k = l' ++ [x] := ⟨k.dropLast, k.getLast (by intro e; subst e; simp at hk), (List.dropLast_concat_getLast _).symm⟩
      rw [← List.append_assoc, shutK_snoc]
      have := ih k' (by simpa using hk)
      unfold shutB at this ⊢
      rw [List.getD_eq_getElem?_getD] at this ⊢
      by_cases hx : (x % (N : Int)).toNat = e
      · subst hx
        rw [List.getElem?_set_self' ]
        cases hh : (shutK N (l ++ k'))[(x % (N : Int)).toNat]? with
        | none => rw [hh] at this; simp at this
        | some b => simp
      · rw [List.getElem?_set_ne hx]; exact this
  exact key _ k rfl
/-- a row of bools that is the call's own -/
def BRow (w : World) (b n : Nat) (L : List Bool) : Prop := L.length = n ∧ w.heap[b]? = some (.cells (L.map Value.bool).toArray 4)
theorem BRow.cell {w : World} {b n : Nat} {L : List Bool} (h : BRow w b n L) {i : Nat} (hi : i < n) : w.cell? ⟨b, i, none⟩ = some (.bool (L.getD i false)) := by
  have hl := h.1
  refine block_cell h.2 ?_
  simp [List.getD_eq_getElem?_getD, List.getElem?_eq_getElem (show i < L.length by omega)]
theorem BRow.fr {w : World} {b n : Nat} {L : List Bool} (h : BRow w b n L) (i : Nat) : w.frozen? ⟨b, i, none⟩ = false := block_fr h.2 i
theorem BRow.set {w : World} {b n : Nat} {L : List Bool} (h : BRow w b n L) (i : Nat) (x : Bool) : BRow (w.setCell ⟨b, i, none⟩ (.bool x)) b n (L.set i x) := by
  refine ⟨by rw [List.length_set]; exact h.1, ?_⟩
  rw [block_set h.2 i (.bool x)]
  simp [List.map_set]
theorem BRow.below {w w' : World} {b n : Nat} {L : List Bool} (h : BRow w b n L) (hb : Below w.heap.size w w') : BRow w' b n L := by
  have hlt : b < w.heap.size := by
    rcases Nat.lt_or_ge b w.heap.size with h1 | h1
    · exact h1
    · have := h.2; rw [Array.getElem?_eq_none h1] at this; cases this
  exact ⟨h.1, (hb.block b hlt).trans h.2⟩
theorem BRow.lt {w : World} {b n : Nat} {L : List Bool} (h : BRow w b n L) : b < w.heap.size := by
  rcases Nat.lt_or_ge b w.heap.size with h1 | h1
  · exact h1
  · have := h.2; rw [Array.getElem?_eq_none h1] at this; cases this
theorem BRow.reads {w : World} {b n : Nat} {L : List Bool} (h : BRow w b n L) (hn : n ≤ 512) (c : Nat) : ReadsB w (some ⟨b, 0, none⟩) n c L :=
  ⟨h.1, by unfold maxLen; omega, fun _ => ⟨b, 0, rfl, fun i hi => by rw [Nat.zero_add]; exact h.cell hi⟩⟩
theorem BRow.made (w : World) (n : Nat) : BRow (w.alloc (.cells (madeCells #[.bool false] n) 4)) w.heap.size n (List.replicate n false) := by
  refine ⟨by simp, ?_⟩
  rw [heap_alloc_eq]
  congr 2
  apply Array.toList_inj.1
  rw [toList_madeCells_one]; simp
theorem infoBool : (Try.prog.info? 4).map (fun i => (i.zero, i.size, i.bytes)) = some (some (.bool false), 1, 1) := by kernel_rfl
set_option maxRecDepth 100000 in
set_option maxHeartbeats 8000000 in
theorem shut4_any {w : World} {A1 A2 A3 : Option Addr} {n1 n3 N c1 c2 c3 : Nat} (h1 : 1 ≤ N) (hN : N ≤ 512) {A : Option Addr} {n c : Nat} {ls : List Int} (hl : ReadsI w A n c ls) (hn : n ≤ 1048576) :
    Calls Try.prog 17 #[.agg #[.slice A1 n1 c1, .slice A2 N c2, .slice A3 n3 c3], .slice A n c] w fun r w' =>
      ∃ g, r = .returned (.slice (some ⟨g, 0, none⟩) N N) ∧ BRow w' g N (shutK N ls) ∧ w.heap.size ≤ g ∧ Below w.heap.size w w' := by
  have HB := Lib.hid (bl_alloc (Below.refl w.heap.size w) (.cells #[.slice A1 n1 c1, .slice A2 N c2, .slice A3 n3 c3] 29))
  have HL := Lib.hid (hl.below HB.out)
  have HLL := Lib.hid hl.len
  have HWF := Lib.hid hl.wf
  have hmk := run_make_row' (P := Try.prog) 23 4 (.bool false) 1 Try.underlying23 infoBool rfl .i64 .i64 N (by omega) (by omega)
  obtain ⟨W1, hW1⟩ : ∃ W1, W1 = w.alloc (.cells #[.slice A1 n1 c1, .slice A2 N c2, .slice A3 n3 c3] 29) := ⟨_, rfl⟩
  have l1 : (w.alloc (.cells #[.slice A1 n1 c1, .slice A2 N c2, .slice A3 n3 c3] 29)).cell? ⟨w.heap.size, 1, none⟩ = some (.slice A2 N c2) := cell_three_new 1 _ rfl
  have HZ1 : Hid (W1.heap.size = w.heap.size + 1) := Lib.hid (by rw [hW1, size_alloc])
  rw [← hW1] at HL HB
  have HW := Lib.hid hW1
  have hr0 := BRow.made W1 N
  have HR0 := Lib.hid hr0
  have HB1 : Hid (Below W1.heap.size W1 (W1.alloc (.cells (madeCells #[.bool false] N) 4))) := Lib.hid (bl_alloc (Below.refl _ _) _)
  clear hl hW1 hr0
  go_enter Try.func17, Try.ntmps17
  go_wp2_with fail
  rw [← HW.out]
  obtain ⟨g, hg⟩ : ∃ g, g = w.heap.size + 1 := ⟨_, rfl⟩
  rw [← hg]
  rw [HZ1.out, ← hg] at HR0
  have HG : Hid (W1.heap.size = g) := Lib.hid (by rw [HZ1.out, hg])
  clear hg hmk l1
  go_loopg [6] n (fun M u wr => ∃ k : Nat, M = n - k ∧ k ≤ n ∧ u = .int .i64 (k : Nat) ∧ BRow wr g N (shutK N (ls.take k)) ∧ Below W1.heap.size W1 wr)
  case atStart => exact ⟨0, rfl, Nat.zero_le _, rfl, HR0.out, HB1.out⟩
  case round =>
    obtain ⟨k, hM, hk, rfl, hr, hb⟩ := hrel
    have HM := Lib.hid hM
    have HR := Lib.hid hr
    have HBR := Lib.hid hb
    clear hM hr hb HR0 HB1
    by_cases hlt : k < n
    · obtain ⟨bL, oL, rfl, hcL⟩ := (HL.out.below HBR.out).cell (by omega)
      have d0 := hcL k hlt
      have hlk : k < ls.length := by rw [HLL.out]; exact hlt
      have hw := getD_wf HWF.out k
      have hst : shutK N (ls.take (k + 1)) = (shutK N (ls.take k)).set (ls.getD k 0 % (N : Int)).toNat true := by
        rw [List.take_succ_eq_append_getElem hlk, shutK_snoc, List.getD_eq_getElem?_getD, List.getElem?_eq_getElem hlk]; rfl
      obtain ⟨s, hs⟩ : ∃ s, s = ls.getD k 0 := ⟨_, rfl⟩
      rw [← hs] at d0 hw hst
      have rb := fun w => round24_any hw (n := (N : Int)) (by omega) (by omega) w
      have j0 := Int.emod_nonneg s (show (N : Int) ≠ 0 by omega)
      have j1 := Int.emod_lt_of_pos s (show (0 : Int) < N by omega)
      obtain ⟨j, hj⟩ : ∃ j : Nat, s % (N : Int) = (j : Int) := ⟨(s % (N : Int)).toNat, by omega⟩
      rw [hj] at rb j0 j1 hst
      rw [Int.toNat_natCast] at hst
      have c0 := HR.out.cell (i := j) (by omega)
      have f0 := HR.out.fr j
      have RB := Lib.hid rb
      have HST := Lib.hid hst
      have k0 : (0 : Int) ≤ (k : Int) := by omega
      have k1 : (k : Int) < (n : Int) := by omega
      clear hcL hw hst hs rb hj
      go_wp2_with fail
      refine (RB.out _).mono ?_
      rintro e w' ⟨rfl, rfl⟩
      go_wp2_with fail
      go_roundg (n - (k + 1))
      case measure => have := HM.out; omega
      case rel => exact ⟨k + 1, rfl, by omega, by go_num, by rw [HST.out]; exact HR.out.set j true, HBR.out.setCell (by have := HG.out; simp; omega) _⟩
    · obtain rfl : k = n := by omega
      have hr := HR.out
      rw [List.take_of_length_le (by rw [HLL.out]; exact Nat.le_refl _)] at hr
      have HR2 := Lib.hid hr
      clear hr hlt hk
      go_wp2_with fail
      go_ret
      exact ⟨g, rfl, HR2.out, by have := HG.out; have := HZ1.out; omega, HB.out.trans (HBR.out.mono HB.out.size)⟩
end Go.Proofs.Ytjopiefojicblaa
/- The town that the laws hold fixed. -/
set_option linter.unusedVariables false
set_option linter.unusedSimpArgs false
namespace Go.Proofs.Ytjopiefojicblaa
open Go.ChangeShapes Go.WideShapes Go.ChangeAt Go.RowKit HeapP DistP
theorem readsI_new (w : World) (xs : List Int) (t : TypeId) {n : Nat} (hl : xs.length = n) (hn : n ≤ maxLen) (hw : ∀ x ∈ xs, (Lit.int .i64 x).wf = true) (c : Nat) : ReadsI (w.alloc (.cells (flatI xs).toArray t)) (some ⟨w.heap.size, 0, none⟩) n c xs := by
  refine ⟨hl, hn, fun _ => ⟨w.heap.size, 0, rfl, fun i hi => ?_⟩, hw⟩
  exact block_cell (heap_alloc_eq w _) (by rw [Nat.zero_add]; simpa using flatI_get xs i (by omega))
theorem aE_len : (townE [3, 3, 5]).length = 43 := by decide +kernel
theorem aN_len : (townN [3, 3, 5]).length = 16 := by decide +kernel
theorem aE_0 : (townE [3, 3, 5]).getD 0 (0, 0, 0) = (0, 1, 6) := by decide +kernel
theorem nilB (w : World) : ReadsB w none 0 0 [] := ⟨rfl, by decide, fun h => by omega⟩
theorem to_here {ns bs : Bs} {es : Es} (h : mayB ns es bs = true) (cl : List Bool) {v : Int} {x : Nat} (hx : x < es.length) (hs : toSrc es v x) : (toD es bs cl v).getD x 0 = 0 := by
  have := toD_is h cl v
  rw [dl_get (by rw [this.1]; exact hx)]
  exact this.2.a x hx hs
theorem from_here {ns bs : Bs} {es : Es} (h : mayB ns es bs = true) (cl : List Bool) {x : Nat} (hx : x < es.length) : (fromD es bs cl x).getD x 0 = 0 := by
  have := fromD_is h cl x
  rw [dl_get (by rw [this.1]; exact hx)]
  exact this.2.a x hx rfl
set_option maxRecDepth 100000 in
set_option maxHeartbeats 2000000 in
theorem to_nil (v : Int) (A : Option Addr) (n c : Nat) (w : World) : Calls Try.prog 19 #[.pointer none, .int .i64 v, .slice A n c] w fun r w' => r = .returned (.slice none 0 0) ∧ w = w' := by
  go_enter Try.func19, Try.ntmps19
  go_wp2_with fail
  go_ret
  exact ⟨rfl, rfl⟩
end Go.Proofs.Ytjopiefojicblaa
