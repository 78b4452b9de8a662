/- Where a walk ends, and which of two rows comes first: the program's and the document's. -/
import Derived.Test.YtkkaidliocadnaaWalk4
set_option linter.unusedVariables false
set_option linter.unusedSimpArgs false
namespace Go.Proofs.Ytkkaidliocadnaa
open Go.ChangeShapes Go.WideShapes Go.ChangeAt Go.RowKit
theorem walk_parts {es : List (Int × Int × Int)} {bs : List (Int × Int)} {a : Int} {xs : List Int} (h : walkB es bs a xs = true) : inB 0 (lastI a xs) ((es.length : Int) - 1) = true ∧ endT es bs a xs = (es.getD (lastI a xs).toNat (0, 0, 0)).2.1 := by
  refine ⟨?_, by unfold endT; rw [if_pos h]⟩
  unfold walkB at h
  rw [Bool.and_eq_true] at h
  exact last_in h.1 h.2
set_option maxRecDepth 100000 in
set_option maxHeartbeats 8000000 in
theorem end_at {w : World} {B E t p : Nat} {ns bs : List (Int × Int)} {es : List (Int × Int × Int)} (h : TurnsAt w B E t p ns es bs) {A : Option Addr} {n c : Nat} {xs : List Int} (hr : ReadsI w A n c xs) (a : Int) :
    Calls Try.prog 17 #[.pointer (some ⟨t, 0, none⟩), .int .i64 a, .slice A n c] w fun e w' => e = .returned (.tuple #[.int .i64 (endT es bs a xs), .bool (walkB es bs a xs)]) ∧ Below w.heap.size w w' := by
  have hm := hr.small
  unfold maxLen at hm
  have hm2 : n ≤ 9223372036854775807 := by omega
  have HV := Lib.hid (valid_at h hr a)
  have HR := Lib.hid hr
  have HL := Lib.hid hr.len
  obtain ⟨tb, R, hT⟩ := h
  have HC0 := Lib.hid (block_cell hT.ht (j := 0) rfl)
  have HG := Lib.hid hT.g
  clear hT hr hm
  rcases bool_or (walkB es bs a xs) with hw | hw
  · obtain ⟨hl, he⟩ := walk_parts hw
    rw [hw] at HV ⊢
    have hedge := fun (w' : World) (hb : Below w.heap.size w w') => edge_at (HG.out.below hb) (lastI a xs)
    simp only [hl] at hedge
    have het : edgeT es (lastI a xs) = es.getD (lastI a xs).toNat (0, 0, 0) := by unfold edgeT; rw [if_pos hl]
    simp only [het] at hedge
    obtain ⟨g, hg⟩ : ∃ g, g = es.getD (lastI a xs).toNat (0, 0, 0) := ⟨_, rfl⟩
    simp only [← hg] at hedge he
    obtain ⟨g0, g1, g2⟩ := g
    dsimp only at hedge he
    rw [he]
    have HEDGE := Lib.hid hedge
    clear hl he hedge het hg hw
    rcases Nat.eq_zero_or_pos n with h0 | h0
    · have hx : lastI a xs = a := by rw [List.eq_nil_of_length_eq_zero (HL.out.trans h0)]; rfl
      rw [hx] at HEDGE
      subst h0
      clear hx
      go_enter Try.func17, Try.ntmps17
      go_wp2_with fail
      refine HV.out.mono ?_
      rintro e v1 ⟨rfl, hb⟩
      have HB1 := Lib.hid hb
      have t0 := cell_below HC0.out hb
      clear hb
      go_wp2_with fail
      refine (HEDGE.out _ HB1.out).mono ?_
      rintro e v2 ⟨rfl, hb⟩
      have HB2 := Lib.hid (bl_alloc (bl_then HB1.out hb) (.cells #[.int .i64 g0, .int .i64 g1, .int .i64 g2] 60))
      have c1 : (v2.alloc (.cells #[.int .i64 g0, .int .i64 g1, .int .i64 g2] 60)).cell? ⟨v2.heap.size, 1, none⟩ = some (.int .i64 g1) := cell_three_new 1 _ rfl
      clear hb t0
      go_wp2_with fail
      go_ret2
      exact ⟨rfl, HB2.out⟩
    · have hx : lastI a xs = xs.getD (n - 1) 0 := by rw [last_get (by rw [HL.out]; exact h0), HL.out]
      rw [hx] at HEDGE
      obtain ⟨bX, oX, rfl, hcell⟩ := HR.out.cell h0
      have d0 := hcell (n - 1) (by omega)
      obtain ⟨y, hy⟩ : ∃ y, y = xs.getD (n - 1) 0 := ⟨_, rfl⟩
      rw [← hy] at d0 HEDGE
      obtain ⟨m, rfl⟩ : ∃ m, n = m + 1 := ⟨n - 1, by omega⟩
      rw [Nat.add_sub_cancel] at d0
      have D0 := Lib.hid d0
      have m0 : (0 : Int) ≤ (m : Int) := by omega
      clear hx hcell hy d0 h0
      go_enter Try.func17, Try.ntmps17
      go_wp2_with fail
      refine HV.out.mono ?_
      rintro e v1 ⟨rfl, hb⟩
      have HB1 := Lib.hid hb
      have t0 := cell_below HC0.out hb
      have d0 := cell_below D0.out hb
      clear hb
      go_wp2_with fail
      refine (HEDGE.out _ HB1.out).mono ?_
      rintro e v2 ⟨rfl, hb⟩
      have HB2 := Lib.hid (bl_alloc (bl_then HB1.out hb) (.cells #[.int .i64 g0, .int .i64 g1, .int .i64 g2] 60))
      have c1 : (v2.alloc (.cells #[.int .i64 g0, .int .i64 g1, .int .i64 g2] 60)).cell? ⟨v2.heap.size, 1, none⟩ = some (.int .i64 g1) := cell_three_new 1 _ rfl
      clear hb t0 d0
      go_wp2_with fail
      go_ret2
      exact ⟨rfl, HB2.out⟩
  · have he : endT es bs a xs = 0 := by unfold endT; rw [hw]; rfl
    rw [hw] at HV ⊢
    rw [he]
    clear he hw
    go_enter Try.func17, Try.ntmps17
    go_wp2_with fail
    refine HV.out.mono ?_
    rintro e v1 ⟨rfl, hb⟩
    have HB1 := Lib.hid hb
    clear hb
    go_wp2_with fail
    go_ret2
    exact ⟨rfl, HB1.out⟩
set_option maxRecDepth 100000 in
set_option maxHeartbeats 8000000 in
theorem end4_any {A1 A2 A3 : Option Addr} {n1 n2 n3 c1 c2 c3 : Nat} {ns : List (Int × Int)} {es : List (Int × Int × Int)} {bs : List (Int × Int)} {w : World} (h : GR w A1 A2 A3 n1 n2 n3 c1 c2 c3 ns es bs) {A : Option Addr} {n c : Nat} {xs : List Int} (hr : ReadsI w A n c xs) (a : Int) :
    Calls Try.prog 18 #[.agg #[.slice A1 n1 c1, .slice A2 n2 c2, .slice A3 n3 c3], .int .i64 a, .slice A n c] w fun e w' => e = .returned (.tuple #[.int .i64 (endT es bs a xs), .bool (walkB es bs a xs)]) ∧ Below w.heap.size w w' := by
  have hle := h.rE.len
  subst hle
  have hm := hr.small
  unfold maxLen at hm
  have hm2 : n ≤ 9223372036854775807 := by omega
  have hmE := h.rE.small
  unfold maxLen at hmE
  have hb0 := bl_alloc (Below.refl w.heap.size w) (.cells #[.slice A1 n1 c1, .slice A2 es.length c2, .slice A3 n3 c3] 28)
  have HV := Lib.hid (walk4_any (h.below hb0) (hr.below hb0) a)
  have HR := Lib.hid (hr.below hb0)
  have HL := Lib.hid hr.len
  have HRE := Lib.hid (h.rE.below hb0)
  have HB0 := Lib.hid hb0
  obtain ⟨l0, l1, l2⟩ : _ ∧ _ ∧ _ := GR.box (w := w) (A1 := A1) (A2 := A2) (A3 := A3) (n1 := n1) (n2 := es.length) (n3 := n3) (c1 := c1) (c2 := c2) (c3 := c3) (Below.refl _ _)
  have HL1 := Lib.hid l1
  have g2 : es.length ≤ 9223372036854775807 := by omega
  clear h hr hm hmE hb0
  rcases bool_or (walkB es bs a xs) with hw | hw
  · obtain ⟨hl, he⟩ := walk_parts hw
    rw [hw] at HV ⊢
    rw [he]
    unfold inB at hl
    simp only [Bool.and_eq_true, decide_eq_true_eq] at hl
    obtain ⟨z, hz⟩ : ∃ z : Nat, lastI a xs = (z : Int) := ⟨(lastI a xs).toNat, by omega⟩
    rw [hz] at hl ⊢
    rw [Int.toNat_natCast]
    obtain ⟨bE, oE, rfl, hcE⟩ := HRE.out.cell (by omega)
    have w1 := (hcE z (by omega)).2.1
    obtain ⟨g1, hg⟩ : ∃ g, g = (es.getD z (0, 0, 0)).2.1 := ⟨_, rfl⟩
    rw [← hg] at w1 ⊢
    have W1 := Lib.hid w1
    have z0 : (0 : Int) ≤ (z : Int) := by omega
    have z1 : (z : Int) < (es.length : Int) := by omega
    clear hl he hw hcE hg w1
    rcases Nat.eq_zero_or_pos n with h0 | h0
    · have hx : lastI a xs = a := by rw [List.eq_nil_of_length_eq_zero (HL.out.trans h0)]; rfl
      rw [hx] at hz
      subst hz
      subst h0
      clear hx
      go_enter Try.func18, Try.ntmps18
      go_wp2_with fail
      refine HV.out.mono ?_
      rintro e v1 ⟨rfl, hb⟩
      have HB1 := Lib.hid (bl_then HB0.out hb)
      have l1' := cell_below HL1.out hb
      have w1 := cell_below W1.out hb
      clear hb l0 l1 l2
      go_wp2_with fail
      go_ret2
      exact ⟨rfl, HB1.out⟩
    · have hx : lastI a xs = xs.getD (n - 1) 0 := by rw [last_get (by rw [HL.out]; exact h0), HL.out]
      rw [hx] at hz
      obtain ⟨bX, oX, rfl, hcell⟩ := HR.out.cell h0
      have d0 := hcell (n - 1) (by omega)
      rw [hz] at d0
      obtain ⟨m, rfl⟩ : ∃ m, n = m + 1 := ⟨n - 1, by omega⟩
      rw [Nat.add_sub_cancel] at d0
      have D0 := Lib.hid d0
      have m0 : (0 : Int) ≤ (m : Int) := by omega
      clear hx hcell d0 h0 hz
      go_enter Try.func18, Try.ntmps18
      go_wp2_with fail
      refine HV.out.mono ?_
      rintro e v1 ⟨rfl, hb⟩
      have HB1 := Lib.hid (bl_then HB0.out hb)
      have l1' := cell_below HL1.out hb
      have w1 := cell_below W1.out hb
      have d0 := cell_below D0.out hb
      clear hb l0 l1 l2
      go_wp2_with fail
      go_ret2
      exact ⟨rfl, HB1.out⟩
  · have he : endT es bs a xs = 0 := by unfold endT; rw [hw]; rfl
    rw [hw] at HV ⊢
    rw [he]
    clear he hw
    go_enter Try.func18, Try.ntmps18
    go_wp2_with fail
    refine HV.out.mono ?_
    rintro e v1 ⟨rfl, hb⟩
    have HB1 := Lib.hid (bl_then HB0.out hb)
    clear hb
    go_wp2_with fail
    go_ret2
    exact ⟨rfl, HB1.out⟩
end Go.Proofs.Ytkkaidliocadnaa
