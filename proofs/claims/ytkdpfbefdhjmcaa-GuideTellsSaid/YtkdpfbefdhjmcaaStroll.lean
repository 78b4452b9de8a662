/- milepostref24.Stroll: as far as turns go. -/
import Derived.Test.YtkdpfbefdhjmcaaNext4
import Derived.Test.YtkdpfbefdhjmcaaWalkPure
import Derived.Test.YtkdpfbefdhjmcaaTownAt
import Derived.Test.YtkdpfbefdhjmcaaTurnsUse
import Derived.Test.YtkdpfbefdhjmcaaTurnsMay
import Derived.Test.YtkdpfbefdhjmcaaAside
set_option linter.unusedVariables false
set_option linter.unusedSimpArgs false
namespace Go.Proofs.Ytkdpfbefdhjmcaa
open Go.ChangeShapes Go.WideShapes Go.ChangeAt Go.RowKit RowP
/-- what a row of the call's own looks like -/
def OwnS (A : Option Addr) (n c : Nat) : Prop := (A = none ∧ n = 0 ∧ c = 0) ∨ ∃ g, A = some ⟨g, 0, none⟩ ∧ n ≤ c ∧ c ≤ maxLen
theorem own_shape {w : World} {B : Nat} {e : TypeId} {s n m c : Nat} {A : Option Addr} {vs : List Value} (h : w.ownsRow B e s (.slice A n c) m vs) : OwnS A n c := by
  rcases h.2 with ⟨h1, _⟩ | ⟨g, cc, cur, h1, _, _, hle, hle2, _⟩
  · injection h1 with e1 e2 e3
    exact .inl ⟨e1, e2, e3⟩
  · injection h1 with e1 e2 e3
    subst e1 e2 e3
    exact .inr ⟨g, rfl, hle, by omega⟩
theorem drop_getD {ls : List Int} {k : Nat} (h : k < ls.length) : ls.drop k = ls.getD k 0 :: ls.drop (k + 1) := by
  rw [List.getD_eq_getElem?_getD, List.getElem?_eq_getElem h]; exact List.drop_eq_getElem_cons h
theorem stroll_wf {es : List (Int × Int × Int)} (h : es.length ≤ 512) (bs : List (Int × Int)) : ∀ (e : Int) (l : List Int), ∀ x ∈ strollT es bs e l, (Lit.int .i64 x).wf = true
  | _, [], x, hx => by simp [strollT] at hx
  | e, s :: l, x, hx => by
    unfold strollT at hx
    split at hx
    · simp at hx
    · rename_i hz
      rcases List.mem_cons.1 hx with rfl | h1
      · exact nextT_wf h bs e _ (getD_memI (mod_lt (by omega)))
      · exact stroll_wf h bs _ l x h1
set_option maxRecDepth 100000 in
set_option maxHeartbeats 8000000 in
theorem stroll_any {A1 A2 A3 : Option Addr} {n1 n2 n3 c1 c2 c3 : Nat} {ns : List (Int × Int)} {es : List (Int × Int × Int)} {bs : List (Int × Int)} {w : World} (h : GR w A1 A2 A3 n1 n2 n3 c1 c2 c3 ns es bs) (hm : n2 ≤ 512) (e : Int)
    {A : Option Addr} {n c : Nat} {ls : List Int} (hl : ReadsI w A n c ls) (hn : n ≤ 1048576) :
    Calls Try.prog 31 #[.agg #[.slice A1 n1 c1, .slice A2 n2 c2, .slice A3 n3 c3], .int .i64 e, .slice A n c] w fun r w' =>
      ∃ A' c', r = .returned (.slice A' (strollT es bs e ls).length c') ∧ ReadsI w' A' (strollT es bs e ls).length c' (strollT es bs e ls) ∧ (∀ b o, A' = some ⟨b, o, none⟩ → w.heap.size ≤ b ∧ b < w'.heap.size) ∧ Below w.heap.size w w' ∧ OwnS A' (strollT es bs e ls).length c' := by
  have hes : es.length ≤ 512 := by rw [h.rE.len]; exact hm
  have HM := Lib.hid hm
  have HES := Lib.hid hes
  have HB := Lib.hid (bl_alloc (Below.refl w.heap.size w) (.cells #[.slice A1 n1 c1, .slice A2 n2 c2, .slice A3 n3 c3] 51))
  have HG := Lib.hid (h.below HB.out)
  have HL := Lib.hid (hl.below HB.out)
  have HLL := Lib.hid hl.len
  obtain ⟨i1, hi1⟩ := info1
  have II := Lib.hid hi1
  obtain ⟨T, hT⟩ : ∃ T, T = strollT es bs e ls := ⟨_, rfl⟩
  have hTl := stroll_len es bs e ls
  have hTw := stroll_wf hes bs e ls
  rw [← hT] at hTl hTw ⊢
  have HT := Lib.hid hT
  have HTL := Lib.hid hTl
  have HTW := Lib.hid hTw
  clear h hi1 hl hm hes hT hTl hTw
  obtain ⟨W1, hW1⟩ : ∃ W1, W1 = w.alloc (.cells #[.slice A1 n1 c1, .slice A2 n2 c2, .slice A3 n3 c3] 51) := ⟨_, rfl⟩
  have HS : Hid (∀ w', Below W1.heap.size W1 w' → w'.cell? ⟨w.heap.size, 0, none⟩ = some (.slice A1 n1 c1) ∧ w'.cell? ⟨w.heap.size, 1, none⟩ = some (.slice A2 n2 c2) ∧ w'.cell? ⟨w.heap.size, 2, none⟩ = some (.slice A3 n3 c3)) := Lib.hid fun w' hb => by subst hW1; exact GR.box hb
  rw [← hW1] at HG HB HL
  have HW := Lib.hid hW1
  clear hW1
  go_enter Try.func31, Try.ntmps31
  go_wp2_with fail
  rw [← HW.out]
  go_loopg [7, 8, 1] n (fun M v u z wr => ∃ (k : Nat) (a : Int) (O : List Int), M = n - k ∧ k ≤ n ∧ u = .int .i64 (k : Nat) ∧ z = .int .i64 a ∧ O.length = k ∧ O ++ strollT es bs a (ls.drop k) = T ∧ wr.ownsRow W1.heap.size 3 1 v O.length (flatI O) ∧ Below W1.heap.size W1 wr)
  case atStart => exact ⟨0, e, [], rfl, Nat.zero_le _, rfl, rfl, rfl, by rw [HT.out]; rfl, World.ownsRow_nil _ _ _ _, Below.refl _ _⟩
  case round =>
    obtain ⟨k, a, O, hM, hk, rfl, rfl, hO, hOT, hown, hb⟩ := hrel
    have HMS := Lib.hid hM
    have HO := Lib.hid hO
    have HOT := Lib.hid hOT
    have HOWN := Lib.hid hown
    have HBR := Lib.hid hb
    obtain ⟨k0, k1, k2⟩ := HS.out _ hb
    clear hM hO hOT hown hb
    by_cases hlt : k < n
    · have hnx := next4_any (HG.out.below HBR.out) HM.out a
      obtain ⟨N, hN⟩ : ∃ N, N = nextT es bs a := ⟨_, rfl⟩
      have hNl := nextT_len es bs a
      rw [← hN] at hnx hNl
      have HNX := Lib.hid hnx
      have HNN := Lib.hid hN
      have HNL := Lib.hid hNl
      clear hnx hN hNl
      have hlk : k < ls.length := by rw [HLL.out]; exact hlt
      have hot := HOT.out
      rw [drop_getD hlk] at hot
      unfold strollT at hot
      rw [← HNN.out] at hot
      have HOT2 := Lib.hid hot
      clear hot
      go_wp2_with fail
      refine HNX.out.mono ?_
      rintro e v1 ⟨AN, cN, rfl, hrN, _, hb1⟩
      have HB1 := Lib.hid (bl_then HBR.out hb1)
      have HO1 := Lib.hid (own_upd HOWN.out (Upd.of_below (F := fun _ => False) hb1) (fun _ _ h => h))
      have HRN := Lib.hid hrN
      clear hb1 hrN k0 k1 k2
      by_cases hz : N.length = 0
      · have hTO : O = T := by have := HOT2.out; rw [if_pos hz, List.append_nil] at this; exact this
        obtain ⟨A', c', hv⟩ := own_form HO1.out
        subst hv
        subst hTO
        go_wp2_with fail
        go_ret
        exact ⟨A', c', rfl, ReadsI.of_row HO1.out (by have := HTL.out; have := HLL.out; unfold maxLen; omega) HTW.out, fun b o e => by have := own_in HO1.out b o e; have := HB.out.size; omega, bl_then HB.out HB1.out, own_shape HO1.out⟩
      · have hot := HOT2.out
        rw [if_neg hz] at hot
        obtain ⟨bN, oN, rfl, hcN⟩ := HRN.out.cell (by omega)
        have hjl := mod_lt (s := ls.getD k 0) (n := N.length) (by omega)
        have hcx := hcN _ hjl
        obtain ⟨bL, oL, rfl, hcL⟩ := HL.out.cell (by omega)
        have hcl := cell_below (hcL k hlt) HB1.out
        have hlw : (Lit.int .i64 (ls.getD k 0)).wf = true := HL.out.wf _ (getD_memI hlk)
        obtain ⟨s, hs⟩ : ∃ s, s = ls.getD k 0 := ⟨_, rfl⟩
        rw [← hs] at hot hjl hcx hcl hlw
        have j0 := Int.emod_nonneg s (show (N.length : Int) ≠ 0 by omega)
        have j1 := Int.emod_lt_of_pos s (show (0 : Int) < N.length by omega)
        obtain ⟨j, hj⟩ : ∃ j : Nat, s % (N.length : Int) = (j : Int) := ⟨(s % (N.length : Int)).toNat, by omega⟩
        have hjn : (s % (N.length : Int)).toNat = j := by omega
        have hN512 : N.length ≤ 512 := Nat.le_trans HNL.out HES.out
        have rb := fun w => round24_still hlw (n := (N.length : Int)) (by omega) (by omega) w
        rw [hj] at rb j0 j1
        rw [hjn] at hot hcx hjl
        obtain ⟨x, hx⟩ : ∃ x, x = N.getD j 0 := ⟨_, rfl⟩
        rw [← hx] at hot hcx
        have HX := Lib.hid hcx
        have RB := Lib.hid rb
        have HOT3 := Lib.hid hot
        have kz : (0 : Int) ≤ (k : Int) := by omega
        have kn : (k : Int) < (n : Int) := by omega
        clear hot hcN hcL hlw hs hj hjn hx rb hcx hjl
        go_wp2_with fail
        refine (RB.out _).mono ?_
        rintro e v2 ⟨rfl, rfl⟩
        have hcx := HX.out
        have HOA := Lib.hid (own_upd HO1.out (Upd.of_below (F := fun _ => False) (bl_alloc (Below.refl _ _) (.cells #[.int .i64 x] 3))) (fun _ _ h => h))
        have hsrc := Src.new (w := v2) (vs := #[.int .i64 x]) (t := 3) (size := 1) (by intro u hu; simp at hu; subst hu; rfl) rfl
        have HSRC := Lib.hid hsrc
        have HBS : Hid (W1.heap.size ≤ (v2.alloc (.cells #[.int .i64 x] 3)).heap.size) := Lib.hid (bl_alloc HB1.out _).size
        have HOL : Hid (O.length + 1 ≤ maxLen ∧ (O.length + 1) * 8 ≤ 140737488355328) := Lib.hid (by have := HO.out; exact ⟨by unfold maxLen; omega, by omega⟩)
        clear hsrc hcl
        go_wp2_with (at_builtin; refine wpList_push rfl (.tmp 32) (.tmp 34) 71 rfl W1.heap.size 3 Try.underlying71 II.out ⟨rfl, by decide⟩ _ O.length _ rfl HOA.out (some ⟨v2.heap.size, 0, none⟩) 1 1 _ rfl HSRC.out HOL.out HBS.out ?_)
        intro v' w1 hgr
        have hrow := hgr.row
        have hb2 : Below W1.heap.size W1 w1 := (bl_alloc HB1.out (.cells #[.int .i64 x] 3)).grown hgr.by_ HBS.out (fun g hg => (World.ownsRow.lt HOA.out g hg).1)
        have HROW := Lib.hid hrow
        have HB2 := Lib.hid hb2
        clear hgr hrow hb2
        go_wp2_with fail
        go_roundg (n - (k + 1))
        case measure => have := HMS.out; omega
        case rel =>
          refine ⟨k + 1, x, O ++ [x], rfl, by omega, by go_num, rfl, by rw [List.length_append, HO.out]; rfl, ?_, ?_, HB2.out⟩
          · rw [List.append_assoc]; exact HOT3.out
          · rw [flatI_append, List.length_append]; exact HROW.out
    · have hkn : n = k := by omega
      have hTO : O = T := by
        have := HOT.out
        rw [List.drop_eq_nil_of_le (by rw [HLL.out]; omega)] at this
        unfold strollT at this
        rw [List.append_nil] at this; exact this
      clear hlt hk
      obtain ⟨A', c', hv⟩ := own_form HOWN.out
      subst hv
      subst hTO
      subst hkn
      go_wp2_with fail
      go_ret
      exact ⟨A', c', rfl, ReadsI.of_row HOWN.out (by have := HTL.out; have := HLL.out; unfold maxLen; omega) HTW.out, fun b o e => by have := own_in HOWN.out b o e; have := HB.out.size; omega, bl_then HB.out HBR.out, own_shape HOWN.out⟩
end Go.Proofs.Ytkdpfbefdhjmcaa
