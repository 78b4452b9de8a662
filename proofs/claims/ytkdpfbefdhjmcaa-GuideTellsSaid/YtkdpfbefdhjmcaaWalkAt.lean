/- walk.Valid, Weight, End, Cmp; the document's Walk, Weight, End, Cmp. -/
import Derived.Test.YtkdpfbefdhjmcaaWalkPure
import Derived.Test.YtkdpfbefdhjmcaaTurnsMay
import Derived.Test.YtkdpfbefdhjmcaaTurn4
import Derived.BigQuiet
set_option linter.unusedVariables false
set_option linter.unusedSimpArgs false
namespace Go.Proofs.Ytkdpfbefdhjmcaa
open Go.ChangeShapes Go.WideShapes Go.ChangeAt Go.RowKit
set_option maxRecDepth 100000 in
set_option maxHeartbeats 8000000 in
theorem valid_at {w : World} {B E t p : Nat} {ns bs : List (Int × Int)} {es : List (Int × Int × Int)} (h : TurnsAt w B E t p ns es bs) {A : Option Addr} {n c : Nat} {xs : List Int} (hr : ReadsI w A n c xs) (a : Int) :
    Calls Try.prog 57 #[.pointer (some ⟨t, 0, none⟩), .int .i64 a, .slice A n c] w fun e w' => e = .returned (.bool (walkB es bs a xs)) ∧ Below w.heap.size w w' := by
  have hm := hr.small
  unfold maxLen at hm
  have hm2 : n ≤ 9223372036854775807 := by omega
  have HT := Lib.hid h
  have HR := Lib.hid hr
  have HL := Lib.hid hr.len
  obtain ⟨tb, R, hT⟩ := h
  have c0 := block_cell hT.ht (j := 0) rfl
  have HG := Lib.hid hT.g
  clear hT hr hm
  cases hin : inB 0 a ((es.length : Int) - 1) with
  | false =>
    have hv : walkB es bs a xs = false := by unfold walkB; rw [hin]; rfl
    rw [hv]
    unfold inB at hin
    simp only [Bool.and_eq_false_iff, decide_eq_false_iff_not] at hin
    clear hv
    by_cases h0 : a < 0
    · clear hin
      go_enter Try.func57, Try.ntmps57
      go_wp2_with fail
      go_ret
      exact ⟨rfl, Below.refl _ _⟩
    · have h1 : (es.length : Int) ≤ a := by omega
      clear hin
      go_enter Try.func57, Try.ntmps57
      go_wp2_with (go_at_call 19; refine (edges_at HG.out).mono ?_; rintro e w' ⟨rfl, rfl⟩)
      go_ret
      exact ⟨rfl, Below.refl _ _⟩
  | true =>
    have hv : walkB es bs a xs = chainB es bs a xs := by unfold walkB; rw [hin]; rfl
    rw [hv]
    unfold inB at hin
    simp only [Bool.and_eq_true, decide_eq_true_eq] at hin
    obtain ⟨h0, h1⟩ := hin
    have h0' : ¬ a < 0 := by omega
    have h1' : a < (es.length : Int) := by omega
    clear hv h1 h0
    go_enter Try.func57, Try.ntmps57
    go_wp2_with (go_at_call 19; refine (edges_at HG.out).mono ?_; rintro e w' ⟨rfl, rfl⟩)
    go_loopg [1, 26] n (fun M v u wr => ∃ k : Nat, M = n - k ∧ k ≤ n ∧ u = .int .i64 (k : Nat) ∧ v = .int .i64 (lastI a (xs.take k)) ∧ chainB es bs a (xs.take k) = true ∧ Below w.heap.size w wr)
    case atStart => exact ⟨0, rfl, Nat.zero_le _, rfl, rfl, rfl, Below.refl _ _⟩
    case round =>
      obtain ⟨k, hM, hk, rfl, rfl, hch, hb⟩ := hrel
      have HM := Lib.hid hM
      have HCH := Lib.hid hch
      have HB := Lib.hid hb
      clear hM hch hb c0
      by_cases hlt : k < n
      · obtain ⟨bX, oX, rfl, hcell⟩ := (HR.out.below HB.out).cell (by omega)
        have d0 := hcell k hlt
        have hkl : k < xs.length := by rw [HL.out]; exact hlt
        have hst := chain_step (es := es) (bs := bs) (a := a) hkl
        have hls := last_step (a := a) hkl
        rw [HCH.out, Bool.true_and] at hst
        have hmay := may_at (HT.out.below HB.out) (lastI a (xs.take k)) (xs.getD k 0)
        obtain ⟨y, hy⟩ : ∃ y, y = xs.getD k 0 := ⟨_, rfl⟩
        obtain ⟨x, hx⟩ : ∃ x, x = lastI a (xs.take k) := ⟨_, rfl⟩
        rw [← hy] at d0 hst hls hmay
        rw [← hx] at hst hmay ⊢
        obtain ⟨tv, htv⟩ : ∃ tv, tv = turnB es bs x y := ⟨_, rfl⟩
        rw [← htv] at hst hmay
        have HST := Lib.hid hst
        have HLS := Lib.hid hls
        have HMAY := Lib.hid hmay
        have k0 : (0 : Int) ≤ (k : Int) := by omega
        have k1 : (k : Int) < (n : Int) := by omega
        clear hcell hst hls hmay hy hx htv
        rcases bool_or tv with rfl | rfl
        · go_wp2_with fail
          refine HMAY.out.mono ?_
          rintro e v1 ⟨rfl, hb1⟩
          have HB1 := Lib.hid (bl_then HB.out hb1)
          clear hb1
          go_wp2_with fail
          go_roundg (n - (k + 1))
          case measure => have := HM.out; omega
          case rel => exact ⟨k + 1, rfl, by omega, by go_num, by rw [HLS.out], HST.out, HB1.out⟩
        · go_wp2_with fail
          refine HMAY.out.mono ?_
          rintro e v1 ⟨rfl, hb1⟩
          have HB1 := Lib.hid (bl_then HB.out hb1)
          clear hb1
          go_wp2_with fail
          go_ret
          exact ⟨by rw [chain_false HST.out]; rfl, HB1.out⟩
      · have hkn : n = k := by omega
        subst hkn
        clear hlt hk
        have hf : chainB es bs a xs = true := by have := HCH.out; rw [List.take_of_length_le (by rw [HL.out]; exact Nat.le_refl _)] at this; exact this
        have HF := Lib.hid hf
        clear hf
        go_wp2_with fail
        go_ret
        exact ⟨by rw [HF.out]; rfl, HB.out⟩
set_option maxRecDepth 100000 in
set_option maxHeartbeats 8000000 in
theorem weight_at {w : World} {B E t p : Nat} {ns bs : List (Int × Int)} {es : List (Int × Int × Int)} (h : TurnsAt w B E t p ns es bs) {A : Option Addr} {n c : Nat} {xs : List Int} (hr : ReadsI w A n c xs) (hn : n ≤ 1099511627776) :
    Calls Try.prog 71 #[.pointer (some ⟨t, 0, none⟩), .slice A n c] w fun e w' => e = .returned (.tuple #[.int .i64 (wgtT es xs), .bool (okE es xs)]) ∧ Below w.heap.size w w' := by
  have HT := Lib.hid h
  have HR := Lib.hid hr
  have HL := Lib.hid hr.len
  obtain ⟨tb, R, hT⟩ := h
  have HC0 := Lib.hid (block_cell hT.ht (j := 0) rfl)
  have HG := Lib.hid hT.g
  have HOK := Lib.hid hT.g.bd.1
  clear hT hr
  go_enter Try.func71, Try.ntmps71
  go_wp2_with fail
  go_loopg [4, 12] n (fun M v u wr => ∃ k : Nat, M = n - k ∧ k ≤ n ∧ u = .int .i64 (k : Nat) ∧ v = .int .i64 (sumW es (xs.take k)) ∧ okE es (xs.take k) = true ∧ Below w.heap.size w wr)
  case atStart => exact ⟨0, rfl, Nat.zero_le _, rfl, rfl, rfl, Below.refl _ _⟩
  case round =>
    obtain ⟨k, hM, hk, rfl, rfl, hch, hb⟩ := hrel
    have HM := Lib.hid hM
    have HCH := Lib.hid hch
    have HB := Lib.hid hb
    clear hM hch hb
    by_cases hlt : k < n
    · obtain ⟨bX, oX, rfl, hcell⟩ := (HR.out.below HB.out).cell (by omega)
      have d0 := hcell k hlt
      have hkl : k < xs.length := by rw [HL.out]; exact hlt
      have hst := ok_step (es := es) hkl
      have hsu := sum_step (es := es) hkl
      rw [HCH.out, Bool.true_and] at hst
      have hbd := sum_bd HOK.out (xs.take k)
      rw [List.length_take_of_le (by omega)] at hbd
      have hedge := edge_at (HG.out.below HB.out) (xs.getD k 0)
      have t0 := cell_below HC0.out HB.out
      obtain ⟨y, hy⟩ : ∃ y, y = xs.getD k 0 := ⟨_, rfl⟩
      rw [← hy] at d0 hst hsu hedge
      obtain ⟨x, hx⟩ : ∃ x, x = sumW es (xs.take k) := ⟨_, rfl⟩
      rw [← hx] at hsu hbd ⊢
      have k0 : (0 : Int) ≤ (k : Int) := by omega
      have k1 : (k : Int) < (n : Int) := by omega
      cases hin : inB 0 y ((es.length : Int) - 1) with
      | true =>
        rw [hin] at hst hedge
        have het : edgeT es y = es.getD y.toNat (0, 0, 0) := by unfold edgeT; rw [if_pos hin]
        rw [het] at hedge
        have hwb := w_bd HOK.out y.toNat
        obtain ⟨g, hg⟩ : ∃ g, g = es.getD y.toNat (0, 0, 0) := ⟨_, rfl⟩
        rw [← hg] at hsu hedge hwb
        obtain ⟨g0, g1, g2⟩ := g
        dsimp only at hsu hedge hwb
        have hsb : x + g2 ≤ 72057594037927936 := by omega
        have hsb0 : 0 ≤ x + g2 := by omega
        have hx0 := hbd.1
        have hg0 := hwb.1
        have HST := Lib.hid hst
        have HSU := Lib.hid hsu
        have HEDGE := Lib.hid hedge
        clear hcell hst hsu hbd hedge hy hx hg het hwb hin
        go_wp2_with fail
        refine HEDGE.out.mono ?_
        rintro e v1 ⟨rfl, hb1⟩
        have HB1 := Lib.hid (bl_alloc (bl_then HB.out hb1) (.cells #[.int .i64 g0, .int .i64 g1, .int .i64 g2] 63))
        have c2 : (v1.alloc (.cells #[.int .i64 g0, .int .i64 g1, .int .i64 g2] 63)).cell? ⟨v1.heap.size, 2, none⟩ = some (.int .i64 g2) := cell_three_new 2 _ rfl
        clear hb1
        go_wp2_with fail
        go_roundg (n - (k + 1))
        case measure => have := HM.out; omega
        case rel => exact ⟨k + 1, rfl, by omega, by go_num, by rw [HSU.out], HST.out, HB1.out⟩
      | false =>
        rw [hin] at hst hedge
        have het : edgeT es y = (0, 0, 0) := by unfold edgeT; rw [if_neg (by rw [hin]; simp)]
        rw [het] at hedge
        have hf : okE es xs = false := ok_false hst
        have HF := Lib.hid hf
        have HEDGE := Lib.hid hedge
        clear hcell hst hsu hbd hedge hy hx het hin hf
        go_wp2_with fail
        refine HEDGE.out.mono ?_
        rintro e v1 ⟨rfl, hb1⟩
        have HB1 := Lib.hid (bl_alloc (bl_then HB.out hb1) (.cells #[.int .i64 0, .int .i64 0, .int .i64 0] 63))
        clear hb1
        go_wp2_with fail
        go_ret2
        exact ⟨by unfold wgtT; rw [HF.out]; rfl, HB1.out⟩
    · have hkn : n = k := by omega
      subst hkn
      clear hlt hk
      have he : xs.take n = xs := List.take_of_length_le (by rw [HL.out]; exact Nat.le_refl _)
      have hf := HCH.out
      rw [he] at hf ⊢
      have HF := Lib.hid hf
      clear hf he HCH
      go_wp2_with fail
      go_ret2
      exact ⟨by unfold wgtT; rw [HF.out]; rfl, HB.out⟩
end Go.Proofs.Ytkdpfbefdhjmcaa
