/- walk.End, Cmp; the document's Walk, Weight, End, Cmp. -/
import Derived.Test.YtkdpfbefdhjmcaaWalkAt
import Derived.Test.YtkdpfbefdhjmcaaOrder
import Derived.Deep.RegionHeld3
set_option linter.unusedVariables false
set_option linter.unusedSimpArgs false
namespace Go.Proofs.Ytkdpfbefdhjmcaa
open Go.ChangeShapes Go.WideShapes Go.ChangeAt Go.RowKit
set_option maxRecDepth 100000 in
set_option maxHeartbeats 8000000 in
theorem walk4_any {A1 A2 A3 : Option Addr} {n1 n2 n3 c1 c2 c3 : Nat} {ns : List (Int × Int)} {es : List (Int × Int × Int)} {bs : List (Int × Int)} {w : World} (h : GR w A1 A2 A3 n1 n2 n3 c1 c2 c3 ns es bs) {A : Option Addr} {n c : Nat} {xs : List Int} (hr : ReadsI w A n c xs) (a : Int) :
    Calls Try.prog 59 #[.agg #[.slice A1 n1 c1, .slice A2 n2 c2, .slice A3 n3 c3], .int .i64 a, .slice A n c] w fun e w' => e = .returned (.bool (walkB es bs a xs)) ∧ Below w.heap.size w w' := by
  have hm := hr.small
  unfold maxLen at hm
  have hm2 : n ≤ 9223372036854775807 := by omega
  have HL := Lib.hid hr.len
  have hle := h.rE.len
  subst hle
  have HSM := Lib.hid h.rE.small
  have HB := Lib.hid (bl_alloc (Below.refl w.heap.size w) (.cells #[.slice A1 n1 c1, .slice A2 es.length c2, .slice A3 n3 c3] 51))
  have HG := Lib.hid (h.below HB.out)
  obtain ⟨W1, hW1⟩ : ∃ W1, W1 = w.alloc (.cells #[.slice A1 n1 c1, .slice A2 es.length c2, .slice A3 n3 c3] 51) := ⟨_, rfl⟩
  have HS : Hid (∀ w', Below W1.heap.size W1 w' → w'.cell? ⟨w.heap.size, 0, none⟩ = some (.slice A1 n1 c1) ∧ w'.cell? ⟨w.heap.size, 1, none⟩ = some (.slice A2 es.length c2) ∧ w'.cell? ⟨w.heap.size, 2, none⟩ = some (.slice A3 n3 c3)) := Lib.hid fun w' hb => by subst hW1; exact GR.box hb
  rw [← hW1] at HG HB
  have HW := Lib.hid hW1
  clear hW1 h
  have HR := Lib.hid (hr.below HB.out)
  obtain ⟨l0, l1, l2⟩ : _ ∧ _ ∧ _ := GR.box (w := w) (A1 := A1) (A2 := A2) (A3 := A3) (n1 := n1) (n2 := es.length) (n3 := n3) (c1 := c1) (c2 := c2) (c3 := c3) (Below.refl _ _)
  have hedge := fun w' => edge4_c (A1 := A1) (n1 := n1) (c1 := c1) (A2 := A2) (c2 := c2) (A3 := A3) (n3 := n3) (c3 := c3) HSM.out a w'
  have hmE := HSM.out
  unfold maxLen at hmE
  have g2 : es.length ≤ 9223372036854775807 := by omega
  clear hr hm hmE
  cases hin : inB 0 a ((es.length : Int) - 1) with
  | false =>
    rw [hin] at hedge
    have hv : walkB es bs a xs = false := by unfold walkB; rw [hin]; rfl
    rw [hv]
    have HEDGE := Lib.hid hedge
    clear hedge hin hv
    go_enter Try.func59, Try.ntmps59
    go_wp2_with fail
    refine (HEDGE.out _).mono ?_
    rintro e v1 ⟨rfl, hb⟩
    have HB1 := Lib.hid hb
    clear hb
    go_wp2_with fail
    go_ret
    exact ⟨rfl, bl_then (bl_alloc (Below.refl _ _) _) HB1.out⟩
  | true =>
    rw [hin] at hedge
    have hv : walkB es bs a xs = chainB es bs a xs := by unfold walkB; rw [hin]; rfl
    rw [hv]
    have HEDGE := Lib.hid hedge
    clear hedge hin hv
    go_enter Try.func59, Try.ntmps59
    go_wp2_with fail
    refine (HEDGE.out _).mono ?_
    rintro e v1 ⟨rfl, hb⟩
    rw [← HW.out] at hb
    have HB1 := Lib.hid hb
    clear hb l0 l1 l2
    go_wp2_with fail
    go_loopg [1, 7] n (fun M v u wr => ∃ k : Nat, M = n - k ∧ k ≤ n ∧ u = .int .i64 (k : Nat) ∧ v = .int .i64 (lastI a (xs.take k)) ∧ chainB es bs a (xs.take k) = true ∧ Below W1.heap.size W1 wr)
    case atStart => exact ⟨0, rfl, Nat.zero_le _, rfl, rfl, rfl, HB1.out⟩
    case round =>
      obtain ⟨k, hM, hk, rfl, rfl, hch, hb⟩ := hrel
      have HM := Lib.hid hM
      have HCH := Lib.hid hch
      have HBR := Lib.hid hb
      obtain ⟨l0, l1, l2⟩ := HS.out _ hb
      clear hM hch hb
      by_cases hlt : k < n
      · obtain ⟨bX, oX, rfl, hcell⟩ := (HR.out.below HBR.out).cell (by omega)
        have d0 := hcell k hlt
        have hkl : k < xs.length := by rw [HL.out]; exact hlt
        have hst := chain_step (es := es) (bs := bs) (a := a) hkl
        have hls := last_step (a := a) hkl
        rw [HCH.out, Bool.true_and] at hst
        have K0 : Hid (Below W1.heap.size W1 wr.drew) := Lib.hid (bl_drew HBR.out)
        have hmay := turn4_any (HG.out.below K0.out) (lastI a (xs.take k)) (xs.getD k 0)
        obtain ⟨y, hy⟩ : ∃ y, y = xs.getD k 0 := ⟨_, rfl⟩
        obtain ⟨x, hx⟩ : ∃ x, x = lastI a (xs.take k) := ⟨_, rfl⟩
        rw [← hy] at d0 hst hls hmay
        rw [← hx] at hst hmay ⊢
        obtain ⟨tv, htv⟩ : ∃ tv, tv = turnB es bs x y := ⟨_, rfl⟩
        rw [← htv] at hst hmay
        have HST := Lib.hid hst
        have HLS := Lib.hid hls
        have HMAY := Lib.hid hmay
        have D0 := Lib.hid d0
        have HSX : Hid (∀ w', Below W1.heap.size W1 w' → wr.heap.size ≤ w'.heap.size → Below wr.heap.size wr w' → w'.cell? ⟨w.heap.size, 0, none⟩ = some (.slice A1 n1 c1) ∧ w'.cell? ⟨w.heap.size, 1, none⟩ = some (.slice A2 es.length c2) ∧ w'.cell? ⟨w.heap.size, 2, none⟩ = some (.slice A3 n3 c3) ∧ w'.cell? ⟨bX, oX + k, none⟩ = some (.int .i64 y)) :=
          Lib.hid fun w' h1 _ h2 => ⟨(HS.out w' h1).1, (HS.out w' h1).2.1, (HS.out w' h1).2.2, cell_below d0 h2⟩
        have L0 : Hid (Below wr.heap.size wr wr.drew) := Lib.hid (bl_drew (Below.refl _ _))
        have k0 : (0 : Int) ≤ (k : Int) := by omega
        have k1 : (k : Int) < (n : Int) := by omega
        clear hcell hst hls hmay hy hx htv
        rcases bool_or tv with rfl | rfl
        all_goals
          go_wp2_with fail
          go_region_held3 (fun w' => w'.cell? ⟨w.heap.size, 0, none⟩ = some (.slice A1 n1 c1) ∧ w'.cell? ⟨w.heap.size, 1, none⟩ = some (.slice A2 es.length c2) ∧ w'.cell? ⟨w.heap.size, 2, none⟩ = some (.slice A3 n3 c3) ∧ w'.cell? ⟨bX, oX + k, none⟩ = some (.int .i64 y))
            (first | exact HSX.out _ K0.out L0.out.size L0.out | exact HSX.out _ K1.out L1.out.size L1.out)
            ((go_at_call 69
              refine HMAY.out.mono ?_
              rintro e y1 ⟨rfl, hb⟩
              have K1 : Hid (Below W1.heap.size W1 y1) := Lib.hid (bl_then K0.out hb)
              have L1 : Hid (Below wr.heap.size wr y1) := Lib.hid (bl_then L0.out hb)
              have e0 := cell_below D0.out L1.out
              clear hb))
        · go_wp2_with fail
          go_roundg (n - (k + 1))
          case measure => have := HM.out; omega
          case rel => exact ⟨k + 1, rfl, by omega, by go_num, by rw [HLS.out], HST.out, K1.out⟩
        · go_wp2_with fail
          go_ret
          exact ⟨by rw [chain_false HST.out]; rfl, bl_then HB.out K1.out⟩
      · have hkn : n = k := by omega
        subst hkn
        clear hlt hk
        have hf : chainB es bs a xs = true := by have := HCH.out; rw [List.take_of_length_le (by rw [HL.out]; exact Nat.le_refl _)] at this; exact this
        have HF := Lib.hid hf
        clear hf
        go_wp2_with fail
        go_ret
        exact ⟨by rw [HF.out]; rfl, bl_then HB.out HBR.out⟩
set_option maxRecDepth 100000 in
set_option maxHeartbeats 8000000 in
theorem weight4_any {A1 A2 A3 : Option Addr} {n1 n2 n3 c1 c2 c3 : Nat} {ns : List (Int × Int)} {es : List (Int × Int × Int)} {bs : List (Int × Int)} {w : World} (h : GR w A1 A2 A3 n1 n2 n3 c1 c2 c3 ns es bs) (hok : mayB ns es bs = true) {A : Option Addr} {n c : Nat} {xs : List Int} (hr : ReadsI w A n c xs) (hn : n ≤ 1099511627776) :
    Calls Try.prog 60 #[.agg #[.slice A1 n1 c1, .slice A2 n2 c2, .slice A3 n3 c3], .slice A n c] w fun e w' => e = .returned (.tuple #[.int .i64 (wgtT es xs), .bool (okE es xs)]) ∧ Below w.heap.size w w' := by
  have HL := Lib.hid hr.len
  have HOK := Lib.hid hok
  have hle := h.rE.len
  subst hle
  have HSM := Lib.hid h.rE.small
  have HB := Lib.hid (bl_alloc (Below.refl w.heap.size w) (.cells #[.slice A1 n1 c1, .slice A2 es.length c2, .slice A3 n3 c3] 51))
  have HG := Lib.hid (h.below HB.out)
  obtain ⟨W1, hW1⟩ : ∃ W1, W1 = w.alloc (.cells #[.slice A1 n1 c1, .slice A2 es.length c2, .slice A3 n3 c3] 51) := ⟨_, rfl⟩
  have HS : Hid (∀ w', Below W1.heap.size W1 w' → w'.cell? ⟨w.heap.size, 0, none⟩ = some (.slice A1 n1 c1) ∧ w'.cell? ⟨w.heap.size, 1, none⟩ = some (.slice A2 es.length c2) ∧ w'.cell? ⟨w.heap.size, 2, none⟩ = some (.slice A3 n3 c3)) := Lib.hid fun w' hb => by subst hW1; exact GR.box hb
  rw [← hW1] at HG HB
  have HW := Lib.hid hW1
  clear hW1 h
  have HR := Lib.hid (hr.below HB.out)
  have hmE := HSM.out
  unfold maxLen at hmE
  have g2 : es.length ≤ 9223372036854775807 := by omega
  clear hr hmE hok
  go_enter Try.func60, Try.ntmps60
  go_wp2_with fail
  rw [← HW.out]
  go_loopg [6, 7] n (fun M v u wr => ∃ k : Nat, M = n - k ∧ k ≤ n ∧ u = .int .i64 (k : Nat) ∧ v = .int .i64 (sumW es (xs.take k)) ∧ okE es (xs.take k) = true ∧ Below W1.heap.size W1 wr)
  case atStart => exact ⟨0, rfl, Nat.zero_le _, rfl, rfl, rfl, Below.refl _ _⟩
  case round =>
    obtain ⟨k, hM, hk, rfl, rfl, hch, hb⟩ := hrel
    have HM := Lib.hid hM
    have HCH := Lib.hid hch
    have HBR := Lib.hid hb
    obtain ⟨l0, l1, l2⟩ := HS.out _ hb
    clear hM hch hb
    by_cases hlt : k < n
    · obtain ⟨bX, oX, rfl, hcell⟩ := (HR.out.below HBR.out).cell (by omega)
      have d0 := hcell k hlt
      have hkl : k < xs.length := by rw [HL.out]; exact hlt
      have hst := ok_step (es := es) hkl
      have hsu := sum_step (es := es) hkl
      rw [HCH.out, Bool.true_and] at hst
      have hbd := sum_bd HOK.out (xs.take k)
      rw [List.length_take_of_le (by omega)] at hbd
      have hedge := fun w' => edge4_c (A1 := A1) (n1 := n1) (c1 := c1) (A2 := A2) (c2 := c2) (A3 := A3) (n3 := n3) (c3 := c3) HSM.out (xs.getD k 0) w'
      obtain ⟨y, hy⟩ : ∃ y, y = xs.getD k 0 := ⟨_, rfl⟩
      rw [← hy] at d0 hst hsu hedge
      obtain ⟨x, hx⟩ : ∃ x, x = sumW es (xs.take k) := ⟨_, rfl⟩
      rw [← hx] at hsu hbd ⊢
      have D0 := Lib.hid d0
      have k0 : (0 : Int) ≤ (k : Int) := by omega
      have k1 : (k : Int) < (n : Int) := by omega
      have K0 : Hid (Below W1.heap.size W1 wr.drew) := Lib.hid (bl_drew HBR.out)
      have L0 : Hid (Below wr.heap.size wr wr.drew) := Lib.hid (bl_drew (Below.refl _ _))
      have HSX : Hid (∀ w', Below W1.heap.size W1 w' → Below wr.heap.size wr w' → w'.cell? ⟨w.heap.size, 0, none⟩ = some (.slice A1 n1 c1) ∧ w'.cell? ⟨w.heap.size, 1, none⟩ = some (.slice A2 es.length c2) ∧ w'.cell? ⟨w.heap.size, 2, none⟩ = some (.slice A3 n3 c3) ∧ w'.cell? ⟨bX, oX + k, none⟩ = some (.int .i64 y)) :=
        Lib.hid fun w' h1 h2 => ⟨(HS.out w' h1).1, (HS.out w' h1).2.1, (HS.out w' h1).2.2, cell_below d0 h2⟩
      cases hin : inB 0 y ((es.length : Int) - 1) with
      | true =>
        rw [hin] at hst hedge
        unfold inB at hin
        simp only [Bool.and_eq_true, decide_eq_true_eq] at hin
        obtain ⟨z, rfl⟩ : ∃ z : Nat, y = (z : Int) := ⟨y.toNat, by omega⟩
        rw [Int.toNat_natCast] at hsu
        have hwb := w_bd HOK.out z
        obtain ⟨bE, oE, rfl, hcE⟩ := HG.out.rE.cell (by omega)
        have w2 := (hcE z (by omega)).2.2
        obtain ⟨g2', hg⟩ : ∃ g, g = (es.getD z (0, 0, 0)).2.2 := ⟨_, rfl⟩
        rw [← hg] at hsu hwb w2
        have hsb : x + g2' ≤ 72057594037927936 := by omega
        have hsb0 : 0 ≤ x + g2' := by omega
        have hx0 := hbd.1
        have hg0 := hwb.1
        have z0 : (0 : Int) ≤ (z : Int) := by omega
        have z1 : (z : Int) < (es.length : Int) := by omega
        have HST := Lib.hid hst
        have HSU := Lib.hid hsu
        have HEDGE := Lib.hid hedge
        have W2 := Lib.hid w2
        clear hcell hst hsu hbd hedge hy hx hg hwb hin hcE w2
        go_wp2_with fail
        go_region_held3 (fun w' => w'.cell? ⟨w.heap.size, 0, none⟩ = some (.slice A1 n1 c1) ∧ w'.cell? ⟨w.heap.size, 1, none⟩ = some (.slice (some ⟨bE, oE, none⟩) es.length c2) ∧ w'.cell? ⟨w.heap.size, 2, none⟩ = some (.slice A3 n3 c3) ∧ w'.cell? ⟨bX, oX + k, none⟩ = some (.int .i64 (z : Int)))
          (first | exact HSX.out _ K0.out L0.out | exact HSX.out _ K1.out L1.out)
          ((go_at_call 25
            refine (HEDGE.out _).mono ?_
            rintro e y1 ⟨rfl, hb⟩
            have K1 : Hid (Below W1.heap.size W1 y1) := Lib.hid (bl_then K0.out hb)
            have L1 : Hid (Below wr.heap.size wr y1) := Lib.hid (bl_then L0.out hb)
            have e0 := cell_below D0.out L1.out
            have e1 := (HS.out _ K1.out).2.1
            have e2 := cell_below W2.out K1.out
            have s0 : IntKind.i64.wrap (x + g2') = x + g2' := IntWalk.i64_in _ (by omega)
            clear hb))
        go_wp2_with fail
        go_quiet (fail)
        go_wp2_with fail
        go_roundg (n - (k + 1))
        case measure => have := HM.out; omega
        case rel => exact ⟨k + 1, rfl, by omega, by go_num, by rw [HSU.out], HST.out, bl_drewN K1.out _⟩
      | false =>
        rw [hin] at hst hedge
        have hf : okE es xs = false := ok_false hst
        have HF := Lib.hid hf
        have HEDGE := Lib.hid hedge
        clear hcell hst hsu hbd hedge hy hx hin hf
        go_wp2_with fail
        go_region_held3 (fun w' => w'.cell? ⟨w.heap.size, 0, none⟩ = some (.slice A1 n1 c1) ∧ w'.cell? ⟨w.heap.size, 1, none⟩ = some (.slice A2 es.length c2) ∧ w'.cell? ⟨w.heap.size, 2, none⟩ = some (.slice A3 n3 c3) ∧ w'.cell? ⟨bX, oX + k, none⟩ = some (.int .i64 y))
          (first | exact HSX.out _ K0.out L0.out | exact HSX.out _ K1.out L1.out)
          ((go_at_call 25
            refine (HEDGE.out _).mono ?_
            rintro e y1 ⟨rfl, hb⟩
            have K1 : Hid (Below W1.heap.size W1 y1) := Lib.hid (bl_then K0.out hb)
            have L1 : Hid (Below wr.heap.size wr y1) := Lib.hid (bl_then L0.out hb)
            clear hb))
        go_wp2_with fail
        go_ret2
        exact ⟨by unfold wgtT; rw [HF.out]; rfl, bl_then HB.out K1.out⟩
    · have hkn : n = k := by omega
      subst hkn
      clear hlt hk
      have he : xs.take n = xs := List.take_of_length_le (by rw [HL.out]; exact Nat.le_refl _)
      have hf := HCH.out
      rw [he] at hf ⊢
      have HF := Lib.hid hf
      clear hf he HCH
      go_wp2_with fail
      go_ret2
      exact ⟨by unfold wgtT; rw [HF.out]; rfl, bl_then HB.out HBR.out⟩
end Go.Proofs.Ytkdpfbefdhjmcaa
