/- All turns: turns.Arcs and the document's; two rows that are alike. -/
import Derived.Test.YtjcaoejodjmmkaaArcsMem
import Derived.Test.YtjcaoejodjmmkaaTurnsUse
import Derived.BigQuiet
import Derived.Deep.RegionHeld3
set_option linter.unusedVariables false
set_option linter.unusedSimpArgs false
namespace Go.Proofs.Ytjcaoejodjmmkaa
open Go.ChangeShapes Go.WideShapes Go.ChangeAt Go.RowKit
set_option maxHeartbeats 16000000 in
set_option maxRecDepth 100000 in
theorem arcs_at {w : World} {B E t p : Nat} {ns bs : List (Int × Int)} {es : List (Int × Int × Int)} (h : TurnsAt w B E t p ns es bs) : Calls Try.prog 40 #[.pointer (some ⟨t, 0, none⟩)] w fun e w' =>
    ∃ A' c', e = .returned (.slice A' (arcsT es bs).length c') ∧ ReadsQ w' A' (arcsT es bs).length c' (arcsT es bs) ∧ Below w.heap.size w w' := by
  obtain ⟨tb, R, h⟩ := h
  obtain ⟨_, ⟨s1, s2, s3, s4⟩, _, _⟩ := mayB_parts h.g.bd.1
  obtain ⟨i4, hi4⟩ := info4
  have IQ := Lib.hid hi4
  have HG := Lib.hid h.g
  have HT := Lib.hid h
  have c0 := block_cell h.ht (j := 0) rfl
  have c1 := block_cell h.ht (j := 1) rfl
  have HC0 := Lib.hid c0
  clear h hi4 c0
  go_enter Try.func40, Try.ntmps40
  go_wp2_with fail
  go_loopg [2, 16] es.length (fun M v u wr => ∃ a : Nat, M = es.length - a ∧ a ≤ es.length ∧ u = .int .i64 (a : Nat) ∧ wr.ownsRow w.heap.size 69 4 v (arcsN es bs a).length (flat4 (arcsN es bs a)) ∧ Below w.heap.size w wr)
  case atStart => exact ⟨0, rfl, Nat.zero_le _, rfl, World.ownsRow_nil _ _ _ _, Below.refl _ _⟩
  case round =>
    obtain ⟨a, hM, ha, rfl, hown, hb⟩ := hrel
    have HM := Lib.hid hM
    have HOWN := Lib.hid hown
    have HBR := Lib.hid hb
    clear hM hown hb c1
    by_cases hlt : a < es.length
    · have htab := cell_below (HT.out.tr.cell true hlt) HBR.out
      have hrow := HT.out.tr.row true a hlt
      obtain ⟨A, c, hR⟩ := own_form hrow
      rw [hR] at hrow htab
      have hrd : ReadsI w A (nextT es bs (a : Int)).length c (nextT es bs (a : Int)) := ReadsI.of_row (by simpa using hrow) (by have := nextT_len es bs (a : Int); unfold maxLen; omega) (nextT_wf s3 bs _)
      simp only [if_true] at htab
      have hln := nextT_len es bs (a : Int)
      have hsucc := arcsN_succ es bs a
      have hsm := arcsN_small s3 bs (show a ≤ 512 by omega)
      have hget : ∀ j, j < (nextT es bs (a : Int)).length → ∃ q : Nat, (nextT es bs (a : Int)).getD j 0 = (q : Int) ∧ q < es.length := fun j hj => by obtain ⟨q, h1, h2, _⟩ := next_get hj; exact ⟨q, h1, h2⟩
      obtain ⟨T, hT⟩ : ∃ T, T = nextT es bs (a : Int) := ⟨_, rfl⟩
      rw [← hT] at htab hrd hln hsucc hget
      obtain ⟨C, hC⟩ : ∃ C, C = arcsN es bs a := ⟨_, rfl⟩
      rw [← hC] at hsucc hsm
      have HOWN' := HOWN
      rw [← hC] at HOWN'
      obtain ⟨ln, hl⟩ : ∃ ln, ln = T.length := ⟨_, rfl⟩
      rw [← hl] at htab hrd hln hget
      have HRD := Lib.hid hrd
      have HSUCC := Lib.hid hsucc
      have HGET := Lib.hid hget
      have HL := Lib.hid hl
      have a0 : (0 : Int) ≤ (a : Int) := by omega
      have a1 : (a : Int) < (es.length : Int) := by omega
      clear hrow hR hrd hsucc hget hT hC hl HOWN
      go_wp2_with fail
      go_loopg [2, 23] ln (fun M v u wq => ∃ j : Nat, M = ln - j ∧ j ≤ ln ∧ u = .int .i64 (j : Nat) ∧ wq.ownsRow w.heap.size 69 4 v (C ++ arcRow es a (T.take j)).length (flat4 (C ++ arcRow es a (T.take j))) ∧ Below w.heap.size w wq)
      case atStart => exact ⟨0, rfl, Nat.zero_le _, rfl, by simp only [List.take_zero, arcRow, List.map_nil, List.append_nil]; exact HOWN'.out, HBR.out⟩
      case round =>
        obtain ⟨j, hM2, hj, rfl, hown, hb⟩ := hrel
        have HM2 := Lib.hid hM2
        have HOQ := Lib.hid hown
        have HBQ := Lib.hid hb
        clear hM2 hown hb HOWN'
        by_cases hjl : j < ln
        · obtain ⟨q, hq, hq1⟩ := HGET.out j hjl
          obtain ⟨bT, oT, rfl, hcell⟩ := (HRD.out.below HBQ.out).cell (by omega)
          have d0 := hcell j hjl
          rw [hq] at d0
          have htk : T.take (j + 1) = T.take j ++ [(q : Int)] := by rw [take_snocI (by rw [← HL.out]; exact hjl), hq]
          have harc : arcRow es a (T.take (j + 1)) = arcRow es a (T.take j) ++ [((a : Int), (q : Int), (es.getD q (0, 0, 0)).2.2)] := by rw [htk, arcRow_snoc]; rfl
          have hlen : (C ++ arcRow es a (T.take j)).length ≤ 262656 := by
            rw [List.length_append]; unfold arcRow; rw [List.length_map]
            have := List.length_take_le j T
            omega
          have hedge := edge_at (HG.out.below HBQ.out) (q : Int)
          rw [edgeT_in hq1, inB_nat hq1] at hedge
          obtain ⟨x, hx⟩ : ∃ x, x = es.getD q (0, 0, 0) := ⟨_, rfl⟩
          rw [← hx] at hedge harc
          obtain ⟨x0, x1, x2⟩ := x
          dsimp only at hedge harc
          obtain ⟨D, hD⟩ : ∃ D, D = C ++ arcRow es a (T.take j) := ⟨_, rfl⟩
          have harc2 : C ++ arcRow es a (T.take (j + 1)) = D ++ [((a : Int), (q : Int), x2)] := by rw [harc, hD, List.append_assoc]
          rw [← hD] at hlen
          have HOQ' := HOQ
          rw [← hD] at HOQ'
          have HEDGE := Lib.hid hedge
          have HARC := Lib.hid harc2
          have t0 := cell_below HC0.out HBQ.out
          have j0 : (0 : Int) ≤ (j : Int) := by omega
          have j1 : (j : Int) < (ln : Int) := by omega
          clear hcell hq htk harc harc2 hedge hx hD HOQ
          go_wp2_with fail
          refine HEDGE.out.mono ?_
          rintro e v1 ⟨rfl, hb1⟩
          have hb2 : Below w.heap.size w (v1.alloc (.cells #[.int .i64 x0, .int .i64 x1, .int .i64 x2] 36)) := bl_alloc (bl_then HBQ.out hb1) _
          have c2 : (v1.alloc (.cells #[.int .i64 x0, .int .i64 x1, .int .i64 x2] 36)).cell? ⟨v1.heap.size, 2, none⟩ = some (.int .i64 x2) := cell_three_new 2 _ rfl
          have hup := own_upd (own_upd HOQ'.out (Upd.of_below (F := fun _ => False) (bl_alloc hb1 (.cells #[.int .i64 x0, .int .i64 x1, .int .i64 x2] 36))) (fun _ _ h => h)) (Upd.of_below (F := fun _ => False) (bl_alloc (Below.refl _ _) (.cells #[.int .i64 (a : Int), .int .i64 (q : Int), .int .i64 x2, .int .i64 (-1)] 69))) (fun _ _ h => h)
          have hsrc := Src.new (w := v1.alloc (.cells #[.int .i64 x0, .int .i64 x1, .int .i64 x2] 36)) (vs := #[.int .i64 (a : Int), .int .i64 (q : Int), .int .i64 x2, .int .i64 (-1)]) (t := 69) (size := 4) (by intro u hu; simp at hu; rcases hu with rfl | rfl | rfl | rfl <;> rfl) rfl
          rw [size_alloc] at hsrc
          have HUP := Lib.hid hup
          have HSRC := Lib.hid hsrc
          have HB2 := Lib.hid hb2
          have HBS : Hid (w.heap.size ≤ ((v1.alloc (.cells #[.int .i64 x0, .int .i64 x1, .int .i64 x2] 36)).alloc (.cells #[.int .i64 (a : Int), .int .i64 (q : Int), .int .i64 x2, .int .i64 (-1)] 69)).heap.size) := Lib.hid (bl_alloc hb2 _).size
          clear hb1 hb2 hup hsrc
          go_wp2_with (at_builtin; refine wpList_push rfl (.tmp 36) (.tmp 42) 62 rfl w.heap.size 69 Try.underlying62 IQ.out ⟨rfl, by decide⟩ _ D.length _ rfl HUP.out (some ⟨v1.heap.size + 1, 0, none⟩) 1 1 _ rfl HSRC.out ⟨by unfold maxLen; omega, by omega⟩ HBS.out ?_)
          intro v' w1 hgr
          have hrow := hgr.row
          have hb3 : Below w.heap.size w w1 := (bl_alloc HB2.out (.cells #[.int .i64 (a : Int), .int .i64 (q : Int), .int .i64 x2, .int .i64 (-1)] 69)).grown hgr.by_ HBS.out (fun g hg => (World.ownsRow.lt HUP.out g hg).1)
          have HROW := Lib.hid hrow
          have HB3 := Lib.hid hb3
          clear hgr hrow hb3 c2
          go_wp2_with fail
          go_roundg (ln - (j + 1))
          case measure => have := HM2.out; omega
          case rel =>
            refine ⟨j + 1, rfl, by omega, by go_num, ?_, HB3.out⟩
            rw [HARC.out, List.length_append, flat4_append]; exact HROW.out
        · have hjn : ln = j := by omega
          subst hjn
          clear hjl hj
          have hfin : C ++ arcRow es a (T.take ln) = arcsN es bs (a + 1) := by rw [HSUCC.out, List.take_of_length_le (by rw [HL.out]; exact Nat.le_refl _)]
          have HFIN := Lib.hid hfin
          clear hfin
          go_wp2_with fail
          go_roundg (es.length - (a + 1))
          case measure => have := HM.out; omega
          case rel =>
            refine ⟨a + 1, rfl, by omega, by go_num, ?_, HBQ.out⟩
            rw [← HFIN.out]; exact HOQ.out
    · have han : es.length = a := by omega
      subst han
      clear hlt ha
      obtain ⟨A', c', hv⟩ := own_form HOWN.out
      subst hv
      have hsm := arcsN_small s3 bs s3
      go_wp2_with fail
      go_ret
      exact ⟨A', c', rfl, ReadsQ.of_row HOWN.out (by have : (arcsT es bs).length ≤ 262144 := hsm; unfold maxLen; omega), HBR.out⟩
set_option maxHeartbeats 16000000 in
set_option maxRecDepth 100000 in
theorem arcs4_any {A1 A2 A3 : Option Addr} {n1 n2 n3 c1 c2 c3 : Nat} {ns : List (Int × Int)} {es : List (Int × Int × Int)} {bs : List (Int × Int)} {w : World} (h : GR w A1 A2 A3 n1 n2 n3 c1 c2 c3 ns es bs) (hm : n2 ≤ 512) :
    Calls Try.prog 41 #[.agg #[.slice A1 n1 c1, .slice A2 n2 c2, .slice A3 n3 c3]] w fun e w' => ∃ A' c', e = .returned (.slice A' (arcsT es bs).length c') ∧ ReadsQ w' A' (arcsT es bs).length c' (arcsT es bs) ∧ (∀ b o, A' = some ⟨b, o, none⟩ → w.heap.size ≤ b ∧ b < w'.heap.size) ∧ Below w.heap.size w w' := by
  have HLE := Lib.hid h.rE.len
  have s3 : es.length ≤ 512 := by rw [h.rE.len]; exact hm
  have HB := Lib.hid (bl_alloc (Below.refl w.heap.size w) (.cells #[.slice A1 n1 c1, .slice A2 n2 c2, .slice A3 n3 c3] 28))
  have HG := Lib.hid (h.below HB.out)
  obtain ⟨i4, hi4⟩ := info4
  have IQ := Lib.hid hi4
  clear h hi4
  obtain ⟨W1, hW1⟩ : ∃ W1, W1 = w.alloc (.cells #[.slice A1 n1 c1, .slice A2 n2 c2, .slice A3 n3 c3] 28) := ⟨_, rfl⟩
  have HS : Hid (∀ w', Below W1.heap.size W1 w' → w'.cell? ⟨w.heap.size, 0, none⟩ = some (.slice A1 n1 c1) ∧ w'.cell? ⟨w.heap.size, 1, none⟩ = some (.slice A2 n2 c2) ∧ w'.cell? ⟨w.heap.size, 2, none⟩ = some (.slice A3 n3 c3)) := Lib.hid fun w' hb => by subst hW1; exact GR.box hb
  rw [← hW1] at HG HB
  have HW := Lib.hid hW1
  clear hW1
  go_enter Try.func41, Try.ntmps41
  go_wp2_with fail
  rw [← HW.out]
  go_loopg [3, 4] n2 (fun M v u wr => ∃ a : Nat, M = n2 - a ∧ a ≤ n2 ∧ u = .int .i64 (a : Nat) ∧ wr.ownsRow W1.heap.size 69 4 v (arcsN es bs a).length (flat4 (arcsN es bs a)) ∧ Below W1.heap.size W1 wr)
  case atStart => exact ⟨0, rfl, Nat.zero_le _, rfl, World.ownsRow_nil _ _ _ _, Below.refl _ _⟩
  case round =>
    obtain ⟨a, hM, ha, rfl, hown, hb⟩ := hrel
    have HM := Lib.hid hM
    have HOWN := Lib.hid hown
    have HBR := Lib.hid hb
    obtain ⟨k0, k1, k2⟩ := HS.out _ hb
    clear hM hown hb
    by_cases hlt : a < n2
    · have hln := nextT_len es bs (a : Int)
      rw [HLE.out] at hln
      have hsucc := arcsN_succ es bs a
      have hsm := arcsN_small s3 bs (show a ≤ 512 by omega)
      have hget : ∀ j, j < (nextT es bs (a : Int)).length → ∃ q : Nat, (nextT es bs (a : Int)).getD j 0 = (q : Int) ∧ q < n2 := fun j hj => by obtain ⟨q, h1, h2, _⟩ := next_get hj; rw [HLE.out] at h2; exact ⟨q, h1, h2⟩
      have hnext := next4_any (HG.out.below HBR.out) hm (a : Int)
      obtain ⟨T, hT⟩ : ∃ T, T = nextT es bs (a : Int) := ⟨_, rfl⟩
      rw [← hT] at hln hsucc hget hnext
      obtain ⟨C, hC⟩ : ∃ C, C = arcsN es bs a := ⟨_, rfl⟩
      rw [← hC] at hsucc hsm
      have HOWN' := HOWN
      rw [← hC] at HOWN'
      obtain ⟨ln, hl⟩ : ∃ ln, ln = T.length := ⟨_, rfl⟩
      rw [← hl] at hln hget hnext
      have HNEXT := Lib.hid hnext
      have HSUCC := Lib.hid hsucc
      have HGET := Lib.hid hget
      have HL := Lib.hid hl
      clear hsucc hget hT hC hl HOWN hnext
      go_wp2_with fail
      refine HNEXT.out.mono ?_
      rintro e v1 ⟨A, c, rfl, hrd, hnw, hb1⟩
      have HRD := Lib.hid hrd
      have HB1 := Lib.hid (bl_then HBR.out hb1)
      have HO1 := Lib.hid (own_upd HOWN'.out (Upd.of_below (F := fun _ => False) hb1) (fun _ _ h => h))
      have HNW := Lib.hid hnw
      clear hrd hnw hb1 k0 k1 k2
      go_wp2_with fail
      go_loopg [3, 6] ln (fun M v u wq => ∃ j : Nat, M = ln - j ∧ j ≤ ln ∧ u = .int .i64 (j : Nat) ∧ wq.ownsRow W1.heap.size 69 4 v (C ++ arcRow es a (T.take j)).length (flat4 (C ++ arcRow es a (T.take j))) ∧ Below W1.heap.size W1 wq ∧ ReadsI wq A ln c T ∧ ∀ b o, A = some ⟨b, o, none⟩ → b < wq.heap.size ∧ v.ownBlock ≠ some b)
      case atStart =>
        refine ⟨0, rfl, Nat.zero_le _, rfl, by simp only [List.take_zero, arcRow, List.map_nil, List.append_nil]; exact HO1.out, HB1.out, HRD.out, fun b o e => ⟨(HNW.out b o e).2, fun e2 => ?_⟩⟩
        have := (HNW.out b o e).1
        have := (World.ownsRow.lt HOWN'.out b e2).2
        omega
      case round =>
        obtain ⟨j, hM2, hj, rfl, hown, hb, hrq, hoff⟩ := hrel
        have HM2 := Lib.hid hM2
        have HOQ := Lib.hid hown
        have HBQ := Lib.hid hb
        have HRQ := Lib.hid hrq
        have HOF := Lib.hid hoff
        obtain ⟨k0, k1, k2⟩ := HS.out _ hb
        clear hM2 hown hb HOWN' hrq hoff
        by_cases hjl : j < ln
        · obtain ⟨q, hq, hq1⟩ := HGET.out j hjl
          obtain ⟨bT, oT, rfl, hcell⟩ := HRQ.out.cell (by omega)
          have d0 := hcell j hjl
          rw [hq] at d0
          have htk : T.take (j + 1) = T.take j ++ [(q : Int)] := by rw [take_snocI (by rw [← HL.out]; exact hjl), hq]
          have harc : arcRow es a (T.take (j + 1)) = arcRow es a (T.take j) ++ [((a : Int), (q : Int), (es.getD q (0, 0, 0)).2.2)] := by rw [htk, arcRow_snoc]; rfl
          have hlen : (C ++ arcRow es a (T.take j)).length ≤ 262656 := by
            rw [List.length_append]; unfold arcRow; rw [List.length_map]
            have := List.length_take_le j T
            omega
          obtain ⟨bE, oE, rfl, hcE⟩ := (HG.out.below HBQ.out).rE.cell (by omega)
          have d2 := (hcE q hq1).2.2
          obtain ⟨x2, hx⟩ : ∃ x, x = (es.getD q (0, 0, 0)).2.2 := ⟨_, rfl⟩
          rw [← hx] at d2 harc
          obtain ⟨D, hD⟩ : ∃ D, D = C ++ arcRow es a (T.take j) := ⟨_, rfl⟩
          have harc2 : C ++ arcRow es a (T.take (j + 1)) = D ++ [((a : Int), (q : Int), x2)] := by rw [harc, hD, List.append_assoc]
          rw [← hD] at hlen
          have HOQ' := HOQ
          rw [← hD] at HOQ'
          have HARC := Lib.hid harc2
          have j0 : (0 : Int) ≤ (j : Int) := by omega
          have j1 : (j : Int) < (ln : Int) := by omega
          have q0 : (0 : Int) ≤ (q : Int) := by omega
          have q1 : (q : Int) < (n2 : Int) := by omega
          have L0 : Hid (wr.cell? ⟨w.heap.size, 1, none⟩ = some (.slice (some ⟨bE, oE, none⟩) n2 c2)) := Lib.hid k1
          have hup := own_upd HOQ'.out (Upd.of_below (F := fun _ => False) (bl_alloc (bl_drew (Below.refl _ _)) (.cells #[.int .i64 (a : Int), .int .i64 (q : Int), .int .i64 x2, .int .i64 (-1)] 69))) (fun _ _ h => h)
          have hsrc := Src.new (w := wr.drew) (vs := #[.int .i64 (a : Int), .int .i64 (q : Int), .int .i64 x2, .int .i64 (-1)]) (t := 69) (size := 4) (by intro u hu; simp at hu; rcases hu with rfl | rfl | rfl | rfl <;> rfl) rfl
          have HUP := Lib.hid hup
          have HSRC := Lib.hid hsrc
          have hbd := bl_alloc (bl_drew (Below.refl wr.heap.size wr)) (.cells #[.int .i64 (a : Int), .int .i64 (q : Int), .int .i64 x2, .int .i64 (-1)] 69)
          have HBS : Hid (W1.heap.size ≤ (wr.drew.alloc (.cells #[.int .i64 (a : Int), .int .i64 (q : Int), .int .i64 x2, .int .i64 (-1)] 69)).heap.size) := Lib.hid (Nat.le_trans HBQ.out.size hbd.size)
          have HLE3 : Hid (D.length + 1 ≤ maxLen ∧ (D.length + 1) * 32 ≤ 140737488355328) := Lib.hid ⟨by unfold maxLen; omega, by omega⟩
          have HSQ : Hid (∀ w', Below wr.heap.size wr w' → w'.cell? ⟨bT, oT + j, none⟩ = some (.int .i64 (q : Int)) ∧ w'.cell? ⟨w.heap.size, 1, none⟩ = some (.slice (some ⟨bE, oE, none⟩) n2 c2) ∧ w'.cell? ⟨bE, oE + q * 3 + 2, none⟩ = some (.int .i64 x2)) := Lib.hid fun w' h => ⟨cell_below d0 h, cell_below k1 h, cell_below d2 h⟩
          have HBD := Lib.hid hbd
          have BD : Hid (Below wr.heap.size wr wr.drew) := Lib.hid (bl_drew (Below.refl _ _))
          have hbT := HOF.out bT oT rfl
          have hne1 : some bT ≠ Value.ownBlock _ := fun e => hbT.2 e.symm
          obtain ⟨bX, oX, hXe, hcX⟩ := HG.out.rE.cell (by omega)
          injection hXe with hXe
          injection hXe with hX1 hX2 _
          subst hX1 hX2
          have hbE : bE < W1.heap.size := World.block_lt_of_cell? W1 ⟨bE, oE + q * 3, none⟩ (hcX q hq1).1
          have hbw : w.heap.size < W1.heap.size := by have := HB.out.size; rw [HW.out] at this ⊢; rw [size_alloc]; omega
          have hlow : ∀ g, g < W1.heap.size → some g ≠ Value.ownBlock _ := fun g hg e => by have := (World.ownsRow.lt HOQ'.out g e.symm).1; omega
          have hszr := HBQ.out.size
          have HNE : Hid (_ ∧ _ ∧ _) := Lib.hid ⟨hne1, hlow _ hbw, hlow _ hbE⟩
          have HLT : Hid (bT < (wr.drew.alloc (.cells #[.int .i64 (a : Int), .int .i64 (q : Int), .int .i64 x2, .int .i64 (-1)] 69)).heap.size ∧ w.heap.size < (wr.drew.alloc (.cells #[.int .i64 (a : Int), .int .i64 (q : Int), .int .i64 x2, .int .i64 (-1)] 69)).heap.size ∧ bE < (wr.drew.alloc (.cells #[.int .i64 (a : Int), .int .i64 (q : Int), .int .i64 x2, .int .i64 (-1)] 69)).heap.size) := Lib.hid (by have := hbd.size; omega)
          clear hcell hq htk harc harc2 hx hD HOQ hup hsrc hbd hcE hbE hbw hlow hne1 hbT hcX hszr
          go_wp2_with fail
          go_region_held3 (fun w' => w'.cell? ⟨bT, oT + j, none⟩ = some (.int .i64 (q : Int)) ∧ w'.cell? ⟨w.heap.size, 1, none⟩ = some (.slice (some ⟨bE, oE, none⟩) n2 c2) ∧ w'.cell? ⟨bE, oE + q * 3 + 2, none⟩ = some (.int .i64 x2))
            (first | exact HSQ.out _ BD.out | exact HSQ.out _ HBD.out | exact HSZ.out)
            ((refine step_push (by rfl) (.tmp 23) (.tmp 39) 62 (by rfl) W1.heap.size 69 Try.underlying62 IQ.out ⟨rfl, by decide⟩ _ D.length _ (by rfl) HUP.out (some ⟨wr.heap.size, 0, none⟩) 1 1 _ (by rfl) HSRC.out HLE3.out HBS.out ?_
              intro v' w1 hgr
              have HSZ := Lib.hid (And.intro ((hgr.by_.cell_far ⟨bT, oT + j, none⟩ HLT.out.1 HNE.out.1).trans (HSQ.out _ HBD.out).1) (And.intro ((hgr.by_.cell_far ⟨w.heap.size, 1, none⟩ HLT.out.2.1 HNE.out.2.1).trans (HSQ.out _ HBD.out).2.1) ((hgr.by_.cell_far ⟨bE, oE + q * 3 + 2, none⟩ HLT.out.2.2 HNE.out.2.2).trans (HSQ.out _ HBD.out).2.2)))
              have HGR := Lib.hid hgr
              clear hgr))
          all_goals
            have hb3 : Below W1.heap.size W1 w1 := (HBQ.out.trans (HBD.out.mono HBQ.out.size)).grown HGR.out.by_ HBS.out (fun g hg => (World.ownsRow.lt HUP.out g hg).1)
            have hr3 := (HRQ.out.below HBD.out).upd HGR.out.upd (fun b o e hb e2 => HNE.out.1 (by injection e with e; injection e with e1 _ _; subst e1; exact e2.symm))
            have ho3 : ∀ b o, some (⟨bT, oT, none⟩ : Addr) = some ⟨b, o, none⟩ → b < w1.heap.size ∧ v'.ownBlock ≠ some b := fun b o e => by
              injection e with e; injection e with e1 _ _; subst e1
              exact ⟨Nat.lt_of_lt_of_le HLT.out.1 HGR.out.by_.size, HGR.out.off HLT.out.1 (fun e => HNE.out.1 e.symm)⟩
            have HB3 := Lib.hid hb3
            have HR3 := Lib.hid hr3
            have HO3 := Lib.hid ho3
            clear hb3 hr3 ho3
            go_wp2_with fail
            go_roundg (ln - (j + 1))
            case measure => have := HM2.out; omega
            case rel =>
              refine ⟨j + 1, rfl, by omega, by go_num, ?_, HB3.out, HR3.out, HO3.out⟩
              rw [HARC.out, List.length_append, flat4_append]; exact HGR.out.row
        · have hjn : ln = j := by omega
          subst hjn
          clear hjl hj
          have hfin : C ++ arcRow es a (T.take ln) = arcsN es bs (a + 1) := by rw [HSUCC.out, List.take_of_length_le (by rw [HL.out]; exact Nat.le_refl _)]
          have HFIN := Lib.hid hfin
          clear hfin
          go_wp2_with fail
          go_roundg (n2 - (a + 1))
          case measure => have := HM.out; omega
          case rel =>
            refine ⟨a + 1, rfl, by omega, by go_num, ?_, HBQ.out⟩
            rw [← HFIN.out]; exact HOQ.out
    · have han : n2 = a := by omega
      subst han
      clear hlt ha
      obtain ⟨A', c', hv⟩ := own_form HOWN.out
      subst hv
      have hsm := arcsN_small s3 bs s3
      go_wp2_with fail
      go_ret
      have he : arcsN es bs n2 = arcsT es bs := by unfold arcsT; rw [HLE.out]
      have ho := HOWN.out
      rw [he] at ho ⊢
      exact ⟨A', c', rfl, ReadsQ.of_row ho (by have : (arcsT es bs).length ≤ 262144 := hsm; unfold maxLen; omega), fun b o e => by have := own_in ho b o e; have := HB.out.size; omega, bl_then HB.out HBR.out⟩
set_option maxHeartbeats 4000000 in
set_option maxRecDepth 100000 in
theorem arcs_same {w : World} {A1 A2 : Option Addr} {n c1 c2 : Nat} {xs : List (Int × Int × Int)} (h1 : ReadsQ w A1 n c1 xs) (h2 : ReadsQ w A2 n c2 xs) (hn : n ≤ 1099511627776) :
    Calls Try.prog 39 #[.slice A1 n c1, .slice A2 n c2] w fun e w' => e = .returned (.bool true) ∧ Below w.heap.size w w' := by
  have R1 := Lib.hid h1
  have R2 := Lib.hid h2
  clear h1 h2
  go_enter Try.func39, Try.ntmps39
  go_wp2_with fail
  go_loopg [5] n (fun M v wr => ∃ k : Nat, M = n - k ∧ k ≤ n ∧ v = .int .i64 (k : Nat) ∧ Below w.heap.size w wr)
  case atStart => exact ⟨0, rfl, Nat.zero_le _, rfl, Below.refl _ _⟩
  case round =>
    obtain ⟨k, hm, hk, rfl, hb⟩ := hrel
    have HM := Lib.hid hm
    have HB := Lib.hid hb
    clear hm hb
    by_cases hlt : k < n
    · obtain ⟨bA, oA, rfl, hcA⟩ := (R1.out.below HB.out).cell (by omega)
      obtain ⟨bB, oB, rfl, hcB⟩ := (R2.out.below HB.out).cell (by omega)
      obtain ⟨d0, d1, d2, d3⟩ := hcA k hlt
      obtain ⟨f0, f1, f2, f3⟩ := hcB k hlt
      obtain ⟨x, hx⟩ : ∃ x, x = xs.getD k (0, 0, 0) := ⟨_, rfl⟩
      rw [← hx] at d0 d1 d2 f0 f1 f2
      obtain ⟨x0, x1, x2⟩ := x
      dsimp only at d0 d1 d2 f0 f1 f2
      have k0 : (0 : Int) ≤ (k : Int) := by omega
      have k1 : (k : Int) < (n : Int) := by omega
      clear hcA hcB hx
      go_wp2_with fail
      go_quiet (fail)
      go_wp2_with fail
      go_roundg (n - (k + 1))
      case measure => have := HM.out; omega
      case rel => exact ⟨k + 1, rfl, by omega, by go_num, bl_drewN HB.out _⟩
    · have hkn : n = k := by omega
      subst hkn
      clear hlt
      go_wp2_with fail
      go_ret
      exact ⟨rfl, HB.out⟩
end Go.Proofs.Ytjcaoejodjmmkaa
