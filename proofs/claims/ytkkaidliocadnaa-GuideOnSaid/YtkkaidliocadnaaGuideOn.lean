/- GuideOn: one edge on, ahead of the place that was told, the hint is of the same place: as much less far, and left, as that edge weighs. For every input, without a condition. -/
import Derived.Test.YtkkaidliocadnaaAwake21
import Derived.Test.YtkkaidliocadnaaStroll
import Derived.Test.YtkkaidliocadnaaRound
import Derived.Test.YtkkaidliocadnaaRow
import Derived.Deep.RegionHeld3
import Derived.BigQuiet
set_option linter.unusedVariables false
set_option linter.unusedSimpArgs false
namespace Go.Proofs.Ytkkaidliocadnaa.guideOn
open Go.ChangeShapes Go.WideShapes Go.ChangeAt Go.RowKit
set_option maxRecDepth 100000 in
set_option maxHeartbeats 4000000 in
theorem walk_out (A : Option Addr) (n k : Nat) (a : Int) (A2 : Option Addr) (n2 k2 : Nat) (s1 : n ≤ 9223372036854775807) (s2 : n2 ≤ 9223372036854775807) (w : World) (h : ¬ (n ≤ 100 ∧ n2 ≤ 40)) :
    Calls Try.prog 10 #[.slice A n k, .int .i64 a, .slice A2 n2 k2] w fun e w' => e = .returned (.bool true) ∧ Below w.heap.size w w' := by
  by_cases h1 : 100 < n
  · clear h
    go_enter Try.func10, Try.ntmps10
    go_wp2_with (go_at_call 25; refine (awake21 _).mono ?_; rintro e w1 ⟨rfl, hb1⟩)
    go_ret
    exact ⟨rfl, by assumption⟩
  · have h2 : 40 < n2 := by omega
    clear h
    go_enter Try.func10, Try.ntmps10
    go_wp2_with (go_at_call 25; refine (awake21 _).mono ?_; rintro e w1 ⟨rfl, hb1⟩)
    go_ret
    exact ⟨rfl, by assumption⟩
theorem hint_bd {ns bs : List (Int × Int)} {es : List (Int × Int × Int)} (hok : mayB ns es bs = true) (a : Int) (l : List Int) :
    0 ≤ (hintT ns es bs a l).2.2.1 ∧ (hintT ns es bs a l).2.2.1 ≤ l.length * 65535 ∧ 0 ≤ (hintT ns es bs a l).2.2.2 ∧ (hintT ns es bs a l).2.2.2 ≤ l.length * 65535 := by
  have h1 := sum_bd hok l
  have h2 := sum_bd hok (l.take (stopN es bs a l))
  have h3 : 0 ≤ wgtT es l ∧ wgtT es l ≤ l.length * 65535 := by unfold wgtT; split <;> omega
  rw [List.length_take] at h2
  unfold hintT
  split
  · refine ⟨h2.1, ?_, h3.1, h3.2⟩
    show sumW es _ ≤ _
    omega
  · exact ⟨h1.1, h1.2, h3.1, h3.2⟩
set_option maxRecDepth 100000 in
set_option maxHeartbeats 16000000 in
theorem walk_ins (A : Option Addr) (n k : Nat) (xs : List Int) (a : Int) (ha : (Lit.int .i64 a).wf = true) (As : Option Addr) (n4 k4 : Nat) (st : List Int) (w : World) (h : n ≤ 100) (h4 : n4 ≤ 40)
    (hk : ReadsI w A n k xs) (q4 : ReadsI w As n4 k4 st) :
    Calls Try.prog 10 #[.slice A n k, .int .i64 a, .slice As n4 k4] w fun e w' => e = .returned (.bool true) ∧ Below w.heap.size w w' := by
  have HOK := Lib.hid (town_good xs)
  have hmd := made21 hk
  have hE70 := len_townE xs
  obtain ⟨ns, hns⟩ : ∃ ns, ns = townN xs := ⟨_, rfl⟩
  obtain ⟨es, hes⟩ : ∃ es, es = townE xs := ⟨_, rfl⟩
  obtain ⟨bs, hbs⟩ : ∃ bs, bs = townB xs := ⟨_, rfl⟩
  rw [← hes] at hE70
  rw [← hns, ← hes, ← hbs] at HOK hmd
  have HMD := Lib.hid hmd
  obtain ⟨s1, s2, s3, s4⟩ := (mayB_parts HOK.out).2.1
  clear hmd hns hes hbs
  have Q4 := Lib.hid q4
  obtain ⟨e1, e70⟩ := hE70
  have rb := fun w => round_any ha (n := (es.length : Int)) (by omega) (by omega) w
  have hE0 := Int.emod_nonneg a (show (es.length : Int) ≠ 0 by omega)
  have hE2 := Int.emod_lt_of_pos a (show (0 : Int) < es.length by omega)
  obtain ⟨E1, hE1⟩ : ∃ E1, E1 = a % (es.length : Int) := ⟨_, rfl⟩
  rw [← hE1] at rb hE0 hE2
  have hin : inB 0 E1 ((es.length : Int) - 1) = true := by unfold inB; simp; omega
  have hwk : walkB es bs E1 (strollT es bs E1 st) = true := by unfold walkB; rw [hin, stroll_chain]; rfl
  have HWK := Lib.hid hwk
  have RB := Lib.hid rb
  clear hk q4 rb hE1 ha hE0 hE2 hin hwk
  go_enter Try.func10, Try.ntmps10
  go_wp2_with fail
  refine HMD.out.mono ?_
  rintro e w1 ⟨A1, A2, A3, c1, c2, c3, B, t, p, rfl, hM⟩
  have hbx := bl_alloc (Below.refl w1.heap.size w1) (.cells #[.slice A1 ns.length c1, .slice A2 es.length c2, .slice A3 bs.length c3] 28)
  obtain ⟨v0, hv0⟩ : ∃ v0, v0 = w1.alloc (.cells #[.slice A1 ns.length c1, .slice A2 es.length c2, .slice A3 bs.length c3] 28) := ⟨_, rfl⟩
  have HS : Hid (∀ w', Below v0.heap.size v0 w' → w'.cell? ⟨w1.heap.size, 0, none⟩ = some (.slice A1 ns.length c1) ∧ w'.cell? ⟨w1.heap.size, 1, none⟩ = some (.slice A2 es.length c2) ∧ w'.cell? ⟨w1.heap.size, 2, none⟩ = some (.slice A3 bs.length c3)) := Lib.hid fun w' hb => by subst hv0; exact GR.box hb
  have k0 : (w1.alloc (.cells #[.slice A1 ns.length c1, .slice A2 es.length c2, .slice A3 bs.length c3] 28)).cell? ⟨w1.heap.size, 0, none⟩ = some (.slice A1 ns.length c1) := cell_three_new 0 _ rfl
  have k1 : (w1.alloc (.cells #[.slice A1 ns.length c1, .slice A2 es.length c2, .slice A3 bs.length c3] 28)).cell? ⟨w1.heap.size, 1, none⟩ = some (.slice A2 es.length c2) := cell_three_new 1 _ rfl
  have k2 : (w1.alloc (.cells #[.slice A1 ns.length c1, .slice A2 es.length c2, .slice A3 bs.length c3] 28)).cell? ⟨w1.heap.size, 2, none⟩ = some (.slice A3 bs.length c3) := cell_three_new 2 _ rfl
  rw [← hv0] at hbx
  have HG := Lib.hid (hM.g.below hbx)
  have HT := Lib.hid (hM.t.below hbx)
  have HBW : Hid (Below w.heap.size w v0) := Lib.hid (hM.below.trans (hbx.mono hM.below.size))
  have HV0 := Lib.hid hv0
  have HTE : Hid (w1.heap.size < v0.heap.size) := Lib.hid (by rw [hv0, size_alloc]; omega)
  have HLO : Hid (w.heap.size ≤ B) := Lib.hid hM.lo
  clear hM hbx hv0 HMD
  go_wp2_with fail
  rw [← HV0.out]
  refine (RB.out _).mono ?_
  rintro e y0 ⟨rfl, rfl⟩
  have hst := stroll_any HG.out (by omega) E1 (Q4.out.below HBW.out) (by omega)
  have hXl := stroll_len es bs E1 st
  have hsl := Q4.out.len
  obtain ⟨X, hX⟩ : ∃ X, X = strollT es bs E1 st := ⟨_, rfl⟩
  rw [← hX] at hst hXl HWK
  have HST := Lib.hid hst
  have HXL := Lib.hid (show X.length ≤ 40 by omega)
  clear hst hX hXl hsl k0 k1 k2
  obtain ⟨k0, k1, k2⟩ := HS.out _ (Below.refl _ _)
  go_wp2_with fail
  refine HST.out.mono ?_
  rintro e vb ⟨AX, cX, rfl, hr, _, hb, hown⟩
  have RX := Lib.hid hr
  have B0 := Lib.hid hb
  have hxl := HXL.out
  have HCX : Hid (X.length ≤ cX ∧ cX ≤ maxLen) := Lib.hid (by
    rcases hown with ⟨_, h1, h2⟩ | ⟨g, _, h1, h2⟩
    · rw [h1, h2]; exact ⟨Nat.le_refl _, by decide⟩
    · exact ⟨h1, h2⟩)
  have hgh := ghint_at (HT.out.below hb) hr (by omega) E1
  have hR : hintR ns es bs E1 X = hintT ns es bs E1 X := by unfold hintR; rw [if_pos HWK.out]
  rw [hR, HWK.out] at hgh
  obtain ⟨g, hg⟩ : ∃ g, g = hintT ns es bs E1 X := ⟨_, rfl⟩
  rw [← hg] at hgh
  have HGE := Lib.hid hg
  obtain ⟨g0, g1, g2, g3⟩ := g
  simp only [hintV] at hgh
  have HGH0 := Lib.hid hgh
  clear hr hb hgh hR hg k0 k1 k2 hown
  go_wp2_with fail
  refine HGH0.out.mono ?_
  rintro e y1 ⟨rfl, hb⟩
  have HQ := Lib.hid (new_block y1 (.cells #[.int .i64 g0, .int .i64 g1, .int .i64 g2, .int .i64 g3] 49))
  have B1 := Lib.hid (bl_then B0.out hb)
  have RX1 := Lib.hid (RX.out.below hb)
  have HB2 : Hid (Below y1.heap.size y1 (y1.alloc (.cells #[.int .i64 g0, .int .i64 g1, .int .i64 g2, .int .i64 g3] 49))) := Lib.hid (bl_alloc (Below.refl _ _) _)
  clear hb
  go_wp2_with fail
  go_loopg [10] X.length (fun M u wr => ∃ (A' : Option Addr) (m k : Nat) (l : List Int) (x : Int), M = m ∧ m ≤ X.length ∧ u = .slice A' m k ∧ ReadsI y1 A' m k l ∧ m ≤ k ∧ k ≤ maxLen ∧ walkB es bs x l = true ∧
    wr.heap[y1.heap.size]? = some (.cells #[.int .i64 (hintT ns es bs x l).1, .int .i64 (hintT ns es bs x l).2.1, .int .i64 (hintT ns es bs x l).2.2.1, .int .i64 (hintT ns es bs x l).2.2.2] 49) ∧ Below y1.heap.size y1 wr)
  case atStart => exact ⟨AX, X.length, cX, X, E1, rfl, Nat.le_refl _, rfl, RX1.out, HCX.out.1, HCX.out.2, HWK.out, by rw [← HGE.out]; exact HQ.out, HB2.out⟩
  case round =>
    obtain ⟨A', m, k, l, x, hM, hm, rfl, hrl, hmk, hkm, hwl, hblk, hb⟩ := hrel
    have HM := Lib.hid hM
    have HB := Lib.hid hb
    have HLL := Lib.hid hrl.len
    have HMK : Hid (m ≤ k ∧ k ≤ maxLen) := Lib.hid ⟨hmk, hkm⟩
    clear hM hb
    rcases Nat.eq_zero_or_pos m with hz | hp
    · obtain rfl : l = [] := List.eq_nil_of_length_eq_zero (by rw [hrl.len]; exact hz)
      rw [hint_nil] at hblk
      have m0 := block_cell hblk (j := 0) rfl
      have m1 := block_cell hblk (j := 1) rfl
      have m2 := block_cell hblk (j := 2) rfl
      have m3 := block_cell hblk (j := 3) rfl
      subst hz
      clear hrl hmk hkm hwl hblk
      go_wp2_with (go_at_call 25; refine (awake21 _).mono ?_; rintro e w6 ⟨rfl, hb6⟩)
      go_ret
      exact ⟨rfl, HBW.out.trans ((bl_then B1.out (bl_then HB.out hb6)).mono HBW.out.size)⟩
    · obtain ⟨yy, l2, rfl⟩ : ∃ yy l2, l = yy :: l2 := by
        cases l with
        | nil => have := hrl.len; simp at this; omega
        | cons yy l2 => exact ⟨yy, l2, rfl⟩
      obtain ⟨b, o, hA, hcL⟩ := hrl.cell hp
      subst hA
      have d0 := cell_below (hcL 0 hp) HB.out
      have hmem := walk_mem hwl (k := 0) (by simp)
      have hwl2 := walk_cut hwl (k := 0) (by simp)
      obtain ⟨y, hyn, hyl⟩ : ∃ y : Nat, yy = (y : Int) ∧ y < es.length := by
        have hmem' : inB 0 yy ((es.length : Int) - 1) = true := hmem
        unfold inB at hmem'
        simp only [Bool.and_eq_true, decide_eq_true_eq] at hmem'
        exact ⟨yy.toNat, by omega, by omega⟩
      subst hyn
      have hwl3 : walkB es bs (y : Int) l2 = true := hwl2
      obtain ⟨ho1, ho2⟩ := hint_on hwl HOK.out
      rw [Int.toNat_natCast] at ho1 ho2
      have hb1 := hint_bd HOK.out (y : Int) l2
      have hb2 := hint_bd HOK.out x ((y : Int) :: l2)
      have hlen2 : l2.length + 1 = m := by have := hrl.len; simpa using this
      simp only [List.length_cons] at hb2
      have hwb := w_bd HOK.out y
      obtain ⟨bE, oE, hAE, hcE⟩ := (HG.out.below (bl_then B1.out HB.out)).rE.cell (by omega)
      obtain ⟨_, _, dW⟩ := hcE y hyl
      have hgh := fun (w' : World) (hb : Below wr.heap.size wr w') (A'' : Option Addr) (n'' c'' : Nat) (hr : ReadsI w' A'' n'' c'' l2) => ghint_at (HT.out.below (bl_then B1.out (bl_then HB.out hb))) hr (by rw [← hr.len]; omega) (y : Int)
      have hR : hintR ns es bs (y : Int) l2 = hintT ns es bs (y : Int) l2 := by unfold hintR; rw [if_pos hwl3]
      rw [hR, hwl3] at hgh
      obtain ⟨G, hG⟩ : ∃ G, G = hintT ns es bs (y : Int) l2 := ⟨_, rfl⟩
      obtain ⟨H, hH⟩ : ∃ H, H = hintT ns es bs x ((y : Int) :: l2) := ⟨_, rfl⟩
      have HOE0 := hG
      rw [← hG] at hgh ho1 ho2 hb1
      rw [← hH] at hblk ho1 ho2 hb2
      obtain ⟨o0, o1, o2, o3⟩ := G
      obtain ⟨h0', h1', h2', h3'⟩ := H
      have HOE := Lib.hid HOE0
      simp only [hintV] at hgh
      dsimp only at ho1 ho2 hb1 hb2 hblk
      obtain ⟨wy, hwy⟩ : ∃ wy, wy = (es.getD y (0, 0, 0)).2.2 := ⟨_, rfl⟩
      rw [← hwy] at ho1 ho2 hwb dW
      subst hAE
      have HGH := Lib.hid hgh
      have HON2 := Lib.hid ho2
      have HBLK := Lib.hid hblk
      have HWL2 := Lib.hid hwl3
      have HMP := Lib.hid hp
      have HD := Lib.hid d0
      have HB0 : Hid (∀ w', Below wr.heap.size wr w' → Below y1.heap.size y1 w') := Lib.hid fun w' h => bl_then HB.out h
      have d0' : wr.cell? ⟨b, o, none⟩ = some (.int .i64 (y : Nat)) := d0
      have HD : Hid (wr.cell? ⟨b, o, none⟩ = some (.int .i64 (y : Nat))) := Lib.hid d0'
      have e3 : IntKind.i64.wrap (h3' - wy) = o3 := by rw [IntWalk.i64_in _ (by omega)]; omega
      have e4 : (o3 != o3) = false := by simp
      have y0 : (0 : Int) ≤ (y : Int) := by omega
      have y1' : (y : Int) < (es.length : Int) := by omega
      have p0 : (0 : Int) < (m : Int) := by omega
      have p1 : (1 : Int) ≤ (m : Int) := by omega
      have p2 : (1 : Int) ≤ (k : Int) := by omega
      have p3 : 1 ≤ k := by omega
      have p4 : ¬ k = 0 := by omega
      obtain ⟨l0, l1, l2'⟩ := HS.out _ (bl_then B1.out HB.out)
      have HRL := Lib.hid hrl
      clear hcL hmem hwl2 ho1 ho2 hcE hgh hR hwy hblk hwl3 hrl hwl hG HOE0 hH d0
      have d0 := HD.out
      by_cases hk1 : k = 1
      · subst hk1
        obtain rfl : m = 1 := by omega
        have HNL : Hid (ReadsI y1 (some ⟨b, o, none⟩) 0 0 l2) := Lib.hid (HRL.out.rest (j := 1) (Nat.le_refl _) 0 (fun h => by omega))
        clear p2 p3 p4 hmk hkm
        rcases Int.lt_or_le 0 h2' with hf | hf
        · obtain ⟨hx0, hx1, hq2⟩ := HON2.out hf
          have hx2 := hx0.symm
          have hx3 := hx1.symm
          clear hx0 hx1
          subst hx2 hx3
          have g1 : IntKind.i64.wrap (h2' - wy) = o2 := by rw [IntWalk.i64_in _ (by omega)]; omega
          have g2 : (o2 != o2) = false := by simp
          have g3 : (o0 != o0) = false := by simp
          have g4 : (o1 != o1) = false := by simp
          have g5 : decide (0 < h2') = true := decide_eq_true hf
          clear hq2
          go_wp2_with fail
          go_quiet (fail)
          go_wp2_with fail
          generalize hV : World.drewN wr _ = wd
          have HD0 : Hid (Below wr.heap.size wr wd) := Lib.hid (by rw [← hV]; exact bl_drewN (Below.refl _ _) _)
          clear hV
          have Z0 : Hid (Below wr.heap.size wr wd.drew) := Lib.hid (bl_drew HD0.out)
          have HSX : Hid (∀ w', Below wr.heap.size wr w' → w'.cell? ⟨b, o, none⟩ = some (.int .i64 (y : Nat))) := Lib.hid fun w' h => cell_below HD.out h
          clear d0 dW l0 l1 l2'
          refine wp_region_held_drew (S := fun w' => w'.cell? ⟨b, o, none⟩ = some (.int .i64 (y : Nat))) (by kernel_rfl) (HSX.out _ Z0.out) (fun hHeld => ?_)
          refine wpAnyH_take (i := 0) (v := ?_) rfl (by kernel_rfl) (by kernel_rfl) (by kernel_rfl) (fun _ _ _ h => h) (Or.inl ⟨by rfl, ?_⟩) (by assumption) ?_
          rotate_left
          · intro w hSw; (try dsimp only at hSw); go_simp <;> with_reducible rfl
          (try simp only [Act.put, List.setIfInBounds_toArray, List.set_cons_zero, List.set_cons_succ, List.getElem_toArray, List.getElem_cons_succ, List.getElem_cons_zero])
          refine wpAnyH_take (i := 1) (v := ?_) rfl (by kernel_rfl) (by kernel_rfl) (by kernel_rfl) (fun _ _ _ h => h) (Or.inl ⟨by rfl, ?_⟩) (by assumption) ?_
          rotate_left
          · intro w hSw; (try dsimp only at hSw); go_simp <;> with_reducible rfl
          (try simp only [Act.put, List.setIfInBounds_toArray, List.set_cons_zero, List.set_cons_succ, List.getElem_toArray, List.getElem_cons_succ, List.getElem_cons_zero])
          refine wpAnyH_take (i := 2) (v := ?_) rfl (by kernel_rfl) (by kernel_rfl) (by kernel_rfl) (fun _ _ _ h => h) (Or.inl ⟨by rfl, ?_⟩) (by assumption) ?_
          rotate_left
          · intro w hSw; (try dsimp only at hSw); go_simp <;> with_reducible rfl
          (try simp only [Act.put, List.setIfInBounds_toArray, List.set_cons_zero, List.set_cons_succ, List.getElem_toArray, List.getElem_cons_succ, List.getElem_cons_zero])
          refine wpAnyH_take (i := 3) (v := ?_) rfl (by kernel_rfl) (by kernel_rfl) (by kernel_rfl) (fun _ _ _ h => h) (Or.inl ⟨by rfl, ?_⟩) (by assumption) ?_
          rotate_left
          · intro w hSw; (try dsimp only at hSw); go_simp <;> with_reducible rfl
          (try simp only [Act.put, List.setIfInBounds_toArray, List.set_cons_zero, List.set_cons_succ, List.getElem_toArray, List.getElem_cons_succ, List.getElem_cons_zero])
          refine wpAnyH_take (i := 4) (v := ?_) rfl (by kernel_rfl) (by kernel_rfl) (by kernel_rfl) (fun _ _ _ h => h) (Or.inl ⟨by rfl, ?_⟩) (by assumption) ?_
          rotate_left
          · intro w hSw; (try dsimp only at hSw); go_simp <;> with_reducible rfl
          (try simp only [Act.put, List.setIfInBounds_toArray, List.set_cons_zero, List.set_cons_succ, List.getElem_toArray, List.getElem_cons_succ, List.getElem_cons_zero])
          refine wpAnyH_take (i := 5) (v := ?_) rfl (by kernel_rfl) (by kernel_rfl) (by kernel_rfl) (fun _ _ _ h => h) (Or.inl ⟨by rfl, ?_⟩) (by assumption) ?_
          rotate_left
          · intro w hSw; (try dsimp only at hSw); go_simp <;> with_reducible rfl
          (try simp only [Act.put, List.setIfInBounds_toArray, List.set_cons_zero, List.set_cons_succ, List.getElem_toArray, List.getElem_cons_succ, List.getElem_cons_zero])
          refine wpAnyH_ready (rs := [6, 10]) (by kernel_rfl) (by simp) ?_
          refine AllReadyH.cons rfl (fun K hK => ?_) (AllReadyH.cons rfl (fun K hK => ?_) AllReadyH.nil)
          · skip
            go_simp
            with_reducible refine (HGH.out _ Z0.out _ _ _ (HNL.out.below (HB0.out _ Z0.out))).mono ?_
            rintro e z1 ⟨rfl, hb⟩
            have Z1 : Hid (Below wr.heap.size wr z1) := Lib.hid (bl_then Z0.out hb)
            clear hb
            refine hK.out _ _ (HSX.out _ Z1.out) (fun hHeld => ?_)
            (try simp only [Act.put, List.setIfInBounds_toArray, List.set_cons_zero, List.set_cons_succ, List.getElem_toArray, List.getElem_cons_succ, List.getElem_cons_zero])
            refine wpAnyH_take (i := 7) (v := ?_) rfl (by kernel_rfl) (by kernel_rfl) (by kernel_rfl) (fun _ _ _ h => h) (Or.inl ⟨by rfl, ?_⟩) (by assumption) ?_
            rotate_left
            · intro w hSw; (try dsimp only at hSw); go_simp <;> with_reducible rfl
            (try simp only [Act.put, List.setIfInBounds_toArray, List.set_cons_zero, List.set_cons_succ, List.getElem_toArray, List.getElem_cons_succ, List.getElem_cons_zero])
            refine wpAnyH_take (i := 8) (v := ?_) rfl (by kernel_rfl) (by kernel_rfl) (by kernel_rfl) (fun _ _ _ h => h) (Or.inl ⟨by rfl, ?_⟩) (by assumption) ?_
            rotate_left
            · intro w hSw; (try dsimp only at hSw); go_simp <;> with_reducible rfl
            (try simp only [Act.put, List.setIfInBounds_toArray, List.set_cons_zero, List.set_cons_succ, List.getElem_toArray, List.getElem_cons_succ, List.getElem_cons_zero])
            refine wpAnyH_take (i := 9) (v := ?_) rfl (by kernel_rfl) (by kernel_rfl) (by kernel_rfl) (fun _ _ _ h => h) (Or.inl ⟨by rfl, ?_⟩) (by assumption) ?_
            rotate_left
            · intro w hSw; (try dsimp only at hSw); go_simp <;> with_reducible rfl
            (try simp only [Act.put, List.setIfInBounds_toArray, List.set_cons_zero, List.set_cons_succ, List.getElem_toArray, List.getElem_cons_succ, List.getElem_cons_zero])
            refine wpAnyH_ready (rs := [10]) (by kernel_rfl) (by simp) ?_
            refine AllReadyH.cons rfl (fun K hK => ?_) AllReadyH.nil
            go_simp
            refine hK.out _ _ (HSX.out _ (bl_alloc Z1.out _)) (fun hHeld => ?_)
            (try simp only [Act.put, List.setIfInBounds_toArray, List.set_cons_zero, List.set_cons_succ, List.getElem_toArray, List.getElem_cons_succ, List.getElem_cons_zero])
            have hq := new_block z1 (.cells #[.int .i64 o0, .int .i64 o1, .int .i64 o2, .int .i64 o3] 49)
            have hbo : Below wr.heap.size wr (z1.alloc (.cells #[.int .i64 o0, .int .i64 o1, .int .i64 o2, .int .i64 o3] 49)) := bl_alloc Z1.out _
            obtain ⟨vo, hvo⟩ : ∃ vo, vo = z1.alloc (.cells #[.int .i64 o0, .int .i64 o1, .int .i64 o2, .int .i64 o3] 49) := ⟨_, rfl⟩
            rw [← hvo] at hq hbo
            have HVO := Lib.hid hvo
            have HQO := Lib.hid hq
            have HBO := Lib.hid hbo
            clear hq hbo hvo
            refine wpAnyH_ready (rs := [11]) (by kernel_rfl) (by simp) ?_
            refine AllReadyH.cons rfl (fun K hK => ?_) AllReadyH.nil
            go_simp
            rw [← HVO.out]
            refine hK.out _ _ (HSX.out _ HBO.out) (fun hHeld => ?_)
            (try simp only [Act.put, List.setIfInBounds_toArray, List.set_cons_zero, List.set_cons_succ, List.getElem_toArray, List.getElem_cons_succ, List.getElem_cons_zero])
            refine wpAnyH_take (i := 12) (v := ?_) rfl (by kernel_rfl) (by kernel_rfl) (by kernel_rfl) (fun _ _ _ h => h) (Or.inl ⟨by rfl, ?_⟩) (by assumption) ?_
            rotate_left
            · intro w hSw; (try dsimp only at hSw); go_simp <;> with_reducible rfl
            (try simp only [Act.put, List.setIfInBounds_toArray, List.set_cons_zero, List.set_cons_succ, List.getElem_toArray, List.getElem_cons_succ, List.getElem_cons_zero])
            refine wpAnyH_done (by kernel_rfl) ?_ _
            have hq3 := block_below HBLK.out HBO.out
            have hq := HQO.out
            have q0 := block_cell hq (j := 0) rfl
            have q1 := block_cell hq (j := 1) rfl
            have q2 := block_cell hq (j := 2) rfl
            have q3 := block_cell hq (j := 3) rfl
            have c0 := block_cell hq3 (j := 0) rfl
            have c1' := block_cell hq3 (j := 1) rfl
            have c2' := block_cell hq3 (j := 2) rfl
            have c3' := block_cell hq3 (j := 3) rfl
            have f0 := block_fr hq3 0
            have f1 := block_fr hq3 1
            have f2 := block_fr hq3 2
            have f3 := block_fr hq3 3
            have HQ4 := Lib.hid hq3
            have HB4 : Hid (Below y1.heap.size y1 vo) := Lib.hid (bl_then HB.out HBO.out)
            clear hq3 hq
            go_wp2_with fail
            go_roundg 0
            case measure => have := HM.out; have := HMP.out; omega
            case rel =>
              refine ⟨_, 0, 0, l2, (y : Int), rfl, by have := HMP.out; omega, rfl, HNL.out, ?_, ?_, HWL2.out, ?_, ?_⟩
              · have := HMK.out; have := HMP.out; omega
              · have := HMK.out; omega
              · have hz := blk3 (blk2 (blk1 (blk0 HQ4.out (.int .i64 o0)) (.int .i64 o1)) (.int .i64 o2)) (.int .i64 o3)
                rw [← HOE.out]
                exact hz
              · exact (((HB4.out.setCell (Nat.le_refl _) _).setCell (Nat.le_refl _) _).setCell (Nat.le_refl _) _).setCell (Nat.le_refl _) _
          · skip
            go_simp
            refine hK.out _ _ (HSX.out _ (bl_alloc Z0.out _)) (fun hHeld => ?_)
            (try simp only [Act.put, List.setIfInBounds_toArray, List.set_cons_zero, List.set_cons_succ, List.getElem_toArray, List.getElem_cons_succ, List.getElem_cons_zero])
            refine wpAnyH_ready (rs := [6]) (by kernel_rfl) (by simp) ?_
            refine AllReadyH.cons rfl (fun K hK => ?_) AllReadyH.nil
            go_simp
            have ZA : Hid (Below wr.heap.size wr (wd.alloc (.cells #[.int .i64 0, .int .i64 0, .int .i64 0, .int .i64 0] 49)).drew) := Lib.hid (bl_drew (bl_alloc HD0.out _))
            with_reducible refine (HGH.out _ ZA.out _ _ _ (HNL.out.below (HB0.out _ ZA.out))).mono ?_
            rintro e z1 ⟨rfl, hb⟩
            have Z1 : Hid (Below wr.heap.size wr z1) := Lib.hid (bl_then ZA.out hb)
            have hn0 := block_below (w := (wd.alloc (.cells #[.int .i64 0, .int .i64 0, .int .i64 0, .int .i64 0] 49)).drew) (new_block wd (.cells #[.int .i64 0, .int .i64 0, .int .i64 0, .int .i64 0] 49)) hb
            have n0 := block_cell hn0 (j := 0) rfl
            have n1 := block_cell hn0 (j := 1) rfl
            have n2 := block_cell hn0 (j := 2) rfl
            have n3 := block_cell hn0 (j := 3) rfl
            have fn0 := block_fr hn0 0
            have fn1 := block_fr hn0 1
            have fn2 := block_fr hn0 2
            have fn3 := block_fr hn0 3
            have hq := blk3 (blk2 (blk1 (blk0 hn0 (.int .i64 o0)) (.int .i64 o1)) (.int .i64 o2)) (.int .i64 o3)
            have hbo : Below wr.heap.size wr ((((z1.setCell ⟨wd.heap.size, 0, none⟩ (.int .i64 o0)).setCell ⟨wd.heap.size, 1, none⟩ (.int .i64 o1)).setCell ⟨wd.heap.size, 2, none⟩ (.int .i64 o2)).setCell ⟨wd.heap.size, 3, none⟩ (.int .i64 o3)) := (((Z1.out.setCell HD0.out.size _).setCell HD0.out.size _).setCell HD0.out.size _).setCell HD0.out.size _
            obtain ⟨vo, hvo⟩ : ∃ vo, vo = (((z1.setCell ⟨wd.heap.size, 0, none⟩ (.int .i64 o0)).setCell ⟨wd.heap.size, 1, none⟩ (.int .i64 o1)).setCell ⟨wd.heap.size, 2, none⟩ (.int .i64 o2)).setCell ⟨wd.heap.size, 3, none⟩ (.int .i64 o3) := ⟨_, rfl⟩
            rw [← hvo] at hq hbo
            have HVO := Lib.hid hvo
            have HQO := Lib.hid hq
            have HBO := Lib.hid hbo
            clear hq hbo hvo hb hn0
            refine hK.out _ _ (HSX.out _ Z1.out) (fun hHeld => ?_)
            (try simp only [Act.put, List.setIfInBounds_toArray, List.set_cons_zero, List.set_cons_succ, List.getElem_toArray, List.getElem_cons_succ, List.getElem_cons_zero])
            refine wpAnyH_take (i := 7) (v := ?_) rfl (by kernel_rfl) (by kernel_rfl) (by kernel_rfl) (fun _ _ _ h => h) (Or.inl ⟨by rfl, ?_⟩) (by assumption) ?_
            rotate_left
            · intro w hSw; (try dsimp only at hSw); go_simp <;> with_reducible rfl
            (try simp only [Act.put, List.setIfInBounds_toArray, List.set_cons_zero, List.set_cons_succ, List.getElem_toArray, List.getElem_cons_succ, List.getElem_cons_zero])
            refine wpAnyH_take (i := 8) (v := ?_) rfl (by kernel_rfl) (by kernel_rfl) (by kernel_rfl) (fun _ _ _ h => h) (Or.inl ⟨by rfl, ?_⟩) (by assumption) ?_
            rotate_left
            · intro w hSw; (try dsimp only at hSw); go_simp <;> with_reducible rfl
            (try simp only [Act.put, List.setIfInBounds_toArray, List.set_cons_zero, List.set_cons_succ, List.getElem_toArray, List.getElem_cons_succ, List.getElem_cons_zero])
            refine wpAnyH_take (i := 9) (v := ?_) rfl (by kernel_rfl) (by kernel_rfl) (by kernel_rfl) (fun _ _ _ h => h) (Or.inl ⟨by rfl, ?_⟩) (by assumption) ?_
            rotate_left
            · intro w hSw; (try dsimp only at hSw); go_simp <;> with_reducible rfl
            (try simp only [Act.put, List.setIfInBounds_toArray, List.set_cons_zero, List.set_cons_succ, List.getElem_toArray, List.getElem_cons_succ, List.getElem_cons_zero])
            refine wpAnyH_ready (rs := [11]) (by kernel_rfl) (by simp) ?_
            refine AllReadyH.cons rfl (fun K hK => ?_) AllReadyH.nil
            go_simp
            rw [← HVO.out]
            clear n0 n1 n2 n3 fn0 fn1 fn2 fn3
            refine hK.out _ _ (HSX.out _ HBO.out) (fun hHeld => ?_)
            (try simp only [Act.put, List.setIfInBounds_toArray, List.set_cons_zero, List.set_cons_succ, List.getElem_toArray, List.getElem_cons_succ, List.getElem_cons_zero])
            refine wpAnyH_take (i := 12) (v := ?_) rfl (by kernel_rfl) (by kernel_rfl) (by kernel_rfl) (fun _ _ _ h => h) (Or.inl ⟨by rfl, ?_⟩) (by assumption) ?_
            rotate_left
            · intro w hSw; (try dsimp only at hSw); go_simp <;> with_reducible rfl
            (try simp only [Act.put, List.setIfInBounds_toArray, List.set_cons_zero, List.set_cons_succ, List.getElem_toArray, List.getElem_cons_succ, List.getElem_cons_zero])
            refine wpAnyH_done (by kernel_rfl) ?_ _
            have hq3 := block_below HBLK.out HBO.out
            have hq := HQO.out
            have q0 := block_cell hq (j := 0) rfl
            have q1 := block_cell hq (j := 1) rfl
            have q2 := block_cell hq (j := 2) rfl
            have q3 := block_cell hq (j := 3) rfl
            have c0 := block_cell hq3 (j := 0) rfl
            have c1' := block_cell hq3 (j := 1) rfl
            have c2' := block_cell hq3 (j := 2) rfl
            have c3' := block_cell hq3 (j := 3) rfl
            have f0 := block_fr hq3 0
            have f1 := block_fr hq3 1
            have f2 := block_fr hq3 2
            have f3 := block_fr hq3 3
            have HQ4 := Lib.hid hq3
            have HB4 : Hid (Below y1.heap.size y1 vo) := Lib.hid (bl_then HB.out HBO.out)
            clear hq3 hq
            go_wp2_with fail
            go_roundg 0
            case measure => have := HM.out; have := HMP.out; omega
            case rel =>
              refine ⟨_, 0, 0, l2, (y : Int), rfl, by have := HMP.out; omega, rfl, HNL.out, ?_, ?_, HWL2.out, ?_, ?_⟩
              · have := HMK.out; have := HMP.out; omega
              · have := HMK.out; omega
              · have hz := blk3 (blk2 (blk1 (blk0 HQ4.out (.int .i64 o0)) (.int .i64 o1)) (.int .i64 o2)) (.int .i64 o3)
                rw [← HOE.out]
                exact hz
              · exact (((HB4.out.setCell (Nat.le_refl _) _).setCell (Nat.le_refl _) _).setCell (Nat.le_refl _) _).setCell (Nat.le_refl _) _
        · have g5 : decide (0 < h2') = false := decide_eq_false (by omega)
          have g6 : ¬ 0 < h2' := by omega
          go_wp2_with fail
          go_quiet (fail)
          go_wp2_with fail
          generalize hV : World.drewN wr _ = wd
          have HD0 : Hid (Below wr.heap.size wr wd) := Lib.hid (by rw [← hV]; exact bl_drewN (Below.refl _ _) _)
          clear hV
          have Z0 : Hid (Below wr.heap.size wr wd.drew) := Lib.hid (bl_drew HD0.out)
          have HSX : Hid (∀ w', Below wr.heap.size wr w' → w'.cell? ⟨b, o, none⟩ = some (.int .i64 (y : Nat))) := Lib.hid fun w' h => cell_below HD.out h
          clear d0 dW l0 l1 l2'
          refine wp_region_held_drew (S := fun w' => w'.cell? ⟨b, o, none⟩ = some (.int .i64 (y : Nat))) (by kernel_rfl) (HSX.out _ Z0.out) (fun hHeld => ?_)
          refine wpAnyH_take (i := 0) (v := ?_) rfl (by kernel_rfl) (by kernel_rfl) (by kernel_rfl) (fun _ _ _ h => h) (Or.inl ⟨by rfl, ?_⟩) (by assumption) ?_
          rotate_left
          · intro w hSw; (try dsimp only at hSw); go_simp <;> with_reducible rfl
          (try simp only [Act.put, List.setIfInBounds_toArray, List.set_cons_zero, List.set_cons_succ, List.getElem_toArray, List.getElem_cons_succ, List.getElem_cons_zero])
          refine wpAnyH_take (i := 1) (v := ?_) rfl (by kernel_rfl) (by kernel_rfl) (by kernel_rfl) (fun _ _ _ h => h) (Or.inl ⟨by rfl, ?_⟩) (by assumption) ?_
          rotate_left
          · intro w hSw; (try dsimp only at hSw); go_simp <;> with_reducible rfl
          (try simp only [Act.put, List.setIfInBounds_toArray, List.set_cons_zero, List.set_cons_succ, List.getElem_toArray, List.getElem_cons_succ, List.getElem_cons_zero])
          refine wpAnyH_take (i := 2) (v := ?_) rfl (by kernel_rfl) (by kernel_rfl) (by kernel_rfl) (fun _ _ _ h => h) (Or.inl ⟨by rfl, ?_⟩) (by assumption) ?_
          rotate_left
          · intro w hSw; (try dsimp only at hSw); go_simp <;> with_reducible rfl
          (try simp only [Act.put, List.setIfInBounds_toArray, List.set_cons_zero, List.set_cons_succ, List.getElem_toArray, List.getElem_cons_succ, List.getElem_cons_zero])
          refine wpAnyH_take (i := 3) (v := ?_) rfl (by kernel_rfl) (by kernel_rfl) (by kernel_rfl) (fun _ _ _ h => h) (Or.inl ⟨by rfl, ?_⟩) (by assumption) ?_
          rotate_left
          · intro w hSw; (try dsimp only at hSw); go_simp <;> with_reducible rfl
          (try simp only [Act.put, List.setIfInBounds_toArray, List.set_cons_zero, List.set_cons_succ, List.getElem_toArray, List.getElem_cons_succ, List.getElem_cons_zero])
          refine wpAnyH_take (i := 4) (v := ?_) rfl (by kernel_rfl) (by kernel_rfl) (by kernel_rfl) (fun _ _ _ h => h) (Or.inl ⟨by rfl, ?_⟩) (by assumption) ?_
          rotate_left
          · intro w hSw; (try dsimp only at hSw); go_simp <;> with_reducible rfl
          (try simp only [Act.put, List.setIfInBounds_toArray, List.set_cons_zero, List.set_cons_succ, List.getElem_toArray, List.getElem_cons_succ, List.getElem_cons_zero])
          refine wpAnyH_take (i := 5) (v := ?_) rfl (by kernel_rfl) (by kernel_rfl) (by kernel_rfl) (fun _ _ _ h => h) (Or.inl ⟨by rfl, ?_⟩) (by assumption) ?_
          rotate_left
          · intro w hSw; (try dsimp only at hSw); go_simp <;> with_reducible rfl
          (try simp only [Act.put, List.setIfInBounds_toArray, List.set_cons_zero, List.set_cons_succ, List.getElem_toArray, List.getElem_cons_succ, List.getElem_cons_zero])
          refine wpAnyH_ready (rs := [6, 10]) (by kernel_rfl) (by simp) ?_
          refine AllReadyH.cons rfl (fun K hK => ?_) (AllReadyH.cons rfl (fun K hK => ?_) AllReadyH.nil)
          · skip
            go_simp
            with_reducible refine (HGH.out _ Z0.out _ _ _ (HNL.out.below (HB0.out _ Z0.out))).mono ?_
            rintro e z1 ⟨rfl, hb⟩
            have Z1 : Hid (Below wr.heap.size wr z1) := Lib.hid (bl_then Z0.out hb)
            clear hb
            refine hK.out _ _ (HSX.out _ Z1.out) (fun hHeld => ?_)
            (try simp only [Act.put, List.setIfInBounds_toArray, List.set_cons_zero, List.set_cons_succ, List.getElem_toArray, List.getElem_cons_succ, List.getElem_cons_zero])
            refine wpAnyH_take (i := 7) (v := ?_) rfl (by kernel_rfl) (by kernel_rfl) (by kernel_rfl) (fun _ _ _ h => h) (Or.inl ⟨by rfl, ?_⟩) (by assumption) ?_
            rotate_left
            · intro w hSw; (try dsimp only at hSw); go_simp <;> with_reducible rfl
            (try simp only [Act.put, List.setIfInBounds_toArray, List.set_cons_zero, List.set_cons_succ, List.getElem_toArray, List.getElem_cons_succ, List.getElem_cons_zero])
            refine wpAnyH_take (i := 8) (v := ?_) rfl (by kernel_rfl) (by kernel_rfl) (by kernel_rfl) (fun _ _ _ h => h) (Or.inl ⟨by rfl, ?_⟩) (by assumption) ?_
            rotate_left
            · intro w hSw; (try dsimp only at hSw); go_simp <;> with_reducible rfl
            (try simp only [Act.put, List.setIfInBounds_toArray, List.set_cons_zero, List.set_cons_succ, List.getElem_toArray, List.getElem_cons_succ, List.getElem_cons_zero])
            refine wpAnyH_take (i := 9) (v := ?_) rfl (by kernel_rfl) (by kernel_rfl) (by kernel_rfl) (fun _ _ _ h => h) (Or.inl ⟨by rfl, ?_⟩) (by assumption) ?_
            rotate_left
            · intro w hSw; (try dsimp only at hSw); go_simp <;> with_reducible rfl
            (try simp only [Act.put, List.setIfInBounds_toArray, List.set_cons_zero, List.set_cons_succ, List.getElem_toArray, List.getElem_cons_succ, List.getElem_cons_zero])
            refine wpAnyH_ready (rs := [10]) (by kernel_rfl) (by simp) ?_
            refine AllReadyH.cons rfl (fun K hK => ?_) AllReadyH.nil
            go_simp
            refine hK.out _ _ (HSX.out _ (bl_alloc Z1.out _)) (fun hHeld => ?_)
            (try simp only [Act.put, List.setIfInBounds_toArray, List.set_cons_zero, List.set_cons_succ, List.getElem_toArray, List.getElem_cons_succ, List.getElem_cons_zero])
            have hq := new_block z1 (.cells #[.int .i64 o0, .int .i64 o1, .int .i64 o2, .int .i64 o3] 49)
            have hbo : Below wr.heap.size wr (z1.alloc (.cells #[.int .i64 o0, .int .i64 o1, .int .i64 o2, .int .i64 o3] 49)) := bl_alloc Z1.out _
            obtain ⟨vo, hvo⟩ : ∃ vo, vo = z1.alloc (.cells #[.int .i64 o0, .int .i64 o1, .int .i64 o2, .int .i64 o3] 49) := ⟨_, rfl⟩
            rw [← hvo] at hq hbo
            have HVO := Lib.hid hvo
            have HQO := Lib.hid hq
            have HBO := Lib.hid hbo
            clear hq hbo hvo
            refine wpAnyH_ready (rs := [11]) (by kernel_rfl) (by simp) ?_
            refine AllReadyH.cons rfl (fun K hK => ?_) AllReadyH.nil
            go_simp
            rw [← HVO.out]
            refine hK.out _ _ (HSX.out _ HBO.out) (fun hHeld => ?_)
            (try simp only [Act.put, List.setIfInBounds_toArray, List.set_cons_zero, List.set_cons_succ, List.getElem_toArray, List.getElem_cons_succ, List.getElem_cons_zero])
            refine wpAnyH_take (i := 12) (v := ?_) rfl (by kernel_rfl) (by kernel_rfl) (by kernel_rfl) (fun _ _ _ h => h) (Or.inl ⟨by rfl, ?_⟩) (by assumption) ?_
            rotate_left
            · intro w hSw; (try dsimp only at hSw); go_simp <;> with_reducible rfl
            (try simp only [Act.put, List.setIfInBounds_toArray, List.set_cons_zero, List.set_cons_succ, List.getElem_toArray, List.getElem_cons_succ, List.getElem_cons_zero])
            refine wpAnyH_done (by kernel_rfl) ?_ _
            have hq3 := block_below HBLK.out HBO.out
            have hq := HQO.out
            have q0 := block_cell hq (j := 0) rfl
            have q1 := block_cell hq (j := 1) rfl
            have q2 := block_cell hq (j := 2) rfl
            have q3 := block_cell hq (j := 3) rfl
            have c0 := block_cell hq3 (j := 0) rfl
            have c1' := block_cell hq3 (j := 1) rfl
            have c2' := block_cell hq3 (j := 2) rfl
            have c3' := block_cell hq3 (j := 3) rfl
            have f0 := block_fr hq3 0
            have f1 := block_fr hq3 1
            have f2 := block_fr hq3 2
            have f3 := block_fr hq3 3
            have HQ4 := Lib.hid hq3
            have HB4 : Hid (Below y1.heap.size y1 vo) := Lib.hid (bl_then HB.out HBO.out)
            clear hq3 hq
            go_wp2_with fail
            go_roundg 0
            case measure => have := HM.out; have := HMP.out; omega
            case rel =>
              refine ⟨_, 0, 0, l2, (y : Int), rfl, by have := HMP.out; omega, rfl, HNL.out, ?_, ?_, HWL2.out, ?_, ?_⟩
              · have := HMK.out; have := HMP.out; omega
              · have := HMK.out; omega
              · have hz := blk3 (blk2 (blk1 (blk0 HQ4.out (.int .i64 o0)) (.int .i64 o1)) (.int .i64 o2)) (.int .i64 o3)
                rw [← HOE.out]
                exact hz
              · exact (((HB4.out.setCell (Nat.le_refl _) _).setCell (Nat.le_refl _) _).setCell (Nat.le_refl _) _).setCell (Nat.le_refl _) _
          · skip
            go_simp
            refine hK.out _ _ (HSX.out _ (bl_alloc Z0.out _)) (fun hHeld => ?_)
            (try simp only [Act.put, List.setIfInBounds_toArray, List.set_cons_zero, List.set_cons_succ, List.getElem_toArray, List.getElem_cons_succ, List.getElem_cons_zero])
            refine wpAnyH_ready (rs := [6]) (by kernel_rfl) (by simp) ?_
            refine AllReadyH.cons rfl (fun K hK => ?_) AllReadyH.nil
            go_simp
            have ZA : Hid (Below wr.heap.size wr (wd.alloc (.cells #[.int .i64 0, .int .i64 0, .int .i64 0, .int .i64 0] 49)).drew) := Lib.hid (bl_drew (bl_alloc HD0.out _))
            with_reducible refine (HGH.out _ ZA.out _ _ _ (HNL.out.below (HB0.out _ ZA.out))).mono ?_
            rintro e z1 ⟨rfl, hb⟩
            have Z1 : Hid (Below wr.heap.size wr z1) := Lib.hid (bl_then ZA.out hb)
            have hn0 := block_below (w := (wd.alloc (.cells #[.int .i64 0, .int .i64 0, .int .i64 0, .int .i64 0] 49)).drew) (new_block wd (.cells #[.int .i64 0, .int .i64 0, .int .i64 0, .int .i64 0] 49)) hb
            have n0 := block_cell hn0 (j := 0) rfl
            have n1 := block_cell hn0 (j := 1) rfl
            have n2 := block_cell hn0 (j := 2) rfl
            have n3 := block_cell hn0 (j := 3) rfl
            have fn0 := block_fr hn0 0
            have fn1 := block_fr hn0 1
            have fn2 := block_fr hn0 2
            have fn3 := block_fr hn0 3
            have hq := blk3 (blk2 (blk1 (blk0 hn0 (.int .i64 o0)) (.int .i64 o1)) (.int .i64 o2)) (.int .i64 o3)
            have hbo : Below wr.heap.size wr ((((z1.setCell ⟨wd.heap.size, 0, none⟩ (.int .i64 o0)).setCell ⟨wd.heap.size, 1, none⟩ (.int .i64 o1)).setCell ⟨wd.heap.size, 2, none⟩ (.int .i64 o2)).setCell ⟨wd.heap.size, 3, none⟩ (.int .i64 o3)) := (((Z1.out.setCell HD0.out.size _).setCell HD0.out.size _).setCell HD0.out.size _).setCell HD0.out.size _
            obtain ⟨vo, hvo⟩ : ∃ vo, vo = (((z1.setCell ⟨wd.heap.size, 0, none⟩ (.int .i64 o0)).setCell ⟨wd.heap.size, 1, none⟩ (.int .i64 o1)).setCell ⟨wd.heap.size, 2, none⟩ (.int .i64 o2)).setCell ⟨wd.heap.size, 3, none⟩ (.int .i64 o3) := ⟨_, rfl⟩
            rw [← hvo] at hq hbo
            have HVO := Lib.hid hvo
            have HQO := Lib.hid hq
            have HBO := Lib.hid hbo
            clear hq hbo hvo hb hn0
            refine hK.out _ _ (HSX.out _ Z1.out) (fun hHeld => ?_)
            (try simp only [Act.put, List.setIfInBounds_toArray, List.set_cons_zero, List.set_cons_succ, List.getElem_toArray, List.getElem_cons_succ, List.getElem_cons_zero])
            refine wpAnyH_take (i := 7) (v := ?_) rfl (by kernel_rfl) (by kernel_rfl) (by kernel_rfl) (fun _ _ _ h => h) (Or.inl ⟨by rfl, ?_⟩) (by assumption) ?_
            rotate_left
            · intro w hSw; (try dsimp only at hSw); go_simp <;> with_reducible rfl
            (try simp only [Act.put, List.setIfInBounds_toArray, List.set_cons_zero, List.set_cons_succ, List.getElem_toArray, List.getElem_cons_succ, List.getElem_cons_zero])
            refine wpAnyH_take (i := 8) (v := ?_) rfl (by kernel_rfl) (by kernel_rfl) (by kernel_rfl) (fun _ _ _ h => h) (Or.inl ⟨by rfl, ?_⟩) (by assumption) ?_
            rotate_left
            · intro w hSw; (try dsimp only at hSw); go_simp <;> with_reducible rfl
            (try simp only [Act.put, List.setIfInBounds_toArray, List.set_cons_zero, List.set_cons_succ, List.getElem_toArray, List.getElem_cons_succ, List.getElem_cons_zero])
            refine wpAnyH_take (i := 9) (v := ?_) rfl (by kernel_rfl) (by kernel_rfl) (by kernel_rfl) (fun _ _ _ h => h) (Or.inl ⟨by rfl, ?_⟩) (by assumption) ?_
            rotate_left
            · intro w hSw; (try dsimp only at hSw); go_simp <;> with_reducible rfl
            (try simp only [Act.put, List.setIfInBounds_toArray, List.set_cons_zero, List.set_cons_succ, List.getElem_toArray, List.getElem_cons_succ, List.getElem_cons_zero])
            refine wpAnyH_ready (rs := [11]) (by kernel_rfl) (by simp) ?_
            refine AllReadyH.cons rfl (fun K hK => ?_) AllReadyH.nil
            go_simp
            rw [← HVO.out]
            clear n0 n1 n2 n3 fn0 fn1 fn2 fn3
            refine hK.out _ _ (HSX.out _ HBO.out) (fun hHeld => ?_)
            (try simp only [Act.put, List.setIfInBounds_toArray, List.set_cons_zero, List.set_cons_succ, List.getElem_toArray, List.getElem_cons_succ, List.getElem_cons_zero])
            refine wpAnyH_take (i := 12) (v := ?_) rfl (by kernel_rfl) (by kernel_rfl) (by kernel_rfl) (fun _ _ _ h => h) (Or.inl ⟨by rfl, ?_⟩) (by assumption) ?_
            rotate_left
            · intro w hSw; (try dsimp only at hSw); go_simp <;> with_reducible rfl
            (try simp only [Act.put, List.setIfInBounds_toArray, List.set_cons_zero, List.set_cons_succ, List.getElem_toArray, List.getElem_cons_succ, List.getElem_cons_zero])
            refine wpAnyH_done (by kernel_rfl) ?_ _
            have hq3 := block_below HBLK.out HBO.out
            have hq := HQO.out
            have q0 := block_cell hq (j := 0) rfl
            have q1 := block_cell hq (j := 1) rfl
            have q2 := block_cell hq (j := 2) rfl
            have q3 := block_cell hq (j := 3) rfl
            have c0 := block_cell hq3 (j := 0) rfl
            have c1' := block_cell hq3 (j := 1) rfl
            have c2' := block_cell hq3 (j := 2) rfl
            have c3' := block_cell hq3 (j := 3) rfl
            have f0 := block_fr hq3 0
            have f1 := block_fr hq3 1
            have f2 := block_fr hq3 2
            have f3 := block_fr hq3 3
            have HQ4 := Lib.hid hq3
            have HB4 : Hid (Below y1.heap.size y1 vo) := Lib.hid (bl_then HB.out HBO.out)
            clear hq3 hq
            go_wp2_with fail
            go_roundg 0
            case measure => have := HM.out; have := HMP.out; omega
            case rel =>
              refine ⟨_, 0, 0, l2, (y : Int), rfl, by have := HMP.out; omega, rfl, HNL.out, ?_, ?_, HWL2.out, ?_, ?_⟩
              · have := HMK.out; have := HMP.out; omega
              · have := HMK.out; omega
              · have hz := blk3 (blk2 (blk1 (blk0 HQ4.out (.int .i64 o0)) (.int .i64 o1)) (.int .i64 o2)) (.int .i64 o3)
                rw [← HOE.out]
                exact hz
              · exact (((HB4.out.setCell (Nat.le_refl _) _).setCell (Nat.le_refl _) _).setCell (Nat.le_refl _) _).setCell (Nat.le_refl _) _
      · have HNL : Hid (ReadsI y1 (some ⟨b, o + 1, none⟩) (m - 1) (k - 1) l2) := Lib.hid (HRL.out.rest (j := 1) hp (k - 1) (fun h => rfl))
        rcases Int.lt_or_le 0 h2' with hf | hf
        · obtain ⟨hx0, hx1, hq2⟩ := HON2.out hf
          have hx2 := hx0.symm
          have hx3 := hx1.symm
          clear hx0 hx1
          subst hx2 hx3
          have g1 : IntKind.i64.wrap (h2' - wy) = o2 := by rw [IntWalk.i64_in _ (by omega)]; omega
          have g2 : (o2 != o2) = false := by simp
          have g3 : (o0 != o0) = false := by simp
          have g4 : (o1 != o1) = false := by simp
          have g5 : decide (0 < h2') = true := decide_eq_true hf
          clear hq2
          go_wp2_with fail
          go_quiet (fail)
          go_wp2_with fail
          generalize hV : World.drewN wr _ = wd
          have HD0 : Hid (Below wr.heap.size wr wd) := Lib.hid (by rw [← hV]; exact bl_drewN (Below.refl _ _) _)
          clear hV
          have Z0 : Hid (Below wr.heap.size wr wd.drew) := Lib.hid (bl_drew HD0.out)
          have HSX : Hid (∀ w', Below wr.heap.size wr w' → w'.cell? ⟨b, o, none⟩ = some (.int .i64 (y : Nat))) := Lib.hid fun w' h => cell_below HD.out h
          clear d0 dW l0 l1 l2'
          refine wp_region_held_drew (S := fun w' => w'.cell? ⟨b, o, none⟩ = some (.int .i64 (y : Nat))) (by kernel_rfl) (HSX.out _ Z0.out) (fun hHeld => ?_)
          refine wpAnyH_take (i := 0) (v := ?_) rfl (by kernel_rfl) (by kernel_rfl) (by kernel_rfl) (fun _ _ _ h => h) (Or.inl ⟨by rfl, ?_⟩) (by assumption) ?_
          rotate_left
          · intro w hSw; (try dsimp only at hSw); go_simp <;> with_reducible rfl
          (try simp only [Act.put, List.setIfInBounds_toArray, List.set_cons_zero, List.set_cons_succ, List.getElem_toArray, List.getElem_cons_succ, List.getElem_cons_zero])
          refine wpAnyH_take (i := 1) (v := ?_) rfl (by kernel_rfl) (by kernel_rfl) (by kernel_rfl) (fun _ _ _ h => h) (Or.inl ⟨by rfl, ?_⟩) (by assumption) ?_
          rotate_left
          · intro w hSw; (try dsimp only at hSw); go_simp <;> with_reducible rfl
          (try simp only [Act.put, List.setIfInBounds_toArray, List.set_cons_zero, List.set_cons_succ, List.getElem_toArray, List.getElem_cons_succ, List.getElem_cons_zero])
          refine wpAnyH_take (i := 2) (v := ?_) rfl (by kernel_rfl) (by kernel_rfl) (by kernel_rfl) (fun _ _ _ h => h) (Or.inl ⟨by rfl, ?_⟩) (by assumption) ?_
          rotate_left
          · intro w hSw; (try dsimp only at hSw); go_simp <;> with_reducible rfl
          (try simp only [Act.put, List.setIfInBounds_toArray, List.set_cons_zero, List.set_cons_succ, List.getElem_toArray, List.getElem_cons_succ, List.getElem_cons_zero])
          refine wpAnyH_take (i := 3) (v := ?_) rfl (by kernel_rfl) (by kernel_rfl) (by kernel_rfl) (fun _ _ _ h => h) (Or.inl ⟨by rfl, ?_⟩) (by assumption) ?_
          rotate_left
          · intro w hSw; (try dsimp only at hSw); go_simp <;> with_reducible rfl
          (try simp only [Act.put, List.setIfInBounds_toArray, List.set_cons_zero, List.set_cons_succ, List.getElem_toArray, List.getElem_cons_succ, List.getElem_cons_zero])
          refine wpAnyH_take (i := 4) (v := ?_) rfl (by kernel_rfl) (by kernel_rfl) (by kernel_rfl) (fun _ _ _ h => h) (Or.inl ⟨by rfl, ?_⟩) (by assumption) ?_
          rotate_left
          · intro w hSw; (try dsimp only at hSw); go_simp <;> with_reducible rfl
          (try simp only [Act.put, List.setIfInBounds_toArray, List.set_cons_zero, List.set_cons_succ, List.getElem_toArray, List.getElem_cons_succ, List.getElem_cons_zero])
          refine wpAnyH_take (i := 5) (v := ?_) rfl (by kernel_rfl) (by kernel_rfl) (by kernel_rfl) (fun _ _ _ h => h) (Or.inl ⟨by rfl, ?_⟩) (by assumption) ?_
          rotate_left
          · intro w hSw; (try dsimp only at hSw); go_simp <;> with_reducible rfl
          (try simp only [Act.put, List.setIfInBounds_toArray, List.set_cons_zero, List.set_cons_succ, List.getElem_toArray, List.getElem_cons_succ, List.getElem_cons_zero])
          refine wpAnyH_ready (rs := [6, 10]) (by kernel_rfl) (by simp) ?_
          refine AllReadyH.cons rfl (fun K hK => ?_) (AllReadyH.cons rfl (fun K hK => ?_) AllReadyH.nil)
          · skip
            go_simp
            with_reducible refine (HGH.out _ Z0.out _ _ _ (HNL.out.below (HB0.out _ Z0.out))).mono ?_
            rintro e z1 ⟨rfl, hb⟩
            have Z1 : Hid (Below wr.heap.size wr z1) := Lib.hid (bl_then Z0.out hb)
            clear hb
            refine hK.out _ _ (HSX.out _ Z1.out) (fun hHeld => ?_)
            (try simp only [Act.put, List.setIfInBounds_toArray, List.set_cons_zero, List.set_cons_succ, List.getElem_toArray, List.getElem_cons_succ, List.getElem_cons_zero])
            refine wpAnyH_take (i := 7) (v := ?_) rfl (by kernel_rfl) (by kernel_rfl) (by kernel_rfl) (fun _ _ _ h => h) (Or.inl ⟨by rfl, ?_⟩) (by assumption) ?_
            rotate_left
            · intro w hSw; (try dsimp only at hSw); go_simp <;> with_reducible rfl
            (try simp only [Act.put, List.setIfInBounds_toArray, List.set_cons_zero, List.set_cons_succ, List.getElem_toArray, List.getElem_cons_succ, List.getElem_cons_zero])
            refine wpAnyH_take (i := 8) (v := ?_) rfl (by kernel_rfl) (by kernel_rfl) (by kernel_rfl) (fun _ _ _ h => h) (Or.inl ⟨by rfl, ?_⟩) (by assumption) ?_
            rotate_left
            · intro w hSw; (try dsimp only at hSw); go_simp <;> with_reducible rfl
            (try simp only [Act.put, List.setIfInBounds_toArray, List.set_cons_zero, List.set_cons_succ, List.getElem_toArray, List.getElem_cons_succ, List.getElem_cons_zero])
            refine wpAnyH_take (i := 9) (v := ?_) rfl (by kernel_rfl) (by kernel_rfl) (by kernel_rfl) (fun _ _ _ h => h) (Or.inl ⟨by rfl, ?_⟩) (by assumption) ?_
            rotate_left
            · intro w hSw; (try dsimp only at hSw); go_simp <;> with_reducible rfl
            (try simp only [Act.put, List.setIfInBounds_toArray, List.set_cons_zero, List.set_cons_succ, List.getElem_toArray, List.getElem_cons_succ, List.getElem_cons_zero])
            refine wpAnyH_ready (rs := [10]) (by kernel_rfl) (by simp) ?_
            refine AllReadyH.cons rfl (fun K hK => ?_) AllReadyH.nil
            go_simp
            refine hK.out _ _ (HSX.out _ (bl_alloc Z1.out _)) (fun hHeld => ?_)
            (try simp only [Act.put, List.setIfInBounds_toArray, List.set_cons_zero, List.set_cons_succ, List.getElem_toArray, List.getElem_cons_succ, List.getElem_cons_zero])
            have hq := new_block z1 (.cells #[.int .i64 o0, .int .i64 o1, .int .i64 o2, .int .i64 o3] 49)
            have hbo : Below wr.heap.size wr (z1.alloc (.cells #[.int .i64 o0, .int .i64 o1, .int .i64 o2, .int .i64 o3] 49)) := bl_alloc Z1.out _
            obtain ⟨vo, hvo⟩ : ∃ vo, vo = z1.alloc (.cells #[.int .i64 o0, .int .i64 o1, .int .i64 o2, .int .i64 o3] 49) := ⟨_, rfl⟩
            rw [← hvo] at hq hbo
            have HVO := Lib.hid hvo
            have HQO := Lib.hid hq
            have HBO := Lib.hid hbo
            clear hq hbo hvo
            refine wpAnyH_ready (rs := [11]) (by kernel_rfl) (by simp) ?_
            refine AllReadyH.cons rfl (fun K hK => ?_) AllReadyH.nil
            go_simp
            rw [← HVO.out]
            refine hK.out _ _ (HSX.out _ HBO.out) (fun hHeld => ?_)
            (try simp only [Act.put, List.setIfInBounds_toArray, List.set_cons_zero, List.set_cons_succ, List.getElem_toArray, List.getElem_cons_succ, List.getElem_cons_zero])
            refine wpAnyH_take (i := 12) (v := ?_) rfl (by kernel_rfl) (by kernel_rfl) (by kernel_rfl) (fun _ _ _ h => h) (Or.inl ⟨by rfl, ?_⟩) (by assumption) ?_
            rotate_left
            · intro w hSw; (try dsimp only at hSw); go_simp <;> with_reducible rfl
            (try simp only [Act.put, List.setIfInBounds_toArray, List.set_cons_zero, List.set_cons_succ, List.getElem_toArray, List.getElem_cons_succ, List.getElem_cons_zero])
            refine wpAnyH_done (by kernel_rfl) ?_ _
            have hq3 := block_below HBLK.out HBO.out
            have hq := HQO.out
            have q0 := block_cell hq (j := 0) rfl
            have q1 := block_cell hq (j := 1) rfl
            have q2 := block_cell hq (j := 2) rfl
            have q3 := block_cell hq (j := 3) rfl
            have c0 := block_cell hq3 (j := 0) rfl
            have c1' := block_cell hq3 (j := 1) rfl
            have c2' := block_cell hq3 (j := 2) rfl
            have c3' := block_cell hq3 (j := 3) rfl
            have f0 := block_fr hq3 0
            have f1 := block_fr hq3 1
            have f2 := block_fr hq3 2
            have f3 := block_fr hq3 3
            have HQ4 := Lib.hid hq3
            have HB4 : Hid (Below y1.heap.size y1 vo) := Lib.hid (bl_then HB.out HBO.out)
            clear hq3 hq
            go_wp2_with fail
            go_roundg (m-1)
            case measure => have := HM.out; have := HMP.out; omega
            case rel =>
              refine ⟨_, (m-1), (k-1), l2, (y : Int), rfl, by have := HMP.out; omega, rfl, HNL.out, ?_, ?_, HWL2.out, ?_, ?_⟩
              · have := HMK.out; have := HMP.out; omega
              · have := HMK.out; omega
              · have hz := blk3 (blk2 (blk1 (blk0 HQ4.out (.int .i64 o0)) (.int .i64 o1)) (.int .i64 o2)) (.int .i64 o3)
                rw [← HOE.out]
                exact hz
              · exact (((HB4.out.setCell (Nat.le_refl _) _).setCell (Nat.le_refl _) _).setCell (Nat.le_refl _) _).setCell (Nat.le_refl _) _
          · skip
            go_simp
            refine hK.out _ _ (HSX.out _ (bl_alloc Z0.out _)) (fun hHeld => ?_)
            (try simp only [Act.put, List.setIfInBounds_toArray, List.set_cons_zero, List.set_cons_succ, List.getElem_toArray, List.getElem_cons_succ, List.getElem_cons_zero])
            refine wpAnyH_ready (rs := [6]) (by kernel_rfl) (by simp) ?_
            refine AllReadyH.cons rfl (fun K hK => ?_) AllReadyH.nil
            go_simp
            have ZA : Hid (Below wr.heap.size wr (wd.alloc (.cells #[.int .i64 0, .int .i64 0, .int .i64 0, .int .i64 0] 49)).drew) := Lib.hid (bl_drew (bl_alloc HD0.out _))
            with_reducible refine (HGH.out _ ZA.out _ _ _ (HNL.out.below (HB0.out _ ZA.out))).mono ?_
            rintro e z1 ⟨rfl, hb⟩
            have Z1 : Hid (Below wr.heap.size wr z1) := Lib.hid (bl_then ZA.out hb)
            have hn0 := block_below (w := (wd.alloc (.cells #[.int .i64 0, .int .i64 0, .int .i64 0, .int .i64 0] 49)).drew) (new_block wd (.cells #[.int .i64 0, .int .i64 0, .int .i64 0, .int .i64 0] 49)) hb
            have n0 := block_cell hn0 (j := 0) rfl
            have n1 := block_cell hn0 (j := 1) rfl
            have n2 := block_cell hn0 (j := 2) rfl
            have n3 := block_cell hn0 (j := 3) rfl
            have fn0 := block_fr hn0 0
            have fn1 := block_fr hn0 1
            have fn2 := block_fr hn0 2
            have fn3 := block_fr hn0 3
            have hq := blk3 (blk2 (blk1 (blk0 hn0 (.int .i64 o0)) (.int .i64 o1)) (.int .i64 o2)) (.int .i64 o3)
            have hbo : Below wr.heap.size wr ((((z1.setCell ⟨wd.heap.size, 0, none⟩ (.int .i64 o0)).setCell ⟨wd.heap.size, 1, none⟩ (.int .i64 o1)).setCell ⟨wd.heap.size, 2, none⟩ (.int .i64 o2)).setCell ⟨wd.heap.size, 3, none⟩ (.int .i64 o3)) := (((Z1.out.setCell HD0.out.size _).setCell HD0.out.size _).setCell HD0.out.size _).setCell HD0.out.size _
            obtain ⟨vo, hvo⟩ : ∃ vo, vo = (((z1.setCell ⟨wd.heap.size, 0, none⟩ (.int .i64 o0)).setCell ⟨wd.heap.size, 1, none⟩ (.int .i64 o1)).setCell ⟨wd.heap.size, 2, none⟩ (.int .i64 o2)).setCell ⟨wd.heap.size, 3, none⟩ (.int .i64 o3) := ⟨_, rfl⟩
            rw [← hvo] at hq hbo
            have HVO := Lib.hid hvo
            have HQO := Lib.hid hq
            have HBO := Lib.hid hbo
            clear hq hbo hvo hb hn0
            refine hK.out _ _ (HSX.out _ Z1.out) (fun hHeld => ?_)
            (try simp only [Act.put, List.setIfInBounds_toArray, List.set_cons_zero, List.set_cons_succ, List.getElem_toArray, List.getElem_cons_succ, List.getElem_cons_zero])
            refine wpAnyH_take (i := 7) (v := ?_) rfl (by kernel_rfl) (by kernel_rfl) (by kernel_rfl) (fun _ _ _ h => h) (Or.inl ⟨by rfl, ?_⟩) (by assumption) ?_
            rotate_left
            · intro w hSw; (try dsimp only at hSw); go_simp <;> with_reducible rfl
            (try simp only [Act.put, List.setIfInBounds_toArray, List.set_cons_zero, List.set_cons_succ, List.getElem_toArray, List.getElem_cons_succ, List.getElem_cons_zero])
            refine wpAnyH_take (i := 8) (v := ?_) rfl (by kernel_rfl) (by kernel_rfl) (by kernel_rfl) (fun _ _ _ h => h) (Or.inl ⟨by rfl, ?_⟩) (by assumption) ?_
            rotate_left
            · intro w hSw; (try dsimp only at hSw); go_simp <;> with_reducible rfl
            (try simp only [Act.put, List.setIfInBounds_toArray, List.set_cons_zero, List.set_cons_succ, List.getElem_toArray, List.getElem_cons_succ, List.getElem_cons_zero])
            refine wpAnyH_take (i := 9) (v := ?_) rfl (by kernel_rfl) (by kernel_rfl) (by kernel_rfl) (fun _ _ _ h => h) (Or.inl ⟨by rfl, ?_⟩) (by assumption) ?_
            rotate_left
            · intro w hSw; (try dsimp only at hSw); go_simp <;> with_reducible rfl
            (try simp only [Act.put, List.setIfInBounds_toArray, List.set_cons_zero, List.set_cons_succ, List.getElem_toArray, List.getElem_cons_succ, List.getElem_cons_zero])
            refine wpAnyH_ready (rs := [11]) (by kernel_rfl) (by simp) ?_
            refine AllReadyH.cons rfl (fun K hK => ?_) AllReadyH.nil
            go_simp
            rw [← HVO.out]
            clear n0 n1 n2 n3 fn0 fn1 fn2 fn3
            refine hK.out _ _ (HSX.out _ HBO.out) (fun hHeld => ?_)
            (try simp only [Act.put, List.setIfInBounds_toArray, List.set_cons_zero, List.set_cons_succ, List.getElem_toArray, List.getElem_cons_succ, List.getElem_cons_zero])
            refine wpAnyH_take (i := 12) (v := ?_) rfl (by kernel_rfl) (by kernel_rfl) (by kernel_rfl) (fun _ _ _ h => h) (Or.inl ⟨by rfl, ?_⟩) (by assumption) ?_
            rotate_left
            · intro w hSw; (try dsimp only at hSw); go_simp <;> with_reducible rfl
            (try simp only [Act.put, List.setIfInBounds_toArray, List.set_cons_zero, List.set_cons_succ, List.getElem_toArray, List.getElem_cons_succ, List.getElem_cons_zero])
            refine wpAnyH_done (by kernel_rfl) ?_ _
            have hq3 := block_below HBLK.out HBO.out
            have hq := HQO.out
            have q0 := block_cell hq (j := 0) rfl
            have q1 := block_cell hq (j := 1) rfl
            have q2 := block_cell hq (j := 2) rfl
            have q3 := block_cell hq (j := 3) rfl
            have c0 := block_cell hq3 (j := 0) rfl
            have c1' := block_cell hq3 (j := 1) rfl
            have c2' := block_cell hq3 (j := 2) rfl
            have c3' := block_cell hq3 (j := 3) rfl
            have f0 := block_fr hq3 0
            have f1 := block_fr hq3 1
            have f2 := block_fr hq3 2
            have f3 := block_fr hq3 3
            have HQ4 := Lib.hid hq3
            have HB4 : Hid (Below y1.heap.size y1 vo) := Lib.hid (bl_then HB.out HBO.out)
            clear hq3 hq
            go_wp2_with fail
            go_roundg (m-1)
            case measure => have := HM.out; have := HMP.out; omega
            case rel =>
              refine ⟨_, (m-1), (k-1), l2, (y : Int), rfl, by have := HMP.out; omega, rfl, HNL.out, ?_, ?_, HWL2.out, ?_, ?_⟩
              · have := HMK.out; have := HMP.out; omega
              · have := HMK.out; omega
              · have hz := blk3 (blk2 (blk1 (blk0 HQ4.out (.int .i64 o0)) (.int .i64 o1)) (.int .i64 o2)) (.int .i64 o3)
                rw [← HOE.out]
                exact hz
              · exact (((HB4.out.setCell (Nat.le_refl _) _).setCell (Nat.le_refl _) _).setCell (Nat.le_refl _) _).setCell (Nat.le_refl _) _
        · have g5 : decide (0 < h2') = false := decide_eq_false (by omega)
          have g6 : ¬ 0 < h2' := by omega
          go_wp2_with fail
          go_quiet (fail)
          go_wp2_with fail
          generalize hV : World.drewN wr _ = wd
          have HD0 : Hid (Below wr.heap.size wr wd) := Lib.hid (by rw [← hV]; exact bl_drewN (Below.refl _ _) _)
          clear hV
          have Z0 : Hid (Below wr.heap.size wr wd.drew) := Lib.hid (bl_drew HD0.out)
          have HSX : Hid (∀ w', Below wr.heap.size wr w' → w'.cell? ⟨b, o, none⟩ = some (.int .i64 (y : Nat))) := Lib.hid fun w' h => cell_below HD.out h
          clear d0 dW l0 l1 l2'
          refine wp_region_held_drew (S := fun w' => w'.cell? ⟨b, o, none⟩ = some (.int .i64 (y : Nat))) (by kernel_rfl) (HSX.out _ Z0.out) (fun hHeld => ?_)
          refine wpAnyH_take (i := 0) (v := ?_) rfl (by kernel_rfl) (by kernel_rfl) (by kernel_rfl) (fun _ _ _ h => h) (Or.inl ⟨by rfl, ?_⟩) (by assumption) ?_
          rotate_left
          · intro w hSw; (try dsimp only at hSw); go_simp <;> with_reducible rfl
          (try simp only [Act.put, List.setIfInBounds_toArray, List.set_cons_zero, List.set_cons_succ, List.getElem_toArray, List.getElem_cons_succ, List.getElem_cons_zero])
          refine wpAnyH_take (i := 1) (v := ?_) rfl (by kernel_rfl) (by kernel_rfl) (by kernel_rfl) (fun _ _ _ h => h) (Or.inl ⟨by rfl, ?_⟩) (by assumption) ?_
          rotate_left
          · intro w hSw; (try dsimp only at hSw); go_simp <;> with_reducible rfl
          (try simp only [Act.put, List.setIfInBounds_toArray, List.set_cons_zero, List.set_cons_succ, List.getElem_toArray, List.getElem_cons_succ, List.getElem_cons_zero])
          refine wpAnyH_take (i := 2) (v := ?_) rfl (by kernel_rfl) (by kernel_rfl) (by kernel_rfl) (fun _ _ _ h => h) (Or.inl ⟨by rfl, ?_⟩) (by assumption) ?_
          rotate_left
          · intro w hSw; (try dsimp only at hSw); go_simp <;> with_reducible rfl
          (try simp only [Act.put, List.setIfInBounds_toArray, List.set_cons_zero, List.set_cons_succ, List.getElem_toArray, List.getElem_cons_succ, List.getElem_cons_zero])
          refine wpAnyH_take (i := 3) (v := ?_) rfl (by kernel_rfl) (by kernel_rfl) (by kernel_rfl) (fun _ _ _ h => h) (Or.inl ⟨by rfl, ?_⟩) (by assumption) ?_
          rotate_left
          · intro w hSw; (try dsimp only at hSw); go_simp <;> with_reducible rfl
          (try simp only [Act.put, List.setIfInBounds_toArray, List.set_cons_zero, List.set_cons_succ, List.getElem_toArray, List.getElem_cons_succ, List.getElem_cons_zero])
          refine wpAnyH_take (i := 4) (v := ?_) rfl (by kernel_rfl) (by kernel_rfl) (by kernel_rfl) (fun _ _ _ h => h) (Or.inl ⟨by rfl, ?_⟩) (by assumption) ?_
          rotate_left
          · intro w hSw; (try dsimp only at hSw); go_simp <;> with_reducible rfl
          (try simp only [Act.put, List.setIfInBounds_toArray, List.set_cons_zero, List.set_cons_succ, List.getElem_toArray, List.getElem_cons_succ, List.getElem_cons_zero])
          refine wpAnyH_take (i := 5) (v := ?_) rfl (by kernel_rfl) (by kernel_rfl) (by kernel_rfl) (fun _ _ _ h => h) (Or.inl ⟨by rfl, ?_⟩) (by assumption) ?_
          rotate_left
          · intro w hSw; (try dsimp only at hSw); go_simp <;> with_reducible rfl
          (try simp only [Act.put, List.setIfInBounds_toArray, List.set_cons_zero, List.set_cons_succ, List.getElem_toArray, List.getElem_cons_succ, List.getElem_cons_zero])
          refine wpAnyH_ready (rs := [6, 10]) (by kernel_rfl) (by simp) ?_
          refine AllReadyH.cons rfl (fun K hK => ?_) (AllReadyH.cons rfl (fun K hK => ?_) AllReadyH.nil)
          · skip
            go_simp
            with_reducible refine (HGH.out _ Z0.out _ _ _ (HNL.out.below (HB0.out _ Z0.out))).mono ?_
            rintro e z1 ⟨rfl, hb⟩
            have Z1 : Hid (Below wr.heap.size wr z1) := Lib.hid (bl_then Z0.out hb)
            clear hb
            refine hK.out _ _ (HSX.out _ Z1.out) (fun hHeld => ?_)
            (try simp only [Act.put, List.setIfInBounds_toArray, List.set_cons_zero, List.set_cons_succ, List.getElem_toArray, List.getElem_cons_succ, List.getElem_cons_zero])
            refine wpAnyH_take (i := 7) (v := ?_) rfl (by kernel_rfl) (by kernel_rfl) (by kernel_rfl) (fun _ _ _ h => h) (Or.inl ⟨by rfl, ?_⟩) (by assumption) ?_
            rotate_left
            · intro w hSw; (try dsimp only at hSw); go_simp <;> with_reducible rfl
            (try simp only [Act.put, List.setIfInBounds_toArray, List.set_cons_zero, List.set_cons_succ, List.getElem_toArray, List.getElem_cons_succ, List.getElem_cons_zero])
            refine wpAnyH_take (i := 8) (v := ?_) rfl (by kernel_rfl) (by kernel_rfl) (by kernel_rfl) (fun _ _ _ h => h) (Or.inl ⟨by rfl, ?_⟩) (by assumption) ?_
            rotate_left
            · intro w hSw; (try dsimp only at hSw); go_simp <;> with_reducible rfl
            (try simp only [Act.put, List.setIfInBounds_toArray, List.set_cons_zero, List.set_cons_succ, List.getElem_toArray, List.getElem_cons_succ, List.getElem_cons_zero])
            refine wpAnyH_take (i := 9) (v := ?_) rfl (by kernel_rfl) (by kernel_rfl) (by kernel_rfl) (fun _ _ _ h => h) (Or.inl ⟨by rfl, ?_⟩) (by assumption) ?_
            rotate_left
            · intro w hSw; (try dsimp only at hSw); go_simp <;> with_reducible rfl
            (try simp only [Act.put, List.setIfInBounds_toArray, List.set_cons_zero, List.set_cons_succ, List.getElem_toArray, List.getElem_cons_succ, List.getElem_cons_zero])
            refine wpAnyH_ready (rs := [10]) (by kernel_rfl) (by simp) ?_
            refine AllReadyH.cons rfl (fun K hK => ?_) AllReadyH.nil
            go_simp
            refine hK.out _ _ (HSX.out _ (bl_alloc Z1.out _)) (fun hHeld => ?_)
            (try simp only [Act.put, List.setIfInBounds_toArray, List.set_cons_zero, List.set_cons_succ, List.getElem_toArray, List.getElem_cons_succ, List.getElem_cons_zero])
            have hq := new_block z1 (.cells #[.int .i64 o0, .int .i64 o1, .int .i64 o2, .int .i64 o3] 49)
            have hbo : Below wr.heap.size wr (z1.alloc (.cells #[.int .i64 o0, .int .i64 o1, .int .i64 o2, .int .i64 o3] 49)) := bl_alloc Z1.out _
            obtain ⟨vo, hvo⟩ : ∃ vo, vo = z1.alloc (.cells #[.int .i64 o0, .int .i64 o1, .int .i64 o2, .int .i64 o3] 49) := ⟨_, rfl⟩
            rw [← hvo] at hq hbo
            have HVO := Lib.hid hvo
            have HQO := Lib.hid hq
            have HBO := Lib.hid hbo
            clear hq hbo hvo
            refine wpAnyH_ready (rs := [11]) (by kernel_rfl) (by simp) ?_
            refine AllReadyH.cons rfl (fun K hK => ?_) AllReadyH.nil
            go_simp
            rw [← HVO.out]
            refine hK.out _ _ (HSX.out _ HBO.out) (fun hHeld => ?_)
            (try simp only [Act.put, List.setIfInBounds_toArray, List.set_cons_zero, List.set_cons_succ, List.getElem_toArray, List.getElem_cons_succ, List.getElem_cons_zero])
            refine wpAnyH_take (i := 12) (v := ?_) rfl (by kernel_rfl) (by kernel_rfl) (by kernel_rfl) (fun _ _ _ h => h) (Or.inl ⟨by rfl, ?_⟩) (by assumption) ?_
            rotate_left
            · intro w hSw; (try dsimp only at hSw); go_simp <;> with_reducible rfl
            (try simp only [Act.put, List.setIfInBounds_toArray, List.set_cons_zero, List.set_cons_succ, List.getElem_toArray, List.getElem_cons_succ, List.getElem_cons_zero])
            refine wpAnyH_done (by kernel_rfl) ?_ _
            have hq3 := block_below HBLK.out HBO.out
            have hq := HQO.out
            have q0 := block_cell hq (j := 0) rfl
            have q1 := block_cell hq (j := 1) rfl
            have q2 := block_cell hq (j := 2) rfl
            have q3 := block_cell hq (j := 3) rfl
            have c0 := block_cell hq3 (j := 0) rfl
            have c1' := block_cell hq3 (j := 1) rfl
            have c2' := block_cell hq3 (j := 2) rfl
            have c3' := block_cell hq3 (j := 3) rfl
            have f0 := block_fr hq3 0
            have f1 := block_fr hq3 1
            have f2 := block_fr hq3 2
            have f3 := block_fr hq3 3
            have HQ4 := Lib.hid hq3
            have HB4 : Hid (Below y1.heap.size y1 vo) := Lib.hid (bl_then HB.out HBO.out)
            clear hq3 hq
            go_wp2_with fail
            go_roundg (m-1)
            case measure => have := HM.out; have := HMP.out; omega
            case rel =>
              refine ⟨_, (m-1), (k-1), l2, (y : Int), rfl, by have := HMP.out; omega, rfl, HNL.out, ?_, ?_, HWL2.out, ?_, ?_⟩
              · have := HMK.out; have := HMP.out; omega
              · have := HMK.out; omega
              · have hz := blk3 (blk2 (blk1 (blk0 HQ4.out (.int .i64 o0)) (.int .i64 o1)) (.int .i64 o2)) (.int .i64 o3)
                rw [← HOE.out]
                exact hz
              · exact (((HB4.out.setCell (Nat.le_refl _) _).setCell (Nat.le_refl _) _).setCell (Nat.le_refl _) _).setCell (Nat.le_refl _) _
          · skip
            go_simp
            refine hK.out _ _ (HSX.out _ (bl_alloc Z0.out _)) (fun hHeld => ?_)
            (try simp only [Act.put, List.setIfInBounds_toArray, List.set_cons_zero, List.set_cons_succ, List.getElem_toArray, List.getElem_cons_succ, List.getElem_cons_zero])
            refine wpAnyH_ready (rs := [6]) (by kernel_rfl) (by simp) ?_
            refine AllReadyH.cons rfl (fun K hK => ?_) AllReadyH.nil
            go_simp
            have ZA : Hid (Below wr.heap.size wr (wd.alloc (.cells #[.int .i64 0, .int .i64 0, .int .i64 0, .int .i64 0] 49)).drew) := Lib.hid (bl_drew (bl_alloc HD0.out _))
            with_reducible refine (HGH.out _ ZA.out _ _ _ (HNL.out.below (HB0.out _ ZA.out))).mono ?_
            rintro e z1 ⟨rfl, hb⟩
            have Z1 : Hid (Below wr.heap.size wr z1) := Lib.hid (bl_then ZA.out hb)
            have hn0 := block_below (w := (wd.alloc (.cells #[.int .i64 0, .int .i64 0, .int .i64 0, .int .i64 0] 49)).drew) (new_block wd (.cells #[.int .i64 0, .int .i64 0, .int .i64 0, .int .i64 0] 49)) hb
            have n0 := block_cell hn0 (j := 0) rfl
            have n1 := block_cell hn0 (j := 1) rfl
            have n2 := block_cell hn0 (j := 2) rfl
            have n3 := block_cell hn0 (j := 3) rfl
            have fn0 := block_fr hn0 0
            have fn1 := block_fr hn0 1
            have fn2 := block_fr hn0 2
            have fn3 := block_fr hn0 3
            have hq := blk3 (blk2 (blk1 (blk0 hn0 (.int .i64 o0)) (.int .i64 o1)) (.int .i64 o2)) (.int .i64 o3)
            have hbo : Below wr.heap.size wr ((((z1.setCell ⟨wd.heap.size, 0, none⟩ (.int .i64 o0)).setCell ⟨wd.heap.size, 1, none⟩ (.int .i64 o1)).setCell ⟨wd.heap.size, 2, none⟩ (.int .i64 o2)).setCell ⟨wd.heap.size, 3, none⟩ (.int .i64 o3)) := (((Z1.out.setCell HD0.out.size _).setCell HD0.out.size _).setCell HD0.out.size _).setCell HD0.out.size _
            obtain ⟨vo, hvo⟩ : ∃ vo, vo = (((z1.setCell ⟨wd.heap.size, 0, none⟩ (.int .i64 o0)).setCell ⟨wd.heap.size, 1, none⟩ (.int .i64 o1)).setCell ⟨wd.heap.size, 2, none⟩ (.int .i64 o2)).setCell ⟨wd.heap.size, 3, none⟩ (.int .i64 o3) := ⟨_, rfl⟩
            rw [← hvo] at hq hbo
            have HVO := Lib.hid hvo
            have HQO := Lib.hid hq
            have HBO := Lib.hid hbo
            clear hq hbo hvo hb hn0
            refine hK.out _ _ (HSX.out _ Z1.out) (fun hHeld => ?_)
            (try simp only [Act.put, List.setIfInBounds_toArray, List.set_cons_zero, List.set_cons_succ, List.getElem_toArray, List.getElem_cons_succ, List.getElem_cons_zero])
            refine wpAnyH_take (i := 7) (v := ?_) rfl (by kernel_rfl) (by kernel_rfl) (by kernel_rfl) (fun _ _ _ h => h) (Or.inl ⟨by rfl, ?_⟩) (by assumption) ?_
            rotate_left
            · intro w hSw; (try dsimp only at hSw); go_simp <;> with_reducible rfl
            (try simp only [Act.put, List.setIfInBounds_toArray, List.set_cons_zero, List.set_cons_succ, List.getElem_toArray, List.getElem_cons_succ, List.getElem_cons_zero])
            refine wpAnyH_take (i := 8) (v := ?_) rfl (by kernel_rfl) (by kernel_rfl) (by kernel_rfl) (fun _ _ _ h => h) (Or.inl ⟨by rfl, ?_⟩) (by assumption) ?_
            rotate_left
            · intro w hSw; (try dsimp only at hSw); go_simp <;> with_reducible rfl
            (try simp only [Act.put, List.setIfInBounds_toArray, List.set_cons_zero, List.set_cons_succ, List.getElem_toArray, List.getElem_cons_succ, List.getElem_cons_zero])
            refine wpAnyH_take (i := 9) (v := ?_) rfl (by kernel_rfl) (by kernel_rfl) (by kernel_rfl) (fun _ _ _ h => h) (Or.inl ⟨by rfl, ?_⟩) (by assumption) ?_
            rotate_left
            · intro w hSw; (try dsimp only at hSw); go_simp <;> with_reducible rfl
            (try simp only [Act.put, List.setIfInBounds_toArray, List.set_cons_zero, List.set_cons_succ, List.getElem_toArray, List.getElem_cons_succ, List.getElem_cons_zero])
            refine wpAnyH_ready (rs := [11]) (by kernel_rfl) (by simp) ?_
            refine AllReadyH.cons rfl (fun K hK => ?_) AllReadyH.nil
            go_simp
            rw [← HVO.out]
            clear n0 n1 n2 n3 fn0 fn1 fn2 fn3
            refine hK.out _ _ (HSX.out _ HBO.out) (fun hHeld => ?_)
            (try simp only [Act.put, List.setIfInBounds_toArray, List.set_cons_zero, List.set_cons_succ, List.getElem_toArray, List.getElem_cons_succ, List.getElem_cons_zero])
            refine wpAnyH_take (i := 12) (v := ?_) rfl (by kernel_rfl) (by kernel_rfl) (by kernel_rfl) (fun _ _ _ h => h) (Or.inl ⟨by rfl, ?_⟩) (by assumption) ?_
            rotate_left
            · intro w hSw; (try dsimp only at hSw); go_simp <;> with_reducible rfl
            (try simp only [Act.put, List.setIfInBounds_toArray, List.set_cons_zero, List.set_cons_succ, List.getElem_toArray, List.getElem_cons_succ, List.getElem_cons_zero])
            refine wpAnyH_done (by kernel_rfl) ?_ _
            have hq3 := block_below HBLK.out HBO.out
            have hq := HQO.out
            have q0 := block_cell hq (j := 0) rfl
            have q1 := block_cell hq (j := 1) rfl
            have q2 := block_cell hq (j := 2) rfl
            have q3 := block_cell hq (j := 3) rfl
            have c0 := block_cell hq3 (j := 0) rfl
            have c1' := block_cell hq3 (j := 1) rfl
            have c2' := block_cell hq3 (j := 2) rfl
            have c3' := block_cell hq3 (j := 3) rfl
            have f0 := block_fr hq3 0
            have f1 := block_fr hq3 1
            have f2 := block_fr hq3 2
            have f3 := block_fr hq3 3
            have HQ4 := Lib.hid hq3
            have HB4 : Hid (Below y1.heap.size y1 vo) := Lib.hid (bl_then HB.out HBO.out)
            clear hq3 hq
            go_wp2_with fail
            go_roundg (m-1)
            case measure => have := HM.out; have := HMP.out; omega
            case rel =>
              refine ⟨_, (m-1), (k-1), l2, (y : Int), rfl, by have := HMP.out; omega, rfl, HNL.out, ?_, ?_, HWL2.out, ?_, ?_⟩
              · have := HMK.out; have := HMP.out; omega
              · have := HMK.out; omega
              · have hz := blk3 (blk2 (blk1 (blk0 HQ4.out (.int .i64 o0)) (.int .i64 o1)) (.int .i64 o2)) (.int .i64 o3)
                rw [← HOE.out]
                exact hz
              · exact (((HB4.out.setCell (Nat.le_refl _) _).setCell (Nat.le_refl _) _).setCell (Nat.le_refl _) _).setCell (Nat.le_refl _) _
theorem walk {W : World} (A : Option Addr) (n k : Nat) (xs : List Int) (hk : ReadsI W A n k xs) (a : Int) (h5 : (Lit.int .i64 a).wf = true) (A4 : Option Addr) (n4 k4 : Nat) (x4 : List Int) (q4 : ReadsI W A4 n4 k4 x4) :
    Calls Try.prog 10 #[.slice A n k, .int .i64 a, .slice A4 n4 k4] W fun e w' => e = .returned (.bool true) ∧ Below W.heap.size W w' := by
  have s1 := hk.small
  have s4 := q4.small
  unfold maxLen at s1 s4
  by_cases h : n ≤ 100 ∧ n4 ≤ 40
  · exact walk_ins A n k xs a h5 A4 n4 k4 x4 W h.1 h.2 hk q4
  · exact walk_out A n k a A4 n4 k4 (by omega) (by omega) W h
set_option maxRecDepth 100000 in
theorem lifted (os : Os) (started : os.Started) (H : Type) (enc : TypeId × Value → H) :
    ReturnsInHanded {} Try.checked os 10 .any (Rows.guideOnSpec.pre6 enc Try.prog Try.f10 Rows.guideOnRow.domain false) (Rows.guideOnSpec.post enc Try.prog Try.f10 false true false false) := by
  refine returnsInHanded_of_change (C := Try.checked) own started (by kernel_rfl) Try.func10
    (ChangeSpec.witness6 (enc := enc) (C := Try.checked) false ⟨#[], #[.slice none 0 0, .int .i64 0, .slice none 0 0], []⟩ 8 (by kernel_rfl) (by kernel_rfl) (by kernel_rfl) (by kernel_rfl)) ?_
  intro W base args ds gs before hval0 hW hcnd _
  have hval : ∀ (j : Nat) t v, Try.f10.params[j]? = some t → args[j]? = some v → Value.okWide Try.prog W .any base t v := hval0
  have hW' := hW
  obtain ⟨p, q, hA0, hV, rfl, hfz, hnd⟩ := hW
  have hA : DataW.TrodAll enc Try.prog W 0 (fun _ => true) true Try.f10.params.toList args.toList ds p := hA0
  rw [Try.params10] at hA hval
  obtain ⟨v0, vs0, d0, ds0, p0, q0, hargs, rfl, rfl, h0, r0⟩ := trodAll_cons hA
  obtain ⟨v1, vs1, d1, ds1, p1, q1, rfl, rfl, rfl, h1, r1⟩ := trodAll_cons r0
  obtain ⟨v2, vs2, d2, ds2, p2, q2, rfl, rfl, rfl, h2, r2⟩ := trodAll_cons r1
  obtain ⟨rfl, rfl, rfl⟩ := trodAll_nil r2
  obtain rfl : args = #[v0, v1, v2] := by cases args; simp_all
  obtain ⟨rfl, rfl⟩ := trodVars_none hV
  obtain ⟨a0, n0, c0, xs0, rfl, k0⟩ := open_reads (hval 0 22 v0 rfl rfl) h0
  obtain ⟨a1, rfl, rfl, rfl, w1⟩ := open_int Try.underlying3 (hval 1 3 v1 rfl rfl) h1
  obtain ⟨a2, n2, c2, xs2, rfl, k2⟩ := open_reads (hval 2 22 v2 rfl rfl) h2
  refine (walk a0 n0 c0 xs0 k0 a1 w1 a2 n2 c2 xs2 k2).mono fun e W' ⟨he, hb⟩ => ?_
  subst he
  exact ⟨_, rfl, post_law hW' hb rfl rfl rfl rfl rfl (by rw [Try.params10]; exact readable_all (by kernel_rfl))⟩
theorem over : Rows.guideOnRow.holds Try.pinned (OpenSpec.ofChange Rows.guideOnSpec) :=
  OpenClaim.holds_of_wide 10 Try.f10 rfl rfl rfl rfl rfl rfl rfl ⟨rfl, rfl, rfl, rfl, rfl⟩ rfl rfl rfl rfl rfl (by kernel_rfl) Try.func10 (by kernel_rfl)
    (of_decide_eq_true (by kernel_rfl)) (by unfold Func.isWrapper; first | (rw [if_pos (by decide +kernel)]; kernel_rfl) | (rw [if_neg (by decide +kernel)]; exact ⟨rfl, rfl⟩))
    (fun os started H enc _ => lifted os started H enc)
theorem proved : Rows.GuideOnSaid := over
#print axioms proved
end Go.Proofs.Ytkkaidliocadnaa.guideOn
