/- GuideOnly: ahead of the place that is told there is no choice; where one decides the turn that is told is the way's own, of its class. For every input, without a condition. -/
import Derived.Test.YtkkaidliocadnaaAwake21
import Derived.Test.YtkkaidliocadnaaStroll
import Derived.Test.YtkkaidliocadnaaRound
import Derived.Test.YtkkaidliocadnaaRow
import Derived.Deep.RegionHeld3
set_option linter.unusedVariables false
set_option linter.unusedSimpArgs false
namespace Go.Proofs.Ytkkaidliocadnaa.guideOnly
open Go.ChangeShapes Go.WideShapes Go.ChangeAt Go.RowKit
set_option maxRecDepth 100000 in
set_option maxHeartbeats 4000000 in
theorem walk_out (A : Option Addr) (n k : Nat) (a : Int) (A2 : Option Addr) (n2 k2 : Nat) (s1 : n ≤ 9223372036854775807) (s2 : n2 ≤ 9223372036854775807) (w : World) (h : ¬ (n ≤ 100 ∧ n2 ≤ 40)) :
    Calls Try.prog 9 #[.slice A n k, .int .i64 a, .slice A2 n2 k2] w fun e w' => e = .returned (.bool true) ∧ Below w.heap.size w w' := by
  by_cases h1 : 100 < n
  · clear h
    go_enter Try.func9, Try.ntmps9
    go_wp2_with (go_at_call 25; refine (awake21 _).mono ?_; rintro e w1 ⟨rfl, hb1⟩)
    go_ret
    exact ⟨rfl, by assumption⟩
  · have h2 : 40 < n2 := by omega
    clear h
    go_enter Try.func9, Try.ntmps9
    go_wp2_with (go_at_call 25; refine (awake21 _).mono ?_; rintro e w1 ⟨rfl, hb1⟩)
    go_ret
    exact ⟨rfl, by assumption⟩
theorem stop_before {es : List (Int × Int × Int)} {bs : List (Int × Int)} : ∀ {a : Int} {l : List Int} {k : Nat}, k < stopN es bs a l → (nextT es bs (lastI a (l.take k))).length = 1
  | _, [], _, h => by simp [stopN] at h
  | a, e :: l, k, h => by
    unfold stopN at h
    split at h
    · rename_i h1
      cases k with
      | zero => exact h1
      | succ k => exact stop_before (a := e) (l := l) (k := k) (by omega)
    · omega
theorem stop_there {es : List (Int × Int × Int)} {bs : List (Int × Int)} : ∀ {a : Int} {l : List Int}, stopN es bs a l < l.length → (nextT es bs (lastI a (l.take (stopN es bs a l)))).length ≠ 1
  | _, [], h => by simp at h
  | a, e :: l, h => by
    by_cases h1 : (nextT es bs a).length = 1
    · have hs : stopN es bs a (e :: l) = stopN es bs e l + 1 := by rw [stopN, if_pos h1]
      rw [hs] at h ⊢
      exact stop_there (a := e) (l := l) (by simpa using h)
    · have hs : stopN es bs a (e :: l) = 0 := by rw [stopN, if_neg h1]
      rw [hs]
      exact h1
theorem bend_no9 (ns : List (Int × Int)) (es : List (Int × Int × Int)) (a b : Int) : bendT ns es a b ≠ 9 := by
  unfold bendT
  split
  · unfold classF
    split
    · decide
    · unfold clsI
      repeat' split
      all_goals decide
  · decide
set_option maxRecDepth 100000 in
set_option maxHeartbeats 16000000 in
theorem walk_ins (A : Option Addr) (n k : Nat) (xs : List Int) (a : Int) (ha : (Lit.int .i64 a).wf = true) (As : Option Addr) (n4 k4 : Nat) (st : List Int) (w : World) (h : n ≤ 100) (h4 : n4 ≤ 40)
    (hk : ReadsI w A n k xs) (q4 : ReadsI w As n4 k4 st) :
    Calls Try.prog 9 #[.slice A n k, .int .i64 a, .slice As n4 k4] w fun e w' => e = .returned (.bool true) ∧ Below w.heap.size w w' := by
  have HOK := Lib.hid (town_good xs)
  have hmd := made21 hk
  have hE70 := len_townE xs
  obtain ⟨ns, hns⟩ : ∃ ns, ns = townN xs := ⟨_, rfl⟩
  obtain ⟨es, hes⟩ : ∃ es, es = townE xs := ⟨_, rfl⟩
  obtain ⟨bs, hbs⟩ : ∃ bs, bs = townB xs := ⟨_, rfl⟩
  rw [← hes] at hE70
  rw [← hns, ← hes, ← hbs] at HOK hmd
  have HMD := Lib.hid hmd
  obtain ⟨s1, s2, s3, s4⟩ := (mayB_parts HOK.out).2.1
  clear hmd hns hes hbs
  have Q4 := Lib.hid q4
  obtain ⟨e1, e70⟩ := hE70
  have rb := fun w => round_any ha (n := (es.length : Int)) (by omega) (by omega) w
  have hE0 := Int.emod_nonneg a (show (es.length : Int) ≠ 0 by omega)
  have hE2 := Int.emod_lt_of_pos a (show (0 : Int) < es.length by omega)
  obtain ⟨E1, hE1⟩ : ∃ E1, E1 = a % (es.length : Int) := ⟨_, rfl⟩
  rw [← hE1] at rb hE0 hE2
  have hin : inB 0 E1 ((es.length : Int) - 1) = true := by unfold inB; simp; omega
  have hwk : walkB es bs E1 (strollT es bs E1 st) = true := by unfold walkB; rw [hin, stroll_chain]; rfl
  have HWK := Lib.hid hwk
  have RB := Lib.hid rb
  clear hk q4 rb hE1 ha hE0 hE2 hin hwk
  go_enter Try.func9, Try.ntmps9
  go_wp2_with fail
  refine HMD.out.mono ?_
  rintro e w1 ⟨A1, A2, A3, c1, c2, c3, B, t, p, rfl, hM⟩
  have hbx := bl_alloc (Below.refl w1.heap.size w1) (.cells #[.slice A1 ns.length c1, .slice A2 es.length c2, .slice A3 bs.length c3] 28)
  obtain ⟨v0, hv0⟩ : ∃ v0, v0 = w1.alloc (.cells #[.slice A1 ns.length c1, .slice A2 es.length c2, .slice A3 bs.length c3] 28) := ⟨_, rfl⟩
  have HS : Hid (∀ w', Below v0.heap.size v0 w' → w'.cell? ⟨w1.heap.size, 0, none⟩ = some (.slice A1 ns.length c1) ∧ w'.cell? ⟨w1.heap.size, 1, none⟩ = some (.slice A2 es.length c2) ∧ w'.cell? ⟨w1.heap.size, 2, none⟩ = some (.slice A3 bs.length c3)) := Lib.hid fun w' hb => by subst hv0; exact GR.box hb
  have k0 : (w1.alloc (.cells #[.slice A1 ns.length c1, .slice A2 es.length c2, .slice A3 bs.length c3] 28)).cell? ⟨w1.heap.size, 0, none⟩ = some (.slice A1 ns.length c1) := cell_three_new 0 _ rfl
  have k1 : (w1.alloc (.cells #[.slice A1 ns.length c1, .slice A2 es.length c2, .slice A3 bs.length c3] 28)).cell? ⟨w1.heap.size, 1, none⟩ = some (.slice A2 es.length c2) := cell_three_new 1 _ rfl
  have k2 : (w1.alloc (.cells #[.slice A1 ns.length c1, .slice A2 es.length c2, .slice A3 bs.length c3] 28)).cell? ⟨w1.heap.size, 2, none⟩ = some (.slice A3 bs.length c3) := cell_three_new 2 _ rfl
  rw [← hv0] at hbx
  have HG := Lib.hid (hM.g.below hbx)
  have HT := Lib.hid (hM.t.below hbx)
  have HBW : Hid (Below w.heap.size w v0) := Lib.hid (hM.below.trans (hbx.mono hM.below.size))
  have HV0 := Lib.hid hv0
  have HTE : Hid (w1.heap.size < v0.heap.size) := Lib.hid (by rw [hv0, size_alloc]; omega)
  have HLO : Hid (w.heap.size ≤ B) := Lib.hid hM.lo
  clear hM hbx hv0 HMD
  go_wp2_with fail
  rw [← HV0.out]
  refine (RB.out _).mono ?_
  rintro e y0 ⟨rfl, rfl⟩
  have hst := stroll_any HG.out (by omega) E1 (Q4.out.below HBW.out) (by omega)
  have hXl := stroll_len es bs E1 st
  have hsl := Q4.out.len
  obtain ⟨X, hX⟩ : ∃ X, X = strollT es bs E1 st := ⟨_, rfl⟩
  rw [← hX] at hst hXl HWK
  have HST := Lib.hid hst
  have HXL := Lib.hid (show X.length ≤ 40 by omega)
  clear hst hX hXl hsl k0 k1 k2
  obtain ⟨k0, k1, k2⟩ := HS.out _ (Below.refl _ _)
  go_wp2_with fail
  refine HST.out.mono ?_
  rintro e vb ⟨AX, cX, rfl, hr, _, hb, _⟩
  have RX := Lib.hid hr
  have B0 := Lib.hid hb
  have hxl := HXL.out
  have hgh := ghint_at (HT.out.below hb) hr (by omega) E1
  have hR : hintR ns es bs E1 X = hintT ns es bs E1 X := by unfold hintR; rw [if_pos HWK.out]
  rw [hR, HWK.out] at hgh
  have hsle := stop_le es bs E1 X
  have hbef := fun (i : Nat) (hi : i < stopN es bs E1 X) => stop_before hi
  have hthe := fun (hi : stopN es bs E1 X < X.length) => stop_there hi
  have hhe := fun (hi : stopN es bs E1 X < X.length) => hint_here (ns := ns) (es := es) (bs := bs) (a := E1) (l := X) rfl hi
  have hen := fun (hi : X.length ≤ stopN es bs E1 X) => hint_end (ns := ns) (es := es) (bs := bs) (a := E1) (l := X) hi
  obtain ⟨S, hS⟩ : ∃ S, S = stopN es bs E1 X := ⟨_, rfl⟩
  obtain ⟨g, hg⟩ : ∃ g, g = hintT ns es bs E1 X := ⟨_, rfl⟩
  rw [← hg] at hgh hhe hen
  rw [← hS] at hsle hbef hthe hhe hen
  obtain ⟨g0, g1, g2, g3⟩ := g
  simp only [hintV] at hgh
  have HGH := Lib.hid hgh
  have HBEF := Lib.hid hbef
  have HTHE := Lib.hid hthe
  have HHE := Lib.hid hhe
  have HEN := Lib.hid hen
  have HSLE := Lib.hid hsle
  have hokx : okE es X = true := by
    have h1 := HWK.out
    unfold walkB at h1
    rw [Bool.and_eq_true] at h1
    exact chain_ok h1.2
  have HOKX : Hid (∀ i, i < X.length → inB 0 (X.getD i 0) ((es.length : Int) - 1) = true) := Lib.hid fun i hi => by
    unfold okE at hokx
    exact List.all_eq_true.1 hokx _ (getD_memI hi)
  clear hr hb hgh hR hbef hthe hhe hen hS hg hokx k0 k1 k2 hsle
  go_wp2_with fail
  refine HGH.out.mono ?_
  rintro e y1 ⟨rfl, hb⟩
  have HQ := Lib.hid (new_block y1 (.cells #[.int .i64 g0, .int .i64 g1, .int .i64 g2, .int .i64 g3] 49))
  have B2 := Lib.hid (bl_then B0.out (bl_alloc hb (.cells #[.int .i64 g0, .int .i64 g1, .int .i64 g2, .int .i64 g3] 49)))
  have RX2 := Lib.hid (RX.out.below (bl_alloc hb (.cells #[.int .i64 g0, .int .i64 g1, .int .i64 g2, .int .i64 g3] 49)))
  obtain ⟨v2, hv2⟩ : ∃ v2, v2 = y1.alloc (.cells #[.int .i64 g0, .int .i64 g1, .int .i64 g2, .int .i64 g3] 49) := ⟨_, rfl⟩
  rw [← hv2] at HQ B2 RX2
  have HV2 := Lib.hid hv2
  clear hb hv2
  go_wp2_with fail
  rw [← HV2.out]
  go_loopg [14, 13, 9] X.length (fun M u z s wr => ∃ i : Nat, M = X.length - i ∧ i ≤ X.length ∧ i ≤ S ∧ u = .int .i64 (i : Nat) ∧ z = .int .i64 (sumW es (X.take i)) ∧ s = .int .i64 (lastI E1 (X.take i)) ∧ Below v2.heap.size v2 wr)
  case atStart => exact ⟨0, rfl, Nat.zero_le _, Nat.zero_le _, rfl, rfl, rfl, Below.refl _ _⟩
  case round =>
    obtain ⟨i, hM, hi, hiS, rfl, rfl, rfl, hb⟩ := hrel
    have HM := Lib.hid hM
    have HB := Lib.hid hb
    have hqb := block_below HQ.out hb
    have HQB := Lib.hid hqb
    clear hM hb hqb
    by_cases hlt : i < X.length
    · obtain ⟨bX, oX, hAX, hcX⟩ := (RX2.out.below HB.out).cell (by omega)
      have dX := hcX i hlt
      subst hAX
      have hmm := HOKX.out i hlt
      have hss := sum_step (es := es) hlt
      have hls := last_step (a := E1) hlt
      have hsb := sum_bd HOK.out (X.take i)
      rw [List.length_take_of_le (by omega)] at hsb
      have hwb := w_bd HOK.out (X.getD i 0).toNat
      obtain ⟨y, hyn, hyl⟩ : ∃ y : Nat, X.getD i 0 = (y : Int) ∧ y < es.length := by
        unfold inB at hmm
        simp only [Bool.and_eq_true, decide_eq_true_eq] at hmm
        exact ⟨(X.getD i 0).toNat, by omega, by omega⟩
      have HYN := Lib.hid hyn
      rw [hyn] at dX hss hls hwb
      rw [Int.toNat_natCast] at hss hwb
      obtain ⟨x, hx⟩ : ∃ x, x = lastI E1 (X.take i) := ⟨_, rfl⟩
      have hnx := next4_any (HG.out.below (bl_then B2.out HB.out)) s3 x
      have hnl := nextT_len es bs x
      have HXE := Lib.hid hx
      obtain ⟨N, hN⟩ : ∃ N, N = (nextT es bs x).length := ⟨_, rfl⟩
      obtain ⟨F, hF⟩ : ∃ F, F = sumW es (X.take i) := ⟨_, rfl⟩
      have HFE := Lib.hid hF
      rw [← hF] at hss hsb ⊢
      rw [← hx]
      have HNE := Lib.hid hN
      have HNX := Lib.hid hnx
      have hn5 : N ≤ 512 := by omega
      have i0 : (0 : Int) ≤ (i : Int) := by omega
      have i1 : (i : Int) < (X.length : Int) := by omega
      have y0 : (0 : Int) ≤ (y : Int) := by omega
      have y1' : (y : Int) < (es.length : Int) := by omega
      have HSS := Lib.hid hss
      have HLE := Lib.hid hls
      have HDX := Lib.hid dX
      obtain ⟨wy, hwy⟩ : ∃ wy, wy = (es.getD y (0, 0, 0)).2.2 := ⟨_, rfl⟩
      rw [← hwy] at HSS hwb
      have hsum : IntKind.i64.wrap (F + wy) = F + wy := IntWalk.i64_in _ (by omega)
      have HWY := Lib.hid hwy
      obtain ⟨l0, l1, l2⟩ := HS.out _ (bl_then B2.out HB.out)
      clear hcX hmm hss hls hsb hwb hyn hx hnx hnl hN hF hwy dX
      go_wp2_with fail
      refine HNX.out.mono ?_
      rintro e z1 ⟨AN, cN, rfl, _, _, hb⟩
      have HBN := Lib.hid hb
      have d0 := cell_below HDX.out hb
      have hq1 := block_below HQB.out hb
      have m0 : z1.cell? ⟨y1.heap.size, 0, none⟩ = some (.int .i64 g0) := block_cell hq1 (j := 0) rfl
      have m1 : z1.cell? ⟨y1.heap.size, 1, none⟩ = some (.int .i64 g1) := block_cell hq1 (j := 1) rfl
      have m2 : z1.cell? ⟨y1.heap.size, 2, none⟩ = some (.int .i64 g2) := block_cell hq1 (j := 2) rfl
      clear l0 l1 l2
      obtain ⟨l0, l1, l2⟩ := HS.out _ (bl_then B2.out (bl_then HB.out hb))
      rw [← HNE.out]
      by_cases hiS2 : i < S
      · have hN1 : N = 1 := by rw [HNE.out, HXE.out]; exact HBEF.out i hiS2
        subst hN1
        obtain ⟨bE, oE, hAE, hcE⟩ := (HG.out.below (bl_then B2.out (bl_then HB.out hb))).rE.cell (by omega)
        obtain ⟨_, _, dW⟩ := hcE y hyl
        rw [← HWY.out] at dW
        subst hAE
        have HLS := Lib.hid (show i + 1 ≤ S by omega)
        clear hcE hb hq1
        by_cases hfg : F = g2
        · have hf : (F == g2) = true := by simp [hfg]
          clear hfg
          go_wp2_with fail
          go_roundg (X.length - (i + 1))
          case measure => have := HM.out; omega
          case rel => exact ⟨i + 1, rfl, by omega, HLS.out, by go_num, by rw [HSS.out], by rw [HLE.out], bl_then HB.out HBN.out⟩
        · have hf : (F == g2) = false := beq_false_of_ne hfg
          clear hfg
          go_wp2_with fail
          go_roundg (X.length - (i + 1))
          case measure => have := HM.out; omega
          case rel => exact ⟨i + 1, rfl, by omega, HLS.out, by go_num, by rw [HSS.out], by rw [HLE.out], bl_then HB.out HBN.out⟩
      · obtain rfl : i = S := by omega
        have hth := HTHE.out hlt
        rw [← HXE.out, ← HNE.out] at hth
        have hh := HHE.out hlt
        rw [← HXE.out, HYN.out, ← HFE.out] at hh
        obtain ⟨rfl, rfl, rfl, _⟩ : g0 = bendT ns es x (y : Int) ∧ g1 = (y : Int) ∧ g2 = F ∧ True := by
          injection hh with hh1 hh2
          injection hh2 with hh2 hh3
          injection hh3 with hh3 _
          exact ⟨hh1, hh2, hh3, trivial⟩
        have hq9 : ((N : Int) == 1) = false := beq_false_of_ne (by omega)
        have hq8 : ((N : Int) != 1) = true := by simp; omega
        have hff : (g2 == g2) = true := by simp
        have hbd := fun (w' : World) (hb : Below v0.heap.size v0 w') => bend4_any (A3 := A3) (n3 := bs.length) (c3 := c3) (HG.out.below hb).rN (HG.out.below hb).rE HOK.out x (y : Int)
        have hb9 := bend_no9 ns es x (y : Int)
        obtain ⟨bv, hbv⟩ : ∃ bv, bv = bendT ns es x (y : Int) := ⟨_, rfl⟩
        rw [← hbv] at hbd hb9 m0
        have HBD := Lib.hid hbd
        have b9 : (bv != 9) = true := by simp [hb9]
        have Z0 : Hid (Below z1.heap.size z1 z1.drew) := Lib.hid (bl_drew (Below.refl _ _))
        have BZ : Hid (∀ w', Below z1.heap.size z1 w' → Below v0.heap.size v0 w') := Lib.hid fun w' h => bl_then B2.out (bl_then HB.out (bl_then HBN.out h))
        have HSX : Hid (∀ w', Below z1.heap.size z1 w' → (w'.cell? ⟨w1.heap.size, 0, none⟩ = some (.slice A1 ns.length c1) ∧ w'.cell? ⟨w1.heap.size, 1, none⟩ = some (.slice A2 es.length c2) ∧ w'.cell? ⟨w1.heap.size, 2, none⟩ = some (.slice A3 bs.length c3)) ∧ w'.cell? ⟨bX, oX + i, none⟩ = some (.int .i64 (y : Nat)) ∧ w'.cell? ⟨y1.heap.size, 0, none⟩ = some (.int .i64 bv) ∧ w'.cell? ⟨y1.heap.size, 1, none⟩ = some (.int .i64 (y : Nat))) := Lib.hid fun w' h => ⟨HS.out w' (BZ.out w' h), cell_below d0 h, cell_below m0 h, cell_below m1 h⟩
        clear hb hq1 hth hh hbd hb9 hbv
        go_wp2_with fail
        go_region_held3 (fun w' => (w'.cell? ⟨w1.heap.size, 0, none⟩ = some (.slice A1 ns.length c1) ∧ w'.cell? ⟨w1.heap.size, 1, none⟩ = some (.slice A2 es.length c2) ∧ w'.cell? ⟨w1.heap.size, 2, none⟩ = some (.slice A3 bs.length c3)) ∧ w'.cell? ⟨bX, oX + i, none⟩ = some (.int .i64 (y : Nat)) ∧ w'.cell? ⟨y1.heap.size, 0, none⟩ = some (.int .i64 bv) ∧ w'.cell? ⟨y1.heap.size, 1, none⟩ = some (.int .i64 (y : Nat)))
          (first | exact HSX.out _ Z0.out | exact HSX.out _ Z1.out | exact HSX.out _ Z2.out)
          (first
            | (go_at_call 34
               refine (HBD.out _ (BZ.out _ Z0.out)).mono ?_
               rintro e z2 ⟨rfl, hb⟩
               have Z1 : Hid (Below z1.heap.size z1 z2) := Lib.hid (bl_then Z0.out hb)
               clear hb)
            | (go_at_call 25
               refine (awake21 _).mono ?_
               rintro e z3 ⟨rfl, hb⟩
               have Z2 : Hid (Below z1.heap.size z1 z3) := Lib.hid (bl_then Z1.out hb)
               clear hb))
        all_goals
          go_wp2_with fail
          go_ret
          exact ⟨rfl, HBW.out.trans ((BZ.out _ Z2.out).mono HBW.out.size)⟩
    · obtain rfl : i = X.length := by omega
      have hh := HEN.out hiS
      rw [List.take_length]
      obtain ⟨F, hF⟩ : ∃ F, F = sumW es X := ⟨_, rfl⟩
      rw [← hF] at hh ⊢
      obtain ⟨rfl, rfl, rfl⟩ : g0 = 9 ∧ g1 = -1 ∧ g2 = F := by
        injection hh with hh1 hh2
        injection hh2 with hh2 hh3
        injection hh3 with hh3 _
        exact ⟨hh1, hh2, hh3⟩
      have m0 : wr.cell? ⟨y1.heap.size, 0, none⟩ = some (.int .i64 9) := block_cell HQB.out (j := 0) rfl
      have m1 : wr.cell? ⟨y1.heap.size, 1, none⟩ = some (.int .i64 (-1)) := block_cell HQB.out (j := 1) rfl
      have m2 : wr.cell? ⟨y1.heap.size, 2, none⟩ = some (.int .i64 g2) := block_cell HQB.out (j := 2) rfl
      have hff : (g2 == g2) = true := by simp
      clear hh hF hlt hi hiS
      go_wp2_with (go_at_call 25; refine (awake21 _).mono ?_; rintro e w6 ⟨rfl, hb6⟩)
      go_ret
      exact ⟨rfl, HBW.out.trans ((bl_then B2.out (bl_then HB.out hb6)).mono HBW.out.size)⟩
theorem walk {W : World} (A : Option Addr) (n k : Nat) (xs : List Int) (hk : ReadsI W A n k xs) (a : Int) (h5 : (Lit.int .i64 a).wf = true) (A4 : Option Addr) (n4 k4 : Nat) (x4 : List Int) (q4 : ReadsI W A4 n4 k4 x4) :
    Calls Try.prog 9 #[.slice A n k, .int .i64 a, .slice A4 n4 k4] W fun e w' => e = .returned (.bool true) ∧ Below W.heap.size W w' := by
  have s1 := hk.small
  have s4 := q4.small
  unfold maxLen at s1 s4
  by_cases h : n ≤ 100 ∧ n4 ≤ 40
  · exact walk_ins A n k xs a h5 A4 n4 k4 x4 W h.1 h.2 hk q4
  · exact walk_out A n k a A4 n4 k4 (by omega) (by omega) W h
set_option maxRecDepth 100000 in
theorem lifted (os : Os) (started : os.Started) (H : Type) (enc : TypeId × Value → H) :
    ReturnsInHanded {} Try.checked os 9 .any (Rows.guideOnlySpec.pre6 enc Try.prog Try.f9 Rows.guideOnlyRow.domain false) (Rows.guideOnlySpec.post enc Try.prog Try.f9 false true false false) := by
  refine returnsInHanded_of_change (C := Try.checked) own started (by kernel_rfl) Try.func9
    (ChangeSpec.witness6 (enc := enc) (C := Try.checked) false ⟨#[], #[.slice none 0 0, .int .i64 0, .slice none 0 0], []⟩ 8 (by kernel_rfl) (by kernel_rfl) (by kernel_rfl) (by kernel_rfl)) ?_
  intro W base args ds gs before hval0 hW hcnd _
  have hval : ∀ (j : Nat) t v, Try.f9.params[j]? = some t → args[j]? = some v → Value.okWide Try.prog W .any base t v := hval0
  have hW' := hW
  obtain ⟨p, q, hA0, hV, rfl, hfz, hnd⟩ := hW
  have hA : DataW.TrodAll enc Try.prog W 0 (fun _ => true) true Try.f9.params.toList args.toList ds p := hA0
  rw [Try.params9] at hA hval
  obtain ⟨v0, vs0, d0, ds0, p0, q0, hargs, rfl, rfl, h0, r0⟩ := trodAll_cons hA
  obtain ⟨v1, vs1, d1, ds1, p1, q1, rfl, rfl, rfl, h1, r1⟩ := trodAll_cons r0
  obtain ⟨v2, vs2, d2, ds2, p2, q2, rfl, rfl, rfl, h2, r2⟩ := trodAll_cons r1
  obtain ⟨rfl, rfl, rfl⟩ := trodAll_nil r2
  obtain rfl : args = #[v0, v1, v2] := by cases args; simp_all
  obtain ⟨rfl, rfl⟩ := trodVars_none hV
  obtain ⟨a0, n0, c0, xs0, rfl, k0⟩ := open_reads (hval 0 22 v0 rfl rfl) h0
  obtain ⟨a1, rfl, rfl, rfl, w1⟩ := open_int Try.underlying3 (hval 1 3 v1 rfl rfl) h1
  obtain ⟨a2, n2, c2, xs2, rfl, k2⟩ := open_reads (hval 2 22 v2 rfl rfl) h2
  refine (walk a0 n0 c0 xs0 k0 a1 w1 a2 n2 c2 xs2 k2).mono fun e W' ⟨he, hb⟩ => ?_
  subst he
  exact ⟨_, rfl, post_law hW' hb rfl rfl rfl rfl rfl (by rw [Try.params9]; exact readable_all (by kernel_rfl))⟩
theorem over : Rows.guideOnlyRow.holds Try.pinned (OpenSpec.ofChange Rows.guideOnlySpec) :=
  OpenClaim.holds_of_wide 9 Try.f9 rfl rfl rfl rfl rfl rfl rfl ⟨rfl, rfl, rfl, rfl, rfl⟩ rfl rfl rfl rfl rfl (by kernel_rfl) Try.func9 (by kernel_rfl)
    (of_decide_eq_true (by kernel_rfl)) (by unfold Func.isWrapper; first | (rw [if_pos (by decide +kernel)]; kernel_rfl) | (rw [if_neg (by decide +kernel)]; exact ⟨rfl, rfl⟩))
    (fun os started H enc _ => lifted os started H enc)
theorem proved : Rows.GuideOnlySaid := over
#print axioms proved
end Go.Proofs.Ytkkaidliocadnaa.guideOnly
