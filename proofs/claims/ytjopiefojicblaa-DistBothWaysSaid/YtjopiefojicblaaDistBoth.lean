/- DistBothWays: what is found from an edge, and to a node, is one: each node is as far as the nearest edge that ends there. For every input, without a condition. -/
import Derived.Test.YtjopiefojicblaaAwake11
import Derived.Test.YtjopiefojicblaaBase
set_option linter.unusedVariables false
set_option linter.unusedSimpArgs false
namespace Go.Proofs.Ytjopiefojicblaa.distBoth
open Go.ChangeShapes Go.WideShapes Go.ChangeAt Go.RowKit HeapP DistP
set_option maxRecDepth 100000 in
set_option maxHeartbeats 4000000 in
theorem walk_out (A : Option Addr) (n k : Nat) (A2 : Option Addr) (n2 k2 : Nat) (a : Int) (s1 : n ≤ 9223372036854775807) (s2 : n2 ≤ 9223372036854775807) (w : World) (h : ¬ (n ≤ 100 ∧ n2 ≤ 40)) :
    Calls Try.prog 6 #[.slice A n k, .slice A2 n2 k2, .int .i64 a] w fun e w' => e = .returned (.bool true) ∧ Below w.heap.size w w' := by
  by_cases h1 : 100 < n
  · clear h
    go_enter Try.func6, Try.ntmps6
    go_wp2_with (go_at_call 15; refine (awake11 _).mono ?_; rintro e w1 ⟨rfl, hb1⟩)
    go_ret
    exact ⟨rfl, by assumption⟩
  · have h2 : 40 < n2 := by omega
    clear h
    go_enter Try.func6, Try.ntmps6
    go_wp2_with (go_at_call 15; refine (awake11 _).mono ?_; rintro e w1 ⟨rfl, hb1⟩)
    go_ret
    exact ⟨rfl, by assumption⟩
/-- the least so far of what ends there -/
def BestI (es : Es) (F : Nat → Int) (v : Int) (i : Nat) (best : Int) : Prop :=
  (best = -1 ∧ ∀ j, j < i → toSrc es v j → F j < 0) ∨ (0 ≤ best ∧ (∃ j, j < i ∧ toSrc es v j ∧ F j = best) ∧ ∀ j, j < i → toSrc es v j → 0 ≤ F j → best ≤ F j)
theorem best_start (es : Es) (F : Nat → Int) (v : Int) : BestI es F v 0 (-1) := .inl ⟨rfl, fun j h => by omega⟩
theorem best_skip {es : Es} {F : Nat → Int} {v : Int} {i : Nat} {best : Int} (h : BestI es F v i best) (hs : toSrc es v i → F i < 0 ∨ (0 ≤ best ∧ best ≤ F i)) : BestI es F v (i + 1) best := by
  rcases h with ⟨h1, h2⟩ | ⟨h1, ⟨j, j1, j2, j3⟩, h3⟩
  · refine .inl ⟨h1, fun j hj ht => ?_⟩
    by_cases e : j = i
    · subst e; rcases hs ht with h | h
      · exact h
      · omega
    · exact h2 j (by omega) ht
  · refine .inr ⟨h1, ⟨j, by omega, j2, j3⟩, fun j hj ht h0 => ?_⟩
    by_cases e : j = i
    · subst e; rcases hs ht with h | h
      · omega
      · exact h.2
    · exact h3 j (by omega) ht h0
theorem best_take {es : Es} {F : Nat → Int} {v : Int} {i : Nat} {best : Int} (h : BestI es F v i best) (ht : toSrc es v i) (h0 : 0 ≤ F i) (hb : best < 0 ∨ F i < best) : BestI es F v (i + 1) (F i) := by
  refine .inr ⟨h0, ⟨i, by omega, ht, rfl⟩, fun j hj htj hj0 => ?_⟩
  by_cases e : j = i
  · subst e; omega
  · rcases h with ⟨h1, h2⟩ | ⟨h1, _, h3⟩
    · have := h2 j (by omega) htj; omega
    · have := h3 j (by omega) htj hj0; omega
theorem best_end {ns bs : Bs} {es : Es} (hok : mayB ns es bs = true) {cl : List Bool} {v : Int} {a : Nat} (ha : a < es.length) {best : Int} (h : BestI es (dl (fromD es bs cl a)) v es.length best) : best = dl (toD es bs cl v) a := by
  obtain ⟨b1, b2⟩ := both_best hok (toD_is hok cl v).2 (fromD_is hok cl a).2 ha
  have hd := (toD_is hok cl v).2.d a ha
  rcases h with ⟨h1, h2⟩ | ⟨h1, ⟨j, j1, j2, j3⟩, h3⟩
  · rcases hd with hd | hd
    · obtain ⟨i, i1, i2, i3, i4⟩ := b1 hd
      have := h2 i i1 i2; omega
    · omega
  · have hh := b2 j j1 j2 (by omega)
    obtain ⟨i, i1, i2, i3, i4⟩ := b1 hh.1
    have := h3 i i1 i2 i3
    omega
set_option maxRecDepth 100000 in
set_option maxHeartbeats 16000000 in
theorem walk_ins (A : Option Addr) (n k : Nat) (xs : List Int) (Ah : Option Addr) (n2 k2 : Nat) (sh : List Int) (eI : Int) (heI : (Lit.int .i64 eI).wf = true) (w : World) (h : n ≤ 100) (h2 : n2 ≤ 40)
    (hk : ReadsI w A n k xs) (q2 : ReadsI w Ah n2 k2 sh) :
    Calls Try.prog 6 #[.slice A n k, .slice Ah n2 k2, .int .i64 eI] w fun e w' => e = .returned (.bool true) ∧ Below w.heap.size w w' := by
  have HOK := Lib.hid (town_good xs)
  have hmd := made11 hk
  have hE70 := len_townE xs
  obtain ⟨ns, hns⟩ : ∃ ns, ns = townN xs := ⟨_, rfl⟩
  obtain ⟨es, hes⟩ : ∃ es, es = townE xs := ⟨_, rfl⟩
  obtain ⟨bs, hbs⟩ : ∃ bs, bs = townB xs := ⟨_, rfl⟩
  rw [← hes] at hE70
  rw [← hns, ← hes, ← hbs] at HOK hmd
  have HMD := Lib.hid hmd
  obtain ⟨s1, s2, s3, s4⟩ := (mayB_parts HOK.out).2.1
  clear hmd hns hes hbs
  have Q2 := Lib.hid q2
  obtain ⟨e1, e70⟩ := hE70
  have rb := fun w => round_any heI (n := (es.length : Int)) (by omega) (by omega) w
  have j0 := Int.emod_nonneg eI (show (es.length : Int) ≠ 0 by omega)
  have j1 := Int.emod_lt_of_pos eI (show (0 : Int) < es.length by omega)
  obtain ⟨a, ha⟩ : ∃ a : Nat, eI % (es.length : Int) = (a : Int) := ⟨(eI % (es.length : Int)).toNat, by omega⟩
  rw [ha] at rb j0 j1
  have haN : a < es.length := by omega
  have HAN := Lib.hid haN
  have RB := Lib.hid rb
  clear hk q2 rb ha heI
  go_enter Try.func6, Try.ntmps6
  go_wp2_with fail
  refine HMD.out.mono ?_
  rintro e w1 ⟨A1, A2, A3, c1, c2, c3, B, t, p, rfl, hM⟩
  have hbx := bl_alloc (Below.refl w1.heap.size w1) (.cells #[.slice A1 ns.length c1, .slice A2 es.length c2, .slice A3 bs.length c3] 29)
  obtain ⟨v0, hv0⟩ : ∃ v0, v0 = w1.alloc (.cells #[.slice A1 ns.length c1, .slice A2 es.length c2, .slice A3 bs.length c3] 29) := ⟨_, rfl⟩
  have HS : Hid (∀ w', Below v0.heap.size v0 w' → w'.cell? ⟨w1.heap.size, 0, none⟩ = some (.slice A1 ns.length c1) ∧ w'.cell? ⟨w1.heap.size, 1, none⟩ = some (.slice A2 es.length c2) ∧ w'.cell? ⟨w1.heap.size, 2, none⟩ = some (.slice A3 bs.length c3)) := Lib.hid fun w' hb => by subst hv0; exact GR.box hb
  have k0 : (w1.alloc (.cells #[.slice A1 ns.length c1, .slice A2 es.length c2, .slice A3 bs.length c3] 29)).cell? ⟨w1.heap.size, 0, none⟩ = some (.slice A1 ns.length c1) := cell_three_new 0 _ rfl
  have k1 : (w1.alloc (.cells #[.slice A1 ns.length c1, .slice A2 es.length c2, .slice A3 bs.length c3] 29)).cell? ⟨w1.heap.size, 1, none⟩ = some (.slice A2 es.length c2) := cell_three_new 1 _ rfl
  have k2 : (w1.alloc (.cells #[.slice A1 ns.length c1, .slice A2 es.length c2, .slice A3 bs.length c3] 29)).cell? ⟨w1.heap.size, 2, none⟩ = some (.slice A3 bs.length c3) := cell_three_new 2 _ rfl
  rw [← hv0] at hbx
  have HG := Lib.hid (hM.g.below hbx)
  have HT := Lib.hid (hM.t.below hbx)
  have HBW : Hid (Below w.heap.size w v0) := Lib.hid (hM.below.trans (hbx.mono hM.below.size))
  have HV0 := Lib.hid hv0
  have HTE : Hid (w1.heap.size < v0.heap.size) := Lib.hid (by rw [hv0, size_alloc]; omega)
  have HLO : Hid (w.heap.size ≤ B) := Lib.hid hM.lo
  clear hM hbx hv0 HMD
  go_wp2_with fail
  rw [← HV0.out]
  have hsh := shut4_any (A1 := A1) (A2 := A2) (A3 := A3) (w := v0) (N := es.length) (n1 := ns.length) (n3 := bs.length) (c1 := c1) (c2 := c2) (c3 := c3) e1 s3 (Q2.out.below HBW.out) (by omega)
  obtain ⟨cl, hcl⟩ : ∃ cl, cl = shutK es.length sh := ⟨_, rfl⟩
  rw [← hcl] at hsh
  refine hsh.mono ?_
  clear hsh hcl k0 k1 k2
  rintro r vb ⟨gs, rfl, hr, _, hb⟩
  have B0 := Lib.hid hb
  have RC := Lib.hid (hr.reads s3 es.length)
  obtain ⟨l0, l1, l2⟩ := HS.out _ hb
  clear hr hb
  go_wp2_with fail
  refine (RB.out _).mono ?_
  rintro r vb' ⟨rfl, rfl⟩
  go_wp2_with fail
  have hfr := from_at (HT.out.below B0.out) RC.out (a : Int)
  have hft : fromT es bs cl (a : Int) = fromD es bs cl a := by unfold fromT inB; rw [if_pos (by simp; omega), Int.toNat_natCast]
  have hfl := (fromD_is HOK.out cl a).1
  rw [hft] at hfr
  refine hfr.mono ?_
  clear hfr hft
  rintro r vf ⟨AF, cF, rfl, hr, hb⟩
  have hrF := hr.1
  rw [hfl] at hrF
  rw [hfl]
  have B1 := Lib.hid (bl_then B0.out hb)
  have RCF := Lib.hid (RC.out.below hb)
  have HRF := Lib.hid hrF
  have HFL := Lib.hid hfl
  clear hr hb hrF l0 l1 l2 hfl
  obtain ⟨l0, l1, l2⟩ := HS.out _ B1.out
  go_wp2_with fail
  go_loopg [12] ns.length (fun M u wr => ∃ q : Nat, M = ns.length - q ∧ q ≤ ns.length ∧ u = .int .i64 (q : Nat) ∧ Below vf.heap.size vf wr)
  case atStart => exact ⟨0, rfl, Nat.zero_le _, rfl, Below.refl _ _⟩
  case round =>
    obtain ⟨q, hM2, hq, rfl, hb2⟩ := hrel
    have HM2 := Lib.hid hM2
    have HB2 := Lib.hid hb2
    clear l0 l1 l2
    obtain ⟨l0, l1, l2⟩ := HS.out _ (bl_then B1.out hb2)
    clear hM2 hb2
    by_cases hlt : q < ns.length
    · have q0 : (0 : Int) ≤ (q : Int) := by omega
      have HQ := Lib.hid hlt
      go_wp2_with fail
      go_loopg [14, 13] es.length (fun M u z wr => ∃ (i : Nat) (best : Int), M = es.length - i ∧ i ≤ es.length ∧ u = .int .i64 (i : Nat) ∧ z = .int .i64 best ∧ BestI es (dl (fromD es bs cl a)) (q : Int) i best ∧ Below vf.heap.size vf wr)
      case atStart => exact ⟨0, -1, rfl, Nat.zero_le _, rfl, rfl, best_start _ _ _, HB2.out⟩
      case round =>
        obtain ⟨i, best, hM3, hi, rfl, rfl, hbest, hb3⟩ := hrel
        have HM3 := Lib.hid hM3
        have HBE := Lib.hid hbest
        have HB3 := Lib.hid hb3
        clear hM3 hbest l0 l1 l2
        obtain ⟨l0, l1, l2⟩ := HS.out _ (bl_then B1.out hb3)
        clear hb3
        by_cases hil : i < es.length
        · obtain ⟨bF, oF, rfl, hcF⟩ := (HRF.out.below HB3.out).cell (by omega)
          have dF := hcF i hil
          rw [dl_get (by rw [HFL.out]; exact hil)] at dF
          obtain ⟨bE, oE, rfl, hcE⟩ := (HG.out.below (bl_then B1.out HB3.out)).rE.cell (by omega)
          obtain ⟨_, dE, _⟩ := hcE i hil
          have hdef : toSrc es (q : Int) i ↔ (es.getD i (0, 0, 0)).2.1 = (q : Int) := Iff.rfl
          have hsk := fun h1 => best_skip HBE.out h1
          have htk := fun h1 h2 h3 => best_take HBE.out h1 h2 h3
          obtain ⟨f, hf⟩ : ∃ f, f = dl (fromD es bs cl a) i := ⟨_, rfl⟩
          obtain ⟨tw, htw⟩ : ∃ tw, tw = (es.getD i (0, 0, 0)).2.1 := ⟨_, rfl⟩
          rw [← hf] at dF hsk htk
          rw [← htw] at dE hdef
          have HSKP := Lib.hid hsk
          have HTAK := Lib.hid htk
          have HDEF := Lib.hid hdef
          have i0 : (0 : Int) ≤ (i : Int) := by omega
          have i1 : (i : Int) < (es.length : Int) := by omega
          clear hcF hcE hsk htk hdef hf htw
          by_cases ht : tw = (q : Int)
          · have hte : (tw == (q : Int)) = true := by simp [ht]
            by_cases h0 : 0 ≤ f
            · have h0d : decide (0 ≤ f) = true := decide_eq_true h0
              by_cases hb0 : best < 0
              · have hbd : decide (best < 0) = true := decide_eq_true hb0
                have hnew := HTAK.out (HDEF.out.2 ht) h0 (.inl hb0)
                have HNEW := Lib.hid hnew
                clear hnew ht
                go_wp2_with fail
                go_roundg (es.length - (i + 1))
                case measure => have := HM3.out; omega
                case rel => exact ⟨i + 1, f, rfl, by omega, by go_num, rfl, HNEW.out, HB3.out⟩
              · have hbd : decide (best < 0) = false := decide_eq_false hb0
                by_cases hfb : f < best
                · have hfd : decide (f < best) = true := decide_eq_true hfb
                  have hnew := HTAK.out (HDEF.out.2 ht) h0 (.inr hfb)
                  have HNEW := Lib.hid hnew
                  clear hnew ht
                  go_wp2_with fail
                  go_roundg (es.length - (i + 1))
                  case measure => have := HM3.out; omega
                  case rel => exact ⟨i + 1, f, rfl, by omega, by go_num, rfl, HNEW.out, HB3.out⟩
                · have hfd : decide (f < best) = false := decide_eq_false hfb
                  have HSK := Lib.hid (HSKP.out fun _ => .inr ⟨by omega, by omega⟩)
                  clear ht
                  go_wp2_with fail
                  go_roundg (es.length - (i + 1))
                  case measure => have := HM3.out; omega
                  case rel => exact ⟨i + 1, best, rfl, by omega, by go_num, rfl, HSK.out, HB3.out⟩
            · have h0d : decide (0 ≤ f) = false := decide_eq_false h0
              have HSK := Lib.hid (HSKP.out fun _ => .inl (by omega))
              clear ht
              go_wp2_with fail
              go_roundg (es.length - (i + 1))
              case measure => have := HM3.out; omega
              case rel => exact ⟨i + 1, best, rfl, by omega, by go_num, rfl, HSK.out, HB3.out⟩
          · have hte : (tw == (q : Int)) = false := beq_false_of_ne ht
            have HSK := Lib.hid (HSKP.out fun hh => absurd (HDEF.out.1 hh) ht)
            clear ht
            go_wp2_with fail
            go_roundg (es.length - (i + 1))
            case measure => have := HM3.out; omega
            case rel => exact ⟨i + 1, best, rfl, by omega, by go_num, rfl, HSK.out, HB3.out⟩
        · obtain rfl : i = es.length := by omega
          have hbe := best_end HOK.out HAN.out HBE.out
          have hbi := HB3.out
          have HBI := Lib.hid hbi
          have hqn := HQ.out
          have hto := fun (w' : World) (hb : Below wr.heap.size wr w') => to_at (HT.out.below (bl_then B1.out (bl_then HBI.out hb))) (RCF.out.below (bl_then HBI.out hb)) e1 (q : Int)
          have htt : toT ns es bs cl (q : Int) = toD es bs cl (q : Int) := by unfold toT inB; rw [if_pos (by simp; omega)]
          have htl := (toD_is HOK.out cl (q : Int)).1
          rw [htt] at hto
          have r5 := fun (w' : World) (hb : Below wr.heap.size wr w') => btw_at (HT.out.below (bl_then B1.out (bl_then HBI.out hb))) (RCF.out.below (bl_then HBI.out hb)) e1 (a : Int) (q : Int)
          have hbt : btwT ns es bs cl (a : Int) (q : Int) = dl (toD es bs cl (q : Int)) a := by unfold btwT inB; rw [if_pos ⟨by simp; omega, by simp; omega⟩, Int.toNat_natCast]
          rw [hbt] at r5
          have hdd := dl_d HOK.out cl (q : Int) HAN.out
          have htg := dl_get (L := toD es bs cl (q : Int)) (x := a) (by rw [htl]; exact HAN.out)
          obtain ⟨D, hD⟩ : ∃ D, D = dl (toD es bs cl (q : Int)) a := ⟨_, rfl⟩
          rw [← hD] at hbe r5 hdd htg
          subst hbe
          obtain ⟨TT, hTT⟩ : ∃ TT, TT = toD es bs cl (q : Int) := ⟨_, rfl⟩
          rw [← hTT] at hto htl htg
          rw [htl] at hto
          have T1 := Lib.hid hto
          have HTL := Lib.hid htl
          have HTG := Lib.hid htg
          have HBI := Lib.hid hbi
          clear hto htt htl hbt htg hD hTT hil hi hbi hqn HBE HM3
          rcases hdd with hd0 | hd0
          · have e5 : max0 best = best := by unfold max0; rw [if_pos hd0]
            have e6 : decide (0 ≤ best) = true := decide_eq_true hd0
            have e7 : ¬ best < 0 := by omega
            rw [e5, e6] at r5
            have R5 := Lib.hid r5
            clear r5 e5
            go_wp2_with fail
            refine (T1.out _ (Below.refl _ _)).mono ?_
            rintro r y1 ⟨AT, cT, rfl, hr, hb⟩
            have J1 := Lib.hid hb
            obtain ⟨bT, oT, rfl, hcT⟩ := hr.1.cell (by have := HTL.out; omega)
            have dT := hcT a (by have := HTL.out; omega)
            rw [HTG.out] at dT
            have DT := Lib.hid dT
            clear hr hb hcT dT
            go_wp2_with fail
            refine (R5.out _ J1.out).mono ?_
            rintro r y2 ⟨rfl, hb⟩
            have J2 := Lib.hid (bl_then J1.out hb)
            have dT := cell_below DT.out hb
            clear hb l0 l1 l2
            go_wp2_with fail
            go_roundg (ns.length - (q + 1))
            case measure => have := HM2.out; omega
            case rel => exact ⟨q + 1, rfl, by omega, by go_num, bl_then HBI.out J2.out⟩
          · have e5 : max0 best = 0 := by unfold max0; rw [if_neg (by omega)]
            have e6 : decide (0 ≤ best) = false := decide_eq_false (by omega)
            have e7 : best < 0 := by omega
            rw [e5, e6] at r5
            have R5 := Lib.hid r5
            clear r5 e5
            go_wp2_with fail
            refine (T1.out _ (Below.refl _ _)).mono ?_
            rintro r y1 ⟨AT, cT, rfl, hr, hb⟩
            have J1 := Lib.hid hb
            obtain ⟨bT, oT, rfl, hcT⟩ := hr.1.cell (by have := HTL.out; omega)
            have dT := hcT a (by have := HTL.out; omega)
            rw [HTG.out] at dT
            have DT := Lib.hid dT
            clear hr hb hcT dT
            go_wp2_with fail
            refine (R5.out _ J1.out).mono ?_
            rintro r y2 ⟨rfl, hb⟩
            have J2 := Lib.hid (bl_then J1.out hb)
            have dT := cell_below DT.out hb
            clear hb l0 l1 l2
            go_wp2_with fail
            go_roundg (ns.length - (q + 1))
            case measure => have := HM2.out; omega
            case rel => exact ⟨q + 1, rfl, by omega, by go_num, bl_then HBI.out J2.out⟩
    · obtain rfl : q = ns.length := by omega
      go_wp2_with (go_at_call 15; refine (awake11 _).mono ?_; rintro e w6 ⟨rfl, hb6⟩)
      go_ret
      exact ⟨rfl, HBW.out.trans ((bl_then B1.out (bl_then HB2.out hb6)).mono HBW.out.size)⟩
theorem walk {W : World} (A : Option Addr) (n k : Nat) (xs : List Int) (hk : ReadsI W A n k xs) (A2 : Option Addr) (n2 k2 : Nat) (x2 : List Int) (q2 : ReadsI W A2 n2 k2 x2) (a : Int) (h5 : (Lit.int .i64 a).wf = true) :
    Calls Try.prog 6 #[.slice A n k, .slice A2 n2 k2, .int .i64 a] W fun e w' => e = .returned (.bool true) ∧ Below W.heap.size W w' := by
  have s1 := hk.small
  have s2 := q2.small
  unfold maxLen at s1 s2
  by_cases h : n ≤ 100 ∧ n2 ≤ 40
  · exact walk_ins A n k xs A2 n2 k2 x2 a h5 W h.1 h.2 hk q2
  · exact walk_out A n k A2 n2 k2 a (by omega) (by omega) W h
set_option maxRecDepth 100000 in
theorem lifted (os : Os) (started : os.Started) (H : Type) (enc : TypeId × Value → H) :
    ReturnsInHanded {} Try.checked os 6 .any (Rows.distBothWaysSpec.pre6 enc Try.prog Try.f6 Rows.distBothWaysRow.domain false) (Rows.distBothWaysSpec.post enc Try.prog Try.f6 false true false false) := by
  refine returnsInHanded_of_change (C := Try.checked) own started (by kernel_rfl) Try.func6
    (ChangeSpec.witness6 (enc := enc) (C := Try.checked) false ⟨#[], #[.slice none 0 0, .slice none 0 0, .int .i64 0], []⟩ 8 (by kernel_rfl) (by kernel_rfl) (by kernel_rfl) (by kernel_rfl)) ?_
  intro W base args ds gs before hval0 hW hcnd _
  have hval : ∀ (j : Nat) t v, Try.f6.params[j]? = some t → args[j]? = some v → Value.okWide Try.prog W .any base t v := hval0
  have hW' := hW
  obtain ⟨p, q, hA0, hV, rfl, hfz, hnd⟩ := hW
  have hA : DataW.TrodAll enc Try.prog W 0 (fun _ => true) true Try.f6.params.toList args.toList ds p := hA0
  rw [Try.params6] at hA hval
  obtain ⟨v0, vs0, d0, ds0, p0, q0, hargs, rfl, rfl, h0, r0⟩ := trodAll_cons hA
  obtain ⟨v1, vs1, d1, ds1, p1, q1, rfl, rfl, rfl, h1, r1⟩ := trodAll_cons r0
  obtain ⟨v2, vs2, d2, ds2, p2, q2, rfl, rfl, rfl, h2, r2⟩ := trodAll_cons r1
  obtain ⟨rfl, rfl, rfl⟩ := trodAll_nil r2
  obtain rfl : args = #[v0, v1, v2] := by cases args; simp_all
  obtain ⟨rfl, rfl⟩ := trodVars_none hV
  obtain ⟨a0, n0, c0, xs0, rfl, k0⟩ := open_reads (hval 0 22 v0 rfl rfl) h0
  obtain ⟨a1, n1, c1, xs1, rfl, k1⟩ := open_reads (hval 1 22 v1 rfl rfl) h1
  obtain ⟨a2, rfl, rfl, rfl, w2⟩ := open_int Try.underlying3 (hval 2 3 v2 rfl rfl) h2
  refine (walk a0 n0 c0 xs0 k0 a1 n1 c1 xs1 k1 a2 w2).mono fun e W' ⟨he, hb⟩ => ?_
  subst he
  exact ⟨_, rfl, post_law hW' hb rfl rfl rfl rfl rfl (by rw [Try.params6]; exact readable_all (by kernel_rfl))⟩
theorem over : Rows.distBothWaysRow.holds Try.pinned (OpenSpec.ofChange Rows.distBothWaysSpec) :=
  OpenClaim.holds_of_wide 6 Try.f6 rfl rfl rfl rfl rfl rfl rfl ⟨rfl, rfl, rfl, rfl, rfl⟩ rfl rfl rfl rfl rfl (by kernel_rfl) Try.func6 (by kernel_rfl)
    (of_decide_eq_true (by kernel_rfl)) (by unfold Func.isWrapper; first | (rw [if_pos (by decide +kernel)]; kernel_rfl) | (rw [if_neg (by decide +kernel)]; exact ⟨rfl, rfl⟩))
    (fun os started H enc _ => lifted os started H enc)
theorem proved : Rows.DistBothWaysSaid := over
#print axioms proved
end Go.Proofs.Ytjopiefojicblaa.distBoth
