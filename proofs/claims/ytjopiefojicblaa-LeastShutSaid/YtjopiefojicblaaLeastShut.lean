/- LeastShut: with edges closed that are not on it the way stays as it is; with one of it closed it is another one, no shorter, or there is none. For every input, without a condition. -/
import Derived.Test.YtjopiefojicblaaAwake12
import Derived.Test.YtjopiefojicblaaWay4
import Derived.Test.YtjopiefojicblaaDistAll
import Derived.Test.YtjopiefojicblaaWalk4
import Derived.Test.YtjopiefojicblaaCmps
import Derived.Test.YtjopiefojicblaaCmpPure
import Derived.Test.YtjopiefojicblaaRefs
import Derived.Test.YtjopiefojicblaaStill
import Derived.Test.YtjopiefojicblaaBase
import Derived.BigQuiet
import Derived.Deep.RegionHeld3
set_option linter.unusedVariables false
set_option linter.unusedSimpArgs false
namespace Go.Proofs.Ytjopiefojicblaa.leastShut
open Go.ChangeShapes Go.WideShapes Go.ChangeAt Go.RowKit HeapP DistP
set_option maxRecDepth 100000 in
set_option maxHeartbeats 4000000 in
theorem walk_out (A : Option Addr) (n k : Nat) (a b : Int) (A2 : Option Addr) (n2 k2 : Nat) (s1 : n ≤ 9223372036854775807) (s2 : n2 ≤ 9223372036854775807) (w : World) (h : ¬ (n ≤ 100 ∧ n2 ≤ 30)) :
    Calls Try.prog 10 #[.slice A n k, .int .i64 a, .int .i64 b, .slice A2 n2 k2] w fun e w' => e = .returned (.bool true) ∧ Below w.heap.size w w' := by
  by_cases h1 : 100 < n
  · clear h
    go_enter Try.func10, Try.ntmps10
    go_wp2_with (go_at_call 28; refine (awake12 _).mono ?_; rintro e w1 ⟨rfl, hb1⟩)
    go_ret
    exact ⟨rfl, by assumption⟩
  · have h2 : 30 < n2 := by omega
    clear h
    go_enter Try.func10, Try.ntmps10
    go_wp2_with (go_at_call 28; refine (awake12 _).mono ?_; rintro e w1 ⟨rfl, hb1⟩)
    go_ret
    exact ⟨rfl, by assumption⟩
theorem castL_get {L : List Nat} {i : Nat} (h : i < L.length) : (castL L).getD i 0 = ((L.getD i 0 : Nat) : Int) := map_cast_getD h
/-- is any of them closed? -/
def onB (cl : List Bool) (l : List Nat) : Bool := l.any (shutB cl)
theorem on_step {cl : List Bool} {L : List Nat} {i : Nat} (h : i < L.length) : onB cl (L.take (i + 1)) = (onB cl (L.take i) || shutB cl (L.getD i 0)) := by
  unfold onB
  rw [List.take_succ_eq_append_getElem h, List.any_append, List.getD_eq_getElem?_getD, List.getElem?_eq_getElem h]; simp
theorem way_wgt {ns bs : Bs} {es : Es} {cl : List Bool} {v : Int} (h : mayB ns es bs = true) {q : Nat} (hq : q < es.length) (h0 : 0 ≤ dl (toD es bs cl v) q) :
    wgtT es (castL (wayL es bs cl (dl (toD es bs cl v)) q)) = dl (toD es bs cl v) q ∧ okE es (castL (wayL es bs cl (dl (toD es bs cl v)) q)) = true := by
  have hw := way_ok h (toD_is h cl v).2 (dl (toD es bs cl v) q).toNat q hq h0 (by omega)
  have ho := chain_ok hw.chain
  refine ⟨?_, ho⟩
  unfold wgtT
  rw [if_pos (show okE es (castL (wayL es bs cl (dl (toD es bs cl v)) q)) = true from ho)]
  exact hw.sum
theorem way_mem {ns bs : Bs} {es : Es} {cl : List Bool} {v : Int} (h : mayB ns es bs = true) {q : Nat} (hq : q < es.length) (h0 : 0 ≤ dl (toD es bs cl v) q) :
    ∀ x ∈ wayL es bs cl (dl (toD es bs cl v)) q, x < es.length ∧ shutB cl x = false := fun x hx => by
  have := (way_ok h (toD_is h cl v).2 (dl (toD es bs cl v) q).toNat q hq h0 (by omega)).lt x hx
  exact ⟨this.1, this.2.1⟩
theorem castL_inj {l k : List Nat} (h : castL l = castL k) : l = k := by
  unfold castL at h
  exact (List.map_inj_right (fun _ _ e => Int.ofNat.inj e)).1 h
theorem shut_way {ns bs : Bs} {es : Es} {cl : List Bool} {v : Int} (h : mayB ns es bs = true) {q : Nat} (hq : q < es.length) :
    (dl (toD es bs [] v) q < 0 → dl (toD es bs cl v) q < 0) ∧
    (0 ≤ dl (toD es bs [] v) q → onB cl (wayL es bs [] (dl (toD es bs [] v)) q) = false → dl (toD es bs cl v) q = dl (toD es bs [] v) q ∧ wayL es bs cl (dl (toD es bs cl v)) q = wayL es bs [] (dl (toD es bs [] v)) q) ∧
    (0 ≤ dl (toD es bs [] v) q → onB cl (wayL es bs [] (dl (toD es bs [] v)) q) = true → 0 ≤ dl (toD es bs cl v) q → dl (toD es bs [] v) q ≤ dl (toD es bs cl v) q ∧ castL (wayL es bs cl (dl (toD es bs cl v)) q) ≠ castL (wayL es bs [] (dl (toD es bs [] v)) q)) := by
  have hc : ∀ e, shutB [] e = true → shutB cl e = true := fun e he => by cases he
  have hmore := fun h1 => to_more h hc (toD_is h [] v).2 (toD_is h cl v).2 (dl (toD es bs cl v) q).toNat q hq h1 (by omega)
  refine ⟨fun h1 => ?_, fun h1 ho => ?_, fun h1 ho h2 => ⟨(hmore h2).2, fun e => ?_⟩⟩
  · rcases Int.lt_or_le (dl (toD es bs cl v) q) 0 with h3 | h3
    · exact h3
    · have := (hmore h3).1; omega
  · refine way_stays h hc (toD_is h [] v).2 (toD_is h cl v).2 (dl (toD es bs [] v) q).toNat q hq h1 (by omega) fun x hx => ?_
    unfold onB at ho
    have := List.any_eq_false.1 ho x hx
    simpa using this
  · have e2 := castL_inj e
    unfold onB at ho
    obtain ⟨x, hx, hs⟩ := List.any_eq_true.1 ho
    rw [← e2] at hx
    have := (way_mem h hq h2 x hx).2
    rw [hs] at this; cases this
set_option maxRecDepth 100000 in
set_option maxHeartbeats 16000000 in
theorem walk_ins (A : Option Addr) (n k : Nat) (xs : List Int) (eI : Int) (heI : (Lit.int .i64 eI).wf = true) (nI : Int) (hnI : (Lit.int .i64 nI).wf = true) (Ah : Option Addr) (n2 k2 : Nat) (sh : List Int) (w : World) (h : n ≤ 100) (h2 : n2 ≤ 30)
    (hk : ReadsI w A n k xs) (q2 : ReadsI w Ah n2 k2 sh) :
    Calls Try.prog 10 #[.slice A n k, .int .i64 eI, .int .i64 nI, .slice Ah n2 k2] w fun e w' => e = .returned (.bool true) ∧ Below w.heap.size w w' := by
  have HOK := Lib.hid (town_good xs)
  have hmd := made12 hk
  have hE70 := len_townE xs
  obtain ⟨ns, hns⟩ : ∃ ns, ns = townN xs := ⟨_, rfl⟩
  obtain ⟨es, hes⟩ : ∃ es, es = townE xs := ⟨_, rfl⟩
  obtain ⟨bs, hbs⟩ : ∃ bs, bs = townB xs := ⟨_, rfl⟩
  rw [← hes] at hE70
  rw [← hns, ← hes, ← hbs] at HOK hmd
  have HMD := Lib.hid hmd
  obtain ⟨s1, s2, s3, s4⟩ := (mayB_parts HOK.out).2.1
  clear hmd hns hes hbs
  have Q2 := Lib.hid q2
  obtain ⟨e1, e70⟩ := hE70
  have ra := fun w => round_still heI (n := (es.length : Int)) (by omega) (by omega) w
  have rb := fun w => round_still hnI (n := (ns.length : Int)) (by omega) (by omega) w
  have j0 := Int.emod_nonneg eI (show (es.length : Int) ≠ 0 by omega)
  have j1 := Int.emod_lt_of_pos eI (show (0 : Int) < es.length by omega)
  have i0 := Int.emod_nonneg nI (show (ns.length : Int) ≠ 0 by omega)
  have i1 := Int.emod_lt_of_pos nI (show (0 : Int) < ns.length by omega)
  obtain ⟨q, ha⟩ : ∃ a : Nat, eI % (es.length : Int) = (a : Int) := ⟨(eI % (es.length : Int)).toNat, by omega⟩
  obtain ⟨v, hv⟩ : ∃ v : Nat, nI % (ns.length : Int) = (v : Int) := ⟨(nI % (ns.length : Int)).toNat, by omega⟩
  rw [ha] at ra j0 j1
  rw [hv] at rb i0 i1
  have HAN : Hid (q < es.length) := Lib.hid (by omega)
  have HVN : Hid (v < ns.length) := Lib.hid (by omega)
  have RA := Lib.hid ra
  have RB := Lib.hid rb
  clear hk q2 ra rb ha hv heI hnI
  go_enter Try.func10, Try.ntmps10
  go_wp2_with fail
  refine HMD.out.mono ?_
  rintro e w1 ⟨A1, A2, A3, c1, c2, c3, B, t, p, rfl, hM⟩
  have hbx := bl_alloc (Below.refl w1.heap.size w1) (.cells #[.slice A1 ns.length c1, .slice A2 es.length c2, .slice A3 bs.length c3] 29)
  obtain ⟨v0, hv0⟩ : ∃ v0, v0 = w1.alloc (.cells #[.slice A1 ns.length c1, .slice A2 es.length c2, .slice A3 bs.length c3] 29) := ⟨_, rfl⟩
  have HS : Hid (∀ w', Below v0.heap.size v0 w' → w'.cell? ⟨w1.heap.size, 0, none⟩ = some (.slice A1 ns.length c1) ∧ w'.cell? ⟨w1.heap.size, 1, none⟩ = some (.slice A2 es.length c2) ∧ w'.cell? ⟨w1.heap.size, 2, none⟩ = some (.slice A3 bs.length c3)) := Lib.hid fun w' hb => by subst hv0; exact GR.box hb
  have k0 : (w1.alloc (.cells #[.slice A1 ns.length c1, .slice A2 es.length c2, .slice A3 bs.length c3] 29)).cell? ⟨w1.heap.size, 0, none⟩ = some (.slice A1 ns.length c1) := cell_three_new 0 _ rfl
  have k1 : (w1.alloc (.cells #[.slice A1 ns.length c1, .slice A2 es.length c2, .slice A3 bs.length c3] 29)).cell? ⟨w1.heap.size, 1, none⟩ = some (.slice A2 es.length c2) := cell_three_new 1 _ rfl
  have k2 : (w1.alloc (.cells #[.slice A1 ns.length c1, .slice A2 es.length c2, .slice A3 bs.length c3] 29)).cell? ⟨w1.heap.size, 2, none⟩ = some (.slice A3 bs.length c3) := cell_three_new 2 _ rfl
  rw [← hv0] at hbx
  have HG := Lib.hid (hM.g.below hbx)
  have HT := Lib.hid (hM.t.below hbx)
  have HBW : Hid (Below w.heap.size w v0) := Lib.hid (hM.below.trans (hbx.mono hM.below.size))
  have HV0 := Lib.hid hv0
  have HTE : Hid (w1.heap.size < v0.heap.size) := Lib.hid (by rw [hv0, size_alloc]; omega)
  have HLO : Hid (w.heap.size ≤ B) := Lib.hid hM.lo
  clear hM hbx hv0 HMD
  go_wp2_with fail
  rw [← HV0.out]
  clear k0 k1 k2
  obtain ⟨l0, l1, l2⟩ := HS.out _ (Below.refl _ _)
  go_quiet ((go_at_call 25; first | with_reducible refine Calls.quiet_of_same (RA.out _) | with_reducible refine Calls.quiet_of_same (RB.out _)))
  go_wp2_with fail
  generalize hV : World.drewN v0 _ = vz
  have B0 : Hid (Below v0.heap.size v0 vz) := Lib.hid (by rw [← hV]; exact bl_drewN (Below.refl _ _) _)
  clear hV l0 l1 l2
  have HSQ : Hid (∀ w', Below vz.heap.size vz w' → w'.cell? ⟨w1.heap.size, 0, none⟩ = some (.slice A1 ns.length c1) ∧ w'.cell? ⟨w1.heap.size, 1, none⟩ = some (.slice A2 es.length c2) ∧ w'.cell? ⟨w1.heap.size, 2, none⟩ = some (.slice A3 bs.length c3)) := Lib.hid fun w' h => HS.out w' (bl_then B0.out h)
  have HTZ := Lib.hid (HT.out.below B0.out)
  have HGZ := Lib.hid (HG.out.below B0.out)
  have Q2Z := Lib.hid ((Q2.out.below HBW.out).below B0.out)
  have BZ : Hid (∀ w', Below vz.heap.size vz w' → Below w.heap.size w w') := Lib.hid fun w' h => HBW.out.trans ((bl_then B0.out h).mono HBW.out.size)
  have r1 := way_at HTZ.out (nilB vz) e1 (q : Int) (v : Int)
  have hin2 : inB 0 (q : Int) ((es.length : Int) - 1) = true := by unfold inB; simp; omega
  have hin : inB 0 (v : Int) ((ns.length : Int) - 1) = true := by unfold inB; simp; omega
  have eb : ∀ cl, btwT ns es bs cl (q : Int) (v : Int) = dl (toD es bs cl (v : Int)) q := fun cl => by unfold btwT; rw [if_pos ⟨hin2, hin⟩, Int.toNat_natCast]
  have hwT : ∀ cl, wayT ns es bs cl (q : Int) (v : Int) = castL (if 0 ≤ dl (toD es bs cl (v : Int)) q then wayL es bs cl (dl (toD es bs cl (v : Int))) q else []) := fun cl => by
    unfold wayT; rw [eb, Int.toNat_natCast]; split <;> rfl
  have EB := Lib.hid eb
  have HWT := Lib.hid hwT
  rw [hwT, eb] at r1
  obtain ⟨D, hDD⟩ : ∃ D, D = dl (toD es bs [] (v : Int)) q := ⟨_, rfl⟩
  have hbd := dl_bd (toD_bd HOK.out [] (v : Int)) q
  rw [← hDD] at r1 hbd
  have HDE := Lib.hid hDD
  obtain ⟨L, hL⟩ : ∃ L, L = if 0 ≤ D then wayL es bs [] (dl (toD es bs [] (v : Int))) q else [] := ⟨_, rfl⟩
  rw [← hL] at r1
  rw [castL_len] at r1
  have hlt : ∀ x ∈ L, x < es.length := by
    rw [hL]
    split
    · rename_i h0
      rw [hDD] at h0
      exact fun x hx => (way_mem HOK.out HAN.out h0 x hx).1
    · intro x hx; cases hx
  have hl9 : L.length ≤ 33553920 := by
    rw [hL]
    split
    · have := way_len (es := es) (bs := bs) (cl := []) (D := dl (toD es bs [] (v : Int))) D.toNat (e := q) (by rw [hDD]; omega)
      omega
    · simp
  have R1 := Lib.hid r1
  have HLE := Lib.hid hL
  have HLT := Lib.hid hlt
  clear r1 eb hwT hin hin2 hDD hL hlt
  obtain ⟨ok, hok2⟩ : ∃ o, o = decide (0 ≤ D) := ⟨_, rfl⟩
  rw [← hok2] at R1
  refine R1.out.mono ?_
  rintro r y1 ⟨AW, cW, rfl, hg, hb⟩
  have J1 := Lib.hid hb
  have hg1 := hg.1
  rw [castL_len] at hg1
  have HW1 := Lib.hid hg1
  obtain ⟨l0, l1, l2⟩ := HSQ.out _ hb
  have HOKB := Lib.hid hok2
  clear hb hg hg1 hok2
  have hsh := shut4_any (A1 := A1) (A2 := A2) (A3 := A3) (w := y1) (N := es.length) (n1 := ns.length) (n3 := bs.length) (c1 := c1) (c2 := c2) (c3 := c3) e1 s3 (Q2Z.out.below J1.out) (by omega)
  obtain ⟨cl, hcl⟩ : ∃ cl, cl = shutK es.length sh := ⟨_, rfl⟩
  rw [← hcl] at hsh
  have HSH := Lib.hid hsh
  clear hsh hcl
  go_wp2_with fail
  refine HSH.out.mono ?_
  rintro r vb ⟨gs, rfl, hr, _, hb⟩
  have J2 := Lib.hid (bl_then J1.out hb)
  have HR := Lib.hid hr
  have RC := Lib.hid (hr.reads s3 es.length)
  have HW2 := Lib.hid (HW1.out.below hb)
  clear hr hb l0 l1 l2
  go_wp2_with fail
  go_loopg [17, 16] L.length (fun M u z wr => ∃ i : Nat, M = L.length - i ∧ i ≤ L.length ∧ u = .int .i64 (i : Nat) ∧ z = .bool (onB cl (L.take i)) ∧ Below vb.heap.size vb wr)
  case atStart => exact ⟨0, rfl, Nat.zero_le _, rfl, rfl, Below.refl _ _⟩
  case round =>
    obtain ⟨i, hM, hi, rfl, rfl, hb⟩ := hrel
    have HM := Lib.hid hM
    have HB := Lib.hid hb
    clear hM hb
    by_cases hlt : i < L.length
    · obtain ⟨bW, oW, rfl, hcW⟩ := (HW2.out.below HB.out).cell (by omega)
      have dW := hcW i hlt
      rw [castL_get hlt] at dW
      have hyl := HLT.out (L.getD i 0) (by rw [List.getD_eq_getElem?_getD, List.getElem?_eq_getElem hlt]; exact List.getElem_mem hlt)
      have hst := on_step (cl := cl) hlt
      obtain ⟨y, hy⟩ : ∃ y, y = L.getD i 0 := ⟨_, rfl⟩
      rw [← hy] at dW hyl hst
      obtain ⟨o, ho⟩ : ∃ o, o = onB cl (L.take i) := ⟨_, rfl⟩
      rw [← ho] at hst ⊢
      have hed := fun w' : World => edge4_c (A1 := A1) (A2 := A2) (A3 := A3) (n1 := ns.length) (n2 := es.length) (n3 := bs.length) (c1 := c1) (c2 := c2) (c3 := c3) (by unfold maxLen; omega) (y : Int) w'
      rw [show inB 0 (y : Int) ((es.length : Int) - 1) = true by unfold inB; simp; omega] at hed
      have HED := Lib.hid hed
      have dC := (RC.out.below HB.out).cell (by omega)
      obtain ⟨bC, oC, eC, hcC⟩ := dC
      injection eC with eC
      injection eC with eC1 eC2 _
      subst eC1 eC2
      have dC := hcC y hyl
      rw [show cl.getD y false = shutB cl y from rfl, Nat.zero_add] at dC
      have HSX : Hid (∀ w', Below wr.heap.size wr w' → (w'.cell? ⟨w1.heap.size, 0, none⟩ = some (.slice A1 ns.length c1) ∧ w'.cell? ⟨w1.heap.size, 1, none⟩ = some (.slice A2 es.length c2) ∧ w'.cell? ⟨w1.heap.size, 2, none⟩ = some (.slice A3 bs.length c3)) ∧ w'.cell? ⟨bW, oW + i, none⟩ = some (.int .i64 (y : Nat))) := Lib.hid fun w' h => ⟨HSQ.out w' (bl_then J2.out (bl_then HB.out h)), cell_below dW h⟩
      have Z0 : Hid (Below wr.heap.size wr wr.drew) := Lib.hid (bl_drew (Below.refl _ _))
      have DC := Lib.hid dC
      have i0' : (0 : Int) ≤ (i : Int) := by omega
      have i1' : (i : Int) < (L.length : Int) := by omega
      have y0 : (0 : Int) ≤ (y : Int) := by omega
      have y1' : (y : Int) < (es.length : Int) := by omega
      clear hcW hed hcC dC dW hy ho
      go_wp2_with fail
      go_region_held3 (fun w' => (w'.cell? ⟨w1.heap.size, 0, none⟩ = some (.slice A1 ns.length c1) ∧ w'.cell? ⟨w1.heap.size, 1, none⟩ = some (.slice A2 es.length c2) ∧ w'.cell? ⟨w1.heap.size, 2, none⟩ = some (.slice A3 bs.length c3)) ∧ w'.cell? ⟨bW, oW + i, none⟩ = some (.int .i64 (y : Nat)))
        (first | exact HSX.out _ Z0.out | exact HSX.out _ Z1.out)
        (first
          | (go_at_call 35
             refine (HED.out _).mono ?_
             rintro r z3 ⟨rfl, hb⟩
             have Z1 : Hid (Below wr.heap.size wr z3) := Lib.hid (bl_then Z0.out hb)
             clear hb))
      all_goals
        have dW := (HSX.out _ Z1.out).2
        have dC := cell_below DC.out Z1.out
        cases o with
        | true =>
          have HST : Hid (onB cl (L.take (i + 1)) = true) := Lib.hid (by rw [hst]; rfl)
          clear hst
          go_wp2_with fail
          go_roundg (L.length - (i + 1))
          case measure => have := HM.out; omega
          case rel => exact ⟨i + 1, rfl, by omega, by go_num, by rw [HST.out], bl_then HB.out Z1.out⟩
        | false =>
          obtain ⟨s, hs⟩ : ∃ s, s = shutB cl y := ⟨_, rfl⟩
          rw [← hs] at hst dC
          have HST : Hid (onB cl (L.take (i + 1)) = s) := Lib.hid (by rw [hst]; rfl)
          clear hst hs
          go_wp2_with fail
          go_roundg (L.length - (i + 1))
          case measure => have := HM.out; omega
          case rel => exact ⟨i + 1, rfl, by omega, by go_num, by rw [HST.out], bl_then HB.out Z1.out⟩
    · obtain rfl : i = L.length := by omega
      rw [List.take_length]
      have r1 := way_at (HTZ.out.below (bl_then J2.out HB.out)) (RC.out.below HB.out) e1 (q : Int) (v : Int)
      rw [HWT.out, EB.out] at r1
      obtain ⟨sw1, sw2, sw3⟩ := shut_way (cl := cl) (v := (v : Int)) HOK.out HAN.out
      rw [← HDE.out] at sw1 sw2 sw3
      have HWX := Lib.hid (HW2.out.below HB.out)
      have BL : Hid (Below vz.heap.size vz wr) := Lib.hid (bl_then J2.out HB.out)
      have hokb := HOKB.out
      have hle := HLE.out
      have hw0 := fun h0 => way_wgt (cl := []) (v := (v : Int)) HOK.out HAN.out h0
      have hw1 := fun h0 => way_wgt (cl := cl) (v := (v : Int)) HOK.out HAN.out h0
      rw [← HDE.out] at hw0
      have hbd1 := dl_bd (toD_bd HOK.out cl (v : Int)) q
      have hln1 := way_len (es := es) (bs := bs) (cl := cl) (D := dl (toD es bs cl (v : Int))) (dl (toD es bs cl (v : Int)) q).toNat (e := q) (by omega)
      obtain ⟨D1, hD1⟩ : ∃ D1, D1 = dl (toD es bs cl (v : Int)) q := ⟨_, rfl⟩
      obtain ⟨W1, hW1⟩ : ∃ W1, W1 = wayL es bs cl (dl (toD es bs cl (v : Int))) q := ⟨_, rfl⟩
      obtain ⟨W0, hW0⟩ : ∃ W0, W0 = wayL es bs [] (dl (toD es bs [] (v : Int))) q := ⟨_, rfl⟩
      rw [← hW0] at sw2 sw3 hle hw0
      rw [← hD1] at r1 sw1 sw2 sw3 hw1 hln1 hbd1
      rw [← hW1] at r1 sw2 sw3 hw1 hln1
      have hLN : W1.length ≤ 33553920 := by omega
      clear hln1 hW0 hW1 hD1 hlt hi
      by_cases h0 : 0 ≤ D
      · rw [if_pos h0] at hle
        subst hle
        have hok1 : ok = true := by rw [hokb]; exact decide_eq_true h0
        subst hok1
        cases hon : onB cl L with
        | false =>
          obtain ⟨t1, t2⟩ := sw2 h0 hon
          rw [t1, t2, if_pos h0, decide_eq_true h0, castL_len] at r1
          have R2 := Lib.hid r1
          clear r1 sw1 sw2 sw3 hw0 hw1 t1 t2 hokb
          go_wp2_with fail
          refine R2.out.mono ?_
          rintro r x1 ⟨AX, cX, rfl, hg, hb⟩
          have hg1 := hg.1
          rw [castL_len] at hg1
          have HX := Lib.hid hg1
          have K1 := Lib.hid hb
          have HWX1 := Lib.hid (HWX.out.below hb)
          clear hb hg hg1
          go_wp2_with fail
          refine (ints_any HX.out HWX1.out).mono ?_
          rw [decide_eq_true rfl]
          rintro r x2 ⟨rfl, hb⟩
          have K2 := Lib.hid (bl_then K1.out hb)
          clear hb
          go_wp2_with (go_at_call 28; refine (awake12 _).mono ?_; rintro e w6 ⟨rfl, hb6⟩)
          go_ret
          exact ⟨rfl, BZ.out _ (bl_then BL.out (bl_then K2.out hb6))⟩
        | true =>
          have g4 := fun (w' : World) (hb : Below wr.heap.size wr w') => weight4_any (HGZ.out.below (bl_then BL.out hb)) HOK.out (HWX.out.below hb) (by omega)
          rw [(hw0 h0).1, (hw0 h0).2] at g4
          have G4 := Lib.hid g4
          by_cases h1 : 0 ≤ D1
          · rw [if_pos h1, decide_eq_true h1, castL_len] at r1
            obtain ⟨t1, t2⟩ := sw3 h0 hon h1
            have R2 := Lib.hid r1
            have HW1' := Lib.hid (hw1 h1)
            have hcz : cmpL (castL W1) (castL L) ≠ 0 := fun e => t2 ((cmp_zero _ _).1 e)
            have hcb := cmp_bd (castL W1) (castL L)
            obtain ⟨cv, hcv⟩ : ∃ z, z = cmpL (castL W1) (castL L) := ⟨_, rfl⟩
            rw [← hcv] at hcz hcb
            have HCV := Lib.hid hcv
            have u1 : decide (D ≤ D1) = true := decide_eq_true t1
            have u2 : (cv != 0) = true := by simp [hcz]
            clear r1 sw1 sw2 sw3 hw0 hw1 g4 t2 hcv hokb
            go_wp2_with fail
            refine R2.out.mono ?_
            rintro r x1 ⟨AX, cX, rfl, hg, hb⟩
            have hg1 := hg.1
            rw [castL_len] at hg1
            have HX := Lib.hid hg1
            have K1 := Lib.hid hb
            obtain ⟨l0, l1, l2⟩ := HSQ.out _ (bl_then BL.out hb)
            clear hb hg hg1
            go_wp2_with fail
            refine (G4.out _ K1.out).mono ?_
            rintro r x2 ⟨rfl, hb⟩
            have K2 := Lib.hid (bl_then K1.out hb)
            have g5 := weight4_any (HGZ.out.below (bl_then BL.out K2.out)) HOK.out (HX.out.below hb) (by omega)
            rw [HW1'.out.1, HW1'.out.2] at g5
            have HX2 := Lib.hid (HX.out.below hb)
            have G5 := Lib.hid g5
            clear hb g5 l0 l1 l2
            obtain ⟨l0, l1, l2⟩ := HSQ.out _ (bl_then BL.out K2.out)
            go_wp2_with fail
            refine G5.out.mono ?_
            rintro r x3 ⟨rfl, hb⟩
            have K3 := Lib.hid (bl_then K2.out hb)
            have g6 := cmp4_any (HX2.out.below hb) (HWX.out.below K3.out)
            rw [← HCV.out] at g6
            have G6 := Lib.hid g6
            clear hb g6 l0 l1 l2
            go_wp2_with fail
            refine G6.out.mono ?_
            rintro r x4 ⟨rfl, hb⟩
            have K4 := Lib.hid (bl_then K3.out hb)
            clear hb
            go_wp2_with (go_at_call 28; refine (awake12 _).mono ?_; rintro e w6 ⟨rfl, hb6⟩)
            go_ret
            exact ⟨rfl, BZ.out _ (bl_then BL.out (bl_then K4.out hb6))⟩
          · rw [if_neg h1, decide_eq_false h1] at r1
            have R2 := Lib.hid r1
            clear r1 sw1 sw2 sw3 hw0 hw1 g4 hokb
            go_wp2_with fail
            refine R2.out.mono ?_
            rintro r x1 ⟨AX, cX, rfl, hg, hb⟩
            have HX := Lib.hid hg.1
            have K1 := Lib.hid hb
            obtain ⟨l0, l1, l2⟩ := HSQ.out _ (bl_then BL.out hb)
            clear hb hg
            go_wp2_with fail
            refine (G4.out _ K1.out).mono ?_
            rintro r x2 ⟨rfl, hb⟩
            have K2 := Lib.hid (bl_then K1.out hb)
            have g5 := weight4_any (HGZ.out.below (bl_then BL.out K2.out)) HOK.out (HX.out.below hb) (by simp [castL])
            have G5 := Lib.hid g5
            clear hb g5 l0 l1 l2
            obtain ⟨l0, l1, l2⟩ := HSQ.out _ (bl_then BL.out K2.out)
            go_wp2_with fail
            refine G5.out.mono ?_
            rintro r x3 ⟨rfl, hb⟩
            have K3 := Lib.hid (bl_then K2.out hb)
            clear hb l0 l1 l2
            go_wp2_with (go_at_call 28; refine (awake12 _).mono ?_; rintro e w6 ⟨rfl, hb6⟩)
            go_ret
            exact ⟨rfl, BZ.out _ (bl_then BL.out (bl_then K3.out hb6))⟩
      · have hok1 : ok = false := by rw [hokb]; exact decide_eq_false h0
        subst hok1
        have h1 : ¬ 0 ≤ D1 := by have := sw1 (by omega); omega
        rw [if_neg h1, decide_eq_false h1] at r1
        have R2 := Lib.hid r1
        clear r1 sw1 sw2 sw3 hw0 hw1 hokb hle
        go_wp2_with fail
        refine R2.out.mono ?_
        rintro r x1 ⟨AX, cX, rfl, hg, hb⟩
        have K1 := Lib.hid hb
        clear hb hg
        go_wp2_with (go_at_call 28; refine (awake12 _).mono ?_; rintro e w6 ⟨rfl, hb6⟩)
        go_ret
        exact ⟨rfl, BZ.out _ (bl_then BL.out (bl_then K1.out hb6))⟩
theorem walk {W : World} (A : Option Addr) (n k : Nat) (xs : List Int) (hk : ReadsI W A n k xs) (a : Int) (h5 : (Lit.int .i64 a).wf = true) (b : Int) (h6 : (Lit.int .i64 b).wf = true) (A2 : Option Addr) (n2 k2 : Nat) (x2 : List Int) (q2 : ReadsI W A2 n2 k2 x2) :
    Calls Try.prog 10 #[.slice A n k, .int .i64 a, .int .i64 b, .slice A2 n2 k2] W fun e w' => e = .returned (.bool true) ∧ Below W.heap.size W w' := by
  have s1 := hk.small
  have s2 := q2.small
  unfold maxLen at s1 s2
  by_cases h : n ≤ 100 ∧ n2 ≤ 30
  · exact walk_ins A n k xs a h5 b h6 A2 n2 k2 x2 W h.1 h.2 hk q2
  · exact walk_out A n k a b A2 n2 k2 (by omega) (by omega) W h
set_option maxRecDepth 100000 in
theorem lifted (os : Os) (started : os.Started) (H : Type) (enc : TypeId × Value → H) :
    ReturnsInHanded {} Try.checked os 10 .any (Rows.leastShutSpec.pre6 enc Try.prog Try.f10 Rows.leastShutRow.domain false) (Rows.leastShutSpec.post enc Try.prog Try.f10 false true false false) := by
  refine returnsInHanded_of_change (C := Try.checked) own started (by kernel_rfl) Try.func10
    (ChangeSpec.witness6 (enc := enc) (C := Try.checked) false ⟨#[], #[.slice none 0 0, .int .i64 0, .int .i64 0, .slice none 0 0], []⟩ 8 (by kernel_rfl) (by kernel_rfl) (by kernel_rfl) (by kernel_rfl)) ?_
  intro W base args ds gs before hval0 hW hcnd _
  have hval : ∀ (j : Nat) t v, Try.f10.params[j]? = some t → args[j]? = some v → Value.okWide Try.prog W .any base t v := hval0
  have hW' := hW
  obtain ⟨p, q, hA0, hV, rfl, hfz, hnd⟩ := hW
  have hA : DataW.TrodAll enc Try.prog W 0 (fun _ => true) true Try.f10.params.toList args.toList ds p := hA0
  rw [Try.params10] at hA hval
  obtain ⟨v0, vs0, d0, ds0, p0, q0, hargs, rfl, rfl, h0, r0⟩ := trodAll_cons hA
  obtain ⟨v1, vs1, d1, ds1, p1, q1, rfl, rfl, rfl, h1, r1⟩ := trodAll_cons r0
  obtain ⟨v2, vs2, d2, ds2, p2, q2, rfl, rfl, rfl, h2, r2⟩ := trodAll_cons r1
  obtain ⟨v3, vs3, d3, ds3, p3, q3, rfl, rfl, rfl, h3, r3⟩ := trodAll_cons r2
  obtain ⟨rfl, rfl, rfl⟩ := trodAll_nil r3
  obtain rfl : args = #[v0, v1, v2, v3] := by cases args; simp_all
  obtain ⟨rfl, rfl⟩ := trodVars_none hV
  obtain ⟨a0, n0, c0, xs0, rfl, k0⟩ := open_reads (hval 0 22 v0 rfl rfl) h0
  obtain ⟨a1, rfl, rfl, rfl, w1⟩ := open_int Try.underlying3 (hval 1 3 v1 rfl rfl) h1
  obtain ⟨a2, rfl, rfl, rfl, w2⟩ := open_int Try.underlying3 (hval 2 3 v2 rfl rfl) h2
  obtain ⟨a3, n3, c3, xs3, rfl, k3⟩ := open_reads (hval 3 22 v3 rfl rfl) h3
  refine (walk a0 n0 c0 xs0 k0 a1 w1 a2 w2 a3 n3 c3 xs3 k3).mono fun e W' ⟨he, hb⟩ => ?_
  subst he
  exact ⟨_, rfl, post_law hW' hb rfl rfl rfl rfl rfl (by rw [Try.params10]; exact readable_all (by kernel_rfl))⟩
theorem over : Rows.leastShutRow.holds Try.pinned (OpenSpec.ofChange Rows.leastShutSpec) :=
  OpenClaim.holds_of_wide 10 Try.f10 rfl rfl rfl rfl rfl rfl rfl ⟨rfl, rfl, rfl, rfl, rfl⟩ rfl rfl rfl rfl rfl (by kernel_rfl) Try.func10 (by kernel_rfl)
    (of_decide_eq_true (by kernel_rfl)) (by unfold Func.isWrapper; first | (rw [if_pos (by decide +kernel)]; kernel_rfl) | (rw [if_neg (by decide +kernel)]; exact ⟨rfl, rfl⟩))
    (fun os started H enc _ => lifted os started H enc)
theorem proved : Rows.LeastShutSaid := over
#print axioms proved
end Go.Proofs.Ytjopiefojicblaa.leastShut
