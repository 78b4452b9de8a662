/- LeastWay: it is a walk, ends there, has no closed edge, is as heavy as the distance, and no edge is in it twice; what is left of it is the way from there. For every input, without a condition. -/
import Derived.Test.YtjopiefojicblaaAwake12
import Derived.Test.YtjopiefojicblaaWay4
import Derived.Test.YtjopiefojicblaaDistAll
import Derived.Test.YtjopiefojicblaaEnds
import Derived.Test.YtjopiefojicblaaRefs
import Derived.Test.YtjopiefojicblaaStill
import Derived.Test.YtjopiefojicblaaBase
import Derived.BigQuiet
set_option linter.unusedVariables false
set_option linter.unusedSimpArgs false
namespace Go.Proofs.Ytjopiefojicblaa.leastWay
open Go.ChangeShapes Go.WideShapes Go.ChangeAt Go.RowKit Go.Maps Go.ChangeMaps Go.MapKept HeapP DistP
set_option maxRecDepth 100000 in
set_option maxHeartbeats 4000000 in
theorem walk_out (A : Option Addr) (n k : Nat) (A2 : Option Addr) (n2 k2 : Nat) (a b : Int) (s1 : n ≤ 9223372036854775807) (s2 : n2 ≤ 9223372036854775807) (w : World) (h : ¬ (n ≤ 100 ∧ n2 ≤ 40)) :
    Calls Try.prog 8 #[.slice A n k, .slice A2 n2 k2, .int .i64 a, .int .i64 b] w fun e w' => e = .returned (.bool true) ∧ Below w.heap.size w w' := by
  by_cases h1 : 100 < n
  · clear h
    go_enter Try.func8, Try.ntmps8
    go_wp2_with (go_at_call 28; refine (awake12 _).mono ?_; rintro e w1 ⟨rfl, hb1⟩)
    go_ret
    exact ⟨rfl, by assumption⟩
  · have h2 : 40 < n2 := by omega
    clear h
    go_enter Try.func8, Try.ntmps8
    go_wp2_with (go_at_call 28; refine (awake12 _).mono ?_; rintro e w1 ⟨rfl, hb1⟩)
    go_ret
    exact ⟨rfl, by assumption⟩
theorem zeroBool (w : World) : (zeroValue 4).run Try.prog w = .ok (.bool false) w := by kernel_rfl
theorem castL_get {L : List Nat} {i : Nat} (h : i < L.length) : (castL L).getD i 0 = ((L.getD i 0 : Nat) : Int) := map_cast_getD h
/-- what has been seen -/
def seenM (l : List Nat) : Int → Option Value := fun k => if k ∈ castL l then some (.bool true) else none
theorem seen_nil : seenM [] = fun _ => none := by funext k; simp [seenM, castL]
theorem seen_step {L : List Nat} {i : Nat} (h : i < L.length) : updV (seenM (L.take i)) ((L.getD i 0 : Nat) : Int) (.bool true) = seenM (L.take (i + 1)) := by
  funext k
  unfold updV seenM
  rw [List.take_succ_eq_append_getElem h, castL_append, List.getD_eq_getElem?_getD, List.getElem?_eq_getElem h]
  simp only [List.mem_append, Option.getD_some]
  by_cases e : k = ((L[i] : Nat) : Int)
  · rw [if_pos e, if_pos (.inr (by rw [e]; simp [castL]))]
  · rw [if_neg e]
    have : (k ∈ castL (L.take i) ∨ k ∈ castL [L[i]]) ↔ k ∈ castL (L.take i) := by
      constructor
      · rintro (h1 | h1)
        · exact h1
        · exact absurd (by simpa [castL] using h1) e
      · exact .inl
    simp only [this]
theorem reads_rest {w : World} {b o n c : Nat} {xs : List Int} (h : ReadsI w (some ⟨b, o, none⟩) n c xs) {j : Nat} (hj : j ≤ n) {o' : Nat} (c' : Nat) (ho : j < n → o' = o + j) : ReadsI w (some ⟨b, o', none⟩) (n - j) c' (xs.drop j) := by
  refine ⟨by rw [List.length_drop, h.len], by have := h.small; omega, fun hn => ?_, fun x hx => h.wf x (List.mem_of_mem_drop hx)⟩
  obtain ⟨b1, o1, e, hc⟩ := h.cell (by omega)
  injection e with e
  injection e with e1 e2
  subst e1 e2
  have := ho (by omega)
  subst this
  refine ⟨b, o + j, rfl, fun i hi => ?_⟩
  rw [show o + j + i = o + (j + i) by omega, hc (j + i) (by omega)]
  simp [List.getD_eq_getElem?_getD]
theorem castL_drop (l : List Nat) (k : Nat) : castL (l.drop k) = (castL l).drop k := by simp [castL, List.map_drop]
/-- all that the law asks of one place of it -/
theorem way_place {ns bs : Bs} {es : Es} {cl : List Bool} {v : Int} (h : mayB ns es bs = true) {q : Nat} (hq : q < es.length) (h0 : 0 ≤ dl (toD es bs cl v) q) {i : Nat} (hi : i < (wayL es bs cl (dl (toD es bs cl v)) q).length) :
    (wayL es bs cl (dl (toD es bs cl v)) q).getD i 0 < es.length ∧ shutB cl ((wayL es bs cl (dl (toD es bs cl v)) q).getD i 0) = false ∧ 0 ≤ dl (toD es bs cl v) ((wayL es bs cl (dl (toD es bs cl v)) q).getD i 0) ∧
    wayL es bs cl (dl (toD es bs cl v)) ((wayL es bs cl (dl (toD es bs cl v)) q).getD i 0) = (wayL es bs cl (dl (toD es bs cl v)) q).drop (i + 1) ∧
    (((wayL es bs cl (dl (toD es bs cl v)) q).getD i 0 : Nat) : Int) ∉ castL ((wayL es bs cl (dl (toD es bs cl v)) q).take i) := by
  have hw := way_ok h (toD_is h cl v).2 (dl (toD es bs cl v) q).toNat q hq h0 (by omega)
  have hr := way_rest (es := es) (bs := bs) (cl := cl) (D := dl (toD es bs cl v)) (dl (toD es bs cl v) q).toNat (e := q) (by omega) hi
  obtain ⟨L, hL⟩ : ∃ L, L = wayL es bs cl (dl (toD es bs cl v)) q := ⟨_, rfl⟩
  rw [← hL] at hw hr hi ⊢
  have e : L.getD i 0 = L[i] := by rw [List.getD_eq_getElem?_getD, List.getElem?_eq_getElem hi]; rfl
  rw [e] at hr ⊢
  obtain ⟨m1, m2, m3, m4⟩ := hw.lt _ (List.getElem_mem hi)
  refine ⟨m1, m2, m3, hr.symm, fun hm => ?_⟩
  unfold castL at hm
  obtain ⟨x, hx, hxe⟩ := List.mem_map.1 hm
  obtain ⟨j, hj, rfl⟩ := List.getElem_of_mem hx
  rw [List.length_take] at hj
  rw [List.getElem_take] at hxe
  have := List.pairwise_iff_getElem.1 hw.falls j i (by omega) hi (by omega)
  have e2 : L[j] = L[i] := by omega
  rw [e2] at this
  omega
theorem way_ends {ns bs : Bs} {es : Es} {cl : List Bool} {v : Int} (h : mayB ns es bs = true) {q : Nat} (hq : q < es.length) (h0 : 0 ≤ dl (toD es bs cl v) q) :
    endT es bs (q : Int) (castL (wayL es bs cl (dl (toD es bs cl v)) q)) = v ∧ walkB es bs (q : Int) (castL (wayL es bs cl (dl (toD es bs cl v)) q)) = true ∧ wgtT es (castL (wayL es bs cl (dl (toD es bs cl v)) q)) = dl (toD es bs cl v) q ∧ okE es (castL (wayL es bs cl (dl (toD es bs cl v)) q)) = true := by
  have hw := way_ok h (toD_is h cl v).2 (dl (toD es bs cl v) q).toNat q hq h0 (by omega)
  have ho : okE es (castL (wayL es bs cl (dl (toD es bs cl v)) q)) = true := chain_ok hw.chain
  have hwk : walkB es bs (q : Int) (castL (wayL es bs cl (dl (toD es bs cl v)) q)) = true := by
    unfold walkB
    rw [show inB 0 (q : Int) ((es.length : Int) - 1) = true by unfold inB; simp; omega]
    exact hw.chain
  refine ⟨?_, hwk, ?_, ho⟩
  · unfold endT
    rw [if_pos hwk]
    obtain ⟨z, z1, z2, z3⟩ := hw.last
    rw [show lastI (q : Int) (castL (wayL es bs cl (dl (toD es bs cl v)) q)) = (z : Int) from z1, Int.toNat_natCast]
    exact z3
  · unfold wgtT
    rw [if_pos ho]
    exact hw.sum
set_option maxRecDepth 100000 in
set_option maxHeartbeats 16000000 in
theorem walk_ins (A : Option Addr) (n k : Nat) (xs : List Int) (Ah : Option Addr) (n2 k2 : Nat) (sh : List Int) (eI : Int) (heI : (Lit.int .i64 eI).wf = true) (nI : Int) (hnI : (Lit.int .i64 nI).wf = true) (w : World) (h : n ≤ 100) (h2 : n2 ≤ 40)
    (hk : ReadsI w A n k xs) (q2 : ReadsI w Ah n2 k2 sh) :
    Calls Try.prog 8 #[.slice A n k, .slice Ah n2 k2, .int .i64 eI, .int .i64 nI] w fun e w' => e = .returned (.bool true) ∧ Below w.heap.size w w' := by
  have HOK := Lib.hid (town_good xs)
  have hmd := made12 hk
  have hE70 := len_townE xs
  obtain ⟨ns, hns⟩ : ∃ ns, ns = townN xs := ⟨_, rfl⟩
  obtain ⟨es, hes⟩ : ∃ es, es = townE xs := ⟨_, rfl⟩
  obtain ⟨bs, hbs⟩ : ∃ bs, bs = townB xs := ⟨_, rfl⟩
  rw [← hes] at hE70
  rw [← hns, ← hes, ← hbs] at HOK hmd
  have HMD := Lib.hid hmd
  obtain ⟨s1, s2, s3, s4⟩ := (mayB_parts HOK.out).2.1
  clear hmd hns hes hbs
  have Q2 := Lib.hid q2
  obtain ⟨e1, e70⟩ := hE70
  have ra := fun w => round_still heI (n := (es.length : Int)) (by omega) (by omega) w
  have rb := fun w => round_still hnI (n := (ns.length : Int)) (by omega) (by omega) w
  have j0 := Int.emod_nonneg eI (show (es.length : Int) ≠ 0 by omega)
  have j1 := Int.emod_lt_of_pos eI (show (0 : Int) < es.length by omega)
  have i0 := Int.emod_nonneg nI (show (ns.length : Int) ≠ 0 by omega)
  have i1 := Int.emod_lt_of_pos nI (show (0 : Int) < ns.length by omega)
  obtain ⟨q, ha⟩ : ∃ a : Nat, eI % (es.length : Int) = (a : Int) := ⟨(eI % (es.length : Int)).toNat, by omega⟩
  obtain ⟨v, hv⟩ : ∃ v : Nat, nI % (ns.length : Int) = (v : Int) := ⟨(nI % (ns.length : Int)).toNat, by omega⟩
  rw [ha] at ra j0 j1
  rw [hv] at rb i0 i1
  have HAN : Hid (q < es.length) := Lib.hid (by omega)
  have HVN : Hid (v < ns.length) := Lib.hid (by omega)
  have RA := Lib.hid ra
  have RB := Lib.hid rb
  clear hk q2 ra rb ha hv heI hnI
  have hmm := @run_makeMap Try.prog
  go_enter Try.func8, Try.ntmps8
  go_wp2_with fail
  refine HMD.out.mono ?_
  rintro e w1 ⟨A1, A2, A3, c1, c2, c3, B, t, p, rfl, hM⟩
  have hbx := bl_alloc (Below.refl w1.heap.size w1) (.cells #[.slice A1 ns.length c1, .slice A2 es.length c2, .slice A3 bs.length c3] 29)
  obtain ⟨v0, hv0⟩ : ∃ v0, v0 = w1.alloc (.cells #[.slice A1 ns.length c1, .slice A2 es.length c2, .slice A3 bs.length c3] 29) := ⟨_, rfl⟩
  have HS : Hid (∀ w', Below v0.heap.size v0 w' → w'.cell? ⟨w1.heap.size, 0, none⟩ = some (.slice A1 ns.length c1) ∧ w'.cell? ⟨w1.heap.size, 1, none⟩ = some (.slice A2 es.length c2) ∧ w'.cell? ⟨w1.heap.size, 2, none⟩ = some (.slice A3 bs.length c3)) := Lib.hid fun w' hb => by subst hv0; exact GR.box hb
  have k0 : (w1.alloc (.cells #[.slice A1 ns.length c1, .slice A2 es.length c2, .slice A3 bs.length c3] 29)).cell? ⟨w1.heap.size, 0, none⟩ = some (.slice A1 ns.length c1) := cell_three_new 0 _ rfl
  have k1 : (w1.alloc (.cells #[.slice A1 ns.length c1, .slice A2 es.length c2, .slice A3 bs.length c3] 29)).cell? ⟨w1.heap.size, 1, none⟩ = some (.slice A2 es.length c2) := cell_three_new 1 _ rfl
  have k2 : (w1.alloc (.cells #[.slice A1 ns.length c1, .slice A2 es.length c2, .slice A3 bs.length c3] 29)).cell? ⟨w1.heap.size, 2, none⟩ = some (.slice A3 bs.length c3) := cell_three_new 2 _ rfl
  rw [← hv0] at hbx
  have HG := Lib.hid (hM.g.below hbx)
  have HT := Lib.hid (hM.t.below hbx)
  have HBW : Hid (Below w.heap.size w v0) := Lib.hid (hM.below.trans (hbx.mono hM.below.size))
  have HV0 := Lib.hid hv0
  have HTE : Hid (w1.heap.size < v0.heap.size) := Lib.hid (by rw [hv0, size_alloc]; omega)
  have HLO : Hid (w.heap.size ≤ B) := Lib.hid hM.lo
  clear hM hbx hv0 HMD
  go_wp2_with fail
  rw [← HV0.out]
  have hsh := shut4_any (A1 := A1) (A2 := A2) (A3 := A3) (w := v0) (N := es.length) (n1 := ns.length) (n3 := bs.length) (c1 := c1) (c2 := c2) (c3 := c3) e1 s3 (Q2.out.below HBW.out) (by omega)
  obtain ⟨cl, hcl⟩ : ∃ cl, cl = shutK es.length sh := ⟨_, rfl⟩
  rw [← hcl] at hsh
  refine hsh.mono ?_
  clear hsh hcl k0 k1 k2
  rintro r vb ⟨gs, rfl, hr, _, hb⟩
  have BV := Lib.hid hb
  have RC := Lib.hid (hr.reads s3 es.length)
  obtain ⟨l0, l1, l2⟩ := HS.out _ hb
  clear hr hb
  go_wp2_with fail
  go_quiet ((go_at_call 25; first | with_reducible refine Calls.quiet_of_same (RA.out _) | with_reducible refine Calls.quiet_of_same (RB.out _)))
  go_wp2_with fail
  generalize hV : World.drewN vb _ = vz
  have B0 : Hid (Below vb.heap.size vb vz) := Lib.hid (by rw [← hV]; exact bl_drewN (Below.refl _ _) _)
  clear hV l0 l1 l2
  have HSQ : Hid (∀ w', Below vz.heap.size vz w' → w'.cell? ⟨w1.heap.size, 0, none⟩ = some (.slice A1 ns.length c1) ∧ w'.cell? ⟨w1.heap.size, 1, none⟩ = some (.slice A2 es.length c2) ∧ w'.cell? ⟨w1.heap.size, 2, none⟩ = some (.slice A3 bs.length c3)) := Lib.hid fun w' h => HS.out w' (bl_then BV.out (bl_then B0.out h))
  have HTZ := Lib.hid (HT.out.below (bl_then BV.out B0.out))
  have HGZ := Lib.hid (HG.out.below (bl_then BV.out B0.out))
  have RCZ := Lib.hid (RC.out.below B0.out)
  have BZ : Hid (∀ w', Below vz.heap.size vz w' → Below w.heap.size w w') := Lib.hid fun w' h => HBW.out.trans ((bl_then BV.out (bl_then B0.out h)).mono HBW.out.size)
  have r1 := way_at HTZ.out RCZ.out e1 (q : Int) (v : Int)
  have r2 := fun (w' : World) (hb : Below vz.heap.size vz w') => btw4_at (HGZ.out.below hb) HOK.out (RCZ.out.below hb) (q : Int) (v : Int)
  have hin2 : inB 0 (q : Int) ((es.length : Int) - 1) = true := by unfold inB; simp; omega
  have hin : inB 0 (v : Int) ((ns.length : Int) - 1) = true := by unfold inB; simp; omega
  have eb : ∀ x : Nat, x < es.length → btwT ns es bs cl (x : Int) (v : Int) = dl (toD es bs cl (v : Int)) x := fun x hx => by unfold btwT; rw [if_pos ⟨by unfold inB; simp; omega, hin⟩, Int.toNat_natCast]
  have EB := Lib.hid eb
  have ew : ∀ x : Nat, x < es.length → 0 ≤ dl (toD es bs cl (v : Int)) x → wayT ns es bs cl (x : Int) (v : Int) = castL (wayL es bs cl (dl (toD es bs cl (v : Int))) x) := fun x hx h0 => by unfold wayT; rw [EB.out x hx, if_pos h0, Int.toNat_natCast]
  have EW := Lib.hid ew
  rw [EB.out q HAN.out] at r2
  clear eb ew hin hin2
  by_cases h0 : 0 ≤ dl (toD es bs cl (v : Int)) q
  · rw [EW.out q HAN.out h0, EB.out q HAN.out, decide_eq_true h0] at r1
    obtain ⟨t1, t2, t3, t4⟩ := way_ends HOK.out HAN.out h0
    have hpl := fun (i : Nat) hi => way_place HOK.out HAN.out h0 (i := i) hi
    have hl9 := way_len (es := es) (bs := bs) (cl := cl) (D := dl (toD es bs cl (v : Int))) (dl (toD es bs cl (v : Int)) q).toNat (e := q) (by omega)
    have hbd := dl_bd (toD_bd HOK.out cl (v : Int)) q
    have hl8 : (wayL es bs cl (dl (toD es bs cl (v : Int))) q).length ≤ 33553920 := by omega
    obtain ⟨L, hL⟩ : ∃ L, L = wayL es bs cl (dl (toD es bs cl (v : Int))) q := ⟨_, rfl⟩
    rw [← hL] at r1 t1 t2 t3 t4 hpl hl8
    rw [castL_len] at r1
    obtain ⟨D, hD⟩ : ∃ D, D = dl (toD es bs cl (v : Int)) q := ⟨_, rfl⟩
    rw [← hD] at r2 t3
    have HPL := Lib.hid hpl
    have R1 := Lib.hid r1
    have R2 := Lib.hid r2
    have T1 := Lib.hid t1
    have T2 := Lib.hid t2
    have T3 := Lib.hid t3
    have T4 := Lib.hid t4
    have d9 : (D != D) = false := by simp
    have v9 : ((v : Int) != (v : Int)) = false := by simp
    clear r1 r2 t1 t2 t3 t4 hpl hl9 hbd hL hD h0
    refine R1.out.mono ?_
    rintro r y1 ⟨AW, cW, rfl, hg, hb⟩
    have J1 := Lib.hid hb
    have hg1 := hg.1
    rw [castL_len] at hg1
    have HW1 := Lib.hid hg1
    have hg3 := hg.2.2
    rw [castL_len] at hg3
    have HOWS := Lib.hid hg3
    obtain ⟨l0, l1, l2⟩ := HSQ.out _ hb
    clear hb hg hg1 hg3
    go_wp2_with fail
    refine (R2.out _ J1.out).mono ?_
    rintro r y2 ⟨rfl, hb⟩
    have J2 := Lib.hid (bl_then J1.out hb)
    have HW2 := Lib.hid (HW1.out.below hb)
    clear hb l0 l1 l2
    obtain ⟨l0, l1, l2⟩ := HSQ.out _ J2.out
    have g1 := end4_any (HGZ.out.below J2.out) HW2.out (q : Int)
    rw [T1.out, T2.out] at g1
    have G1 := Lib.hid g1
    clear g1
    go_wp2_with fail
    refine G1.out.mono ?_
    rintro r y3 ⟨rfl, hb⟩
    have J3 := Lib.hid (bl_then J2.out hb)
    have HW3 := Lib.hid (HW2.out.below hb)
    clear hb l0 l1 l2
    obtain ⟨l0, l1, l2⟩ := HSQ.out _ J3.out
    have g1 := weight4_any (HGZ.out.below J3.out) HOK.out HW3.out (by omega)
    rw [T3.out, T4.out] at g1
    have G2 := Lib.hid g1
    clear g1
    go_wp2_with fail
    refine G2.out.mono ?_
    rintro r y4 ⟨rfl, hb⟩
    have J4 := Lib.hid (bl_then J3.out hb)
    have HW4 := Lib.hid (HW3.out.below hb)
    have HM0 : Hid (mapAt (y4.alloc (.map #[] 0)) y4.heap.size #[] 0) := Lib.hid (heap_alloc_eq _ _)
    have HB04 : Hid (Below y4.heap.size y4 (y4.alloc (.map #[] 0))) := Lib.hid (bl_alloc (Below.refl _ _) _)
    clear hb l0 l1 l2
    go_wp2_with fail
    obtain ⟨g, hg⟩ : ∃ g, g = y4.heap.size := ⟨_, rfl⟩
    rw [← hg] at HM0 ⊢
    have HGE := Lib.hid hg
    clear hg hmm
    go_loopg [22] L.length (fun M u wr => ∃ (i : Nat) (em : Array MapEntry) (ck : Nat), M = L.length - i ∧ i ≤ L.length ∧ u = .int .i64 (i : Nat) ∧ Below y4.heap.size y4 wr ∧ mapAt wr g em ck ∧ EntV em ck (seenM (L.take i)))
    case atStart => exact ⟨0, #[], 0, rfl, Nat.zero_le _, rfl, HB04.out, HM0.out, by rw [List.take_zero, seen_nil]; exact EntV.empty 0⟩
    case round =>
      obtain ⟨i, em, ck, hM, hi, rfl, hb, hmb, hes⟩ := hrel
      have HM := Lib.hid hM
      have HB := Lib.hid hb
      have HMB := Lib.hid hmb
      have HES := Lib.hid hes
      clear hM hb hmb hes
      by_cases hlt : i < L.length
      · obtain ⟨p1, p2, p3, p4, p5⟩ := HPL.out i hlt
        have hss := seen_step hlt
        obtain ⟨gw, hAW, hcap, hcap2⟩ : ∃ gw, AW = some ⟨gw, 0, none⟩ ∧ L.length ≤ cW ∧ cW ≤ maxLen := by
          rcases HOWS.out with ⟨_, hx0, _⟩ | h
          · omega
          · exact h
        subst hAW
        obtain ⟨bW, oW, eW, hcW⟩ := (HW4.out.below HB.out).cell (by omega)
        injection eW with eW
        injection eW with eW1 eW2 _
        subst eW1 eW2
        have dW := hcW i hlt
        rw [castL_get hlt, Nat.zero_add] at dW
        obtain ⟨y, hy⟩ : ∃ y, y = L.getD i 0 := ⟨_, rfl⟩
        rw [← hy] at p1 p2 p3 p4 p5 hss dW
        have hyw : (Lit.int .i64 (y : Int)).wf = true := wf_of (by omega) (by omega)
        obtain ⟨bC, oC, eC, hcC⟩ := (RCZ.out.below (bl_then J4.out HB.out)).cell (by omega)
        injection eC with eC
        injection eC with eC1 eC2 _
        subst eC1 eC2
        have dC := hcC y p1
        rw [show cl.getD y false = shutB cl y from rfl, p2, Nat.zero_add] at dC
        have hlk := run_lookV1 (t := 56) Try.underlying56 zeroBool HES.out hyw HMB.out
        have hmy : seenM (L.take i) (y : Int) = none := by unfold seenM; rw [if_neg p5]
        rw [hmy] at hlk
        obtain ⟨em2, ck2, hes2, hput⟩ := run_putV (b := g) (t := 56) (e := 4) Try.underlying56 HES.out hyw (.bool true)
        rw [hss] at hes2
        have hp2 := hput wr HMB.out
        have hglt := mapAt_lt HMB.out
        have hsb : Below y4.heap.size y4 (setBlock wr g (.map em2 ck2)) := HB.out.trans (Upd.below (upd_setBlock (F := fun x => x = g) (Upd.refl _ _) rfl _) HB.out.size fun b hb e => by have := HGE.out; omega)
        have hmb2 : mapAt (setBlock wr g (.map em2 ck2)) g em2 ck2 := mapAt_setBlock hglt
        have hcb := (HW4.out.below hsb).cell (by omega)
        obtain ⟨b2, o2, e2, hcW2⟩ := hcb
        injection e2 with e2
        injection e2 with e3 e4 _
        subst e3 e4
        have dW2 := hcW2 i hlt
        rw [castL_get hlt, Nat.zero_add, ← hy] at dW2
        have hwy := way_at (HTZ.out.below (bl_then J4.out hsb)) (RCZ.out.below (bl_then J4.out hsb)) e1 (y : Int) (v : Int)
        rw [EW.out y p1 p3, EB.out y p1, decide_eq_true p3, p4, castL_drop, List.length_drop, castL_len] at hwy
        obtain ⟨vs, hvs⟩ : ∃ vs, vs = setBlock wr g (.map em2 ck2) := ⟨_, rfl⟩
        rw [← hvs] at hsb hmb2 hwy
        have HVS := Lib.hid hvs
        have HBS := Lib.hid hsb
        have HMB2 := Lib.hid hmb2
        have HWY := Lib.hid hwy
        have HES2 := Lib.hid hes2
        have HMLT : Hid (g < vs.heap.size) := Lib.hid (by rw [hvs, size_setBlock]; exact hglt)
        have HRS := Lib.hid (HW4.out.below hsb)
        have i0' : (0 : Int) ≤ (i : Int) := by omega
        have i1' : (i : Int) < (L.length : Int) := by omega
        have y0 : (0 : Int) ≤ (y : Int) := by omega
        have y1' : (y : Int) < (es.length : Int) := by omega
        obtain ⟨j1', hj1⟩ : ∃ m, m = i + 1 := ⟨_, rfl⟩
        have e2' : IntKind.i64.wrap ((i : Int) + 1) = (j1' : Int) := by rw [IntWalk.i64_in _ (by omega)]; omega
        have g0 : (0 : Int) ≤ (j1' : Int) := by omega
        have g1 : (j1' : Int) ≤ (cW : Int) := by omega
        have g2 : (j1' : Int) ≤ (L.length : Int) := by omega
        have g3 : j1' ≤ cW := by omega
        have g5 : ¬ cW = 0 := by omega
        have HJ : Hid (j1' ≤ L.length ∧ L.length ≤ cW) := Lib.hid ⟨by omega, hcap⟩
        have HJ1 := Lib.hid hj1
        rw [← hj1] at HWY
        clear hcW hcC hcW2 hss hy hmy hput p1 p2 p3 p4 p5 hes2 hglt hsb hmb2 hwy hvs hcap hcap2 hyw hj1
        go_wp2_with fail
        rw [← HVS.out]
        clear hlk hp2 dW dC dW2
        by_cases hc : cW = j1'
        · subst hc
          have HRR : Hid (ReadsI vs (some ⟨gw, 0, none⟩) (L.length - cW) 0 ((castL L).drop cW)) := Lib.hid (reads_rest HRS.out HJ.out.1 0 (fun h => by have := HJ.out.2; omega))
          go_wp2_with fail
          with_reducible refine HWY.out.mono ?_
          rintro r z1 ⟨AX, cX, rfl, hg, hb⟩
          have hg1 := hg.1
          rw [List.length_drop, castL_len] at hg1
          have HX := Lib.hid hg1
          have HBZ := Lib.hid hb
          have HR2 := Lib.hid (HRR.out.below hb)
          have HMZ := Lib.hid ((hb.block _ HMLT.out).trans HMB2.out)
          clear hb hg hg1
          go_wp2_with fail
          with_reducible refine (ints_any HX.out HR2.out).mono ?_
          rw [decide_eq_true rfl]
          rintro r z2 ⟨rfl, hb⟩
          have HBQ := Lib.hid (bl_then HBZ.out hb)
          have HMQ := Lib.hid ((hb.block _ (Nat.lt_of_lt_of_le HMLT.out HBZ.out.size)).trans HMZ.out)
          clear hb
          go_wp2_with fail
          go_roundg (L.length - (i + 1))
          case measure => have := HM.out; omega
          case rel => exact ⟨i + 1, em2, ck2, rfl, by omega, congrArg (Value.int .i64) (by have := HJ1.out; omega), bl_then HBS.out HBQ.out, HMQ.out, HES2.out⟩
        · have HRR : Hid (ReadsI vs (some ⟨gw, j1', none⟩) (L.length - j1') (cW - j1') ((castL L).drop j1')) := Lib.hid (reads_rest HRS.out HJ.out.1 _ (fun h => by omega))
          go_wp2_with fail
          with_reducible refine HWY.out.mono ?_
          rintro r z1 ⟨AX, cX, rfl, hg, hb⟩
          have hg1 := hg.1
          rw [List.length_drop, castL_len] at hg1
          have HX := Lib.hid hg1
          have HBZ := Lib.hid hb
          have HR2 := Lib.hid (HRR.out.below hb)
          have HMZ := Lib.hid ((hb.block _ HMLT.out).trans HMB2.out)
          clear hb hg hg1
          go_wp2_with fail
          with_reducible refine (ints_any HX.out HR2.out).mono ?_
          rw [decide_eq_true rfl]
          rintro r z2 ⟨rfl, hb⟩
          have HBQ := Lib.hid (bl_then HBZ.out hb)
          have HMQ := Lib.hid ((hb.block _ (Nat.lt_of_lt_of_le HMLT.out HBZ.out.size)).trans HMZ.out)
          clear hb
          go_wp2_with fail
          go_roundg (L.length - (i + 1))
          case measure => have := HM.out; omega
          case rel => exact ⟨i + 1, em2, ck2, rfl, by omega, congrArg (Value.int .i64) (by have := HJ1.out; omega), bl_then HBS.out HBQ.out, HMQ.out, HES2.out⟩
      · obtain rfl : i = L.length := by omega
        go_wp2_with (go_at_call 28; refine (awake12 _).mono ?_; rintro e w6 ⟨rfl, hb6⟩)
        go_ret
        exact ⟨rfl, BZ.out _ (bl_then J4.out (bl_then HB.out hb6))⟩
  · have hneg : btwT ns es bs cl (q : Int) (v : Int) < 0 := by rw [EB.out q HAN.out]; omega
    obtain ⟨x1, x2⟩ := wayT_none hneg
    rw [x1, x2] at r1
    obtain ⟨D, hD⟩ : ∃ D, D = dl (toD es bs cl (v : Int)) q := ⟨_, rfl⟩
    rw [← hD] at r2 h0
    have d1 : decide (D < 0) = true := decide_eq_true (by omega)
    have R1 := Lib.hid r1
    have R2 := Lib.hid r2
    clear r1 r2 hneg x1 x2 hD h0 hmm
    refine R1.out.mono ?_
    rintro r y1 ⟨AW, cW, rfl, hg, hb⟩
    have J1 := Lib.hid hb
    obtain ⟨l0, l1, l2⟩ := HSQ.out _ hb
    clear hb hg
    go_wp2_with fail
    refine (R2.out _ J1.out).mono ?_
    rintro r y2 ⟨rfl, hb⟩
    have J2 := Lib.hid (bl_then J1.out hb)
    clear hb l0 l1 l2
    go_wp2_with (go_at_call 28; refine (awake12 _).mono ?_; rintro e w6 ⟨rfl, hb6⟩)
    go_ret
    exact ⟨rfl, BZ.out _ (bl_then J2.out hb6)⟩
theorem walk {W : World} (A : Option Addr) (n k : Nat) (xs : List Int) (hk : ReadsI W A n k xs) (A2 : Option Addr) (n2 k2 : Nat) (x2 : List Int) (q2 : ReadsI W A2 n2 k2 x2) (a : Int) (h5 : (Lit.int .i64 a).wf = true) (b : Int) (h6 : (Lit.int .i64 b).wf = true) :
    Calls Try.prog 8 #[.slice A n k, .slice A2 n2 k2, .int .i64 a, .int .i64 b] W fun e w' => e = .returned (.bool true) ∧ Below W.heap.size W w' := by
  have s1 := hk.small
  have s2 := q2.small
  unfold maxLen at s1 s2
  by_cases h : n ≤ 100 ∧ n2 ≤ 40
  · exact walk_ins A n k xs A2 n2 k2 x2 a h5 b h6 W h.1 h.2 hk q2
  · exact walk_out A n k A2 n2 k2 a b (by omega) (by omega) W h
set_option maxRecDepth 100000 in
theorem lifted (os : Os) (started : os.Started) (H : Type) (enc : TypeId × Value → H) :
    ReturnsInHanded {} Try.checked os 8 .any (Rows.leastWaySpec.pre6 enc Try.prog Try.f8 Rows.leastWayRow.domain false) (Rows.leastWaySpec.post enc Try.prog Try.f8 false true false false) := by
  refine returnsInHanded_of_change (C := Try.checked) own started (by kernel_rfl) Try.func8
    (ChangeSpec.witness6 (enc := enc) (C := Try.checked) false ⟨#[], #[.slice none 0 0, .slice none 0 0, .int .i64 0, .int .i64 0], []⟩ 8 (by kernel_rfl) (by kernel_rfl) (by kernel_rfl) (by kernel_rfl)) ?_
  intro W base args ds gs before hval0 hW hcnd _
  have hval : ∀ (j : Nat) t v, Try.f8.params[j]? = some t → args[j]? = some v → Value.okWide Try.prog W .any base t v := hval0
  have hW' := hW
  obtain ⟨p, q, hA0, hV, rfl, hfz, hnd⟩ := hW
  have hA : DataW.TrodAll enc Try.prog W 0 (fun _ => true) true Try.f8.params.toList args.toList ds p := hA0
  rw [Try.params8] at hA hval
  obtain ⟨v0, vs0, d0, ds0, p0, q0, hargs, rfl, rfl, h0, r0⟩ := trodAll_cons hA
  obtain ⟨v1, vs1, d1, ds1, p1, q1, rfl, rfl, rfl, h1, r1⟩ := trodAll_cons r0
  obtain ⟨v2, vs2, d2, ds2, p2, q2, rfl, rfl, rfl, h2, r2⟩ := trodAll_cons r1
  obtain ⟨v3, vs3, d3, ds3, p3, q3, rfl, rfl, rfl, h3, r3⟩ := trodAll_cons r2
  obtain ⟨rfl, rfl, rfl⟩ := trodAll_nil r3
  obtain rfl : args = #[v0, v1, v2, v3] := by cases args; simp_all
  obtain ⟨rfl, rfl⟩ := trodVars_none hV
  obtain ⟨a0, n0, c0, xs0, rfl, k0⟩ := open_reads (hval 0 22 v0 rfl rfl) h0
  obtain ⟨a1, n1, c1, xs1, rfl, k1⟩ := open_reads (hval 1 22 v1 rfl rfl) h1
  obtain ⟨a2, rfl, rfl, rfl, w2⟩ := open_int Try.underlying3 (hval 2 3 v2 rfl rfl) h2
  obtain ⟨a3, rfl, rfl, rfl, w3⟩ := open_int Try.underlying3 (hval 3 3 v3 rfl rfl) h3
  refine (walk a0 n0 c0 xs0 k0 a1 n1 c1 xs1 k1 a2 w2 a3 w3).mono fun e W' ⟨he, hb⟩ => ?_
  subst he
  exact ⟨_, rfl, post_law hW' hb rfl rfl rfl rfl rfl (by rw [Try.params8]; exact readable_all (by kernel_rfl))⟩
theorem over : Rows.leastWayRow.holds Try.pinned (OpenSpec.ofChange Rows.leastWaySpec) :=
  OpenClaim.holds_of_wide 8 Try.f8 rfl rfl rfl rfl rfl rfl rfl ⟨rfl, rfl, rfl, rfl, rfl⟩ rfl rfl rfl rfl rfl (by kernel_rfl) Try.func8 (by kernel_rfl)
    (of_decide_eq_true (by kernel_rfl)) (by unfold Func.isWrapper; first | (rw [if_pos (by decide +kernel)]; kernel_rfl) | (rw [if_neg (by decide +kernel)]; exact ⟨rfl, rfl⟩))
    (fun os started H enc _ => lifted os started H enc)
theorem proved : Rows.LeastWaySaid := over
#print axioms proved
end Go.Proofs.Ytjopiefojicblaa.leastWay
