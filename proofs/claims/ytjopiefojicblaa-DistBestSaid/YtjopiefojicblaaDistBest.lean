/- DistBest: each distance is that over the best turn that is not closed; where no turn is one there is none; no walk is shorter. For every input, without a condition. -/
import Derived.Test.YtjopiefojicblaaAwake11
import Derived.Test.YtjopiefojicblaaBase
import Derived.Test.YtjopiefojicblaaStrolls
import Derived.BigQuiet
set_option linter.unusedVariables false
set_option linter.unusedSimpArgs false
namespace Go.Proofs.Ytjopiefojicblaa.distBest
open Go.ChangeShapes Go.WideShapes Go.ChangeAt Go.RowKit HeapP DistP RowP
set_option maxRecDepth 100000 in
set_option maxHeartbeats 4000000 in
theorem walk_out (A : Option Addr) (n k : Nat) (A2 : Option Addr) (n2 k2 : Nat) (a b : Int) (A3 : Option Addr) (n3 k3 : Nat) (s1 : n ≤ 9223372036854775807) (s2 : n2 ≤ 9223372036854775807) (s3 : n3 ≤ 9223372036854775807) (w : World) (h : ¬ (n ≤ 100 ∧ n2 ≤ 40 ∧ n3 ≤ 40)) :
    Calls Try.prog 4 #[.slice A n k, .slice A2 n2 k2, .int .i64 a, .int .i64 b, .slice A3 n3 k3] w fun e w' => e = .returned (.bool true) ∧ Below w.heap.size w w' := by
  by_cases h1 : 100 < n
  · clear h
    go_enter Try.func4, Try.ntmps4
    go_wp2_with (go_at_call 15; refine (awake11 _).mono ?_; rintro e w1 ⟨rfl, hb1⟩)
    go_ret
    exact ⟨rfl, by assumption⟩
  · by_cases h2 : 40 < n2
    · clear h
      go_enter Try.func4, Try.ntmps4
      go_wp2_with (go_at_call 15; refine (awake11 _).mono ?_; rintro e w1 ⟨rfl, hb1⟩)
      go_ret
      exact ⟨rfl, by assumption⟩
    · have h3 : 40 < n3 := by omega
      clear h
      go_enter Try.func4, Try.ntmps4
      go_wp2_with (go_at_call 15; refine (awake11 _).mono ?_; rintro e w1 ⟨rfl, hb1⟩)
      go_ret
      exact ⟨rfl, by assumption⟩
/-- one that goes on and is not closed, from where there is a way -/
def candB (cl : List Bool) (D : Nat → Int) (x : Nat) : Prop := shutB cl x = false ∧ 0 ≤ D x
/-- the best so far of the first k turns -/
def BestN (es : Es) (cl : List Bool) (D : Nat → Int) (src : Prop) (ys : List Nat) (k : Nat) (best : Int) : Prop :=
  (src ∧ best = 0) ∨ (¬ src ∧ best = -1 ∧ ∀ j, j < k → ¬ candB cl D (ys.getD j 0)) ∨
    (¬ src ∧ 0 ≤ best ∧ (∃ j, j < k ∧ candB cl D (ys.getD j 0) ∧ D (ys.getD j 0) + wN es (ys.getD j 0) = best) ∧ ∀ j, j < k → candB cl D (ys.getD j 0) → best ≤ D (ys.getD j 0) + wN es (ys.getD j 0))
theorem bestN_skip {es : Es} {cl : List Bool} {D : Nat → Int} {src : Prop} {ys : List Nat} {k : Nat} {best : Int} (h : BestN es cl D src ys k best)
    (hs : ¬ candB cl D (ys.getD k 0) ∨ (0 ≤ best ∧ best ≤ D (ys.getD k 0) + wN es (ys.getD k 0))) : BestN es cl D src ys (k + 1) best := by
  rcases h with h | ⟨h1, h2, h3⟩ | ⟨h1, h2, ⟨j, j1, j2, j3⟩, h4⟩
  · exact .inl h
  · refine .inr (.inl ⟨h1, h2, fun j hj => ?_⟩)
    by_cases e : j = k
    · subst e; rcases hs with hs | hs
      · exact hs
      · omega
    · exact h3 j (by omega)
  · refine .inr (.inr ⟨h1, h2, ⟨j, by omega, j2, j3⟩, fun j hj hc => ?_⟩)
    by_cases e : j = k
    · subst e; rcases hs with hs | hs
      · exact absurd hc hs
      · exact hs.2
    · exact h4 j (by omega) hc
theorem bestN_take {es : Es} {cl : List Bool} {D : Nat → Int} {src : Prop} {ys : List Nat} {k : Nat} {best : Int} (h : BestN es cl D src ys k best) (hw : 1 ≤ wN es (ys.getD k 0)) (hc : candB cl D (ys.getD k 0))
    (hs : best < 0 ∨ D (ys.getD k 0) + wN es (ys.getD k 0) < best) : BestN es cl D src ys (k + 1) (D (ys.getD k 0) + wN es (ys.getD k 0)) := by
  have h0 := hc.2
  rcases h with ⟨h1, h2⟩ | ⟨h1, h2, h3⟩ | ⟨h1, h2, ⟨j, j1, j2, j3⟩, h4⟩
  · omega
  · refine .inr (.inr ⟨h1, by omega, ⟨k, by omega, hc, rfl⟩, fun j hj hcj => ?_⟩)
    by_cases e : j = k
    · subst e; omega
    · exact absurd hcj (h3 j (by omega))
  · refine .inr (.inr ⟨h1, by omega, ⟨k, by omega, hc, rfl⟩, fun j hj hcj => ?_⟩)
    by_cases e : j = k
    · subst e; omega
    · have := h4 j (by omega) hcj; omega
theorem bestN_bd {es : Es} {cl : List Bool} {D : Nat → Int} {src : Prop} {ys : List Nat} {k : Nat} {best : Int} (h : BestN es cl D src ys k best) (hD : ∀ x, D x ≤ 33553920) (hw : ∀ x, wN es x ≤ 65535) : -1 ≤ best ∧ best ≤ 33619455 := by
  rcases h with ⟨h1, h2⟩ | ⟨h1, h2, h3⟩ | ⟨h1, h2, ⟨j, j1, j2, j3⟩, h4⟩
  · omega
  · omega
  · have := hD (ys.getD j 0); have := hw (ys.getD j 0); omega
theorem bestN_end {ns bs : Bs} {es : Es} (hok : mayB ns es bs = true) {cl : List Bool} {v : Int} {e : Nat} (he : e < es.length) {best : Int} (h : BestN es cl (dl (toD es bs cl v)) (toSrc es v e) (nextN es bs e) (nextN es bs e).length best) : best = dl (toD es bs cl v) e := by
  have hD := (toD_is hok cl v).2
  have hd := hD.d e he
  rcases h with ⟨h1, h2⟩ | ⟨h1, h2, h3⟩ | ⟨h1, h2, ⟨j, j1, j2, j3⟩, h4⟩
  · rw [h2, hD.a e he h1]
  · rcases hd with hd | hd
    · exfalso
      obtain ⟨y, hy, hm, hy0, e2⟩ := hD.b e he h1 hd
      obtain ⟨m1, _, m3⟩ := toSucc_mem.1 hm
      obtain ⟨j, hj, e3⟩ := List.getElem_of_mem (nextN_mem.2 ⟨hy, m3⟩)
      refine h3 j hj ?_
      rw [List.getD_eq_getElem?_getD, List.getElem?_eq_getElem hj, Option.getD_some, e3]
      exact ⟨m1, hy0⟩
    · omega
  · have hmem : (nextN es bs e).getD j 0 ∈ nextN es bs e := by rw [List.getD_eq_getElem?_getD, List.getElem?_eq_getElem j1]; exact List.getElem_mem j1
    obtain ⟨x1, x2⟩ := nextN_mem.1 hmem
    have hc := hD.c _ e x1 (toSucc_mem.2 ⟨j2.1, he, x2⟩) j2.2
    rw [show toW es ((nextN es bs e).getD j 0) e = wN es ((nextN es bs e).getD j 0) from rfl, j3] at hc
    obtain ⟨y, hy, hm, hy0, e2⟩ := hD.b e he h1 hc.1
    obtain ⟨m1, _, m3⟩ := toSucc_mem.1 hm
    obtain ⟨q, hq, e3⟩ := List.getElem_of_mem (nextN_mem.2 ⟨hy, m3⟩)
    have e4 : (nextN es bs e).getD q 0 = y := by rw [List.getD_eq_getElem?_getD, List.getElem?_eq_getElem hq, Option.getD_some, e3]
    have := h4 q hq (by rw [e4]; exact ⟨m1, hy0⟩)
    rw [e4] at this
    have e5 : toW es y e = wN es y := rfl
    omega
/-- along a walk that is open the distance falls no faster than it is heavy -/
theorem stroll_far {ns bs : Bs} {es : Es} (hok : mayB ns es bs = true) {cl : List Bool} {v : Int} : ∀ (l : List Int) {a : Nat}, a < es.length → chainB es bs (a : Int) l = true → (∀ x ∈ l, shutB cl x.toNat = false) → ∀ {z : Nat}, lastI (a : Int) l = (z : Int) → 0 ≤ dl (toD es bs cl v) z →
    0 ≤ dl (toD es bs cl v) a ∧ dl (toD es bs cl v) a ≤ sumW es l + dl (toD es bs cl v) z
  | [], a, ha, _, _, z, hz, h0 => by
    have : a = z := by have h : (a : Int) = (z : Int) := hz; omega
    subst this
    exact ⟨h0, by simp [sumW]⟩
  | b :: l, a, ha, hc, ho, z, hz, h0 => by
    unfold chainB at hc
    rw [Bool.and_eq_true] at hc
    obtain ⟨_, y, _, rfl, _, hy⟩ := turnB_in hc.1
    have ih := stroll_far hok l hy hc.2 (fun x hx => ho x (List.mem_cons_of_mem _ hx)) hz h0
    have hop := ho _ (List.mem_cons_self ..)
    rw [Int.toNat_natCast] at hop
    have := (toD_is hok cl v).2.c y a hy (toSucc_mem.2 ⟨hop, ha, hc.1⟩) ih.1
    have e : toW es y a = (es.getD ((y : Int)).toNat (0, 0, 0)).2.2 := by rw [Int.toNat_natCast]; rfl
    have e2 : sumW es ((y : Int) :: l) = (es.getD ((y : Int)).toNat (0, 0, 0)).2.2 + sumW es l := rfl
    omega
theorem stroll_to {ns bs : Bs} {es : Es} (hok : mayB ns es bs = true) {cl : List Bool} {v : Int} {a : Nat} (ha : a < es.length) {X : List Int} (hw : walkB es bs (a : Int) X = true) {i : Nat} (hi : i < X.length) (ho : ∀ j, j ≤ i → shutB cl (X.getD j 0).toNat = false)
    (hs : toSrc es v (X.getD i 0).toNat) : 0 ≤ dl (toD es bs cl v) a ∧ dl (toD es bs cl v) a ≤ sumW es (X.take (i + 1)) := by
  unfold walkB at hw
  rw [Bool.and_eq_true] at hw
  have hc := chainB_append es bs (a : Int) (X.take (i + 1)) (X.drop (i + 1))
  rw [List.take_append_drop, hw.2] at hc
  have hc1 := ((Bool.and_eq_true _ _).mp hc.symm).1
  have hin := last_in (es := es) (bs := bs) (a := (a : Int)) (l := X.take (i + 1)) hw.1 hc1
  rw [last_step hi] at hin
  have hin2 := hin
  unfold inB at hin2
  simp only [Bool.and_eq_true, decide_eq_true_eq] at hin2
  obtain ⟨z, hz⟩ : ∃ z : Nat, X.getD i 0 = (z : Int) := ⟨(X.getD i 0).toNat, by omega⟩
  rw [hz, Int.toNat_natCast] at hs
  have h0 := (toD_is hok cl v).2.a z (by omega) hs
  have := stroll_far hok (cl := cl) (v := v) (X.take (i + 1)) ha hc1 (fun x hx => by
    obtain ⟨j, hj, rfl⟩ := List.getElem_of_mem hx
    rw [List.length_take] at hj
    have := ho j (by omega)
    rw [List.getD_eq_getElem?_getD, List.getElem?_eq_getElem (by omega), Option.getD_some] at this
    rw [List.getElem_take]; exact this) (z := z) (by rw [last_step hi, hz]) (by omega)
  omega
set_option maxRecDepth 100000 in
set_option maxHeartbeats 16000000 in
theorem walk_ins (A : Option Addr) (n k : Nat) (xs : List Int) (Ah : Option Addr) (n2 k2 : Nat) (sh : List Int) (nI : Int) (hnI : (Lit.int .i64 nI).wf = true) (fI : Int) (hfI : (Lit.int .i64 fI).wf = true) (As : Option Addr) (n3 k3 : Nat) (st : List Int) (w : World) (h : n ≤ 100) (h2 : n2 ≤ 40) (h3 : n3 ≤ 40)
    (hk : ReadsI w A n k xs) (q2 : ReadsI w Ah n2 k2 sh) (q3 : ReadsI w As n3 k3 st) :
    Calls Try.prog 4 #[.slice A n k, .slice Ah n2 k2, .int .i64 nI, .int .i64 fI, .slice As n3 k3] w fun e w' => e = .returned (.bool true) ∧ Below w.heap.size w w' := by
  have HOK := Lib.hid (town_good xs)
  have hmd := made11 hk
  have hE70 := len_townE xs
  obtain ⟨ns, hns⟩ : ∃ ns, ns = townN xs := ⟨_, rfl⟩
  obtain ⟨es, hes⟩ : ∃ es, es = townE xs := ⟨_, rfl⟩
  obtain ⟨bs, hbs⟩ : ∃ bs, bs = townB xs := ⟨_, rfl⟩
  rw [← hes] at hE70
  rw [← hns, ← hes, ← hbs] at HOK hmd
  have HMD := Lib.hid hmd
  obtain ⟨s1, s2, s3, s4⟩ := (mayB_parts HOK.out).2.1
  clear hmd hns hes hbs
  have Q2 := Lib.hid q2
  have Q3 := Lib.hid q3
  obtain ⟨e1, e70⟩ := hE70
  have rb := fun w => round_any hnI (n := (ns.length : Int)) (by omega) (by omega) w
  have j0 := Int.emod_nonneg nI (show (ns.length : Int) ≠ 0 by omega)
  have j1 := Int.emod_lt_of_pos nI (show (0 : Int) < ns.length by omega)
  obtain ⟨v, hv⟩ : ∃ v : Nat, nI % (ns.length : Int) = (v : Int) := ⟨(nI % (ns.length : Int)).toNat, by omega⟩
  rw [hv] at rb j0 j1
  have rf := fun w => round_any hfI (n := (es.length : Int)) (by omega) (by omega) w
  have i0 := Int.emod_nonneg fI (show (es.length : Int) ≠ 0 by omega)
  have i1 := Int.emod_lt_of_pos fI (show (0 : Int) < es.length by omega)
  obtain ⟨a, ha⟩ : ∃ a : Nat, fI % (es.length : Int) = (a : Int) := ⟨(fI % (es.length : Int)).toNat, by omega⟩
  rw [ha] at rf i0 i1
  have RB := Lib.hid rb
  have RF := Lib.hid rf
  have haN : a < es.length := by omega
  clear hk q2 q3 rb rf hv ha hnI hfI
  go_enter Try.func4, Try.ntmps4
  go_wp2_with fail
  refine HMD.out.mono ?_
  rintro e w1 ⟨A1, A2, A3, c1, c2, c3, B, t, p, rfl, hM⟩
  have hbx := bl_alloc (Below.refl w1.heap.size w1) (.cells #[.slice A1 ns.length c1, .slice A2 es.length c2, .slice A3 bs.length c3] 29)
  obtain ⟨v0, hv0⟩ : ∃ v0, v0 = w1.alloc (.cells #[.slice A1 ns.length c1, .slice A2 es.length c2, .slice A3 bs.length c3] 29) := ⟨_, rfl⟩
  have HS : Hid (∀ w', Below v0.heap.size v0 w' → w'.cell? ⟨w1.heap.size, 0, none⟩ = some (.slice A1 ns.length c1) ∧ w'.cell? ⟨w1.heap.size, 1, none⟩ = some (.slice A2 es.length c2) ∧ w'.cell? ⟨w1.heap.size, 2, none⟩ = some (.slice A3 bs.length c3)) := Lib.hid fun w' hb => by subst hv0; exact GR.box hb
  have k0 : (w1.alloc (.cells #[.slice A1 ns.length c1, .slice A2 es.length c2, .slice A3 bs.length c3] 29)).cell? ⟨w1.heap.size, 0, none⟩ = some (.slice A1 ns.length c1) := cell_three_new 0 _ rfl
  have k1 : (w1.alloc (.cells #[.slice A1 ns.length c1, .slice A2 es.length c2, .slice A3 bs.length c3] 29)).cell? ⟨w1.heap.size, 1, none⟩ = some (.slice A2 es.length c2) := cell_three_new 1 _ rfl
  have k2 : (w1.alloc (.cells #[.slice A1 ns.length c1, .slice A2 es.length c2, .slice A3 bs.length c3] 29)).cell? ⟨w1.heap.size, 2, none⟩ = some (.slice A3 bs.length c3) := cell_three_new 2 _ rfl
  rw [← hv0] at hbx
  have HG := Lib.hid (hM.g.below hbx)
  have HT := Lib.hid (hM.t.below hbx)
  have HBW : Hid (Below w.heap.size w v0) := Lib.hid (hM.below.trans (hbx.mono hM.below.size))
  have HV0 := Lib.hid hv0
  have HTE : Hid (w1.heap.size < v0.heap.size) := Lib.hid (by rw [hv0, size_alloc]; omega)
  have HLO : Hid (w.heap.size ≤ B) := Lib.hid hM.lo
  clear hM hbx hv0 HMD
  go_wp2_with fail
  rw [← HV0.out]
  have hsh := shut4_any (A1 := A1) (A2 := A2) (A3 := A3) (w := v0) (N := es.length) (n1 := ns.length) (n3 := bs.length) (c1 := c1) (c2 := c2) (c3 := c3) e1 s3 (Q2.out.below HBW.out) (by omega)
  obtain ⟨cl, hcl⟩ : ∃ cl, cl = shutK es.length sh := ⟨_, rfl⟩
  rw [← hcl] at hsh
  refine hsh.mono ?_
  clear hsh hcl k0 k1 k2
  rintro r vb ⟨gs, rfl, hr, _, hb⟩
  have B0 := Lib.hid hb
  have RC := Lib.hid (hr.reads s3 es.length)
  obtain ⟨l0, l1, l2⟩ := HS.out _ hb
  clear hr hb
  go_wp2_with fail
  refine (RB.out _).mono ?_
  rintro r v6 ⟨rfl, rfl⟩
  have hta := to_at (HT.out.below B0.out) RC.out e1 (v : Int)
  have hea : toT ns es bs cl (v : Int) = toD es bs cl (v : Int) := by unfold toT inB; rw [if_pos (by simp; omega)]
  have hla := (toD_is HOK.out cl (v : Int)).1
  have HDLE : Hid (∀ x, dl (toD es bs cl (v : Int)) x ≤ 33553920) := Lib.hid fun x => (dl_bd (toD_bd HOK.out cl (v : Int)) x).2
  have HWLE : Hid (∀ x, wN es x ≤ 65535) := Lib.hid fun x => (wN_bd HOK.out x).2.1
  rw [hea, hla] at hta
  have HXL := Lib.hid hla
  have HTA := Lib.hid hta
  clear hta hea hla
  go_wp2_with fail
  refine HTA.out.mono ?_
  rintro r v7 ⟨AX, cX, rfl, hr, hb⟩
  have hrX := hr.1
  rw [HXL.out] at hrX
  have HRX7 := Lib.hid hrX
  have B7 := Lib.hid (bl_then B0.out hb)
  have RC7 := Lib.hid (RC.out.below hb)
  clear hr hb hrX l0 l1 l2
  obtain ⟨l0, l1, l2⟩ := HS.out _ B7.out
  go_wp2_with fail
  go_loopg [16] es.length (fun M u wr => ∃ e : Nat, M = es.length - e ∧ e ≤ es.length ∧ u = .int .i64 (e : Nat) ∧ Below v7.heap.size v7 wr)
  case atStart => exact ⟨0, rfl, Nat.zero_le _, rfl, Below.refl _ _⟩
  case round =>
    obtain ⟨e, hM2, he, rfl, hb2⟩ := hrel
    have HM2 := Lib.hid hM2
    have HB2 := Lib.hid hb2
    clear l0 l1 l2
    obtain ⟨l0, l1, l2⟩ := HS.out _ (bl_then B7.out hb2)
    clear hM2 hb2
    by_cases hlt : e < es.length
    · have HSV : Hid (∀ w', Below v7.heap.size v7 w' → w'.cell? ⟨w1.heap.size, 0, none⟩ = some (.slice A1 ns.length c1) ∧ w'.cell? ⟨w1.heap.size, 1, none⟩ = some (.slice A2 es.length c2) ∧ w'.cell? ⟨w1.heap.size, 2, none⟩ = some (.slice A3 bs.length c3)) := Lib.hid fun w' h => HS.out w' (bl_then B7.out h)
      have HGV := Lib.hid (HG.out.below B7.out)
      have RCV := RC7
      have HRX := HRX7
      have HBX := HB2
      have HEN := Lib.hid hlt
      have hnx := fun (w' : World) (hb : Below v7.heap.size v7 w') => next4_any (HGV.out.below hb) s3 (e : Int)
      rw [nextT_eq] at hnx
      rw [List.length_map] at hnx
      have hnl : (nextN es bs e).length ≤ 512 := by unfold nextN; exact Nat.le_trans (List.length_filter_le _ _) (by simpa using s3)
      have HNX := Lib.hid hnx
      obtain ⟨bE0, oE0, rfl, hcE0⟩ := (HGV.out.below HB2.out).rE.cell (by omega)
      obtain ⟨_, dE0, _⟩ := hcE0 e hlt
      have e0 : (0 : Int) ≤ (e : Int) := by omega
      have e2 : (e : Int) < (es.length : Int) := by omega
      have hdef : toSrc es (v : Int) e ↔ (es.getD e (0, 0, 0)).2.1 = (v : Int) := Iff.rfl
      obtain ⟨tw, htw⟩ : ∃ tw, tw = (es.getD e (0, 0, 0)).2.1 := ⟨_, rfl⟩
      rw [← htw] at dE0 hdef
      have HDF := Lib.hid hdef
      clear hnx hcE0 htw hdef
      by_cases ht : tw = (v : Int)
      · have hte : (tw == (v : Int)) = true := by simp [ht]
        have HST0 : Hid (BestN es cl (dl (toD es bs cl (v : Int))) (toSrc es (v : Int) e) (nextN es bs e) 0 0) := Lib.hid (.inl ⟨HDF.out.2 ht, rfl⟩)
        clear ht
        go_wp2_with fail
        refine (HNX.out _ HBX.out).mono ?_
        rintro r wn ⟨AN, cN, rfl, hrn, _, hbn⟩
        have HRN := Lib.hid hrn
        have HBN := Lib.hid (bl_then HBX.out hbn)
        clear hrn hbn l0 l1 l2
        go_wp2_with fail
        go_loopg [19, 17] (nextN es bs e).length (fun M u z wr => ∃ (k : Nat) (best : Int), M = (nextN es bs e).length - k ∧ k ≤ (nextN es bs e).length ∧ u = .int .i64 (k : Nat) ∧ z = .int .i64 best ∧ BestN es cl (dl (toD es bs cl (v : Int))) (toSrc es (v : Int) e) (nextN es bs e) k best ∧ Below wn.heap.size wn wr)
        case atStart => exact ⟨0, 0, rfl, Nat.zero_le _, rfl, rfl, HST0.out, Below.refl _ _⟩
        case round =>
          obtain ⟨k, best, hM3, hk, rfl, rfl, hbest, hb3⟩ := hrel
          have HM3 := Lib.hid hM3
          have HBE := Lib.hid hbest
          have HB3 := Lib.hid hb3
          obtain ⟨l0, l1, l2⟩ := HSV.out _ (bl_then HBN.out hb3)
          have hbb := bestN_bd hbest HDLE.out HWLE.out
          clear hM3 hb3 hbest
          by_cases hkl : k < (nextN es bs e).length
          · obtain ⟨bN, oN, rfl, hcN⟩ := (HRN.out.below HB3.out).cell (by omega)
            have dN := hcN k hkl
            rw [map_cast_getD hkl] at dN
            have hmem : (nextN es bs e).getD k 0 ∈ nextN es bs e := by rw [List.getD_eq_getElem?_getD, List.getElem?_eq_getElem hkl]; exact List.getElem_mem hkl
            obtain ⟨hyl, hyt⟩ := nextN_mem.1 hmem
            have hsk := fun h1 => bestN_skip (k := k) HBE.out h1
            have hwy := wN_bd HOK.out ((nextN es bs e).getD k 0)
            have htk := fun h1 h2 => bestN_take (k := k) HBE.out (hwy.2.2 hyl) h1 h2
            obtain ⟨bX, oX, rfl, hcX⟩ := (HRX.out.below (bl_then HBN.out HB3.out)).cell (by omega)
            obtain ⟨bC, oC, hbC, hcC⟩ := (RCV.out.below (bl_then HBN.out HB3.out)).cell (by omega)
            injection hbC with hbC
            injection hbC with hbC1 hbC2 _
            subst hbC1 hbC2
            obtain ⟨bE, oE, hbE, hcE⟩ := (HGV.out.below (bl_then HBN.out HB3.out)).rE.cell (by omega)
            injection hbE with hbE
            injection hbE with hbE1 hbE2 _
            subst hbE1 hbE2
            obtain ⟨y, hy⟩ : ∃ y, y = (nextN es bs e).getD k 0 := ⟨_, rfl⟩
            rw [← hy] at dN hyl hsk htk hwy
            have dX := hcX y hyl
            rw [dl_get (by rw [HXL.out]; exact hyl)] at dX
            have dC := hcC y hyl
            obtain ⟨_, _, dE⟩ := hcE y hyl
            have hdle := HDLE.out y
            have hdd := dl_d HOK.out cl (v : Int) hyl
            have hcand : candB cl (dl (toD es bs cl (v : Int))) y ↔ shutB cl y = false ∧ 0 ≤ dl (toD es bs cl (v : Int)) y := Iff.rfl
            rw [show (es.getD y (0, 0, 0)).2.2 = wN es y from rfl] at dE
            rw [show cl.getD y false = shutB cl y from rfl, Nat.zero_add] at dC
            obtain ⟨dy, hdy⟩ : ∃ dy, dy = dl (toD es bs cl (v : Int)) y := ⟨_, rfl⟩
            obtain ⟨wy, hwy2⟩ : ∃ wy, wy = wN es y := ⟨_, rfl⟩
            rw [← hdy] at dX hdle hdd hcand hsk htk
            rw [← hwy2] at dE hwy hsk htk
            have hsum : IntKind.i64.wrap (dy + wy) = dy + wy := IntWalk.i64_in _ (by omega)
            have HSKP := Lib.hid hsk
            have HTAK := Lib.hid htk
            have HCD := Lib.hid hcand
            have y0 : (0 : Int) ≤ (y : Int) := by omega
            have y1 : (y : Int) < (es.length : Int) := by omega
            have k0 : (0 : Int) ≤ (k : Int) := by omega
            have k1 : (k : Int) < ((nextN es bs e).length : Int) := by omega
            have HNL := Lib.hid hnl
            clear hcN hmem hyt hsk htk hcX hcC hcE hy hdy hwy2 hcand hwy hdle
            cases hsh : shutB cl y with
            | true =>
              rw [hsh] at dC
              have HSK := Lib.hid (HSKP.out (.inl fun hh => by have := (HCD.out.1 hh).1; rw [hsh] at this; cases this))
              clear hsh
              go_wp2_with fail
              go_quiet (fail)
              go_wp2_with fail
              go_roundg ((nextN es bs e).length - (k + 1))
              case measure => have := HM3.out; omega
              case rel => exact ⟨k + 1, best, rfl, by omega, by go_num, rfl, HSK.out, bl_drewN HB3.out _⟩
            | false =>
              rw [hsh] at dC
              by_cases hd0 : 0 ≤ dy
              · have hdb : decide (0 ≤ dy) = true := decide_eq_true hd0
                have hcd := HCD.out.2 ⟨hsh, hd0⟩
                by_cases hb0 : best < 0
                · have hbd : decide (best < 0) = true := decide_eq_true hb0
                  have HNW := Lib.hid (HTAK.out hcd (.inl hb0))
                  clear hsh hcd
                  go_wp2_with fail
                  go_quiet (fail)
                  go_wp2_with fail
                  go_quiet (fail)
                  go_wp2_with fail
                  go_roundg ((nextN es bs e).length - (k + 1))
                  case measure => have := HM3.out; omega
                  case rel => exact ⟨k + 1, dy + wy, rfl, by omega, by go_num, rfl, HNW.out, bl_drewN HB3.out _⟩
                · have hbd : decide (best < 0) = false := decide_eq_false hb0
                  by_cases hs0 : dy + wy < best
                  · have hsd : decide (dy + wy < best) = true := decide_eq_true hs0
                    have HNW := Lib.hid (HTAK.out hcd (.inr hs0))
                    clear hsh hcd
                    go_wp2_with fail
                    go_quiet (fail)
                    go_wp2_with fail
                    go_quiet (fail)
                    go_wp2_with fail
                    go_roundg ((nextN es bs e).length - (k + 1))
                    case measure => have := HM3.out; omega
                    case rel => exact ⟨k + 1, dy + wy, rfl, by omega, by go_num, rfl, HNW.out, bl_drewN HB3.out _⟩
                  · have hsd : decide (dy + wy < best) = false := decide_eq_false hs0
                    have HSK := Lib.hid (HSKP.out (.inr ⟨by omega, by omega⟩))
                    clear hsh hcd
                    go_wp2_with fail
                    go_quiet (fail)
                    go_wp2_with fail
                    go_roundg ((nextN es bs e).length - (k + 1))
                    case measure => have := HM3.out; omega
                    case rel => exact ⟨k + 1, best, rfl, by omega, by go_num, rfl, HSK.out, bl_drewN HB3.out _⟩
              · have hdb : decide (0 ≤ dy) = false := decide_eq_false hd0
                have HSK := Lib.hid (HSKP.out (.inl fun hh => hd0 (HCD.out.1 hh).2))
                clear hsh
                go_wp2_with fail
                go_quiet (fail)
                go_wp2_with fail
                go_roundg ((nextN es bs e).length - (k + 1))
                case measure => have := HM3.out; omega
                case rel => exact ⟨k + 1, best, rfl, by omega, by go_num, rfl, HSK.out, bl_drewN HB3.out _⟩
          · obtain rfl : k = (nextN es bs e).length := by omega
            have hbe := bestN_end HOK.out HEN.out HBE.out
            obtain ⟨bX, oX, rfl, hcX⟩ := (HRX.out.below (bl_then HBN.out HB3.out)).cell (by omega)
            have dX := hcX e HEN.out
            rw [dl_get (by rw [HXL.out]; exact HEN.out), ← hbe] at dX
            clear hbe hcX hkl hk
            go_wp2_with fail
            go_roundg (es.length - (e + 1))
            case measure => have := HM2.out; omega
            case rel => exact ⟨e + 1, rfl, by omega, by go_num, bl_then HBN.out HB3.out⟩
      · have hte : (tw == (v : Int)) = false := beq_false_of_ne ht
        have HST0 : Hid (BestN es cl (dl (toD es bs cl (v : Int))) (toSrc es (v : Int) e) (nextN es bs e) 0 (-1)) := Lib.hid (.inr (.inl ⟨fun hh => ht (HDF.out.1 hh), rfl, fun j hj => by omega⟩))
        clear ht
        go_wp2_with fail
        refine (HNX.out _ HBX.out).mono ?_
        rintro r wn ⟨AN, cN, rfl, hrn, _, hbn⟩
        have HRN := Lib.hid hrn
        have HBN := Lib.hid (bl_then HBX.out hbn)
        clear hrn hbn l0 l1 l2
        go_wp2_with fail
        go_loopg [19, 17] (nextN es bs e).length (fun M u z wr => ∃ (k : Nat) (best : Int), M = (nextN es bs e).length - k ∧ k ≤ (nextN es bs e).length ∧ u = .int .i64 (k : Nat) ∧ z = .int .i64 best ∧ BestN es cl (dl (toD es bs cl (v : Int))) (toSrc es (v : Int) e) (nextN es bs e) k best ∧ Below wn.heap.size wn wr)
        case atStart => exact ⟨0, (-1), rfl, Nat.zero_le _, rfl, rfl, HST0.out, Below.refl _ _⟩
        case round =>
          obtain ⟨k, best, hM3, hk, rfl, rfl, hbest, hb3⟩ := hrel
          have HM3 := Lib.hid hM3
          have HBE := Lib.hid hbest
          have HB3 := Lib.hid hb3
          obtain ⟨l0, l1, l2⟩ := HSV.out _ (bl_then HBN.out hb3)
          have hbb := bestN_bd hbest HDLE.out HWLE.out
          clear hM3 hb3 hbest
          by_cases hkl : k < (nextN es bs e).length
          · obtain ⟨bN, oN, rfl, hcN⟩ := (HRN.out.below HB3.out).cell (by omega)
            have dN := hcN k hkl
            rw [map_cast_getD hkl] at dN
            have hmem : (nextN es bs e).getD k 0 ∈ nextN es bs e := by rw [List.getD_eq_getElem?_getD, List.getElem?_eq_getElem hkl]; exact List.getElem_mem hkl
            obtain ⟨hyl, hyt⟩ := nextN_mem.1 hmem
            have hsk := fun h1 => bestN_skip (k := k) HBE.out h1
            have hwy := wN_bd HOK.out ((nextN es bs e).getD k 0)
            have htk := fun h1 h2 => bestN_take (k := k) HBE.out (hwy.2.2 hyl) h1 h2
            obtain ⟨bX, oX, rfl, hcX⟩ := (HRX.out.below (bl_then HBN.out HB3.out)).cell (by omega)
            obtain ⟨bC, oC, hbC, hcC⟩ := (RCV.out.below (bl_then HBN.out HB3.out)).cell (by omega)
            injection hbC with hbC
            injection hbC with hbC1 hbC2 _
            subst hbC1 hbC2
            obtain ⟨bE, oE, hbE, hcE⟩ := (HGV.out.below (bl_then HBN.out HB3.out)).rE.cell (by omega)
            injection hbE with hbE
            injection hbE with hbE1 hbE2 _
            subst hbE1 hbE2
            obtain ⟨y, hy⟩ : ∃ y, y = (nextN es bs e).getD k 0 := ⟨_, rfl⟩
            rw [← hy] at dN hyl hsk htk hwy
            have dX := hcX y hyl
            rw [dl_get (by rw [HXL.out]; exact hyl)] at dX
            have dC := hcC y hyl
            obtain ⟨_, _, dE⟩ := hcE y hyl
            have hdle := HDLE.out y
            have hdd := dl_d HOK.out cl (v : Int) hyl
            have hcand : candB cl (dl (toD es bs cl (v : Int))) y ↔ shutB cl y = false ∧ 0 ≤ dl (toD es bs cl (v : Int)) y := Iff.rfl
            rw [show (es.getD y (0, 0, 0)).2.2 = wN es y from rfl] at dE
            rw [show cl.getD y false = shutB cl y from rfl, Nat.zero_add] at dC
            obtain ⟨dy, hdy⟩ : ∃ dy, dy = dl (toD es bs cl (v : Int)) y := ⟨_, rfl⟩
            obtain ⟨wy, hwy2⟩ : ∃ wy, wy = wN es y := ⟨_, rfl⟩
            rw [← hdy] at dX hdle hdd hcand hsk htk
            rw [← hwy2] at dE hwy hsk htk
            have hsum : IntKind.i64.wrap (dy + wy) = dy + wy := IntWalk.i64_in _ (by omega)
            have HSKP := Lib.hid hsk
            have HTAK := Lib.hid htk
            have HCD := Lib.hid hcand
            have y0 : (0 : Int) ≤ (y : Int) := by omega
            have y1 : (y : Int) < (es.length : Int) := by omega
            have k0 : (0 : Int) ≤ (k : Int) := by omega
            have k1 : (k : Int) < ((nextN es bs e).length : Int) := by omega
            have HNL := Lib.hid hnl
            clear hcN hmem hyt hsk htk hcX hcC hcE hy hdy hwy2 hcand hwy hdle
            cases hsh : shutB cl y with
            | true =>
              rw [hsh] at dC
              have HSK := Lib.hid (HSKP.out (.inl fun hh => by have := (HCD.out.1 hh).1; rw [hsh] at this; cases this))
              clear hsh
              go_wp2_with fail
              go_quiet (fail)
              go_wp2_with fail
              go_roundg ((nextN es bs e).length - (k + 1))
              case measure => have := HM3.out; omega
              case rel => exact ⟨k + 1, best, rfl, by omega, by go_num, rfl, HSK.out, bl_drewN HB3.out _⟩
            | false =>
              rw [hsh] at dC
              by_cases hd0 : 0 ≤ dy
              · have hdb : decide (0 ≤ dy) = true := decide_eq_true hd0
                have hcd := HCD.out.2 ⟨hsh, hd0⟩
                by_cases hb0 : best < 0
                · have hbd : decide (best < 0) = true := decide_eq_true hb0
                  have HNW := Lib.hid (HTAK.out hcd (.inl hb0))
                  clear hsh hcd
                  go_wp2_with fail
                  go_quiet (fail)
                  go_wp2_with fail
                  go_quiet (fail)
                  go_wp2_with fail
                  go_roundg ((nextN es bs e).length - (k + 1))
                  case measure => have := HM3.out; omega
                  case rel => exact ⟨k + 1, dy + wy, rfl, by omega, by go_num, rfl, HNW.out, bl_drewN HB3.out _⟩
                · have hbd : decide (best < 0) = false := decide_eq_false hb0
                  by_cases hs0 : dy + wy < best
                  · have hsd : decide (dy + wy < best) = true := decide_eq_true hs0
                    have HNW := Lib.hid (HTAK.out hcd (.inr hs0))
                    clear hsh hcd
                    go_wp2_with fail
                    go_quiet (fail)
                    go_wp2_with fail
                    go_quiet (fail)
                    go_wp2_with fail
                    go_roundg ((nextN es bs e).length - (k + 1))
                    case measure => have := HM3.out; omega
                    case rel => exact ⟨k + 1, dy + wy, rfl, by omega, by go_num, rfl, HNW.out, bl_drewN HB3.out _⟩
                  · have hsd : decide (dy + wy < best) = false := decide_eq_false hs0
                    have HSK := Lib.hid (HSKP.out (.inr ⟨by omega, by omega⟩))
                    clear hsh hcd
                    go_wp2_with fail
                    go_quiet (fail)
                    go_wp2_with fail
                    go_roundg ((nextN es bs e).length - (k + 1))
                    case measure => have := HM3.out; omega
                    case rel => exact ⟨k + 1, best, rfl, by omega, by go_num, rfl, HSK.out, bl_drewN HB3.out _⟩
              · have hdb : decide (0 ≤ dy) = false := decide_eq_false hd0
                have HSK := Lib.hid (HSKP.out (.inl fun hh => hd0 (HCD.out.1 hh).2))
                clear hsh
                go_wp2_with fail
                go_quiet (fail)
                go_wp2_with fail
                go_roundg ((nextN es bs e).length - (k + 1))
                case measure => have := HM3.out; omega
                case rel => exact ⟨k + 1, best, rfl, by omega, by go_num, rfl, HSK.out, bl_drewN HB3.out _⟩
          · obtain rfl : k = (nextN es bs e).length := by omega
            have hbe := bestN_end HOK.out HEN.out HBE.out
            obtain ⟨bX, oX, rfl, hcX⟩ := (HRX.out.below (bl_then HBN.out HB3.out)).cell (by omega)
            have dX := hcX e HEN.out
            rw [dl_get (by rw [HXL.out]; exact HEN.out), ← hbe] at dX
            clear hbe hcX hkl hk
            go_wp2_with fail
            go_roundg (es.length - (e + 1))
            case measure => have := HM2.out; omega
            case rel => exact ⟨e + 1, rfl, by omega, by go_num, bl_then HBN.out HB3.out⟩
    · obtain rfl : e = es.length := by omega
      have hst := stroll_any (HG.out.below (bl_then B7.out HB2.out)) s3 (a : Int) ((Q3.out.below HBW.out).below (bl_then B7.out HB2.out)) (by omega)
      have hwk : walkB es bs (a : Int) (strollT es bs (a : Int) st) = true := by unfold walkB; rw [stroll_chain]; unfold inB; simp; omega
      have hXl := stroll_len es bs (a : Int) st
      have hsl := Q3.out.len
      obtain ⟨X, hX⟩ : ∃ X, X = strollT es bs (a : Int) st := ⟨_, rfl⟩
      rw [← hX] at hst hXl hwk
      have HST := Lib.hid hst
      have HXX := Lib.hid (show X.length ≤ 40 by omega)
      have HWK := Lib.hid hwk
      clear hst hX hXl hsl hwk hlt he
      go_wp2_with fail
      refine (RF.out _).mono ?_
      rintro r v8 ⟨rfl, rfl⟩
      go_wp2_with fail
      refine HST.out.mono ?_
      rintro r vs ⟨AS, cS, rfl, hr, _, hb, _⟩
      have BS := Lib.hid (bl_then HB2.out hb)
      have HRS := Lib.hid hr
      have hx40 := HXX.out
      have HAN := Lib.hid haN
      clear hr hb l0 l1 l2
      go_wp2_with fail
      go_loopg [23, 22] X.length (fun M u z wr => ∃ i : Nat, M = X.length - i ∧ i ≤ X.length ∧ u = .int .i64 (i : Nat) ∧ z = .int .i64 (sumW es (X.take i)) ∧ (∀ j, j < i → shutB cl (X.getD j 0).toNat = false) ∧ Below vs.heap.size vs wr)
      case atStart => exact ⟨0, rfl, Nat.zero_le _, rfl, rfl, fun j hj => by omega, Below.refl _ _⟩
      case round =>
        obtain ⟨i, hM3, hi, rfl, rfl, hop, hb3⟩ := hrel
        have HM3 := Lib.hid hM3
        have HOP := Lib.hid hop
        have HB3 := Lib.hid hb3
        obtain ⟨l0, l1, l2⟩ := HS.out _ (bl_then B7.out (bl_then BS.out hb3))
        clear hM3 hop hb3
        by_cases hil : i < X.length
        · obtain ⟨bS, oS, rfl, hcS⟩ := (HRS.out.below HB3.out).cell (by omega)
          have dS := hcS i hil
          have hwm : inB 0 (X.getD i 0) ((es.length : Int) - 1) = true := by
            have h1 := HWK.out
            unfold walkB at h1
            rw [Bool.and_eq_true] at h1
            have h2 := chain_ok h1.2
            unfold okE at h2
            exact List.all_eq_true.1 h2 _ (getD_memI hil)
          obtain ⟨y, hy, hyl⟩ : ∃ y : Nat, X.getD i 0 = (y : Int) ∧ y < es.length := by
            unfold inB at hwm
            simp only [Bool.and_eq_true, decide_eq_true_eq] at hwm
            exact ⟨(X.getD i 0).toNat, by omega, by omega⟩
          rw [hy] at dS
          have hbd := sum_bd HOK.out (X.take i)
          rw [List.length_take_of_le (by omega)] at hbd
          have hss := sum_step (es := es) hil
          rw [hy, Int.toNat_natCast] at hss
          have hto := fun h1 h2 => stroll_to HOK.out (cl := cl) (v := (v : Int)) HAN.out HWK.out hil h1 h2
          rw [hy, Int.toNat_natCast] at hto
          obtain ⟨bX, oX, rfl, hcX⟩ := (HRX7.out.below (bl_then BS.out HB3.out)).cell (by omega)
          obtain ⟨bC, oC, hbC, hcC⟩ := (RC7.out.below (bl_then BS.out HB3.out)).cell (by omega)
          injection hbC with hbC
          injection hbC with hbC1 hbC2 _
          subst hbC1 hbC2
          obtain ⟨bE, oE, rfl, hcE⟩ := (HG.out.below (bl_then B7.out (bl_then BS.out HB3.out))).rE.cell (by omega)
          have dX := hcX a HAN.out
          rw [dl_get (by rw [HXL.out]; exact HAN.out)] at dX
          have dC := hcC y hyl
          rw [show cl.getD y false = shutB cl y from rfl, Nat.zero_add] at dC
          obtain ⟨_, dT, dE⟩ := hcE y hyl
          have hwy := w_bd HOK.out y
          have hdef : toSrc es (v : Int) y ↔ (es.getD y (0, 0, 0)).2.1 = (v : Int) := Iff.rfl
          obtain ⟨S, hS⟩ : ∃ S, S = sumW es (X.take i) := ⟨_, rfl⟩
          obtain ⟨D, hD⟩ : ∃ D, D = dl (toD es bs cl (v : Int)) a := ⟨_, rfl⟩
          obtain ⟨gg, hgg⟩ : ∃ gg, gg = es.getD y (0, 0, 0) := ⟨_, rfl⟩
          rw [← hgg] at dT dE hss hwy hdef
          obtain ⟨g0, tw, wy⟩ := gg
          dsimp only at dT dE hss hwy hdef
          rw [← hS] at hbd hss ⊢
          rw [← hD] at dX hto
          have hsum : IntKind.i64.wrap (S + wy) = S + wy := IntWalk.i64_in _ (by omega)
          rw [hss] at hto
          have HTO := Lib.hid hto
          have HSS := Lib.hid hss
          have HDF := Lib.hid hdef
          have HYE := Lib.hid hy
          have y0 : (0 : Int) ≤ (y : Int) := by omega
          have y1 : (y : Int) < (es.length : Int) := by omega
          have i0' : (0 : Int) ≤ (i : Int) := by omega
          have i1' : (i : Int) < (X.length : Int) := by omega
          clear hcS hwm hy hss hto hcX hcC hcE hdef hS hD hgg hbd hwy
          cases hsh : shutB cl y with
          | true =>
            rw [hsh] at dC
            clear hsh
            go_wp2_with (go_at_call 15; refine (awake11 _).mono ?_; rintro e w6 ⟨rfl, hb6⟩)
            go_ret
            exact ⟨rfl, HBW.out.trans ((bl_then B7.out (bl_then BS.out (bl_then HB3.out hb6))).mono HBW.out.size)⟩
          | false =>
            rw [hsh] at dC
            have HOP2 : Hid (∀ j, j < i + 1 → shutB cl (X.getD j 0).toNat = false) := Lib.hid fun j hj => by
              by_cases e : j = i
              · subst e; rw [HYE.out, Int.toNat_natCast]; exact hsh
              · exact HOP.out j (by omega)
            clear hsh
            by_cases ht : tw = (v : Int)
            · have hte : (tw == (v : Int)) = true := by simp [ht]
              obtain ⟨t1, t2⟩ := HTO.out (fun j hj => HOP2.out j (by omega)) (HDF.out.2 ht)
              have hd1 : decide (D < 0) = false := decide_eq_false (by omega)
              have hd2 : decide (S + wy < D) = false := decide_eq_false (by omega)
              clear ht t1 t2
              go_wp2_with fail
              go_quiet (fail)
              go_wp2_with fail
              go_quiet (fail)
              go_wp2_with fail
              go_roundg (X.length - (i + 1))
              case measure => have := HM3.out; omega
              case rel => exact ⟨i + 1, rfl, by omega, by go_num, by rw [HSS.out], HOP2.out, bl_drewN HB3.out _⟩
            · have hte : (tw == (v : Int)) = false := beq_false_of_ne ht
              clear ht
              go_wp2_with fail
              go_quiet (fail)
              go_wp2_with fail
              go_quiet (fail)
              go_wp2_with fail
              go_roundg (X.length - (i + 1))
              case measure => have := HM3.out; omega
              case rel => exact ⟨i + 1, rfl, by omega, by go_num, by rw [HSS.out], HOP2.out, bl_drewN HB3.out _⟩
        · obtain rfl : i = X.length := by omega
          go_wp2_with (go_at_call 15; refine (awake11 _).mono ?_; rintro e w6 ⟨rfl, hb6⟩)
          go_ret
          exact ⟨rfl, HBW.out.trans ((bl_then B7.out (bl_then BS.out (bl_then HB3.out hb6))).mono HBW.out.size)⟩
theorem walk {W : World} (A : Option Addr) (n k : Nat) (xs : List Int) (hk : ReadsI W A n k xs) (A2 : Option Addr) (n2 k2 : Nat) (x2 : List Int) (q2 : ReadsI W A2 n2 k2 x2) (a : Int) (h5 : (Lit.int .i64 a).wf = true) (b : Int) (h6 : (Lit.int .i64 b).wf = true) (A3 : Option Addr) (n3 k3 : Nat) (x3 : List Int) (q3 : ReadsI W A3 n3 k3 x3) :
    Calls Try.prog 4 #[.slice A n k, .slice A2 n2 k2, .int .i64 a, .int .i64 b, .slice A3 n3 k3] W fun e w' => e = .returned (.bool true) ∧ Below W.heap.size W w' := by
  have s1 := hk.small
  have s2 := q2.small
  have s3 := q3.small
  unfold maxLen at s1 s2 s3
  by_cases h : n ≤ 100 ∧ n2 ≤ 40 ∧ n3 ≤ 40
  · exact walk_ins A n k xs A2 n2 k2 x2 a h5 b h6 A3 n3 k3 x3 W h.1 h.2.1 h.2.2 hk q2 q3
  · exact walk_out A n k A2 n2 k2 a b A3 n3 k3 (by omega) (by omega) (by omega) W h
set_option maxRecDepth 100000 in
theorem lifted (os : Os) (started : os.Started) (H : Type) (enc : TypeId × Value → H) :
    ReturnsInHanded {} Try.checked os 4 .any (Rows.distBestSpec.pre6 enc Try.prog Try.f4 Rows.distBestRow.domain false) (Rows.distBestSpec.post enc Try.prog Try.f4 false true false false) := by
  refine returnsInHanded_of_change (C := Try.checked) own started (by kernel_rfl) Try.func4
    (ChangeSpec.witness6 (enc := enc) (C := Try.checked) false ⟨#[], #[.slice none 0 0, .slice none 0 0, .int .i64 0, .int .i64 0, .slice none 0 0], []⟩ 8 (by kernel_rfl) (by kernel_rfl) (by kernel_rfl) (by kernel_rfl)) ?_
  intro W base args ds gs before hval0 hW hcnd _
  have hval : ∀ (j : Nat) t v, Try.f4.params[j]? = some t → args[j]? = some v → Value.okWide Try.prog W .any base t v := hval0
  have hW' := hW
  obtain ⟨p, q, hA0, hV, rfl, hfz, hnd⟩ := hW
  have hA : DataW.TrodAll enc Try.prog W 0 (fun _ => true) true Try.f4.params.toList args.toList ds p := hA0
  rw [Try.params4] at hA hval
  obtain ⟨v0, vs0, d0, ds0, p0, q0, hargs, rfl, rfl, h0, r0⟩ := trodAll_cons hA
  obtain ⟨v1, vs1, d1, ds1, p1, q1, rfl, rfl, rfl, h1, r1⟩ := trodAll_cons r0
  obtain ⟨v2, vs2, d2, ds2, p2, q2, rfl, rfl, rfl, h2, r2⟩ := trodAll_cons r1
  obtain ⟨v3, vs3, d3, ds3, p3, q3, rfl, rfl, rfl, h3, r3⟩ := trodAll_cons r2
  obtain ⟨v4, vs4, d4, ds4, p4, q4, rfl, rfl, rfl, h4, r4⟩ := trodAll_cons r3
  obtain ⟨rfl, rfl, rfl⟩ := trodAll_nil r4
  obtain rfl : args = #[v0, v1, v2, v3, v4] := by cases args; simp_all
  obtain ⟨rfl, rfl⟩ := trodVars_none hV
  obtain ⟨a0, n0, c0, xs0, rfl, k0⟩ := open_reads (hval 0 22 v0 rfl rfl) h0
  obtain ⟨a1, n1, c1, xs1, rfl, k1⟩ := open_reads (hval 1 22 v1 rfl rfl) h1
  obtain ⟨a2, rfl, rfl, rfl, w2⟩ := open_int Try.underlying3 (hval 2 3 v2 rfl rfl) h2
  obtain ⟨a3, rfl, rfl, rfl, w3⟩ := open_int Try.underlying3 (hval 3 3 v3 rfl rfl) h3
  obtain ⟨a4, n4, c4, xs4, rfl, k4⟩ := open_reads (hval 4 22 v4 rfl rfl) h4
  refine (walk a0 n0 c0 xs0 k0 a1 n1 c1 xs1 k1 a2 w2 a3 w3 a4 n4 c4 xs4 k4).mono fun e W' ⟨he, hb⟩ => ?_
  subst he
  exact ⟨_, rfl, post_law hW' hb rfl rfl rfl rfl rfl (by rw [Try.params4]; exact readable_all (by kernel_rfl))⟩
theorem over : Rows.distBestRow.holds Try.pinned (OpenSpec.ofChange Rows.distBestSpec) :=
  OpenClaim.holds_of_wide 4 Try.f4 rfl rfl rfl rfl rfl rfl rfl ⟨rfl, rfl, rfl, rfl, rfl⟩ rfl rfl rfl rfl rfl (by kernel_rfl) Try.func4 (by kernel_rfl)
    (of_decide_eq_true (by kernel_rfl)) (by unfold Func.isWrapper; first | (rw [if_pos (by decide +kernel)]; kernel_rfl) | (rw [if_neg (by decide +kernel)]; exact ⟨rfl, rfl⟩))
    (fun os started H enc _ => lifted os started H enc)
theorem proved : Rows.DistBestSaid := over
#print axioms proved
end Go.Proofs.Ytjopiefojicblaa.distBest
