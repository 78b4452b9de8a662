/- DistMore: with more closed nothing is nearer; an edge itself may be closed. For every input, without a condition. -/
import Derived.Test.YtjopiefojicblaaAwake11
import Derived.Test.YtjopiefojicblaaOuts
import Derived.Test.YtjopiefojicblaaBase
import Derived.BigQuiet
set_option linter.unusedVariables false
set_option linter.unusedSimpArgs false
namespace Go.Proofs.Ytjopiefojicblaa.distMore
open Go.ChangeShapes Go.WideShapes Go.ChangeAt Go.RowKit HeapP DistP RowP
set_option maxRecDepth 100000 in
set_option maxHeartbeats 4000000 in
theorem walk_out (A : Option Addr) (n k : Nat) (A2 : Option Addr) (n2 k2 : Nat) (A3 : Option Addr) (n3 k3 : Nat) (a : Int) (s1 : n ≤ 9223372036854775807) (s2 : n2 ≤ 9223372036854775807) (s3 : n3 ≤ 9223372036854775807) (w : World) (h : ¬ (n ≤ 100 ∧ n2 ≤ 40 ∧ n3 ≤ 40)) :
    Calls Try.prog 5 #[.slice A n k, .slice A2 n2 k2, .slice A3 n3 k3, .int .i64 a] w fun e w' => e = .returned (.bool true) ∧ Below w.heap.size w w' := by
  by_cases h1 : 100 < n
  · clear h
    go_enter Try.func5, Try.ntmps5
    go_wp2_with (go_at_call 15; refine (awake11 _).mono ?_; rintro e w1 ⟨rfl, hb1⟩)
    go_ret
    exact ⟨rfl, by assumption⟩
  · by_cases h2 : 40 < n2
    · clear h
      go_enter Try.func5, Try.ntmps5
      go_wp2_with (go_at_call 15; refine (awake11 _).mono ?_; rintro e w1 ⟨rfl, hb1⟩)
      go_ret
      exact ⟨rfl, by assumption⟩
    · have h3 : 40 < n3 := by omega
      clear h
      go_enter Try.func5, Try.ntmps5
      go_wp2_with (go_at_call 15; refine (awake11 _).mono ?_; rintro e w1 ⟨rfl, hb1⟩)
      go_ret
      exact ⟨rfl, by assumption⟩
set_option maxRecDepth 100000 in
set_option maxHeartbeats 16000000 in
theorem walk_ins (A : Option Addr) (n k : Nat) (xs : List Int) (Ah : Option Addr) (n2 k2 : Nat) (sh : List Int) (Am : Option Addr) (n3 k3 : Nat) (mo : List Int) (nI : Int) (hnI : (Lit.int .i64 nI).wf = true) (w : World) (h : n ≤ 100) (h2 : n2 ≤ 40) (h3 : n3 ≤ 40)
    (hk : ReadsI w A n k xs) (q2 : ReadsI w Ah n2 k2 sh) (q3 : ReadsI w Am n3 k3 mo) :
    Calls Try.prog 5 #[.slice A n k, .slice Ah n2 k2, .slice Am n3 k3, .int .i64 nI] w fun e w' => e = .returned (.bool true) ∧ Below w.heap.size w w' := by
  have HOK := Lib.hid (town_good xs)
  have hmd := made11 hk
  have hE70 := len_townE xs
  obtain ⟨ns, hns⟩ : ∃ ns, ns = townN xs := ⟨_, rfl⟩
  obtain ⟨es, hes⟩ : ∃ es, es = townE xs := ⟨_, rfl⟩
  obtain ⟨bs, hbs⟩ : ∃ bs, bs = townB xs := ⟨_, rfl⟩
  rw [← hes] at hE70
  rw [← hns, ← hes, ← hbs] at HOK hmd
  have HMD := Lib.hid hmd
  obtain ⟨s1, s2, s3, s4⟩ := (mayB_parts HOK.out).2.1
  clear hmd hns hes hbs
  have Q2 := Lib.hid q2
  have Q3 := Lib.hid q3
  obtain ⟨e1, e70⟩ := hE70
  have rb := fun w => round_any hnI (n := (ns.length : Int)) (by omega) (by omega) w
  have j0 := Int.emod_nonneg nI (show (ns.length : Int) ≠ 0 by omega)
  have j1 := Int.emod_lt_of_pos nI (show (0 : Int) < ns.length by omega)
  obtain ⟨v, hv⟩ : ∃ v : Nat, nI % (ns.length : Int) = (v : Int) := ⟨(nI % (ns.length : Int)).toNat, by omega⟩
  rw [hv] at rb j0 j1
  have RB := Lib.hid rb
  obtain ⟨i1, hi1⟩ := info1
  have II := Lib.hid hi1
  have HL1 : Hid (0 + n2 ≤ maxLen ∧ (0 + n2) * 8 ≤ 140737488355328) := Lib.hid ⟨by unfold maxLen; omega, by omega⟩
  have HL2 : Hid (n2 + n3 ≤ maxLen ∧ (n2 + n3) * 8 ≤ 140737488355328) := Lib.hid ⟨by unfold maxLen; omega, by omega⟩
  have HWF : Hid (∀ x ∈ sh ++ mo, (Lit.int .i64 x).wf = true) := Lib.hid fun x hx => (List.mem_append.1 hx).elim (Q2.out.wf x) (Q3.out.wf x)
  clear hk q2 q3 rb hv hnI hi1
  go_enter Try.func5, Try.ntmps5
  go_wp2_with fail
  refine HMD.out.mono ?_
  rintro e w1 ⟨A1, A2, A3, c1, c2, c3, B, t, p, rfl, hM⟩
  have hbx := bl_alloc (Below.refl w1.heap.size w1) (.cells #[.slice A1 ns.length c1, .slice A2 es.length c2, .slice A3 bs.length c3] 29)
  obtain ⟨v0, hv0⟩ : ∃ v0, v0 = w1.alloc (.cells #[.slice A1 ns.length c1, .slice A2 es.length c2, .slice A3 bs.length c3] 29) := ⟨_, rfl⟩
  have HS : Hid (∀ w', Below v0.heap.size v0 w' → w'.cell? ⟨w1.heap.size, 0, none⟩ = some (.slice A1 ns.length c1) ∧ w'.cell? ⟨w1.heap.size, 1, none⟩ = some (.slice A2 es.length c2) ∧ w'.cell? ⟨w1.heap.size, 2, none⟩ = some (.slice A3 bs.length c3)) := Lib.hid fun w' hb => by subst hv0; exact GR.box hb
  have k0 : (w1.alloc (.cells #[.slice A1 ns.length c1, .slice A2 es.length c2, .slice A3 bs.length c3] 29)).cell? ⟨w1.heap.size, 0, none⟩ = some (.slice A1 ns.length c1) := cell_three_new 0 _ rfl
  have k1 : (w1.alloc (.cells #[.slice A1 ns.length c1, .slice A2 es.length c2, .slice A3 bs.length c3] 29)).cell? ⟨w1.heap.size, 1, none⟩ = some (.slice A2 es.length c2) := cell_three_new 1 _ rfl
  have k2 : (w1.alloc (.cells #[.slice A1 ns.length c1, .slice A2 es.length c2, .slice A3 bs.length c3] 29)).cell? ⟨w1.heap.size, 2, none⟩ = some (.slice A3 bs.length c3) := cell_three_new 2 _ rfl
  rw [← hv0] at hbx
  have HG := Lib.hid (hM.g.below hbx)
  have HT := Lib.hid (hM.t.below hbx)
  have HBW : Hid (Below w.heap.size w v0) := Lib.hid (hM.below.trans (hbx.mono hM.below.size))
  have HV0 := Lib.hid hv0
  have HTE : Hid (w1.heap.size < v0.heap.size) := Lib.hid (by rw [hv0, size_alloc]; omega)
  have HLO : Hid (w.heap.size ≤ B) := Lib.hid hM.lo
  clear hM hbx hv0 HMD
  go_wp2_with fail
  rw [← HV0.out]
  have hsh := shut4_any (A1 := A1) (A2 := A2) (A3 := A3) (w := v0) (N := es.length) (n1 := ns.length) (n3 := bs.length) (c1 := c1) (c2 := c2) (c3 := c3) e1 s3 (Q2.out.below HBW.out) (by omega)
  obtain ⟨ca, hca⟩ : ∃ cl, cl = shutK es.length sh := ⟨_, rfl⟩
  obtain ⟨cb, hcb⟩ : ∃ cl, cl = shutK es.length (sh ++ mo) := ⟨_, rfl⟩
  have HCC : Hid (∀ e, shutB ca e = true → shutB cb e = true) := Lib.hid fun e h => by rw [hca] at h; rw [hcb]; exact shutK_more _ _ _ _ h
  rw [← hca] at hsh
  refine hsh.mono ?_
  have HCB := Lib.hid hcb
  clear hsh hca hcb k0 k1 k2
  rintro r vb ⟨gs, rfl, hr, _, hb⟩
  have B0 := Lib.hid hb
  have RC := Lib.hid (hr.reads s3 es.length)
  obtain ⟨l0, l1, l2⟩ := HS.out _ hb
  have S0 : Hid (RS vb vb.drew (.slice none 0 0) 0 []) := Lib.hid (RS.start (bl_drew (Below.refl _ _)))
  have S1 := Lib.hid S0.out.build
  have SA := Lib.hid (Src.ofI ((Q2.out.below HBW.out).below hb))
  have SM := Lib.hid (Src.ofI ((Q3.out.below HBW.out).below hb))
  have HSB : Hid (∀ w', Below vb.heap.size vb w' → w'.cell? ⟨w1.heap.size, 0, none⟩ = some (.slice A1 ns.length c1) ∧ w'.cell? ⟨w1.heap.size, 1, none⟩ = some (.slice A2 es.length c2) ∧ w'.cell? ⟨w1.heap.size, 2, none⟩ = some (.slice A3 bs.length c3)) := Lib.hid fun w' h => HS.out w' (bl_then B0.out h)
  clear hr hb
  go_wp2_with fail
  go_region_held3 (fun w' => w'.cell? ⟨w1.heap.size, 0, none⟩ = some (.slice A1 ns.length c1) ∧ w'.cell? ⟨w1.heap.size, 1, none⟩ = some (.slice A2 es.length c2) ∧ w'.cell? ⟨w1.heap.size, 2, none⟩ = some (.slice A3 bs.length c3))
    (first | exact HSB.out _ S0.out.bl | exact HSB.out _ S1.out.bl | exact HSB.out _ S3.out.bl | exact HSB.out _ S4.out.bl | exact HSB.out _ K5.out)
    (first
      | (refine step_push (by rfl) (.tmp 42) (.tmp 43) 22 (by rfl) _ 3 Try.underlying22 II.out ⟨rfl, by decide⟩ _ 0 _ (by rfl) S1.out.row Ah n2 k2 _ (by rfl) (SA.out.below S1.out.bl) HL1.out S1.out.bl.size ?_
         intro v1 u1 hgr
         have hs3 := S1.out.push hgr
         rw [Nat.zero_add, List.nil_append] at hs3
         have S3 := Lib.hid hs3
         clear hgr hs3)
      | (refine step_push (by rfl) (.tmp 44) (.tmp 45) 22 (by rfl) _ 3 Try.underlying22 II.out ⟨rfl, by decide⟩ _ n2 _ (by rfl) S3.out.row Am n3 k3 _ (by rfl) (SM.out.below S3.out.bl) HL2.out S3.out.bl.size ?_
         intro v2 u2 hgr
         have hs4 := S3.out.push hgr
         obtain ⟨A9, c9, hv9⟩ := hgr.val
         subst hv9
         have R9 := Lib.hid (ReadsI.of_row hs4.row HL2.out.1 HWF.out)
         have S4 := Lib.hid hs4
         clear hgr hs4)
      | (go_at_call 17
         refine (shut4_any e1 s3 R9.out (by omega)).mono ?_
         rintro r v5 ⟨g5, rfl, hr5, _, hb5⟩
         rw [← HCB.out] at hr5
         have K5 := Lib.hid (bl_then S4.out.bl hb5)
         have RC5 := Lib.hid (hr5.reads s3 es.length)
         clear hr5 hb5))
  all_goals
    clear l0 l1 l2
    obtain ⟨l0, l1, l2⟩ := HSB.out _ K5.out
    go_wp2_with fail
    refine (RB.out _).mono ?_
    rintro r v6 ⟨rfl, rfl⟩
    have hta := to_at (HT.out.below (bl_then B0.out K5.out)) (RC.out.below K5.out) e1 (v : Int)
    have hea : toT ns es bs ca (v : Int) = toD es bs ca (v : Int) := by unfold toT inB; rw [if_pos (by simp; omega)]
    have heb : toT ns es bs cb (v : Int) = toD es bs cb (v : Int) := by unfold toT inB; rw [if_pos (by simp; omega)]
    have hla := toD_is HOK.out ca (v : Int)
    have hlb := toD_is HOK.out cb (v : Int)
    have HMORE : Hid (∀ x, x < es.length → 0 ≤ dl (toD es bs cb (v : Int)) x → 0 ≤ dl (toD es bs ca (v : Int)) x ∧ dl (toD es bs ca (v : Int)) x ≤ dl (toD es bs cb (v : Int)) x) := Lib.hid fun x hx h0 => to_more HOK.out HCC.out hla.2 hlb.2 _ x hx h0 (Int.le_of_eq (by omega : dl (toD es bs cb (v : Int)) x = ((dl (toD es bs cb (v : Int)) x).toNat : Int)))
    have HSRC : Hid (∀ x, x < es.length → toSrc es (v : Int) x → dl (toD es bs cb (v : Int)) x = 0) := Lib.hid fun x hx hs => hlb.2.a x hx hs
    rw [hea, hla.1] at hta
    have HEB := Lib.hid heb
    have HLA := Lib.hid hla.1
    have HLB := Lib.hid hlb.1
    obtain ⟨X, hX⟩ : ∃ X, X = toD es bs ca (v : Int) := ⟨_, rfl⟩
    obtain ⟨Y, hY⟩ : ∃ Y, Y = toD es bs cb (v : Int) := ⟨_, rfl⟩
    rw [← hX] at hta HLA HMORE
    rw [← hY] at HEB HLB HMORE HSRC
    have HTA := Lib.hid hta
    clear hta hea heb hla hlb hX hY
    go_wp2_with fail
    refine HTA.out.mono ?_
    rintro r v7 ⟨AX, cX, rfl, hr, hb⟩
    have hrX := hr.1
    rw [HLA.out] at hrX
    have HRX := Lib.hid hrX
    have K7 := Lib.hid (bl_then K5.out hb)
    have htb := to_at (HT.out.below (bl_then B0.out K7.out)) (RC5.out.below hb) e1 (v : Int)
    rw [HEB.out, HLB.out] at htb
    have HTB := Lib.hid htb
    clear hr hb hrX l0 l1 l2 htb
    go_wp2_with fail
    refine HTB.out.mono ?_
    rintro r v8 ⟨AY, cY, rfl, hr, hb⟩
    have hrY := hr.1
    rw [HLB.out] at hrY
    have HRY := Lib.hid hrY
    have HRX8 := Lib.hid (HRX.out.below hb)
    have K8 := Lib.hid (bl_then K7.out hb)
    obtain ⟨l0, l1, l2⟩ := HSB.out _ K8.out
    clear hr hb hrY
    go_wp2_with fail
    go_loopg [16] es.length (fun M u wr => ∃ i : Nat, M = es.length - i ∧ i ≤ es.length ∧ u = .int .i64 (i : Nat) ∧ Below v8.heap.size v8 wr)
    case atStart => exact ⟨0, rfl, Nat.zero_le _, rfl, Below.refl _ _⟩
    case round =>
      obtain ⟨i, hM2, hi, rfl, hb2⟩ := hrel
      have HM2 := Lib.hid hM2
      have HB2 := Lib.hid hb2
      clear l0 l1 l2
      obtain ⟨l0, l1, l2⟩ := HSB.out _ (bl_then K8.out hb2)
      clear hM2 hb2
      by_cases hlt : i < es.length
      · obtain ⟨bX, oX, rfl, hcX⟩ := (HRX8.out.below HB2.out).cell (by omega)
        obtain ⟨bY, oY, rfl, hcY⟩ := (HRY.out.below HB2.out).cell (by omega)
        have dX := hcX i hlt
        have dY := hcY i hlt
        rw [dl_get (by rw [HLA.out]; exact hlt)] at dX
        rw [dl_get (by rw [HLB.out]; exact hlt)] at dY
        obtain ⟨bE, oE, rfl, hcE⟩ := (HG.out.below (bl_then B0.out (bl_then K8.out HB2.out))).rE.cell (by omega)
        obtain ⟨_, dE, _⟩ := hcE i hlt
        have hmo := HMORE.out i hlt
        have hsr := HSRC.out i hlt
        have hdef : toSrc es (v : Int) i ↔ (es.getD i (0, 0, 0)).2.1 = (v : Int) := Iff.rfl
        obtain ⟨x, hx⟩ : ∃ x, x = dl X i := ⟨_, rfl⟩
        obtain ⟨y, hy⟩ : ∃ y, y = dl Y i := ⟨_, rfl⟩
        obtain ⟨tw, htw⟩ : ∃ tw, tw = (es.getD i (0, 0, 0)).2.1 := ⟨_, rfl⟩
        rw [← hx] at dX hmo
        rw [← hy] at dY hmo hsr
        rw [← htw] at dE hdef
        have i0 : (0 : Int) ≤ (i : Int) := by omega
        have i1 : (i : Int) < (es.length : Int) := by omega
        have HMO := Lib.hid hmo
        have HSR := Lib.hid hsr
        have HDF := Lib.hid hdef
        clear hcX hcY hcE hx hy htw hmo hsr hdef
        by_cases ht : tw = (v : Int)
        · have hte : (tw == (v : Int)) = true := by simp [ht]
          have hy0 : y = 0 := HSR.out (HDF.out.2 ht)
          have hyd : decide (0 ≤ y) = true := decide_eq_true (by omega)
          obtain ⟨m1, m2⟩ := HMO.out (by omega)
          have hxd : decide (x < 0) = false := decide_eq_false (by omega)
          have hxy : decide (y < x) = false := decide_eq_false (by omega)
          have hyz : (y == 0) = true := by simp [hy0]
          have hyn : (y != 0) = false := by simp [hy0]
          clear ht hy0 m1 m2
          go_wp2_with fail
          go_quiet (fail)
          go_wp2_with fail
          go_roundg (es.length - (i + 1))
          case measure => have := HM2.out; omega
          case rel => exact ⟨i + 1, rfl, by omega, by go_num, bl_drewN HB2.out _⟩
        · have hte : (tw == (v : Int)) = false := beq_false_of_ne ht
          clear ht
          by_cases hy0 : 0 ≤ y
          · have hyd : decide (0 ≤ y) = true := decide_eq_true (by omega)
            obtain ⟨m1, m2⟩ := HMO.out (by omega)
            have hxd : decide (x < 0) = false := decide_eq_false (by omega)
            have hxy : decide (y < x) = false := decide_eq_false (by omega)
            clear m1 m2 hy0
            go_wp2_with fail
            go_quiet (fail)
            go_wp2_with fail
            go_roundg (es.length - (i + 1))
            case measure => have := HM2.out; omega
            case rel => exact ⟨i + 1, rfl, by omega, by go_num, bl_drewN HB2.out _⟩
          · have hyd : decide (0 ≤ y) = false := decide_eq_false (by omega)
            clear hy0
            go_wp2_with fail
            go_quiet (fail)
            go_wp2_with fail
            go_roundg (es.length - (i + 1))
            case measure => have := HM2.out; omega
            case rel => exact ⟨i + 1, rfl, by omega, by go_num, bl_drewN HB2.out _⟩
      · obtain rfl : i = es.length := by omega
        go_wp2_with (go_at_call 15; refine (awake11 _).mono ?_; rintro e w6 ⟨rfl, hb6⟩)
        go_ret
        exact ⟨rfl, HBW.out.trans ((bl_then B0.out (bl_then K8.out (bl_then HB2.out hb6))).mono HBW.out.size)⟩
theorem walk {W : World} (A : Option Addr) (n k : Nat) (xs : List Int) (hk : ReadsI W A n k xs) (A2 : Option Addr) (n2 k2 : Nat) (x2 : List Int) (q2 : ReadsI W A2 n2 k2 x2) (A3 : Option Addr) (n3 k3 : Nat) (x3 : List Int) (q3 : ReadsI W A3 n3 k3 x3) (a : Int) (h5 : (Lit.int .i64 a).wf = true) :
    Calls Try.prog 5 #[.slice A n k, .slice A2 n2 k2, .slice A3 n3 k3, .int .i64 a] W fun e w' => e = .returned (.bool true) ∧ Below W.heap.size W w' := by
  have s1 := hk.small
  have s2 := q2.small
  have s3 := q3.small
  unfold maxLen at s1 s2 s3
  by_cases h : n ≤ 100 ∧ n2 ≤ 40 ∧ n3 ≤ 40
  · exact walk_ins A n k xs A2 n2 k2 x2 A3 n3 k3 x3 a h5 W h.1 h.2.1 h.2.2 hk q2 q3
  · exact walk_out A n k A2 n2 k2 A3 n3 k3 a (by omega) (by omega) (by omega) W h
set_option maxRecDepth 100000 in
theorem lifted (os : Os) (started : os.Started) (H : Type) (enc : TypeId × Value → H) :
    ReturnsInHanded {} Try.checked os 5 .any (Rows.distMoreSpec.pre6 enc Try.prog Try.f5 Rows.distMoreRow.domain false) (Rows.distMoreSpec.post enc Try.prog Try.f5 false true false false) := by
  refine returnsInHanded_of_change (C := Try.checked) own started (by kernel_rfl) Try.func5
    (ChangeSpec.witness6 (enc := enc) (C := Try.checked) false ⟨#[], #[.slice none 0 0, .slice none 0 0, .slice none 0 0, .int .i64 0], []⟩ 8 (by kernel_rfl) (by kernel_rfl) (by kernel_rfl) (by kernel_rfl)) ?_
  intro W base args ds gs before hval0 hW hcnd _
  have hval : ∀ (j : Nat) t v, Try.f5.params[j]? = some t → args[j]? = some v → Value.okWide Try.prog W .any base t v := hval0
  have hW' := hW
  obtain ⟨p, q, hA0, hV, rfl, hfz, hnd⟩ := hW
  have hA : DataW.TrodAll enc Try.prog W 0 (fun _ => true) true Try.f5.params.toList args.toList ds p := hA0
  rw [Try.params5] at hA hval
  obtain ⟨v0, vs0, d0, ds0, p0, q0, hargs, rfl, rfl, h0, r0⟩ := trodAll_cons hA
  obtain ⟨v1, vs1, d1, ds1, p1, q1, rfl, rfl, rfl, h1, r1⟩ := trodAll_cons r0
  obtain ⟨v2, vs2, d2, ds2, p2, q2, rfl, rfl, rfl, h2, r2⟩ := trodAll_cons r1
  obtain ⟨v3, vs3, d3, ds3, p3, q3, rfl, rfl, rfl, h3, r3⟩ := trodAll_cons r2
  obtain ⟨rfl, rfl, rfl⟩ := trodAll_nil r3
  obtain rfl : args = #[v0, v1, v2, v3] := by cases args; simp_all
  obtain ⟨rfl, rfl⟩ := trodVars_none hV
  obtain ⟨a0, n0, c0, xs0, rfl, k0⟩ := open_reads (hval 0 22 v0 rfl rfl) h0
  obtain ⟨a1, n1, c1, xs1, rfl, k1⟩ := open_reads (hval 1 22 v1 rfl rfl) h1
  obtain ⟨a2, n2, c2, xs2, rfl, k2⟩ := open_reads (hval 2 22 v2 rfl rfl) h2
  obtain ⟨a3, rfl, rfl, rfl, w3⟩ := open_int Try.underlying3 (hval 3 3 v3 rfl rfl) h3
  refine (walk a0 n0 c0 xs0 k0 a1 n1 c1 xs1 k1 a2 n2 c2 xs2 k2 a3 w3).mono fun e W' ⟨he, hb⟩ => ?_
  subst he
  exact ⟨_, rfl, post_law hW' hb rfl rfl rfl rfl rfl (by rw [Try.params5]; exact readable_all (by kernel_rfl))⟩
theorem over : Rows.distMoreRow.holds Try.pinned (OpenSpec.ofChange Rows.distMoreSpec) :=
  OpenClaim.holds_of_wide 5 Try.f5 rfl rfl rfl rfl rfl rfl rfl ⟨rfl, rfl, rfl, rfl, rfl⟩ rfl rfl rfl rfl rfl (by kernel_rfl) Try.func5 (by kernel_rfl)
    (of_decide_eq_true (by kernel_rfl)) (by unfold Func.isWrapper; first | (rw [if_pos (by decide +kernel)]; kernel_rfl) | (rw [if_neg (by decide +kernel)]; exact ⟨rfl, rfl⟩))
    (fun os started H enc _ => lifted os started H enc)
theorem proved : Rows.DistMoreSaid := over
#print axioms proved
end Go.Proofs.Ytjopiefojicblaa.distMore
