/- WalkBreaks: a walk with one edge that may not come there is none; what is behind a ban is none; a walk's weight is its edges' one by one. For every input, without a condition. -/
import Derived.Test.YtkkaidliocadnaaAwake8
import Derived.Test.YtkkaidliocadnaaStroll
import Derived.Test.YtkkaidliocadnaaAppend
import Derived.Test.YtkkaidliocadnaaRound
import Derived.Test.YtkkaidliocadnaaRow
import Derived.Deep.RegionHeld3
set_option linter.unusedVariables false
set_option linter.unusedSimpArgs false
namespace Go.Proofs.Ytkkaidliocadnaa.walkBreaks
open Go.ChangeShapes Go.WideShapes Go.ChangeAt Go.RowKit
set_option maxRecDepth 100000 in
set_option maxHeartbeats 4000000 in
theorem walk_out (A : Option Addr) (n k : Nat) (a : Int) (A2 : Option Addr) (n2 k2 : Nat) (b o : Int) (s1 : n ≤ 9223372036854775807) (s2 : n2 ≤ 9223372036854775807) (w : World) (h : ¬ (n ≤ 100 ∧ n2 ≤ 40)) :
    Calls Try.prog 6 #[.slice A n k, .int .i64 a, .slice A2 n2 k2, .int .i64 b, .int .i64 o] w fun e w' => e = .returned (.bool true) ∧ Below w.heap.size w w' := by
  by_cases h1 : 100 < n
  · clear h
    go_enter Try.func6, Try.ntmps6
    go_wp2_with (go_at_call 11; refine (awake8 _).mono ?_; rintro e w1 ⟨rfl, hb1⟩)
    go_ret
    exact ⟨rfl, by assumption⟩
  · have h2 : 40 < n2 := by omega
    clear h
    go_enter Try.func6, Try.ntmps6
    go_wp2_with (go_at_call 11; refine (awake8 _).mono ?_; rintro e w1 ⟨rfl, hb1⟩)
    go_ret
    exact ⟨rfl, by assumption⟩
/-- a walk with one edge changed -/
theorem walk_set {es : List (Int × Int × Int)} {bs : List (Int × Int)} {e : Int} {X : List Int} (h : walkB es bs e X = true) {k : Nat} (hk : k < X.length) (odd : Int) :
    walkB es bs e (X.set k odd) = (turnB es bs (lastI e (X.take k)) odd && (decide (k + 1 = X.length) || turnB es bs odd (X.getD (k + 1) 0))) := by
  have h0 := h
  unfold walkB at h ⊢
  rw [Bool.and_eq_true] at h
  have hd := chainB_append es bs e (X.take k) (X.drop k)
  rw [List.take_append_drop, h.2] at hd
  have hd1 := ((Bool.and_eq_true _ _).mp hd.symm).1
  rw [h.1, List.set_eq_take_append_cons_drop, if_pos hk, chainB_append, hd1]
  show (true && (true && (turnB es bs _ odd && chainB es bs odd (X.drop (k + 1))))) = _
  rw [Bool.true_and, Bool.true_and]
  congr 1
  by_cases hl : k + 1 = X.length
  · rw [List.drop_of_length_le (by omega), decide_eq_true hl]; rfl
  · rw [decide_eq_false hl, Bool.false_or, dropI (by omega)]
    show (turnB es bs odd _ && chainB es bs _ _) = _
    have h2 := chainB_append es bs e (X.take (k + 1 + 1)) (X.drop (k + 1 + 1))
    rw [List.take_append_drop, h.2] at h2
    have h3 := ((Bool.and_eq_true _ _).mp h2.symm).2
    rw [last_step (by omega)] at h3
    rw [h3, Bool.and_true]
theorem reads_one (w : World) (y : Int) (hy : (Lit.int .i64 y).wf = true) (t : TypeId) : ReadsI (w.alloc (.cells #[.int .i64 y] t)) (some ⟨w.heap.size, 0, none⟩) 1 1 [y] := by
  refine ⟨rfl, by decide, fun _ => ⟨_, _, rfl, fun i hi => ?_⟩, by intro x hx; rw [List.mem_singleton.1 hx]; exact hy⟩
  obtain rfl : i = 0 := by omega
  exact block_cell (heap_alloc_new w (.cells #[.int .i64 y] t)) rfl
theorem flatI_set (xs : List Int) (k : Nat) (x : Int) : (flatI xs).set k (.int .i64 x) = flatI (xs.set k x) := by simp [flatI, List.map_set]
set_option maxRecDepth 100000 in
set_option maxHeartbeats 16000000 in
theorem walk_ins (A : Option Addr) (n k : Nat) (xs : List Int) (a : Int) (ha : (Lit.int .i64 a).wf = true) (As : Option Addr) (n4 k4 : Nat) (st : List Int) (cu : Int) (hcu : (Lit.int .i64 cu).wf = true) (odd : Int) (hodd : (Lit.int .i64 odd).wf = true) (w : World) (h : n ≤ 100) (h4 : n4 ≤ 40)
    (hk : ReadsI w A n k xs) (q4 : ReadsI w As n4 k4 st) :
    Calls Try.prog 6 #[.slice A n k, .int .i64 a, .slice As n4 k4, .int .i64 cu, .int .i64 odd] w fun e w' => e = .returned (.bool true) ∧ Below w.heap.size w w' := by
  have HOK := Lib.hid (town_good xs)
  have hmd := made8 hk
  have hE70 := len_townE xs
  obtain ⟨ns, hns⟩ : ∃ ns, ns = townN xs := ⟨_, rfl⟩
  obtain ⟨es, hes⟩ : ∃ es, es = townE xs := ⟨_, rfl⟩
  obtain ⟨bs, hbs⟩ : ∃ bs, bs = townB xs := ⟨_, rfl⟩
  rw [← hes] at hE70
  rw [← hns, ← hes, ← hbs] at HOK hmd
  have HMD := Lib.hid hmd
  obtain ⟨s1, s2, s3, s4⟩ := (mayB_parts HOK.out).2.1
  clear hmd hns hes hbs
  have Q4 := Lib.hid q4
  obtain ⟨e1, e70⟩ := hE70
  have rb := fun w => round_any ha (n := (es.length : Int)) (by omega) (by omega) w
  have hE0 := Int.emod_nonneg a (show (es.length : Int) ≠ 0 by omega)
  have hE2 := Int.emod_lt_of_pos a (show (0 : Int) < es.length by omega)
  obtain ⟨E1, hE1⟩ : ∃ E1, E1 = a % (es.length : Int) := ⟨_, rfl⟩
  rw [← hE1] at rb hE0 hE2
  have hin : inB 0 E1 ((es.length : Int) - 1) = true := by unfold inB; simp; omega
  have hwk : walkB es bs E1 (strollT es bs E1 st) = true := by unfold walkB; rw [hin, stroll_chain]; rfl
  have HIN := Lib.hid hin
  have HWK := Lib.hid hwk
  have RB := Lib.hid rb
  have HCU := Lib.hid hcu
  have HOD := Lib.hid hodd
  clear hk q4 rb hE1 ha hE0 hE2 hin hwk hcu hodd
  go_enter Try.func6, Try.ntmps6
  go_wp2_with fail
  refine HMD.out.mono ?_
  rintro e w1 ⟨A1, A2, A3, c1, c2, c3, B, t, p, rfl, hM⟩
  have hbx := bl_alloc (Below.refl w1.heap.size w1) (.cells #[.slice A1 ns.length c1, .slice A2 es.length c2, .slice A3 bs.length c3] 28)
  obtain ⟨v0, hv0⟩ : ∃ v0, v0 = w1.alloc (.cells #[.slice A1 ns.length c1, .slice A2 es.length c2, .slice A3 bs.length c3] 28) := ⟨_, rfl⟩
  have HS : Hid (∀ w', Below v0.heap.size v0 w' → w'.cell? ⟨w1.heap.size, 0, none⟩ = some (.slice A1 ns.length c1) ∧ w'.cell? ⟨w1.heap.size, 1, none⟩ = some (.slice A2 es.length c2) ∧ w'.cell? ⟨w1.heap.size, 2, none⟩ = some (.slice A3 bs.length c3)) := Lib.hid fun w' hb => by subst hv0; exact GR.box hb
  have k0 : (w1.alloc (.cells #[.slice A1 ns.length c1, .slice A2 es.length c2, .slice A3 bs.length c3] 28)).cell? ⟨w1.heap.size, 0, none⟩ = some (.slice A1 ns.length c1) := cell_three_new 0 _ rfl
  have k1 : (w1.alloc (.cells #[.slice A1 ns.length c1, .slice A2 es.length c2, .slice A3 bs.length c3] 28)).cell? ⟨w1.heap.size, 1, none⟩ = some (.slice A2 es.length c2) := cell_three_new 1 _ rfl
  have k2 : (w1.alloc (.cells #[.slice A1 ns.length c1, .slice A2 es.length c2, .slice A3 bs.length c3] 28)).cell? ⟨w1.heap.size, 2, none⟩ = some (.slice A3 bs.length c3) := cell_three_new 2 _ rfl
  rw [← hv0] at hbx
  have HG := Lib.hid (hM.g.below hbx)
  have HT := Lib.hid (hM.t.below hbx)
  have HBW : Hid (Below w.heap.size w v0) := Lib.hid (hM.below.trans (hbx.mono hM.below.size))
  have HV0 := Lib.hid hv0
  have HTE : Hid (w1.heap.size < v0.heap.size) := Lib.hid (by rw [hv0, size_alloc]; omega)
  have HLO : Hid (w.heap.size ≤ B) := Lib.hid hM.lo
  clear hM hbx hv0 HMD
  go_wp2_with fail
  rw [← HV0.out]
  refine (RB.out _).mono ?_
  rintro e y0 ⟨rfl, rfl⟩
  have hst := stroll_any HG.out (by omega) E1 (Q4.out.below HBW.out) (by omega)
  have hXl := stroll_len es bs E1 st
  have hsl := Q4.out.len
  obtain ⟨X, hX⟩ : ∃ X, X = strollT es bs E1 st := ⟨_, rfl⟩
  rw [← hX] at hst hXl HWK
  have HST := Lib.hid hst
  have HXL := Lib.hid (show X.length ≤ 40 by omega)
  clear hst hX hXl hsl k0 k1 k2
  obtain ⟨k0, k1, k2⟩ := HS.out _ (Below.refl _ _)
  go_wp2_with fail
  refine HST.out.mono ?_
  rintro e vb ⟨AX, cX, rfl, hr, _, hb, hown⟩
  have RX := Lib.hid hr
  have B0 := Lib.hid hb
  have HOWN := Lib.hid hown
  have hxl := HXL.out
  clear hr hb hown k0 k1 k2
  rcases Nat.eq_zero_or_pos X.length with hXz | hXp
  · obtain rfl : X = [] := List.eq_nil_of_length_eq_zero hXz
    have r1 := valid_at (HT.out.below B0.out) (A := none) (n := 0) (c := 0) (xs := []) ⟨rfl, by decide, fun h => by omega, by simp⟩ E1
    have hw0 : walkB es bs E1 [] = true := by unfold walkB; rw [HIN.out]; rfl
    rw [hw0] at r1
    have R1 := Lib.hid r1
    clear r1 hw0 hXz hxl
    simp only [List.length_nil]
    go_wp2_with fail
    refine R1.out.mono ?_
    rintro e x1 ⟨rfl, hb⟩
    have X1 := Lib.hid hb
    clear hb
    go_wp2_with (go_at_call 11; refine (awake8 _).mono ?_; rintro e w6 ⟨rfl, hb6⟩)
    go_ret
    exact ⟨rfl, HBW.out.trans ((bl_then B0.out (bl_then X1.out hb6)).mono HBW.out.size)⟩
  · obtain ⟨gX, hAX, hcap, hcap2⟩ : ∃ g, AX = some ⟨g, 0, none⟩ ∧ X.length ≤ cX ∧ cX ≤ maxLen := by
      rcases HOWN.out with ⟨_, hx0, _⟩ | h
      · omega
      · exact h
    subst hAX
    have b1 : ((X.length : Int) == 0) = false := beq_false_of_ne (by omega)
    have b2 : (X.length == 0) = false := beq_false_of_ne (by omega)
    have rb2 := fun w => round_any HCU.out (n := (X.length : Int)) (by omega) (by omega) w
    have j0 := Int.emod_nonneg cu (show (X.length : Int) ≠ 0 by omega)
    have j1 := Int.emod_lt_of_pos cu (show (0 : Int) < (X.length : Int) by omega)
    obtain ⟨j, hj⟩ : ∃ j : Nat, cu % (X.length : Int) = (j : Int) := ⟨(cu % (X.length : Int)).toNat, by omega⟩
    rw [hj] at rb2 j0 j1
    have hjX : j < X.length := by omega
    have RB2 := Lib.hid rb2
    have hset := walk_set HWK.out hjX odd
    have HSET := Lib.hid hset
    have hmid : 0 < j → lastI E1 (X.take j) = X.getD (j - 1) 0 := fun h0 => by
      rw [last_get (by rw [List.length_take]; omega), List.length_take, Nat.min_eq_left (by omega), List.getD_eq_getElem?_getD, List.getD_eq_getElem?_getD, List.getElem?_take_of_lt (by omega)]
    have HMID := Lib.hid hmid
    have hokx : okE es X = true := by
      have h1 := HWK.out
      unfold walkB at h1
      rw [Bool.and_eq_true] at h1
      exact chain_ok h1.2
    have HWGT : Hid (wgtT es X = sumW es X ∧ okE es X = true) := Lib.hid ⟨by unfold wgtT; rw [if_pos hokx], hokx⟩
    have HOKX : Hid (∀ i, i < X.length → inB 0 (X.getD i 0) ((es.length : Int) - 1) = true) := Lib.hid fun i hi => by
      unfold okE at hokx
      exact List.all_eq_true.1 hokx _ (getD_memI hi)
    obtain ⟨i1, hi1⟩ := info1
    have II := Lib.hid hi1
    have HOE := Lib.hid (own_empty vb 3 1)
    have HSRC := Lib.hid (Src.ofI (RX.out.below (bl_alloc (Below.refl vb.heap.size vb) (.cells #[] 3))))
    have HOL : Hid (0 + X.length ≤ maxLen ∧ (0 + X.length) * 8 ≤ 140737488355328) := Lib.hid ⟨by unfold maxLen; omega, by omega⟩
    have HBS : Hid (vb.heap.size ≤ (vb.alloc (.cells #[] 3)).heap.size) := Lib.hid (bl_alloc (Below.refl _ _) _).size
    clear rb2 hj hset hmid hokx hi1 hcap hcap2
    go_wp2_with fail
    refine (RB2.out _).mono ?_
    rintro e vb' ⟨rfl, rfl⟩
    go_wp2_with (at_builtin; refine wpList_push rfl (.tmp 65) (.tmp 66) 22 rfl vb.heap.size 3 Try.underlying22 II.out ⟨rfl, by decide⟩ _ 0 _ rfl HOE.out (some ⟨gX, 0, none⟩) X.length cX _ rfl HSRC.out HOL.out HBS.out ?_)
    intro v' w3 hgr
    have hrow := hgr.row
    have hb3 : Below vb.heap.size vb w3 := (bl_alloc (Below.refl vb.heap.size vb) (.cells #[] 3)).grown hgr.by_ HBS.out (fun g hg => (World.ownsRow.lt HOE.out g hg).1)
    obtain ⟨gY, cY, hv, hgb, hgl⟩ := hrow.form hXp
    subst hv
    have c0 := hrow.cellAt j (by omega)
    rw [show (flatI X)[j]? = some (.int .i64 (X.getD j 0)) by simp [flatI, hjX]] at c0
    have f0 := hrow.frozenAt j
    have hst4 := (hrow.stored j (.int .i64 odd)).1
    rw [flatI_set] at hst4
    have hwf : ∀ x ∈ X.set j odd, (Lit.int .i64 x).wf = true := fun x hx => by
      rcases List.mem_or_eq_of_mem_set hx with h1 | h1
      · exact RX.out.wf x h1
      · rw [h1]; exact HOD.out
    have hy4 := ReadsI.of_row hst4 (by unfold maxLen; omega) hwf
    have hb4 : Below vb.heap.size vb (w3.setCell ⟨gY, j, none⟩ (.int .i64 odd)) := hb3.setCell hgb _
    obtain ⟨w4, hw4⟩ : ∃ w4, w4 = w3.setCell ⟨gY, j, none⟩ (.int .i64 odd) := ⟨_, rfl⟩
    have hbX := hb4
    rw [← hw4] at hy4 hb4
    have HY4 := Lib.hid hy4
    have HW4 := Lib.hid hw4
    have HB4 := Lib.hid hb4
    have K0 : Hid (Below vb.heap.size vb w4.drew) := Lib.hid (bl_drew hb4)
    have HSQ : Hid (∀ w', Below vb.heap.size vb w' → w'.cell? ⟨w1.heap.size, 0, none⟩ = some (.slice A1 ns.length c1) ∧ w'.cell? ⟨w1.heap.size, 1, none⟩ = some (.slice A2 es.length c2) ∧ w'.cell? ⟨w1.heap.size, 2, none⟩ = some (.slice A3 bs.length c3)) := Lib.hid fun w' h => HS.out w' (bl_then B0.out h)
    have HBX := Lib.hid hbX
    obtain ⟨dj, hdj⟩ : ∃ z, z = X.getD j 0 := ⟨_, rfl⟩
    rw [← hdj] at c0
    clear hgr hrow hb3 hgb hgl hst4 hwf hy4 hw4 hb4 hbX hdj b1 b2
    rcases Nat.eq_zero_or_pos j with hjz | hjp
    · have hm0 : lastI E1 (X.take j) = E1 := by rw [hjz]; rfl
      rw [hm0] at HSET
      have g0 : ¬ (0 : Int) < (j : Int) := by omega
      clear hm0 hjz
      go_upto_region 16 with fail
      rw [← HW4.out]
      clear c0 f0
      cases hf1 : turnB es bs E1 odd with
      | false =>
        have HFIT : Hid (walkB es bs E1 (X.set j odd) = false) := Lib.hid (by rw [HSET.out, hf1]; rfl)
        have t1 := fun (w' : World) (hb : Below vb.heap.size vb w') => turn4_any (HG.out.below (bl_then B0.out hb)) E1 odd
        rw [hf1] at t1
        have T1 := Lib.hid t1
        clear t1 hf1
        go_wp2_with fail
        refine wp_region_held_drew (S := fun w' => w'.cell? ⟨w1.heap.size, 0, none⟩ = some (.slice A1 ns.length c1) ∧ w'.cell? ⟨w1.heap.size, 1, none⟩ = some (.slice A2 es.length c2) ∧ w'.cell? ⟨w1.heap.size, 2, none⟩ = some (.slice A3 bs.length c3)) (by kernel_rfl) (HSQ.out _ K0.out) (fun hHeld => ?_)
        refine wpAnyH_take (i := 0) (v := ?_) rfl (by kernel_rfl) (by kernel_rfl) (by kernel_rfl) (fun _ _ _ h => h) (Or.inl ⟨by rfl, ?_⟩) (by assumption) ?_
        rotate_left
        · intro w hSw; (try dsimp only at hSw); go_simp <;> with_reducible rfl
        (try simp only [Act.put, List.setIfInBounds_toArray, List.set_cons_zero, List.set_cons_succ, List.getElem_toArray, List.getElem_cons_succ, List.getElem_cons_zero])
        refine wpAnyH_take (i := 1) (v := ?_) rfl (by kernel_rfl) (by kernel_rfl) (by kernel_rfl) (fun _ _ _ h => h) (Or.inl ⟨by rfl, ?_⟩) (by assumption) ?_
        rotate_left
        · intro w hSw; (try dsimp only at hSw); go_simp <;> with_reducible rfl
        (try simp only [Act.put, List.setIfInBounds_toArray, List.set_cons_zero, List.set_cons_succ, List.getElem_toArray, List.getElem_cons_succ, List.getElem_cons_zero])
        refine wpAnyH_take (i := 2) (v := ?_) rfl (by kernel_rfl) (by kernel_rfl) (by kernel_rfl) (fun _ _ _ h => h) (Or.inl ⟨by rfl, ?_⟩) (by assumption) ?_
        rotate_left
        · intro w hSw; (try dsimp only at hSw); go_simp <;> with_reducible rfl
        (try simp only [Act.put, List.setIfInBounds_toArray, List.set_cons_zero, List.set_cons_succ, List.getElem_toArray, List.getElem_cons_succ, List.getElem_cons_zero])
        refine wpAnyH_ready (rs := [3]) (by kernel_rfl) (by simp) ?_
        refine AllReadyH.cons rfl (fun K hK => ?_) AllReadyH.nil
        go_simp
        refine (T1.out _ K0.out).mono ?_
        rintro e z1 ⟨rfl, hb⟩
        have KZ : Hid (Below vb.heap.size vb z1) := Lib.hid (bl_then K0.out hb)
        have KZ4 : Hid (Below w4.heap.size w4 z1) := Lib.hid (bl_then (bl_drew (Below.refl _ _)) hb)
        clear hb
        refine hK.out _ _ (HSQ.out _ KZ.out) (fun hHeld => ?_)
        (try simp only [Act.put, List.setIfInBounds_toArray, List.set_cons_zero, List.set_cons_succ, List.getElem_toArray, List.getElem_cons_succ, List.getElem_cons_zero])
        refine wpAnyH_take (i := 4) (v := ?_) rfl (by kernel_rfl) (by kernel_rfl) (by kernel_rfl) (fun _ _ _ h => h) (Or.inl ⟨by rfl, ?_⟩) (by assumption) ?_
        rotate_left
        · intro w hSw; (try dsimp only at hSw); go_simp <;> with_reducible rfl
        (try simp only [Act.put, List.setIfInBounds_toArray, List.set_cons_zero, List.set_cons_succ, List.getElem_toArray, List.getElem_cons_succ, List.getElem_cons_zero])
        refine wpAnyH_take (i := 5) (v := undef) rfl (by kernel_rfl) (by kernel_rfl) (by kernel_rfl) (fun _ _ _ h => h) (Or.inr ⟨by rfl, rfl⟩) (by assumption) ?_
        (try simp only [Act.put, List.setIfInBounds_toArray, List.set_cons_zero, List.set_cons_succ, List.getElem_toArray, List.getElem_cons_succ, List.getElem_cons_zero])
        refine wpAnyH_take (i := 6) (v := undef) rfl (by kernel_rfl) (by kernel_rfl) (by kernel_rfl) (fun _ _ _ h => h) (Or.inr ⟨by rfl, rfl⟩) (by assumption) ?_
        (try simp only [Act.put, List.setIfInBounds_toArray, List.set_cons_zero, List.set_cons_succ, List.getElem_toArray, List.getElem_cons_succ, List.getElem_cons_zero])
        refine wpAnyH_take (i := 7) (v := undef) rfl (by kernel_rfl) (by kernel_rfl) (by kernel_rfl) (fun _ _ _ h => h) (Or.inr ⟨by rfl, rfl⟩) (by assumption) ?_
        (try simp only [Act.put, List.setIfInBounds_toArray, List.set_cons_zero, List.set_cons_succ, List.getElem_toArray, List.getElem_cons_succ, List.getElem_cons_zero])
        refine wpAnyH_take (i := 8) (v := undef) rfl (by kernel_rfl) (by kernel_rfl) (by kernel_rfl) (fun _ _ _ h => h) (Or.inr ⟨by rfl, rfl⟩) (by assumption) ?_
        (try simp only [Act.put, List.setIfInBounds_toArray, List.set_cons_zero, List.set_cons_succ, List.getElem_toArray, List.getElem_cons_succ, List.getElem_cons_zero])
        refine wpAnyH_take (i := 9) (v := undef) rfl (by kernel_rfl) (by kernel_rfl) (by kernel_rfl) (fun _ _ _ h => h) (Or.inr ⟨by rfl, rfl⟩) (by assumption) ?_
        (try simp only [Act.put, List.setIfInBounds_toArray, List.set_cons_zero, List.set_cons_succ, List.getElem_toArray, List.getElem_cons_succ, List.getElem_cons_zero])
        refine wpAnyH_take (i := 10) (v := undef) rfl (by kernel_rfl) (by kernel_rfl) (by kernel_rfl) (fun _ _ _ h => h) (Or.inr ⟨by rfl, rfl⟩) (by assumption) ?_
        (try simp only [Act.put, List.setIfInBounds_toArray, List.set_cons_zero, List.set_cons_succ, List.getElem_toArray, List.getElem_cons_succ, List.getElem_cons_zero])
        refine wpAnyH_take (i := 11) (v := undef) rfl (by kernel_rfl) (by kernel_rfl) (by kernel_rfl) (fun _ _ _ h => h) (Or.inr ⟨by rfl, rfl⟩) (by assumption) ?_
        (try simp only [Act.put, List.setIfInBounds_toArray, List.set_cons_zero, List.set_cons_succ, List.getElem_toArray, List.getElem_cons_succ, List.getElem_cons_zero])
        refine wpAnyH_take (i := 12) (v := undef) rfl (by kernel_rfl) (by kernel_rfl) (by kernel_rfl) (fun _ _ _ h => h) (Or.inr ⟨by rfl, rfl⟩) (by assumption) ?_
        (try simp only [Act.put, List.setIfInBounds_toArray, List.set_cons_zero, List.set_cons_succ, List.getElem_toArray, List.getElem_cons_succ, List.getElem_cons_zero])
        refine wpAnyH_take (i := 13) (v := undef) rfl (by kernel_rfl) (by kernel_rfl) (by kernel_rfl) (fun _ _ _ h => h) (Or.inr ⟨by rfl, rfl⟩) (by assumption) ?_
        (try simp only [Act.put, List.setIfInBounds_toArray, List.set_cons_zero, List.set_cons_succ, List.getElem_toArray, List.getElem_cons_succ, List.getElem_cons_zero])
        refine wpAnyH_take (i := 14) (v := undef) rfl (by kernel_rfl) (by kernel_rfl) (by kernel_rfl) (fun _ _ _ h => h) (Or.inr ⟨by rfl, rfl⟩) (by assumption) ?_
        (try simp only [Act.put, List.setIfInBounds_toArray, List.set_cons_zero, List.set_cons_succ, List.getElem_toArray, List.getElem_cons_succ, List.getElem_cons_zero])
        refine wpAnyH_take (i := 15) (v := undef) rfl (by kernel_rfl) (by kernel_rfl) (by kernel_rfl) (fun _ _ _ h => h) (Or.inr ⟨by rfl, rfl⟩) (by assumption) ?_
        (try simp only [Act.put, List.setIfInBounds_toArray, List.set_cons_zero, List.set_cons_succ, List.getElem_toArray, List.getElem_cons_succ, List.getElem_cons_zero])
        refine wpAnyH_take (i := 16) (v := undef) rfl (by kernel_rfl) (by kernel_rfl) (by kernel_rfl) (fun _ _ _ h => h) (Or.inr ⟨by rfl, rfl⟩) (by assumption) ?_
        (try simp only [Act.put, List.setIfInBounds_toArray, List.set_cons_zero, List.set_cons_succ, List.getElem_toArray, List.getElem_cons_succ, List.getElem_cons_zero])
        refine wpAnyH_take (i := 17) (v := undef) rfl (by kernel_rfl) (by kernel_rfl) (by kernel_rfl) (fun _ _ _ h => h) (Or.inr ⟨by rfl, rfl⟩) (by assumption) ?_
        (try simp only [Act.put, List.setIfInBounds_toArray, List.set_cons_zero, List.set_cons_succ, List.getElem_toArray, List.getElem_cons_succ, List.getElem_cons_zero])
        refine wpAnyH_take (i := 18) (v := undef) rfl (by kernel_rfl) (by kernel_rfl) (by kernel_rfl) (fun _ _ _ h => h) (Or.inr ⟨by rfl, rfl⟩) (by assumption) ?_
        (try simp only [Act.put, List.setIfInBounds_toArray, List.set_cons_zero, List.set_cons_succ, List.getElem_toArray, List.getElem_cons_succ, List.getElem_cons_zero])
        refine wpAnyH_take (i := 19) (v := undef) rfl (by kernel_rfl) (by kernel_rfl) (by kernel_rfl) (fun _ _ _ h => h) (Or.inr ⟨by rfl, rfl⟩) (by assumption) ?_
        (try simp only [Act.put, List.setIfInBounds_toArray, List.set_cons_zero, List.set_cons_succ, List.getElem_toArray, List.getElem_cons_succ, List.getElem_cons_zero])
        refine wpAnyH_take (i := 20) (v := ?_) rfl (by kernel_rfl) (by kernel_rfl) (by kernel_rfl) (fun _ _ _ h => h) (Or.inl ⟨by rfl, ?_⟩) (by assumption) ?_
        rotate_left
        · intro w hSw; (try dsimp only at hSw); go_simp <;> with_reducible rfl
        (try simp only [Act.put, List.setIfInBounds_toArray, List.set_cons_zero, List.set_cons_succ, List.getElem_toArray, List.getElem_cons_succ, List.getElem_cons_zero])
        refine wpAnyH_take (i := 21) (v := ?_) rfl (by kernel_rfl) (by kernel_rfl) (by kernel_rfl) (fun _ _ _ h => h) (Or.inl ⟨by rfl, ?_⟩) (by assumption) ?_
        rotate_left
        · intro w hSw; (try dsimp only at hSw); go_simp <;> with_reducible rfl
        (try simp only [Act.put, List.setIfInBounds_toArray, List.set_cons_zero, List.set_cons_succ, List.getElem_toArray, List.getElem_cons_succ, List.getElem_cons_zero])
        refine wpAnyH_done (by kernel_rfl) ?_ _
        go_wp2_with fail
        go_loopg [20, 19] X.length (fun M u z wr => ∃ i : Nat, M = X.length - i ∧ i ≤ X.length ∧ u = .int .i64 (i : Nat) ∧ z = .int .i64 (sumW es (X.take i)) ∧ Below vb.heap.size vb wr ∧ ReadsI wr (some ⟨gY, 0, none⟩) X.length cY (X.set j odd))
        case atStart => exact ⟨0, rfl, Nat.zero_le _, rfl, rfl, KZ.out, (HY4.out.below KZ4.out)⟩
        case round =>
          obtain ⟨i, hM, hi, rfl, rfl, hb, hy⟩ := hrel
          have HM := Lib.hid hM
          have HB := Lib.hid hb
          have HYR := Lib.hid hy
          clear hM hb hy
          by_cases hlt : i < X.length
          · obtain ⟨bX, oX, eX, hcX⟩ := (RX.out.below HB.out).cell (by omega)
            injection eX with eX
            injection eX with eX1 eX2 _
            subst eX1 eX2
            have dX := hcX i hlt
            rw [Nat.zero_add] at dX
            have hss := sum_step (es := es) hlt
            have hsb := sum_bd HOK.out (X.take i)
            rw [List.length_take_of_le (by omega)] at hsb
            have hmm := HOKX.out i hlt
            have hwb := w_bd HOK.out (X.getD i 0).toNat
            obtain ⟨y, hy⟩ : ∃ y, y = X.getD i 0 := ⟨_, rfl⟩
            rw [← hy] at dX hss hmm hwb
            have hyw : (Lit.int .i64 y).wf = true := by unfold inB at hmm; simp only [Bool.and_eq_true, decide_eq_true_eq] at hmm; exact wf_of (by omega) (by omega)
            have hba : Below vb.heap.size vb (wr.alloc (.cells #[.int .i64 y] 3)) := bl_alloc HB.out _
            have hwt := weight_at (HT.out.below (bl_then B0.out hba)) (reads_one wr y hyw 3) (by omega)
            have hok1 : okE es [y] = true := by unfold okE; simp [hmm]
            have hwg : wgtT es [y] = (es.getD y.toNat (0, 0, 0)).2.2 := by unfold wgtT; rw [if_pos hok1]; simp [sumW]
            rw [hok1, hwg] at hwt
            obtain ⟨wy, hwy⟩ : ∃ wy, wy = (es.getD y.toNat (0, 0, 0)).2.2 := ⟨_, rfl⟩
            rw [← hwy] at hss hwb hwt
            obtain ⟨S, hS⟩ : ∃ S, S = sumW es (X.take i) := ⟨_, rfl⟩
            rw [← hS] at hss hsb ⊢
            have hsum : IntKind.i64.wrap (S + wy) = S + wy := IntWalk.i64_in _ (by omega)
            have HSS := Lib.hid hss
            have HWT := Lib.hid hwt
            have HBA := Lib.hid hba
            have i0' : (0 : Int) ≤ (i : Int) := by omega
            have i1' : (i : Int) < (X.length : Int) := by omega
            clear hcX hss hsb hmm hwb hy hyw hba hwt hok1 hwg hwy hS
            go_wp2_with fail
            refine HWT.out.mono ?_
            rintro e x1 ⟨rfl, hb⟩
            have HB2 := Lib.hid (bl_then HBA.out hb)
            have HY2 := Lib.hid (HYR.out.below ((bl_alloc (Below.refl _ _) _).trans (hb.mono (bl_alloc (Below.refl wr.heap.size wr) (.cells #[.int .i64 y] 3)).size)))
            clear hb dX
            go_wp2_with fail
            go_roundg (X.length - (i + 1))
            case measure => have := HM.out; omega
            case rel => exact ⟨i + 1, rfl, by omega, by go_num, by rw [HSS.out], HB2.out, HY2.out⟩
          · obtain rfl : i = X.length := by omega
            rw [List.take_length]
            have r1 := weight_at (HT.out.below (bl_then B0.out HB.out)) (RX.out.below HB.out) (by omega)
            rw [HWGT.out.1, HWGT.out.2] at r1
            have r2 := fun (w' : World) (hb : Below wr.heap.size wr w') => end_at (HT.out.below (bl_then B0.out (bl_then HB.out hb))) (HYR.out.below hb) E1
            have r3 := fun (w' : World) (hb : Below wr.heap.size wr w') => valid_at (HT.out.below (bl_then B0.out (bl_then HB.out hb))) (HYR.out.below hb) E1
            rw [HFIT.out] at r2 r3
            obtain ⟨S, hS⟩ : ∃ S, S = sumW es X := ⟨_, rfl⟩
            rw [← hS] at r1 ⊢
            obtain ⟨EN, hEN⟩ : ∃ EN, EN = endT es bs E1 (X.set j odd) := ⟨_, rfl⟩
            rw [← hEN] at r2
            have R1 := Lib.hid r1
            have R2 := Lib.hid r2
            have R3 := Lib.hid r3
            have s9 : (S == S) = true := by simp
            have f9 : ((false : Bool) == false) = true := by simp
            clear r1 r2 r3 hS hEN hlt hi
            go_wp2_with fail
            refine R1.out.mono ?_
            rintro e x1 ⟨rfl, hb⟩
            have X1 := Lib.hid hb
            clear hb
            go_wp2_with fail
            refine (R2.out _ X1.out).mono ?_
            rintro e x2 ⟨rfl, hb⟩
            have X2 := Lib.hid (bl_then X1.out hb)
            clear hb
            go_wp2_with fail
            refine (R3.out _ X2.out).mono ?_
            rintro e x3 ⟨rfl, hb⟩
            have X3 := Lib.hid (bl_then X2.out hb)
            clear hb
            go_wp2_with (go_at_call 11; refine (awake8 _).mono ?_; rintro e w6 ⟨rfl, hb6⟩)
            go_ret
            exact ⟨rfl, HBW.out.trans ((bl_then B0.out (bl_then HB.out (bl_then X3.out hb6))).mono HBW.out.size)⟩
      | true =>
        have t1 := fun (w' : World) (hb : Below vb.heap.size vb w') => turn4_any (HG.out.below (bl_then B0.out hb)) E1 odd
        rw [hf1] at t1
        have T1 := Lib.hid t1
        by_cases hjl : j + 1 = X.length
        · have HFIT : Hid (walkB es bs E1 (X.set j odd) = true) := Lib.hid (by rw [HSET.out, hf1, decide_eq_true hjl]; rfl)
          have x1 : IntKind.i64.wrap ((X.length : Int) - 1) = (j : Int) := by rw [IntWalk.i64_in _ (by omega)]; omega
          have x2 : ((j : Int) == (j : Int)) = true := by simp
          clear t1 hf1
          go_wp2_with fail
          refine wp_region_held_drew (S := fun w' => w'.cell? ⟨w1.heap.size, 0, none⟩ = some (.slice A1 ns.length c1) ∧ w'.cell? ⟨w1.heap.size, 1, none⟩ = some (.slice A2 es.length c2) ∧ w'.cell? ⟨w1.heap.size, 2, none⟩ = some (.slice A3 bs.length c3)) (by kernel_rfl) (HSQ.out _ K0.out) (fun hHeld => ?_)
          refine wpAnyH_take (i := 0) (v := ?_) rfl (by kernel_rfl) (by kernel_rfl) (by kernel_rfl) (fun _ _ _ h => h) (Or.inl ⟨by rfl, ?_⟩) (by assumption) ?_
          rotate_left
          · intro w hSw; (try dsimp only at hSw); go_simp <;> with_reducible rfl
          (try simp only [Act.put, List.setIfInBounds_toArray, List.set_cons_zero, List.set_cons_succ, List.getElem_toArray, List.getElem_cons_succ, List.getElem_cons_zero])
          refine wpAnyH_take (i := 1) (v := ?_) rfl (by kernel_rfl) (by kernel_rfl) (by kernel_rfl) (fun _ _ _ h => h) (Or.inl ⟨by rfl, ?_⟩) (by assumption) ?_
          rotate_left
          · intro w hSw; (try dsimp only at hSw); go_simp <;> with_reducible rfl
          (try simp only [Act.put, List.setIfInBounds_toArray, List.set_cons_zero, List.set_cons_succ, List.getElem_toArray, List.getElem_cons_succ, List.getElem_cons_zero])
          refine wpAnyH_take (i := 2) (v := ?_) rfl (by kernel_rfl) (by kernel_rfl) (by kernel_rfl) (fun _ _ _ h => h) (Or.inl ⟨by rfl, ?_⟩) (by assumption) ?_
          rotate_left
          · intro w hSw; (try dsimp only at hSw); go_simp <;> with_reducible rfl
          (try simp only [Act.put, List.setIfInBounds_toArray, List.set_cons_zero, List.set_cons_succ, List.getElem_toArray, List.getElem_cons_succ, List.getElem_cons_zero])
          refine wpAnyH_ready (rs := [3]) (by kernel_rfl) (by simp) ?_
          refine AllReadyH.cons rfl (fun K hK => ?_) AllReadyH.nil
          go_simp
          refine (T1.out _ K0.out).mono ?_
          rintro e z1 ⟨rfl, hb⟩
          have KZ : Hid (Below vb.heap.size vb z1) := Lib.hid (bl_then K0.out hb)
          have KZ4 : Hid (Below w4.heap.size w4 z1) := Lib.hid (bl_then (bl_drew (Below.refl _ _)) hb)
          clear hb
          refine hK.out _ _ (HSQ.out _ KZ.out) (fun hHeld => ?_)
          (try simp only [Act.put, List.setIfInBounds_toArray, List.set_cons_zero, List.set_cons_succ, List.getElem_toArray, List.getElem_cons_succ, List.getElem_cons_zero])
          refine wpAnyH_take (i := 4) (v := ?_) rfl (by kernel_rfl) (by kernel_rfl) (by kernel_rfl) (fun _ _ _ h => h) (Or.inl ⟨by rfl, ?_⟩) (by assumption) ?_
          rotate_left
          · intro w hSw; (try dsimp only at hSw); go_simp <;> with_reducible rfl
          (try simp only [Act.put, List.setIfInBounds_toArray, List.set_cons_zero, List.set_cons_succ, List.getElem_toArray, List.getElem_cons_succ, List.getElem_cons_zero])
          refine wpAnyH_take (i := 5) (v := ?_) rfl (by kernel_rfl) (by kernel_rfl) (by kernel_rfl) (fun _ _ _ h => h) (Or.inl ⟨by rfl, ?_⟩) (by assumption) ?_
          rotate_left
          · intro w hSw; (try dsimp only at hSw); go_simp <;> with_reducible rfl
          (try simp only [Act.put, List.setIfInBounds_toArray, List.set_cons_zero, List.set_cons_succ, List.getElem_toArray, List.getElem_cons_succ, List.getElem_cons_zero])
          refine wpAnyH_take (i := 6) (v := ?_) rfl (by kernel_rfl) (by kernel_rfl) (by kernel_rfl) (fun _ _ _ h => h) (Or.inl ⟨by rfl, ?_⟩) (by assumption) ?_
          rotate_left
          · intro w hSw; (try dsimp only at hSw); go_simp <;> with_reducible rfl
          (try simp only [Act.put, List.setIfInBounds_toArray, List.set_cons_zero, List.set_cons_succ, List.getElem_toArray, List.getElem_cons_succ, List.getElem_cons_zero])
          refine wpAnyH_take (i := 7) (v := ?_) rfl (by kernel_rfl) (by kernel_rfl) (by kernel_rfl) (fun _ _ _ h => h) (Or.inl ⟨by rfl, ?_⟩) (by assumption) ?_
          rotate_left
          · intro w hSw; (try dsimp only at hSw); go_simp <;> with_reducible rfl
          (try simp only [Act.put, List.setIfInBounds_toArray, List.set_cons_zero, List.set_cons_succ, List.getElem_toArray, List.getElem_cons_succ, List.getElem_cons_zero])
          refine wpAnyH_take (i := 8) (v := ?_) rfl (by kernel_rfl) (by kernel_rfl) (by kernel_rfl) (fun _ _ _ h => h) (Or.inl ⟨by rfl, ?_⟩) (by assumption) ?_
          rotate_left
          · intro w hSw; (try dsimp only at hSw); go_simp <;> with_reducible rfl
          (try simp only [Act.put, List.setIfInBounds_toArray, List.set_cons_zero, List.set_cons_succ, List.getElem_toArray, List.getElem_cons_succ, List.getElem_cons_zero])
          refine wpAnyH_take (i := 9) (v := ?_) rfl (by kernel_rfl) (by kernel_rfl) (by kernel_rfl) (fun _ _ _ h => h) (Or.inl ⟨by rfl, ?_⟩) (by assumption) ?_
          rotate_left
          · intro w hSw; (try dsimp only at hSw); go_simp <;> with_reducible rfl
          (try simp only [Act.put, List.setIfInBounds_toArray, List.set_cons_zero, List.set_cons_succ, List.getElem_toArray, List.getElem_cons_succ, List.getElem_cons_zero])
          refine wpAnyH_take (i := 10) (v := ?_) rfl (by kernel_rfl) (by kernel_rfl) (by kernel_rfl) (fun _ _ _ h => h) (Or.inl ⟨by rfl, ?_⟩) (by assumption) ?_
          rotate_left
          · intro w hSw; (try dsimp only at hSw); go_simp <;> with_reducible rfl
          (try simp only [Act.put, List.setIfInBounds_toArray, List.set_cons_zero, List.set_cons_succ, List.getElem_toArray, List.getElem_cons_succ, List.getElem_cons_zero])
          refine wpAnyH_take (i := 11) (v := undef) rfl (by kernel_rfl) (by kernel_rfl) (by kernel_rfl) (fun _ _ _ h => h) (Or.inr ⟨by rfl, rfl⟩) (by assumption) ?_
          (try simp only [Act.put, List.setIfInBounds_toArray, List.set_cons_zero, List.set_cons_succ, List.getElem_toArray, List.getElem_cons_succ, List.getElem_cons_zero])
          refine wpAnyH_take (i := 12) (v := undef) rfl (by kernel_rfl) (by kernel_rfl) (by kernel_rfl) (fun _ _ _ h => h) (Or.inr ⟨by rfl, rfl⟩) (by assumption) ?_
          (try simp only [Act.put, List.setIfInBounds_toArray, List.set_cons_zero, List.set_cons_succ, List.getElem_toArray, List.getElem_cons_succ, List.getElem_cons_zero])
          refine wpAnyH_take (i := 13) (v := undef) rfl (by kernel_rfl) (by kernel_rfl) (by kernel_rfl) (fun _ _ _ h => h) (Or.inr ⟨by rfl, rfl⟩) (by assumption) ?_
          (try simp only [Act.put, List.setIfInBounds_toArray, List.set_cons_zero, List.set_cons_succ, List.getElem_toArray, List.getElem_cons_succ, List.getElem_cons_zero])
          refine wpAnyH_take (i := 14) (v := undef) rfl (by kernel_rfl) (by kernel_rfl) (by kernel_rfl) (fun _ _ _ h => h) (Or.inr ⟨by rfl, rfl⟩) (by assumption) ?_
          (try simp only [Act.put, List.setIfInBounds_toArray, List.set_cons_zero, List.set_cons_succ, List.getElem_toArray, List.getElem_cons_succ, List.getElem_cons_zero])
          refine wpAnyH_take (i := 15) (v := undef) rfl (by kernel_rfl) (by kernel_rfl) (by kernel_rfl) (fun _ _ _ h => h) (Or.inr ⟨by rfl, rfl⟩) (by assumption) ?_
          (try simp only [Act.put, List.setIfInBounds_toArray, List.set_cons_zero, List.set_cons_succ, List.getElem_toArray, List.getElem_cons_succ, List.getElem_cons_zero])
          refine wpAnyH_take (i := 16) (v := undef) rfl (by kernel_rfl) (by kernel_rfl) (by kernel_rfl) (fun _ _ _ h => h) (Or.inr ⟨by rfl, rfl⟩) (by assumption) ?_
          (try simp only [Act.put, List.setIfInBounds_toArray, List.set_cons_zero, List.set_cons_succ, List.getElem_toArray, List.getElem_cons_succ, List.getElem_cons_zero])
          refine wpAnyH_take (i := 17) (v := undef) rfl (by kernel_rfl) (by kernel_rfl) (by kernel_rfl) (fun _ _ _ h => h) (Or.inr ⟨by rfl, rfl⟩) (by assumption) ?_
          (try simp only [Act.put, List.setIfInBounds_toArray, List.set_cons_zero, List.set_cons_succ, List.getElem_toArray, List.getElem_cons_succ, List.getElem_cons_zero])
          refine wpAnyH_take (i := 18) (v := undef) rfl (by kernel_rfl) (by kernel_rfl) (by kernel_rfl) (fun _ _ _ h => h) (Or.inr ⟨by rfl, rfl⟩) (by assumption) ?_
          (try simp only [Act.put, List.setIfInBounds_toArray, List.set_cons_zero, List.set_cons_succ, List.getElem_toArray, List.getElem_cons_succ, List.getElem_cons_zero])
          refine wpAnyH_take (i := 19) (v := ?_) rfl (by kernel_rfl) (by kernel_rfl) (by kernel_rfl) (fun _ _ _ h => h) (Or.inl ⟨by rfl, ?_⟩) (by assumption) ?_
          rotate_left
          · intro w hSw; (try dsimp only at hSw); go_simp <;> with_reducible rfl
          (try simp only [Act.put, List.setIfInBounds_toArray, List.set_cons_zero, List.set_cons_succ, List.getElem_toArray, List.getElem_cons_succ, List.getElem_cons_zero])
          refine wpAnyH_take (i := 20) (v := ?_) rfl (by kernel_rfl) (by kernel_rfl) (by kernel_rfl) (fun _ _ _ h => h) (Or.inl ⟨by rfl, ?_⟩) (by assumption) ?_
          rotate_left
          · intro w hSw; (try dsimp only at hSw); go_simp <;> with_reducible rfl
          (try simp only [Act.put, List.setIfInBounds_toArray, List.set_cons_zero, List.set_cons_succ, List.getElem_toArray, List.getElem_cons_succ, List.getElem_cons_zero])
          refine wpAnyH_take (i := 21) (v := ?_) rfl (by kernel_rfl) (by kernel_rfl) (by kernel_rfl) (fun _ _ _ h => h) (Or.inl ⟨by rfl, ?_⟩) (by assumption) ?_
          rotate_left
          · intro w hSw; (try dsimp only at hSw); go_simp <;> with_reducible rfl
          (try simp only [Act.put, List.setIfInBounds_toArray, List.set_cons_zero, List.set_cons_succ, List.getElem_toArray, List.getElem_cons_succ, List.getElem_cons_zero])
          refine wpAnyH_done (by kernel_rfl) ?_ _
          clear x1 x2 hjl
          go_wp2_with fail
          go_loopg [20, 19] X.length (fun M u z wr => ∃ i : Nat, M = X.length - i ∧ i ≤ X.length ∧ u = .int .i64 (i : Nat) ∧ z = .int .i64 (sumW es (X.take i)) ∧ Below vb.heap.size vb wr ∧ ReadsI wr (some ⟨gY, 0, none⟩) X.length cY (X.set j odd))
          case atStart => exact ⟨0, rfl, Nat.zero_le _, rfl, rfl, KZ.out, (HY4.out.below KZ4.out)⟩
          case round =>
            obtain ⟨i, hM, hi, rfl, rfl, hb, hy⟩ := hrel
            have HM := Lib.hid hM
            have HB := Lib.hid hb
            have HYR := Lib.hid hy
            clear hM hb hy
            by_cases hlt : i < X.length
            · obtain ⟨bX, oX, eX, hcX⟩ := (RX.out.below HB.out).cell (by omega)
              injection eX with eX
              injection eX with eX1 eX2 _
              subst eX1 eX2
              have dX := hcX i hlt
              rw [Nat.zero_add] at dX
              have hss := sum_step (es := es) hlt
              have hsb := sum_bd HOK.out (X.take i)
              rw [List.length_take_of_le (by omega)] at hsb
              have hmm := HOKX.out i hlt
              have hwb := w_bd HOK.out (X.getD i 0).toNat
              obtain ⟨y, hy⟩ : ∃ y, y = X.getD i 0 := ⟨_, rfl⟩
              rw [← hy] at dX hss hmm hwb
              have hyw : (Lit.int .i64 y).wf = true := by unfold inB at hmm; simp only [Bool.and_eq_true, decide_eq_true_eq] at hmm; exact wf_of (by omega) (by omega)
              have hba : Below vb.heap.size vb (wr.alloc (.cells #[.int .i64 y] 3)) := bl_alloc HB.out _
              have hwt := weight_at (HT.out.below (bl_then B0.out hba)) (reads_one wr y hyw 3) (by omega)
              have hok1 : okE es [y] = true := by unfold okE; simp [hmm]
              have hwg : wgtT es [y] = (es.getD y.toNat (0, 0, 0)).2.2 := by unfold wgtT; rw [if_pos hok1]; simp [sumW]
              rw [hok1, hwg] at hwt
              obtain ⟨wy, hwy⟩ : ∃ wy, wy = (es.getD y.toNat (0, 0, 0)).2.2 := ⟨_, rfl⟩
              rw [← hwy] at hss hwb hwt
              obtain ⟨S, hS⟩ : ∃ S, S = sumW es (X.take i) := ⟨_, rfl⟩
              rw [← hS] at hss hsb ⊢
              have hsum : IntKind.i64.wrap (S + wy) = S + wy := IntWalk.i64_in _ (by omega)
              have HSS := Lib.hid hss
              have HWT := Lib.hid hwt
              have HBA := Lib.hid hba
              have i0' : (0 : Int) ≤ (i : Int) := by omega
              have i1' : (i : Int) < (X.length : Int) := by omega
              clear hcX hss hsb hmm hwb hy hyw hba hwt hok1 hwg hwy hS
              go_wp2_with fail
              refine HWT.out.mono ?_
              rintro e x1 ⟨rfl, hb⟩
              have HB2 := Lib.hid (bl_then HBA.out hb)
              have HY2 := Lib.hid (HYR.out.below ((bl_alloc (Below.refl _ _) _).trans (hb.mono (bl_alloc (Below.refl wr.heap.size wr) (.cells #[.int .i64 y] 3)).size)))
              clear hb dX
              go_wp2_with fail
              go_roundg (X.length - (i + 1))
              case measure => have := HM.out; omega
              case rel => exact ⟨i + 1, rfl, by omega, by go_num, by rw [HSS.out], HB2.out, HY2.out⟩
            · obtain rfl : i = X.length := by omega
              rw [List.take_length]
              have r1 := weight_at (HT.out.below (bl_then B0.out HB.out)) (RX.out.below HB.out) (by omega)
              rw [HWGT.out.1, HWGT.out.2] at r1
              have r2 := fun (w' : World) (hb : Below wr.heap.size wr w') => end_at (HT.out.below (bl_then B0.out (bl_then HB.out hb))) (HYR.out.below hb) E1
              have r3 := fun (w' : World) (hb : Below wr.heap.size wr w') => valid_at (HT.out.below (bl_then B0.out (bl_then HB.out hb))) (HYR.out.below hb) E1
              rw [HFIT.out] at r2 r3
              obtain ⟨S, hS⟩ : ∃ S, S = sumW es X := ⟨_, rfl⟩
              rw [← hS] at r1 ⊢
              obtain ⟨EN, hEN⟩ : ∃ EN, EN = endT es bs E1 (X.set j odd) := ⟨_, rfl⟩
              rw [← hEN] at r2
              have R1 := Lib.hid r1
              have R2 := Lib.hid r2
              have R3 := Lib.hid r3
              have s9 : (S == S) = true := by simp
              have f9 : ((true : Bool) == true) = true := by simp
              clear r1 r2 r3 hS hEN hlt hi
              go_wp2_with fail
              refine R1.out.mono ?_
              rintro e x1 ⟨rfl, hb⟩
              have X1 := Lib.hid hb
              clear hb
              go_wp2_with fail
              refine (R2.out _ X1.out).mono ?_
              rintro e x2 ⟨rfl, hb⟩
              have X2 := Lib.hid (bl_then X1.out hb)
              clear hb
              go_wp2_with fail
              refine (R3.out _ X2.out).mono ?_
              rintro e x3 ⟨rfl, hb⟩
              have X3 := Lib.hid (bl_then X2.out hb)
              clear hb
              go_wp2_with (go_at_call 11; refine (awake8 _).mono ?_; rintro e w6 ⟨rfl, hb6⟩)
              go_ret
              exact ⟨rfl, HBW.out.trans ((bl_then B0.out (bl_then HB.out (bl_then X3.out hb6))).mono HBW.out.size)⟩
        · have HFIT : Hid (walkB es bs E1 (X.set j odd) = turnB es bs odd (X.getD (j + 1) 0)) := Lib.hid (by rw [HSET.out, hf1, decide_eq_false hjl]; rfl)
          obtain ⟨lm, hlm⟩ : ∃ z, z = (X.length : Int) - 1 := ⟨_, rfl⟩
          have x1 : IntKind.i64.wrap ((X.length : Int) - 1) = lm := by rw [IntWalk.i64_in _ (by omega), hlm]
          have x2 : ((j : Int) == lm) = false := beq_false_of_ne (by omega)
          obtain ⟨j1', hj1⟩ : ∃ m, m = j + 1 := ⟨_, rfl⟩
          have x3 : IntKind.i64.wrap ((j : Int) + 1) = (j1' : Int) := by rw [IntWalk.i64_in _ (by omega)]; omega
          have x4 : (0 : Int) ≤ (j1' : Int) := by omega
          have x5 : (j1' : Int) < (X.length : Int) := by omega
          obtain ⟨bX, oX, eX, hcX⟩ := RX.out.cell (by omega)
          injection eX with eX
          injection eX with eX1 eX2 _
          subst eX1 eX2
          have dX := hcX j1' (by omega)
          rw [Nat.zero_add] at dX
          rw [← hj1] at HFIT
          obtain ⟨y, hy⟩ : ∃ y, y = X.getD j1' 0 := ⟨_, rfl⟩
          rw [← hy] at dX HFIT
          obtain ⟨F, hF⟩ : ∃ F, F = turnB es bs odd y := ⟨_, rfl⟩
          have t2 := fun (w' : World) (hb : Below vb.heap.size vb w') => turn4_any (HG.out.below (bl_then B0.out hb)) odd y
          rw [← hF] at t2 HFIT
          have T2 := Lib.hid t2
          have HDX := Lib.hid dX
          have HSX : Hid (∀ w', Below vb.heap.size vb w' → (w'.cell? ⟨w1.heap.size, 0, none⟩ = some (.slice A1 ns.length c1) ∧ w'.cell? ⟨w1.heap.size, 1, none⟩ = some (.slice A2 es.length c2) ∧ w'.cell? ⟨w1.heap.size, 2, none⟩ = some (.slice A3 bs.length c3)) ∧ w'.cell? ⟨gX, j1', none⟩ = some (.int .i64 y)) := Lib.hid fun w' h => ⟨HSQ.out w' h, cell_below HDX.out h⟩
          clear t1 hf1 hcX hlm hj1 hy hF t2 dX
          go_wp2_with fail
          refine wp_region_held_drew (S := fun w' => (w'.cell? ⟨w1.heap.size, 0, none⟩ = some (.slice A1 ns.length c1) ∧ w'.cell? ⟨w1.heap.size, 1, none⟩ = some (.slice A2 es.length c2) ∧ w'.cell? ⟨w1.heap.size, 2, none⟩ = some (.slice A3 bs.length c3)) ∧ w'.cell? ⟨gX, j1', none⟩ = some (.int .i64 y)) (by kernel_rfl) (HSX.out _ K0.out) (fun hHeld => ?_)
          refine wpAnyH_take (i := 0) (v := ?_) rfl (by kernel_rfl) (by kernel_rfl) (by kernel_rfl) (fun _ _ _ h => h) (Or.inl ⟨by rfl, ?_⟩) (by assumption) ?_
          rotate_left
          · intro w hSw; (try dsimp only at hSw); go_simp <;> with_reducible rfl
          (try simp only [Act.put, List.setIfInBounds_toArray, List.set_cons_zero, List.set_cons_succ, List.getElem_toArray, List.getElem_cons_succ, List.getElem_cons_zero])
          refine wpAnyH_take (i := 1) (v := ?_) rfl (by kernel_rfl) (by kernel_rfl) (by kernel_rfl) (fun _ _ _ h => h) (Or.inl ⟨by rfl, ?_⟩) (by assumption) ?_
          rotate_left
          · intro w hSw; (try dsimp only at hSw); go_simp <;> with_reducible rfl
          (try simp only [Act.put, List.setIfInBounds_toArray, List.set_cons_zero, List.set_cons_succ, List.getElem_toArray, List.getElem_cons_succ, List.getElem_cons_zero])
          refine wpAnyH_take (i := 2) (v := ?_) rfl (by kernel_rfl) (by kernel_rfl) (by kernel_rfl) (fun _ _ _ h => h) (Or.inl ⟨by rfl, ?_⟩) (by assumption) ?_
          rotate_left
          · intro w hSw; (try dsimp only at hSw); go_simp <;> with_reducible rfl
          (try simp only [Act.put, List.setIfInBounds_toArray, List.set_cons_zero, List.set_cons_succ, List.getElem_toArray, List.getElem_cons_succ, List.getElem_cons_zero])
          refine wpAnyH_ready (rs := [3]) (by kernel_rfl) (by simp) ?_
          refine AllReadyH.cons rfl (fun K hK => ?_) AllReadyH.nil
          go_simp
          refine (T1.out _ K0.out).mono ?_
          rintro e z1 ⟨rfl, hb⟩
          have KY : Hid (Below vb.heap.size vb z1) := Lib.hid (bl_then K0.out hb)
          have KY4 : Hid (Below w4.heap.size w4 z1) := Lib.hid (bl_then (bl_drew (Below.refl _ _)) hb)
          clear hb
          refine hK.out _ _ (HSX.out _ KY.out) (fun hHeld => ?_)
          (try simp only [Act.put, List.setIfInBounds_toArray, List.set_cons_zero, List.set_cons_succ, List.getElem_toArray, List.getElem_cons_succ, List.getElem_cons_zero])
          refine wpAnyH_take (i := 4) (v := ?_) rfl (by kernel_rfl) (by kernel_rfl) (by kernel_rfl) (fun _ _ _ h => h) (Or.inl ⟨by rfl, ?_⟩) (by assumption) ?_
          rotate_left
          · intro w hSw; (try dsimp only at hSw); go_simp <;> with_reducible rfl
          (try simp only [Act.put, List.setIfInBounds_toArray, List.set_cons_zero, List.set_cons_succ, List.getElem_toArray, List.getElem_cons_succ, List.getElem_cons_zero])
          refine wpAnyH_take (i := 5) (v := ?_) rfl (by kernel_rfl) (by kernel_rfl) (by kernel_rfl) (fun _ _ _ h => h) (Or.inl ⟨by rfl, ?_⟩) (by assumption) ?_
          rotate_left
          · intro w hSw; (try dsimp only at hSw); go_simp <;> with_reducible rfl
          (try simp only [Act.put, List.setIfInBounds_toArray, List.set_cons_zero, List.set_cons_succ, List.getElem_toArray, List.getElem_cons_succ, List.getElem_cons_zero])
          refine wpAnyH_take (i := 6) (v := ?_) rfl (by kernel_rfl) (by kernel_rfl) (by kernel_rfl) (fun _ _ _ h => h) (Or.inl ⟨by rfl, ?_⟩) (by assumption) ?_
          rotate_left
          · intro w hSw; (try dsimp only at hSw); go_simp <;> with_reducible rfl
          (try simp only [Act.put, List.setIfInBounds_toArray, List.set_cons_zero, List.set_cons_succ, List.getElem_toArray, List.getElem_cons_succ, List.getElem_cons_zero])
          refine wpAnyH_take (i := 7) (v := ?_) rfl (by kernel_rfl) (by kernel_rfl) (by kernel_rfl) (fun _ _ _ h => h) (Or.inl ⟨by rfl, ?_⟩) (by assumption) ?_
          rotate_left
          · intro w hSw; (try dsimp only at hSw); go_simp <;> with_reducible rfl
          (try simp only [Act.put, List.setIfInBounds_toArray, List.set_cons_zero, List.set_cons_succ, List.getElem_toArray, List.getElem_cons_succ, List.getElem_cons_zero])
          refine wpAnyH_take (i := 8) (v := ?_) rfl (by kernel_rfl) (by kernel_rfl) (by kernel_rfl) (fun _ _ _ h => h) (Or.inl ⟨by rfl, ?_⟩) (by assumption) ?_
          rotate_left
          · intro w hSw; (try dsimp only at hSw); go_simp <;> with_reducible rfl
          (try simp only [Act.put, List.setIfInBounds_toArray, List.set_cons_zero, List.set_cons_succ, List.getElem_toArray, List.getElem_cons_succ, List.getElem_cons_zero])
          refine wpAnyH_take (i := 9) (v := ?_) rfl (by kernel_rfl) (by kernel_rfl) (by kernel_rfl) (fun _ _ _ h => h) (Or.inl ⟨by rfl, ?_⟩) (by assumption) ?_
          rotate_left
          · intro w hSw; (try dsimp only at hSw); go_simp <;> with_reducible rfl
          (try simp only [Act.put, List.setIfInBounds_toArray, List.set_cons_zero, List.set_cons_succ, List.getElem_toArray, List.getElem_cons_succ, List.getElem_cons_zero])
          refine wpAnyH_take (i := 10) (v := ?_) rfl (by kernel_rfl) (by kernel_rfl) (by kernel_rfl) (fun _ _ _ h => h) (Or.inl ⟨by rfl, ?_⟩) (by assumption) ?_
          rotate_left
          · intro w hSw; (try dsimp only at hSw); go_simp <;> with_reducible rfl
          (try simp only [Act.put, List.setIfInBounds_toArray, List.set_cons_zero, List.set_cons_succ, List.getElem_toArray, List.getElem_cons_succ, List.getElem_cons_zero])
          refine wpAnyH_take (i := 11) (v := ?_) rfl (by kernel_rfl) (by kernel_rfl) (by kernel_rfl) (fun _ _ _ h => h) (Or.inl ⟨by rfl, ?_⟩) (by assumption) ?_
          rotate_left
          · intro w hSw; (try dsimp only at hSw); go_simp <;> with_reducible rfl
          (try simp only [Act.put, List.setIfInBounds_toArray, List.set_cons_zero, List.set_cons_succ, List.getElem_toArray, List.getElem_cons_succ, List.getElem_cons_zero])
          refine wpAnyH_take (i := 12) (v := ?_) rfl (by kernel_rfl) (by kernel_rfl) (by kernel_rfl) (fun _ _ _ h => h) (Or.inl ⟨by rfl, ?_⟩) (by assumption) ?_
          rotate_left
          · intro w hSw; (try dsimp only at hSw); go_simp <;> with_reducible rfl
          (try simp only [Act.put, List.setIfInBounds_toArray, List.set_cons_zero, List.set_cons_succ, List.getElem_toArray, List.getElem_cons_succ, List.getElem_cons_zero])
          refine wpAnyH_take (i := 13) (v := ?_) rfl (by kernel_rfl) (by kernel_rfl) (by kernel_rfl) (fun _ _ _ h => h) (Or.inl ⟨by rfl, ?_⟩) (by assumption) ?_
          rotate_left
          · intro w hSw; (try dsimp only at hSw); go_simp <;> with_reducible rfl
          (try simp only [Act.put, List.setIfInBounds_toArray, List.set_cons_zero, List.set_cons_succ, List.getElem_toArray, List.getElem_cons_succ, List.getElem_cons_zero])
          refine wpAnyH_take (i := 14) (v := ?_) rfl (by kernel_rfl) (by kernel_rfl) (by kernel_rfl) (fun _ _ _ h => h) (Or.inl ⟨by rfl, ?_⟩) (by assumption) ?_
          rotate_left
          · intro w hSw; (try dsimp only at hSw); go_simp <;> with_reducible rfl
          (try simp only [Act.put, List.setIfInBounds_toArray, List.set_cons_zero, List.set_cons_succ, List.getElem_toArray, List.getElem_cons_succ, List.getElem_cons_zero])
          refine wpAnyH_take (i := 15) (v := ?_) rfl (by kernel_rfl) (by kernel_rfl) (by kernel_rfl) (fun _ _ _ h => h) (Or.inl ⟨by rfl, ?_⟩) (by assumption) ?_
          rotate_left
          · intro w hSw; (try dsimp only at hSw); go_simp <;> with_reducible rfl
          (try simp only [Act.put, List.setIfInBounds_toArray, List.set_cons_zero, List.set_cons_succ, List.getElem_toArray, List.getElem_cons_succ, List.getElem_cons_zero])
          refine wpAnyH_take (i := 16) (v := ?_) rfl (by kernel_rfl) (by kernel_rfl) (by kernel_rfl) (fun _ _ _ h => h) (Or.inl ⟨by rfl, ?_⟩) (by assumption) ?_
          rotate_left
          · intro w hSw; (try dsimp only at hSw); go_simp <;> with_reducible rfl
          (try simp only [Act.put, List.setIfInBounds_toArray, List.set_cons_zero, List.set_cons_succ, List.getElem_toArray, List.getElem_cons_succ, List.getElem_cons_zero])
          refine wpAnyH_take (i := 17) (v := ?_) rfl (by kernel_rfl) (by kernel_rfl) (by kernel_rfl) (fun _ _ _ h => h) (Or.inl ⟨by rfl, ?_⟩) (by assumption) ?_
          rotate_left
          · intro w hSw; (try dsimp only at hSw); go_simp <;> with_reducible rfl
          (try simp only [Act.put, List.setIfInBounds_toArray, List.set_cons_zero, List.set_cons_succ, List.getElem_toArray, List.getElem_cons_succ, List.getElem_cons_zero])
          refine wpAnyH_ready (rs := [18]) (by kernel_rfl) (by simp) ?_
          refine AllReadyH.cons rfl (fun K hK => ?_) AllReadyH.nil
          go_simp
          refine (T2.out _ KY.out).mono ?_
          rintro e z2 ⟨rfl, hb⟩
          have KZ : Hid (Below vb.heap.size vb z2) := Lib.hid (bl_then KY.out hb)
          have KZ4 : Hid (Below w4.heap.size w4 z2) := Lib.hid (bl_then KY4.out hb)
          clear hb
          refine hK.out _ _ (HSX.out _ KZ.out) (fun hHeld => ?_)
          (try simp only [Act.put, List.setIfInBounds_toArray, List.set_cons_zero, List.set_cons_succ, List.getElem_toArray, List.getElem_cons_succ, List.getElem_cons_zero])
          refine wpAnyH_take (i := 19) (v := ?_) rfl (by kernel_rfl) (by kernel_rfl) (by kernel_rfl) (fun _ _ _ h => h) (Or.inl ⟨by rfl, ?_⟩) (by assumption) ?_
          rotate_left
          · intro w hSw; (try dsimp only at hSw); go_simp <;> with_reducible rfl
          (try simp only [Act.put, List.setIfInBounds_toArray, List.set_cons_zero, List.set_cons_succ, List.getElem_toArray, List.getElem_cons_succ, List.getElem_cons_zero])
          refine wpAnyH_take (i := 20) (v := ?_) rfl (by kernel_rfl) (by kernel_rfl) (by kernel_rfl) (fun _ _ _ h => h) (Or.inl ⟨by rfl, ?_⟩) (by assumption) ?_
          rotate_left
          · intro w hSw; (try dsimp only at hSw); go_simp <;> with_reducible rfl
          (try simp only [Act.put, List.setIfInBounds_toArray, List.set_cons_zero, List.set_cons_succ, List.getElem_toArray, List.getElem_cons_succ, List.getElem_cons_zero])
          refine wpAnyH_take (i := 21) (v := ?_) rfl (by kernel_rfl) (by kernel_rfl) (by kernel_rfl) (fun _ _ _ h => h) (Or.inl ⟨by rfl, ?_⟩) (by assumption) ?_
          rotate_left
          · intro w hSw; (try dsimp only at hSw); go_simp <;> with_reducible rfl
          (try simp only [Act.put, List.setIfInBounds_toArray, List.set_cons_zero, List.set_cons_succ, List.getElem_toArray, List.getElem_cons_succ, List.getElem_cons_zero])
          refine wpAnyH_done (by kernel_rfl) ?_ _
          clear x1 x2 x3 x4 x5 hjl
          go_wp2_with fail
          go_loopg [20, 19] X.length (fun M u z wr => ∃ i : Nat, M = X.length - i ∧ i ≤ X.length ∧ u = .int .i64 (i : Nat) ∧ z = .int .i64 (sumW es (X.take i)) ∧ Below vb.heap.size vb wr ∧ ReadsI wr (some ⟨gY, 0, none⟩) X.length cY (X.set j odd))
          case atStart => exact ⟨0, rfl, Nat.zero_le _, rfl, rfl, KZ.out, (HY4.out.below KZ4.out)⟩
          case round =>
            obtain ⟨i, hM, hi, rfl, rfl, hb, hy⟩ := hrel
            have HM := Lib.hid hM
            have HB := Lib.hid hb
            have HYR := Lib.hid hy
            clear hM hb hy
            by_cases hlt : i < X.length
            · obtain ⟨bX, oX, eX, hcX⟩ := (RX.out.below HB.out).cell (by omega)
              injection eX with eX
              injection eX with eX1 eX2 _
              subst eX1 eX2
              have dX := hcX i hlt
              rw [Nat.zero_add] at dX
              have hss := sum_step (es := es) hlt
              have hsb := sum_bd HOK.out (X.take i)
              rw [List.length_take_of_le (by omega)] at hsb
              have hmm := HOKX.out i hlt
              have hwb := w_bd HOK.out (X.getD i 0).toNat
              obtain ⟨y, hy⟩ : ∃ y, y = X.getD i 0 := ⟨_, rfl⟩
              rw [← hy] at dX hss hmm hwb
              have hyw : (Lit.int .i64 y).wf = true := by unfold inB at hmm; simp only [Bool.and_eq_true, decide_eq_true_eq] at hmm; exact wf_of (by omega) (by omega)
              have hba : Below vb.heap.size vb (wr.alloc (.cells #[.int .i64 y] 3)) := bl_alloc HB.out _
              have hwt := weight_at (HT.out.below (bl_then B0.out hba)) (reads_one wr y hyw 3) (by omega)
              have hok1 : okE es [y] = true := by unfold okE; simp [hmm]
              have hwg : wgtT es [y] = (es.getD y.toNat (0, 0, 0)).2.2 := by unfold wgtT; rw [if_pos hok1]; simp [sumW]
              rw [hok1, hwg] at hwt
              obtain ⟨wy, hwy⟩ : ∃ wy, wy = (es.getD y.toNat (0, 0, 0)).2.2 := ⟨_, rfl⟩
              rw [← hwy] at hss hwb hwt
              obtain ⟨S, hS⟩ : ∃ S, S = sumW es (X.take i) := ⟨_, rfl⟩
              rw [← hS] at hss hsb ⊢
              have hsum : IntKind.i64.wrap (S + wy) = S + wy := IntWalk.i64_in _ (by omega)
              have HSS := Lib.hid hss
              have HWT := Lib.hid hwt
              have HBA := Lib.hid hba
              have i0' : (0 : Int) ≤ (i : Int) := by omega
              have i1' : (i : Int) < (X.length : Int) := by omega
              clear hcX hss hsb hmm hwb hy hyw hba hwt hok1 hwg hwy hS
              go_wp2_with fail
              refine HWT.out.mono ?_
              rintro e x1 ⟨rfl, hb⟩
              have HB2 := Lib.hid (bl_then HBA.out hb)
              have HY2 := Lib.hid (HYR.out.below ((bl_alloc (Below.refl _ _) _).trans (hb.mono (bl_alloc (Below.refl wr.heap.size wr) (.cells #[.int .i64 y] 3)).size)))
              clear hb dX
              go_wp2_with fail
              go_roundg (X.length - (i + 1))
              case measure => have := HM.out; omega
              case rel => exact ⟨i + 1, rfl, by omega, by go_num, by rw [HSS.out], HB2.out, HY2.out⟩
            · obtain rfl : i = X.length := by omega
              rw [List.take_length]
              have r1 := weight_at (HT.out.below (bl_then B0.out HB.out)) (RX.out.below HB.out) (by omega)
              rw [HWGT.out.1, HWGT.out.2] at r1
              have r2 := fun (w' : World) (hb : Below wr.heap.size wr w') => end_at (HT.out.below (bl_then B0.out (bl_then HB.out hb))) (HYR.out.below hb) E1
              have r3 := fun (w' : World) (hb : Below wr.heap.size wr w') => valid_at (HT.out.below (bl_then B0.out (bl_then HB.out hb))) (HYR.out.below hb) E1
              rw [HFIT.out] at r2 r3
              obtain ⟨S, hS⟩ : ∃ S, S = sumW es X := ⟨_, rfl⟩
              rw [← hS] at r1 ⊢
              obtain ⟨EN, hEN⟩ : ∃ EN, EN = endT es bs E1 (X.set j odd) := ⟨_, rfl⟩
              rw [← hEN] at r2
              have R1 := Lib.hid r1
              have R2 := Lib.hid r2
              have R3 := Lib.hid r3
              have s9 : (S == S) = true := by simp
              have f9 : ((F : Bool) == F) = true := by simp
              clear r1 r2 r3 hS hEN hlt hi
              go_wp2_with fail
              refine R1.out.mono ?_
              rintro e x1 ⟨rfl, hb⟩
              have X1 := Lib.hid hb
              clear hb
              go_wp2_with fail
              refine (R2.out _ X1.out).mono ?_
              rintro e x2 ⟨rfl, hb⟩
              have X2 := Lib.hid (bl_then X1.out hb)
              clear hb
              go_wp2_with fail
              refine (R3.out _ X2.out).mono ?_
              rintro e x3 ⟨rfl, hb⟩
              have X3 := Lib.hid (bl_then X2.out hb)
              clear hb
              go_wp2_with (go_at_call 11; refine (awake8 _).mono ?_; rintro e w6 ⟨rfl, hb6⟩)
              go_ret
              exact ⟨rfl, HBW.out.trans ((bl_then B0.out (bl_then HB.out (bl_then X3.out hb6))).mono HBW.out.size)⟩
    · have hm0 := HMID.out hjp
      rw [hm0] at HSET
      obtain ⟨bX, oX, eX, hcX⟩ := (RX.out.below HBX.out).cell (by omega)
      injection eX with eX
      injection eX with eX1 eX2 _
      subst eX1 eX2
      have dM := hcX (j - 1) (by omega)
      rw [Nat.zero_add] at dM
      obtain ⟨mm, hmm⟩ : ∃ z, z = X.getD (j - 1) 0 := ⟨_, rfl⟩
      rw [← hmm] at HSET dM
      have w1' : IntKind.i64.wrap ((j : Int) - 1) = ((j - 1 : Nat) : Int) := by rw [IntWalk.i64_in _ (by omega)]; omega
      obtain ⟨jm, hjm⟩ : ∃ z, z = j - 1 := ⟨_, rfl⟩
      rw [← hjm] at dM w1'
      have g0 : (0 : Int) < (j : Int) := by omega
      have g6 : (0 : Int) ≤ (jm : Int) := by omega
      have g7 : (jm : Int) < (X.length : Int) := by omega
      clear hcX hmm hjm hm0
      go_upto_region 16 with fail
      rw [← HW4.out]
      clear c0 f0 dM
      cases hf1 : turnB es bs mm odd with
      | false =>
        have HFIT : Hid (walkB es bs E1 (X.set j odd) = false) := Lib.hid (by rw [HSET.out, hf1]; rfl)
        have t1 := fun (w' : World) (hb : Below vb.heap.size vb w') => turn4_any (HG.out.below (bl_then B0.out hb)) mm odd
        rw [hf1] at t1
        have T1 := Lib.hid t1
        clear t1 hf1
        go_wp2_with fail
        refine wp_region_held_drew (S := fun w' => w'.cell? ⟨w1.heap.size, 0, none⟩ = some (.slice A1 ns.length c1) ∧ w'.cell? ⟨w1.heap.size, 1, none⟩ = some (.slice A2 es.length c2) ∧ w'.cell? ⟨w1.heap.size, 2, none⟩ = some (.slice A3 bs.length c3)) (by kernel_rfl) (HSQ.out _ K0.out) (fun hHeld => ?_)
        refine wpAnyH_take (i := 0) (v := ?_) rfl (by kernel_rfl) (by kernel_rfl) (by kernel_rfl) (fun _ _ _ h => h) (Or.inl ⟨by rfl, ?_⟩) (by assumption) ?_
        rotate_left
        · intro w hSw; (try dsimp only at hSw); go_simp <;> with_reducible rfl
        (try simp only [Act.put, List.setIfInBounds_toArray, List.set_cons_zero, List.set_cons_succ, List.getElem_toArray, List.getElem_cons_succ, List.getElem_cons_zero])
        refine wpAnyH_take (i := 1) (v := ?_) rfl (by kernel_rfl) (by kernel_rfl) (by kernel_rfl) (fun _ _ _ h => h) (Or.inl ⟨by rfl, ?_⟩) (by assumption) ?_
        rotate_left
        · intro w hSw; (try dsimp only at hSw); go_simp <;> with_reducible rfl
        (try simp only [Act.put, List.setIfInBounds_toArray, List.set_cons_zero, List.set_cons_succ, List.getElem_toArray, List.getElem_cons_succ, List.getElem_cons_zero])
        refine wpAnyH_take (i := 2) (v := ?_) rfl (by kernel_rfl) (by kernel_rfl) (by kernel_rfl) (fun _ _ _ h => h) (Or.inl ⟨by rfl, ?_⟩) (by assumption) ?_
        rotate_left
        · intro w hSw; (try dsimp only at hSw); go_simp <;> with_reducible rfl
        (try simp only [Act.put, List.setIfInBounds_toArray, List.set_cons_zero, List.set_cons_succ, List.getElem_toArray, List.getElem_cons_succ, List.getElem_cons_zero])
        refine wpAnyH_ready (rs := [3]) (by kernel_rfl) (by simp) ?_
        refine AllReadyH.cons rfl (fun K hK => ?_) AllReadyH.nil
        go_simp
        refine (T1.out _ K0.out).mono ?_
        rintro e z1 ⟨rfl, hb⟩
        have KZ : Hid (Below vb.heap.size vb z1) := Lib.hid (bl_then K0.out hb)
        have KZ4 : Hid (Below w4.heap.size w4 z1) := Lib.hid (bl_then (bl_drew (Below.refl _ _)) hb)
        clear hb
        refine hK.out _ _ (HSQ.out _ KZ.out) (fun hHeld => ?_)
        (try simp only [Act.put, List.setIfInBounds_toArray, List.set_cons_zero, List.set_cons_succ, List.getElem_toArray, List.getElem_cons_succ, List.getElem_cons_zero])
        refine wpAnyH_take (i := 4) (v := ?_) rfl (by kernel_rfl) (by kernel_rfl) (by kernel_rfl) (fun _ _ _ h => h) (Or.inl ⟨by rfl, ?_⟩) (by assumption) ?_
        rotate_left
        · intro w hSw; (try dsimp only at hSw); go_simp <;> with_reducible rfl
        (try simp only [Act.put, List.setIfInBounds_toArray, List.set_cons_zero, List.set_cons_succ, List.getElem_toArray, List.getElem_cons_succ, List.getElem_cons_zero])
        refine wpAnyH_take (i := 5) (v := undef) rfl (by kernel_rfl) (by kernel_rfl) (by kernel_rfl) (fun _ _ _ h => h) (Or.inr ⟨by rfl, rfl⟩) (by assumption) ?_
        (try simp only [Act.put, List.setIfInBounds_toArray, List.set_cons_zero, List.set_cons_succ, List.getElem_toArray, List.getElem_cons_succ, List.getElem_cons_zero])
        refine wpAnyH_take (i := 6) (v := undef) rfl (by kernel_rfl) (by kernel_rfl) (by kernel_rfl) (fun _ _ _ h => h) (Or.inr ⟨by rfl, rfl⟩) (by assumption) ?_
        (try simp only [Act.put, List.setIfInBounds_toArray, List.set_cons_zero, List.set_cons_succ, List.getElem_toArray, List.getElem_cons_succ, List.getElem_cons_zero])
        refine wpAnyH_take (i := 7) (v := undef) rfl (by kernel_rfl) (by kernel_rfl) (by kernel_rfl) (fun _ _ _ h => h) (Or.inr ⟨by rfl, rfl⟩) (by assumption) ?_
        (try simp only [Act.put, List.setIfInBounds_toArray, List.set_cons_zero, List.set_cons_succ, List.getElem_toArray, List.getElem_cons_succ, List.getElem_cons_zero])
        refine wpAnyH_take (i := 8) (v := undef) rfl (by kernel_rfl) (by kernel_rfl) (by kernel_rfl) (fun _ _ _ h => h) (Or.inr ⟨by rfl, rfl⟩) (by assumption) ?_
        (try simp only [Act.put, List.setIfInBounds_toArray, List.set_cons_zero, List.set_cons_succ, List.getElem_toArray, List.getElem_cons_succ, List.getElem_cons_zero])
        refine wpAnyH_take (i := 9) (v := undef) rfl (by kernel_rfl) (by kernel_rfl) (by kernel_rfl) (fun _ _ _ h => h) (Or.inr ⟨by rfl, rfl⟩) (by assumption) ?_
        (try simp only [Act.put, List.setIfInBounds_toArray, List.set_cons_zero, List.set_cons_succ, List.getElem_toArray, List.getElem_cons_succ, List.getElem_cons_zero])
        refine wpAnyH_take (i := 10) (v := undef) rfl (by kernel_rfl) (by kernel_rfl) (by kernel_rfl) (fun _ _ _ h => h) (Or.inr ⟨by rfl, rfl⟩) (by assumption) ?_
        (try simp only [Act.put, List.setIfInBounds_toArray, List.set_cons_zero, List.set_cons_succ, List.getElem_toArray, List.getElem_cons_succ, List.getElem_cons_zero])
        refine wpAnyH_take (i := 11) (v := undef) rfl (by kernel_rfl) (by kernel_rfl) (by kernel_rfl) (fun _ _ _ h => h) (Or.inr ⟨by rfl, rfl⟩) (by assumption) ?_
        (try simp only [Act.put, List.setIfInBounds_toArray, List.set_cons_zero, List.set_cons_succ, List.getElem_toArray, List.getElem_cons_succ, List.getElem_cons_zero])
        refine wpAnyH_take (i := 12) (v := undef) rfl (by kernel_rfl) (by kernel_rfl) (by kernel_rfl) (fun _ _ _ h => h) (Or.inr ⟨by rfl, rfl⟩) (by assumption) ?_
        (try simp only [Act.put, List.setIfInBounds_toArray, List.set_cons_zero, List.set_cons_succ, List.getElem_toArray, List.getElem_cons_succ, List.getElem_cons_zero])
        refine wpAnyH_take (i := 13) (v := undef) rfl (by kernel_rfl) (by kernel_rfl) (by kernel_rfl) (fun _ _ _ h => h) (Or.inr ⟨by rfl, rfl⟩) (by assumption) ?_
        (try simp only [Act.put, List.setIfInBounds_toArray, List.set_cons_zero, List.set_cons_succ, List.getElem_toArray, List.getElem_cons_succ, List.getElem_cons_zero])
        refine wpAnyH_take (i := 14) (v := undef) rfl (by kernel_rfl) (by kernel_rfl) (by kernel_rfl) (fun _ _ _ h => h) (Or.inr ⟨by rfl, rfl⟩) (by assumption) ?_
        (try simp only [Act.put, List.setIfInBounds_toArray, List.set_cons_zero, List.set_cons_succ, List.getElem_toArray, List.getElem_cons_succ, List.getElem_cons_zero])
        refine wpAnyH_take (i := 15) (v := undef) rfl (by kernel_rfl) (by kernel_rfl) (by kernel_rfl) (fun _ _ _ h => h) (Or.inr ⟨by rfl, rfl⟩) (by assumption) ?_
        (try simp only [Act.put, List.setIfInBounds_toArray, List.set_cons_zero, List.set_cons_succ, List.getElem_toArray, List.getElem_cons_succ, List.getElem_cons_zero])
        refine wpAnyH_take (i := 16) (v := undef) rfl (by kernel_rfl) (by kernel_rfl) (by kernel_rfl) (fun _ _ _ h => h) (Or.inr ⟨by rfl, rfl⟩) (by assumption) ?_
        (try simp only [Act.put, List.setIfInBounds_toArray, List.set_cons_zero, List.set_cons_succ, List.getElem_toArray, List.getElem_cons_succ, List.getElem_cons_zero])
        refine wpAnyH_take (i := 17) (v := undef) rfl (by kernel_rfl) (by kernel_rfl) (by kernel_rfl) (fun _ _ _ h => h) (Or.inr ⟨by rfl, rfl⟩) (by assumption) ?_
        (try simp only [Act.put, List.setIfInBounds_toArray, List.set_cons_zero, List.set_cons_succ, List.getElem_toArray, List.getElem_cons_succ, List.getElem_cons_zero])
        refine wpAnyH_take (i := 18) (v := undef) rfl (by kernel_rfl) (by kernel_rfl) (by kernel_rfl) (fun _ _ _ h => h) (Or.inr ⟨by rfl, rfl⟩) (by assumption) ?_
        (try simp only [Act.put, List.setIfInBounds_toArray, List.set_cons_zero, List.set_cons_succ, List.getElem_toArray, List.getElem_cons_succ, List.getElem_cons_zero])
        refine wpAnyH_take (i := 19) (v := undef) rfl (by kernel_rfl) (by kernel_rfl) (by kernel_rfl) (fun _ _ _ h => h) (Or.inr ⟨by rfl, rfl⟩) (by assumption) ?_
        (try simp only [Act.put, List.setIfInBounds_toArray, List.set_cons_zero, List.set_cons_succ, List.getElem_toArray, List.getElem_cons_succ, List.getElem_cons_zero])
        refine wpAnyH_take (i := 20) (v := ?_) rfl (by kernel_rfl) (by kernel_rfl) (by kernel_rfl) (fun _ _ _ h => h) (Or.inl ⟨by rfl, ?_⟩) (by assumption) ?_
        rotate_left
        · intro w hSw; (try dsimp only at hSw); go_simp <;> with_reducible rfl
        (try simp only [Act.put, List.setIfInBounds_toArray, List.set_cons_zero, List.set_cons_succ, List.getElem_toArray, List.getElem_cons_succ, List.getElem_cons_zero])
        refine wpAnyH_take (i := 21) (v := ?_) rfl (by kernel_rfl) (by kernel_rfl) (by kernel_rfl) (fun _ _ _ h => h) (Or.inl ⟨by rfl, ?_⟩) (by assumption) ?_
        rotate_left
        · intro w hSw; (try dsimp only at hSw); go_simp <;> with_reducible rfl
        (try simp only [Act.put, List.setIfInBounds_toArray, List.set_cons_zero, List.set_cons_succ, List.getElem_toArray, List.getElem_cons_succ, List.getElem_cons_zero])
        refine wpAnyH_done (by kernel_rfl) ?_ _
        go_wp2_with fail
        go_loopg [20, 19] X.length (fun M u z wr => ∃ i : Nat, M = X.length - i ∧ i ≤ X.length ∧ u = .int .i64 (i : Nat) ∧ z = .int .i64 (sumW es (X.take i)) ∧ Below vb.heap.size vb wr ∧ ReadsI wr (some ⟨gY, 0, none⟩) X.length cY (X.set j odd))
        case atStart => exact ⟨0, rfl, Nat.zero_le _, rfl, rfl, KZ.out, (HY4.out.below KZ4.out)⟩
        case round =>
          obtain ⟨i, hM, hi, rfl, rfl, hb, hy⟩ := hrel
          have HM := Lib.hid hM
          have HB := Lib.hid hb
          have HYR := Lib.hid hy
          clear hM hb hy
          by_cases hlt : i < X.length
          · obtain ⟨bX, oX, eX, hcX⟩ := (RX.out.below HB.out).cell (by omega)
            injection eX with eX
            injection eX with eX1 eX2 _
            subst eX1 eX2
            have dX := hcX i hlt
            rw [Nat.zero_add] at dX
            have hss := sum_step (es := es) hlt
            have hsb := sum_bd HOK.out (X.take i)
            rw [List.length_take_of_le (by omega)] at hsb
            have hmm := HOKX.out i hlt
            have hwb := w_bd HOK.out (X.getD i 0).toNat
            obtain ⟨y, hy⟩ : ∃ y, y = X.getD i 0 := ⟨_, rfl⟩
            rw [← hy] at dX hss hmm hwb
            have hyw : (Lit.int .i64 y).wf = true := by unfold inB at hmm; simp only [Bool.and_eq_true, decide_eq_true_eq] at hmm; exact wf_of (by omega) (by omega)
            have hba : Below vb.heap.size vb (wr.alloc (.cells #[.int .i64 y] 3)) := bl_alloc HB.out _
            have hwt := weight_at (HT.out.below (bl_then B0.out hba)) (reads_one wr y hyw 3) (by omega)
            have hok1 : okE es [y] = true := by unfold okE; simp [hmm]
            have hwg : wgtT es [y] = (es.getD y.toNat (0, 0, 0)).2.2 := by unfold wgtT; rw [if_pos hok1]; simp [sumW]
            rw [hok1, hwg] at hwt
            obtain ⟨wy, hwy⟩ : ∃ wy, wy = (es.getD y.toNat (0, 0, 0)).2.2 := ⟨_, rfl⟩
            rw [← hwy] at hss hwb hwt
            obtain ⟨S, hS⟩ : ∃ S, S = sumW es (X.take i) := ⟨_, rfl⟩
            rw [← hS] at hss hsb ⊢
            have hsum : IntKind.i64.wrap (S + wy) = S + wy := IntWalk.i64_in _ (by omega)
            have HSS := Lib.hid hss
            have HWT := Lib.hid hwt
            have HBA := Lib.hid hba
            have i0' : (0 : Int) ≤ (i : Int) := by omega
            have i1' : (i : Int) < (X.length : Int) := by omega
            clear hcX hss hsb hmm hwb hy hyw hba hwt hok1 hwg hwy hS
            go_wp2_with fail
            refine HWT.out.mono ?_
            rintro e x1 ⟨rfl, hb⟩
            have HB2 := Lib.hid (bl_then HBA.out hb)
            have HY2 := Lib.hid (HYR.out.below ((bl_alloc (Below.refl _ _) _).trans (hb.mono (bl_alloc (Below.refl wr.heap.size wr) (.cells #[.int .i64 y] 3)).size)))
            clear hb dX
            go_wp2_with fail
            go_roundg (X.length - (i + 1))
            case measure => have := HM.out; omega
            case rel => exact ⟨i + 1, rfl, by omega, by go_num, by rw [HSS.out], HB2.out, HY2.out⟩
          · obtain rfl : i = X.length := by omega
            rw [List.take_length]
            have r1 := weight_at (HT.out.below (bl_then B0.out HB.out)) (RX.out.below HB.out) (by omega)
            rw [HWGT.out.1, HWGT.out.2] at r1
            have r2 := fun (w' : World) (hb : Below wr.heap.size wr w') => end_at (HT.out.below (bl_then B0.out (bl_then HB.out hb))) (HYR.out.below hb) E1
            have r3 := fun (w' : World) (hb : Below wr.heap.size wr w') => valid_at (HT.out.below (bl_then B0.out (bl_then HB.out hb))) (HYR.out.below hb) E1
            rw [HFIT.out] at r2 r3
            obtain ⟨S, hS⟩ : ∃ S, S = sumW es X := ⟨_, rfl⟩
            rw [← hS] at r1 ⊢
            obtain ⟨EN, hEN⟩ : ∃ EN, EN = endT es bs E1 (X.set j odd) := ⟨_, rfl⟩
            rw [← hEN] at r2
            have R1 := Lib.hid r1
            have R2 := Lib.hid r2
            have R3 := Lib.hid r3
            have s9 : (S == S) = true := by simp
            have f9 : ((false : Bool) == false) = true := by simp
            clear r1 r2 r3 hS hEN hlt hi
            go_wp2_with fail
            refine R1.out.mono ?_
            rintro e x1 ⟨rfl, hb⟩
            have X1 := Lib.hid hb
            clear hb
            go_wp2_with fail
            refine (R2.out _ X1.out).mono ?_
            rintro e x2 ⟨rfl, hb⟩
            have X2 := Lib.hid (bl_then X1.out hb)
            clear hb
            go_wp2_with fail
            refine (R3.out _ X2.out).mono ?_
            rintro e x3 ⟨rfl, hb⟩
            have X3 := Lib.hid (bl_then X2.out hb)
            clear hb
            go_wp2_with (go_at_call 11; refine (awake8 _).mono ?_; rintro e w6 ⟨rfl, hb6⟩)
            go_ret
            exact ⟨rfl, HBW.out.trans ((bl_then B0.out (bl_then HB.out (bl_then X3.out hb6))).mono HBW.out.size)⟩
      | true =>
        have t1 := fun (w' : World) (hb : Below vb.heap.size vb w') => turn4_any (HG.out.below (bl_then B0.out hb)) mm odd
        rw [hf1] at t1
        have T1 := Lib.hid t1
        by_cases hjl : j + 1 = X.length
        · have HFIT : Hid (walkB es bs E1 (X.set j odd) = true) := Lib.hid (by rw [HSET.out, hf1, decide_eq_true hjl]; rfl)
          have x1 : IntKind.i64.wrap ((X.length : Int) - 1) = (j : Int) := by rw [IntWalk.i64_in _ (by omega)]; omega
          have x2 : ((j : Int) == (j : Int)) = true := by simp
          clear t1 hf1
          go_wp2_with fail
          refine wp_region_held_drew (S := fun w' => w'.cell? ⟨w1.heap.size, 0, none⟩ = some (.slice A1 ns.length c1) ∧ w'.cell? ⟨w1.heap.size, 1, none⟩ = some (.slice A2 es.length c2) ∧ w'.cell? ⟨w1.heap.size, 2, none⟩ = some (.slice A3 bs.length c3)) (by kernel_rfl) (HSQ.out _ K0.out) (fun hHeld => ?_)
          refine wpAnyH_take (i := 0) (v := ?_) rfl (by kernel_rfl) (by kernel_rfl) (by kernel_rfl) (fun _ _ _ h => h) (Or.inl ⟨by rfl, ?_⟩) (by assumption) ?_
          rotate_left
          · intro w hSw; (try dsimp only at hSw); go_simp <;> with_reducible rfl
          (try simp only [Act.put, List.setIfInBounds_toArray, List.set_cons_zero, List.set_cons_succ, List.getElem_toArray, List.getElem_cons_succ, List.getElem_cons_zero])
          refine wpAnyH_take (i := 1) (v := ?_) rfl (by kernel_rfl) (by kernel_rfl) (by kernel_rfl) (fun _ _ _ h => h) (Or.inl ⟨by rfl, ?_⟩) (by assumption) ?_
          rotate_left
          · intro w hSw; (try dsimp only at hSw); go_simp <;> with_reducible rfl
          (try simp only [Act.put, List.setIfInBounds_toArray, List.set_cons_zero, List.set_cons_succ, List.getElem_toArray, List.getElem_cons_succ, List.getElem_cons_zero])
          refine wpAnyH_take (i := 2) (v := ?_) rfl (by kernel_rfl) (by kernel_rfl) (by kernel_rfl) (fun _ _ _ h => h) (Or.inl ⟨by rfl, ?_⟩) (by assumption) ?_
          rotate_left
          · intro w hSw; (try dsimp only at hSw); go_simp <;> with_reducible rfl
          (try simp only [Act.put, List.setIfInBounds_toArray, List.set_cons_zero, List.set_cons_succ, List.getElem_toArray, List.getElem_cons_succ, List.getElem_cons_zero])
          refine wpAnyH_ready (rs := [3]) (by kernel_rfl) (by simp) ?_
          refine AllReadyH.cons rfl (fun K hK => ?_) AllReadyH.nil
          go_simp
          refine (T1.out _ K0.out).mono ?_
          rintro e z1 ⟨rfl, hb⟩
          have KZ : Hid (Below vb.heap.size vb z1) := Lib.hid (bl_then K0.out hb)
          have KZ4 : Hid (Below w4.heap.size w4 z1) := Lib.hid (bl_then (bl_drew (Below.refl _ _)) hb)
          clear hb
          refine hK.out _ _ (HSQ.out _ KZ.out) (fun hHeld => ?_)
          (try simp only [Act.put, List.setIfInBounds_toArray, List.set_cons_zero, List.set_cons_succ, List.getElem_toArray, List.getElem_cons_succ, List.getElem_cons_zero])
          refine wpAnyH_take (i := 4) (v := ?_) rfl (by kernel_rfl) (by kernel_rfl) (by kernel_rfl) (fun _ _ _ h => h) (Or.inl ⟨by rfl, ?_⟩) (by assumption) ?_
          rotate_left
          · intro w hSw; (try dsimp only at hSw); go_simp <;> with_reducible rfl
          (try simp only [Act.put, List.setIfInBounds_toArray, List.set_cons_zero, List.set_cons_succ, List.getElem_toArray, List.getElem_cons_succ, List.getElem_cons_zero])
          refine wpAnyH_take (i := 5) (v := ?_) rfl (by kernel_rfl) (by kernel_rfl) (by kernel_rfl) (fun _ _ _ h => h) (Or.inl ⟨by rfl, ?_⟩) (by assumption) ?_
          rotate_left
          · intro w hSw; (try dsimp only at hSw); go_simp <;> with_reducible rfl
          (try simp only [Act.put, List.setIfInBounds_toArray, List.set_cons_zero, List.set_cons_succ, List.getElem_toArray, List.getElem_cons_succ, List.getElem_cons_zero])
          refine wpAnyH_take (i := 6) (v := ?_) rfl (by kernel_rfl) (by kernel_rfl) (by kernel_rfl) (fun _ _ _ h => h) (Or.inl ⟨by rfl, ?_⟩) (by assumption) ?_
          rotate_left
          · intro w hSw; (try dsimp only at hSw); go_simp <;> with_reducible rfl
          (try simp only [Act.put, List.setIfInBounds_toArray, List.set_cons_zero, List.set_cons_succ, List.getElem_toArray, List.getElem_cons_succ, List.getElem_cons_zero])
          refine wpAnyH_take (i := 7) (v := ?_) rfl (by kernel_rfl) (by kernel_rfl) (by kernel_rfl) (fun _ _ _ h => h) (Or.inl ⟨by rfl, ?_⟩) (by assumption) ?_
          rotate_left
          · intro w hSw; (try dsimp only at hSw); go_simp <;> with_reducible rfl
          (try simp only [Act.put, List.setIfInBounds_toArray, List.set_cons_zero, List.set_cons_succ, List.getElem_toArray, List.getElem_cons_succ, List.getElem_cons_zero])
          refine wpAnyH_take (i := 8) (v := ?_) rfl (by kernel_rfl) (by kernel_rfl) (by kernel_rfl) (fun _ _ _ h => h) (Or.inl ⟨by rfl, ?_⟩) (by assumption) ?_
          rotate_left
          · intro w hSw; (try dsimp only at hSw); go_simp <;> with_reducible rfl
          (try simp only [Act.put, List.setIfInBounds_toArray, List.set_cons_zero, List.set_cons_succ, List.getElem_toArray, List.getElem_cons_succ, List.getElem_cons_zero])
          refine wpAnyH_take (i := 9) (v := ?_) rfl (by kernel_rfl) (by kernel_rfl) (by kernel_rfl) (fun _ _ _ h => h) (Or.inl ⟨by rfl, ?_⟩) (by assumption) ?_
          rotate_left
          · intro w hSw; (try dsimp only at hSw); go_simp <;> with_reducible rfl
          (try simp only [Act.put, List.setIfInBounds_toArray, List.set_cons_zero, List.set_cons_succ, List.getElem_toArray, List.getElem_cons_succ, List.getElem_cons_zero])
          refine wpAnyH_take (i := 10) (v := ?_) rfl (by kernel_rfl) (by kernel_rfl) (by kernel_rfl) (fun _ _ _ h => h) (Or.inl ⟨by rfl, ?_⟩) (by assumption) ?_
          rotate_left
          · intro w hSw; (try dsimp only at hSw); go_simp <;> with_reducible rfl
          (try simp only [Act.put, List.setIfInBounds_toArray, List.set_cons_zero, List.set_cons_succ, List.getElem_toArray, List.getElem_cons_succ, List.getElem_cons_zero])
          refine wpAnyH_take (i := 11) (v := undef) rfl (by kernel_rfl) (by kernel_rfl) (by kernel_rfl) (fun _ _ _ h => h) (Or.inr ⟨by rfl, rfl⟩) (by assumption) ?_
          (try simp only [Act.put, List.setIfInBounds_toArray, List.set_cons_zero, List.set_cons_succ, List.getElem_toArray, List.getElem_cons_succ, List.getElem_cons_zero])
          refine wpAnyH_take (i := 12) (v := undef) rfl (by kernel_rfl) (by kernel_rfl) (by kernel_rfl) (fun _ _ _ h => h) (Or.inr ⟨by rfl, rfl⟩) (by assumption) ?_
          (try simp only [Act.put, List.setIfInBounds_toArray, List.set_cons_zero, List.set_cons_succ, List.getElem_toArray, List.getElem_cons_succ, List.getElem_cons_zero])
          refine wpAnyH_take (i := 13) (v := undef) rfl (by kernel_rfl) (by kernel_rfl) (by kernel_rfl) (fun _ _ _ h => h) (Or.inr ⟨by rfl, rfl⟩) (by assumption) ?_
          (try simp only [Act.put, List.setIfInBounds_toArray, List.set_cons_zero, List.set_cons_succ, List.getElem_toArray, List.getElem_cons_succ, List.getElem_cons_zero])
          refine wpAnyH_take (i := 14) (v := undef) rfl (by kernel_rfl) (by kernel_rfl) (by kernel_rfl) (fun _ _ _ h => h) (Or.inr ⟨by rfl, rfl⟩) (by assumption) ?_
          (try simp only [Act.put, List.setIfInBounds_toArray, List.set_cons_zero, List.set_cons_succ, List.getElem_toArray, List.getElem_cons_succ, List.getElem_cons_zero])
          refine wpAnyH_take (i := 15) (v := undef) rfl (by kernel_rfl) (by kernel_rfl) (by kernel_rfl) (fun _ _ _ h => h) (Or.inr ⟨by rfl, rfl⟩) (by assumption) ?_
          (try simp only [Act.put, List.setIfInBounds_toArray, List.set_cons_zero, List.set_cons_succ, List.getElem_toArray, List.getElem_cons_succ, List.getElem_cons_zero])
          refine wpAnyH_take (i := 16) (v := undef) rfl (by kernel_rfl) (by kernel_rfl) (by kernel_rfl) (fun _ _ _ h => h) (Or.inr ⟨by rfl, rfl⟩) (by assumption) ?_
          (try simp only [Act.put, List.setIfInBounds_toArray, List.set_cons_zero, List.set_cons_succ, List.getElem_toArray, List.getElem_cons_succ, List.getElem_cons_zero])
          refine wpAnyH_take (i := 17) (v := undef) rfl (by kernel_rfl) (by kernel_rfl) (by kernel_rfl) (fun _ _ _ h => h) (Or.inr ⟨by rfl, rfl⟩) (by assumption) ?_
          (try simp only [Act.put, List.setIfInBounds_toArray, List.set_cons_zero, List.set_cons_succ, List.getElem_toArray, List.getElem_cons_succ, List.getElem_cons_zero])
          refine wpAnyH_take (i := 18) (v := undef) rfl (by kernel_rfl) (by kernel_rfl) (by kernel_rfl) (fun _ _ _ h => h) (Or.inr ⟨by rfl, rfl⟩) (by assumption) ?_
          (try simp only [Act.put, List.setIfInBounds_toArray, List.set_cons_zero, List.set_cons_succ, List.getElem_toArray, List.getElem_cons_succ, List.getElem_cons_zero])
          refine wpAnyH_take (i := 19) (v := ?_) rfl (by kernel_rfl) (by kernel_rfl) (by kernel_rfl) (fun _ _ _ h => h) (Or.inl ⟨by rfl, ?_⟩) (by assumption) ?_
          rotate_left
          · intro w hSw; (try dsimp only at hSw); go_simp <;> with_reducible rfl
          (try simp only [Act.put, List.setIfInBounds_toArray, List.set_cons_zero, List.set_cons_succ, List.getElem_toArray, List.getElem_cons_succ, List.getElem_cons_zero])
          refine wpAnyH_take (i := 20) (v := ?_) rfl (by kernel_rfl) (by kernel_rfl) (by kernel_rfl) (fun _ _ _ h => h) (Or.inl ⟨by rfl, ?_⟩) (by assumption) ?_
          rotate_left
          · intro w hSw; (try dsimp only at hSw); go_simp <;> with_reducible rfl
          (try simp only [Act.put, List.setIfInBounds_toArray, List.set_cons_zero, List.set_cons_succ, List.getElem_toArray, List.getElem_cons_succ, List.getElem_cons_zero])
          refine wpAnyH_take (i := 21) (v := ?_) rfl (by kernel_rfl) (by kernel_rfl) (by kernel_rfl) (fun _ _ _ h => h) (Or.inl ⟨by rfl, ?_⟩) (by assumption) ?_
          rotate_left
          · intro w hSw; (try dsimp only at hSw); go_simp <;> with_reducible rfl
          (try simp only [Act.put, List.setIfInBounds_toArray, List.set_cons_zero, List.set_cons_succ, List.getElem_toArray, List.getElem_cons_succ, List.getElem_cons_zero])
          refine wpAnyH_done (by kernel_rfl) ?_ _
          clear x1 x2 hjl
          go_wp2_with fail
          go_loopg [20, 19] X.length (fun M u z wr => ∃ i : Nat, M = X.length - i ∧ i ≤ X.length ∧ u = .int .i64 (i : Nat) ∧ z = .int .i64 (sumW es (X.take i)) ∧ Below vb.heap.size vb wr ∧ ReadsI wr (some ⟨gY, 0, none⟩) X.length cY (X.set j odd))
          case atStart => exact ⟨0, rfl, Nat.zero_le _, rfl, rfl, KZ.out, (HY4.out.below KZ4.out)⟩
          case round =>
            obtain ⟨i, hM, hi, rfl, rfl, hb, hy⟩ := hrel
            have HM := Lib.hid hM
            have HB := Lib.hid hb
            have HYR := Lib.hid hy
            clear hM hb hy
            by_cases hlt : i < X.length
            · obtain ⟨bX, oX, eX, hcX⟩ := (RX.out.below HB.out).cell (by omega)
              injection eX with eX
              injection eX with eX1 eX2 _
              subst eX1 eX2
              have dX := hcX i hlt
              rw [Nat.zero_add] at dX
              have hss := sum_step (es := es) hlt
              have hsb := sum_bd HOK.out (X.take i)
              rw [List.length_take_of_le (by omega)] at hsb
              have hmm := HOKX.out i hlt
              have hwb := w_bd HOK.out (X.getD i 0).toNat
              obtain ⟨y, hy⟩ : ∃ y, y = X.getD i 0 := ⟨_, rfl⟩
              rw [← hy] at dX hss hmm hwb
              have hyw : (Lit.int .i64 y).wf = true := by unfold inB at hmm; simp only [Bool.and_eq_true, decide_eq_true_eq] at hmm; exact wf_of (by omega) (by omega)
              have hba : Below vb.heap.size vb (wr.alloc (.cells #[.int .i64 y] 3)) := bl_alloc HB.out _
              have hwt := weight_at (HT.out.below (bl_then B0.out hba)) (reads_one wr y hyw 3) (by omega)
              have hok1 : okE es [y] = true := by unfold okE; simp [hmm]
              have hwg : wgtT es [y] = (es.getD y.toNat (0, 0, 0)).2.2 := by unfold wgtT; rw [if_pos hok1]; simp [sumW]
              rw [hok1, hwg] at hwt
              obtain ⟨wy, hwy⟩ : ∃ wy, wy = (es.getD y.toNat (0, 0, 0)).2.2 := ⟨_, rfl⟩
              rw [← hwy] at hss hwb hwt
              obtain ⟨S, hS⟩ : ∃ S, S = sumW es (X.take i) := ⟨_, rfl⟩
              rw [← hS] at hss hsb ⊢
              have hsum : IntKind.i64.wrap (S + wy) = S + wy := IntWalk.i64_in _ (by omega)
              have HSS := Lib.hid hss
              have HWT := Lib.hid hwt
              have HBA := Lib.hid hba
              have i0' : (0 : Int) ≤ (i : Int) := by omega
              have i1' : (i : Int) < (X.length : Int) := by omega
              clear hcX hss hsb hmm hwb hy hyw hba hwt hok1 hwg hwy hS
              go_wp2_with fail
              refine HWT.out.mono ?_
              rintro e x1 ⟨rfl, hb⟩
              have HB2 := Lib.hid (bl_then HBA.out hb)
              have HY2 := Lib.hid (HYR.out.below ((bl_alloc (Below.refl _ _) _).trans (hb.mono (bl_alloc (Below.refl wr.heap.size wr) (.cells #[.int .i64 y] 3)).size)))
              clear hb dX
              go_wp2_with fail
              go_roundg (X.length - (i + 1))
              case measure => have := HM.out; omega
              case rel => exact ⟨i + 1, rfl, by omega, by go_num, by rw [HSS.out], HB2.out, HY2.out⟩
            · obtain rfl : i = X.length := by omega
              rw [List.take_length]
              have r1 := weight_at (HT.out.below (bl_then B0.out HB.out)) (RX.out.below HB.out) (by omega)
              rw [HWGT.out.1, HWGT.out.2] at r1
              have r2 := fun (w' : World) (hb : Below wr.heap.size wr w') => end_at (HT.out.below (bl_then B0.out (bl_then HB.out hb))) (HYR.out.below hb) E1
              have r3 := fun (w' : World) (hb : Below wr.heap.size wr w') => valid_at (HT.out.below (bl_then B0.out (bl_then HB.out hb))) (HYR.out.below hb) E1
              rw [HFIT.out] at r2 r3
              obtain ⟨S, hS⟩ : ∃ S, S = sumW es X := ⟨_, rfl⟩
              rw [← hS] at r1 ⊢
              obtain ⟨EN, hEN⟩ : ∃ EN, EN = endT es bs E1 (X.set j odd) := ⟨_, rfl⟩
              rw [← hEN] at r2
              have R1 := Lib.hid r1
              have R2 := Lib.hid r2
              have R3 := Lib.hid r3
              have s9 : (S == S) = true := by simp
              have f9 : ((true : Bool) == true) = true := by simp
              clear r1 r2 r3 hS hEN hlt hi
              go_wp2_with fail
              refine R1.out.mono ?_
              rintro e x1 ⟨rfl, hb⟩
              have X1 := Lib.hid hb
              clear hb
              go_wp2_with fail
              refine (R2.out _ X1.out).mono ?_
              rintro e x2 ⟨rfl, hb⟩
              have X2 := Lib.hid (bl_then X1.out hb)
              clear hb
              go_wp2_with fail
              refine (R3.out _ X2.out).mono ?_
              rintro e x3 ⟨rfl, hb⟩
              have X3 := Lib.hid (bl_then X2.out hb)
              clear hb
              go_wp2_with (go_at_call 11; refine (awake8 _).mono ?_; rintro e w6 ⟨rfl, hb6⟩)
              go_ret
              exact ⟨rfl, HBW.out.trans ((bl_then B0.out (bl_then HB.out (bl_then X3.out hb6))).mono HBW.out.size)⟩
        · have HFIT : Hid (walkB es bs E1 (X.set j odd) = turnB es bs odd (X.getD (j + 1) 0)) := Lib.hid (by rw [HSET.out, hf1, decide_eq_false hjl]; rfl)
          obtain ⟨lm, hlm⟩ : ∃ z, z = (X.length : Int) - 1 := ⟨_, rfl⟩
          have x1 : IntKind.i64.wrap ((X.length : Int) - 1) = lm := by rw [IntWalk.i64_in _ (by omega), hlm]
          have x2 : ((j : Int) == lm) = false := beq_false_of_ne (by omega)
          obtain ⟨j1', hj1⟩ : ∃ m, m = j + 1 := ⟨_, rfl⟩
          have x3 : IntKind.i64.wrap ((j : Int) + 1) = (j1' : Int) := by rw [IntWalk.i64_in _ (by omega)]; omega
          have x4 : (0 : Int) ≤ (j1' : Int) := by omega
          have x5 : (j1' : Int) < (X.length : Int) := by omega
          obtain ⟨bX, oX, eX, hcX⟩ := RX.out.cell (by omega)
          injection eX with eX
          injection eX with eX1 eX2 _
          subst eX1 eX2
          have dX := hcX j1' (by omega)
          rw [Nat.zero_add] at dX
          rw [← hj1] at HFIT
          obtain ⟨y, hy⟩ : ∃ y, y = X.getD j1' 0 := ⟨_, rfl⟩
          rw [← hy] at dX HFIT
          obtain ⟨F, hF⟩ : ∃ F, F = turnB es bs odd y := ⟨_, rfl⟩
          have t2 := fun (w' : World) (hb : Below vb.heap.size vb w') => turn4_any (HG.out.below (bl_then B0.out hb)) odd y
          rw [← hF] at t2 HFIT
          have T2 := Lib.hid t2
          have HDX := Lib.hid dX
          have HSX : Hid (∀ w', Below vb.heap.size vb w' → (w'.cell? ⟨w1.heap.size, 0, none⟩ = some (.slice A1 ns.length c1) ∧ w'.cell? ⟨w1.heap.size, 1, none⟩ = some (.slice A2 es.length c2) ∧ w'.cell? ⟨w1.heap.size, 2, none⟩ = some (.slice A3 bs.length c3)) ∧ w'.cell? ⟨gX, j1', none⟩ = some (.int .i64 y)) := Lib.hid fun w' h => ⟨HSQ.out w' h, cell_below HDX.out h⟩
          clear t1 hf1 hcX hlm hj1 hy hF t2 dX
          go_wp2_with fail
          refine wp_region_held_drew (S := fun w' => (w'.cell? ⟨w1.heap.size, 0, none⟩ = some (.slice A1 ns.length c1) ∧ w'.cell? ⟨w1.heap.size, 1, none⟩ = some (.slice A2 es.length c2) ∧ w'.cell? ⟨w1.heap.size, 2, none⟩ = some (.slice A3 bs.length c3)) ∧ w'.cell? ⟨gX, j1', none⟩ = some (.int .i64 y)) (by kernel_rfl) (HSX.out _ K0.out) (fun hHeld => ?_)
          refine wpAnyH_take (i := 0) (v := ?_) rfl (by kernel_rfl) (by kernel_rfl) (by kernel_rfl) (fun _ _ _ h => h) (Or.inl ⟨by rfl, ?_⟩) (by assumption) ?_
          rotate_left
          · intro w hSw; (try dsimp only at hSw); go_simp <;> with_reducible rfl
          (try simp only [Act.put, List.setIfInBounds_toArray, List.set_cons_zero, List.set_cons_succ, List.getElem_toArray, List.getElem_cons_succ, List.getElem_cons_zero])
          refine wpAnyH_take (i := 1) (v := ?_) rfl (by kernel_rfl) (by kernel_rfl) (by kernel_rfl) (fun _ _ _ h => h) (Or.inl ⟨by rfl, ?_⟩) (by assumption) ?_
          rotate_left
          · intro w hSw; (try dsimp only at hSw); go_simp <;> with_reducible rfl
          (try simp only [Act.put, List.setIfInBounds_toArray, List.set_cons_zero, List.set_cons_succ, List.getElem_toArray, List.getElem_cons_succ, List.getElem_cons_zero])
          refine wpAnyH_take (i := 2) (v := ?_) rfl (by kernel_rfl) (by kernel_rfl) (by kernel_rfl) (fun _ _ _ h => h) (Or.inl ⟨by rfl, ?_⟩) (by assumption) ?_
          rotate_left
          · intro w hSw; (try dsimp only at hSw); go_simp <;> with_reducible rfl
          (try simp only [Act.put, List.setIfInBounds_toArray, List.set_cons_zero, List.set_cons_succ, List.getElem_toArray, List.getElem_cons_succ, List.getElem_cons_zero])
          refine wpAnyH_ready (rs := [3]) (by kernel_rfl) (by simp) ?_
          refine AllReadyH.cons rfl (fun K hK => ?_) AllReadyH.nil
          go_simp
          refine (T1.out _ K0.out).mono ?_
          rintro e z1 ⟨rfl, hb⟩
          have KY : Hid (Below vb.heap.size vb z1) := Lib.hid (bl_then K0.out hb)
          have KY4 : Hid (Below w4.heap.size w4 z1) := Lib.hid (bl_then (bl_drew (Below.refl _ _)) hb)
          clear hb
          refine hK.out _ _ (HSX.out _ KY.out) (fun hHeld => ?_)
          (try simp only [Act.put, List.setIfInBounds_toArray, List.set_cons_zero, List.set_cons_succ, List.getElem_toArray, List.getElem_cons_succ, List.getElem_cons_zero])
          refine wpAnyH_take (i := 4) (v := ?_) rfl (by kernel_rfl) (by kernel_rfl) (by kernel_rfl) (fun _ _ _ h => h) (Or.inl ⟨by rfl, ?_⟩) (by assumption) ?_
          rotate_left
          · intro w hSw; (try dsimp only at hSw); go_simp <;> with_reducible rfl
          (try simp only [Act.put, List.setIfInBounds_toArray, List.set_cons_zero, List.set_cons_succ, List.getElem_toArray, List.getElem_cons_succ, List.getElem_cons_zero])
          refine wpAnyH_take (i := 5) (v := ?_) rfl (by kernel_rfl) (by kernel_rfl) (by kernel_rfl) (fun _ _ _ h => h) (Or.inl ⟨by rfl, ?_⟩) (by assumption) ?_
          rotate_left
          · intro w hSw; (try dsimp only at hSw); go_simp <;> with_reducible rfl
          (try simp only [Act.put, List.setIfInBounds_toArray, List.set_cons_zero, List.set_cons_succ, List.getElem_toArray, List.getElem_cons_succ, List.getElem_cons_zero])
          refine wpAnyH_take (i := 6) (v := ?_) rfl (by kernel_rfl) (by kernel_rfl) (by kernel_rfl) (fun _ _ _ h => h) (Or.inl ⟨by rfl, ?_⟩) (by assumption) ?_
          rotate_left
          · intro w hSw; (try dsimp only at hSw); go_simp <;> with_reducible rfl
          (try simp only [Act.put, List.setIfInBounds_toArray, List.set_cons_zero, List.set_cons_succ, List.getElem_toArray, List.getElem_cons_succ, List.getElem_cons_zero])
          refine wpAnyH_take (i := 7) (v := ?_) rfl (by kernel_rfl) (by kernel_rfl) (by kernel_rfl) (fun _ _ _ h => h) (Or.inl ⟨by rfl, ?_⟩) (by assumption) ?_
          rotate_left
          · intro w hSw; (try dsimp only at hSw); go_simp <;> with_reducible rfl
          (try simp only [Act.put, List.setIfInBounds_toArray, List.set_cons_zero, List.set_cons_succ, List.getElem_toArray, List.getElem_cons_succ, List.getElem_cons_zero])
          refine wpAnyH_take (i := 8) (v := ?_) rfl (by kernel_rfl) (by kernel_rfl) (by kernel_rfl) (fun _ _ _ h => h) (Or.inl ⟨by rfl, ?_⟩) (by assumption) ?_
          rotate_left
          · intro w hSw; (try dsimp only at hSw); go_simp <;> with_reducible rfl
          (try simp only [Act.put, List.setIfInBounds_toArray, List.set_cons_zero, List.set_cons_succ, List.getElem_toArray, List.getElem_cons_succ, List.getElem_cons_zero])
          refine wpAnyH_take (i := 9) (v := ?_) rfl (by kernel_rfl) (by kernel_rfl) (by kernel_rfl) (fun _ _ _ h => h) (Or.inl ⟨by rfl, ?_⟩) (by assumption) ?_
          rotate_left
          · intro w hSw; (try dsimp only at hSw); go_simp <;> with_reducible rfl
          (try simp only [Act.put, List.setIfInBounds_toArray, List.set_cons_zero, List.set_cons_succ, List.getElem_toArray, List.getElem_cons_succ, List.getElem_cons_zero])
          refine wpAnyH_take (i := 10) (v := ?_) rfl (by kernel_rfl) (by kernel_rfl) (by kernel_rfl) (fun _ _ _ h => h) (Or.inl ⟨by rfl, ?_⟩) (by assumption) ?_
          rotate_left
          · intro w hSw; (try dsimp only at hSw); go_simp <;> with_reducible rfl
          (try simp only [Act.put, List.setIfInBounds_toArray, List.set_cons_zero, List.set_cons_succ, List.getElem_toArray, List.getElem_cons_succ, List.getElem_cons_zero])
          refine wpAnyH_take (i := 11) (v := ?_) rfl (by kernel_rfl) (by kernel_rfl) (by kernel_rfl) (fun _ _ _ h => h) (Or.inl ⟨by rfl, ?_⟩) (by assumption) ?_
          rotate_left
          · intro w hSw; (try dsimp only at hSw); go_simp <;> with_reducible rfl
          (try simp only [Act.put, List.setIfInBounds_toArray, List.set_cons_zero, List.set_cons_succ, List.getElem_toArray, List.getElem_cons_succ, List.getElem_cons_zero])
          refine wpAnyH_take (i := 12) (v := ?_) rfl (by kernel_rfl) (by kernel_rfl) (by kernel_rfl) (fun _ _ _ h => h) (Or.inl ⟨by rfl, ?_⟩) (by assumption) ?_
          rotate_left
          · intro w hSw; (try dsimp only at hSw); go_simp <;> with_reducible rfl
          (try simp only [Act.put, List.setIfInBounds_toArray, List.set_cons_zero, List.set_cons_succ, List.getElem_toArray, List.getElem_cons_succ, List.getElem_cons_zero])
          refine wpAnyH_take (i := 13) (v := ?_) rfl (by kernel_rfl) (by kernel_rfl) (by kernel_rfl) (fun _ _ _ h => h) (Or.inl ⟨by rfl, ?_⟩) (by assumption) ?_
          rotate_left
          · intro w hSw; (try dsimp only at hSw); go_simp <;> with_reducible rfl
          (try simp only [Act.put, List.setIfInBounds_toArray, List.set_cons_zero, List.set_cons_succ, List.getElem_toArray, List.getElem_cons_succ, List.getElem_cons_zero])
          refine wpAnyH_take (i := 14) (v := ?_) rfl (by kernel_rfl) (by kernel_rfl) (by kernel_rfl) (fun _ _ _ h => h) (Or.inl ⟨by rfl, ?_⟩) (by assumption) ?_
          rotate_left
          · intro w hSw; (try dsimp only at hSw); go_simp <;> with_reducible rfl
          (try simp only [Act.put, List.setIfInBounds_toArray, List.set_cons_zero, List.set_cons_succ, List.getElem_toArray, List.getElem_cons_succ, List.getElem_cons_zero])
          refine wpAnyH_take (i := 15) (v := ?_) rfl (by kernel_rfl) (by kernel_rfl) (by kernel_rfl) (fun _ _ _ h => h) (Or.inl ⟨by rfl, ?_⟩) (by assumption) ?_
          rotate_left
          · intro w hSw; (try dsimp only at hSw); go_simp <;> with_reducible rfl
          (try simp only [Act.put, List.setIfInBounds_toArray, List.set_cons_zero, List.set_cons_succ, List.getElem_toArray, List.getElem_cons_succ, List.getElem_cons_zero])
          refine wpAnyH_take (i := 16) (v := ?_) rfl (by kernel_rfl) (by kernel_rfl) (by kernel_rfl) (fun _ _ _ h => h) (Or.inl ⟨by rfl, ?_⟩) (by assumption) ?_
          rotate_left
          · intro w hSw; (try dsimp only at hSw); go_simp <;> with_reducible rfl
          (try simp only [Act.put, List.setIfInBounds_toArray, List.set_cons_zero, List.set_cons_succ, List.getElem_toArray, List.getElem_cons_succ, List.getElem_cons_zero])
          refine wpAnyH_take (i := 17) (v := ?_) rfl (by kernel_rfl) (by kernel_rfl) (by kernel_rfl) (fun _ _ _ h => h) (Or.inl ⟨by rfl, ?_⟩) (by assumption) ?_
          rotate_left
          · intro w hSw; (try dsimp only at hSw); go_simp <;> with_reducible rfl
          (try simp only [Act.put, List.setIfInBounds_toArray, List.set_cons_zero, List.set_cons_succ, List.getElem_toArray, List.getElem_cons_succ, List.getElem_cons_zero])
          refine wpAnyH_ready (rs := [18]) (by kernel_rfl) (by simp) ?_
          refine AllReadyH.cons rfl (fun K hK => ?_) AllReadyH.nil
          go_simp
          refine (T2.out _ KY.out).mono ?_
          rintro e z2 ⟨rfl, hb⟩
          have KZ : Hid (Below vb.heap.size vb z2) := Lib.hid (bl_then KY.out hb)
          have KZ4 : Hid (Below w4.heap.size w4 z2) := Lib.hid (bl_then KY4.out hb)
          clear hb
          refine hK.out _ _ (HSX.out _ KZ.out) (fun hHeld => ?_)
          (try simp only [Act.put, List.setIfInBounds_toArray, List.set_cons_zero, List.set_cons_succ, List.getElem_toArray, List.getElem_cons_succ, List.getElem_cons_zero])
          refine wpAnyH_take (i := 19) (v := ?_) rfl (by kernel_rfl) (by kernel_rfl) (by kernel_rfl) (fun _ _ _ h => h) (Or.inl ⟨by rfl, ?_⟩) (by assumption) ?_
          rotate_left
          · intro w hSw; (try dsimp only at hSw); go_simp <;> with_reducible rfl
          (try simp only [Act.put, List.setIfInBounds_toArray, List.set_cons_zero, List.set_cons_succ, List.getElem_toArray, List.getElem_cons_succ, List.getElem_cons_zero])
          refine wpAnyH_take (i := 20) (v := ?_) rfl (by kernel_rfl) (by kernel_rfl) (by kernel_rfl) (fun _ _ _ h => h) (Or.inl ⟨by rfl, ?_⟩) (by assumption) ?_
          rotate_left
          · intro w hSw; (try dsimp only at hSw); go_simp <;> with_reducible rfl
          (try simp only [Act.put, List.setIfInBounds_toArray, List.set_cons_zero, List.set_cons_succ, List.getElem_toArray, List.getElem_cons_succ, List.getElem_cons_zero])
          refine wpAnyH_take (i := 21) (v := ?_) rfl (by kernel_rfl) (by kernel_rfl) (by kernel_rfl) (fun _ _ _ h => h) (Or.inl ⟨by rfl, ?_⟩) (by assumption) ?_
          rotate_left
          · intro w hSw; (try dsimp only at hSw); go_simp <;> with_reducible rfl
          (try simp only [Act.put, List.setIfInBounds_toArray, List.set_cons_zero, List.set_cons_succ, List.getElem_toArray, List.getElem_cons_succ, List.getElem_cons_zero])
          refine wpAnyH_done (by kernel_rfl) ?_ _
          clear x1 x2 x3 x4 x5 hjl
          go_wp2_with fail
          go_loopg [20, 19] X.length (fun M u z wr => ∃ i : Nat, M = X.length - i ∧ i ≤ X.length ∧ u = .int .i64 (i : Nat) ∧ z = .int .i64 (sumW es (X.take i)) ∧ Below vb.heap.size vb wr ∧ ReadsI wr (some ⟨gY, 0, none⟩) X.length cY (X.set j odd))
          case atStart => exact ⟨0, rfl, Nat.zero_le _, rfl, rfl, KZ.out, (HY4.out.below KZ4.out)⟩
          case round =>
            obtain ⟨i, hM, hi, rfl, rfl, hb, hy⟩ := hrel
            have HM := Lib.hid hM
            have HB := Lib.hid hb
            have HYR := Lib.hid hy
            clear hM hb hy
            by_cases hlt : i < X.length
            · obtain ⟨bX, oX, eX, hcX⟩ := (RX.out.below HB.out).cell (by omega)
              injection eX with eX
              injection eX with eX1 eX2 _
              subst eX1 eX2
              have dX := hcX i hlt
              rw [Nat.zero_add] at dX
              have hss := sum_step (es := es) hlt
              have hsb := sum_bd HOK.out (X.take i)
              rw [List.length_take_of_le (by omega)] at hsb
              have hmm := HOKX.out i hlt
              have hwb := w_bd HOK.out (X.getD i 0).toNat
              obtain ⟨y, hy⟩ : ∃ y, y = X.getD i 0 := ⟨_, rfl⟩
              rw [← hy] at dX hss hmm hwb
              have hyw : (Lit.int .i64 y).wf = true := by unfold inB at hmm; simp only [Bool.and_eq_true, decide_eq_true_eq] at hmm; exact wf_of (by omega) (by omega)
              have hba : Below vb.heap.size vb (wr.alloc (.cells #[.int .i64 y] 3)) := bl_alloc HB.out _
              have hwt := weight_at (HT.out.below (bl_then B0.out hba)) (reads_one wr y hyw 3) (by omega)
              have hok1 : okE es [y] = true := by unfold okE; simp [hmm]
              have hwg : wgtT es [y] = (es.getD y.toNat (0, 0, 0)).2.2 := by unfold wgtT; rw [if_pos hok1]; simp [sumW]
              rw [hok1, hwg] at hwt
              obtain ⟨wy, hwy⟩ : ∃ wy, wy = (es.getD y.toNat (0, 0, 0)).2.2 := ⟨_, rfl⟩
              rw [← hwy] at hss hwb hwt
              obtain ⟨S, hS⟩ : ∃ S, S = sumW es (X.take i) := ⟨_, rfl⟩
              rw [← hS] at hss hsb ⊢
              have hsum : IntKind.i64.wrap (S + wy) = S + wy := IntWalk.i64_in _ (by omega)
              have HSS := Lib.hid hss
              have HWT := Lib.hid hwt
              have HBA := Lib.hid hba
              have i0' : (0 : Int) ≤ (i : Int) := by omega
              have i1' : (i : Int) < (X.length : Int) := by omega
              clear hcX hss hsb hmm hwb hy hyw hba hwt hok1 hwg hwy hS
              go_wp2_with fail
              refine HWT.out.mono ?_
              rintro e x1 ⟨rfl, hb⟩
              have HB2 := Lib.hid (bl_then HBA.out hb)
              have HY2 := Lib.hid (HYR.out.below ((bl_alloc (Below.refl _ _) _).trans (hb.mono (bl_alloc (Below.refl wr.heap.size wr) (.cells #[.int .i64 y] 3)).size)))
              clear hb dX
              go_wp2_with fail
              go_roundg (X.length - (i + 1))
              case measure => have := HM.out; omega
              case rel => exact ⟨i + 1, rfl, by omega, by go_num, by rw [HSS.out], HB2.out, HY2.out⟩
            · obtain rfl : i = X.length := by omega
              rw [List.take_length]
              have r1 := weight_at (HT.out.below (bl_then B0.out HB.out)) (RX.out.below HB.out) (by omega)
              rw [HWGT.out.1, HWGT.out.2] at r1
              have r2 := fun (w' : World) (hb : Below wr.heap.size wr w') => end_at (HT.out.below (bl_then B0.out (bl_then HB.out hb))) (HYR.out.below hb) E1
              have r3 := fun (w' : World) (hb : Below wr.heap.size wr w') => valid_at (HT.out.below (bl_then B0.out (bl_then HB.out hb))) (HYR.out.below hb) E1
              rw [HFIT.out] at r2 r3
              obtain ⟨S, hS⟩ : ∃ S, S = sumW es X := ⟨_, rfl⟩
              rw [← hS] at r1 ⊢
              obtain ⟨EN, hEN⟩ : ∃ EN, EN = endT es bs E1 (X.set j odd) := ⟨_, rfl⟩
              rw [← hEN] at r2
              have R1 := Lib.hid r1
              have R2 := Lib.hid r2
              have R3 := Lib.hid r3
              have s9 : (S == S) = true := by simp
              have f9 : ((F : Bool) == F) = true := by simp
              clear r1 r2 r3 hS hEN hlt hi
              go_wp2_with fail
              refine R1.out.mono ?_
              rintro e x1 ⟨rfl, hb⟩
              have X1 := Lib.hid hb
              clear hb
              go_wp2_with fail
              refine (R2.out _ X1.out).mono ?_
              rintro e x2 ⟨rfl, hb⟩
              have X2 := Lib.hid (bl_then X1.out hb)
              clear hb
              go_wp2_with fail
              refine (R3.out _ X2.out).mono ?_
              rintro e x3 ⟨rfl, hb⟩
              have X3 := Lib.hid (bl_then X2.out hb)
              clear hb
              go_wp2_with (go_at_call 11; refine (awake8 _).mono ?_; rintro e w6 ⟨rfl, hb6⟩)
              go_ret
              exact ⟨rfl, HBW.out.trans ((bl_then B0.out (bl_then HB.out (bl_then X3.out hb6))).mono HBW.out.size)⟩
theorem walk {W : World} (A : Option Addr) (n k : Nat) (xs : List Int) (hk : ReadsI W A n k xs) (a : Int) (h5 : (Lit.int .i64 a).wf = true) (A4 : Option Addr) (n4 k4 : Nat) (x4 : List Int) (q4 : ReadsI W A4 n4 k4 x4) (b : Int) (h6 : (Lit.int .i64 b).wf = true) (o : Int) (h7 : (Lit.int .i64 o).wf = true) :
    Calls Try.prog 6 #[.slice A n k, .int .i64 a, .slice A4 n4 k4, .int .i64 b, .int .i64 o] W fun e w' => e = .returned (.bool true) ∧ Below W.heap.size W w' := by
  have s1 := hk.small
  have s4 := q4.small
  unfold maxLen at s1 s4
  by_cases h : n ≤ 100 ∧ n4 ≤ 40
  · exact walk_ins A n k xs a h5 A4 n4 k4 x4 b h6 o h7 W h.1 h.2 hk q4
  · exact walk_out A n k a A4 n4 k4 b o (by omega) (by omega) W h
set_option maxRecDepth 100000 in
theorem lifted (os : Os) (started : os.Started) (H : Type) (enc : TypeId × Value → H) :
    ReturnsInHanded {} Try.checked os 6 .any (Rows.walkBreaksSpec.pre6 enc Try.prog Try.f6 Rows.walkBreaksRow.domain false) (Rows.walkBreaksSpec.post enc Try.prog Try.f6 false true false false) := by
  refine returnsInHanded_of_change (C := Try.checked) own started (by kernel_rfl) Try.func6
    (ChangeSpec.witness6 (enc := enc) (C := Try.checked) false ⟨#[], #[.slice none 0 0, .int .i64 0, .slice none 0 0, .int .i64 0, .int .i64 0], []⟩ 8 (by kernel_rfl) (by kernel_rfl) (by kernel_rfl) (by kernel_rfl)) ?_
  intro W base args ds gs before hval0 hW hcnd _
  have hval : ∀ (j : Nat) t v, Try.f6.params[j]? = some t → args[j]? = some v → Value.okWide Try.prog W .any base t v := hval0
  have hW' := hW
  obtain ⟨p, q, hA0, hV, rfl, hfz, hnd⟩ := hW
  have hA : DataW.TrodAll enc Try.prog W 0 (fun _ => true) true Try.f6.params.toList args.toList ds p := hA0
  rw [Try.params6] at hA hval
  obtain ⟨v0, vs0, d0, ds0, p0, q0, hargs, rfl, rfl, h0, r0⟩ := trodAll_cons hA
  obtain ⟨v1, vs1, d1, ds1, p1, q1, rfl, rfl, rfl, h1, r1⟩ := trodAll_cons r0
  obtain ⟨v2, vs2, d2, ds2, p2, q2, rfl, rfl, rfl, h2, r2⟩ := trodAll_cons r1
  obtain ⟨v3, vs3, d3, ds3, p3, q3, rfl, rfl, rfl, h3, r3⟩ := trodAll_cons r2
  obtain ⟨v4, vs4, d4, ds4, p4, q4, rfl, rfl, rfl, h4, r4⟩ := trodAll_cons r3
  obtain ⟨rfl, rfl, rfl⟩ := trodAll_nil r4
  obtain rfl : args = #[v0, v1, v2, v3, v4] := by cases args; simp_all
  obtain ⟨rfl, rfl⟩ := trodVars_none hV
  obtain ⟨a0, n0, c0, xs0, rfl, k0⟩ := open_reads (hval 0 22 v0 rfl rfl) h0
  obtain ⟨a1, rfl, rfl, rfl, w1⟩ := open_int Try.underlying3 (hval 1 3 v1 rfl rfl) h1
  obtain ⟨a2, n2, c2, xs2, rfl, k2⟩ := open_reads (hval 2 22 v2 rfl rfl) h2
  obtain ⟨a3, rfl, rfl, rfl, w3⟩ := open_int Try.underlying3 (hval 3 3 v3 rfl rfl) h3
  obtain ⟨a4, rfl, rfl, rfl, w4⟩ := open_int Try.underlying3 (hval 4 3 v4 rfl rfl) h4
  refine (walk a0 n0 c0 xs0 k0 a1 w1 a2 n2 c2 xs2 k2 a3 w3 a4 w4).mono fun e W' ⟨he, hb⟩ => ?_
  subst he
  exact ⟨_, rfl, post_law hW' hb rfl rfl rfl rfl rfl (by rw [Try.params6]; exact readable_all (by kernel_rfl))⟩
theorem over : Rows.walkBreaksRow.holds Try.pinned (OpenSpec.ofChange Rows.walkBreaksSpec) :=
  OpenClaim.holds_of_wide 6 Try.f6 rfl rfl rfl rfl rfl rfl rfl ⟨rfl, rfl, rfl, rfl, rfl⟩ rfl rfl rfl rfl rfl (by kernel_rfl) Try.func6 (by kernel_rfl)
    (of_decide_eq_true (by kernel_rfl)) (by unfold Func.isWrapper; first | (rw [if_pos (by decide +kernel)]; kernel_rfl) | (rw [if_neg (by decide +kernel)]; exact ⟨rfl, rfl⟩))
    (fun os started H enc _ => lifted os started H enc)
theorem proved : Rows.WalkBreaksSaid := over
#print axioms proved
end Go.Proofs.Ytkkaidliocadnaa.walkBreaks
