/- The document's Way. -/
import Derived.Test.YtjopiefojicblaaWayAt
import Derived.Test.YtjopiefojicblaaStrides
set_option linter.unusedVariables false
set_option linter.unusedSimpArgs false
namespace Go.Proofs.Ytjopiefojicblaa
open Go.ChangeShapes Go.WideShapes Go.ChangeAt Go.RowKit HeapP DistP RowP
theorem closed4_still {w : World} {A : Option Addr} {n c : Nat} {cl : List Bool} (h : ReadsB w A n c cl) (e : Nat) (he : e ≤ 1048576) :
    Calls Try.prog 57 #[.slice A n c, .int .i64 (e : Nat)] w fun r w' => r = .returned (.bool (shutB cl e)) ∧ w' = w := (closed4_any h e he).mono fun e w' h => ⟨h.1, h.2.symm⟩
/-- the inner search, on lists -/
theorem step_first {es : Es} {bs : Bs} {cl : List Bool} {D : Nat → Int} {x y : Nat} (hy : stepN es bs cl D x = some y) {k : Nat} (hno : ∀ j, j < k → fitB es cl D x ((nextN es bs x).getD j 0) = false) (hk : k < (nextN es bs x).length) (hf : fitB es cl D x ((nextN es bs x).getD k 0) = true) : (nextN es bs x).getD k 0 = y := by
  have := find_at (p := fitB es cl D x) hno hk hf
  unfold stepN at hy
  rw [this] at hy
  injection hy
theorem step_end {es : Es} {bs : Bs} {cl : List Bool} {D : Nat → Int} {x y : Nat} (hy : stepN es bs cl D x = some y) (hno : ∀ j, j < (nextN es bs x).length → fitB es cl D x ((nextN es bs x).getD j 0) = false) : False := by
  unfold stepN at hy
  rw [find_no hno] at hy
  cases hy
set_option maxRecDepth 100000 in
set_option maxHeartbeats 16000000 in
theorem way4_in {w : World} {A1 A2 A3 : Option Addr} {n3 c1 c2 c3 : Nat} {ns bs : List (Int × Int)} {es : List (Int × Int × Int)} (h : GR w A1 A2 A3 ns.length es.length n3 c1 c2 c3 ns es bs) (hok : mayB ns es bs = true) {A : Option Addr} {n c : Nat} {cl : List Bool} (hc : ReadsB w A n c cl) {q v : Nat} (hq : q < es.length) (hv : v < ns.length) (h0 : 0 ≤ dl (toD es bs cl (v : Int)) q) :
    Calls Try.prog 31 #[.agg #[.slice A1 ns.length c1, .slice A2 es.length c2, .slice A3 n3 c3], .int .i64 (q : Nat), .int .i64 (v : Nat), .slice A n c] w fun r w' =>
      ∃ A' c', r = .returned (.tuple #[.slice A' (castL (wayL es bs cl (dl (toD es bs cl (v : Int))) q)).length c', .bool true]) ∧ Given w w' A' c' (castL (wayL es bs cl (dl (toD es bs cl (v : Int))) q)) ∧ Below w.heap.size w w' := by
  have s1 := (mayB_parts hok).2.1.1
  have s3 := (mayB_parts hok).2.1.2.2.1
  have HOK := Lib.hid hok
  have HB0 := Lib.hid (bl_alloc (Below.refl w.heap.size w) (.cells #[.slice A1 ns.length c1, .slice A2 es.length c2, .slice A3 n3 c3] 29))
  have HG := Lib.hid (h.below HB0.out)
  have HC := Lib.hid (hc.below HB0.out)
  have HNP : Hid (ns.length ≤ maxLen) := Lib.hid h.rN.small
  obtain ⟨W1, hW1⟩ : ∃ W1, W1 = w.alloc (.cells #[.slice A1 ns.length c1, .slice A2 es.length c2, .slice A3 n3 c3] 29) := ⟨_, rfl⟩
  have HS : Hid (∀ w', Below W1.heap.size W1 w' → w'.cell? ⟨w.heap.size, 0, none⟩ = some (.slice A1 ns.length c1) ∧ w'.cell? ⟨w.heap.size, 1, none⟩ = some (.slice A2 es.length c2) ∧ w'.cell? ⟨w.heap.size, 2, none⟩ = some (.slice A3 n3 c3)) := Lib.hid fun w' hb => by subst hW1; exact GR.box hb
  rw [← hW1] at HG HC HB0
  have HW := Lib.hid hW1
  have hed := fun w' : World => edge4_c (A1 := A1) (A2 := A2) (A3 := A3) (n1 := ns.length) (n2 := es.length) (n3 := n3) (c1 := c1) (c2 := c2) (c3 := c3) (by unfold maxLen; omega) (q : Int) w'
  rw [show inB 0 (q : Int) ((es.length : Int) - 1) = true by unfold inB; simp; omega] at hed
  have hnd := fun w' : World => node4_any (A1 := A1) (A2 := A2) (A3 := A3) (n1 := ns.length) (n2 := es.length) (n3 := n3) (c1 := c1) (c2 := c2) (c3 := c3) HNP.out (v : Int) w'
  rw [show inB 0 (v : Int) ((ns.length : Int) - 1) = true by unfold inB; simp; omega] at hnd
  have hto := fun (w' : World) (hb : Below W1.heap.size W1 w') => to4_at (HG.out.below hb) hok (HC.out.below hb) (v : Int)
  have et : toT ns es bs cl (v : Int) = toD es bs cl (v : Int) := by unfold toT inB; rw [if_pos (by simp; omega)]
  have hD := toD_is hok cl (v : Int)
  rw [et, hD.1] at hto
  have HL := Lib.hid hD.1
  have HIS := Lib.hid hD.2
  have hbd := fun x => dl_bd (toD_bd hok cl (v : Int)) x
  have hnx := fun (w' : World) (hb : Below W1.heap.size W1 w') (x : Nat) => next4_any (HG.out.below hb) s3 (x : Int)
  have HNX0 := Lib.hid hnx
  have hwf := way_wf hok (cl := cl) (v := (v : Int)) hq h0
  have hwl := way_len (es := es) (bs := bs) (cl := cl) (D := dl (toD es bs cl (v : Int))) (dl (toD es bs cl (v : Int)) q).toNat (e := q) (by omega)
  have hb5 := (hbd q).2
  have HWL : Hid ((wayL es bs cl (dl (toD es bs cl (v : Int))) q).length ≤ 33553920) := Lib.hid (by omega)
  obtain ⟨i1, hi1⟩ := info1
  have II := Lib.hid hi1
  have HED := Lib.hid hed
  have HND := Lib.hid hnd
  have HTO := Lib.hid hto
  have HBD := Lib.hid hbd
  have HWF := Lib.hid hwf
  obtain ⟨L, hL⟩ : ∃ L, L = toD es bs cl (v : Int) := ⟨_, rfl⟩
  rw [← hL] at HL HIS HBD HTO HWF HWL h0 ⊢
  obtain ⟨D, hDD⟩ : ∃ D, D = dl L := ⟨_, rfl⟩
  rw [← hDD] at HIS HBD HWF HWL h0 ⊢
  have HDE := Lib.hid hDD
  obtain ⟨T, hTT⟩ : ∃ T, T = wayL es bs cl D q := ⟨_, rfl⟩
  rw [← hTT] at HWF HWL ⊢
  have HTT := Lib.hid hTT
  have HH0 := Lib.hid h0
  have hd0 : ¬ D q < 0 := by omega
  have hbq := HBD.out q
  obtain ⟨dq, hdq⟩ : ∃ dq, dq = D q := ⟨_, rfl⟩
  rw [← hdq] at hd0 hbq
  have HDQ := Lib.hid hdq
  have q0 : (0 : Int) ≤ (q : Int) := by omega
  have q1 : (q : Int) < (es.length : Int) := by omega
  clear h hc hok hW1 hed hnd hto et hD hbd hnx hwf hwl hb5 hi1 hL hDD hTT h0 hdq
  go_enter Try.func31, Try.ntmps31
  go_wp2_with fail
  rw [← HW.out]
  refine (HED.out _).mono ?_
  rintro r y1 ⟨rfl, hb⟩
  have B1 := Lib.hid hb
  obtain ⟨l0, l1, l2⟩ := HS.out _ hb
  clear hb
  go_wp2_with fail
  refine (HND.out _).mono ?_
  rintro r y2 ⟨rfl, hb⟩
  have B2 := Lib.hid (bl_then B1.out hb)
  clear hb l0 l1 l2
  obtain ⟨l0, l1, l2⟩ := HS.out _ B2.out
  go_wp2_with fail
  refine (HTO.out _ B2.out).mono ?_
  rintro r y3 ⟨AF, cF, rfl, hg, hb⟩
  have B3 := Lib.hid (bl_then B2.out hb)
  have hg1 := hg.1
  rw [HL.out] at hg1
  have HF := Lib.hid hg1
  obtain ⟨bF, oF, rfl, hcF⟩ := hg1.cell (by omega)
  have dE := hcF q hq
  rw [dl_get (by rw [HL.out]; exact hq), ← HDE.out, ← HDQ.out] at dE
  clear hb l0 l1 l2 hg hg1 hcF
  go_wp2_with fail
  go_loopg [1, 11] (dq.toNat + 1) (fun M u z wr => ∃ (x : Nat) (O : List Nat), M = (D x).toNat + 1 ∧ u = .int .i64 (x : Nat) ∧ x < es.length ∧ 0 ≤ D x ∧ O ++ wayL es bs cl D x = T ∧ wr.ownsRow y3.heap.size 3 1 z O.length (flatI (castL O)) ∧ Below y3.heap.size y3 wr)
  case atStart => exact ⟨q, [], by rw [HDQ.out], rfl, hq, HH0.out, by rw [HTT.out]; rfl, World.ownsRow_nil _ _ _ _, Below.refl _ _⟩
  case round =>
    obtain ⟨x, O, hM, rfl, hx, hx0, hO, hown, hb⟩ := hrel
    have HM := Lib.hid hM
    have HX0 := Lib.hid hx0
    have HO := Lib.hid hO
    have HOWN := Lib.hid hown
    have HB := Lib.hid hb
    obtain ⟨bF2, oF2, hAF2, hcF2⟩ := (HF.out.below HB.out).cell (by omega)
    have dX := hcF2 x hx
    rw [dl_get (by rw [HL.out]; exact hx), ← HDE.out] at dX
    injection hAF2 with hAF2
    injection hAF2 with hAF3 hAF4 _
    subst hAF3 hAF4
    have x0 : (0 : Int) ≤ (x : Int) := by omega
    have x1 : (x : Int) < (es.length : Int) := by omega
    have hbx := HBD.out x
    obtain ⟨dx, hdx⟩ : ∃ dx, dx = D x := ⟨_, rfl⟩
    rw [← hdx] at dX hbx
    have HDX := Lib.hid hdx
    clear hM hO hown hb hcF2 dE hdx hx0
    by_cases hp : 0 < dx
    · obtain ⟨y, hy⟩ := step_some HOK.out HIS.out hx (by rw [← HDX.out]; exact hp)
      obtain ⟨p1, p2, p3, p4, p5, p6⟩ := step_parts hy
      have hmo := way_more (es := es) (bs := bs) (cl := cl) (D := D) (e := x) (by rw [← HDX.out]; exact hp) hy
      have hO := HO.out
      rw [hmo] at hO
      have hol : O.length + 1 ≤ 33553920 := by
        have := HWL.out
        rw [← hO] at this
        simp at this; omega
      have HOL : Hid (O.length + 1 ≤ maxLen ∧ (O.length + 1) * 8 ≤ 140737488355328) := Lib.hid ⟨by unfold maxLen; omega, by omega⟩
      have HO2 := Lib.hid hO
      have HY := Lib.hid hy
      have HP1 := Lib.hid p1
      have HP4 := Lib.hid p4
      have HP5 := Lib.hid p5
      have hnx := HNX0.out wr (bl_then B3.out HB.out) x
      rw [nextT_eq] at hnx
      rw [List.length_map] at hnx
      have hnl : (nextN es bs x).length ≤ 512 := by unfold nextN; exact Nat.le_trans (List.length_filter_le _ _) (by simpa using s3)
      have HNX := Lib.hid hnx
      have y0 : (0 : Int) ≤ (y : Int) := by omega
      have y1' : ¬ (y : Int) < 0 := by omega
      obtain ⟨l0, l1, l2⟩ := HS.out _ (bl_then B3.out HB.out)
      clear hy p1 p2 p3 p4 p5 p6 hmo hO hol hnx
      go_wp2_with fail
      refine HNX.out.mono ?_
      rintro r wn ⟨AN, cN, rfl, hr, _, hb⟩
      have HRN := Lib.hid hr
      have HBN := Lib.hid hb
      have dXn := cell_below dX hb
      have DXN := Lib.hid dXn
      clear hr hb l0 l1 l2 dX dXn
      go_wp2_with fail
      go_loopg [14, 13] (nextN es bs x).length (fun M u z wr => ∃ (k : Nat) (f : Int), M = (nextN es bs x).length - k ∧ k ≤ (nextN es bs x).length ∧ u = .int .i64 (k : Nat) ∧ z = .int .i64 f ∧ ((f = -1 ∧ ∀ j, j < k → fitB es cl D x ((nextN es bs x).getD j 0) = false) ∨ f = (y : Int)) ∧ Below wn.heap.size wn wr)
      case atStart => exact ⟨0, -1, rfl, Nat.zero_le _, rfl, rfl, .inl ⟨rfl, fun j hj => by omega⟩, Below.refl _ _⟩
      case round =>
        obtain ⟨k, f, hMQ, hk, rfl, rfl, hst, hbq2⟩ := hrel
        have HMQ := Lib.hid hMQ
        have HBQ := Lib.hid hbq2
        clear hMQ hbq2
        rcases hst with ⟨rfl, hno⟩ | rfl
        · have HNO := Lib.hid hno
          clear hno
          by_cases hkl : k < (nextN es bs x).length
          · obtain ⟨bN, oN, rfl, hcN⟩ := (HRN.out.below HBQ.out).cell (by omega)
            have dN := hcN k hkl
            rw [map_cast_getD hkl] at dN
            have hmem : (nextN es bs x).getD k 0 ∈ nextN es bs x := by rw [List.getD_eq_getElem?_getD, List.getElem?_eq_getElem hkl]; exact List.getElem_mem hkl
            have hyl := (nextN_mem.1 hmem).1
            have hfa := step_first HY.out HNO.out hkl
            have hfi := @fitB_iff es cl D x ((nextN es bs x).getD k 0)
            have hno2 : fitB es cl D x ((nextN es bs x).getD k 0) = false → ∀ j, j < k + 1 → fitB es cl D x ((nextN es bs x).getD j 0) = false := fun h1 j hj => by
              by_cases hjk : j = k
              · rw [hjk]; exact h1
              · exact HNO.out j (by omega)
            obtain ⟨z, hz⟩ : ∃ z, z = (nextN es bs x).getD k 0 := ⟨_, rfl⟩
            rw [← hz] at dN hyl hfa hfi hno2
            have hwz := wN_bd HOK.out z
            obtain ⟨bF3, oF3, hAF3, hcF3⟩ := (HF.out.below (bl_then HB.out (bl_then HBN.out HBQ.out))).cell (by omega)
            injection hAF3 with hAF3
            injection hAF3 with hAF5 hAF6 _
            subst hAF5 hAF6
            have dZ := hcF3 z hyl
            rw [dl_get (by rw [HL.out]; exact hyl), ← HDE.out] at dZ
            obtain ⟨bE, oE, hAE, hcE⟩ := (HG.out.below (bl_then B3.out (bl_then HB.out (bl_then HBN.out HBQ.out)))).rE.cell (by omega)
            obtain ⟨_, _, dW⟩ := hcE z hyl
            rw [show (es.getD z (0, 0, 0)).2.2 = wN es z from rfl] at dW
            obtain ⟨l0, l1, l2⟩ := HS.out _ (bl_then B3.out (bl_then HB.out (bl_then HBN.out HBQ.out)))
            rw [hAE] at l1
            have dX := cell_below DXN.out HBQ.out
            have hcl := fun nq : Nat => closed4_still (HC.out.below (bl_drewN (bl_then B3.out (bl_then HB.out (bl_then HBN.out HBQ.out))) nq)) z (by omega)
            have hbz := HBD.out z
            rw [← HDX.out] at hfi
            obtain ⟨dz, hdz⟩ : ∃ dz, dz = D z := ⟨_, rfl⟩
            obtain ⟨wz, hwz2⟩ : ∃ wz, wz = wN es z := ⟨_, rfl⟩
            rw [← hdz] at dZ hbz hfi
            rw [← hwz2] at dW hwz hfi
            have hsum : IntKind.i64.wrap (dz + wz) = dz + wz := IntWalk.i64_in _ (by omega)
            have hw1 := hwz.2.2 hyl
            have HFA := Lib.hid hfa
            have HFI := Lib.hid hfi
            have HNOF := Lib.hid hno2
            have z0 : (0 : Int) ≤ (z : Int) := by omega
            have z1 : (z : Int) < (es.length : Int) := by omega
            have k0 : (0 : Int) ≤ (k : Int) := by omega
            have k1 : (k : Int) < ((nextN es bs x).length : Int) := by omega
            clear hcN hmem hfa hfi hno2 hz hcF3 hcE hAE hdz hwz2 hwz
            cases hsh : shutB cl z with
            | true =>
              rw [hsh] at hcl
              have HCL : Hid (∀ nq : Nat, Calls Try.prog 57 #[.slice A n c, .int .i64 (z : Nat)] (wr.drewN nq) fun r w' => r = .returned (.bool true) ∧ w' = wr.drewN nq) := Lib.hid hcl
              have HNO2 := Lib.hid (HNOF.out (by cases hff : fitB es cl D x z with
                | false => rfl
                | true => have := (HFI.out.1 hff).1; rw [hsh] at this; cases this))
              clear hsh hcl
              go_wp2_with fail
              go_quiet ((go_at_call 57; refine Calls.quiet_of_same (HCL.out _)))
              go_wp2_with fail
              go_roundg ((nextN es bs x).length - (k + 1))
              case measure => have := HMQ.out; omega
              case rel => exact ⟨k + 1, -1, rfl, by omega, by go_num, rfl, .inl ⟨rfl, HNO2.out⟩, bl_drewN HBQ.out _⟩
            | false =>
              rw [hsh] at hcl
              have HCL : Hid (∀ nq : Nat, Calls Try.prog 57 #[.slice A n c, .int .i64 (z : Nat)] (wr.drewN nq) fun r w' => r = .returned (.bool false) ∧ w' = wr.drewN nq) := Lib.hid hcl
              by_cases hd0 : 0 ≤ dz
              · have b1 : decide (0 ≤ dz) = true := decide_eq_true hd0
                by_cases hd2 : dz + wz = dx
                · have b3 : (dz + wz == dx) = true := by simp [hd2]
                  have HFE := Lib.hid (HFA.out (HFI.out.2 ⟨hsh, hd0, by omega, by omega⟩))
                  clear hd2 hsh hcl
                  go_wp2_with fail
                  go_quiet ((go_at_call 57; refine Calls.quiet_of_same (HCL.out _)))
                  go_wp2_with fail
                  go_roundg ((nextN es bs x).length - (k + 1))
                  case measure => have := HMQ.out; omega
                  case rel => exact ⟨k + 1, (z : Int), rfl, by omega, by go_num, rfl, .inr (by rw [HFE.out]), bl_drewN HBQ.out _⟩
                · have b3 : (dz + wz == dx) = false := beq_false_of_ne hd2
                  have HNO2 := Lib.hid (HNOF.out (by cases hff : fitB es cl D x z with
                    | false => rfl
                    | true => have := (HFI.out.1 hff).2.2.2; omega))
                  clear hsh hcl hd2
                  go_wp2_with fail
                  go_quiet ((go_at_call 57; refine Calls.quiet_of_same (HCL.out _)))
                  go_wp2_with fail
                  go_roundg ((nextN es bs x).length - (k + 1))
                  case measure => have := HMQ.out; omega
                  case rel => exact ⟨k + 1, -1, rfl, by omega, by go_num, rfl, .inl ⟨rfl, HNO2.out⟩, bl_drewN HBQ.out _⟩
              · have b1 : decide (0 ≤ dz) = false := decide_eq_false hd0
                have HNO2 := Lib.hid (HNOF.out (by cases hff : fitB es cl D x z with
                  | false => rfl
                  | true => exact absurd (HFI.out.1 hff).2.1 hd0))
                clear hsh hcl
                go_wp2_with fail
                go_quiet ((go_at_call 57; refine Calls.quiet_of_same (HCL.out _)))
                go_wp2_with fail
                go_roundg ((nextN es bs x).length - (k + 1))
                case measure => have := HMQ.out; omega
                case rel => exact ⟨k + 1, -1, rfl, by omega, by go_num, rfl, .inl ⟨rfl, HNO2.out⟩, bl_drewN HBQ.out _⟩
          · exfalso
            obtain rfl : k = (nextN es bs x).length := by omega
            exact step_end HY.out HNO.out
        · by_cases hkl : k < (nextN es bs x).length
          · skip
            have HB2 := Lib.hid (bl_then HB.out (bl_then HBN.out HBQ.out))
            have HOA := Lib.hid (own_upd (own_upd HOWN.out (Upd.of_below (F := fun _ => False) (bl_then HBN.out HBQ.out)) (fun _ _ h => h)) (Upd.of_below (F := fun _ => False) (bl_alloc (Below.refl _ _) (.cells #[.int .i64 (y : Int)] 3))) (fun _ _ h => h))
            have HSRC := Lib.hid (Src.new (w := wr) (vs := #[.int .i64 (y : Int)]) (t := 3) (size := 1) (by intro u hu; simp at hu; subst hu; rfl) rfl)
            have HBS : Hid (y3.heap.size ≤ (wr.alloc (.cells #[.int .i64 (y : Int)] 3)).heap.size) := Lib.hid (bl_alloc HB2.out _).size
            go_wp2_with (at_builtin; refine wpList_push rfl (.tmp 89) (.tmp 91) 22 rfl y3.heap.size 3 Try.underlying22 II.out ⟨rfl, by decide⟩ _ O.length _ rfl HOA.out (some ⟨wr.heap.size, 0, none⟩) 1 1 _ rfl HSRC.out HOL.out HBS.out ?_)
            intro v' w3 hgr
            have hrow := hgr.row
            have hb3 : Below y3.heap.size y3 w3 := (bl_alloc HB2.out (.cells #[.int .i64 (y : Int)] 3)).grown hgr.by_ HBS.out (fun g hg => (World.ownsRow.lt HOA.out g hg).1)
            have HROW := Lib.hid hrow
            have HB3 := Lib.hid hb3
            clear hgr hrow hb3
            go_wp2_with fail
            go_roundg ((D y).toNat + 1)
            case measure => have := HM.out; have := HP4.out; have := HP5.out; omega
            case rel =>
              refine ⟨y, O ++ [y], rfl, rfl, HP1.out, HP4.out, ?_, ?_, HB3.out⟩
              · rw [List.append_assoc]; exact HO2.out
              · rw [castL_append, flatI_append, List.length_append]; exact HROW.out
          · skip
            have HB2 := Lib.hid (bl_then HB.out (bl_then HBN.out HBQ.out))
            have HOA := Lib.hid (own_upd (own_upd HOWN.out (Upd.of_below (F := fun _ => False) (bl_then HBN.out HBQ.out)) (fun _ _ h => h)) (Upd.of_below (F := fun _ => False) (bl_alloc (Below.refl _ _) (.cells #[.int .i64 (y : Int)] 3))) (fun _ _ h => h))
            have HSRC := Lib.hid (Src.new (w := wr) (vs := #[.int .i64 (y : Int)]) (t := 3) (size := 1) (by intro u hu; simp at hu; subst hu; rfl) rfl)
            have HBS : Hid (y3.heap.size ≤ (wr.alloc (.cells #[.int .i64 (y : Int)] 3)).heap.size) := Lib.hid (bl_alloc HB2.out _).size
            go_wp2_with (at_builtin; refine wpList_push rfl (.tmp 89) (.tmp 91) 22 rfl y3.heap.size 3 Try.underlying22 II.out ⟨rfl, by decide⟩ _ O.length _ rfl HOA.out (some ⟨wr.heap.size, 0, none⟩) 1 1 _ rfl HSRC.out HOL.out HBS.out ?_)
            intro v' w3 hgr
            have hrow := hgr.row
            have hb3 : Below y3.heap.size y3 w3 := (bl_alloc HB2.out (.cells #[.int .i64 (y : Int)] 3)).grown hgr.by_ HBS.out (fun g hg => (World.ownsRow.lt HOA.out g hg).1)
            have HROW := Lib.hid hrow
            have HB3 := Lib.hid hb3
            clear hgr hrow hb3
            go_wp2_with fail
            go_roundg ((D y).toNat + 1)
            case measure => have := HM.out; have := HP4.out; have := HP5.out; omega
            case rel =>
              refine ⟨y, O ++ [y], rfl, rfl, HP1.out, HP4.out, ?_, ?_, HB3.out⟩
              · rw [List.append_assoc]; exact HO2.out
              · rw [castL_append, flatI_append, List.length_append]; exact HROW.out
    · have hend := way_end (es := es) (bs := bs) (cl := cl) (D := D) (e := x) (by rw [← HDX.out]; exact hp)
      have hO := HO.out
      rw [hend, List.append_nil] at hO
      subst hO
      obtain ⟨A', c', hv⟩ := own_form HOWN.out
      subst hv
      have HROW := HOWN
      clear hend
      go_wp2_with fail
      go_ret2
      have hsz : w.heap.size ≤ y3.heap.size := (HB0.out.trans (B3.out.mono HB0.out.size)).size
      refine ⟨A', c', by rw [castL_len]; rfl, ⟨?_, fun b o e => by subst e; have := own_lt2 HROW.out; exact ⟨Nat.le_trans hsz this.1, this.2⟩, by rw [castL_len]; exact own_shape HROW.out⟩, HB0.out.trans ((bl_then B3.out HB.out).mono HB0.out.size)⟩
      have hr := HROW.out
      rw [← castL_len] at hr
      exact ReadsI.of_row (by rw [castL_len]; rw [castL_len] at hr; exact hr) (by have := HWL.out; rw [castL_len]; unfold maxLen; omega) HWF.out
set_option maxRecDepth 100000 in
set_option maxHeartbeats 8000000 in
/-- where there is none -/
theorem way4_no {w : World} {A1 A2 A3 : Option Addr} {n3 c1 c2 c3 : Nat} {ns bs : List (Int × Int)} {es : List (Int × Int × Int)} (h : GR w A1 A2 A3 ns.length es.length n3 c1 c2 c3 ns es bs) (hok : mayB ns es bs = true) {A : Option Addr} {n c : Nat} {cl : List Bool} (hc : ReadsB w A n c cl) (e v : Int) (h0 : btwT ns es bs cl e v < 0) :
    Calls Try.prog 31 #[.agg #[.slice A1 ns.length c1, .slice A2 es.length c2, .slice A3 n3 c3], .int .i64 e, .int .i64 v, .slice A n c] w fun r w' =>
      r = .returned (.tuple #[.slice none 0 0, .bool false]) ∧ Below w.heap.size w w' := by
  have s3 := (mayB_parts hok).2.1.2.2.1
  have HB0 := Lib.hid (bl_alloc (Below.refl w.heap.size w) (.cells #[.slice A1 ns.length c1, .slice A2 es.length c2, .slice A3 n3 c3] 29))
  have HG := Lib.hid (h.below HB0.out)
  have HC := Lib.hid (hc.below HB0.out)
  have HNP : Hid (ns.length ≤ maxLen) := Lib.hid h.rN.small
  obtain ⟨W1, hW1⟩ : ∃ W1, W1 = w.alloc (.cells #[.slice A1 ns.length c1, .slice A2 es.length c2, .slice A3 n3 c3] 29) := ⟨_, rfl⟩
  have HS : Hid (∀ w', Below W1.heap.size W1 w' → w'.cell? ⟨w.heap.size, 0, none⟩ = some (.slice A1 ns.length c1) ∧ w'.cell? ⟨w.heap.size, 1, none⟩ = some (.slice A2 es.length c2) ∧ w'.cell? ⟨w.heap.size, 2, none⟩ = some (.slice A3 n3 c3)) := Lib.hid fun w' hb => by subst hW1; exact GR.box hb
  rw [← hW1] at HG HC HB0
  have HW := Lib.hid hW1
  have hed := fun w' : World => edge4_c (A1 := A1) (A2 := A2) (A3 := A3) (n1 := ns.length) (n2 := es.length) (n3 := n3) (c1 := c1) (c2 := c2) (c3 := c3) (by unfold maxLen; omega) e w'
  have hnd := fun w' : World => node4_any (A1 := A1) (A2 := A2) (A3 := A3) (n1 := ns.length) (n2 := es.length) (n3 := n3) (c1 := c1) (c2 := c2) (c3 := c3) HNP.out v w'
  have hto := fun (w' : World) (hb : Below W1.heap.size W1 w') => to4_at (HG.out.below hb) hok (HC.out.below hb) v
  rcases inB_cases (v := e) (n := es.length) with ⟨q, rfl, hq, hin2⟩ | ⟨hout2, hin2⟩
  · rw [hin2] at hed
    have HED := Lib.hid hed
    rcases inB_cases (v := v) (n := ns.length) with ⟨k, rfl, hk, hin⟩ | ⟨hout, hin⟩
    · rw [hin] at hnd
      have HND := Lib.hid hnd
      have et : toT ns es bs cl (k : Int) = toD es bs cl (k : Int) := by unfold toT; rw [if_pos hin]
      have hl := (toD_is hok cl (k : Int)).1
      rw [et, hl] at hto
      have HTO := Lib.hid hto
      have eb : btwT ns es bs cl (q : Int) (k : Int) = dl (toD es bs cl (k : Int)) q := by unfold btwT; rw [if_pos ⟨hin2, hin⟩, Int.toNat_natCast]
      rw [eb] at h0
      have hg := dl_get (L := toD es bs cl (k : Int)) (x := q) (by omega)
      obtain ⟨D, hD⟩ : ∃ D, D = dl (toD es bs cl (k : Int)) q := ⟨_, rfl⟩
      rw [← hD] at hg h0
      have HGG := Lib.hid hg
      have HL := Lib.hid hl
      have q0 : (0 : Int) ≤ (q : Int) := by omega
      have q1 : (q : Int) < (es.length : Int) := by omega
      clear et hl eb hg hin hin2 hD hnd hed hok h hc hto hk hW1
      go_enter Try.func31, Try.ntmps31
      go_wp2_with fail
      rw [← HW.out]
      refine (HED.out _).mono ?_
      rintro r y1 ⟨rfl, hb⟩
      have B1 := Lib.hid hb
      obtain ⟨l0, l1, l2⟩ := HS.out _ hb
      clear hb
      go_wp2_with fail
      refine (HND.out _).mono ?_
      rintro r y2 ⟨rfl, hb⟩
      have B2 := Lib.hid (bl_then B1.out hb)
      clear hb l0 l1 l2
      obtain ⟨l0, l1, l2⟩ := HS.out _ B2.out
      go_wp2_with fail
      refine (HTO.out _ B2.out).mono ?_
      rintro r y3 ⟨AF, cF, rfl, hg, hb⟩
      have B3 := Lib.hid (bl_then B2.out hb)
      have hg1 := hg.1
      rw [HL.out] at hg1
      obtain ⟨bF, oF, rfl, hcF⟩ := hg1.cell (by omega)
      have dE := hcF q hq
      rw [HGG.out] at dE
      clear hb l0 l1 l2 hg hg1 hcF
      go_wp2_with fail
      go_ret2
      exact ⟨rfl, HB0.out.trans (B3.out.mono HB0.out.size)⟩
    · rw [hin] at hnd
      have HND := Lib.hid hnd
      clear hin hin2 hnd hed hok h hc hto hout h0 hW1
      go_enter Try.func31, Try.ntmps31
      go_wp2_with fail
      rw [← HW.out]
      refine (HED.out _).mono ?_
      rintro r y1 ⟨rfl, hb⟩
      have B1 := Lib.hid hb
      obtain ⟨l0, l1, l2⟩ := HS.out _ hb
      clear hb
      go_wp2_with fail
      refine (HND.out _).mono ?_
      rintro r y2 ⟨rfl, hb⟩
      have B2 := Lib.hid (bl_then B1.out hb)
      clear hb l0 l1 l2
      go_wp2_with fail
      go_ret2
      exact ⟨rfl, HB0.out.trans (B2.out.mono HB0.out.size)⟩
  · rw [hin2] at hed
    have HED := Lib.hid hed
    clear hin2 hnd hed hok h hc hto hout2 h0 hW1
    go_enter Try.func31, Try.ntmps31
    go_wp2_with fail
    rw [← HW.out]
    refine (HED.out _).mono ?_
    rintro r y1 ⟨rfl, hb⟩
    have B1 := Lib.hid hb
    clear hb
    go_wp2_with fail
    go_ret2
    exact ⟨rfl, HB0.out.trans (B1.out.mono HB0.out.size)⟩
theorem way4_at {w : World} {A1 A2 A3 : Option Addr} {n3 c1 c2 c3 : Nat} {ns bs : List (Int × Int)} {es : List (Int × Int × Int)} (h : GR w A1 A2 A3 ns.length es.length n3 c1 c2 c3 ns es bs) (hok : mayB ns es bs = true) {A : Option Addr} {n c : Nat} {cl : List Bool} (hc : ReadsB w A n c cl) (e v : Int) :
    Calls Try.prog 31 #[.agg #[.slice A1 ns.length c1, .slice A2 es.length c2, .slice A3 n3 c3], .int .i64 e, .int .i64 v, .slice A n c] w fun r w' =>
      ∃ A' c', r = .returned (.tuple #[.slice A' (wayT ns es bs cl e v).length c', .bool (decide (0 ≤ btwT ns es bs cl e v))]) ∧ Given w w' A' c' (wayT ns es bs cl e v) ∧ Below w.heap.size w w' := by
  by_cases h0 : 0 ≤ btwT ns es bs cl e v
  · have hin : inB 0 e ((es.length : Int) - 1) = true ∧ inB 0 v ((ns.length : Int) - 1) = true := by
      unfold btwT at h0
      split at h0
      · rename_i h2; exact h2
      · omega
    have h3 := hin
    unfold inB at h3
    simp only [Bool.and_eq_true, decide_eq_true_eq] at h3
    obtain ⟨q, rfl⟩ : ∃ q : Nat, e = (q : Int) := ⟨e.toNat, by omega⟩
    obtain ⟨k, rfl⟩ : ∃ k : Nat, v = (k : Int) := ⟨v.toNat, by omega⟩
    have eb : btwT ns es bs cl (q : Int) (k : Int) = dl (toD es bs cl (k : Int)) q := by unfold btwT; rw [if_pos hin, Int.toNat_natCast]
    have ew : wayT ns es bs cl (q : Int) (k : Int) = castL (wayL es bs cl (dl (toD es bs cl (k : Int))) q) := by unfold wayT; rw [if_pos h0, Int.toNat_natCast]
    rw [ew, decide_eq_true h0]
    exact way4_in h hok hc (by omega) (by omega) (by rw [← eb]; exact h0)
  · obtain ⟨x1, x2⟩ := wayT_none (ns := ns) (es := es) (bs := bs) (cl := cl) (e := e) (v := v) (by omega)
    rw [x1, x2]
    refine (way4_no h hok hc e v (by omega)).mono ?_
    rintro r w' ⟨rfl, hb⟩
    exact ⟨none, 0, rfl, given_nil _ _, hb⟩
end Go.Proofs.Ytjopiefojicblaa
