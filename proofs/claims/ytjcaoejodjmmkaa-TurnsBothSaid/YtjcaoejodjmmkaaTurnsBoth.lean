/- TurnsBoth: what may come behind one has it ahead; a ban is never a turn; each arc is a turn, with the weight of where it goes. For every input, without a condition. -/
import Derived.Test.YtjcaoejodjmmkaaAwake7
import Derived.Test.YtjcaoejodjmmkaaArcs
import Derived.Test.YtjcaoejodjmmkaaTurnsSum
import Derived.Test.YtjcaoejodjmmkaaRow
import Derived.Deep.CutRange
set_option linter.unusedVariables false
set_option linter.unusedSimpArgs false
namespace Go.Proofs.Ytjcaoejodjmmkaa.turnsBoth
open Go.ChangeShapes Go.WideShapes Go.ChangeAt Go.RowKit RowP
theorem arcs_mem {es : List (Int × Int × Int)} {bs : List (Int × Int)} {x : Int × Int × Int} (h : x ∈ arcsT es bs) : ∃ a b : Nat, x = ((a : Int), (b : Int), (es.getD b (0, 0, 0)).2.2) ∧ b < es.length ∧ turnB es bs (a : Int) (b : Int) = true := by
  unfold arcsT arcsN arcRow at h
  obtain ⟨a, _, h1⟩ := List.mem_flatMap.1 h
  obtain ⟨b, h2, rfl⟩ := List.mem_map.1 h1
  have h3 := nextT_mem.1 h2
  obtain ⟨i, j, _, rfl, _, hj⟩ := turnB_in h3
  exact ⟨a, j, rfl, hj, h3⟩
theorem getD_memA {xs : List (Int × Int × Int)} {j : Nat} (h : j < xs.length) : xs.getD j (0, 0, 0) ∈ xs := by
  rw [List.getD_eq_getElem?_getD, List.getElem?_eq_getElem h]; exact List.getElem_mem h
theorem any_snoc {xs : List Int} {j : Nat} (h : j < xs.length) (p : Int → Bool) : (xs.take (j + 1)).any p = ((xs.take j).any p || p (xs.getD j 0)) := by
  rw [take_snocI h, List.any_append]; simp
theorem bl_set {B b j : Nat} {w W : World} (h : Below B w W) (hb : B ≤ b) (v : Value) : Below B w (W.setCell ⟨b, j, none⟩ v) := h.setCell (p := ⟨b, j, none⟩) hb v
theorem not_ban {es : List (Int × Int × Int)} {bs : List (Int × Int)} {a b : Int} (h : turnB es bs a b = true) : decide ((a, b) ∈ bs) = false := by
  unfold turnB at h
  simp only [Bool.and_eq_true, Bool.not_eq_true'] at h
  exact h.2
set_option maxRecDepth 100000 in
set_option maxHeartbeats 4000000 in
theorem walk_out (A : Option Addr) (n k : Nat) (hs : n ≤ 9223372036854775807) (w : World) (h : 100 < n) :
    Calls Try.prog 9 #[.slice A n k] w fun e w' => e = .returned (.bool true) ∧ Below w.heap.size w w' := by
  go_enter Try.func9, Try.ntmps9
  go_wp2_with (go_at_call 31; refine (awake7 _).mono ?_; rintro e w1 ⟨rfl, hb1⟩)
  go_ret
  exact ⟨rfl, by assumption⟩
set_option maxRecDepth 100000 in
set_option maxHeartbeats 16000000 in
theorem walk_ins (A : Option Addr) (n k : Nat) (xs : List Int) (w : World) (h : n ≤ 100) (hk : ReadsI w A n k xs) :
    Calls Try.prog 9 #[.slice A n k] w fun e w' => e = .returned (.bool true) ∧ Below w.heap.size w w' := by
  have HOK := Lib.hid (town_good xs)
  have hmd := made7 hk
  have hE70 := len_townE xs
  obtain ⟨ns, hns⟩ : ∃ ns, ns = townN xs := ⟨_, rfl⟩
  obtain ⟨es, hes⟩ : ∃ es, es = townE xs := ⟨_, rfl⟩
  obtain ⟨bs, hbs⟩ : ∃ bs, bs = townB xs := ⟨_, rfl⟩
  rw [← hes] at hE70
  rw [← hns, ← hes, ← hbs] at HOK hmd
  have HMD := Lib.hid hmd
  obtain ⟨s1, s2, s3, s4⟩ := (mayB_parts HOK.out).2.1
  clear hmd hns hes hbs
  clear hk
  go_enter Try.func9, Try.ntmps9
  go_wp2_with fail
  refine HMD.out.mono ?_
  rintro e w1 ⟨A1, A2, A3, c1, c2, c3, B, t, p, rfl, hM⟩
  have hbx := bl_alloc (Below.refl w1.heap.size w1) (.cells #[.slice A1 ns.length c1, .slice A2 es.length c2, .slice A3 bs.length c3] 28)
  obtain ⟨v0, hv0⟩ : ∃ v0, v0 = w1.alloc (.cells #[.slice A1 ns.length c1, .slice A2 es.length c2, .slice A3 bs.length c3] 28) := ⟨_, rfl⟩
  have HS : Hid (∀ w', Below v0.heap.size v0 w' → w'.cell? ⟨w1.heap.size, 0, none⟩ = some (.slice A1 ns.length c1) ∧ w'.cell? ⟨w1.heap.size, 1, none⟩ = some (.slice A2 es.length c2) ∧ w'.cell? ⟨w1.heap.size, 2, none⟩ = some (.slice A3 bs.length c3)) := Lib.hid fun w' hb => by subst hv0; exact GR.box hb
  have k0 : (w1.alloc (.cells #[.slice A1 ns.length c1, .slice A2 es.length c2, .slice A3 bs.length c3] 28)).cell? ⟨w1.heap.size, 0, none⟩ = some (.slice A1 ns.length c1) := cell_three_new 0 _ rfl
  have k1 : (w1.alloc (.cells #[.slice A1 ns.length c1, .slice A2 es.length c2, .slice A3 bs.length c3] 28)).cell? ⟨w1.heap.size, 1, none⟩ = some (.slice A2 es.length c2) := cell_three_new 1 _ rfl
  have k2 : (w1.alloc (.cells #[.slice A1 ns.length c1, .slice A2 es.length c2, .slice A3 bs.length c3] 28)).cell? ⟨w1.heap.size, 2, none⟩ = some (.slice A3 bs.length c3) := cell_three_new 2 _ rfl
  rw [← hv0] at hbx
  have HG := Lib.hid (hM.g.below hbx)
  have HT := Lib.hid (hM.t.below hbx)
  have HBW : Hid (Below w.heap.size w v0) := Lib.hid (hM.below.trans (hbx.mono hM.below.size))
  have HV0 := Lib.hid hv0
  have HTE : Hid (w1.heap.size < v0.heap.size) := Lib.hid (by rw [hv0, size_alloc]; omega)
  have HLO : Hid (w.heap.size ≤ B) := Lib.hid hM.lo
  clear hM hbx hv0 HMD
  have HT0 : Hid (∀ w', Below v0.heap.size v0 w' → w'.cell? ⟨t, 0, none⟩ = some (.pointer (some ⟨p, 0, none⟩))) := Lib.hid fun w' hb => by
    obtain ⟨tb, R, hT⟩ := HT.out.below hb; exact block_cell hT.ht rfl
  have HGG : Hid (∀ w', Below v0.heap.size v0 w' → ∃ E, GraphAt w' B E p ns es bs) := Lib.hid fun w' hb => by
    obtain ⟨tb, R, hT⟩ := HT.out.below hb; exact ⟨_, hT.g⟩
  go_wp2_with fail
  rw [← HV0.out]
  go_loopg [5, 6] es.length (fun M u v wr => ∃ k S : Nat, M = es.length - k ∧ k ≤ es.length ∧ v = .int .i64 (k : Nat) ∧ u = .int .i64 (S : Nat) ∧ S = sm (fun a => (nextT es bs ((a : Nat) : Int)).length) k ∧ Below v0.heap.size v0 wr)
  case atStart => exact ⟨0, 0, rfl, Nat.zero_le _, rfl, rfl, rfl, Below.refl _ _⟩
  case round =>
    obtain ⟨k, S, hM, hk, rfl, rfl, hS, hb⟩ := hrel
    have hSb : S ≤ k * 512 := by
      rw [hS]
      exact sm_le _ _ _ fun i hi => Nat.le_trans (nextT_len _ _ _) s3
    have hSc : S ≤ 262144 := Nat.le_trans hSb (by omega)
    have HM := Lib.hid hM
    have HSS := Lib.hid hS
    have HB := Lib.hid hb
    obtain ⟨l0, l1, l2⟩ := HS.out _ hb
    clear hM hb k0 k1 k2 hS hSb
    by_cases hlt : k < es.length
    · have hnx := next_at (HT.out.below HB.out) (k : Int)
      have hl5 := nextT_len es bs (k : Int)
      have hget : ∀ j, j < (nextT es bs (k : Int)).length → ∃ q : Nat, (nextT es bs (k : Int)).getD j 0 = (q : Int) ∧ q < es.length ∧ turnB es bs (k : Int) (q : Int) = true := fun j hj => next_get hj
      obtain ⟨X, hX⟩ : ∃ X, X = nextT es bs (k : Int) := ⟨_, rfl⟩
      rw [← hX] at hnx hl5 hget
      obtain ⟨ln, hln⟩ : ∃ ln, ln = X.length := ⟨_, rfl⟩
      rw [← hln] at hnx hl5 hget
      have HNX := Lib.hid hnx
      have HLN := Lib.hid hln
      have HX := Lib.hid hX
      have HGET := Lib.hid hget
      clear hnx hln hX hget
      go_wp2_with fail
      refine HNX.out.mono ?_
      rintro e y1 ⟨D1, d1, rfl, hr, _, hb⟩
      have HB3 := Lib.hid (bl_then HB.out hb)
      have HR := Lib.hid hr
      clear hb hr
      go_wp2_with fail
      go_loopg [8] ln (fun M v wr => ∃ i : Nat, M = ln - i ∧ i ≤ ln ∧ v = .int .i64 (i : Nat) ∧ Below y1.heap.size y1 wr)
      case atStart => exact ⟨0, rfl, Nat.zero_le _, rfl, Below.refl _ _⟩
      case round =>
        obtain ⟨i, hM2, hi, rfl, hb⟩ := hrel
        have HM2 := Lib.hid hM2
        have HB4 := Lib.hid hb
        have HBV := Lib.hid (bl_then HB3.out hb)
        clear hM2 hb
        by_cases hil : i < ln
        · obtain ⟨q, hq, hq1, hq2⟩ := HGET.out i hil
          obtain ⟨bX, oX, rfl, hcell⟩ := (HR.out.below HB4.out).cell (by omega)
          have d0 := hcell i hil
          rw [hq] at d0
          have hpr := prev_at (HT.out.below HBV.out) (q : Int)
          have hkin : (prevT es bs (q : Int)).any (fun y => y == (k : Int)) = true := by
            rw [List.any_eq_true]; exact ⟨(k : Int), prevT_mem.2 hq2, by simp⟩
          have hl6 := prevT_len es bs (q : Int)
          obtain ⟨P, hP⟩ : ∃ P, P = prevT es bs (q : Int) := ⟨_, rfl⟩
          rw [← hP] at hpr hkin hl6
          obtain ⟨lp, hlp⟩ : ∃ lp, lp = P.length := ⟨_, rfl⟩
          rw [← hlp] at hpr hl6
          have HPR := Lib.hid hpr
          have HKIN := Lib.hid hkin
          have HLP := Lib.hid hlp
          have HQ2 := Lib.hid hq2
          have i0 : (0 : Int) ≤ (i : Int) := by omega
          have i1 : (i : Int) < (ln : Int) := by omega
          have D0 := Lib.hid d0
          obtain ⟨x0, rfl⟩ : ∃ x0 : World, x0 = wr := ⟨_, rfl⟩
          clear hcell hq hq2 hpr hkin hP hlp
          go_wp2_with fail
          refine HPR.out.mono ?_
          rintro e y2 ⟨D2, d2, rfl, hr, _, hb⟩
          have HB5 := Lib.hid hb
          have HRP := Lib.hid hr
          clear hb hr d0
          go_wp2_with fail
          go_loopg [9, 11] lp (fun M u v wr => ∃ j : Nat, M = lp - j ∧ j ≤ lp ∧ v = .int .i64 (j : Nat) ∧ u = .bool ((P.take j).any (fun y => y == (k : Int))) ∧ Below y2.heap.size y2 wr)
          case atStart => exact ⟨0, rfl, Nat.zero_le _, rfl, rfl, Below.refl _ _⟩
          case round =>
            obtain ⟨j, hM3, hj, rfl, rfl, hb⟩ := hrel
            have HM3 := Lib.hid hM3
            have HB6 := Lib.hid hb
            clear hM3 hb
            by_cases hjl : j < lp
            · have hsn := any_snoc (xs := P) (j := j) (by rw [← HLP.out]; exact hjl) (fun y => y == (k : Int))
              obtain ⟨bP, oP, rfl, hcell⟩ := (HRP.out.below HB6.out).cell (by omega)
              have d0 := hcell j hjl
              obtain ⟨y, hy⟩ : ∃ y, y = P.getD j 0 := ⟨_, rfl⟩
              rw [← hy] at d0 hsn
              obtain ⟨bb, hbb⟩ : ∃ bb, bb = (P.take j).any (fun y => y == (k : Int)) := ⟨_, rfl⟩
              rw [← hbb] at hsn ⊢
              have HSN := Lib.hid hsn
              have j0 : (0 : Int) ≤ (j : Int) := by omega
              have j1 : (j : Int) < (lp : Int) := by omega
              clear hcell hy hbb hsn
              cases bb with
              | true =>
                go_wp2_with fail
                go_roundg (lp - (j + 1))
                case measure => have := HM3.out; omega
                case rel => exact ⟨j + 1, rfl, by omega, by go_num, by rw [HSN.out]; rfl, HB6.out⟩
              | false =>
                obtain ⟨cb, hcb⟩ : ∃ cb, cb = (y == (k : Int)) := ⟨_, rfl⟩
                rw [← hcb] at HSN
                have hcb2 := hcb.symm
                clear hcb
                cases cb with
                | true =>
                  go_wp2_with fail
                  go_roundg (lp - (j + 1))
                  case measure => have := HM3.out; omega
                  case rel => exact ⟨j + 1, rfl, by omega, by go_num, by rw [HSN.out]; rfl, HB6.out⟩
                | false =>
                  go_wp2_with fail
                  go_roundg (lp - (j + 1))
                  case measure => have := HM3.out; omega
                  case rel => exact ⟨j + 1, rfl, by omega, by go_num, by rw [HSN.out]; rfl, HB6.out⟩
            · have hjn : lp = j := by omega
              subst hjn
              clear hjl hj
              have hall : (P.take lp).any (fun y => y == (k : Int)) = true := by rw [List.take_of_length_le (by rw [HLP.out]; exact Nat.le_refl _)]; exact HKIN.out
              rw [hall]
              have HB7 := Lib.hid (bl_then HB5.out HB6.out)
              have HBW7 := Lib.hid (bl_then HBV.out HB7.out)
              have HSM : Hid (∀ w', Below wr.heap.size wr w' → w'.cell? ⟨bX, oX + i, none⟩ = some (.int .i64 (q : Int)) ∧ w'.cell? ⟨t, 0, none⟩ = some (.pointer (some ⟨p, 0, none⟩))) := Lib.hid fun w' hb => ⟨cell_below (cell_below D0.out HB7.out) hb, HT0.out w' (bl_then HBW7.out hb)⟩
              have K0 : Hid (Below wr.heap.size wr wr.drew) := Lib.hid (bl_drew (Below.refl _ _))
              have r1 := fun (w' : World) (h : Below wr.heap.size wr w') => may_at (HT.out.below (bl_then HBW7.out h)) (k : Int) (q : Int)
              rw [HQ2.out] at r1
              have r2 : ∀ (w' : World), Below wr.heap.size wr w' → Calls Try.prog 20 #[.pointer (some ⟨p, 0, none⟩), .int .i64 (k : Int), .int .i64 (q : Int)] w' fun e w'' => e = .returned (.bool false) ∧ Below w'.heap.size w' w'' := fun w' h => by
                obtain ⟨E, hg⟩ := HGG.out w' (bl_then HBW7.out h)
                have := banned_at hg (k : Int) (q : Int)
                rw [not_ban HQ2.out] at this
                exact this
              have R1 := Lib.hid r1
              have R2 := Lib.hid r2
              clear r1 r2 hall
              go_wp2_with fail
              go_region_held3 (fun w' => w'.cell? ⟨bX, oX + i, none⟩ = some (.int .i64 (q : Int)) ∧ w'.cell? ⟨t, 0, none⟩ = some (.pointer (some ⟨p, 0, none⟩)))
                (first | exact HSM.out _ K0.out | exact HSM.out _ K1.out | exact HSM.out _ K2.out)
                (first
                  | (go_at_call 37
                     refine (R1.out _ K0.out).mono ?_
                     rintro e z1 ⟨rfl, hb⟩
                     have K1 : Hid (Below wr.heap.size wr z1) := Lib.hid (bl_then K0.out hb)
                     clear hb)
                  | (go_at_call 20
                     refine (R2.out _ K1.out).mono ?_
                     rintro e z2 ⟨rfl, hb⟩
                     have K2 : Hid (Below wr.heap.size wr z2) := Lib.hid (bl_then K1.out hb)
                     clear hb))
              all_goals
                have HB8 := Lib.hid (bl_then HB4.out (bl_then HB7.out K2.out))
                go_wp2_with fail
                go_roundg (ln - (i + 1))
                case measure => have := HM2.out; omega
                case rel => exact ⟨i + 1, rfl, by omega, by go_num, HB8.out⟩
        · have hin : ln = i := by omega
          subst hin
          clear hil hi
          go_wp2_with fail
          go_roundg (es.length - (k + 1))
          case measure => have := HM.out; omega
          case rel =>
            refine ⟨k + 1, S + ln, rfl, by omega, by go_num, by go_num, ?_, HBV.out⟩
            simp only [sm]
            rw [← HSS.out, ← HX.out, ← HLN.out]
    · have hkn : es.length = k := by omega
      subst hkn
      clear hlt hk
      have har := arcs_at (HT.out.below HB.out)
      have hmem : ∀ i, i < (arcsT es bs).length → ∃ a b : Nat, (arcsT es bs).getD i (0, 0, 0) = ((a : Int), (b : Int), (es.getD b (0, 0, 0)).2.2) ∧ b < es.length ∧ turnB es bs (a : Int) (b : Int) = true := fun i hi => arcs_mem (getD_memA hi)
      have hal : (arcsT es bs).length = S := by rw [HSS.out]; exact arcsN_sum es bs es.length
      obtain ⟨X, hX⟩ : ∃ X, X = arcsT es bs := ⟨_, rfl⟩
      rw [← hX] at har hmem hal
      rw [hal] at har hmem
      have HAR := Lib.hid har
      have HMEM := Lib.hid hmem
      clear har hmem hal hX
      go_wp2_with fail
      refine HAR.out.mono ?_
      rintro e y1 ⟨D1, d1, rfl, hr, hb⟩
      have HB3 := Lib.hid (bl_then HB.out hb)
      have HR := Lib.hid hr
      clear hb hr
      go_wp2_with fail
      go_loopg [13] S (fun M v wr => ∃ i : Nat, M = S - i ∧ i ≤ S ∧ v = .int .i64 (i : Nat) ∧ Below y1.heap.size y1 wr)
      case atStart => exact ⟨0, rfl, Nat.zero_le _, rfl, Below.refl _ _⟩
      case round =>
        obtain ⟨i, hM2, hi, rfl, hb⟩ := hrel
        have HM2 := Lib.hid hM2
        have HB4 := Lib.hid hb
        have HBV := Lib.hid (bl_then HB3.out hb)
        obtain ⟨x0, rfl⟩ : ∃ x0 : World, x0 = wr := ⟨_, rfl⟩
        clear hM2 hb
        by_cases hil : i < S
        · obtain ⟨a, b, hq, hq1, hq2⟩ := HMEM.out i hil
          obtain ⟨bX, oX, rfl, hcell⟩ := (HR.out.below HB4.out).cell (by omega)
          obtain ⟨d0, d1, d2, d3⟩ := hcell i hil
          rw [hq] at d0 d1 d2
          dsimp only at d0 d1 d2
          obtain ⟨E, hgg⟩ := HGG.out _ HBV.out
          have hedge := fun (w' : World) (h : Below x0.heap.size x0 w') => edge_at (hgg.below h) (b : Int)
          simp only [edgeT_in hq1, inB_nat hq1] at hedge
          obtain ⟨g, hg⟩ : ∃ g, g = es.getD b (0, 0, 0) := ⟨_, rfl⟩
          simp only [← hg] at hedge d2
          obtain ⟨g0, g1, g2⟩ := g
          dsimp only at hedge d2
          have HEDGE := Lib.hid hedge
          have HQ2 := Lib.hid hq2
          have HSQ : Hid (∀ w', Below x0.heap.size x0 w' → w'.cell? ⟨bX, oX + i * 4, none⟩ = some (.int .i64 (a : Int)) ∧ w'.cell? ⟨bX, oX + i * 4 + 1, none⟩ = some (.int .i64 (b : Int)) ∧ w'.cell? ⟨bX, oX + i * 4 + 2, none⟩ = some (.int .i64 g2) ∧ w'.cell? ⟨bX, oX + i * 4 + 3, none⟩ = some (.int .i64 (-1)) ∧ w'.cell? ⟨t, 0, none⟩ = some (.pointer (some ⟨p, 0, none⟩))) :=
            Lib.hid fun w' hb => ⟨cell_below d0 hb, cell_below d1 hb, cell_below d2 hb, cell_below d3 hb, HT0.out w' (bl_then HBV.out hb)⟩
          have i0 : (0 : Int) ≤ (i : Int) := by omega
          have i1 : (i : Int) < (S : Int) := by omega
          have K0 : Hid (Below x0.heap.size x0 x0.drew) := Lib.hid (bl_drew (Below.refl _ _))
          clear hcell hq hq2 hedge hg hgg d0 d1 d2 d3
          go_upto_region 27 with fail
          go_cut [14, 15] from 100 to 112 (fun s14 s15 wx => ∃ db, s14 = .pointer (some ⟨db, 0, none⟩) ∧ s15 = .bool true ∧ wx.cell? ⟨db, 2, none⟩ = some (.int .i64 g2) ∧ Below x0.heap.size x0 wx)
          case first =>
            go_region_held3 (fun w' => w'.cell? ⟨bX, oX + i * 4, none⟩ = some (.int .i64 (a : Int)) ∧ w'.cell? ⟨bX, oX + i * 4 + 1, none⟩ = some (.int .i64 (b : Int)) ∧ w'.cell? ⟨bX, oX + i * 4 + 2, none⟩ = some (.int .i64 g2) ∧ w'.cell? ⟨bX, oX + i * 4 + 3, none⟩ = some (.int .i64 (-1)) ∧ w'.cell? ⟨t, 0, none⟩ = some (.pointer (some ⟨p, 0, none⟩)))
              (exact HSQ.out _ (by repeat (first | exact K1.out | exact K0.out | exact Below.refl _ _ | refine bl_alloc ?_ _ | refine bl_drew ?_ | refine bl_set ?_ (Nat.le_refl _) _)))
              (first
                | (go_at_call 17
                   with_reducible refine (HEDGE.out _ K0.out).mono ?_
                   rintro e z1 ⟨rfl, hb⟩
                   have K1 : Hid (Below x0.heap.size x0 z1) := Lib.hid (bl_then K0.out hb)
                   have HZ : Hid (True) := Lib.hid trivial
                   clear hb)
                | (go_at_call 17
                   with_reducible refine (HEDGE.out _ (bl_drew (bl_alloc (Below.refl _ _) _))).mono ?_
                   rintro e z1 ⟨rfl, hb⟩
                   have K1 : Hid (Below x0.heap.size x0 z1) := Lib.hid (bl_then (bl_drew (bl_alloc (Below.refl _ _) _)) hb)
                   have hz : z1.heap[x0.heap.size]? = some (.cells #[.int .i64 0, .int .i64 0, .int .i64 0] 36) := (hb.block x0.heap.size (by show _ < (World.alloc _ _).heap.size; rw [size_alloc]; omega)).trans (heap_alloc_new x0 _)
                   have e0 := block_cell hz (j := 0) rfl
                   have e1 := block_cell hz (j := 1) rfl
                   have e2 := block_cell hz (j := 2) rfl
                   have f0 := block_fr hz 0
                   have f1 := block_fr hz 1
                   have f2 := block_fr hz 2
                   have HZ := Lib.hid hz
                   clear hb hz))
            all_goals
              go_wp2_with fail
              go_meet
              case rel =>
                refine ⟨_, rfl, rfl, ?_, ?_⟩
                · first
                    | exact cell_three_new 2 _ rfl
                    | exact block_cell (block_set (block_set (block_set HZ.out 0 _) 1 _) 2 _) rfl
                · (repeat (first | exact K1.out | refine bl_alloc ?_ _ | refine bl_set ?_ (Nat.le_refl _) _))
          case rest =>
            obtain ⟨db, rfl, rfl, dd, hbc⟩ := hcut
            have HBC := Lib.hid hbc
            have HSR : Hid (∀ w', Below wc.heap.size wc w' → w'.cell? ⟨bX, oX + i * 4, none⟩ = some (.int .i64 (a : Int)) ∧ w'.cell? ⟨bX, oX + i * 4 + 1, none⟩ = some (.int .i64 (b : Int)) ∧ w'.cell? ⟨bX, oX + i * 4 + 2, none⟩ = some (.int .i64 g2) ∧ w'.cell? ⟨bX, oX + i * 4 + 3, none⟩ = some (.int .i64 (-1)) ∧ w'.cell? ⟨db, 2, none⟩ = some (.int .i64 g2)) :=
              Lib.hid fun w' hb => ⟨(HSQ.out w' (bl_then HBC.out hb)).1, (HSQ.out w' (bl_then HBC.out hb)).2.1, (HSQ.out w' (bl_then HBC.out hb)).2.2.1, (HSQ.out w' (bl_then HBC.out hb)).2.2.2.1, cell_below dd hb⟩
            have L0 : Hid (Below wc.heap.size wc wc.drew) := Lib.hid (bl_drew (Below.refl _ _))
            have HMAY := Lib.hid (may_at (HT.out.below (bl_then HBV.out (bl_then HBC.out L0.out))) (a : Int) (b : Int))
            rw [HQ2.out] at HMAY
            clear hbc dd
            go_wp2_with fail
            go_region_held3 (fun w' => w'.cell? ⟨bX, oX + i * 4, none⟩ = some (.int .i64 (a : Int)) ∧ w'.cell? ⟨bX, oX + i * 4 + 1, none⟩ = some (.int .i64 (b : Int)) ∧ w'.cell? ⟨bX, oX + i * 4 + 2, none⟩ = some (.int .i64 g2) ∧ w'.cell? ⟨bX, oX + i * 4 + 3, none⟩ = some (.int .i64 (-1)) ∧ w'.cell? ⟨db, 2, none⟩ = some (.int .i64 g2))
              (first | exact HSR.out _ L0.out | exact HSR.out _ L1.out)
              (first
                | (go_at_call 37
                   refine HMAY.out.mono ?_
                   rintro e z1 ⟨rfl, hb⟩
                   have L1 : Hid (Below wc.heap.size wc z1) := Lib.hid (bl_then L0.out hb)
                   clear hb))
            all_goals
              have HB8 := Lib.hid (bl_then HB4.out (bl_then HBC.out L1.out))
              go_wp2_with fail
              go_roundg (S - (i + 1))
              case measure => have := HM2.out; omega
              case rel => exact ⟨i + 1, rfl, by omega, by go_num, HB8.out⟩
        · have hin : S = i := by omega
          subst hin
          clear hil hi
          go_wp2_with fail
          refine (awake7 _).mono ?_
          rintro e y2 ⟨rfl, hb⟩
          have HB9 := Lib.hid (bl_then HBV.out hb)
          clear hb
          go_wp2_with fail
          go_ret
          exact ⟨rfl, HBW.out.trans (HB9.out.mono HBW.out.size)⟩
theorem walk {W : World} (A : Option Addr) (n k : Nat) (xs : List Int) (hk : ReadsI W A n k xs) :
    Calls Try.prog 9 #[.slice A n k] W fun e w' => e = .returned (.bool true) ∧ Below W.heap.size W w' := by
  by_cases h : 100 < n
  · have s1 := hk.small
    unfold maxLen at s1
    exact walk_out A n k (by omega) W h
  · exact walk_ins A n k xs W (by omega) hk
set_option maxRecDepth 100000 in
theorem lifted (os : Os) (started : os.Started) (H : Type) (enc : TypeId × Value → H) :
    ReturnsInHanded {} Try.checked os 9 .any (Rows.turnsBothSpec.pre6 enc Try.prog Try.f9 Rows.turnsBothRow.domain false) (Rows.turnsBothSpec.post enc Try.prog Try.f9 false true false false) := by
  refine returnsInHanded_of_change (C := Try.checked) own started (by kernel_rfl) Try.func9
    (ChangeSpec.witness6 (enc := enc) (C := Try.checked) false ⟨#[], #[.slice none 0 0], []⟩ 8 (by kernel_rfl) (by kernel_rfl) (by kernel_rfl) (by kernel_rfl)) ?_
  intro W base args ds gs before hval0 hW hcnd _
  have hval : ∀ (j : Nat) t v, Try.f9.params[j]? = some t → args[j]? = some v → Value.okWide Try.prog W .any base t v := hval0
  have hW' := hW
  obtain ⟨p, q, hA0, hV, rfl, hfz, hnd⟩ := hW
  have hA : DataW.TrodAll enc Try.prog W 0 (fun _ => true) true Try.f9.params.toList args.toList ds p := hA0
  rw [Try.params9] at hA hval
  obtain ⟨v0, vs0, d0, ds0, p0, q0, hargs, rfl, rfl, h0, r0⟩ := trodAll_cons hA
  obtain ⟨rfl, rfl, rfl⟩ := trodAll_nil r0
  obtain rfl : args = #[v0] := by cases args; simp_all
  obtain ⟨rfl, rfl⟩ := trodVars_none hV
  obtain ⟨a0, n0, c0, xs0, rfl, k0⟩ := open_reads (hval 0 22 v0 rfl rfl) h0
  refine (walk a0 n0 c0 xs0 k0).mono fun e W' ⟨he, hb⟩ => ?_
  subst he
  exact ⟨_, rfl, post_law hW' hb rfl rfl rfl rfl rfl (by rw [Try.params9]; exact readable_all (by kernel_rfl))⟩
theorem over : Rows.turnsBothRow.holds Try.pinned (OpenSpec.ofChange Rows.turnsBothSpec) :=
  OpenClaim.holds_of_wide 9 Try.f9 rfl rfl rfl rfl rfl rfl rfl ⟨rfl, rfl, rfl, rfl, rfl⟩ rfl rfl rfl rfl rfl (by kernel_rfl) Try.func9 (by kernel_rfl)
    (of_decide_eq_true (by kernel_rfl)) (by unfold Func.isWrapper; first | (rw [if_pos (by decide +kernel)]; kernel_rfl) | (rw [if_neg (by decide +kernel)]; exact ⟨rfl, rfl⟩))
    (fun os started H enc _ => lifted os started H enc)
theorem proved : Rows.TurnsBothSaid := over
#print axioms proved
end Go.Proofs.Ytjcaoejodjmmkaa.turnsBoth
