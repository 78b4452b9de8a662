/- milepostref1.May: whether nodes, edges and bans are a graph; milepostalike.Few. -/
import Derived.Test.YtkdpfbefdhjmcaaMayWalk
import Derived.Test.YtkdpfbefdhjmcaaGraphAt
import Derived.Test.YtkdpfbefdhjmcaaTurn4
import Derived.BigQuiet
import Derived.Deep.CutRange
set_option linter.unusedVariables false
set_option linter.unusedSimpArgs false
namespace Go.Proofs.Ytkdpfbefdhjmcaa
open Go.ChangeShapes Go.WideShapes Go.ChangeAt Go.RowKit
theorem within1_c (n a b : Int) (w : World) : Calls Try.prog 49 #[.int .i64 n, .int .i64 a, .int .i64 b] w fun e w' => e = .returned (.bool (inB a n b)) ∧ w = w' := by
  unfold inB
  by_cases h1 : a ≤ n <;> by_cases h2 : n ≤ b
  all_goals
    go_enter Try.func49, Try.ntmps49
    go_wp2
    go_ret
    exact ⟨by simp [h1, h2], rfl⟩
theorem within1_is {n a b : Int} {r : Bool} (h : inB a n b = r) (w : World) : Calls Try.prog 49 #[.int .i64 n, .int .i64 a, .int .i64 b] w fun e w' => e = .returned (.bool r) ∧ w = w' := by
  rw [← h]; exact within1_c n a b w
theorem within1_still {n a b : Int} {r : Bool} (h : inB a n b = r) (w : World) : Calls Try.prog 49 #[.int .i64 n, .int .i64 a, .int .i64 b] w fun e w' => e = .returned (.bool r) ∧ w' = w := (within1_is h w).mono fun e w' h => ⟨h.1, h.2.symm⟩
theorem ord_lt (y x : Int × Int) : decide (ordI y x < 0) = (decide (y.1 < x.1) || (decide (y.1 = x.1) && decide (y.2 < x.2))) := by
  unfold ordI orI cmpI
  by_cases h1 : y.1 < x.1
  · simp [h1]
  · by_cases h2 : x.1 < y.1
    · have h3 : ¬ y.1 = x.1 := by omega
      simp [h1, h2, h3]
    · have h3 : y.1 = x.1 := by omega
      by_cases h4 : y.2 < x.2
      · simp [h3, h4]
      · by_cases h5 : x.2 < y.2
        · simp [h3, h4, h5]
        · simp [h3, h4, h5]
set_option maxRecDepth 100000 in
set_option maxHeartbeats 4000000 in
theorem few_any {A1 A2 A3 : Option Addr} {n1 c1 n2 c2 n3 c3 : Nat} {w : World} (s1 : n1 ≤ maxLen) (s2 : n2 ≤ maxLen) (s3 : n3 ≤ maxLen) :
    Calls Try.prog 14 #[.agg #[.slice A1 n1 c1, .slice A2 n2 c2, .slice A3 n3 c3]] w fun e w' => e = .returned (.bool (decide (n1 ≤ 20) && decide (n2 ≤ 50) && decide (n3 ≤ 80))) ∧ Below w.heap.size w w' := by
  unfold maxLen at s1 s2 s3
  have g1 : n1 ≤ 9223372036854775807 := by omega
  have g2 : n2 ≤ 9223372036854775807 := by omega
  have g3 : n3 ≤ 9223372036854775807 := by omega
  clear s1 s2 s3
  by_cases h1 : n1 ≤ 20
  · by_cases h2 : n2 ≤ 50
    · by_cases h3 : n3 ≤ 80
      · go_enter Try.func14, Try.ntmps14
        go_wp2_with fail
        go_ret
        exact ⟨by simp [h1, h2, h3] <;> omega, bl_alloc (Below.refl _ _) _⟩
      · go_enter Try.func14, Try.ntmps14
        go_wp2_with fail
        go_ret
        exact ⟨by simp [h1, h2, h3] <;> omega, bl_alloc (Below.refl _ _) _⟩
    · go_enter Try.func14, Try.ntmps14
      go_wp2_with fail
      go_ret
      exact ⟨by simp [h1, h2], bl_alloc (Below.refl _ _) _⟩
  · go_enter Try.func14, Try.ntmps14
    go_wp2_with fail
    go_ret
    exact ⟨by simp [h1], bl_alloc (Below.refl _ _) _⟩
set_option maxRecDepth 100000 in
set_option maxHeartbeats 16000000 in
theorem may4_any {A1 A2 A3 : Option Addr} {n1 c1 n2 c2 n3 c3 : Nat} {ns : List (Int × Int)} {es : List (Int × Int × Int)} {bs : List (Int × Int)} {w : World}
    (r1 : ReadsP w A1 n1 c1 ns) (r2 : ReadsT w A2 n2 c2 es) (r3 : ReadsP w A3 n3 c3 bs) (h1 : n1 ≤ 256) (h2 : n2 ≤ 512) (h3 : n3 ≤ 1024) :
    Calls Try.prog 17 #[.agg #[.slice A1 n1 c1, .slice A2 n2 c2, .slice A3 n3 c3]] w fun e w' => e = .returned (.bool (mayB ns es bs)) ∧ Below w.heap.size w w' := by
  have hb0 : Below w.heap.size w (w.alloc (.cells #[.slice A1 n1 c1, .slice A2 n2 c2, .slice A3 n3 c3] 51)) := bl_alloc (Below.refl _ _) _
  obtain ⟨W0, hW0⟩ : ∃ W0, W0 = w.alloc (.cells #[.slice A1 n1 c1, .slice A2 n2 c2, .slice A3 n3 c3] 51) := ⟨_, rfl⟩
  have HS : Hid (∀ w', Below W0.heap.size W0 w' → w'.cell? ⟨w.heap.size, 0, none⟩ = some (.slice A1 n1 c1) ∧ w'.cell? ⟨w.heap.size, 1, none⟩ = some (.slice A2 n2 c2) ∧ w'.cell? ⟨w.heap.size, 2, none⟩ = some (.slice A3 n3 c3)) := Lib.hid fun w' hb => by subst hW0; exact GR.box hb
  rw [← hW0] at hb0
  have HW0 := Lib.hid hW0
  have HB0 := Lib.hid hb0
  have R1 := Lib.hid (r1.below hb0)
  have R2 := Lib.hid (r2.below hb0)
  have R3 := Lib.hid (r3.below hb0)
  obtain ⟨k0, k1, k2⟩ := HS.out W0 (Below.refl _ _)
  have hq2 : decide (512 < n2) = false := by simp <;> omega
  have hq3 : decide (1024 < n3) = false := by simp <;> omega
  cases hi : inB 1 (n1 : Int) 256 with
  | false =>
    have hm : mayB ns es bs = false := by unfold mayB sizeOk; rw [r1.len, hi]; simp
    rw [hm]
    have HI := Lib.hid hi
    clear r1 r2 r3 hb0 hW0 hi hm
    go_enter Try.func17, Try.ntmps17
    go_upto_region 1 with fail
    rw [← HW0.out]
    go_wp2_with fail
    refine (within1_is HI.out _).mono ?_
    rintro e w' ⟨rfl, rfl⟩
    go_wp2_with fail
    go_ret
    exact ⟨rfl, HB0.out⟩
  | true =>
    have HI := Lib.hid hi
    have HSZ : Hid (sizeOk ns.length es.length bs.length = true) := Lib.hid (by unfold sizeOk; rw [r1.len, r2.len, r3.len, hi]; simp <;> omega)
    unfold inB at hi
    simp only [Bool.and_eq_true, decide_eq_true_eq] at hi
    have h0 : 1 ≤ n1 := by omega
    have v1 : IntKind.i64.wrap ((n1 : Int) - 1) = (n1 : Int) - 1 := IntWalk.i64_in _ (by omega)
    have v2 : IntKind.i64.wrap ((n2 : Int) - 1) = (n2 : Int) - 1 := IntWalk.i64_in _ (by omega)
    clear r1 r2 r3 hb0 hW0 hi
    go_enter Try.func17, Try.ntmps17
    go_upto_region 1 with fail
    rw [← HW0.out]
    go_wp2_with fail
    refine (within1_is HI.out _).mono ?_
    rintro e w' ⟨rfl, rfl⟩
    go_wp2_with fail
    clear k0 k1 k2
    go_loopg [3] n1 (fun m v wr => ∃ k : Nat, m = n1 - k ∧ k ≤ n1 ∧ v = .int .i64 (k : Nat) ∧ Below W0.heap.size W0 wr ∧ ∀ i, i < k → nodeOk (ns.getD i (0, 0)) = true)
    case atStart => exact ⟨0, rfl, Nat.zero_le _, rfl, Below.refl _ _, fun i hi => absurd hi (by omega)⟩
    case round =>
      obtain ⟨k, hm, hk, rfl, hb, hall⟩ := hrel
      have HM := Lib.hid hm
      have HB := Lib.hid hb
      have HALL := Lib.hid hall
      obtain ⟨l0, l1, l2⟩ := HS.out _ hb
      clear hm hb hall
      by_cases hlt : k < n1
      · obtain ⟨b, o, rfl, hc⟩ := R1.out.cell (by omega)
        have hw01 := hc k hlt
        obtain ⟨x, hx⟩ : ∃ x, x = ns.getD k (0, 0) := ⟨_, rfl⟩
        rw [← hx] at hw01
        obtain ⟨px, py⟩ := x
        have hc0 := cell_below hw01.1 HB.out
        have hc1 := cell_below hw01.2 HB.out
        have HX := Lib.hid hx
        have y0 : (0 : Int) ≤ (k : Int) := by omega
        have y1 : (k : Int) < (n1 : Int) := by omega
        clear hc hw01 hx
        cases hx1 : inB 0 px 4095
        · have hbad : nodeOk (ns.getD k (0, 0)) = false := by rw [← HX.out]; unfold nodeOk; rw [hx1]; rfl
          have HBAD := Lib.hid hbad
          have HX1 := Lib.hid hx1
          clear hbad hx1
          go_wp2_with fail
          refine (within1_is HX1.out _).mono ?_
          rintro e w' ⟨rfl, rfl⟩
          go_wp2_with fail
          go_ret
          refine ⟨?_, bl_then HB0.out HB.out⟩
          have e1 := all_false (p := nodeOk) (by rw [R1.out.len]; exact hlt) HBAD.out
          unfold mayB; rw [e1]; simp
        · cases hx2 : inB 0 py 4095
          · have hbad : nodeOk (ns.getD k (0, 0)) = false := by rw [← HX.out]; unfold nodeOk; rw [hx1, hx2]; rfl
            have HBAD := Lib.hid hbad
            have HX1 := Lib.hid hx1
            have HX2 := Lib.hid hx2
            clear hbad hx1 hx2
            go_wp2_with fail
            refine (within1_is HX1.out _).mono ?_
            rintro e w' ⟨rfl, rfl⟩
            go_wp2_with fail
            refine (within1_is HX2.out _).mono ?_
            rintro e w' ⟨rfl, rfl⟩
            go_wp2_with fail
            go_ret
            refine ⟨?_, bl_then HB0.out HB.out⟩
            have e1 := all_false (p := nodeOk) (by rw [R1.out.len]; exact hlt) HBAD.out
            unfold mayB; rw [e1]; simp
          · have hgood : nodeOk (ns.getD k (0, 0)) = true := by rw [← HX.out]; unfold nodeOk; rw [hx1, hx2]; rfl
            have HGOOD := Lib.hid hgood
            have HX1 := Lib.hid hx1
            have HX2 := Lib.hid hx2
            clear hgood hx1 hx2
            go_wp2_with fail
            refine (within1_is HX1.out _).mono ?_
            rintro e w' ⟨rfl, rfl⟩
            go_wp2_with fail
            refine (within1_is HX2.out _).mono ?_
            rintro e w' ⟨rfl, rfl⟩
            go_wp2_with fail
            go_roundg (n1 - (k + 1))
            case measure => have := HM.out; omega
            case rel =>
              refine ⟨k + 1, rfl, by omega, by go_num, HB.out, fun i hi => ?_⟩
              by_cases hik : i = k
              · subst hik; exact HGOOD.out
              · exact HALL.out i (by omega)
      · have hkn : n1 = k := by omega
        have hn : ns.all nodeOk = true := all_true (d := (0, 0)) fun i hi => HALL.out i (by rw [R1.out.len] at hi; omega)
        have HN := Lib.hid hn
        have hge : decide (k < n1) = false := decide_eq_false hlt
        have hge2 : decide ((k : Int) < (n1 : Int)) = false := decide_eq_false (by omega)
        clear hlt hn HALL hkn
        go_wp2_with fail
        clear l0 l1 l2 hge hge2
        go_loopg [4] n2 (fun m v wq => ∃ j : Nat, m = n2 - j ∧ j ≤ n2 ∧ v = .int .i64 (j : Nat) ∧ Below W0.heap.size W0 wq ∧ ∀ i, i < j → edgeOk ((n1 : Int) - 1) (es.getD i (0, 0, 0)) = true)
        case atStart => exact ⟨0, rfl, Nat.zero_le _, rfl, HB.out, fun i hi => absurd hi (by omega)⟩
        case round =>
          obtain ⟨j, hm, hj, rfl, hb, hall⟩ := hrel
          have HM2 := Lib.hid hm
          have HB2 := Lib.hid hb
          have HALL := Lib.hid hall
          obtain ⟨l0, l1, l2⟩ := HS.out _ hb
          clear hm hb hall
          by_cases hlt : j < n2
          · obtain ⟨b, o, rfl, hc⟩ := R2.out.cell (by omega)
            have hw01 := hc j hlt
            obtain ⟨x, hx⟩ : ∃ x, x = es.getD j (0, 0, 0) := ⟨_, rfl⟩
            rw [← hx] at hw01
            obtain ⟨ef, et, ew⟩ := x
            have hc0 := cell_below hw01.1 HB2.out
            have hc1 := cell_below hw01.2.1 HB2.out
            have hc2 := cell_below hw01.2.2 HB2.out
            have HX := Lib.hid hx
            obtain ⟨m0, m1, m2⟩ := HS.out _ (bl_alloc HB2.out (.cells #[.int .i64 ef, .int .i64 et, .int .i64 ew] 63))
            have y0 : (0 : Int) ≤ (j : Int) := by omega
            have y1 : (j : Int) < (n2 : Int) := by omega
            clear hc hw01 hx
            cases hx1 : inB 0 ef ((n1 : Int) - 1)
            · have hbad : edgeOk ((n1 : Int) - 1) (es.getD j (0, 0, 0)) = false := by rw [← HX.out]; unfold edgeOk; rw [hx1]; rfl
              have HBAD := Lib.hid hbad
              have HX1 := Lib.hid hx1
              clear hbad hx1
              go_wp2_with fail
              refine (within1_is HX1.out _).mono ?_
              rintro e w' ⟨rfl, rfl⟩
              go_wp2_with fail
              go_ret
              refine ⟨?_, bl_then HB0.out (bl_alloc HB2.out _)⟩
              have e1 : es.all (edgeOk ((ns.length : Int) - 1)) = false := by rw [R1.out.len]; exact all_false (by rw [R2.out.len]; exact hlt) HBAD.out
              unfold mayB; rw [e1]; simp
            · cases hx2 : inB 0 et ((n1 : Int) - 1)
              · have hbad : edgeOk ((n1 : Int) - 1) (es.getD j (0, 0, 0)) = false := by rw [← HX.out]; unfold edgeOk; rw [hx1, hx2]; rfl
                have HBAD := Lib.hid hbad
                have HX1 := Lib.hid hx1
                have HX2 := Lib.hid hx2
                clear hbad hx1 hx2
                go_wp2_with fail
                refine (within1_is HX1.out _).mono ?_
                rintro e w' ⟨rfl, rfl⟩
                go_wp2_with fail
                refine (within1_is HX2.out _).mono ?_
                rintro e w' ⟨rfl, rfl⟩
                go_wp2_with fail
                go_ret
                refine ⟨?_, bl_then HB0.out (bl_alloc HB2.out _)⟩
                have e1 : es.all (edgeOk ((ns.length : Int) - 1)) = false := by rw [R1.out.len]; exact all_false (by rw [R2.out.len]; exact hlt) HBAD.out
                unfold mayB; rw [e1]; simp
              · cases hx3 : inB 1 ew 65535
                · have hbad : edgeOk ((n1 : Int) - 1) (es.getD j (0, 0, 0)) = false := by rw [← HX.out]; unfold edgeOk; rw [hx1, hx2, hx3]; rfl
                  have HBAD := Lib.hid hbad
                  have HX1 := Lib.hid hx1
                  have HX2 := Lib.hid hx2
                  have HX3 := Lib.hid hx3
                  clear hbad hx1 hx2 hx3
                  go_wp2_with fail
                  refine (within1_is HX1.out _).mono ?_
                  rintro e w' ⟨rfl, rfl⟩
                  go_wp2_with fail
                  refine (within1_is HX2.out _).mono ?_
                  rintro e w' ⟨rfl, rfl⟩
                  go_wp2_with fail
                  refine (within1_is HX3.out _).mono ?_
                  rintro e w' ⟨rfl, rfl⟩
                  go_wp2_with fail
                  go_ret
                  refine ⟨?_, bl_then HB0.out (bl_alloc HB2.out _)⟩
                  have e1 : es.all (edgeOk ((ns.length : Int) - 1)) = false := by rw [R1.out.len]; exact all_false (by rw [R2.out.len]; exact hlt) HBAD.out
                  unfold mayB; rw [e1]; simp
                · have hgood : edgeOk ((n1 : Int) - 1) (es.getD j (0, 0, 0)) = true := by rw [← HX.out]; unfold edgeOk; rw [hx1, hx2, hx3]; rfl
                  have HGOOD := Lib.hid hgood
                  have HX1 := Lib.hid hx1
                  have HX2 := Lib.hid hx2
                  have HX3 := Lib.hid hx3
                  clear hgood hx1 hx2 hx3
                  go_wp2_with fail
                  refine (within1_is HX1.out _).mono ?_
                  rintro e w' ⟨rfl, rfl⟩
                  go_wp2_with fail
                  refine (within1_is HX2.out _).mono ?_
                  rintro e w' ⟨rfl, rfl⟩
                  go_wp2_with fail
                  refine (within1_is HX3.out _).mono ?_
                  rintro e w' ⟨rfl, rfl⟩
                  go_wp2_with fail
                  go_roundg (n2 - (j + 1))
                  case measure => have := HM2.out; omega
                  case rel =>
                    refine ⟨j + 1, rfl, by omega, by go_num, bl_alloc HB2.out _, fun i hi => ?_⟩
                    by_cases hik : i = j
                    · subst hik; exact HGOOD.out
                    · exact HALL.out i (by omega)
          · have hn : es.all (edgeOk ((ns.length : Int) - 1)) = true := by rw [R1.out.len]; exact all_true (d := (0, 0, 0)) fun i hi => HALL.out i (by rw [R2.out.len] at hi; omega)
            have HE := Lib.hid hn
            have hge : decide (j < n2) = false := decide_eq_false hlt
            have hge2 : decide ((j : Int) < (n2 : Int)) = false := decide_eq_false (by omega)
            clear hlt hn HALL
            go_wp2_with fail
            clear l0 l1 l2 hge hge2
            go_loopg [6] n3 (fun m v wq => ∃ q : Nat, m = n3 - q ∧ q ≤ n3 ∧ v = .int .i64 (q : Nat) ∧ Below W0.heap.size W0 wq ∧ ∀ i, i < q → banOk es bs i = true)
            case atStart => exact ⟨0, rfl, Nat.zero_le _, rfl, HB2.out, fun i hi => absurd hi (by omega)⟩
            case round =>
              obtain ⟨q, hm, hq, rfl, hb, hall⟩ := hrel
              have HM3 := Lib.hid hm
              have HB3 := Lib.hid hb
              have HALL := Lib.hid hall
              obtain ⟨l0, l1, l2⟩ := HS.out _ hb
              clear hm hb hall
              by_cases hlt : q < n3
              · obtain ⟨b, o, rfl, hc⟩ := R3.out.cell (by omega)
                have hw01 := hc q hlt
                obtain ⟨x, hx⟩ : ∃ x, x = bs.getD q (0, 0) := ⟨_, rfl⟩
                rw [← hx] at hw01
                obtain ⟨ba, bb⟩ := x
                have hc0 := cell_below hw01.1 HB3.out
                have hc1 := cell_below hw01.2 HB3.out
                have HX := Lib.hid hx
                have y0 : (0 : Int) ≤ (q : Int) := by omega
                have y1 : (q : Int) < (n3 : Int) := by omega
                clear hc hw01 hx
                go_wp2_with fail
                have t0 := cell_two_new0 (w := wr) (x := .int .i64 ba) (y := .int .i64 bb) (t := 69) rfl
                have t1 := cell_two_new1 (w := wr) (x := .int .i64 ba) (y := .int .i64 bb) (t := 69) rfl
                have hbx := bl_alloc HB3.out (.cells #[.int .i64 ba, .int .i64 bb] 69)
                obtain ⟨W1, hW1⟩ : ∃ W1, W1 = wr.alloc (.cells #[.int .i64 ba, .int .i64 bb] 69) := ⟨_, rfl⟩
                rw [← hW1] at t0 t1 hbx ⊢
                obtain ⟨xb, hx0⟩ : ∃ xb, xb = wr.heap.size := ⟨_, rfl⟩
                rw [← hx0] at t0 t1 ⊢
                obtain ⟨m0, m1, m2⟩ := HS.out _ hbx
                have HBX := Lib.hid hbx
                clear hx0 hbx hW1 hc0 hc1 l0 l1 l2
                cases hx1 : inB 0 ba ((n2 : Int) - 1)
                · have HX1 := Lib.hid hx1
                  have HBAD : Hid (banOk es bs q = false) := Lib.hid (by unfold banOk; rw [← HX.out, R2.out.len, hx1]; simp)
                  clear hx1
                  go_quiet ((go_at_call 49; with_reducible refine Calls.quiet_of_same (within1_still HX1.out _)))
                  go_wp2_with fail
                  go_ret
                  refine ⟨?_, bl_then HB0.out (by first | exact bl_drewN HBX.out _ | exact bl_drewN (bl_drewN HBX.out _) _)⟩
                  have e1 : (List.range bs.length).all (banOk es bs) = false := by
                    refine all_false (d := 0) (i := q) (by rw [List.length_range, R3.out.len]; exact hlt) ?_
                    have : (List.range bs.length).getD q 0 = q := by simp [List.getD_eq_getElem?_getD, R3.out.len, hlt]
                    rw [this]; exact HBAD.out
                  unfold mayB; rw [e1]; simp
                · cases hx2 : inB 0 bb ((n2 : Int) - 1)
                  · have HX1 := Lib.hid hx1
                    have HX2 := Lib.hid hx2
                    have HBAD : Hid (banOk es bs q = false) := Lib.hid (by unfold banOk; rw [← HX.out, R2.out.len, hx1, hx2]; simp)
                    clear hx1 hx2
                    go_quiet ((go_at_call 49; first | with_reducible refine Calls.quiet_of_same (within1_still HX1.out _) | with_reducible refine Calls.quiet_of_same (within1_still HX2.out _)))
                    go_wp2_with fail
                    go_ret
                    refine ⟨?_, bl_then HB0.out (by first | exact bl_drewN HBX.out _ | exact bl_drewN (bl_drewN HBX.out _) _)⟩
                    have e1 : (List.range bs.length).all (banOk es bs) = false := by
                      refine all_false (d := 0) (i := q) (by rw [List.length_range, R3.out.len]; exact hlt) ?_
                      have : (List.range bs.length).getD q 0 = q := by simp [List.getD_eq_getElem?_getD, R3.out.len, hlt]
                      rw [this]; exact HBAD.out
                    unfold mayB; rw [e1]; simp
                  · have hx1' := hx1
                    have hx2' := hx2
                    unfold inB at hx1' hx2'
                    simp only [Bool.and_eq_true, decide_eq_true_eq] at hx1' hx2'
                    obtain ⟨ia, hia⟩ : ∃ ia : Nat, (ia : Int) = ba := ⟨ba.toNat, by omega⟩
                    obtain ⟨ib, hib⟩ : ∃ ib : Nat, (ib : Int) = bb := ⟨bb.toNat, by omega⟩
                    subst hia hib
                    have hja : ia < n2 := by omega
                    have hjb : ib < n2 := by omega
                    obtain ⟨be, oe, rfl, hce⟩ := R2.out.cell (by omega)
                    have ea := cell_below (hce ia hja).2.1 HBX.out
                    have eb := cell_below (hce ib hjb).1 HBX.out
                    obtain ⟨ta, hta⟩ : ∃ z, z = (es.getD ia (0, 0, 0)).2.1 := ⟨_, rfl⟩
                    obtain ⟨tb, htb⟩ : ∃ z, z = (es.getD ib (0, 0, 0)).1 := ⟨_, rfl⟩
                    rw [← hta] at ea
                    rw [← htb] at eb
                    have HX1 := Lib.hid hx1
                    have HX2 := Lib.hid hx2
                    have a0 : (0 : Int) ≤ (ia : Int) := by omega
                    have a1 : (ia : Int) < (n2 : Int) := by omega
                    have b0 : (0 : Int) ≤ (ib : Int) := by omega
                    have b1 : (ib : Int) < (n2 : Int) := by omega
                    have hbo : banOk es bs q = (decide (ta = tb) && (decide (q = 0) || decide (ordI (bs.getD (q - 1) (0, 0)) ((ia : Int), (ib : Int)) < 0))) := by
                      unfold banOk; rw [← HX.out, R2.out.len, HX1.out, HX2.out]
                      simp only [Int.toNat_natCast, hta, htb, Bool.true_and]
                    have HBO := Lib.hid hbo
                    clear hx1 hx2 hx1' hx2' hce hta htb hbo
                    by_cases hne : ta = tb
                    · subst hne
                      by_cases hq0 : q = 0
                      · subst hq0
                        go_quiet ((go_at_call 49; first | with_reducible refine Calls.quiet_of_same (within1_still HX1.out _) | with_reducible refine Calls.quiet_of_same (within1_still HX2.out _)))
                        go_wp2_with fail
                        go_quiet (fail)
                        go_wp2_with fail
                        go_roundg (n3 - 1)
                        case measure => have := HM3.out; omega
                        case rel =>
                          refine ⟨1, rfl, by omega, by go_num, bl_drewN HBX.out _, fun i hi => ?_⟩
                          obtain rfl : i = 0 := by omega
                          rw [HBO.out]; simp
                      · obtain ⟨p, rfl⟩ : ∃ p, q = p + 1 := ⟨q - 1, by omega⟩
                        obtain ⟨b', o', e, hcb⟩ := R3.out.cell (by omega)
                        injection e with e
                        injection e with e1 e2 e3
                        subst e1 e2
                        have hcp := hcb p (by omega)
                        obtain ⟨yA, hyA⟩ : ∃ y, y = (bs.getD p (0, 0)).1 := ⟨_, rfl⟩
                        obtain ⟨yB, hyB⟩ : ∃ y, y = (bs.getD p (0, 0)).2 := ⟨_, rfl⟩
                        have hbo : banOk es bs (p + 1) = (decide (yA < (ia : Int)) || (decide (yA = (ia : Int)) && decide (yB < (ib : Int)))) := by
                          rw [HBO.out, ord_lt, hyA, hyB]; simp
                        rw [← hyA, ← hyB] at hcp
                        have HBO2 := Lib.hid hbo
                        have p0 := cell_below hcp.1 HBX.out
                        have p1 := cell_below hcp.2 HBX.out
                        have q0 : (0 : Int) ≤ (p : Int) := by omega
                        have q1 : (p : Int) < (n3 : Int) := by omega
                        have q2 : IntKind.i64.wrap (p : Int) = (p : Int) := IntWalk.i64_in _ (by omega)
                        have q3 : (0 : Int) < (p : Int) + 1 := by omega
                        have q4 : IntKind.i64.wrap ((p : Int) + 1 - 1) = (p : Int) := by rw [IntWalk.i64_in _ (by omega)]; omega
                        clear hcb hcp hbo hq0 hyA hyB e3
                        by_cases h1 : (ia : Int) < yA
                        · have HBAD : Hid (banOk es bs (p + 1) = false) := Lib.hid (by rw [HBO2.out, decide_eq_false (show ¬ yA < (ia : Int) by omega), decide_eq_false (show ¬ yA = (ia : Int) by omega)]; rfl)
                          have z1 : decide ((ia : Int) < yA) = true := decide_eq_true h1
                          clear h1
                          go_quiet ((go_at_call 49; first | with_reducible refine Calls.quiet_of_same (within1_still HX1.out _) | with_reducible refine Calls.quiet_of_same (within1_still HX2.out _)))
                          go_wp2_with fail
                          go_quiet (fail)
                          go_wp2_with fail
                          obtain ⟨q, hqq⟩ : ∃ q, q = p + 1 := ⟨_, rfl⟩
                          rw [← hqq] at HBAD hlt
                          go_ret
                          refine ⟨?_, bl_then HB0.out (by first | exact bl_drewN HBX.out _ | exact bl_drewN (bl_drewN HBX.out _) _)⟩
                          have e1 : (List.range bs.length).all (banOk es bs) = false := by
                            refine all_false (d := 0) (i := q) (by rw [List.length_range, R3.out.len]; exact hlt) ?_
                            have : (List.range bs.length).getD q 0 = q := by simp [List.getD_eq_getElem?_getD, R3.out.len, hlt]
                            rw [this]; exact HBAD.out
                          unfold mayB; rw [e1]; simp
                        · have z1 : decide ((ia : Int) < yA) = false := decide_eq_false h1
                          by_cases h2 : yA = (ia : Int)
                          · have z2 : (yA == (ia : Int)) = true := by simp [h2]
                            by_cases h3 : (ib : Int) ≤ yB
                            · have HBAD : Hid (banOk es bs (p + 1) = false) := Lib.hid (by rw [HBO2.out, decide_eq_false (show ¬ yA < (ia : Int) by omega), decide_eq_false (show ¬ yB < (ib : Int) by omega)]; simp)
                              have z3 : decide ((ib : Int) ≤ yB) = true := decide_eq_true h3
                              clear h1 h2 h3
                              go_quiet ((go_at_call 49; first | with_reducible refine Calls.quiet_of_same (within1_still HX1.out _) | with_reducible refine Calls.quiet_of_same (within1_still HX2.out _)))
                              go_wp2_with fail
                              go_quiet (fail)
                              go_wp2_with fail
                              obtain ⟨q, hqq⟩ : ∃ q, q = p + 1 := ⟨_, rfl⟩
                              rw [← hqq] at HBAD hlt
                              go_ret
                              refine ⟨?_, bl_then HB0.out (by first | exact bl_drewN HBX.out _ | exact bl_drewN (bl_drewN HBX.out _) _)⟩
                              have e1 : (List.range bs.length).all (banOk es bs) = false := by
                                refine all_false (d := 0) (i := q) (by rw [List.length_range, R3.out.len]; exact hlt) ?_
                                have : (List.range bs.length).getD q 0 = q := by simp [List.getD_eq_getElem?_getD, R3.out.len, hlt]
                                rw [this]; exact HBAD.out
                              unfold mayB; rw [e1]; simp
                            · have HGD : Hid (banOk es bs (p + 1) = true) := Lib.hid (by rw [HBO2.out, decide_eq_true h2, decide_eq_true (show yB < (ib : Int) by omega)]; simp)
                              have z3 : decide ((ib : Int) ≤ yB) = false := decide_eq_false h3
                              clear h1 h2 h3
                              go_quiet ((go_at_call 49; first | with_reducible refine Calls.quiet_of_same (within1_still HX1.out _) | with_reducible refine Calls.quiet_of_same (within1_still HX2.out _)))
                              go_wp2_with fail
                              go_quiet (fail)
                              go_wp2_with fail
                              go_roundg (n3 - (p + 1 + 1))
                              case measure => have := HM3.out; omega
                              case rel =>
                                refine ⟨p + 1 + 1, rfl, by omega, by go_num, bl_drewN HBX.out _, fun i hi => ?_⟩
                                by_cases hik : i = p + 1
                                · subst hik; exact HGD.out
                                · exact HALL.out i (by omega)
                          · have HGD : Hid (banOk es bs (p + 1) = true) := Lib.hid (by rw [HBO2.out, decide_eq_true (show yA < (ia : Int) by omega)]; rfl)
                            have z2 : (yA == (ia : Int)) = false := beq_false_of_ne h2
                            clear h1 h2
                            go_quiet ((go_at_call 49; first | with_reducible refine Calls.quiet_of_same (within1_still HX1.out _) | with_reducible refine Calls.quiet_of_same (within1_still HX2.out _)))
                            go_wp2_with fail
                            go_quiet (fail)
                            go_wp2_with fail
                            go_roundg (n3 - (p + 1 + 1))
                            case measure => have := HM3.out; omega
                            case rel =>
                              refine ⟨p + 1 + 1, rfl, by omega, by go_num, bl_drewN HBX.out _, fun i hi => ?_⟩
                              by_cases hik : i = p + 1
                              · subst hik; exact HGD.out
                              · exact HALL.out i (by omega)
                    · have hne' : (ta != tb) = true := by simpa using hne
                      have HBAD : Hid (banOk es bs q = false) := Lib.hid (by rw [HBO.out, decide_eq_false hne]; simp)
                      clear hne
                      go_quiet ((go_at_call 49; first | with_reducible refine Calls.quiet_of_same (within1_still HX1.out _) | with_reducible refine Calls.quiet_of_same (within1_still HX2.out _)))
                      go_wp2_with fail
                      go_ret
                      refine ⟨?_, bl_then HB0.out (by first | exact bl_drewN HBX.out _ | exact bl_drewN (bl_drewN HBX.out _) _)⟩
                      have e1 : (List.range bs.length).all (banOk es bs) = false := by
                        refine all_false (d := 0) (i := q) (by rw [List.length_range, R3.out.len]; exact hlt) ?_
                        have : (List.range bs.length).getD q 0 = q := by simp [List.getD_eq_getElem?_getD, R3.out.len, hlt]
                        rw [this]; exact HBAD.out
                      unfold mayB; rw [e1]; simp
              · have hn : (List.range bs.length).all (banOk es bs) = true := by
                  rw [List.all_eq_true]
                  intro i hi
                  rw [List.mem_range, R3.out.len] at hi
                  exact HALL.out i (by omega)
                have HF := Lib.hid hn
                have hge : decide (q < n3) = false := decide_eq_false hlt
                have hge2 : decide ((q : Int) < (n3 : Int)) = false := decide_eq_false (by omega)
                clear hn hlt
                go_wp2_with fail
                go_ret
                refine ⟨?_, bl_then HB0.out HB3.out⟩
                unfold mayB
                rw [HSZ.out, HN.out, HE.out, HF.out]
                rfl
end Go.Proofs.Ytkdpfbefdhjmcaa
