/- graph.may's walk through its three loops. -/
import Derived.Test.YtkdpfbefdhjmcaaMay
set_option linter.unusedVariables false
set_option linter.unusedSimpArgs false
namespace Go.Proofs.Ytkdpfbefdhjmcaa
open Go.ChangeShapes Go.WideShapes Go.ChangeAt Go.RowKit
theorem within_still {n a b : Int} {r : Bool} (h : inB a n b = r) (w : World) : Calls Try.prog 65 #[.int .i64 n, .int .i64 a, .int .i64 b] w fun e w' => e = .returned (.bool r) ∧ w' = w := (within_is h w).mono fun e w' h => ⟨h.1, h.2.symm⟩
set_option maxRecDepth 100000 in
set_option maxHeartbeats 16000000 in
theorem may_in {A1 A2 A3 : Option Addr} {n1 c1 n2 c2 n3 c3 : Nat} {ns : List (Int × Int)} {es : List (Int × Int × Int)} {bs : List (Int × Int)} {w : World}
    (r1 : ReadsP w A1 n1 c1 ns) (r2 : ReadsT w A2 n2 c2 es) (r3 : ReadsP w A3 n3 c3 bs) (h : sizeOk n1 n2 n3 = true) :
    Calls Try.prog 42 #[.agg #[.slice A1 n1 c1, .slice A2 n2 c2, .slice A3 n3 c3]] w fun e w' => e = .returned (.bool (mayB ns es bs)) ∧ Below w.heap.size w w' := by
  have hs := h
  unfold sizeOk at hs
  simp only [Bool.and_eq_true, decide_eq_true_eq] at hs
  obtain ⟨⟨hi, h2⟩, h3⟩ := hs
  have hi' := hi
  unfold inB at hi'
  simp only [Bool.and_eq_true, decide_eq_true_eq] at hi'
  have h1 : n1 ≤ 256 := by omega
  have h0 : 1 ≤ n1 := by omega
  obtain ⟨bx, hbx⟩ : ∃ bx, bx = w.heap.size := ⟨_, rfl⟩
  have hc0 : ∀ j v, (#[Value.slice A1 n1 c1, .slice A2 n2 c2, .slice A3 n3 c3] : Array Value)[j]? = some v → (w.alloc (.cells #[.slice A1 n1 c1, .slice A2 n2 c2, .slice A3 n3 c3] 51)).cell? ⟨w.heap.size, j, none⟩ = some v := by
    intro j v hv
    have : (w.alloc (.cells #[.slice A1 n1 c1, .slice A2 n2 c2, .slice A3 n3 c3] 51)).heap[w.heap.size]? = some (.cells #[.slice A1 n1 c1, .slice A2 n2 c2, .slice A3 n3 c3] 51) := by show (w.heap.push _)[w.heap.size]? = _; simp
    unfold World.cell?; simp only [this]; exact hv
  have k0 := hc0 0 _ rfl
  have k1 := hc0 1 _ rfl
  have k2 := hc0 2 _ rfl
  have K0 := Lib.hid k0
  have K1 := Lib.hid k1
  have K2 := Lib.hid k2
  have HI := Lib.hid hi
  have R1 := Lib.hid r1
  have R2 := Lib.hid r2
  have R3 := Lib.hid r3
  have HS : Hid (sizeOk ns.length es.length bs.length = true) := Lib.hid (by rw [r1.len, r2.len, r3.len]; exact h)
  clear hc0 k0 k1 k2 hi hi' r1 r2 r3 h hbx
  have hq2 : decide (512 < n2) = false := by simp <;> omega
  have hq3 : decide (1024 < n3) = false := by simp <;> omega
  go_enter Try.func42, Try.ntmps42
  go_wp2_with fail
  refine (within_is HI.out _).mono ?_
  rintro e w' ⟨rfl, rfl⟩
  go_wp2_with fail
  generalize hW : w.alloc (.cells #[.slice A1 n1 c1, .slice A2 n2 c2, .slice A3 n3 c3] 51) = W0 at *
  have HB0 : Hid (Below w.heap.size w W0) := Lib.hid (by rw [← hW]; exact bl_alloc (Below.refl _ _) _)
  have HZ : Hid (w.heap.size < W0.heap.size) := Lib.hid (by rw [← hW, size_alloc]; omega)
  clear hW
  go_loopg [31] n1 (fun m v wr => ∃ k : Nat, m = n1 - k ∧ k ≤ n1 ∧ v = .int .i64 (k : Nat) ∧ Below W0.heap.size W0 wr ∧ ∀ i, i < k → nodeOk (ns.getD i (0, 0)) = true)
  case atStart => exact ⟨0, rfl, Nat.zero_le _, rfl, Below.refl _ _, fun i hi => absurd hi (by omega)⟩
  case round =>
    obtain ⟨k, hm, hk, rfl, hb, hall⟩ := hrel
    have HM := Lib.hid hm
    have HB := Lib.hid hb
    have HALL := Lib.hid hall
    clear hm hb hall
    by_cases hlt : k < n1
    · obtain ⟨b, o, rfl, hc⟩ := R1.out.cell (by omega)
      have hw01 := hc k hlt
      obtain ⟨x, hx⟩ : ∃ x, x = ns.getD k (0, 0) := ⟨_, rfl⟩
      rw [← hx] at hw01
      obtain ⟨px, py⟩ := x
      have hbb : Below w.heap.size w wr := HB0.out.trans (HB.out.mono HB0.out.size)
      have hc0 := cell_below hw01.1 hbb
      have hc1 := cell_below hw01.2 hbb
      have HX := Lib.hid hx
      have HBB := Lib.hid hbb
      clear hc hw01 hx hbb
      cases hx1 : inB 0 px 4095
      · have hbad : nodeOk (ns.getD k (0, 0)) = false := by rw [← HX.out]; unfold nodeOk; rw [hx1]; rfl
        have HBAD := Lib.hid hbad
        have HX1 := Lib.hid hx1
        clear hbad hx1
        go_wp2_with fail
        refine (within_is HX1.out _).mono ?_
        rintro e w' ⟨rfl, rfl⟩
        go_wp2_with fail
        go_ret
        refine ⟨?_, HBB.out.trans ((bl_alloc (Below.refl _ _) _).mono HBB.out.size)⟩
        have e1 := all_false (p := nodeOk) (by rw [R1.out.len]; exact hlt) HBAD.out
        unfold mayB; rw [e1]; simp
      · cases hx2 : inB 0 py 4095
        · have hbad : nodeOk (ns.getD k (0, 0)) = false := by rw [← HX.out]; unfold nodeOk; rw [hx1, hx2]; rfl
          have HBAD := Lib.hid hbad
          have HX1 := Lib.hid hx1
          have HX2 := Lib.hid hx2
          clear hbad hx1 hx2
          go_wp2_with fail
          refine (within_is HX1.out _).mono ?_
          rintro e w' ⟨rfl, rfl⟩
          go_wp2_with fail
          refine (within_is HX2.out _).mono ?_
          rintro e w' ⟨rfl, rfl⟩
          go_wp2_with fail
          go_ret
          refine ⟨?_, HBB.out.trans ((bl_alloc (Below.refl _ _) _).mono HBB.out.size)⟩
          have e1 := all_false (p := nodeOk) (by rw [R1.out.len]; exact hlt) HBAD.out
          unfold mayB; rw [e1]; simp
        · have hgood : nodeOk (ns.getD k (0, 0)) = true := by rw [← HX.out]; unfold nodeOk; rw [hx1, hx2]; rfl
          have HGOOD := Lib.hid hgood
          have HX1 := Lib.hid hx1
          have HX2 := Lib.hid hx2
          clear hgood hx1 hx2
          go_wp2_with fail
          refine (within_is HX1.out _).mono ?_
          rintro e w' ⟨rfl, rfl⟩
          go_wp2_with fail
          refine (within_is HX2.out _).mono ?_
          rintro e w' ⟨rfl, rfl⟩
          go_wp2_with fail
          go_roundg (n1 - (k + 1))
          case measure => have := HM.out; omega
          case rel =>
            refine ⟨k + 1, rfl, by omega, by go_num, HB.out.trans ((bl_alloc (Below.refl _ _) _).mono HB.out.size), fun i hi => ?_⟩
            by_cases hik : i = k
            · subst hik; exact HGOOD.out
            · exact HALL.out i (by omega)
    · have hkn : k = n1 := by omega
      subst hkn
      have hn : ns.all nodeOk = true := all_true (d := (0, 0)) fun i hi => HALL.out i (by rw [R1.out.len] at hi; exact hi)
      have HN := Lib.hid hn
      have j0 := cell_below K0.out HB.out
      have j1 := cell_below K1.out HB.out
      have j2 := cell_below K2.out HB.out
      have hbb : Below w.heap.size w wr := HB0.out.trans (HB.out.mono HB0.out.size)
      have HBB := Lib.hid hbb
      clear hlt hn HALL hbb
      go_wp2_with fail
      have hw1 : Below wr.heap.size wr wr := Below.refl _ _
      go_loopg [53] n2 (fun m v wq => ∃ j : Nat, m = n2 - j ∧ j ≤ n2 ∧ v = .int .i64 (j : Nat) ∧ Below wr.heap.size wr wq ∧ ∀ i, i < j → edgeOk ((k : Int) - 1) (es.getD i (0, 0, 0)) = true)
      case atStart => exact ⟨0, rfl, Nat.zero_le _, rfl, hw1, fun i hi => absurd hi (by omega)⟩
      case round =>
        obtain ⟨j, hm, hj, rfl, hb, hall⟩ := hrel
        have HM2 := Lib.hid hm
        have HB2 := Lib.hid hb
        have HALL := Lib.hid hall
        clear hm hb hall hw1
        by_cases hlt : j < n2
        · obtain ⟨b, o, rfl, hc⟩ := R2.out.cell (by omega)
          have hw01 := hc j hlt
          obtain ⟨x, hx⟩ : ∃ x, x = es.getD j (0, 0, 0) := ⟨_, rfl⟩
          rw [← hx] at hw01
          obtain ⟨ef, et, ew⟩ := x
          have hbb := HBB.out.trans (HB2.out.mono HBB.out.size)
          have hc0 := cell_below hw01.1 hbb
          have hc1 := cell_below hw01.2.1 hbb
          have hc2 := cell_below hw01.2.2 hbb
          have HX := Lib.hid hx
          have HBQ := Lib.hid hbb
          clear hc hw01 hx hbb
          cases hx1 : inB 0 ef ((k : Int) - 1)
          · have hbad : edgeOk ((k : Int) - 1) (es.getD j (0, 0, 0)) = false := by rw [← HX.out]; unfold edgeOk; rw [hx1]; rfl
            have HBAD := Lib.hid hbad
            have HX1 := Lib.hid hx1
            clear hbad hx1
            go_wp2_with fail
            refine (within_is HX1.out _).mono ?_
            rintro e w' ⟨rfl, rfl⟩
            go_wp2_with fail
            go_ret
            refine ⟨?_, HBQ.out.trans ((bl_alloc (Below.refl _ _) _).mono HBQ.out.size)⟩
            have e1 : es.all (edgeOk ((ns.length : Int) - 1)) = false := by rw [R1.out.len]; exact all_false (by rw [R2.out.len]; exact hlt) HBAD.out
            unfold mayB; rw [e1]; simp
          · cases hx2 : inB 0 et ((k : Int) - 1)
            · have hbad : edgeOk ((k : Int) - 1) (es.getD j (0, 0, 0)) = false := by rw [← HX.out]; unfold edgeOk; rw [hx1, hx2]; rfl
              have HBAD := Lib.hid hbad
              have HX1 := Lib.hid hx1
              have HX2 := Lib.hid hx2
              clear hbad hx1 hx2
              go_wp2_with fail
              refine (within_is HX1.out _).mono ?_
              rintro e w' ⟨rfl, rfl⟩
              go_wp2_with fail
              refine (within_is HX2.out _).mono ?_
              rintro e w' ⟨rfl, rfl⟩
              go_wp2_with fail
              go_ret
              refine ⟨?_, HBQ.out.trans ((bl_alloc (Below.refl _ _) _).mono HBQ.out.size)⟩
              have e1 : es.all (edgeOk ((ns.length : Int) - 1)) = false := by rw [R1.out.len]; exact all_false (by rw [R2.out.len]; exact hlt) HBAD.out
              unfold mayB; rw [e1]; simp
            · cases hx3 : inB 1 ew 65535
              · have hbad : edgeOk ((k : Int) - 1) (es.getD j (0, 0, 0)) = false := by rw [← HX.out]; unfold edgeOk; rw [hx1, hx2, hx3]; rfl
                have HBAD := Lib.hid hbad
                have HX1 := Lib.hid hx1
                have HX2 := Lib.hid hx2
                have HX3 := Lib.hid hx3
                clear hbad hx1 hx2 hx3
                go_wp2_with fail
                refine (within_is HX1.out _).mono ?_
                rintro e w' ⟨rfl, rfl⟩
                go_wp2_with fail
                refine (within_is HX2.out _).mono ?_
                rintro e w' ⟨rfl, rfl⟩
                go_wp2_with fail
                refine (within_is HX3.out _).mono ?_
                rintro e w' ⟨rfl, rfl⟩
                go_wp2_with fail
                go_ret
                refine ⟨?_, HBQ.out.trans ((bl_alloc (Below.refl _ _) _).mono HBQ.out.size)⟩
                have e1 : es.all (edgeOk ((ns.length : Int) - 1)) = false := by rw [R1.out.len]; exact all_false (by rw [R2.out.len]; exact hlt) HBAD.out
                unfold mayB; rw [e1]; simp
              · have hgood : edgeOk ((k : Int) - 1) (es.getD j (0, 0, 0)) = true := by rw [← HX.out]; unfold edgeOk; rw [hx1, hx2, hx3]; rfl
                have HGOOD := Lib.hid hgood
                have HX1 := Lib.hid hx1
                have HX2 := Lib.hid hx2
                have HX3 := Lib.hid hx3
                clear hgood hx1 hx2 hx3
                go_wp2_with fail
                refine (within_is HX1.out _).mono ?_
                rintro e w' ⟨rfl, rfl⟩
                go_wp2_with fail
                refine (within_is HX2.out _).mono ?_
                rintro e w' ⟨rfl, rfl⟩
                go_wp2_with fail
                refine (within_is HX3.out _).mono ?_
                rintro e w' ⟨rfl, rfl⟩
                go_wp2_with fail
                go_roundg (n2 - (j + 1))
                case measure => have := HM2.out; omega
                case rel =>
                  refine ⟨j + 1, rfl, by omega, by go_num, HB2.out.trans ((bl_alloc (Below.refl _ _) _).mono HB2.out.size), fun i hi => ?_⟩
                  by_cases hik : i = j
                  · subst hik; exact HGOOD.out
                  · exact HALL.out i (by omega)
        · have hjn : j = n2 := by omega
          subst hjn
          have hn : es.all (edgeOk ((ns.length : Int) - 1)) = true := by rw [R1.out.len]; exact all_true (d := (0, 0, 0)) fun i hi => HALL.out i (by rw [R2.out.len] at hi; exact hi)
          have HE := Lib.hid hn
          have HBQ := Lib.hid (HBB.out.trans (HB2.out.mono HBB.out.size))
          have p1 := cell_below K1.out (HB.out.trans (HB2.out.mono HB.out.size))
          have p2 := cell_below K2.out (HB.out.trans (HB2.out.mono HB.out.size))
          have P1 := Lib.hid p1
          have P2 := Lib.hid p2
          clear hlt hn HALL
          go_wp2_with fail
          go_loopg [79] n3 (fun m v wq => ∃ q : Nat, m = n3 - q ∧ q ≤ n3 ∧ v = .int .i64 (q : Nat) ∧ Below wr.heap.size wr wq ∧ ∀ i, i < q → banOk es bs i = true)
          case atStart => exact ⟨0, rfl, Nat.zero_le _, rfl, Below.refl _ _, fun i hi => absurd hi (by omega)⟩
          case round =>
            obtain ⟨q, hm, hq, rfl, hb, hall⟩ := hrel
            have HM3 := Lib.hid hm
            have HB3 := Lib.hid hb
            have HALL := Lib.hid hall
            clear hm hb hall
            by_cases hlt : q < n3
            · obtain ⟨b, o, rfl, hc⟩ := R3.out.cell (by omega)
              have hw01 := hc q hlt
              obtain ⟨x, hx⟩ : ∃ x, x = bs.getD q (0, 0) := ⟨_, rfl⟩
              rw [← hx] at hw01
              obtain ⟨ba, bb⟩ := x
              have hbb := HBQ.out.trans (HB3.out.mono HBQ.out.size)
              have hc0 := cell_below hw01.1 hbb
              have hc1 := cell_below hw01.2 hbb
              have pp1 := cell_below P1.out HB3.out
              have pp2 := cell_below P2.out HB3.out
              have pa1 := cell_below pp1 (bl_alloc (Below.refl _ _) (.cells #[.int .i64 ba, .int .i64 bb] 69))
              have pa2 := cell_below pp2 (bl_alloc (Below.refl _ _) (.cells #[.int .i64 ba, .int .i64 bb] 69))
              have HX := Lib.hid hx
              have HBW := Lib.hid hbb
              clear hc hw01 hx hbb p1 p2 pp1 pp2
              go_wp2_with fail
              have t0 := cell_two_new0 (w := wr) (x := .int .i64 ba) (y := .int .i64 bb) (t := 69) rfl
              have t1 := cell_two_new1 (w := wr) (x := .int .i64 ba) (y := .int .i64 bb) (t := 69) rfl
              have hbx := HBW.out.trans ((bl_alloc (Below.refl _ _) (.cells #[.int .i64 ba, .int .i64 bb] 69)).mono HBW.out.size)
              have hby := HB3.out.trans ((bl_alloc (Below.refl _ _) (.cells #[.int .i64 ba, .int .i64 bb] 69)).mono HB3.out.size)
              obtain ⟨W1, hW1⟩ : ∃ W1, W1 = wr.alloc (.cells #[.int .i64 ba, .int .i64 bb] 69) := ⟨_, rfl⟩
              rw [← hW1] at pa1 pa2 t0 t1 hbx hby ⊢
              obtain ⟨xb, hx0⟩ : ∃ xb, xb = wr.heap.size := ⟨_, rfl⟩
              rw [← hx0] at t0 t1 ⊢
              clear hx0
              have HBX := Lib.hid hbx
              have HBY := Lib.hid hby
              clear hbx hby hW1 hc0 hc1
              cases hx1 : inB 0 ba ((j : Int) - 1)
              · have HX1 := Lib.hid hx1
                clear hx1
                go_quiet ((go_at_call 65; refine Calls.quiet_of_same (within_still HX1.out _)))
                go_wp2_with fail
                go_ret
                refine ⟨?_, bl_drewN HBX.out _⟩
                have e1 : (List.range bs.length).all (banOk es bs) = false := by
                  refine all_false (d := 0) (i := q) (by rw [List.length_range, R3.out.len]; exact hlt) ?_
                  have : (List.range bs.length).getD q 0 = q := by simp [List.getD_eq_getElem?_getD, R3.out.len, hlt]
                  rw [this]; unfold banOk; rw [← HX.out, R2.out.len, HX1.out]; simp
                unfold mayB; rw [e1]; simp
              · cases hx2 : inB 0 bb ((j : Int) - 1)
                · have HX1 := Lib.hid hx1
                  have HX2 := Lib.hid hx2
                  clear hx1 hx2
                  go_quiet ((go_at_call 65; first | with_reducible refine Calls.quiet_of_same (within_still HX1.out _) | refine Calls.quiet_of_same (within_still HX2.out _)))
                  go_wp2_with fail
                  go_ret
                  refine ⟨?_, bl_drewN HBX.out _⟩
                  have e1 : (List.range bs.length).all (banOk es bs) = false := by
                    refine all_false (d := 0) (i := q) (by rw [List.length_range, R3.out.len]; exact hlt) ?_
                    have : (List.range bs.length).getD q 0 = q := by simp [List.getD_eq_getElem?_getD, R3.out.len, hlt]
                    rw [this]; unfold banOk; rw [← HX.out, R2.out.len, HX1.out, HX2.out]; simp
                  unfold mayB; rw [e1]; simp
                · have hx1' := hx1
                  have hx2' := hx2
                  unfold inB at hx1' hx2'
                  simp only [Bool.and_eq_true, decide_eq_true_eq] at hx1' hx2'
                  obtain ⟨ia, hia⟩ : ∃ ia : Nat, (ia : Int) = ba := ⟨ba.toNat, by omega⟩
                  obtain ⟨ib, hib⟩ : ∃ ib : Nat, (ib : Int) = bb := ⟨bb.toNat, by omega⟩
                  subst hia hib
                  have hja : ia < j := by omega
                  have hjb : ib < j := by omega
                  obtain ⟨be, oe, rfl, hce⟩ := R2.out.cell (by omega)
                  have ea := cell_below (hce ia hja).2.1 HBX.out
                  have eb := cell_below (hce ib hjb).1 HBX.out
                  obtain ⟨ta, hta⟩ : ∃ z, z = (es.getD ia (0, 0, 0)).2.1 := ⟨_, rfl⟩
                  obtain ⟨tb, htb⟩ : ∃ z, z = (es.getD ib (0, 0, 0)).1 := ⟨_, rfl⟩
                  rw [← hta] at ea
                  rw [← htb] at eb
                  have HTA := Lib.hid hta
                  have HTB := Lib.hid htb
                  have HX1 := Lib.hid hx1
                  have HX2 := Lib.hid hx2
                  have a0 : (0 : Int) ≤ (ia : Int) := by omega
                  have a1 : (ia : Int) < (j : Int) := by omega
                  have b0 : (0 : Int) ≤ (ib : Int) := by omega
                  have b1 : (ib : Int) < (j : Int) := by omega
                  clear hx1 hx2 hx1' hx2' hce hta htb
                  have hbo : banOk es bs q = (decide (ta = tb) && (decide (q = 0) || decide (ordI (bs.getD (q - 1) (0, 0)) ((ia : Int), (ib : Int)) < 0))) := by
                    unfold banOk; rw [← HX.out, R2.out.len, HX1.out, HX2.out]
                    simp only [Int.toNat_natCast, HTA.out, HTB.out, Bool.true_and]
                  have HBO := Lib.hid hbo
                  clear hbo
                  by_cases hne : ta = tb
                  · subst hne
                    by_cases hq0 : q = 0
                    · subst hq0
                      go_quiet ((go_at_call 65; first | with_reducible refine Calls.quiet_of_same (within_still HX1.out _) | refine Calls.quiet_of_same (within_still HX2.out _)))
                      go_wp2_with fail
                      go_roundg (n3 - 1)
                      case measure => have := HM3.out; omega
                      case rel =>
                        refine ⟨1, rfl, by omega, by go_num, ?_, fun i hi => ?_⟩
                        · exact bl_drewN HBY.out _
                        · obtain rfl : i = 0 := by omega
                          rw [HBO.out]; simp
                    · obtain ⟨p, rfl⟩ : ∃ p, q = p + 1 := ⟨q - 1, by omega⟩
                      obtain ⟨b', o', e, hcb⟩ := R3.out.cell (by omega)
                      injection e with e
                      injection e with e1 e2 e3
                      subst e1 e2
                      have hcp := hcb p (by omega)
                      obtain ⟨y, hy⟩ : ∃ y, y = bs.getD p (0, 0) := ⟨_, rfl⟩
                      rw [← hy] at hcp
                      have hbo : banOk es bs (p + 1) = decide (ordI y ((ia : Int), (ib : Int)) < 0) := by
                        rw [HBO.out, hy]; simp
                      have HBO2 := Lib.hid hbo
                      have p0 := cell_below hcp.1 HBX.out
                      have p1 := cell_below hcp.2 HBX.out
                      have q0 : (0 : Int) ≤ (p : Int) := by omega
                      have q1 : (p : Int) < (n3 : Int) := by omega
                      have q2 : IntKind.i64.wrap (p : Int) = (p : Int) := IntWalk.i64_in _ (by omega)
                      clear hcb hcp hbo hq0 hy e3
                      go_still_tail 40, (by kernel_rfl)
                      still_call (within_still HX1.out _)
                      iterate 5 still_step
                      still_call (within_still HX2.out _)
                      iterate 30 still_step
                      refine wpStill_nil ?_
                      change wpList _ _ _ _ _ (World.drew _)
                      obtain ⟨z, hz⟩ : ∃ z, z = ordI y ((ia : Int), (ib : Int)) := ⟨_, rfl⟩
                      by_cases hz0 : z < 0
                      · have hz1 : decide (0 ≤ z) = false := by simp; omega
                        go_wp2_with fail
                        refine (order_any y ((ia : Int), (ib : Int)) _).mono ?_
                        rw [← hz]
                        rintro e w' ⟨rfl, hbw⟩
                        have HBE := Lib.hid hbw
                        have HZZ := Lib.hid hz
                        clear hbw hz
                        go_wp2_with fail
                        go_roundg (n3 - (p + 1 + 1))
                        case measure => have := HM3.out; omega
                        case rel =>
                          refine ⟨p + 1 + 1, rfl, by omega, by go_num, ?_, fun i hi => ?_⟩
                          · exact HBY.out.trans ((bl_drew (Below.refl _ _)).trans HBE.out |>.mono HBY.out.size)
                          · by_cases hik : i = p + 1
                            · subst hik; rw [HBO2.out, ← HZZ.out]; simpa using hz0
                            · exact HALL.out i (by omega)
                      · have hz1 : decide (0 ≤ z) = true := by simp; omega
                        go_wp2_with fail
                        refine (order_any y ((ia : Int), (ib : Int)) _).mono ?_
                        rw [← hz]
                        rintro e w' ⟨rfl, hbw⟩
                        have HBE := Lib.hid hbw
                        have HZZ := Lib.hid hz
                        clear hbw hz
                        go_wp2_with fail
                        go_ret
                        refine ⟨?_, (HBX.out.trans ((bl_drew (Below.refl _ _)).trans HBE.out |>.mono HBX.out.size))⟩
                        have e1 : (List.range bs.length).all (banOk es bs) = false := by
                          refine all_false (d := 0) (i := p + 1) (by rw [List.length_range, R3.out.len]; exact hlt) ?_
                          have : (List.range bs.length).getD (p + 1) 0 = p + 1 := by simp [List.getD_eq_getElem?_getD, R3.out.len, hlt]
                          rw [this, HBO2.out, ← HZZ.out]; simpa using hz0
                        unfold mayB; rw [e1]; simp
                  · have hne' : (ta != tb) = true := by simpa using hne
                    have HNE := Lib.hid hne
                    clear hne
                    go_quiet ((go_at_call 65; first | with_reducible refine Calls.quiet_of_same (within_still HX1.out _) | refine Calls.quiet_of_same (within_still HX2.out _)))
                    go_wp2_with fail
                    go_ret
                    refine ⟨?_, bl_drewN HBX.out _⟩
                    have e1 : (List.range bs.length).all (banOk es bs) = false := by
                      refine all_false (d := 0) (i := q) (by rw [List.length_range, R3.out.len]; exact hlt) ?_
                      have : (List.range bs.length).getD q 0 = q := by simp [List.getD_eq_getElem?_getD, R3.out.len, hlt]
                      rw [this, HBO.out, decide_eq_false HNE.out]; simp
                    unfold mayB; rw [e1]; simp
            · have hqn : q = n3 := by omega
              subst hqn
              have hn : (List.range bs.length).all (banOk es bs) = true := by
                rw [List.all_eq_true]
                intro i hi
                rw [List.mem_range, R3.out.len] at hi
                exact HALL.out i hi
              have HF := Lib.hid hn
              clear hn
              go_wp2_with fail
              go_ret
              refine ⟨?_, HBQ.out.trans (HB3.out.mono HBQ.out.size)⟩
              unfold mayB
              rw [HS.out, HN.out, HE.out, HF.out]
              rfl
end Go.Proofs.Ytkdpfbefdhjmcaa
