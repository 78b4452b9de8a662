/- milepostref4.Class. -/
import Derived.Test.YtkkaidliocadnaaBendRef
import Derived.Test.YtkkaidliocadnaaBendPlain
set_option linter.unusedVariables false
set_option linter.unusedSimpArgs false
namespace Go.Proofs.Ytkkaidliocadnaa
open Go.ChangeShapes Go.WideShapes Go.ChangeAt Go.RowKit
theorem far_inB (x : Int) : inB (-4095) x 4095 = !farB x := by
  unfold inB farB
  by_cases h1 : x < -4095 <;> by_cases h2 : 4095 < x <;> simp [h1, h2] <;> omega
theorem within4_is {n a b : Int} {r : Bool} (h : inB a n b = r) (w : World) : Calls Try.prog 45 #[.int .i64 n, .int .i64 a, .int .i64 b] w fun e w' => e = .returned (.bool r) ∧ w = w' := by
  rw [← h]; exact within4_any n a b w
theorem far4_pos {n : Int} (w : World) (h0 : 0 ≤ n) (h1 : n ≤ 16769025000) : Calls Try.prog 60 #[.int .i64 n] w fun e w' => e = .returned (.int .i64 n) ∧ w = w' := by
  have := far4_any n w ⟨by omega, h1⟩
  rwa [if_neg (by omega)] at this
theorem far4_neg {n : Int} (w : World) (h0 : n < 0) (h1 : -16769025000 ≤ n) : Calls Try.prog 60 #[.int .i64 n] w fun e w' => e = .returned (.int .i64 (-n)) ∧ w = w' := by
  have := far4_any n w ⟨h1, by omega⟩
  rwa [if_pos h0] at this
theorem cls7b {c d : Int} (h : c < 0 ∧ ¬ (0 < d ∧ 4 * -c ≤ d) ∧ ¬ (d < 0 ∧ 4 * -c ≤ -d) ∧ ¬ (0 < d ∧ -c ≤ d) ∧ ¬ (d < 0 ∧ -c ≤ -d)) : (7 : Int) = clsI c d := by
  unfold clsI; rw [if_neg (by omega), if_neg (by omega), if_neg (by omega), if_neg (by omega), if_neg (by omega)]
set_option maxRecDepth 100000 in
set_option maxHeartbeats 8000000 in
theorem class4_any (ax ay bx by_ : Int) (w : World) : Calls Try.prog 46 #[.int .i64 ax, .int .i64 ay, .int .i64 bx, .int .i64 by_] w fun e w' => e = .returned (.int .i64 (classF ax ay bx by_)) ∧ Below w.heap.size w w' := by
  obtain ⟨W1, hW1⟩ : ∃ W1, W1 = w.alloc (.cells #[.int .i64 ax, .int .i64 ay, .int .i64 bx, .int .i64 by_] 98) := ⟨_, rfl⟩
  have hB : Below w.heap.size w W1 := by rw [hW1]; exact bl_alloc (Below.refl _ _) _
  have hcell : ∀ (j : Nat) v, (#[Value.int .i64 ax, .int .i64 ay, .int .i64 bx, .int .i64 by_] : Array Value)[j]? = some v → W1.cell? ⟨w.heap.size, j, none⟩ = some v := by
    intro j v hv
    have : W1.heap[w.heap.size]? = some (.cells #[.int .i64 ax, .int .i64 ay, .int .i64 bx, .int .i64 by_] 98) := by rw [hW1]; show (w.heap.push _)[w.heap.size]? = _; simp
    exact block_cell this hv
  have c0 : W1.cell? ⟨w.heap.size, 0, none⟩ = some (.int .i64 ax) := hcell 0 _ rfl
  have c1 : W1.cell? ⟨w.heap.size, 1, none⟩ = some (.int .i64 ay) := hcell 1 _ rfl
  have c2 : W1.cell? ⟨w.heap.size, 2, none⟩ = some (.int .i64 bx) := hcell 2 _ rfl
  have c3 : W1.cell? ⟨w.heap.size, 3, none⟩ = some (.int .i64 by_) := hcell 3 _ rfl
  have HB := Lib.hid hB
  have HW := Lib.hid hW1.symm
  clear hcell hB hW1
  go_enter Try.func46, Try.ntmps46
  go_wp2_with fail
  rw [HW.out]
  go_loopg [10] 4 (fun m v wr => ∃ k : Nat, m = 4 - k ∧ k ≤ 4 ∧ v = .int .i64 (k : Nat) ∧ wr = W1 ∧ (0 < k → farB ax = false) ∧ (1 < k → farB ay = false) ∧ (2 < k → farB bx = false) ∧ (3 < k → farB by_ = false))
  case atStart => exact ⟨0, rfl, by omega, rfl, rfl, by omega, by omega, by omega, by omega⟩
  case round =>
    obtain ⟨k, hm, hk, rfl, rfl, h0, h1, h2, h3⟩ := hrel
    match k, hk with
    | 0, _ =>
      cases hf : farB ax
      · have hi : inB (-4095) ax 4095 = true := by rw [far_inB, hf]; rfl
        have HI := Lib.hid hi
        clear hi h0 h1 h2 h3
        go_wp2_with fail
        refine (within4_is HI.out _).mono ?_
        rintro e w' ⟨rfl, rfl⟩
        go_wp2_with fail
        go_roundg 3
        case measure => omega
        case rel => exact ⟨1, rfl, by omega, by go_num, rfl, fun _ => hf, by omega, by omega, by omega⟩
      · have hi : inB (-4095) ax 4095 = false := by rw [far_inB, hf]; rfl
        have HI := Lib.hid hi
        clear hi h0 h1 h2 h3
        go_wp2_with fail
        refine (within4_is HI.out _).mono ?_
        rintro e w' ⟨rfl, rfl⟩
        go_wp2_with fail
        go_ret
        exact ⟨by unfold classF; rw [if_pos (.inl hf)]; rfl, HB.out⟩
    | 1, _ =>
      cases hf : farB ay
      · have hi : inB (-4095) ay 4095 = true := by rw [far_inB, hf]; rfl
        have HI := Lib.hid hi
        have H0 := h0 (by omega)
        clear hi h0 h1 h2 h3
        go_wp2_with fail
        refine (within4_is HI.out _).mono ?_
        rintro e w' ⟨rfl, rfl⟩
        go_wp2_with fail
        go_roundg 2
        case measure => omega
        case rel => exact ⟨2, rfl, by omega, by go_num, rfl, fun _ => H0, fun _ => hf, by omega, by omega⟩
      · have hi : inB (-4095) ay 4095 = false := by rw [far_inB, hf]; rfl
        have HI := Lib.hid hi
        clear hi h0 h1 h2 h3
        go_wp2_with fail
        refine (within4_is HI.out _).mono ?_
        rintro e w' ⟨rfl, rfl⟩
        go_wp2_with fail
        go_ret
        exact ⟨by unfold classF; rw [if_pos (.inr (.inl hf))]; rfl, HB.out⟩
    | 2, _ =>
      cases hf : farB bx
      · have hi : inB (-4095) bx 4095 = true := by rw [far_inB, hf]; rfl
        have HI := Lib.hid hi
        have H0 := h0 (by omega)
        have H1 := h1 (by omega)
        clear hi h0 h1 h2 h3
        go_wp2_with fail
        refine (within4_is HI.out _).mono ?_
        rintro e w' ⟨rfl, rfl⟩
        go_wp2_with fail
        go_roundg 1
        case measure => omega
        case rel => exact ⟨3, rfl, by omega, by go_num, rfl, fun _ => H0, fun _ => H1, fun _ => hf, by omega⟩
      · have hi : inB (-4095) bx 4095 = false := by rw [far_inB, hf]; rfl
        have HI := Lib.hid hi
        clear hi h0 h1 h2 h3
        go_wp2_with fail
        refine (within4_is HI.out _).mono ?_
        rintro e w' ⟨rfl, rfl⟩
        go_wp2_with fail
        go_ret
        exact ⟨by unfold classF; rw [if_pos (.inr (.inr (.inl hf)))]; rfl, HB.out⟩
    | 3, _ =>
      cases hf : farB by_
      · have hi : inB (-4095) by_ 4095 = true := by rw [far_inB, hf]; rfl
        have HI := Lib.hid hi
        have H0 := h0 (by omega)
        have H1 := h1 (by omega)
        have H2 := h2 (by omega)
        clear hi h0 h1 h2 h3
        go_wp2_with fail
        refine (within4_is HI.out _).mono ?_
        rintro e w' ⟨rfl, rfl⟩
        go_wp2_with fail
        go_roundg 0
        case measure => omega
        case rel => exact ⟨4, rfl, by omega, by go_num, rfl, fun _ => H0, fun _ => H1, fun _ => H2, fun _ => hf⟩
      · have hi : inB (-4095) by_ 4095 = false := by rw [far_inB, hf]; rfl
        have HI := Lib.hid hi
        clear hi h0 h1 h2 h3
        go_wp2_with fail
        refine (within4_is HI.out _).mono ?_
        rintro e w' ⟨rfl, rfl⟩
        go_wp2_with fail
        go_ret
        exact ⟨by unfold classF; rw [if_pos (.inr (.inr (.inr (.inl hf))))]; rfl, HB.out⟩
    | 4, _ =>
      have f0 := h0 (by omega)
      have f1 := h1 (by omega)
      have f2 := h2 (by omega)
      have f3 := h3 (by omega)
      have b1 := farB_no f0
      have b2 := farB_no f1
      have b3 := farB_no f2
      have b4 := farB_no f3
      by_cases hz : (ax = 0 ∧ ay = 0) ∨ (bx = 0 ∧ by_ = 0)
      · have hcl : classF ax ay bx by_ = 0 := by unfold classF; rw [if_pos (.inr (.inr (.inr (.inr hz))))]
        have HCL := Lib.hid hcl
        clear hcl h0 h1 h2 h3
        by_cases za : ax = 0 ∧ ay = 0
        · obtain ⟨rfl, rfl⟩ := za
          go_wp2_with fail
          go_ret
          exact ⟨by rw [HCL.out]; rfl, HB.out⟩
        · obtain ⟨rfl, rfl⟩ : bx = 0 ∧ by_ = 0 := by rcases hz with h | h; · exact absurd h za
                                                     · exact h
          clear hz
          rcases Bool.eq_false_or_eq_true (ax == 0) with xa | xa
          · have ya : (ay == 0) = false := beq_false_of_ne fun e => za ⟨by simpa using xa, e⟩
            go_wp2_with fail
            go_ret
            exact ⟨by rw [HCL.out]; rfl, HB.out⟩
          · go_wp2_with fail
            go_ret
            exact ⟨by rw [HCL.out]; rfl, HB.out⟩
      · have hcl : classF ax ay bx by_ = clsI (ax * by_ - ay * bx) (ax * bx + ay * by_) := by unfold classF; rw [if_neg]; simp only [f0, f1, f2, f3, Bool.false_eq_true, false_or]; exact hz
        have hno := no_both (a := ax) (b := ay) (c := bx) (d := by_) (fun h => hz (.inl h)) (fun h => hz (.inr h))
        obtain ⟨p1, e1⟩ : ∃ p, ax * by_ = p := ⟨_, rfl⟩
        obtain ⟨p2, e2⟩ : ∃ p, ay * bx = p := ⟨_, rfl⟩
        obtain ⟨p3, e3⟩ : ∃ p, ax * bx = p := ⟨_, rfl⟩
        obtain ⟨p4, e4⟩ : ∃ p, ay * by_ = p := ⟨_, rfl⟩
        have q1 := mul_bd b1 b4
        have q2 := mul_bd b2 b3
        have q3 := mul_bd b1 b3
        have q4 := mul_bd b2 b4
        rw [e1] at q1
        rw [e2] at q2
        rw [e3] at q3
        rw [e4] at q4
        rw [e1, e2, e3, e4] at hno hcl
        obtain ⟨m1, m2⟩ := q1
        obtain ⟨m3, m4⟩ := q2
        obtain ⟨m5, m6⟩ := q3
        obtain ⟨m7, m8⟩ := q4
        obtain ⟨c, hc⟩ : ∃ c, p1 - p2 = c := ⟨_, rfl⟩
        obtain ⟨d, hd⟩ : ∃ d, p3 + p4 = d := ⟨_, rfl⟩
        have n1 : -33538050 ≤ c := by omega
        have n2 : c ≤ 33538050 := by omega
        have n3 : -33538050 ≤ d := by omega
        have n4 : d ≤ 33538050 := by omega
        rw [hc, hd] at hno hcl
        have HCL := Lib.hid hcl
        have hza : (ax == 0) = false ∨ (ay == 0) = false := by simp only [beq_eq_false_iff_ne]; omega
        have hzb : (bx == 0) = false ∨ (by_ == 0) = false := by simp only [beq_eq_false_iff_ne]; omega
        clear hcl h0 h1 h2 h3 hz b1 b2 b3 b4 f0 f1 f2 f3
        rcases Bool.eq_false_or_eq_true (ax == 0) with xa | xa <;> rcases Bool.eq_false_or_eq_true (bx == 0) with xb | xb
        all_goals (first | (have ya : (ay == 0) = false := by simpa [xa] using hza) | skip)
        all_goals (first | (have yb : (by_ == 0) = false := by simpa [xb] using hzb) | skip)
        all_goals clear hza hzb
        all_goals
          rcases Int.lt_or_le c 0 with hc0 | hc0
          all_goals
            go_wp2_with (first | (go_at_call 60; refine (far4_neg _ hc0 (by omega)).mono ?_; rintro e w' ⟨rfl, rfl⟩) | (go_at_call 60; refine (far4_pos _ hc0 (by omega)).mono ?_; rintro e w' ⟨rfl, rfl⟩))
        all_goals
          go_ret
          refine ⟨ret_int ?_, HB.out⟩
          rw [HCL.out]
          first | exact cls1 (by omega) | exact cls5 (by omega) | exact cls2 (by omega) | exact cls4 (by omega) | exact cls6 (by omega) | exact cls8 (by omega) | exact cls3 (by omega) | exact cls7 (by omega)
end Go.Proofs.Ytkkaidliocadnaa
