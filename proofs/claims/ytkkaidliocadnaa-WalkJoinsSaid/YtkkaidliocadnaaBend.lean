/- bend.Class, bend.Mirror, and bend.Of of no graph: what each call comes to, and the plain laws of the classes. -/
import Derived.Test.YtkkaidliocadnaaKit
namespace Go.Proofs.Ytkkaidliocadnaa
open Go.RowKit
def farB (n : Int) : Bool := decide (n < -4095) || decide (4095 < n)
theorem farB_no {n : Int} (h : farB n = false) : -4095 ≤ n ∧ n ≤ 4095 := by simp [farB] at h; omega
theorem farB_in {n : Int} (h0 : -4095 ≤ n) (h1 : n ≤ 4095) : farB n = false := by simp [farB]; omega
set_option maxHeartbeats 400000 in
theorem far_any (n : Int) (w : World) : Calls Try.prog 72 #[.int .i64 n] w fun e w' => e = .returned (.bool (farB n)) ∧ w = w' := by
  by_cases h : n < -4095 <;> by_cases h2 : 4095 < n
  all_goals
    go_enter Try.func72, Try.ntmps72
    go_wp2
    go_ret
    exact ⟨by simp [farB, h, h2], rfl⟩
def mirI (c : Int) : Int := if c = 2 ∨ c = 3 ∨ c = 4 then c + 4 else if c = 6 ∨ c = 7 ∨ c = 8 then c - 4 else c
set_option maxHeartbeats 1000000 in
theorem mirror_any (c : Int) (w : World) : Calls Try.prog 73 #[.int .i64 c] w fun e w' => e = .returned (.int .i64 (mirI c)) ∧ w = w' := by
  by_cases h : c = 2 ∨ c = 3 ∨ c = 4 ∨ c = 6 ∨ c = 7 ∨ c = 8
  · rcases h with rfl | rfl | rfl | rfl | rfl | rfl
    all_goals
      go_enter Try.func73, Try.ntmps73
      go_wp2
      go_ret
      exact ⟨rfl, rfl⟩
  · have h2 : (c == 2) = false := by simp; omega
    have h3 : (c == 3) = false := by simp; omega
    have h4 : (c == 4) = false := by simp; omega
    have h6 : (c == 6) = false := by simp; omega
    have h7 : (c == 7) = false := by simp; omega
    have h8 : (c == 8) = false := by simp; omega
    have hm : mirI c = c := by unfold mirI; rw [if_neg (by omega), if_neg (by omega)]
    have H := Lib.hid hm; clear hm h
    go_enter Try.func73, Try.ntmps73
    go_wp2
    go_ret
    exact ⟨ret_int H.out.symm, rfl⟩
def clsI (c d : Int) : Int :=
  if 0 < d ∧ 4 * c ≤ d ∧ -(4 * c) ≤ d then 1
  else if d < 0 ∧ 4 * c ≤ -d ∧ -(4 * c) ≤ -d then 5
  else if 0 ≤ c then (if 0 < d ∧ c ≤ d then 2 else if d < 0 ∧ c ≤ -d then 4 else 3)
  else (if 0 < d ∧ -c ≤ d then 6 else if d < 0 ∧ -c ≤ -d then 8 else 7)
theorem mul_bd {a b : Int} (h1 : -4095 ≤ a ∧ a ≤ 4095) (h2 : -4095 ≤ b ∧ b ≤ 4095) : -16769025 ≤ a * b ∧ a * b ≤ 16769025 := by
  have e1 : a.natAbs ≤ 4095 := by omega
  have e2 : b.natAbs ≤ 4095 := by omega
  have e3 : (a * b).natAbs ≤ 4095 * 4095 := by rw [Int.natAbs_mul]; exact Nat.mul_le_mul e1 e2
  omega
theorem abs_ite (c : Int) : (c < 0 ∧ (if c < -c then -c else c) = -c) ∨ (0 ≤ c ∧ (if c < -c then -c else c) = c) := by split <;> omega
theorem cls1 {c d : Int} (h : 0 < d ∧ 4 * c ≤ d ∧ -(4 * c) ≤ d) : (1 : Int) = clsI c d := by unfold clsI; rw [if_pos h]
theorem cls5 {c d : Int} (h : d < 0 ∧ 4 * c ≤ -d ∧ -(4 * c) ≤ -d) : (5 : Int) = clsI c d := by unfold clsI; rw [if_neg (by omega), if_pos h]
theorem cls2 {c d : Int} (h : 0 ≤ c ∧ 0 < d ∧ d < 4 * c ∧ c ≤ d) : (2 : Int) = clsI c d := by unfold clsI; rw [if_neg (by omega), if_neg (by omega), if_pos h.1, if_pos (by omega)]
theorem cls4 {c d : Int} (h : 0 ≤ c ∧ d < 0 ∧ -d < 4 * c ∧ c ≤ -d) : (4 : Int) = clsI c d := by unfold clsI; rw [if_neg (by omega), if_neg (by omega), if_pos h.1, if_neg (by omega), if_pos (by omega)]
theorem cls3 {c d : Int} (h : 0 ≤ c ∧ (d = 0 ∨ (d < c ∧ -d < c))) : (3 : Int) = clsI c d := by unfold clsI; rw [if_neg (by omega), if_neg (by omega), if_pos h.1, if_neg (by omega), if_neg (by omega)]
theorem cls6 {c d : Int} (h : c < 0 ∧ 0 < d ∧ d < -(4 * c) ∧ -c ≤ d) : mirI 2 = clsI c d := by show (6 : Int) = _; unfold clsI; rw [if_neg (by omega), if_neg (by omega), if_neg (by omega), if_pos (by omega)]
theorem cls8 {c d : Int} (h : c < 0 ∧ d < 0 ∧ -d < -(4 * c) ∧ -c ≤ -d) : mirI 4 = clsI c d := by show (8 : Int) = _; unfold clsI; rw [if_neg (by omega), if_neg (by omega), if_neg (by omega), if_neg (by omega), if_pos (by omega)]
theorem cls7 {c d : Int} (h : c < 0 ∧ (d = 0 ∨ (d < -c ∧ -d < -c))) : mirI 3 = clsI c d := by show (7 : Int) = _; unfold clsI; rw [if_neg (by omega), if_neg (by omega), if_neg (by omega), if_neg (by omega), if_neg (by omega)]
inductive Out (ax ay bx by_ : Int) : Prop where
  | f1 (h : farB ax = true)
  | f2 (h1 : farB ax = false) (h : farB ay = true)
  | f3 (h1 : farB ax = false) (h2 : farB ay = false) (h : farB bx = true)
  | f4 (h1 : farB ax = false) (h2 : farB ay = false) (h3 : farB bx = false) (h : farB by_ = true)
  | z1 (h1 : farB ax = false) (h2 : farB ay = false) (h3 : farB bx = false) (h4 : farB by_ = false) (h : ax = 0) (h' : ay = 0)
  | z2 (h1 : farB ax = false) (h2 : farB ay = false) (h3 : farB bx = false) (h4 : farB by_ = false) (hz : ¬ (ax = 0 ∧ ay = 0)) (h : bx = 0) (h' : by_ = 0)
set_option maxHeartbeats 1000000 in
theorem class_no (ax ay bx by_ : Int) (w : World) (h : Out ax ay bx by_) : Calls Try.prog 69 #[.int .i64 ax, .int .i64 ay, .int .i64 bx, .int .i64 by_] w fun e w' => e = .returned (.int .i64 0) ∧ w = w' := by
  rcases h with h1 | ⟨h1, h2⟩ | ⟨h1, h2, h3⟩ | ⟨h1, h2, h3, h4⟩ | ⟨h1, h2, h3, h4, rfl, rfl⟩ | ⟨h1, h2, h3, h4, h5, rfl, rfl⟩
  case z2 =>
    by_cases hx : ax = 0
    · subst hx
      have hy : (ay == 0) = false := by simpa using h5
      clear h5
      go_enter Try.func69, Try.ntmps69
      go_wp2_with (go_at_call 72; refine (far_any _ _).mono ?_; rintro e w' ⟨rfl, rfl⟩)
      go_ret
      exact ⟨rfl, rfl⟩
    · have hx : (ax == 0) = false := by simpa using hx
      clear h5
      go_enter Try.func69, Try.ntmps69
      go_wp2_with (go_at_call 72; refine (far_any _ _).mono ?_; rintro e w' ⟨rfl, rfl⟩)
      go_ret
      exact ⟨rfl, rfl⟩
  all_goals
    go_enter Try.func69, Try.ntmps69
    go_wp2_with (go_at_call 72; refine (far_any _ _).mono ?_; rintro e w' ⟨rfl, rfl⟩)
    go_ret
    exact ⟨rfl, rfl⟩
set_option maxHeartbeats 1000000 in
theorem class_in (ax ay bx by_ : Int) (w : World) (h1 : farB ax = false) (h2 : farB ay = false) (h3 : farB bx = false) (h4 : farB by_ = false) (ha : ((ax == 0) = false ∨ (ay == 0) = false)) (hb : ((bx == 0) = false ∨ (by_ == 0) = false))
    (a1 : -16769025 ≤ ax * by_) (a2 : ax * by_ ≤ 16769025) (b1 : -16769025 ≤ ay * bx) (b2 : ay * bx ≤ 16769025) (c1 : -16769025 ≤ ax * bx) (c2 : ax * bx ≤ 16769025) (d1 : -16769025 ≤ ay * by_) (d2 : ay * by_ ≤ 16769025)
    : Calls Try.prog 69 #[.int .i64 ax, .int .i64 ay, .int .i64 bx, .int .i64 by_] w fun e w' => e = .returned (.int .i64 (clsI (ax * by_ - ay * bx) (ax * bx + ay * by_))) ∧ w = w' := by
  rcases Bool.eq_false_or_eq_true (ax == 0) with xa | xa <;> rcases Bool.eq_false_or_eq_true (bx == 0) with xb | xb
  all_goals (first | (have ya : (ay == 0) = false := by simpa [xa] using ha) | skip)
  all_goals (first | (have yb : (by_ == 0) = false := by simpa [xb] using hb) | skip)
  all_goals
    clear ha hb
    go_enter Try.func69, Try.ntmps69
    go_wp2_with (first | (go_at_call 72; refine (far_any _ _).mono ?_; rintro e w' ⟨rfl, rfl⟩) | (go_at_call 73; refine (mirror_any _ _).mono ?_; rintro e w' ⟨rfl, rfl⟩))
  all_goals (have ha := abs_ite (ax * by_ - ay * bx); go_ret; refine ⟨ret_int ?_, rfl⟩; first | exact cls1 (by omega) | exact cls5 (by omega) | exact cls2 (by omega) | exact cls4 (by omega) | exact cls6 (by omega) | exact cls8 (by omega) | exact cls3 (by omega) | exact cls7 (by omega))
/-- the class of two ways -/
def classF (ax ay bx by_ : Int) : Int :=
  if farB ax = true ∨ farB ay = true ∨ farB bx = true ∨ farB by_ = true ∨ (ax = 0 ∧ ay = 0) ∨ (bx = 0 ∧ by_ = 0) then 0 else clsI (ax * by_ - ay * bx) (ax * bx + ay * by_)
theorem class_any (ax ay bx by_ : Int) (w : World) : Calls Try.prog 69 #[.int .i64 ax, .int .i64 ay, .int .i64 bx, .int .i64 by_] w fun e w' => e = .returned (.int .i64 (classF ax ay bx by_)) ∧ w = w' := by
  by_cases h : farB ax = true ∨ farB ay = true ∨ farB bx = true ∨ farB by_ = true ∨ (ax = 0 ∧ ay = 0) ∨ (bx = 0 ∧ by_ = 0)
  · have e : classF ax ay bx by_ = 0 := by unfold classF; rw [if_pos h]
    rw [e]
    refine class_no ax ay bx by_ w ?_
    cases h1 : farB ax
    · cases h2 : farB ay
      · cases h3 : farB bx
        · cases h4 : farB by_
          · by_cases hz : ax = 0 ∧ ay = 0
            · exact .z1 h1 h2 h3 h4 hz.1 hz.2
            · simp only [h1, h2, h3, h4, hz, Bool.false_eq_true, false_or] at h
              exact .z2 h1 h2 h3 h4 hz h.1 h.2
          · exact .f4 h1 h2 h3 h4
        · exact .f3 h1 h2 h3
      · exact .f2 h1 h2
    · exact .f1 h1
  · have e : classF ax ay bx by_ = clsI (ax * by_ - ay * bx) (ax * bx + ay * by_) := by unfold classF; rw [if_neg h]
    rw [e]
    simp only [not_or, Bool.not_eq_true] at h
    obtain ⟨h1, h2, h3, h4, h5, h6⟩ := h
    have b1 := farB_no h1
    have b2 := farB_no h2
    have b3 := farB_no h3
    have b4 := farB_no h4
    refine class_in ax ay bx by_ w h1 h2 h3 h4 ?_ ?_ (mul_bd b1 b4).1 (mul_bd b1 b4).2 (mul_bd b2 b3).1 (mul_bd b2 b3).2 (mul_bd b1 b3).1 (mul_bd b1 b3).2 (mul_bd b2 b4).1 (mul_bd b2 b4).2
    · simp only [beq_eq_false_iff_ne]; omega
    · simp only [beq_eq_false_iff_ne]; omega
set_option maxHeartbeats 1000000 in
theorem edges_nil (w : World) : Calls Try.prog 40 #[.pointer none] w fun e w' => e = .returned (.int .i64 0) ∧ w = w' := by
  go_enter Try.func40, Try.ntmps40
  go_wp2
  go_ret
  exact ⟨rfl, rfl⟩
set_option maxHeartbeats 1000000 in
theorem nodes_nil (w : World) : Calls Try.prog 64 #[.pointer none] w fun e w' => e = .returned (.int .i64 0) ∧ w = w' := by
  go_enter Try.func64, Try.ntmps64
  go_wp2
  go_ret
  exact ⟨rfl, rfl⟩
set_option maxHeartbeats 1000000 in
theorem edge_nil (i : Int) (w : World) : Calls Try.prog 39 #[.pointer none, .int .i64 i] w fun e w' => e = .returned (.tuple #[.agg #[.int .i64 0, .int .i64 0, .int .i64 0], .bool false]) ∧ Below w.heap.size w w' := by
  by_cases h : i < 0
  all_goals
    go_enter Try.func39, Try.ntmps39
    go_wp2_with (go_at_call 40; refine (edges_nil _).mono ?_; rintro e w' ⟨rfl, rfl⟩)
    exact bodyPost_ret (v := .tuple #[.agg #[.int .i64 0, .int .i64 0, .int .i64 0], .bool false]) (by simp [results, Try.results39, go_sem]) rfl ⟨rfl, (Below.refl _ _).alloc (Nat.le_refl _) _⟩
set_option maxHeartbeats 1000000 in
theorem node_nil (i : Int) (w : World) : Calls Try.prog 71 #[.pointer none, .int .i64 i] w fun e w' => e = .returned (.tuple #[.agg #[.int .i64 0, .int .i64 0], .bool false]) ∧ Below w.heap.size w w' := by
  by_cases h : i < 0
  all_goals
    go_enter Try.func71, Try.ntmps71
    go_wp2_with (go_at_call 64; refine (nodes_nil _).mono ?_; rintro e w' ⟨rfl, rfl⟩)
    exact bodyPost_ret (v := .tuple #[.agg #[.int .i64 0, .int .i64 0], .bool false]) (by simp [results, Try.results71, go_sem]) rfl ⟨rfl, (Below.refl _ _).alloc (Nat.le_refl _) _⟩
set_option maxHeartbeats 1000000 in
theorem way_nil (i : Int) (w : World) : Calls Try.prog 68 #[.pointer none, .int .i64 i] w fun e w' => e = .returned (.tuple #[.int .i64 0, .int .i64 0, .bool false]) ∧ Below w.heap.size w w' := by
  go_enter Try.func68, Try.ntmps68
  go_wp2_with fail
  refine (edge_nil _ _).mono ?_
  rintro e w1 ⟨rfl, hb1⟩
  go_wp2_with fail
  refine (node_nil _ _).mono ?_
  rintro e w2 ⟨rfl, hb2⟩
  obtain ⟨hc2, hf2⟩ := bcell hb2
  have hz2 : w1.heap.size < w2.heap.size := by have := hb2.size; simp at this; omega
  go_wp2_with fail
  refine (node_nil _ _).mono ?_
  rintro e w3 ⟨rfl, hb3⟩
  obtain ⟨hc3, hf3⟩ := bcell hb3
  have hz3 : w2.heap.size < w3.heap.size := by have := hb3.size; simp at this; omega
  go_wp2_with fail
  go_quiet (fail)
  go_wp2
  go_ret3
  exact ⟨rfl, by repeat (first | exact Below.refl _ _ | assumption | refine bl_drewN ?_ _ | refine bl_alloc ?_ _ | refine bl_then ?_ (by assumption))⟩
set_option maxHeartbeats 1000000 in
theorem of_nil (i k : Int) (w : World) : Calls Try.prog 59 #[.pointer none, .int .i64 i, .int .i64 k] w fun e w' => e = .returned (.int .i64 0) ∧ Below w.heap.size w w' := by
  go_enter Try.func59, Try.ntmps59
  go_wp2_with fail
  refine (way_nil _ _).mono ?_
  rintro e w1 ⟨rfl, hb1⟩
  go_wp2_with fail
  refine (way_nil _ _).mono ?_
  rintro e w2 ⟨rfl, hb2⟩
  go_wp2_with fail
  go_ret
  exact ⟨rfl, by repeat (first | exact Below.refl _ _ | assumption | refine bl_drewN ?_ _ | refine bl_alloc ?_ _ | refine bl_then ?_ (by assumption))⟩
end Go.Proofs.Ytkkaidliocadnaa
