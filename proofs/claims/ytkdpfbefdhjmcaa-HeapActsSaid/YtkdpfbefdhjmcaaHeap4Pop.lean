/- milepostref4.Heap.Pop, where something is there. -/
import Derived.Test.YtkdpfbefdhjmcaaHeap4
set_option linter.unusedVariables false
set_option linter.unusedSimpArgs false
namespace Go.Proofs.Ytkdpfbefdhjmcaa
open Go.ChangeShapes Go.WideShapes Go.ChangeAt Go.RowKit HeapP DistP
set_option maxRecDepth 100000 in
set_option maxHeartbeats 4000000 in
theorem pop4_at {w : World} {p : Nat} {A : Option Addr} {c : Nat} {x : It} {T : List It} (h : H4 w p A c (x :: T)) :
    Calls Try.prog 8 #[.pointer (some ⟨p, 0, none⟩)] w fun e w' => e = .returned (.tuple #[.agg #[.int .i64 x.1, .int .i64 x.2], .bool true]) ∧ (∃ A' c', H4 w' p A' c' T ∧ ∀ b o, A' = some ⟨b, o, none⟩ → ∃ o', A = some ⟨b, o', none⟩) ∧ Upd (fun b => b = p) w w' := by
  obtain ⟨b, o, rfl, hc⟩ := h.rd.cell (by simp)
  obtain ⟨hbp, hbs⟩ : b ≠ p ∧ b < w.heap.size := by
    rcases h.at_ with ⟨e, _⟩ | ⟨b', o', e, e1, e2⟩
    · cases e
    · injection e with e; injection e with e _ _; subst e; exact ⟨e1, e2⟩
  have c0 : w.cell? ⟨p, 0, none⟩ = some (.slice (some ⟨b, o, none⟩) (T.length + 1) c) := block_cell h.hd (j := 0) rfl
  have hps : p < w.heap.size := (Array.getElem?_eq_some_iff.1 h.hd).1
  obtain ⟨d0, d1⟩ := hc 0 (by simp)
  obtain ⟨x0, x1⟩ := x
  have d0' : w.cell? ⟨b, o, none⟩ = some (.int .i64 x0) := by have := d0; rw [Nat.zero_mul, Nat.add_zero] at this; exact this
  have d1' : w.cell? ⟨b, o + 1, none⟩ = some (.int .i64 x1) := by have := d1; rw [Nat.zero_mul, Nat.add_zero] at this; exact this
  have hb0 : Below w.heap.size w (w.alloc (.cells #[.int .i64 0, .int .i64 0] 38)) := bl_alloc (Below.refl _ _) _
  have hb1 : Below w.heap.size w ((w.alloc (.cells #[.int .i64 0, .int .i64 0] 38)).alloc (.cells #[.int .i64 x0, .int .i64 x1] 38)) := bl_alloc hb0 _
  have e0 := cell_below c0 hb0
  have e1 := cell_below c0 hb1
  have g0 := cell_below d0' hb0
  have g1 := cell_below d1' hb0
  have hq1 : ((w.alloc (.cells #[.int .i64 0, .int .i64 0] 38)).alloc (.cells #[.int .i64 x0, .int .i64 x1] 38)).heap[w.heap.size]? = some (.cells #[.int .i64 0, .int .i64 0] 38) := (heap_alloc_lt (by rw [size_alloc]; omega)).trans (pnew _ _)
  have hk1 := pnew (w.alloc (.cells #[.int .i64 0, .int .i64 0] 38)) (.cells #[.int .i64 x0, .int .i64 x1] 38)
  rw [size_alloc] at hk1
  have hp1 := (hb1.block p hps).trans h.hd
  have q0 := block_cell hq1 (j := 0) rfl
  have q1 := block_cell hq1 (j := 1) rfl
  have r0 := block_cell hk1 (j := 0) rfl
  have r1 := block_cell hk1 (j := 1) rfl
  have fq0 := block_fr hq1 0
  have fq1 := block_fr hq1 1
  have fp0 := block_fr hp1 0
  have hpr : p ≠ w.heap.size := by omega
  have hpr1 : p ≠ w.heap.size + 1 := by omega
  have hsz := h.rd.small
  simp only [List.length_cons] at hsz
  unfold maxLen at hsz
  have hcap := h.cap
  simp only [List.length_cons] at hcap
  have p1 : (1 : Int) ≤ ((T.length + 1 : Nat) : Int) := by omega
  have p2 : (1 : Int) ≤ (c : Int) := by omega
  have p3 : 1 ≤ c := by omega
  have p4 : ¬ c = 0 := by omega
  have p5 : (0 : Int) < ((T.length + 1 : Nat) : Int) := by omega
  have HP0 := Lib.hid h.hd
  have hcapH := Lib.hid hcap
  have HRD := Lib.hid h.rd
  clear h hc d0 d1 hcap d0' d1' hb0 hb1 hq1 hk1 hp1
  go_enter Try.func8, Try.ntmps8
  by_cases hc1 : c = 1
  · subst hc1
    go_wp2_with fail
    have hV := size_setCell w ⟨p, 0, none⟩ (.slice (some ⟨b, o, none⟩) T.length 0)
    have hq : (((w.setCell ⟨p, 0, none⟩ (.slice (some ⟨b, o, none⟩) T.length 0)).alloc (.cells #[.int .i64 x0, .int .i64 x1] 38)).alloc (.cells #[.int .i64 x0, .int .i64 x1] 38)).heap[w.heap.size]? = some (.cells #[.int .i64 x0, .int .i64 x1] 38) :=
      (heap_alloc_lt (by rw [size_alloc, hV]; omega)).trans (by have := pnew (w.setCell ⟨p, 0, none⟩ (.slice (some ⟨b, o, none⟩) T.length 0)) (.cells #[.int .i64 x0, .int .i64 x1] 38); rw [hV] at this; exact this)
    have z0 := block_cell hq (j := 0) rfl
    have z1 := block_cell hq (j := 1) rfl
    have hu : Upd (fun b => b = p) w (((w.setCell ⟨p, 0, none⟩ (.slice (some ⟨b, o, none⟩) T.length 0)).alloc (.cells #[.int .i64 x0, .int .i64 x1] 38)).alloc (.cells #[.int .i64 x0, .int .i64 x1] 38)) :=
      upd_alloc (upd_alloc (upd_setCell (F := fun b => b = p) (a := ⟨p, 0, none⟩) (Upd.refl _ _) rfl _) _) _
    refine bodyPost_ret (v := .tuple #[.agg #[.int .i64 x0, .int .i64 x1], .bool true]) (by simp [results, Try.results8, go_sem, z0, z1]) rfl ⟨rfl, ⟨(some ⟨b, o, none⟩), 0, ⟨?_, ?_, ?_, ?_⟩, ?_⟩, hu⟩
    · exact (heap_alloc_lt (by rw [size_alloc, hV]; omega)).trans ((heap_alloc_lt (by rw [hV]; exact hps)).trans (block_set HP0.out 0 _))
    · exact (HRD.out.restP (j := 1) (by simp) 0 (fun b' o' hj e => by (have := hcapH.out; simp at hj; omega))).updP hu (fun b' o' e => by injection e with e; injection e with e _ _; subst e; exact hbp)
    · have := hcapH.out; omega
    · exact .inr ⟨b, _, rfl, hbp, Nat.lt_of_lt_of_le hbs hu.size⟩
    · exact fun b' o' e => by injection e with e; injection e with e _ _; exact ⟨o, by rw [e]⟩
  · have HC1 := Lib.hid hc1
    go_wp2_with fail
    have hV := size_setCell w ⟨p, 0, none⟩ (.slice (some ⟨b, o+2, none⟩) T.length (c-1))
    have hq : (((w.setCell ⟨p, 0, none⟩ (.slice (some ⟨b, o+2, none⟩) T.length (c-1))).alloc (.cells #[.int .i64 x0, .int .i64 x1] 38)).alloc (.cells #[.int .i64 x0, .int .i64 x1] 38)).heap[w.heap.size]? = some (.cells #[.int .i64 x0, .int .i64 x1] 38) :=
      (heap_alloc_lt (by rw [size_alloc, hV]; omega)).trans (by have := pnew (w.setCell ⟨p, 0, none⟩ (.slice (some ⟨b, o+2, none⟩) T.length (c-1))) (.cells #[.int .i64 x0, .int .i64 x1] 38); rw [hV] at this; exact this)
    have z0 := block_cell hq (j := 0) rfl
    have z1 := block_cell hq (j := 1) rfl
    have hu : Upd (fun b => b = p) w (((w.setCell ⟨p, 0, none⟩ (.slice (some ⟨b, o+2, none⟩) T.length (c-1))).alloc (.cells #[.int .i64 x0, .int .i64 x1] 38)).alloc (.cells #[.int .i64 x0, .int .i64 x1] 38)) :=
      upd_alloc (upd_alloc (upd_setCell (F := fun b => b = p) (a := ⟨p, 0, none⟩) (Upd.refl _ _) rfl _) _) _
    refine bodyPost_ret (v := .tuple #[.agg #[.int .i64 x0, .int .i64 x1], .bool true]) (by simp [results, Try.results8, go_sem, z0, z1]) rfl ⟨rfl, ⟨(some ⟨b, o+2, none⟩), (c-1), ⟨?_, ?_, ?_, ?_⟩, ?_⟩, hu⟩
    · exact (heap_alloc_lt (by rw [size_alloc, hV]; omega)).trans ((heap_alloc_lt (by rw [hV]; exact hps)).trans (block_set HP0.out 0 _))
    · exact (HRD.out.restP (j := 1) (by simp) (c-1) (fun b' o' hj e => by (injection e with e; injection e with e1 e2 _; subst e1 e2; rfl))).updP hu (fun b' o' e => by injection e with e; injection e with e _ _; subst e; exact hbp)
    · have := hcapH.out; omega
    · exact .inr ⟨b, _, rfl, hbp, Nat.lt_of_lt_of_le hbs hu.size⟩
    · exact fun b' o' e => by injection e with e; injection e with e _ _; exact ⟨o, by rw [e]⟩
end Go.Proofs.Ytkdpfbefdhjmcaa
