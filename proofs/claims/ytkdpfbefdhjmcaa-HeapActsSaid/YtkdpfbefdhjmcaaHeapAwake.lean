/- What the laws of the heap hold fixed. -/
import Derived.Test.YtkdpfbefdhjmcaaHeapAt
set_option linter.unusedVariables false
set_option linter.unusedSimpArgs false
namespace Go.Proofs.Ytkdpfbefdhjmcaa
open Go.RowKit Go.Maps Go.ChangeMaps Go.MapKept HeapP DistP
theorem heapAt_new (w : World) : HeapAt (w.alloc (.cells #[.slice none 0 0, .map none] 28)) w.heap.size [w.heap.size] [] := .inl ⟨rfl, rfl, heap_alloc_eq _ _⟩
set_option maxRecDepth 100000 in
set_option maxHeartbeats 4000000 in
theorem awake4 (w : World) : Calls Try.prog 6 #[] w fun e w' => e = .returned (.bool true) ∧ Below w.heap.size w w' := by
  have p1 : pushB [] (5, 9) = true := by decide
  have p2 : pushB [(5, 9)] (5, 3) = true := by decide
  have p3 : pushB [(5, 3)] (5, 7) = false := by decide
  go_enter Try.func6, Try.ntmps6
  go_wp2_with fail
  have H0 := Lib.hid (heapAt_new w)
  refine (push_at (id := 5) (key := 9) H0.out ⟨by decide, by decide⟩ (by decide)).mono ?_
  rintro e w1 ⟨rfl, fp1, h1, f1, u1⟩
  rw [show pushF [] (5, 9) = [(5, 9)] by decide] at h1
  have H1 := Lib.hid h1
  have F1 := Lib.hid f1
  have U1 := Lib.hid u1
  clear h1 f1 u1
  go_wp2_with fail
  refine (push_at (id := 5) (key := 3) H1.out ⟨by decide, by decide⟩ (by decide)).mono ?_
  rintro e w2 ⟨rfl, fp2, h2, f2, u2⟩
  rw [show pushF [(5, 9)] (5, 3) = [(5, 3)] by decide] at h2
  have H2 := Lib.hid h2
  have F2 := Lib.hid f2
  have U2 := Lib.hid u2
  clear h2 f2 u2
  go_wp2_with fail
  refine (push_at (id := 5) (key := 7) H2.out ⟨by decide, by decide⟩ (by decide)).mono ?_
  rintro e w3 ⟨rfl, fp3, h3, f3, u3⟩
  rw [show pushF [(5, 3)] (5, 7) = [(5, 3)] by decide] at h3
  have H3 := Lib.hid h3
  have F3 := Lib.hid f3
  have U3 := Lib.hid u3
  clear h3 f3 u3
  go_wp2_with fail
  refine (push_at (id := 2) (key := 3) H3.out ⟨by decide, by decide⟩ (by decide)).mono ?_
  rintro e w4 ⟨rfl, fp4, h4, f4, u4⟩
  rw [show pushF [(5, 3)] (2, 3) = [(2, 3), (5, 3)] by decide] at h4
  have H4 := Lib.hid h4
  have F4 := Lib.hid f4
  have U4 := Lib.hid u4
  clear h4 f4 u4
  go_wp2_with fail
  refine (key_at (x := (5, 3)) H4.out (by simp)).mono ?_
  rintro e w5 ⟨rfl, rfl⟩
  go_wp2_with fail
  refine (pop_at H4.out (by decide)).mono ?_
  rintro e w5 ⟨rfl, h5, u5⟩
  have H5 := Lib.hid h5
  have U5 := Lib.hid u5
  clear h5 u5
  go_wp2_with fail
  have HN := Lib.hid (heapAt_new w5)
  refine (pop_at_nil HN.out).mono ?_
  rintro e w6 ⟨rfl, rfl⟩
  go_wp2_with fail
  refine (pop_nil _).mono ?_
  rintro e w6 ⟨rfl, rfl⟩
  have H6 : Hid (HeapAt (w5.alloc (.cells #[.slice none 0 0, .map none] 28)) w.heap.size fp4 [(5, 3)]) := Lib.hid (H5.out.below (bl_alloc (Below.refl _ _) _))
  go_wp2_with (first | (go_at_call 13; refine (len_at H6.out).mono ?_; rintro e w7 ⟨rfl, rfl⟩) | (go_at_call 9; refine (push_nil _ _ _).mono ?_; rintro e w7 ⟨rfl, rfl⟩))
  go_ret
  refine ⟨rfl, ?_⟩
  have hs1 := U1.out.size
  rw [size_alloc] at hs1
  have e0 : Below w.heap.size w (w.alloc (.cells #[.slice none 0 0, .map none] 28)) := bl_alloc (Below.refl _ _) _
  have g1 : ∀ k ∈ fp1, w.heap.size ≤ k := fun k hk => (F1.out k hk).elim (fun e => by rw [List.mem_singleton.1 e]; exact Nat.le_refl _) (fun e => by rw [size_alloc] at e; omega)
  have hs2 := U2.out.size
  have g2 : ∀ k ∈ fp2, w.heap.size ≤ k := fun k hk => (F2.out k hk).elim (g1 k) (fun e => by omega)
  have hs3 := U3.out.size
  have g3 : ∀ k ∈ fp3, w.heap.size ≤ k := fun k hk => (F3.out k hk).elim (g2 k) (fun e => by omega)
  have hs4 := U4.out.size
  have g4 : ∀ k ∈ fp4, w.heap.size ≤ k := fun k hk => (F4.out k hk).elim (g3 k) (fun e => by omega)
  have b1 : Below w.heap.size w w1 := e0.trans (U1.out.below (by rw [size_alloc]; omega) (fun k hk e => by rw [List.mem_singleton.1 e] at hk; omega))
  have b2 := b1.trans (U2.out.below (by omega) (fun k hk e => by have := g1 k e; omega))
  have b3 := b2.trans (U3.out.below (by omega) (fun k hk e => by have := g2 k e; omega))
  have b4 := b3.trans (U4.out.below (by omega) (fun k hk e => by have := g3 k e; omega))
  have b5 := b4.trans (U5.out.below (by omega) (fun k hk e => by have := g4 k e; omega))
  exact bl_alloc b5 _
end Go.Proofs.Ytkdpfbefdhjmcaa
