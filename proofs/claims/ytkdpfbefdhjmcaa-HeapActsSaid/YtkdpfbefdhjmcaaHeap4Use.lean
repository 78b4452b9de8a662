/- milepostref4.Heap.Push, whatever is there. -/
import Derived.Test.YtkdpfbefdhjmcaaHeap4New
import Derived.Test.YtkdpfbefdhjmcaaHeap4LessA
import Derived.Test.YtkdpfbefdhjmcaaHeap4LessB
set_option linter.unusedVariables false
set_option linter.unusedSimpArgs false
namespace Go.Proofs.Ytkdpfbefdhjmcaa
open Go.ChangeShapes Go.WideShapes Go.ChangeAt Go.RowKit HeapP DistP
set_option maxRecDepth 100000 in
set_option maxHeartbeats 4000000 in
theorem push4_same {w : World} {p : Nat} {A : Option Addr} {c : Nat} {S : List It} (h : H4 w p A c S) {id key : Int} (hsm : S.length ≤ 1099511627776) (hf : findN S id < S.length) (hlo : ¬ key < (g S (findN S id)).2) :
    Calls Try.prog 10 #[.pointer (some ⟨p, 0, none⟩), .int .i64 id, .int .i64 key] w fun e w' => e = .returned (.bool (pushB S (id, key))) ∧ w = w' := by
  have hfi := find4_at h id
  rw [show findI S id = (findN S id : Nat) by unfold findI; rw [if_pos hf]] at hfi
  have hp1 := push4_kept (key := key) hf (by omega)
  obtain ⟨b, o, rfl, hc⟩ := h.rd.cell (by omega)
  obtain ⟨_, d1⟩ := hc _ hf
  have c0 : w.cell? ⟨p, 0, none⟩ = some (.slice (some ⟨b, o, none⟩) S.length c) := block_cell h.hd (j := 0) rfl
  have hgk : (g S (findN S id)).2 = (S.getD (findN S id) (0, 0)).2 := rfl
  rw [hgk] at hlo
  obtain ⟨K, hK⟩ : ∃ K, K = (S.getD (findN S id) (0, 0)).2 := ⟨_, rfl⟩
  rw [← hK] at hlo d1
  obtain ⟨i, hi⟩ : ∃ i, i = findN S id := ⟨_, rfl⟩
  rw [← hi] at hfi d1 hf
  have t0 : decide (K ≤ key) = true := decide_eq_true (by omega)
  have i0 : (0 : Int) ≤ (i : Int) := by omega
  have i1 : (i : Int) < (S.length : Int) := by omega
  have HFI := Lib.hid hfi
  have HP := Lib.hid hp1
  clear h hc hgk hK hi hfi hp1 hf hlo
  go_enter Try.func10, Try.ntmps10
  go_wp2_with fail
  refine HFI.out.mono ?_
  rintro e w1 ⟨rfl, rfl⟩
  go_wp2_with fail
  go_ret
  exact ⟨ret_bool HP.out.symm, rfl⟩
theorem push4_at {w : World} {p : Nat} {A : Option Addr} {c : Nat} {S : List It} (h : H4 w p A c S) (hso : Sorted S) (hun : Uniq S) {id key : Int} (hx : Wf (id, key)) (hsm : S.length ≤ 1099511627776) :
    Calls Try.prog 10 #[.pointer (some ⟨p, 0, none⟩), .int .i64 id, .int .i64 key] w fun e w' => e = .returned (.bool (pushB S (id, key))) ∧ (∃ A' c', H4 w' p A' c' (pushF S (id, key)) ∧ ∀ b o, A' = some ⟨b, o, none⟩ → (∃ o', A = some ⟨b, o', none⟩) ∨ w.heap.size ≤ b) ∧ Upd (fun b => b = p) w w' := by
  by_cases hf : findN S id < S.length
  · by_cases hlo : key < (g S (findN S id)).2
    · by_cases hcj : c = findN S id + 1
      · exact push4_lessA h hso hun hx hsm hf hlo hcj
      · exact push4_lessB h hso hun hx hsm hf hlo hcj
    · refine (push4_same h hsm hf hlo).mono ?_
      rintro e w' ⟨rfl, rfl⟩
      refine ⟨rfl, ⟨A, c, ?_, fun b o e => .inl ⟨o, e⟩⟩, Upd.refl _ _⟩
      rw [pushF_not (push4_kept hf (by omega))]
      exact h
  · exact push4_new h hx hsm hf
end Go.Proofs.Ytkdpfbefdhjmcaa
