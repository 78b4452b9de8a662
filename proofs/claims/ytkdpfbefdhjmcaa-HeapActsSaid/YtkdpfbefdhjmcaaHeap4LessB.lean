/- milepostref4.Heap.Push: a number that is there, with a lesser key. -/
import Derived.Test.YtkdpfbefdhjmcaaHeap4
set_option linter.unusedVariables false
set_option linter.unusedSimpArgs false
namespace Go.Proofs.Ytkdpfbefdhjmcaa
open Go.ChangeShapes Go.WideShapes Go.ChangeAt Go.RowKit HeapP DistP
set_option maxRecDepth 100000 in
set_option maxHeartbeats 32000000 in
theorem push4_lessB {w : World} {p : Nat} {A : Option Addr} {c : Nat} {S : List It} (h : H4 w p A c S) (hso : Sorted S) (hun : Uniq S) {id key : Int} (hx : Wf (id, key)) (hsm : S.length ≤ 1099511627776) (hf : findN S id < S.length) (hlo : key < (g S (findN S id)).2) (hcj : ¬ c = findN S id + 1) :
    Calls Try.prog 10 #[.pointer (some ⟨p, 0, none⟩), .int .i64 id, .int .i64 key] w fun e w' => e = .returned (.bool (pushB S (id, key))) ∧ (∃ A' c', H4 w' p A' c' (pushF S (id, key)) ∧ ∀ b o, A' = some ⟨b, o, none⟩ → (∃ o', A = some ⟨b, o', none⟩) ∨ w.heap.size ≤ b) ∧ Upd (fun b => b = p) w w' := by
  have hfi := find4_at h id
  have hps : p < w.heap.size := (Array.getElem?_eq_some_iff.1 h.hd).1
  have HX := Lib.hid hx
  have HWF := Lib.hid h.rd.wf
  obtain ⟨iK, hiK⟩ := infoK
  have II := Lib.hid hiK
  have hfe : findI S id = (findN S id : Nat) := by unfold findI; rw [if_pos hf]
  rw [hfe] at hfi
  obtain ⟨hp1, hp2⟩ := push4_lower (key := key) hso hun hf hlo
  obtain ⟨b, o, rfl, hc⟩ := h.rd.cell (by omega)
  obtain ⟨d0, d1⟩ := hc _ hf
  have HH := Lib.hid h
  have c0 : w.cell? ⟨p, 0, none⟩ = some (.slice (some ⟨b, o, none⟩) S.length c) := block_cell h.hd (j := 0) rfl
  have hgk : (g S (findN S id)).2 = (S.getD (findN S id) (0, 0)).2 := rfl
  rw [hgk] at hlo
  have hcap := h.cap
  obtain ⟨K, hK⟩ : ∃ K, K = (S.getD (findN S id) (0, 0)).2 := ⟨_, rfl⟩
  rw [← hK] at hlo d1
  obtain ⟨i, hi⟩ : ∃ i, i = findN S id := ⟨_, rfl⟩
  rw [← hi] at hfi hp2 d1 hf hcj
  obtain ⟨n, hn⟩ : ∃ n, n = S.length := ⟨_, rfl⟩
  rw [← hn] at c0 hf hsm hcap
  obtain ⟨j1, hj1⟩ : ∃ j1, j1 = i + 1 := ⟨_, rfl⟩
  rw [← hj1] at hcj
  have t0 : decide (K ≤ key) = false := decide_eq_false (by omega)
  have i0 : (0 : Int) ≤ (i : Int) := by omega
  have i1 : (i : Int) < (n : Int) := by omega
  have i2 : (i : Int) ≤ (c : Int) := by omega
  have i3 : i ≤ c := by omega
  have e1 : IntKind.i64.wrap ((i : Int) + 1) = (j1 : Int) := by rw [IntWalk.i64_in _ (by omega)]; omega
  have e2 : (0 : Int) ≤ (j1 : Int) := by omega
  have e3 : (j1 : Int) ≤ (n : Int) := by omega
  have e4 : (j1 : Int) ≤ (c : Int) := by omega
  have e5 : j1 ≤ c := by omega
  have e6 : ¬ c = 0 := by omega
  have HC : Hid (∀ w', Below w.heap.size w w' → w'.cell? ⟨p, 0, none⟩ = some (.slice (some ⟨b, o, none⟩) n c)) := Lib.hid fun w' hb => cell_below c0 hb
  have hbd : Below w.heap.size w w.drew := bl_drew (Below.refl _ _)
  have HCD : Hid (w.drew.cell? ⟨p, 0, none⟩ = some (.slice (some ⟨b, o, none⟩) n c)) := Lib.hid (HC.out _ hbd)
  have HE := Lib.hid (R4.build (V := w) hbd)
  have hrd := h.rd
  rw [← hn] at hrd
  have HS1 : Hid (Src (w.drew.alloc (.cells #[] 38)) 2 (some ⟨b, o, none⟩) i (flat2 (S.take i))) := Lib.hid ((Src.ofP (hrd.frontP (by omega) c)).below (bl_alloc (bl_drew (Below.refl _ _)) _))
  have HL1 : Hid (0 + i ≤ maxLen ∧ (0 + i) * 16 ≤ 140737488355328) := Lib.hid ⟨by unfold maxLen; omega, by omega⟩
  have HRD := Lib.hid hrd
  have HP := Lib.hid hp1
  have HP2 := Lib.hid hp2
  have HI := Lib.hid hi
  have HN := Lib.hid hn
  have HJ := Lib.hid hj1
  have HFI := Lib.hid hfi
  have HCAP := Lib.hid hcap
  clear h hc d0 hgk hK hi hn hj1 hrd hp1 hp2 hfe hbd hfi hcap hx hiK
  go_enter Try.func10, Try.ntmps10
  go_wp2_with fail
  refine HFI.out.mono ?_
  rintro e w1 ⟨rfl, rfl⟩
  have HA2 : Hid (∀ b' o', j1 < n → some (⟨b, o, none⟩ : Addr) = some ⟨b', o', none⟩ → some (⟨b, o + j1 * 2, none⟩ : Addr) = some ⟨b', o' + j1 * 2, none⟩) := Lib.hid (fun b' o' _ e => by injection e with e; injection e with e1 e2 _; subst e1 e2; rfl)
  go_wp2_with fail
  refine wp_regionL (S := fun w' => w'.cell? ⟨p, 0, none⟩ = some (.slice (some ⟨b, o, none⟩) n c)) 19 (by kernel_rfl) HCD.out (fun hHeld => ?_)
  refine anyL_take (i := 0) (v := ?_) rfl (by kernel_rfl) (by kernel_rfl) (by kernel_rfl) (by kernel_rfl) (fun _ _ _ h => h) (Or.inl ⟨by rfl, ?_⟩) (by assumption) ?_
  rotate_left
  · intro w hSw; (try dsimp only at hSw); go_simp <;> with_reducible rfl
  (try simp only [Act.put, List.setIfInBounds_toArray, List.set_cons_zero, List.set_cons_succ, List.getElem_toArray, List.getElem_cons_succ, List.getElem_cons_zero])
  refine anyL_take (i := 2) (v := ?_) rfl (by kernel_rfl) (by kernel_rfl) (by kernel_rfl) (by kernel_rfl) (fun _ _ _ h => h) (Or.inl ⟨by rfl, ?_⟩) (by assumption) ?_
  rotate_left
  · intro w hSw; (try dsimp only at hSw); go_simp <;> with_reducible rfl
  (try simp only [Act.put, List.setIfInBounds_toArray, List.set_cons_zero, List.set_cons_succ, List.getElem_toArray, List.getElem_cons_succ, List.getElem_cons_zero])
  refine anyL_take (i := 3) (v := ?_) rfl (by kernel_rfl) (by kernel_rfl) (by kernel_rfl) (by kernel_rfl) (fun _ _ _ h => h) (Or.inl ⟨by rfl, ?_⟩) (by assumption) ?_
  rotate_left
  · intro w hSw; (try dsimp only at hSw); go_simp <;> with_reducible rfl
  (try simp only [Act.put, List.setIfInBounds_toArray, List.set_cons_zero, List.set_cons_succ, List.getElem_toArray, List.getElem_cons_succ, List.getElem_cons_zero])
  refine anyL_take (i := 4) (v := ?_) rfl (by kernel_rfl) (by kernel_rfl) (by kernel_rfl) (by kernel_rfl) (fun _ _ _ h => h) (Or.inl ⟨by rfl, ?_⟩) (by assumption) ?_
  rotate_left
  · intro w hSw; (try dsimp only at hSw); go_simp <;> with_reducible rfl
  (try simp only [Act.put, List.setIfInBounds_toArray, List.set_cons_zero, List.set_cons_succ, List.getElem_toArray, List.getElem_cons_succ, List.getElem_cons_zero])
  refine anyL_take (i := 5) (v := ?_) rfl (by kernel_rfl) (by kernel_rfl) (by kernel_rfl) (by kernel_rfl) (fun _ _ _ h => h) (Or.inl ⟨by rfl, ?_⟩) (by assumption) ?_
  rotate_left
  · intro w hSw; (try dsimp only at hSw); go_simp <;> with_reducible rfl
  (try simp only [Act.put, List.setIfInBounds_toArray, List.set_cons_zero, List.set_cons_succ, List.getElem_toArray, List.getElem_cons_succ, List.getElem_cons_zero])
  refine anyL_take (i := 6) (v := ?_) rfl (by kernel_rfl) (by kernel_rfl) (by kernel_rfl) (by kernel_rfl) (fun _ _ _ h => h) (Or.inl ⟨by rfl, ?_⟩) (by assumption) ?_
  rotate_left
  · intro w hSw; (try dsimp only at hSw); go_simp <;> with_reducible rfl
  (try simp only [Act.put, List.setIfInBounds_toArray, List.set_cons_zero, List.set_cons_succ, List.getElem_toArray, List.getElem_cons_succ, List.getElem_cons_zero])
  refine anyL_take (i := 7) (v := ?_) rfl (by kernel_rfl) (by kernel_rfl) (by kernel_rfl) (by kernel_rfl) (fun _ _ _ h => h) (Or.inl ⟨by rfl, ?_⟩) (by assumption) ?_
  rotate_left
  · intro w hSw; (try dsimp only at hSw); go_simp <;> with_reducible rfl
  (try simp only [Act.put, List.setIfInBounds_toArray, List.set_cons_zero, List.set_cons_succ, List.getElem_toArray, List.getElem_cons_succ, List.getElem_cons_zero])
  refine anyL_take (i := 9) (v := ?_) rfl (by kernel_rfl) (by kernel_rfl) (by kernel_rfl) (by kernel_rfl) (fun _ _ _ h => h) (Or.inl ⟨by rfl, ?_⟩) (by assumption) ?_
  rotate_left
  · intro w hSw; (try dsimp only at hSw); go_simp <;> with_reducible rfl
  (try simp only [Act.put, List.setIfInBounds_toArray, List.set_cons_zero, List.set_cons_succ, List.getElem_toArray, List.getElem_cons_succ, List.getElem_cons_zero])
  refine anyL_take (i := 10) (v := ?_) rfl (by kernel_rfl) (by kernel_rfl) (by kernel_rfl) (by kernel_rfl) (fun _ _ _ h => h) (Or.inl ⟨by rfl, ?_⟩) (by assumption) ?_
  rotate_left
  · intro w hSw; (try dsimp only at hSw); go_simp <;> with_reducible rfl
  (try simp only [Act.put, List.setIfInBounds_toArray, List.set_cons_zero, List.set_cons_succ, List.getElem_toArray, List.getElem_cons_succ, List.getElem_cons_zero])
  refine anyL_take (i := 11) (v := ?_) rfl (by kernel_rfl) (by kernel_rfl) (by kernel_rfl) (by kernel_rfl) (fun _ _ _ h => h) (Or.inl ⟨by rfl, ?_⟩) (by assumption) ?_
  rotate_left
  · intro w hSw; (try dsimp only at hSw); go_simp <;> with_reducible rfl
  (try simp only [Act.put, List.setIfInBounds_toArray, List.set_cons_zero, List.set_cons_succ, List.getElem_toArray, List.getElem_cons_succ, List.getElem_cons_zero])
  refine anyL_take (i := 12) (v := ?_) rfl (by kernel_rfl) (by kernel_rfl) (by kernel_rfl) (by kernel_rfl) (fun _ _ _ h => h) (Or.inl ⟨by rfl, ?_⟩) (by assumption) ?_
  rotate_left
  · intro w hSw; (try dsimp only at hSw); go_simp <;> with_reducible rfl
  (try simp only [Act.put, List.setIfInBounds_toArray, List.set_cons_zero, List.set_cons_succ, List.getElem_toArray, List.getElem_cons_succ, List.getElem_cons_zero])
  refine anyL_take (i := 13) (v := ?_) rfl (by kernel_rfl) (by kernel_rfl) (by kernel_rfl) (by kernel_rfl) (fun _ _ _ h => h) (Or.inl ⟨by rfl, ?_⟩) (by assumption) ?_
  rotate_left
  · intro w hSw; (try dsimp only at hSw); go_simp <;> with_reducible rfl
  (try simp only [Act.put, List.setIfInBounds_toArray, List.set_cons_zero, List.set_cons_succ, List.getElem_toArray, List.getElem_cons_succ, List.getElem_cons_zero])
  refine anyL_take (i := 14) (v := ?_) rfl (by kernel_rfl) (by kernel_rfl) (by kernel_rfl) (by kernel_rfl) (fun _ _ _ h => h) (Or.inl ⟨by rfl, ?_⟩) (by assumption) ?_
  rotate_left
  · intro w hSw; (try dsimp only at hSw); go_simp <;> with_reducible rfl
  (try simp only [Act.put, List.setIfInBounds_toArray, List.set_cons_zero, List.set_cons_succ, List.getElem_toArray, List.getElem_cons_succ, List.getElem_cons_zero])
  refine anyL_take (i := 15) (v := ?_) rfl (by kernel_rfl) (by kernel_rfl) (by kernel_rfl) (by kernel_rfl) (fun _ _ _ h => h) (Or.inl ⟨by rfl, ?_⟩) (by assumption) ?_
  rotate_left
  · intro w hSw; (try dsimp only at hSw); go_simp <;> with_reducible rfl
  (try simp only [Act.put, List.setIfInBounds_toArray, List.set_cons_zero, List.set_cons_succ, List.getElem_toArray, List.getElem_cons_succ, List.getElem_cons_zero])
  refine anyL_ready (rs := [1]) (by kernel_rfl) (by simp) ?_
  refine AllL.cons rfl (fun K hK => ?_) AllL.nil
  go_simp
  have hHeld := (HC.out _ HE.out.bl)
  refine hK.out _ _ (fun _ => hHeld) ?_
  clear hK K
  (try simp only [Act.put, List.setIfInBounds_toArray, List.set_cons_zero, List.set_cons_succ, List.getElem_toArray, List.getElem_cons_succ, List.getElem_cons_zero])
  refine anyL_ready (rs := [8]) (by kernel_rfl) (by simp) ?_
  refine AllL.cons rfl (fun K hK => ?_) AllL.nil
  refine step_push (by rfl) (.tmp 25) (.tmp 31) 30 (by rfl) w.heap.size 38 Try.underlying30 II.out ⟨rfl, by decide⟩ _ 0 (flat2 []) (by rfl) HE.out.row (some ⟨b, o, none⟩) i c _ (by rfl) HS1.out HL1.out HE.out.bl.size ?_
  intro v1 u1 hgr
  have hr := HE.out.push hgr
  have HR1 := Lib.hid hr
  have HS2 : Hid (Src u1 2 (some ⟨b, o+j1*2, none⟩) (n - j1) (flat2 (S.drop j1))) := Lib.hid ((Src.ofP (HRD.out.restP (j := j1) (A' := (some ⟨b, o+j1*2, none⟩)) (by have := HJ.out; omega) (c-j1) HA2.out)).below hr.bl)
  have HL2 : Hid (0 + i + (n - j1) ≤ maxLen ∧ (0 + i + (n - j1)) * 16 ≤ 140737488355328) := Lib.hid ⟨by unfold maxLen; omega, by omega⟩
  clear hr hgr
  have hHeld := (HC.out _ HR1.out.bl)
  refine hK.out _ _ (fun _ => hHeld) ?_
  clear hK K
  (try simp only [Act.put, List.setIfInBounds_toArray, List.set_cons_zero, List.set_cons_succ, List.getElem_toArray, List.getElem_cons_succ, List.getElem_cons_zero])
  refine anyL_ready (rs := [16]) (by kernel_rfl) (by simp) ?_
  refine AllL.cons rfl (fun K hK => ?_) AllL.nil
  refine step_push (by rfl) (.tmp 32) (.tmp 39) 30 (by rfl) w.heap.size 38 Try.underlying30 II.out ⟨rfl, by decide⟩ v1 (0+i) (flat2 ([] ++ List.take i S)) (by rfl) HR1.out.row (some ⟨b, o+j1*2, none⟩) (n-j1) (c-j1) _ (by rfl) HS2.out HL2.out HR1.out.bl.size ?_
  intro v2 u2 hgr
  have hr := HR1.out.push hgr
  have HR2 := Lib.hid hr
  obtain ⟨at5, ct, hv5⟩ := hgr.val
  have hrow := hr.row
  have hpu := (hr.bl.block p hps).trans HH.out.hd
  rw [← HN.out] at hpu
  obtain ⟨m5, hm5⟩ : ∃ m5, m5 = 0 + i + (n - j1) := ⟨_, rfl⟩
  rw [← hm5] at hv5 hrow
  subst hv5
  rw [List.nil_append] at hrow
  have P2 := block_cell hpu (j := 0) rfl
  have F2 := block_fr hpu 0
  obtain ⟨ST, hST⟩ : ∃ ST, ST = S.take i ++ S.drop j1 := ⟨_, rfl⟩
  rw [← hST] at hrow
  have hln : ST.length = m5 := by
    have := HN.out
    have := HJ.out
    rw [hST, hm5, List.length_append, List.length_take, List.length_drop]; omega
  have hwf5 : ∀ y ∈ ST, Wf y := fun y hy => by
    rw [hST] at hy
    rcases List.mem_append.1 hy with h1 | h1
    · exact HWF.out y (List.mem_of_mem_take h1)
    · exact HWF.out y (List.mem_of_mem_drop h1)
  have hor := H4.of_row hrow hln (by unfold maxLen; omega) hps hwf5 hpu
  have HT0 := Lib.hid hor.1
  have HU0 : Hid (Upd (fun b => b = p) w (u2.setCell ⟨p, 0, none⟩ (.slice at5 m5 ct))) := Lib.hid (upd_setCell (F := fun b => b = p) (a := ⟨p, 0, none⟩) (Upd.of_below hr.bl) rfl _)
  have HPF : Hid (pushF S (id, key) = ins (id, key) ST) := Lib.hid (by rw [hST, HJ.out]; exact HP2.out)
  have HN5 : Hid (m5 = ST.length) := Lib.hid hln.symm
  have hn : m5 ≤ 1099511627776 := by have := HJ.out; omega
  clear hgr hr hrow hpu hm5 hST hln hwf5 hor
  have hHeld := (HC.out _ HR2.out.bl)
  refine hK.out _ _ (fun _ => hHeld) ?_
  clear hK K
  (try simp only [Act.put, List.setIfInBounds_toArray, List.set_cons_zero, List.set_cons_succ, List.getElem_toArray, List.getElem_cons_succ, List.getElem_cons_zero])
  refine anyL_take (i := 17) (v := ?_) rfl (by kernel_rfl) (by kernel_rfl) (by kernel_rfl) (by kernel_rfl) (fun _ _ _ h => h) (Or.inl ⟨by rfl, ?_⟩) (by assumption) ?_
  rotate_left
  · intro w hSw; (try dsimp only at hSw); go_simp <;> with_reducible rfl
  (try simp only [Act.put, List.setIfInBounds_toArray, List.set_cons_zero, List.set_cons_succ, List.getElem_toArray, List.getElem_cons_succ, List.getElem_cons_zero])
  refine anyL_take (i := 18) (v := ?_) rfl (by kernel_rfl) (by kernel_rfl) (by kernel_rfl) (by kernel_rfl) (fun _ _ _ h => h) (Or.inl ⟨by rfl, ?_⟩) (by assumption) ?_
  rotate_left
  · intro w hSw; (try dsimp only at hSw); go_simp <;> with_reducible rfl
  (try simp only [Act.put, List.setIfInBounds_toArray, List.set_cons_zero, List.set_cons_succ, List.getElem_toArray, List.getElem_cons_succ, List.getElem_cons_zero])
  refine anyL_ready (rs := [19]) (by kernel_rfl) (by simp) ?_
  refine AllL.cons rfl (fun K hK => ?_) AllL.nil
  go_simp
  refine hK.out _ _ (fun h => absurd rfl h) ?_
  clear hK K
  (try simp only [Act.put, List.setIfInBounds_toArray, List.set_cons_zero, List.set_cons_succ, List.getElem_toArray, List.getElem_cons_succ, List.getElem_cons_zero])
  refine anyL_done (by kernel_rfl) ?_ _
  obtain ⟨wt, hwt⟩ : ∃ wt, wt = u2.setCell ⟨p, 0, none⟩ (.slice at5 m5 ct) := ⟨_, rfl⟩
  have HT : Hid (H4 wt p at5 ct ST) := Lib.hid (by rw [hwt]; exact HT0.out)
  have HU : Hid (Upd (fun b => b = p) w wt) := Lib.hid (by rw [hwt]; exact HU0.out)
  have HPS : Hid (p < wt.heap.size) := Lib.hid (Nat.lt_of_lt_of_le hps HU.out.size)
  rw [← hwt]
  obtain ⟨n5, hn5⟩ : ∃ n5, n5 = m5 := ⟨_, rfl⟩
  rw [← hn5] at HN5 hn
  clear P2 F2 hn5 HT0 HU0 hwt HR2 HR1 HS1 HS2 HL1 HL2 HE HCD HC hHeld c0 d1 i0 i1 i2 i3 e1 e2 e3 e4 e5 e6 t0
  have t1 : wt.cell? ⟨p, 0, none⟩ = some (.slice at5 n5 ct) := by rw [HN5.out]; exact block_cell HT.out.hd (j := 0) rfl
  have HRT : Hid (ReadsP wt at5 n5 ct ST) := Lib.hid (by rw [HN5.out]; exact HT.out.rd)
  have hcap5 : n5 ≤ ct := by rw [HN5.out]; exact HT.out.cap.1
  have hct : ct ≤ 9223372036854775807 := by have := HT.out.cap.2; unfold maxLen at this; omega
  have HC9 : Hid (∀ w', Below wt.heap.size wt w' → w'.cell? ⟨p, 0, none⟩ = some (.slice at5 n5 ct)) := Lib.hid fun w' hb => cell_below t1 hb
  have T1 := Lib.hid t1
  go_wp2_with fail
  go_loopg [8] n5 (fun M u wr => ∃ k : Nat, M = n5 - k ∧ k ≤ n5 ∧ u = .int .i64 (k : Nat) ∧ (∀ j, j < k → HeapP.ahead (g ST j) (id, key) = true) ∧ wt = wr)
  case atStart => exact ⟨0, rfl, Nat.zero_le _, rfl, fun j h => by omega, rfl⟩
  case round =>
    obtain ⟨k, hM, hkn, rfl, hah, rfl⟩ := hrel
    have HM := Lib.hid hM
    clear hM
    by_cases hlt : k < n5
    · obtain ⟨b5, o5, hA5, hc5⟩ := HRT.out.cell (by omega)
      subst hA5
      obtain ⟨x0, x1⟩ := hc5 k hlt
      have hstep : HeapP.ahead (g ST k) (id, key) = true → ∀ j, j < k + 1 → HeapP.ahead (g ST j) (id, key) = true := fun h j hj => by
        rcases Nat.lt_or_ge j k with h1 | h1
        · exact hah j h1
        · have : j = k := by omega
          subst this; exact h
      have hgk : g ST k = ((ST.getD k (0, 0)).1, (ST.getD k (0, 0)).2) := rfl
      obtain ⟨yI, hyI⟩ : ∃ y, y = (ST.getD k (0, 0)).1 := ⟨_, rfl⟩
      obtain ⟨yK, hyK⟩ : ∃ y, y = (ST.getD k (0, 0)).2 := ⟨_, rfl⟩
      rw [← hyI, ← hyK] at hgk
      rw [← hyI] at x0
      rw [← hyK] at x1
      have hap : HeapP.ahead (g ST k) (id, key) = (decide (yK < key) || (decide (yK = key) && decide (yI < id))) := by rw [hgk]; rfl
      have k0 : (0 : Int) ≤ (k : Int) := by omega
      have k1 : (k : Int) < (n5 : Int) := by omega
      have k6 : (k : Int) < (ct : Int) := by omega
      clear hc5 hgk hyI hyK
      by_cases h1 : yK < key
      · have HST := Lib.hid (hstep (by rw [hap]; simp [h1]))
        clear hap hstep hah
        go_wp2_with fail
        go_roundg (n5 - (k + 1))
        case measure => have := HM.out; omega
        case rel => exact ⟨k + 1, rfl, by omega, by go_num, HST.out, rfl⟩
      · have q1 : decide (yK < key) = false := decide_eq_false h1
        have hck : ¬ ct = k := by omega
        have HAX : Hid (∀ b' o', k < n5 → some (⟨b5, o5, none⟩ : Addr) = some ⟨b', o', none⟩ → some (⟨b5, o5 + k * 2, none⟩ : Addr) = some ⟨b', o' + k * 2, none⟩) := Lib.hid (fun b' o' _ e => by injection e with e; injection e with e1 e2 _; subst e1 e2; rfl)
        by_cases h2 : yK = key
        · obtain rfl : key = yK := h2.symm
          by_cases h3 : yI < id
          · have HST := Lib.hid (hstep (by rw [hap]; simp [h3]))
            have q3 : decide (yI < id) = true := decide_eq_true h3
            clear hap hstep hah
            go_wp2_with fail
            go_roundg (n5 - (k + 1))
            case measure => have := HM.out; omega
            case rel => exact ⟨k + 1, rfl, by omega, by go_num, HST.out, rfl⟩
          · have hna : k < ST.length → HeapP.ahead (g ST k) (id, key) = false := fun _ => by rw [hap]; simp [h3]
            have q3 : decide (yI < id) = false := decide_eq_false h3
            clear hap hstep
            have HAH := Lib.hid hah
            have HNA : Hid (k < ST.length → HeapP.ahead (g ST k) (id, key) = false) := Lib.hid hna
            clear hah hna
            have k2 : (k : Int) ≤ (n5 : Int) := by omega
            have k3 : (k : Int) ≤ (ct : Int) := by omega
            have k4 : k ≤ ct := by omega
            have k5 : (0 : Int) ≤ (k : Int) := by omega
            have HD : Hid (Below wt.heap.size wt wt.drew) := Lib.hid (bl_drew (Below.refl _ _))
            have HEA := Lib.hid (R4.build (V := wt) HD.out)
            have HEB : Hid (R4 wt ((wt.drew.alloc (.cells #[] 38)).alloc (.cells #[.int .i64 id, .int .i64 key] 38)) (.slice (some ⟨wt.heap.size, 0, none⟩) 0 0) 0 []) := Lib.hid (HEA.out.below (bl_alloc (Below.refl _ _) _))
            have HNA0 : Hid (Below wt.heap.size wt (wt.drew.alloc (.cells #[.int .i64 id, .int .i64 key] 38))) := Lib.hid (bl_alloc HD.out _)
            have hec := R4.build (V := wt) HNA0.out
            rw [show (wt.drew.alloc (.cells #[.int .i64 id, .int .i64 key] 38)).heap.size = wt.heap.size + 1 from size_alloc _ _] at hec
            have HEC := Lib.hid hec
            have hn2 := src4_new (wt.drew.alloc (.cells #[] 38)) id key
            rw [show (wt.drew.alloc (.cells #[] 38)).heap.size = wt.heap.size + 1 from size_alloc _ _] at hn2
            have HN2 := Lib.hid hn2
            have HN3 : Hid (Src ((wt.drew.alloc (.cells #[.int .i64 id, .int .i64 key] 38)).alloc (.cells #[] 38)) 2 (some ⟨wt.heap.size, 0, none⟩) 1 (flat2 [((id, key) : It)])) := Lib.hid ((src4_new wt.drew id key).below (bl_alloc (Below.refl _ _) _))
            have HSF : Hid (∀ w', Below wt.heap.size wt w' → Src w' 2 (some ⟨b5, o5, none⟩) k (flat2 (ST.take k))) := Lib.hid fun w' hb => (Src.ofP (HRT.out.frontP hkn ct)).below hb
            have HSR : Hid (∀ w', Below wt.heap.size wt w' → Src w' 2 (some ⟨b5, o5 + k * 2, none⟩) (n5 - k) (flat2 (ST.drop k))) := Lib.hid fun w' hb => (Src.ofP (HRT.out.restP (j := k) (A' := (some ⟨b5, o5 + k * 2, none⟩)) hkn (ct-k) HAX.out)).below hb
            have HF1 := Lib.hid (HSF.out _ HEA.out.bl)
            have HF2 := Lib.hid (HSF.out _ HEB.out.bl)
            have HF3 := Lib.hid (HSF.out _ HEC.out.bl)
            have HLA : Hid (0 + k ≤ maxLen ∧ (0 + k) * 16 ≤ 140737488355328) := Lib.hid ⟨by unfold maxLen; omega, by omega⟩
            have HLB : Hid (0 + k + 1 ≤ maxLen ∧ (0 + k + 1) * 16 ≤ 140737488355328) := Lib.hid ⟨by unfold maxLen; omega, by omega⟩
            have HLC : Hid (0 + k + 1 + (n5 - k) ≤ maxLen ∧ (0 + k + 1 + (n5 - k)) * 16 ≤ 140737488355328) := Lib.hid ⟨by unfold maxLen; omega, by omega⟩
            clear hec hn2
            go_wp2_with fail
            refine wp_regionL (S := fun w' => w'.cell? ⟨p, 0, none⟩ = some (.slice (some ⟨b5, o5, none⟩) n5 ct)) 23 (by kernel_rfl) (HC9.out _ HD.out) (fun hHeld => ?_)
            refine anyL_take (i := 0) (v := ?_) rfl (by kernel_rfl) (by kernel_rfl) (by kernel_rfl) (by kernel_rfl) (fun _ _ _ h => h) (Or.inl ⟨by rfl, ?_⟩) (by assumption) ?_
            rotate_left
            · intro w hSw; (try dsimp only at hSw); go_simp <;> with_reducible rfl
            (try simp only [Act.put, List.setIfInBounds_toArray, List.set_cons_zero, List.set_cons_succ, List.getElem_toArray, List.getElem_cons_succ, List.getElem_cons_zero])
            refine anyL_take (i := 2) (v := ?_) rfl (by kernel_rfl) (by kernel_rfl) (by kernel_rfl) (by kernel_rfl) (fun _ _ _ h => h) (Or.inl ⟨by rfl, ?_⟩) (by assumption) ?_
            rotate_left
            · intro w hSw; (try dsimp only at hSw); go_simp <;> with_reducible rfl
            (try simp only [Act.put, List.setIfInBounds_toArray, List.set_cons_zero, List.set_cons_succ, List.getElem_toArray, List.getElem_cons_succ, List.getElem_cons_zero])
            refine anyL_take (i := 3) (v := ?_) rfl (by kernel_rfl) (by kernel_rfl) (by kernel_rfl) (by kernel_rfl) (fun _ _ _ h => h) (Or.inl ⟨by rfl, ?_⟩) (by assumption) ?_
            rotate_left
            · intro w hSw; (try dsimp only at hSw); go_simp <;> with_reducible rfl
            (try simp only [Act.put, List.setIfInBounds_toArray, List.set_cons_zero, List.set_cons_succ, List.getElem_toArray, List.getElem_cons_succ, List.getElem_cons_zero])
            refine anyL_take (i := 4) (v := ?_) rfl (by kernel_rfl) (by kernel_rfl) (by kernel_rfl) (by kernel_rfl) (fun _ _ _ h => h) (Or.inl ⟨by rfl, ?_⟩) (by assumption) ?_
            rotate_left
            · intro w hSw; (try dsimp only at hSw); go_simp <;> with_reducible rfl
            (try simp only [Act.put, List.setIfInBounds_toArray, List.set_cons_zero, List.set_cons_succ, List.getElem_toArray, List.getElem_cons_succ, List.getElem_cons_zero])
            refine anyL_take (i := 5) (v := ?_) rfl (by kernel_rfl) (by kernel_rfl) (by kernel_rfl) (by kernel_rfl) (fun _ _ _ h => h) (Or.inl ⟨by rfl, ?_⟩) (by assumption) ?_
            rotate_left
            · intro w hSw; (try dsimp only at hSw); go_simp <;> with_reducible rfl
            (try simp only [Act.put, List.setIfInBounds_toArray, List.set_cons_zero, List.set_cons_succ, List.getElem_toArray, List.getElem_cons_succ, List.getElem_cons_zero])
            refine anyL_take (i := 6) (v := ?_) rfl (by kernel_rfl) (by kernel_rfl) (by kernel_rfl) (by kernel_rfl) (fun _ _ _ h => h) (Or.inl ⟨by rfl, ?_⟩) (by assumption) ?_
            rotate_left
            · intro w hSw; (try dsimp only at hSw); go_simp <;> with_reducible rfl
            (try simp only [Act.put, List.setIfInBounds_toArray, List.set_cons_zero, List.set_cons_succ, List.getElem_toArray, List.getElem_cons_succ, List.getElem_cons_zero])
            refine anyL_take (i := 7) (v := ?_) rfl (by kernel_rfl) (by kernel_rfl) (by kernel_rfl) (by kernel_rfl) (fun _ _ _ h => h) (Or.inl ⟨by rfl, ?_⟩) (by assumption) ?_
            rotate_left
            · intro w hSw; (try dsimp only at hSw); go_simp <;> with_reducible rfl
            (try simp only [Act.put, List.setIfInBounds_toArray, List.set_cons_zero, List.set_cons_succ, List.getElem_toArray, List.getElem_cons_succ, List.getElem_cons_zero])
            refine anyL_take (i := 9) (v := ?_) rfl (by kernel_rfl) (by kernel_rfl) (by kernel_rfl) (by kernel_rfl) (fun _ _ _ h => h) (Or.inl ⟨by rfl, ?_⟩) (by assumption) ?_
            rotate_left
            · intro w hSw; (try dsimp only at hSw); go_simp <;> with_reducible rfl
            (try simp only [Act.put, List.setIfInBounds_toArray, List.set_cons_zero, List.set_cons_succ, List.getElem_toArray, List.getElem_cons_succ, List.getElem_cons_zero])
            refine anyL_take (i := 10) (v := ?_) rfl (by kernel_rfl) (by kernel_rfl) (by kernel_rfl) (by kernel_rfl) (fun _ _ _ h => h) (Or.inl ⟨by rfl, ?_⟩) (by assumption) ?_
            rotate_left
            · intro w hSw; (try dsimp only at hSw); go_simp <;> with_reducible rfl
            (try simp only [Act.put, List.setIfInBounds_toArray, List.set_cons_zero, List.set_cons_succ, List.getElem_toArray, List.getElem_cons_succ, List.getElem_cons_zero])
            refine anyL_take (i := 11) (v := ?_) rfl (by kernel_rfl) (by kernel_rfl) (by kernel_rfl) (by kernel_rfl) (fun _ _ _ h => h) (Or.inl ⟨by rfl, ?_⟩) (by assumption) ?_
            rotate_left
            · intro w hSw; (try dsimp only at hSw); go_simp <;> with_reducible rfl
            (try simp only [Act.put, List.setIfInBounds_toArray, List.set_cons_zero, List.set_cons_succ, List.getElem_toArray, List.getElem_cons_succ, List.getElem_cons_zero])
            refine anyL_take (i := 14) (v := ?_) rfl (by kernel_rfl) (by kernel_rfl) (by kernel_rfl) (by kernel_rfl) (fun _ _ _ h => h) (Or.inl ⟨by rfl, ?_⟩) (by assumption) ?_
            rotate_left
            · intro w hSw; (try dsimp only at hSw); go_simp <;> with_reducible rfl
            (try simp only [Act.put, List.setIfInBounds_toArray, List.set_cons_zero, List.set_cons_succ, List.getElem_toArray, List.getElem_cons_succ, List.getElem_cons_zero])
            refine anyL_take (i := 15) (v := ?_) rfl (by kernel_rfl) (by kernel_rfl) (by kernel_rfl) (by kernel_rfl) (fun _ _ _ h => h) (Or.inl ⟨by rfl, ?_⟩) (by assumption) ?_
            rotate_left
            · intro w hSw; (try dsimp only at hSw); go_simp <;> with_reducible rfl
            (try simp only [Act.put, List.setIfInBounds_toArray, List.set_cons_zero, List.set_cons_succ, List.getElem_toArray, List.getElem_cons_succ, List.getElem_cons_zero])
            refine anyL_take (i := 16) (v := ?_) rfl (by kernel_rfl) (by kernel_rfl) (by kernel_rfl) (by kernel_rfl) (fun _ _ _ h => h) (Or.inl ⟨by rfl, ?_⟩) (by assumption) ?_
            rotate_left
            · intro w hSw; (try dsimp only at hSw); go_simp <;> with_reducible rfl
            (try simp only [Act.put, List.setIfInBounds_toArray, List.set_cons_zero, List.set_cons_succ, List.getElem_toArray, List.getElem_cons_succ, List.getElem_cons_zero])
            refine anyL_take (i := 17) (v := ?_) rfl (by kernel_rfl) (by kernel_rfl) (by kernel_rfl) (by kernel_rfl) (fun _ _ _ h => h) (Or.inl ⟨by rfl, ?_⟩) (by assumption) ?_
            rotate_left
            · intro w hSw; (try dsimp only at hSw); go_simp <;> with_reducible rfl
            (try simp only [Act.put, List.setIfInBounds_toArray, List.set_cons_zero, List.set_cons_succ, List.getElem_toArray, List.getElem_cons_succ, List.getElem_cons_zero])
            refine anyL_take (i := 18) (v := ?_) rfl (by kernel_rfl) (by kernel_rfl) (by kernel_rfl) (by kernel_rfl) (fun _ _ _ h => h) (Or.inl ⟨by rfl, ?_⟩) (by assumption) ?_
            rotate_left
            · intro w hSw; (try dsimp only at hSw); go_simp <;> with_reducible rfl
            (try simp only [Act.put, List.setIfInBounds_toArray, List.set_cons_zero, List.set_cons_succ, List.getElem_toArray, List.getElem_cons_succ, List.getElem_cons_zero])
            refine anyL_take (i := 19) (v := ?_) rfl (by kernel_rfl) (by kernel_rfl) (by kernel_rfl) (by kernel_rfl) (fun _ _ _ h => h) (Or.inl ⟨by rfl, ?_⟩) (by assumption) ?_
            rotate_left
            · intro w hSw; (try dsimp only at hSw); go_simp <;> with_reducible rfl
            (try simp only [Act.put, List.setIfInBounds_toArray, List.set_cons_zero, List.set_cons_succ, List.getElem_toArray, List.getElem_cons_succ, List.getElem_cons_zero])
            refine anyL_ready (rs := [1, 12]) (by kernel_rfl) (by simp) ?_
            refine AllL.cons rfl (fun K hK => ?_) (AllL.cons rfl (fun K hK => ?_) AllL.nil)
            · skip
              go_simp
              have hHeld := (HC9.out _ HEA.out.bl)
              refine hK.out _ _ (fun _ => hHeld) ?_
              clear hK K
              (try simp only [Act.put, List.setIfInBounds_toArray, List.set_cons_zero, List.set_cons_succ, List.getElem_toArray, List.getElem_cons_succ, List.getElem_cons_zero])
              refine anyL_ready (rs := [8, 12]) (by kernel_rfl) (by simp) ?_
              refine AllL.cons rfl (fun K hK => ?_) (AllL.cons rfl (fun K hK => ?_) AllL.nil)
              · skip
                refine step_push (by rfl) (.tmp 89) (.tmp 95) 30 (by rfl) wt.heap.size 38 Try.underlying30 II.out ⟨rfl, by decide⟩ _ 0 (flat2 []) (by rfl) HEA.out.row (some ⟨b5, o5, none⟩) k ct _ (by rfl) HF1.out HLA.out HEA.out.bl.size ?_
                intro v1 u1 hgr
                have hr := HEA.out.push hgr
                have HR1 := Lib.hid hr
                have HR1N := Lib.hid (hr.below (bl_alloc (Below.refl _ _) (.cells #[.int .i64 id, .int .i64 key] 38)))
                have HSN := Lib.hid (src4_new u1 id key)
                clear hr hgr
                have hHeld := (HC9.out _ HR1.out.bl)
                refine hK.out _ _ (fun _ => hHeld) ?_
                clear hK K
                (try simp only [Act.put, List.setIfInBounds_toArray, List.set_cons_zero, List.set_cons_succ, List.getElem_toArray, List.getElem_cons_succ, List.getElem_cons_zero])
                refine anyL_ready (rs := [12]) (by kernel_rfl) (by simp) ?_
                refine AllL.cons rfl (fun K hK => ?_) AllL.nil
                go_simp
                have hHeld := (HC9.out _ HR1N.out.bl)
                refine hK.out _ _ (fun _ => hHeld) ?_
                clear hK K
                (try simp only [Act.put, List.setIfInBounds_toArray, List.set_cons_zero, List.set_cons_succ, List.getElem_toArray, List.getElem_cons_succ, List.getElem_cons_zero])
                refine anyL_ready (rs := [13]) (by kernel_rfl) (by simp) ?_
                refine AllL.cons rfl (fun K hK => ?_) AllL.nil
                refine step_push (by rfl) (.tmp 96) (.tmp 100) 30 (by rfl) wt.heap.size 38 Try.underlying30 II.out ⟨rfl, by decide⟩ v1 (0+k) (flat2 ([] ++ List.take k ST)) (by rfl) HR1N.out.row (some ⟨u1.heap.size, 0, none⟩) 1 1 _ (by rfl) HSN.out HLB.out HR1N.out.bl.size ?_
                intro v2 u2 hgr
                have hr := HR1N.out.push hgr
                have HR2 := Lib.hid hr
                have HS3 := Lib.hid (HSR.out _ hr.bl)
                clear hr hgr
                have hHeld := (HC9.out _ HR2.out.bl)
                refine hK.out _ _ (fun _ => hHeld) ?_
                clear hK K
                (try simp only [Act.put, List.setIfInBounds_toArray, List.set_cons_zero, List.set_cons_succ, List.getElem_toArray, List.getElem_cons_succ, List.getElem_cons_zero])
                refine anyL_ready (rs := [20]) (by kernel_rfl) (by simp) ?_
                refine AllL.cons rfl (fun K hK => ?_) AllL.nil
                refine step_push (by rfl) (.tmp 101) (.tmp 107) 30 (by rfl) wt.heap.size 38 Try.underlying30 II.out ⟨rfl, by decide⟩ v2 (0+k+1) (flat2 ([] ++ List.take k ST ++ [(id, key)])) (by rfl) HR2.out.row (some ⟨b5, o5 + k * 2, none⟩) (n5-k) (ct-k) _ (by rfl) HS3.out HLC.out HR2.out.bl.size ?_
                intro v3 u3 hgr
                have hr := HR2.out.push hgr
                have HR3 := Lib.hid hr
                obtain ⟨A9, c9, hv9⟩ := hgr.val
                have hrow := hr.row
                have hpu := (hr.bl.block p (HPS.out)).trans HT.out.hd
                rw [← HN5.out] at hpu
                obtain ⟨m9, hm9⟩ : ∃ m9, m9 = 0 + k + 1 + (n5 - k) := ⟨_, rfl⟩
                rw [← hm9] at hv9 hrow
                subst hv9
                have P2 := block_cell hpu (j := 0) rfl
                have F2 := block_fr hpu 0
                have HROW := Lib.hid hrow
                have HPU := Lib.hid hpu
                have HM9 := Lib.hid hm9
                have HBL9 := Lib.hid hr.bl
                clear hgr hr hrow hpu hm9
                have hHeld := (HC9.out _ HR3.out.bl)
                refine hK.out _ _ (fun _ => hHeld) ?_
                clear hK K
                (try simp only [Act.put, List.setIfInBounds_toArray, List.set_cons_zero, List.set_cons_succ, List.getElem_toArray, List.getElem_cons_succ, List.getElem_cons_zero])
                refine anyL_take (i := 21) (v := ?_) rfl (by kernel_rfl) (by kernel_rfl) (by kernel_rfl) (by kernel_rfl) (fun _ _ _ h => h) (Or.inl ⟨by rfl, ?_⟩) (by assumption) ?_
                rotate_left
                · intro w hSw; (try dsimp only at hSw); go_simp <;> with_reducible rfl
                (try simp only [Act.put, List.setIfInBounds_toArray, List.set_cons_zero, List.set_cons_succ, List.getElem_toArray, List.getElem_cons_succ, List.getElem_cons_zero])
                refine anyL_take (i := 22) (v := ?_) rfl (by kernel_rfl) (by kernel_rfl) (by kernel_rfl) (by kernel_rfl) (fun _ _ _ h => h) (Or.inl ⟨by rfl, ?_⟩) (by assumption) ?_
                rotate_left
                · intro w hSw; (try dsimp only at hSw); go_simp <;> with_reducible rfl
                (try simp only [Act.put, List.setIfInBounds_toArray, List.set_cons_zero, List.set_cons_succ, List.getElem_toArray, List.getElem_cons_succ, List.getElem_cons_zero])
                refine anyL_ready (rs := [23]) (by kernel_rfl) (by simp) ?_
                refine AllL.cons rfl (fun K hK => ?_) AllL.nil
                go_simp
                refine hK.out _ _ (fun h => absurd rfl h) ?_
                clear hK K
                (try simp only [Act.put, List.setIfInBounds_toArray, List.set_cons_zero, List.set_cons_succ, List.getElem_toArray, List.getElem_cons_succ, List.getElem_cons_zero])
                refine anyL_done (by kernel_rfl) ?_ _
                clear P2 F2
                go_wp2_with fail
                go_ret
                have hrow := HROW.out
                have hs9 := ins_split (x := (id, key)) (S := ST) (k := k) (by rw [← HN5.out]; exact hkn) HAH.out HNA.out
                have he : [] ++ List.take k ST ++ [((id, key) : It)] ++ List.drop k ST = pushF S (id, key) := by rw [HPF.out, hs9, List.nil_append, List.append_assoc]; rfl
                rw [he] at hrow
                have hln : (pushF S (id, key)).length = m9 := by
                  rw [← he]
                  have := HN5.out
                  have := HM9.out
                  simp only [List.length_append, List.length_nil, List.length_take, List.length_cons, List.length_drop]
                  omega
                have hwf : ∀ y ∈ pushF S (id, key), Wf y := fun y hy => by
                  rcases pushF_ids hy with h1 | h1
                  · rw [h1]; exact HX.out
                  · exact HWF.out y h1
                have hor := H4.of_row hrow hln (by have := HM9.out; unfold maxLen; omega) (HPS.out) hwf HPU.out
                refine ⟨ret_bool HP.out.symm, ⟨A9, c9, hor.1, fun b' o' e => .inr (Nat.le_trans HU.out.size (hor.2 b' o' e))⟩, ?_⟩
                exact HU.out.trans (upd_setCell (F := fun b => b = p) (a := ⟨p, 0, none⟩) (Upd.of_below HBL9.out) rfl _) (fun _ _ h => h)
              · skip
                go_simp
                have hHeld := (HC9.out _ HEB.out.bl)
                refine hK.out _ _ (fun _ => hHeld) ?_
                clear hK K
                (try simp only [Act.put, List.setIfInBounds_toArray, List.set_cons_zero, List.set_cons_succ, List.getElem_toArray, List.getElem_cons_succ, List.getElem_cons_zero])
                refine anyL_ready (rs := [8]) (by kernel_rfl) (by simp) ?_
                refine AllL.cons rfl (fun K hK => ?_) AllL.nil
                refine step_push (by rfl) (.tmp 89) (.tmp 95) 30 (by rfl) wt.heap.size 38 Try.underlying30 II.out ⟨rfl, by decide⟩ _ 0 (flat2 []) (by rfl) HEB.out.row (some ⟨b5, o5, none⟩) k ct _ (by rfl) HF2.out HLA.out HEB.out.bl.size ?_
                intro v1 u1 hgr
                have hr := HEB.out.push hgr
                have HR1 := Lib.hid hr
                have HSN := Lib.hid (HN2.out.grown hgr.by_ (fun ad e e2 => by injection e with e; subst e; simp [Value.ownBlock] at e2))
                clear hr hgr
                have hHeld := (HC9.out _ HR1.out.bl)
                refine hK.out _ _ (fun _ => hHeld) ?_
                clear hK K
                (try simp only [Act.put, List.setIfInBounds_toArray, List.set_cons_zero, List.set_cons_succ, List.getElem_toArray, List.getElem_cons_succ, List.getElem_cons_zero])
                refine anyL_ready (rs := [13]) (by kernel_rfl) (by simp) ?_
                refine AllL.cons rfl (fun K hK => ?_) AllL.nil
                refine step_push (by rfl) (.tmp 96) (.tmp 100) 30 (by rfl) wt.heap.size 38 Try.underlying30 II.out ⟨rfl, by decide⟩ v1 (0+k) (flat2 ([] ++ List.take k ST)) (by rfl) HR1.out.row (some ⟨wt.heap.size + 1, 0, none⟩) 1 1 _ (by rfl) HSN.out HLB.out HR1.out.bl.size ?_
                intro v2 u2 hgr
                have hr := HR1.out.push hgr
                have HR2 := Lib.hid hr
                have HS3 := Lib.hid (HSR.out _ hr.bl)
                clear hr hgr
                have hHeld := (HC9.out _ HR2.out.bl)
                refine hK.out _ _ (fun _ => hHeld) ?_
                clear hK K
                (try simp only [Act.put, List.setIfInBounds_toArray, List.set_cons_zero, List.set_cons_succ, List.getElem_toArray, List.getElem_cons_succ, List.getElem_cons_zero])
                refine anyL_ready (rs := [20]) (by kernel_rfl) (by simp) ?_
                refine AllL.cons rfl (fun K hK => ?_) AllL.nil
                refine step_push (by rfl) (.tmp 101) (.tmp 107) 30 (by rfl) wt.heap.size 38 Try.underlying30 II.out ⟨rfl, by decide⟩ v2 (0+k+1) (flat2 ([] ++ List.take k ST ++ [(id, key)])) (by rfl) HR2.out.row (some ⟨b5, o5 + k * 2, none⟩) (n5-k) (ct-k) _ (by rfl) HS3.out HLC.out HR2.out.bl.size ?_
                intro v3 u3 hgr
                have hr := HR2.out.push hgr
                have HR3 := Lib.hid hr
                obtain ⟨A9, c9, hv9⟩ := hgr.val
                have hrow := hr.row
                have hpu := (hr.bl.block p (HPS.out)).trans HT.out.hd
                rw [← HN5.out] at hpu
                obtain ⟨m9, hm9⟩ : ∃ m9, m9 = 0 + k + 1 + (n5 - k) := ⟨_, rfl⟩
                rw [← hm9] at hv9 hrow
                subst hv9
                have P2 := block_cell hpu (j := 0) rfl
                have F2 := block_fr hpu 0
                have HROW := Lib.hid hrow
                have HPU := Lib.hid hpu
                have HM9 := Lib.hid hm9
                have HBL9 := Lib.hid hr.bl
                clear hgr hr hrow hpu hm9
                have hHeld := (HC9.out _ HR3.out.bl)
                refine hK.out _ _ (fun _ => hHeld) ?_
                clear hK K
                (try simp only [Act.put, List.setIfInBounds_toArray, List.set_cons_zero, List.set_cons_succ, List.getElem_toArray, List.getElem_cons_succ, List.getElem_cons_zero])
                refine anyL_take (i := 21) (v := ?_) rfl (by kernel_rfl) (by kernel_rfl) (by kernel_rfl) (by kernel_rfl) (fun _ _ _ h => h) (Or.inl ⟨by rfl, ?_⟩) (by assumption) ?_
                rotate_left
                · intro w hSw; (try dsimp only at hSw); go_simp <;> with_reducible rfl
                (try simp only [Act.put, List.setIfInBounds_toArray, List.set_cons_zero, List.set_cons_succ, List.getElem_toArray, List.getElem_cons_succ, List.getElem_cons_zero])
                refine anyL_take (i := 22) (v := ?_) rfl (by kernel_rfl) (by kernel_rfl) (by kernel_rfl) (by kernel_rfl) (fun _ _ _ h => h) (Or.inl ⟨by rfl, ?_⟩) (by assumption) ?_
                rotate_left
                · intro w hSw; (try dsimp only at hSw); go_simp <;> with_reducible rfl
                (try simp only [Act.put, List.setIfInBounds_toArray, List.set_cons_zero, List.set_cons_succ, List.getElem_toArray, List.getElem_cons_succ, List.getElem_cons_zero])
                refine anyL_ready (rs := [23]) (by kernel_rfl) (by simp) ?_
                refine AllL.cons rfl (fun K hK => ?_) AllL.nil
                go_simp
                refine hK.out _ _ (fun h => absurd rfl h) ?_
                clear hK K
                (try simp only [Act.put, List.setIfInBounds_toArray, List.set_cons_zero, List.set_cons_succ, List.getElem_toArray, List.getElem_cons_succ, List.getElem_cons_zero])
                refine anyL_done (by kernel_rfl) ?_ _
                clear P2 F2
                go_wp2_with fail
                go_ret
                have hrow := HROW.out
                have hs9 := ins_split (x := (id, key)) (S := ST) (k := k) (by rw [← HN5.out]; exact hkn) HAH.out HNA.out
                have he : [] ++ List.take k ST ++ [((id, key) : It)] ++ List.drop k ST = pushF S (id, key) := by rw [HPF.out, hs9, List.nil_append, List.append_assoc]; rfl
                rw [he] at hrow
                have hln : (pushF S (id, key)).length = m9 := by
                  rw [← he]
                  have := HN5.out
                  have := HM9.out
                  simp only [List.length_append, List.length_nil, List.length_take, List.length_cons, List.length_drop]
                  omega
                have hwf : ∀ y ∈ pushF S (id, key), Wf y := fun y hy => by
                  rcases pushF_ids hy with h1 | h1
                  · rw [h1]; exact HX.out
                  · exact HWF.out y h1
                have hor := H4.of_row hrow hln (by have := HM9.out; unfold maxLen; omega) (HPS.out) hwf HPU.out
                refine ⟨ret_bool HP.out.symm, ⟨A9, c9, hor.1, fun b' o' e => .inr (Nat.le_trans HU.out.size (hor.2 b' o' e))⟩, ?_⟩
                exact HU.out.trans (upd_setCell (F := fun b => b = p) (a := ⟨p, 0, none⟩) (Upd.of_below HBL9.out) rfl _) (fun _ _ h => h)
            · skip
              go_simp
              have hHeld := (HC9.out _ HNA0.out)
              refine hK.out _ _ (fun _ => hHeld) ?_
              clear hK K
              (try simp only [Act.put, List.setIfInBounds_toArray, List.set_cons_zero, List.set_cons_succ, List.getElem_toArray, List.getElem_cons_succ, List.getElem_cons_zero])
              refine anyL_ready (rs := [1]) (by kernel_rfl) (by simp) ?_
              refine AllL.cons rfl (fun K hK => ?_) AllL.nil
              go_simp
              have hHeld := (HC9.out _ HEC.out.bl)
              refine hK.out _ _ (fun _ => hHeld) ?_
              clear hK K
              (try simp only [Act.put, List.setIfInBounds_toArray, List.set_cons_zero, List.set_cons_succ, List.getElem_toArray, List.getElem_cons_succ, List.getElem_cons_zero])
              refine anyL_ready (rs := [8]) (by kernel_rfl) (by simp) ?_
              refine AllL.cons rfl (fun K hK => ?_) AllL.nil
              refine step_push (by rfl) (.tmp 89) (.tmp 95) 30 (by rfl) wt.heap.size 38 Try.underlying30 II.out ⟨rfl, by decide⟩ _ 0 (flat2 []) (by rfl) HEC.out.row (some ⟨b5, o5, none⟩) k ct _ (by rfl) HF3.out HLA.out HEC.out.bl.size ?_
              intro v1 u1 hgr
              have hr := HEC.out.push hgr
              have HR1 := Lib.hid hr
              have HSN := Lib.hid (HN3.out.grown hgr.by_ (fun ad e e2 => by injection e with e; subst e; simp [Value.ownBlock] at e2))
              clear hr hgr
              have hHeld := (HC9.out _ HR1.out.bl)
              refine hK.out _ _ (fun _ => hHeld) ?_
              clear hK K
              (try simp only [Act.put, List.setIfInBounds_toArray, List.set_cons_zero, List.set_cons_succ, List.getElem_toArray, List.getElem_cons_succ, List.getElem_cons_zero])
              refine anyL_ready (rs := [13]) (by kernel_rfl) (by simp) ?_
              refine AllL.cons rfl (fun K hK => ?_) AllL.nil
              refine step_push (by rfl) (.tmp 96) (.tmp 100) 30 (by rfl) wt.heap.size 38 Try.underlying30 II.out ⟨rfl, by decide⟩ v1 (0+k) (flat2 ([] ++ List.take k ST)) (by rfl) HR1.out.row (some ⟨wt.heap.size, 0, none⟩) 1 1 _ (by rfl) HSN.out HLB.out HR1.out.bl.size ?_
              intro v2 u2 hgr
              have hr := HR1.out.push hgr
              have HR2 := Lib.hid hr
              have HS3 := Lib.hid (HSR.out _ hr.bl)
              clear hr hgr
              have hHeld := (HC9.out _ HR2.out.bl)
              refine hK.out _ _ (fun _ => hHeld) ?_
              clear hK K
              (try simp only [Act.put, List.setIfInBounds_toArray, List.set_cons_zero, List.set_cons_succ, List.getElem_toArray, List.getElem_cons_succ, List.getElem_cons_zero])
              refine anyL_ready (rs := [20]) (by kernel_rfl) (by simp) ?_
              refine AllL.cons rfl (fun K hK => ?_) AllL.nil
              refine step_push (by rfl) (.tmp 101) (.tmp 107) 30 (by rfl) wt.heap.size 38 Try.underlying30 II.out ⟨rfl, by decide⟩ v2 (0+k+1) (flat2 ([] ++ List.take k ST ++ [(id, key)])) (by rfl) HR2.out.row (some ⟨b5, o5 + k * 2, none⟩) (n5-k) (ct-k) _ (by rfl) HS3.out HLC.out HR2.out.bl.size ?_
              intro v3 u3 hgr
              have hr := HR2.out.push hgr
              have HR3 := Lib.hid hr
              obtain ⟨A9, c9, hv9⟩ := hgr.val
              have hrow := hr.row
              have hpu := (hr.bl.block p (HPS.out)).trans HT.out.hd
              rw [← HN5.out] at hpu
              obtain ⟨m9, hm9⟩ : ∃ m9, m9 = 0 + k + 1 + (n5 - k) := ⟨_, rfl⟩
              rw [← hm9] at hv9 hrow
              subst hv9
              have P2 := block_cell hpu (j := 0) rfl
              have F2 := block_fr hpu 0
              have HROW := Lib.hid hrow
              have HPU := Lib.hid hpu
              have HM9 := Lib.hid hm9
              have HBL9 := Lib.hid hr.bl
              clear hgr hr hrow hpu hm9
              have hHeld := (HC9.out _ HR3.out.bl)
              refine hK.out _ _ (fun _ => hHeld) ?_
              clear hK K
              (try simp only [Act.put, List.setIfInBounds_toArray, List.set_cons_zero, List.set_cons_succ, List.getElem_toArray, List.getElem_cons_succ, List.getElem_cons_zero])
              refine anyL_take (i := 21) (v := ?_) rfl (by kernel_rfl) (by kernel_rfl) (by kernel_rfl) (by kernel_rfl) (fun _ _ _ h => h) (Or.inl ⟨by rfl, ?_⟩) (by assumption) ?_
              rotate_left
              · intro w hSw; (try dsimp only at hSw); go_simp <;> with_reducible rfl
              (try simp only [Act.put, List.setIfInBounds_toArray, List.set_cons_zero, List.set_cons_succ, List.getElem_toArray, List.getElem_cons_succ, List.getElem_cons_zero])
              refine anyL_take (i := 22) (v := ?_) rfl (by kernel_rfl) (by kernel_rfl) (by kernel_rfl) (by kernel_rfl) (fun _ _ _ h => h) (Or.inl ⟨by rfl, ?_⟩) (by assumption) ?_
              rotate_left
              · intro w hSw; (try dsimp only at hSw); go_simp <;> with_reducible rfl
              (try simp only [Act.put, List.setIfInBounds_toArray, List.set_cons_zero, List.set_cons_succ, List.getElem_toArray, List.getElem_cons_succ, List.getElem_cons_zero])
              refine anyL_ready (rs := [23]) (by kernel_rfl) (by simp) ?_
              refine AllL.cons rfl (fun K hK => ?_) AllL.nil
              go_simp
              refine hK.out _ _ (fun h => absurd rfl h) ?_
              clear hK K
              (try simp only [Act.put, List.setIfInBounds_toArray, List.set_cons_zero, List.set_cons_succ, List.getElem_toArray, List.getElem_cons_succ, List.getElem_cons_zero])
              refine anyL_done (by kernel_rfl) ?_ _
              clear P2 F2
              go_wp2_with fail
              go_ret
              have hrow := HROW.out
              have hs9 := ins_split (x := (id, key)) (S := ST) (k := k) (by rw [← HN5.out]; exact hkn) HAH.out HNA.out
              have he : [] ++ List.take k ST ++ [((id, key) : It)] ++ List.drop k ST = pushF S (id, key) := by rw [HPF.out, hs9, List.nil_append, List.append_assoc]; rfl
              rw [he] at hrow
              have hln : (pushF S (id, key)).length = m9 := by
                rw [← he]
                have := HN5.out
                have := HM9.out
                simp only [List.length_append, List.length_nil, List.length_take, List.length_cons, List.length_drop]
                omega
              have hwf : ∀ y ∈ pushF S (id, key), Wf y := fun y hy => by
                rcases pushF_ids hy with h1 | h1
                · rw [h1]; exact HX.out
                · exact HWF.out y h1
              have hor := H4.of_row hrow hln (by have := HM9.out; unfold maxLen; omega) (HPS.out) hwf HPU.out
              refine ⟨ret_bool HP.out.symm, ⟨A9, c9, hor.1, fun b' o' e => .inr (Nat.le_trans HU.out.size (hor.2 b' o' e))⟩, ?_⟩
              exact HU.out.trans (upd_setCell (F := fun b => b = p) (a := ⟨p, 0, none⟩) (Upd.of_below HBL9.out) rfl _) (fun _ _ h => h)
        · have hna : k < ST.length → HeapP.ahead (g ST k) (id, key) = false := fun _ => by rw [hap]; simp [h1, h2]
          have q2 : (yK == key) = false := beq_false_of_ne h2
          clear hap hstep
          have HAH := Lib.hid hah
          have HNA : Hid (k < ST.length → HeapP.ahead (g ST k) (id, key) = false) := Lib.hid hna
          clear hah hna
          have k2 : (k : Int) ≤ (n5 : Int) := by omega
          have k3 : (k : Int) ≤ (ct : Int) := by omega
          have k4 : k ≤ ct := by omega
          have k5 : (0 : Int) ≤ (k : Int) := by omega
          have HD : Hid (Below wt.heap.size wt wt.drew) := Lib.hid (bl_drew (Below.refl _ _))
          have HEA := Lib.hid (R4.build (V := wt) HD.out)
          have HEB : Hid (R4 wt ((wt.drew.alloc (.cells #[] 38)).alloc (.cells #[.int .i64 id, .int .i64 key] 38)) (.slice (some ⟨wt.heap.size, 0, none⟩) 0 0) 0 []) := Lib.hid (HEA.out.below (bl_alloc (Below.refl _ _) _))
          have HNA0 : Hid (Below wt.heap.size wt (wt.drew.alloc (.cells #[.int .i64 id, .int .i64 key] 38))) := Lib.hid (bl_alloc HD.out _)
          have hec := R4.build (V := wt) HNA0.out
          rw [show (wt.drew.alloc (.cells #[.int .i64 id, .int .i64 key] 38)).heap.size = wt.heap.size + 1 from size_alloc _ _] at hec
          have HEC := Lib.hid hec
          have hn2 := src4_new (wt.drew.alloc (.cells #[] 38)) id key
          rw [show (wt.drew.alloc (.cells #[] 38)).heap.size = wt.heap.size + 1 from size_alloc _ _] at hn2
          have HN2 := Lib.hid hn2
          have HN3 : Hid (Src ((wt.drew.alloc (.cells #[.int .i64 id, .int .i64 key] 38)).alloc (.cells #[] 38)) 2 (some ⟨wt.heap.size, 0, none⟩) 1 (flat2 [((id, key) : It)])) := Lib.hid ((src4_new wt.drew id key).below (bl_alloc (Below.refl _ _) _))
          have HSF : Hid (∀ w', Below wt.heap.size wt w' → Src w' 2 (some ⟨b5, o5, none⟩) k (flat2 (ST.take k))) := Lib.hid fun w' hb => (Src.ofP (HRT.out.frontP hkn ct)).below hb
          have HSR : Hid (∀ w', Below wt.heap.size wt w' → Src w' 2 (some ⟨b5, o5 + k * 2, none⟩) (n5 - k) (flat2 (ST.drop k))) := Lib.hid fun w' hb => (Src.ofP (HRT.out.restP (j := k) (A' := (some ⟨b5, o5 + k * 2, none⟩)) hkn (ct-k) HAX.out)).below hb
          have HF1 := Lib.hid (HSF.out _ HEA.out.bl)
          have HF2 := Lib.hid (HSF.out _ HEB.out.bl)
          have HF3 := Lib.hid (HSF.out _ HEC.out.bl)
          have HLA : Hid (0 + k ≤ maxLen ∧ (0 + k) * 16 ≤ 140737488355328) := Lib.hid ⟨by unfold maxLen; omega, by omega⟩
          have HLB : Hid (0 + k + 1 ≤ maxLen ∧ (0 + k + 1) * 16 ≤ 140737488355328) := Lib.hid ⟨by unfold maxLen; omega, by omega⟩
          have HLC : Hid (0 + k + 1 + (n5 - k) ≤ maxLen ∧ (0 + k + 1 + (n5 - k)) * 16 ≤ 140737488355328) := Lib.hid ⟨by unfold maxLen; omega, by omega⟩
          clear hec hn2
          go_wp2_with fail
          refine wp_regionL (S := fun w' => w'.cell? ⟨p, 0, none⟩ = some (.slice (some ⟨b5, o5, none⟩) n5 ct)) 23 (by kernel_rfl) (HC9.out _ HD.out) (fun hHeld => ?_)
          refine anyL_take (i := 0) (v := ?_) rfl (by kernel_rfl) (by kernel_rfl) (by kernel_rfl) (by kernel_rfl) (fun _ _ _ h => h) (Or.inl ⟨by rfl, ?_⟩) (by assumption) ?_
          rotate_left
          · intro w hSw; (try dsimp only at hSw); go_simp <;> with_reducible rfl
          (try simp only [Act.put, List.setIfInBounds_toArray, List.set_cons_zero, List.set_cons_succ, List.getElem_toArray, List.getElem_cons_succ, List.getElem_cons_zero])
          refine anyL_take (i := 2) (v := ?_) rfl (by kernel_rfl) (by kernel_rfl) (by kernel_rfl) (by kernel_rfl) (fun _ _ _ h => h) (Or.inl ⟨by rfl, ?_⟩) (by assumption) ?_
          rotate_left
          · intro w hSw; (try dsimp only at hSw); go_simp <;> with_reducible rfl
          (try simp only [Act.put, List.setIfInBounds_toArray, List.set_cons_zero, List.set_cons_succ, List.getElem_toArray, List.getElem_cons_succ, List.getElem_cons_zero])
          refine anyL_take (i := 3) (v := ?_) rfl (by kernel_rfl) (by kernel_rfl) (by kernel_rfl) (by kernel_rfl) (fun _ _ _ h => h) (Or.inl ⟨by rfl, ?_⟩) (by assumption) ?_
          rotate_left
          · intro w hSw; (try dsimp only at hSw); go_simp <;> with_reducible rfl
          (try simp only [Act.put, List.setIfInBounds_toArray, List.set_cons_zero, List.set_cons_succ, List.getElem_toArray, List.getElem_cons_succ, List.getElem_cons_zero])
          refine anyL_take (i := 4) (v := ?_) rfl (by kernel_rfl) (by kernel_rfl) (by kernel_rfl) (by kernel_rfl) (fun _ _ _ h => h) (Or.inl ⟨by rfl, ?_⟩) (by assumption) ?_
          rotate_left
          · intro w hSw; (try dsimp only at hSw); go_simp <;> with_reducible rfl
          (try simp only [Act.put, List.setIfInBounds_toArray, List.set_cons_zero, List.set_cons_succ, List.getElem_toArray, List.getElem_cons_succ, List.getElem_cons_zero])
          refine anyL_take (i := 5) (v := ?_) rfl (by kernel_rfl) (by kernel_rfl) (by kernel_rfl) (by kernel_rfl) (fun _ _ _ h => h) (Or.inl ⟨by rfl, ?_⟩) (by assumption) ?_
          rotate_left
          · intro w hSw; (try dsimp only at hSw); go_simp <;> with_reducible rfl
          (try simp only [Act.put, List.setIfInBounds_toArray, List.set_cons_zero, List.set_cons_succ, List.getElem_toArray, List.getElem_cons_succ, List.getElem_cons_zero])
          refine anyL_take (i := 6) (v := ?_) rfl (by kernel_rfl) (by kernel_rfl) (by kernel_rfl) (by kernel_rfl) (fun _ _ _ h => h) (Or.inl ⟨by rfl, ?_⟩) (by assumption) ?_
          rotate_left
          · intro w hSw; (try dsimp only at hSw); go_simp <;> with_reducible rfl
          (try simp only [Act.put, List.setIfInBounds_toArray, List.set_cons_zero, List.set_cons_succ, List.getElem_toArray, List.getElem_cons_succ, List.getElem_cons_zero])
          refine anyL_take (i := 7) (v := ?_) rfl (by kernel_rfl) (by kernel_rfl) (by kernel_rfl) (by kernel_rfl) (fun _ _ _ h => h) (Or.inl ⟨by rfl, ?_⟩) (by assumption) ?_
          rotate_left
          · intro w hSw; (try dsimp only at hSw); go_simp <;> with_reducible rfl
          (try simp only [Act.put, List.setIfInBounds_toArray, List.set_cons_zero, List.set_cons_succ, List.getElem_toArray, List.getElem_cons_succ, List.getElem_cons_zero])
          refine anyL_take (i := 9) (v := ?_) rfl (by kernel_rfl) (by kernel_rfl) (by kernel_rfl) (by kernel_rfl) (fun _ _ _ h => h) (Or.inl ⟨by rfl, ?_⟩) (by assumption) ?_
          rotate_left
          · intro w hSw; (try dsimp only at hSw); go_simp <;> with_reducible rfl
          (try simp only [Act.put, List.setIfInBounds_toArray, List.set_cons_zero, List.set_cons_succ, List.getElem_toArray, List.getElem_cons_succ, List.getElem_cons_zero])
          refine anyL_take (i := 10) (v := ?_) rfl (by kernel_rfl) (by kernel_rfl) (by kernel_rfl) (by kernel_rfl) (fun _ _ _ h => h) (Or.inl ⟨by rfl, ?_⟩) (by assumption) ?_
          rotate_left
          · intro w hSw; (try dsimp only at hSw); go_simp <;> with_reducible rfl
          (try simp only [Act.put, List.setIfInBounds_toArray, List.set_cons_zero, List.set_cons_succ, List.getElem_toArray, List.getElem_cons_succ, List.getElem_cons_zero])
          refine anyL_take (i := 11) (v := ?_) rfl (by kernel_rfl) (by kernel_rfl) (by kernel_rfl) (by kernel_rfl) (fun _ _ _ h => h) (Or.inl ⟨by rfl, ?_⟩) (by assumption) ?_
          rotate_left
          · intro w hSw; (try dsimp only at hSw); go_simp <;> with_reducible rfl
          (try simp only [Act.put, List.setIfInBounds_toArray, List.set_cons_zero, List.set_cons_succ, List.getElem_toArray, List.getElem_cons_succ, List.getElem_cons_zero])
          refine anyL_take (i := 14) (v := ?_) rfl (by kernel_rfl) (by kernel_rfl) (by kernel_rfl) (by kernel_rfl) (fun _ _ _ h => h) (Or.inl ⟨by rfl, ?_⟩) (by assumption) ?_
          rotate_left
          · intro w hSw; (try dsimp only at hSw); go_simp <;> with_reducible rfl
          (try simp only [Act.put, List.setIfInBounds_toArray, List.set_cons_zero, List.set_cons_succ, List.getElem_toArray, List.getElem_cons_succ, List.getElem_cons_zero])
          refine anyL_take (i := 15) (v := ?_) rfl (by kernel_rfl) (by kernel_rfl) (by kernel_rfl) (by kernel_rfl) (fun _ _ _ h => h) (Or.inl ⟨by rfl, ?_⟩) (by assumption) ?_
          rotate_left
          · intro w hSw; (try dsimp only at hSw); go_simp <;> with_reducible rfl
          (try simp only [Act.put, List.setIfInBounds_toArray, List.set_cons_zero, List.set_cons_succ, List.getElem_toArray, List.getElem_cons_succ, List.getElem_cons_zero])
          refine anyL_take (i := 16) (v := ?_) rfl (by kernel_rfl) (by kernel_rfl) (by kernel_rfl) (by kernel_rfl) (fun _ _ _ h => h) (Or.inl ⟨by rfl, ?_⟩) (by assumption) ?_
          rotate_left
          · intro w hSw; (try dsimp only at hSw); go_simp <;> with_reducible rfl
          (try simp only [Act.put, List.setIfInBounds_toArray, List.set_cons_zero, List.set_cons_succ, List.getElem_toArray, List.getElem_cons_succ, List.getElem_cons_zero])
          refine anyL_take (i := 17) (v := ?_) rfl (by kernel_rfl) (by kernel_rfl) (by kernel_rfl) (by kernel_rfl) (fun _ _ _ h => h) (Or.inl ⟨by rfl, ?_⟩) (by assumption) ?_
          rotate_left
          · intro w hSw; (try dsimp only at hSw); go_simp <;> with_reducible rfl
          (try simp only [Act.put, List.setIfInBounds_toArray, List.set_cons_zero, List.set_cons_succ, List.getElem_toArray, List.getElem_cons_succ, List.getElem_cons_zero])
          refine anyL_take (i := 18) (v := ?_) rfl (by kernel_rfl) (by kernel_rfl) (by kernel_rfl) (by kernel_rfl) (fun _ _ _ h => h) (Or.inl ⟨by rfl, ?_⟩) (by assumption) ?_
          rotate_left
          · intro w hSw; (try dsimp only at hSw); go_simp <;> with_reducible rfl
          (try simp only [Act.put, List.setIfInBounds_toArray, List.set_cons_zero, List.set_cons_succ, List.getElem_toArray, List.getElem_cons_succ, List.getElem_cons_zero])
          refine anyL_take (i := 19) (v := ?_) rfl (by kernel_rfl) (by kernel_rfl) (by kernel_rfl) (by kernel_rfl) (fun _ _ _ h => h) (Or.inl ⟨by rfl, ?_⟩) (by assumption) ?_
          rotate_left
          · intro w hSw; (try dsimp only at hSw); go_simp <;> with_reducible rfl
          (try simp only [Act.put, List.setIfInBounds_toArray, List.set_cons_zero, List.set_cons_succ, List.getElem_toArray, List.getElem_cons_succ, List.getElem_cons_zero])
          refine anyL_ready (rs := [1, 12]) (by kernel_rfl) (by simp) ?_
          refine AllL.cons rfl (fun K hK => ?_) (AllL.cons rfl (fun K hK => ?_) AllL.nil)
          · skip
            go_simp
            have hHeld := (HC9.out _ HEA.out.bl)
            refine hK.out _ _ (fun _ => hHeld) ?_
            clear hK K
            (try simp only [Act.put, List.setIfInBounds_toArray, List.set_cons_zero, List.set_cons_succ, List.getElem_toArray, List.getElem_cons_succ, List.getElem_cons_zero])
            refine anyL_ready (rs := [8, 12]) (by kernel_rfl) (by simp) ?_
            refine AllL.cons rfl (fun K hK => ?_) (AllL.cons rfl (fun K hK => ?_) AllL.nil)
            · skip
              refine step_push (by rfl) (.tmp 89) (.tmp 95) 30 (by rfl) wt.heap.size 38 Try.underlying30 II.out ⟨rfl, by decide⟩ _ 0 (flat2 []) (by rfl) HEA.out.row (some ⟨b5, o5, none⟩) k ct _ (by rfl) HF1.out HLA.out HEA.out.bl.size ?_
              intro v1 u1 hgr
              have hr := HEA.out.push hgr
              have HR1 := Lib.hid hr
              have HR1N := Lib.hid (hr.below (bl_alloc (Below.refl _ _) (.cells #[.int .i64 id, .int .i64 key] 38)))
              have HSN := Lib.hid (src4_new u1 id key)
              clear hr hgr
              have hHeld := (HC9.out _ HR1.out.bl)
              refine hK.out _ _ (fun _ => hHeld) ?_
              clear hK K
              (try simp only [Act.put, List.setIfInBounds_toArray, List.set_cons_zero, List.set_cons_succ, List.getElem_toArray, List.getElem_cons_succ, List.getElem_cons_zero])
              refine anyL_ready (rs := [12]) (by kernel_rfl) (by simp) ?_
              refine AllL.cons rfl (fun K hK => ?_) AllL.nil
              go_simp
              have hHeld := (HC9.out _ HR1N.out.bl)
              refine hK.out _ _ (fun _ => hHeld) ?_
              clear hK K
              (try simp only [Act.put, List.setIfInBounds_toArray, List.set_cons_zero, List.set_cons_succ, List.getElem_toArray, List.getElem_cons_succ, List.getElem_cons_zero])
              refine anyL_ready (rs := [13]) (by kernel_rfl) (by simp) ?_
              refine AllL.cons rfl (fun K hK => ?_) AllL.nil
              refine step_push (by rfl) (.tmp 96) (.tmp 100) 30 (by rfl) wt.heap.size 38 Try.underlying30 II.out ⟨rfl, by decide⟩ v1 (0+k) (flat2 ([] ++ List.take k ST)) (by rfl) HR1N.out.row (some ⟨u1.heap.size, 0, none⟩) 1 1 _ (by rfl) HSN.out HLB.out HR1N.out.bl.size ?_
              intro v2 u2 hgr
              have hr := HR1N.out.push hgr
              have HR2 := Lib.hid hr
              have HS3 := Lib.hid (HSR.out _ hr.bl)
              clear hr hgr
              have hHeld := (HC9.out _ HR2.out.bl)
              refine hK.out _ _ (fun _ => hHeld) ?_
              clear hK K
              (try simp only [Act.put, List.setIfInBounds_toArray, List.set_cons_zero, List.set_cons_succ, List.getElem_toArray, List.getElem_cons_succ, List.getElem_cons_zero])
              refine anyL_ready (rs := [20]) (by kernel_rfl) (by simp) ?_
              refine AllL.cons rfl (fun K hK => ?_) AllL.nil
              refine step_push (by rfl) (.tmp 101) (.tmp 107) 30 (by rfl) wt.heap.size 38 Try.underlying30 II.out ⟨rfl, by decide⟩ v2 (0+k+1) (flat2 ([] ++ List.take k ST ++ [(id, key)])) (by rfl) HR2.out.row (some ⟨b5, o5 + k * 2, none⟩) (n5-k) (ct-k) _ (by rfl) HS3.out HLC.out HR2.out.bl.size ?_
              intro v3 u3 hgr
              have hr := HR2.out.push hgr
              have HR3 := Lib.hid hr
              obtain ⟨A9, c9, hv9⟩ := hgr.val
              have hrow := hr.row
              have hpu := (hr.bl.block p (HPS.out)).trans HT.out.hd
              rw [← HN5.out] at hpu
              obtain ⟨m9, hm9⟩ : ∃ m9, m9 = 0 + k + 1 + (n5 - k) := ⟨_, rfl⟩
              rw [← hm9] at hv9 hrow
              subst hv9
              have P2 := block_cell hpu (j := 0) rfl
              have F2 := block_fr hpu 0
              have HROW := Lib.hid hrow
              have HPU := Lib.hid hpu
              have HM9 := Lib.hid hm9
              have HBL9 := Lib.hid hr.bl
              clear hgr hr hrow hpu hm9
              have hHeld := (HC9.out _ HR3.out.bl)
              refine hK.out _ _ (fun _ => hHeld) ?_
              clear hK K
              (try simp only [Act.put, List.setIfInBounds_toArray, List.set_cons_zero, List.set_cons_succ, List.getElem_toArray, List.getElem_cons_succ, List.getElem_cons_zero])
              refine anyL_take (i := 21) (v := ?_) rfl (by kernel_rfl) (by kernel_rfl) (by kernel_rfl) (by kernel_rfl) (fun _ _ _ h => h) (Or.inl ⟨by rfl, ?_⟩) (by assumption) ?_
              rotate_left
              · intro w hSw; (try dsimp only at hSw); go_simp <;> with_reducible rfl
              (try simp only [Act.put, List.setIfInBounds_toArray, List.set_cons_zero, List.set_cons_succ, List.getElem_toArray, List.getElem_cons_succ, List.getElem_cons_zero])
              refine anyL_take (i := 22) (v := ?_) rfl (by kernel_rfl) (by kernel_rfl) (by kernel_rfl) (by kernel_rfl) (fun _ _ _ h => h) (Or.inl ⟨by rfl, ?_⟩) (by assumption) ?_
              rotate_left
              · intro w hSw; (try dsimp only at hSw); go_simp <;> with_reducible rfl
              (try simp only [Act.put, List.setIfInBounds_toArray, List.set_cons_zero, List.set_cons_succ, List.getElem_toArray, List.getElem_cons_succ, List.getElem_cons_zero])
              refine anyL_ready (rs := [23]) (by kernel_rfl) (by simp) ?_
              refine AllL.cons rfl (fun K hK => ?_) AllL.nil
              go_simp
              refine hK.out _ _ (fun h => absurd rfl h) ?_
              clear hK K
              (try simp only [Act.put, List.setIfInBounds_toArray, List.set_cons_zero, List.set_cons_succ, List.getElem_toArray, List.getElem_cons_succ, List.getElem_cons_zero])
              refine anyL_done (by kernel_rfl) ?_ _
              clear P2 F2
              go_wp2_with fail
              go_ret
              have hrow := HROW.out
              have hs9 := ins_split (x := (id, key)) (S := ST) (k := k) (by rw [← HN5.out]; exact hkn) HAH.out HNA.out
              have he : [] ++ List.take k ST ++ [((id, key) : It)] ++ List.drop k ST = pushF S (id, key) := by rw [HPF.out, hs9, List.nil_append, List.append_assoc]; rfl
              rw [he] at hrow
              have hln : (pushF S (id, key)).length = m9 := by
                rw [← he]
                have := HN5.out
                have := HM9.out
                simp only [List.length_append, List.length_nil, List.length_take, List.length_cons, List.length_drop]
                omega
              have hwf : ∀ y ∈ pushF S (id, key), Wf y := fun y hy => by
                rcases pushF_ids hy with h1 | h1
                · rw [h1]; exact HX.out
                · exact HWF.out y h1
              have hor := H4.of_row hrow hln (by have := HM9.out; unfold maxLen; omega) (HPS.out) hwf HPU.out
              refine ⟨ret_bool HP.out.symm, ⟨A9, c9, hor.1, fun b' o' e => .inr (Nat.le_trans HU.out.size (hor.2 b' o' e))⟩, ?_⟩
              exact HU.out.trans (upd_setCell (F := fun b => b = p) (a := ⟨p, 0, none⟩) (Upd.of_below HBL9.out) rfl _) (fun _ _ h => h)
            · skip
              go_simp
              have hHeld := (HC9.out _ HEB.out.bl)
              refine hK.out _ _ (fun _ => hHeld) ?_
              clear hK K
              (try simp only [Act.put, List.setIfInBounds_toArray, List.set_cons_zero, List.set_cons_succ, List.getElem_toArray, List.getElem_cons_succ, List.getElem_cons_zero])
              refine anyL_ready (rs := [8]) (by kernel_rfl) (by simp) ?_
              refine AllL.cons rfl (fun K hK => ?_) AllL.nil
              refine step_push (by rfl) (.tmp 89) (.tmp 95) 30 (by rfl) wt.heap.size 38 Try.underlying30 II.out ⟨rfl, by decide⟩ _ 0 (flat2 []) (by rfl) HEB.out.row (some ⟨b5, o5, none⟩) k ct _ (by rfl) HF2.out HLA.out HEB.out.bl.size ?_
              intro v1 u1 hgr
              have hr := HEB.out.push hgr
              have HR1 := Lib.hid hr
              have HSN := Lib.hid (HN2.out.grown hgr.by_ (fun ad e e2 => by injection e with e; subst e; simp [Value.ownBlock] at e2))
              clear hr hgr
              have hHeld := (HC9.out _ HR1.out.bl)
              refine hK.out _ _ (fun _ => hHeld) ?_
              clear hK K
              (try simp only [Act.put, List.setIfInBounds_toArray, List.set_cons_zero, List.set_cons_succ, List.getElem_toArray, List.getElem_cons_succ, List.getElem_cons_zero])
              refine anyL_ready (rs := [13]) (by kernel_rfl) (by simp) ?_
              refine AllL.cons rfl (fun K hK => ?_) AllL.nil
              refine step_push (by rfl) (.tmp 96) (.tmp 100) 30 (by rfl) wt.heap.size 38 Try.underlying30 II.out ⟨rfl, by decide⟩ v1 (0+k) (flat2 ([] ++ List.take k ST)) (by rfl) HR1.out.row (some ⟨wt.heap.size + 1, 0, none⟩) 1 1 _ (by rfl) HSN.out HLB.out HR1.out.bl.size ?_
              intro v2 u2 hgr
              have hr := HR1.out.push hgr
              have HR2 := Lib.hid hr
              have HS3 := Lib.hid (HSR.out _ hr.bl)
              clear hr hgr
              have hHeld := (HC9.out _ HR2.out.bl)
              refine hK.out _ _ (fun _ => hHeld) ?_
              clear hK K
              (try simp only [Act.put, List.setIfInBounds_toArray, List.set_cons_zero, List.set_cons_succ, List.getElem_toArray, List.getElem_cons_succ, List.getElem_cons_zero])
              refine anyL_ready (rs := [20]) (by kernel_rfl) (by simp) ?_
              refine AllL.cons rfl (fun K hK => ?_) AllL.nil
              refine step_push (by rfl) (.tmp 101) (.tmp 107) 30 (by rfl) wt.heap.size 38 Try.underlying30 II.out ⟨rfl, by decide⟩ v2 (0+k+1) (flat2 ([] ++ List.take k ST ++ [(id, key)])) (by rfl) HR2.out.row (some ⟨b5, o5 + k * 2, none⟩) (n5-k) (ct-k) _ (by rfl) HS3.out HLC.out HR2.out.bl.size ?_
              intro v3 u3 hgr
              have hr := HR2.out.push hgr
              have HR3 := Lib.hid hr
              obtain ⟨A9, c9, hv9⟩ := hgr.val
              have hrow := hr.row
              have hpu := (hr.bl.block p (HPS.out)).trans HT.out.hd
              rw [← HN5.out] at hpu
              obtain ⟨m9, hm9⟩ : ∃ m9, m9 = 0 + k + 1 + (n5 - k) := ⟨_, rfl⟩
              rw [← hm9] at hv9 hrow
              subst hv9
              have P2 := block_cell hpu (j := 0) rfl
              have F2 := block_fr hpu 0
              have HROW := Lib.hid hrow
              have HPU := Lib.hid hpu
              have HM9 := Lib.hid hm9
              have HBL9 := Lib.hid hr.bl
              clear hgr hr hrow hpu hm9
              have hHeld := (HC9.out _ HR3.out.bl)
              refine hK.out _ _ (fun _ => hHeld) ?_
              clear hK K
              (try simp only [Act.put, List.setIfInBounds_toArray, List.set_cons_zero, List.set_cons_succ, List.getElem_toArray, List.getElem_cons_succ, List.getElem_cons_zero])
              refine anyL_take (i := 21) (v := ?_) rfl (by kernel_rfl) (by kernel_rfl) (by kernel_rfl) (by kernel_rfl) (fun _ _ _ h => h) (Or.inl ⟨by rfl, ?_⟩) (by assumption) ?_
              rotate_left
              · intro w hSw; (try dsimp only at hSw); go_simp <;> with_reducible rfl
              (try simp only [Act.put, List.setIfInBounds_toArray, List.set_cons_zero, List.set_cons_succ, List.getElem_toArray, List.getElem_cons_succ, List.getElem_cons_zero])
              refine anyL_take (i := 22) (v := ?_) rfl (by kernel_rfl) (by kernel_rfl) (by kernel_rfl) (by kernel_rfl) (fun _ _ _ h => h) (Or.inl ⟨by rfl, ?_⟩) (by assumption) ?_
              rotate_left
              · intro w hSw; (try dsimp only at hSw); go_simp <;> with_reducible rfl
              (try simp only [Act.put, List.setIfInBounds_toArray, List.set_cons_zero, List.set_cons_succ, List.getElem_toArray, List.getElem_cons_succ, List.getElem_cons_zero])
              refine anyL_ready (rs := [23]) (by kernel_rfl) (by simp) ?_
              refine AllL.cons rfl (fun K hK => ?_) AllL.nil
              go_simp
              refine hK.out _ _ (fun h => absurd rfl h) ?_
              clear hK K
              (try simp only [Act.put, List.setIfInBounds_toArray, List.set_cons_zero, List.set_cons_succ, List.getElem_toArray, List.getElem_cons_succ, List.getElem_cons_zero])
              refine anyL_done (by kernel_rfl) ?_ _
              clear P2 F2
              go_wp2_with fail
              go_ret
              have hrow := HROW.out
              have hs9 := ins_split (x := (id, key)) (S := ST) (k := k) (by rw [← HN5.out]; exact hkn) HAH.out HNA.out
              have he : [] ++ List.take k ST ++ [((id, key) : It)] ++ List.drop k ST = pushF S (id, key) := by rw [HPF.out, hs9, List.nil_append, List.append_assoc]; rfl
              rw [he] at hrow
              have hln : (pushF S (id, key)).length = m9 := by
                rw [← he]
                have := HN5.out
                have := HM9.out
                simp only [List.length_append, List.length_nil, List.length_take, List.length_cons, List.length_drop]
                omega
              have hwf : ∀ y ∈ pushF S (id, key), Wf y := fun y hy => by
                rcases pushF_ids hy with h1 | h1
                · rw [h1]; exact HX.out
                · exact HWF.out y h1
              have hor := H4.of_row hrow hln (by have := HM9.out; unfold maxLen; omega) (HPS.out) hwf HPU.out
              refine ⟨ret_bool HP.out.symm, ⟨A9, c9, hor.1, fun b' o' e => .inr (Nat.le_trans HU.out.size (hor.2 b' o' e))⟩, ?_⟩
              exact HU.out.trans (upd_setCell (F := fun b => b = p) (a := ⟨p, 0, none⟩) (Upd.of_below HBL9.out) rfl _) (fun _ _ h => h)
          · skip
            go_simp
            have hHeld := (HC9.out _ HNA0.out)
            refine hK.out _ _ (fun _ => hHeld) ?_
            clear hK K
            (try simp only [Act.put, List.setIfInBounds_toArray, List.set_cons_zero, List.set_cons_succ, List.getElem_toArray, List.getElem_cons_succ, List.getElem_cons_zero])
            refine anyL_ready (rs := [1]) (by kernel_rfl) (by simp) ?_
            refine AllL.cons rfl (fun K hK => ?_) AllL.nil
            go_simp
            have hHeld := (HC9.out _ HEC.out.bl)
            refine hK.out _ _ (fun _ => hHeld) ?_
            clear hK K
            (try simp only [Act.put, List.setIfInBounds_toArray, List.set_cons_zero, List.set_cons_succ, List.getElem_toArray, List.getElem_cons_succ, List.getElem_cons_zero])
            refine anyL_ready (rs := [8]) (by kernel_rfl) (by simp) ?_
            refine AllL.cons rfl (fun K hK => ?_) AllL.nil
            refine step_push (by rfl) (.tmp 89) (.tmp 95) 30 (by rfl) wt.heap.size 38 Try.underlying30 II.out ⟨rfl, by decide⟩ _ 0 (flat2 []) (by rfl) HEC.out.row (some ⟨b5, o5, none⟩) k ct _ (by rfl) HF3.out HLA.out HEC.out.bl.size ?_
            intro v1 u1 hgr
            have hr := HEC.out.push hgr
            have HR1 := Lib.hid hr
            have HSN := Lib.hid (HN3.out.grown hgr.by_ (fun ad e e2 => by injection e with e; subst e; simp [Value.ownBlock] at e2))
            clear hr hgr
            have hHeld := (HC9.out _ HR1.out.bl)
            refine hK.out _ _ (fun _ => hHeld) ?_
            clear hK K
            (try simp only [Act.put, List.setIfInBounds_toArray, List.set_cons_zero, List.set_cons_succ, List.getElem_toArray, List.getElem_cons_succ, List.getElem_cons_zero])
            refine anyL_ready (rs := [13]) (by kernel_rfl) (by simp) ?_
            refine AllL.cons rfl (fun K hK => ?_) AllL.nil
            refine step_push (by rfl) (.tmp 96) (.tmp 100) 30 (by rfl) wt.heap.size 38 Try.underlying30 II.out ⟨rfl, by decide⟩ v1 (0+k) (flat2 ([] ++ List.take k ST)) (by rfl) HR1.out.row (some ⟨wt.heap.size, 0, none⟩) 1 1 _ (by rfl) HSN.out HLB.out HR1.out.bl.size ?_
            intro v2 u2 hgr
            have hr := HR1.out.push hgr
            have HR2 := Lib.hid hr
            have HS3 := Lib.hid (HSR.out _ hr.bl)
            clear hr hgr
            have hHeld := (HC9.out _ HR2.out.bl)
            refine hK.out _ _ (fun _ => hHeld) ?_
            clear hK K
            (try simp only [Act.put, List.setIfInBounds_toArray, List.set_cons_zero, List.set_cons_succ, List.getElem_toArray, List.getElem_cons_succ, List.getElem_cons_zero])
            refine anyL_ready (rs := [20]) (by kernel_rfl) (by simp) ?_
            refine AllL.cons rfl (fun K hK => ?_) AllL.nil
            refine step_push (by rfl) (.tmp 101) (.tmp 107) 30 (by rfl) wt.heap.size 38 Try.underlying30 II.out ⟨rfl, by decide⟩ v2 (0+k+1) (flat2 ([] ++ List.take k ST ++ [(id, key)])) (by rfl) HR2.out.row (some ⟨b5, o5 + k * 2, none⟩) (n5-k) (ct-k) _ (by rfl) HS3.out HLC.out HR2.out.bl.size ?_
            intro v3 u3 hgr
            have hr := HR2.out.push hgr
            have HR3 := Lib.hid hr
            obtain ⟨A9, c9, hv9⟩ := hgr.val
            have hrow := hr.row
            have hpu := (hr.bl.block p (HPS.out)).trans HT.out.hd
            rw [← HN5.out] at hpu
            obtain ⟨m9, hm9⟩ : ∃ m9, m9 = 0 + k + 1 + (n5 - k) := ⟨_, rfl⟩
            rw [← hm9] at hv9 hrow
            subst hv9
            have P2 := block_cell hpu (j := 0) rfl
            have F2 := block_fr hpu 0
            have HROW := Lib.hid hrow
            have HPU := Lib.hid hpu
            have HM9 := Lib.hid hm9
            have HBL9 := Lib.hid hr.bl
            clear hgr hr hrow hpu hm9
            have hHeld := (HC9.out _ HR3.out.bl)
            refine hK.out _ _ (fun _ => hHeld) ?_
            clear hK K
            (try simp only [Act.put, List.setIfInBounds_toArray, List.set_cons_zero, List.set_cons_succ, List.getElem_toArray, List.getElem_cons_succ, List.getElem_cons_zero])
            refine anyL_take (i := 21) (v := ?_) rfl (by kernel_rfl) (by kernel_rfl) (by kernel_rfl) (by kernel_rfl) (fun _ _ _ h => h) (Or.inl ⟨by rfl, ?_⟩) (by assumption) ?_
            rotate_left
            · intro w hSw; (try dsimp only at hSw); go_simp <;> with_reducible rfl
            (try simp only [Act.put, List.setIfInBounds_toArray, List.set_cons_zero, List.set_cons_succ, List.getElem_toArray, List.getElem_cons_succ, List.getElem_cons_zero])
            refine anyL_take (i := 22) (v := ?_) rfl (by kernel_rfl) (by kernel_rfl) (by kernel_rfl) (by kernel_rfl) (fun _ _ _ h => h) (Or.inl ⟨by rfl, ?_⟩) (by assumption) ?_
            rotate_left
            · intro w hSw; (try dsimp only at hSw); go_simp <;> with_reducible rfl
            (try simp only [Act.put, List.setIfInBounds_toArray, List.set_cons_zero, List.set_cons_succ, List.getElem_toArray, List.getElem_cons_succ, List.getElem_cons_zero])
            refine anyL_ready (rs := [23]) (by kernel_rfl) (by simp) ?_
            refine AllL.cons rfl (fun K hK => ?_) AllL.nil
            go_simp
            refine hK.out _ _ (fun h => absurd rfl h) ?_
            clear hK K
            (try simp only [Act.put, List.setIfInBounds_toArray, List.set_cons_zero, List.set_cons_succ, List.getElem_toArray, List.getElem_cons_succ, List.getElem_cons_zero])
            refine anyL_done (by kernel_rfl) ?_ _
            clear P2 F2
            go_wp2_with fail
            go_ret
            have hrow := HROW.out
            have hs9 := ins_split (x := (id, key)) (S := ST) (k := k) (by rw [← HN5.out]; exact hkn) HAH.out HNA.out
            have he : [] ++ List.take k ST ++ [((id, key) : It)] ++ List.drop k ST = pushF S (id, key) := by rw [HPF.out, hs9, List.nil_append, List.append_assoc]; rfl
            rw [he] at hrow
            have hln : (pushF S (id, key)).length = m9 := by
              rw [← he]
              have := HN5.out
              have := HM9.out
              simp only [List.length_append, List.length_nil, List.length_take, List.length_cons, List.length_drop]
              omega
            have hwf : ∀ y ∈ pushF S (id, key), Wf y := fun y hy => by
              rcases pushF_ids hy with h1 | h1
              · rw [h1]; exact HX.out
              · exact HWF.out y h1
            have hor := H4.of_row hrow hln (by have := HM9.out; unfold maxLen; omega) (HPS.out) hwf HPU.out
            refine ⟨ret_bool HP.out.symm, ⟨A9, c9, hor.1, fun b' o' e => .inr (Nat.le_trans HU.out.size (hor.2 b' o' e))⟩, ?_⟩
            exact HU.out.trans (upd_setCell (F := fun b => b = p) (a := ⟨p, 0, none⟩) (Upd.of_below HBL9.out) rfl _) (fun _ _ h => h)
    · have hge : decide ((k : Int) < (n5 : Int)) = false := decide_eq_false (by omega)
      have hna : k < ST.length → HeapP.ahead (g ST k) (id, key) = false := fun h => by have := HN5.out; omega
      rcases HT.out.at_ with ⟨e1, e2⟩ | ⟨b5, o5, e1, _, _⟩
      · subst e1 e2
        obtain rfl : n5 = 0 := by omega
        obtain rfl : k = 0 := by omega
        have HAX : Hid (∀ b' o', 0 < 0 → (none : Option Addr) = some ⟨b', o', none⟩ → (none : Option Addr) = some ⟨b', o' + 0 * 2, none⟩) := Lib.hid (fun b' o' h _ => by omega)
        have HAH := Lib.hid hah
        have HNA := Lib.hid hna
        clear hah hna
        have HD : Hid (Below wt.heap.size wt wt.drew) := Lib.hid (bl_drew (Below.refl _ _))
        have HEA := Lib.hid (R4.build (V := wt) HD.out)
        have HEB : Hid (R4 wt ((wt.drew.alloc (.cells #[] 38)).alloc (.cells #[.int .i64 id, .int .i64 key] 38)) (.slice (some ⟨wt.heap.size, 0, none⟩) 0 0) 0 []) := Lib.hid (HEA.out.below (bl_alloc (Below.refl _ _) _))
        have HNA0 : Hid (Below wt.heap.size wt (wt.drew.alloc (.cells #[.int .i64 id, .int .i64 key] 38))) := Lib.hid (bl_alloc HD.out _)
        have hec := R4.build (V := wt) HNA0.out
        rw [show (wt.drew.alloc (.cells #[.int .i64 id, .int .i64 key] 38)).heap.size = wt.heap.size + 1 from size_alloc _ _] at hec
        have HEC := Lib.hid hec
        have hn2 := src4_new (wt.drew.alloc (.cells #[] 38)) id key
        rw [show (wt.drew.alloc (.cells #[] 38)).heap.size = wt.heap.size + 1 from size_alloc _ _] at hn2
        have HN2 := Lib.hid hn2
        have HN3 : Hid (Src ((wt.drew.alloc (.cells #[.int .i64 id, .int .i64 key] 38)).alloc (.cells #[] 38)) 2 (some ⟨wt.heap.size, 0, none⟩) 1 (flat2 [((id, key) : It)])) := Lib.hid ((src4_new wt.drew id key).below (bl_alloc (Below.refl _ _) _))
        have HSF : Hid (∀ w', Below wt.heap.size wt w' → Src w' 2 none 0 (flat2 (ST.take 0))) := Lib.hid fun w' hb => (Src.ofP (HRT.out.frontP hkn 0)).below hb
        have HSR : Hid (∀ w', Below wt.heap.size wt w' → Src w' 2 none (0 - 0) (flat2 (ST.drop 0))) := Lib.hid fun w' hb => (Src.ofP (HRT.out.restP (j := 0) (A' := none) hkn 0 HAX.out)).below hb
        have HF1 := Lib.hid (HSF.out _ HEA.out.bl)
        have HF2 := Lib.hid (HSF.out _ HEB.out.bl)
        have HF3 := Lib.hid (HSF.out _ HEC.out.bl)
        have HLA : Hid (0 + 0 ≤ maxLen ∧ (0 + 0) * 16 ≤ 140737488355328) := Lib.hid ⟨by unfold maxLen; omega, by omega⟩
        have HLB : Hid (0 + 0 + 1 ≤ maxLen ∧ (0 + 0 + 1) * 16 ≤ 140737488355328) := Lib.hid ⟨by unfold maxLen; omega, by omega⟩
        have HLC : Hid (0 + 0 + 1 + (0 - 0) ≤ maxLen ∧ (0 + 0 + 1 + (0 - 0)) * 16 ≤ 140737488355328) := Lib.hid ⟨by unfold maxLen; omega, by omega⟩
        clear hec hn2
        go_wp2_with fail
        refine wp_regionL (S := fun w' => w'.cell? ⟨p, 0, none⟩ = some (.slice none 0 0)) 23 (by kernel_rfl) (HC9.out _ HD.out) (fun hHeld => ?_)
        refine anyL_take (i := 0) (v := ?_) rfl (by kernel_rfl) (by kernel_rfl) (by kernel_rfl) (by kernel_rfl) (fun _ _ _ h => h) (Or.inl ⟨by rfl, ?_⟩) (by assumption) ?_
        rotate_left
        · intro w hSw; (try dsimp only at hSw); go_simp <;> with_reducible rfl
        (try simp only [Act.put, List.setIfInBounds_toArray, List.set_cons_zero, List.set_cons_succ, List.getElem_toArray, List.getElem_cons_succ, List.getElem_cons_zero])
        refine anyL_take (i := 2) (v := ?_) rfl (by kernel_rfl) (by kernel_rfl) (by kernel_rfl) (by kernel_rfl) (fun _ _ _ h => h) (Or.inl ⟨by rfl, ?_⟩) (by assumption) ?_
        rotate_left
        · intro w hSw; (try dsimp only at hSw); go_simp <;> with_reducible rfl
        (try simp only [Act.put, List.setIfInBounds_toArray, List.set_cons_zero, List.set_cons_succ, List.getElem_toArray, List.getElem_cons_succ, List.getElem_cons_zero])
        refine anyL_take (i := 3) (v := ?_) rfl (by kernel_rfl) (by kernel_rfl) (by kernel_rfl) (by kernel_rfl) (fun _ _ _ h => h) (Or.inl ⟨by rfl, ?_⟩) (by assumption) ?_
        rotate_left
        · intro w hSw; (try dsimp only at hSw); go_simp <;> with_reducible rfl
        (try simp only [Act.put, List.setIfInBounds_toArray, List.set_cons_zero, List.set_cons_succ, List.getElem_toArray, List.getElem_cons_succ, List.getElem_cons_zero])
        refine anyL_take (i := 4) (v := ?_) rfl (by kernel_rfl) (by kernel_rfl) (by kernel_rfl) (by kernel_rfl) (fun _ _ _ h => h) (Or.inl ⟨by rfl, ?_⟩) (by assumption) ?_
        rotate_left
        · intro w hSw; (try dsimp only at hSw); go_simp <;> with_reducible rfl
        (try simp only [Act.put, List.setIfInBounds_toArray, List.set_cons_zero, List.set_cons_succ, List.getElem_toArray, List.getElem_cons_succ, List.getElem_cons_zero])
        refine anyL_take (i := 5) (v := ?_) rfl (by kernel_rfl) (by kernel_rfl) (by kernel_rfl) (by kernel_rfl) (fun _ _ _ h => h) (Or.inl ⟨by rfl, ?_⟩) (by assumption) ?_
        rotate_left
        · intro w hSw; (try dsimp only at hSw); go_simp <;> with_reducible rfl
        (try simp only [Act.put, List.setIfInBounds_toArray, List.set_cons_zero, List.set_cons_succ, List.getElem_toArray, List.getElem_cons_succ, List.getElem_cons_zero])
        refine anyL_take (i := 6) (v := ?_) rfl (by kernel_rfl) (by kernel_rfl) (by kernel_rfl) (by kernel_rfl) (fun _ _ _ h => h) (Or.inl ⟨by rfl, ?_⟩) (by assumption) ?_
        rotate_left
        · intro w hSw; (try dsimp only at hSw); go_simp <;> with_reducible rfl
        (try simp only [Act.put, List.setIfInBounds_toArray, List.set_cons_zero, List.set_cons_succ, List.getElem_toArray, List.getElem_cons_succ, List.getElem_cons_zero])
        refine anyL_take (i := 7) (v := ?_) rfl (by kernel_rfl) (by kernel_rfl) (by kernel_rfl) (by kernel_rfl) (fun _ _ _ h => h) (Or.inl ⟨by rfl, ?_⟩) (by assumption) ?_
        rotate_left
        · intro w hSw; (try dsimp only at hSw); go_simp <;> with_reducible rfl
        (try simp only [Act.put, List.setIfInBounds_toArray, List.set_cons_zero, List.set_cons_succ, List.getElem_toArray, List.getElem_cons_succ, List.getElem_cons_zero])
        refine anyL_take (i := 9) (v := ?_) rfl (by kernel_rfl) (by kernel_rfl) (by kernel_rfl) (by kernel_rfl) (fun _ _ _ h => h) (Or.inl ⟨by rfl, ?_⟩) (by assumption) ?_
        rotate_left
        · intro w hSw; (try dsimp only at hSw); go_simp <;> with_reducible rfl
        (try simp only [Act.put, List.setIfInBounds_toArray, List.set_cons_zero, List.set_cons_succ, List.getElem_toArray, List.getElem_cons_succ, List.getElem_cons_zero])
        refine anyL_take (i := 10) (v := ?_) rfl (by kernel_rfl) (by kernel_rfl) (by kernel_rfl) (by kernel_rfl) (fun _ _ _ h => h) (Or.inl ⟨by rfl, ?_⟩) (by assumption) ?_
        rotate_left
        · intro w hSw; (try dsimp only at hSw); go_simp <;> with_reducible rfl
        (try simp only [Act.put, List.setIfInBounds_toArray, List.set_cons_zero, List.set_cons_succ, List.getElem_toArray, List.getElem_cons_succ, List.getElem_cons_zero])
        refine anyL_take (i := 11) (v := ?_) rfl (by kernel_rfl) (by kernel_rfl) (by kernel_rfl) (by kernel_rfl) (fun _ _ _ h => h) (Or.inl ⟨by rfl, ?_⟩) (by assumption) ?_
        rotate_left
        · intro w hSw; (try dsimp only at hSw); go_simp <;> with_reducible rfl
        (try simp only [Act.put, List.setIfInBounds_toArray, List.set_cons_zero, List.set_cons_succ, List.getElem_toArray, List.getElem_cons_succ, List.getElem_cons_zero])
        refine anyL_take (i := 14) (v := ?_) rfl (by kernel_rfl) (by kernel_rfl) (by kernel_rfl) (by kernel_rfl) (fun _ _ _ h => h) (Or.inl ⟨by rfl, ?_⟩) (by assumption) ?_
        rotate_left
        · intro w hSw; (try dsimp only at hSw); go_simp <;> with_reducible rfl
        (try simp only [Act.put, List.setIfInBounds_toArray, List.set_cons_zero, List.set_cons_succ, List.getElem_toArray, List.getElem_cons_succ, List.getElem_cons_zero])
        refine anyL_take (i := 15) (v := ?_) rfl (by kernel_rfl) (by kernel_rfl) (by kernel_rfl) (by kernel_rfl) (fun _ _ _ h => h) (Or.inl ⟨by rfl, ?_⟩) (by assumption) ?_
        rotate_left
        · intro w hSw; (try dsimp only at hSw); go_simp <;> with_reducible rfl
        (try simp only [Act.put, List.setIfInBounds_toArray, List.set_cons_zero, List.set_cons_succ, List.getElem_toArray, List.getElem_cons_succ, List.getElem_cons_zero])
        refine anyL_take (i := 16) (v := ?_) rfl (by kernel_rfl) (by kernel_rfl) (by kernel_rfl) (by kernel_rfl) (fun _ _ _ h => h) (Or.inl ⟨by rfl, ?_⟩) (by assumption) ?_
        rotate_left
        · intro w hSw; (try dsimp only at hSw); go_simp <;> with_reducible rfl
        (try simp only [Act.put, List.setIfInBounds_toArray, List.set_cons_zero, List.set_cons_succ, List.getElem_toArray, List.getElem_cons_succ, List.getElem_cons_zero])
        refine anyL_take (i := 17) (v := ?_) rfl (by kernel_rfl) (by kernel_rfl) (by kernel_rfl) (by kernel_rfl) (fun _ _ _ h => h) (Or.inl ⟨by rfl, ?_⟩) (by assumption) ?_
        rotate_left
        · intro w hSw; (try dsimp only at hSw); go_simp <;> with_reducible rfl
        (try simp only [Act.put, List.setIfInBounds_toArray, List.set_cons_zero, List.set_cons_succ, List.getElem_toArray, List.getElem_cons_succ, List.getElem_cons_zero])
        refine anyL_take (i := 18) (v := ?_) rfl (by kernel_rfl) (by kernel_rfl) (by kernel_rfl) (by kernel_rfl) (fun _ _ _ h => h) (Or.inl ⟨by rfl, ?_⟩) (by assumption) ?_
        rotate_left
        · intro w hSw; (try dsimp only at hSw); go_simp <;> with_reducible rfl
        (try simp only [Act.put, List.setIfInBounds_toArray, List.set_cons_zero, List.set_cons_succ, List.getElem_toArray, List.getElem_cons_succ, List.getElem_cons_zero])
        refine anyL_take (i := 19) (v := ?_) rfl (by kernel_rfl) (by kernel_rfl) (by kernel_rfl) (by kernel_rfl) (fun _ _ _ h => h) (Or.inl ⟨by rfl, ?_⟩) (by assumption) ?_
        rotate_left
        · intro w hSw; (try dsimp only at hSw); go_simp <;> with_reducible rfl
        (try simp only [Act.put, List.setIfInBounds_toArray, List.set_cons_zero, List.set_cons_succ, List.getElem_toArray, List.getElem_cons_succ, List.getElem_cons_zero])
        refine anyL_ready (rs := [1, 12]) (by kernel_rfl) (by simp) ?_
        refine AllL.cons rfl (fun K hK => ?_) (AllL.cons rfl (fun K hK => ?_) AllL.nil)
        · skip
          go_simp
          have hHeld := (HC9.out _ HEA.out.bl)
          refine hK.out _ _ (fun _ => hHeld) ?_
          clear hK K
          (try simp only [Act.put, List.setIfInBounds_toArray, List.set_cons_zero, List.set_cons_succ, List.getElem_toArray, List.getElem_cons_succ, List.getElem_cons_zero])
          refine anyL_ready (rs := [8, 12]) (by kernel_rfl) (by simp) ?_
          refine AllL.cons rfl (fun K hK => ?_) (AllL.cons rfl (fun K hK => ?_) AllL.nil)
          · skip
            refine step_push (by rfl) (.tmp 89) (.tmp 95) 30 (by rfl) wt.heap.size 38 Try.underlying30 II.out ⟨rfl, by decide⟩ _ 0 (flat2 []) (by rfl) HEA.out.row none 0 0 _ (by rfl) HF1.out HLA.out HEA.out.bl.size ?_
            intro v1 u1 hgr
            have hr := HEA.out.push hgr
            have HR1 := Lib.hid hr
            have HR1N := Lib.hid (hr.below (bl_alloc (Below.refl _ _) (.cells #[.int .i64 id, .int .i64 key] 38)))
            have HSN := Lib.hid (src4_new u1 id key)
            clear hr hgr
            have hHeld := (HC9.out _ HR1.out.bl)
            refine hK.out _ _ (fun _ => hHeld) ?_
            clear hK K
            (try simp only [Act.put, List.setIfInBounds_toArray, List.set_cons_zero, List.set_cons_succ, List.getElem_toArray, List.getElem_cons_succ, List.getElem_cons_zero])
            refine anyL_ready (rs := [12]) (by kernel_rfl) (by simp) ?_
            refine AllL.cons rfl (fun K hK => ?_) AllL.nil
            go_simp
            have hHeld := (HC9.out _ HR1N.out.bl)
            refine hK.out _ _ (fun _ => hHeld) ?_
            clear hK K
            (try simp only [Act.put, List.setIfInBounds_toArray, List.set_cons_zero, List.set_cons_succ, List.getElem_toArray, List.getElem_cons_succ, List.getElem_cons_zero])
            refine anyL_ready (rs := [13]) (by kernel_rfl) (by simp) ?_
            refine AllL.cons rfl (fun K hK => ?_) AllL.nil
            refine step_push (by rfl) (.tmp 96) (.tmp 100) 30 (by rfl) wt.heap.size 38 Try.underlying30 II.out ⟨rfl, by decide⟩ v1 (0+0) (flat2 ([] ++ List.take 0 ST)) (by rfl) HR1N.out.row (some ⟨u1.heap.size, 0, none⟩) 1 1 _ (by rfl) HSN.out HLB.out HR1N.out.bl.size ?_
            intro v2 u2 hgr
            have hr := HR1N.out.push hgr
            have HR2 := Lib.hid hr
            have HS3 := Lib.hid (HSR.out _ hr.bl)
            clear hr hgr
            have hHeld := (HC9.out _ HR2.out.bl)
            refine hK.out _ _ (fun _ => hHeld) ?_
            clear hK K
            (try simp only [Act.put, List.setIfInBounds_toArray, List.set_cons_zero, List.set_cons_succ, List.getElem_toArray, List.getElem_cons_succ, List.getElem_cons_zero])
            refine anyL_ready (rs := [20]) (by kernel_rfl) (by simp) ?_
            refine AllL.cons rfl (fun K hK => ?_) AllL.nil
            refine step_push (by rfl) (.tmp 101) (.tmp 107) 30 (by rfl) wt.heap.size 38 Try.underlying30 II.out ⟨rfl, by decide⟩ v2 (0+0+1) (flat2 ([] ++ List.take 0 ST ++ [(id, key)])) (by rfl) HR2.out.row none (0-0) 0 _ (by rfl) HS3.out HLC.out HR2.out.bl.size ?_
            intro v3 u3 hgr
            have hr := HR2.out.push hgr
            have HR3 := Lib.hid hr
            obtain ⟨A9, c9, hv9⟩ := hgr.val
            have hrow := hr.row
            have hpu := (hr.bl.block p (HPS.out)).trans HT.out.hd
            rw [← HN5.out] at hpu
            obtain ⟨m9, hm9⟩ : ∃ m9, m9 = 0 + 0 + 1 + (0 - 0) := ⟨_, rfl⟩
            rw [← hm9] at hv9 hrow
            subst hv9
            have P2 := block_cell hpu (j := 0) rfl
            have F2 := block_fr hpu 0
            have HROW := Lib.hid hrow
            have HPU := Lib.hid hpu
            have HM9 := Lib.hid hm9
            have HBL9 := Lib.hid hr.bl
            clear hgr hr hrow hpu hm9
            have hHeld := (HC9.out _ HR3.out.bl)
            refine hK.out _ _ (fun _ => hHeld) ?_
            clear hK K
            (try simp only [Act.put, List.setIfInBounds_toArray, List.set_cons_zero, List.set_cons_succ, List.getElem_toArray, List.getElem_cons_succ, List.getElem_cons_zero])
            refine anyL_take (i := 21) (v := ?_) rfl (by kernel_rfl) (by kernel_rfl) (by kernel_rfl) (by kernel_rfl) (fun _ _ _ h => h) (Or.inl ⟨by rfl, ?_⟩) (by assumption) ?_
            rotate_left
            · intro w hSw; (try dsimp only at hSw); go_simp <;> with_reducible rfl
            (try simp only [Act.put, List.setIfInBounds_toArray, List.set_cons_zero, List.set_cons_succ, List.getElem_toArray, List.getElem_cons_succ, List.getElem_cons_zero])
            refine anyL_take (i := 22) (v := ?_) rfl (by kernel_rfl) (by kernel_rfl) (by kernel_rfl) (by kernel_rfl) (fun _ _ _ h => h) (Or.inl ⟨by rfl, ?_⟩) (by assumption) ?_
            rotate_left
            · intro w hSw; (try dsimp only at hSw); go_simp <;> with_reducible rfl
            (try simp only [Act.put, List.setIfInBounds_toArray, List.set_cons_zero, List.set_cons_succ, List.getElem_toArray, List.getElem_cons_succ, List.getElem_cons_zero])
            refine anyL_ready (rs := [23]) (by kernel_rfl) (by simp) ?_
            refine AllL.cons rfl (fun K hK => ?_) AllL.nil
            go_simp
            refine hK.out _ _ (fun h => absurd rfl h) ?_
            clear hK K
            (try simp only [Act.put, List.setIfInBounds_toArray, List.set_cons_zero, List.set_cons_succ, List.getElem_toArray, List.getElem_cons_succ, List.getElem_cons_zero])
            refine anyL_done (by kernel_rfl) ?_ _
            clear P2 F2
            go_wp2_with fail
            go_ret
            have hrow := HROW.out
            have hs9 := ins_split (x := (id, key)) (S := ST) (k := 0) (by rw [← HN5.out]; exact hkn) HAH.out HNA.out
            have he : [] ++ List.take 0 ST ++ [((id, key) : It)] ++ List.drop 0 ST = pushF S (id, key) := by rw [HPF.out, hs9, List.nil_append, List.append_assoc]; rfl
            rw [he] at hrow
            have hln : (pushF S (id, key)).length = m9 := by
              rw [← he]
              have := HN5.out
              have := HM9.out
              simp only [List.length_append, List.length_nil, List.length_take, List.length_cons, List.length_drop]
              omega
            have hwf : ∀ y ∈ pushF S (id, key), Wf y := fun y hy => by
              rcases pushF_ids hy with h1 | h1
              · rw [h1]; exact HX.out
              · exact HWF.out y h1
            have hor := H4.of_row hrow hln (by have := HM9.out; unfold maxLen; omega) (HPS.out) hwf HPU.out
            refine ⟨ret_bool HP.out.symm, ⟨A9, c9, hor.1, fun b' o' e => .inr (Nat.le_trans HU.out.size (hor.2 b' o' e))⟩, ?_⟩
            exact HU.out.trans (upd_setCell (F := fun b => b = p) (a := ⟨p, 0, none⟩) (Upd.of_below HBL9.out) rfl _) (fun _ _ h => h)
          · skip
            go_simp
            have hHeld := (HC9.out _ HEB.out.bl)
            refine hK.out _ _ (fun _ => hHeld) ?_
            clear hK K
            (try simp only [Act.put, List.setIfInBounds_toArray, List.set_cons_zero, List.set_cons_succ, List.getElem_toArray, List.getElem_cons_succ, List.getElem_cons_zero])
            refine anyL_ready (rs := [8]) (by kernel_rfl) (by simp) ?_
            refine AllL.cons rfl (fun K hK => ?_) AllL.nil
            refine step_push (by rfl) (.tmp 89) (.tmp 95) 30 (by rfl) wt.heap.size 38 Try.underlying30 II.out ⟨rfl, by decide⟩ _ 0 (flat2 []) (by rfl) HEB.out.row none 0 0 _ (by rfl) HF2.out HLA.out HEB.out.bl.size ?_
            intro v1 u1 hgr
            have hr := HEB.out.push hgr
            have HR1 := Lib.hid hr
            have HSN := Lib.hid (HN2.out.grown hgr.by_ (fun ad e e2 => by injection e with e; subst e; simp [Value.ownBlock] at e2))
            clear hr hgr
            have hHeld := (HC9.out _ HR1.out.bl)
            refine hK.out _ _ (fun _ => hHeld) ?_
            clear hK K
            (try simp only [Act.put, List.setIfInBounds_toArray, List.set_cons_zero, List.set_cons_succ, List.getElem_toArray, List.getElem_cons_succ, List.getElem_cons_zero])
            refine anyL_ready (rs := [13]) (by kernel_rfl) (by simp) ?_
            refine AllL.cons rfl (fun K hK => ?_) AllL.nil
            refine step_push (by rfl) (.tmp 96) (.tmp 100) 30 (by rfl) wt.heap.size 38 Try.underlying30 II.out ⟨rfl, by decide⟩ v1 (0+0) (flat2 ([] ++ List.take 0 ST)) (by rfl) HR1.out.row (some ⟨wt.heap.size + 1, 0, none⟩) 1 1 _ (by rfl) HSN.out HLB.out HR1.out.bl.size ?_
            intro v2 u2 hgr
            have hr := HR1.out.push hgr
            have HR2 := Lib.hid hr
            have HS3 := Lib.hid (HSR.out _ hr.bl)
            clear hr hgr
            have hHeld := (HC9.out _ HR2.out.bl)
            refine hK.out _ _ (fun _ => hHeld) ?_
            clear hK K
            (try simp only [Act.put, List.setIfInBounds_toArray, List.set_cons_zero, List.set_cons_succ, List.getElem_toArray, List.getElem_cons_succ, List.getElem_cons_zero])
            refine anyL_ready (rs := [20]) (by kernel_rfl) (by simp) ?_
            refine AllL.cons rfl (fun K hK => ?_) AllL.nil
            refine step_push (by rfl) (.tmp 101) (.tmp 107) 30 (by rfl) wt.heap.size 38 Try.underlying30 II.out ⟨rfl, by decide⟩ v2 (0+0+1) (flat2 ([] ++ List.take 0 ST ++ [(id, key)])) (by rfl) HR2.out.row none (0-0) 0 _ (by rfl) HS3.out HLC.out HR2.out.bl.size ?_
            intro v3 u3 hgr
            have hr := HR2.out.push hgr
            have HR3 := Lib.hid hr
            obtain ⟨A9, c9, hv9⟩ := hgr.val
            have hrow := hr.row
            have hpu := (hr.bl.block p (HPS.out)).trans HT.out.hd
            rw [← HN5.out] at hpu
            obtain ⟨m9, hm9⟩ : ∃ m9, m9 = 0 + 0 + 1 + (0 - 0) := ⟨_, rfl⟩
            rw [← hm9] at hv9 hrow
            subst hv9
            have P2 := block_cell hpu (j := 0) rfl
            have F2 := block_fr hpu 0
            have HROW := Lib.hid hrow
            have HPU := Lib.hid hpu
            have HM9 := Lib.hid hm9
            have HBL9 := Lib.hid hr.bl
            clear hgr hr hrow hpu hm9
            have hHeld := (HC9.out _ HR3.out.bl)
            refine hK.out _ _ (fun _ => hHeld) ?_
            clear hK K
            (try simp only [Act.put, List.setIfInBounds_toArray, List.set_cons_zero, List.set_cons_succ, List.getElem_toArray, List.getElem_cons_succ, List.getElem_cons_zero])
            refine anyL_take (i := 21) (v := ?_) rfl (by kernel_rfl) (by kernel_rfl) (by kernel_rfl) (by kernel_rfl) (fun _ _ _ h => h) (Or.inl ⟨by rfl, ?_⟩) (by assumption) ?_
            rotate_left
            · intro w hSw; (try dsimp only at hSw); go_simp <;> with_reducible rfl
            (try simp only [Act.put, List.setIfInBounds_toArray, List.set_cons_zero, List.set_cons_succ, List.getElem_toArray, List.getElem_cons_succ, List.getElem_cons_zero])
            refine anyL_take (i := 22) (v := ?_) rfl (by kernel_rfl) (by kernel_rfl) (by kernel_rfl) (by kernel_rfl) (fun _ _ _ h => h) (Or.inl ⟨by rfl, ?_⟩) (by assumption) ?_
            rotate_left
            · intro w hSw; (try dsimp only at hSw); go_simp <;> with_reducible rfl
            (try simp only [Act.put, List.setIfInBounds_toArray, List.set_cons_zero, List.set_cons_succ, List.getElem_toArray, List.getElem_cons_succ, List.getElem_cons_zero])
            refine anyL_ready (rs := [23]) (by kernel_rfl) (by simp) ?_
            refine AllL.cons rfl (fun K hK => ?_) AllL.nil
            go_simp
            refine hK.out _ _ (fun h => absurd rfl h) ?_
            clear hK K
            (try simp only [Act.put, List.setIfInBounds_toArray, List.set_cons_zero, List.set_cons_succ, List.getElem_toArray, List.getElem_cons_succ, List.getElem_cons_zero])
            refine anyL_done (by kernel_rfl) ?_ _
            clear P2 F2
            go_wp2_with fail
            go_ret
            have hrow := HROW.out
            have hs9 := ins_split (x := (id, key)) (S := ST) (k := 0) (by rw [← HN5.out]; exact hkn) HAH.out HNA.out
            have he : [] ++ List.take 0 ST ++ [((id, key) : It)] ++ List.drop 0 ST = pushF S (id, key) := by rw [HPF.out, hs9, List.nil_append, List.append_assoc]; rfl
            rw [he] at hrow
            have hln : (pushF S (id, key)).length = m9 := by
              rw [← he]
              have := HN5.out
              have := HM9.out
              simp only [List.length_append, List.length_nil, List.length_take, List.length_cons, List.length_drop]
              omega
            have hwf : ∀ y ∈ pushF S (id, key), Wf y := fun y hy => by
              rcases pushF_ids hy with h1 | h1
              · rw [h1]; exact HX.out
              · exact HWF.out y h1
            have hor := H4.of_row hrow hln (by have := HM9.out; unfold maxLen; omega) (HPS.out) hwf HPU.out
            refine ⟨ret_bool HP.out.symm, ⟨A9, c9, hor.1, fun b' o' e => .inr (Nat.le_trans HU.out.size (hor.2 b' o' e))⟩, ?_⟩
            exact HU.out.trans (upd_setCell (F := fun b => b = p) (a := ⟨p, 0, none⟩) (Upd.of_below HBL9.out) rfl _) (fun _ _ h => h)
        · skip
          go_simp
          have hHeld := (HC9.out _ HNA0.out)
          refine hK.out _ _ (fun _ => hHeld) ?_
          clear hK K
          (try simp only [Act.put, List.setIfInBounds_toArray, List.set_cons_zero, List.set_cons_succ, List.getElem_toArray, List.getElem_cons_succ, List.getElem_cons_zero])
          refine anyL_ready (rs := [1]) (by kernel_rfl) (by simp) ?_
          refine AllL.cons rfl (fun K hK => ?_) AllL.nil
          go_simp
          have hHeld := (HC9.out _ HEC.out.bl)
          refine hK.out _ _ (fun _ => hHeld) ?_
          clear hK K
          (try simp only [Act.put, List.setIfInBounds_toArray, List.set_cons_zero, List.set_cons_succ, List.getElem_toArray, List.getElem_cons_succ, List.getElem_cons_zero])
          refine anyL_ready (rs := [8]) (by kernel_rfl) (by simp) ?_
          refine AllL.cons rfl (fun K hK => ?_) AllL.nil
          refine step_push (by rfl) (.tmp 89) (.tmp 95) 30 (by rfl) wt.heap.size 38 Try.underlying30 II.out ⟨rfl, by decide⟩ _ 0 (flat2 []) (by rfl) HEC.out.row none 0 0 _ (by rfl) HF3.out HLA.out HEC.out.bl.size ?_
          intro v1 u1 hgr
          have hr := HEC.out.push hgr
          have HR1 := Lib.hid hr
          have HSN := Lib.hid (HN3.out.grown hgr.by_ (fun ad e e2 => by injection e with e; subst e; simp [Value.ownBlock] at e2))
          clear hr hgr
          have hHeld := (HC9.out _ HR1.out.bl)
          refine hK.out _ _ (fun _ => hHeld) ?_
          clear hK K
          (try simp only [Act.put, List.setIfInBounds_toArray, List.set_cons_zero, List.set_cons_succ, List.getElem_toArray, List.getElem_cons_succ, List.getElem_cons_zero])
          refine anyL_ready (rs := [13]) (by kernel_rfl) (by simp) ?_
          refine AllL.cons rfl (fun K hK => ?_) AllL.nil
          refine step_push (by rfl) (.tmp 96) (.tmp 100) 30 (by rfl) wt.heap.size 38 Try.underlying30 II.out ⟨rfl, by decide⟩ v1 (0+0) (flat2 ([] ++ List.take 0 ST)) (by rfl) HR1.out.row (some ⟨wt.heap.size, 0, none⟩) 1 1 _ (by rfl) HSN.out HLB.out HR1.out.bl.size ?_
          intro v2 u2 hgr
          have hr := HR1.out.push hgr
          have HR2 := Lib.hid hr
          have HS3 := Lib.hid (HSR.out _ hr.bl)
          clear hr hgr
          have hHeld := (HC9.out _ HR2.out.bl)
          refine hK.out _ _ (fun _ => hHeld) ?_
          clear hK K
          (try simp only [Act.put, List.setIfInBounds_toArray, List.set_cons_zero, List.set_cons_succ, List.getElem_toArray, List.getElem_cons_succ, List.getElem_cons_zero])
          refine anyL_ready (rs := [20]) (by kernel_rfl) (by simp) ?_
          refine AllL.cons rfl (fun K hK => ?_) AllL.nil
          refine step_push (by rfl) (.tmp 101) (.tmp 107) 30 (by rfl) wt.heap.size 38 Try.underlying30 II.out ⟨rfl, by decide⟩ v2 (0+0+1) (flat2 ([] ++ List.take 0 ST ++ [(id, key)])) (by rfl) HR2.out.row none (0-0) 0 _ (by rfl) HS3.out HLC.out HR2.out.bl.size ?_
          intro v3 u3 hgr
          have hr := HR2.out.push hgr
          have HR3 := Lib.hid hr
          obtain ⟨A9, c9, hv9⟩ := hgr.val
          have hrow := hr.row
          have hpu := (hr.bl.block p (HPS.out)).trans HT.out.hd
          rw [← HN5.out] at hpu
          obtain ⟨m9, hm9⟩ : ∃ m9, m9 = 0 + 0 + 1 + (0 - 0) := ⟨_, rfl⟩
          rw [← hm9] at hv9 hrow
          subst hv9
          have P2 := block_cell hpu (j := 0) rfl
          have F2 := block_fr hpu 0
          have HROW := Lib.hid hrow
          have HPU := Lib.hid hpu
          have HM9 := Lib.hid hm9
          have HBL9 := Lib.hid hr.bl
          clear hgr hr hrow hpu hm9
          have hHeld := (HC9.out _ HR3.out.bl)
          refine hK.out _ _ (fun _ => hHeld) ?_
          clear hK K
          (try simp only [Act.put, List.setIfInBounds_toArray, List.set_cons_zero, List.set_cons_succ, List.getElem_toArray, List.getElem_cons_succ, List.getElem_cons_zero])
          refine anyL_take (i := 21) (v := ?_) rfl (by kernel_rfl) (by kernel_rfl) (by kernel_rfl) (by kernel_rfl) (fun _ _ _ h => h) (Or.inl ⟨by rfl, ?_⟩) (by assumption) ?_
          rotate_left
          · intro w hSw; (try dsimp only at hSw); go_simp <;> with_reducible rfl
          (try simp only [Act.put, List.setIfInBounds_toArray, List.set_cons_zero, List.set_cons_succ, List.getElem_toArray, List.getElem_cons_succ, List.getElem_cons_zero])
          refine anyL_take (i := 22) (v := ?_) rfl (by kernel_rfl) (by kernel_rfl) (by kernel_rfl) (by kernel_rfl) (fun _ _ _ h => h) (Or.inl ⟨by rfl, ?_⟩) (by assumption) ?_
          rotate_left
          · intro w hSw; (try dsimp only at hSw); go_simp <;> with_reducible rfl
          (try simp only [Act.put, List.setIfInBounds_toArray, List.set_cons_zero, List.set_cons_succ, List.getElem_toArray, List.getElem_cons_succ, List.getElem_cons_zero])
          refine anyL_ready (rs := [23]) (by kernel_rfl) (by simp) ?_
          refine AllL.cons rfl (fun K hK => ?_) AllL.nil
          go_simp
          refine hK.out _ _ (fun h => absurd rfl h) ?_
          clear hK K
          (try simp only [Act.put, List.setIfInBounds_toArray, List.set_cons_zero, List.set_cons_succ, List.getElem_toArray, List.getElem_cons_succ, List.getElem_cons_zero])
          refine anyL_done (by kernel_rfl) ?_ _
          clear P2 F2
          go_wp2_with fail
          go_ret
          have hrow := HROW.out
          have hs9 := ins_split (x := (id, key)) (S := ST) (k := 0) (by rw [← HN5.out]; exact hkn) HAH.out HNA.out
          have he : [] ++ List.take 0 ST ++ [((id, key) : It)] ++ List.drop 0 ST = pushF S (id, key) := by rw [HPF.out, hs9, List.nil_append, List.append_assoc]; rfl
          rw [he] at hrow
          have hln : (pushF S (id, key)).length = m9 := by
            rw [← he]
            have := HN5.out
            have := HM9.out
            simp only [List.length_append, List.length_nil, List.length_take, List.length_cons, List.length_drop]
            omega
          have hwf : ∀ y ∈ pushF S (id, key), Wf y := fun y hy => by
            rcases pushF_ids hy with h1 | h1
            · rw [h1]; exact HX.out
            · exact HWF.out y h1
          have hor := H4.of_row hrow hln (by have := HM9.out; unfold maxLen; omega) (HPS.out) hwf HPU.out
          refine ⟨ret_bool HP.out.symm, ⟨A9, c9, hor.1, fun b' o' e => .inr (Nat.le_trans HU.out.size (hor.2 b' o' e))⟩, ?_⟩
          exact HU.out.trans (upd_setCell (F := fun b => b = p) (a := ⟨p, 0, none⟩) (Upd.of_below HBL9.out) rfl _) (fun _ _ h => h)
      · subst e1
        by_cases hck : ct = k
        · have HAX : Hid (∀ b' o', k < n5 → some (⟨b5, o5, none⟩ : Addr) = some ⟨b', o', none⟩ → some (⟨b5, o5, none⟩ : Addr) = some ⟨b', o' + k * 2, none⟩) := Lib.hid (fun b' o' h _ => by omega)
          subst hck
          have HAH := Lib.hid hah
          have HNA := Lib.hid hna
          have hge2 : decide (ct < n5) = false := decide_eq_false hlt
          clear hah hna hlt hcap5
          have k2 : (ct : Int) ≤ (n5 : Int) := by omega
          have k5 : (0 : Int) ≤ (ct : Int) := by omega
          have HD : Hid (Below wt.heap.size wt wt.drew) := Lib.hid (bl_drew (Below.refl _ _))
          have HEA := Lib.hid (R4.build (V := wt) HD.out)
          have HEB : Hid (R4 wt ((wt.drew.alloc (.cells #[] 38)).alloc (.cells #[.int .i64 id, .int .i64 key] 38)) (.slice (some ⟨wt.heap.size, 0, none⟩) 0 0) 0 []) := Lib.hid (HEA.out.below (bl_alloc (Below.refl _ _) _))
          have HNA0 : Hid (Below wt.heap.size wt (wt.drew.alloc (.cells #[.int .i64 id, .int .i64 key] 38))) := Lib.hid (bl_alloc HD.out _)
          have hec := R4.build (V := wt) HNA0.out
          rw [show (wt.drew.alloc (.cells #[.int .i64 id, .int .i64 key] 38)).heap.size = wt.heap.size + 1 from size_alloc _ _] at hec
          have HEC := Lib.hid hec
          have hn2 := src4_new (wt.drew.alloc (.cells #[] 38)) id key
          rw [show (wt.drew.alloc (.cells #[] 38)).heap.size = wt.heap.size + 1 from size_alloc _ _] at hn2
          have HN2 := Lib.hid hn2
          have HN3 : Hid (Src ((wt.drew.alloc (.cells #[.int .i64 id, .int .i64 key] 38)).alloc (.cells #[] 38)) 2 (some ⟨wt.heap.size, 0, none⟩) 1 (flat2 [((id, key) : It)])) := Lib.hid ((src4_new wt.drew id key).below (bl_alloc (Below.refl _ _) _))
          have HSF : Hid (∀ w', Below wt.heap.size wt w' → Src w' 2 (some ⟨b5, o5, none⟩) ct (flat2 (ST.take ct))) := Lib.hid fun w' hb => (Src.ofP (HRT.out.frontP hkn ct)).below hb
          have HSR : Hid (∀ w', Below wt.heap.size wt w' → Src w' 2 (some ⟨b5, o5, none⟩) (n5 - ct) (flat2 (ST.drop ct))) := Lib.hid fun w' hb => (Src.ofP (HRT.out.restP (j := ct) (A' := (some ⟨b5, o5, none⟩)) hkn 0 HAX.out)).below hb
          have HF1 := Lib.hid (HSF.out _ HEA.out.bl)
          have HF2 := Lib.hid (HSF.out _ HEB.out.bl)
          have HF3 := Lib.hid (HSF.out _ HEC.out.bl)
          have HLA : Hid (0 + ct ≤ maxLen ∧ (0 + ct) * 16 ≤ 140737488355328) := Lib.hid ⟨by unfold maxLen; omega, by omega⟩
          have HLB : Hid (0 + ct + 1 ≤ maxLen ∧ (0 + ct + 1) * 16 ≤ 140737488355328) := Lib.hid ⟨by unfold maxLen; omega, by omega⟩
          have HLC : Hid (0 + ct + 1 + (n5 - ct) ≤ maxLen ∧ (0 + ct + 1 + (n5 - ct)) * 16 ≤ 140737488355328) := Lib.hid ⟨by unfold maxLen; omega, by omega⟩
          clear hec hn2
          go_wp2_with fail
          refine wp_regionL (S := fun w' => w'.cell? ⟨p, 0, none⟩ = some (.slice (some ⟨b5, o5, none⟩) n5 ct)) 23 (by kernel_rfl) (HC9.out _ HD.out) (fun hHeld => ?_)
          refine anyL_take (i := 0) (v := ?_) rfl (by kernel_rfl) (by kernel_rfl) (by kernel_rfl) (by kernel_rfl) (fun _ _ _ h => h) (Or.inl ⟨by rfl, ?_⟩) (by assumption) ?_
          rotate_left
          · intro w hSw; (try dsimp only at hSw); go_simp <;> with_reducible rfl
          (try simp only [Act.put, List.setIfInBounds_toArray, List.set_cons_zero, List.set_cons_succ, List.getElem_toArray, List.getElem_cons_succ, List.getElem_cons_zero])
          refine anyL_take (i := 2) (v := ?_) rfl (by kernel_rfl) (by kernel_rfl) (by kernel_rfl) (by kernel_rfl) (fun _ _ _ h => h) (Or.inl ⟨by rfl, ?_⟩) (by assumption) ?_
          rotate_left
          · intro w hSw; (try dsimp only at hSw); go_simp <;> with_reducible rfl
          (try simp only [Act.put, List.setIfInBounds_toArray, List.set_cons_zero, List.set_cons_succ, List.getElem_toArray, List.getElem_cons_succ, List.getElem_cons_zero])
          refine anyL_take (i := 3) (v := ?_) rfl (by kernel_rfl) (by kernel_rfl) (by kernel_rfl) (by kernel_rfl) (fun _ _ _ h => h) (Or.inl ⟨by rfl, ?_⟩) (by assumption) ?_
          rotate_left
          · intro w hSw; (try dsimp only at hSw); go_simp <;> with_reducible rfl
          (try simp only [Act.put, List.setIfInBounds_toArray, List.set_cons_zero, List.set_cons_succ, List.getElem_toArray, List.getElem_cons_succ, List.getElem_cons_zero])
          refine anyL_take (i := 4) (v := ?_) rfl (by kernel_rfl) (by kernel_rfl) (by kernel_rfl) (by kernel_rfl) (fun _ _ _ h => h) (Or.inl ⟨by rfl, ?_⟩) (by assumption) ?_
          rotate_left
          · intro w hSw; (try dsimp only at hSw); go_simp <;> with_reducible rfl
          (try simp only [Act.put, List.setIfInBounds_toArray, List.set_cons_zero, List.set_cons_succ, List.getElem_toArray, List.getElem_cons_succ, List.getElem_cons_zero])
          refine anyL_take (i := 5) (v := ?_) rfl (by kernel_rfl) (by kernel_rfl) (by kernel_rfl) (by kernel_rfl) (fun _ _ _ h => h) (Or.inl ⟨by rfl, ?_⟩) (by assumption) ?_
          rotate_left
          · intro w hSw; (try dsimp only at hSw); go_simp <;> with_reducible rfl
          (try simp only [Act.put, List.setIfInBounds_toArray, List.set_cons_zero, List.set_cons_succ, List.getElem_toArray, List.getElem_cons_succ, List.getElem_cons_zero])
          refine anyL_take (i := 6) (v := ?_) rfl (by kernel_rfl) (by kernel_rfl) (by kernel_rfl) (by kernel_rfl) (fun _ _ _ h => h) (Or.inl ⟨by rfl, ?_⟩) (by assumption) ?_
          rotate_left
          · intro w hSw; (try dsimp only at hSw); go_simp <;> with_reducible rfl
          (try simp only [Act.put, List.setIfInBounds_toArray, List.set_cons_zero, List.set_cons_succ, List.getElem_toArray, List.getElem_cons_succ, List.getElem_cons_zero])
          refine anyL_take (i := 7) (v := ?_) rfl (by kernel_rfl) (by kernel_rfl) (by kernel_rfl) (by kernel_rfl) (fun _ _ _ h => h) (Or.inl ⟨by rfl, ?_⟩) (by assumption) ?_
          rotate_left
          · intro w hSw; (try dsimp only at hSw); go_simp <;> with_reducible rfl
          (try simp only [Act.put, List.setIfInBounds_toArray, List.set_cons_zero, List.set_cons_succ, List.getElem_toArray, List.getElem_cons_succ, List.getElem_cons_zero])
          refine anyL_take (i := 9) (v := ?_) rfl (by kernel_rfl) (by kernel_rfl) (by kernel_rfl) (by kernel_rfl) (fun _ _ _ h => h) (Or.inl ⟨by rfl, ?_⟩) (by assumption) ?_
          rotate_left
          · intro w hSw; (try dsimp only at hSw); go_simp <;> with_reducible rfl
          (try simp only [Act.put, List.setIfInBounds_toArray, List.set_cons_zero, List.set_cons_succ, List.getElem_toArray, List.getElem_cons_succ, List.getElem_cons_zero])
          refine anyL_take (i := 10) (v := ?_) rfl (by kernel_rfl) (by kernel_rfl) (by kernel_rfl) (by kernel_rfl) (fun _ _ _ h => h) (Or.inl ⟨by rfl, ?_⟩) (by assumption) ?_
          rotate_left
          · intro w hSw; (try dsimp only at hSw); go_simp <;> with_reducible rfl
          (try simp only [Act.put, List.setIfInBounds_toArray, List.set_cons_zero, List.set_cons_succ, List.getElem_toArray, List.getElem_cons_succ, List.getElem_cons_zero])
          refine anyL_take (i := 11) (v := ?_) rfl (by kernel_rfl) (by kernel_rfl) (by kernel_rfl) (by kernel_rfl) (fun _ _ _ h => h) (Or.inl ⟨by rfl, ?_⟩) (by assumption) ?_
          rotate_left
          · intro w hSw; (try dsimp only at hSw); go_simp <;> with_reducible rfl
          (try simp only [Act.put, List.setIfInBounds_toArray, List.set_cons_zero, List.set_cons_succ, List.getElem_toArray, List.getElem_cons_succ, List.getElem_cons_zero])
          refine anyL_take (i := 14) (v := ?_) rfl (by kernel_rfl) (by kernel_rfl) (by kernel_rfl) (by kernel_rfl) (fun _ _ _ h => h) (Or.inl ⟨by rfl, ?_⟩) (by assumption) ?_
          rotate_left
          · intro w hSw; (try dsimp only at hSw); go_simp <;> with_reducible rfl
          (try simp only [Act.put, List.setIfInBounds_toArray, List.set_cons_zero, List.set_cons_succ, List.getElem_toArray, List.getElem_cons_succ, List.getElem_cons_zero])
          refine anyL_take (i := 15) (v := ?_) rfl (by kernel_rfl) (by kernel_rfl) (by kernel_rfl) (by kernel_rfl) (fun _ _ _ h => h) (Or.inl ⟨by rfl, ?_⟩) (by assumption) ?_
          rotate_left
          · intro w hSw; (try dsimp only at hSw); go_simp <;> with_reducible rfl
          (try simp only [Act.put, List.setIfInBounds_toArray, List.set_cons_zero, List.set_cons_succ, List.getElem_toArray, List.getElem_cons_succ, List.getElem_cons_zero])
          refine anyL_take (i := 16) (v := ?_) rfl (by kernel_rfl) (by kernel_rfl) (by kernel_rfl) (by kernel_rfl) (fun _ _ _ h => h) (Or.inl ⟨by rfl, ?_⟩) (by assumption) ?_
          rotate_left
          · intro w hSw; (try dsimp only at hSw); go_simp <;> with_reducible rfl
          (try simp only [Act.put, List.setIfInBounds_toArray, List.set_cons_zero, List.set_cons_succ, List.getElem_toArray, List.getElem_cons_succ, List.getElem_cons_zero])
          refine anyL_take (i := 17) (v := ?_) rfl (by kernel_rfl) (by kernel_rfl) (by kernel_rfl) (by kernel_rfl) (fun _ _ _ h => h) (Or.inl ⟨by rfl, ?_⟩) (by assumption) ?_
          rotate_left
          · intro w hSw; (try dsimp only at hSw); go_simp <;> with_reducible rfl
          (try simp only [Act.put, List.setIfInBounds_toArray, List.set_cons_zero, List.set_cons_succ, List.getElem_toArray, List.getElem_cons_succ, List.getElem_cons_zero])
          refine anyL_take (i := 18) (v := ?_) rfl (by kernel_rfl) (by kernel_rfl) (by kernel_rfl) (by kernel_rfl) (fun _ _ _ h => h) (Or.inl ⟨by rfl, ?_⟩) (by assumption) ?_
          rotate_left
          · intro w hSw; (try dsimp only at hSw); go_simp <;> with_reducible rfl
          (try simp only [Act.put, List.setIfInBounds_toArray, List.set_cons_zero, List.set_cons_succ, List.getElem_toArray, List.getElem_cons_succ, List.getElem_cons_zero])
          refine anyL_take (i := 19) (v := ?_) rfl (by kernel_rfl) (by kernel_rfl) (by kernel_rfl) (by kernel_rfl) (fun _ _ _ h => h) (Or.inl ⟨by rfl, ?_⟩) (by assumption) ?_
          rotate_left
          · intro w hSw; (try dsimp only at hSw); go_simp <;> with_reducible rfl
          (try simp only [Act.put, List.setIfInBounds_toArray, List.set_cons_zero, List.set_cons_succ, List.getElem_toArray, List.getElem_cons_succ, List.getElem_cons_zero])
          refine anyL_ready (rs := [1, 12]) (by kernel_rfl) (by simp) ?_
          refine AllL.cons rfl (fun K hK => ?_) (AllL.cons rfl (fun K hK => ?_) AllL.nil)
          · skip
            go_simp
            have hHeld := (HC9.out _ HEA.out.bl)
            refine hK.out _ _ (fun _ => hHeld) ?_
            clear hK K
            (try simp only [Act.put, List.setIfInBounds_toArray, List.set_cons_zero, List.set_cons_succ, List.getElem_toArray, List.getElem_cons_succ, List.getElem_cons_zero])
            refine anyL_ready (rs := [8, 12]) (by kernel_rfl) (by simp) ?_
            refine AllL.cons rfl (fun K hK => ?_) (AllL.cons rfl (fun K hK => ?_) AllL.nil)
            · skip
              refine step_push (by rfl) (.tmp 89) (.tmp 95) 30 (by rfl) wt.heap.size 38 Try.underlying30 II.out ⟨rfl, by decide⟩ _ 0 (flat2 []) (by rfl) HEA.out.row (some ⟨b5, o5, none⟩) ct ct _ (by rfl) HF1.out HLA.out HEA.out.bl.size ?_
              intro v1 u1 hgr
              have hr := HEA.out.push hgr
              have HR1 := Lib.hid hr
              have HR1N := Lib.hid (hr.below (bl_alloc (Below.refl _ _) (.cells #[.int .i64 id, .int .i64 key] 38)))
              have HSN := Lib.hid (src4_new u1 id key)
              clear hr hgr
              have hHeld := (HC9.out _ HR1.out.bl)
              refine hK.out _ _ (fun _ => hHeld) ?_
              clear hK K
              (try simp only [Act.put, List.setIfInBounds_toArray, List.set_cons_zero, List.set_cons_succ, List.getElem_toArray, List.getElem_cons_succ, List.getElem_cons_zero])
              refine anyL_ready (rs := [12]) (by kernel_rfl) (by simp) ?_
              refine AllL.cons rfl (fun K hK => ?_) AllL.nil
              go_simp
              have hHeld := (HC9.out _ HR1N.out.bl)
              refine hK.out _ _ (fun _ => hHeld) ?_
              clear hK K
              (try simp only [Act.put, List.setIfInBounds_toArray, List.set_cons_zero, List.set_cons_succ, List.getElem_toArray, List.getElem_cons_succ, List.getElem_cons_zero])
              refine anyL_ready (rs := [13]) (by kernel_rfl) (by simp) ?_
              refine AllL.cons rfl (fun K hK => ?_) AllL.nil
              refine step_push (by rfl) (.tmp 96) (.tmp 100) 30 (by rfl) wt.heap.size 38 Try.underlying30 II.out ⟨rfl, by decide⟩ v1 (0+ct) (flat2 ([] ++ List.take ct ST)) (by rfl) HR1N.out.row (some ⟨u1.heap.size, 0, none⟩) 1 1 _ (by rfl) HSN.out HLB.out HR1N.out.bl.size ?_
              intro v2 u2 hgr
              have hr := HR1N.out.push hgr
              have HR2 := Lib.hid hr
              have HS3 := Lib.hid (HSR.out _ hr.bl)
              clear hr hgr
              have hHeld := (HC9.out _ HR2.out.bl)
              refine hK.out _ _ (fun _ => hHeld) ?_
              clear hK K
              (try simp only [Act.put, List.setIfInBounds_toArray, List.set_cons_zero, List.set_cons_succ, List.getElem_toArray, List.getElem_cons_succ, List.getElem_cons_zero])
              refine anyL_ready (rs := [20]) (by kernel_rfl) (by simp) ?_
              refine AllL.cons rfl (fun K hK => ?_) AllL.nil
              refine step_push (by rfl) (.tmp 101) (.tmp 107) 30 (by rfl) wt.heap.size 38 Try.underlying30 II.out ⟨rfl, by decide⟩ v2 (0+ct+1) (flat2 ([] ++ List.take ct ST ++ [(id, key)])) (by rfl) HR2.out.row (some ⟨b5, o5, none⟩) (n5-ct) 0 _ (by rfl) HS3.out HLC.out HR2.out.bl.size ?_
              intro v3 u3 hgr
              have hr := HR2.out.push hgr
              have HR3 := Lib.hid hr
              obtain ⟨A9, c9, hv9⟩ := hgr.val
              have hrow := hr.row
              have hpu := (hr.bl.block p (HPS.out)).trans HT.out.hd
              rw [← HN5.out] at hpu
              obtain ⟨m9, hm9⟩ : ∃ m9, m9 = 0 + ct + 1 + (n5 - ct) := ⟨_, rfl⟩
              rw [← hm9] at hv9 hrow
              subst hv9
              have P2 := block_cell hpu (j := 0) rfl
              have F2 := block_fr hpu 0
              have HROW := Lib.hid hrow
              have HPU := Lib.hid hpu
              have HM9 := Lib.hid hm9
              have HBL9 := Lib.hid hr.bl
              clear hgr hr hrow hpu hm9
              have hHeld := (HC9.out _ HR3.out.bl)
              refine hK.out _ _ (fun _ => hHeld) ?_
              clear hK K
              (try simp only [Act.put, List.setIfInBounds_toArray, List.set_cons_zero, List.set_cons_succ, List.getElem_toArray, List.getElem_cons_succ, List.getElem_cons_zero])
              refine anyL_take (i := 21) (v := ?_) rfl (by kernel_rfl) (by kernel_rfl) (by kernel_rfl) (by kernel_rfl) (fun _ _ _ h => h) (Or.inl ⟨by rfl, ?_⟩) (by assumption) ?_
              rotate_left
              · intro w hSw; (try dsimp only at hSw); go_simp <;> with_reducible rfl
              (try simp only [Act.put, List.setIfInBounds_toArray, List.set_cons_zero, List.set_cons_succ, List.getElem_toArray, List.getElem_cons_succ, List.getElem_cons_zero])
              refine anyL_take (i := 22) (v := ?_) rfl (by kernel_rfl) (by kernel_rfl) (by kernel_rfl) (by kernel_rfl) (fun _ _ _ h => h) (Or.inl ⟨by rfl, ?_⟩) (by assumption) ?_
              rotate_left
              · intro w hSw; (try dsimp only at hSw); go_simp <;> with_reducible rfl
              (try simp only [Act.put, List.setIfInBounds_toArray, List.set_cons_zero, List.set_cons_succ, List.getElem_toArray, List.getElem_cons_succ, List.getElem_cons_zero])
              refine anyL_ready (rs := [23]) (by kernel_rfl) (by simp) ?_
              refine AllL.cons rfl (fun K hK => ?_) AllL.nil
              go_simp
              refine hK.out _ _ (fun h => absurd rfl h) ?_
              clear hK K
              (try simp only [Act.put, List.setIfInBounds_toArray, List.set_cons_zero, List.set_cons_succ, List.getElem_toArray, List.getElem_cons_succ, List.getElem_cons_zero])
              refine anyL_done (by kernel_rfl) ?_ _
              clear P2 F2
              go_wp2_with fail
              go_ret
              have hrow := HROW.out
              have hs9 := ins_split (x := (id, key)) (S := ST) (k := ct) (by rw [← HN5.out]; exact hkn) HAH.out HNA.out
              have he : [] ++ List.take ct ST ++ [((id, key) : It)] ++ List.drop ct ST = pushF S (id, key) := by rw [HPF.out, hs9, List.nil_append, List.append_assoc]; rfl
              rw [he] at hrow
              have hln : (pushF S (id, key)).length = m9 := by
                rw [← he]
                have := HN5.out
                have := HM9.out
                simp only [List.length_append, List.length_nil, List.length_take, List.length_cons, List.length_drop]
                omega
              have hwf : ∀ y ∈ pushF S (id, key), Wf y := fun y hy => by
                rcases pushF_ids hy with h1 | h1
                · rw [h1]; exact HX.out
                · exact HWF.out y h1
              have hor := H4.of_row hrow hln (by have := HM9.out; unfold maxLen; omega) (HPS.out) hwf HPU.out
              refine ⟨ret_bool HP.out.symm, ⟨A9, c9, hor.1, fun b' o' e => .inr (Nat.le_trans HU.out.size (hor.2 b' o' e))⟩, ?_⟩
              exact HU.out.trans (upd_setCell (F := fun b => b = p) (a := ⟨p, 0, none⟩) (Upd.of_below HBL9.out) rfl _) (fun _ _ h => h)
            · skip
              go_simp
              have hHeld := (HC9.out _ HEB.out.bl)
              refine hK.out _ _ (fun _ => hHeld) ?_
              clear hK K
              (try simp only [Act.put, List.setIfInBounds_toArray, List.set_cons_zero, List.set_cons_succ, List.getElem_toArray, List.getElem_cons_succ, List.getElem_cons_zero])
              refine anyL_ready (rs := [8]) (by kernel_rfl) (by simp) ?_
              refine AllL.cons rfl (fun K hK => ?_) AllL.nil
              refine step_push (by rfl) (.tmp 89) (.tmp 95) 30 (by rfl) wt.heap.size 38 Try.underlying30 II.out ⟨rfl, by decide⟩ _ 0 (flat2 []) (by rfl) HEB.out.row (some ⟨b5, o5, none⟩) ct ct _ (by rfl) HF2.out HLA.out HEB.out.bl.size ?_
              intro v1 u1 hgr
              have hr := HEB.out.push hgr
              have HR1 := Lib.hid hr
              have HSN := Lib.hid (HN2.out.grown hgr.by_ (fun ad e e2 => by injection e with e; subst e; simp [Value.ownBlock] at e2))
              clear hr hgr
              have hHeld := (HC9.out _ HR1.out.bl)
              refine hK.out _ _ (fun _ => hHeld) ?_
              clear hK K
              (try simp only [Act.put, List.setIfInBounds_toArray, List.set_cons_zero, List.set_cons_succ, List.getElem_toArray, List.getElem_cons_succ, List.getElem_cons_zero])
              refine anyL_ready (rs := [13]) (by kernel_rfl) (by simp) ?_
              refine AllL.cons rfl (fun K hK => ?_) AllL.nil
              refine step_push (by rfl) (.tmp 96) (.tmp 100) 30 (by rfl) wt.heap.size 38 Try.underlying30 II.out ⟨rfl, by decide⟩ v1 (0+ct) (flat2 ([] ++ List.take ct ST)) (by rfl) HR1.out.row (some ⟨wt.heap.size + 1, 0, none⟩) 1 1 _ (by rfl) HSN.out HLB.out HR1.out.bl.size ?_
              intro v2 u2 hgr
              have hr := HR1.out.push hgr
              have HR2 := Lib.hid hr
              have HS3 := Lib.hid (HSR.out _ hr.bl)
              clear hr hgr
              have hHeld := (HC9.out _ HR2.out.bl)
              refine hK.out _ _ (fun _ => hHeld) ?_
              clear hK K
              (try simp only [Act.put, List.setIfInBounds_toArray, List.set_cons_zero, List.set_cons_succ, List.getElem_toArray, List.getElem_cons_succ, List.getElem_cons_zero])
              refine anyL_ready (rs := [20]) (by kernel_rfl) (by simp) ?_
              refine AllL.cons rfl (fun K hK => ?_) AllL.nil
              refine step_push (by rfl) (.tmp 101) (.tmp 107) 30 (by rfl) wt.heap.size 38 Try.underlying30 II.out ⟨rfl, by decide⟩ v2 (0+ct+1) (flat2 ([] ++ List.take ct ST ++ [(id, key)])) (by rfl) HR2.out.row (some ⟨b5, o5, none⟩) (n5-ct) 0 _ (by rfl) HS3.out HLC.out HR2.out.bl.size ?_
              intro v3 u3 hgr
              have hr := HR2.out.push hgr
              have HR3 := Lib.hid hr
              obtain ⟨A9, c9, hv9⟩ := hgr.val
              have hrow := hr.row
              have hpu := (hr.bl.block p (HPS.out)).trans HT.out.hd
              rw [← HN5.out] at hpu
              obtain ⟨m9, hm9⟩ : ∃ m9, m9 = 0 + ct + 1 + (n5 - ct) := ⟨_, rfl⟩
              rw [← hm9] at hv9 hrow
              subst hv9
              have P2 := block_cell hpu (j := 0) rfl
              have F2 := block_fr hpu 0
              have HROW := Lib.hid hrow
              have HPU := Lib.hid hpu
              have HM9 := Lib.hid hm9
              have HBL9 := Lib.hid hr.bl
              clear hgr hr hrow hpu hm9
              have hHeld := (HC9.out _ HR3.out.bl)
              refine hK.out _ _ (fun _ => hHeld) ?_
              clear hK K
              (try simp only [Act.put, List.setIfInBounds_toArray, List.set_cons_zero, List.set_cons_succ, List.getElem_toArray, List.getElem_cons_succ, List.getElem_cons_zero])
              refine anyL_take (i := 21) (v := ?_) rfl (by kernel_rfl) (by kernel_rfl) (by kernel_rfl) (by kernel_rfl) (fun _ _ _ h => h) (Or.inl ⟨by rfl, ?_⟩) (by assumption) ?_
              rotate_left
              · intro w hSw; (try dsimp only at hSw); go_simp <;> with_reducible rfl
              (try simp only [Act.put, List.setIfInBounds_toArray, List.set_cons_zero, List.set_cons_succ, List.getElem_toArray, List.getElem_cons_succ, List.getElem_cons_zero])
              refine anyL_take (i := 22) (v := ?_) rfl (by kernel_rfl) (by kernel_rfl) (by kernel_rfl) (by kernel_rfl) (fun _ _ _ h => h) (Or.inl ⟨by rfl, ?_⟩) (by assumption) ?_
              rotate_left
              · intro w hSw; (try dsimp only at hSw); go_simp <;> with_reducible rfl
              (try simp only [Act.put, List.setIfInBounds_toArray, List.set_cons_zero, List.set_cons_succ, List.getElem_toArray, List.getElem_cons_succ, List.getElem_cons_zero])
              refine anyL_ready (rs := [23]) (by kernel_rfl) (by simp) ?_
              refine AllL.cons rfl (fun K hK => ?_) AllL.nil
              go_simp
              refine hK.out _ _ (fun h => absurd rfl h) ?_
              clear hK K
              (try simp only [Act.put, List.setIfInBounds_toArray, List.set_cons_zero, List.set_cons_succ, List.getElem_toArray, List.getElem_cons_succ, List.getElem_cons_zero])
              refine anyL_done (by kernel_rfl) ?_ _
              clear P2 F2
              go_wp2_with fail
              go_ret
              have hrow := HROW.out
              have hs9 := ins_split (x := (id, key)) (S := ST) (k := ct) (by rw [← HN5.out]; exact hkn) HAH.out HNA.out
              have he : [] ++ List.take ct ST ++ [((id, key) : It)] ++ List.drop ct ST = pushF S (id, key) := by rw [HPF.out, hs9, List.nil_append, List.append_assoc]; rfl
              rw [he] at hrow
              have hln : (pushF S (id, key)).length = m9 := by
                rw [← he]
                have := HN5.out
                have := HM9.out
                simp only [List.length_append, List.length_nil, List.length_take, List.length_cons, List.length_drop]
                omega
              have hwf : ∀ y ∈ pushF S (id, key), Wf y := fun y hy => by
                rcases pushF_ids hy with h1 | h1
                · rw [h1]; exact HX.out
                · exact HWF.out y h1
              have hor := H4.of_row hrow hln (by have := HM9.out; unfold maxLen; omega) (HPS.out) hwf HPU.out
              refine ⟨ret_bool HP.out.symm, ⟨A9, c9, hor.1, fun b' o' e => .inr (Nat.le_trans HU.out.size (hor.2 b' o' e))⟩, ?_⟩
              exact HU.out.trans (upd_setCell (F := fun b => b = p) (a := ⟨p, 0, none⟩) (Upd.of_below HBL9.out) rfl _) (fun _ _ h => h)
          · skip
            go_simp
            have hHeld := (HC9.out _ HNA0.out)
            refine hK.out _ _ (fun _ => hHeld) ?_
            clear hK K
            (try simp only [Act.put, List.setIfInBounds_toArray, List.set_cons_zero, List.set_cons_succ, List.getElem_toArray, List.getElem_cons_succ, List.getElem_cons_zero])
            refine anyL_ready (rs := [1]) (by kernel_rfl) (by simp) ?_
            refine AllL.cons rfl (fun K hK => ?_) AllL.nil
            go_simp
            have hHeld := (HC9.out _ HEC.out.bl)
            refine hK.out _ _ (fun _ => hHeld) ?_
            clear hK K
            (try simp only [Act.put, List.setIfInBounds_toArray, List.set_cons_zero, List.set_cons_succ, List.getElem_toArray, List.getElem_cons_succ, List.getElem_cons_zero])
            refine anyL_ready (rs := [8]) (by kernel_rfl) (by simp) ?_
            refine AllL.cons rfl (fun K hK => ?_) AllL.nil
            refine step_push (by rfl) (.tmp 89) (.tmp 95) 30 (by rfl) wt.heap.size 38 Try.underlying30 II.out ⟨rfl, by decide⟩ _ 0 (flat2 []) (by rfl) HEC.out.row (some ⟨b5, o5, none⟩) ct ct _ (by rfl) HF3.out HLA.out HEC.out.bl.size ?_
            intro v1 u1 hgr
            have hr := HEC.out.push hgr
            have HR1 := Lib.hid hr
            have HSN := Lib.hid (HN3.out.grown hgr.by_ (fun ad e e2 => by injection e with e; subst e; simp [Value.ownBlock] at e2))
            clear hr hgr
            have hHeld := (HC9.out _ HR1.out.bl)
            refine hK.out _ _ (fun _ => hHeld) ?_
            clear hK K
            (try simp only [Act.put, List.setIfInBounds_toArray, List.set_cons_zero, List.set_cons_succ, List.getElem_toArray, List.getElem_cons_succ, List.getElem_cons_zero])
            refine anyL_ready (rs := [13]) (by kernel_rfl) (by simp) ?_
            refine AllL.cons rfl (fun K hK => ?_) AllL.nil
            refine step_push (by rfl) (.tmp 96) (.tmp 100) 30 (by rfl) wt.heap.size 38 Try.underlying30 II.out ⟨rfl, by decide⟩ v1 (0+ct) (flat2 ([] ++ List.take ct ST)) (by rfl) HR1.out.row (some ⟨wt.heap.size, 0, none⟩) 1 1 _ (by rfl) HSN.out HLB.out HR1.out.bl.size ?_
            intro v2 u2 hgr
            have hr := HR1.out.push hgr
            have HR2 := Lib.hid hr
            have HS3 := Lib.hid (HSR.out _ hr.bl)
            clear hr hgr
            have hHeld := (HC9.out _ HR2.out.bl)
            refine hK.out _ _ (fun _ => hHeld) ?_
            clear hK K
            (try simp only [Act.put, List.setIfInBounds_toArray, List.set_cons_zero, List.set_cons_succ, List.getElem_toArray, List.getElem_cons_succ, List.getElem_cons_zero])
            refine anyL_ready (rs := [20]) (by kernel_rfl) (by simp) ?_
            refine AllL.cons rfl (fun K hK => ?_) AllL.nil
            refine step_push (by rfl) (.tmp 101) (.tmp 107) 30 (by rfl) wt.heap.size 38 Try.underlying30 II.out ⟨rfl, by decide⟩ v2 (0+ct+1) (flat2 ([] ++ List.take ct ST ++ [(id, key)])) (by rfl) HR2.out.row (some ⟨b5, o5, none⟩) (n5-ct) 0 _ (by rfl) HS3.out HLC.out HR2.out.bl.size ?_
            intro v3 u3 hgr
            have hr := HR2.out.push hgr
            have HR3 := Lib.hid hr
            obtain ⟨A9, c9, hv9⟩ := hgr.val
            have hrow := hr.row
            have hpu := (hr.bl.block p (HPS.out)).trans HT.out.hd
            rw [← HN5.out] at hpu
            obtain ⟨m9, hm9⟩ : ∃ m9, m9 = 0 + ct + 1 + (n5 - ct) := ⟨_, rfl⟩
            rw [← hm9] at hv9 hrow
            subst hv9
            have P2 := block_cell hpu (j := 0) rfl
            have F2 := block_fr hpu 0
            have HROW := Lib.hid hrow
            have HPU := Lib.hid hpu
            have HM9 := Lib.hid hm9
            have HBL9 := Lib.hid hr.bl
            clear hgr hr hrow hpu hm9
            have hHeld := (HC9.out _ HR3.out.bl)
            refine hK.out _ _ (fun _ => hHeld) ?_
            clear hK K
            (try simp only [Act.put, List.setIfInBounds_toArray, List.set_cons_zero, List.set_cons_succ, List.getElem_toArray, List.getElem_cons_succ, List.getElem_cons_zero])
            refine anyL_take (i := 21) (v := ?_) rfl (by kernel_rfl) (by kernel_rfl) (by kernel_rfl) (by kernel_rfl) (fun _ _ _ h => h) (Or.inl ⟨by rfl, ?_⟩) (by assumption) ?_
            rotate_left
            · intro w hSw; (try dsimp only at hSw); go_simp <;> with_reducible rfl
            (try simp only [Act.put, List.setIfInBounds_toArray, List.set_cons_zero, List.set_cons_succ, List.getElem_toArray, List.getElem_cons_succ, List.getElem_cons_zero])
            refine anyL_take (i := 22) (v := ?_) rfl (by kernel_rfl) (by kernel_rfl) (by kernel_rfl) (by kernel_rfl) (fun _ _ _ h => h) (Or.inl ⟨by rfl, ?_⟩) (by assumption) ?_
            rotate_left
            · intro w hSw; (try dsimp only at hSw); go_simp <;> with_reducible rfl
            (try simp only [Act.put, List.setIfInBounds_toArray, List.set_cons_zero, List.set_cons_succ, List.getElem_toArray, List.getElem_cons_succ, List.getElem_cons_zero])
            refine anyL_ready (rs := [23]) (by kernel_rfl) (by simp) ?_
            refine AllL.cons rfl (fun K hK => ?_) AllL.nil
            go_simp
            refine hK.out _ _ (fun h => absurd rfl h) ?_
            clear hK K
            (try simp only [Act.put, List.setIfInBounds_toArray, List.set_cons_zero, List.set_cons_succ, List.getElem_toArray, List.getElem_cons_succ, List.getElem_cons_zero])
            refine anyL_done (by kernel_rfl) ?_ _
            clear P2 F2
            go_wp2_with fail
            go_ret
            have hrow := HROW.out
            have hs9 := ins_split (x := (id, key)) (S := ST) (k := ct) (by rw [← HN5.out]; exact hkn) HAH.out HNA.out
            have he : [] ++ List.take ct ST ++ [((id, key) : It)] ++ List.drop ct ST = pushF S (id, key) := by rw [HPF.out, hs9, List.nil_append, List.append_assoc]; rfl
            rw [he] at hrow
            have hln : (pushF S (id, key)).length = m9 := by
              rw [← he]
              have := HN5.out
              have := HM9.out
              simp only [List.length_append, List.length_nil, List.length_take, List.length_cons, List.length_drop]
              omega
            have hwf : ∀ y ∈ pushF S (id, key), Wf y := fun y hy => by
              rcases pushF_ids hy with h1 | h1
              · rw [h1]; exact HX.out
              · exact HWF.out y h1
            have hor := H4.of_row hrow hln (by have := HM9.out; unfold maxLen; omega) (HPS.out) hwf HPU.out
            refine ⟨ret_bool HP.out.symm, ⟨A9, c9, hor.1, fun b' o' e => .inr (Nat.le_trans HU.out.size (hor.2 b' o' e))⟩, ?_⟩
            exact HU.out.trans (upd_setCell (F := fun b => b = p) (a := ⟨p, 0, none⟩) (Upd.of_below HBL9.out) rfl _) (fun _ _ h => h)
        · have HAX : Hid (∀ b' o', k < n5 → some (⟨b5, o5, none⟩ : Addr) = some ⟨b', o', none⟩ → some (⟨b5, o5 + k * 2, none⟩ : Addr) = some ⟨b', o' + k * 2, none⟩) := Lib.hid (fun b' o' _ e => by injection e with e; injection e with e1 e2 _; subst e1 e2; rfl)
          have HAH := Lib.hid hah
          have HNA : Hid (k < ST.length → HeapP.ahead (g ST k) (id, key) = false) := Lib.hid hna
          clear hah hna
          have k2 : (k : Int) ≤ (n5 : Int) := by omega
          have k3 : (k : Int) ≤ (ct : Int) := by omega
          have k4 : k ≤ ct := by omega
          have k5 : (0 : Int) ≤ (k : Int) := by omega
          have HD : Hid (Below wt.heap.size wt wt.drew) := Lib.hid (bl_drew (Below.refl _ _))
          have HEA := Lib.hid (R4.build (V := wt) HD.out)
          have HEB : Hid (R4 wt ((wt.drew.alloc (.cells #[] 38)).alloc (.cells #[.int .i64 id, .int .i64 key] 38)) (.slice (some ⟨wt.heap.size, 0, none⟩) 0 0) 0 []) := Lib.hid (HEA.out.below (bl_alloc (Below.refl _ _) _))
          have HNA0 : Hid (Below wt.heap.size wt (wt.drew.alloc (.cells #[.int .i64 id, .int .i64 key] 38))) := Lib.hid (bl_alloc HD.out _)
          have hec := R4.build (V := wt) HNA0.out
          rw [show (wt.drew.alloc (.cells #[.int .i64 id, .int .i64 key] 38)).heap.size = wt.heap.size + 1 from size_alloc _ _] at hec
          have HEC := Lib.hid hec
          have hn2 := src4_new (wt.drew.alloc (.cells #[] 38)) id key
          rw [show (wt.drew.alloc (.cells #[] 38)).heap.size = wt.heap.size + 1 from size_alloc _ _] at hn2
          have HN2 := Lib.hid hn2
          have HN3 : Hid (Src ((wt.drew.alloc (.cells #[.int .i64 id, .int .i64 key] 38)).alloc (.cells #[] 38)) 2 (some ⟨wt.heap.size, 0, none⟩) 1 (flat2 [((id, key) : It)])) := Lib.hid ((src4_new wt.drew id key).below (bl_alloc (Below.refl _ _) _))
          have HSF : Hid (∀ w', Below wt.heap.size wt w' → Src w' 2 (some ⟨b5, o5, none⟩) k (flat2 (ST.take k))) := Lib.hid fun w' hb => (Src.ofP (HRT.out.frontP hkn ct)).below hb
          have HSR : Hid (∀ w', Below wt.heap.size wt w' → Src w' 2 (some ⟨b5, o5 + k * 2, none⟩) (n5 - k) (flat2 (ST.drop k))) := Lib.hid fun w' hb => (Src.ofP (HRT.out.restP (j := k) (A' := (some ⟨b5, o5 + k * 2, none⟩)) hkn (ct-k) HAX.out)).below hb
          have HF1 := Lib.hid (HSF.out _ HEA.out.bl)
          have HF2 := Lib.hid (HSF.out _ HEB.out.bl)
          have HF3 := Lib.hid (HSF.out _ HEC.out.bl)
          have HLA : Hid (0 + k ≤ maxLen ∧ (0 + k) * 16 ≤ 140737488355328) := Lib.hid ⟨by unfold maxLen; omega, by omega⟩
          have HLB : Hid (0 + k + 1 ≤ maxLen ∧ (0 + k + 1) * 16 ≤ 140737488355328) := Lib.hid ⟨by unfold maxLen; omega, by omega⟩
          have HLC : Hid (0 + k + 1 + (n5 - k) ≤ maxLen ∧ (0 + k + 1 + (n5 - k)) * 16 ≤ 140737488355328) := Lib.hid ⟨by unfold maxLen; omega, by omega⟩
          clear hec hn2
          go_wp2_with fail
          refine wp_regionL (S := fun w' => w'.cell? ⟨p, 0, none⟩ = some (.slice (some ⟨b5, o5, none⟩) n5 ct)) 23 (by kernel_rfl) (HC9.out _ HD.out) (fun hHeld => ?_)
          refine anyL_take (i := 0) (v := ?_) rfl (by kernel_rfl) (by kernel_rfl) (by kernel_rfl) (by kernel_rfl) (fun _ _ _ h => h) (Or.inl ⟨by rfl, ?_⟩) (by assumption) ?_
          rotate_left
          · intro w hSw; (try dsimp only at hSw); go_simp <;> with_reducible rfl
          (try simp only [Act.put, List.setIfInBounds_toArray, List.set_cons_zero, List.set_cons_succ, List.getElem_toArray, List.getElem_cons_succ, List.getElem_cons_zero])
          refine anyL_take (i := 2) (v := ?_) rfl (by kernel_rfl) (by kernel_rfl) (by kernel_rfl) (by kernel_rfl) (fun _ _ _ h => h) (Or.inl ⟨by rfl, ?_⟩) (by assumption) ?_
          rotate_left
          · intro w hSw; (try dsimp only at hSw); go_simp <;> with_reducible rfl
          (try simp only [Act.put, List.setIfInBounds_toArray, List.set_cons_zero, List.set_cons_succ, List.getElem_toArray, List.getElem_cons_succ, List.getElem_cons_zero])
          refine anyL_take (i := 3) (v := ?_) rfl (by kernel_rfl) (by kernel_rfl) (by kernel_rfl) (by kernel_rfl) (fun _ _ _ h => h) (Or.inl ⟨by rfl, ?_⟩) (by assumption) ?_
          rotate_left
          · intro w hSw; (try dsimp only at hSw); go_simp <;> with_reducible rfl
          (try simp only [Act.put, List.setIfInBounds_toArray, List.set_cons_zero, List.set_cons_succ, List.getElem_toArray, List.getElem_cons_succ, List.getElem_cons_zero])
          refine anyL_take (i := 4) (v := ?_) rfl (by kernel_rfl) (by kernel_rfl) (by kernel_rfl) (by kernel_rfl) (fun _ _ _ h => h) (Or.inl ⟨by rfl, ?_⟩) (by assumption) ?_
          rotate_left
          · intro w hSw; (try dsimp only at hSw); go_simp <;> with_reducible rfl
          (try simp only [Act.put, List.setIfInBounds_toArray, List.set_cons_zero, List.set_cons_succ, List.getElem_toArray, List.getElem_cons_succ, List.getElem_cons_zero])
          refine anyL_take (i := 5) (v := ?_) rfl (by kernel_rfl) (by kernel_rfl) (by kernel_rfl) (by kernel_rfl) (fun _ _ _ h => h) (Or.inl ⟨by rfl, ?_⟩) (by assumption) ?_
          rotate_left
          · intro w hSw; (try dsimp only at hSw); go_simp <;> with_reducible rfl
          (try simp only [Act.put, List.setIfInBounds_toArray, List.set_cons_zero, List.set_cons_succ, List.getElem_toArray, List.getElem_cons_succ, List.getElem_cons_zero])
          refine anyL_take (i := 6) (v := ?_) rfl (by kernel_rfl) (by kernel_rfl) (by kernel_rfl) (by kernel_rfl) (fun _ _ _ h => h) (Or.inl ⟨by rfl, ?_⟩) (by assumption) ?_
          rotate_left
          · intro w hSw; (try dsimp only at hSw); go_simp <;> with_reducible rfl
          (try simp only [Act.put, List.setIfInBounds_toArray, List.set_cons_zero, List.set_cons_succ, List.getElem_toArray, List.getElem_cons_succ, List.getElem_cons_zero])
          refine anyL_take (i := 7) (v := ?_) rfl (by kernel_rfl) (by kernel_rfl) (by kernel_rfl) (by kernel_rfl) (fun _ _ _ h => h) (Or.inl ⟨by rfl, ?_⟩) (by assumption) ?_
          rotate_left
          · intro w hSw; (try dsimp only at hSw); go_simp <;> with_reducible rfl
          (try simp only [Act.put, List.setIfInBounds_toArray, List.set_cons_zero, List.set_cons_succ, List.getElem_toArray, List.getElem_cons_succ, List.getElem_cons_zero])
          refine anyL_take (i := 9) (v := ?_) rfl (by kernel_rfl) (by kernel_rfl) (by kernel_rfl) (by kernel_rfl) (fun _ _ _ h => h) (Or.inl ⟨by rfl, ?_⟩) (by assumption) ?_
          rotate_left
          · intro w hSw; (try dsimp only at hSw); go_simp <;> with_reducible rfl
          (try simp only [Act.put, List.setIfInBounds_toArray, List.set_cons_zero, List.set_cons_succ, List.getElem_toArray, List.getElem_cons_succ, List.getElem_cons_zero])
          refine anyL_take (i := 10) (v := ?_) rfl (by kernel_rfl) (by kernel_rfl) (by kernel_rfl) (by kernel_rfl) (fun _ _ _ h => h) (Or.inl ⟨by rfl, ?_⟩) (by assumption) ?_
          rotate_left
          · intro w hSw; (try dsimp only at hSw); go_simp <;> with_reducible rfl
          (try simp only [Act.put, List.setIfInBounds_toArray, List.set_cons_zero, List.set_cons_succ, List.getElem_toArray, List.getElem_cons_succ, List.getElem_cons_zero])
          refine anyL_take (i := 11) (v := ?_) rfl (by kernel_rfl) (by kernel_rfl) (by kernel_rfl) (by kernel_rfl) (fun _ _ _ h => h) (Or.inl ⟨by rfl, ?_⟩) (by assumption) ?_
          rotate_left
          · intro w hSw; (try dsimp only at hSw); go_simp <;> with_reducible rfl
          (try simp only [Act.put, List.setIfInBounds_toArray, List.set_cons_zero, List.set_cons_succ, List.getElem_toArray, List.getElem_cons_succ, List.getElem_cons_zero])
          refine anyL_take (i := 14) (v := ?_) rfl (by kernel_rfl) (by kernel_rfl) (by kernel_rfl) (by kernel_rfl) (fun _ _ _ h => h) (Or.inl ⟨by rfl, ?_⟩) (by assumption) ?_
          rotate_left
          · intro w hSw; (try dsimp only at hSw); go_simp <;> with_reducible rfl
          (try simp only [Act.put, List.setIfInBounds_toArray, List.set_cons_zero, List.set_cons_succ, List.getElem_toArray, List.getElem_cons_succ, List.getElem_cons_zero])
          refine anyL_take (i := 15) (v := ?_) rfl (by kernel_rfl) (by kernel_rfl) (by kernel_rfl) (by kernel_rfl) (fun _ _ _ h => h) (Or.inl ⟨by rfl, ?_⟩) (by assumption) ?_
          rotate_left
          · intro w hSw; (try dsimp only at hSw); go_simp <;> with_reducible rfl
          (try simp only [Act.put, List.setIfInBounds_toArray, List.set_cons_zero, List.set_cons_succ, List.getElem_toArray, List.getElem_cons_succ, List.getElem_cons_zero])
          refine anyL_take (i := 16) (v := ?_) rfl (by kernel_rfl) (by kernel_rfl) (by kernel_rfl) (by kernel_rfl) (fun _ _ _ h => h) (Or.inl ⟨by rfl, ?_⟩) (by assumption) ?_
          rotate_left
          · intro w hSw; (try dsimp only at hSw); go_simp <;> with_reducible rfl
          (try simp only [Act.put, List.setIfInBounds_toArray, List.set_cons_zero, List.set_cons_succ, List.getElem_toArray, List.getElem_cons_succ, List.getElem_cons_zero])
          refine anyL_take (i := 17) (v := ?_) rfl (by kernel_rfl) (by kernel_rfl) (by kernel_rfl) (by kernel_rfl) (fun _ _ _ h => h) (Or.inl ⟨by rfl, ?_⟩) (by assumption) ?_
          rotate_left
          · intro w hSw; (try dsimp only at hSw); go_simp <;> with_reducible rfl
          (try simp only [Act.put, List.setIfInBounds_toArray, List.set_cons_zero, List.set_cons_succ, List.getElem_toArray, List.getElem_cons_succ, List.getElem_cons_zero])
          refine anyL_take (i := 18) (v := ?_) rfl (by kernel_rfl) (by kernel_rfl) (by kernel_rfl) (by kernel_rfl) (fun _ _ _ h => h) (Or.inl ⟨by rfl, ?_⟩) (by assumption) ?_
          rotate_left
          · intro w hSw; (try dsimp only at hSw); go_simp <;> with_reducible rfl
          (try simp only [Act.put, List.setIfInBounds_toArray, List.set_cons_zero, List.set_cons_succ, List.getElem_toArray, List.getElem_cons_succ, List.getElem_cons_zero])
          refine anyL_take (i := 19) (v := ?_) rfl (by kernel_rfl) (by kernel_rfl) (by kernel_rfl) (by kernel_rfl) (fun _ _ _ h => h) (Or.inl ⟨by rfl, ?_⟩) (by assumption) ?_
          rotate_left
          · intro w hSw; (try dsimp only at hSw); go_simp <;> with_reducible rfl
          (try simp only [Act.put, List.setIfInBounds_toArray, List.set_cons_zero, List.set_cons_succ, List.getElem_toArray, List.getElem_cons_succ, List.getElem_cons_zero])
          refine anyL_ready (rs := [1, 12]) (by kernel_rfl) (by simp) ?_
          refine AllL.cons rfl (fun K hK => ?_) (AllL.cons rfl (fun K hK => ?_) AllL.nil)
          · skip
            go_simp
            have hHeld := (HC9.out _ HEA.out.bl)
            refine hK.out _ _ (fun _ => hHeld) ?_
            clear hK K
            (try simp only [Act.put, List.setIfInBounds_toArray, List.set_cons_zero, List.set_cons_succ, List.getElem_toArray, List.getElem_cons_succ, List.getElem_cons_zero])
            refine anyL_ready (rs := [8, 12]) (by kernel_rfl) (by simp) ?_
            refine AllL.cons rfl (fun K hK => ?_) (AllL.cons rfl (fun K hK => ?_) AllL.nil)
            · skip
              refine step_push (by rfl) (.tmp 89) (.tmp 95) 30 (by rfl) wt.heap.size 38 Try.underlying30 II.out ⟨rfl, by decide⟩ _ 0 (flat2 []) (by rfl) HEA.out.row (some ⟨b5, o5, none⟩) k ct _ (by rfl) HF1.out HLA.out HEA.out.bl.size ?_
              intro v1 u1 hgr
              have hr := HEA.out.push hgr
              have HR1 := Lib.hid hr
              have HR1N := Lib.hid (hr.below (bl_alloc (Below.refl _ _) (.cells #[.int .i64 id, .int .i64 key] 38)))
              have HSN := Lib.hid (src4_new u1 id key)
              clear hr hgr
              have hHeld := (HC9.out _ HR1.out.bl)
              refine hK.out _ _ (fun _ => hHeld) ?_
              clear hK K
              (try simp only [Act.put, List.setIfInBounds_toArray, List.set_cons_zero, List.set_cons_succ, List.getElem_toArray, List.getElem_cons_succ, List.getElem_cons_zero])
              refine anyL_ready (rs := [12]) (by kernel_rfl) (by simp) ?_
              refine AllL.cons rfl (fun K hK => ?_) AllL.nil
              go_simp
              have hHeld := (HC9.out _ HR1N.out.bl)
              refine hK.out _ _ (fun _ => hHeld) ?_
              clear hK K
              (try simp only [Act.put, List.setIfInBounds_toArray, List.set_cons_zero, List.set_cons_succ, List.getElem_toArray, List.getElem_cons_succ, List.getElem_cons_zero])
              refine anyL_ready (rs := [13]) (by kernel_rfl) (by simp) ?_
              refine AllL.cons rfl (fun K hK => ?_) AllL.nil
              refine step_push (by rfl) (.tmp 96) (.tmp 100) 30 (by rfl) wt.heap.size 38 Try.underlying30 II.out ⟨rfl, by decide⟩ v1 (0+k) (flat2 ([] ++ List.take k ST)) (by rfl) HR1N.out.row (some ⟨u1.heap.size, 0, none⟩) 1 1 _ (by rfl) HSN.out HLB.out HR1N.out.bl.size ?_
              intro v2 u2 hgr
              have hr := HR1N.out.push hgr
              have HR2 := Lib.hid hr
              have HS3 := Lib.hid (HSR.out _ hr.bl)
              clear hr hgr
              have hHeld := (HC9.out _ HR2.out.bl)
              refine hK.out _ _ (fun _ => hHeld) ?_
              clear hK K
              (try simp only [Act.put, List.setIfInBounds_toArray, List.set_cons_zero, List.set_cons_succ, List.getElem_toArray, List.getElem_cons_succ, List.getElem_cons_zero])
              refine anyL_ready (rs := [20]) (by kernel_rfl) (by simp) ?_
              refine AllL.cons rfl (fun K hK => ?_) AllL.nil
              refine step_push (by rfl) (.tmp 101) (.tmp 107) 30 (by rfl) wt.heap.size 38 Try.underlying30 II.out ⟨rfl, by decide⟩ v2 (0+k+1) (flat2 ([] ++ List.take k ST ++ [(id, key)])) (by rfl) HR2.out.row (some ⟨b5, o5 + k * 2, none⟩) (n5-k) (ct-k) _ (by rfl) HS3.out HLC.out HR2.out.bl.size ?_
              intro v3 u3 hgr
              have hr := HR2.out.push hgr
              have HR3 := Lib.hid hr
              obtain ⟨A9, c9, hv9⟩ := hgr.val
              have hrow := hr.row
              have hpu := (hr.bl.block p (HPS.out)).trans HT.out.hd
              rw [← HN5.out] at hpu
              obtain ⟨m9, hm9⟩ : ∃ m9, m9 = 0 + k + 1 + (n5 - k) := ⟨_, rfl⟩
              rw [← hm9] at hv9 hrow
              subst hv9
              have P2 := block_cell hpu (j := 0) rfl
              have F2 := block_fr hpu 0
              have HROW := Lib.hid hrow
              have HPU := Lib.hid hpu
              have HM9 := Lib.hid hm9
              have HBL9 := Lib.hid hr.bl
              clear hgr hr hrow hpu hm9
              have hHeld := (HC9.out _ HR3.out.bl)
              refine hK.out _ _ (fun _ => hHeld) ?_
              clear hK K
              (try simp only [Act.put, List.setIfInBounds_toArray, List.set_cons_zero, List.set_cons_succ, List.getElem_toArray, List.getElem_cons_succ, List.getElem_cons_zero])
              refine anyL_take (i := 21) (v := ?_) rfl (by kernel_rfl) (by kernel_rfl) (by kernel_rfl) (by kernel_rfl) (fun _ _ _ h => h) (Or.inl ⟨by rfl, ?_⟩) (by assumption) ?_
              rotate_left
              · intro w hSw; (try dsimp only at hSw); go_simp <;> with_reducible rfl
              (try simp only [Act.put, List.setIfInBounds_toArray, List.set_cons_zero, List.set_cons_succ, List.getElem_toArray, List.getElem_cons_succ, List.getElem_cons_zero])
              refine anyL_take (i := 22) (v := ?_) rfl (by kernel_rfl) (by kernel_rfl) (by kernel_rfl) (by kernel_rfl) (fun _ _ _ h => h) (Or.inl ⟨by rfl, ?_⟩) (by assumption) ?_
              rotate_left
              · intro w hSw; (try dsimp only at hSw); go_simp <;> with_reducible rfl
              (try simp only [Act.put, List.setIfInBounds_toArray, List.set_cons_zero, List.set_cons_succ, List.getElem_toArray, List.getElem_cons_succ, List.getElem_cons_zero])
              refine anyL_ready (rs := [23]) (by kernel_rfl) (by simp) ?_
              refine AllL.cons rfl (fun K hK => ?_) AllL.nil
              go_simp
              refine hK.out _ _ (fun h => absurd rfl h) ?_
              clear hK K
              (try simp only [Act.put, List.setIfInBounds_toArray, List.set_cons_zero, List.set_cons_succ, List.getElem_toArray, List.getElem_cons_succ, List.getElem_cons_zero])
              refine anyL_done (by kernel_rfl) ?_ _
              clear P2 F2
              go_wp2_with fail
              go_ret
              have hrow := HROW.out
              have hs9 := ins_split (x := (id, key)) (S := ST) (k := k) (by rw [← HN5.out]; exact hkn) HAH.out HNA.out
              have he : [] ++ List.take k ST ++ [((id, key) : It)] ++ List.drop k ST = pushF S (id, key) := by rw [HPF.out, hs9, List.nil_append, List.append_assoc]; rfl
              rw [he] at hrow
              have hln : (pushF S (id, key)).length = m9 := by
                rw [← he]
                have := HN5.out
                have := HM9.out
                simp only [List.length_append, List.length_nil, List.length_take, List.length_cons, List.length_drop]
                omega
              have hwf : ∀ y ∈ pushF S (id, key), Wf y := fun y hy => by
                rcases pushF_ids hy with h1 | h1
                · rw [h1]; exact HX.out
                · exact HWF.out y h1
              have hor := H4.of_row hrow hln (by have := HM9.out; unfold maxLen; omega) (HPS.out) hwf HPU.out
              refine ⟨ret_bool HP.out.symm, ⟨A9, c9, hor.1, fun b' o' e => .inr (Nat.le_trans HU.out.size (hor.2 b' o' e))⟩, ?_⟩
              exact HU.out.trans (upd_setCell (F := fun b => b = p) (a := ⟨p, 0, none⟩) (Upd.of_below HBL9.out) rfl _) (fun _ _ h => h)
            · skip
              go_simp
              have hHeld := (HC9.out _ HEB.out.bl)
              refine hK.out _ _ (fun _ => hHeld) ?_
              clear hK K
              (try simp only [Act.put, List.setIfInBounds_toArray, List.set_cons_zero, List.set_cons_succ, List.getElem_toArray, List.getElem_cons_succ, List.getElem_cons_zero])
              refine anyL_ready (rs := [8]) (by kernel_rfl) (by simp) ?_
              refine AllL.cons rfl (fun K hK => ?_) AllL.nil
              refine step_push (by rfl) (.tmp 89) (.tmp 95) 30 (by rfl) wt.heap.size 38 Try.underlying30 II.out ⟨rfl, by decide⟩ _ 0 (flat2 []) (by rfl) HEB.out.row (some ⟨b5, o5, none⟩) k ct _ (by rfl) HF2.out HLA.out HEB.out.bl.size ?_
              intro v1 u1 hgr
              have hr := HEB.out.push hgr
              have HR1 := Lib.hid hr
              have HSN := Lib.hid (HN2.out.grown hgr.by_ (fun ad e e2 => by injection e with e; subst e; simp [Value.ownBlock] at e2))
              clear hr hgr
              have hHeld := (HC9.out _ HR1.out.bl)
              refine hK.out _ _ (fun _ => hHeld) ?_
              clear hK K
              (try simp only [Act.put, List.setIfInBounds_toArray, List.set_cons_zero, List.set_cons_succ, List.getElem_toArray, List.getElem_cons_succ, List.getElem_cons_zero])
              refine anyL_ready (rs := [13]) (by kernel_rfl) (by simp) ?_
              refine AllL.cons rfl (fun K hK => ?_) AllL.nil
              refine step_push (by rfl) (.tmp 96) (.tmp 100) 30 (by rfl) wt.heap.size 38 Try.underlying30 II.out ⟨rfl, by decide⟩ v1 (0+k) (flat2 ([] ++ List.take k ST)) (by rfl) HR1.out.row (some ⟨wt.heap.size + 1, 0, none⟩) 1 1 _ (by rfl) HSN.out HLB.out HR1.out.bl.size ?_
              intro v2 u2 hgr
              have hr := HR1.out.push hgr
              have HR2 := Lib.hid hr
              have HS3 := Lib.hid (HSR.out _ hr.bl)
              clear hr hgr
              have hHeld := (HC9.out _ HR2.out.bl)
              refine hK.out _ _ (fun _ => hHeld) ?_
              clear hK K
              (try simp only [Act.put, List.setIfInBounds_toArray, List.set_cons_zero, List.set_cons_succ, List.getElem_toArray, List.getElem_cons_succ, List.getElem_cons_zero])
              refine anyL_ready (rs := [20]) (by kernel_rfl) (by simp) ?_
              refine AllL.cons rfl (fun K hK => ?_) AllL.nil
              refine step_push (by rfl) (.tmp 101) (.tmp 107) 30 (by rfl) wt.heap.size 38 Try.underlying30 II.out ⟨rfl, by decide⟩ v2 (0+k+1) (flat2 ([] ++ List.take k ST ++ [(id, key)])) (by rfl) HR2.out.row (some ⟨b5, o5 + k * 2, none⟩) (n5-k) (ct-k) _ (by rfl) HS3.out HLC.out HR2.out.bl.size ?_
              intro v3 u3 hgr
              have hr := HR2.out.push hgr
              have HR3 := Lib.hid hr
              obtain ⟨A9, c9, hv9⟩ := hgr.val
              have hrow := hr.row
              have hpu := (hr.bl.block p (HPS.out)).trans HT.out.hd
              rw [← HN5.out] at hpu
              obtain ⟨m9, hm9⟩ : ∃ m9, m9 = 0 + k + 1 + (n5 - k) := ⟨_, rfl⟩
              rw [← hm9] at hv9 hrow
              subst hv9
              have P2 := block_cell hpu (j := 0) rfl
              have F2 := block_fr hpu 0
              have HROW := Lib.hid hrow
              have HPU := Lib.hid hpu
              have HM9 := Lib.hid hm9
              have HBL9 := Lib.hid hr.bl
              clear hgr hr hrow hpu hm9
              have hHeld := (HC9.out _ HR3.out.bl)
              refine hK.out _ _ (fun _ => hHeld) ?_
              clear hK K
              (try simp only [Act.put, List.setIfInBounds_toArray, List.set_cons_zero, List.set_cons_succ, List.getElem_toArray, List.getElem_cons_succ, List.getElem_cons_zero])
              refine anyL_take (i := 21) (v := ?_) rfl (by kernel_rfl) (by kernel_rfl) (by kernel_rfl) (by kernel_rfl) (fun _ _ _ h => h) (Or.inl ⟨by rfl, ?_⟩) (by assumption) ?_
              rotate_left
              · intro w hSw; (try dsimp only at hSw); go_simp <;> with_reducible rfl
              (try simp only [Act.put, List.setIfInBounds_toArray, List.set_cons_zero, List.set_cons_succ, List.getElem_toArray, List.getElem_cons_succ, List.getElem_cons_zero])
              refine anyL_take (i := 22) (v := ?_) rfl (by kernel_rfl) (by kernel_rfl) (by kernel_rfl) (by kernel_rfl) (fun _ _ _ h => h) (Or.inl ⟨by rfl, ?_⟩) (by assumption) ?_
              rotate_left
              · intro w hSw; (try dsimp only at hSw); go_simp <;> with_reducible rfl
              (try simp only [Act.put, List.setIfInBounds_toArray, List.set_cons_zero, List.set_cons_succ, List.getElem_toArray, List.getElem_cons_succ, List.getElem_cons_zero])
              refine anyL_ready (rs := [23]) (by kernel_rfl) (by simp) ?_
              refine AllL.cons rfl (fun K hK => ?_) AllL.nil
              go_simp
              refine hK.out _ _ (fun h => absurd rfl h) ?_
              clear hK K
              (try simp only [Act.put, List.setIfInBounds_toArray, List.set_cons_zero, List.set_cons_succ, List.getElem_toArray, List.getElem_cons_succ, List.getElem_cons_zero])
              refine anyL_done (by kernel_rfl) ?_ _
              clear P2 F2
              go_wp2_with fail
              go_ret
              have hrow := HROW.out
              have hs9 := ins_split (x := (id, key)) (S := ST) (k := k) (by rw [← HN5.out]; exact hkn) HAH.out HNA.out
              have he : [] ++ List.take k ST ++ [((id, key) : It)] ++ List.drop k ST = pushF S (id, key) := by rw [HPF.out, hs9, List.nil_append, List.append_assoc]; rfl
              rw [he] at hrow
              have hln : (pushF S (id, key)).length = m9 := by
                rw [← he]
                have := HN5.out
                have := HM9.out
                simp only [List.length_append, List.length_nil, List.length_take, List.length_cons, List.length_drop]
                omega
              have hwf : ∀ y ∈ pushF S (id, key), Wf y := fun y hy => by
                rcases pushF_ids hy with h1 | h1
                · rw [h1]; exact HX.out
                · exact HWF.out y h1
              have hor := H4.of_row hrow hln (by have := HM9.out; unfold maxLen; omega) (HPS.out) hwf HPU.out
              refine ⟨ret_bool HP.out.symm, ⟨A9, c9, hor.1, fun b' o' e => .inr (Nat.le_trans HU.out.size (hor.2 b' o' e))⟩, ?_⟩
              exact HU.out.trans (upd_setCell (F := fun b => b = p) (a := ⟨p, 0, none⟩) (Upd.of_below HBL9.out) rfl _) (fun _ _ h => h)
          · skip
            go_simp
            have hHeld := (HC9.out _ HNA0.out)
            refine hK.out _ _ (fun _ => hHeld) ?_
            clear hK K
            (try simp only [Act.put, List.setIfInBounds_toArray, List.set_cons_zero, List.set_cons_succ, List.getElem_toArray, List.getElem_cons_succ, List.getElem_cons_zero])
            refine anyL_ready (rs := [1]) (by kernel_rfl) (by simp) ?_
            refine AllL.cons rfl (fun K hK => ?_) AllL.nil
            go_simp
            have hHeld := (HC9.out _ HEC.out.bl)
            refine hK.out _ _ (fun _ => hHeld) ?_
            clear hK K
            (try simp only [Act.put, List.setIfInBounds_toArray, List.set_cons_zero, List.set_cons_succ, List.getElem_toArray, List.getElem_cons_succ, List.getElem_cons_zero])
            refine anyL_ready (rs := [8]) (by kernel_rfl) (by simp) ?_
            refine AllL.cons rfl (fun K hK => ?_) AllL.nil
            refine step_push (by rfl) (.tmp 89) (.tmp 95) 30 (by rfl) wt.heap.size 38 Try.underlying30 II.out ⟨rfl, by decide⟩ _ 0 (flat2 []) (by rfl) HEC.out.row (some ⟨b5, o5, none⟩) k ct _ (by rfl) HF3.out HLA.out HEC.out.bl.size ?_
            intro v1 u1 hgr
            have hr := HEC.out.push hgr
            have HR1 := Lib.hid hr
            have HSN := Lib.hid (HN3.out.grown hgr.by_ (fun ad e e2 => by injection e with e; subst e; simp [Value.ownBlock] at e2))
            clear hr hgr
            have hHeld := (HC9.out _ HR1.out.bl)
            refine hK.out _ _ (fun _ => hHeld) ?_
            clear hK K
            (try simp only [Act.put, List.setIfInBounds_toArray, List.set_cons_zero, List.set_cons_succ, List.getElem_toArray, List.getElem_cons_succ, List.getElem_cons_zero])
            refine anyL_ready (rs := [13]) (by kernel_rfl) (by simp) ?_
            refine AllL.cons rfl (fun K hK => ?_) AllL.nil
            refine step_push (by rfl) (.tmp 96) (.tmp 100) 30 (by rfl) wt.heap.size 38 Try.underlying30 II.out ⟨rfl, by decide⟩ v1 (0+k) (flat2 ([] ++ List.take k ST)) (by rfl) HR1.out.row (some ⟨wt.heap.size, 0, none⟩) 1 1 _ (by rfl) HSN.out HLB.out HR1.out.bl.size ?_
            intro v2 u2 hgr
            have hr := HR1.out.push hgr
            have HR2 := Lib.hid hr
            have HS3 := Lib.hid (HSR.out _ hr.bl)
            clear hr hgr
            have hHeld := (HC9.out _ HR2.out.bl)
            refine hK.out _ _ (fun _ => hHeld) ?_
            clear hK K
            (try simp only [Act.put, List.setIfInBounds_toArray, List.set_cons_zero, List.set_cons_succ, List.getElem_toArray, List.getElem_cons_succ, List.getElem_cons_zero])
            refine anyL_ready (rs := [20]) (by kernel_rfl) (by simp) ?_
            refine AllL.cons rfl (fun K hK => ?_) AllL.nil
            refine step_push (by rfl) (.tmp 101) (.tmp 107) 30 (by rfl) wt.heap.size 38 Try.underlying30 II.out ⟨rfl, by decide⟩ v2 (0+k+1) (flat2 ([] ++ List.take k ST ++ [(id, key)])) (by rfl) HR2.out.row (some ⟨b5, o5 + k * 2, none⟩) (n5-k) (ct-k) _ (by rfl) HS3.out HLC.out HR2.out.bl.size ?_
            intro v3 u3 hgr
            have hr := HR2.out.push hgr
            have HR3 := Lib.hid hr
            obtain ⟨A9, c9, hv9⟩ := hgr.val
            have hrow := hr.row
            have hpu := (hr.bl.block p (HPS.out)).trans HT.out.hd
            rw [← HN5.out] at hpu
            obtain ⟨m9, hm9⟩ : ∃ m9, m9 = 0 + k + 1 + (n5 - k) := ⟨_, rfl⟩
            rw [← hm9] at hv9 hrow
            subst hv9
            have P2 := block_cell hpu (j := 0) rfl
            have F2 := block_fr hpu 0
            have HROW := Lib.hid hrow
            have HPU := Lib.hid hpu
            have HM9 := Lib.hid hm9
            have HBL9 := Lib.hid hr.bl
            clear hgr hr hrow hpu hm9
            have hHeld := (HC9.out _ HR3.out.bl)
            refine hK.out _ _ (fun _ => hHeld) ?_
            clear hK K
            (try simp only [Act.put, List.setIfInBounds_toArray, List.set_cons_zero, List.set_cons_succ, List.getElem_toArray, List.getElem_cons_succ, List.getElem_cons_zero])
            refine anyL_take (i := 21) (v := ?_) rfl (by kernel_rfl) (by kernel_rfl) (by kernel_rfl) (by kernel_rfl) (fun _ _ _ h => h) (Or.inl ⟨by rfl, ?_⟩) (by assumption) ?_
            rotate_left
            · intro w hSw; (try dsimp only at hSw); go_simp <;> with_reducible rfl
            (try simp only [Act.put, List.setIfInBounds_toArray, List.set_cons_zero, List.set_cons_succ, List.getElem_toArray, List.getElem_cons_succ, List.getElem_cons_zero])
            refine anyL_take (i := 22) (v := ?_) rfl (by kernel_rfl) (by kernel_rfl) (by kernel_rfl) (by kernel_rfl) (fun _ _ _ h => h) (Or.inl ⟨by rfl, ?_⟩) (by assumption) ?_
            rotate_left
            · intro w hSw; (try dsimp only at hSw); go_simp <;> with_reducible rfl
            (try simp only [Act.put, List.setIfInBounds_toArray, List.set_cons_zero, List.set_cons_succ, List.getElem_toArray, List.getElem_cons_succ, List.getElem_cons_zero])
            refine anyL_ready (rs := [23]) (by kernel_rfl) (by simp) ?_
            refine AllL.cons rfl (fun K hK => ?_) AllL.nil
            go_simp
            refine hK.out _ _ (fun h => absurd rfl h) ?_
            clear hK K
            (try simp only [Act.put, List.setIfInBounds_toArray, List.set_cons_zero, List.set_cons_succ, List.getElem_toArray, List.getElem_cons_succ, List.getElem_cons_zero])
            refine anyL_done (by kernel_rfl) ?_ _
            clear P2 F2
            go_wp2_with fail
            go_ret
            have hrow := HROW.out
            have hs9 := ins_split (x := (id, key)) (S := ST) (k := k) (by rw [← HN5.out]; exact hkn) HAH.out HNA.out
            have he : [] ++ List.take k ST ++ [((id, key) : It)] ++ List.drop k ST = pushF S (id, key) := by rw [HPF.out, hs9, List.nil_append, List.append_assoc]; rfl
            rw [he] at hrow
            have hln : (pushF S (id, key)).length = m9 := by
              rw [← he]
              have := HN5.out
              have := HM9.out
              simp only [List.length_append, List.length_nil, List.length_take, List.length_cons, List.length_drop]
              omega
            have hwf : ∀ y ∈ pushF S (id, key), Wf y := fun y hy => by
              rcases pushF_ids hy with h1 | h1
              · rw [h1]; exact HX.out
              · exact HWF.out y h1
            have hor := H4.of_row hrow hln (by have := HM9.out; unfold maxLen; omega) (HPS.out) hwf HPU.out
            refine ⟨ret_bool HP.out.symm, ⟨A9, c9, hor.1, fun b' o' e => .inr (Nat.le_trans HU.out.size (hor.2 b' o' e))⟩, ?_⟩
            exact HU.out.trans (upd_setCell (F := fun b => b = p) (a := ⟨p, 0, none⟩) (Upd.of_below HBL9.out) rfl _) (fun _ _ h => h)
end Go.Proofs.Ytkdpfbefdhjmcaa
