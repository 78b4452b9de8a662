/- milepostref4.Heap.Push: a number that is not there. -/
import Derived.Test.YtkdpfbefdhjmcaaHeap4
set_option linter.unusedVariables false
set_option linter.unusedSimpArgs false
namespace Go.Proofs.Ytkdpfbefdhjmcaa
open Go.ChangeShapes Go.WideShapes Go.ChangeAt Go.RowKit HeapP DistP
set_option maxRecDepth 100000 in
set_option maxHeartbeats 16000000 in
theorem push4_new {wt : World} {p : Nat} {at5 : Option Addr} {ct : Nat} {ST : List It} (h : H4 wt p at5 ct ST) {id key : Int} (hx : Wf (id, key)) (hsm : ST.length ≤ 1099511627776) (hf : ¬ findN ST id < ST.length) :
    Calls Try.prog 10 #[.pointer (some ⟨p, 0, none⟩), .int .i64 id, .int .i64 key] wt fun e w' => e = .returned (.bool (pushB ST (id, key))) ∧ (∃ A' c', H4 w' p A' c' (pushF ST (id, key)) ∧ ∀ b o, A' = some ⟨b, o, none⟩ → (∃ o', at5 = some ⟨b, o', none⟩) ∨ wt.heap.size ≤ b) ∧ Upd (fun b => b = p) wt w' := by
  obtain ⟨hp1, hp2⟩ := push4_none (key := key) hf
  have hfi := find4_at h id
  rw [show findI ST id = -1 by unfold findI; rw [if_neg hf]] at hfi
  have HPS : Hid (p < wt.heap.size) := Lib.hid (Array.getElem?_eq_some_iff.1 h.hd).1
  obtain ⟨iK, hiK⟩ := infoK
  have II := Lib.hid hiK
  have HX := Lib.hid hx
  have HFI := Lib.hid hfi
  have HP := Lib.hid hp1
  have HPF := Lib.hid hp2
  have HT := Lib.hid h
  have HU : Hid (Upd (fun b => b = p) wt wt) := Lib.hid (Upd.refl _ _)
  have HWF : Hid (∀ y ∈ ST, Wf y) := Lib.hid h.rd.wf
  obtain ⟨n5, hn5⟩ : ∃ n5, n5 = ST.length := ⟨_, rfl⟩
  have HN5 := Lib.hid hn5
  have hn : n5 ≤ 1099511627776 := by rw [hn5]; exact hsm
  clear h hfi hiK hp1 hp2 hn5 hx hf hsm
  go_enter Try.func10, Try.ntmps10
  go_wp2_with fail
  refine HFI.out.mono ?_
  rintro e w1 ⟨rfl, rfl⟩
  have t1 : wt.cell? ⟨p, 0, none⟩ = some (.slice at5 n5 ct) := by rw [HN5.out]; exact block_cell HT.out.hd (j := 0) rfl
  have HRT : Hid (ReadsP wt at5 n5 ct ST) := Lib.hid (by rw [HN5.out]; exact HT.out.rd)
  have hcap5 : n5 ≤ ct := by rw [HN5.out]; exact HT.out.cap.1
  have hct : ct ≤ 9223372036854775807 := by have := HT.out.cap.2; unfold maxLen at this; omega
  have HC9 : Hid (∀ w', Below wt.heap.size wt w' → w'.cell? ⟨p, 0, none⟩ = some (.slice at5 n5 ct)) := Lib.hid fun w' hb => cell_below t1 hb
  have T1 := Lib.hid t1
  go_wp2_with fail
  go_loopg [8] n5 (fun M u wr => ∃ k : Nat, M = n5 - k ∧ k ≤ n5 ∧ u = .int .i64 (k : Nat) ∧ (∀ j, j < k → HeapP.ahead (g ST j) (id, key) = true) ∧ wt = wr)
  case atStart => exact ⟨0, rfl, Nat.zero_le _, rfl, fun j h => by omega, rfl⟩
  case round =>
    obtain ⟨k, hM, hkn, rfl, hah, rfl⟩ := hrel
    have HM := Lib.hid hM
    clear hM
    by_cases hlt : k < n5
    · obtain ⟨b5, o5, hA5, hc5⟩ := HRT.out.cell (by omega)
      subst hA5
      obtain ⟨x0, x1⟩ := hc5 k hlt
      have hstep : HeapP.ahead (g ST k) (id, key) = true → ∀ j, j < k + 1 → HeapP.ahead (g ST j) (id, key) = true := fun h j hj => by
        rcases Nat.lt_or_ge j k with h1 | h1
        · exact hah j h1
        · have : j = k := by omega
          subst this; exact h
      have hgk : g ST k = ((ST.getD k (0, 0)).1, (ST.getD k (0, 0)).2) := rfl
      obtain ⟨yI, hyI⟩ : ∃ y, y = (ST.getD k (0, 0)).1 := ⟨_, rfl⟩
      obtain ⟨yK, hyK⟩ : ∃ y, y = (ST.getD k (0, 0)).2 := ⟨_, rfl⟩
      rw [← hyI, ← hyK] at hgk
      rw [← hyI] at x0
      rw [← hyK] at x1
      have hap : HeapP.ahead (g ST k) (id, key) = (decide (yK < key) || (decide (yK = key) && decide (yI < id))) := by rw [hgk]; rfl
      have k0 : (0 : Int) ≤ (k : Int) := by omega
      have k1 : (k : Int) < (n5 : Int) := by omega
      have k6 : (k : Int) < (ct : Int) := by omega
      clear hc5 hgk hyI hyK
      by_cases h1 : yK < key
      · have HST := Lib.hid (hstep (by rw [hap]; simp [h1]))
        clear hap hstep hah
        go_wp2_with fail
        go_roundg (n5 - (k + 1))
        case measure => have := HM.out; omega
        case rel => exact ⟨k + 1, rfl, by omega, by go_num, HST.out, rfl⟩
      · have q1 : decide (yK < key) = false := decide_eq_false h1
        have hck : ¬ ct = k := by omega
        have HAX : Hid (∀ b' o', k < n5 → some (⟨b5, o5, none⟩ : Addr) = some ⟨b', o', none⟩ → some (⟨b5, o5 + k * 2, none⟩ : Addr) = some ⟨b', o' + k * 2, none⟩) := Lib.hid (fun b' o' _ e => by injection e with e; injection e with e1 e2 _; subst e1 e2; rfl)
        by_cases h2 : yK = key
        · obtain rfl : key = yK := h2.symm
          by_cases h3 : yI < id
          · have HST := Lib.hid (hstep (by rw [hap]; simp [h3]))
            have q3 : decide (yI < id) = true := decide_eq_true h3
            clear hap hstep hah
            go_wp2_with fail
            go_roundg (n5 - (k + 1))
            case measure => have := HM.out; omega
            case rel => exact ⟨k + 1, rfl, by omega, by go_num, HST.out, rfl⟩
          · have hna : k < ST.length → HeapP.ahead (g ST k) (id, key) = false := fun _ => by rw [hap]; simp [h3]
            have q3 : decide (yI < id) = false := decide_eq_false h3
            clear hap hstep
            have HAH := Lib.hid hah
            have HNA : Hid (k < ST.length → HeapP.ahead (g ST k) (id, key) = false) := Lib.hid hna
            clear hah hna
            have k2 : (k : Int) ≤ (n5 : Int) := by omega
            have k3 : (k : Int) ≤ (ct : Int) := by omega
            have k4 : k ≤ ct := by omega
            have k5 : (0 : Int) ≤ (k : Int) := by omega
            have HD : Hid (Below wt.heap.size wt wt.drew) := Lib.hid (bl_drew (Below.refl _ _))
            have HEA := Lib.hid (R4.build (V := wt) HD.out)
            have HEB : Hid (R4 wt ((wt.drew.alloc (.cells #[] 38)).alloc (.cells #[.int .i64 id, .int .i64 key] 38)) (.slice (some ⟨wt.heap.size, 0, none⟩) 0 0) 0 []) := Lib.hid (HEA.out.below (bl_alloc (Below.refl _ _) _))
            have HNA0 : Hid (Below wt.heap.size wt (wt.drew.alloc (.cells #[.int .i64 id, .int .i64 key] 38))) := Lib.hid (bl_alloc HD.out _)
            have hec := R4.build (V := wt) HNA0.out
            rw [show (wt.drew.alloc (.cells #[.int .i64 id, .int .i64 key] 38)).heap.size = wt.heap.size + 1 from size_alloc _ _] at hec
            have HEC := Lib.hid hec
            have hn2 := src4_new (wt.drew.alloc (.cells #[] 38)) id key
            rw [show (wt.drew.alloc (.cells #[] 38)).heap.size = wt.heap.size + 1 from size_alloc _ _] at hn2
            have HN2 := Lib.hid hn2
            have HN3 : Hid (Src ((wt.drew.alloc (.cells #[.int .i64 id, .int .i64 key] 38)).alloc (.cells #[] 38)) 2 (some ⟨wt.heap.size, 0, none⟩) 1 (flat2 [((id, key) : It)])) := Lib.hid ((src4_new wt.drew id key).below (bl_alloc (Below.refl _ _) _))
            have HSF : Hid (∀ w', Below wt.heap.size wt w' → Src w' 2 (some ⟨b5, o5, none⟩) k (flat2 (ST.take k))) := Lib.hid fun w' hb => (Src.ofP (HRT.out.frontP hkn ct)).below hb
            have HSR : Hid (∀ w', Below wt.heap.size wt w' → Src w' 2 (some ⟨b5, o5 + k * 2, none⟩) (n5 - k) (flat2 (ST.drop k))) := Lib.hid fun w' hb => (Src.ofP (HRT.out.restP (j := k) (A' := (some ⟨b5, o5 + k * 2, none⟩)) hkn (ct-k) HAX.out)).below hb
            have HF1 := Lib.hid (HSF.out _ HEA.out.bl)
            have HF2 := Lib.hid (HSF.out _ HEB.out.bl)
            have HF3 := Lib.hid (HSF.out _ HEC.out.bl)
            have HLA : Hid (0 + k ≤ maxLen ∧ (0 + k) * 16 ≤ 140737488355328) := Lib.hid ⟨by unfold maxLen; omega, by omega⟩
            have HLB : Hid (0 + k + 1 ≤ maxLen ∧ (0 + k + 1) * 16 ≤ 140737488355328) := Lib.hid ⟨by unfold maxLen; omega, by omega⟩
            have HLC : Hid (0 + k + 1 + (n5 - k) ≤ maxLen ∧ (0 + k + 1 + (n5 - k)) * 16 ≤ 140737488355328) := Lib.hid ⟨by unfold maxLen; omega, by omega⟩
            clear hec hn2
            go_wp2_with fail
            refine wp_regionL (S := fun w' => w'.cell? ⟨p, 0, none⟩ = some (.slice (some ⟨b5, o5, none⟩) n5 ct)) 23 (by kernel_rfl) (HC9.out _ HD.out) (fun hHeld => ?_)
            refine anyL_take (i := 0) (v := ?_) rfl (by kernel_rfl) (by kernel_rfl) (by kernel_rfl) (by kernel_rfl) (fun _ _ _ h => h) (Or.inl ⟨by rfl, ?_⟩) (by assumption) ?_
            rotate_left
            · intro w hSw; (try dsimp only at hSw); go_simp <;> with_reducible rfl
            (try simp only [Act.put, List.setIfInBounds_toArray, List.set_cons_zero, List.set_cons_succ, List.getElem_toArray, List.getElem_cons_succ, List.getElem_cons_zero])
            refine anyL_take (i := 2) (v := ?_) rfl (by kernel_rfl) (by kernel_rfl) (by kernel_rfl) (by kernel_rfl) (fun _ _ _ h => h) (Or.inl ⟨by rfl, ?_⟩) (by assumption) ?_
            rotate_left
            · intro w hSw; (try dsimp only at hSw); go_simp <;> with_reducible rfl
            (try simp only [Act.put, List.setIfInBounds_toArray, List.set_cons_zero, List.set_cons_succ, List.getElem_toArray, List.getElem_cons_succ, List.getElem_cons_zero])
            refine anyL_take (i := 3) (v := ?_) rfl (by kernel_rfl) (by kernel_rfl) (by kernel_rfl) (by kernel_rfl) (fun _ _ _ h => h) (Or.inl ⟨by rfl, ?_⟩) (by assumption) ?_
            rotate_left
            · intro w hSw; (try dsimp only at hSw); go_simp <;> with_reducible rfl
            (try simp only [Act.put, List.setIfInBounds_toArray, List.set_cons_zero, List.set_cons_succ, List.getElem_toArray, List.getElem_cons_succ, List.getElem_cons_zero])
            refine anyL_take (i := 4) (v := ?_) rfl (by kernel_rfl) (by kernel_rfl) (by kernel_rfl) (by kernel_rfl) (fun _ _ _ h => h) (Or.inl ⟨by rfl, ?_⟩) (by assumption) ?_
            rotate_left
            · intro w hSw; (try dsimp only at hSw); go_simp <;> with_reducible rfl
            (try simp only [Act.put, List.setIfInBounds_toArray, List.set_cons_zero, List.set_cons_succ, List.getElem_toArray, List.getElem_cons_succ, List.getElem_cons_zero])
            refine anyL_take (i := 5) (v := ?_) rfl (by kernel_rfl) (by kernel_rfl) (by kernel_rfl) (by kernel_rfl) (fun _ _ _ h => h) (Or.inl ⟨by rfl, ?_⟩) (by assumption) ?_
            rotate_left
            · intro w hSw; (try dsimp only at hSw); go_simp <;> with_reducible rfl
            (try simp only [Act.put, List.setIfInBounds_toArray, List.set_cons_zero, List.set_cons_succ, List.getElem_toArray, List.getElem_cons_succ, List.getElem_cons_zero])
            refine anyL_take (i := 6) (v := ?_) rfl (by kernel_rfl) (by kernel_rfl) (by kernel_rfl) (by kernel_rfl) (fun _ _ _ h => h) (Or.inl ⟨by rfl, ?_⟩) (by assumption) ?_
            rotate_left
            · intro w hSw; (try dsimp only at hSw); go_simp <;> with_reducible rfl
            (try simp only [Act.put, List.setIfInBounds_toArray, List.set_cons_zero, List.set_cons_succ, List.getElem_toArray, List.getElem_cons_succ, List.getElem_cons_zero])
            refine anyL_take (i := 7) (v := ?_) rfl (by kernel_rfl) (by kernel_rfl) (by kernel_rfl) (by kernel_rfl) (fun _ _ _ h => h) (Or.inl ⟨by rfl, ?_⟩) (by assumption) ?_
            rotate_left
            · intro w hSw; (try dsimp only at hSw); go_simp <;> with_reducible rfl
            (try simp only [Act.put, List.setIfInBounds_toArray, List.set_cons_zero, List.set_cons_succ, List.getElem_toArray, List.getElem_cons_succ, List.getElem_cons_zero])
            refine anyL_take (i := 9) (v := ?_) rfl (by kernel_rfl) (by kernel_rfl) (by kernel_rfl) (by kernel_rfl) (fun _ _ _ h => h) (Or.inl ⟨by rfl, ?_⟩) (by assumption) ?_
            rotate_left
            · intro w hSw; (try dsimp only at hSw); go_simp <;> with_reducible rfl
            (try simp only [Act.put, List.setIfInBounds_toArray, List.set_cons_zero, List.set_cons_succ, List.getElem_toArray, List.getElem_cons_succ, List.getElem_cons_zero])
            refine anyL_take (i := 10) (v := ?_) rfl (by kernel_rfl) (by kernel_rfl) (by kernel_rfl) (by kernel_rfl) (fun _ _ _ h => h) (Or.inl ⟨by rfl, ?_⟩) (by assumption) ?_
            rotate_left
            · intro w hSw; (try dsimp only at hSw); go_simp <;> with_reducible rfl
            (try simp only [Act.put, List.setIfInBounds_toArray, List.set_cons_zero, List.set_cons_succ, List.getElem_toArray, List.getElem_cons_succ, List.getElem_cons_zero])
            refine anyL_take (i := 11) (v := ?_) rfl (by kernel_rfl) (by kernel_rfl) (by kernel_rfl) (by kernel_rfl) (fun _ _ _ h => h) (Or.inl ⟨by rfl, ?_⟩) (by assumption) ?_
            rotate_left
            · intro w hSw; (try dsimp only at hSw); go_simp <;> with_reducible rfl
            (try simp only [Act.put, List.setIfInBounds_toArray, List.set_cons_zero, List.set_cons_succ, List.getElem_toArray, List.getElem_cons_succ, List.getElem_cons_zero])
            refine anyL_take (i := 14) (v := ?_) rfl (by kernel_rfl) (by kernel_rfl) (by kernel_rfl) (by kernel_rfl) (fun _ _ _ h => h) (Or.inl ⟨by rfl, ?_⟩) (by assumption) ?_
            rotate_left
            · intro w hSw; (try dsimp only at hSw); go_simp <;> with_reducible rfl
            (try simp only [Act.put, List.setIfInBounds_toArray, List.set_cons_zero, List.set_cons_succ, List.getElem_toArray, List.getElem_cons_succ, List.getElem_cons_zero])
            refine anyL_take (i := 15) (v := ?_) rfl (by kernel_rfl) (by kernel_rfl) (by kernel_rfl) (by kernel_rfl) (fun _ _ _ h => h) (Or.inl ⟨by rfl, ?_⟩) (by assumption) ?_
            rotate_left
            · intro w hSw; (try dsimp only at hSw); go_simp <;> with_reducible rfl
            (try simp only [Act.put, List.setIfInBounds_toArray, List.set_cons_zero, List.set_cons_succ, List.getElem_toArray, List.getElem_cons_succ, List.getElem_cons_zero])
            refine anyL_take (i := 16) (v := ?_) rfl (by kernel_rfl) (by kernel_rfl) (by kernel_rfl) (by kernel_rfl) (fun _ _ _ h => h) (Or.inl ⟨by rfl, ?_⟩) (by assumption) ?_
            rotate_left
            · intro w hSw; (try dsimp only at hSw); go_simp <;> with_reducible rfl
            (try simp only [Act.put, List.setIfInBounds_toArray, List.set_cons_zero, List.set_cons_succ, List.getElem_toArray, List.getElem_cons_succ, List.getElem_cons_zero])
            refine anyL_take (i := 17) (v := ?_) rfl (by kernel_rfl) (by kernel_rfl) (by kernel_rfl) (by kernel_rfl) (fun _ _ _ h => h) (Or.inl ⟨by rfl, ?_⟩) (by assumption) ?_
            rotate_left
            · intro w hSw; (try dsimp only at hSw); go_simp <;> with_reducible rfl
            (try simp only [Act.put, List.setIfInBounds_toArray, List.set_cons_zero, List.set_cons_succ, List.getElem_toArray, List.getElem_cons_succ, List.getElem_cons_zero])
            refine anyL_take (i := 18) (v := ?_) rfl (by kernel_rfl) (by kernel_rfl) (by kernel_rfl) (by kernel_rfl) (fun _ _ _ h => h) (Or.inl ⟨by rfl, ?_⟩) (by assumption) ?_
            rotate_left
            · intro w hSw; (try dsimp only at hSw); go_simp <;> with_reducible rfl
            (try simp only [Act.put, List.setIfInBounds_toArray, List.set_cons_zero, List.set_cons_succ, List.getElem_toArray, List.getElem_cons_succ, List.getElem_cons_zero])
            refine anyL_take (i := 19) (v := ?_) rfl (by kernel_rfl) (by kernel_rfl) (by kernel_rfl) (by kernel_rfl) (fun _ _ _ h => h) (Or.inl ⟨by rfl, ?_⟩) (by assumption) ?_
            rotate_left
            · intro w hSw; (try dsimp only at hSw); go_simp <;> with_reducible rfl
            (try simp only [Act.put, List.setIfInBounds_toArray, List.set_cons_zero, List.set_cons_succ, List.getElem_toArray, List.getElem_cons_succ, List.getElem_cons_zero])
            refine anyL_ready (rs := [1, 12]) (by kernel_rfl) (by simp) ?_
            refine AllL.cons rfl (fun K hK => ?_) (AllL.cons rfl (fun K hK => ?_) AllL.nil)
            · skip
              go_simp
              have hHeld := (HC9.out _ HEA.out.bl)
              refine hK.out _ _ (fun _ => hHeld) ?_
              clear hK K
              (try simp only [Act.put, List.setIfInBounds_toArray, List.set_cons_zero, List.set_cons_succ, List.getElem_toArray, List.getElem_cons_succ, List.getElem_cons_zero])
              refine anyL_ready (rs := [8, 12]) (by kernel_rfl) (by simp) ?_
              refine AllL.cons rfl (fun K hK => ?_) (AllL.cons rfl (fun K hK => ?_) AllL.nil)
              · skip
                refine step_push (by rfl) (.tmp 89) (.tmp 95) 30 (by rfl) wt.heap.size 38 Try.underlying30 II.out ⟨rfl, by decide⟩ _ 0 (flat2 []) (by rfl) HEA.out.row (some ⟨b5, o5, none⟩) k ct _ (by rfl) HF1.out HLA.out HEA.out.bl.size ?_
                intro v1 u1 hgr
                have hr := HEA.out.push hgr
                have HR1 := Lib.hid hr
                have HR1N := Lib.hid (hr.below (bl_alloc (Below.refl _ _) (.cells #[.int .i64 id, .int .i64 key] 38)))
                have HSN := Lib.hid (src4_new u1 id key)
                clear hr hgr
                have hHeld := (HC9.out _ HR1.out.bl)
                refine hK.out _ _ (fun _ => hHeld) ?_
                clear hK K
                (try simp only [Act.put, List.setIfInBounds_toArray, List.set_cons_zero, List.set_cons_succ, List.getElem_toArray, List.getElem_cons_succ, List.getElem_cons_zero])
                refine anyL_ready (rs := [12]) (by kernel_rfl) (by simp) ?_
                refine AllL.cons rfl (fun K hK => ?_) AllL.nil
                go_simp
                have hHeld := (HC9.out _ HR1N.out.bl)
                refine hK.out _ _ (fun _ => hHeld) ?_
                clear hK K
                (try simp only [Act.put, List.setIfInBounds_toArray, List.set_cons_zero, List.set_cons_succ, List.getElem_toArray, List.getElem_cons_succ, List.getElem_cons_zero])
                refine anyL_ready (rs := [13]) (by kernel_rfl) (by simp) ?_
                refine AllL.cons rfl (fun K hK => ?_) AllL.nil
                refine step_push (by rfl) (.tmp 96) (.tmp 100) 30 (by rfl) wt.heap.size 38 Try.underlying30 II.out ⟨rfl, by decide⟩ v1 (0+k) (flat2 ([] ++ List.take k ST)) (by rfl) HR1N.out.row (some ⟨u1.heap.size, 0, none⟩) 1 1 _ (by rfl) HSN.out HLB.out HR1N.out.bl.size ?_
                intro v2 u2 hgr
                have hr := HR1N.out.push hgr
                have HR2 := Lib.hid hr
                have HS3 := Lib.hid (HSR.out _ hr.bl)
                clear hr hgr
                have hHeld := (HC9.out _ HR2.out.bl)
                refine hK.out _ _ (fun _ => hHeld) ?_
                clear hK K
                (try simp only [Act.put, List.setIfInBounds_toArray, List.set_cons_zero, List.set_cons_succ, List.getElem_toArray, List.getElem_cons_succ, List.getElem_cons_zero])
                refine anyL_ready (rs := [20]) (by kernel_rfl) (by simp) ?_
                refine AllL.cons rfl (fun K hK => ?_) AllL.nil
                refine step_push (by rfl) (.tmp 101) (.tmp 107) 30 (by rfl) wt.heap.size 38 Try.underlying30 II.out ⟨rfl, by decide⟩ v2 (0+k+1) (flat2 ([] ++ List.take k ST ++ [(id, key)])) (by rfl) HR2.out.row (some ⟨b5, o5 + k * 2, none⟩) (n5-k) (ct-k) _ (by rfl) HS3.out HLC.out HR2.out.bl.size ?_
                intro v3 u3 hgr
                have hr := HR2.out.push hgr
                have HR3 := Lib.hid hr
                obtain ⟨A9, c9, hv9⟩ := hgr.val
                have hrow := hr.row
                have hpu := (hr.bl.block p (HPS.out)).trans HT.out.hd
                rw [← HN5.out] at hpu
                obtain ⟨m9, hm9⟩ : ∃ m9, m9 = 0 + k + 1 + (n5 - k) := ⟨_, rfl⟩
                rw [← hm9] at hv9 hrow
                subst hv9
                have P2 := block_cell hpu (j := 0) rfl
                have F2 := block_fr hpu 0
                have HROW := Lib.hid hrow
                have HPU := Lib.hid hpu
                have HM9 := Lib.hid hm9
                have HBL9 := Lib.hid hr.bl
                clear hgr hr hrow hpu hm9
                have hHeld := (HC9.out _ HR3.out.bl)
                refine hK.out _ _ (fun _ => hHeld) ?_
                clear hK K
                (try simp only [Act.put, List.setIfInBounds_toArray, List.set_cons_zero, List.set_cons_succ, List.getElem_toArray, List.getElem_cons_succ, List.getElem_cons_zero])
                refine anyL_take (i := 21) (v := ?_) rfl (by kernel_rfl) (by kernel_rfl) (by kernel_rfl) (by kernel_rfl) (fun _ _ _ h => h) (Or.inl ⟨by rfl, ?_⟩) (by assumption) ?_
                rotate_left
                · intro w hSw; (try dsimp only at hSw); go_simp <;> with_reducible rfl
                (try simp only [Act.put, List.setIfInBounds_toArray, List.set_cons_zero, List.set_cons_succ, List.getElem_toArray, List.getElem_cons_succ, List.getElem_cons_zero])
                refine anyL_take (i := 22) (v := ?_) rfl (by kernel_rfl) (by kernel_rfl) (by kernel_rfl) (by kernel_rfl) (fun _ _ _ h => h) (Or.inl ⟨by rfl, ?_⟩) (by assumption) ?_
                rotate_left
                · intro w hSw; (try dsimp only at hSw); go_simp <;> with_reducible rfl
                (try simp only [Act.put, List.setIfInBounds_toArray, List.set_cons_zero, List.set_cons_succ, List.getElem_toArray, List.getElem_cons_succ, List.getElem_cons_zero])
                refine anyL_ready (rs := [23]) (by kernel_rfl) (by simp) ?_
                refine AllL.cons rfl (fun K hK => ?_) AllL.nil
                go_simp
                refine hK.out _ _ (fun h => absurd rfl h) ?_
                clear hK K
                (try simp only [Act.put, List.setIfInBounds_toArray, List.set_cons_zero, List.set_cons_succ, List.getElem_toArray, List.getElem_cons_succ, List.getElem_cons_zero])
                refine anyL_done (by kernel_rfl) ?_ _
                clear P2 F2
                go_wp2_with fail
                go_ret
                have hrow := HROW.out
                have hs9 := ins_split (x := (id, key)) (S := ST) (k := k) (by rw [← HN5.out]; exact hkn) HAH.out HNA.out
                have he : [] ++ List.take k ST ++ [((id, key) : It)] ++ List.drop k ST = pushF ST (id, key) := by rw [HPF.out, hs9, List.nil_append, List.append_assoc]; rfl
                rw [he] at hrow
                have hln : (pushF ST (id, key)).length = m9 := by
                  rw [← he]
                  have := HN5.out
                  have := HM9.out
                  simp only [List.length_append, List.length_nil, List.length_take, List.length_cons, List.length_drop]
                  omega
                have hwf : ∀ y ∈ pushF ST (id, key), Wf y := fun y hy => by
                  rcases pushF_ids hy with h1 | h1
                  · rw [h1]; exact HX.out
                  · exact HWF.out y h1
                have hor := H4.of_row hrow hln (by have := HM9.out; unfold maxLen; omega) (HPS.out) hwf HPU.out
                refine ⟨ret_bool HP.out.symm, ⟨A9, c9, hor.1, fun b' o' e => .inr (Nat.le_trans HU.out.size (hor.2 b' o' e))⟩, ?_⟩
                exact HU.out.trans (upd_setCell (F := fun b => b = p) (a := ⟨p, 0, none⟩) (Upd.of_below HBL9.out) rfl _) (fun _ _ h => h)
              · skip
                go_simp
                have hHeld := (HC9.out _ HEB.out.bl)
                refine hK.out _ _ (fun _ => hHeld) ?_
                clear hK K
                (try simp only [Act.put, List.setIfInBounds_toArray, List.set_cons_zero, List.set_cons_succ, List.getElem_toArray, List.getElem_cons_succ, List.getElem_cons_zero])
                refine anyL_ready (rs := [8]) (by kernel_rfl) (by simp) ?_
                refine AllL.cons rfl (fun K hK => ?_) AllL.nil
                refine step_push (by rfl) (.tmp 89) (.tmp 95) 30 (by rfl) wt.heap.size 38 Try.underlying30 II.out ⟨rfl, by decide⟩ _ 0 (flat2 []) (by rfl) HEB.out.row (some ⟨b5, o5, none⟩) k ct _ (by rfl) HF2.out HLA.out HEB.out.bl.size ?_
                intro v1 u1 hgr
                have hr := HEB.out.push hgr
                have HR1 := Lib.hid hr
                have HSN := Lib.hid (HN2.out.grown hgr.by_ (fun ad e e2 => by injection e with e; subst e; simp [Value.ownBlock] at e2))
                clear hr hgr
                have hHeld := (HC9.out _ HR1.out.bl)
                refine hK.out _ _ (fun _ => hHeld) ?_
                clear hK K
                (try simp only [Act.put, List.setIfInBounds_toArray, List.set_cons_zero, List.set_cons_succ, List.getElem_toArray, List.getElem_cons_succ, List.getElem_cons_zero])
                refine anyL_ready (rs := [13]) (by kernel_rfl) (by simp) ?_
                refine AllL.cons rfl (fun K hK => ?_) AllL.nil
                refine step_push (by rfl) (.tmp 96) (.tmp 100) 30 (by rfl) wt.heap.size 38 Try.underlying30 II.out ⟨rfl, by decide⟩ v1 (0+k) (flat2 ([] ++ List.take k ST)) (by rfl) HR1.out.row (some ⟨wt.heap.size + 1, 0, none⟩) 1 1 _ (by rfl) HSN.out HLB.out HR1.out.bl.size ?_
                intro v2 u2 hgr
                have hr := HR1.out.push hgr
                have HR2 := Lib.hid hr
                have HS3 := Lib.hid (HSR.out _ hr.bl)
                clear hr hgr
                have hHeld := (HC9.out _ HR2.out.bl)
                refine hK.out _ _ (fun _ => hHeld) ?_
                clear hK K
                (try simp only [Act.put, List.setIfInBounds_toArray, List.set_cons_zero, List.set_cons_succ, List.getElem_toArray, List.getElem_cons_succ, List.getElem_cons_zero])
                refine anyL_ready (rs := [20]) (by kernel_rfl) (by simp) ?_
                refine AllL.cons rfl (fun K hK => ?_) AllL.nil
                refine step_push (by rfl) (.tmp 101) (.tmp 107) 30 (by rfl) wt.heap.size 38 Try.underlying30 II.out ⟨rfl, by decide⟩ v2 (0+k+1) (flat2 ([] ++ List.take k ST ++ [(id, key)])) (by rfl) HR2.out.row (some ⟨b5, o5 + k * 2, none⟩) (n5-k) (ct-k) _ (by rfl) HS3.out HLC.out HR2.out.bl.size ?_
                intro v3 u3 hgr
                have hr := HR2.out.push hgr
                have HR3 := Lib.hid hr
                obtain ⟨A9, c9, hv9⟩ := hgr.val
                have hrow := hr.row
                have hpu := (hr.bl.block p (HPS.out)).trans HT.out.hd
                rw [← HN5.out] at hpu
                obtain ⟨m9, hm9⟩ : ∃ m9, m9 = 0 + k + 1 + (n5 - k) := ⟨_, rfl⟩
                rw [← hm9] at hv9 hrow
                subst hv9
                have P2 := block_cell hpu (j := 0) rfl
                have F2 := block_fr hpu 0
                have HROW := Lib.hid hrow
                have HPU := Lib.hid hpu
                have HM9 := Lib.hid hm9
                have HBL9 := Lib.hid hr.bl
                clear hgr hr hrow hpu hm9
                have hHeld := (HC9.out _ HR3.out.bl)
                refine hK.out _ _ (fun _ => hHeld) ?_
                clear hK K
                (try simp only [Act.put, List.setIfInBounds_toArray, List.set_cons_zero, List.set_cons_succ, List.getElem_toArray, List.getElem_cons_succ, List.getElem_cons_zero])
                refine anyL_take (i := 21) (v := ?_) rfl (by kernel_rfl) (by kernel_rfl) (by kernel_rfl) (by kernel_rfl) (fun _ _ _ h => h) (Or.inl ⟨by rfl, ?_⟩) (by assumption) ?_
                rotate_left
                · intro w hSw; (try dsimp only at hSw); go_simp <;> with_reducible rfl
                (try simp only [Act.put, List.setIfInBounds_toArray, List.set_cons_zero, List.set_cons_succ, List.getElem_toArray, List.getElem_cons_succ, List.getElem_cons_zero])
                refine anyL_take (i := 22) (v := ?_) rfl (by kernel_rfl) (by kernel_rfl) (by kernel_rfl) (by kernel_rfl) (fun _ _ _ h => h) (Or.inl ⟨by rfl, ?_⟩) (by assumption) ?_
                rotate_left
                · intro w hSw; (try dsimp only at hSw); go_simp <;> with_reducible rfl
                (try simp only [Act.put, List.setIfInBounds_toArray, List.set_cons_zero, List.set_cons_succ, List.getElem_toArray, List.getElem_cons_succ, List.getElem_cons_zero])
                refine anyL_ready (rs := [23]) (by kernel_rfl) (by simp) ?_
                refine AllL.cons rfl (fun K hK => ?_) AllL.nil
                go_simp
                refine hK.out _ _ (fun h => absurd rfl h) ?_
                clear hK K
                (try simp only [Act.put, List.setIfInBounds_toArray, List.set_cons_zero, List.set_cons_succ, List.getElem_toArray, List.getElem_cons_succ, List.getElem_cons_zero])
                refine anyL_done (by kernel_rfl) ?_ _
                clear P2 F2
                go_wp2_with fail
                go_ret
                have hrow := HROW.out
                have hs9 := ins_split (x := (id, key)) (S := ST) (k := k) (by rw [← HN5.out]; exact hkn) HAH.out HNA.out
                have he : [] ++ List.take k ST ++ [((id, key) : It)] ++ List.drop k ST = pushF ST (id, key) := by rw [HPF.out, hs9, List.nil_append, List.append_assoc]; rfl
                rw [he] at hrow
                have hln : (pushF ST (id, key)).length = m9 := by
                  rw [← he]
                  have := HN5.out
                  have := HM9.out
                  simp only [List.length_append, List.length_nil, List.length_take, List.length_cons, List.length_drop]
                  omega
                have hwf : ∀ y ∈ pushF ST (id, key), Wf y := fun y hy => by
                  rcases pushF_ids hy with h1 | h1
                  · rw [h1]; exact HX.out
                  · exact HWF.out y h1
                have hor := H4.of_row hrow hln (by have := HM9.out; unfold maxLen; omega) (HPS.out) hwf HPU.out
                refine ⟨ret_bool HP.out.symm, ⟨A9, c9, hor.1, fun b' o' e => .inr (Nat.le_trans HU.out.size (hor.2 b' o' e))⟩, ?_⟩
                exact HU.out.trans (upd_setCell (F := fun b => b = p) (a := ⟨p, 0, none⟩) (Upd.of_below HBL9.out) rfl _) (fun _ _ h => h)
            · skip
              go_simp
              have hHeld := (HC9.out _ HNA0.out)
              refine hK.out _ _ (fun _ => hHeld) ?_
              clear hK K
              (try simp only [Act.put, List.setIfInBounds_toArray, List.set_cons_zero, List.set_cons_succ, List.getElem_toArray, List.getElem_cons_succ, List.getElem_cons_zero])
              refine anyL_ready (rs := [1]) (by kernel_rfl) (by simp) ?_
              refine AllL.cons rfl (fun K hK => ?_) AllL.nil
              go_simp
              have hHeld := (HC9.out _ HEC.out.bl)
              refine hK.out _ _ (fun _ => hHeld) ?_
              clear hK K
              (try simp only [Act.put, List.setIfInBounds_toArray, List.set_cons_zero, List.set_cons_succ, List.getElem_toArray, List.getElem_cons_succ, List.getElem_cons_zero])
              refine anyL_ready (rs := [8]) (by kernel_rfl) (by simp) ?_
              refine AllL.cons rfl (fun K hK => ?_) AllL.nil
              refine step_push (by rfl) (.tmp 89) (.tmp 95) 30 (by rfl) wt.heap.size 38 Try.underlying30 II.out ⟨rfl, by decide⟩ _ 0 (flat2 []) (by rfl) HEC.out.row (some ⟨b5, o5, none⟩) k ct _ (by rfl) HF3.out HLA.out HEC.out.bl.size ?_
              intro v1 u1 hgr
              have hr := HEC.out.push hgr
              have HR1 := Lib.hid hr
              have HSN := Lib.hid (HN3.out.grown hgr.by_ (fun ad e e2 => by injection e with e; subst e; simp [Value.ownBlock] at e2))
              clear hr hgr
              have hHeld := (HC9.out _ HR1.out.bl)
              refine hK.out _ _ (fun _ => hHeld) ?_
              clear hK K
              (try simp only [Act.put, List.setIfInBounds_toArray, List.set_cons_zero, List.set_cons_succ, List.getElem_toArray, List.getElem_cons_succ, List.getElem_cons_zero])
              refine anyL_ready (rs := [13]) (by kernel_rfl) (by simp) ?_
              refine AllL.cons rfl (fun K hK => ?_) AllL.nil
              refine step_push (by rfl) (.tmp 96) (.tmp 100) 30 (by rfl) wt.heap.size 38 Try.underlying30 II.out ⟨rfl, by decide⟩ v1 (0+k) (flat2 ([] ++ List.take k ST)) (by rfl) HR1.out.row (some ⟨wt.heap.size, 0, none⟩) 1 1 _ (by rfl) HSN.out HLB.out HR1.out.bl.size ?_
              intro v2 u2 hgr
              have hr := HR1.out.push hgr
              have HR2 := Lib.hid hr
              have HS3 := Lib.hid (HSR.out _ hr.bl)
              clear hr hgr
              have hHeld := (HC9.out _ HR2.out.bl)
              refine hK.out _ _ (fun _ => hHeld) ?_
              clear hK K
              (try simp only [Act.put, List.setIfInBounds_toArray, List.set_cons_zero, List.set_cons_succ, List.getElem_toArray, List.getElem_cons_succ, List.getElem_cons_zero])
              refine anyL_ready (rs := [20]) (by kernel_rfl) (by simp) ?_
              refine AllL.cons rfl (fun K hK => ?_) AllL.nil
              refine step_push (by rfl) (.tmp 101) (.tmp 107) 30 (by rfl) wt.heap.size 38 Try.underlying30 II.out ⟨rfl, by decide⟩ v2 (0+k+1) (flat2 ([] ++ List.take k ST ++ [(id, key)])) (by rfl) HR2.out.row (some ⟨b5, o5 + k * 2, none⟩) (n5-k) (ct-k) _ (by rfl) HS3.out HLC.out HR2.out.bl.size ?_
              intro v3 u3 hgr
              have hr := HR2.out.push hgr
              have HR3 := Lib.hid hr
              obtain ⟨A9, c9, hv9⟩ := hgr.val
              have hrow := hr.row
              have hpu := (hr.bl.block p (HPS.out)).trans HT.out.hd
              rw [← HN5.out] at hpu
              obtain ⟨m9, hm9⟩ : ∃ m9, m9 = 0 + k + 1 + (n5 - k) := ⟨_, rfl⟩
              rw [← hm9] at hv9 hrow
              subst hv9
              have P2 := block_cell hpu (j := 0) rfl
              have F2 := block_fr hpu 0
              have HROW := Lib.hid hrow
              have HPU := Lib.hid hpu
              have HM9 := Lib.hid hm9
              have HBL9 := Lib.hid hr.bl
              clear hgr hr hrow hpu hm9
              have hHeld := (HC9.out _ HR3.out.bl)
              refine hK.out _ _ (fun _ => hHeld) ?_
              clear hK K
              (try simp only [Act.put, List.setIfInBounds_toArray, List.set_cons_zero, List.set_cons_succ, List.getElem_toArray, List.getElem_cons_succ, List.getElem_cons_zero])
              refine anyL_take (i := 21) (v := ?_) rfl (by kernel_rfl) (by kernel_rfl) (by kernel_rfl) (by kernel_rfl) (fun _ _ _ h => h) (Or.inl ⟨by rfl, ?_⟩) (by assumption) ?_
              rotate_left
              · intro w hSw; (try dsimp only at hSw); go_simp <;> with_reducible rfl
              (try simp only [Act.put, List.setIfInBounds_toArray, List.set_cons_zero, List.set_cons_succ, List.getElem_toArray, List.getElem_cons_succ, List.getElem_cons_zero])
              refine anyL_take (i := 22) (v := ?_) rfl (by kernel_rfl) (by kernel_rfl) (by kernel_rfl) (by kernel_rfl) (fun _ _ _ h => h) (Or.inl ⟨by rfl, ?_⟩) (by assumption) ?_
              rotate_left
              · intro w hSw; (try dsimp only at hSw); go_simp <;> with_reducible rfl
              (try simp only [Act.put, List.setIfInBounds_toArray, List.set_cons_zero, List.set_cons_succ, List.getElem_toArray, List.getElem_cons_succ, List.getElem_cons_zero])
              refine anyL_ready (rs := [23]) (by kernel_rfl) (by simp) ?_
              refine AllL.cons rfl (fun K hK => ?_) AllL.nil
              go_simp
              refine hK.out _ _ (fun h => absurd rfl h) ?_
              clear hK K
              (try simp only [Act.put, List.setIfInBounds_toArray, List.set_cons_zero, List.set_cons_succ, List.getElem_toArray, List.getElem_cons_succ, List.getElem_cons_zero])
              refine anyL_done (by kernel_rfl) ?_ _
              clear P2 F2
              go_wp2_with fail
              go_ret
              have hrow := HROW.out
              have hs9 := ins_split (x := (id, key)) (S := ST) (k := k) (by rw [← HN5.out]; exact hkn) HAH.out HNA.out
              have he : [] ++ List.take k ST ++ [((id, key) : It)] ++ List.drop k ST = pushF ST (id, key) := by rw [HPF.out, hs9, List.nil_append, List.append_assoc]; rfl
              rw [he] at hrow
              have hln : (pushF ST (id, key)).length = m9 := by
                rw [← he]
                have := HN5.out
                have := HM9.out
                simp only [List.length_append, List.length_nil, List.length_take, List.length_cons, List.length_drop]
                omega
              have hwf : ∀ y ∈ pushF ST (id, key), Wf y := fun y hy => by
                rcases pushF_ids hy with h1 | h1
                · rw [h1]; exact HX.out
                · exact HWF.out y h1
              have hor := H4.of_row hrow hln (by have := HM9.out; unfold maxLen; omega) (HPS.out) hwf HPU.out
              refine ⟨ret_bool HP.out.symm, ⟨A9, c9, hor.1, fun b' o' e => .inr (Nat.le_trans HU.out.size (hor.2 b' o' e))⟩, ?_⟩
              exact HU.out.trans (upd_setCell (F := fun b => b = p) (a := ⟨p, 0, none⟩) (Upd.of_below HBL9.out) rfl _) (fun _ _ h => h)
        · have hna : k < ST.length → HeapP.ahead (g ST k) (id, key) = false := fun _ => by rw [hap]; simp [h1, h2]
          have q2 : (yK == key) = false := beq_false_of_ne h2
          clear hap hstep
          have HAH := Lib.hid hah
          have HNA : Hid (k < ST.length → HeapP.ahead (g ST k) (id, key) = false) := Lib.hid hna
          clear hah hna
          have k2 : (k : Int) ≤ (n5 : Int) := by omega
          have k3 : (k : Int) ≤ (ct : Int) := by omega
          have k4 : k ≤ ct := by omega
          have k5 : (0 : Int) ≤ (k : Int) := by omega
          have HD : Hid (Below wt.heap.size wt wt.drew) := Lib.hid (bl_drew (Below.refl _ _))
          have HEA := Lib.hid (R4.build (V := wt) HD.out)
          have HEB : Hid (R4 wt ((wt.drew.alloc (.cells #[] 38)).alloc (.cells #[.int .i64 id, .int .i64 key] 38)) (.slice (some ⟨wt.heap.size, 0, none⟩) 0 0) 0 []) := Lib.hid (HEA.out.below (bl_alloc (Below.refl _ _) _))
          have HNA0 : Hid (Below wt.heap.size wt (wt.drew.alloc (.cells #[.int .i64 id, .int .i64 key] 38))) := Lib.hid (bl_alloc HD.out _)
          have hec := R4.build (V := wt) HNA0.out
          rw [show (wt.drew.alloc (.cells #[.int .i64 id, .int .i64 key] 38)).heap.size = wt.heap.size + 1 from size_alloc _ _] at hec
          have HEC := Lib.hid hec
          have hn2 := src4_new (wt.drew.alloc (.cells #[] 38)) id key
          rw [show (wt.drew.alloc (.cells #[] 38)).heap.size = wt.heap.size + 1 from size_alloc _ _] at hn2
          have HN2 := Lib.hid hn2
          have HN3 : Hid (Src ((wt.drew.alloc (.cells #[.int .i64 id, .int .i64 key] 38)).alloc (.cells #[] 38)) 2 (some ⟨wt.heap.size, 0, none⟩) 1 (flat2 [((id, key) : It)])) := Lib.hid ((src4_new wt.drew id key).below (bl_alloc (Below.refl _ _) _))
          have HSF : Hid (∀ w', Below wt.heap.size wt w' → Src w' 2 (some ⟨b5, o5, none⟩) k (flat2 (ST.take k))) := Lib.hid fun w' hb => (Src.ofP (HRT.out.frontP hkn ct)).below hb
          have HSR : Hid (∀ w', Below wt.heap.size wt w' → Src w' 2 (some ⟨b5, o5 + k * 2, none⟩) (n5 - k) (flat2 (ST.drop k))) := Lib.hid fun w' hb => (Src.ofP (HRT.out.restP (j := k) (A' := (some ⟨b5, o5 + k * 2, none⟩)) hkn (ct-k) HAX.out)).below hb
          have HF1 := Lib.hid (HSF.out _ HEA.out.bl)
          have HF2 := Lib.hid (HSF.out _ HEB.out.bl)
          have HF3 := Lib.hid (HSF.out _ HEC.out.bl)
          have HLA : Hid (0 + k ≤ maxLen ∧ (0 + k) * 16 ≤ 140737488355328) := Lib.hid ⟨by unfold maxLen; omega, by omega⟩
          have HLB : Hid (0 + k + 1 ≤ maxLen ∧ (0 + k + 1) * 16 ≤ 140737488355328) := Lib.hid ⟨by unfold maxLen; omega, by omega⟩
          have HLC : Hid (0 + k + 1 + (n5 - k) ≤ maxLen ∧ (0 + k + 1 + (n5 - k)) * 16 ≤ 140737488355328) := Lib.hid ⟨by unfold maxLen; omega, by omega⟩
          clear hec hn2
          go_wp2_with fail
          refine wp_regionL (S := fun w' => w'.cell? ⟨p, 0, none⟩ = some (.slice (some ⟨b5, o5, none⟩) n5 ct)) 23 (by kernel_rfl) (HC9.out _ HD.out) (fun hHeld => ?_)
          refine anyL_take (i := 0) (v := ?_) rfl (by kernel_rfl) (by kernel_rfl) (by kernel_rfl) (by kernel_rfl) (fun _ _ _ h => h) (Or.inl ⟨by rfl, ?_⟩) (by assumption) ?_
          rotate_left
          · intro w hSw; (try dsimp only at hSw); go_simp <;> with_reducible rfl
          (try simp only [Act.put, List.setIfInBounds_toArray, List.set_cons_zero, List.set_cons_succ, List.getElem_toArray, List.getElem_cons_succ, List.getElem_cons_zero])
          refine anyL_take (i := 2) (v := ?_) rfl (by kernel_rfl) (by kernel_rfl) (by kernel_rfl) (by kernel_rfl) (fun _ _ _ h => h) (Or.inl ⟨by rfl, ?_⟩) (by assumption) ?_
          rotate_left
          · intro w hSw; (try dsimp only at hSw); go_simp <;> with_reducible rfl
          (try simp only [Act.put, List.setIfInBounds_toArray, List.set_cons_zero, List.set_cons_succ, List.getElem_toArray, List.getElem_cons_succ, List.getElem_cons_zero])
          refine anyL_take (i := 3) (v := ?_) rfl (by kernel_rfl) (by kernel_rfl) (by kernel_rfl) (by kernel_rfl) (fun _ _ _ h => h) (Or.inl ⟨by rfl, ?_⟩) (by assumption) ?_
          rotate_left
          · intro w hSw; (try dsimp only at hSw); go_simp <;> with_reducible rfl
          (try simp only [Act.put, List.setIfInBounds_toArray, List.set_cons_zero, List.set_cons_succ, List.getElem_toArray, List.getElem_cons_succ, List.getElem_cons_zero])
          refine anyL_take (i := 4) (v := ?_) rfl (by kernel_rfl) (by kernel_rfl) (by kernel_rfl) (by kernel_rfl) (fun _ _ _ h => h) (Or.inl ⟨by rfl, ?_⟩) (by assumption) ?_
          rotate_left
          · intro w hSw; (try dsimp only at hSw); go_simp <;> with_reducible rfl
          (try simp only [Act.put, List.setIfInBounds_toArray, List.set_cons_zero, List.set_cons_succ, List.getElem_toArray, List.getElem_cons_succ, List.getElem_cons_zero])
          refine anyL_take (i := 5) (v := ?_) rfl (by kernel_rfl) (by kernel_rfl) (by kernel_rfl) (by kernel_rfl) (fun _ _ _ h => h) (Or.inl ⟨by rfl, ?_⟩) (by assumption) ?_
          rotate_left
          · intro w hSw; (try dsimp only at hSw); go_simp <;> with_reducible rfl
          (try simp only [Act.put, List.setIfInBounds_toArray, List.set_cons_zero, List.set_cons_succ, List.getElem_toArray, List.getElem_cons_succ, List.getElem_cons_zero])
          refine anyL_take (i := 6) (v := ?_) rfl (by kernel_rfl) (by kernel_rfl) (by kernel_rfl) (by kernel_rfl) (fun _ _ _ h => h) (Or.inl ⟨by rfl, ?_⟩) (by assumption) ?_
          rotate_left
          · intro w hSw; (try dsimp only at hSw); go_simp <;> with_reducible rfl
          (try simp only [Act.put, List.setIfInBounds_toArray, List.set_cons_zero, List.set_cons_succ, List.getElem_toArray, List.getElem_cons_succ, List.getElem_cons_zero])
          refine anyL_take (i := 7) (v := ?_) rfl (by kernel_rfl) (by kernel_rfl) (by kernel_rfl) (by kernel_rfl) (fun _ _ _ h => h) (Or.inl ⟨by rfl, ?_⟩) (by assumption) ?_
          rotate_left
          · intro w hSw; (try dsimp only at hSw); go_simp <;> with_reducible rfl
          (try simp only [Act.put, List.setIfInBounds_toArray, List.set_cons_zero, List.set_cons_succ, List.getElem_toArray, List.getElem_cons_succ, List.getElem_cons_zero])
          refine anyL_take (i := 9) (v := ?_) rfl (by kernel_rfl) (by kernel_rfl) (by kernel_rfl) (by kernel_rfl) (fun _ _ _ h => h) (Or.inl ⟨by rfl, ?_⟩) (by assumption) ?_
          rotate_left
          · intro w hSw; (try dsimp only at hSw); go_simp <;> with_reducible rfl
          (try simp only [Act.put, List.setIfInBounds_toArray, List.set_cons_zero, List.set_cons_succ, List.getElem_toArray, List.getElem_cons_succ, List.getElem_cons_zero])
          refine anyL_take (i := 10) (v := ?_) rfl (by kernel_rfl) (by kernel_rfl) (by kernel_rfl) (by kernel_rfl) (fun _ _ _ h => h) (Or.inl ⟨by rfl, ?_⟩) (by assumption) ?_
          rotate_left
          · intro w hSw; (try dsimp only at hSw); go_simp <;> with_reducible rfl
          (try simp only [Act.put, List.setIfInBounds_toArray, List.set_cons_zero, List.set_cons_succ, List.getElem_toArray, List.getElem_cons_succ, List.getElem_cons_zero])
          refine anyL_take (i := 11) (v := ?_) rfl (by kernel_rfl) (by kernel_rfl) (by kernel_rfl) (by kernel_rfl) (fun _ _ _ h => h) (Or.inl ⟨by rfl, ?_⟩) (by assumption) ?_
          rotate_left
          · intro w hSw; (try dsimp only at hSw); go_simp <;> with_reducible rfl
          (try simp only [Act.put, List.setIfInBounds_toArray, List.set_cons_zero, List.set_cons_succ, List.getElem_toArray, List.getElem_cons_succ, List.getElem_cons_zero])
          refine anyL_take (i := 14) (v := ?_) rfl (by kernel_rfl) (by kernel_rfl) (by kernel_rfl) (by kernel_rfl) (fun _ _ _ h => h) (Or.inl ⟨by rfl, ?_⟩) (by assumption) ?_
          rotate_left
          · intro w hSw; (try dsimp only at hSw); go_simp <;> with_reducible rfl
          (try simp only [Act.put, List.setIfInBounds_toArray, List.set_cons_zero, List.set_cons_succ, List.getElem_toArray, List.getElem_cons_succ, List.getElem_cons_zero])
          refine anyL_take (i := 15) (v := ?_) rfl (by kernel_rfl) (by kernel_rfl) (by kernel_rfl) (by kernel_rfl) (fun _ _ _ h => h) (Or.inl ⟨by rfl, ?_⟩) (by assumption) ?_
          rotate_left
          · intro w hSw; (try dsimp only at hSw); go_simp <;> with_reducible rfl
          (try simp only [Act.put, List.setIfInBounds_toArray, List.set_cons_zero, List.set_cons_succ, List.getElem_toArray, List.getElem_cons_succ, List.getElem_cons_zero])
          refine anyL_take (i := 16) (v := ?_) rfl (by kernel_rfl) (by kernel_rfl) (by kernel_rfl) (by kernel_rfl) (fun _ _ _ h => h) (Or.inl ⟨by rfl, ?_⟩) (by assumption) ?_
          rotate_left
          · intro w hSw; (try dsimp only at hSw); go_simp <;> with_reducible rfl
          (try simp only [Act.put, List.setIfInBounds_toArray, List.set_cons_zero, List.set_cons_succ, List.getElem_toArray, List.getElem_cons_succ, List.getElem_cons_zero])
          refine anyL_take (i := 17) (v := ?_) rfl (by kernel_rfl) (by kernel_rfl) (by kernel_rfl) (by kernel_rfl) (fun _ _ _ h => h) (Or.inl ⟨by rfl, ?_⟩) (by assumption) ?_
          rotate_left
          · intro w hSw; (try dsimp only at hSw); go_simp <;> with_reducible rfl
          (try simp only [Act.put, List.setIfInBounds_toArray, List.set_cons_zero, List.set_cons_succ, List.getElem_toArray, List.getElem_cons_succ, List.getElem_cons_zero])
          refine anyL_take (i := 18) (v := ?_) rfl (by kernel_rfl) (by kernel_rfl) (by kernel_rfl) (by kernel_rfl) (fun _ _ _ h => h) (Or.inl ⟨by rfl, ?_⟩) (by assumption) ?_
          rotate_left
          · intro w hSw; (try dsimp only at hSw); go_simp <;> with_reducible rfl
          (try simp only [Act.put, List.setIfInBounds_toArray, List.set_cons_zero, List.set_cons_succ, List.getElem_toArray, List.getElem_cons_succ, List.getElem_cons_zero])
          refine anyL_take (i := 19) (v := ?_) rfl (by kernel_rfl) (by kernel_rfl) (by kernel_rfl) (by kernel_rfl) (fun _ _ _ h => h) (Or.inl ⟨by rfl, ?_⟩) (by assumption) ?_
          rotate_left
          · intro w hSw; (try dsimp only at hSw); go_simp <;> with_reducible rfl
          (try simp only [Act.put, List.setIfInBounds_toArray, List.set_cons_zero, List.set_cons_succ, List.getElem_toArray, List.getElem_cons_succ, List.getElem_cons_zero])
          refine anyL_ready (rs := [1, 12]) (by kernel_rfl) (by simp) ?_
          refine AllL.cons rfl (fun K hK => ?_) (AllL.cons rfl (fun K hK => ?_) AllL.nil)
          · skip
            go_simp
            have hHeld := (HC9.out _ HEA.out.bl)
            refine hK.out _ _ (fun _ => hHeld) ?_
            clear hK K
            (try simp only [Act.put, List.setIfInBounds_toArray, List.set_cons_zero, List.set_cons_succ, List.getElem_toArray, List.getElem_cons_succ, List.getElem_cons_zero])
            refine anyL_ready (rs := [8, 12]) (by kernel_rfl) (by simp) ?_
            refine AllL.cons rfl (fun K hK => ?_) (AllL.cons rfl (fun K hK => ?_) AllL.nil)
            · skip
              refine step_push (by rfl) (.tmp 89) (.tmp 95) 30 (by rfl) wt.heap.size 38 Try.underlying30 II.out ⟨rfl, by decide⟩ _ 0 (flat2 []) (by rfl) HEA.out.row (some ⟨b5, o5, none⟩) k ct _ (by rfl) HF1.out HLA.out HEA.out.bl.size ?_
              intro v1 u1 hgr
              have hr := HEA.out.push hgr
              have HR1 := Lib.hid hr
              have HR1N := Lib.hid (hr.below (bl_alloc (Below.refl _ _) (.cells #[.int .i64 id, .int .i64 key] 38)))
              have HSN := Lib.hid (src4_new u1 id key)
              clear hr hgr
              have hHeld := (HC9.out _ HR1.out.bl)
              refine hK.out _ _ (fun _ => hHeld) ?_
              clear hK K
              (try simp only [Act.put, List.setIfInBounds_toArray, List.set_cons_zero, List.set_cons_succ, List.getElem_toArray, List.getElem_cons_succ, List.getElem_cons_zero])
              refine anyL_ready (rs := [12]) (by kernel_rfl) (by simp) ?_
              refine AllL.cons rfl (fun K hK => ?_) AllL.nil
              go_simp
              have hHeld := (HC9.out _ HR1N.out.bl)
              refine hK.out _ _ (fun _ => hHeld) ?_
              clear hK K
              (try simp only [Act.put, List.setIfInBounds_toArray, List.set_cons_zero, List.set_cons_succ, List.getElem_toArray, List.getElem_cons_succ, List.getElem_cons_zero])
              refine anyL_ready (rs := [13]) (by kernel_rfl) (by simp) ?_
              refine AllL.cons rfl (fun K hK => ?_) AllL.nil
              refine step_push (by rfl) (.tmp 96) (.tmp 100) 30 (by rfl) wt.heap.size 38 Try.underlying30 II.out ⟨rfl, by decide⟩ v1 (0+k) (flat2 ([] ++ List.take k ST)) (by rfl) HR1N.out.row (some ⟨u1.heap.size, 0, none⟩) 1 1 _ (by rfl) HSN.out HLB.out HR1N.out.bl.size ?_
              intro v2 u2 hgr
              have hr := HR1N.out.push hgr
              have HR2 := Lib.hid hr
              have HS3 := Lib.hid (HSR.out _ hr.bl)
              clear hr hgr
              have hHeld := (HC9.out _ HR2.out.bl)
              refine hK.out _ _ (fun _ => hHeld) ?_
              clear hK K
              (try simp only [Act.put, List.setIfInBounds_toArray, List.set_cons_zero, List.set_cons_succ, List.getElem_toArray, List.getElem_cons_succ, List.getElem_cons_zero])
              refine anyL_ready (rs := [20]) (by kernel_rfl) (by simp) ?_
              refine AllL.cons rfl (fun K hK => ?_) AllL.nil
              refine step_push (by rfl) (.tmp 101) (.tmp 107) 30 (by rfl) wt.heap.size 38 Try.underlying30 II.out ⟨rfl, by decide⟩ v2 (0+k+1) (flat2 ([] ++ List.take k ST ++ [(id, key)])) (by rfl) HR2.out.row (some ⟨b5, o5 + k * 2, none⟩) (n5-k) (ct-k) _ (by rfl) HS3.out HLC.out HR2.out.bl.size ?_
              intro v3 u3 hgr
              have hr := HR2.out.push hgr
              have HR3 := Lib.hid hr
              obtain ⟨A9, c9, hv9⟩ := hgr.val
              have hrow := hr.row
              have hpu := (hr.bl.block p (HPS.out)).trans HT.out.hd
              rw [← HN5.out] at hpu
              obtain ⟨m9, hm9⟩ : ∃ m9, m9 = 0 + k + 1 + (n5 - k) := ⟨_, rfl⟩
              rw [← hm9] at hv9 hrow
              subst hv9
              have P2 := block_cell hpu (j := 0) rfl
              have F2 := block_fr hpu 0
              have HROW := Lib.hid hrow
              have HPU := Lib.hid hpu
              have HM9 := Lib.hid hm9
              have HBL9 := Lib.hid hr.bl
              clear hgr hr hrow hpu hm9
              have hHeld := (HC9.out _ HR3.out.bl)
              refine hK.out _ _ (fun _ => hHeld) ?_
              clear hK K
              (try simp only [Act.put, List.setIfInBounds_toArray, List.set_cons_zero, List.set_cons_succ, List.getElem_toArray, List.getElem_cons_succ, List.getElem_cons_zero])
              refine anyL_take (i := 21) (v := ?_) rfl (by kernel_rfl) (by kernel_rfl) (by kernel_rfl) (by kernel_rfl) (fun _ _ _ h => h) (Or.inl ⟨by rfl, ?_⟩) (by assumption) ?_
              rotate_left
              · intro w hSw; (try dsimp only at hSw); go_simp <;> with_reducible rfl
              (try simp only [Act.put, List.setIfInBounds_toArray, List.set_cons_zero, List.set_cons_succ, List.getElem_toArray, List.getElem_cons_succ, List.getElem_cons_zero])
              refine anyL_take (i := 22) (v := ?_) rfl (by kernel_rfl) (by kernel_rfl) (by kernel_rfl) (by kernel_rfl) (fun _ _ _ h => h) (Or.inl ⟨by rfl, ?_⟩) (by assumption) ?_
              rotate_left
              · intro w hSw; (try dsimp only at hSw); go_simp <;> with_reducible rfl
              (try simp only [Act.put, List.setIfInBounds_toArray, List.set_cons_zero, List.set_cons_succ, List.getElem_toArray, List.getElem_cons_succ, List.getElem_cons_zero])
              refine anyL_ready (rs := [23]) (by kernel_rfl) (by simp) ?_
              refine AllL.cons rfl (fun K hK => ?_) AllL.nil
              go_simp
              refine hK.out _ _ (fun h => absurd rfl h) ?_
              clear hK K
              (try simp only [Act.put, List.setIfInBounds_toArray, List.set_cons_zero, List.set_cons_succ, List.getElem_toArray, List.getElem_cons_succ, List.getElem_cons_zero])
              refine anyL_done (by kernel_rfl) ?_ _
              clear P2 F2
              go_wp2_with fail
              go_ret
              have hrow := HROW.out
              have hs9 := ins_split (x := (id, key)) (S := ST) (k := k) (by rw [← HN5.out]; exact hkn) HAH.out HNA.out
              have he : [] ++ List.take k ST ++ [((id, key) : It)] ++ List.drop k ST = pushF ST (id, key) := by rw [HPF.out, hs9, List.nil_append, List.append_assoc]; rfl
              rw [he] at hrow
              have hln : (pushF ST (id, key)).length = m9 := by
                rw [← he]
                have := HN5.out
                have := HM9.out
                simp only [List.length_append, List.length_nil, List.length_take, List.length_cons, List.length_drop]
                omega
              have hwf : ∀ y ∈ pushF ST (id, key), Wf y := fun y hy => by
                rcases pushF_ids hy with h1 | h1
                · rw [h1]; exact HX.out
                · exact HWF.out y h1
              have hor := H4.of_row hrow hln (by have := HM9.out; unfold maxLen; omega) (HPS.out) hwf HPU.out
              refine ⟨ret_bool HP.out.symm, ⟨A9, c9, hor.1, fun b' o' e => .inr (Nat.le_trans HU.out.size (hor.2 b' o' e))⟩, ?_⟩
              exact HU.out.trans (upd_setCell (F := fun b => b = p) (a := ⟨p, 0, none⟩) (Upd.of_below HBL9.out) rfl _) (fun _ _ h => h)
            · skip
              go_simp
              have hHeld := (HC9.out _ HEB.out.bl)
              refine hK.out _ _ (fun _ => hHeld) ?_
              clear hK K
              (try simp only [Act.put, List.setIfInBounds_toArray, List.set_cons_zero, List.set_cons_succ, List.getElem_toArray, List.getElem_cons_succ, List.getElem_cons_zero])
              refine anyL_ready (rs := [8]) (by kernel_rfl) (by simp) ?_
              refine AllL.cons rfl (fun K hK => ?_) AllL.nil
              refine step_push (by rfl) (.tmp 89) (.tmp 95) 30 (by rfl) wt.heap.size 38 Try.underlying30 II.out ⟨rfl, by decide⟩ _ 0 (flat2 []) (by rfl) HEB.out.row (some ⟨b5, o5, none⟩) k ct _ (by rfl) HF2.out HLA.out HEB.out.bl.size ?_
              intro v1 u1 hgr
              have hr := HEB.out.push hgr
              have HR1 := Lib.hid hr
              have HSN := Lib.hid (HN2.out.grown hgr.by_ (fun ad e e2 => by injection e with e; subst e; simp [Value.ownBlock] at e2))
              clear hr hgr
              have hHeld := (HC9.out _ HR1.out.bl)
              refine hK.out _ _ (fun _ => hHeld) ?_
              clear hK K
              (try simp only [Act.put, List.setIfInBounds_toArray, List.set_cons_zero, List.set_cons_succ, List.getElem_toArray, List.getElem_cons_succ, List.getElem_cons_zero])
              refine anyL_ready (rs := [13]) (by kernel_rfl) (by simp) ?_
              refine AllL.cons rfl (fun K hK => ?_) AllL.nil
              refine step_push (by rfl) (.tmp 96) (.tmp 100) 30 (by rfl) wt.heap.size 38 Try.underlying30 II.out ⟨rfl, by decide⟩ v1 (0+k) (flat2 ([] ++ List.take k ST)) (by rfl) HR1.out.row (some ⟨wt.heap.size + 1, 0, none⟩) 1 1 _ (by rfl) HSN.out HLB.out HR1.out.bl.size ?_
              intro v2 u2 hgr
              have hr := HR1.out.push hgr
              have HR2 := Lib.hid hr
              have HS3 := Lib.hid (HSR.out _ hr.bl)
              clear hr hgr
              have hHeld := (HC9.out _ HR2.out.bl)
              refine hK.out _ _ (fun _ => hHeld) ?_
              clear hK K
              (try simp only [Act.put, List.setIfInBounds_toArray, List.set_cons_zero, List.set_cons_succ, List.getElem_toArray, List.getElem_cons_succ, List.getElem_cons_zero])
              refine anyL_ready (rs := [20]) (by kernel_rfl) (by simp) ?_
              refine AllL.cons rfl (fun K hK => ?_) AllL.nil
              refine step_push (by rfl) (.tmp 101) (.tmp 107) 30 (by rfl) wt.heap.size 38 Try.underlying30 II.out ⟨rfl, by decide⟩ v2 (0+k+1) (flat2 ([] ++ List.take k ST ++ [(id, key)])) (by rfl) HR2.out.row (some ⟨b5, o5 + k * 2, none⟩) (n5-k) (ct-k) _ (by rfl) HS3.out HLC.out HR2.out.bl.size ?_
              intro v3 u3 hgr
              have hr := HR2.out.push hgr
              have HR3 := Lib.hid hr
              obtain ⟨A9, c9, hv9⟩ := hgr.val
              have hrow := hr.row
              have hpu := (hr.bl.block p (HPS.out)).trans HT.out.hd
              rw [← HN5.out] at hpu
              obtain ⟨m9, hm9⟩ : ∃ m9, m9 = 0 + k + 1 + (n5 - k) := ⟨_, rfl⟩
              rw [← hm9] at hv9 hrow
              subst hv9
              have P2 := block_cell hpu (j := 0) rfl
              have F2 := block_fr hpu 0
              have HROW := Lib.hid hrow
              have HPU := Lib.hid hpu
              have HM9 := Lib.hid hm9
              have HBL9 := Lib.hid hr.bl
              clear hgr hr hrow hpu hm9
              have hHeld := (HC9.out _ HR3.out.bl)
              refine hK.out _ _ (fun _ => hHeld) ?_
              clear hK K
              (try simp only [Act.put, List.setIfInBounds_toArray, List.set_cons_zero, List.set_cons_succ, List.getElem_toArray, List.getElem_cons_succ, List.getElem_cons_zero])
              refine anyL_take (i := 21) (v := ?_) rfl (by kernel_rfl) (by kernel_rfl) (by kernel_rfl) (by kernel_rfl) (fun _ _ _ h => h) (Or.inl ⟨by rfl, ?_⟩) (by assumption) ?_
              rotate_left
              · intro w hSw; (try dsimp only at hSw); go_simp <;> with_reducible rfl
              (try simp only [Act.put, List.setIfInBounds_toArray, List.set_cons_zero, List.set_cons_succ, List.getElem_toArray, List.getElem_cons_succ, List.getElem_cons_zero])
              refine anyL_take (i := 22) (v := ?_) rfl (by kernel_rfl) (by kernel_rfl) (by kernel_rfl) (by kernel_rfl) (fun _ _ _ h => h) (Or.inl ⟨by rfl, ?_⟩) (by assumption) ?_
              rotate_left
              · intro w hSw; (try dsimp only at hSw); go_simp <;> with_reducible rfl
              (try simp only [Act.put, List.setIfInBounds_toArray, List.set_cons_zero, List.set_cons_succ, List.getElem_toArray, List.getElem_cons_succ, List.getElem_cons_zero])
              refine anyL_ready (rs := [23]) (by kernel_rfl) (by simp) ?_
              refine AllL.cons rfl (fun K hK => ?_) AllL.nil
              go_simp
              refine hK.out _ _ (fun h => absurd rfl h) ?_
              clear hK K
              (try simp only [Act.put, List.setIfInBounds_toArray, List.set_cons_zero, List.set_cons_succ, List.getElem_toArray, List.getElem_cons_succ, List.getElem_cons_zero])
              refine anyL_done (by kernel_rfl) ?_ _
              clear P2 F2
              go_wp2_with fail
              go_ret
              have hrow := HROW.out
              have hs9 := ins_split (x := (id, key)) (S := ST) (k := k) (by rw [← HN5.out]; exact hkn) HAH.out HNA.out
              have he : [] ++ List.take k ST ++ [((id, key) : It)] ++ List.drop k ST = pushF ST (id, key) := by rw [HPF.out, hs9, List.nil_append, List.append_assoc]; rfl
              rw [he] at hrow
              have hln : (pushF ST (id, key)).length = m9 := by
                rw [← he]
                have := HN5.out
                have := HM9.out
                simp only [List.length_append, List.length_nil, List.length_take, List.length_cons, List.length_drop]
                omega
              have hwf : ∀ y ∈ pushF ST (id, key), Wf y := fun y hy => by
                rcases pushF_ids hy with h1 | h1
                · rw [h1]; exact HX.out
                · exact HWF.out y h1
              have hor := H4.of_row hrow hln (by have := HM9.out; unfold maxLen; omega) (HPS.out) hwf HPU.out
              refine ⟨ret_bool HP.out.symm, ⟨A9, c9, hor.1, fun b' o' e => .inr (Nat.le_trans HU.out.size (hor.2 b' o' e))⟩, ?_⟩
              exact HU.out.trans (upd_setCell (F := fun b => b = p) (a := ⟨p, 0, none⟩) (Upd.of_below HBL9.out) rfl _) (fun _ _ h => h)
          · skip
            go_simp
            have hHeld := (HC9.out _ HNA0.out)
            refine hK.out _ _ (fun _ => hHeld) ?_
            clear hK K
            (try simp only [Act.put, List.setIfInBounds_toArray, List.set_cons_zero, List.set_cons_succ, List.getElem_toArray, List.getElem_cons_succ, List.getElem_cons_zero])
            refine anyL_ready (rs := [1]) (by kernel_rfl) (by simp) ?_
            refine AllL.cons rfl (fun K hK => ?_) AllL.nil
            go_simp
            have hHeld := (HC9.out _ HEC.out.bl)
            refine hK.out _ _ (fun _ => hHeld) ?_
            clear hK K
            (try simp only [Act.put, List.setIfInBounds_toArray, List.set_cons_zero, List.set_cons_succ, List.getElem_toArray, List.getElem_cons_succ, List.getElem_cons_zero])
            refine anyL_ready (rs := [8]) (by kernel_rfl) (by simp) ?_
            refine AllL.cons rfl (fun K hK => ?_) AllL.nil
            refine step_push (by rfl) (.tmp 89) (.tmp 95) 30 (by rfl) wt.heap.size 38 Try.underlying30 II.out ⟨rfl, by decide⟩ _ 0 (flat2 []) (by rfl) HEC.out.row (some ⟨b5, o5, none⟩) k ct _ (by rfl) HF3.out HLA.out HEC.out.bl.size ?_
            intro v1 u1 hgr
            have hr := HEC.out.push hgr
            have HR1 := Lib.hid hr
            have HSN := Lib.hid (HN3.out.grown hgr.by_ (fun ad e e2 => by injection e with e; subst e; simp [Value.ownBlock] at e2))
            clear hr hgr
            have hHeld := (HC9.out _ HR1.out.bl)
            refine hK.out _ _ (fun _ => hHeld) ?_
            clear hK K
            (try simp only [Act.put, List.setIfInBounds_toArray, List.set_cons_zero, List.set_cons_succ, List.getElem_toArray, List.getElem_cons_succ, List.getElem_cons_zero])
            refine anyL_ready (rs := [13]) (by kernel_rfl) (by simp) ?_
            refine AllL.cons rfl (fun K hK => ?_) AllL.nil
            refine step_push (by rfl) (.tmp 96) (.tmp 100) 30 (by rfl) wt.heap.size 38 Try.underlying30 II.out ⟨rfl, by decide⟩ v1 (0+k) (flat2 ([] ++ List.take k ST)) (by rfl) HR1.out.row (some ⟨wt.heap.size, 0, none⟩) 1 1 _ (by rfl) HSN.out HLB.out HR1.out.bl.size ?_
            intro v2 u2 hgr
            have hr := HR1.out.push hgr
            have HR2 := Lib.hid hr
            have HS3 := Lib.hid (HSR.out _ hr.bl)
            clear hr hgr
            have hHeld := (HC9.out _ HR2.out.bl)
            refine hK.out _ _ (fun _ => hHeld) ?_
            clear hK K
            (try simp only [Act.put, List.setIfInBounds_toArray, List.set_cons_zero, List.set_cons_succ, List.getElem_toArray, List.getElem_cons_succ, List.getElem_cons_zero])
            refine anyL_ready (rs := [20]) (by kernel_rfl) (by simp) ?_
            refine AllL.cons rfl (fun K hK => ?_) AllL.nil
            refine step_push (by rfl) (.tmp 101) (.tmp 107) 30 (by rfl) wt.heap.size 38 Try.underlying30 II.out ⟨rfl, by decide⟩ v2 (0+k+1) (flat2 ([] ++ List.take k ST ++ [(id, key)])) (by rfl) HR2.out.row (some ⟨b5, o5 + k * 2, none⟩) (n5-k) (ct-k) _ (by rfl) HS3.out HLC.out HR2.out.bl.size ?_
            intro v3 u3 hgr
            have hr := HR2.out.push hgr
            have HR3 := Lib.hid hr
            obtain ⟨A9, c9, hv9⟩ := hgr.val
            have hrow := hr.row
            have hpu := (hr.bl.block p (HPS.out)).trans HT.out.hd
            rw [← HN5.out] at hpu
            obtain ⟨m9, hm9⟩ : ∃ m9, m9 = 0 + k + 1 + (n5 - k) := ⟨_, rfl⟩
            rw [← hm9] at hv9 hrow
            subst hv9
            have P2 := block_cell hpu (j := 0) rfl
            have F2 := block_fr hpu 0
            have HROW := Lib.hid hrow
            have HPU := Lib.hid hpu
            have HM9 := Lib.hid hm9
            have HBL9 := Lib.hid hr.bl
            clear hgr hr hrow hpu hm9
            have hHeld := (HC9.out _ HR3.out.bl)
            refine hK.out _ _ (fun _ => hHeld) ?_
            clear hK K
            (try simp only [Act.put, List.setIfInBounds_toArray, List.set_cons_zero, List.set_cons_succ, List.getElem_toArray, List.getElem_cons_succ, List.getElem_cons_zero])
            refine anyL_take (i := 21) (v := ?_) rfl (by kernel_rfl) (by kernel_rfl) (by kernel_rfl) (by kernel_rfl) (fun _ _ _ h => h) (Or.inl ⟨by rfl, ?_⟩) (by assumption) ?_
            rotate_left
            · intro w hSw; (try dsimp only at hSw); go_simp <;> with_reducible rfl
            (try simp only [Act.put, List.setIfInBounds_toArray, List.set_cons_zero, List.set_cons_succ, List.getElem_toArray, List.getElem_cons_succ, List.getElem_cons_zero])
            refine anyL_take (i := 22) (v := ?_) rfl (by kernel_rfl) (by kernel_rfl) (by kernel_rfl) (by kernel_rfl) (fun _ _ _ h => h) (Or.inl ⟨by rfl, ?_⟩) (by assumption) ?_
            rotate_left
            · intro w hSw; (try dsimp only at hSw); go_simp <;> with_reducible rfl
            (try simp only [Act.put, List.setIfInBounds_toArray, List.set_cons_zero, List.set_cons_succ, List.getElem_toArray, List.getElem_cons_succ, List.getElem_cons_zero])
            refine anyL_ready (rs := [23]) (by kernel_rfl) (by simp) ?_
            refine AllL.cons rfl (fun K hK => ?_) AllL.nil
            go_simp
            refine hK.out _ _ (fun h => absurd rfl h) ?_
            clear hK K
            (try simp only [Act.put, List.setIfInBounds_toArray, List.set_cons_zero, List.set_cons_succ, List.getElem_toArray, List.getElem_cons_succ, List.getElem_cons_zero])
            refine anyL_done (by kernel_rfl) ?_ _
            clear P2 F2
            go_wp2_with fail
            go_ret
            have hrow := HROW.out
            have hs9 := ins_split (x := (id, key)) (S := ST) (k := k) (by rw [← HN5.out]; exact hkn) HAH.out HNA.out
            have he : [] ++ List.take k ST ++ [((id, key) : It)] ++ List.drop k ST = pushF ST (id, key) := by rw [HPF.out, hs9, List.nil_append, List.append_assoc]; rfl
            rw [he] at hrow
            have hln : (pushF ST (id, key)).length = m9 := by
              rw [← he]
              have := HN5.out
              have := HM9.out
              simp only [List.length_append, List.length_nil, List.length_take, List.length_cons, List.length_drop]
              omega
            have hwf : ∀ y ∈ pushF ST (id, key), Wf y := fun y hy => by
              rcases pushF_ids hy with h1 | h1
              · rw [h1]; exact HX.out
              · exact HWF.out y h1
            have hor := H4.of_row hrow hln (by have := HM9.out; unfold maxLen; omega) (HPS.out) hwf HPU.out
            refine ⟨ret_bool HP.out.symm, ⟨A9, c9, hor.1, fun b' o' e => .inr (Nat.le_trans HU.out.size (hor.2 b' o' e))⟩, ?_⟩
            exact HU.out.trans (upd_setCell (F := fun b => b = p) (a := ⟨p, 0, none⟩) (Upd.of_below HBL9.out) rfl _) (fun _ _ h => h)
    · have hge : decide ((k : Int) < (n5 : Int)) = false := decide_eq_false (by omega)
      have hna : k < ST.length → HeapP.ahead (g ST k) (id, key) = false := fun h => by have := HN5.out; omega
      rcases HT.out.at_ with ⟨e1, e2⟩ | ⟨b5, o5, e1, _, _⟩
      · subst e1 e2
        obtain rfl : n5 = 0 := by omega
        obtain rfl : k = 0 := by omega
        have HAX : Hid (∀ b' o', 0 < 0 → (none : Option Addr) = some ⟨b', o', none⟩ → (none : Option Addr) = some ⟨b', o' + 0 * 2, none⟩) := Lib.hid (fun b' o' h _ => by omega)
        have HAH := Lib.hid hah
        have HNA := Lib.hid hna
        clear hah hna
        have HD : Hid (Below wt.heap.size wt wt.drew) := Lib.hid (bl_drew (Below.refl _ _))
        have HEA := Lib.hid (R4.build (V := wt) HD.out)
        have HEB : Hid (R4 wt ((wt.drew.alloc (.cells #[] 38)).alloc (.cells #[.int .i64 id, .int .i64 key] 38)) (.slice (some ⟨wt.heap.size, 0, none⟩) 0 0) 0 []) := Lib.hid (HEA.out.below (bl_alloc (Below.refl _ _) _))
        have HNA0 : Hid (Below wt.heap.size wt (wt.drew.alloc (.cells #[.int .i64 id, .int .i64 key] 38))) := Lib.hid (bl_alloc HD.out _)
        have hec := R4.build (V := wt) HNA0.out
        rw [show (wt.drew.alloc (.cells #[.int .i64 id, .int .i64 key] 38)).heap.size = wt.heap.size + 1 from size_alloc _ _] at hec
        have HEC := Lib.hid hec
        have hn2 := src4_new (wt.drew.alloc (.cells #[] 38)) id key
        rw [show (wt.drew.alloc (.cells #[] 38)).heap.size = wt.heap.size + 1 from size_alloc _ _] at hn2
        have HN2 := Lib.hid hn2
        have HN3 : Hid (Src ((wt.drew.alloc (.cells #[.int .i64 id, .int .i64 key] 38)).alloc (.cells #[] 38)) 2 (some ⟨wt.heap.size, 0, none⟩) 1 (flat2 [((id, key) : It)])) := Lib.hid ((src4_new wt.drew id key).below (bl_alloc (Below.refl _ _) _))
        have HSF : Hid (∀ w', Below wt.heap.size wt w' → Src w' 2 none 0 (flat2 (ST.take 0))) := Lib.hid fun w' hb => (Src.ofP (HRT.out.frontP hkn 0)).below hb
        have HSR : Hid (∀ w', Below wt.heap.size wt w' → Src w' 2 none (0 - 0) (flat2 (ST.drop 0))) := Lib.hid fun w' hb => (Src.ofP (HRT.out.restP (j := 0) (A' := none) hkn 0 HAX.out)).below hb
        have HF1 := Lib.hid (HSF.out _ HEA.out.bl)
        have HF2 := Lib.hid (HSF.out _ HEB.out.bl)
        have HF3 := Lib.hid (HSF.out _ HEC.out.bl)
        have HLA : Hid (0 + 0 ≤ maxLen ∧ (0 + 0) * 16 ≤ 140737488355328) := Lib.hid ⟨by unfold maxLen; omega, by omega⟩
        have HLB : Hid (0 + 0 + 1 ≤ maxLen ∧ (0 + 0 + 1) * 16 ≤ 140737488355328) := Lib.hid ⟨by unfold maxLen; omega, by omega⟩
        have HLC : Hid (0 + 0 + 1 + (0 - 0) ≤ maxLen ∧ (0 + 0 + 1 + (0 - 0)) * 16 ≤ 140737488355328) := Lib.hid ⟨by unfold maxLen; omega, by omega⟩
        clear hec hn2
        go_wp2_with fail
        refine wp_regionL (S := fun w' => w'.cell? ⟨p, 0, none⟩ = some (.slice none 0 0)) 23 (by kernel_rfl) (HC9.out _ HD.out) (fun hHeld => ?_)
        refine anyL_take (i := 0) (v := ?_) rfl (by kernel_rfl) (by kernel_rfl) (by kernel_rfl) (by kernel_rfl) (fun _ _ _ h => h) (Or.inl ⟨by rfl, ?_⟩) (by assumption) ?_
        rotate_left
        · intro w hSw; (try dsimp only at hSw); go_simp <;> with_reducible rfl
        (try simp only [Act.put, List.setIfInBounds_toArray, List.set_cons_zero, List.set_cons_succ, List.getElem_toArray, List.getElem_cons_succ, List.getElem_cons_zero])
        refine anyL_take (i := 2) (v := ?_) rfl (by kernel_rfl) (by kernel_rfl) (by kernel_rfl) (by kernel_rfl) (fun _ _ _ h => h) (Or.inl ⟨by rfl, ?_⟩) (by assumption) ?_
        rotate_left
        · intro w hSw; (try dsimp only at hSw); go_simp <;> with_reducible rfl
        (try simp only [Act.put, List.setIfInBounds_toArray, List.set_cons_zero, List.set_cons_succ, List.getElem_toArray, List.getElem_cons_succ, List.getElem_cons_zero])
        refine anyL_take (i := 3) (v := ?_) rfl (by kernel_rfl) (by kernel_rfl) (by kernel_rfl) (by kernel_rfl) (fun _ _ _ h => h) (Or.inl ⟨by rfl, ?_⟩) (by assumption) ?_
        rotate_left
        · intro w hSw; (try dsimp only at hSw); go_simp <;> with_reducible rfl
        (try simp only [Act.put, List.setIfInBounds_toArray, List.set_cons_zero, List.set_cons_succ, List.getElem_toArray, List.getElem_cons_succ, List.getElem_cons_zero])
        refine anyL_take (i := 4) (v := ?_) rfl (by kernel_rfl) (by kernel_rfl) (by kernel_rfl) (by kernel_rfl) (fun _ _ _ h => h) (Or.inl ⟨by rfl, ?_⟩) (by assumption) ?_
        rotate_left
        · intro w hSw; (try dsimp only at hSw); go_simp <;> with_reducible rfl
        (try simp only [Act.put, List.setIfInBounds_toArray, List.set_cons_zero, List.set_cons_succ, List.getElem_toArray, List.getElem_cons_succ, List.getElem_cons_zero])
        refine anyL_take (i := 5) (v := ?_) rfl (by kernel_rfl) (by kernel_rfl) (by kernel_rfl) (by kernel_rfl) (fun _ _ _ h => h) (Or.inl ⟨by rfl, ?_⟩) (by assumption) ?_
        rotate_left
        · intro w hSw; (try dsimp only at hSw); go_simp <;> with_reducible rfl
        (try simp only [Act.put, List.setIfInBounds_toArray, List.set_cons_zero, List.set_cons_succ, List.getElem_toArray, List.getElem_cons_succ, List.getElem_cons_zero])
        refine anyL_take (i := 6) (v := ?_) rfl (by kernel_rfl) (by kernel_rfl) (by kernel_rfl) (by kernel_rfl) (fun _ _ _ h => h) (Or.inl ⟨by rfl, ?_⟩) (by assumption) ?_
        rotate_left
        · intro w hSw; (try dsimp only at hSw); go_simp <;> with_reducible rfl
        (try simp only [Act.put, List.setIfInBounds_toArray, List.set_cons_zero, List.set_cons_succ, List.getElem_toArray, List.getElem_cons_succ, List.getElem_cons_zero])
        refine anyL_take (i := 7) (v := ?_) rfl (by kernel_rfl) (by kernel_rfl) (by kernel_rfl) (by kernel_rfl) (fun _ _ _ h => h) (Or.inl ⟨by rfl, ?_⟩) (by assumption) ?_
        rotate_left
        · intro w hSw; (try dsimp only at hSw); go_simp <;> with_reducible rfl
        (try simp only [Act.put, List.setIfInBounds_toArray, List.set_cons_zero, List.set_cons_succ, List.getElem_toArray, List.getElem_cons_succ, List.getElem_cons_zero])
        refine anyL_take (i := 9) (v := ?_) rfl (by kernel_rfl) (by kernel_rfl) (by kernel_rfl) (by kernel_rfl) (fun _ _ _ h => h) (Or.inl ⟨by rfl, ?_⟩) (by assumption) ?_
        rotate_left
        · intro w hSw; (try dsimp only at hSw); go_simp <;> with_reducible rfl
        (try simp only [Act.put, List.setIfInBounds_toArray, List.set_cons_zero, List.set_cons_succ, List.getElem_toArray, List.getElem_cons_succ, List.getElem_cons_zero])
        refine anyL_take (i := 10) (v := ?_) rfl (by kernel_rfl) (by kernel_rfl) (by kernel_rfl) (by kernel_rfl) (fun _ _ _ h => h) (Or.inl ⟨by rfl, ?_⟩) (by assumption) ?_
        rotate_left
        · intro w hSw; (try dsimp only at hSw); go_simp <;> with_reducible rfl
        (try simp only [Act.put, List.setIfInBounds_toArray, List.set_cons_zero, List.set_cons_succ, List.getElem_toArray, List.getElem_cons_succ, List.getElem_cons_zero])
        refine anyL_take (i := 11) (v := ?_) rfl (by kernel_rfl) (by kernel_rfl) (by kernel_rfl) (by kernel_rfl) (fun _ _ _ h => h) (Or.inl ⟨by rfl, ?_⟩) (by assumption) ?_
        rotate_left
        · intro w hSw; (try dsimp only at hSw); go_simp <;> with_reducible rfl
        (try simp only [Act.put, List.setIfInBounds_toArray, List.set_cons_zero, List.set_cons_succ, List.getElem_toArray, List.getElem_cons_succ, List.getElem_cons_zero])
        refine anyL_take (i := 14) (v := ?_) rfl (by kernel_rfl) (by kernel_rfl) (by kernel_rfl) (by kernel_rfl) (fun _ _ _ h => h) (Or.inl ⟨by rfl, ?_⟩) (by assumption) ?_
        rotate_left
        · intro w hSw; (try dsimp only at hSw); go_simp <;> with_reducible rfl
        (try simp only [Act.put, List.setIfInBounds_toArray, List.set_cons_zero, List.set_cons_succ, List.getElem_toArray, List.getElem_cons_succ, List.getElem_cons_zero])
        refine anyL_take (i := 15) (v := ?_) rfl (by kernel_rfl) (by kernel_rfl) (by kernel_rfl) (by kernel_rfl) (fun _ _ _ h => h) (Or.inl ⟨by rfl, ?_⟩) (by assumption) ?_
        rotate_left
        · intro w hSw; (try dsimp only at hSw); go_simp <;> with_reducible rfl
        (try simp only [Act.put, List.setIfInBounds_toArray, List.set_cons_zero, List.set_cons_succ, List.getElem_toArray, List.getElem_cons_succ, List.getElem_cons_zero])
        refine anyL_take (i := 16) (v := ?_) rfl (by kernel_rfl) (by kernel_rfl) (by kernel_rfl) (by kernel_rfl) (fun _ _ _ h => h) (Or.inl ⟨by rfl, ?_⟩) (by assumption) ?_
        rotate_left
        · intro w hSw; (try dsimp only at hSw); go_simp <;> with_reducible rfl
        (try simp only [Act.put, List.setIfInBounds_toArray, List.set_cons_zero, List.set_cons_succ, List.getElem_toArray, List.getElem_cons_succ, List.getElem_cons_zero])
        refine anyL_take (i := 17) (v := ?_) rfl (by kernel_rfl) (by kernel_rfl) (by kernel_rfl) (by kernel_rfl) (fun _ _ _ h => h) (Or.inl ⟨by rfl, ?_⟩) (by assumption) ?_
        rotate_left
        · intro w hSw; (try dsimp only at hSw); go_simp <;> with_reducible rfl
        (try simp only [Act.put, List.setIfInBounds_toArray, List.set_cons_zero, List.set_cons_succ, List.getElem_toArray, List.getElem_cons_succ, List.getElem_cons_zero])
        refine anyL_take (i := 18) (v := ?_) rfl (by kernel_rfl) (by kernel_rfl) (by kernel_rfl) (by kernel_rfl) (fun _ _ _ h => h) (Or.inl ⟨by rfl, ?_⟩) (by assumption) ?_
        rotate_left
        · intro w hSw; (try dsimp only at hSw); go_simp <;> with_reducible rfl
        (try simp only [Act.put, List.setIfInBounds_toArray, List.set_cons_zero, List.set_cons_succ, List.getElem_toArray, List.getElem_cons_succ, List.getElem_cons_zero])
        refine anyL_take (i := 19) (v := ?_) rfl (by kernel_rfl) (by kernel_rfl) (by kernel_rfl) (by kernel_rfl) (fun _ _ _ h => h) (Or.inl ⟨by rfl, ?_⟩) (by assumption) ?_
        rotate_left
        · intro w hSw; (try dsimp only at hSw); go_simp <;> with_reducible rfl
        (try simp only [Act.put, List.setIfInBounds_toArray, List.set_cons_zero, List.set_cons_succ, List.getElem_toArray, List.getElem_cons_succ, List.getElem_cons_zero])
        refine anyL_ready (rs := [1, 12]) (by kernel_rfl) (by simp) ?_
        refine AllL.cons rfl (fun K hK => ?_) (AllL.cons rfl (fun K hK => ?_) AllL.nil)
        · skip
          go_simp
          have hHeld := (HC9.out _ HEA.out.bl)
          refine hK.out _ _ (fun _ => hHeld) ?_
          clear hK K
          (try simp only [Act.put, List.setIfInBounds_toArray, List.set_cons_zero, List.set_cons_succ, List.getElem_toArray, List.getElem_cons_succ, List.getElem_cons_zero])
          refine anyL_ready (rs := [8, 12]) (by kernel_rfl) (by simp) ?_
          refine AllL.cons rfl (fun K hK => ?_) (AllL.cons rfl (fun K hK => ?_) AllL.nil)
          · skip
            refine step_push (by rfl) (.tmp 89) (.tmp 95) 30 (by rfl) wt.heap.size 38 Try.underlying30 II.out ⟨rfl, by decide⟩ _ 0 (flat2 []) (by rfl) HEA.out.row none 0 0 _ (by rfl) HF1.out HLA.out HEA.out.bl.size ?_
            intro v1 u1 hgr
            have hr := HEA.out.push hgr
            have HR1 := Lib.hid hr
            have HR1N := Lib.hid (hr.below (bl_alloc (Below.refl _ _) (.cells #[.int .i64 id, .int .i64 key] 38)))
            have HSN := Lib.hid (src4_new u1 id key)
            clear hr hgr
            have hHeld := (HC9.out _ HR1.out.bl)
            refine hK.out _ _ (fun _ => hHeld) ?_
            clear hK K
            (try simp only [Act.put, List.setIfInBounds_toArray, List.set_cons_zero, List.set_cons_succ, List.getElem_toArray, List.getElem_cons_succ, List.getElem_cons_zero])
            refine anyL_ready (rs := [12]) (by kernel_rfl) (by simp) ?_
            refine AllL.cons rfl (fun K hK => ?_) AllL.nil
            go_simp
            have hHeld := (HC9.out _ HR1N.out.bl)
            refine hK.out _ _ (fun _ => hHeld) ?_
            clear hK K
            (try simp only [Act.put, List.setIfInBounds_toArray, List.set_cons_zero, List.set_cons_succ, List.getElem_toArray, List.getElem_cons_succ, List.getElem_cons_zero])
            refine anyL_ready (rs := [13]) (by kernel_rfl) (by simp) ?_
            refine AllL.cons rfl (fun K hK => ?_) AllL.nil
            refine step_push (by rfl) (.tmp 96) (.tmp 100) 30 (by rfl) wt.heap.size 38 Try.underlying30 II.out ⟨rfl, by decide⟩ v1 (0+0) (flat2 ([] ++ List.take 0 ST)) (by rfl) HR1N.out.row (some ⟨u1.heap.size, 0, none⟩) 1 1 _ (by rfl) HSN.out HLB.out HR1N.out.bl.size ?_
            intro v2 u2 hgr
            have hr := HR1N.out.push hgr
            have HR2 := Lib.hid hr
            have HS3 := Lib.hid (HSR.out _ hr.bl)
            clear hr hgr
            have hHeld := (HC9.out _ HR2.out.bl)
            refine hK.out _ _ (fun _ => hHeld) ?_
            clear hK K
            (try simp only [Act.put, List.setIfInBounds_toArray, List.set_cons_zero, List.set_cons_succ, List.getElem_toArray, List.getElem_cons_succ, List.getElem_cons_zero])
            refine anyL_ready (rs := [20]) (by kernel_rfl) (by simp) ?_
            refine AllL.cons rfl (fun K hK => ?_) AllL.nil
            refine step_push (by rfl) (.tmp 101) (.tmp 107) 30 (by rfl) wt.heap.size 38 Try.underlying30 II.out ⟨rfl, by decide⟩ v2 (0+0+1) (flat2 ([] ++ List.take 0 ST ++ [(id, key)])) (by rfl) HR2.out.row none (0-0) 0 _ (by rfl) HS3.out HLC.out HR2.out.bl.size ?_
            intro v3 u3 hgr
            have hr := HR2.out.push hgr
            have HR3 := Lib.hid hr
            obtain ⟨A9, c9, hv9⟩ := hgr.val
            have hrow := hr.row
            have hpu := (hr.bl.block p (HPS.out)).trans HT.out.hd
            rw [← HN5.out] at hpu
            obtain ⟨m9, hm9⟩ : ∃ m9, m9 = 0 + 0 + 1 + (0 - 0) := ⟨_, rfl⟩
            rw [← hm9] at hv9 hrow
            subst hv9
            have P2 := block_cell hpu (j := 0) rfl
            have F2 := block_fr hpu 0
            have HROW := Lib.hid hrow
            have HPU := Lib.hid hpu
            have HM9 := Lib.hid hm9
            have HBL9 := Lib.hid hr.bl
            clear hgr hr hrow hpu hm9
            have hHeld := (HC9.out _ HR3.out.bl)
            refine hK.out _ _ (fun _ => hHeld) ?_
            clear hK K
            (try simp only [Act.put, List.setIfInBounds_toArray, List.set_cons_zero, List.set_cons_succ, List.getElem_toArray, List.getElem_cons_succ, List.getElem_cons_zero])
            refine anyL_take (i := 21) (v := ?_) rfl (by kernel_rfl) (by kernel_rfl) (by kernel_rfl) (by kernel_rfl) (fun _ _ _ h => h) (Or.inl ⟨by rfl, ?_⟩) (by assumption) ?_
            rotate_left
            · intro w hSw; (try dsimp only at hSw); go_simp <;> with_reducible rfl
            (try simp only [Act.put, List.setIfInBounds_toArray, List.set_cons_zero, List.set_cons_succ, List.getElem_toArray, List.getElem_cons_succ, List.getElem_cons_zero])
            refine anyL_take (i := 22) (v := ?_) rfl (by kernel_rfl) (by kernel_rfl) (by kernel_rfl) (by kernel_rfl) (fun _ _ _ h => h) (Or.inl ⟨by rfl, ?_⟩) (by assumption) ?_
            rotate_left
            · intro w hSw; (try dsimp only at hSw); go_simp <;> with_reducible rfl
            (try simp only [Act.put, List.setIfInBounds_toArray, List.set_cons_zero, List.set_cons_succ, List.getElem_toArray, List.getElem_cons_succ, List.getElem_cons_zero])
            refine anyL_ready (rs := [23]) (by kernel_rfl) (by simp) ?_
            refine AllL.cons rfl (fun K hK => ?_) AllL.nil
            go_simp
            refine hK.out _ _ (fun h => absurd rfl h) ?_
            clear hK K
            (try simp only [Act.put, List.setIfInBounds_toArray, List.set_cons_zero, List.set_cons_succ, List.getElem_toArray, List.getElem_cons_succ, List.getElem_cons_zero])
            refine anyL_done (by kernel_rfl) ?_ _
            clear P2 F2
            go_wp2_with fail
            go_ret
            have hrow := HROW.out
            have hs9 := ins_split (x := (id, key)) (S := ST) (k := 0) (by rw [← HN5.out]; exact hkn) HAH.out HNA.out
            have he : [] ++ List.take 0 ST ++ [((id, key) : It)] ++ List.drop 0 ST = pushF ST (id, key) := by rw [HPF.out, hs9, List.nil_append, List.append_assoc]; rfl
            rw [he] at hrow
            have hln : (pushF ST (id, key)).length = m9 := by
              rw [← he]
              have := HN5.out
              have := HM9.out
              simp only [List.length_append, List.length_nil, List.length_take, List.length_cons, List.length_drop]
              omega
            have hwf : ∀ y ∈ pushF ST (id, key), Wf y := fun y hy => by
              rcases pushF_ids hy with h1 | h1
              · rw [h1]; exact HX.out
              · exact HWF.out y h1
            have hor := H4.of_row hrow hln (by have := HM9.out; unfold maxLen; omega) (HPS.out) hwf HPU.out
            refine ⟨ret_bool HP.out.symm, ⟨A9, c9, hor.1, fun b' o' e => .inr (Nat.le_trans HU.out.size (hor.2 b' o' e))⟩, ?_⟩
            exact HU.out.trans (upd_setCell (F := fun b => b = p) (a := ⟨p, 0, none⟩) (Upd.of_below HBL9.out) rfl _) (fun _ _ h => h)
          · skip
            go_simp
            have hHeld := (HC9.out _ HEB.out.bl)
            refine hK.out _ _ (fun _ => hHeld) ?_
            clear hK K
            (try simp only [Act.put, List.setIfInBounds_toArray, List.set_cons_zero, List.set_cons_succ, List.getElem_toArray, List.getElem_cons_succ, List.getElem_cons_zero])
            refine anyL_ready (rs := [8]) (by kernel_rfl) (by simp) ?_
            refine AllL.cons rfl (fun K hK => ?_) AllL.nil
            refine step_push (by rfl) (.tmp 89) (.tmp 95) 30 (by rfl) wt.heap.size 38 Try.underlying30 II.out ⟨rfl, by decide⟩ _ 0 (flat2 []) (by rfl) HEB.out.row none 0 0 _ (by rfl) HF2.out HLA.out HEB.out.bl.size ?_
            intro v1 u1 hgr
            have hr := HEB.out.push hgr
            have HR1 := Lib.hid hr
            have HSN := Lib.hid (HN2.out.grown hgr.by_ (fun ad e e2 => by injection e with e; subst e; simp [Value.ownBlock] at e2))
            clear hr hgr
            have hHeld := (HC9.out _ HR1.out.bl)
            refine hK.out _ _ (fun _ => hHeld) ?_
            clear hK K
            (try simp only [Act.put, List.setIfInBounds_toArray, List.set_cons_zero, List.set_cons_succ, List.getElem_toArray, List.getElem_cons_succ, List.getElem_cons_zero])
            refine anyL_ready (rs := [13]) (by kernel_rfl) (by simp) ?_
            refine AllL.cons rfl (fun K hK => ?_) AllL.nil
            refine step_push (by rfl) (.tmp 96) (.tmp 100) 30 (by rfl) wt.heap.size 38 Try.underlying30 II.out ⟨rfl, by decide⟩ v1 (0+0) (flat2 ([] ++ List.take 0 ST)) (by rfl) HR1.out.row (some ⟨wt.heap.size + 1, 0, none⟩) 1 1 _ (by rfl) HSN.out HLB.out HR1.out.bl.size ?_
            intro v2 u2 hgr
            have hr := HR1.out.push hgr
            have HR2 := Lib.hid hr
            have HS3 := Lib.hid (HSR.out _ hr.bl)
            clear hr hgr
            have hHeld := (HC9.out _ HR2.out.bl)
            refine hK.out _ _ (fun _ => hHeld) ?_
            clear hK K
            (try simp only [Act.put, List.setIfInBounds_toArray, List.set_cons_zero, List.set_cons_succ, List.getElem_toArray, List.getElem_cons_succ, List.getElem_cons_zero])
            refine anyL_ready (rs := [20]) (by kernel_rfl) (by simp) ?_
            refine AllL.cons rfl (fun K hK => ?_) AllL.nil
            refine step_push (by rfl) (.tmp 101) (.tmp 107) 30 (by rfl) wt.heap.size 38 Try.underlying30 II.out ⟨rfl, by decide⟩ v2 (0+0+1) (flat2 ([] ++ List.take 0 ST ++ [(id, key)])) (by rfl) HR2.out.row none (0-0) 0 _ (by rfl) HS3.out HLC.out HR2.out.bl.size ?_
            intro v3 u3 hgr
            have hr := HR2.out.push hgr
            have HR3 := Lib.hid hr
            obtain ⟨A9, c9, hv9⟩ := hgr.val
            have hrow := hr.row
            have hpu := (hr.bl.block p (HPS.out)).trans HT.out.hd
            rw [← HN5.out] at hpu
            obtain ⟨m9, hm9⟩ : ∃ m9, m9 = 0 + 0 + 1 + (0 - 0) := ⟨_, rfl⟩
            rw [← hm9] at hv9 hrow
            subst hv9
            have P2 := block_cell hpu (j := 0) rfl
            have F2 := block_fr hpu 0
            have HROW := Lib.hid hrow
            have HPU := Lib.hid hpu
            have HM9 := Lib.hid hm9
            have HBL9 := Lib.hid hr.bl
            clear hgr hr hrow hpu hm9
            have hHeld := (HC9.out _ HR3.out.bl)
            refine hK.out _ _ (fun _ => hHeld) ?_
            clear hK K
            (try simp only [Act.put, List.setIfInBounds_toArray, List.set_cons_zero, List.set_cons_succ, List.getElem_toArray, List.getElem_cons_succ, List.getElem_cons_zero])
            refine anyL_take (i := 21) (v := ?_) rfl (by kernel_rfl) (by kernel_rfl) (by kernel_rfl) (by kernel_rfl) (fun _ _ _ h => h) (Or.inl ⟨by rfl, ?_⟩) (by assumption) ?_
            rotate_left
            · intro w hSw; (try dsimp only at hSw); go_simp <;> with_reducible rfl
            (try simp only [Act.put, List.setIfInBounds_toArray, List.set_cons_zero, List.set_cons_succ, List.getElem_toArray, List.getElem_cons_succ, List.getElem_cons_zero])
            refine anyL_take (i := 22) (v := ?_) rfl (by kernel_rfl) (by kernel_rfl) (by kernel_rfl) (by kernel_rfl) (fun _ _ _ h => h) (Or.inl ⟨by rfl, ?_⟩) (by assumption) ?_
            rotate_left
            · intro w hSw; (try dsimp only at hSw); go_simp <;> with_reducible rfl
            (try simp only [Act.put, List.setIfInBounds_toArray, List.set_cons_zero, List.set_cons_succ, List.getElem_toArray, List.getElem_cons_succ, List.getElem_cons_zero])
            refine anyL_ready (rs := [23]) (by kernel_rfl) (by simp) ?_
            refine AllL.cons rfl (fun K hK => ?_) AllL.nil
            go_simp
            refine hK.out _ _ (fun h => absurd rfl h) ?_
            clear hK K
            (try simp only [Act.put, List.setIfInBounds_toArray, List.set_cons_zero, List.set_cons_succ, List.getElem_toArray, List.getElem_cons_succ, List.getElem_cons_zero])
            refine anyL_done (by kernel_rfl) ?_ _
            clear P2 F2
            go_wp2_with fail
            go_ret
            have hrow := HROW.out
            have hs9 := ins_split (x := (id, key)) (S := ST) (k := 0) (by rw [← HN5.out]; exact hkn) HAH.out HNA.out
            have he : [] ++ List.take 0 ST ++ [((id, key) : It)] ++ List.drop 0 ST = pushF ST (id, key) := by rw [HPF.out, hs9, List.nil_append, List.append_assoc]; rfl
            rw [he] at hrow
            have hln : (pushF ST (id, key)).length = m9 := by
              rw [← he]
              have := HN5.out
              have := HM9.out
              simp only [List.length_append, List.length_nil, List.length_take, List.length_cons, List.length_drop]
              omega
            have hwf : ∀ y ∈ pushF ST (id, key), Wf y := fun y hy => by
              rcases pushF_ids hy with h1 | h1
              · rw [h1]; exact HX.out
              · exact HWF.out y h1
            have hor := H4.of_row hrow hln (by have := HM9.out; unfold maxLen; omega) (HPS.out) hwf HPU.out
            refine ⟨ret_bool HP.out.symm, ⟨A9, c9, hor.1, fun b' o' e => .inr (Nat.le_trans HU.out.size (hor.2 b' o' e))⟩, ?_⟩
            exact HU.out.trans (upd_setCell (F := fun b => b = p) (a := ⟨p, 0, none⟩) (Upd.of_below HBL9.out) rfl _) (fun _ _ h => h)
        · skip
          go_simp
          have hHeld := (HC9.out _ HNA0.out)
          refine hK.out _ _ (fun _ => hHeld) ?_
          clear hK K
          (try simp only [Act.put, List.setIfInBounds_toArray, List.set_cons_zero, List.set_cons_succ, List.getElem_toArray, List.getElem_cons_succ, List.getElem_cons_zero])
          refine anyL_ready (rs := [1]) (by kernel_rfl) (by simp) ?_
          refine AllL.cons rfl (fun K hK => ?_) AllL.nil
          go_simp
          have hHeld := (HC9.out _ HEC.out.bl)
          refine hK.out _ _ (fun _ => hHeld) ?_
          clear hK K
          (try simp only [Act.put, List.setIfInBounds_toArray, List.set_cons_zero, List.set_cons_succ, List.getElem_toArray, List.getElem_cons_succ, List.getElem_cons_zero])
          refine anyL_ready (rs := [8]) (by kernel_rfl) (by simp) ?_
          refine AllL.cons rfl (fun K hK => ?_) AllL.nil
          refine step_push (by rfl) (.tmp 89) (.tmp 95) 30 (by rfl) wt.heap.size 38 Try.underlying30 II.out ⟨rfl, by decide⟩ _ 0 (flat2 []) (by rfl) HEC.out.row none 0 0 _ (by rfl) HF3.out HLA.out HEC.out.bl.size ?_
          intro v1 u1 hgr
          have hr := HEC.out.push hgr
          have HR1 := Lib.hid hr
          have HSN := Lib.hid (HN3.out.grown hgr.by_ (fun ad e e2 => by injection e with e; subst e; simp [Value.ownBlock] at e2))
          clear hr hgr
          have hHeld := (HC9.out _ HR1.out.bl)
          refine hK.out _ _ (fun _ => hHeld) ?_
          clear hK K
          (try simp only [Act.put, List.setIfInBounds_toArray, List.set_cons_zero, List.set_cons_succ, List.getElem_toArray, List.getElem_cons_succ, List.getElem_cons_zero])
          refine anyL_ready (rs := [13]) (by kernel_rfl) (by simp) ?_
          refine AllL.cons rfl (fun K hK => ?_) AllL.nil
          refine step_push (by rfl) (.tmp 96) (.tmp 100) 30 (by rfl) wt.heap.size 38 Try.underlying30 II.out ⟨rfl, by decide⟩ v1 (0+0) (flat2 ([] ++ List.take 0 ST)) (by rfl) HR1.out.row (some ⟨wt.heap.size, 0, none⟩) 1 1 _ (by rfl) HSN.out HLB.out HR1.out.bl.size ?_
          intro v2 u2 hgr
          have hr := HR1.out.push hgr
          have HR2 := Lib.hid hr
          have HS3 := Lib.hid (HSR.out _ hr.bl)
          clear hr hgr
          have hHeld := (HC9.out _ HR2.out.bl)
          refine hK.out _ _ (fun _ => hHeld) ?_
          clear hK K
          (try simp only [Act.put, List.setIfInBounds_toArray, List.set_cons_zero, List.set_cons_succ, List.getElem_toArray, List.getElem_cons_succ, List.getElem_cons_zero])
          refine anyL_ready (rs := [20]) (by kernel_rfl) (by simp) ?_
          refine AllL.cons rfl (fun K hK => ?_) AllL.nil
          refine step_push (by rfl) (.tmp 101) (.tmp 107) 30 (by rfl) wt.heap.size 38 Try.underlying30 II.out ⟨rfl, by decide⟩ v2 (0+0+1) (flat2 ([] ++ List.take 0 ST ++ [(id, key)])) (by rfl) HR2.out.row none (0-0) 0 _ (by rfl) HS3.out HLC.out HR2.out.bl.size ?_
          intro v3 u3 hgr
          have hr := HR2.out.push hgr
          have HR3 := Lib.hid hr
          obtain ⟨A9, c9, hv9⟩ := hgr.val
          have hrow := hr.row
          have hpu := (hr.bl.block p (HPS.out)).trans HT.out.hd
          rw [← HN5.out] at hpu
          obtain ⟨m9, hm9⟩ : ∃ m9, m9 = 0 + 0 + 1 + (0 - 0) := ⟨_, rfl⟩
          rw [← hm9] at hv9 hrow
          subst hv9
          have P2 := block_cell hpu (j := 0) rfl
          have F2 := block_fr hpu 0
          have HROW := Lib.hid hrow
          have HPU := Lib.hid hpu
          have HM9 := Lib.hid hm9
          have HBL9 := Lib.hid hr.bl
          clear hgr hr hrow hpu hm9
          have hHeld := (HC9.out _ HR3.out.bl)
          refine hK.out _ _ (fun _ => hHeld) ?_
          clear hK K
          (try simp only [Act.put, List.setIfInBounds_toArray, List.set_cons_zero, List.set_cons_succ, List.getElem_toArray, List.getElem_cons_succ, List.getElem_cons_zero])
          refine anyL_take (i := 21) (v := ?_) rfl (by kernel_rfl) (by kernel_rfl) (by kernel_rfl) (by kernel_rfl) (fun _ _ _ h => h) (Or.inl ⟨by rfl, ?_⟩) (by assumption) ?_
          rotate_left
          · intro w hSw; (try dsimp only at hSw); go_simp <;> with_reducible rfl
          (try simp only [Act.put, List.setIfInBounds_toArray, List.set_cons_zero, List.set_cons_succ, List.getElem_toArray, List.getElem_cons_succ, List.getElem_cons_zero])
          refine anyL_take (i := 22) (v := ?_) rfl (by kernel_rfl) (by kernel_rfl) (by kernel_rfl) (by kernel_rfl) (fun _ _ _ h => h) (Or.inl ⟨by rfl, ?_⟩) (by assumption) ?_
          rotate_left
          · intro w hSw; (try dsimp only at hSw); go_simp <;> with_reducible rfl
          (try simp only [Act.put, List.setIfInBounds_toArray, List.set_cons_zero, List.set_cons_succ, List.getElem_toArray, List.getElem_cons_succ, List.getElem_cons_zero])
          refine anyL_ready (rs := [23]) (by kernel_rfl) (by simp) ?_
          refine AllL.cons rfl (fun K hK => ?_) AllL.nil
          go_simp
          refine hK.out _ _ (fun h => absurd rfl h) ?_
          clear hK K
          (try simp only [Act.put, List.setIfInBounds_toArray, List.set_cons_zero, List.set_cons_succ, List.getElem_toArray, List.getElem_cons_succ, List.getElem_cons_zero])
          refine anyL_done (by kernel_rfl) ?_ _
          clear P2 F2
          go_wp2_with fail
          go_ret
          have hrow := HROW.out
          have hs9 := ins_split (x := (id, key)) (S := ST) (k := 0) (by rw [← HN5.out]; exact hkn) HAH.out HNA.out
          have he : [] ++ List.take 0 ST ++ [((id, key) : It)] ++ List.drop 0 ST = pushF ST (id, key) := by rw [HPF.out, hs9, List.nil_append, List.append_assoc]; rfl
          rw [he] at hrow
          have hln : (pushF ST (id, key)).length = m9 := by
            rw [← he]
            have := HN5.out
            have := HM9.out
            simp only [List.length_append, List.length_nil, List.length_take, List.length_cons, List.length_drop]
            omega
          have hwf : ∀ y ∈ pushF ST (id, key), Wf y := fun y hy => by
            rcases pushF_ids hy with h1 | h1
            · rw [h1]; exact HX.out
            · exact HWF.out y h1
          have hor := H4.of_row hrow hln (by have := HM9.out; unfold maxLen; omega) (HPS.out) hwf HPU.out
          refine ⟨ret_bool HP.out.symm, ⟨A9, c9, hor.1, fun b' o' e => .inr (Nat.le_trans HU.out.size (hor.2 b' o' e))⟩, ?_⟩
          exact HU.out.trans (upd_setCell (F := fun b => b = p) (a := ⟨p, 0, none⟩) (Upd.of_below HBL9.out) rfl _) (fun _ _ h => h)
      · subst e1
        by_cases hck : ct = k
        · have HAX : Hid (∀ b' o', k < n5 → some (⟨b5, o5, none⟩ : Addr) = some ⟨b', o', none⟩ → some (⟨b5, o5, none⟩ : Addr) = some ⟨b', o' + k * 2, none⟩) := Lib.hid (fun b' o' h _ => by omega)
          subst hck
          have HAH := Lib.hid hah
          have HNA := Lib.hid hna
          have hge2 : decide (ct < n5) = false := decide_eq_false hlt
          clear hah hna hlt hcap5
          have k2 : (ct : Int) ≤ (n5 : Int) := by omega
          have k5 : (0 : Int) ≤ (ct : Int) := by omega
          have HD : Hid (Below wt.heap.size wt wt.drew) := Lib.hid (bl_drew (Below.refl _ _))
          have HEA := Lib.hid (R4.build (V := wt) HD.out)
          have HEB : Hid (R4 wt ((wt.drew.alloc (.cells #[] 38)).alloc (.cells #[.int .i64 id, .int .i64 key] 38)) (.slice (some ⟨wt.heap.size, 0, none⟩) 0 0) 0 []) := Lib.hid (HEA.out.below (bl_alloc (Below.refl _ _) _))
          have HNA0 : Hid (Below wt.heap.size wt (wt.drew.alloc (.cells #[.int .i64 id, .int .i64 key] 38))) := Lib.hid (bl_alloc HD.out _)
          have hec := R4.build (V := wt) HNA0.out
          rw [show (wt.drew.alloc (.cells #[.int .i64 id, .int .i64 key] 38)).heap.size = wt.heap.size + 1 from size_alloc _ _] at hec
          have HEC := Lib.hid hec
          have hn2 := src4_new (wt.drew.alloc (.cells #[] 38)) id key
          rw [show (wt.drew.alloc (.cells #[] 38)).heap.size = wt.heap.size + 1 from size_alloc _ _] at hn2
          have HN2 := Lib.hid hn2
          have HN3 : Hid (Src ((wt.drew.alloc (.cells #[.int .i64 id, .int .i64 key] 38)).alloc (.cells #[] 38)) 2 (some ⟨wt.heap.size, 0, none⟩) 1 (flat2 [((id, key) : It)])) := Lib.hid ((src4_new wt.drew id key).below (bl_alloc (Below.refl _ _) _))
          have HSF : Hid (∀ w', Below wt.heap.size wt w' → Src w' 2 (some ⟨b5, o5, none⟩) ct (flat2 (ST.take ct))) := Lib.hid fun w' hb => (Src.ofP (HRT.out.frontP hkn ct)).below hb
          have HSR : Hid (∀ w', Below wt.heap.size wt w' → Src w' 2 (some ⟨b5, o5, none⟩) (n5 - ct) (flat2 (ST.drop ct))) := Lib.hid fun w' hb => (Src.ofP (HRT.out.restP (j := ct) (A' := (some ⟨b5, o5, none⟩)) hkn 0 HAX.out)).below hb
          have HF1 := Lib.hid (HSF.out _ HEA.out.bl)
          have HF2 := Lib.hid (HSF.out _ HEB.out.bl)
          have HF3 := Lib.hid (HSF.out _ HEC.out.bl)
          have HLA : Hid (0 + ct ≤ maxLen ∧ (0 + ct) * 16 ≤ 140737488355328) := Lib.hid ⟨by unfold maxLen; omega, by omega⟩
          have HLB : Hid (0 + ct + 1 ≤ maxLen ∧ (0 + ct + 1) * 16 ≤ 140737488355328) := Lib.hid ⟨by unfold maxLen; omega, by omega⟩
          have HLC : Hid (0 + ct + 1 + (n5 - ct) ≤ maxLen ∧ (0 + ct + 1 + (n5 - ct)) * 16 ≤ 140737488355328) := Lib.hid ⟨by unfold maxLen; omega, by omega⟩
          clear hec hn2
          go_wp2_with fail
          refine wp_regionL (S := fun w' => w'.cell? ⟨p, 0, none⟩ = some (.slice (some ⟨b5, o5, none⟩) n5 ct)) 23 (by kernel_rfl) (HC9.out _ HD.out) (fun hHeld => ?_)
          refine anyL_take (i := 0) (v := ?_) rfl (by kernel_rfl) (by kernel_rfl) (by kernel_rfl) (by kernel_rfl) (fun _ _ _ h => h) (Or.inl ⟨by rfl, ?_⟩) (by assumption) ?_
          rotate_left
          · intro w hSw; (try dsimp only at hSw); go_simp <;> with_reducible rfl
          (try simp only [Act.put, List.setIfInBounds_toArray, List.set_cons_zero, List.set_cons_succ, List.getElem_toArray, List.getElem_cons_succ, List.getElem_cons_zero])
          refine anyL_take (i := 2) (v := ?_) rfl (by kernel_rfl) (by kernel_rfl) (by kernel_rfl) (by kernel_rfl) (fun _ _ _ h => h) (Or.inl ⟨by rfl, ?_⟩) (by assumption) ?_
          rotate_left
          · intro w hSw; (try dsimp only at hSw); go_simp <;> with_reducible rfl
          (try simp only [Act.put, List.setIfInBounds_toArray, List.set_cons_zero, List.set_cons_succ, List.getElem_toArray, List.getElem_cons_succ, List.getElem_cons_zero])
          refine anyL_take (i := 3) (v := ?_) rfl (by kernel_rfl) (by kernel_rfl) (by kernel_rfl) (by kernel_rfl) (fun _ _ _ h => h) (Or.inl ⟨by rfl, ?_⟩) (by assumption) ?_
          rotate_left
          · intro w hSw; (try dsimp only at hSw); go_simp <;> with_reducible rfl
          (try simp only [Act.put, List.setIfInBounds_toArray, List.set_cons_zero, List.set_cons_succ, List.getElem_toArray, List.getElem_cons_succ, List.getElem_cons_zero])
          refine anyL_take (i := 4) (v := ?_) rfl (by kernel_rfl) (by kernel_rfl) (by kernel_rfl) (by kernel_rfl) (fun _ _ _ h => h) (Or.inl ⟨by rfl, ?_⟩) (by assumption) ?_
          rotate_left
          · intro w hSw; (try dsimp only at hSw); go_simp <;> with_reducible rfl
          (try simp only [Act.put, List.setIfInBounds_toArray, List.set_cons_zero, List.set_cons_succ, List.getElem_toArray, List.getElem_cons_succ, List.getElem_cons_zero])
          refine anyL_take (i := 5) (v := ?_) rfl (by kernel_rfl) (by kernel_rfl) (by kernel_rfl) (by kernel_rfl) (fun _ _ _ h => h) (Or.inl ⟨by rfl, ?_⟩) (by assumption) ?_
          rotate_left
          · intro w hSw; (try dsimp only at hSw); go_simp <;> with_reducible rfl
          (try simp only [Act.put, List.setIfInBounds_toArray, List.set_cons_zero, List.set_cons_succ, List.getElem_toArray, List.getElem_cons_succ, List.getElem_cons_zero])
          refine anyL_take (i := 6) (v := ?_) rfl (by kernel_rfl) (by kernel_rfl) (by kernel_rfl) (by kernel_rfl) (fun _ _ _ h => h) (Or.inl ⟨by rfl, ?_⟩) (by assumption) ?_
          rotate_left
          · intro w hSw; (try dsimp only at hSw); go_simp <;> with_reducible rfl
          (try simp only [Act.put, List.setIfInBounds_toArray, List.set_cons_zero, List.set_cons_succ, List.getElem_toArray, List.getElem_cons_succ, List.getElem_cons_zero])
          refine anyL_take (i := 7) (v := ?_) rfl (by kernel_rfl) (by kernel_rfl) (by kernel_rfl) (by kernel_rfl) (fun _ _ _ h => h) (Or.inl ⟨by rfl, ?_⟩) (by assumption) ?_
          rotate_left
          · intro w hSw; (try dsimp only at hSw); go_simp <;> with_reducible rfl
          (try simp only [Act.put, List.setIfInBounds_toArray, List.set_cons_zero, List.set_cons_succ, List.getElem_toArray, List.getElem_cons_succ, List.getElem_cons_zero])
          refine anyL_take (i := 9) (v := ?_) rfl (by kernel_rfl) (by kernel_rfl) (by kernel_rfl) (by kernel_rfl) (fun _ _ _ h => h) (Or.inl ⟨by rfl, ?_⟩) (by assumption) ?_
          rotate_left
          · intro w hSw; (try dsimp only at hSw); go_simp <;> with_reducible rfl
          (try simp only [Act.put, List.setIfInBounds_toArray, List.set_cons_zero, List.set_cons_succ, List.getElem_toArray, List.getElem_cons_succ, List.getElem_cons_zero])
          refine anyL_take (i := 10) (v := ?_) rfl (by kernel_rfl) (by kernel_rfl) (by kernel_rfl) (by kernel_rfl) (fun _ _ _ h => h) (Or.inl ⟨by rfl, ?_⟩) (by assumption) ?_
          rotate_left
          · intro w hSw; (try dsimp only at hSw); go_simp <;> with_reducible rfl
          (try simp only [Act.put, List.setIfInBounds_toArray, List.set_cons_zero, List.set_cons_succ, List.getElem_toArray, List.getElem_cons_succ, List.getElem_cons_zero])
          refine anyL_take (i := 11) (v := ?_) rfl (by kernel_rfl) (by kernel_rfl) (by kernel_rfl) (by kernel_rfl) (fun _ _ _ h => h) (Or.inl ⟨by rfl, ?_⟩) (by assumption) ?_
          rotate_left
          · intro w hSw; (try dsimp only at hSw); go_simp <;> with_reducible rfl
          (try simp only [Act.put, List.setIfInBounds_toArray, List.set_cons_zero, List.set_cons_succ, List.getElem_toArray, List.getElem_cons_succ, List.getElem_cons_zero])
          refine anyL_take (i := 14) (v := ?_) rfl (by kernel_rfl) (by kernel_rfl) (by kernel_rfl) (by kernel_rfl) (fun _ _ _ h => h) (Or.inl ⟨by rfl, ?_⟩) (by assumption) ?_
          rotate_left
          · intro w hSw; (try dsimp only at hSw); go_simp <;> with_reducible rfl
          (try simp only [Act.put, List.setIfInBounds_toArray, List.set_cons_zero, List.set_cons_succ, List.getElem_toArray, List.getElem_cons_succ, List.getElem_cons_zero])
          refine anyL_take (i := 15) (v := ?_) rfl (by kernel_rfl) (by kernel_rfl) (by kernel_rfl) (by kernel_rfl) (fun _ _ _ h => h) (Or.inl ⟨by rfl, ?_⟩) (by assumption) ?_
          rotate_left
          · intro w hSw; (try dsimp only at hSw); go_simp <;> with_reducible rfl
          (try simp only [Act.put, List.setIfInBounds_toArray, List.set_cons_zero, List.set_cons_succ, List.getElem_toArray, List.getElem_cons_succ, List.getElem_cons_zero])
          refine anyL_take (i := 16) (v := ?_) rfl (by kernel_rfl) (by kernel_rfl) (by kernel_rfl) (by kernel_rfl) (fun _ _ _ h => h) (Or.inl ⟨by rfl, ?_⟩) (by assumption) ?_
          rotate_left
          · intro w hSw; (try dsimp only at hSw); go_simp <;> with_reducible rfl
          (try simp only [Act.put, List.setIfInBounds_toArray, List.set_cons_zero, List.set_cons_succ, List.getElem_toArray, List.getElem_cons_succ, List.getElem_cons_zero])
          refine anyL_take (i := 17) (v := ?_) rfl (by kernel_rfl) (by kernel_rfl) (by kernel_rfl) (by kernel_rfl) (fun _ _ _ h => h) (Or.inl ⟨by rfl, ?_⟩) (by assumption) ?_
          rotate_left
          · intro w hSw; (try dsimp only at hSw); go_simp <;> with_reducible rfl
          (try simp only [Act.put, List.setIfInBounds_toArray, List.set_cons_zero, List.set_cons_succ, List.getElem_toArray, List.getElem_cons_succ, List.getElem_cons_zero])
          refine anyL_take (i := 18) (v := ?_) rfl (by kernel_rfl) (by kernel_rfl) (by kernel_rfl) (by kernel_rfl) (fun _ _ _ h => h) (Or.inl ⟨by rfl, ?_⟩) (by assumption) ?_
          rotate_left
          · intro w hSw; (try dsimp only at hSw); go_simp <;> with_reducible rfl
          (try simp only [Act.put, List.setIfInBounds_toArray, List.set_cons_zero, List.set_cons_succ, List.getElem_toArray, List.getElem_cons_succ, List.getElem_cons_zero])
          refine anyL_take (i := 19) (v := ?_) rfl (by kernel_rfl) (by kernel_rfl) (by kernel_rfl) (by kernel_rfl) (fun _ _ _ h => h) (Or.inl ⟨by rfl, ?_⟩) (by assumption) ?_
          rotate_left
          · intro w hSw; (try dsimp only at hSw); go_simp <;> with_reducible rfl
          (try simp only [Act.put, List.setIfInBounds_toArray, List.set_cons_zero, List.set_cons_succ, List.getElem_toArray, List.getElem_cons_succ, List.getElem_cons_zero])
          refine anyL_ready (rs := [1, 12]) (by kernel_rfl) (by simp) ?_
          refine AllL.cons rfl (fun K hK => ?_) (AllL.cons rfl (fun K hK => ?_) AllL.nil)
          · skip
            go_simp
            have hHeld := (HC9.out _ HEA.out.bl)
            refine hK.out _ _ (fun _ => hHeld) ?_
            clear hK K
            (try simp only [Act.put, List.setIfInBounds_toArray, List.set_cons_zero, List.set_cons_succ, List.getElem_toArray, List.getElem_cons_succ, List.getElem_cons_zero])
            refine anyL_ready (rs := [8, 12]) (by kernel_rfl) (by simp) ?_
            refine AllL.cons rfl (fun K hK => ?_) (AllL.cons rfl (fun K hK => ?_) AllL.nil)
            · skip
              refine step_push (by rfl) (.tmp 89) (.tmp 95) 30 (by rfl) wt.heap.size 38 Try.underlying30 II.out ⟨rfl, by decide⟩ _ 0 (flat2 []) (by rfl) HEA.out.row (some ⟨b5, o5, none⟩) ct ct _ (by rfl) HF1.out HLA.out HEA.out.bl.size ?_
              intro v1 u1 hgr
              have hr := HEA.out.push hgr
              have HR1 := Lib.hid hr
              have HR1N := Lib.hid (hr.below (bl_alloc (Below.refl _ _) (.cells #[.int .i64 id, .int .i64 key] 38)))
              have HSN := Lib.hid (src4_new u1 id key)
              clear hr hgr
              have hHeld := (HC9.out _ HR1.out.bl)
              refine hK.out _ _ (fun _ => hHeld) ?_
              clear hK K
              (try simp only [Act.put, List.setIfInBounds_toArray, List.set_cons_zero, List.set_cons_succ, List.getElem_toArray, List.getElem_cons_succ, List.getElem_cons_zero])
              refine anyL_ready (rs := [12]) (by kernel_rfl) (by simp) ?_
              refine AllL.cons rfl (fun K hK => ?_) AllL.nil
              go_simp
              have hHeld := (HC9.out _ HR1N.out.bl)
              refine hK.out _ _ (fun _ => hHeld) ?_
              clear hK K
              (try simp only [Act.put, List.setIfInBounds_toArray, List.set_cons_zero, List.set_cons_succ, List.getElem_toArray, List.getElem_cons_succ, List.getElem_cons_zero])
              refine anyL_ready (rs := [13]) (by kernel_rfl) (by simp) ?_
              refine AllL.cons rfl (fun K hK => ?_) AllL.nil
              refine step_push (by rfl) (.tmp 96) (.tmp 100) 30 (by rfl) wt.heap.size 38 Try.underlying30 II.out ⟨rfl, by decide⟩ v1 (0+ct) (flat2 ([] ++ List.take ct ST)) (by rfl) HR1N.out.row (some ⟨u1.heap.size, 0, none⟩) 1 1 _ (by rfl) HSN.out HLB.out HR1N.out.bl.size ?_
              intro v2 u2 hgr
              have hr := HR1N.out.push hgr
              have HR2 := Lib.hid hr
              have HS3 := Lib.hid (HSR.out _ hr.bl)
              clear hr hgr
              have hHeld := (HC9.out _ HR2.out.bl)
              refine hK.out _ _ (fun _ => hHeld) ?_
              clear hK K
              (try simp only [Act.put, List.setIfInBounds_toArray, List.set_cons_zero, List.set_cons_succ, List.getElem_toArray, List.getElem_cons_succ, List.getElem_cons_zero])
              refine anyL_ready (rs := [20]) (by kernel_rfl) (by simp) ?_
              refine AllL.cons rfl (fun K hK => ?_) AllL.nil
              refine step_push (by rfl) (.tmp 101) (.tmp 107) 30 (by rfl) wt.heap.size 38 Try.underlying30 II.out ⟨rfl, by decide⟩ v2 (0+ct+1) (flat2 ([] ++ List.take ct ST ++ [(id, key)])) (by rfl) HR2.out.row (some ⟨b5, o5, none⟩) (n5-ct) 0 _ (by rfl) HS3.out HLC.out HR2.out.bl.size ?_
              intro v3 u3 hgr
              have hr := HR2.out.push hgr
              have HR3 := Lib.hid hr
              obtain ⟨A9, c9, hv9⟩ := hgr.val
              have hrow := hr.row
              have hpu := (hr.bl.block p (HPS.out)).trans HT.out.hd
              rw [← HN5.out] at hpu
              obtain ⟨m9, hm9⟩ : ∃ m9, m9 = 0 + ct + 1 + (n5 - ct) := ⟨_, rfl⟩
              rw [← hm9] at hv9 hrow
              subst hv9
              have P2 := block_cell hpu (j := 0) rfl
              have F2 := block_fr hpu 0
              have HROW := Lib.hid hrow
              have HPU := Lib.hid hpu
              have HM9 := Lib.hid hm9
              have HBL9 := Lib.hid hr.bl
              clear hgr hr hrow hpu hm9
              have hHeld := (HC9.out _ HR3.out.bl)
              refine hK.out _ _ (fun _ => hHeld) ?_
              clear hK K
              (try simp only [Act.put, List.setIfInBounds_toArray, List.set_cons_zero, List.set_cons_succ, List.getElem_toArray, List.getElem_cons_succ, List.getElem_cons_zero])
              refine anyL_take (i := 21) (v := ?_) rfl (by kernel_rfl) (by kernel_rfl) (by kernel_rfl) (by kernel_rfl) (fun _ _ _ h => h) (Or.inl ⟨by rfl, ?_⟩) (by assumption) ?_
              rotate_left
              · intro w hSw; (try dsimp only at hSw); go_simp <;> with_reducible rfl
              (try simp only [Act.put, List.setIfInBounds_toArray, List.set_cons_zero, List.set_cons_succ, List.getElem_toArray, List.getElem_cons_succ, List.getElem_cons_zero])
              refine anyL_take (i := 22) (v := ?_) rfl (by kernel_rfl) (by kernel_rfl) (by kernel_rfl) (by kernel_rfl) (fun _ _ _ h => h) (Or.inl ⟨by rfl, ?_⟩) (by assumption) ?_
              rotate_left
              · intro w hSw; (try dsimp only at hSw); go_simp <;> with_reducible rfl
              (try simp only [Act.put, List.setIfInBounds_toArray, List.set_cons_zero, List.set_cons_succ, List.getElem_toArray, List.getElem_cons_succ, List.getElem_cons_zero])
              refine anyL_ready (rs := [23]) (by kernel_rfl) (by simp) ?_
              refine AllL.cons rfl (fun K hK => ?_) AllL.nil
              go_simp
              refine hK.out _ _ (fun h => absurd rfl h) ?_
              clear hK K
              (try simp only [Act.put, List.setIfInBounds_toArray, List.set_cons_zero, List.set_cons_succ, List.getElem_toArray, List.getElem_cons_succ, List.getElem_cons_zero])
              refine anyL_done (by kernel_rfl) ?_ _
              clear P2 F2
              go_wp2_with fail
              go_ret
              have hrow := HROW.out
              have hs9 := ins_split (x := (id, key)) (S := ST) (k := ct) (by rw [← HN5.out]; exact hkn) HAH.out HNA.out
              have he : [] ++ List.take ct ST ++ [((id, key) : It)] ++ List.drop ct ST = pushF ST (id, key) := by rw [HPF.out, hs9, List.nil_append, List.append_assoc]; rfl
              rw [he] at hrow
              have hln : (pushF ST (id, key)).length = m9 := by
                rw [← he]
                have := HN5.out
                have := HM9.out
                simp only [List.length_append, List.length_nil, List.length_take, List.length_cons, List.length_drop]
                omega
              have hwf : ∀ y ∈ pushF ST (id, key), Wf y := fun y hy => by
                rcases pushF_ids hy with h1 | h1
                · rw [h1]; exact HX.out
                · exact HWF.out y h1
              have hor := H4.of_row hrow hln (by have := HM9.out; unfold maxLen; omega) (HPS.out) hwf HPU.out
              refine ⟨ret_bool HP.out.symm, ⟨A9, c9, hor.1, fun b' o' e => .inr (Nat.le_trans HU.out.size (hor.2 b' o' e))⟩, ?_⟩
              exact HU.out.trans (upd_setCell (F := fun b => b = p) (a := ⟨p, 0, none⟩) (Upd.of_below HBL9.out) rfl _) (fun _ _ h => h)
            · skip
              go_simp
              have hHeld := (HC9.out _ HEB.out.bl)
              refine hK.out _ _ (fun _ => hHeld) ?_
              clear hK K
              (try simp only [Act.put, List.setIfInBounds_toArray, List.set_cons_zero, List.set_cons_succ, List.getElem_toArray, List.getElem_cons_succ, List.getElem_cons_zero])
              refine anyL_ready (rs := [8]) (by kernel_rfl) (by simp) ?_
              refine AllL.cons rfl (fun K hK => ?_) AllL.nil
              refine step_push (by rfl) (.tmp 89) (.tmp 95) 30 (by rfl) wt.heap.size 38 Try.underlying30 II.out ⟨rfl, by decide⟩ _ 0 (flat2 []) (by rfl) HEB.out.row (some ⟨b5, o5, none⟩) ct ct _ (by rfl) HF2.out HLA.out HEB.out.bl.size ?_
              intro v1 u1 hgr
              have hr := HEB.out.push hgr
              have HR1 := Lib.hid hr
              have HSN := Lib.hid (HN2.out.grown hgr.by_ (fun ad e e2 => by injection e with e; subst e; simp [Value.ownBlock] at e2))
              clear hr hgr
              have hHeld := (HC9.out _ HR1.out.bl)
              refine hK.out _ _ (fun _ => hHeld) ?_
              clear hK K
              (try simp only [Act.put, List.setIfInBounds_toArray, List.set_cons_zero, List.set_cons_succ, List.getElem_toArray, List.getElem_cons_succ, List.getElem_cons_zero])
              refine anyL_ready (rs := [13]) (by kernel_rfl) (by simp) ?_
              refine AllL.cons rfl (fun K hK => ?_) AllL.nil
              refine step_push (by rfl) (.tmp 96) (.tmp 100) 30 (by rfl) wt.heap.size 38 Try.underlying30 II.out ⟨rfl, by decide⟩ v1 (0+ct) (flat2 ([] ++ List.take ct ST)) (by rfl) HR1.out.row (some ⟨wt.heap.size + 1, 0, none⟩) 1 1 _ (by rfl) HSN.out HLB.out HR1.out.bl.size ?_
              intro v2 u2 hgr
              have hr := HR1.out.push hgr
              have HR2 := Lib.hid hr
              have HS3 := Lib.hid (HSR.out _ hr.bl)
              clear hr hgr
              have hHeld := (HC9.out _ HR2.out.bl)
              refine hK.out _ _ (fun _ => hHeld) ?_
              clear hK K
              (try simp only [Act.put, List.setIfInBounds_toArray, List.set_cons_zero, List.set_cons_succ, List.getElem_toArray, List.getElem_cons_succ, List.getElem_cons_zero])
              refine anyL_ready (rs := [20]) (by kernel_rfl) (by simp) ?_
              refine AllL.cons rfl (fun K hK => ?_) AllL.nil
              refine step_push (by rfl) (.tmp 101) (.tmp 107) 30 (by rfl) wt.heap.size 38 Try.underlying30 II.out ⟨rfl, by decide⟩ v2 (0+ct+1) (flat2 ([] ++ List.take ct ST ++ [(id, key)])) (by rfl) HR2.out.row (some ⟨b5, o5, none⟩) (n5-ct) 0 _ (by rfl) HS3.out HLC.out HR2.out.bl.size ?_
              intro v3 u3 hgr
              have hr := HR2.out.push hgr
              have HR3 := Lib.hid hr
              obtain ⟨A9, c9, hv9⟩ := hgr.val
              have hrow := hr.row
              have hpu := (hr.bl.block p (HPS.out)).trans HT.out.hd
              rw [← HN5.out] at hpu
              obtain ⟨m9, hm9⟩ : ∃ m9, m9 = 0 + ct + 1 + (n5 - ct) := ⟨_, rfl⟩
              rw [← hm9] at hv9 hrow
              subst hv9
              have P2 := block_cell hpu (j := 0) rfl
              have F2 := block_fr hpu 0
              have HROW := Lib.hid hrow
              have HPU := Lib.hid hpu
              have HM9 := Lib.hid hm9
              have HBL9 := Lib.hid hr.bl
              clear hgr hr hrow hpu hm9
              have hHeld := (HC9.out _ HR3.out.bl)
              refine hK.out _ _ (fun _ => hHeld) ?_
              clear hK K
              (try simp only [Act.put, List.setIfInBounds_toArray, List.set_cons_zero, List.set_cons_succ, List.getElem_toArray, List.getElem_cons_succ, List.getElem_cons_zero])
              refine anyL_take (i := 21) (v := ?_) rfl (by kernel_rfl) (by kernel_rfl) (by kernel_rfl) (by kernel_rfl) (fun _ _ _ h => h) (Or.inl ⟨by rfl, ?_⟩) (by assumption) ?_
              rotate_left
              · intro w hSw; (try dsimp only at hSw); go_simp <;> with_reducible rfl
              (try simp only [Act.put, List.setIfInBounds_toArray, List.set_cons_zero, List.set_cons_succ, List.getElem_toArray, List.getElem_cons_succ, List.getElem_cons_zero])
              refine anyL_take (i := 22) (v := ?_) rfl (by kernel_rfl) (by kernel_rfl) (by kernel_rfl) (by kernel_rfl) (fun _ _ _ h => h) (Or.inl ⟨by rfl, ?_⟩) (by assumption) ?_
              rotate_left
              · intro w hSw; (try dsimp only at hSw); go_simp <;> with_reducible rfl
              (try simp only [Act.put, List.setIfInBounds_toArray, List.set_cons_zero, List.set_cons_succ, List.getElem_toArray, List.getElem_cons_succ, List.getElem_cons_zero])
              refine anyL_ready (rs := [23]) (by kernel_rfl) (by simp) ?_
              refine AllL.cons rfl (fun K hK => ?_) AllL.nil
              go_simp
              refine hK.out _ _ (fun h => absurd rfl h) ?_
              clear hK K
              (try simp only [Act.put, List.setIfInBounds_toArray, List.set_cons_zero, List.set_cons_succ, List.getElem_toArray, List.getElem_cons_succ, List.getElem_cons_zero])
              refine anyL_done (by kernel_rfl) ?_ _
              clear P2 F2
              go_wp2_with fail
              go_ret
              have hrow := HROW.out
              have hs9 := ins_split (x := (id, key)) (S := ST) (k := ct) (by rw [← HN5.out]; exact hkn) HAH.out HNA.out
              have he : [] ++ List.take ct ST ++ [((id, key) : It)] ++ List.drop ct ST = pushF ST (id, key) := by rw [HPF.out, hs9, List.nil_append, List.append_assoc]; rfl
              rw [he] at hrow
              have hln : (pushF ST (id, key)).length = m9 := by
                rw [← he]
                have := HN5.out
                have := HM9.out
                simp only [List.length_append, List.length_nil, List.length_take, List.length_cons, List.length_drop]
                omega
              have hwf : ∀ y ∈ pushF ST (id, key), Wf y := fun y hy => by
                rcases pushF_ids hy with h1 | h1
                · rw [h1]; exact HX.out
                · exact HWF.out y h1
              have hor := H4.of_row hrow hln (by have := HM9.out; unfold maxLen; omega) (HPS.out) hwf HPU.out
              refine ⟨ret_bool HP.out.symm, ⟨A9, c9, hor.1, fun b' o' e => .inr (Nat.le_trans HU.out.size (hor.2 b' o' e))⟩, ?_⟩
              exact HU.out.trans (upd_setCell (F := fun b => b = p) (a := ⟨p, 0, none⟩) (Upd.of_below HBL9.out) rfl _) (fun _ _ h => h)
          · skip
            go_simp
            have hHeld := (HC9.out _ HNA0.out)
            refine hK.out _ _ (fun _ => hHeld) ?_
            clear hK K
            (try simp only [Act.put, List.setIfInBounds_toArray, List.set_cons_zero, List.set_cons_succ, List.getElem_toArray, List.getElem_cons_succ, List.getElem_cons_zero])
            refine anyL_ready (rs := [1]) (by kernel_rfl) (by simp) ?_
            refine AllL.cons rfl (fun K hK => ?_) AllL.nil
            go_simp
            have hHeld := (HC9.out _ HEC.out.bl)
            refine hK.out _ _ (fun _ => hHeld) ?_
            clear hK K
            (try simp only [Act.put, List.setIfInBounds_toArray, List.set_cons_zero, List.set_cons_succ, List.getElem_toArray, List.getElem_cons_succ, List.getElem_cons_zero])
            refine anyL_ready (rs := [8]) (by kernel_rfl) (by simp) ?_
            refine AllL.cons rfl (fun K hK => ?_) AllL.nil
            refine step_push (by rfl) (.tmp 89) (.tmp 95) 30 (by rfl) wt.heap.size 38 Try.underlying30 II.out ⟨rfl, by decide⟩ _ 0 (flat2 []) (by rfl) HEC.out.row (some ⟨b5, o5, none⟩) ct ct _ (by rfl) HF3.out HLA.out HEC.out.bl.size ?_
            intro v1 u1 hgr
            have hr := HEC.out.push hgr
            have HR1 := Lib.hid hr
            have HSN := Lib.hid (HN3.out.grown hgr.by_ (fun ad e e2 => by injection e with e; subst e; simp [Value.ownBlock] at e2))
            clear hr hgr
            have hHeld := (HC9.out _ HR1.out.bl)
            refine hK.out _ _ (fun _ => hHeld) ?_
            clear hK K
            (try simp only [Act.put, List.setIfInBounds_toArray, List.set_cons_zero, List.set_cons_succ, List.getElem_toArray, List.getElem_cons_succ, List.getElem_cons_zero])
            refine anyL_ready (rs := [13]) (by kernel_rfl) (by simp) ?_
            refine AllL.cons rfl (fun K hK => ?_) AllL.nil
            refine step_push (by rfl) (.tmp 96) (.tmp 100) 30 (by rfl) wt.heap.size 38 Try.underlying30 II.out ⟨rfl, by decide⟩ v1 (0+ct) (flat2 ([] ++ List.take ct ST)) (by rfl) HR1.out.row (some ⟨wt.heap.size, 0, none⟩) 1 1 _ (by rfl) HSN.out HLB.out HR1.out.bl.size ?_
            intro v2 u2 hgr
            have hr := HR1.out.push hgr
            have HR2 := Lib.hid hr
            have HS3 := Lib.hid (HSR.out _ hr.bl)
            clear hr hgr
            have hHeld := (HC9.out _ HR2.out.bl)
            refine hK.out _ _ (fun _ => hHeld) ?_
            clear hK K
            (try simp only [Act.put, List.setIfInBounds_toArray, List.set_cons_zero, List.set_cons_succ, List.getElem_toArray, List.getElem_cons_succ, List.getElem_cons_zero])
            refine anyL_ready (rs := [20]) (by kernel_rfl) (by simp) ?_
            refine AllL.cons rfl (fun K hK => ?_) AllL.nil
            refine step_push (by rfl) (.tmp 101) (.tmp 107) 30 (by rfl) wt.heap.size 38 Try.underlying30 II.out ⟨rfl, by decide⟩ v2 (0+ct+1) (flat2 ([] ++ List.take ct ST ++ [(id, key)])) (by rfl) HR2.out.row (some ⟨b5, o5, none⟩) (n5-ct) 0 _ (by rfl) HS3.out HLC.out HR2.out.bl.size ?_
            intro v3 u3 hgr
            have hr := HR2.out.push hgr
            have HR3 := Lib.hid hr
            obtain ⟨A9, c9, hv9⟩ := hgr.val
            have hrow := hr.row
            have hpu := (hr.bl.block p (HPS.out)).trans HT.out.hd
            rw [← HN5.out] at hpu
            obtain ⟨m9, hm9⟩ : ∃ m9, m9 = 0 + ct + 1 + (n5 - ct) := ⟨_, rfl⟩
            rw [← hm9] at hv9 hrow
            subst hv9
            have P2 := block_cell hpu (j := 0) rfl
            have F2 := block_fr hpu 0
            have HROW := Lib.hid hrow
            have HPU := Lib.hid hpu
            have HM9 := Lib.hid hm9
            have HBL9 := Lib.hid hr.bl
            clear hgr hr hrow hpu hm9
            have hHeld := (HC9.out _ HR3.out.bl)
            refine hK.out _ _ (fun _ => hHeld) ?_
            clear hK K
            (try simp only [Act.put, List.setIfInBounds_toArray, List.set_cons_zero, List.set_cons_succ, List.getElem_toArray, List.getElem_cons_succ, List.getElem_cons_zero])
            refine anyL_take (i := 21) (v := ?_) rfl (by kernel_rfl) (by kernel_rfl) (by kernel_rfl) (by kernel_rfl) (fun _ _ _ h => h) (Or.inl ⟨by rfl, ?_⟩) (by assumption) ?_
            rotate_left
            · intro w hSw; (try dsimp only at hSw); go_simp <;> with_reducible rfl
            (try simp only [Act.put, List.setIfInBounds_toArray, List.set_cons_zero, List.set_cons_succ, List.getElem_toArray, List.getElem_cons_succ, List.getElem_cons_zero])
            refine anyL_take (i := 22) (v := ?_) rfl (by kernel_rfl) (by kernel_rfl) (by kernel_rfl) (by kernel_rfl) (fun _ _ _ h => h) (Or.inl ⟨by rfl, ?_⟩) (by assumption) ?_
            rotate_left
            · intro w hSw; (try dsimp only at hSw); go_simp <;> with_reducible rfl
            (try simp only [Act.put, List.setIfInBounds_toArray, List.set_cons_zero, List.set_cons_succ, List.getElem_toArray, List.getElem_cons_succ, List.getElem_cons_zero])
            refine anyL_ready (rs := [23]) (by kernel_rfl) (by simp) ?_
            refine AllL.cons rfl (fun K hK => ?_) AllL.nil
            go_simp
            refine hK.out _ _ (fun h => absurd rfl h) ?_
            clear hK K
            (try simp only [Act.put, List.setIfInBounds_toArray, List.set_cons_zero, List.set_cons_succ, List.getElem_toArray, List.getElem_cons_succ, List.getElem_cons_zero])
            refine anyL_done (by kernel_rfl) ?_ _
            clear P2 F2
            go_wp2_with fail
            go_ret
            have hrow := HROW.out
            have hs9 := ins_split (x := (id, key)) (S := ST) (k := ct) (by rw [← HN5.out]; exact hkn) HAH.out HNA.out
            have he : [] ++ List.take ct ST ++ [((id, key) : It)] ++ List.drop ct ST = pushF ST (id, key) := by rw [HPF.out, hs9, List.nil_append, List.append_assoc]; rfl
            rw [he] at hrow
            have hln : (pushF ST (id, key)).length = m9 := by
              rw [← he]
              have := HN5.out
              have := HM9.out
              simp only [List.length_append, List.length_nil, List.length_take, List.length_cons, List.length_drop]
              omega
            have hwf : ∀ y ∈ pushF ST (id, key), Wf y := fun y hy => by
              rcases pushF_ids hy with h1 | h1
              · rw [h1]; exact HX.out
              · exact HWF.out y h1
            have hor := H4.of_row hrow hln (by have := HM9.out; unfold maxLen; omega) (HPS.out) hwf HPU.out
            refine ⟨ret_bool HP.out.symm, ⟨A9, c9, hor.1, fun b' o' e => .inr (Nat.le_trans HU.out.size (hor.2 b' o' e))⟩, ?_⟩
            exact HU.out.trans (upd_setCell (F := fun b => b = p) (a := ⟨p, 0, none⟩) (Upd.of_below HBL9.out) rfl _) (fun _ _ h => h)
        · have HAX : Hid (∀ b' o', k < n5 → some (⟨b5, o5, none⟩ : Addr) = some ⟨b', o', none⟩ → some (⟨b5, o5 + k * 2, none⟩ : Addr) = some ⟨b', o' + k * 2, none⟩) := Lib.hid (fun b' o' _ e => by injection e with e; injection e with e1 e2 _; subst e1 e2; rfl)
          have HAH := Lib.hid hah
          have HNA : Hid (k < ST.length → HeapP.ahead (g ST k) (id, key) = false) := Lib.hid hna
          clear hah hna
          have k2 : (k : Int) ≤ (n5 : Int) := by omega
          have k3 : (k : Int) ≤ (ct : Int) := by omega
          have k4 : k ≤ ct := by omega
          have k5 : (0 : Int) ≤ (k : Int) := by omega
          have HD : Hid (Below wt.heap.size wt wt.drew) := Lib.hid (bl_drew (Below.refl _ _))
          have HEA := Lib.hid (R4.build (V := wt) HD.out)
          have HEB : Hid (R4 wt ((wt.drew.alloc (.cells #[] 38)).alloc (.cells #[.int .i64 id, .int .i64 key] 38)) (.slice (some ⟨wt.heap.size, 0, none⟩) 0 0) 0 []) := Lib.hid (HEA.out.below (bl_alloc (Below.refl _ _) _))
          have HNA0 : Hid (Below wt.heap.size wt (wt.drew.alloc (.cells #[.int .i64 id, .int .i64 key] 38))) := Lib.hid (bl_alloc HD.out _)
          have hec := R4.build (V := wt) HNA0.out
          rw [show (wt.drew.alloc (.cells #[.int .i64 id, .int .i64 key] 38)).heap.size = wt.heap.size + 1 from size_alloc _ _] at hec
          have HEC := Lib.hid hec
          have hn2 := src4_new (wt.drew.alloc (.cells #[] 38)) id key
          rw [show (wt.drew.alloc (.cells #[] 38)).heap.size = wt.heap.size + 1 from size_alloc _ _] at hn2
          have HN2 := Lib.hid hn2
          have HN3 : Hid (Src ((wt.drew.alloc (.cells #[.int .i64 id, .int .i64 key] 38)).alloc (.cells #[] 38)) 2 (some ⟨wt.heap.size, 0, none⟩) 1 (flat2 [((id, key) : It)])) := Lib.hid ((src4_new wt.drew id key).below (bl_alloc (Below.refl _ _) _))
          have HSF : Hid (∀ w', Below wt.heap.size wt w' → Src w' 2 (some ⟨b5, o5, none⟩) k (flat2 (ST.take k))) := Lib.hid fun w' hb => (Src.ofP (HRT.out.frontP hkn ct)).below hb
          have HSR : Hid (∀ w', Below wt.heap.size wt w' → Src w' 2 (some ⟨b5, o5 + k * 2, none⟩) (n5 - k) (flat2 (ST.drop k))) := Lib.hid fun w' hb => (Src.ofP (HRT.out.restP (j := k) (A' := (some ⟨b5, o5 + k * 2, none⟩)) hkn (ct-k) HAX.out)).below hb
          have HF1 := Lib.hid (HSF.out _ HEA.out.bl)
          have HF2 := Lib.hid (HSF.out _ HEB.out.bl)
          have HF3 := Lib.hid (HSF.out _ HEC.out.bl)
          have HLA : Hid (0 + k ≤ maxLen ∧ (0 + k) * 16 ≤ 140737488355328) := Lib.hid ⟨by unfold maxLen; omega, by omega⟩
          have HLB : Hid (0 + k + 1 ≤ maxLen ∧ (0 + k + 1) * 16 ≤ 140737488355328) := Lib.hid ⟨by unfold maxLen; omega, by omega⟩
          have HLC : Hid (0 + k + 1 + (n5 - k) ≤ maxLen ∧ (0 + k + 1 + (n5 - k)) * 16 ≤ 140737488355328) := Lib.hid ⟨by unfold maxLen; omega, by omega⟩
          clear hec hn2
          go_wp2_with fail
          refine wp_regionL (S := fun w' => w'.cell? ⟨p, 0, none⟩ = some (.slice (some ⟨b5, o5, none⟩) n5 ct)) 23 (by kernel_rfl) (HC9.out _ HD.out) (fun hHeld => ?_)
          refine anyL_take (i := 0) (v := ?_) rfl (by kernel_rfl) (by kernel_rfl) (by kernel_rfl) (by kernel_rfl) (fun _ _ _ h => h) (Or.inl ⟨by rfl, ?_⟩) (by assumption) ?_
          rotate_left
          · intro w hSw; (try dsimp only at hSw); go_simp <;> with_reducible rfl
          (try simp only [Act.put, List.setIfInBounds_toArray, List.set_cons_zero, List.set_cons_succ, List.getElem_toArray, List.getElem_cons_succ, List.getElem_cons_zero])
          refine anyL_take (i := 2) (v := ?_) rfl (by kernel_rfl) (by kernel_rfl) (by kernel_rfl) (by kernel_rfl) (fun _ _ _ h => h) (Or.inl ⟨by rfl, ?_⟩) (by assumption) ?_
          rotate_left
          · intro w hSw; (try dsimp only at hSw); go_simp <;> with_reducible rfl
          (try simp only [Act.put, List.setIfInBounds_toArray, List.set_cons_zero, List.set_cons_succ, List.getElem_toArray, List.getElem_cons_succ, List.getElem_cons_zero])
          refine anyL_take (i := 3) (v := ?_) rfl (by kernel_rfl) (by kernel_rfl) (by kernel_rfl) (by kernel_rfl) (fun _ _ _ h => h) (Or.inl ⟨by rfl, ?_⟩) (by assumption) ?_
          rotate_left
          · intro w hSw; (try dsimp only at hSw); go_simp <;> with_reducible rfl
          (try simp only [Act.put, List.setIfInBounds_toArray, List.set_cons_zero, List.set_cons_succ, List.getElem_toArray, List.getElem_cons_succ, List.getElem_cons_zero])
          refine anyL_take (i := 4) (v := ?_) rfl (by kernel_rfl) (by kernel_rfl) (by kernel_rfl) (by kernel_rfl) (fun _ _ _ h => h) (Or.inl ⟨by rfl, ?_⟩) (by assumption) ?_
          rotate_left
          · intro w hSw; (try dsimp only at hSw); go_simp <;> with_reducible rfl
          (try simp only [Act.put, List.setIfInBounds_toArray, List.set_cons_zero, List.set_cons_succ, List.getElem_toArray, List.getElem_cons_succ, List.getElem_cons_zero])
          refine anyL_take (i := 5) (v := ?_) rfl (by kernel_rfl) (by kernel_rfl) (by kernel_rfl) (by kernel_rfl) (fun _ _ _ h => h) (Or.inl ⟨by rfl, ?_⟩) (by assumption) ?_
          rotate_left
          · intro w hSw; (try dsimp only at hSw); go_simp <;> with_reducible rfl
          (try simp only [Act.put, List.setIfInBounds_toArray, List.set_cons_zero, List.set_cons_succ, List.getElem_toArray, List.getElem_cons_succ, List.getElem_cons_zero])
          refine anyL_take (i := 6) (v := ?_) rfl (by kernel_rfl) (by kernel_rfl) (by kernel_rfl) (by kernel_rfl) (fun _ _ _ h => h) (Or.inl ⟨by rfl, ?_⟩) (by assumption) ?_
          rotate_left
          · intro w hSw; (try dsimp only at hSw); go_simp <;> with_reducible rfl
          (try simp only [Act.put, List.setIfInBounds_toArray, List.set_cons_zero, List.set_cons_succ, List.getElem_toArray, List.getElem_cons_succ, List.getElem_cons_zero])
          refine anyL_take (i := 7) (v := ?_) rfl (by kernel_rfl) (by kernel_rfl) (by kernel_rfl) (by kernel_rfl) (fun _ _ _ h => h) (Or.inl ⟨by rfl, ?_⟩) (by assumption) ?_
          rotate_left
          · intro w hSw; (try dsimp only at hSw); go_simp <;> with_reducible rfl
          (try simp only [Act.put, List.setIfInBounds_toArray, List.set_cons_zero, List.set_cons_succ, List.getElem_toArray, List.getElem_cons_succ, List.getElem_cons_zero])
          refine anyL_take (i := 9) (v := ?_) rfl (by kernel_rfl) (by kernel_rfl) (by kernel_rfl) (by kernel_rfl) (fun _ _ _ h => h) (Or.inl ⟨by rfl, ?_⟩) (by assumption) ?_
          rotate_left
          · intro w hSw; (try dsimp only at hSw); go_simp <;> with_reducible rfl
          (try simp only [Act.put, List.setIfInBounds_toArray, List.set_cons_zero, List.set_cons_succ, List.getElem_toArray, List.getElem_cons_succ, List.getElem_cons_zero])
          refine anyL_take (i := 10) (v := ?_) rfl (by kernel_rfl) (by kernel_rfl) (by kernel_rfl) (by kernel_rfl) (fun _ _ _ h => h) (Or.inl ⟨by rfl, ?_⟩) (by assumption) ?_
          rotate_left
          · intro w hSw; (try dsimp only at hSw); go_simp <;> with_reducible rfl
          (try simp only [Act.put, List.setIfInBounds_toArray, List.set_cons_zero, List.set_cons_succ, List.getElem_toArray, List.getElem_cons_succ, List.getElem_cons_zero])
          refine anyL_take (i := 11) (v := ?_) rfl (by kernel_rfl) (by kernel_rfl) (by kernel_rfl) (by kernel_rfl) (fun _ _ _ h => h) (Or.inl ⟨by rfl, ?_⟩) (by assumption) ?_
          rotate_left
          · intro w hSw; (try dsimp only at hSw); go_simp <;> with_reducible rfl
          (try simp only [Act.put, List.setIfInBounds_toArray, List.set_cons_zero, List.set_cons_succ, List.getElem_toArray, List.getElem_cons_succ, List.getElem_cons_zero])
          refine anyL_take (i := 14) (v := ?_) rfl (by kernel_rfl) (by kernel_rfl) (by kernel_rfl) (by kernel_rfl) (fun _ _ _ h => h) (Or.inl ⟨by rfl, ?_⟩) (by assumption) ?_
          rotate_left
          · intro w hSw; (try dsimp only at hSw); go_simp <;> with_reducible rfl
          (try simp only [Act.put, List.setIfInBounds_toArray, List.set_cons_zero, List.set_cons_succ, List.getElem_toArray, List.getElem_cons_succ, List.getElem_cons_zero])
          refine anyL_take (i := 15) (v := ?_) rfl (by kernel_rfl) (by kernel_rfl) (by kernel_rfl) (by kernel_rfl) (fun _ _ _ h => h) (Or.inl ⟨by rfl, ?_⟩) (by assumption) ?_
          rotate_left
          · intro w hSw; (try dsimp only at hSw); go_simp <;> with_reducible rfl
          (try simp only [Act.put, List.setIfInBounds_toArray, List.set_cons_zero, List.set_cons_succ, List.getElem_toArray, List.getElem_cons_succ, List.getElem_cons_zero])
          refine anyL_take (i := 16) (v := ?_) rfl (by kernel_rfl) (by kernel_rfl) (by kernel_rfl) (by kernel_rfl) (fun _ _ _ h => h) (Or.inl ⟨by rfl, ?_⟩) (by assumption) ?_
          rotate_left
          · intro w hSw; (try dsimp only at hSw); go_simp <;> with_reducible rfl
          (try simp only [Act.put, List.setIfInBounds_toArray, List.set_cons_zero, List.set_cons_succ, List.getElem_toArray, List.getElem_cons_succ, List.getElem_cons_zero])
          refine anyL_take (i := 17) (v := ?_) rfl (by kernel_rfl) (by kernel_rfl) (by kernel_rfl) (by kernel_rfl) (fun _ _ _ h => h) (Or.inl ⟨by rfl, ?_⟩) (by assumption) ?_
          rotate_left
          · intro w hSw; (try dsimp only at hSw); go_simp <;> with_reducible rfl
          (try simp only [Act.put, List.setIfInBounds_toArray, List.set_cons_zero, List.set_cons_succ, List.getElem_toArray, List.getElem_cons_succ, List.getElem_cons_zero])
          refine anyL_take (i := 18) (v := ?_) rfl (by kernel_rfl) (by kernel_rfl) (by kernel_rfl) (by kernel_rfl) (fun _ _ _ h => h) (Or.inl ⟨by rfl, ?_⟩) (by assumption) ?_
          rotate_left
          · intro w hSw; (try dsimp only at hSw); go_simp <;> with_reducible rfl
          (try simp only [Act.put, List.setIfInBounds_toArray, List.set_cons_zero, List.set_cons_succ, List.getElem_toArray, List.getElem_cons_succ, List.getElem_cons_zero])
          refine anyL_take (i := 19) (v := ?_) rfl (by kernel_rfl) (by kernel_rfl) (by kernel_rfl) (by kernel_rfl) (fun _ _ _ h => h) (Or.inl ⟨by rfl, ?_⟩) (by assumption) ?_
          rotate_left
          · intro w hSw; (try dsimp only at hSw); go_simp <;> with_reducible rfl
          (try simp only [Act.put, List.setIfInBounds_toArray, List.set_cons_zero, List.set_cons_succ, List.getElem_toArray, List.getElem_cons_succ, List.getElem_cons_zero])
          refine anyL_ready (rs := [1, 12]) (by kernel_rfl) (by simp) ?_
          refine AllL.cons rfl (fun K hK => ?_) (AllL.cons rfl (fun K hK => ?_) AllL.nil)
          · skip
            go_simp
            have hHeld := (HC9.out _ HEA.out.bl)
            refine hK.out _ _ (fun _ => hHeld) ?_
            clear hK K
            (try simp only [Act.put, List.setIfInBounds_toArray, List.set_cons_zero, List.set_cons_succ, List.getElem_toArray, List.getElem_cons_succ, List.getElem_cons_zero])
            refine anyL_ready (rs := [8, 12]) (by kernel_rfl) (by simp) ?_
            refine AllL.cons rfl (fun K hK => ?_) (AllL.cons rfl (fun K hK => ?_) AllL.nil)
            · skip
              refine step_push (by rfl) (.tmp 89) (.tmp 95) 30 (by rfl) wt.heap.size 38 Try.underlying30 II.out ⟨rfl, by decide⟩ _ 0 (flat2 []) (by rfl) HEA.out.row (some ⟨b5, o5, none⟩) k ct _ (by rfl) HF1.out HLA.out HEA.out.bl.size ?_
              intro v1 u1 hgr
              have hr := HEA.out.push hgr
              have HR1 := Lib.hid hr
              have HR1N := Lib.hid (hr.below (bl_alloc (Below.refl _ _) (.cells #[.int .i64 id, .int .i64 key] 38)))
              have HSN := Lib.hid (src4_new u1 id key)
              clear hr hgr
              have hHeld := (HC9.out _ HR1.out.bl)
              refine hK.out _ _ (fun _ => hHeld) ?_
              clear hK K
              (try simp only [Act.put, List.setIfInBounds_toArray, List.set_cons_zero, List.set_cons_succ, List.getElem_toArray, List.getElem_cons_succ, List.getElem_cons_zero])
              refine anyL_ready (rs := [12]) (by kernel_rfl) (by simp) ?_
              refine AllL.cons rfl (fun K hK => ?_) AllL.nil
              go_simp
              have hHeld := (HC9.out _ HR1N.out.bl)
              refine hK.out _ _ (fun _ => hHeld) ?_
              clear hK K
              (try simp only [Act.put, List.setIfInBounds_toArray, List.set_cons_zero, List.set_cons_succ, List.getElem_toArray, List.getElem_cons_succ, List.getElem_cons_zero])
              refine anyL_ready (rs := [13]) (by kernel_rfl) (by simp) ?_
              refine AllL.cons rfl (fun K hK => ?_) AllL.nil
              refine step_push (by rfl) (.tmp 96) (.tmp 100) 30 (by rfl) wt.heap.size 38 Try.underlying30 II.out ⟨rfl, by decide⟩ v1 (0+k) (flat2 ([] ++ List.take k ST)) (by rfl) HR1N.out.row (some ⟨u1.heap.size, 0, none⟩) 1 1 _ (by rfl) HSN.out HLB.out HR1N.out.bl.size ?_
              intro v2 u2 hgr
              have hr := HR1N.out.push hgr
              have HR2 := Lib.hid hr
              have HS3 := Lib.hid (HSR.out _ hr.bl)
              clear hr hgr
              have hHeld := (HC9.out _ HR2.out.bl)
              refine hK.out _ _ (fun _ => hHeld) ?_
              clear hK K
              (try simp only [Act.put, List.setIfInBounds_toArray, List.set_cons_zero, List.set_cons_succ, List.getElem_toArray, List.getElem_cons_succ, List.getElem_cons_zero])
              refine anyL_ready (rs := [20]) (by kernel_rfl) (by simp) ?_
              refine AllL.cons rfl (fun K hK => ?_) AllL.nil
              refine step_push (by rfl) (.tmp 101) (.tmp 107) 30 (by rfl) wt.heap.size 38 Try.underlying30 II.out ⟨rfl, by decide⟩ v2 (0+k+1) (flat2 ([] ++ List.take k ST ++ [(id, key)])) (by rfl) HR2.out.row (some ⟨b5, o5 + k * 2, none⟩) (n5-k) (ct-k) _ (by rfl) HS3.out HLC.out HR2.out.bl.size ?_
              intro v3 u3 hgr
              have hr := HR2.out.push hgr
              have HR3 := Lib.hid hr
              obtain ⟨A9, c9, hv9⟩ := hgr.val
              have hrow := hr.row
              have hpu := (hr.bl.block p (HPS.out)).trans HT.out.hd
              rw [← HN5.out] at hpu
              obtain ⟨m9, hm9⟩ : ∃ m9, m9 = 0 + k + 1 + (n5 - k) := ⟨_, rfl⟩
              rw [← hm9] at hv9 hrow
              subst hv9
              have P2 := block_cell hpu (j := 0) rfl
              have F2 := block_fr hpu 0
              have HROW := Lib.hid hrow
              have HPU := Lib.hid hpu
              have HM9 := Lib.hid hm9
              have HBL9 := Lib.hid hr.bl
              clear hgr hr hrow hpu hm9
              have hHeld := (HC9.out _ HR3.out.bl)
              refine hK.out _ _ (fun _ => hHeld) ?_
              clear hK K
              (try simp only [Act.put, List.setIfInBounds_toArray, List.set_cons_zero, List.set_cons_succ, List.getElem_toArray, List.getElem_cons_succ, List.getElem_cons_zero])
              refine anyL_take (i := 21) (v := ?_) rfl (by kernel_rfl) (by kernel_rfl) (by kernel_rfl) (by kernel_rfl) (fun _ _ _ h => h) (Or.inl ⟨by rfl, ?_⟩) (by assumption) ?_
              rotate_left
              · intro w hSw; (try dsimp only at hSw); go_simp <;> with_reducible rfl
              (try simp only [Act.put, List.setIfInBounds_toArray, List.set_cons_zero, List.set_cons_succ, List.getElem_toArray, List.getElem_cons_succ, List.getElem_cons_zero])
              refine anyL_take (i := 22) (v := ?_) rfl (by kernel_rfl) (by kernel_rfl) (by kernel_rfl) (by kernel_rfl) (fun _ _ _ h => h) (Or.inl ⟨by rfl, ?_⟩) (by assumption) ?_
              rotate_left
              · intro w hSw; (try dsimp only at hSw); go_simp <;> with_reducible rfl
              (try simp only [Act.put, List.setIfInBounds_toArray, List.set_cons_zero, List.set_cons_succ, List.getElem_toArray, List.getElem_cons_succ, List.getElem_cons_zero])
              refine anyL_ready (rs := [23]) (by kernel_rfl) (by simp) ?_
              refine AllL.cons rfl (fun K hK => ?_) AllL.nil
              go_simp
              refine hK.out _ _ (fun h => absurd rfl h) ?_
              clear hK K
              (try simp only [Act.put, List.setIfInBounds_toArray, List.set_cons_zero, List.set_cons_succ, List.getElem_toArray, List.getElem_cons_succ, List.getElem_cons_zero])
              refine anyL_done (by kernel_rfl) ?_ _
              clear P2 F2
              go_wp2_with fail
              go_ret
              have hrow := HROW.out
              have hs9 := ins_split (x := (id, key)) (S := ST) (k := k) (by rw [← HN5.out]; exact hkn) HAH.out HNA.out
              have he : [] ++ List.take k ST ++ [((id, key) : It)] ++ List.drop k ST = pushF ST (id, key) := by rw [HPF.out, hs9, List.nil_append, List.append_assoc]; rfl
              rw [he] at hrow
              have hln : (pushF ST (id, key)).length = m9 := by
                rw [← he]
                have := HN5.out
                have := HM9.out
                simp only [List.length_append, List.length_nil, List.length_take, List.length_cons, List.length_drop]
                omega
              have hwf : ∀ y ∈ pushF ST (id, key), Wf y := fun y hy => by
                rcases pushF_ids hy with h1 | h1
                · rw [h1]; exact HX.out
                · exact HWF.out y h1
              have hor := H4.of_row hrow hln (by have := HM9.out; unfold maxLen; omega) (HPS.out) hwf HPU.out
              refine ⟨ret_bool HP.out.symm, ⟨A9, c9, hor.1, fun b' o' e => .inr (Nat.le_trans HU.out.size (hor.2 b' o' e))⟩, ?_⟩
              exact HU.out.trans (upd_setCell (F := fun b => b = p) (a := ⟨p, 0, none⟩) (Upd.of_below HBL9.out) rfl _) (fun _ _ h => h)
            · skip
              go_simp
              have hHeld := (HC9.out _ HEB.out.bl)
              refine hK.out _ _ (fun _ => hHeld) ?_
              clear hK K
              (try simp only [Act.put, List.setIfInBounds_toArray, List.set_cons_zero, List.set_cons_succ, List.getElem_toArray, List.getElem_cons_succ, List.getElem_cons_zero])
              refine anyL_ready (rs := [8]) (by kernel_rfl) (by simp) ?_
              refine AllL.cons rfl (fun K hK => ?_) AllL.nil
              refine step_push (by rfl) (.tmp 89) (.tmp 95) 30 (by rfl) wt.heap.size 38 Try.underlying30 II.out ⟨rfl, by decide⟩ _ 0 (flat2 []) (by rfl) HEB.out.row (some ⟨b5, o5, none⟩) k ct _ (by rfl) HF2.out HLA.out HEB.out.bl.size ?_
              intro v1 u1 hgr
              have hr := HEB.out.push hgr
              have HR1 := Lib.hid hr
              have HSN := Lib.hid (HN2.out.grown hgr.by_ (fun ad e e2 => by injection e with e; subst e; simp [Value.ownBlock] at e2))
              clear hr hgr
              have hHeld := (HC9.out _ HR1.out.bl)
              refine hK.out _ _ (fun _ => hHeld) ?_
              clear hK K
              (try simp only [Act.put, List.setIfInBounds_toArray, List.set_cons_zero, List.set_cons_succ, List.getElem_toArray, List.getElem_cons_succ, List.getElem_cons_zero])
              refine anyL_ready (rs := [13]) (by kernel_rfl) (by simp) ?_
              refine AllL.cons rfl (fun K hK => ?_) AllL.nil
              refine step_push (by rfl) (.tmp 96) (.tmp 100) 30 (by rfl) wt.heap.size 38 Try.underlying30 II.out ⟨rfl, by decide⟩ v1 (0+k) (flat2 ([] ++ List.take k ST)) (by rfl) HR1.out.row (some ⟨wt.heap.size + 1, 0, none⟩) 1 1 _ (by rfl) HSN.out HLB.out HR1.out.bl.size ?_
              intro v2 u2 hgr
              have hr := HR1.out.push hgr
              have HR2 := Lib.hid hr
              have HS3 := Lib.hid (HSR.out _ hr.bl)
              clear hr hgr
              have hHeld := (HC9.out _ HR2.out.bl)
              refine hK.out _ _ (fun _ => hHeld) ?_
              clear hK K
              (try simp only [Act.put, List.setIfInBounds_toArray, List.set_cons_zero, List.set_cons_succ, List.getElem_toArray, List.getElem_cons_succ, List.getElem_cons_zero])
              refine anyL_ready (rs := [20]) (by kernel_rfl) (by simp) ?_
              refine AllL.cons rfl (fun K hK => ?_) AllL.nil
              refine step_push (by rfl) (.tmp 101) (.tmp 107) 30 (by rfl) wt.heap.size 38 Try.underlying30 II.out ⟨rfl, by decide⟩ v2 (0+k+1) (flat2 ([] ++ List.take k ST ++ [(id, key)])) (by rfl) HR2.out.row (some ⟨b5, o5 + k * 2, none⟩) (n5-k) (ct-k) _ (by rfl) HS3.out HLC.out HR2.out.bl.size ?_
              intro v3 u3 hgr
              have hr := HR2.out.push hgr
              have HR3 := Lib.hid hr
              obtain ⟨A9, c9, hv9⟩ := hgr.val
              have hrow := hr.row
              have hpu := (hr.bl.block p (HPS.out)).trans HT.out.hd
              rw [← HN5.out] at hpu
              obtain ⟨m9, hm9⟩ : ∃ m9, m9 = 0 + k + 1 + (n5 - k) := ⟨_, rfl⟩
              rw [← hm9] at hv9 hrow
              subst hv9
              have P2 := block_cell hpu (j := 0) rfl
              have F2 := block_fr hpu 0
              have HROW := Lib.hid hrow
              have HPU := Lib.hid hpu
              have HM9 := Lib.hid hm9
              have HBL9 := Lib.hid hr.bl
              clear hgr hr hrow hpu hm9
              have hHeld := (HC9.out _ HR3.out.bl)
              refine hK.out _ _ (fun _ => hHeld) ?_
              clear hK K
              (try simp only [Act.put, List.setIfInBounds_toArray, List.set_cons_zero, List.set_cons_succ, List.getElem_toArray, List.getElem_cons_succ, List.getElem_cons_zero])
              refine anyL_take (i := 21) (v := ?_) rfl (by kernel_rfl) (by kernel_rfl) (by kernel_rfl) (by kernel_rfl) (fun _ _ _ h => h) (Or.inl ⟨by rfl, ?_⟩) (by assumption) ?_
              rotate_left
              · intro w hSw; (try dsimp only at hSw); go_simp <;> with_reducible rfl
              (try simp only [Act.put, List.setIfInBounds_toArray, List.set_cons_zero, List.set_cons_succ, List.getElem_toArray, List.getElem_cons_succ, List.getElem_cons_zero])
              refine anyL_take (i := 22) (v := ?_) rfl (by kernel_rfl) (by kernel_rfl) (by kernel_rfl) (by kernel_rfl) (fun _ _ _ h => h) (Or.inl ⟨by rfl, ?_⟩) (by assumption) ?_
              rotate_left
              · intro w hSw; (try dsimp only at hSw); go_simp <;> with_reducible rfl
              (try simp only [Act.put, List.setIfInBounds_toArray, List.set_cons_zero, List.set_cons_succ, List.getElem_toArray, List.getElem_cons_succ, List.getElem_cons_zero])
              refine anyL_ready (rs := [23]) (by kernel_rfl) (by simp) ?_
              refine AllL.cons rfl (fun K hK => ?_) AllL.nil
              go_simp
              refine hK.out _ _ (fun h => absurd rfl h) ?_
              clear hK K
              (try simp only [Act.put, List.setIfInBounds_toArray, List.set_cons_zero, List.set_cons_succ, List.getElem_toArray, List.getElem_cons_succ, List.getElem_cons_zero])
              refine anyL_done (by kernel_rfl) ?_ _
              clear P2 F2
              go_wp2_with fail
              go_ret
              have hrow := HROW.out
              have hs9 := ins_split (x := (id, key)) (S := ST) (k := k) (by rw [← HN5.out]; exact hkn) HAH.out HNA.out
              have he : [] ++ List.take k ST ++ [((id, key) : It)] ++ List.drop k ST = pushF ST (id, key) := by rw [HPF.out, hs9, List.nil_append, List.append_assoc]; rfl
              rw [he] at hrow
              have hln : (pushF ST (id, key)).length = m9 := by
                rw [← he]
                have := HN5.out
                have := HM9.out
                simp only [List.length_append, List.length_nil, List.length_take, List.length_cons, List.length_drop]
                omega
              have hwf : ∀ y ∈ pushF ST (id, key), Wf y := fun y hy => by
                rcases pushF_ids hy with h1 | h1
                · rw [h1]; exact HX.out
                · exact HWF.out y h1
              have hor := H4.of_row hrow hln (by have := HM9.out; unfold maxLen; omega) (HPS.out) hwf HPU.out
              refine ⟨ret_bool HP.out.symm, ⟨A9, c9, hor.1, fun b' o' e => .inr (Nat.le_trans HU.out.size (hor.2 b' o' e))⟩, ?_⟩
              exact HU.out.trans (upd_setCell (F := fun b => b = p) (a := ⟨p, 0, none⟩) (Upd.of_below HBL9.out) rfl _) (fun _ _ h => h)
          · skip
            go_simp
            have hHeld := (HC9.out _ HNA0.out)
            refine hK.out _ _ (fun _ => hHeld) ?_
            clear hK K
            (try simp only [Act.put, List.setIfInBounds_toArray, List.set_cons_zero, List.set_cons_succ, List.getElem_toArray, List.getElem_cons_succ, List.getElem_cons_zero])
            refine anyL_ready (rs := [1]) (by kernel_rfl) (by simp) ?_
            refine AllL.cons rfl (fun K hK => ?_) AllL.nil
            go_simp
            have hHeld := (HC9.out _ HEC.out.bl)
            refine hK.out _ _ (fun _ => hHeld) ?_
            clear hK K
            (try simp only [Act.put, List.setIfInBounds_toArray, List.set_cons_zero, List.set_cons_succ, List.getElem_toArray, List.getElem_cons_succ, List.getElem_cons_zero])
            refine anyL_ready (rs := [8]) (by kernel_rfl) (by simp) ?_
            refine AllL.cons rfl (fun K hK => ?_) AllL.nil
            refine step_push (by rfl) (.tmp 89) (.tmp 95) 30 (by rfl) wt.heap.size 38 Try.underlying30 II.out ⟨rfl, by decide⟩ _ 0 (flat2 []) (by rfl) HEC.out.row (some ⟨b5, o5, none⟩) k ct _ (by rfl) HF3.out HLA.out HEC.out.bl.size ?_
            intro v1 u1 hgr
            have hr := HEC.out.push hgr
            have HR1 := Lib.hid hr
            have HSN := Lib.hid (HN3.out.grown hgr.by_ (fun ad e e2 => by injection e with e; subst e; simp [Value.ownBlock] at e2))
            clear hr hgr
            have hHeld := (HC9.out _ HR1.out.bl)
            refine hK.out _ _ (fun _ => hHeld) ?_
            clear hK K
            (try simp only [Act.put, List.setIfInBounds_toArray, List.set_cons_zero, List.set_cons_succ, List.getElem_toArray, List.getElem_cons_succ, List.getElem_cons_zero])
            refine anyL_ready (rs := [13]) (by kernel_rfl) (by simp) ?_
            refine AllL.cons rfl (fun K hK => ?_) AllL.nil
            refine step_push (by rfl) (.tmp 96) (.tmp 100) 30 (by rfl) wt.heap.size 38 Try.underlying30 II.out ⟨rfl, by decide⟩ v1 (0+k) (flat2 ([] ++ List.take k ST)) (by rfl) HR1.out.row (some ⟨wt.heap.size, 0, none⟩) 1 1 _ (by rfl) HSN.out HLB.out HR1.out.bl.size ?_
            intro v2 u2 hgr
            have hr := HR1.out.push hgr
            have HR2 := Lib.hid hr
            have HS3 := Lib.hid (HSR.out _ hr.bl)
            clear hr hgr
            have hHeld := (HC9.out _ HR2.out.bl)
            refine hK.out _ _ (fun _ => hHeld) ?_
            clear hK K
            (try simp only [Act.put, List.setIfInBounds_toArray, List.set_cons_zero, List.set_cons_succ, List.getElem_toArray, List.getElem_cons_succ, List.getElem_cons_zero])
            refine anyL_ready (rs := [20]) (by kernel_rfl) (by simp) ?_
            refine AllL.cons rfl (fun K hK => ?_) AllL.nil
            refine step_push (by rfl) (.tmp 101) (.tmp 107) 30 (by rfl) wt.heap.size 38 Try.underlying30 II.out ⟨rfl, by decide⟩ v2 (0+k+1) (flat2 ([] ++ List.take k ST ++ [(id, key)])) (by rfl) HR2.out.row (some ⟨b5, o5 + k * 2, none⟩) (n5-k) (ct-k) _ (by rfl) HS3.out HLC.out HR2.out.bl.size ?_
            intro v3 u3 hgr
            have hr := HR2.out.push hgr
            have HR3 := Lib.hid hr
            obtain ⟨A9, c9, hv9⟩ := hgr.val
            have hrow := hr.row
            have hpu := (hr.bl.block p (HPS.out)).trans HT.out.hd
            rw [← HN5.out] at hpu
            obtain ⟨m9, hm9⟩ : ∃ m9, m9 = 0 + k + 1 + (n5 - k) := ⟨_, rfl⟩
            rw [← hm9] at hv9 hrow
            subst hv9
            have P2 := block_cell hpu (j := 0) rfl
            have F2 := block_fr hpu 0
            have HROW := Lib.hid hrow
            have HPU := Lib.hid hpu
            have HM9 := Lib.hid hm9
            have HBL9 := Lib.hid hr.bl
            clear hgr hr hrow hpu hm9
            have hHeld := (HC9.out _ HR3.out.bl)
            refine hK.out _ _ (fun _ => hHeld) ?_
            clear hK K
            (try simp only [Act.put, List.setIfInBounds_toArray, List.set_cons_zero, List.set_cons_succ, List.getElem_toArray, List.getElem_cons_succ, List.getElem_cons_zero])
            refine anyL_take (i := 21) (v := ?_) rfl (by kernel_rfl) (by kernel_rfl) (by kernel_rfl) (by kernel_rfl) (fun _ _ _ h => h) (Or.inl ⟨by rfl, ?_⟩) (by assumption) ?_
            rotate_left
            · intro w hSw; (try dsimp only at hSw); go_simp <;> with_reducible rfl
            (try simp only [Act.put, List.setIfInBounds_toArray, List.set_cons_zero, List.set_cons_succ, List.getElem_toArray, List.getElem_cons_succ, List.getElem_cons_zero])
            refine anyL_take (i := 22) (v := ?_) rfl (by kernel_rfl) (by kernel_rfl) (by kernel_rfl) (by kernel_rfl) (fun _ _ _ h => h) (Or.inl ⟨by rfl, ?_⟩) (by assumption) ?_
            rotate_left
            · intro w hSw; (try dsimp only at hSw); go_simp <;> with_reducible rfl
            (try simp only [Act.put, List.setIfInBounds_toArray, List.set_cons_zero, List.set_cons_succ, List.getElem_toArray, List.getElem_cons_succ, List.getElem_cons_zero])
            refine anyL_ready (rs := [23]) (by kernel_rfl) (by simp) ?_
            refine AllL.cons rfl (fun K hK => ?_) AllL.nil
            go_simp
            refine hK.out _ _ (fun h => absurd rfl h) ?_
            clear hK K
            (try simp only [Act.put, List.setIfInBounds_toArray, List.set_cons_zero, List.set_cons_succ, List.getElem_toArray, List.getElem_cons_succ, List.getElem_cons_zero])
            refine anyL_done (by kernel_rfl) ?_ _
            clear P2 F2
            go_wp2_with fail
            go_ret
            have hrow := HROW.out
            have hs9 := ins_split (x := (id, key)) (S := ST) (k := k) (by rw [← HN5.out]; exact hkn) HAH.out HNA.out
            have he : [] ++ List.take k ST ++ [((id, key) : It)] ++ List.drop k ST = pushF ST (id, key) := by rw [HPF.out, hs9, List.nil_append, List.append_assoc]; rfl
            rw [he] at hrow
            have hln : (pushF ST (id, key)).length = m9 := by
              rw [← he]
              have := HN5.out
              have := HM9.out
              simp only [List.length_append, List.length_nil, List.length_take, List.length_cons, List.length_drop]
              omega
            have hwf : ∀ y ∈ pushF ST (id, key), Wf y := fun y hy => by
              rcases pushF_ids hy with h1 | h1
              · rw [h1]; exact HX.out
              · exact HWF.out y h1
            have hor := H4.of_row hrow hln (by have := HM9.out; unfold maxLen; omega) (HPS.out) hwf HPU.out
            refine ⟨ret_bool HP.out.symm, ⟨A9, c9, hor.1, fun b' o' e => .inr (Nat.le_trans HU.out.size (hor.2 b' o' e))⟩, ?_⟩
            exact HU.out.trans (upd_setCell (F := fun b => b = p) (a := ⟨p, 0, none⟩) (Upd.of_below HBL9.out) rfl _) (fun _ _ h => h)
end Go.Proofs.Ytkdpfbefdhjmcaa
