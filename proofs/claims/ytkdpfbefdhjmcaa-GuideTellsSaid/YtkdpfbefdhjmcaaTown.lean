/- milepostref24.Town: the walk. -/
import Derived.Test.YtkdpfbefdhjmcaaTownMem
import Derived.Test.YtkdpfbefdhjmcaaTownPure
import Derived.Deep.RegionHeld3
import Derived.Deep.RegionLaw
import Derived.Deep.CutRange
set_option linter.unusedVariables false
set_option linter.unusedSimpArgs false
namespace Go.Proofs.Ytkdpfbefdhjmcaa
open Go.ChangeShapes Go.WideShapes Go.ChangeAt Go.RowKit
theorem town_start (w : World) : TownW w ((w.alloc (.cells #[.slice none 0 0, .slice none 0 0, .slice none 0 0] 51)).alloc (.cells #[.slice none 0 0, .slice none 0 0, .slice none 0 0] 51)) (.slice none 0 0) (.slice none 0 0) (.slice none 0 0) [] [] [] := by
  refine ⟨by rw [size_alloc, size_alloc]; omega, ?_, ?_, World.ownsRow_nil _ _ _ _, World.ownsRow_nil _ _ _ _, World.ownsRow_nil _ _ _ _, ?_, ?_, ?_, bl_alloc (bl_alloc (Below.refl _ _) _) _⟩
  · rw [heap_alloc_lt (by rw [size_alloc]; omega)]; show (w.heap.push _)[w.heap.size]? = _; simp
  · show ((w.alloc _).heap.push _)[w.heap.size + 1]? = _; rw [Array.getElem?_push, if_pos (by rw [size_alloc])]
  · intro b e; simp [Value.ownBlock] at e
  · intro b e; simp [Value.ownBlock] at e
  · intro b e; simp [Value.ownBlock] at e
set_option maxRecDepth 100000 in
set_option maxHeartbeats 16000000 in
theorem town_any {A : Option Addr} {n c : Nat} {xs : List Int} {w : World} (h : ReadsI w A n c xs) :
    Calls Try.prog 53 #[.slice A n c] w fun e w' => ∃ sN sE sB wr, e = .returned (.agg #[sN, sE, sB]) ∧ TownW w wr sN sE sB (townN xs) (townE xs) (townB xs) ∧ Upd (fun b => b = w.heap.size) wr w' := by
  have hW := wOf_eq xs
  have hH := hOf_eq xs
  have bW := wOf_bd xs
  have bH := hOf_bd xs
  have bM := mulWH_bd bW bH
  obtain ⟨W, hWd⟩ : ∃ W, W = wOf xs := ⟨_, rfl⟩
  obtain ⟨H, hHd⟩ : ∃ H, H = hOf xs := ⟨_, rfl⟩
  rw [← hWd] at hW bW bM
  rw [← hHd] at hH bH bM
  obtain ⟨M, hM⟩ : ∃ M, M = W * H := ⟨_, rfl⟩
  rw [← hM] at bM
  obtain ⟨W1, W4⟩ := bW
  obtain ⟨H1, H4⟩ := bH
  obtain ⟨M1, M16⟩ := bM
  have mul1 : IntKind.i64.wrap ((W : Int) * (H : Int)) = (M : Int) := by
    rw [show (W : Int) * (H : Int) = (M : Int) by rw [hM]; exact (Int.natCast_mul _ _).symm]; exact IntWalk.i64_in _ (by omega)
  have hW' : 1 + atV xs 0 4 = (W : Int) := hW.symm
  have hH' : 1 + atV xs 1 4 = (H : Int) := hH.symm
  have wW : IntKind.i64.wrap (W : Int) = (W : Int) := IntWalk.i64_in _ (by omega)
  have wH : IntKind.i64.wrap (H : Int) = (H : Int) := IntWalk.i64_in _ (by omega)
  have HR := Lib.hid h
  have HWD := Lib.hid hWd
  have HHD := Lib.hid hHd
  have HMD := Lib.hid hM
  have hT0 := town_start w
  obtain ⟨a0, a0'⟩ : 0 ≤ atV xs 0 4 ∧ atV xs 0 4 < 4 := ⟨atV_nonneg (by omega), atV_lt (by omega)⟩
  obtain ⟨a1, a1'⟩ : 0 ≤ atV xs 1 4 ∧ atV xs 1 4 < 4 := ⟨atV_nonneg (by omega), atV_lt (by omega)⟩
  clear h hWd hHd hM hW hH
  go_enter Try.func53, Try.ntmps53
  go_wp2_with fail
  generalize hw0 : (w.alloc (.cells #[.slice none 0 0, .slice none 0 0, .slice none 0 0] 51)).alloc (.cells #[.slice none 0 0, .slice none 0 0, .slice none 0 0] 51) = w0 at hT0 ⊢
  have HT0 := Lib.hid hT0
  clear hT0 hw0
  refine (at_eq (k := 0) (HR.out.below HT0.out.below) rfl (by omega) (by omega) (by omega)).mono ?_
  rintro e w1 ⟨rfl, hb1⟩
  have hT1 := HT0.out.still hb1
  have HT1 := Lib.hid hT1
  clear hb1 hT1
  go_wp2_with fail
  refine (at_eq (k := 1) (HR.out.below HT1.out.below) rfl (by omega) (by omega) (by omega)).mono ?_
  rintro e w2 ⟨rfl, hb2⟩
  have hT2 := HT1.out.still hb2
  have HT2 := Lib.hid hT2
  clear hb2 hT2
  go_wp2_with fail
  go_loopg [6] M (fun m v wr => ∃ (i : Nat) (sN : Value), m = M - i ∧ i ≤ M ∧ v = .int .i64 (i : Nat) ∧ TownW w wr sN (.slice none 0 0) (.slice none 0 0) ((List.range i).map (nodeAt xs W)) [] [])
  case atStart => exact ⟨0, _, rfl, Nat.zero_le _, rfl, HT2.out⟩
  case round =>
    obtain ⟨i, sN, hm, hi, rfl, hT⟩ := hrel
    have HM := Lib.hid hm
    have HT := Lib.hid hT
    clear hm hT
    by_cases hlt : i < M
    · go_wp2_with fail
      have c0 := block_cell HT.out.hg (j := 0) rfl
      have f0 := block_fr HT.out.hg 0
      have hlen : ((List.range i).map (nodeAt xs W)).length = i := by simp
      obtain ⟨r, hr⟩ : ∃ r, r = i % W := ⟨_, rfl⟩
      obtain ⟨d, hd⟩ : ∃ d, d = i / W := ⟨_, rfl⟩
      have r1 : r < 4 := by have := Nat.mod_lt i (show W > 0 by omega); omega
      have d1 : d ≤ 16 := by have := Nat.div_le_self i W; omega
      have q1 : ((i : Int)).tmod (W : Int) = (r : Int) := by rw [hr]; exact Int.ofNat_tmod ..
      have q2 : ((i : Int)).tdiv (W : Int) = (d : Int) := by rw [hd]; exact Int.ofNat_tdiv ..
      have hW0 : ¬ W = 0 := by omega
      have v0 : IntKind.i64.wrap (2 + (i : Int)) = 2 + (i : Int) := IntWalk.i64_in _ (by omega)
      have v1 : IntKind.i64.wrap (100 * (r : Int)) = 100 * (r : Int) := IntWalk.i64_in _ (by omega)
      have v2 : IntKind.i64.wrap (100 * (d : Int)) = 100 * (d : Int) := IntWalk.i64_in _ (by omega)
      have v4 : IntKind.i64.wrap (r : Int) = (r : Int) := IntWalk.i64_in _ (by omega)
      have v5 : IntKind.i64.wrap (d : Int) = (d : Int) := IntWalk.i64_in _ (by omega)
      obtain ⟨a, ha⟩ : ∃ a, a = atV xs (2 + i) 30 := ⟨_, rfl⟩
      obtain ⟨b0, b1⟩ : 0 ≤ a ∧ a < 30 := by rw [ha]; exact ⟨atV_nonneg (by omega), atV_lt (by omega)⟩
      have hx : nodeAt xs W i = (100 * (r : Int), 100 * (d : Int) + a) := by rw [hr, hd, ha]; rfl
      have v3 : IntKind.i64.wrap (100 * (d : Int) + a) = 100 * (d : Int) + a := IntWalk.i64_in _ (by omega)
      have HX := Lib.hid hx
      have HA := Lib.hid ha
      obtain ⟨i0, hi1, hi2, hi3, hi4⟩ := info_parts infoNode
      have HI := Lib.hid (show _ ∧ _ ∧ _ ∧ _ from ⟨hi1, hi2, hi3, hi4⟩)
      have HLEN := Lib.hid hlen
      clear hr hd hx ha hi1 hi2 hi3 hi4 hlen
      have c0d := cell_below c0 (bl_drew (Below.refl _ _))
      refine wp_region_held_drew (S := fun _ => True) (by kernel_rfl) trivial (fun hHeld => ?_)
      refine wpAnyH_take (i := 0) (v := ?_) rfl (by kernel_rfl) (by kernel_rfl) (by kernel_rfl) (fun _ _ _ h => h) (Or.inl ⟨by rfl, ?_⟩) (by exact trivial) ?_
      rotate_left
      · intro w hSw; go_simp <;> with_reducible rfl
      simp only [Act.put, List.setIfInBounds_toArray, List.set_cons_zero, List.set_cons_succ, List.getElem_toArray, List.getElem_cons_succ, List.getElem_cons_zero]
      refine wpAnyH_take (i := 2) (v := ?_) rfl (by kernel_rfl) (by kernel_rfl) (by kernel_rfl) (fun _ _ _ h => h) (Or.inl ⟨by rfl, ?_⟩) (by exact trivial) ?_
      rotate_left
      · intro w hSw; go_simp <;> with_reducible rfl
      simp only [Act.put, List.setIfInBounds_toArray, List.set_cons_zero, List.set_cons_succ, List.getElem_toArray, List.getElem_cons_succ, List.getElem_cons_zero]
      refine wpAnyH_take (i := 3) (v := ?_) rfl (by kernel_rfl) (by kernel_rfl) (by kernel_rfl) (fun _ _ _ h => h) (Or.inl ⟨by rfl, ?_⟩) (by exact trivial) ?_
      rotate_left
      · intro w hSw; go_simp <;> with_reducible rfl
      simp only [Act.put, List.setIfInBounds_toArray, List.set_cons_zero, List.set_cons_succ, List.getElem_toArray, List.getElem_cons_succ, List.getElem_cons_zero]
      refine wpAnyH_take (i := 4) (v := ?_) rfl (by kernel_rfl) (by kernel_rfl) (by kernel_rfl) (fun _ _ _ h => h) (Or.inl ⟨by rfl, ?_⟩) (by exact trivial) ?_
      rotate_left
      · intro w hSw; go_simp <;> with_reducible rfl
      simp only [Act.put, List.setIfInBounds_toArray, List.set_cons_zero, List.set_cons_succ, List.getElem_toArray, List.getElem_cons_succ, List.getElem_cons_zero]
      refine wpAnyH_take (i := 5) (v := ?_) rfl (by kernel_rfl) (by kernel_rfl) (by kernel_rfl) (fun _ _ _ h => h) (Or.inl ⟨by rfl, ?_⟩) (by exact trivial) ?_
      rotate_left
      · intro w hSw; go_simp <;> with_reducible rfl
      simp only [Act.put, List.setIfInBounds_toArray, List.set_cons_zero, List.set_cons_succ, List.getElem_toArray, List.getElem_cons_succ, List.getElem_cons_zero]
      refine wpAnyH_take (i := 6) (v := ?_) rfl (by kernel_rfl) (by kernel_rfl) (by kernel_rfl) (fun _ _ _ h => h) (Or.inl ⟨by rfl, ?_⟩) (by exact trivial) ?_
      rotate_left
      · intro w hSw; go_simp <;> with_reducible rfl
      simp only [Act.put, List.setIfInBounds_toArray, List.set_cons_zero, List.set_cons_succ, List.getElem_toArray, List.getElem_cons_succ, List.getElem_cons_zero]
      refine wpAnyH_take (i := 7) (v := ?_) rfl (by kernel_rfl) (by kernel_rfl) (by kernel_rfl) (fun _ _ _ h => h) (Or.inl ⟨by rfl, ?_⟩) (by exact trivial) ?_
      rotate_left
      · intro w hSw; go_simp <;> with_reducible rfl
      simp only [Act.put, List.setIfInBounds_toArray, List.set_cons_zero, List.set_cons_succ, List.getElem_toArray, List.getElem_cons_succ, List.getElem_cons_zero]
      refine wpAnyH_take (i := 8) (v := ?_) rfl (by kernel_rfl) (by kernel_rfl) (by kernel_rfl) (fun _ _ _ h => h) (Or.inl ⟨by rfl, ?_⟩) (by exact trivial) ?_
      rotate_left
      · intro w hSw; go_simp <;> with_reducible rfl
      simp only [Act.put, List.setIfInBounds_toArray, List.set_cons_zero, List.set_cons_succ, List.getElem_toArray, List.getElem_cons_succ, List.getElem_cons_zero]
      refine wpAnyH_take (i := 9) (v := ?_) rfl (by kernel_rfl) (by kernel_rfl) (by kernel_rfl) (fun _ _ _ h => h) (Or.inl ⟨by rfl, ?_⟩) (by exact trivial) ?_
      rotate_left
      · intro w hSw; go_simp <;> with_reducible rfl
      simp only [Act.put, List.setIfInBounds_toArray, List.set_cons_zero, List.set_cons_succ, List.getElem_toArray, List.getElem_cons_succ, List.getElem_cons_zero]
      refine wpAnyH_take (i := 10) (v := ?_) rfl (by kernel_rfl) (by kernel_rfl) (by kernel_rfl) (fun _ _ _ h => h) (Or.inl ⟨by rfl, ?_⟩) (by exact trivial) ?_
      rotate_left
      · intro w hSw; go_simp <;> with_reducible rfl
      simp only [Act.put, List.setIfInBounds_toArray, List.set_cons_zero, List.set_cons_succ, List.getElem_toArray, List.getElem_cons_succ, List.getElem_cons_zero]
      refine wpAnyH_take (i := 11) (v := ?_) rfl (by kernel_rfl) (by kernel_rfl) (by kernel_rfl) (fun _ _ _ h => h) (Or.inl ⟨by rfl, ?_⟩) (by exact trivial) ?_
      rotate_left
      · intro w hSw; go_simp <;> with_reducible rfl
      simp only [Act.put, List.setIfInBounds_toArray, List.set_cons_zero, List.set_cons_succ, List.getElem_toArray, List.getElem_cons_succ, List.getElem_cons_zero]
      refine wpAnyH_take (i := 12) (v := ?_) rfl (by kernel_rfl) (by kernel_rfl) (by kernel_rfl) (fun _ _ _ h => h) (Or.inl ⟨by rfl, ?_⟩) (by exact trivial) ?_
      rotate_left
      · intro w hSw; go_simp <;> with_reducible rfl
      simp only [Act.put, List.setIfInBounds_toArray, List.set_cons_zero, List.set_cons_succ, List.getElem_toArray, List.getElem_cons_succ, List.getElem_cons_zero]
      refine wpAnyH_ready (rs := [1, 13]) (by kernel_rfl) (by simp) ?_
      refine AllReadyH.cons rfl (fun K hK => ?_) (AllReadyH.cons rfl (fun K hK => ?_) AllReadyH.nil)
      · go_simp
        refine hK.out _ _ trivial (fun _ => ?_)
        (try simp only [Act.put, List.setIfInBounds_toArray, List.set_cons_zero, List.set_cons_succ, List.getElem_toArray, List.getElem_cons_succ, List.getElem_cons_zero])
        refine wpAnyH_ready (rs := [13]) (by kernel_rfl) (by simp) ?_
        refine AllReadyH.cons rfl (fun K hK => ?_) AllReadyH.nil
        go_simp
        refine (at_eq (k := 2 + i) ((HR.out.below HT.out.below).below (bl_drew (Below.refl _ _))) (by omega) (by omega) (by omega) (by omega)).mono ?_
        rw [← HA.out]
        rintro e w3 ⟨rfl, hb3⟩
        have HB3 : Hid (Below wr.heap.size wr w3) := Lib.hid ((bl_drew (Below.refl _ _)).trans hb3)
        have c3 := cell_below c0 HB3.out
        clear hb3
        refine hK.out _ _ trivial (fun _ => ?_)
        (try simp only [Act.put, List.setIfInBounds_toArray, List.set_cons_zero, List.set_cons_succ, List.getElem_toArray, List.getElem_cons_succ, List.getElem_cons_zero])
        refine wpAnyH_take (i := 14) (v := ?_) rfl (by kernel_rfl) (by kernel_rfl) (by kernel_rfl) (fun _ _ _ h => h) (Or.inl ⟨by rfl, ?_⟩) (by exact trivial) ?_
        rotate_left
        · intro w hSw; go_simp <;> with_reducible rfl
        simp only [Act.put, List.setIfInBounds_toArray, List.set_cons_zero, List.set_cons_succ, List.getElem_toArray, List.getElem_cons_succ, List.getElem_cons_zero]
        refine wpAnyH_take (i := 15) (v := ?_) rfl (by kernel_rfl) (by kernel_rfl) (by kernel_rfl) (fun _ _ _ h => h) (Or.inl ⟨by rfl, ?_⟩) (by exact trivial) ?_
        rotate_left
        · intro w hSw; go_simp <;> with_reducible rfl
        simp only [Act.put, List.setIfInBounds_toArray, List.set_cons_zero, List.set_cons_succ, List.getElem_toArray, List.getElem_cons_succ, List.getElem_cons_zero]
        refine wpAnyH_ready (rs := [16]) (by kernel_rfl) (by simp) ?_
        refine AllReadyH.cons rfl (fun K hK => ?_) AllReadyH.nil
        go_simp
        refine hK.out _ _ trivial (fun _ => ?_)
        (try simp only [Act.put, List.setIfInBounds_toArray, List.set_cons_zero, List.set_cons_succ, List.getElem_toArray, List.getElem_cons_succ, List.getElem_cons_zero])
        refine wpAnyH_ready (rs := [17]) (by kernel_rfl) (by simp) ?_
        refine AllReadyH.cons rfl (fun K hK => ?_) AllReadyH.nil
        refine step_append_lies _ rfl (.tmp 28) (.tmp 43) 47 rfl (w.heap.size + 2) 59 i0 (.agg #[.int .i64 0, .int .i64 0]) 2 16 Try.underlying47 HI.out.1 HI.out.2.1 HI.out.2.2.1 HI.out.2.2.2 rfl (by decide) _ _ _ rfl (own_keep (own_keep HT.out.oN HB3.out) (bl_alloc (Below.refl _ _) _)) ⟨w3.heap.size, 0, none⟩ 1 1 [.int .i64 (100 * (r : Int)), .int .i64 (100 * (d : Int) + a)] rfl rfl (cell_two_new _ _ _ _) (by intro u hu; simp only [List.mem_cons, List.not_mem_nil, or_false] at hu; rcases hu with rfl | rfl <;> rfl) (by omega) (by rw [HLEN.out]; unfold maxLen; omega) (by rw [HLEN.out]; omega) (by rw [size_alloc]; have := HT.out.size; have := HB3.out.size; omega) _ rfl ?_
        intro g cap w4 hown hgrow hat hltg
        have k4 := HT.out.var4 HB3.out hgrow (fun b e => (World.ownsRow.lt HT.out.oN b e).1)
        have cc4 := block_cell k4 (j := 0) rfl
        have ff4 := block_fr k4 0
        have hT5 := HT.out.moreN HB3.out (x := (100 * (r : Int), 100 * (d : Int) + a)) hown hgrow (by rw [size_alloc] at hat; exact hat.imp id (fun e => by omega)) hltg
        rw [HLEN.out] at hT5
        have HT5 := Lib.hid hT5
        clear hown hgrow hat hltg hT5
        refine hK.out _ _ trivial (fun _ => ?_)
        (try simp only [Act.put, List.setIfInBounds_toArray, List.set_cons_zero, List.set_cons_succ, List.getElem_toArray, List.getElem_cons_succ, List.getElem_cons_zero])
        refine wpAnyH_take (i := 18) (v := ?_) rfl (by kernel_rfl) (by kernel_rfl) (by kernel_rfl) (fun _ _ _ h => h) (Or.inl ⟨by rfl, ?_⟩) (by exact trivial) ?_
        rotate_left
        · intro w hSw; go_simp <;> with_reducible rfl
        simp only [Act.put, List.setIfInBounds_toArray, List.set_cons_zero, List.set_cons_succ, List.getElem_toArray, List.getElem_cons_succ, List.getElem_cons_zero]
        refine wpAnyH_ready (rs := [19]) (by kernel_rfl) (by simp) ?_
        refine AllReadyH.cons rfl (fun K hK => ?_) AllReadyH.nil
        go_simp
        refine hK.out _ _ trivial (fun _ => ?_)
        (try simp only [Act.put, List.setIfInBounds_toArray, List.set_cons_zero, List.set_cons_succ, List.getElem_toArray, List.getElem_cons_succ, List.getElem_cons_zero])
        refine wpAnyH_done (by kernel_rfl) ?_ _
        go_wp2_with fail
        go_roundg (M - (i + 1))
        case measure => have := HM.out; omega
        case rel =>
          refine ⟨i + 1, .slice (some ⟨g, 0, none⟩) (i + 1) cap, rfl, by omega, by go_num, ?_⟩
          rw [nodes_succ, HX.out]
          exact HT5.out
      · skip
        go_simp
        refine (at_eq (k := 2 + i) ((HR.out.below HT.out.below).below (bl_drew (Below.refl _ _))) (by omega) (by omega) (by omega) (by omega)).mono ?_
        rw [← HA.out]
        rintro e w3 ⟨rfl, hb3⟩
        have HB3 : Hid (Below wr.heap.size wr w3) := Lib.hid ((bl_drew (Below.refl _ _)).trans hb3)
        have c3 := cell_below c0 HB3.out
        clear hb3
        refine hK.out _ _ trivial (fun _ => ?_)
        (try simp only [Act.put, List.setIfInBounds_toArray, List.set_cons_zero, List.set_cons_succ, List.getElem_toArray, List.getElem_cons_succ, List.getElem_cons_zero])
        refine wpAnyH_take (i := 14) (v := ?_) rfl (by kernel_rfl) (by kernel_rfl) (by kernel_rfl) (fun _ _ _ h => h) (Or.inl ⟨by rfl, ?_⟩) (by exact trivial) ?_
        rotate_left
        · intro w hSw; go_simp <;> with_reducible rfl
        simp only [Act.put, List.setIfInBounds_toArray, List.set_cons_zero, List.set_cons_succ, List.getElem_toArray, List.getElem_cons_succ, List.getElem_cons_zero]
        refine wpAnyH_take (i := 15) (v := ?_) rfl (by kernel_rfl) (by kernel_rfl) (by kernel_rfl) (fun _ _ _ h => h) (Or.inl ⟨by rfl, ?_⟩) (by exact trivial) ?_
        rotate_left
        · intro w hSw; go_simp <;> with_reducible rfl
        simp only [Act.put, List.setIfInBounds_toArray, List.set_cons_zero, List.set_cons_succ, List.getElem_toArray, List.getElem_cons_succ, List.getElem_cons_zero]
        refine wpAnyH_ready (rs := [1, 16]) (by kernel_rfl) (by simp) ?_
        refine AllReadyH.cons rfl (fun K hK => ?_) (AllReadyH.cons rfl (fun K hK => ?_) AllReadyH.nil)
        · go_simp
          refine hK.out _ _ trivial (fun _ => ?_)
          (try simp only [Act.put, List.setIfInBounds_toArray, List.set_cons_zero, List.set_cons_succ, List.getElem_toArray, List.getElem_cons_succ, List.getElem_cons_zero])
          refine wpAnyH_ready (rs := [16]) (by kernel_rfl) (by simp) ?_
          refine AllReadyH.cons rfl (fun K hK => ?_) AllReadyH.nil
          go_simp
          refine hK.out _ _ trivial (fun _ => ?_)
          (try simp only [Act.put, List.setIfInBounds_toArray, List.set_cons_zero, List.set_cons_succ, List.getElem_toArray, List.getElem_cons_succ, List.getElem_cons_zero])
          refine wpAnyH_ready (rs := [17]) (by kernel_rfl) (by simp) ?_
          refine AllReadyH.cons rfl (fun K hK => ?_) AllReadyH.nil
          refine step_append_lies _ rfl (.tmp 28) (.tmp 43) 47 rfl (w.heap.size + 2) 59 i0 (.agg #[.int .i64 0, .int .i64 0]) 2 16 Try.underlying47 HI.out.1 HI.out.2.1 HI.out.2.2.1 HI.out.2.2.2 rfl (by decide) _ _ _ rfl (own_keep (own_keep HT.out.oN HB3.out) (bl_alloc (Below.refl _ _) _)) ⟨w3.heap.size, 0, none⟩ 1 1 [.int .i64 (100 * (r : Int)), .int .i64 (100 * (d : Int) + a)] rfl rfl (cell_two_new _ _ _ _) (by intro u hu; simp only [List.mem_cons, List.not_mem_nil, or_false] at hu; rcases hu with rfl | rfl <;> rfl) (by omega) (by rw [HLEN.out]; unfold maxLen; omega) (by rw [HLEN.out]; omega) (by rw [size_alloc]; have := HT.out.size; have := HB3.out.size; omega) _ rfl ?_
          intro g cap w4 hown hgrow hat hltg
          have k4 := HT.out.var4 HB3.out hgrow (fun b e => (World.ownsRow.lt HT.out.oN b e).1)
          have cc4 := block_cell k4 (j := 0) rfl
          have ff4 := block_fr k4 0
          have hT5 := HT.out.moreN HB3.out (x := (100 * (r : Int), 100 * (d : Int) + a)) hown hgrow (by rw [size_alloc] at hat; exact hat.imp id (fun e => by omega)) hltg
          rw [HLEN.out] at hT5
          have HT5 := Lib.hid hT5
          clear hown hgrow hat hltg hT5
          refine hK.out _ _ trivial (fun _ => ?_)
          (try simp only [Act.put, List.setIfInBounds_toArray, List.set_cons_zero, List.set_cons_succ, List.getElem_toArray, List.getElem_cons_succ, List.getElem_cons_zero])
          refine wpAnyH_take (i := 18) (v := ?_) rfl (by kernel_rfl) (by kernel_rfl) (by kernel_rfl) (fun _ _ _ h => h) (Or.inl ⟨by rfl, ?_⟩) (by exact trivial) ?_
          rotate_left
          · intro w hSw; go_simp <;> with_reducible rfl
          simp only [Act.put, List.setIfInBounds_toArray, List.set_cons_zero, List.set_cons_succ, List.getElem_toArray, List.getElem_cons_succ, List.getElem_cons_zero]
          refine wpAnyH_ready (rs := [19]) (by kernel_rfl) (by simp) ?_
          refine AllReadyH.cons rfl (fun K hK => ?_) AllReadyH.nil
          go_simp
          refine hK.out _ _ trivial (fun _ => ?_)
          (try simp only [Act.put, List.setIfInBounds_toArray, List.set_cons_zero, List.set_cons_succ, List.getElem_toArray, List.getElem_cons_succ, List.getElem_cons_zero])
          refine wpAnyH_done (by kernel_rfl) ?_ _
          go_wp2_with fail
          go_roundg (M - (i + 1))
          case measure => have := HM.out; omega
          case rel =>
            refine ⟨i + 1, .slice (some ⟨g, 0, none⟩) (i + 1) cap, rfl, by omega, by go_num, ?_⟩
            rw [nodes_succ, HX.out]
            exact HT5.out
        · go_simp
          have c3a := cell_below c3 (bl_alloc (Below.refl _ _) (.cells #[.int .i64 (100 * (r : Int)), .int .i64 (100 * (d : Int) + a)] 59))
          refine hK.out _ _ trivial (fun _ => ?_)
          (try simp only [Act.put, List.setIfInBounds_toArray, List.set_cons_zero, List.set_cons_succ, List.getElem_toArray, List.getElem_cons_succ, List.getElem_cons_zero])
          refine wpAnyH_ready (rs := [1]) (by kernel_rfl) (by simp) ?_
          refine AllReadyH.cons rfl (fun K hK => ?_) AllReadyH.nil
          go_simp
          refine hK.out _ _ trivial (fun _ => ?_)
          (try simp only [Act.put, List.setIfInBounds_toArray, List.set_cons_zero, List.set_cons_succ, List.getElem_toArray, List.getElem_cons_succ, List.getElem_cons_zero])
          refine wpAnyH_ready (rs := [17]) (by kernel_rfl) (by simp) ?_
          refine AllReadyH.cons rfl (fun K hK => ?_) AllReadyH.nil
          refine step_append_lies _ rfl (.tmp 28) (.tmp 43) 47 rfl (w.heap.size + 2) 59 i0 (.agg #[.int .i64 0, .int .i64 0]) 2 16 Try.underlying47 HI.out.1 HI.out.2.1 HI.out.2.2.1 HI.out.2.2.2 rfl (by decide) _ _ _ rfl (own_keep (own_keep HT.out.oN HB3.out) (bl_alloc (Below.refl _ _) _)) ⟨w3.heap.size, 0, none⟩ 1 1 [.int .i64 (100 * (r : Int)), .int .i64 (100 * (d : Int) + a)] rfl rfl (cell_two_new _ _ _ _) (by intro u hu; simp only [List.mem_cons, List.not_mem_nil, or_false] at hu; rcases hu with rfl | rfl <;> rfl) (by omega) (by rw [HLEN.out]; unfold maxLen; omega) (by rw [HLEN.out]; omega) (by rw [size_alloc]; have := HT.out.size; have := HB3.out.size; omega) _ rfl ?_
          intro g cap w4 hown hgrow hat hltg
          have k4 := HT.out.var4 HB3.out hgrow (fun b e => (World.ownsRow.lt HT.out.oN b e).1)
          have cc4 := block_cell k4 (j := 0) rfl
          have ff4 := block_fr k4 0
          have hT5 := HT.out.moreN HB3.out (x := (100 * (r : Int), 100 * (d : Int) + a)) hown hgrow (by rw [size_alloc] at hat; exact hat.imp id (fun e => by omega)) hltg
          rw [HLEN.out] at hT5
          have HT5 := Lib.hid hT5
          clear hown hgrow hat hltg hT5
          refine hK.out _ _ trivial (fun _ => ?_)
          (try simp only [Act.put, List.setIfInBounds_toArray, List.set_cons_zero, List.set_cons_succ, List.getElem_toArray, List.getElem_cons_succ, List.getElem_cons_zero])
          refine wpAnyH_take (i := 18) (v := ?_) rfl (by kernel_rfl) (by kernel_rfl) (by kernel_rfl) (fun _ _ _ h => h) (Or.inl ⟨by rfl, ?_⟩) (by exact trivial) ?_
          rotate_left
          · intro w hSw; go_simp <;> with_reducible rfl
          simp only [Act.put, List.setIfInBounds_toArray, List.set_cons_zero, List.set_cons_succ, List.getElem_toArray, List.getElem_cons_succ, List.getElem_cons_zero]
          refine wpAnyH_ready (rs := [19]) (by kernel_rfl) (by simp) ?_
          refine AllReadyH.cons rfl (fun K hK => ?_) AllReadyH.nil
          go_simp
          refine hK.out _ _ trivial (fun _ => ?_)
          (try simp only [Act.put, List.setIfInBounds_toArray, List.set_cons_zero, List.set_cons_succ, List.getElem_toArray, List.getElem_cons_succ, List.getElem_cons_zero])
          refine wpAnyH_done (by kernel_rfl) ?_ _
          go_wp2_with fail
          go_roundg (M - (i + 1))
          case measure => have := HM.out; omega
          case rel =>
            refine ⟨i + 1, .slice (some ⟨g, 0, none⟩) (i + 1) cap, rfl, by omega, by go_num, ?_⟩
            rw [nodes_succ, HX.out]
            exact HT5.out
    · have him : i = M := by omega
      subst him
      obtain ⟨NS, hNS⟩ : ∃ NS, NS = (List.range i).map (nodeAt xs W) := ⟨_, rfl⟩
      have HNS := Lib.hid hNS
      have hT := HT.out
      rw [← hNS] at hT
      have HTN := Lib.hid hT
      clear hNS hT HT HM hlt hi
      obtain ⟨wz, hwz⟩ : ∃ wz, wz = wr := ⟨_, rfl⟩
      go_wp2_with fail
      go_loopg [7] i (fun m v wq => ∃ (j : Nat) (sE : Value), m = i - j ∧ j ≤ i ∧ v = .int .i64 (j : Nat) ∧ TownW w wq sN sE (.slice none 0 0) NS (streets xs W H j) [])
      case atStart => exact ⟨0, _, rfl, Nat.zero_le _, rfl, HTN.out⟩
      case round =>
        obtain ⟨j, sE, hm, hj, rfl, hT⟩ := hrel
        have HM := Lib.hid hm
        have HT := Lib.hid hT
        clear hm hT
        by_cases hlt : j < i
        · obtain ⟨r, hr⟩ : ∃ r, r = j % W := ⟨_, rfl⟩
          obtain ⟨d, hd⟩ : ∃ d, d = j / W := ⟨_, rfl⟩
          have r1 : r < 4 := by have := Nat.mod_lt j (show W > 0 by omega); omega
          have d1 : d ≤ 16 := by have := Nat.div_le_self j W; omega
          have q1 : ((j : Int)).tmod (W : Int) = (r : Int) := by rw [hr]; exact Int.ofNat_tmod ..
          have q2 : ((j : Int)).tdiv (W : Int) = (d : Int) := by rw [hd]; exact Int.ofNat_tdiv ..
          have hW0 : ¬ W = 0 := by omega
          have v4 : IntKind.i64.wrap (r : Int) = (r : Int) := IntWalk.i64_in _ (by omega)
          have v5 : IntKind.i64.wrap (d : Int) = (d : Int) := IntWalk.i64_in _ (by omega)
          have v6 : IntKind.i64.wrap ((W : Int) - 1) = (W : Int) - 1 := IntWalk.i64_in _ (by omega)
          have v7 : IntKind.i64.wrap ((H : Int) - 1) = (H : Int) - 1 := IntWalk.i64_in _ (by omega)
          have v8 : IntKind.i64.wrap ((j : Int) + W) = (j : Int) + W := IntWalk.i64_in _ (by omega)
          obtain ⟨x0, hx0⟩ : ∃ x0, x0 = nx W H j 0 := ⟨_, rfl⟩
          obtain ⟨x1, hx1⟩ : ∃ x1, x1 = nx W H j 1 := ⟨_, rfl⟩
          have hx0' : x0 = if r + 1 < W then (j : Int) + 1 else -1 := by rw [hx0, hr]; exact nx0_eq W H j
          have hx1' : x1 = if d + 1 < H then (j : Int) + (W : Int) else -1 := by rw [hx1, hd]; exact nx1_eq W H j
          have HX0 := Lib.hid hx0
          have HX1 := Lib.hid hx1
          clear hr hd hx0 hx1
          go_upto_if 59 with fail
          go_cut [] from 46 to 125 (fun wx => Below wr.heap.size wr wx ∧ wx.heap[wr.heap.size]? = some (.cells #[.int .i64 x0, .int .i64 (-1)] 33))
          case first =>
            by_cases hc : r + 1 < W
            · have hc1 : decide ((r : Int) < (W : Int) - 1) = true := by simp; omega
              rw [if_pos hc] at hx0'
              go_wp2_with fail
              go_meet
              case rel =>
                rw [hx0']
                exact ⟨bl_alloc (Below.refl _ _) _, by show (wr.heap.push _)[wr.heap.size]? = _; simp⟩
            · have hc1 : decide ((r : Int) < (W : Int) - 1) = false := by simp; omega
              rw [if_neg hc] at hx0'
              go_wp2_with fail
              go_meet
              case rel =>
                rw [hx0']
                exact ⟨bl_alloc (Below.refl _ _) _, by show (wr.heap.push _)[wr.heap.size]? = _; simp⟩
          case rest =>
            obtain ⟨hcb, hch⟩ := hcut
            have y0 := block_cell hch (j := 1) rfl
            have y1 := block_fr hch 1
            have hbx : wr.heap.size < wc.heap.size := by
              rcases Nat.lt_or_ge wr.heap.size wc.heap.size with h1 | h1
              · exact h1
              · rw [Array.getElem?_eq_none h1] at hch; cases hch
            have HCB := Lib.hid hcb
            have HCH := Lib.hid hch
            clear hcb hch hx0'
            go_upto_if 68 with fail
            go_cut [] from 46 to 125 (fun wx => Below wr.heap.size wr wx ∧ wx.heap[wr.heap.size]? = some (.cells #[.int .i64 x0, .int .i64 x1] 33))
            case first =>
              by_cases hc : d + 1 < H
              · have hc1 : decide ((d : Int) < (H : Int) - 1) = true := by simp; omega
                rw [if_pos hc] at hx1'
                go_wp2_with fail
                go_meet
                case rel =>
                  rw [hx1']
                  exact ⟨HCB.out.trans ((upd_setCell (F := fun b => b = wr.heap.size) (Upd.refl _ wc) (a := ⟨wr.heap.size, 1, none⟩) rfl _).below HCB.out.size fun k hk e => by omega), block_set HCH.out 1 _⟩
              · have hc1 : decide ((d : Int) < (H : Int) - 1) = false := by simp; omega
                rw [if_neg hc] at hx1'
                go_wp2_with fail
                go_meet
                case rel =>
                  rw [hx1']
                  exact ⟨HCB.out, HCH.out⟩
            case rest =>
              obtain ⟨hcb, hch⟩ := hcut
              obtain ⟨b8, hb8⟩ : ∃ b8, b8 = wr.heap.size := ⟨_, rfl⟩
              have hTw := HT.out.still hcb
              have hse : ∀ b, sE.ownBlock = some b → b ≠ b8 := fun b e => by have := (World.ownsRow.lt HT.out.oE b e).2; omega
              have hb8g : w.heap.size + 1 < b8 := by have := HT.out.size; omega
              rw [← hb8] at hch ⊢
              have HSE := Lib.hid hse
              have HTW := Lib.hid hTw
              have HCH2 := Lib.hid hch
              clear hcb hch hx1' HCB HCH y0 y1 hbx hTw hse hb8
              go_wp2_with fail
              go_loopg [9] 2 (fun m v wq => ∃ (k : Nat) (sE : Value), m = 2 - k ∧ k ≤ 2 ∧ v = .int .i64 (k : Nat) ∧ TownW w wq sN sE (.slice none 0 0) NS (streets xs W H j ++ streetN xs W H j k) [] ∧ wq.heap[b8]? = some (.cells #[.int .i64 x0, .int .i64 x1] 33) ∧ ∀ b, sE.ownBlock = some b → b ≠ b8)
              case atStart => exact ⟨0, sE, rfl, by omega, rfl, by rw [show streetN xs W H j 0 = [] from rfl, List.append_nil]; exact HTW.out, HCH2.out, HSE.out⟩
              case round =>
                obtain ⟨k, sE, hm, hk, rfl, hT, hch, hse⟩ := hrel
                have HM3 := Lib.hid hm
                have HT3 := Lib.hid hT
                have HCH3 := Lib.hid hch
                have HSE3 := Lib.hid hse
                clear hm hT hch hse HTW HSE HCH2
                by_cases hkt : k < 2
                · have hcx : wr.cell? ⟨b8, k, none⟩ = some (.int .i64 (nx W H j k)) := by
                    rcases (show k = 0 ∨ k = 1 by omega) with rfl | rfl
                    · rw [← HX0.out]; exact block_cell HCH3.out (j := 0) rfl
                    · rw [← HX1.out]; exact block_cell HCH3.out (j := 1) rfl
                  have hnb := nx_lt (W := W) (H := H) (i := j) (k := k) W4 (by omega)
                  have k0 : (0 : Int) ≤ (k : Int) := by omega
                  have k1 : (k : Int) < 2 := by omega
                  by_cases hneg : nx W H j k < 0
                  · have hst := streetK_none (xs := xs) hneg
                    obtain ⟨x, hx⟩ : ∃ x, x = nx W H j k := ⟨_, rfl⟩
                    rw [← hx] at hcx hneg hnb
                    have hn1 : decide (x < 0) = true := decide_eq_true hneg
                    have HST := Lib.hid hst
                    clear hst hx
                    go_wp2_with fail
                    go_roundg (2 - (k + 1))
                    case measure => have := HM3.out; omega
                    case rel =>
                      refine ⟨k + 1, sE, rfl, by omega, by go_num, ?_, HCH3.out, HSE3.out⟩
                      rw [streetN_succ, HST.out, List.append_nil]
                      exact HT3.out
                  · obtain ⟨t, ht, hstk⟩ := streetK_some (xs := xs) hneg
                    rw [ht] at hcx hnb hneg
                    have HSTK := Lib.hid hstk
                    have u1 : IntKind.i64.wrap (3 * (j : Int)) = 3 * (j : Int) := IntWalk.i64_in _ (by omega)
                    have u2 : IntKind.i64.wrap (20 + 3 * (j : Int)) = 20 + 3 * (j : Int) := IntWalk.i64_in _ (by omega)
                    have u3 : IntKind.i64.wrap (20 + 3 * (j : Int) + k) = 20 + 3 * (j : Int) + k := IntWalk.i64_in _ (by omega)
                    have HCX := Lib.hid hcx
                    clear hstk ht
                    go_wp2_with fail
                    refine (at_eq (k := 20 + 3 * j + k) (HR.out.below HT3.out.below) (by omega) (by omega) (by omega) (by omega)).mono ?_
                    obtain ⟨nv, hnv⟩ : ∃ nv, nv = atV xs (20 + 3 * j + k) 8 := ⟨_, rfl⟩
                    rw [← hnv]
                    rintro e w3 ⟨rfl, hb3⟩
                    have hT4 := HT3.out.still hb3
                    have hcx3 := cell_below HCX.out hb3
                    have hch3 := (hb3.block b8 (World.block_lt_of_cell? wr ⟨b8, k, none⟩ HCX.out)).trans HCH3.out
                    have HT4 := Lib.hid hT4
                    have HCX3 := Lib.hid hcx3
                    have HCH4 := Lib.hid hch3
                    have HNV := Lib.hid hnv
                    clear hT4 hcx hcx3 hch3 hb3 hnv u1 u2 u3 HT3 HCX HCH3
                    go_upto_if 89 with fail
                    go_cut [] from 73 to 125 (fun wx => ∃ sE', TownW w wx sN sE' (.slice none 0 0) NS ((streets xs W H j ++ streetN xs W H j k) ++ streetA xs j t k) [] ∧ wx.heap[b8]? = some (.cells #[.int .i64 x0, .int .i64 x1] 33) ∧ ∀ b, sE'.ownBlock = some b → b ≠ b8)
                    case first =>
                      by_cases hv : nv = 1
                      · have hv1 : (nv != 1) = false := by simp [hv]
                        have hA : streetA xs j t k = [] := by unfold streetA; rw [← HNV.out, if_pos hv]
                        go_wp2_with fail
                        go_meet
                        case rel =>
                          refine ⟨sE, ?_, HCH4.out, HSE3.out⟩
                          rw [hA, List.append_nil]; exact HT4.out
                      · have hv1 : (nv != 1) = true := by simp [hv]
                        obtain ⟨a, ha⟩ : ∃ a, a = atV xs (60 + j + k) 9 := ⟨_, rfl⟩
                        obtain ⟨b0, b1⟩ : 0 ≤ a ∧ a < 9 := by rw [ha]; exact ⟨atV_nonneg (by omega), atV_lt (by omega)⟩
                        have hA : streetA xs j t k = [((j : Int), (t : Int), 1 + a)] := by unfold streetA; rw [← HNV.out, if_neg hv, ha]
                        obtain ⟨ES, hES⟩ : ∃ ES, ES = streets xs W H j ++ streetN xs W H j k := ⟨_, rfl⟩
                        have hel : ES.length ≤ 70 := by rw [hES, List.length_append]; have h1 := len_streets xs W H j; have h2 := len_streetN xs W H j k hk; omega
                        have hTC := HT4.out
                        rw [← hES] at hTC
                        have HTC := Lib.hid hTC
                        have HEL := Lib.hid hel
                        have HSTR : Hid ((streets xs W H j ++ streetN xs W H j k) ++ streetA xs j t k = ES ++ [((j : Int), (t : Int), 1 + a)]) := Lib.hid (by rw [hA, hES])
                        have HA := Lib.hid ha
                        obtain ⟨i0, hi1, hi2, hi3, hi4⟩ := info_parts infoEdge
                        have HI := Lib.hid (show _ ∧ _ ∧ _ ∧ _ from ⟨hi1, hi2, hi3, hi4⟩)
                        have u5 : IntKind.i64.wrap (60 + (j : Int)) = 60 + (j : Int) := IntWalk.i64_in _ (by omega)
                        have u6 : IntKind.i64.wrap (60 + (j : Int) + k) = 60 + (j : Int) + k := IntWalk.i64_in _ (by omega)
                        have u7 : IntKind.i64.wrap (1 + a) = 1 + a := IntWalk.i64_in _ (by omega)
                        have HSE := HSE3
                        have HCH := HCH4
                        have HCX := HCX3
                        clear hES hel hTC hA ha hi1 hi2 hi3 hi4 HT4
                        obtain ⟨wc, hwc⟩ : ∃ wc, wc = w3 := ⟨_, rfl⟩
                        subst hwc
                        go_wp2_with fail
                        have c0 := block_cell HTC.out.hg (j := 1) rfl
                        have c0d := cell_below c0 (bl_drew (Below.refl _ _))
                        have s0 := cell_below HCX.out (bl_drew (Below.refl _ _))
                        refine wp_region_held_drew (S := fun w' => w'.cell? ⟨b8, k, none⟩ = some (.int .i64 (t : Int))) (by kernel_rfl) s0 (fun hHeld => ?_)
                        refine wpAnyH_take (i := 0) (v := ?_) rfl (by kernel_rfl) (by kernel_rfl) (by kernel_rfl) (fun _ _ _ h => h) (Or.inl ⟨by rfl, ?_⟩) (by assumption) ?_
                        rotate_left
                        · intro w hSw; (try dsimp only at hSw); go_simp <;> with_reducible rfl
                        (try simp only [Act.put, List.setIfInBounds_toArray, List.set_cons_zero, List.set_cons_succ, List.getElem_toArray, List.getElem_cons_succ, List.getElem_cons_zero])
                        refine wpAnyH_take (i := 2) (v := ?_) rfl (by kernel_rfl) (by kernel_rfl) (by kernel_rfl) (fun _ _ _ h => h) (Or.inl ⟨by rfl, ?_⟩) (by assumption) ?_
                        rotate_left
                        · intro w hSw; (try dsimp only at hSw); go_simp <;> with_reducible rfl
                        (try simp only [Act.put, List.setIfInBounds_toArray, List.set_cons_zero, List.set_cons_succ, List.getElem_toArray, List.getElem_cons_succ, List.getElem_cons_zero])
                        refine wpAnyH_take (i := 3) (v := ?_) rfl (by kernel_rfl) (by kernel_rfl) (by kernel_rfl) (fun _ _ _ h => h) (Or.inl ⟨by rfl, ?_⟩) (by assumption) ?_
                        rotate_left
                        · intro w hSw; (try dsimp only at hSw); go_simp <;> with_reducible rfl
                        (try simp only [Act.put, List.setIfInBounds_toArray, List.set_cons_zero, List.set_cons_succ, List.getElem_toArray, List.getElem_cons_succ, List.getElem_cons_zero])
                        refine wpAnyH_take (i := 4) (v := ?_) rfl (by kernel_rfl) (by kernel_rfl) (by kernel_rfl) (fun _ _ _ h => h) (Or.inl ⟨by rfl, ?_⟩) (by assumption) ?_
                        rotate_left
                        · intro w hSw; (try dsimp only at hSw); go_simp <;> with_reducible rfl
                        (try simp only [Act.put, List.setIfInBounds_toArray, List.set_cons_zero, List.set_cons_succ, List.getElem_toArray, List.getElem_cons_succ, List.getElem_cons_zero])
                        refine wpAnyH_take (i := 5) (v := ?_) rfl (by kernel_rfl) (by kernel_rfl) (by kernel_rfl) (fun _ _ _ h => h) (Or.inl ⟨by rfl, ?_⟩) (by assumption) ?_
                        rotate_left
                        · intro w hSw; (try dsimp only at hSw); go_simp <;> with_reducible rfl
                        (try simp only [Act.put, List.setIfInBounds_toArray, List.set_cons_zero, List.set_cons_succ, List.getElem_toArray, List.getElem_cons_succ, List.getElem_cons_zero])
                        refine wpAnyH_take (i := 6) (v := ?_) rfl (by kernel_rfl) (by kernel_rfl) (by kernel_rfl) (fun _ _ _ h => h) (Or.inl ⟨by rfl, ?_⟩) (by assumption) ?_
                        rotate_left
                        · intro w hSw; (try dsimp only at hSw); go_simp <;> with_reducible rfl
                        (try simp only [Act.put, List.setIfInBounds_toArray, List.set_cons_zero, List.set_cons_succ, List.getElem_toArray, List.getElem_cons_succ, List.getElem_cons_zero])
                        refine wpAnyH_take (i := 7) (v := ?_) rfl (by kernel_rfl) (by kernel_rfl) (by kernel_rfl) (fun _ _ _ h => h) (Or.inl ⟨by rfl, ?_⟩) (by assumption) ?_
                        rotate_left
                        · intro w hSw; (try dsimp only at hSw); go_simp <;> with_reducible rfl
                        (try simp only [Act.put, List.setIfInBounds_toArray, List.set_cons_zero, List.set_cons_succ, List.getElem_toArray, List.getElem_cons_succ, List.getElem_cons_zero])
                        refine wpAnyH_take (i := 8) (v := ?_) rfl (by kernel_rfl) (by kernel_rfl) (by kernel_rfl) (fun _ _ _ h => h) (Or.inl ⟨by rfl, ?_⟩) (by assumption) ?_
                        rotate_left
                        · intro w hSw; (try dsimp only at hSw); go_simp <;> with_reducible rfl
                        (try simp only [Act.put, List.setIfInBounds_toArray, List.set_cons_zero, List.set_cons_succ, List.getElem_toArray, List.getElem_cons_succ, List.getElem_cons_zero])
                        refine wpAnyH_take (i := 9) (v := ?_) rfl (by kernel_rfl) (by kernel_rfl) (by kernel_rfl) (fun _ _ _ h => h) (Or.inl ⟨by rfl, ?_⟩) (by assumption) ?_
                        rotate_left
                        · intro w hSw; (try dsimp only at hSw); go_simp <;> with_reducible rfl
                        (try simp only [Act.put, List.setIfInBounds_toArray, List.set_cons_zero, List.set_cons_succ, List.getElem_toArray, List.getElem_cons_succ, List.getElem_cons_zero])
                        refine wpAnyH_take (i := 10) (v := ?_) rfl (by kernel_rfl) (by kernel_rfl) (by kernel_rfl) (fun _ _ _ h => h) (Or.inl ⟨by rfl, ?_⟩) (by assumption) ?_
                        rotate_left
                        · intro w hSw; (try dsimp only at hSw); go_simp <;> with_reducible rfl
                        (try simp only [Act.put, List.setIfInBounds_toArray, List.set_cons_zero, List.set_cons_succ, List.getElem_toArray, List.getElem_cons_succ, List.getElem_cons_zero])
                        refine wpAnyH_ready (rs := [1, 11]) (by kernel_rfl) (by simp) ?_
                        refine AllReadyH.cons rfl (fun K hK => ?_) (AllReadyH.cons rfl (fun K hK => ?_) AllReadyH.nil)
                        · go_simp
                          refine hK.out _ _ s0 (fun hHeld => ?_)
                          (try simp only [Act.put, List.setIfInBounds_toArray, List.set_cons_zero, List.set_cons_succ, List.getElem_toArray, List.getElem_cons_succ, List.getElem_cons_zero])
                          refine wpAnyH_ready (rs := [11]) (by kernel_rfl) (by simp) ?_
                          refine AllReadyH.cons rfl (fun K hK => ?_) AllReadyH.nil
                          go_simp
                          refine (at_eq (k := 60+j+k) ((HR.out.below HTC.out.below).below (bl_drew (Below.refl _ _))) (by omega) (by omega) (by omega) (by omega)).mono ?_
                          rw [← HA.out]
                          rintro e w5 ⟨rfl, hb5⟩
                          have HB5 : Hid (Below wc.heap.size wc w5) := Lib.hid ((bl_drew (Below.refl _ _)).trans hb5)
                          have c5 := cell_below c0 HB5.out
                          have s5 := cell_below HCX.out HB5.out
                          clear hb5
                          refine hK.out _ _ s5 (fun hHeld => ?_)
                          (try simp only [Act.put, List.setIfInBounds_toArray, List.set_cons_zero, List.set_cons_succ, List.getElem_toArray, List.getElem_cons_succ, List.getElem_cons_zero])
                          refine wpAnyH_take (i := 12) (v := ?_) rfl (by kernel_rfl) (by kernel_rfl) (by kernel_rfl) (fun _ _ _ h => h) (Or.inl ⟨by rfl, ?_⟩) (by assumption) ?_
                          rotate_left
                          · intro w hSw; (try dsimp only at hSw); go_simp <;> with_reducible rfl
                          (try simp only [Act.put, List.setIfInBounds_toArray, List.set_cons_zero, List.set_cons_succ, List.getElem_toArray, List.getElem_cons_succ, List.getElem_cons_zero])
                          refine wpAnyH_take (i := 13) (v := ?_) rfl (by kernel_rfl) (by kernel_rfl) (by kernel_rfl) (fun _ _ _ h => h) (Or.inl ⟨by rfl, ?_⟩) (by assumption) ?_
                          rotate_left
                          · intro w hSw; (try dsimp only at hSw); go_simp <;> with_reducible rfl
                          (try simp only [Act.put, List.setIfInBounds_toArray, List.set_cons_zero, List.set_cons_succ, List.getElem_toArray, List.getElem_cons_succ, List.getElem_cons_zero])
                          refine wpAnyH_ready (rs := [14]) (by kernel_rfl) (by simp) ?_
                          refine AllReadyH.cons rfl (fun K hK => ?_) AllReadyH.nil
                          go_simp
                          refine hK.out _ _ (cell_below s5 (bl_alloc (Below.refl _ _) _)) (fun hHeld => ?_)
                          (try simp only [Act.put, List.setIfInBounds_toArray, List.set_cons_zero, List.set_cons_succ, List.getElem_toArray, List.getElem_cons_succ, List.getElem_cons_zero])
                          refine wpAnyH_ready (rs := [15]) (by kernel_rfl) (by simp) ?_
                          refine AllReadyH.cons rfl (fun K hK => ?_) AllReadyH.nil
                          refine step_append_lies _ rfl (.tmp 91) (.tmp 104) 48 rfl (w.heap.size + 2) 63 i0 (.agg #[.int .i64 0, .int .i64 0, .int .i64 0]) 3 24 Try.underlying48 HI.out.1 HI.out.2.1 HI.out.2.2.1 HI.out.2.2.2 rfl (by decide) _ _ _ rfl (own_keep (own_keep HTC.out.oE HB5.out) (bl_alloc (Below.refl _ _) _)) ⟨w5.heap.size, 0, none⟩ 1 1 [.int .i64 (j:Int), .int .i64 (t:Int), .int .i64 (1 + a)] rfl rfl (cell_three_list _ _ _ _ _) (by intro u hu; simp only [List.mem_cons, List.not_mem_nil, or_false] at hu; rcases hu with rfl | rfl | rfl <;> rfl) (by omega) (by have := HEL.out; unfold maxLen; omega) (by have := HEL.out; omega) (by rw [size_alloc]; have := HTC.out.size; have := HB5.out.size; omega) _ rfl ?_
                          intro g cap w4 hown hgrow hat hltg
                          have k4 := HTC.out.var4 HB5.out hgrow (fun b e => (World.ownsRow.lt HTC.out.oE b e).1)
                          have cc4 := block_cell k4 (j := 1) rfl
                          have ff4 := block_fr k4 1
                          have hb8lt : b8 < wc.heap.size := by
                            rcases Nat.lt_or_ge b8 wc.heap.size with h1 | h1
                            · exact h1
                            · have := HCH.out; rw [Array.getElem?_eq_none h1] at this; cases this
                          have g8 := (other4 HB5.out hgrow (b := b8) hb8lt (fun e => HSE.out b8 e rfl)).trans HCH.out
                          have s4 : w4.cell? ⟨b8, k, none⟩ = some (.int .i64 (t : Int)) := (World.cell?_of_block (a := ⟨b8, k, none⟩) (other4 HB5.out hgrow (b := b8) hb8lt (fun e => HSE.out b8 e rfl))).trans HCX.out
                          have s6 : (w4.setCell ⟨w.heap.size + 1, 1, none⟩ (.slice (some ⟨g, 0, none⟩) (ES.length + 1) cap)).cell? ⟨b8, k, none⟩ = some (.int .i64 (t : Int)) := (World.cell?_setCell_far w4 ⟨w.heap.size + 1, 1, none⟩ ⟨b8, k, none⟩ _ (by show w.heap.size + 1 ≠ b8; omega)).trans s4
                          have g9 : (w4.setCell ⟨w.heap.size + 1, 1, none⟩ (.slice (some ⟨g, 0, none⟩) (ES.length + 1) cap)).heap[b8]? = some (.cells #[.int .i64 x0, .int .i64 x1] 33) := (heap_setCell_ne (by show w.heap.size + 1 ≠ b8; omega)).trans g8
                          have hse9 : ∀ b, (Value.slice (some ⟨g, 0, none⟩) (ES.length + 1) cap).ownBlock = some b → b ≠ b8 := by
                            intro b e e2
                            simp only [Value.ownBlock, Option.some.injEq] at e
                            subst e2 e
                            rcases hat with h1 | h1
                            · exact HSE.out _ h1 rfl
                            · rw [size_alloc] at h1; have := HB5.out.size; omega
                          have hT5 := HTC.out.moreE HB5.out (x := ((j:Int), (t:Int), 1 + a)) hown hgrow (by rw [size_alloc] at hat; exact hat.imp id (fun e => by omega)) hltg
                          have HT5 := Lib.hid hT5
                          have HG9 := Lib.hid g9
                          have HSE9 := Lib.hid hse9
                          clear hown hgrow hat hltg hT5 g8 g9 hse9 hb8lt
                          refine hK.out _ _ s4 (fun hHeld => ?_)
                          (try simp only [Act.put, List.setIfInBounds_toArray, List.set_cons_zero, List.set_cons_succ, List.getElem_toArray, List.getElem_cons_succ, List.getElem_cons_zero])
                          refine wpAnyH_take (i := 16) (v := ?_) rfl (by kernel_rfl) (by kernel_rfl) (by kernel_rfl) (fun _ _ _ h => h) (Or.inl ⟨by rfl, ?_⟩) (by assumption) ?_
                          rotate_left
                          · intro w hSw; (try dsimp only at hSw); go_simp <;> with_reducible rfl
                          (try simp only [Act.put, List.setIfInBounds_toArray, List.set_cons_zero, List.set_cons_succ, List.getElem_toArray, List.getElem_cons_succ, List.getElem_cons_zero])
                          refine wpAnyH_ready (rs := [17]) (by kernel_rfl) (by simp) ?_
                          refine AllReadyH.cons rfl (fun K hK => ?_) AllReadyH.nil
                          go_simp
                          refine hK.out _ _ s6 (fun hHeld => ?_)
                          (try simp only [Act.put, List.setIfInBounds_toArray, List.set_cons_zero, List.set_cons_succ, List.getElem_toArray, List.getElem_cons_succ, List.getElem_cons_zero])
                          refine wpAnyH_done (by kernel_rfl) ?_ _
                          go_wp2_with fail
                          go_meet
                          case rel =>
                            refine ⟨_, ?_, HG9.out, HSE9.out⟩
                            rw [HSTR.out]
                            exact HT5.out
                        · skip
                          go_simp
                          refine (at_eq (k := 60+j+k) ((HR.out.below HTC.out.below).below (bl_drew (Below.refl _ _))) (by omega) (by omega) (by omega) (by omega)).mono ?_
                          rw [← HA.out]
                          rintro e w5 ⟨rfl, hb5⟩
                          have HB5 : Hid (Below wc.heap.size wc w5) := Lib.hid ((bl_drew (Below.refl _ _)).trans hb5)
                          have c5 := cell_below c0 HB5.out
                          have s5 := cell_below HCX.out HB5.out
                          clear hb5
                          refine hK.out _ _ s5 (fun hHeld => ?_)
                          (try simp only [Act.put, List.setIfInBounds_toArray, List.set_cons_zero, List.set_cons_succ, List.getElem_toArray, List.getElem_cons_succ, List.getElem_cons_zero])
                          refine wpAnyH_take (i := 12) (v := ?_) rfl (by kernel_rfl) (by kernel_rfl) (by kernel_rfl) (fun _ _ _ h => h) (Or.inl ⟨by rfl, ?_⟩) (by assumption) ?_
                          rotate_left
                          · intro w hSw; (try dsimp only at hSw); go_simp <;> with_reducible rfl
                          (try simp only [Act.put, List.setIfInBounds_toArray, List.set_cons_zero, List.set_cons_succ, List.getElem_toArray, List.getElem_cons_succ, List.getElem_cons_zero])
                          refine wpAnyH_take (i := 13) (v := ?_) rfl (by kernel_rfl) (by kernel_rfl) (by kernel_rfl) (fun _ _ _ h => h) (Or.inl ⟨by rfl, ?_⟩) (by assumption) ?_
                          rotate_left
                          · intro w hSw; (try dsimp only at hSw); go_simp <;> with_reducible rfl
                          (try simp only [Act.put, List.setIfInBounds_toArray, List.set_cons_zero, List.set_cons_succ, List.getElem_toArray, List.getElem_cons_succ, List.getElem_cons_zero])
                          refine wpAnyH_ready (rs := [1, 14]) (by kernel_rfl) (by simp) ?_
                          refine AllReadyH.cons rfl (fun K hK => ?_) (AllReadyH.cons rfl (fun K hK => ?_) AllReadyH.nil)
                          · go_simp
                            refine hK.out _ _ s5 (fun hHeld => ?_)
                            (try simp only [Act.put, List.setIfInBounds_toArray, List.set_cons_zero, List.set_cons_succ, List.getElem_toArray, List.getElem_cons_succ, List.getElem_cons_zero])
                            refine wpAnyH_ready (rs := [14]) (by kernel_rfl) (by simp) ?_
                            refine AllReadyH.cons rfl (fun K hK => ?_) AllReadyH.nil
                            go_simp
                            refine hK.out _ _ (cell_below s5 (bl_alloc (Below.refl _ _) _)) (fun hHeld => ?_)
                            (try simp only [Act.put, List.setIfInBounds_toArray, List.set_cons_zero, List.set_cons_succ, List.getElem_toArray, List.getElem_cons_succ, List.getElem_cons_zero])
                            refine wpAnyH_ready (rs := [15]) (by kernel_rfl) (by simp) ?_
                            refine AllReadyH.cons rfl (fun K hK => ?_) AllReadyH.nil
                            refine step_append_lies _ rfl (.tmp 91) (.tmp 104) 48 rfl (w.heap.size + 2) 63 i0 (.agg #[.int .i64 0, .int .i64 0, .int .i64 0]) 3 24 Try.underlying48 HI.out.1 HI.out.2.1 HI.out.2.2.1 HI.out.2.2.2 rfl (by decide) _ _ _ rfl (own_keep (own_keep HTC.out.oE HB5.out) (bl_alloc (Below.refl _ _) _)) ⟨w5.heap.size, 0, none⟩ 1 1 [.int .i64 (j:Int), .int .i64 (t:Int), .int .i64 (1 + a)] rfl rfl (cell_three_list _ _ _ _ _) (by intro u hu; simp only [List.mem_cons, List.not_mem_nil, or_false] at hu; rcases hu with rfl | rfl | rfl <;> rfl) (by omega) (by have := HEL.out; unfold maxLen; omega) (by have := HEL.out; omega) (by rw [size_alloc]; have := HTC.out.size; have := HB5.out.size; omega) _ rfl ?_
                            intro g cap w4 hown hgrow hat hltg
                            have k4 := HTC.out.var4 HB5.out hgrow (fun b e => (World.ownsRow.lt HTC.out.oE b e).1)
                            have cc4 := block_cell k4 (j := 1) rfl
                            have ff4 := block_fr k4 1
                            have hb8lt : b8 < wc.heap.size := by
                              rcases Nat.lt_or_ge b8 wc.heap.size with h1 | h1
                              · exact h1
                              · have := HCH.out; rw [Array.getElem?_eq_none h1] at this; cases this
                            have g8 := (other4 HB5.out hgrow (b := b8) hb8lt (fun e => HSE.out b8 e rfl)).trans HCH.out
                            have s4 : w4.cell? ⟨b8, k, none⟩ = some (.int .i64 (t : Int)) := (World.cell?_of_block (a := ⟨b8, k, none⟩) (other4 HB5.out hgrow (b := b8) hb8lt (fun e => HSE.out b8 e rfl))).trans HCX.out
                            have s6 : (w4.setCell ⟨w.heap.size + 1, 1, none⟩ (.slice (some ⟨g, 0, none⟩) (ES.length + 1) cap)).cell? ⟨b8, k, none⟩ = some (.int .i64 (t : Int)) := (World.cell?_setCell_far w4 ⟨w.heap.size + 1, 1, none⟩ ⟨b8, k, none⟩ _ (by show w.heap.size + 1 ≠ b8; omega)).trans s4
                            have g9 : (w4.setCell ⟨w.heap.size + 1, 1, none⟩ (.slice (some ⟨g, 0, none⟩) (ES.length + 1) cap)).heap[b8]? = some (.cells #[.int .i64 x0, .int .i64 x1] 33) := (heap_setCell_ne (by show w.heap.size + 1 ≠ b8; omega)).trans g8
                            have hse9 : ∀ b, (Value.slice (some ⟨g, 0, none⟩) (ES.length + 1) cap).ownBlock = some b → b ≠ b8 := by
                              intro b e e2
                              simp only [Value.ownBlock, Option.some.injEq] at e
                              subst e2 e
                              rcases hat with h1 | h1
                              · exact HSE.out _ h1 rfl
                              · rw [size_alloc] at h1; have := HB5.out.size; omega
                            have hT5 := HTC.out.moreE HB5.out (x := ((j:Int), (t:Int), 1 + a)) hown hgrow (by rw [size_alloc] at hat; exact hat.imp id (fun e => by omega)) hltg
                            have HT5 := Lib.hid hT5
                            have HG9 := Lib.hid g9
                            have HSE9 := Lib.hid hse9
                            clear hown hgrow hat hltg hT5 g8 g9 hse9 hb8lt
                            refine hK.out _ _ s4 (fun hHeld => ?_)
                            (try simp only [Act.put, List.setIfInBounds_toArray, List.set_cons_zero, List.set_cons_succ, List.getElem_toArray, List.getElem_cons_succ, List.getElem_cons_zero])
                            refine wpAnyH_take (i := 16) (v := ?_) rfl (by kernel_rfl) (by kernel_rfl) (by kernel_rfl) (fun _ _ _ h => h) (Or.inl ⟨by rfl, ?_⟩) (by assumption) ?_
                            rotate_left
                            · intro w hSw; (try dsimp only at hSw); go_simp <;> with_reducible rfl
                            (try simp only [Act.put, List.setIfInBounds_toArray, List.set_cons_zero, List.set_cons_succ, List.getElem_toArray, List.getElem_cons_succ, List.getElem_cons_zero])
                            refine wpAnyH_ready (rs := [17]) (by kernel_rfl) (by simp) ?_
                            refine AllReadyH.cons rfl (fun K hK => ?_) AllReadyH.nil
                            go_simp
                            refine hK.out _ _ s6 (fun hHeld => ?_)
                            (try simp only [Act.put, List.setIfInBounds_toArray, List.set_cons_zero, List.set_cons_succ, List.getElem_toArray, List.getElem_cons_succ, List.getElem_cons_zero])
                            refine wpAnyH_done (by kernel_rfl) ?_ _
                            go_wp2_with fail
                            go_meet
                            case rel =>
                              refine ⟨_, ?_, HG9.out, HSE9.out⟩
                              rw [HSTR.out]
                              exact HT5.out
                          · go_simp
                            have c5a := cell_below c5 (bl_alloc (Below.refl _ _) (.cells #[.int .i64 (j:Int), .int .i64 (t:Int), .int .i64 (1 + a)] 63))
                            refine hK.out _ _ (cell_below s5 (bl_alloc (Below.refl _ _) _)) (fun hHeld => ?_)
                            (try simp only [Act.put, List.setIfInBounds_toArray, List.set_cons_zero, List.set_cons_succ, List.getElem_toArray, List.getElem_cons_succ, List.getElem_cons_zero])
                            refine wpAnyH_ready (rs := [1]) (by kernel_rfl) (by simp) ?_
                            refine AllReadyH.cons rfl (fun K hK => ?_) AllReadyH.nil
                            go_simp
                            refine hK.out _ _ (cell_below s5 (bl_alloc (Below.refl _ _) _)) (fun hHeld => ?_)
                            (try simp only [Act.put, List.setIfInBounds_toArray, List.set_cons_zero, List.set_cons_succ, List.getElem_toArray, List.getElem_cons_succ, List.getElem_cons_zero])
                            refine wpAnyH_ready (rs := [15]) (by kernel_rfl) (by simp) ?_
                            refine AllReadyH.cons rfl (fun K hK => ?_) AllReadyH.nil
                            refine step_append_lies _ rfl (.tmp 91) (.tmp 104) 48 rfl (w.heap.size + 2) 63 i0 (.agg #[.int .i64 0, .int .i64 0, .int .i64 0]) 3 24 Try.underlying48 HI.out.1 HI.out.2.1 HI.out.2.2.1 HI.out.2.2.2 rfl (by decide) _ _ _ rfl (own_keep (own_keep HTC.out.oE HB5.out) (bl_alloc (Below.refl _ _) _)) ⟨w5.heap.size, 0, none⟩ 1 1 [.int .i64 (j:Int), .int .i64 (t:Int), .int .i64 (1 + a)] rfl rfl (cell_three_list _ _ _ _ _) (by intro u hu; simp only [List.mem_cons, List.not_mem_nil, or_false] at hu; rcases hu with rfl | rfl | rfl <;> rfl) (by omega) (by have := HEL.out; unfold maxLen; omega) (by have := HEL.out; omega) (by rw [size_alloc]; have := HTC.out.size; have := HB5.out.size; omega) _ rfl ?_
                            intro g cap w4 hown hgrow hat hltg
                            have k4 := HTC.out.var4 HB5.out hgrow (fun b e => (World.ownsRow.lt HTC.out.oE b e).1)
                            have cc4 := block_cell k4 (j := 1) rfl
                            have ff4 := block_fr k4 1
                            have hb8lt : b8 < wc.heap.size := by
                              rcases Nat.lt_or_ge b8 wc.heap.size with h1 | h1
                              · exact h1
                              · have := HCH.out; rw [Array.getElem?_eq_none h1] at this; cases this
                            have g8 := (other4 HB5.out hgrow (b := b8) hb8lt (fun e => HSE.out b8 e rfl)).trans HCH.out
                            have s4 : w4.cell? ⟨b8, k, none⟩ = some (.int .i64 (t : Int)) := (World.cell?_of_block (a := ⟨b8, k, none⟩) (other4 HB5.out hgrow (b := b8) hb8lt (fun e => HSE.out b8 e rfl))).trans HCX.out
                            have s6 : (w4.setCell ⟨w.heap.size + 1, 1, none⟩ (.slice (some ⟨g, 0, none⟩) (ES.length + 1) cap)).cell? ⟨b8, k, none⟩ = some (.int .i64 (t : Int)) := (World.cell?_setCell_far w4 ⟨w.heap.size + 1, 1, none⟩ ⟨b8, k, none⟩ _ (by show w.heap.size + 1 ≠ b8; omega)).trans s4
                            have g9 : (w4.setCell ⟨w.heap.size + 1, 1, none⟩ (.slice (some ⟨g, 0, none⟩) (ES.length + 1) cap)).heap[b8]? = some (.cells #[.int .i64 x0, .int .i64 x1] 33) := (heap_setCell_ne (by show w.heap.size + 1 ≠ b8; omega)).trans g8
                            have hse9 : ∀ b, (Value.slice (some ⟨g, 0, none⟩) (ES.length + 1) cap).ownBlock = some b → b ≠ b8 := by
                              intro b e e2
                              simp only [Value.ownBlock, Option.some.injEq] at e
                              subst e2 e
                              rcases hat with h1 | h1
                              · exact HSE.out _ h1 rfl
                              · rw [size_alloc] at h1; have := HB5.out.size; omega
                            have hT5 := HTC.out.moreE HB5.out (x := ((j:Int), (t:Int), 1 + a)) hown hgrow (by rw [size_alloc] at hat; exact hat.imp id (fun e => by omega)) hltg
                            have HT5 := Lib.hid hT5
                            have HG9 := Lib.hid g9
                            have HSE9 := Lib.hid hse9
                            clear hown hgrow hat hltg hT5 g8 g9 hse9 hb8lt
                            refine hK.out _ _ s4 (fun hHeld => ?_)
                            (try simp only [Act.put, List.setIfInBounds_toArray, List.set_cons_zero, List.set_cons_succ, List.getElem_toArray, List.getElem_cons_succ, List.getElem_cons_zero])
                            refine wpAnyH_take (i := 16) (v := ?_) rfl (by kernel_rfl) (by kernel_rfl) (by kernel_rfl) (fun _ _ _ h => h) (Or.inl ⟨by rfl, ?_⟩) (by assumption) ?_
                            rotate_left
                            · intro w hSw; (try dsimp only at hSw); go_simp <;> with_reducible rfl
                            (try simp only [Act.put, List.setIfInBounds_toArray, List.set_cons_zero, List.set_cons_succ, List.getElem_toArray, List.getElem_cons_succ, List.getElem_cons_zero])
                            refine wpAnyH_ready (rs := [17]) (by kernel_rfl) (by simp) ?_
                            refine AllReadyH.cons rfl (fun K hK => ?_) AllReadyH.nil
                            go_simp
                            refine hK.out _ _ s6 (fun hHeld => ?_)
                            (try simp only [Act.put, List.setIfInBounds_toArray, List.set_cons_zero, List.set_cons_succ, List.getElem_toArray, List.getElem_cons_succ, List.getElem_cons_zero])
                            refine wpAnyH_done (by kernel_rfl) ?_ _
                            go_wp2_with fail
                            go_meet
                            case rel =>
                              refine ⟨_, ?_, HG9.out, HSE9.out⟩
                              rw [HSTR.out]
                              exact HT5.out
                    case rest =>
                      obtain ⟨sE2, hT5, hch5, hse5⟩ := hcut
                      have HT5 := Lib.hid hT5
                      have hb8lt : b8 < wc.heap.size := by
                        rcases Nat.lt_or_ge b8 wc.heap.size with h1 | h1
                        · exact h1
                        · rw [Array.getElem?_eq_none h1] at hch5; cases hch5
                      have hcx5 : wc.cell? ⟨b8, k, none⟩ = some (.int .i64 (t : Int)) := (World.cell?_of_block (a := ⟨b8, k, none⟩) (w := w3) (hch5.trans HCH4.out.symm)).trans HCX3.out
                      have HCX := Lib.hid hcx5
                      have HCH := Lib.hid hch5
                      have HSE := Lib.hid hse5
                      clear hT5 hch5 hse5 hcx5 HT4 HCH4 HSE3 HCX3 hb8lt
                      by_cases hv : nv = 2
                      · have hv1 : (nv != 2) = false := by simp [hv]
                        have hA : streetB xs j t k = [] := by unfold streetB; rw [← HNV.out, if_pos hv]
                        go_wp2_with fail
                        go_roundg (2 - (k + 1))
                        case measure => have := HM3.out; omega
                        case rel =>
                          refine ⟨k + 1, sE2, rfl, by omega, by go_num, ?_, HCH.out, HSE.out⟩
                          rw [streetN_succ, HSTK.out, hA, List.append_nil, ← List.append_assoc]
                          exact HT5.out
                      · have hv1 : (nv != 2) = true := by simp [hv]
                        obtain ⟨a, ha⟩ : ∃ a, a = atV xs (90 + j + k) 9 := ⟨_, rfl⟩
                        obtain ⟨b0, b1⟩ : 0 ≤ a ∧ a < 9 := by rw [ha]; exact ⟨atV_nonneg (by omega), atV_lt (by omega)⟩
                        have hA : streetB xs j t k = [((t : Int), (j : Int), 1 + a)] := by unfold streetB; rw [← HNV.out, if_neg hv, ha]
                        obtain ⟨ES, hES⟩ : ∃ ES, ES = (streets xs W H j ++ streetN xs W H j k) ++ streetA xs j t k := ⟨_, rfl⟩
                        have hel : ES.length ≤ 71 := by
                          have h3 : (streetA xs j t k).length ≤ 1 := by unfold streetA; split <;> simp
                          rw [hES, List.length_append, List.length_append]; have h1 := len_streets xs W H j; have h2 := len_streetN xs W H j k hk; omega
                        have hTC := HT5.out
                        rw [← hES] at hTC
                        have HTC := Lib.hid hTC
                        have HEL := Lib.hid hel
                        have HSTR : Hid (((streets xs W H j ++ streetN xs W H j k) ++ streetA xs j t k) ++ streetB xs j t k = ES ++ [((t : Int), (j : Int), 1 + a)]) := Lib.hid (by rw [hA, hES])
                        have HA := Lib.hid ha
                        obtain ⟨i0, hi1, hi2, hi3, hi4⟩ := info_parts infoEdge
                        have HI := Lib.hid (show _ ∧ _ ∧ _ ∧ _ from ⟨hi1, hi2, hi3, hi4⟩)
                        have u5 : IntKind.i64.wrap (90 + (j : Int)) = 90 + (j : Int) := IntWalk.i64_in _ (by omega)
                        have u6 : IntKind.i64.wrap (90 + (j : Int) + k) = 90 + (j : Int) + k := IntWalk.i64_in _ (by omega)
                        have u7 : IntKind.i64.wrap (1 + a) = 1 + a := IntWalk.i64_in _ (by omega)
                        clear hES hel hTC hA ha hi1 hi2 hi3 hi4 HT5
                        go_wp2_with fail
                        have c0 := block_cell HTC.out.hg (j := 1) rfl
                        have c0d := cell_below c0 (bl_drew (Below.refl _ _))
                        have s0 := cell_below HCX.out (bl_drew (Below.refl _ _))
                        refine wp_region_held_drew (S := fun w' => w'.cell? ⟨b8, k, none⟩ = some (.int .i64 (t : Int))) (by kernel_rfl) s0 (fun hHeld => ?_)
                        refine wpAnyH_take (i := 0) (v := ?_) rfl (by kernel_rfl) (by kernel_rfl) (by kernel_rfl) (fun _ _ _ h => h) (Or.inl ⟨by rfl, ?_⟩) (by assumption) ?_
                        rotate_left
                        · intro w hSw; (try dsimp only at hSw); go_simp <;> with_reducible rfl
                        (try simp only [Act.put, List.setIfInBounds_toArray, List.set_cons_zero, List.set_cons_succ, List.getElem_toArray, List.getElem_cons_succ, List.getElem_cons_zero])
                        refine wpAnyH_take (i := 2) (v := ?_) rfl (by kernel_rfl) (by kernel_rfl) (by kernel_rfl) (fun _ _ _ h => h) (Or.inl ⟨by rfl, ?_⟩) (by assumption) ?_
                        rotate_left
                        · intro w hSw; (try dsimp only at hSw); go_simp <;> with_reducible rfl
                        (try simp only [Act.put, List.setIfInBounds_toArray, List.set_cons_zero, List.set_cons_succ, List.getElem_toArray, List.getElem_cons_succ, List.getElem_cons_zero])
                        refine wpAnyH_take (i := 3) (v := ?_) rfl (by kernel_rfl) (by kernel_rfl) (by kernel_rfl) (fun _ _ _ h => h) (Or.inl ⟨by rfl, ?_⟩) (by assumption) ?_
                        rotate_left
                        · intro w hSw; (try dsimp only at hSw); go_simp <;> with_reducible rfl
                        (try simp only [Act.put, List.setIfInBounds_toArray, List.set_cons_zero, List.set_cons_succ, List.getElem_toArray, List.getElem_cons_succ, List.getElem_cons_zero])
                        refine wpAnyH_take (i := 4) (v := ?_) rfl (by kernel_rfl) (by kernel_rfl) (by kernel_rfl) (fun _ _ _ h => h) (Or.inl ⟨by rfl, ?_⟩) (by assumption) ?_
                        rotate_left
                        · intro w hSw; (try dsimp only at hSw); go_simp <;> with_reducible rfl
                        (try simp only [Act.put, List.setIfInBounds_toArray, List.set_cons_zero, List.set_cons_succ, List.getElem_toArray, List.getElem_cons_succ, List.getElem_cons_zero])
                        refine wpAnyH_take (i := 5) (v := ?_) rfl (by kernel_rfl) (by kernel_rfl) (by kernel_rfl) (fun _ _ _ h => h) (Or.inl ⟨by rfl, ?_⟩) (by assumption) ?_
                        rotate_left
                        · intro w hSw; (try dsimp only at hSw); go_simp <;> with_reducible rfl
                        (try simp only [Act.put, List.setIfInBounds_toArray, List.set_cons_zero, List.set_cons_succ, List.getElem_toArray, List.getElem_cons_succ, List.getElem_cons_zero])
                        refine wpAnyH_take (i := 6) (v := ?_) rfl (by kernel_rfl) (by kernel_rfl) (by kernel_rfl) (fun _ _ _ h => h) (Or.inl ⟨by rfl, ?_⟩) (by assumption) ?_
                        rotate_left
                        · intro w hSw; (try dsimp only at hSw); go_simp <;> with_reducible rfl
                        (try simp only [Act.put, List.setIfInBounds_toArray, List.set_cons_zero, List.set_cons_succ, List.getElem_toArray, List.getElem_cons_succ, List.getElem_cons_zero])
                        refine wpAnyH_take (i := 7) (v := ?_) rfl (by kernel_rfl) (by kernel_rfl) (by kernel_rfl) (fun _ _ _ h => h) (Or.inl ⟨by rfl, ?_⟩) (by assumption) ?_
                        rotate_left
                        · intro w hSw; (try dsimp only at hSw); go_simp <;> with_reducible rfl
                        (try simp only [Act.put, List.setIfInBounds_toArray, List.set_cons_zero, List.set_cons_succ, List.getElem_toArray, List.getElem_cons_succ, List.getElem_cons_zero])
                        refine wpAnyH_take (i := 8) (v := ?_) rfl (by kernel_rfl) (by kernel_rfl) (by kernel_rfl) (fun _ _ _ h => h) (Or.inl ⟨by rfl, ?_⟩) (by assumption) ?_
                        rotate_left
                        · intro w hSw; (try dsimp only at hSw); go_simp <;> with_reducible rfl
                        (try simp only [Act.put, List.setIfInBounds_toArray, List.set_cons_zero, List.set_cons_succ, List.getElem_toArray, List.getElem_cons_succ, List.getElem_cons_zero])
                        refine wpAnyH_take (i := 9) (v := ?_) rfl (by kernel_rfl) (by kernel_rfl) (by kernel_rfl) (fun _ _ _ h => h) (Or.inl ⟨by rfl, ?_⟩) (by assumption) ?_
                        rotate_left
                        · intro w hSw; (try dsimp only at hSw); go_simp <;> with_reducible rfl
                        (try simp only [Act.put, List.setIfInBounds_toArray, List.set_cons_zero, List.set_cons_succ, List.getElem_toArray, List.getElem_cons_succ, List.getElem_cons_zero])
                        refine wpAnyH_take (i := 10) (v := ?_) rfl (by kernel_rfl) (by kernel_rfl) (by kernel_rfl) (fun _ _ _ h => h) (Or.inl ⟨by rfl, ?_⟩) (by assumption) ?_
                        rotate_left
                        · intro w hSw; (try dsimp only at hSw); go_simp <;> with_reducible rfl
                        (try simp only [Act.put, List.setIfInBounds_toArray, List.set_cons_zero, List.set_cons_succ, List.getElem_toArray, List.getElem_cons_succ, List.getElem_cons_zero])
                        refine wpAnyH_ready (rs := [1, 11]) (by kernel_rfl) (by simp) ?_
                        refine AllReadyH.cons rfl (fun K hK => ?_) (AllReadyH.cons rfl (fun K hK => ?_) AllReadyH.nil)
                        · go_simp
                          refine hK.out _ _ s0 (fun hHeld => ?_)
                          (try simp only [Act.put, List.setIfInBounds_toArray, List.set_cons_zero, List.set_cons_succ, List.getElem_toArray, List.getElem_cons_succ, List.getElem_cons_zero])
                          refine wpAnyH_ready (rs := [11]) (by kernel_rfl) (by simp) ?_
                          refine AllReadyH.cons rfl (fun K hK => ?_) AllReadyH.nil
                          go_simp
                          refine (at_eq (k := 90+j+k) ((HR.out.below HTC.out.below).below (bl_drew (Below.refl _ _))) (by omega) (by omega) (by omega) (by omega)).mono ?_
                          rw [← HA.out]
                          rintro e w5 ⟨rfl, hb5⟩
                          have HB5 : Hid (Below wc.heap.size wc w5) := Lib.hid ((bl_drew (Below.refl _ _)).trans hb5)
                          have c5 := cell_below c0 HB5.out
                          have s5 := cell_below HCX.out HB5.out
                          clear hb5
                          refine hK.out _ _ s5 (fun hHeld => ?_)
                          (try simp only [Act.put, List.setIfInBounds_toArray, List.set_cons_zero, List.set_cons_succ, List.getElem_toArray, List.getElem_cons_succ, List.getElem_cons_zero])
                          refine wpAnyH_take (i := 12) (v := ?_) rfl (by kernel_rfl) (by kernel_rfl) (by kernel_rfl) (fun _ _ _ h => h) (Or.inl ⟨by rfl, ?_⟩) (by assumption) ?_
                          rotate_left
                          · intro w hSw; (try dsimp only at hSw); go_simp <;> with_reducible rfl
                          (try simp only [Act.put, List.setIfInBounds_toArray, List.set_cons_zero, List.set_cons_succ, List.getElem_toArray, List.getElem_cons_succ, List.getElem_cons_zero])
                          refine wpAnyH_take (i := 13) (v := ?_) rfl (by kernel_rfl) (by kernel_rfl) (by kernel_rfl) (fun _ _ _ h => h) (Or.inl ⟨by rfl, ?_⟩) (by assumption) ?_
                          rotate_left
                          · intro w hSw; (try dsimp only at hSw); go_simp <;> with_reducible rfl
                          (try simp only [Act.put, List.setIfInBounds_toArray, List.set_cons_zero, List.set_cons_succ, List.getElem_toArray, List.getElem_cons_succ, List.getElem_cons_zero])
                          refine wpAnyH_ready (rs := [14]) (by kernel_rfl) (by simp) ?_
                          refine AllReadyH.cons rfl (fun K hK => ?_) AllReadyH.nil
                          go_simp
                          refine hK.out _ _ (cell_below s5 (bl_alloc (Below.refl _ _) _)) (fun hHeld => ?_)
                          (try simp only [Act.put, List.setIfInBounds_toArray, List.set_cons_zero, List.set_cons_succ, List.getElem_toArray, List.getElem_cons_succ, List.getElem_cons_zero])
                          refine wpAnyH_ready (rs := [15]) (by kernel_rfl) (by simp) ?_
                          refine AllReadyH.cons rfl (fun K hK => ?_) AllReadyH.nil
                          refine step_append_lies _ rfl (.tmp 110) (.tmp 123) 48 rfl (w.heap.size + 2) 63 i0 (.agg #[.int .i64 0, .int .i64 0, .int .i64 0]) 3 24 Try.underlying48 HI.out.1 HI.out.2.1 HI.out.2.2.1 HI.out.2.2.2 rfl (by decide) _ _ _ rfl (own_keep (own_keep HTC.out.oE HB5.out) (bl_alloc (Below.refl _ _) _)) ⟨w5.heap.size, 0, none⟩ 1 1 [.int .i64 (t:Int), .int .i64 (j:Int), .int .i64 (1 + a)] rfl rfl (cell_three_list _ _ _ _ _) (by intro u hu; simp only [List.mem_cons, List.not_mem_nil, or_false] at hu; rcases hu with rfl | rfl | rfl <;> rfl) (by omega) (by have := HEL.out; unfold maxLen; omega) (by have := HEL.out; omega) (by rw [size_alloc]; have := HTC.out.size; have := HB5.out.size; omega) _ rfl ?_
                          intro g cap w4 hown hgrow hat hltg
                          have k4 := HTC.out.var4 HB5.out hgrow (fun b e => (World.ownsRow.lt HTC.out.oE b e).1)
                          have cc4 := block_cell k4 (j := 1) rfl
                          have ff4 := block_fr k4 1
                          have hb8lt : b8 < wc.heap.size := by
                            rcases Nat.lt_or_ge b8 wc.heap.size with h1 | h1
                            · exact h1
                            · have := HCH.out; rw [Array.getElem?_eq_none h1] at this; cases this
                          have g8 := (other4 HB5.out hgrow (b := b8) hb8lt (fun e => HSE.out b8 e rfl)).trans HCH.out
                          have s4 : w4.cell? ⟨b8, k, none⟩ = some (.int .i64 (t : Int)) := (World.cell?_of_block (a := ⟨b8, k, none⟩) (other4 HB5.out hgrow (b := b8) hb8lt (fun e => HSE.out b8 e rfl))).trans HCX.out
                          have s6 : (w4.setCell ⟨w.heap.size + 1, 1, none⟩ (.slice (some ⟨g, 0, none⟩) (ES.length + 1) cap)).cell? ⟨b8, k, none⟩ = some (.int .i64 (t : Int)) := (World.cell?_setCell_far w4 ⟨w.heap.size + 1, 1, none⟩ ⟨b8, k, none⟩ _ (by show w.heap.size + 1 ≠ b8; omega)).trans s4
                          have g9 : (w4.setCell ⟨w.heap.size + 1, 1, none⟩ (.slice (some ⟨g, 0, none⟩) (ES.length + 1) cap)).heap[b8]? = some (.cells #[.int .i64 x0, .int .i64 x1] 33) := (heap_setCell_ne (by show w.heap.size + 1 ≠ b8; omega)).trans g8
                          have hse9 : ∀ b, (Value.slice (some ⟨g, 0, none⟩) (ES.length + 1) cap).ownBlock = some b → b ≠ b8 := by
                            intro b e e2
                            simp only [Value.ownBlock, Option.some.injEq] at e
                            subst e2 e
                            rcases hat with h1 | h1
                            · exact HSE.out _ h1 rfl
                            · rw [size_alloc] at h1; have := HB5.out.size; omega
                          have hT5 := HTC.out.moreE HB5.out (x := ((t:Int), (j:Int), 1 + a)) hown hgrow (by rw [size_alloc] at hat; exact hat.imp id (fun e => by omega)) hltg
                          have HT5 := Lib.hid hT5
                          have HG9 := Lib.hid g9
                          have HSE9 := Lib.hid hse9
                          clear hown hgrow hat hltg hT5 g8 g9 hse9 hb8lt
                          refine hK.out _ _ s4 (fun hHeld => ?_)
                          (try simp only [Act.put, List.setIfInBounds_toArray, List.set_cons_zero, List.set_cons_succ, List.getElem_toArray, List.getElem_cons_succ, List.getElem_cons_zero])
                          refine wpAnyH_take (i := 16) (v := ?_) rfl (by kernel_rfl) (by kernel_rfl) (by kernel_rfl) (fun _ _ _ h => h) (Or.inl ⟨by rfl, ?_⟩) (by assumption) ?_
                          rotate_left
                          · intro w hSw; (try dsimp only at hSw); go_simp <;> with_reducible rfl
                          (try simp only [Act.put, List.setIfInBounds_toArray, List.set_cons_zero, List.set_cons_succ, List.getElem_toArray, List.getElem_cons_succ, List.getElem_cons_zero])
                          refine wpAnyH_ready (rs := [17]) (by kernel_rfl) (by simp) ?_
                          refine AllReadyH.cons rfl (fun K hK => ?_) AllReadyH.nil
                          go_simp
                          refine hK.out _ _ s6 (fun hHeld => ?_)
                          (try simp only [Act.put, List.setIfInBounds_toArray, List.set_cons_zero, List.set_cons_succ, List.getElem_toArray, List.getElem_cons_succ, List.getElem_cons_zero])
                          refine wpAnyH_done (by kernel_rfl) ?_ _
                          go_wp2_with fail
                          go_roundg (2 - (k + 1))
                          case measure => have := HM3.out; omega
                          case rel =>
                            refine ⟨k + 1, .slice (some ⟨g, 0, none⟩) (ES.length + 1) cap, rfl, by omega, by go_num, ?_, HG9.out, HSE9.out⟩
                            rw [streetN_succ, HSTK.out, ← List.append_assoc, ← List.append_assoc, HSTR.out]
                            exact HT5.out
                        · skip
                          go_simp
                          refine (at_eq (k := 90+j+k) ((HR.out.below HTC.out.below).below (bl_drew (Below.refl _ _))) (by omega) (by omega) (by omega) (by omega)).mono ?_
                          rw [← HA.out]
                          rintro e w5 ⟨rfl, hb5⟩
                          have HB5 : Hid (Below wc.heap.size wc w5) := Lib.hid ((bl_drew (Below.refl _ _)).trans hb5)
                          have c5 := cell_below c0 HB5.out
                          have s5 := cell_below HCX.out HB5.out
                          clear hb5
                          refine hK.out _ _ s5 (fun hHeld => ?_)
                          (try simp only [Act.put, List.setIfInBounds_toArray, List.set_cons_zero, List.set_cons_succ, List.getElem_toArray, List.getElem_cons_succ, List.getElem_cons_zero])
                          refine wpAnyH_take (i := 12) (v := ?_) rfl (by kernel_rfl) (by kernel_rfl) (by kernel_rfl) (fun _ _ _ h => h) (Or.inl ⟨by rfl, ?_⟩) (by assumption) ?_
                          rotate_left
                          · intro w hSw; (try dsimp only at hSw); go_simp <;> with_reducible rfl
                          (try simp only [Act.put, List.setIfInBounds_toArray, List.set_cons_zero, List.set_cons_succ, List.getElem_toArray, List.getElem_cons_succ, List.getElem_cons_zero])
                          refine wpAnyH_take (i := 13) (v := ?_) rfl (by kernel_rfl) (by kernel_rfl) (by kernel_rfl) (fun _ _ _ h => h) (Or.inl ⟨by rfl, ?_⟩) (by assumption) ?_
                          rotate_left
                          · intro w hSw; (try dsimp only at hSw); go_simp <;> with_reducible rfl
                          (try simp only [Act.put, List.setIfInBounds_toArray, List.set_cons_zero, List.set_cons_succ, List.getElem_toArray, List.getElem_cons_succ, List.getElem_cons_zero])
                          refine wpAnyH_ready (rs := [1, 14]) (by kernel_rfl) (by simp) ?_
                          refine AllReadyH.cons rfl (fun K hK => ?_) (AllReadyH.cons rfl (fun K hK => ?_) AllReadyH.nil)
                          · go_simp
                            refine hK.out _ _ s5 (fun hHeld => ?_)
                            (try simp only [Act.put, List.setIfInBounds_toArray, List.set_cons_zero, List.set_cons_succ, List.getElem_toArray, List.getElem_cons_succ, List.getElem_cons_zero])
                            refine wpAnyH_ready (rs := [14]) (by kernel_rfl) (by simp) ?_
                            refine AllReadyH.cons rfl (fun K hK => ?_) AllReadyH.nil
                            go_simp
                            refine hK.out _ _ (cell_below s5 (bl_alloc (Below.refl _ _) _)) (fun hHeld => ?_)
                            (try simp only [Act.put, List.setIfInBounds_toArray, List.set_cons_zero, List.set_cons_succ, List.getElem_toArray, List.getElem_cons_succ, List.getElem_cons_zero])
                            refine wpAnyH_ready (rs := [15]) (by kernel_rfl) (by simp) ?_
                            refine AllReadyH.cons rfl (fun K hK => ?_) AllReadyH.nil
                            refine step_append_lies _ rfl (.tmp 110) (.tmp 123) 48 rfl (w.heap.size + 2) 63 i0 (.agg #[.int .i64 0, .int .i64 0, .int .i64 0]) 3 24 Try.underlying48 HI.out.1 HI.out.2.1 HI.out.2.2.1 HI.out.2.2.2 rfl (by decide) _ _ _ rfl (own_keep (own_keep HTC.out.oE HB5.out) (bl_alloc (Below.refl _ _) _)) ⟨w5.heap.size, 0, none⟩ 1 1 [.int .i64 (t:Int), .int .i64 (j:Int), .int .i64 (1 + a)] rfl rfl (cell_three_list _ _ _ _ _) (by intro u hu; simp only [List.mem_cons, List.not_mem_nil, or_false] at hu; rcases hu with rfl | rfl | rfl <;> rfl) (by omega) (by have := HEL.out; unfold maxLen; omega) (by have := HEL.out; omega) (by rw [size_alloc]; have := HTC.out.size; have := HB5.out.size; omega) _ rfl ?_
                            intro g cap w4 hown hgrow hat hltg
                            have k4 := HTC.out.var4 HB5.out hgrow (fun b e => (World.ownsRow.lt HTC.out.oE b e).1)
                            have cc4 := block_cell k4 (j := 1) rfl
                            have ff4 := block_fr k4 1
                            have hb8lt : b8 < wc.heap.size := by
                              rcases Nat.lt_or_ge b8 wc.heap.size with h1 | h1
                              · exact h1
                              · have := HCH.out; rw [Array.getElem?_eq_none h1] at this; cases this
                            have g8 := (other4 HB5.out hgrow (b := b8) hb8lt (fun e => HSE.out b8 e rfl)).trans HCH.out
                            have s4 : w4.cell? ⟨b8, k, none⟩ = some (.int .i64 (t : Int)) := (World.cell?_of_block (a := ⟨b8, k, none⟩) (other4 HB5.out hgrow (b := b8) hb8lt (fun e => HSE.out b8 e rfl))).trans HCX.out
                            have s6 : (w4.setCell ⟨w.heap.size + 1, 1, none⟩ (.slice (some ⟨g, 0, none⟩) (ES.length + 1) cap)).cell? ⟨b8, k, none⟩ = some (.int .i64 (t : Int)) := (World.cell?_setCell_far w4 ⟨w.heap.size + 1, 1, none⟩ ⟨b8, k, none⟩ _ (by show w.heap.size + 1 ≠ b8; omega)).trans s4
                            have g9 : (w4.setCell ⟨w.heap.size + 1, 1, none⟩ (.slice (some ⟨g, 0, none⟩) (ES.length + 1) cap)).heap[b8]? = some (.cells #[.int .i64 x0, .int .i64 x1] 33) := (heap_setCell_ne (by show w.heap.size + 1 ≠ b8; omega)).trans g8
                            have hse9 : ∀ b, (Value.slice (some ⟨g, 0, none⟩) (ES.length + 1) cap).ownBlock = some b → b ≠ b8 := by
                              intro b e e2
                              simp only [Value.ownBlock, Option.some.injEq] at e
                              subst e2 e
                              rcases hat with h1 | h1
                              · exact HSE.out _ h1 rfl
                              · rw [size_alloc] at h1; have := HB5.out.size; omega
                            have hT5 := HTC.out.moreE HB5.out (x := ((t:Int), (j:Int), 1 + a)) hown hgrow (by rw [size_alloc] at hat; exact hat.imp id (fun e => by omega)) hltg
                            have HT5 := Lib.hid hT5
                            have HG9 := Lib.hid g9
                            have HSE9 := Lib.hid hse9
                            clear hown hgrow hat hltg hT5 g8 g9 hse9 hb8lt
                            refine hK.out _ _ s4 (fun hHeld => ?_)
                            (try simp only [Act.put, List.setIfInBounds_toArray, List.set_cons_zero, List.set_cons_succ, List.getElem_toArray, List.getElem_cons_succ, List.getElem_cons_zero])
                            refine wpAnyH_take (i := 16) (v := ?_) rfl (by kernel_rfl) (by kernel_rfl) (by kernel_rfl) (fun _ _ _ h => h) (Or.inl ⟨by rfl, ?_⟩) (by assumption) ?_
                            rotate_left
                            · intro w hSw; (try dsimp only at hSw); go_simp <;> with_reducible rfl
                            (try simp only [Act.put, List.setIfInBounds_toArray, List.set_cons_zero, List.set_cons_succ, List.getElem_toArray, List.getElem_cons_succ, List.getElem_cons_zero])
                            refine wpAnyH_ready (rs := [17]) (by kernel_rfl) (by simp) ?_
                            refine AllReadyH.cons rfl (fun K hK => ?_) AllReadyH.nil
                            go_simp
                            refine hK.out _ _ s6 (fun hHeld => ?_)
                            (try simp only [Act.put, List.setIfInBounds_toArray, List.set_cons_zero, List.set_cons_succ, List.getElem_toArray, List.getElem_cons_succ, List.getElem_cons_zero])
                            refine wpAnyH_done (by kernel_rfl) ?_ _
                            go_wp2_with fail
                            go_roundg (2 - (k + 1))
                            case measure => have := HM3.out; omega
                            case rel =>
                              refine ⟨k + 1, .slice (some ⟨g, 0, none⟩) (ES.length + 1) cap, rfl, by omega, by go_num, ?_, HG9.out, HSE9.out⟩
                              rw [streetN_succ, HSTK.out, ← List.append_assoc, ← List.append_assoc, HSTR.out]
                              exact HT5.out
                          · go_simp
                            have c5a := cell_below c5 (bl_alloc (Below.refl _ _) (.cells #[.int .i64 (t:Int), .int .i64 (j:Int), .int .i64 (1 + a)] 63))
                            refine hK.out _ _ (cell_below s5 (bl_alloc (Below.refl _ _) _)) (fun hHeld => ?_)
                            (try simp only [Act.put, List.setIfInBounds_toArray, List.set_cons_zero, List.set_cons_succ, List.getElem_toArray, List.getElem_cons_succ, List.getElem_cons_zero])
                            refine wpAnyH_ready (rs := [1]) (by kernel_rfl) (by simp) ?_
                            refine AllReadyH.cons rfl (fun K hK => ?_) AllReadyH.nil
                            go_simp
                            refine hK.out _ _ (cell_below s5 (bl_alloc (Below.refl _ _) _)) (fun hHeld => ?_)
                            (try simp only [Act.put, List.setIfInBounds_toArray, List.set_cons_zero, List.set_cons_succ, List.getElem_toArray, List.getElem_cons_succ, List.getElem_cons_zero])
                            refine wpAnyH_ready (rs := [15]) (by kernel_rfl) (by simp) ?_
                            refine AllReadyH.cons rfl (fun K hK => ?_) AllReadyH.nil
                            refine step_append_lies _ rfl (.tmp 110) (.tmp 123) 48 rfl (w.heap.size + 2) 63 i0 (.agg #[.int .i64 0, .int .i64 0, .int .i64 0]) 3 24 Try.underlying48 HI.out.1 HI.out.2.1 HI.out.2.2.1 HI.out.2.2.2 rfl (by decide) _ _ _ rfl (own_keep (own_keep HTC.out.oE HB5.out) (bl_alloc (Below.refl _ _) _)) ⟨w5.heap.size, 0, none⟩ 1 1 [.int .i64 (t:Int), .int .i64 (j:Int), .int .i64 (1 + a)] rfl rfl (cell_three_list _ _ _ _ _) (by intro u hu; simp only [List.mem_cons, List.not_mem_nil, or_false] at hu; rcases hu with rfl | rfl | rfl <;> rfl) (by omega) (by have := HEL.out; unfold maxLen; omega) (by have := HEL.out; omega) (by rw [size_alloc]; have := HTC.out.size; have := HB5.out.size; omega) _ rfl ?_
                            intro g cap w4 hown hgrow hat hltg
                            have k4 := HTC.out.var4 HB5.out hgrow (fun b e => (World.ownsRow.lt HTC.out.oE b e).1)
                            have cc4 := block_cell k4 (j := 1) rfl
                            have ff4 := block_fr k4 1
                            have hb8lt : b8 < wc.heap.size := by
                              rcases Nat.lt_or_ge b8 wc.heap.size with h1 | h1
                              · exact h1
                              · have := HCH.out; rw [Array.getElem?_eq_none h1] at this; cases this
                            have g8 := (other4 HB5.out hgrow (b := b8) hb8lt (fun e => HSE.out b8 e rfl)).trans HCH.out
                            have s4 : w4.cell? ⟨b8, k, none⟩ = some (.int .i64 (t : Int)) := (World.cell?_of_block (a := ⟨b8, k, none⟩) (other4 HB5.out hgrow (b := b8) hb8lt (fun e => HSE.out b8 e rfl))).trans HCX.out
                            have s6 : (w4.setCell ⟨w.heap.size + 1, 1, none⟩ (.slice (some ⟨g, 0, none⟩) (ES.length + 1) cap)).cell? ⟨b8, k, none⟩ = some (.int .i64 (t : Int)) := (World.cell?_setCell_far w4 ⟨w.heap.size + 1, 1, none⟩ ⟨b8, k, none⟩ _ (by show w.heap.size + 1 ≠ b8; omega)).trans s4
                            have g9 : (w4.setCell ⟨w.heap.size + 1, 1, none⟩ (.slice (some ⟨g, 0, none⟩) (ES.length + 1) cap)).heap[b8]? = some (.cells #[.int .i64 x0, .int .i64 x1] 33) := (heap_setCell_ne (by show w.heap.size + 1 ≠ b8; omega)).trans g8
                            have hse9 : ∀ b, (Value.slice (some ⟨g, 0, none⟩) (ES.length + 1) cap).ownBlock = some b → b ≠ b8 := by
                              intro b e e2
                              simp only [Value.ownBlock, Option.some.injEq] at e
                              subst e2 e
                              rcases hat with h1 | h1
                              · exact HSE.out _ h1 rfl
                              · rw [size_alloc] at h1; have := HB5.out.size; omega
                            have hT5 := HTC.out.moreE HB5.out (x := ((t:Int), (j:Int), 1 + a)) hown hgrow (by rw [size_alloc] at hat; exact hat.imp id (fun e => by omega)) hltg
                            have HT5 := Lib.hid hT5
                            have HG9 := Lib.hid g9
                            have HSE9 := Lib.hid hse9
                            clear hown hgrow hat hltg hT5 g8 g9 hse9 hb8lt
                            refine hK.out _ _ s4 (fun hHeld => ?_)
                            (try simp only [Act.put, List.setIfInBounds_toArray, List.set_cons_zero, List.set_cons_succ, List.getElem_toArray, List.getElem_cons_succ, List.getElem_cons_zero])
                            refine wpAnyH_take (i := 16) (v := ?_) rfl (by kernel_rfl) (by kernel_rfl) (by kernel_rfl) (fun _ _ _ h => h) (Or.inl ⟨by rfl, ?_⟩) (by assumption) ?_
                            rotate_left
                            · intro w hSw; (try dsimp only at hSw); go_simp <;> with_reducible rfl
                            (try simp only [Act.put, List.setIfInBounds_toArray, List.set_cons_zero, List.set_cons_succ, List.getElem_toArray, List.getElem_cons_succ, List.getElem_cons_zero])
                            refine wpAnyH_ready (rs := [17]) (by kernel_rfl) (by simp) ?_
                            refine AllReadyH.cons rfl (fun K hK => ?_) AllReadyH.nil
                            go_simp
                            refine hK.out _ _ s6 (fun hHeld => ?_)
                            (try simp only [Act.put, List.setIfInBounds_toArray, List.set_cons_zero, List.set_cons_succ, List.getElem_toArray, List.getElem_cons_succ, List.getElem_cons_zero])
                            refine wpAnyH_done (by kernel_rfl) ?_ _
                            go_wp2_with fail
                            go_roundg (2 - (k + 1))
                            case measure => have := HM3.out; omega
                            case rel =>
                              refine ⟨k + 1, .slice (some ⟨g, 0, none⟩) (ES.length + 1) cap, rfl, by omega, by go_num, ?_, HG9.out, HSE9.out⟩
                              rw [streetN_succ, HSTK.out, ← List.append_assoc, ← List.append_assoc, HSTR.out]
                              exact HT5.out
                · have hk2 : k = 2 := by omega
                  subst hk2
                  go_wp2_with fail
                  go_roundg (i - (j + 1))
                  case measure => have := HM.out; omega
                  case rel =>
                    refine ⟨j + 1, sE, rfl, by omega, by go_num, ?_⟩
                    rw [streets_succ, ← streetN_two]
                    exact HT3.out
        · have hji : j = i := by omega
          subst hji
          clear hlt hj HM HTN
          obtain ⟨X, hX⟩ : ∃ X : Nat, X = (atV xs 3 4).toNat := ⟨_, rfl⟩
          have hX3 : atV xs 3 4 = (X : Int) := by have := atV_nonneg (xs := xs) (k := 3) (m := 4) (by omega); omega
          have hX4 : X < 4 := by have := atV_lt (xs := xs) (k := 3) (m := 4) (by omega); omega
          have HX := Lib.hid hX
          have HX3 := Lib.hid hX3
          have HTS := HT
          clear hX hX3 HT
          go_wp2_with fail
          go_loopg [11] X (fun m v wq => ∃ (q : Nat) (sE : Value), m = X - q ∧ q ≤ X ∧ v = .int .i64 (q : Nat) ∧ TownW w wq sN sE (.slice none 0 0) NS (streets xs W H j ++ extras xs j q) [])
          case atStart => exact ⟨0, sE, rfl, Nat.zero_le _, rfl, by rw [show extras xs j 0 = [] from rfl, List.append_nil]; exact HTS.out⟩
          case round =>
            obtain ⟨q, sE, hm, hq, rfl, hT⟩ := hrel
            have HM := Lib.hid hm
            have HT := Lib.hid hT
            clear hm hT HTS
            go_wp2_with fail
            refine (at_eq (k := 3) (HR.out.below HT.out.below) rfl (by omega) (by omega) (by omega)).mono ?_
            rw [HX3.out]
            rintro e wc ⟨rfl, hb3⟩
            have hTC := HT.out.still hb3
            clear hb3 HT
            by_cases hlt : q < X
            · obtain ⟨a1, ha1⟩ : ∃ a, a = atV xs (4 + q) j := ⟨_, rfl⟩
              obtain ⟨a2, ha2⟩ : ∃ a, a = atV xs (8 + q) j := ⟨_, rfl⟩
              obtain ⟨a3, ha3⟩ : ∃ a, a = atV xs (12 + q) 40 := ⟨_, rfl⟩
              obtain ⟨p1, p2⟩ : 0 ≤ a3 ∧ a3 < 40 := by rw [ha3]; exact ⟨atV_nonneg (by omega), atV_lt (by omega)⟩
              have hst : streets xs W H j ++ extras xs j (q + 1) = (streets xs W H j ++ extras xs j q) ++ [(a1, a2, 1 + a3)] := by rw [extras_succ, ← List.append_assoc, ha1, ha2, ha3]; rfl
              obtain ⟨ES, hES⟩ : ∃ ES, ES = streets xs W H j ++ extras xs j q := ⟨_, rfl⟩
              have hel : ES.length ≤ 70 := by rw [hES, List.length_append, len_extras]; have h1 := len_streets xs W H j; omega
              rw [← hES] at hTC hst
              have HTC := Lib.hid hTC
              have HEL := Lib.hid hel
              have HSTR := Lib.hid hst
              have HA1 := Lib.hid ha1
              have HA2 := Lib.hid ha2
              have HA3 := Lib.hid ha3
              obtain ⟨i0, hi1, hi2, hi3, hi4⟩ := info_parts infoEdge
              have HI := Lib.hid (show _ ∧ _ ∧ _ ∧ _ from ⟨hi1, hi2, hi3, hi4⟩)
              have u4 : IntKind.i64.wrap (4 + (q : Int)) = 4 + (q : Int) := IntWalk.i64_in _ (by omega)
              have u5 : IntKind.i64.wrap (8 + (q : Int)) = 8 + (q : Int) := IntWalk.i64_in _ (by omega)
              have u6 : IntKind.i64.wrap (12 + (q : Int)) = 12 + (q : Int) := IntWalk.i64_in _ (by omega)
              have u7 : IntKind.i64.wrap (1 + a3) = 1 + a3 := IntWalk.i64_in _ (by omega)
              have HBD : Hid (Below wc.heap.size wc wc.drew) := Lib.hid (bl_drew (Below.refl _ _))
              have c0 := block_cell HTC.out.hg (j := 1) rfl
              have c0d := cell_below c0 HBD.out
              clear hES hel hTC ha1 ha2 ha3 hi1 hi2 hi3 hi4 hst
              go_wp2_with fail
              refine wp_region_held_drew (S := fun _ => True) (by kernel_rfl) trivial (fun hHeld => ?_)
              refine wpAnyH_take (i := 0) (v := ?_) rfl (by kernel_rfl) (by kernel_rfl) (by kernel_rfl) (fun _ _ _ h => h) (Or.inl ⟨by rfl, ?_⟩) (by exact trivial) ?_
              rotate_left
              · intro w hSw; go_simp <;> with_reducible rfl
              simp only [Act.put, List.setIfInBounds_toArray, List.set_cons_zero, List.set_cons_succ, List.getElem_toArray, List.getElem_cons_succ, List.getElem_cons_zero]
              refine wpAnyH_take (i := 2) (v := ?_) rfl (by kernel_rfl) (by kernel_rfl) (by kernel_rfl) (fun _ _ _ h => h) (Or.inl ⟨by rfl, ?_⟩) (by exact trivial) ?_
              rotate_left
              · intro w hSw; go_simp <;> with_reducible rfl
              simp only [Act.put, List.setIfInBounds_toArray, List.set_cons_zero, List.set_cons_succ, List.getElem_toArray, List.getElem_cons_succ, List.getElem_cons_zero]
              refine wpAnyH_take (i := 3) (v := ?_) rfl (by kernel_rfl) (by kernel_rfl) (by kernel_rfl) (fun _ _ _ h => h) (Or.inl ⟨by rfl, ?_⟩) (by exact trivial) ?_
              rotate_left
              · intro w hSw; go_simp <;> with_reducible rfl
              simp only [Act.put, List.setIfInBounds_toArray, List.set_cons_zero, List.set_cons_succ, List.getElem_toArray, List.getElem_cons_succ, List.getElem_cons_zero]
              refine wpAnyH_take (i := 4) (v := ?_) rfl (by kernel_rfl) (by kernel_rfl) (by kernel_rfl) (fun _ _ _ h => h) (Or.inl ⟨by rfl, ?_⟩) (by exact trivial) ?_
              rotate_left
              · intro w hSw; go_simp <;> with_reducible rfl
              simp only [Act.put, List.setIfInBounds_toArray, List.set_cons_zero, List.set_cons_succ, List.getElem_toArray, List.getElem_cons_succ, List.getElem_cons_zero]
              refine wpAnyH_take (i := 5) (v := ?_) rfl (by kernel_rfl) (by kernel_rfl) (by kernel_rfl) (fun _ _ _ h => h) (Or.inl ⟨by rfl, ?_⟩) (by exact trivial) ?_
              rotate_left
              · intro w hSw; go_simp <;> with_reducible rfl
              simp only [Act.put, List.setIfInBounds_toArray, List.set_cons_zero, List.set_cons_succ, List.getElem_toArray, List.getElem_cons_succ, List.getElem_cons_zero]
              refine wpAnyH_take (i := 6) (v := ?_) rfl (by kernel_rfl) (by kernel_rfl) (by kernel_rfl) (fun _ _ _ h => h) (Or.inl ⟨by rfl, ?_⟩) (by exact trivial) ?_
              rotate_left
              · intro w hSw; go_simp <;> with_reducible rfl
              simp only [Act.put, List.setIfInBounds_toArray, List.set_cons_zero, List.set_cons_succ, List.getElem_toArray, List.getElem_cons_succ, List.getElem_cons_zero]
              refine wpAnyH_take (i := 7) (v := ?_) rfl (by kernel_rfl) (by kernel_rfl) (by kernel_rfl) (fun _ _ _ h => h) (Or.inl ⟨by rfl, ?_⟩) (by exact trivial) ?_
              rotate_left
              · intro w hSw; go_simp <;> with_reducible rfl
              simp only [Act.put, List.setIfInBounds_toArray, List.set_cons_zero, List.set_cons_succ, List.getElem_toArray, List.getElem_cons_succ, List.getElem_cons_zero]
              refine wpAnyH_take (i := 9) (v := ?_) rfl (by kernel_rfl) (by kernel_rfl) (by kernel_rfl) (fun _ _ _ h => h) (Or.inl ⟨by rfl, ?_⟩) (by exact trivial) ?_
              rotate_left
              · intro w hSw; go_simp <;> with_reducible rfl
              simp only [Act.put, List.setIfInBounds_toArray, List.set_cons_zero, List.set_cons_succ, List.getElem_toArray, List.getElem_cons_succ, List.getElem_cons_zero]
              refine wpAnyH_take (i := 10) (v := ?_) rfl (by kernel_rfl) (by kernel_rfl) (by kernel_rfl) (fun _ _ _ h => h) (Or.inl ⟨by rfl, ?_⟩) (by exact trivial) ?_
              rotate_left
              · intro w hSw; go_simp <;> with_reducible rfl
              simp only [Act.put, List.setIfInBounds_toArray, List.set_cons_zero, List.set_cons_succ, List.getElem_toArray, List.getElem_cons_succ, List.getElem_cons_zero]
              refine wpAnyH_take (i := 11) (v := ?_) rfl (by kernel_rfl) (by kernel_rfl) (by kernel_rfl) (fun _ _ _ h => h) (Or.inl ⟨by rfl, ?_⟩) (by exact trivial) ?_
              rotate_left
              · intro w hSw; go_simp <;> with_reducible rfl
              simp only [Act.put, List.setIfInBounds_toArray, List.set_cons_zero, List.set_cons_succ, List.getElem_toArray, List.getElem_cons_succ, List.getElem_cons_zero]
              refine wpAnyH_take (i := 12) (v := ?_) rfl (by kernel_rfl) (by kernel_rfl) (by kernel_rfl) (fun _ _ _ h => h) (Or.inl ⟨by rfl, ?_⟩) (by exact trivial) ?_
              rotate_left
              · intro w hSw; go_simp <;> with_reducible rfl
              simp only [Act.put, List.setIfInBounds_toArray, List.set_cons_zero, List.set_cons_succ, List.getElem_toArray, List.getElem_cons_succ, List.getElem_cons_zero]
              refine wpAnyH_take (i := 13) (v := ?_) rfl (by kernel_rfl) (by kernel_rfl) (by kernel_rfl) (fun _ _ _ h => h) (Or.inl ⟨by rfl, ?_⟩) (by exact trivial) ?_
              rotate_left
              · intro w hSw; go_simp <;> with_reducible rfl
              simp only [Act.put, List.setIfInBounds_toArray, List.set_cons_zero, List.set_cons_succ, List.getElem_toArray, List.getElem_cons_succ, List.getElem_cons_zero]
              refine wpAnyH_take (i := 14) (v := ?_) rfl (by kernel_rfl) (by kernel_rfl) (by kernel_rfl) (fun _ _ _ h => h) (Or.inl ⟨by rfl, ?_⟩) (by exact trivial) ?_
              rotate_left
              · intro w hSw; go_simp <;> with_reducible rfl
              simp only [Act.put, List.setIfInBounds_toArray, List.set_cons_zero, List.set_cons_succ, List.getElem_toArray, List.getElem_cons_succ, List.getElem_cons_zero]
              refine wpAnyH_take (i := 16) (v := ?_) rfl (by kernel_rfl) (by kernel_rfl) (by kernel_rfl) (fun _ _ _ h => h) (Or.inl ⟨by rfl, ?_⟩) (by exact trivial) ?_
              rotate_left
              · intro w hSw; go_simp <;> with_reducible rfl
              simp only [Act.put, List.setIfInBounds_toArray, List.set_cons_zero, List.set_cons_succ, List.getElem_toArray, List.getElem_cons_succ, List.getElem_cons_zero]
              refine wpAnyH_take (i := 17) (v := ?_) rfl (by kernel_rfl) (by kernel_rfl) (by kernel_rfl) (fun _ _ _ h => h) (Or.inl ⟨by rfl, ?_⟩) (by exact trivial) ?_
              rotate_left
              · intro w hSw; go_simp <;> with_reducible rfl
              simp only [Act.put, List.setIfInBounds_toArray, List.set_cons_zero, List.set_cons_succ, List.getElem_toArray, List.getElem_cons_succ, List.getElem_cons_zero]
              refine wpAnyH_take (i := 18) (v := ?_) rfl (by kernel_rfl) (by kernel_rfl) (by kernel_rfl) (fun _ _ _ h => h) (Or.inl ⟨by rfl, ?_⟩) (by exact trivial) ?_
              rotate_left
              · intro w hSw; go_simp <;> with_reducible rfl
              simp only [Act.put, List.setIfInBounds_toArray, List.set_cons_zero, List.set_cons_succ, List.getElem_toArray, List.getElem_cons_succ, List.getElem_cons_zero]
              refine wpAnyH_ready (rs := [1, 8]) (by kernel_rfl) (by simp) ?_
              refine AllReadyH.cons rfl (fun K hK => ?_) (AllReadyH.cons rfl (fun K hK => ?_) AllReadyH.nil)
              · skip
                go_simp
                refine hK.out _ _ trivial (fun _ => ?_)
                (try simp only [Act.put, List.setIfInBounds_toArray, List.set_cons_zero, List.set_cons_succ, List.getElem_toArray, List.getElem_cons_succ, List.getElem_cons_zero])
                refine wpAnyH_ready (rs := [8]) (by kernel_rfl) (by simp) ?_
                refine AllReadyH.cons rfl (fun K hK => ?_) AllReadyH.nil
                go_simp
                refine (at_eq (k := 4+q) (HR.out.below (HTC.out.below.trans (HBD.out.mono HTC.out.below.size))) (by omega) (by omega) (by omega) (by omega)).mono ?_
                rw [← HA1.out]
                rintro e w5 ⟨rfl, hbn⟩
                have HB5 : Hid (Below wc.heap.size wc w5) := Lib.hid (HBD.out.trans (hbn.mono HBD.out.size))
                have c5 := cell_below c0 HB5.out
                clear hbn
                refine hK.out _ _ trivial (fun _ => ?_)
                (try simp only [Act.put, List.setIfInBounds_toArray, List.set_cons_zero, List.set_cons_succ, List.getElem_toArray, List.getElem_cons_succ, List.getElem_cons_zero])
                refine wpAnyH_ready (rs := [15]) (by kernel_rfl) (by simp) ?_
                refine AllReadyH.cons rfl (fun K hK => ?_) AllReadyH.nil
                go_simp
                refine (at_eq (k := 8+q) (HR.out.below (HTC.out.below.trans (HB5.out.mono HTC.out.below.size))) (by omega) (by omega) (by omega) (by omega)).mono ?_
                rw [← HA2.out]
                rintro e w6 ⟨rfl, hbn⟩
                have HB6 : Hid (Below wc.heap.size wc w6) := Lib.hid (HB5.out.trans (hbn.mono HB5.out.size))
                have c6 := cell_below c0 HB6.out
                clear hbn
                refine hK.out _ _ trivial (fun _ => ?_)
                (try simp only [Act.put, List.setIfInBounds_toArray, List.set_cons_zero, List.set_cons_succ, List.getElem_toArray, List.getElem_cons_succ, List.getElem_cons_zero])
                refine wpAnyH_ready (rs := [19]) (by kernel_rfl) (by simp) ?_
                refine AllReadyH.cons rfl (fun K hK => ?_) AllReadyH.nil
                go_simp
                refine (at_eq (k := 12+q) (HR.out.below (HTC.out.below.trans (HB6.out.mono HTC.out.below.size))) (by omega) (by omega) (by omega) (by omega)).mono ?_
                rw [← HA3.out]
                rintro e w7 ⟨rfl, hbn⟩
                have HB7 : Hid (Below wc.heap.size wc w7) := Lib.hid (HB6.out.trans (hbn.mono HB6.out.size))
                have c7 := cell_below c0 HB7.out
                clear hbn
                refine hK.out _ _ trivial (fun _ => ?_)
                (try simp only [Act.put, List.setIfInBounds_toArray, List.set_cons_zero, List.set_cons_succ, List.getElem_toArray, List.getElem_cons_succ, List.getElem_cons_zero])
                refine wpAnyH_take (i := 20) (v := ?_) rfl (by kernel_rfl) (by kernel_rfl) (by kernel_rfl) (fun _ _ _ h => h) (Or.inl ⟨by rfl, ?_⟩) (by exact trivial) ?_
                rotate_left
                · intro w hSw; go_simp <;> with_reducible rfl
                simp only [Act.put, List.setIfInBounds_toArray, List.set_cons_zero, List.set_cons_succ, List.getElem_toArray, List.getElem_cons_succ, List.getElem_cons_zero]
                refine wpAnyH_take (i := 21) (v := ?_) rfl (by kernel_rfl) (by kernel_rfl) (by kernel_rfl) (fun _ _ _ h => h) (Or.inl ⟨by rfl, ?_⟩) (by exact trivial) ?_
                rotate_left
                · intro w hSw; go_simp <;> with_reducible rfl
                simp only [Act.put, List.setIfInBounds_toArray, List.set_cons_zero, List.set_cons_succ, List.getElem_toArray, List.getElem_cons_succ, List.getElem_cons_zero]
                refine wpAnyH_ready (rs := [22]) (by kernel_rfl) (by simp) ?_
                refine AllReadyH.cons rfl (fun K hK => ?_) AllReadyH.nil
                go_simp
                refine hK.out _ _ trivial (fun _ => ?_)
                (try simp only [Act.put, List.setIfInBounds_toArray, List.set_cons_zero, List.set_cons_succ, List.getElem_toArray, List.getElem_cons_succ, List.getElem_cons_zero])
                refine wpAnyH_ready (rs := [23]) (by kernel_rfl) (by simp) ?_
                refine AllReadyH.cons rfl (fun K hK => ?_) AllReadyH.nil
                refine step_append_lies _ rfl (.tmp 133) (.tmp 154) 48 rfl (w.heap.size + 2) 63 i0 (.agg #[.int .i64 0, .int .i64 0, .int .i64 0]) 3 24 Try.underlying48 HI.out.1 HI.out.2.1 HI.out.2.2.1 HI.out.2.2.2 rfl (by decide) _ _ _ rfl (own_keep (own_keep HTC.out.oE HB7.out) (bl_alloc (Below.refl _ _) _)) ⟨w7.heap.size, 0, none⟩ 1 1 [.int .i64 a1, .int .i64 a2, .int .i64 (1 + a3)] rfl rfl (cell_three_list _ _ _ _ _) (by intro u hu; simp only [List.mem_cons, List.not_mem_nil, or_false] at hu; rcases hu with rfl | rfl | rfl <;> rfl) (by omega) (by have := HEL.out; unfold maxLen; omega) (by have := HEL.out; omega) (by rw [size_alloc]; have := HTC.out.size; have := HB7.out.size; omega) _ rfl ?_
                intro g cap w4 hown hgrow hat hltg
                have k4 := HTC.out.var4 HB7.out hgrow (fun b e => (World.ownsRow.lt HTC.out.oE b e).1)
                have cc4 := block_cell k4 (j := 1) rfl
                have ff4 := block_fr k4 1
                have hT5 := HTC.out.moreE HB7.out (x := (a1, a2, 1 + a3)) hown hgrow (by rw [size_alloc] at hat; exact hat.imp id (fun e => by omega)) hltg
                have HT5 := Lib.hid hT5
                clear hown hgrow hat hltg hT5
                refine hK.out _ _ trivial (fun _ => ?_)
                (try simp only [Act.put, List.setIfInBounds_toArray, List.set_cons_zero, List.set_cons_succ, List.getElem_toArray, List.getElem_cons_succ, List.getElem_cons_zero])
                refine wpAnyH_take (i := 24) (v := ?_) rfl (by kernel_rfl) (by kernel_rfl) (by kernel_rfl) (fun _ _ _ h => h) (Or.inl ⟨by rfl, ?_⟩) (by exact trivial) ?_
                rotate_left
                · intro w hSw; go_simp <;> with_reducible rfl
                simp only [Act.put, List.setIfInBounds_toArray, List.set_cons_zero, List.set_cons_succ, List.getElem_toArray, List.getElem_cons_succ, List.getElem_cons_zero]
                refine wpAnyH_ready (rs := [25]) (by kernel_rfl) (by simp) ?_
                refine AllReadyH.cons rfl (fun K hK => ?_) AllReadyH.nil
                go_simp
                refine hK.out _ _ trivial (fun _ => ?_)
                (try simp only [Act.put, List.setIfInBounds_toArray, List.set_cons_zero, List.set_cons_succ, List.getElem_toArray, List.getElem_cons_succ, List.getElem_cons_zero])
                refine wpAnyH_done (by kernel_rfl) ?_ _
                go_wp2_with fail
                go_roundg (X - (q + 1))
                case measure => have := HM.out; omega
                case rel =>
                  refine ⟨q + 1, .slice (some ⟨g, 0, none⟩) (ES.length + 1) cap, rfl, by omega, by go_num, ?_⟩
                  rw [HSTR.out]
                  exact HT5.out
              · skip
                go_simp
                refine (at_eq (k := 4+q) (HR.out.below (HTC.out.below.trans (HBD.out.mono HTC.out.below.size))) (by omega) (by omega) (by omega) (by omega)).mono ?_
                rw [← HA1.out]
                rintro e w5 ⟨rfl, hbn⟩
                have HB5 : Hid (Below wc.heap.size wc w5) := Lib.hid (HBD.out.trans (hbn.mono HBD.out.size))
                have c5 := cell_below c0 HB5.out
                clear hbn
                refine hK.out _ _ trivial (fun _ => ?_)
                (try simp only [Act.put, List.setIfInBounds_toArray, List.set_cons_zero, List.set_cons_succ, List.getElem_toArray, List.getElem_cons_succ, List.getElem_cons_zero])
                refine wpAnyH_ready (rs := [1, 15]) (by kernel_rfl) (by simp) ?_
                refine AllReadyH.cons rfl (fun K hK => ?_) (AllReadyH.cons rfl (fun K hK => ?_) AllReadyH.nil)
                · skip
                  go_simp
                  refine hK.out _ _ trivial (fun _ => ?_)
                  (try simp only [Act.put, List.setIfInBounds_toArray, List.set_cons_zero, List.set_cons_succ, List.getElem_toArray, List.getElem_cons_succ, List.getElem_cons_zero])
                  refine wpAnyH_ready (rs := [15]) (by kernel_rfl) (by simp) ?_
                  refine AllReadyH.cons rfl (fun K hK => ?_) AllReadyH.nil
                  go_simp
                  refine (at_eq (k := 8+q) (HR.out.below (HTC.out.below.trans (HB5.out.mono HTC.out.below.size))) (by omega) (by omega) (by omega) (by omega)).mono ?_
                  rw [← HA2.out]
                  rintro e w6 ⟨rfl, hbn⟩
                  have HB6 : Hid (Below wc.heap.size wc w6) := Lib.hid (HB5.out.trans (hbn.mono HB5.out.size))
                  have c6 := cell_below c0 HB6.out
                  clear hbn
                  refine hK.out _ _ trivial (fun _ => ?_)
                  (try simp only [Act.put, List.setIfInBounds_toArray, List.set_cons_zero, List.set_cons_succ, List.getElem_toArray, List.getElem_cons_succ, List.getElem_cons_zero])
                  refine wpAnyH_ready (rs := [19]) (by kernel_rfl) (by simp) ?_
                  refine AllReadyH.cons rfl (fun K hK => ?_) AllReadyH.nil
                  go_simp
                  refine (at_eq (k := 12+q) (HR.out.below (HTC.out.below.trans (HB6.out.mono HTC.out.below.size))) (by omega) (by omega) (by omega) (by omega)).mono ?_
                  rw [← HA3.out]
                  rintro e w7 ⟨rfl, hbn⟩
                  have HB7 : Hid (Below wc.heap.size wc w7) := Lib.hid (HB6.out.trans (hbn.mono HB6.out.size))
                  have c7 := cell_below c0 HB7.out
                  clear hbn
                  refine hK.out _ _ trivial (fun _ => ?_)
                  (try simp only [Act.put, List.setIfInBounds_toArray, List.set_cons_zero, List.set_cons_succ, List.getElem_toArray, List.getElem_cons_succ, List.getElem_cons_zero])
                  refine wpAnyH_take (i := 20) (v := ?_) rfl (by kernel_rfl) (by kernel_rfl) (by kernel_rfl) (fun _ _ _ h => h) (Or.inl ⟨by rfl, ?_⟩) (by exact trivial) ?_
                  rotate_left
                  · intro w hSw; go_simp <;> with_reducible rfl
                  simp only [Act.put, List.setIfInBounds_toArray, List.set_cons_zero, List.set_cons_succ, List.getElem_toArray, List.getElem_cons_succ, List.getElem_cons_zero]
                  refine wpAnyH_take (i := 21) (v := ?_) rfl (by kernel_rfl) (by kernel_rfl) (by kernel_rfl) (fun _ _ _ h => h) (Or.inl ⟨by rfl, ?_⟩) (by exact trivial) ?_
                  rotate_left
                  · intro w hSw; go_simp <;> with_reducible rfl
                  simp only [Act.put, List.setIfInBounds_toArray, List.set_cons_zero, List.set_cons_succ, List.getElem_toArray, List.getElem_cons_succ, List.getElem_cons_zero]
                  refine wpAnyH_ready (rs := [22]) (by kernel_rfl) (by simp) ?_
                  refine AllReadyH.cons rfl (fun K hK => ?_) AllReadyH.nil
                  go_simp
                  refine hK.out _ _ trivial (fun _ => ?_)
                  (try simp only [Act.put, List.setIfInBounds_toArray, List.set_cons_zero, List.set_cons_succ, List.getElem_toArray, List.getElem_cons_succ, List.getElem_cons_zero])
                  refine wpAnyH_ready (rs := [23]) (by kernel_rfl) (by simp) ?_
                  refine AllReadyH.cons rfl (fun K hK => ?_) AllReadyH.nil
                  refine step_append_lies _ rfl (.tmp 133) (.tmp 154) 48 rfl (w.heap.size + 2) 63 i0 (.agg #[.int .i64 0, .int .i64 0, .int .i64 0]) 3 24 Try.underlying48 HI.out.1 HI.out.2.1 HI.out.2.2.1 HI.out.2.2.2 rfl (by decide) _ _ _ rfl (own_keep (own_keep HTC.out.oE HB7.out) (bl_alloc (Below.refl _ _) _)) ⟨w7.heap.size, 0, none⟩ 1 1 [.int .i64 a1, .int .i64 a2, .int .i64 (1 + a3)] rfl rfl (cell_three_list _ _ _ _ _) (by intro u hu; simp only [List.mem_cons, List.not_mem_nil, or_false] at hu; rcases hu with rfl | rfl | rfl <;> rfl) (by omega) (by have := HEL.out; unfold maxLen; omega) (by have := HEL.out; omega) (by rw [size_alloc]; have := HTC.out.size; have := HB7.out.size; omega) _ rfl ?_
                  intro g cap w4 hown hgrow hat hltg
                  have k4 := HTC.out.var4 HB7.out hgrow (fun b e => (World.ownsRow.lt HTC.out.oE b e).1)
                  have cc4 := block_cell k4 (j := 1) rfl
                  have ff4 := block_fr k4 1
                  have hT5 := HTC.out.moreE HB7.out (x := (a1, a2, 1 + a3)) hown hgrow (by rw [size_alloc] at hat; exact hat.imp id (fun e => by omega)) hltg
                  have HT5 := Lib.hid hT5
                  clear hown hgrow hat hltg hT5
                  refine hK.out _ _ trivial (fun _ => ?_)
                  (try simp only [Act.put, List.setIfInBounds_toArray, List.set_cons_zero, List.set_cons_succ, List.getElem_toArray, List.getElem_cons_succ, List.getElem_cons_zero])
                  refine wpAnyH_take (i := 24) (v := ?_) rfl (by kernel_rfl) (by kernel_rfl) (by kernel_rfl) (fun _ _ _ h => h) (Or.inl ⟨by rfl, ?_⟩) (by exact trivial) ?_
                  rotate_left
                  · intro w hSw; go_simp <;> with_reducible rfl
                  simp only [Act.put, List.setIfInBounds_toArray, List.set_cons_zero, List.set_cons_succ, List.getElem_toArray, List.getElem_cons_succ, List.getElem_cons_zero]
                  refine wpAnyH_ready (rs := [25]) (by kernel_rfl) (by simp) ?_
                  refine AllReadyH.cons rfl (fun K hK => ?_) AllReadyH.nil
                  go_simp
                  refine hK.out _ _ trivial (fun _ => ?_)
                  (try simp only [Act.put, List.setIfInBounds_toArray, List.set_cons_zero, List.set_cons_succ, List.getElem_toArray, List.getElem_cons_succ, List.getElem_cons_zero])
                  refine wpAnyH_done (by kernel_rfl) ?_ _
                  go_wp2_with fail
                  go_roundg (X - (q + 1))
                  case measure => have := HM.out; omega
                  case rel =>
                    refine ⟨q + 1, .slice (some ⟨g, 0, none⟩) (ES.length + 1) cap, rfl, by omega, by go_num, ?_⟩
                    rw [HSTR.out]
                    exact HT5.out
                · skip
                  go_simp
                  refine (at_eq (k := 8+q) (HR.out.below (HTC.out.below.trans (HB5.out.mono HTC.out.below.size))) (by omega) (by omega) (by omega) (by omega)).mono ?_
                  rw [← HA2.out]
                  rintro e w6 ⟨rfl, hbn⟩
                  have HB6 : Hid (Below wc.heap.size wc w6) := Lib.hid (HB5.out.trans (hbn.mono HB5.out.size))
                  have c6 := cell_below c0 HB6.out
                  clear hbn
                  refine hK.out _ _ trivial (fun _ => ?_)
                  (try simp only [Act.put, List.setIfInBounds_toArray, List.set_cons_zero, List.set_cons_succ, List.getElem_toArray, List.getElem_cons_succ, List.getElem_cons_zero])
                  refine wpAnyH_ready (rs := [1, 19]) (by kernel_rfl) (by simp) ?_
                  refine AllReadyH.cons rfl (fun K hK => ?_) (AllReadyH.cons rfl (fun K hK => ?_) AllReadyH.nil)
                  · skip
                    go_simp
                    refine hK.out _ _ trivial (fun _ => ?_)
                    (try simp only [Act.put, List.setIfInBounds_toArray, List.set_cons_zero, List.set_cons_succ, List.getElem_toArray, List.getElem_cons_succ, List.getElem_cons_zero])
                    refine wpAnyH_ready (rs := [19]) (by kernel_rfl) (by simp) ?_
                    refine AllReadyH.cons rfl (fun K hK => ?_) AllReadyH.nil
                    go_simp
                    refine (at_eq (k := 12+q) (HR.out.below (HTC.out.below.trans (HB6.out.mono HTC.out.below.size))) (by omega) (by omega) (by omega) (by omega)).mono ?_
                    rw [← HA3.out]
                    rintro e w7 ⟨rfl, hbn⟩
                    have HB7 : Hid (Below wc.heap.size wc w7) := Lib.hid (HB6.out.trans (hbn.mono HB6.out.size))
                    have c7 := cell_below c0 HB7.out
                    clear hbn
                    refine hK.out _ _ trivial (fun _ => ?_)
                    (try simp only [Act.put, List.setIfInBounds_toArray, List.set_cons_zero, List.set_cons_succ, List.getElem_toArray, List.getElem_cons_succ, List.getElem_cons_zero])
                    refine wpAnyH_take (i := 20) (v := ?_) rfl (by kernel_rfl) (by kernel_rfl) (by kernel_rfl) (fun _ _ _ h => h) (Or.inl ⟨by rfl, ?_⟩) (by exact trivial) ?_
                    rotate_left
                    · intro w hSw; go_simp <;> with_reducible rfl
                    simp only [Act.put, List.setIfInBounds_toArray, List.set_cons_zero, List.set_cons_succ, List.getElem_toArray, List.getElem_cons_succ, List.getElem_cons_zero]
                    refine wpAnyH_take (i := 21) (v := ?_) rfl (by kernel_rfl) (by kernel_rfl) (by kernel_rfl) (fun _ _ _ h => h) (Or.inl ⟨by rfl, ?_⟩) (by exact trivial) ?_
                    rotate_left
                    · intro w hSw; go_simp <;> with_reducible rfl
                    simp only [Act.put, List.setIfInBounds_toArray, List.set_cons_zero, List.set_cons_succ, List.getElem_toArray, List.getElem_cons_succ, List.getElem_cons_zero]
                    refine wpAnyH_ready (rs := [22]) (by kernel_rfl) (by simp) ?_
                    refine AllReadyH.cons rfl (fun K hK => ?_) AllReadyH.nil
                    go_simp
                    refine hK.out _ _ trivial (fun _ => ?_)
                    (try simp only [Act.put, List.setIfInBounds_toArray, List.set_cons_zero, List.set_cons_succ, List.getElem_toArray, List.getElem_cons_succ, List.getElem_cons_zero])
                    refine wpAnyH_ready (rs := [23]) (by kernel_rfl) (by simp) ?_
                    refine AllReadyH.cons rfl (fun K hK => ?_) AllReadyH.nil
                    refine step_append_lies _ rfl (.tmp 133) (.tmp 154) 48 rfl (w.heap.size + 2) 63 i0 (.agg #[.int .i64 0, .int .i64 0, .int .i64 0]) 3 24 Try.underlying48 HI.out.1 HI.out.2.1 HI.out.2.2.1 HI.out.2.2.2 rfl (by decide) _ _ _ rfl (own_keep (own_keep HTC.out.oE HB7.out) (bl_alloc (Below.refl _ _) _)) ⟨w7.heap.size, 0, none⟩ 1 1 [.int .i64 a1, .int .i64 a2, .int .i64 (1 + a3)] rfl rfl (cell_three_list _ _ _ _ _) (by intro u hu; simp only [List.mem_cons, List.not_mem_nil, or_false] at hu; rcases hu with rfl | rfl | rfl <;> rfl) (by omega) (by have := HEL.out; unfold maxLen; omega) (by have := HEL.out; omega) (by rw [size_alloc]; have := HTC.out.size; have := HB7.out.size; omega) _ rfl ?_
                    intro g cap w4 hown hgrow hat hltg
                    have k4 := HTC.out.var4 HB7.out hgrow (fun b e => (World.ownsRow.lt HTC.out.oE b e).1)
                    have cc4 := block_cell k4 (j := 1) rfl
                    have ff4 := block_fr k4 1
                    have hT5 := HTC.out.moreE HB7.out (x := (a1, a2, 1 + a3)) hown hgrow (by rw [size_alloc] at hat; exact hat.imp id (fun e => by omega)) hltg
                    have HT5 := Lib.hid hT5
                    clear hown hgrow hat hltg hT5
                    refine hK.out _ _ trivial (fun _ => ?_)
                    (try simp only [Act.put, List.setIfInBounds_toArray, List.set_cons_zero, List.set_cons_succ, List.getElem_toArray, List.getElem_cons_succ, List.getElem_cons_zero])
                    refine wpAnyH_take (i := 24) (v := ?_) rfl (by kernel_rfl) (by kernel_rfl) (by kernel_rfl) (fun _ _ _ h => h) (Or.inl ⟨by rfl, ?_⟩) (by exact trivial) ?_
                    rotate_left
                    · intro w hSw; go_simp <;> with_reducible rfl
                    simp only [Act.put, List.setIfInBounds_toArray, List.set_cons_zero, List.set_cons_succ, List.getElem_toArray, List.getElem_cons_succ, List.getElem_cons_zero]
                    refine wpAnyH_ready (rs := [25]) (by kernel_rfl) (by simp) ?_
                    refine AllReadyH.cons rfl (fun K hK => ?_) AllReadyH.nil
                    go_simp
                    refine hK.out _ _ trivial (fun _ => ?_)
                    (try simp only [Act.put, List.setIfInBounds_toArray, List.set_cons_zero, List.set_cons_succ, List.getElem_toArray, List.getElem_cons_succ, List.getElem_cons_zero])
                    refine wpAnyH_done (by kernel_rfl) ?_ _
                    go_wp2_with fail
                    go_roundg (X - (q + 1))
                    case measure => have := HM.out; omega
                    case rel =>
                      refine ⟨q + 1, .slice (some ⟨g, 0, none⟩) (ES.length + 1) cap, rfl, by omega, by go_num, ?_⟩
                      rw [HSTR.out]
                      exact HT5.out
                  · skip
                    go_simp
                    refine (at_eq (k := 12+q) (HR.out.below (HTC.out.below.trans (HB6.out.mono HTC.out.below.size))) (by omega) (by omega) (by omega) (by omega)).mono ?_
                    rw [← HA3.out]
                    rintro e w7 ⟨rfl, hbn⟩
                    have HB7 : Hid (Below wc.heap.size wc w7) := Lib.hid (HB6.out.trans (hbn.mono HB6.out.size))
                    have c7 := cell_below c0 HB7.out
                    clear hbn
                    refine hK.out _ _ trivial (fun _ => ?_)
                    (try simp only [Act.put, List.setIfInBounds_toArray, List.set_cons_zero, List.set_cons_succ, List.getElem_toArray, List.getElem_cons_succ, List.getElem_cons_zero])
                    refine wpAnyH_take (i := 20) (v := ?_) rfl (by kernel_rfl) (by kernel_rfl) (by kernel_rfl) (fun _ _ _ h => h) (Or.inl ⟨by rfl, ?_⟩) (by exact trivial) ?_
                    rotate_left
                    · intro w hSw; go_simp <;> with_reducible rfl
                    simp only [Act.put, List.setIfInBounds_toArray, List.set_cons_zero, List.set_cons_succ, List.getElem_toArray, List.getElem_cons_succ, List.getElem_cons_zero]
                    refine wpAnyH_take (i := 21) (v := ?_) rfl (by kernel_rfl) (by kernel_rfl) (by kernel_rfl) (fun _ _ _ h => h) (Or.inl ⟨by rfl, ?_⟩) (by exact trivial) ?_
                    rotate_left
                    · intro w hSw; go_simp <;> with_reducible rfl
                    simp only [Act.put, List.setIfInBounds_toArray, List.set_cons_zero, List.set_cons_succ, List.getElem_toArray, List.getElem_cons_succ, List.getElem_cons_zero]
                    refine wpAnyH_ready (rs := [1, 22]) (by kernel_rfl) (by simp) ?_
                    refine AllReadyH.cons rfl (fun K hK => ?_) (AllReadyH.cons rfl (fun K hK => ?_) AllReadyH.nil)
                    · skip
                      go_simp
                      refine hK.out _ _ trivial (fun _ => ?_)
                      (try simp only [Act.put, List.setIfInBounds_toArray, List.set_cons_zero, List.set_cons_succ, List.getElem_toArray, List.getElem_cons_succ, List.getElem_cons_zero])
                      refine wpAnyH_ready (rs := [22]) (by kernel_rfl) (by simp) ?_
                      refine AllReadyH.cons rfl (fun K hK => ?_) AllReadyH.nil
                      go_simp
                      refine hK.out _ _ trivial (fun _ => ?_)
                      (try simp only [Act.put, List.setIfInBounds_toArray, List.set_cons_zero, List.set_cons_succ, List.getElem_toArray, List.getElem_cons_succ, List.getElem_cons_zero])
                      refine wpAnyH_ready (rs := [23]) (by kernel_rfl) (by simp) ?_
                      refine AllReadyH.cons rfl (fun K hK => ?_) AllReadyH.nil
                      refine step_append_lies _ rfl (.tmp 133) (.tmp 154) 48 rfl (w.heap.size + 2) 63 i0 (.agg #[.int .i64 0, .int .i64 0, .int .i64 0]) 3 24 Try.underlying48 HI.out.1 HI.out.2.1 HI.out.2.2.1 HI.out.2.2.2 rfl (by decide) _ _ _ rfl (own_keep (own_keep HTC.out.oE HB7.out) (bl_alloc (Below.refl _ _) _)) ⟨w7.heap.size, 0, none⟩ 1 1 [.int .i64 a1, .int .i64 a2, .int .i64 (1 + a3)] rfl rfl (cell_three_list _ _ _ _ _) (by intro u hu; simp only [List.mem_cons, List.not_mem_nil, or_false] at hu; rcases hu with rfl | rfl | rfl <;> rfl) (by omega) (by have := HEL.out; unfold maxLen; omega) (by have := HEL.out; omega) (by rw [size_alloc]; have := HTC.out.size; have := HB7.out.size; omega) _ rfl ?_
                      intro g cap w4 hown hgrow hat hltg
                      have k4 := HTC.out.var4 HB7.out hgrow (fun b e => (World.ownsRow.lt HTC.out.oE b e).1)
                      have cc4 := block_cell k4 (j := 1) rfl
                      have ff4 := block_fr k4 1
                      have hT5 := HTC.out.moreE HB7.out (x := (a1, a2, 1 + a3)) hown hgrow (by rw [size_alloc] at hat; exact hat.imp id (fun e => by omega)) hltg
                      have HT5 := Lib.hid hT5
                      clear hown hgrow hat hltg hT5
                      refine hK.out _ _ trivial (fun _ => ?_)
                      (try simp only [Act.put, List.setIfInBounds_toArray, List.set_cons_zero, List.set_cons_succ, List.getElem_toArray, List.getElem_cons_succ, List.getElem_cons_zero])
                      refine wpAnyH_take (i := 24) (v := ?_) rfl (by kernel_rfl) (by kernel_rfl) (by kernel_rfl) (fun _ _ _ h => h) (Or.inl ⟨by rfl, ?_⟩) (by exact trivial) ?_
                      rotate_left
                      · intro w hSw; go_simp <;> with_reducible rfl
                      simp only [Act.put, List.setIfInBounds_toArray, List.set_cons_zero, List.set_cons_succ, List.getElem_toArray, List.getElem_cons_succ, List.getElem_cons_zero]
                      refine wpAnyH_ready (rs := [25]) (by kernel_rfl) (by simp) ?_
                      refine AllReadyH.cons rfl (fun K hK => ?_) AllReadyH.nil
                      go_simp
                      refine hK.out _ _ trivial (fun _ => ?_)
                      (try simp only [Act.put, List.setIfInBounds_toArray, List.set_cons_zero, List.set_cons_succ, List.getElem_toArray, List.getElem_cons_succ, List.getElem_cons_zero])
                      refine wpAnyH_done (by kernel_rfl) ?_ _
                      go_wp2_with fail
                      go_roundg (X - (q + 1))
                      case measure => have := HM.out; omega
                      case rel =>
                        refine ⟨q + 1, .slice (some ⟨g, 0, none⟩) (ES.length + 1) cap, rfl, by omega, by go_num, ?_⟩
                        rw [HSTR.out]
                        exact HT5.out
                    · skip
                      have c8 := cell_below c7 (bl_alloc (Below.refl _ _) (.cells #[.int .i64 a1, .int .i64 a2, .int .i64 (1 + a3)] 63))
                      go_simp
                      refine hK.out _ _ trivial (fun _ => ?_)
                      (try simp only [Act.put, List.setIfInBounds_toArray, List.set_cons_zero, List.set_cons_succ, List.getElem_toArray, List.getElem_cons_succ, List.getElem_cons_zero])
                      refine wpAnyH_ready (rs := [1]) (by kernel_rfl) (by simp) ?_
                      refine AllReadyH.cons rfl (fun K hK => ?_) AllReadyH.nil
                      go_simp
                      refine hK.out _ _ trivial (fun _ => ?_)
                      (try simp only [Act.put, List.setIfInBounds_toArray, List.set_cons_zero, List.set_cons_succ, List.getElem_toArray, List.getElem_cons_succ, List.getElem_cons_zero])
                      refine wpAnyH_ready (rs := [23]) (by kernel_rfl) (by simp) ?_
                      refine AllReadyH.cons rfl (fun K hK => ?_) AllReadyH.nil
                      refine step_append_lies _ rfl (.tmp 133) (.tmp 154) 48 rfl (w.heap.size + 2) 63 i0 (.agg #[.int .i64 0, .int .i64 0, .int .i64 0]) 3 24 Try.underlying48 HI.out.1 HI.out.2.1 HI.out.2.2.1 HI.out.2.2.2 rfl (by decide) _ _ _ rfl (own_keep (own_keep HTC.out.oE HB7.out) (bl_alloc (Below.refl _ _) _)) ⟨w7.heap.size, 0, none⟩ 1 1 [.int .i64 a1, .int .i64 a2, .int .i64 (1 + a3)] rfl rfl (cell_three_list _ _ _ _ _) (by intro u hu; simp only [List.mem_cons, List.not_mem_nil, or_false] at hu; rcases hu with rfl | rfl | rfl <;> rfl) (by omega) (by have := HEL.out; unfold maxLen; omega) (by have := HEL.out; omega) (by rw [size_alloc]; have := HTC.out.size; have := HB7.out.size; omega) _ rfl ?_
                      intro g cap w4 hown hgrow hat hltg
                      have k4 := HTC.out.var4 HB7.out hgrow (fun b e => (World.ownsRow.lt HTC.out.oE b e).1)
                      have cc4 := block_cell k4 (j := 1) rfl
                      have ff4 := block_fr k4 1
                      have hT5 := HTC.out.moreE HB7.out (x := (a1, a2, 1 + a3)) hown hgrow (by rw [size_alloc] at hat; exact hat.imp id (fun e => by omega)) hltg
                      have HT5 := Lib.hid hT5
                      clear hown hgrow hat hltg hT5
                      refine hK.out _ _ trivial (fun _ => ?_)
                      (try simp only [Act.put, List.setIfInBounds_toArray, List.set_cons_zero, List.set_cons_succ, List.getElem_toArray, List.getElem_cons_succ, List.getElem_cons_zero])
                      refine wpAnyH_take (i := 24) (v := ?_) rfl (by kernel_rfl) (by kernel_rfl) (by kernel_rfl) (fun _ _ _ h => h) (Or.inl ⟨by rfl, ?_⟩) (by exact trivial) ?_
                      rotate_left
                      · intro w hSw; go_simp <;> with_reducible rfl
                      simp only [Act.put, List.setIfInBounds_toArray, List.set_cons_zero, List.set_cons_succ, List.getElem_toArray, List.getElem_cons_succ, List.getElem_cons_zero]
                      refine wpAnyH_ready (rs := [25]) (by kernel_rfl) (by simp) ?_
                      refine AllReadyH.cons rfl (fun K hK => ?_) AllReadyH.nil
                      go_simp
                      refine hK.out _ _ trivial (fun _ => ?_)
                      (try simp only [Act.put, List.setIfInBounds_toArray, List.set_cons_zero, List.set_cons_succ, List.getElem_toArray, List.getElem_cons_succ, List.getElem_cons_zero])
                      refine wpAnyH_done (by kernel_rfl) ?_ _
                      go_wp2_with fail
                      go_roundg (X - (q + 1))
                      case measure => have := HM.out; omega
                      case rel =>
                        refine ⟨q + 1, .slice (some ⟨g, 0, none⟩) (ES.length + 1) cap, rfl, by omega, by go_num, ?_⟩
                        rw [HSTR.out]
                        exact HT5.out
            · have hqX : q = X := by omega
              subst hqX
              have HTC := Lib.hid hTC
              clear hTC hlt HM hq
              obtain ⟨E0, hE0⟩ : ∃ E0, E0 = streets xs W H j ++ extras xs j q := ⟨_, rfl⟩
              have hE0t : E0 = townE0 xs := by rw [hE0, HX.out, HMD.out, HWD.out, HHD.out]; rfl
              have hTC := HTC.out
              rw [← hE0] at hTC
              obtain ⟨AE, cE, rfl, hAE⟩ := own_val hTC.oE
              have hel : E0.length ≤ 70 := by rw [hE0, List.length_append, len_extras]; have h1 := len_streets xs W H j; omega
              have HTE := Lib.hid hTC
              have HE0T := Lib.hid hE0t
              have HAE := Lib.hid hAE
              have c1 := block_cell hTC.hg (j := 1) rfl
              have f1 := block_fr hTC.hg 1
              clear hE0 hE0t hTC HTC hAE
              go_upto_if 160 with fail
              go_cut [] from 126 to 163 (fun wx => ∃ g c, TownW w wx sN (.slice (some ⟨g, 0, none⟩) (townE xs).length c) (.slice none 0 0) NS (townE xs) [] ∧ 1 ≤ (townE xs).length ∧ (townE xs).length ≤ 70)
              case first =>
                by_cases hz : E0.length = 0
                · have hz1 : ((E0.length : Int) == 0) = true := by rw [hz]; rfl
                  have hnil : E0 = [] := List.eq_nil_of_length_eq_zero hz
                  have ht : townE xs = [(0, 0, 3)] := by unfold townE; rw [← HE0T.out, if_pos hz]
                  subst hnil
                  have c1a := cell_below c1 (bl_alloc (Below.refl _ _) (.cells #[.int .i64 0, .int .i64 0, .int .i64 3] 63))
                  have f1a := block_fr ((heap_alloc_lt (o := .cells #[.int .i64 0, .int .i64 0, .int .i64 3] 63) (by have := HTE.out.size; omega)).trans HTE.out.hg) 1
                  go_wp2_with fail
                  go_meet
                  case rel =>
                    rw [ht]
                    exact ⟨_, _, HTE.out.fresh1 0 0 3, by simp, by simp⟩
                · have hz1 : ((E0.length : Int) == 0) = false := beq_false_of_ne (by omega)
                  have hz2 : ¬ E0.length = 0 := hz
                  have ht : townE xs = E0 := by unfold townE; rw [← HE0T.out, if_neg hz]
                  obtain ⟨g, rfl⟩ := HAE.out (by omega)
                  have hz3 : ¬ E0 = [] := fun e => hz (by rw [e]; rfl)
                  go_wp2_with fail
                  go_meet
                  case rel =>
                    rw [ht]
                    exact ⟨g, cE, HTE.out, Nat.pos_of_ne_zero hz2, hel⟩
              case rest =>
                obtain ⟨be, ce, hT, hm1, hm2⟩ := hcut
                obtain ⟨ES, hES⟩ : ∃ ES, ES = townE xs := ⟨_, rfl⟩
                rw [← hES] at hT hm1 hm2
                obtain ⟨m, hmm⟩ : ∃ m, m = ES.length := ⟨_, rfl⟩
                rw [← hmm] at hT hm1 hm2
                have HMM := Lib.hid hmm
                have HES := Lib.hid hES
                have HT := Lib.hid hT
                clear hT hmm hES c1 f1 hel HTE
                go_wp2_with fail
                go_loopg [12] m (fun mm v wq => ∃ (a : Nat) (sB : Value), mm = m - a ∧ a ≤ m ∧ v = .int .i64 (a : Nat) ∧ TownW w wq sN (.slice (some ⟨be, 0, none⟩) m ce) sB NS ES (banRows xs ES a))
                case atStart => exact ⟨0, _, rfl, Nat.zero_le _, rfl, HT.out⟩
                case round =>
                  obtain ⟨a, sB, hm, ha, rfl, hT⟩ := hrel
                  have HM := Lib.hid hm
                  have HT5 := Lib.hid hT
                  have c1 := block_cell hT.hg (j := 1) rfl
                  clear hm hT HT
                  by_cases hlt : a < m
                  · go_wp2_with fail
                    go_loopg [13] m (fun mm v wq => ∃ (b : Nat) (sB : Value), mm = m - b ∧ b ≤ m ∧ v = .int .i64 (b : Nat) ∧ TownW w wq sN (.slice (some ⟨be, 0, none⟩) m ce) sB NS ES (banRows xs ES a ++ banRow xs ES a b))
                    case atStart => exact ⟨0, sB, rfl, Nat.zero_le _, rfl, by rw [show banRow xs ES a 0 = [] from rfl, List.append_nil]; exact HT5.out⟩
                    case round =>
                      obtain ⟨b, sB, hm, hb, rfl, hT⟩ := hrel
                      have HM6 := Lib.hid hm
                      have HT6 := Lib.hid hT
                      have c1 := block_cell hT.hg (j := 1) rfl
                      clear hm hT HT5
                      by_cases hbt : b < m
                      · have oE := HT6.out.oE
                        rw [← HMM.out] at oE
                        obtain ⟨ta, hta⟩ : ∃ z, z = (ES.getD a (0, 0, 0)).2.1 := ⟨_, rfl⟩
                        obtain ⟨fb, hfb⟩ : ∃ z, z = (ES.getD b (0, 0, 0)).1 := ⟨_, rfl⟩
                        have ea : wr.cell? ⟨be, a * 3 + 1, none⟩ = some (.int .i64 ta) := by rw [World.ownsRow.cellAt oE _ (by omega), hta]; exact (flat3_get ES a (by rw [← HMM.out]; exact hlt)).2.1
                        have eb : wr.cell? ⟨be, b * 3, none⟩ = some (.int .i64 fb) := by rw [World.ownsRow.cellAt oE _ (by omega), hfb]; exact (flat3_get ES b (by rw [← HMM.out]; exact hbt)).1
                        have hbb : banB xs ES a b = (decide (ta = fb) && decide (atV xs (7 * a + b) 9 = 0)) := by unfold banB; rw [hta, hfb]
                        have HBB := Lib.hid hbb
                        have a0 : (0 : Int) ≤ (a : Int) := by omega
                        have a1 : (a : Int) < (m : Int) := by omega
                        have b0 : (0 : Int) ≤ (b : Int) := by omega
                        have b1 : (b : Int) < (m : Int) := by omega
                        have u1 : IntKind.i64.wrap (7 * (a : Int)) = 7 * (a : Int) := IntWalk.i64_in _ (by omega)
                        have u2 : IntKind.i64.wrap (7 * (a : Int) + b) = 7 * (a : Int) + b := IntWalk.i64_in _ (by omega)
                        obtain ⟨BS, hBS⟩ : ∃ BS, BS = banRows xs ES a ++ banRow xs ES a b := ⟨_, rfl⟩
                        have hT7 := HT6.out
                        rw [← hBS] at hT7
                        have HT7 := Lib.hid hT7
                        have HBS := Lib.hid hBS
                        have HTD : Hid (∀ q, TownW w (wr.drewN q) sN (.slice (some ⟨be, 0, none⟩) m ce) sB NS ES BS) := Lib.hid fun q => HT7.out.still (bl_drewN (Below.refl _ _) q)
                        clear hBS hT7
                        clear oE hta hfb hbb
                        by_cases he : ta = fb
                        · subst he
                          have hq : (ta == ta) = true := by simp
                          by_cases hv : atV xs (7 * a + b) 9 = 0
                          · have hv1 : (atV xs (7 * a + b) 9 == 0) = true := by simp [hv]
                            have hban : banRow xs ES a (b + 1) = banRow xs ES a b ++ [((a : Int), (b : Int))] := by rw [banRow_succ, HBB.out, hv]; simp
                            obtain ⟨AB, cB, rfl, _⟩ := own_val HT7.out.oB
                            have hbl : BS.length ≤ 4900 := by
                              rw [HBS.out, List.length_append]
                              have h1 := len_banRows xs ES a
                              have h2 := len_banRow xs ES a b
                              rw [← HMM.out] at h1
                              have h3 : a * m ≤ 69 * 70 := Nat.mul_le_mul (by omega) (by omega)
                              omega
                            have c2 := block_cell HT7.out.hg (j := 2) rfl
                            obtain ⟨i0, hi1, hi2, hi3, hi4⟩ := info_parts infoBan
                            have HI := Lib.hid (show _ ∧ _ ∧ _ ∧ _ from ⟨hi1, hi2, hi3, hi4⟩)
                            have HBAN := Lib.hid hban
                            have HBL := Lib.hid hbl
                            clear hi1 hi2 hi3 hi4 hban hbl
                            go_wp2_with fail
                            go_quiet ((go_at_call 68; refine at_quiet (k := 7 * a + b) (HR.out.below HT6.out.below) (by omega) (by omega) (by omega) (by omega)))
                            go_wp2_with (at_builtin; refine wpList_append_lies _ rfl (.tmp 201) (.tmp 205) 49 rfl (w.heap.size + 2) 69 i0 (.agg #[.int .i64 0, .int .i64 0]) 2 16 Try.underlying49 HI.out.1 HI.out.2.1 HI.out.2.2.1 HI.out.2.2.2 rfl (by decide) _ _ _ rfl (own_keep (HTD.out _).oB (bl_alloc (Below.refl _ _) _)) ⟨_, 0, none⟩ 1 1 [.int .i64 (a : Int), .int .i64 (b : Int)] rfl rfl (cell_two_new _ _ _ _) (by intro u hu; simp only [List.mem_cons, List.not_mem_nil, or_false] at hu; rcases hu with rfl | rfl <;> rfl) (by omega) (by have := HBL.out; unfold maxLen; omega) (by have := HBL.out; omega) (by have := (HTD.out 0).size; simp only [size_alloc]; exact Nat.le_succ_of_le this) _ rfl ?_)
                            intro g cap w4 hown hgrow hat hltg
                            have k4 := (HTD.out _).var4 (Below.refl _ _) hgrow (fun b e => (World.ownsRow.lt (HTD.out 0).oB b e).1)
                            have cc4 := block_cell k4 (j := 2) rfl
                            have ff4 := block_fr k4 2
                            have hT8 := (HTD.out _).moreB (Below.refl _ _) (x := ((a : Int), (b : Int))) hown hgrow (hat.imp id (fun e => by show wr.heap.size ≤ g; first | omega | (have e2 := e; rw [size_alloc] at e2; have e3 : g = wr.heap.size + 1 := e2; omega))) hltg
                            have HT8 := Lib.hid hT8
                            clear hown hgrow hat hltg hT8
                            go_wp2_with fail
                            go_roundg (m - (b + 1))
                            case measure => have := HM6.out; omega
                            case rel =>
                              refine ⟨b + 1, .slice (some ⟨g, 0, none⟩) (BS.length + 1) cap, rfl, by omega, by go_num, ?_⟩
                              rw [HBAN.out, ← List.append_assoc, ← HBS.out]
                              exact HT8.out
                          · have hv1 : (atV xs (7 * a + b) 9 == 0) = false := by simp [hv]
                            have hban : banRow xs ES a (b + 1) = banRow xs ES a b := by rw [banRow_succ, HBB.out, decide_eq_false hv]; simp
                            have HBAN := Lib.hid hban
                            clear hban
                            go_wp2_with fail
                            go_quiet ((go_at_call 68; refine at_quiet (k := 7 * a + b) (HR.out.below HT6.out.below) (by omega) (by omega) (by omega) (by omega)))
                            go_wp2_with fail
                            go_roundg (m - (b + 1))
                            case measure => have := HM6.out; omega
                            case rel =>
                              refine ⟨b + 1, sB, rfl, by omega, by go_num, ?_⟩
                              rw [HBAN.out, ← HBS.out]
                              exact HTD.out _
                        · have hq : (ta == fb) = false := beq_false_of_ne he
                          have hban : banRow xs ES a (b + 1) = banRow xs ES a b := by rw [banRow_succ, HBB.out, decide_eq_false he]; simp
                          have HBAN := Lib.hid hban
                          clear hban
                          go_wp2_with fail
                          go_quiet (fail)
                          go_wp2_with fail
                          go_roundg (m - (b + 1))
                          case measure => have := HM6.out; omega
                          case rel =>
                            refine ⟨b + 1, sB, rfl, by omega, by go_num, ?_⟩
                            rw [HBAN.out, ← HBS.out]
                            exact HTD.out _
                      · have hbm : b = m := by omega
                        subst hbm
                        go_wp2_with fail
                        go_roundg (b - (a + 1))
                        case measure => have := HM.out; omega
                        case rel =>
                          refine ⟨a + 1, sB, rfl, by omega, by go_num, ?_⟩
                          rw [banRows_succ, ← HMM.out]
                          exact HT6.out
                  · have ham : a = m := by omega
                    subst ham
                    obtain ⟨AN, cN, rfl, hAN⟩ := own_val HT5.out.oN
                    obtain ⟨AB, cB, rfl, hAB⟩ := own_val HT5.out.oB
                    clear hAN hAB
                    have d0 := block_cell HT5.out.hg (j := 0) rfl
                    have fr0 := block_fr HT5.out.h0 0
                    have fr1 := block_fr HT5.out.h0 1
                    have fr2 := block_fr HT5.out.h0 2
                    have d2 := block_cell HT5.out.hg (j := 2) rfl
                    have e0 := block_cell HT5.out.h0 (j := 0) rfl
                    have e1 := block_cell HT5.out.h0 (j := 1) rfl
                    have e2 := block_cell HT5.out.h0 (j := 2) rfl
                    have g1 := block_set HT5.out.h0 0 (.slice AN NS.length cN)
                    have g2 := block_set g1 1 (.slice (some ⟨be, 0, none⟩) a ce)
                    have g3 := block_set g2 2 (.slice AB (banRows xs ES a).length cB)
                    have hup : Upd (fun b => b = w.heap.size) wr (((wr.setCell ⟨w.heap.size, 0, none⟩ (.slice AN NS.length cN)).setCell ⟨w.heap.size, 1, none⟩ (.slice (some ⟨be, 0, none⟩) a ce)).setCell ⟨w.heap.size, 2, none⟩ (.slice AB (banRows xs ES a).length cB)) := upd_setCell (F := fun b => b = w.heap.size) (a := ⟨w.heap.size, 2, none⟩) (upd_setCell (F := fun b => b = w.heap.size) (a := ⟨w.heap.size, 1, none⟩) (upd_setCell (F := fun b => b = w.heap.size) (a := ⟨w.heap.size, 0, none⟩) (Upd.refl _ _) rfl _) rfl _) rfl _
                    have HG3 := Lib.hid g3
                    have HUP := Lib.hid hup
                    clear g1 g2 g3 hup
                    go_wp2_with fail
                    refine bodyPost_ret (results_cell_row (p := 2) (ty := 51) (by kernel_rfl) _ _ w.heap.size 51 #[.slice AN NS.length cN, .slice (some ⟨be, 0, none⟩) a ce, .slice AB (banRows xs ES a).length cB] (0, 0) _ rfl HG3.out Try.underlying51 rfl (by kernel_rfl)) rfl ?_
                    refine ⟨_, _, _, wr, rfl, ?_, HUP.out⟩
                    have e1 : townN xs = NS := by rw [HNS.out, HMD.out, HWD.out, HHD.out]; rfl
                    have e2 : townE xs = ES := HES.out.symm
                    have e3 : townB xs = banRows xs ES a := by unfold townB; rw [e2, ← HMM.out]
                    rw [e1, e2, e3]
                    exact HT5.out
end Go.Proofs.Ytkdpfbefdhjmcaa
