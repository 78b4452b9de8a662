/- HeapSorts: all that was pushed comes out, each once, with its least key, by key and then by number. For every input, without a condition. -/
import Derived.Test.YtojclogpjgeloaaHeapAwake
import Derived.Test.YtojclogpjgeloaaReadsP
import Derived.Test.YtojclogpjgeloaaHeapMore
import Derived.BigRegion
import Derived.Deep.RegionHeld3
set_option linter.unusedVariables false
set_option linter.unusedSimpArgs false
namespace Go.Proofs.Ytojclogpjgeloaa.heapSorts
open Go.ChangeShapes Go.WideShapes Go.ChangeAt Go.RowKit Go.Maps Go.ChangeMaps Go.MapKept HeapP DistP
set_option maxRecDepth 100000 in
set_option maxHeartbeats 4000000 in
theorem walk_out (A : Option Addr) (n c : Nat) (hs : n ≤ 9223372036854775807) (w : World) (h : 150 < n) :
    Calls Try.prog 7 #[.slice A n c] w fun e w' => e = .returned (.bool true) ∧ Below w.heap.size w w' := by
  go_enter Try.func7, Try.ntmps7
  go_wp2_with (go_at_call 14; refine (awake4 _).mono ?_; rintro e w1 ⟨rfl, hb1⟩)
  go_ret
  exact ⟨rfl, by assumption⟩
set_option maxRecDepth 100000 in
set_option maxHeartbeats 8000000 in
theorem walk_ins (A : Option Addr) (n c : Nat) (xs : List (Int × Int)) (w : World) (hn : n ≤ 150) (hk : ReadsP w A n c xs) :
    Calls Try.prog 7 #[.slice A n c] w fun e w' => e = .returned (.bool true) ∧ Below w.heap.size w w' := by
  have HK := Lib.hid hk
  have hmm := @run_makeMap Try.prog
  clear hk
  go_enter Try.func7, Try.ntmps7
  go_wp2_with fail
  go_loopg [5] n (fun m v wr => ∃ (k : Nat) (fp : List Nat) (S : List It) (es : Array MapEntry) (ck : Nat), m = n - k ∧ k ≤ n ∧ v = .int .i64 (k : Nat) ∧ S.length ≤ k ∧
    HeapAt wr w.heap.size fp S ∧ (∀ b ∈ fp, w.heap.size ≤ b ∧ b ≠ w.heap.size + 1) ∧ Below w.heap.size w wr ∧ mapAt wr (w.heap.size + 1) es ck ∧ EntV es ck (mapOf S))
  case atStart => exact ⟨0, [w.heap.size], [], #[], 0, rfl, Nat.zero_le _, rfl, Nat.le_refl _, (heapAt_new w).below (bl_alloc (Below.refl _ _) _), by simp, bl_alloc (bl_alloc (Below.refl _ _) _) _, by rw [← size_alloc w (.cells #[.slice none 0 0, .map none] 32)]; exact heap_alloc_eq _ _, EntV.empty 0⟩
  case round =>
    obtain ⟨k, fp, S, es, ck, hm, hk, rfl, hlS, hat, hfp, hb, hmb, hes⟩ := hrel
    have HM := Lib.hid hm
    have HAT := Lib.hid hat
    have HFP := Lib.hid hfp
    have HB := Lib.hid hb
    have HMB := Lib.hid hmb
    have HES := Lib.hid hes
    clear hm hat hfp hb hmb hes
    have hatd : HeapAt wr.drew w.heap.size fp S := HAT.out.below (bl_drew (Below.refl _ _))
    have HATD := Lib.hid hatd
    have hbd : Below w.heap.size w wr.drew := bl_drew HB.out
    have HBD := Lib.hid hbd
    clear hatd hbd
    have HBIG : Hid (S.length ≤ 1099511627776) := Lib.hid (by omega)
    have HNF : Hid (∀ b, b < w.heap.size → ¬ b ∈ fp) := Lib.hid fun b hb e => by have := (HFP.out b e).1; omega
    by_cases hlt : k < n
    · obtain ⟨b, o, rfl, hc⟩ := HK.out.cell (by omega)
      have hw01 := hc k hlt
      have hwk := getP_wf HK.out.wf k
      obtain ⟨x, hx⟩ : ∃ x, x = xs.getD k (0, 0) := ⟨_, rfl⟩
      rw [← hx] at hw01 hwk
      obtain ⟨id, key⟩ := x
      have hc0 := cell_below hw01.1 HB.out
      have hc1 := cell_below hw01.2 HB.out
      have HC0 := Lib.hid hw01.1
      have HC1 := Lib.hid hw01.2
      have hlook := run_lookV (t := 30) Try.underlying30 zeroInt HES.out hwk.1 HMB.out
      rw [mapOf_eq] at hlook
      have HWK := Lib.hid hwk
      clear hc hwk hx hw01
      cases hl : lookS S id with
      | none =>
        rw [hl] at hlook
        simp only [Option.map_none, Option.getD_none, Option.isSome_none] at hlook
        have hpb : pushB S (id, key) = true := pushB_none hl
        have HL := Lib.hid hl
        clear hl
        go_wp2_with fail
        refine wp_region_held_drew (S := fun w' => w'.cell? ⟨b, o + k * 2, none⟩ = some (.int .i64 id) ∧ w'.cell? ⟨b, o + k * 2 + 1, none⟩ = some (.int .i64 key)) (by kernel_rfl) ⟨hc0, hc1⟩ (fun hHeld => ?_)
        refine wpAnyH_take (i := 0) (v := ?_) rfl (by kernel_rfl) (by kernel_rfl) (by kernel_rfl) (fun _ _ _ h => h) (Or.inl ⟨by rfl, ?_⟩) (by assumption) ?_
        rotate_left
        · intro w hSw; (try dsimp only at hSw); go_simp <;> with_reducible rfl
        simp only [Act.put, List.setIfInBounds_toArray, List.set_cons_zero, List.set_cons_succ, List.getElem_toArray, List.getElem_cons_succ, List.getElem_cons_zero]
        refine wpAnyH_take (i := 1) (v := ?_) rfl (by kernel_rfl) (by kernel_rfl) (by kernel_rfl) (fun _ _ _ h => h) (Or.inl ⟨by rfl, ?_⟩) (by assumption) ?_
        rotate_left
        · intro w hSw; (try dsimp only at hSw); go_simp <;> with_reducible rfl
        simp only [Act.put, List.setIfInBounds_toArray, List.set_cons_zero, List.set_cons_succ, List.getElem_toArray, List.getElem_cons_succ, List.getElem_cons_zero]
        refine wpAnyH_take (i := 2) (v := ?_) rfl (by kernel_rfl) (by kernel_rfl) (by kernel_rfl) (fun _ _ _ h => h) (Or.inl ⟨by rfl, ?_⟩) (by assumption) ?_
        rotate_left
        · intro w hSw; (try dsimp only at hSw); go_simp <;> with_reducible rfl
        simp only [Act.put, List.setIfInBounds_toArray, List.set_cons_zero, List.set_cons_succ, List.getElem_toArray, List.getElem_cons_succ, List.getElem_cons_zero]
        refine wpAnyH_take (i := 3) (v := ?_) rfl (by kernel_rfl) (by kernel_rfl) (by kernel_rfl) (fun _ _ _ h => h) (Or.inl ⟨by rfl, ?_⟩) (by assumption) ?_
        rotate_left
        · intro w hSw; (try dsimp only at hSw); go_simp <;> with_reducible rfl
        simp only [Act.put, List.setIfInBounds_toArray, List.set_cons_zero, List.set_cons_succ, List.getElem_toArray, List.getElem_cons_succ, List.getElem_cons_zero]
        refine wpAnyH_take (i := 4) (v := ?_) rfl (by kernel_rfl) (by kernel_rfl) (by kernel_rfl) (fun _ _ _ h => h) (Or.inl ⟨by rfl, ?_⟩) (by assumption) ?_
        rotate_left
        · intro w hSw; (try dsimp only at hSw); go_simp <;> with_reducible rfl
        simp only [Act.put, List.setIfInBounds_toArray, List.set_cons_zero, List.set_cons_succ, List.getElem_toArray, List.getElem_cons_succ, List.getElem_cons_zero]
        refine wpAnyH_take (i := 5) (v := ?_) rfl (by kernel_rfl) (by kernel_rfl) (by kernel_rfl) (fun _ _ _ h => h) (Or.inl ⟨by rfl, ?_⟩) (by assumption) ?_
        rotate_left
        · intro w hSw; (try dsimp only at hSw); go_simp <;> with_reducible rfl
        simp only [Act.put, List.setIfInBounds_toArray, List.set_cons_zero, List.set_cons_succ, List.getElem_toArray, List.getElem_cons_succ, List.getElem_cons_zero]
        refine wpAnyH_take (i := 6) (v := ?_) rfl (by kernel_rfl) (by kernel_rfl) (by kernel_rfl) (fun _ _ _ h => h) (Or.inl ⟨by rfl, ?_⟩) (by assumption) ?_
        rotate_left
        · intro w hSw; (try dsimp only at hSw); go_simp <;> with_reducible rfl
        simp only [Act.put, List.setIfInBounds_toArray, List.set_cons_zero, List.set_cons_succ, List.getElem_toArray, List.getElem_cons_succ, List.getElem_cons_zero]
        refine wpAnyH_take (i := 7) (v := ?_) rfl (by kernel_rfl) (by kernel_rfl) (by kernel_rfl) (fun _ _ _ h => h) (Or.inl ⟨by rfl, ?_⟩) (by assumption) ?_
        rotate_left
        · intro w hSw; (try dsimp only at hSw); go_simp <;> with_reducible rfl
        simp only [Act.put, List.setIfInBounds_toArray, List.set_cons_zero, List.set_cons_succ, List.getElem_toArray, List.getElem_cons_succ, List.getElem_cons_zero]
        refine wpAnyH_take (i := 8) (v := ?_) rfl (by kernel_rfl) (by kernel_rfl) (by kernel_rfl) (fun _ _ _ h => h) (Or.inl ⟨by rfl, ?_⟩) (by assumption) ?_
        rotate_left
        · intro w hSw; (try dsimp only at hSw); go_simp <;> with_reducible rfl
        simp only [Act.put, List.setIfInBounds_toArray, List.set_cons_zero, List.set_cons_succ, List.getElem_toArray, List.getElem_cons_succ, List.getElem_cons_zero]
        refine wpAnyH_take (i := 9) (v := ?_) rfl (by kernel_rfl) (by kernel_rfl) (by kernel_rfl) (fun _ _ _ h => h) (Or.inl ⟨by rfl, ?_⟩) (by assumption) ?_
        rotate_left
        · intro w hSw; (try dsimp only at hSw); go_simp <;> with_reducible rfl
        simp only [Act.put, List.setIfInBounds_toArray, List.set_cons_zero, List.set_cons_succ, List.getElem_toArray, List.getElem_cons_succ, List.getElem_cons_zero]
        refine wpAnyH_take (i := 10) (v := ?_) rfl (by kernel_rfl) (by kernel_rfl) (by kernel_rfl) (fun _ _ _ h => h) (Or.inl ⟨by rfl, ?_⟩) (by assumption) ?_
        rotate_left
        · intro w hSw; (try dsimp only at hSw); go_simp <;> with_reducible rfl
        simp only [Act.put, List.setIfInBounds_toArray, List.set_cons_zero, List.set_cons_succ, List.getElem_toArray, List.getElem_cons_succ, List.getElem_cons_zero]
        refine wpAnyH_take (i := 12) (v := ?_) rfl (by kernel_rfl) (by kernel_rfl) (by kernel_rfl) (fun _ _ _ h => h) (Or.inl ⟨by rfl, ?_⟩) (by assumption) ?_
        rotate_left
        · intro w hSw; (try dsimp only at hSw); go_simp <;> with_reducible rfl
        simp only [Act.put, List.setIfInBounds_toArray, List.set_cons_zero, List.set_cons_succ, List.getElem_toArray, List.getElem_cons_succ, List.getElem_cons_zero]
        refine wpAnyH_take (i := 13) (v := ?_) rfl (by kernel_rfl) (by kernel_rfl) (by kernel_rfl) (fun _ _ _ h => h) (Or.inl ⟨by rfl, ?_⟩) (by assumption) ?_
        rotate_left
        · intro w hSw; (try dsimp only at hSw); go_simp <;> with_reducible rfl
        simp only [Act.put, List.setIfInBounds_toArray, List.set_cons_zero, List.set_cons_succ, List.getElem_toArray, List.getElem_cons_succ, List.getElem_cons_zero]
        refine wpAnyH_ready (rs := [11]) (by kernel_rfl) (by simp) ?_
        refine AllReadyH.cons rfl (fun K hK => ?_) AllReadyH.nil
        rw [if_pos (by rfl)]
        go_simp
        refine (push_at HATD.out HWK.out HBIG.out).mono ?_
        rintro e w2 ⟨rfl, fp2, h2', f2, u2⟩
        have hb2 := HBD.out.trans (Upd.below u2 HBD.out.size HNF.out)
        have q0 := cell_below HC0.out hb2
        have q1 := cell_below HC1.out hb2
        have H2 := Lib.hid h2'
        have F2 := Lib.hid f2
        have U2 := Lib.hid u2
        have HB2 := Lib.hid hb2
        clear h2' f2 u2 hb2
        refine hK.out _ _ ⟨q0, q1⟩ (fun hHeld2 => ?_)
        simp only [hpb]
        refine wpAnyH_take (i := 14) (v := ?_) rfl (by kernel_rfl) (by kernel_rfl) (by kernel_rfl) (fun _ _ _ h => h) (Or.inl ⟨by rfl, ?_⟩) (by assumption) ?_
        rotate_left
        · intro w hSw; (try dsimp only at hSw); go_simp <;> with_reducible rfl
        simp only [Act.put, List.setIfInBounds_toArray, List.set_cons_zero, List.set_cons_succ, List.getElem_toArray, List.getElem_cons_succ, List.getElem_cons_zero]
        refine wpAnyH_take (i := 15) (v := undef) rfl (by kernel_rfl) (by kernel_rfl) (by kernel_rfl) (fun _ _ _ h => h) (Or.inr ⟨by rfl, rfl⟩) (by assumption) ?_
        simp only [Act.put, List.setIfInBounds_toArray, List.set_cons_zero, List.set_cons_succ, List.getElem_toArray, List.getElem_cons_succ, List.getElem_cons_zero]
        refine wpAnyH_take (i := 16) (v := undef) rfl (by kernel_rfl) (by kernel_rfl) (by kernel_rfl) (fun _ _ _ h => h) (Or.inr ⟨by rfl, rfl⟩) (by assumption) ?_
        simp only [Act.put, List.setIfInBounds_toArray, List.set_cons_zero, List.set_cons_succ, List.getElem_toArray, List.getElem_cons_succ, List.getElem_cons_zero]
        refine wpAnyH_take (i := 17) (v := undef) rfl (by kernel_rfl) (by kernel_rfl) (by kernel_rfl) (fun _ _ _ h => h) (Or.inr ⟨by rfl, rfl⟩) (by assumption) ?_
        simp only [Act.put, List.setIfInBounds_toArray, List.set_cons_zero, List.set_cons_succ, List.getElem_toArray, List.getElem_cons_succ, List.getElem_cons_zero]
        refine wpAnyH_take (i := 18) (v := undef) rfl (by kernel_rfl) (by kernel_rfl) (by kernel_rfl) (fun _ _ _ h => h) (Or.inr ⟨by rfl, rfl⟩) (by assumption) ?_
        simp only [Act.put, List.setIfInBounds_toArray, List.set_cons_zero, List.set_cons_succ, List.getElem_toArray, List.getElem_cons_succ, List.getElem_cons_zero]
        refine wpAnyH_take (i := 19) (v := undef) rfl (by kernel_rfl) (by kernel_rfl) (by kernel_rfl) (fun _ _ _ h => h) (Or.inr ⟨by rfl, rfl⟩) (by assumption) ?_
        simp only [Act.put, List.setIfInBounds_toArray, List.set_cons_zero, List.set_cons_succ, List.getElem_toArray, List.getElem_cons_succ, List.getElem_cons_zero]
        refine wpAnyH_take (i := 20) (v := undef) rfl (by kernel_rfl) (by kernel_rfl) (by kernel_rfl) (fun _ _ _ h => h) (Or.inr ⟨by rfl, rfl⟩) (by assumption) ?_
        simp only [Act.put, List.setIfInBounds_toArray, List.set_cons_zero, List.set_cons_succ, List.getElem_toArray, List.getElem_cons_succ, List.getElem_cons_zero]
        refine wpAnyH_take (i := 21) (v := undef) rfl (by kernel_rfl) (by kernel_rfl) (by kernel_rfl) (fun _ _ _ h => h) (Or.inr ⟨by rfl, rfl⟩) (by assumption) ?_
        simp only [Act.put, List.setIfInBounds_toArray, List.set_cons_zero, List.set_cons_succ, List.getElem_toArray, List.getElem_cons_succ, List.getElem_cons_zero]
        refine wpAnyH_take (i := 22) (v := ?_) rfl (by kernel_rfl) (by kernel_rfl) (by kernel_rfl) (fun _ _ _ h => h) (Or.inl ⟨by rfl, ?_⟩) (by assumption) ?_
        rotate_left
        · intro w hSw; (try dsimp only at hSw); go_simp <;> with_reducible rfl
        simp only [Act.put, List.setIfInBounds_toArray, List.set_cons_zero, List.set_cons_succ, List.getElem_toArray, List.getElem_cons_succ, List.getElem_cons_zero]
        refine wpAnyH_take (i := 23) (v := ?_) rfl (by kernel_rfl) (by kernel_rfl) (by kernel_rfl) (fun _ _ _ h => h) (Or.inl ⟨by rfl, ?_⟩) (by assumption) ?_
        rotate_left
        · intro w hSw; (try dsimp only at hSw); go_simp <;> with_reducible rfl
        simp only [Act.put, List.setIfInBounds_toArray, List.set_cons_zero, List.set_cons_succ, List.getElem_toArray, List.getElem_cons_succ, List.getElem_cons_zero]
        refine wpAnyH_done (by kernel_rfl) ?_ _
        have hun := H2.out.uniq
        have hmo := mapOf_push HAT.out.uniq hun hpb
        obtain ⟨es2, ck2, hes2, hput⟩ := run_putV (b := w.heap.size + 1) (t := 30) (e := 3) Try.underlying30 HES.out HWK.out.1 (.int .i64 key)
        have hmbw := mapAt_lt HMB.out
        have hmb2 : mapAt w2 (w.heap.size + 1) es ck := (U2.out.block _ hmbw fun e => (HFP.out _ e).2 rfl).trans HMB.out
        have hp2 := hput w2.drew hmb2
        have hfp2 : ∀ b ∈ fp2, w.heap.size ≤ b ∧ b ≠ w.heap.size + 1 := by
          intro b hb
          rcases F2.out b hb with h | h
          · exact HFP.out b h
          · have : wr.heap.size ≤ b := h
            omega
        rw [← hmo] at hes2
        have hlen2 := pushF_len S (id, key)
        have HLEN2 := Lib.hid hlen2
        have HES2 := Lib.hid hes2
        have HFP2 := Lib.hid hfp2
        have HMBW := Lib.hid hmbw
        have HPB := Lib.hid hpb
        clear hun hmo hes2 hmbw hmb2 hfp2 hput hlen2
        go_wp2_with fail
        go_region
        go_wp2_with fail
        go_roundg (n - (k + 1))
        case measure => have := HM.out; omega
        case rel =>
          have hlt2 : w.heap.size + 1 < w2.heap.size := Nat.lt_of_lt_of_le HMBW.out U2.out.size
          refine ⟨k + 1, fp2, _, es2, ck2, rfl, by omega, by go_num, ?_, ?_, HFP2.out, ?_, ?_, HES2.out⟩
          · have := HLEN2.out; rw [HPB.out] at this; simp only [if_true] at this; omega
          · exact H2.out.upd (upd_setBlock (F := fun x => x = w.heap.size + 1) (upd_drew (Upd.refl _ _)) rfl _) fun b hb e => (HFP2.out b hb).2 e
          · exact HB2.out.trans (Upd.below (upd_setBlock (F := fun x => x = w.heap.size + 1) (upd_drew (Upd.refl _ _)) rfl _) HB2.out.size fun b hb e => by omega)
          · exact mapAt_setBlock hlt2
      | some k0 =>
        rw [hl] at hlook
        simp only [Option.map_some, Option.getD_some, Option.isSome_some] at hlook
        have hpb : pushB S (id, key) = decide (key < k0) := pushB_some HAT.out.uniq hl
        have HL := Lib.hid hl
        clear hl
        by_cases hlt2 : key < k0
        · have hd2 : decide (key < k0) = true := decide_eq_true hlt2
          rw [hd2] at hpb
          go_wp2_with fail
          go_region_held3 (fun w' => w'.cell? ⟨b, o + k * 2, none⟩ = some (.int .i64 id) ∧ w'.cell? ⟨b, o + k * 2 + 1, none⟩ = some (.int .i64 key)) (first | exact ⟨hc0, hc1⟩ | exact ⟨q0, q1⟩)
            (first
              | (go_at_call 17
                 refine (push_at HATD.out HWK.out HBIG.out).mono ?_
                 rintro e w2 ⟨rfl, fp2, h2', f2, u2⟩
                 have hb2 := HBD.out.trans (Upd.below u2 HBD.out.size HNF.out)
                 have q0 := cell_below HC0.out hb2
                 have q1 := cell_below HC1.out hb2
                 have H2 := Lib.hid h2'
                 have F2 := Lib.hid f2
                 have U2 := Lib.hid u2
                 have HB2 := Lib.hid hb2
                 clear h2' f2 u2 hb2))
          all_goals
            have hun := H2.out.uniq
            have hmo := mapOf_push HAT.out.uniq hun hpb
            obtain ⟨es2, ck2, hes2, hput⟩ := run_putV (b := w.heap.size + 1) (t := 30) (e := 3) Try.underlying30 HES.out HWK.out.1 (.int .i64 key)
            have hmbw := mapAt_lt HMB.out
            have hmb2 : mapAt w2 (w.heap.size + 1) es ck := (U2.out.block _ hmbw fun e => (HFP.out _ e).2 rfl).trans HMB.out
            have hp2 := hput w2.drew hmb2
            have hfp2 : ∀ b ∈ fp2, w.heap.size ≤ b ∧ b ≠ w.heap.size + 1 := by
              intro b hb
              rcases F2.out b hb with h | h
              · exact HFP.out b h
              · have : wr.heap.size ≤ b := h
                omega
            rw [← hmo] at hes2
            have hlen2 := pushF_len S (id, key)
            have HLEN2 := Lib.hid hlen2
            have HES2 := Lib.hid hes2
            have HFP2 := Lib.hid hfp2
            have HMBW := Lib.hid hmbw
            have HPB := Lib.hid hpb
            clear hun hmo hes2 hmbw hmb2 hfp2 hput hlen2
            go_wp2_with fail
            go_region
            go_wp2_with fail
            go_roundg (n - (k + 1))
            case measure => have := HM.out; omega
            case rel =>
              have hlt2 : w.heap.size + 1 < w2.heap.size := Nat.lt_of_lt_of_le HMBW.out U2.out.size
              refine ⟨k + 1, fp2, _, es2, ck2, rfl, by omega, by go_num, ?_, ?_, HFP2.out, ?_, ?_, HES2.out⟩
              · have := HLEN2.out; rw [HPB.out] at this; simp only [if_true] at this; omega
              · exact H2.out.upd (upd_setBlock (F := fun x => x = w.heap.size + 1) (upd_drew (Upd.refl _ _)) rfl _) fun b hb e => (HFP2.out b hb).2 e
              · exact HB2.out.trans (Upd.below (upd_setBlock (F := fun x => x = w.heap.size + 1) (upd_drew (Upd.refl _ _)) rfl _) HB2.out.size fun b hb e => by omega)
              · exact mapAt_setBlock hlt2
        · have hd2 : decide (key < k0) = false := decide_eq_false hlt2
          rw [hd2] at hpb
          go_wp2_with fail
          go_region_held3 (fun w' => w'.cell? ⟨b, o + k * 2, none⟩ = some (.int .i64 id) ∧ w'.cell? ⟨b, o + k * 2 + 1, none⟩ = some (.int .i64 key)) (first | exact ⟨hc0, hc1⟩ | exact ⟨q0, q1⟩)
            (first
              | (go_at_call 17
                 refine (push_at HATD.out HWK.out HBIG.out).mono ?_
                 rintro e w2 ⟨rfl, fp2, h2', f2, u2⟩
                 have hb2 := HBD.out.trans (Upd.below u2 HBD.out.size HNF.out)
                 have q0 := cell_below HC0.out hb2
                 have q1 := cell_below HC1.out hb2
                 have H2 := Lib.hid h2'
                 have F2 := Lib.hid f2
                 have U2 := Lib.hid u2
                 have HB2 := Lib.hid hb2
                 clear h2' f2 u2 hb2))
          all_goals
            have hmbw := mapAt_lt HMB.out
            have hmb2 : mapAt w2 (w.heap.size + 1) es ck := (U2.out.block _ hmbw fun e => (HFP.out _ e).2 rfl).trans HMB.out
            have hpn := pushF_not hpb
            have HPN := Lib.hid hpn
            have HMB2 := Lib.hid hmb2
            clear hmbw hmb2 hpn
            go_wp2_with fail
            go_roundg (n - (k + 1))
            case measure => have := HM.out; omega
            case rel =>
              have e := HPN.out
              refine ⟨k + 1, fp2, S, es, ck, rfl, by omega, by go_num, by omega, by have := H2.out; rw [e] at this; exact this, ?_, HB2.out, HMB2.out, HES.out⟩
              intro b hb
              rcases F2.out b hb with h | h
              · exact HFP.out b h
              · have : wr.heap.size ≤ b := h
                have := mapAt_lt HMB.out
                omega
    · have hkn : k = n := by omega
      subst hkn
      clear hlt
      have hsz := size_of HAT.out.sorted HAT.out.uniq HES.out
      have hlm : (Builtin.len_ #[30] 3 #[.map (some (w.heap.size + 1))]).run Try.prog wr = .ok (.int .i64 (S.length : Nat)) wr := by
        rw [← hsz]
        exact run_len_map (P := Try.prog) (w := wr) 30 3 (w.heap.size + 1) es ck (by kernel_rfl) HMB.out
      have hS1 : S.length ≤ 150 := by omega
      clear HBD HNF HATD
      go_wp2_with fail
      obtain ⟨sl, hsl⟩ : ∃ sl, sl = S.length := ⟨_, rfl⟩
      rw [← hsl] at hS1
      rw [← hsl]
      have HSL := Lib.hid hsl
      clear hlm hsz hsl hlS
      go_loopg [9, 10, 11] sl (fun m v u x wq => ∃ (j : Nat) (la fr : Int) (fp' : List Nat) (S' : List It) (es' : Array MapEntry) (ck' : Nat), m = sl - j ∧ j ≤ sl ∧ v = .int .i64 la ∧ u = .int .i64 fr ∧ x = .int .i64 (j : Nat) ∧
        S'.length + j = sl ∧ HeapAt wq w.heap.size fp' S' ∧ (∀ b ∈ fp', w.heap.size ≤ b ∧ b ≠ w.heap.size + 1) ∧ Below w.heap.size w wq ∧ mapAt wq (w.heap.size + 1) es' ck' ∧ EntV es' ck' (mapOf S') ∧ (j = 0 ∨ ∀ y ∈ S', HeapP.ahead (la, fr) y = true))
      case atStart => exact ⟨0, 0, 0, fp, S, es, ck, rfl, Nat.zero_le _, rfl, rfl, rfl, HSL.out.symm, HAT.out, HFP.out, HB.out, HMB.out, HES.out, .inl rfl⟩
      case round =>
        obtain ⟨j, la, fr, fp', S', es', ck', hm', hj, rfl, rfl, rfl, hlen', hat', hfp', hb', hmb', hes', hord'⟩ := hrel
        have HM' := Lib.hid hm'
        have HAT' := Lib.hid hat'
        have HFP' := Lib.hid hfp'
        have HB' := Lib.hid hb'
        have HMB' := Lib.hid hmb'
        have HES' := Lib.hid hes'
        have HORD' := Lib.hid hord'
        have HLEN' := Lib.hid hlen'
        clear hm' hat' hfp' hb' hmb' hes' hord' hlen'
        by_cases hlt : j < sl
        · cases S' with
          | nil => have := HLEN'.out; simp at this; omega
          | cons x T =>
            have hbig : (x :: T).length ≤ 1099511627776 := by have := HLEN'.out; omega
            have HBIG := Lib.hid hbig
            clear hbig
            go_wp2_with fail
            refine (pop_at HAT'.out HBIG.out).mono ?_
            rintro e w2 ⟨rfl, h2, u2⟩
            have hmb2 : mapAt w2 (w.heap.size + 1) es' ck' := (u2.block _ (mapAt_lt HMB'.out) fun e => (HFP'.out _ e).2 rfl).trans HMB'.out
            have hwx := HAT'.out.wf x (List.mem_cons_self ..)
            have hlook := run_lookV (t := 30) Try.underlying30 zeroInt HES'.out hwx.1 hmb2
            rw [mapOf_eq, lookS_mem HAT'.out.uniq (List.mem_cons_self ..)] at hlook
            simp only [Option.map_some, Option.getD_some, Option.isSome_some] at hlook
            obtain ⟨es2, hes2, hdel⟩ := run_delV (b := w.heap.size + 1) (t := 30) (e := 3) Try.underlying30 HES'.out hwx.1 0
            have hd2 := hdel w2 hmb2
            have hids := head_ids HAT'.out.sorted HAT'.out.uniq
            rw [mapOf_pop HAT'.out.uniq hids] at hes2
            have hlt2 := mapAt_lt hmb2
            have hb2 : Below w.heap.size w w2 := HB'.out.trans (u2.below HB'.out.size fun b hb e => by have := (HFP'.out b e).1; omega)
            have HB2 := Lib.hid hb2
            have H2 := Lib.hid h2
            have HES2 := Lib.hid hes2
            have HD2 := Lib.hid hd2
            have HLT2 := Lib.hid hlt2
            have hsrt := HAT'.out.sorted
            have HSRT := Lib.hid hsrt
            clear h2 hes2 hdel hmb2 hwx hids u2 hlt2 hb2 hsrt
            obtain ⟨i, key⟩ := x
            simp only at hlook hd2
            by_cases hj0 : j = 0
            · have hj1 : decide (0 < j) = false := by simp [hj0]
              go_wp2_with fail
              go_roundg (sl - (j + 1))
              case measure => have := HM'.out; omega
              case rel =>
                refine ⟨j + 1, i, key, fp', T, es2, ck', rfl, by omega, rfl, rfl, by go_num, ?_, ?_, HFP'.out, ?_, mapAt_setBlock HLT2.out, HES2.out, .inr ?_⟩
                · have := HLEN'.out; simp only [List.length_cons] at this; omega
                · exact H2.out.upd (upd_setBlock (F := fun x => x = w.heap.size + 1) (Upd.refl _ _) rfl _) fun b hb e => (HFP'.out b hb).2 e
                · exact HB2.out.trans (Upd.below (upd_setBlock (F := fun x => x = w.heap.size + 1) (Upd.refl _ _) rfl _) HB2.out.size fun b hb e => by omega)
                · exact (List.pairwise_cons.1 HSRT.out).1
            · have hj1 : decide (0 < j) = true := by simp; omega
              have ha : HeapP.ahead (la, fr) (i, key) = true := HORD'.out.resolve_left hj0 _ (List.mem_cons_self ..)
              rw [ahead_iff] at ha
              simp only at ha
              by_cases hkf : key = fr
              · subst hkf
                have hle : la < i := by omega
                have hle2 : decide (i ≤ la) = false := by simp; omega
                clear ha
                go_wp2_with fail
                go_roundg (sl - (j + 1))
                case measure => have := HM'.out; omega
                case rel =>
                  refine ⟨j + 1, i, key, fp', T, es2, ck', rfl, by omega, rfl, rfl, by go_num, ?_, ?_, HFP'.out, ?_, mapAt_setBlock HLT2.out, HES2.out, .inr ?_⟩
                  · have := HLEN'.out; simp only [List.length_cons] at this; omega
                  · exact H2.out.upd (upd_setBlock (F := fun x => x = w.heap.size + 1) (Upd.refl _ _) rfl _) fun b hb e => (HFP'.out b hb).2 e
                  · exact HB2.out.trans (Upd.below (upd_setBlock (F := fun x => x = w.heap.size + 1) (Upd.refl _ _) rfl _) HB2.out.size fun b hb e => by omega)
                  · exact (List.pairwise_cons.1 HSRT.out).1
              · have hk1 : decide (key < fr) = false := by simp; omega
                have hk2 : (key == fr) = false := by simpa using hkf
                clear ha
                go_wp2_with fail
                go_roundg (sl - (j + 1))
                case measure => have := HM'.out; omega
                case rel =>
                  refine ⟨j + 1, i, key, fp', T, es2, ck', rfl, by omega, rfl, rfl, by go_num, ?_, ?_, HFP'.out, ?_, mapAt_setBlock HLT2.out, HES2.out, .inr ?_⟩
                  · have := HLEN'.out; simp only [List.length_cons] at this; omega
                  · exact H2.out.upd (upd_setBlock (F := fun x => x = w.heap.size + 1) (Upd.refl _ _) rfl _) fun b hb e => (HFP'.out b hb).2 e
                  · exact HB2.out.trans (Upd.below (upd_setBlock (F := fun x => x = w.heap.size + 1) (Upd.refl _ _) rfl _) HB2.out.size fun b hb e => by omega)
                  · exact (List.pairwise_cons.1 HSRT.out).1
        · have hjn : j = sl := by omega
          subst hjn
          clear hlt
          have hl0 : S'.length = 0 := by have := HLEN'.out; omega
          cases S' with
          | cons y T => simp at hl0
          | nil =>
            clear hl0
            go_wp2_with fail
            refine (len_at HAT'.out).mono ?_
            rintro e w' ⟨rfl, rfl⟩
            go_wp2_with fail
            refine (awake4 _).mono ?_
            rintro e w' ⟨rfl, hb5⟩
            have hb6 : Below w.heap.size w w' := HB'.out.trans (hb5.mono HB'.out.size)
            go_wp2_with fail
            go_ret
            exact ⟨rfl, hb6⟩
theorem walk {W : World} (A : Option Addr) (n c : Nat) (xs : List (Int × Int)) (hk : ReadsP W A n c xs) :
    Calls Try.prog 7 #[.slice A n c] W fun e w' => e = .returned (.bool true) ∧ Below W.heap.size W w' := by
  by_cases h : 150 < n
  · have s1 := hk.small
    unfold maxLen at s1
    exact walk_out A n c (by omega) W h
  · exact walk_ins A n c xs W (by omega) hk
set_option maxRecDepth 100000 in
theorem lifted (os : Os) (started : os.Started) (H : Type) (enc : TypeId × Value → H) :
    ReturnsInHanded {} Try.checked os 7 .any (Rows.heapSortsSpec.pre6 enc Try.prog Try.f7 Rows.heapSortsRow.domain false) (Rows.heapSortsSpec.post enc Try.prog Try.f7 false true false false) := by
  refine returnsInHanded_of_change (C := Try.checked) own started (by kernel_rfl) Try.func7
    (ChangeSpec.witness6 (enc := enc) (C := Try.checked) false ⟨#[], #[.slice none 0 0], []⟩ 8 (by kernel_rfl) (by kernel_rfl) (by kernel_rfl) (by kernel_rfl)) ?_
  intro W base args ds gs before hval0 hW hcnd _
  have hval : ∀ (j : Nat) t v, Try.f7.params[j]? = some t → args[j]? = some v → Value.okWide Try.prog W .any base t v := hval0
  have hW' := hW
  obtain ⟨p, q, hA0, hV, rfl, hfz, hnd⟩ := hW
  have hA : DataW.TrodAll enc Try.prog W 0 (fun _ => true) true Try.f7.params.toList args.toList ds p := hA0
  rw [Try.params7] at hA hval
  obtain ⟨v0, vs0, d0, ds0, p0, q0, hargs, rfl, rfl, h0, r0⟩ := trodAll_cons hA
  obtain ⟨rfl, rfl, rfl⟩ := trodAll_nil r0
  obtain rfl : args = #[v0] := by cases args; simp_all
  obtain ⟨rfl, rfl⟩ := trodVars_none hV
  obtain ⟨a0, n0, c0, xs0, rfl, k0⟩ := open_reads2 (hval 0 27 v0 rfl rfl) h0
  refine (walk a0 n0 c0 xs0 k0).mono fun e W' ⟨he, hb⟩ => ?_
  subst he
  exact ⟨_, rfl, post_law hW' hb rfl rfl rfl rfl rfl (by rw [Try.params7]; exact readable_all (by kernel_rfl))⟩
theorem over : Rows.heapSortsRow.holds Try.pinned (OpenSpec.ofChange Rows.heapSortsSpec) :=
  OpenClaim.holds_of_wide 7 Try.f7 rfl rfl rfl rfl rfl rfl rfl ⟨rfl, rfl, rfl, rfl, rfl⟩ rfl rfl rfl rfl rfl (by kernel_rfl) Try.func7 (by kernel_rfl)
    (of_decide_eq_true (by kernel_rfl)) (by unfold Func.isWrapper; first | (rw [if_pos (by decide +kernel)]; kernel_rfl) | (rw [if_neg (by decide +kernel)]; exact ⟨rfl, rfl⟩))
    (fun os started H enc _ => lifted os started H enc)
theorem proved : Rows.HeapSortsSaid := over
#print axioms proved
end Go.Proofs.Ytojclogpjgeloaa.heapSorts
