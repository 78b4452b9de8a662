/- HeapActs: whatever is pushed and popped, each call tells, and each one's key, and how many there are, is what the document says. For every input, without a condition. -/
import Derived.Test.YtkdpfbefdhjmcaaHeapAwake
import Derived.Test.YtkdpfbefdhjmcaaHeap4Pop
import Derived.Test.YtkdpfbefdhjmcaaHeap4Use
import Derived.Test.YtkdpfbefdhjmcaaReadsP
import Derived.Test.YtkdpfbefdhjmcaaRow
import Derived.BigQuiet
import Derived.BigRegion
import Derived.Deep.RegionHeld3
import Derived.Deep.CutRange
set_option linter.unusedVariables false
set_option linter.unusedSimpArgs false
namespace Go.Proofs.Ytkdpfbefdhjmcaa.heapActs
open Go.ChangeShapes Go.WideShapes Go.ChangeAt Go.RowKit HeapP DistP
theorem len_still {w : World} {hb : Nat} {fp : List Nat} {S : List It} (h : HeapAt w hb fp S) : Calls Try.prog 13 #[.pointer (some ⟨hb, 0, none⟩)] w fun e w' => e = .returned (.int .i64 S.length) ∧ w' = w := (len_at h).mono fun e w' h => ⟨h.1, h.2.symm⟩
set_option maxRecDepth 100000 in
set_option maxHeartbeats 4000000 in
theorem walk_out (A : Option Addr) (n c : Nat) (hs : n ≤ 9223372036854775807) (w : World) (h : 100 < n) :
    Calls Try.prog 3 #[.slice A n c] w fun e w' => e = .returned (.bool true) ∧ Below w.heap.size w w' := by
  go_enter Try.func3, Try.ntmps3
  go_wp2_with (go_at_call 6; refine (awake4 _).mono ?_; rintro e w1 ⟨rfl, hb1⟩)
  go_ret
  exact ⟨rfl, by assumption⟩
set_option maxRecDepth 100000 in
set_option maxHeartbeats 16000000 in
theorem walk_ins (A : Option Addr) (n c : Nat) (xs : List (Int × Int)) (w : World) (hn : n ≤ 100) (hk : ReadsP w A n c xs) :
    Calls Try.prog 3 #[.slice A n c] w fun e w' => e = .returned (.bool true) ∧ Below w.heap.size w w' := by
  have HK := Lib.hid hk
  have hp0 := pnew (w.alloc (.cells #[.slice none 0 0, .map none] 28)) (.cells #[.slice none 0 0] 32)
  rw [size_alloc] at hp0
  have HS0 : Hid (H4 ((w.alloc (.cells #[.slice none 0 0, .map none] 28)).alloc (.cells #[.slice none 0 0] 32)) (w.heap.size + 1) none 0 []) := Lib.hid ⟨hp0, ⟨rfl, by decide, fun h => by simp at h, by simp⟩, ⟨Nat.le_refl _, by decide⟩, .inl ⟨rfl, rfl⟩⟩
  clear hk hp0
  go_enter Try.func3, Try.ntmps3
  go_wp2_with fail
  go_loopg [5] n (fun m v wr => ∃ (k : Nat) (fp : List Nat) (S : List It) (a' : Option Addr) (c' : Nat), m = n - k ∧ k ≤ n ∧ v = .int .i64 (k : Nat) ∧ S.length ≤ k ∧
    HeapAt wr w.heap.size fp S ∧ H4 wr (w.heap.size + 1) a' c' S ∧ (∀ b ∈ fp, w.heap.size ≤ b ∧ b ≠ w.heap.size + 1) ∧ (∀ b o, a' = some ⟨b, o, none⟩ → w.heap.size ≤ b ∧ b ∉ fp) ∧ Below w.heap.size w wr)
  case atStart => exact ⟨0, [w.heap.size], [], none, 0, rfl, Nat.zero_le _, rfl, Nat.le_refl _, (heapAt_new w).below (bl_alloc (Below.refl _ _) _), HS0.out, by simp, (fun b o e => by cases e), bl_alloc (bl_alloc (Below.refl _ _) _) _⟩
  case round =>
    obtain ⟨k, fp, S, ar, cr, hm, hk, rfl, hlS, hat, h4, hfp, hna, hb⟩ := hrel
    have HM := Lib.hid hm
    have HAT := Lib.hid hat
    have H4R := Lib.hid h4
    have HFP := Lib.hid hfp
    have HNA := Lib.hid hna
    have HB := Lib.hid hb
    clear hm hat h4 hfp hna hb
    have HBIG : Hid (S.length ≤ 1099511627776) := Lib.hid (by omega)
    have HNF : Hid (∀ b, b < w.heap.size → ¬ b ∈ fp) := Lib.hid fun b hb e => by have := (HFP.out b e).1; omega
    by_cases hlt : k < n
    · obtain ⟨b, o, rfl, hc⟩ := HK.out.cell (by omega)
      have hw01 := hc k hlt
      have hwk := getP_wf HK.out.wf k
      obtain ⟨x, hx⟩ : ∃ x, x = xs.getD k (0, 0) := ⟨_, rfl⟩
      rw [← hx] at hw01 hwk
      obtain ⟨id, key⟩ := x
      have hc0 := cell_below hw01.1 HB.out
      have hc1 := cell_below hw01.2 HB.out
      have HC0 := Lib.hid hw01.1
      have HC1 := Lib.hid hw01.2
      have HWK := Lib.hid hwk
      have HWI : Hid ((Lit.int .i64 id).wf = true) := Lib.hid hwk.1
      have k0 : (0 : Int) ≤ (k : Int) := by omega
      have k1 : (k : Int) < (n : Int) := by omega
      obtain ⟨r, hr⟩ : ∃ r, r = id.tmod 5 := ⟨_, rfl⟩
      have hrm : id.tmod 5 = r := hr.symm
      clear hc hwk hx hw01 hr
      by_cases h5 : r = 4
      · have t5 : (r == 4) = true := by simp [h5]
        clear h5
        cases S with
        | nil =>
          have HPN := Lib.hid (pop_at_nil HAT.out)
          have HP4 := Lib.hid (pop4_nil H4R.out)
          go_wp2_with fail
          refine HPN.out.mono ?_
          rintro e w1 ⟨rfl, rfl⟩
          go_wp2_with fail
          refine HP4.out.mono ?_
          rintro e w2 ⟨rfl, hb2⟩
          have hb3 : Below wr.heap.size wr (w2.alloc (.cells #[.int .i64 0, .int .i64 0] 38)) := bl_alloc hb2 _
          have hq := pnew w2 (.cells #[.int .i64 0, .int .i64 0] 38)
          have q0 := block_cell hq (j := 0) rfl
          have q1 := block_cell hq (j := 1) rfl
          obtain ⟨wq, hwq⟩ : ∃ wq, wq = w2.alloc (.cells #[.int .i64 0, .int .i64 0] 38) := ⟨_, rfl⟩
          rw [← hwq] at hb3 q0 q1
          have HWQ := Lib.hid hwq
          obtain ⟨fpq, hfpq⟩ : ∃ fpq, fpq = fp := ⟨_, rfl⟩
          obtain ⟨SQ, hSQ⟩ : ∃ SQ : List It, SQ = [] := ⟨_, rfl⟩
          have HAQ : Hid (HeapAt wq w.heap.size fpq SQ) := Lib.hid (by rw [hfpq, hSQ]; exact HAT.out.below hb3)
          have H4Q : Hid (H4 wq (w.heap.size + 1) ar cr SQ) := Lib.hid (by rw [hSQ]; exact H4R.out.below hb3)
          have HFQ : Hid (∀ b ∈ fpq, w.heap.size ≤ b ∧ b ≠ w.heap.size + 1) := Lib.hid (by rw [hfpq]; exact HFP.out)
          have HNQ : Hid (∀ b o, ar = some ⟨b, o, none⟩ → w.heap.size ≤ b ∧ b ∉ fpq) := Lib.hid (by rw [hfpq]; exact HNA.out)
          have HBQ : Hid (Below w.heap.size w wq) := Lib.hid (bl_then HB.out hb3)
          have HLQ : Hid (SQ.length ≤ k + 1) := Lib.hid (by rw [hSQ]; exact Nat.zero_le _)
          obtain ⟨aq, haq⟩ : ∃ aq, aq = ar := ⟨_, rfl⟩
          obtain ⟨cq, hcq⟩ : ∃ cq, cq = cr := ⟨_, rfl⟩
          rw [← haq, ← hcq] at H4Q
          rw [← haq] at HNQ
          clear hb2 hb3 hq hwq hfpq hSQ haq hcq
          go_upto_region 10 with fail
          rw [← HWQ.out]
          clear hc0 hc1
          have x0 := cell_below HC0.out HBQ.out
          have hlen := fun nq : Nat => len_still (HAQ.out.below (bl_drewN (Below.refl _ _) nq))
          have HLEN := Lib.hid hlen
          have hfi := find4_at H4Q.out id
          have c4 : wq.cell? ⟨w.heap.size + 1, 0, none⟩ = some (.slice aq SQ.length cq) := block_cell H4Q.out.hd (j := 0) rfl
          by_cases hf : findN SQ id < SQ.length
          · have hky := key_at HAQ.out (g_mem hf)
            rw [findN_at hf] at hky
            rw [show findI SQ id = (findN SQ id : Nat) by unfold findI; rw [if_pos hf]] at hfi
            obtain ⟨b4, o4, e4, hc4⟩ := H4Q.out.rd.cell (by omega)
            obtain ⟨_, d4⟩ := hc4 _ hf
            have hgk : (g SQ (findN SQ id)).2 = (SQ.getD (findN SQ id) (0, 0)).2 := rfl
            rw [← hgk] at d4
            obtain ⟨i, hi⟩ : ∃ i, i = findN SQ id := ⟨_, rfl⟩
            rw [← hi] at hky hfi d4 hf
            obtain ⟨kq, hkq⟩ : ∃ kq, kq = (g SQ i).2 := ⟨_, rfl⟩
            rw [← hkq] at hky d4
            subst e4
            have HKY := Lib.hid hky
            have HFI := Lib.hid hfi
            have i0 : (0 : Int) ≤ (i : Int) := by omega
            have i1 : (i : Int) < (SQ.length : Int) := by omega
            clear hlen hfi hky hc4 hgk hi hkq hf
            go_wp2_with fail
            refine HKY.out.mono ?_
            rintro e w1 ⟨rfl, rfl⟩
            go_wp2_with fail
            refine HFI.out.mono ?_
            rintro e w1 ⟨rfl, rfl⟩
            go_wp2_with fail
            go_quiet ((go_at_call 13; with_reducible refine Calls.quiet_of_same (HLEN.out _)))
            go_wp2_with fail
            go_roundg (n - (k + 1))
            case measure => have := HM.out; omega
            case rel =>
              refine ⟨k + 1, fpq, SQ, _, cq, rfl, by omega, by go_num, HLQ.out, HAQ.out.below (bl_drewN (Below.refl _ _) _), H4Q.out.below (bl_drewN (Below.refl _ _) _), HFQ.out, HNQ.out, bl_drewN HBQ.out _⟩
          · have hky := key_at_none HAQ.out HWI.out (findN_no hf)
            rw [show findI SQ id = -1 by unfold findI; rw [if_neg hf]] at hfi
            have HKY := Lib.hid hky
            have HFI := Lib.hid hfi
            clear hlen hfi hky hf
            go_wp2_with fail
            refine HKY.out.mono ?_
            rintro e w1 ⟨rfl, rfl⟩
            go_wp2_with fail
            refine HFI.out.mono ?_
            rintro e w1 ⟨rfl, rfl⟩
            go_wp2_with fail
            go_quiet ((go_at_call 13; with_reducible refine Calls.quiet_of_same (HLEN.out _)))
            go_wp2_with fail
            go_roundg (n - (k + 1))
            case measure => have := HM.out; omega
            case rel =>
              refine ⟨k + 1, fpq, SQ, _, cq, rfl, by omega, by go_num, HLQ.out, HAQ.out.below (bl_drewN (Below.refl _ _) _), H4Q.out.below (bl_drewN (Below.refl _ _) _), HFQ.out, HNQ.out, bl_drewN HBQ.out _⟩
        | cons y T =>
          obtain ⟨y0, y1⟩ := y
          have HPN := Lib.hid (pop_at HAT.out HBIG.out)
          go_wp2_with fail
          refine HPN.out.mono ?_
          rintro e w1 ⟨rfl, ha1, u1⟩
          have h41 := H4R.out.upd u1 (fun e => (HFP.out _ e).2 rfl) (fun b o e e2 => (HNA.out b o e).2 e2)
          have HP4 := Lib.hid (pop4_at h41)
          have hb1 : Below w.heap.size w w1 := HB.out.trans (u1.below HB.out.size HNF.out)
          have HA1 := Lib.hid ha1
          have HB1 := Lib.hid hb1
          have hltp : ∀ b ∈ fp, b < w1.heap.size := fun b hb => Nat.lt_of_lt_of_le (HAT.out.lt b hb) u1.size
          clear ha1 h41 hb1 u1
          go_wp2_with fail
          refine HP4.out.mono ?_
          rintro e w2 ⟨rfl, ⟨aq, cq, h42, ha42⟩, u2'⟩
          have hb2 : Below w.heap.size w w2 := HB1.out.trans (u2'.below HB1.out.size fun b hb e => by omega)
          have hb3 : Below w.heap.size w (w2.alloc (.cells #[.int .i64 y0, .int .i64 y1] 38)) := bl_alloc hb2 _
          have hq := pnew w2 (.cells #[.int .i64 y0, .int .i64 y1] 38)
          have q0 := block_cell hq (j := 0) rfl
          have q1 := block_cell hq (j := 1) rfl
          have HAQ0 : Hid (HeapAt (w2.alloc (.cells #[.int .i64 y0, .int .i64 y1] 38)) w.heap.size fp T) := Lib.hid ((HA1.out.upd u2' (fun b hb e => (HFP.out b hb).2 e)).below (bl_alloc (Below.refl _ _) _))
          have H4Q0 : Hid (H4 (w2.alloc (.cells #[.int .i64 y0, .int .i64 y1] 38)) (w.heap.size + 1) aq cq T) := Lib.hid (h42.below (bl_alloc (Below.refl _ _) _))
          have HNQ : Hid (∀ b o, aq = some ⟨b, o, none⟩ → w.heap.size ≤ b ∧ b ∉ fp) := Lib.hid fun b o e => by
            obtain ⟨o', e'⟩ := ha42 b o e
            exact HNA.out b o' e'
          obtain ⟨wq, hwq⟩ : ∃ wq, wq = w2.alloc (.cells #[.int .i64 y0, .int .i64 y1] 38) := ⟨_, rfl⟩
          rw [← hwq] at hb3 q0 q1 HAQ0 H4Q0
          have HWQ := Lib.hid hwq
          have HBQ := Lib.hid hb3
          have HLQ0 : Hid (T.length ≤ k + 1) := Lib.hid (by simp only [List.length_cons] at hlS; omega)
          obtain ⟨fpq, hfpq⟩ : ∃ fpq, fpq = fp := ⟨_, rfl⟩
          obtain ⟨SQ, hSQ⟩ : ∃ SQ : List It, SQ = T := ⟨_, rfl⟩
          have HAQ : Hid (HeapAt wq w.heap.size fpq SQ) := Lib.hid (by rw [hfpq, hSQ]; exact HAQ0.out)
          have H4Q : Hid (H4 wq (w.heap.size + 1) aq cq SQ) := Lib.hid (by rw [hSQ]; exact H4Q0.out)
          have HLQ : Hid (SQ.length ≤ k + 1) := Lib.hid (by rw [hSQ]; exact HLQ0.out)
          have HFQ : Hid (∀ b ∈ fpq, w.heap.size ≤ b ∧ b ≠ w.heap.size + 1) := Lib.hid (by rw [hfpq]; exact HFP.out)
          rw [← hfpq] at HNQ
          clear hb2 hb3 hq hwq hfpq hSQ h42 ha42 u2' hltp
          go_upto_region 10 with fail
          rw [← HWQ.out]
          clear hc0 hc1
          have x0 := cell_below HC0.out HBQ.out
          have hlen := fun nq : Nat => len_still (HAQ.out.below (bl_drewN (Below.refl _ _) nq))
          have HLEN := Lib.hid hlen
          have hfi := find4_at H4Q.out id
          have c4 : wq.cell? ⟨w.heap.size + 1, 0, none⟩ = some (.slice aq SQ.length cq) := block_cell H4Q.out.hd (j := 0) rfl
          by_cases hf : findN SQ id < SQ.length
          · have hky := key_at HAQ.out (g_mem hf)
            rw [findN_at hf] at hky
            rw [show findI SQ id = (findN SQ id : Nat) by unfold findI; rw [if_pos hf]] at hfi
            obtain ⟨b4, o4, e4, hc4⟩ := H4Q.out.rd.cell (by omega)
            obtain ⟨_, d4⟩ := hc4 _ hf
            have hgk : (g SQ (findN SQ id)).2 = (SQ.getD (findN SQ id) (0, 0)).2 := rfl
            rw [← hgk] at d4
            obtain ⟨i, hi⟩ : ∃ i, i = findN SQ id := ⟨_, rfl⟩
            rw [← hi] at hky hfi d4 hf
            obtain ⟨kq, hkq⟩ : ∃ kq, kq = (g SQ i).2 := ⟨_, rfl⟩
            rw [← hkq] at hky d4
            subst e4
            have HKY := Lib.hid hky
            have HFI := Lib.hid hfi
            have i0 : (0 : Int) ≤ (i : Int) := by omega
            have i1 : (i : Int) < (SQ.length : Int) := by omega
            clear hlen hfi hky hc4 hgk hi hkq hf
            go_wp2_with fail
            refine HKY.out.mono ?_
            rintro e w1 ⟨rfl, rfl⟩
            go_wp2_with fail
            refine HFI.out.mono ?_
            rintro e w1 ⟨rfl, rfl⟩
            go_wp2_with fail
            go_quiet ((go_at_call 13; with_reducible refine Calls.quiet_of_same (HLEN.out _)))
            go_wp2_with fail
            go_roundg (n - (k + 1))
            case measure => have := HM.out; omega
            case rel =>
              refine ⟨k + 1, fpq, SQ, _, cq, rfl, by omega, by go_num, HLQ.out, HAQ.out.below (bl_drewN (Below.refl _ _) _), H4Q.out.below (bl_drewN (Below.refl _ _) _), HFQ.out, HNQ.out, bl_drewN HBQ.out _⟩
          · have hky := key_at_none HAQ.out HWI.out (findN_no hf)
            rw [show findI SQ id = -1 by unfold findI; rw [if_neg hf]] at hfi
            have HKY := Lib.hid hky
            have HFI := Lib.hid hfi
            clear hlen hfi hky hf
            go_wp2_with fail
            refine HKY.out.mono ?_
            rintro e w1 ⟨rfl, rfl⟩
            go_wp2_with fail
            refine HFI.out.mono ?_
            rintro e w1 ⟨rfl, rfl⟩
            go_wp2_with fail
            go_quiet ((go_at_call 13; with_reducible refine Calls.quiet_of_same (HLEN.out _)))
            go_wp2_with fail
            go_roundg (n - (k + 1))
            case measure => have := HM.out; omega
            case rel =>
              refine ⟨k + 1, fpq, SQ, _, cq, rfl, by omega, by go_num, HLQ.out, HAQ.out.below (bl_drewN (Below.refl _ _) _), H4Q.out.below (bl_drewN (Below.refl _ _) _), HFQ.out, HNQ.out, bl_drewN HBQ.out _⟩
      · have t5 : (r == 4) = false := beq_false_of_ne h5
        clear h5
        have hhp := push_at (HAT.out.below (bl_drew (Below.refl _ _))) HWK.out HBIG.out
        have HHP := Lib.hid hhp
        have HBD : Hid (Below w.heap.size w wr.drew) := Lib.hid (bl_drew HB.out)
        have h0d := cell_below HC0.out HBD.out
        have h1d := cell_below HC1.out HBD.out
        clear hhp
        go_wp2_with fail
        refine wp_region_held_drew (S := fun w' => w'.cell? ⟨b, o + k * 2, none⟩ = some (.int .i64 id) ∧ w'.cell? ⟨b, o + k * 2 + 1, none⟩ = some (.int .i64 key)) (by kernel_rfl) ⟨h0d, h1d⟩ (fun hHeld => ?_)
        refine wpAnyH_take (i := 0) (v := ?_) rfl (by kernel_rfl) (by kernel_rfl) (by kernel_rfl) (fun _ _ _ h => h) (Or.inl ⟨by rfl, ?_⟩) (by assumption) ?_
        rotate_left
        · intro w hSw; (try dsimp only at hSw); go_simp <;> with_reducible rfl
        (try simp only [Act.put, List.setIfInBounds_toArray, List.set_cons_zero, List.set_cons_succ, List.getElem_toArray, List.getElem_cons_succ, List.getElem_cons_zero])
        refine wpAnyH_take (i := 1) (v := ?_) rfl (by kernel_rfl) (by kernel_rfl) (by kernel_rfl) (fun _ _ _ h => h) (Or.inl ⟨by rfl, ?_⟩) (by assumption) ?_
        rotate_left
        · intro w hSw; (try dsimp only at hSw); go_simp <;> with_reducible rfl
        (try simp only [Act.put, List.setIfInBounds_toArray, List.set_cons_zero, List.set_cons_succ, List.getElem_toArray, List.getElem_cons_succ, List.getElem_cons_zero])
        refine wpAnyH_take (i := 2) (v := ?_) rfl (by kernel_rfl) (by kernel_rfl) (by kernel_rfl) (fun _ _ _ h => h) (Or.inl ⟨by rfl, ?_⟩) (by assumption) ?_
        rotate_left
        · intro w hSw; (try dsimp only at hSw); go_simp <;> with_reducible rfl
        (try simp only [Act.put, List.setIfInBounds_toArray, List.set_cons_zero, List.set_cons_succ, List.getElem_toArray, List.getElem_cons_succ, List.getElem_cons_zero])
        refine wpAnyH_take (i := 3) (v := ?_) rfl (by kernel_rfl) (by kernel_rfl) (by kernel_rfl) (fun _ _ _ h => h) (Or.inl ⟨by rfl, ?_⟩) (by assumption) ?_
        rotate_left
        · intro w hSw; (try dsimp only at hSw); go_simp <;> with_reducible rfl
        (try simp only [Act.put, List.setIfInBounds_toArray, List.set_cons_zero, List.set_cons_succ, List.getElem_toArray, List.getElem_cons_succ, List.getElem_cons_zero])
        refine wpAnyH_take (i := 4) (v := ?_) rfl (by kernel_rfl) (by kernel_rfl) (by kernel_rfl) (fun _ _ _ h => h) (Or.inl ⟨by rfl, ?_⟩) (by assumption) ?_
        rotate_left
        · intro w hSw; (try dsimp only at hSw); go_simp <;> with_reducible rfl
        (try simp only [Act.put, List.setIfInBounds_toArray, List.set_cons_zero, List.set_cons_succ, List.getElem_toArray, List.getElem_cons_succ, List.getElem_cons_zero])
        refine wpAnyH_take (i := 5) (v := ?_) rfl (by kernel_rfl) (by kernel_rfl) (by kernel_rfl) (fun _ _ _ h => h) (Or.inl ⟨by rfl, ?_⟩) (by assumption) ?_
        rotate_left
        · intro w hSw; (try dsimp only at hSw); go_simp <;> with_reducible rfl
        (try simp only [Act.put, List.setIfInBounds_toArray, List.set_cons_zero, List.set_cons_succ, List.getElem_toArray, List.getElem_cons_succ, List.getElem_cons_zero])
        refine wpAnyH_take (i := 6) (v := ?_) rfl (by kernel_rfl) (by kernel_rfl) (by kernel_rfl) (fun _ _ _ h => h) (Or.inl ⟨by rfl, ?_⟩) (by assumption) ?_
        rotate_left
        · intro w hSw; (try dsimp only at hSw); go_simp <;> with_reducible rfl
        (try simp only [Act.put, List.setIfInBounds_toArray, List.set_cons_zero, List.set_cons_succ, List.getElem_toArray, List.getElem_cons_succ, List.getElem_cons_zero])
        refine wpAnyH_take (i := 7) (v := ?_) rfl (by kernel_rfl) (by kernel_rfl) (by kernel_rfl) (fun _ _ _ h => h) (Or.inl ⟨by rfl, ?_⟩) (by assumption) ?_
        rotate_left
        · intro w hSw; (try dsimp only at hSw); go_simp <;> with_reducible rfl
        (try simp only [Act.put, List.setIfInBounds_toArray, List.set_cons_zero, List.set_cons_succ, List.getElem_toArray, List.getElem_cons_succ, List.getElem_cons_zero])
        refine wpAnyH_take (i := 8) (v := ?_) rfl (by kernel_rfl) (by kernel_rfl) (by kernel_rfl) (fun _ _ _ h => h) (Or.inl ⟨by rfl, ?_⟩) (by assumption) ?_
        rotate_left
        · intro w hSw; (try dsimp only at hSw); go_simp <;> with_reducible rfl
        (try simp only [Act.put, List.setIfInBounds_toArray, List.set_cons_zero, List.set_cons_succ, List.getElem_toArray, List.getElem_cons_succ, List.getElem_cons_zero])
        refine wpAnyH_take (i := 9) (v := ?_) rfl (by kernel_rfl) (by kernel_rfl) (by kernel_rfl) (fun _ _ _ h => h) (Or.inl ⟨by rfl, ?_⟩) (by assumption) ?_
        rotate_left
        · intro w hSw; (try dsimp only at hSw); go_simp <;> with_reducible rfl
        (try simp only [Act.put, List.setIfInBounds_toArray, List.set_cons_zero, List.set_cons_succ, List.getElem_toArray, List.getElem_cons_succ, List.getElem_cons_zero])
        refine wpAnyH_take (i := 10) (v := ?_) rfl (by kernel_rfl) (by kernel_rfl) (by kernel_rfl) (fun _ _ _ h => h) (Or.inl ⟨by rfl, ?_⟩) (by assumption) ?_
        rotate_left
        · intro w hSw; (try dsimp only at hSw); go_simp <;> with_reducible rfl
        (try simp only [Act.put, List.setIfInBounds_toArray, List.set_cons_zero, List.set_cons_succ, List.getElem_toArray, List.getElem_cons_succ, List.getElem_cons_zero])
        refine wpAnyH_take (i := 12) (v := ?_) rfl (by kernel_rfl) (by kernel_rfl) (by kernel_rfl) (fun _ _ _ h => h) (Or.inl ⟨by rfl, ?_⟩) (by assumption) ?_
        rotate_left
        · intro w hSw; (try dsimp only at hSw); go_simp <;> with_reducible rfl
        (try simp only [Act.put, List.setIfInBounds_toArray, List.set_cons_zero, List.set_cons_succ, List.getElem_toArray, List.getElem_cons_succ, List.getElem_cons_zero])
        refine wpAnyH_take (i := 13) (v := ?_) rfl (by kernel_rfl) (by kernel_rfl) (by kernel_rfl) (fun _ _ _ h => h) (Or.inl ⟨by rfl, ?_⟩) (by assumption) ?_
        rotate_left
        · intro w hSw; (try dsimp only at hSw); go_simp <;> with_reducible rfl
        (try simp only [Act.put, List.setIfInBounds_toArray, List.set_cons_zero, List.set_cons_succ, List.getElem_toArray, List.getElem_cons_succ, List.getElem_cons_zero])
        refine wpAnyH_take (i := 14) (v := ?_) rfl (by kernel_rfl) (by kernel_rfl) (by kernel_rfl) (fun _ _ _ h => h) (Or.inl ⟨by rfl, ?_⟩) (by assumption) ?_
        rotate_left
        · intro w hSw; (try dsimp only at hSw); go_simp <;> with_reducible rfl
        (try simp only [Act.put, List.setIfInBounds_toArray, List.set_cons_zero, List.set_cons_succ, List.getElem_toArray, List.getElem_cons_succ, List.getElem_cons_zero])
        refine wpAnyH_take (i := 15) (v := ?_) rfl (by kernel_rfl) (by kernel_rfl) (by kernel_rfl) (fun _ _ _ h => h) (Or.inl ⟨by rfl, ?_⟩) (by assumption) ?_
        rotate_left
        · intro w hSw; (try dsimp only at hSw); go_simp <;> with_reducible rfl
        (try simp only [Act.put, List.setIfInBounds_toArray, List.set_cons_zero, List.set_cons_succ, List.getElem_toArray, List.getElem_cons_succ, List.getElem_cons_zero])
        refine wpAnyH_take (i := 16) (v := ?_) rfl (by kernel_rfl) (by kernel_rfl) (by kernel_rfl) (fun _ _ _ h => h) (Or.inl ⟨by rfl, ?_⟩) (by assumption) ?_
        rotate_left
        · intro w hSw; (try dsimp only at hSw); go_simp <;> with_reducible rfl
        (try simp only [Act.put, List.setIfInBounds_toArray, List.set_cons_zero, List.set_cons_succ, List.getElem_toArray, List.getElem_cons_succ, List.getElem_cons_zero])
        refine wpAnyH_take (i := 17) (v := ?_) rfl (by kernel_rfl) (by kernel_rfl) (by kernel_rfl) (fun _ _ _ h => h) (Or.inl ⟨by rfl, ?_⟩) (by assumption) ?_
        rotate_left
        · intro w hSw; (try dsimp only at hSw); go_simp <;> with_reducible rfl
        (try simp only [Act.put, List.setIfInBounds_toArray, List.set_cons_zero, List.set_cons_succ, List.getElem_toArray, List.getElem_cons_succ, List.getElem_cons_zero])
        refine wpAnyH_take (i := 18) (v := ?_) rfl (by kernel_rfl) (by kernel_rfl) (by kernel_rfl) (fun _ _ _ h => h) (Or.inl ⟨by rfl, ?_⟩) (by assumption) ?_
        rotate_left
        · intro w hSw; (try dsimp only at hSw); go_simp <;> with_reducible rfl
        (try simp only [Act.put, List.setIfInBounds_toArray, List.set_cons_zero, List.set_cons_succ, List.getElem_toArray, List.getElem_cons_succ, List.getElem_cons_zero])
        refine wpAnyH_take (i := 19) (v := ?_) rfl (by kernel_rfl) (by kernel_rfl) (by kernel_rfl) (fun _ _ _ h => h) (Or.inl ⟨by rfl, ?_⟩) (by assumption) ?_
        rotate_left
        · intro w hSw; (try dsimp only at hSw); go_simp <;> with_reducible rfl
        (try simp only [Act.put, List.setIfInBounds_toArray, List.set_cons_zero, List.set_cons_succ, List.getElem_toArray, List.getElem_cons_succ, List.getElem_cons_zero])
        refine wpAnyH_take (i := 20) (v := ?_) rfl (by kernel_rfl) (by kernel_rfl) (by kernel_rfl) (fun _ _ _ h => h) (Or.inl ⟨by rfl, ?_⟩) (by assumption) ?_
        rotate_left
        · intro w hSw; (try dsimp only at hSw); go_simp <;> with_reducible rfl
        (try simp only [Act.put, List.setIfInBounds_toArray, List.set_cons_zero, List.set_cons_succ, List.getElem_toArray, List.getElem_cons_succ, List.getElem_cons_zero])
        refine wpAnyH_take (i := 21) (v := ?_) rfl (by kernel_rfl) (by kernel_rfl) (by kernel_rfl) (fun _ _ _ h => h) (Or.inl ⟨by rfl, ?_⟩) (by assumption) ?_
        rotate_left
        · intro w hSw; (try dsimp only at hSw); go_simp <;> with_reducible rfl
        (try simp only [Act.put, List.setIfInBounds_toArray, List.set_cons_zero, List.set_cons_succ, List.getElem_toArray, List.getElem_cons_succ, List.getElem_cons_zero])
        refine wpAnyH_take (i := 22) (v := ?_) rfl (by kernel_rfl) (by kernel_rfl) (by kernel_rfl) (fun _ _ _ h => h) (Or.inl ⟨by rfl, ?_⟩) (by assumption) ?_
        rotate_left
        · intro w hSw; (try dsimp only at hSw); go_simp <;> with_reducible rfl
        (try simp only [Act.put, List.setIfInBounds_toArray, List.set_cons_zero, List.set_cons_succ, List.getElem_toArray, List.getElem_cons_succ, List.getElem_cons_zero])
        refine wpAnyH_ready (rs := [11]) (by kernel_rfl) (by simp) ?_
        refine AllReadyH.cons rfl (fun K hK => ?_) AllReadyH.nil
        go_simp
        with_reducible refine HHP.out.mono ?_
        rintro e w2 ⟨rfl, fp2, h2', f2, u2⟩
        have hb2 : Below w.heap.size w w2 := HBD.out.trans (u2.below HBD.out.size HNF.out)
        have hltp : ∀ b ∈ fp, b < wr.heap.size := HAT.out.lt
        have hfp2 : ∀ b ∈ fp2, w.heap.size ≤ b ∧ b ≠ w.heap.size + 1 := fun b hb => by
          rcases f2 b hb with h1 | h1
          · exact HFP.out b h1
          · have h2 : wr.heap.size ≤ b := h1
            have h3 := (Array.getElem?_eq_some_iff.1 H4R.out.hd).1
            have h4 := HB.out.size
            omega
        have hna2 : ∀ b o, ar = some ⟨b, o, none⟩ → w.heap.size ≤ b ∧ b ∉ fp2 := fun b o e => by
          refine ⟨(HNA.out b o e).1, fun hb => ?_⟩
          rcases f2 b hb with h1 | h1
          · exact (HNA.out b o e).2 h1
          · have h2 : wr.heap.size ≤ b := h1
            rcases H4R.out.at_ with ⟨e1, _⟩ | ⟨b', o', e1, _, e3⟩
            · rw [e1] at e; cases e
            · rw [e1] at e; injection e with e; injection e with e4 _ _; omega
        have h42 : H4 w2 (w.heap.size + 1) ar cr S := (H4R.out.below (bl_drew (Below.refl _ _))).upd u2 (fun e => (HFP.out _ e).2 rfl) (fun b o e e2 => (HNA.out b o e).2 e2)
        have hp4 := push4_at h42 HAT.out.sorted HAT.out.uniq HWK.out HBIG.out
        have g0 := cell_below HC0.out hb2
        have g1 := cell_below HC1.out hb2
        have HP4 := Lib.hid hp4
        have H2 := Lib.hid h2'
        have HB2 := Lib.hid hb2
        have HFP2 := Lib.hid hfp2
        have HNA2 := Lib.hid hna2
        clear h2' f2 u2 hb2 hltp hfp2 hna2 h42 hp4 HHP
        refine hK.out _ _ ⟨g0, g1⟩ (fun hHeld => ?_)
        (try simp only [Act.put, List.setIfInBounds_toArray, List.set_cons_zero, List.set_cons_succ, List.getElem_toArray, List.getElem_cons_succ, List.getElem_cons_zero])
        refine wpAnyH_ready (rs := [23]) (by kernel_rfl) (by simp) ?_
        refine AllReadyH.cons rfl (fun K hK => ?_) AllReadyH.nil
        go_simp
        with_reducible refine HP4.out.mono ?_
        rintro e w3 ⟨rfl, ⟨aq, cq, h43, ha43⟩, u3⟩
        have hb3 : Below w.heap.size w w3 := HB2.out.trans (u3.below HB2.out.size fun b hb e => by omega)
        have x0' := cell_below HC0.out hb3
        have x1' := cell_below HC1.out hb3
        have HAQ0 : Hid (HeapAt w3 w.heap.size fp2 (pushF S (id, key))) := Lib.hid (H2.out.upd u3 (fun b hb e => (HFP2.out b hb).2 e))
        have H4Q0 := Lib.hid h43
        have hf2 : ∀ b ∈ fp2, b < w2.heap.size := H2.out.lt
        have HNQ : Hid (∀ b o, aq = some ⟨b, o, none⟩ → w.heap.size ≤ b ∧ b ∉ fp2) := Lib.hid fun b o e => by
          rcases ha43 b o e with ⟨o', e'⟩ | h1
          · exact HNA2.out b o' e'
          · exact ⟨Nat.le_trans HB2.out.size h1, fun h => by have := hf2 b h; omega⟩
        have HLQ0 : Hid ((pushF S (id, key)).length ≤ k + 1) := Lib.hid (by have := pushF_len S (id, key); split at this <;> omega)
        have HBQ0 := Lib.hid hb3
        obtain ⟨pb, hpb⟩ : ∃ pb, pb = pushB S (id, key) := ⟨_, rfl⟩
        rw [← hpb]
        have tpb : (pb != pb) = false := by simp
        clear h43 ha43 u3 hb3 hf2 hpb
        refine hK.out _ _ ⟨x0', x1'⟩ (fun hHeld => ?_)
        (try simp only [Act.put, List.setIfInBounds_toArray, List.set_cons_zero, List.set_cons_succ, List.getElem_toArray, List.getElem_cons_succ, List.getElem_cons_zero])
        refine wpAnyH_take (i := 24) (v := ?_) rfl (by kernel_rfl) (by kernel_rfl) (by kernel_rfl) (fun _ _ _ h => h) (Or.inl ⟨by rfl, ?_⟩) (by assumption) ?_
        rotate_left
        · intro w hSw; (try dsimp only at hSw); go_simp <;> with_reducible rfl
        (try simp only [Act.put, List.setIfInBounds_toArray, List.set_cons_zero, List.set_cons_succ, List.getElem_toArray, List.getElem_cons_succ, List.getElem_cons_zero])
        refine wpAnyH_done (by kernel_rfl) ?_ _
        obtain ⟨wq, hwq⟩ : ∃ wq, wq = w3 := ⟨_, rfl⟩
        obtain ⟨fpq, hfpq⟩ : ∃ fpq, fpq = fp2 := ⟨_, rfl⟩
        obtain ⟨SQ, hSQ⟩ : ∃ SQ : List It, SQ = pushF S (id, key) := ⟨_, rfl⟩
        rw [← hwq, ← hfpq, ← hSQ] at HAQ0
        rw [← hwq, ← hSQ] at H4Q0
        rw [← hwq] at HBQ0
        rw [← hSQ] at HLQ0
        rw [← hfpq] at HFP2 HNQ
        rw [← hwq]
        have HAQ := HAQ0
        have H4Q := H4Q0
        have HBQ := HBQ0
        have HLQ := HLQ0
        have HFQ := HFP2
        clear hc0 hc1 h0d h1d g0 g1 x0' x1' hwq hfpq hSQ
        have x0 := cell_below HC0.out HBQ.out
        have hlen := fun nq : Nat => len_still (HAQ.out.below (bl_drewN (Below.refl _ _) nq))
        have HLEN := Lib.hid hlen
        have hfi := find4_at H4Q.out id
        have c4 : wq.cell? ⟨w.heap.size + 1, 0, none⟩ = some (.slice aq SQ.length cq) := block_cell H4Q.out.hd (j := 0) rfl
        by_cases hf : findN SQ id < SQ.length
        · have hky := key_at HAQ.out (g_mem hf)
          rw [findN_at hf] at hky
          rw [show findI SQ id = (findN SQ id : Nat) by unfold findI; rw [if_pos hf]] at hfi
          obtain ⟨b4, o4, e4, hc4⟩ := H4Q.out.rd.cell (by omega)
          obtain ⟨_, d4⟩ := hc4 _ hf
          have hgk : (g SQ (findN SQ id)).2 = (SQ.getD (findN SQ id) (0, 0)).2 := rfl
          rw [← hgk] at d4
          obtain ⟨i, hi⟩ : ∃ i, i = findN SQ id := ⟨_, rfl⟩
          rw [← hi] at hky hfi d4 hf
          obtain ⟨kq, hkq⟩ : ∃ kq, kq = (g SQ i).2 := ⟨_, rfl⟩
          rw [← hkq] at hky d4
          subst e4
          have HKY := Lib.hid hky
          have HFI := Lib.hid hfi
          have i0 : (0 : Int) ≤ (i : Int) := by omega
          have i1 : (i : Int) < (SQ.length : Int) := by omega
          clear hlen hfi hky hc4 hgk hi hkq hf
          go_wp2_with fail
          refine HKY.out.mono ?_
          rintro e w1 ⟨rfl, rfl⟩
          go_wp2_with fail
          refine HFI.out.mono ?_
          rintro e w1 ⟨rfl, rfl⟩
          go_wp2_with fail
          go_quiet ((go_at_call 13; with_reducible refine Calls.quiet_of_same (HLEN.out _)))
          go_wp2_with fail
          go_roundg (n - (k + 1))
          case measure => have := HM.out; omega
          case rel =>
            refine ⟨k + 1, fpq, SQ, _, cq, rfl, by omega, by go_num, HLQ.out, HAQ.out.below (bl_drewN (Below.refl _ _) _), H4Q.out.below (bl_drewN (Below.refl _ _) _), HFQ.out, HNQ.out, bl_drewN HBQ.out _⟩
        · have hky := key_at_none HAQ.out HWI.out (findN_no hf)
          rw [show findI SQ id = -1 by unfold findI; rw [if_neg hf]] at hfi
          have HKY := Lib.hid hky
          have HFI := Lib.hid hfi
          clear hlen hfi hky hf
          go_wp2_with fail
          refine HKY.out.mono ?_
          rintro e w1 ⟨rfl, rfl⟩
          go_wp2_with fail
          refine HFI.out.mono ?_
          rintro e w1 ⟨rfl, rfl⟩
          go_wp2_with fail
          go_quiet ((go_at_call 13; with_reducible refine Calls.quiet_of_same (HLEN.out _)))
          go_wp2_with fail
          go_roundg (n - (k + 1))
          case measure => have := HM.out; omega
          case rel =>
            refine ⟨k + 1, fpq, SQ, _, cq, rfl, by omega, by go_num, HLQ.out, HAQ.out.below (bl_drewN (Below.refl _ _) _), H4Q.out.below (bl_drewN (Below.refl _ _) _), HFQ.out, HNQ.out, bl_drewN HBQ.out _⟩
    · have hkn : n = k := by omega
      subst hkn
      clear hlt
      go_wp2_with fail
      refine (awake4 _).mono ?_
      rintro e w5 ⟨rfl, hb5⟩
      have hb6 : Below w.heap.size w w5 := bl_then HB.out hb5
      clear hb5
      go_wp2_with fail
      go_ret
      exact ⟨rfl, hb6⟩
theorem walk {W : World} (A : Option Addr) (n c : Nat) (xs : List (Int × Int)) (hk : ReadsP W A n c xs) :
    Calls Try.prog 3 #[.slice A n c] W fun e w' => e = .returned (.bool true) ∧ Below W.heap.size W w' := by
  by_cases h : 100 < n
  · have s1 := hk.small
    unfold maxLen at s1
    exact walk_out A n c (by omega) W h
  · exact walk_ins A n c xs W (by omega) hk
set_option maxRecDepth 100000 in
theorem lifted (os : Os) (started : os.Started) (H : Type) (enc : TypeId × Value → H) :
    ReturnsInHanded {} Try.checked os 3 .any (Rows.heapActsSpec.pre6 enc Try.prog Try.f3 Rows.heapActsRow.domain false) (Rows.heapActsSpec.post enc Try.prog Try.f3 false true false false) := by
  refine returnsInHanded_of_change (C := Try.checked) own started (by kernel_rfl) Try.func3
    (ChangeSpec.witness6 (enc := enc) (C := Try.checked) false ⟨#[], #[.slice none 0 0], []⟩ 8 (by kernel_rfl) (by kernel_rfl) (by kernel_rfl) (by kernel_rfl)) ?_
  intro W base args ds gs before hval0 hW hcnd _
  have hval : ∀ (j : Nat) t v, Try.f3.params[j]? = some t → args[j]? = some v → Value.okWide Try.prog W .any base t v := hval0
  have hW' := hW
  obtain ⟨p, q, hA0, hV, rfl, hfz, hnd⟩ := hW
  have hA : DataW.TrodAll enc Try.prog W 0 (fun _ => true) true Try.f3.params.toList args.toList ds p := hA0
  rw [Try.params3] at hA hval
  obtain ⟨v0, vs0, d0, ds0, p0, q0, hargs, rfl, rfl, h0, r0⟩ := trodAll_cons hA
  obtain ⟨rfl, rfl, rfl⟩ := trodAll_nil r0
  obtain rfl : args = #[v0] := by cases args; simp_all
  obtain ⟨rfl, rfl⟩ := trodVars_none hV
  obtain ⟨a0, n0, c0, xs0, rfl, k0⟩ := open_reads2 (hval 0 22 v0 rfl rfl) h0
  refine (walk a0 n0 c0 xs0 k0).mono fun e W' ⟨he, hb⟩ => ?_
  subst he
  exact ⟨_, rfl, post_law hW' hb rfl rfl rfl rfl rfl (by rw [Try.params3]; exact readable_all (by kernel_rfl))⟩
theorem over : Rows.heapActsRow.holds Try.pinned (OpenSpec.ofChange Rows.heapActsSpec) :=
  OpenClaim.holds_of_wide 3 Try.f3 rfl rfl rfl rfl rfl rfl rfl ⟨rfl, rfl, rfl, rfl, rfl⟩ rfl rfl rfl rfl rfl (by kernel_rfl) Try.func3 (by kernel_rfl)
    (of_decide_eq_true (by kernel_rfl)) (by unfold Func.isWrapper; first | (rw [if_pos (by decide +kernel)]; kernel_rfl) | (rw [if_neg (by decide +kernel)]; exact ⟨rfl, rfl⟩))
    (fun os started H enc _ => lifted os started H enc)
theorem proved : Rows.HeapActsSaid := over
#print axioms proved
end Go.Proofs.Ytkdpfbefdhjmcaa.heapActs
