/- HeapHalves: what is pushed in whatever order comes out in one; popped half way and pushed again it is as before. For every input, without a condition. -/
import Derived.Test.YtojclogpjgeloaaHeapAwake
import Derived.Test.YtojclogpjgeloaaReadsP
import Derived.Test.YtojclogpjgeloaaHeapBest
import Derived.Test.YtojclogpjgeloaaRound
import Derived.StillTailTactics
import Derived.BigRegion
import Derived.Deep.RegionHeld3
import Derived.Maps.AppendAt
set_option linter.unusedVariables false
set_option linter.unusedSimpArgs false
namespace Go.Proofs.Ytojclogpjgeloaa.heapHalves
open Go.ChangeShapes Go.WideShapes Go.ChangeAt Go.RowKit Go.Maps Go.ChangeMaps Go.MapKept HeapP DistP
theorem infoPair : (Try.prog.info? 37).map (fun i => (i.zero, i.size, i.bytes)) = some (some (.agg #[.int .i64 0, .int .i64 0]), 2, 16) := by kernel_rfl
theorem rot {α : Type} (xs : List α) (d : α) (n : Nat) (t : Int) (hn : 0 < n) (y : α) : (∃ i, i < n ∧ y = xs.getD i d) ↔ ∃ i, i < n ∧ y = xs.getD (((i : Int) + t % (n : Int)) % (n : Int)).toNat d := by
  have h0 : (0 : Int) < (n : Int) := by omega
  constructor
  · rintro ⟨j, hj, rfl⟩
    have e0 := Int.emod_nonneg ((j : Int) - t % (n : Int)) (show (n : Int) ≠ 0 by omega)
    have e1 := Int.emod_lt_of_pos ((j : Int) - t % (n : Int)) h0
    refine ⟨(((j : Int) - t % (n : Int)) % (n : Int)).toNat, by omega, ?_⟩
    have e2 : (((((j : Int) - t % (n : Int)) % (n : Int)).toNat : Int) + t % (n : Int)) % (n : Int) = j := by
      rw [Int.toNat_of_nonneg e0, Int.emod_add_emod]
      have : (j : Int) - t % (n : Int) + t % (n : Int) = j := by omega
      rw [this]
      exact Int.emod_eq_of_lt (by omega) (by omega)
    rw [e2]
    rfl
  · rintro ⟨i, hi, rfl⟩
    have e0 := Int.emod_nonneg ((i : Int) + t % (n : Int)) (show (n : Int) ≠ 0 by omega)
    have e1 := Int.emod_lt_of_pos ((i : Int) + t % (n : Int)) h0
    exact ⟨_, by omega, rfl⟩
theorem suffix_sorted {A B : List It} (h : Sorted (A ++ B)) : Sorted B := (List.pairwise_append.1 h).2.1
theorem suffix_uniq {A B : List It} (h : Uniq (A ++ B)) : Uniq B := fun a ha c hc e => h a (List.mem_append_right _ ha) c (List.mem_append_right _ hc) e
set_option maxRecDepth 100000 in
set_option maxHeartbeats 4000000 in
theorem walk_out (A : Option Addr) (n c : Nat) (turn half : Int) (hs : n ≤ 9223372036854775807) (w : World) (h : 60 < n) :
    Calls Try.prog 9 #[.slice A n c, .int .i64 turn, .int .i64 half] w fun e w' => e = .returned (.bool true) ∧ Below w.heap.size w w' := by
  go_enter Try.func9, Try.ntmps9
  go_wp2_with (go_at_call 14; refine (awake4 _).mono ?_; rintro e w1 ⟨rfl, hb1⟩)
  go_ret
  exact ⟨rfl, by assumption⟩
set_option maxRecDepth 100000 in
set_option maxHeartbeats 16000000 in
theorem walk_ins (A : Option Addr) (n c : Nat) (xs : List (Int × Int)) (turn half : Int) (ht : (Lit.int .i64 turn).wf = true) (hh : (Lit.int .i64 half).wf = true) (w : World) (hn : n ≤ 60) (hk : ReadsP w A n c xs) :
    Calls Try.prog 9 #[.slice A n c, .int .i64 turn, .int .i64 half] w fun e w' => e = .returned (.bool true) ∧ Below w.heap.size w w' := by
  have HK := Lib.hid hk
  have HT := Lib.hid ht
  have HH := Lib.hid hh
  have hb0 : HeapAt ((w.alloc (.cells #[.slice none 0 0, .map none] 32)).alloc (.cells #[.slice none 0 0, .map none] 32)) (w.heap.size + 1) [w.heap.size + 1] [] := by
    have := heapAt_new (w.alloc (.cells #[.slice none 0 0, .map none] 32))
    rw [size_alloc] at this
    exact this
  have HB0 := Lib.hid hb0
  clear hk ht hh hb0
  go_enter Try.func9, Try.ntmps9
  go_wp2_with fail
  go_loopg [9] n (fun m v wr => ∃ (k : Nat) (fa fb : List Nat) (S T : List It), m = n - k ∧ k ≤ n ∧ v = .int .i64 (k : Nat) ∧ S.length ≤ k ∧ T.length ≤ k ∧
    HeapAt wr w.heap.size fa S ∧ HeapAt wr (w.heap.size + 1) fb T ∧ (∀ b ∈ fa, w.heap.size ≤ b ∧ b ∉ fb) ∧ (∀ b ∈ fb, w.heap.size ≤ b) ∧ Below w.heap.size w wr ∧
    Best S (fun y => ∃ i, i < k ∧ y = xs.getD i (0, 0)) ∧ Best T (fun y => ∃ i, i < k ∧ y = xs.getD (((i : Int) + turn % (n : Int)) % (n : Int)).toNat (0, 0)))
  case atStart =>
    refine ⟨0, [w.heap.size], [w.heap.size + 1], [], [], rfl, Nat.zero_le _, rfl, Nat.le_refl _, Nat.le_refl _, (heapAt_new w).below (bl_alloc (Below.refl _ _) _), HB0.out, by simp, by simp, bl_alloc (bl_alloc (Below.refl _ _) _) _, ?_, ?_⟩
    · exact ⟨by simp, fun y h => by obtain ⟨i, hi, _⟩ := h; omega⟩
    · exact ⟨by simp, fun y h => by obtain ⟨i, hi, _⟩ := h; omega⟩
  case round =>
    obtain ⟨k, fa, fb, S, T, hm, hk, rfl, hlS, hlT, hat, hbt, hfa, hfb, hb, hbS, hbT⟩ := hrel
    have HM := Lib.hid hm
    have HAT := Lib.hid hat
    have HBT := Lib.hid hbt
    have HFA := Lib.hid hfa
    have HFB := Lib.hid hfb
    have HB := Lib.hid hb
    have HBS := Lib.hid hbS
    have HBTT := Lib.hid hbT
    clear hm hat hbt hfa hfb hb hbS hbT
    by_cases hlt : k < n
    · obtain ⟨b, o, rfl, hc⟩ := HK.out.cell (by omega)
      have hw01 := hc k hlt
      have hwk := getP_wf HK.out.wf k
      obtain ⟨x, hx⟩ : ∃ x, x = xs.getD k (0, 0) := ⟨_, rfl⟩
      rw [← hx] at hw01 hwk
      -- the other place
      have hn0 : (0 : Int) < (n : Int) := by omega
      have hr0 := Int.emod_nonneg turn (show (n : Int) ≠ 0 by omega)
      have hr1 := Int.emod_lt_of_pos turn hn0
      obtain ⟨r, hr⟩ : ∃ r : Int, r = turn % (n : Int) := ⟨_, rfl⟩
      rw [← hr] at hr0 hr1
      have hq0 := Int.emod_nonneg ((k : Int) + r) (show (n : Int) ≠ 0 by omega)
      have hq1 := Int.emod_lt_of_pos ((k : Int) + r) hn0
      obtain ⟨q, hq⟩ : ∃ q : Nat, (q : Int) = ((k : Int) + r) % (n : Int) := ⟨(((k : Int) + r) % (n : Int)).toNat, by omega⟩
      have hqn : q < n := by omega
      have hwq := hc q hqn
      have hwkq := getP_wf HK.out.wf q
      obtain ⟨y, hy⟩ : ∃ y, y = xs.getD q (0, 0) := ⟨_, rfl⟩
      rw [← hy] at hwq hwkq
      have hqe : (((k : Int) + turn % (n : Int)) % (n : Int)).toNat = q := by rw [← hr, ← hq]; rfl
      have HX := Lib.hid hx
      have HY := Lib.hid hy
      have HQ := Lib.hid hqe
      have HQN := Lib.hid hqn
      obtain ⟨id, key⟩ := x
      obtain ⟨id2, key2⟩ := y
      have hc0 := cell_below hw01.1 HB.out
      have hc1 := cell_below hw01.2 HB.out
      have HC := Lib.hid hwq
      have HWK := Lib.hid hwk
      have HWQ := Lib.hid hwkq
      have hbig : S.length ≤ 1099511627776 := by omega
      have HBIG := Lib.hid hbig
      have hbig2 : T.length ≤ 1099511627776 := by omega
      have HBIG2 := Lib.hid hbig2
      have HN := Lib.hid hn0
      have HRQ := Lib.hid hr
      have HR0 := Lib.hid hr0
      have HR1 := Lib.hid hr1
      have hn1 : (n : Int) ≤ 4611686018427387904 := by omega
      have HN1 := Lib.hid hn1
      clear hc hw01 hwk hx hy hqe hwq hwkq hbig hbig2 hqn hq0 hq1 hn0 hr hr0 hr1 hn1
      have HQQ := Lib.hid hq
      clear hq
      go_wp2_with fail
      go_still_tail 11, (by kernel_rfl)
      change wpList _ _ _ _ _ wr.drew
      have hatd : HeapAt wr.drew w.heap.size fa S := HAT.out.below (bl_drew (Below.refl _ _))
      have HATD := Lib.hid hatd
      clear hatd
      go_wp2_with fail
      refine (push_at HATD.out HWK.out HBIG.out).mono ?_
      rintro e w2 ⟨rfl, fa2, h2', f2, u2⟩
      have hb2 : Below w.heap.size w w2 := HB.out.trans (Upd.below (w := wr) ⟨u2.os, u2.tape, u2.output, u2.size, u2.block⟩ HB.out.size fun b hb e => by have := (HFA.out b e).1; omega)
      have hbt2 : HeapAt w2 (w.heap.size + 1) fb T := (HBT.out.below (bl_drew (Below.refl _ _))).upd u2 fun b hb e => (HFA.out b e).2 hb
      have hfa2 : ∀ b ∈ fa2, w.heap.size ≤ b ∧ b ∉ fb := by
        intro b hb
        rcases f2 b hb with h | h
        · exact HFA.out b h
        · exact ⟨Nat.le_trans HB.out.size h, fun hbb => by have := HBT.out.lt b hbb; have : wr.heap.size ≤ b := h; omega⟩
      have q0 := cell_below HC.out.1 hb2
      have q1 := cell_below HC.out.2 hb2
      have hpl := pushF_len S (id, key)
      have hpl2 : (pushF S (id, key)).length ≤ k + 1 := by split at hpl <;> omega
      have HPL := Lib.hid hpl2
      have H2 := Lib.hid h2'
      have HBT2 := Lib.hid hbt2
      have HFA2 := Lib.hid hfa2
      have HB2 := Lib.hid hb2
      clear h2' f2 u2 hb2 hbt2 hfa2 hc0 hc1 hpl hpl2
      have hrr : turn % (n : Int) = r := HRQ.out.symm
      have hr0 := HR0.out
      have hr1 := HR1.out
      have hn3 := HN.out
      have hmod : ((k : Int) + r).tmod (n : Int) = (q : Int) := by rw [Int.tmod_eq_emod_of_nonneg (by omega)]; exact HQQ.out.symm
      have hqn := HQN.out
      have hnz : ((n : Int) == 0) = false := by simp; omega
      go_wp2_with fail
      refine (round_any HT.out HN.out HN1.out _).mono ?_
      rintro e w' ⟨rfl, rfl⟩
      rw [hrr]
      go_wp2_with fail
      go_still_tail 11, (by kernel_rfl)
      change wpList _ _ _ _ _ w2.drew
      have hbtd : HeapAt w2.drew (w.heap.size + 1) fb T := HBT2.out.below (bl_drew (Below.refl _ _))
      have HBTD := Lib.hid hbtd
      have had : HeapAt w2.drew w.heap.size fa2 (pushF S (id, key)) := H2.out.below (bl_drew (Below.refl _ _))
      have HAD := Lib.hid had
      clear hbtd had
      go_wp2_with fail
      refine (push_at HBTD.out HWQ.out HBIG2.out).mono ?_
      rintro e w3 ⟨rfl, fb3, h3', f3, u3⟩
      have ha3 := HAD.out.upd u3 fun b hb e => (HFA2.out b hb).2 e
      have hb3 : Below w.heap.size w w3 := HB2.out.trans (Upd.below (w := w2) ⟨u3.os, u3.tape, u3.output, u3.size, u3.block⟩ HB2.out.size fun b hb e => by have := HFB.out b e; omega)
      have hfa3 : ∀ b ∈ fa2, w.heap.size ≤ b ∧ b ∉ fb3 := by
        intro b hb
        refine ⟨(HFA2.out b hb).1, fun hbb => ?_⟩
        rcases f3 b hbb with h | h
        · exact (HFA2.out b hb).2 h
        · have := HAD.out.lt b hb; omega
      have hfb3 : ∀ b ∈ fb3, w.heap.size ≤ b := by
        intro b hb
        rcases f3 b hb with h | h
        · exact HFB.out b h
        · exact Nat.le_trans HB2.out.size h
      have hpl := pushF_len T (id2, key2)
      have hpl2 : (pushF T (id2, key2)).length ≤ k + 1 := by split at hpl <;> omega
      have HPL2 := Lib.hid hpl2
      have H3 := Lib.hid h3'
      have HA3 := Lib.hid ha3
      have HB3 := Lib.hid hb3
      have HFA3 := Lib.hid hfa3
      have HFB3 := Lib.hid hfb3
      clear h3' f3 u3 ha3 hb3 hfa3 hfb3 hpl hpl2 q0 q1
      go_wp2_with fail
      go_roundg (n - (k + 1))
      case measure => have := HM.out; omega
      case rel =>
        refine ⟨k + 1, fa2, fb3, _, _, rfl, by omega, by go_num, HPL.out, HPL2.out, HA3.out, H3.out, HFA3.out, HFB3.out, HB3.out, ?_, ?_⟩
        · refine (best_push HBS.out (id, key)).congr fun y => ?_
          constructor
          · rintro (⟨i, hi, e⟩ | e)
            · exact ⟨i, by omega, e⟩
            · exact ⟨k, by omega, e.trans HX.out⟩
          · rintro ⟨i, hi, e⟩
            by_cases hik : i = k
            · subst hik; exact .inr (e.trans HX.out.symm)
            · exact .inl ⟨i, by omega, e⟩
        · refine (best_push HBTT.out (id2, key2)).congr fun y => ?_
          constructor
          · rintro (⟨i, hi, e⟩ | e)
            · exact ⟨i, by omega, e⟩
            · exact ⟨k, by omega, by rw [HQ.out]; exact e.trans HY.out⟩
          · rintro ⟨i, hi, e⟩
            by_cases hik : i = k
            · subst hik; rw [HQ.out] at e; exact .inr (e.trans HY.out.symm)
            · exact .inl ⟨i, by omega, e⟩
    · have hkn : k = n := by omega
      subst hkn
      clear hlt
      have hST : S = T := by
        by_cases h0 : k = 0
        · have e1 : S.length = 0 := by omega
          have e2 : T.length = 0 := by omega
          rw [List.length_eq_zero_iff.1 e1, List.length_eq_zero_iff.1 e2]
        · exact best_eq HBS.out HBTT.out HAT.out.sorted HBT.out.sorted HAT.out.uniq HBT.out.uniq fun y => rot xs (0, 0) k turn (by omega) y
      subst hST
      have hsrt := HAT.out.sorted
      have HSRT := Lib.hid hsrt
      have huni := HAT.out.uniq
      have HUNI := Lib.hid huni
      clear hsrt huni hlT HBTT HBS
      obtain ⟨i0, hi, hz0, hz1, hz2⟩ := info_parts infoPair
      have HI := Lib.hid (And.intro hi (And.intro hz0 (And.intro hz1 hz2)))
      clear hi hz0 hz1 hz2
      obtain ⟨sl, hsl⟩ : ∃ sl, sl = S.length := ⟨_, rfl⟩
      have hlen1 := len_at HAT.out
      have hlen2 := len_at HBT.out
      rw [← hsl] at hlen1 hlen2 hlS
      have HSL := Lib.hid hsl
      have HL1 := Lib.hid hlen1
      have HL2 := Lib.hid hlen2
      have hk60 : k ≤ 60 := hn
      have htot0 := Int.emod_nonneg half (show ((sl : Int) + 1) ≠ 0 by omega)
      have htot1 := Int.emod_lt_of_pos half (show (0 : Int) < (sl : Int) + 1 by omega)
      obtain ⟨tot, htot⟩ : ∃ tot : Nat, half % ((sl : Int) + 1) = (tot : Int) := ⟨(half % ((sl : Int) + 1)).toNat, by omega⟩
      have htl : tot ≤ sl := by omega
      have HTOT := Lib.hid htot
      have hz1 : decide ((sl : Int) < 0) = false := by simp <;> omega
      have hz2 : decide (k < sl) = false := by simp <;> omega
      clear hsl hlen1 hlen2 htot0 htot1 htot
      go_wp2_with fail
      refine HL1.out.mono ?_
      rintro e w' ⟨rfl, rfl⟩
      go_wp2_with fail
      refine HL2.out.mono ?_
      rintro e w' ⟨rfl, rfl⟩
      go_wp2_with fail
      go_loopg [12, 13] tot (fun m v u wq => ∃ (j : Nat) (O P : List It), m = tot - j ∧ j ≤ tot ∧ u = .int .i64 (j : Nat) ∧ O.length = j ∧ S = O ++ P ∧
        HeapAt wq w.heap.size fa P ∧ HeapAt wq (w.heap.size + 1) fb S ∧ OutAt wq w.heap.size v O ∧ (∀ b, v.ownBlock = some b → b ∉ fa ∧ b ∉ fb) ∧ Below w.heap.size w wq)
      case atStart => exact ⟨0, [], S, rfl, Nat.zero_le _, rfl, rfl, rfl, HAT.out, HBT.out, OutAt.nil _ _, fun b h => absurd h (by simp [Value.ownBlock]), HB.out⟩
      case round =>
        obtain ⟨j, O, P, hm', hj, rfl, hOl, hOP, hat', hbt', hout', hob', hb'⟩ := hrel
        have HM' := Lib.hid hm'
        have HAT' := Lib.hid hat'
        have HBT' := Lib.hid hbt'
        have HOUT' := Lib.hid hout'
        have HOB' := Lib.hid hob'
        have HB' := Lib.hid hb'
        have HOP := Lib.hid hOP
        subst hOl
        clear hm' hat' hbt' hout' hob' hb' hOP
        have hs1 : (0 : Int) < (sl : Int) + 1 := by omega
        have HS1 := Lib.hid hs1
        have hs2 : (sl : Int) + 1 ≤ 4611686018427387904 := by omega
        have HS2 := Lib.hid hs2
        clear hs1 hs2
        by_cases hlt : O.length < tot
        · go_wp2_with fail
          refine (round_any HH.out HS1.out HS2.out _).mono ?_
          rintro e w' ⟨rfl, rfl⟩
          rw [HTOT.out]
          have hOP2 := HOP.out
          have hlenS : O.length + P.length = sl := by rw [HSL.out, hOP2, List.length_append]
          cases P with
          | nil => simp at hlenS; omega
          | cons x P' =>
            have hbig : (x :: P').length ≤ 1099511627776 := by omega
            have HBIG := Lib.hid hbig
            clear hbig hOP2 hlenS
            go_wp2_with fail
            refine (pop_at HAT'.out HBIG.out).mono ?_
            rintro e w2 ⟨rfl, h2, u2⟩
            have hwx := HAT'.out.wf x (List.mem_cons_self ..)
            have ho2 := HOUT'.out.upd u2 fun b h => (HOB'.out b h).1
            have hbt2 := HBT'.out.upd u2 fun b hb e => (HFA.out b e).2 hb
            have hb2 : Below w.heap.size w w2 := HB'.out.trans (u2.below HB'.out.size fun b hb e => by have := (HFA.out b e).1; omega)
            have H2 := Lib.hid h2
            have HO2 := Lib.hid ho2
            have HBT2 := Lib.hid hbt2
            have HB2 := Lib.hid hb2
            have HWX := Lib.hid hwx
            have hmx : O.length + 1 ≤ 60 := by omega
            clear h2 ho2 hbt2 hb2 hwx u2
            go_wp2_with (at_builtin; refine wpList_append_own_at _ rfl _ _ 27 rfl 0 37 i0 (.agg #[.int .i64 0, .int .i64 0]) 2 16 Try.underlying27 HI.out.1 HI.out.2.1 HI.out.2.2.1 HI.out.2.2.2 rfl (by decide) _ _ _ rfl (HO2.out.row.alloc _) ⟨w2.heap.size, 0, none⟩ 1 1 [.int .i64 x.1, .int .i64 x.2] rfl rfl ?c1 ?c2 ?c3 ?c4 ?c5 ?_)
            case c1 => exact cell_two_new _ _ _ _
            case c2 => intro u hu; simp only [List.mem_cons, List.not_mem_nil, or_false] at hu; rcases hu with rfl | rfl <;> rfl
            case c3 => unfold maxLen; omega
            case c4 => omega
            case c5 => omega
            intro v' w1 hown' hgrow _ hloc
            obtain ⟨lb', cap', hv⟩ := own_form hown' (by omega)
            rw [hv] at hown' hloc ⊢
            have hu1 : Upd (fun k => some k = u12.ownBlock) w2 w1 := upd_grown (upd_alloc (Upd.refl _ _) _) hgrow
            have hge : w.heap.size ≤ lb' := by
              rcases hloc with h | h
              · exact (HOUT'.out.ge (b := lb') (h.symm.trans rfl)).1
              · simp only [Value.ownBlock, Option.some.injEq] at h; have := HB2.out.size; omega
            have ho1 := OutAt.more hown' hge
            have ha1 := H2.out.upd hu1 fun b hb e => (HOB'.out b e.symm).1 hb
            have hbt1 := HBT2.out.upd hu1 fun b hb e => (HOB'.out b e.symm).2 hb
            have hB1 : Below w.heap.size w w1 := HB2.out.trans (hu1.below HB2.out.size fun b hb e => by have := (HOUT'.out.ge e.symm).1; omega)
            have hob1 : ∀ b, (Value.slice (some ⟨lb', 0, none⟩) (O.length + 1) cap').ownBlock = some b → b ∉ fa ∧ b ∉ fb := by
              intro b hb
              rcases hloc with h | h
              · exact HOB'.out b (h.symm.trans hb)
              · rw [h] at hb
                injection hb with hb
                exact ⟨fun h => by have := H2.out.lt b h; omega, fun h => by have := HBT2.out.lt b h; omega⟩
            have HO1 := Lib.hid ho1
            have HA1 := Lib.hid ha1
            have HBT1 := Lib.hid hbt1
            have HB1 := Lib.hid hB1
            have HOB1 := Lib.hid hob1
            clear hown' hgrow hloc hv hu1 hge ho1 ha1 hbt1 hB1 hob1
            clear HI HL1 HL2 HTOT HS1 HS2
            go_wp2_with fail
            go_roundg (tot - (O.length + 1))
            case measure => have := HM'.out; omega
            case rel => exact ⟨O.length + 1, O ++ [x], P', rfl, by omega, by go_num, by simp, by rw [HOP.out]; simp, HA1.out, HBT1.out, HO1.out, HOB1.out, HB1.out⟩
        · have hjt : tot = O.length := by omega
          subst hjt
          obtain ⟨A2, cap2, hv2, hA2⟩ := HOUT'.out.slice
          subst hv2
          have HA2 := Lib.hid hA2
          have ho60 : O.length ≤ 60 := by omega
          clear hA2
          go_wp2_with fail
          refine (round_any HH.out HS1.out HS2.out _).mono ?_
          rintro e w' ⟨rfl, rfl⟩
          rw [HTOT.out]
          go_wp2_with fail
          go_loopg [17] O.length (fun m u wr => ∃ (j : Nat) (fa' : List Nat) (P' : List It), m = j ∧ j ≤ O.length ∧ u = .int .i64 ((j : Int) - 1) ∧ S = O.take j ++ P' ∧
            HeapAt wr w.heap.size fa' P' ∧ HeapAt wr (w.heap.size + 1) fb S ∧ OutAt wr w.heap.size (.slice A2 O.length cap2) O ∧ (∀ b ∈ fa', w.heap.size ≤ b ∧ b ∉ fb) ∧ (∀ b, (Value.slice A2 O.length cap2).ownBlock = some b → b ∉ fa' ∧ b ∉ fb) ∧ Below w.heap.size w wr)
          case atStart => exact ⟨O.length, fa, P, rfl, Nat.le_refl _, rfl, by rw [List.take_length]; exact HOP.out, HAT'.out, HBT'.out, HOUT'.out, HFA.out, HOB'.out, HB'.out⟩
          case round =>
            obtain ⟨j, fa', P', hm3, hj3, rfl, hS3, hat3, hbt3, hout3, hfa3, hob3, hb3⟩ := hrel
            have HM3 := Lib.hid hm3
            have HS3 := Lib.hid hS3
            have HAT3 := Lib.hid hat3
            have HBT3 := Lib.hid hbt3
            have HOUT3 := Lib.hid hout3
            have HFA3 := Lib.hid hfa3
            have HOB3 := Lib.hid hob3
            have HB3 := Lib.hid hb3
            clear hm3 hS3 hat3 hbt3 hout3 hfa3 hob3 hb3
            cases j with
            | succ i =>
              have e : (((i + 1 : Nat) : Int) - 1) = (i : Int) := by omega
              rw [e]
              obtain ⟨lb, hlb⟩ := HA2.out (by omega)
              subst hlb
              have hil : i < O.length := by omega
              have hil2 : (i : Int) < (O.length : Int) := by omega
              have hil3 : (0 : Int) ≤ (i : Int) := by omega
              have c0 := HOUT3.out.c0 hil
              have c1 := HOUT3.out.c1 hil
              obtain ⟨x, hx⟩ : ∃ x, x = g O i := ⟨_, rfl⟩
              rw [← hx] at c0 c1
              have hsuf : S = O.take i ++ (x :: P') := by
                have := HS3.out
                rw [List.take_succ_eq_append_getElem hil, List.append_assoc] at this
                rw [hx, g_eq hil]; exact this
              have HSUF := Lib.hid hsuf
              have hs4 : Sorted (x :: P') := suffix_sorted (A := O.take i) (by rw [← hsuf]; exact HSRT.out)
              have hu4 : Uniq (x :: P') := suffix_uniq (A := O.take i) (by rw [← hsuf]; exact HUNI.out)
              have hpbk := push_back hs4 hu4
              have hwx : Wf x := HBT3.out.wf x (by rw [hsuf]; simp)
              have hbig : P'.length ≤ 1099511627776 := by have := congrArg List.length hsuf; rw [List.length_append, List.length_cons, ← HSL.out] at this; omega
              obtain ⟨id, key⟩ := x
              have hpb := hpbk.1
              have HPF := Lib.hid hpbk.2
              have HWX := Lib.hid hwx
              have HBIG := Lib.hid hbig
              have hatd : HeapAt wr.drew w.heap.size fa' P' := HAT3.out.below (bl_drew (Below.refl _ _))
              have HATD := Lib.hid hatd
              clear hsuf hs4 hu4 hpbk hwx hbig hx hatd e hil
              go_wp2_with fail
              go_still_tail 11, (by kernel_rfl)
              change wpList _ _ _ _ _ wr.drew
              go_wp2_with fail
              refine (push_at HATD.out HWX.out HBIG.out).mono ?_
              rintro e w2 ⟨rfl, fa2, h2', f2, u2⟩
              rw [HPF.out] at h2'
              have hb2 : Below w.heap.size w w2 := HB3.out.trans (Upd.below (w := wr) ⟨u2.os, u2.tape, u2.output, u2.size, u2.block⟩ HB3.out.size fun b hb e => by have := (HFA3.out b e).1; omega)
              have hbt2 : HeapAt w2 (w.heap.size + 1) fb S := (HBT3.out.below (bl_drew (Below.refl _ _))).upd u2 fun b hb e => (HFA3.out b e).2 hb
              have ho2 := (HOUT3.out.upd (upd_drew (Upd.refl (fun _ => False) _)) (fun _ _ h => h)).upd u2 fun b h => (HOB3.out b h).1
              have hfa2 : ∀ b ∈ fa2, w.heap.size ≤ b ∧ b ∉ fb := by
                intro b hb
                rcases f2 b hb with h | h
                · exact HFA3.out b h
                · exact ⟨Nat.le_trans HB3.out.size h, fun hbb => by have := HBT3.out.lt b hbb; have : wr.heap.size ≤ b := h; omega⟩
              have hob2 : ∀ b, (Value.slice (some ⟨lb, 0, none⟩) O.length cap2).ownBlock = some b → b ∉ fa2 ∧ b ∉ fb := by
                intro b hb
                refine ⟨fun hbb => ?_, (HOB3.out b hb).2⟩
                rcases f2 b hbb with h | h
                · exact (HOB3.out b hb).1 h
                · have := (HOUT3.out.ge hb).2; have : wr.heap.size ≤ b := h; omega
              have H2 := Lib.hid h2'
              have HBT2 := Lib.hid hbt2
              have HO2 := Lib.hid ho2
              have HFA2 := Lib.hid hfa2
              have HOB2 := Lib.hid hob2
              have HB2 := Lib.hid hb2
              clear h2' f2 u2 hb2 hbt2 ho2 hfa2 hob2 c0 c1 HI HL1 HL2 HTOT HS1 HS2
              go_wp2_with fail
              go_roundg i
              case measure => have := HM3.out; omega
              case rel => exact ⟨i, fa2, (id, key) :: P', rfl, by omega, by go_num, HSUF.out, H2.out, HBT2.out, HO2.out, HFA2.out, HOB2.out, HB2.out⟩
            | zero =>
              have e : (((0 : Nat) : Int) - 1) = -1 := rfl
              rw [e]
              have hP : S = P' := by have := HS3.out; simpa using this
              subst hP
              have hlen3 := len_at HBT3.out
              have HL3 := Lib.hid hlen3
              clear HI HTOT HS1 HS2 HL1 HL2 hlen3
              go_wp2_with fail
              refine HL3.out.mono ?_
              rintro e w' ⟨rfl, rfl⟩
              go_wp2_with fail
              go_loopg [18] sl (fun m u wr => ∃ (Q : List It), m = Q.length ∧ Q.length ≤ sl ∧ u = .int .i64 (Q.length : Nat) ∧
                HeapAt wr w.heap.size fa' Q ∧ HeapAt wr (w.heap.size + 1) fb Q ∧ Below w.heap.size w wr)
              case atStart => exact ⟨S, HSL.out, by rw [← HSL.out]; exact Nat.le_refl _, by rw [← HSL.out], HAT3.out, HBT3.out, HB3.out⟩
              case round =>
                obtain ⟨Q, hm4, hq4, rfl, hat4, hbt4, hb4⟩ := hrel
                have HM4 := Lib.hid hm4
                have HAT4 := Lib.hid hat4
                have HBT4 := Lib.hid hbt4
                have HB4 := Lib.hid hb4
                clear hm4 hat4 hbt4 hb4
                cases Q with
                | cons x Q' =>
                  rw [List.length_cons]
                  rw [List.length_cons] at hq4
                  have hbig : (x :: Q').length ≤ 1099511627776 := by rw [List.length_cons]; omega
                  have HBIG := Lib.hid hbig
                  clear hbig
                  go_wp2_with fail
                  refine (pop_at HAT4.out HBIG.out).mono ?_
                  rintro e w2 ⟨rfl, h2, u2⟩
                  have hbt2 := HBT4.out.upd u2 fun b hb e => (HFA3.out b e).2 hb
                  have hb2 : Below w.heap.size w w2 := HB4.out.trans (u2.below HB4.out.size fun b hb e => by have := (HFA3.out b e).1; omega)
                  have H2 := Lib.hid h2
                  have HBT2 := Lib.hid hbt2
                  have HB2 := Lib.hid hb2
                  clear h2 u2 hbt2 hb2
                  go_wp2_with fail
                  refine (pop_at HBT2.out HBIG.out).mono ?_
                  rintro e w5 ⟨rfl, h5, u5⟩
                  have ha5 := H2.out.upd u5 fun b hb e => (HFA3.out b hb).2 e
                  have hb5 : Below w.heap.size w w5 := HB2.out.trans (u5.below HB2.out.size fun b hb e => by have := HFB.out b e; omega)
                  have H5 := Lib.hid h5
                  have HA5 := Lib.hid ha5
                  have HB5 := Lib.hid hb5
                  clear h5 u5 ha5 hb5
                  go_wp2_with fail
                  go_roundg Q'.length
                  case measure => have := HM4.out; rw [List.length_cons] at this; omega
                  case rel => exact ⟨Q', rfl, by omega, by go_num, HA5.out, H5.out, HB5.out⟩
                | nil =>
                  rw [List.length_nil]
                  have hl1 := len_at HAT4.out
                  have HL1 := Lib.hid hl1
                  have hl2 := len_at HBT4.out
                  have HL2 := Lib.hid hl2
                  clear hl1 hl2
                  go_wp2_with fail
                  refine HL1.out.mono ?_
                  rintro e w' ⟨rfl, rfl⟩
                  go_wp2_with fail
                  refine HL2.out.mono ?_
                  rintro e w' ⟨rfl, rfl⟩
                  go_wp2_with fail
                  refine (awake4 _).mono ?_
                  rintro e w' ⟨rfl, hb5⟩
                  have hb6 : Below w.heap.size w w' := HB4.out.trans (hb5.mono HB4.out.size)
                  go_wp2_with fail
                  go_ret
                  exact ⟨rfl, hb6⟩
theorem walk {W : World} (A : Option Addr) (n c : Nat) (xs : List (Int × Int)) (hk : ReadsP W A n c xs) (turn : Int) (ht : (Lit.int .i64 turn).wf = true) (half : Int) (hh : (Lit.int .i64 half).wf = true) :
    Calls Try.prog 9 #[.slice A n c, .int .i64 turn, .int .i64 half] W fun e w' => e = .returned (.bool true) ∧ Below W.heap.size W w' := by
  by_cases h : 60 < n
  · have s1 := hk.small
    unfold maxLen at s1
    exact walk_out A n c turn half (by omega) W h
  · exact walk_ins A n c xs turn half ht hh W (by omega) hk
set_option maxRecDepth 100000 in
theorem lifted (os : Os) (started : os.Started) (H : Type) (enc : TypeId × Value → H) :
    ReturnsInHanded {} Try.checked os 9 .any (Rows.heapHalvesSpec.pre6 enc Try.prog Try.f9 Rows.heapHalvesRow.domain false) (Rows.heapHalvesSpec.post enc Try.prog Try.f9 false true false false) := by
  refine returnsInHanded_of_change (C := Try.checked) own started (by kernel_rfl) Try.func9
    (ChangeSpec.witness6 (enc := enc) (C := Try.checked) false ⟨#[], #[.slice none 0 0, .int .i64 0, .int .i64 0], []⟩ 8 (by kernel_rfl) (by kernel_rfl) (by kernel_rfl) (by kernel_rfl)) ?_
  intro W base args ds gs before hval0 hW hcnd _
  have hval : ∀ (j : Nat) t v, Try.f9.params[j]? = some t → args[j]? = some v → Value.okWide Try.prog W .any base t v := hval0
  have hW' := hW
  obtain ⟨p, q, hA0, hV, rfl, hfz, hnd⟩ := hW
  have hA : DataW.TrodAll enc Try.prog W 0 (fun _ => true) true Try.f9.params.toList args.toList ds p := hA0
  rw [Try.params9] at hA hval
  obtain ⟨v0, vs0, d0, ds0, p0, q0, hargs, rfl, rfl, h0, r0⟩ := trodAll_cons hA
  obtain ⟨v1, vs1, d1, ds1, p1, q1, rfl, rfl, rfl, h1, r1⟩ := trodAll_cons r0
  obtain ⟨v2, vs2, d2, ds2, p2, q2, rfl, rfl, rfl, h2, r2⟩ := trodAll_cons r1
  obtain ⟨rfl, rfl, rfl⟩ := trodAll_nil r2
  obtain rfl : args = #[v0, v1, v2] := by cases args; simp_all
  obtain ⟨rfl, rfl⟩ := trodVars_none hV
  obtain ⟨a0, n0, c0, xs0, rfl, k0⟩ := open_reads2 (hval 0 27 v0 rfl rfl) h0
  obtain ⟨a1, rfl, rfl, rfl, w1⟩ := open_int Try.underlying3 (hval 1 3 v1 rfl rfl) h1
  obtain ⟨a2, rfl, rfl, rfl, w2⟩ := open_int Try.underlying3 (hval 2 3 v2 rfl rfl) h2
  refine (walk a0 n0 c0 xs0 k0 a1 w1 a2 w2).mono fun e W' ⟨he, hb⟩ => ?_
  subst he
  exact ⟨_, rfl, post_law hW' hb rfl rfl rfl rfl rfl (by rw [Try.params9]; exact readable_all (by kernel_rfl))⟩
theorem over : Rows.heapHalvesRow.holds Try.pinned (OpenSpec.ofChange Rows.heapHalvesSpec) :=
  OpenClaim.holds_of_wide 9 Try.f9 rfl rfl rfl rfl rfl rfl rfl ⟨rfl, rfl, rfl, rfl, rfl⟩ rfl rfl rfl rfl rfl (by kernel_rfl) Try.func9 (by kernel_rfl)
    (of_decide_eq_true (by kernel_rfl)) (by unfold Func.isWrapper; first | (rw [if_pos (by decide +kernel)]; kernel_rfl) | (rw [if_neg (by decide +kernel)]; exact ⟨rfl, rfl⟩))
    (fun os started H enc _ => lifted os started H enc)
theorem proved : Rows.HeapHalvesSaid := over
#print axioms proved
end Go.Proofs.Ytojclogpjgeloaa.heapHalves
