/- HeapLowers: a key that is no less changes nothing; a lesser one is there instead; how often one is pushed is nothing. For every input, without a condition. -/
import Derived.Test.YtojclogpjgeloaaHeapAwake
import Derived.Test.YtojclogpjgeloaaRound
import Derived.Test.YtojclogpjgeloaaReads
set_option linter.unusedVariables false
set_option linter.unusedSimpArgs false
namespace Go.Proofs.Ytojclogpjgeloaa.heapLowers
open Go.ChangeShapes Go.WideShapes Go.ChangeAt Go.RowKit Go.MapKept HeapP DistP
theorem pushF_new {S : List It} {x : It} (h : ∀ y ∈ S, y.1 ≠ x.1) : pushF S x = ins x S := by unfold pushF; rw [any_false h]; simp only [Bool.false_eq_true, if_false]; rw [filter_all h]
theorem ins_length (x : It) (S : List It) : (ins x S).length = S.length + 1 := (ins_perm x S).length_eq
theorem filter_one {id b : Int} : ∀ {S : List It}, Sorted S → Uniq S → ((id, b) : It) ∈ S → (S.filter fun y => !decide (y.1 = id)).length + 1 = S.length
  | [], _, _, h => by simp at h
  | y :: r, hs, hu, h => by
    have hs' := List.pairwise_cons.1 hs
    have hu' : Uniq r := fun a ha c hc e => hu a (List.mem_cons_of_mem _ ha) c (List.mem_cons_of_mem _ hc) e
    by_cases hy : y.1 = id
    · have hr : ∀ z ∈ r, z.1 ≠ ((id, b) : It).1 := by
        intro z hz e
        have := hu z (List.mem_cons_of_mem _ hz) y (List.mem_cons_self ..) (by rw [hy]; exact e)
        subst this
        exact ahead_irrefl _ (hs'.1 _ hz)
      have e1 := filter_all (x := ((id, b) : It)) hr
      simp only [List.filter_cons, hy, decide_true, Bool.not_true, Bool.false_eq_true, if_false, List.length_cons]
      rw [show (fun y : It => !decide (y.1 = id)) = fun y => !decide (y.1 = ((id, b) : It).1) from rfl, e1]
    · have hm : ((id, b) : It) ∈ r := by
        rcases List.mem_cons.1 h with e | e
        · exact absurd (by rw [← e]) hy
        · exact e
      have ih := filter_one hs'.2 hu' hm
      simp only [List.filter_cons, hy, decide_false, Bool.not_false, if_true, List.length_cons]
      omega
theorem pushF_has {S : List It} {id b k : Int} (hs : Sorted S) (hu : Uniq S) (h : ((id, b) : It) ∈ S) : ((id, if k < b then k else b) : It) ∈ pushF S (id, k) ∧ (pushF S (id, k)).length = S.length := by
  by_cases hk : k < b
  · rw [if_pos hk]
    have hany : S.any (fun y => decide (y.1 = ((id, k) : It).1) && decide (y.2 ≤ ((id, k) : It).2)) = false := by
      rw [List.any_eq_false]
      intro y hy hc
      simp only [Bool.and_eq_true, decide_eq_true_eq] at hc
      have := hu y hy _ h hc.1
      rw [this] at hc
      have := hc.2
      simp only at this
      omega
    have e : pushF S (id, k) = ins (id, k) (S.filter fun y => !decide (y.1 = id)) := by unfold pushF; rw [hany]; rfl
    rw [e]
    refine ⟨(ins_perm _ _).mem_iff.2 (List.mem_cons_self ..), ?_⟩
    rw [ins_length]; exact filter_one hs hu h
  · rw [if_neg hk]
    have hany : S.any (fun y => decide (y.1 = ((id, k) : It).1) && decide (y.2 ≤ ((id, k) : It).2)) = true := by
      rw [List.any_eq_true]; exact ⟨_, h, by simp; omega⟩
    have e : pushF S (id, k) = S := by unfold pushF; rw [if_pos hany]
    rw [e]; exact ⟨h, rfl⟩
theorem pushF_len (S : List It) (x : It) : (pushF S x).length ≤ S.length + (if pushB S x = true then 1 else 0) := by
  unfold pushF pushB
  split
  · rename_i h; simp [h]
  · rename_i h
    rw [ins_length]
    have : S.any (fun y => decide (y.1 = x.1) && decide (y.2 ≤ x.2)) = false := by simpa using h
    rw [this]
    have := List.length_filter_le (fun y : It => !decide (y.1 = x.1)) S
    simp only [Bool.not_false, if_true]
    omega
set_option maxRecDepth 100000 in
set_option maxHeartbeats 4000000 in
theorem walk_out (id : Int) (A1 A2 : Option Addr) (n1 c1 n2 c2 : Nat) (hs1 : n1 ≤ 9223372036854775807) (hs2 : n2 ≤ 9223372036854775807) (w : World) (h : n1 = 0 ∨ 30 < n1 ∨ 30 < n2) :
    Calls Try.prog 8 #[.int .i64 id, .slice A1 n1 c1, .slice A2 n2 c2] w fun e w' => e = .returned (.bool true) ∧ Below w.heap.size w w' := by
  by_cases h0 : n1 = 0
  · subst h0
    clear h
    go_enter Try.func8, Try.ntmps8
    go_wp2_with (go_at_call 14; refine (awake4 _).mono ?_; rintro e w1 ⟨rfl, hb1⟩)
    go_ret
    exact ⟨rfl, by assumption⟩
  · have hz : ((n1 : Int) == 0) = false := by simp; omega
    by_cases h1 : 30 < n1
    · clear h h0
      go_enter Try.func8, Try.ntmps8
      go_wp2_with (go_at_call 14; refine (awake4 _).mono ?_; rintro e w1 ⟨rfl, hb1⟩)
      go_ret
      exact ⟨rfl, by assumption⟩
    · have h2 : 30 < n2 := by omega
      clear h
      go_enter Try.func8, Try.ntmps8
      go_wp2_with (go_at_call 14; refine (awake4 _).mono ?_; rintro e w1 ⟨rfl, hb1⟩)
      go_ret
      exact ⟨rfl, by assumption⟩
set_option maxRecDepth 100000 in
set_option maxHeartbeats 8000000 in
theorem walk_ins (id : Int) (hid : (Lit.int .i64 id).wf = true) (A1 A2 : Option Addr) (n1 c1 n2 c2 : Nat) (ks os : List Int) (w : World) (h1 : 0 < n1) (h1' : n1 ≤ 30) (h2 : n2 ≤ 30) (hk : ReadsI w A1 n1 c1 ks) (ho : ReadsI w A2 n2 c2 os) :
    Calls Try.prog 8 #[.int .i64 id, .slice A1 n1 c1, .slice A2 n2 c2] w fun e w' => e = .returned (.bool true) ∧ Below w.heap.size w w' := by
  have hz : ((n1 : Int) == 0) = false := by simp; omega
  have HK := Lib.hid hk
  have HO := Lib.hid ho
  have HID := Lib.hid hid
  clear hk ho hid
  go_enter Try.func8, Try.ntmps8
  go_wp2_with fail
  go_loopg [8, 9] n2 (fun m u v wr => ∃ (k cnt : Nat) (fp : List Nat) (S : List It), m = n2 - k ∧ k ≤ n2 ∧ v = .int .i64 (k : Nat) ∧ u = .int .i64 (cnt : Nat) ∧ S.length ≤ cnt ∧ cnt ≤ k ∧
    HeapAt wr w.heap.size fp S ∧ (∀ b ∈ fp, w.heap.size ≤ b) ∧ Below w.heap.size w wr ∧ ∀ y ∈ S, y.1 ≠ id)
  case atStart => exact ⟨0, 0, [w.heap.size], [], rfl, Nat.zero_le _, rfl, rfl, Nat.le_refl _, Nat.le_refl _, heapAt_new w, by simp, bl_alloc (Below.refl _ _) _, by simp⟩
  case round =>
    obtain ⟨k, cnt, fp, S, hm, hk, rfl, rfl, hc1, hc2, hat, hfp, hb, hne⟩ := hrel
    have HM := Lib.hid hm
    have HAT := Lib.hid hat
    have HFP := Lib.hid hfp
    have HB := Lib.hid hb
    have HNE := Lib.hid hne
    clear hm hat hfp hb hne
    by_cases hlt : k < n2
    · have hro := HO.out.below HB.out
      obtain ⟨b, o, rfl, hc⟩ := hro.cell (by omega)
      have hck := hc k hlt
      have hwk := getD_wf HO.out.wf k
      obtain ⟨z, hz⟩ : ∃ z, z = os.getD k 0 := ⟨_, rfl⟩
      rw [← hz] at hck hwk
      have he0 := Int.emod_nonneg z (show (50 : Int) ≠ 0 by omega)
      have he1 := Int.emod_lt_of_pos z (show (0 : Int) < 50 by omega)
      have HC := Lib.hid hc
      have HWK := Lib.hid hwk
      clear hro hc hwk hz
      by_cases heq : z % 50 = id
      · have hnb : (z % 50 != id) = false := by simpa using heq
        have HEQ := Lib.hid heq
        clear heq
        go_wp2_with fail
        refine (round_any HWK.out (by omega) (by omega) _).mono ?_
        rintro e w' ⟨rfl, rfl⟩
        go_wp2_with fail
        go_roundg (n2 - (k + 1))
        case measure => have := HM.out; omega
        case rel => exact ⟨k + 1, cnt, fp, S, rfl, by omega, by go_num, rfl, hc1, by omega, HAT.out, HFP.out, HB.out, HNE.out⟩
      · have hnb : (z % 50 != id) = true := by simpa using heq
        have HEQ := Lib.hid heq
        have hwz : (Lit.int .i64 (z % 50)).wf = true := wf_of (by omega) (by omega)
        have HWZ := Lib.hid hwz
        have hpl := pushF_len S (z % 50, z)
        have HPL := Lib.hid hpl
        clear heq hwz hpl
        cases hpb : pushB S (z % 50, z)
        all_goals
          go_wp2_with fail
          refine (round_any HWK.out (by omega) (by omega) _).mono ?_
          rintro e w' ⟨rfl, rfl⟩
          go_wp2_with fail
          refine (push_at HAT.out ⟨HWZ.out, HWK.out⟩ (by omega)).mono ?_
          rintro e w2 ⟨rfl, fp2, h2', f2, u2⟩
          have H2 := Lib.hid h2'
          have F2 := Lib.hid f2
          have U2 := Lib.hid u2
          clear h2' f2 u2
          go_wp2_with fail
          go_roundg (n2 - (k + 1))
          case measure => have := HM.out; omega
        · refine ⟨k + 1, cnt, fp2, _, rfl, by omega, by go_num, rfl, ?_, by omega, H2.out, ?_, ?_, ?_⟩
          · have := HPL.out; rw [hpb] at this; simp only [Bool.false_eq_true, if_false] at this; omega
          · intro b hb; exact (F2.out b hb).elim (HFP.out b) (fun e => Nat.le_trans HB.out.size e)
          · exact HB.out.trans (U2.out.below HB.out.size fun b hb e => by have := HFP.out b e; omega)
          · intro y hy; rcases pushF_ids hy with rfl | hy
            · exact HEQ.out
            · exact HNE.out y hy
        · refine ⟨k + 1, cnt + 1, fp2, _, rfl, by omega, by go_num, by go_num, ?_, by omega, H2.out, ?_, ?_, ?_⟩
          · have := HPL.out; rw [hpb] at this; simp only [if_true] at this; omega
          · intro b hb; exact (F2.out b hb).elim (HFP.out b) (fun e => Nat.le_trans HB.out.size e)
          · exact HB.out.trans (U2.out.below HB.out.size fun b hb e => by have := HFP.out b e; omega)
          · intro y hy; rcases pushF_ids hy with rfl | hy
            · exact HEQ.out
            · exact HNE.out y hy
    · have hkn : k = n2 := by omega
      subst hkn
      clear hlt
      have hrk := HK.out.below HB.out
      obtain ⟨b, o, rfl, hc⟩ := hrk.cell h1
      have hck0 := hc 0 h1
      rw [Nat.add_zero] at hck0
      obtain ⟨y0, hy0⟩ : ∃ y0, y0 = ks.getD 0 0 := ⟨_, rfl⟩
      rw [← hy0] at hck0
      have HY0 := Lib.hid hy0
      clear hrk hc hy0
      go_wp2_with fail
      refine (len_at HAT.out).mono ?_
      rintro e w' ⟨rfl, rfl⟩
      go_wp2_with fail
      have hSl : S.length ≤ 30 := by omega
      go_loopg [12, 13] n1 (fun m u v wq => ∃ (j : Nat) (best : Int) (fp' : List Nat) (S' : List It), m = n1 - j ∧ j ≤ n1 ∧ v = .int .i64 (j : Nat) ∧ u = .int .i64 best ∧
        HeapAt wq w.heap.size fp' S' ∧ (∀ b ∈ fp', w.heap.size ≤ b) ∧ Below w.heap.size w wq ∧ ((j = 0 ∧ (∀ y ∈ S', y.1 ≠ id) ∧ S'.length = S.length ∧ best = y0) ∨ (0 < j ∧ ((id, best) : It) ∈ S' ∧ S'.length = S.length + 1)))
      case atStart => exact ⟨0, y0, fp, S, rfl, Nat.zero_le _, rfl, rfl, HAT.out, HFP.out, HB.out, .inl ⟨rfl, HNE.out, rfl, rfl⟩⟩
      case round =>
        obtain ⟨j, best, fp', S', hm', hj, rfl, rfl, hat', hfp', hb', hcase⟩ := hrel
        have HM' := Lib.hid hm'
        have HAT' := Lib.hid hat'
        have HFP' := Lib.hid hfp'
        have HB' := Lib.hid hb'
        have HCASE := Lib.hid hcase
        clear hm' hat' hfp' hb' hcase hck0
        by_cases hlt : j < n1
        · have hrk := HK.out.below HB'.out
          obtain ⟨b2, o2, hA, hc⟩ := hrk.cell h1
          simp only [Option.some.injEq, Addr.mk.injEq, and_true] at hA
          obtain ⟨rfl, rfl⟩ := hA
          have hck := hc j hlt
          have hwk := getD_wf HK.out.wf j
          have hzero : j = 0 → ks.getD j 0 = y0 := fun e => by rw [e]; exact HY0.out.symm
          obtain ⟨z, hz⟩ : ∃ z, z = ks.getD j 0 := ⟨_, rfl⟩
          rw [← hz] at hck hwk hzero
          obtain ⟨bs, hbs⟩ : ∃ bs, bs = if z < best then z else best := ⟨_, rfl⟩
          have hS2 : ((id, bs) : It) ∈ pushF S' (id, z) ∧ (pushF S' (id, z)).length = S.length + 1 := by
            rcases HCASE.out with ⟨h0, hn, hl, hb⟩ | ⟨h0, hm, hl⟩
            · have e1 := pushF_new (x := ((id, z) : It)) hn
              have e2 : bs = z := by rw [hbs, hb, hzero h0]; simp
              rw [e1, e2, ins_length, hl]
              exact ⟨(ins_perm _ _).mem_iff.2 (List.mem_cons_self ..), rfl⟩
            · have e1 := pushF_has (k := z) HAT'.out.sorted HAT'.out.uniq hm
              rw [hbs]; exact ⟨e1.1, e1.2.trans hl⟩
          have hSl' : S'.length ≤ 31 := by rcases HCASE.out with ⟨_, _, hl, _⟩ | ⟨_, _, hl⟩ <;> omega
          have HC := Lib.hid hc
          have HWK := Lib.hid hwk
          have HZ := Lib.hid hz
          clear hrk hc hwk hz hzero
          by_cases hmin : z < best
          · rw [if_pos hmin] at hbs
            subst hbs
            have HS2 := Lib.hid hS2
            clear hS2
            go_wp2_with fail
            refine (push_at HAT'.out ⟨HID.out, HWK.out⟩ (by omega)).mono ?_
            rintro e w2 ⟨rfl, fp2, h2', f2, u2⟩
            have hb2 : Below w.heap.size w w2 := HB'.out.trans (u2.below HB'.out.size fun b hb e => by have := HFP'.out b e; omega)
            have hcell2 := (HK.out.below hb2).cell h1
            obtain ⟨b3, o3, hA, hc3⟩ := hcell2
            simp only [Option.some.injEq, Addr.mk.injEq, and_true] at hA
            obtain ⟨rfl, rfl⟩ := hA
            have hck2 := hc3 j hlt
            rw [← HZ.out] at hck2
            have H2 := Lib.hid h2'
            have F2 := Lib.hid f2
            have HB2 := Lib.hid hb2
            clear h2' f2 u2 hb2 hc3 hck
            go_wp2_with fail
            refine (key_at (x := (id, bs)) H2.out HS2.out.1).mono ?_
            rintro e w' ⟨rfl, rfl⟩
            have hlen2 := len_at H2.out
            rw [HS2.out.2] at hlen2
            have HLEN2 := Lib.hid hlen2
            clear hlen2
            go_wp2_with fail
            refine HLEN2.out.mono ?_
            rintro e w' ⟨rfl, rfl⟩
            go_wp2_with fail
            go_roundg (n1 - (j + 1))
            case measure => have := HM'.out; omega
            case rel => exact ⟨j + 1, bs, fp2, _, rfl, by omega, by go_num, rfl, H2.out, fun b hb => (F2.out b hb).elim (HFP'.out b) (fun e => Nat.le_trans HB'.out.size e), HB2.out, .inr ⟨by omega, HS2.out.1, HS2.out.2⟩⟩
          · rw [if_neg hmin] at hbs
            subst hbs
            have HS2 := Lib.hid hS2
            clear hS2
            go_wp2_with fail
            refine (push_at HAT'.out ⟨HID.out, HWK.out⟩ (by omega)).mono ?_
            rintro e w2 ⟨rfl, fp2, h2', f2, u2⟩
            have hb2 : Below w.heap.size w w2 := HB'.out.trans (u2.below HB'.out.size fun b hb e => by have := HFP'.out b e; omega)
            have hcell2 := (HK.out.below hb2).cell h1
            obtain ⟨b3, o3, hA, hc3⟩ := hcell2
            simp only [Option.some.injEq, Addr.mk.injEq, and_true] at hA
            obtain ⟨rfl, rfl⟩ := hA
            have hck2 := hc3 j hlt
            rw [← HZ.out] at hck2
            have H2 := Lib.hid h2'
            have F2 := Lib.hid f2
            have HB2 := Lib.hid hb2
            clear h2' f2 u2 hb2 hc3 hck
            go_wp2_with fail
            refine (key_at (x := (id, bs)) H2.out HS2.out.1).mono ?_
            rintro e w' ⟨rfl, rfl⟩
            have hlen2 := len_at H2.out
            rw [HS2.out.2] at hlen2
            have HLEN2 := Lib.hid hlen2
            clear hlen2
            go_wp2_with fail
            refine HLEN2.out.mono ?_
            rintro e w' ⟨rfl, rfl⟩
            go_wp2_with fail
            go_roundg (n1 - (j + 1))
            case measure => have := HM'.out; omega
            case rel => exact ⟨j + 1, bs, fp2, _, rfl, by omega, by go_num, rfl, H2.out, fun b hb => (F2.out b hb).elim (HFP'.out b) (fun e => Nat.le_trans HB'.out.size e), HB2.out, .inr ⟨by omega, HS2.out.1, HS2.out.2⟩⟩
        · have hjn : j = n1 := by omega
          subst hjn
          clear hlt
          have hfin : ∃ l : Nat, S'.length = l := ⟨_, rfl⟩
          have hle : S.length ≤ cnt := hc1
          go_wp2_with fail
          refine (awake4 _).mono ?_
          rintro e w' ⟨rfl, hb5⟩
          have hb6 : Below w.heap.size w w' := HB'.out.trans (hb5.mono HB'.out.size)
          go_wp2_with fail
          go_ret
          exact ⟨rfl, hb6⟩
theorem walk {W : World} (id : Int) (hid : (Lit.int .i64 id).wf = true) (A1 : Option Addr) (n1 c1 : Nat) (ks : List Int) (hk : ReadsI W A1 n1 c1 ks) (A2 : Option Addr) (n2 c2 : Nat) (os : List Int) (ho : ReadsI W A2 n2 c2 os) :
    Calls Try.prog 8 #[.int .i64 id, .slice A1 n1 c1, .slice A2 n2 c2] W fun e w' => e = .returned (.bool true) ∧ Below W.heap.size W w' := by
  by_cases h : n1 = 0 ∨ 30 < n1 ∨ 30 < n2
  · have s1 := hk.small
    have s2 := ho.small
    unfold maxLen at s1 s2
    exact walk_out id A1 A2 n1 c1 n2 c2 (by omega) (by omega) W h
  · exact walk_ins id hid A1 A2 n1 c1 n2 c2 ks os W (by omega) (by omega) (by omega) hk ho
set_option maxRecDepth 100000 in
theorem lifted (os : Os) (started : os.Started) (H : Type) (enc : TypeId × Value → H) :
    ReturnsInHanded {} Try.checked os 8 .any (Rows.heapLowersSpec.pre6 enc Try.prog Try.f8 Rows.heapLowersRow.domain false) (Rows.heapLowersSpec.post enc Try.prog Try.f8 false true false false) := by
  refine returnsInHanded_of_change (C := Try.checked) own started (by kernel_rfl) Try.func8
    (ChangeSpec.witness6 (enc := enc) (C := Try.checked) false ⟨#[], #[.int .i64 0, .slice none 0 0, .slice none 0 0], []⟩ 8 (by kernel_rfl) (by kernel_rfl) (by kernel_rfl) (by kernel_rfl)) ?_
  intro W base args ds gs before hval0 hW hcnd _
  have hval : ∀ (j : Nat) t v, Try.f8.params[j]? = some t → args[j]? = some v → Value.okWide Try.prog W .any base t v := hval0
  have hW' := hW
  obtain ⟨p, q, hA0, hV, rfl, hfz, hnd⟩ := hW
  have hA : DataW.TrodAll enc Try.prog W 0 (fun _ => true) true Try.f8.params.toList args.toList ds p := hA0
  rw [Try.params8] at hA hval
  obtain ⟨v0, vs0, d0, ds0, p0, q0, hargs, rfl, rfl, h0, r0⟩ := trodAll_cons hA
  obtain ⟨v1, vs1, d1, ds1, p1, q1, rfl, rfl, rfl, h1, r1⟩ := trodAll_cons r0
  obtain ⟨v2, vs2, d2, ds2, p2, q2, rfl, rfl, rfl, h2, r2⟩ := trodAll_cons r1
  obtain ⟨rfl, rfl, rfl⟩ := trodAll_nil r2
  obtain rfl : args = #[v0, v1, v2] := by cases args; simp_all
  obtain ⟨rfl, rfl⟩ := trodVars_none hV
  obtain ⟨a0, rfl, rfl, rfl, w0⟩ := open_int Try.underlying3 (hval 0 3 v0 rfl rfl) h0
  obtain ⟨a1, n1, c1, xs1, rfl, k1⟩ := open_reads (hval 1 50 v1 rfl rfl) h1
  obtain ⟨a2, n2, c2, xs2, rfl, k2⟩ := open_reads (hval 2 50 v2 rfl rfl) h2
  refine (walk a0 w0 a1 n1 c1 xs1 k1 a2 n2 c2 xs2 k2).mono fun e W' ⟨he, hb⟩ => ?_
  subst he
  exact ⟨_, rfl, post_law hW' hb rfl rfl rfl rfl rfl (by rw [Try.params8]; exact readable_all (by kernel_rfl))⟩
theorem over : Rows.heapLowersRow.holds Try.pinned (OpenSpec.ofChange Rows.heapLowersSpec) :=
  OpenClaim.holds_of_wide 8 Try.f8 rfl rfl rfl rfl rfl rfl rfl ⟨rfl, rfl, rfl, rfl, rfl⟩ rfl rfl rfl rfl rfl (by kernel_rfl) Try.func8 (by kernel_rfl)
    (of_decide_eq_true (by kernel_rfl)) (by unfold Func.isWrapper; first | (rw [if_pos (by decide +kernel)]; kernel_rfl) | (rw [if_neg (by decide +kernel)]; exact ⟨rfl, rfl⟩))
    (fun os started H enc _ => lifted os started H enc)
theorem proved : Rows.HeapLowersSaid := over
#print axioms proved
end Go.Proofs.Ytojclogpjgeloaa.heapLowers
