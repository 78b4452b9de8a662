/- milepostref4: Next, Prev. -/
import Derived.Test.YtkdpfbefdhjmcaaTurn4
import Derived.Test.YtkdpfbefdhjmcaaAppend
set_option linter.unusedVariables false
set_option linter.unusedSimpArgs false
namespace Go.Proofs.Ytkdpfbefdhjmcaa
open Go.ChangeShapes Go.WideShapes Go.ChangeAt Go.RowKit
theorem rowB_succ (p : Nat → Bool) (k : Nat) : ((List.range (k + 1)).filter p).map (fun i => ((i : Nat) : Int)) = if p k = true then ((List.range k).filter p).map (fun i => ((i : Nat) : Int)) ++ [((k : Nat) : Int)] else ((List.range k).filter p).map (fun i => ((i : Nat) : Int)) := by
  rw [List.range_succ, List.filter_append, List.map_append]
  cases h : p k <;> simp [h]
theorem rowB_len (p : Nat → Bool) (k : Nat) : (((List.range k).filter p).map (fun i => ((i : Nat) : Int))).length ≤ k := by
  rw [List.length_map]; exact Nat.le_trans (List.length_filter_le _ _) (by simp)
theorem rowB_wf (p : Nat → Bool) {k : Nat} (h : k ≤ 512) : ∀ x ∈ ((List.range k).filter p).map (fun i => ((i : Nat) : Int)), (Lit.int .i64 x).wf = true := by
  intro x hx
  obtain ⟨i, hi, rfl⟩ := List.mem_map.1 hx
  have := List.mem_range.1 (List.mem_filter.1 hi).1
  simp [Lit.wf, IntKind.min, IntKind.max, IntKind.signed, IntKind.bits]; omega
set_option maxHeartbeats 8000000 in
set_option maxRecDepth 100000 in
theorem next4_any {A1 A2 A3 : Option Addr} {n1 n2 n3 c1 c2 c3 : Nat} {ns : List (Int × Int)} {es : List (Int × Int × Int)} {bs : List (Int × Int)} {w : World} (h : GR w A1 A2 A3 n1 n2 n3 c1 c2 c3 ns es bs) (hm : n2 ≤ 512) (x : Int) :
    Calls Try.prog 55 #[.agg #[.slice A1 n1 c1, .slice A2 n2 c2, .slice A3 n3 c3], .int .i64 x] w fun e w' =>
      ∃ A' c', e = .returned (.slice A' (nextT es bs x).length c') ∧ ReadsI w' A' (nextT es bs x).length c' (nextT es bs x) ∧ (∀ b o, A' = some ⟨b, o, none⟩ → w.heap.size ≤ b ∧ b < w'.heap.size) ∧ Below w.heap.size w w' := by
  have HLE := Lib.hid h.rE.len
  have HB := Lib.hid (bl_alloc (Below.refl w.heap.size w) (.cells #[.slice A1 n1 c1, .slice A2 n2 c2, .slice A3 n3 c3] 51))
  have HG := Lib.hid (h.below HB.out)
  obtain ⟨i1, hi1⟩ := info1
  have II := Lib.hid hi1
  obtain ⟨p, hp⟩ : ∃ p : Nat → Bool, p = fun k => turnB es bs x ((k : Nat) : Int) := ⟨_, rfl⟩
  have hpk : ∀ k : Nat, turnB es bs x ((k : Nat) : Int) = p k := fun k => by rw [hp]
  have hres : nextT es bs x = ((List.range n2).filter p).map (fun i => ((i : Nat) : Int)) := by rw [hp]; unfold nextT; rw [HLE.out]
  have HPK := Lib.hid hpk
  have HRES := Lib.hid hres
  clear h hi1 hp hpk hres
  obtain ⟨W1, hW1⟩ : ∃ W1, W1 = w.alloc (.cells #[.slice A1 n1 c1, .slice A2 n2 c2, .slice A3 n3 c3] 51) := ⟨_, rfl⟩
  have HS : Hid (∀ w', Below W1.heap.size W1 w' → w'.cell? ⟨w.heap.size, 0, none⟩ = some (.slice A1 n1 c1) ∧ w'.cell? ⟨w.heap.size, 1, none⟩ = some (.slice A2 n2 c2) ∧ w'.cell? ⟨w.heap.size, 2, none⟩ = some (.slice A3 n3 c3)) := Lib.hid fun w' hb => by subst hW1; exact GR.box hb
  rw [← hW1] at HG HB
  have HW := Lib.hid hW1
  clear hW1
  go_enter Try.func55, Try.ntmps55
  go_wp2_with fail
  rw [← HW.out]
  go_loopg [5, 6] n2 (fun M v u wr => ∃ k : Nat, M = n2 - k ∧ k ≤ n2 ∧ u = .int .i64 (k : Nat) ∧ wr.ownsRow W1.heap.size 3 1 v (((List.range k).filter p).map (fun i => ((i : Nat) : Int))).length (flatI (((List.range k).filter p).map (fun i => ((i : Nat) : Int)))) ∧ Below W1.heap.size W1 wr)
  case atStart => exact ⟨0, rfl, Nat.zero_le _, rfl, World.ownsRow_nil _ _ _ _, Below.refl _ _⟩
  case round =>
    obtain ⟨k, hM, hk, rfl, hown, hb⟩ := hrel
    have hT := rowB_len p k
    have hTs := rowB_succ p k
    obtain ⟨T, hTT⟩ : ∃ T, T = ((List.range k).filter p).map (fun i => ((i : Nat) : Int)) := ⟨_, rfl⟩
    rw [← hTT] at hown hT hTs
    have HM := Lib.hid hM
    have HOWN := Lib.hid hown
    have HBR := Lib.hid hb
    have HTT := Lib.hid hTT
    have HTS := Lib.hid hTs
    obtain ⟨k0, k1, k2⟩ := HS.out _ hb
    clear hM hown hb hTT hTs
    by_cases hlt : k < n2
    · cases hpv : p k with
      | false =>
        have HPV := Lib.hid hpv
        clear hpv
        go_wp2_with fail
        refine (turn4_any (HG.out.below HBR.out) _ _).mono ?_
        rw [HPK.out, HPV.out]
        rintro e v1 ⟨rfl, hb1⟩
        have HB1 := Lib.hid (bl_then HBR.out hb1)
        have HO1 := Lib.hid (own_upd HOWN.out (Upd.of_below (F := fun _ => False) hb1) (fun _ _ h => h))
        clear hb1
        go_wp2_with fail
        go_roundg (n2 - (k + 1))
        case measure => have := HM.out; omega
        case rel =>
          refine ⟨k + 1, rfl, by omega, by go_num, ?_, HB1.out⟩
          rw [HTS.out, HPV.out]; simp only [Bool.false_eq_true, if_false]; exact HO1.out
      | true =>
        have HPV := Lib.hid hpv
        clear hpv
        go_wp2_with fail
        refine (turn4_any (HG.out.below HBR.out) _ _).mono ?_
        rw [HPK.out, HPV.out]
        rintro e v1 ⟨rfl, hb1⟩
        have HB1 := Lib.hid (bl_then HBR.out hb1)
        have HO1 := Lib.hid (own_upd HOWN.out (Upd.of_below (F := fun _ => False) (bl_alloc hb1 (.cells #[.int .i64 (k : Int)] 3))) (fun _ _ h => h))
        have hsrc := Src.new (w := v1) (vs := #[.int .i64 (k : Int)]) (t := 3) (size := 1) (by intro u hu; simp at hu; subst hu; rfl) rfl
        have HSRC := Lib.hid hsrc
        have HBS : Hid (W1.heap.size ≤ (v1.alloc (.cells #[.int .i64 (k : Int)] 3)).heap.size) := Lib.hid (bl_alloc HB1.out _).size
        clear hb1 hsrc
        go_wp2_with (at_builtin; refine wpList_push rfl (.tmp 18) (.tmp 20) 71 rfl W1.heap.size 3 Try.underlying71 II.out ⟨rfl, by decide⟩ _ T.length _ rfl HO1.out (some ⟨v1.heap.size, 0, none⟩) 1 1 _ rfl HSRC.out ⟨by unfold maxLen; omega, by omega⟩ HBS.out ?_)
        intro v' w1 hgr
        have hrow := hgr.row
        have hb2 : Below W1.heap.size W1 w1 := (bl_alloc HB1.out (.cells #[.int .i64 (k : Int)] 3)).grown hgr.by_ HBS.out (fun g hg => (World.ownsRow.lt HOWN.out g hg).1)
        have HROW := Lib.hid hrow
        have HB2 := Lib.hid hb2
        clear hgr hrow hb2
        go_wp2_with fail
        go_roundg (n2 - (k + 1))
        case measure => have := HM.out; omega
        case rel =>
          refine ⟨k + 1, rfl, by omega, by go_num, ?_, HB2.out⟩
          rw [HTS.out, HPV.out, if_pos rfl, flatI_append, List.length_append]; exact HROW.out
    · have hkn : n2 = k := by omega
      subst hkn
      clear hlt hk
      obtain ⟨A', c', hv⟩ := own_form HOWN.out
      subst hv
      go_wp2_with fail
      go_ret
      rw [HRES.out, ← HTT.out]
      exact ⟨A', c', rfl, ReadsI.of_row HOWN.out (by unfold maxLen; omega) (by rw [HTT.out]; exact rowB_wf p hm), fun b o e => by have := own_in HOWN.out b o e; have := HB.out.size; omega, bl_then HB.out HBR.out⟩
end Go.Proofs.Ytkdpfbefdhjmcaa
