/- Strides: Next4, WalkPure, ArcsMem, Arcs, one behind the other. -/
import Derived.Test.YtjopiefojicblaaRefs
import Derived.Test.YtjopiefojicblaaOuts
import Derived.Test.YtjopiefojicblaaTurnsAll
import Derived.BigQuiet
import Derived.Deep.RegionHeld3
/- milepostref4: Next, Prev. -/
set_option linter.unusedVariables false
set_option linter.unusedSimpArgs false
namespace Go.Proofs.Ytjopiefojicblaa
open Go.ChangeShapes Go.WideShapes Go.ChangeAt Go.RowKit
theorem rowB_succ (p : Nat → Bool) (k : Nat) : ((List.range (k + 1)).filter p).map (fun i => ((i : Nat) : Int)) = if p k = true then ((List.range k).filter p).map (fun i => ((i : Nat) : Int)) ++ [((k : Nat) : Int)] else ((List.range k).filter p).map (fun i => ((i : Nat) : Int)) := by
  rw [List.range_succ, List.filter_append, List.map_append]
  cases h : p k <;> simp [h]
theorem rowB_len (p : Nat → Bool) (k : Nat) : (((List.range k).filter p).map (fun i => ((i : Nat) : Int))).length ≤ k := by
  rw [List.length_map]; exact Nat.le_trans (List.length_filter_le _ _) (by simp)
theorem rowB_wf (p : Nat → Bool) {k : Nat} (h : k ≤ 512) : ∀ x ∈ ((List.range k).filter p).map (fun i => ((i : Nat) : Int)), (Lit.int .i64 x).wf = true := by
  intro x hx
  obtain ⟨i, hi, rfl⟩ := List.mem_map.1 hx
  have := List.mem_range.1 (List.mem_filter.1 hi).1
  simp [Lit.wf, IntKind.min, IntKind.max, IntKind.signed, IntKind.bits]; omega
set_option maxHeartbeats 8000000 in
set_option maxRecDepth 100000 in
theorem next4_any {A1 A2 A3 : Option Addr} {n1 n2 n3 c1 c2 c3 : Nat} {ns : List (Int × Int)} {es : List (Int × Int × Int)} {bs : List (Int × Int)} {w : World} (h : GR w A1 A2 A3 n1 n2 n3 c1 c2 c3 ns es bs) (hm : n2 ≤ 512) (x : Int) :
    Calls Try.prog 26 #[.agg #[.slice A1 n1 c1, .slice A2 n2 c2, .slice A3 n3 c3], .int .i64 x] w fun e w' =>
      ∃ A' c', e = .returned (.slice A' (nextT es bs x).length c') ∧ ReadsI w' A' (nextT es bs x).length c' (nextT es bs x) ∧ (∀ b o, A' = some ⟨b, o, none⟩ → w.heap.size ≤ b ∧ b < w'.heap.size) ∧ Below w.heap.size w w' := by
  have HLE := Lib.hid h.rE.len
  have HB := Lib.hid (bl_alloc (Below.refl w.heap.size w) (.cells #[.slice A1 n1 c1, .slice A2 n2 c2, .slice A3 n3 c3] 29))
  have HG := Lib.hid (h.below HB.out)
  obtain ⟨i1, hi1⟩ := info1
  have II := Lib.hid hi1
  obtain ⟨p, hp⟩ : ∃ p : Nat → Bool, p = fun k => turnB es bs x ((k : Nat) : Int) := ⟨_, rfl⟩
  have hpk : ∀ k : Nat, turnB es bs x ((k : Nat) : Int) = p k := fun k => by rw [hp]
  have hres : nextT es bs x = ((List.range n2).filter p).map (fun i => ((i : Nat) : Int)) := by rw [hp]; unfold nextT; rw [HLE.out]
  have HPK := Lib.hid hpk
  have HRES := Lib.hid hres
  clear h hi1 hp hpk hres
  obtain ⟨W1, hW1⟩ : ∃ W1, W1 = w.alloc (.cells #[.slice A1 n1 c1, .slice A2 n2 c2, .slice A3 n3 c3] 29) := ⟨_, rfl⟩
  have HS : Hid (∀ w', Below W1.heap.size W1 w' → w'.cell? ⟨w.heap.size, 0, none⟩ = some (.slice A1 n1 c1) ∧ w'.cell? ⟨w.heap.size, 1, none⟩ = some (.slice A2 n2 c2) ∧ w'.cell? ⟨w.heap.size, 2, none⟩ = some (.slice A3 n3 c3)) := Lib.hid fun w' hb => by subst hW1; exact GR.box hb
  rw [← hW1] at HG HB
  have HW := Lib.hid hW1
  clear hW1
  go_enter Try.func26, Try.ntmps26
  go_wp2_with fail
  rw [← HW.out]
  go_loopg [5, 6] n2 (fun M v u wr => ∃ k : Nat, M = n2 - k ∧ k ≤ n2 ∧ u = .int .i64 (k : Nat) ∧ wr.ownsRow W1.heap.size 3 1 v (((List.range k).filter p).map (fun i => ((i : Nat) : Int))).length (flatI (((List.range k).filter p).map (fun i => ((i : Nat) : Int)))) ∧ Below W1.heap.size W1 wr)
  case atStart => exact ⟨0, rfl, Nat.zero_le _, rfl, World.ownsRow_nil _ _ _ _, Below.refl _ _⟩
  case round =>
    obtain ⟨k, hM, hk, rfl, hown, hb⟩ := hrel
    have hT := rowB_len p k
    have hTs := rowB_succ p k
    obtain ⟨T, hTT⟩ : ∃ T, T = ((List.range k).filter p).map (fun i => ((i : Nat) : Int)) := ⟨_, rfl⟩
    rw [← hTT] at hown hT hTs
    have HM := Lib.hid hM
    have HOWN := Lib.hid hown
    have HBR := Lib.hid hb
    have HTT := Lib.hid hTT
    have HTS := Lib.hid hTs
    obtain ⟨k0, k1, k2⟩ := HS.out _ hb
    clear hM hown hb hTT hTs
    by_cases hlt : k < n2
    · cases hpv : p k with
      | false =>
        have HPV := Lib.hid hpv
        clear hpv
        go_wp2_with fail
        refine (turn4_any (HG.out.below HBR.out) _ _).mono ?_
        rw [HPK.out, HPV.out]
        rintro e v1 ⟨rfl, hb1⟩
        have HB1 := Lib.hid (bl_then HBR.out hb1)
        have HO1 := Lib.hid (own_upd HOWN.out (Upd.of_below (F := fun _ => False) hb1) (fun _ _ h => h))
        clear hb1
        go_wp2_with fail
        go_roundg (n2 - (k + 1))
        case measure => have := HM.out; omega
        case rel =>
          refine ⟨k + 1, rfl, by omega, by go_num, ?_, HB1.out⟩
          rw [HTS.out, HPV.out]; simp only [Bool.false_eq_true, if_false]; exact HO1.out
      | true =>
        have HPV := Lib.hid hpv
        clear hpv
        go_wp2_with fail
        refine (turn4_any (HG.out.below HBR.out) _ _).mono ?_
        rw [HPK.out, HPV.out]
        rintro e v1 ⟨rfl, hb1⟩
        have HB1 := Lib.hid (bl_then HBR.out hb1)
        have HO1 := Lib.hid (own_upd HOWN.out (Upd.of_below (F := fun _ => False) (bl_alloc hb1 (.cells #[.int .i64 (k : Int)] 3))) (fun _ _ h => h))
        have hsrc := Src.new (w := v1) (vs := #[.int .i64 (k : Int)]) (t := 3) (size := 1) (by intro u hu; simp at hu; subst hu; rfl) rfl
        have HSRC := Lib.hid hsrc
        have HBS : Hid (W1.heap.size ≤ (v1.alloc (.cells #[.int .i64 (k : Int)] 3)).heap.size) := Lib.hid (bl_alloc HB1.out _).size
        clear hb1 hsrc
        go_wp2_with (at_builtin; refine wpList_push rfl (.tmp 18) (.tmp 20) 22 rfl W1.heap.size 3 Try.underlying22 II.out ⟨rfl, by decide⟩ _ T.length _ rfl HO1.out (some ⟨v1.heap.size, 0, none⟩) 1 1 _ rfl HSRC.out ⟨by unfold maxLen; omega, by omega⟩ HBS.out ?_)
        intro v' w1 hgr
        have hrow := hgr.row
        have hb2 : Below W1.heap.size W1 w1 := (bl_alloc HB1.out (.cells #[.int .i64 (k : Int)] 3)).grown hgr.by_ HBS.out (fun g hg => (World.ownsRow.lt HOWN.out g hg).1)
        have HROW := Lib.hid hrow
        have HB2 := Lib.hid hb2
        clear hgr hrow hb2
        go_wp2_with fail
        go_roundg (n2 - (k + 1))
        case measure => have := HM.out; omega
        case rel =>
          refine ⟨k + 1, rfl, by omega, by go_num, ?_, HB2.out⟩
          rw [HTS.out, HPV.out, if_pos rfl, flatI_append, List.length_append]; exact HROW.out
    · have hkn : n2 = k := by omega
      subst hkn
      clear hlt hk
      obtain ⟨A', c', hv⟩ := own_form HOWN.out
      subst hv
      go_wp2_with fail
      go_ret
      rw [HRES.out, ← HTT.out]
      exact ⟨A', c', rfl, ReadsI.of_row HOWN.out (by unfold maxLen; omega) (by rw [HTT.out]; exact rowB_wf p hm), fun b o e => by have := own_in HOWN.out b o e; have := HB.out.size; omega, bl_then HB.out HBR.out⟩
end Go.Proofs.Ytjopiefojicblaa
/- Walks, on lists alone. -/
set_option linter.unusedVariables false
set_option linter.unusedSimpArgs false
namespace Go.Proofs.Ytjopiefojicblaa
open Go.RowKit
def chainB (es : List (Int × Int × Int)) (bs : List (Int × Int)) : Int → List Int → Bool
  | _, [] => true
  | a, b :: l => turnB es bs a b && chainB es bs b l
def lastI : Int → List Int → Int
  | a, [] => a
  | _, b :: l => lastI b l
def walkB (es : List (Int × Int × Int)) (bs : List (Int × Int)) (a : Int) (l : List Int) : Bool := inB 0 a ((es.length : Int) - 1) && chainB es bs a l
theorem lastI_append : ∀ (a : Int) (l k : List Int), lastI a (l ++ k) = lastI (lastI a l) k
  | _, [], _ => rfl
  | _, b :: l, k => lastI_append b l k
theorem chainB_append (es : List (Int × Int × Int)) (bs : List (Int × Int)) : ∀ (a : Int) (l k : List Int), chainB es bs a (l ++ k) = (chainB es bs a l && chainB es bs (lastI a l) k)
  | _, [], _ => by simp [chainB, lastI]
  | a, b :: l, k => by
    have ih := chainB_append es bs b l k
    show (turnB es bs a b && chainB es bs b (l ++ k)) = _
    rw [ih]; simp [chainB, lastI, Bool.and_assoc]
theorem takeI {xs : List Int} {j : Nat} (h : j < xs.length) : xs.take (j + 1) = xs.take j ++ [xs.getD j 0] := by
  rw [List.take_succ_eq_append_getElem h, List.getD_eq_getElem?_getD, List.getElem?_eq_getElem h]; rfl
theorem dropI {xs : List Int} {j : Nat} (h : j < xs.length) : xs.drop j = xs.getD j 0 :: xs.drop (j + 1) := by
  rw [List.drop_eq_getElem_cons h, List.getD_eq_getElem?_getD, List.getElem?_eq_getElem h]; rfl
theorem chain_step {es : List (Int × Int × Int)} {bs : List (Int × Int)} {a : Int} {xs : List Int} {j : Nat} (h : j < xs.length) : chainB es bs a (xs.take (j + 1)) = (chainB es bs a (xs.take j) && turnB es bs (lastI a (xs.take j)) (xs.getD j 0)) := by
  rw [takeI h, chainB_append]; simp [chainB]
theorem last_step {a : Int} {xs : List Int} {j : Nat} (h : j < xs.length) : lastI a (xs.take (j + 1)) = xs.getD j 0 := by rw [takeI h, lastI_append]; rfl
theorem chain_false {es : List (Int × Int × Int)} {bs : List (Int × Int)} {a : Int} {xs : List Int} {j : Nat} (h : chainB es bs a (xs.take j) = false) : chainB es bs a xs = false := by
  have := chainB_append es bs a (xs.take j) (xs.drop j)
  rw [List.take_append_drop, h] at this
  exact this
theorem last_get {a : Int} {xs : List Int} (h : 0 < xs.length) : lastI a xs = xs.getD (xs.length - 1) 0 := by
  have := last_step (a := a) (xs := xs) (j := xs.length - 1) (by omega)
  rw [show xs.length - 1 + 1 = xs.length by omega, List.take_length] at this
  exact this
/-- the last edge of a walk is an edge -/
theorem last_in {es : List (Int × Int × Int)} {bs : List (Int × Int)} : ∀ {a : Int} {l : List Int}, inB 0 a ((es.length : Int) - 1) = true → chainB es bs a l = true → inB 0 (lastI a l) ((es.length : Int) - 1) = true
  | a, [], h, _ => h
  | a, b :: l, h, hc => by
    unfold chainB at hc
    rw [Bool.and_eq_true] at hc
    have hb : inB 0 b ((es.length : Int) - 1) = true := by
      cases hb : inB 0 b ((es.length : Int) - 1)
      · rw [turnB_out2 hb] at hc; exact absurd hc.1 (by simp)
      · rfl
    exact last_in (a := b) (l := l) hb hc.2
def okE (es : List (Int × Int × Int)) (l : List Int) : Bool := l.all fun b => inB 0 b ((es.length : Int) - 1)
def sumW (es : List (Int × Int × Int)) : List Int → Int
  | [] => 0
  | b :: l => (es.getD b.toNat (0, 0, 0)).2.2 + sumW es l
theorem sumW_append (es : List (Int × Int × Int)) : ∀ l k : List Int, sumW es (l ++ k) = sumW es l + sumW es k
  | [], k => by simp [sumW]
  | b :: l, k => by
    have ih := sumW_append es l k
    show _ + sumW es (l ++ k) = _
    rw [ih]; simp only [sumW]; omega
theorem sum_step {es : List (Int × Int × Int)} {xs : List Int} {j : Nat} (h : j < xs.length) : sumW es (xs.take (j + 1)) = sumW es (xs.take j) + (es.getD (xs.getD j 0).toNat (0, 0, 0)).2.2 := by
  rw [takeI h, sumW_append]; simp [sumW]
theorem ok_step {es : List (Int × Int × Int)} {xs : List Int} {j : Nat} (h : j < xs.length) : okE es (xs.take (j + 1)) = (okE es (xs.take j) && inB 0 (xs.getD j 0) ((es.length : Int) - 1)) := by
  unfold okE; rw [takeI h, List.all_append]; simp
theorem ok_false {es : List (Int × Int × Int)} {xs : List Int} {j : Nat} (h : okE es (xs.take j) = false) : okE es xs = false := by
  have : okE es xs = (okE es (xs.take j) && okE es (xs.drop j)) := by unfold okE; rw [← List.all_append, List.take_append_drop]
  rw [this, h]; rfl
theorem w_bd {ns bs : List (Int × Int)} {es : List (Int × Int × Int)} (h : mayB ns es bs = true) (b : Nat) : 0 ≤ (es.getD b (0, 0, 0)).2.2 ∧ (es.getD b (0, 0, 0)).2.2 ≤ 65535 ∧ (b < es.length → 1 ≤ (es.getD b (0, 0, 0)).2.2) := by
  unfold mayB at h
  simp only [Bool.and_eq_true] at h
  obtain ⟨⟨⟨_, _⟩, h3⟩, _⟩ := h
  rcases Nat.lt_or_ge b es.length with hb | hb
  · have := List.all_eq_true.1 h3 _ (List.getElem_mem hb)
    unfold edgeOk inB at this
    simp only [Bool.and_eq_true, decide_eq_true_eq] at this
    rw [List.getD_eq_getElem?_getD, List.getElem?_eq_getElem hb]
    simp only [Option.getD_some]
    omega
  · rw [List.getD_eq_getElem?_getD, List.getElem?_eq_none hb]
    simp; omega
theorem sum_bd {ns bs : List (Int × Int)} {es : List (Int × Int × Int)} (h : mayB ns es bs = true) : ∀ l : List Int, 0 ≤ sumW es l ∧ sumW es l ≤ l.length * 65535
  | [] => by simp [sumW]
  | b :: l => by
    have ih := sum_bd h l
    have hb := w_bd h b.toNat
    simp only [sumW, List.length_cons]
    omega
def wgtT (es : List (Int × Int × Int)) (l : List Int) : Int := if okE es l = true then sumW es l else 0
def endT (es : List (Int × Int × Int)) (bs : List (Int × Int)) (a : Int) (l : List Int) : Int := if walkB es bs a l = true then (es.getD (lastI a l).toNat (0, 0, 0)).2.1 else 0
def cmpL : List Int → List Int → Int
  | [], [] => 0
  | [], _ :: _ => -1
  | _ :: _, [] => 1
  | x :: a, y :: b => if x < y then -1 else if y < x then 1 else cmpL a b
def strollT (es : List (Int × Int × Int)) (bs : List (Int × Int)) : Int → List Int → List Int
  | _, [] => []
  | e, s :: l => if (nextT es bs e).length = 0 then [] else
      (nextT es bs e).getD (s % ((nextT es bs e).length : Int)).toNat 0 :: strollT es bs ((nextT es bs e).getD (s % ((nextT es bs e).length : Int)).toNat 0) l
theorem stroll_len (es : List (Int × Int × Int)) (bs : List (Int × Int)) : ∀ (e : Int) (l : List Int), (strollT es bs e l).length ≤ l.length
  | _, [] => by simp [strollT]
  | e, s :: l => by
    unfold strollT
    split
    · simp
    · have := stroll_len es bs ((nextT es bs e).getD (s % ((nextT es bs e).length : Int)).toNat 0) l
      simp only [List.length_cons]; omega
theorem mod_lt {s : Int} {n : Nat} (h : 0 < n) : (s % (n : Int)).toNat < n := by
  have h0 := Int.emod_nonneg s (show (n : Int) ≠ 0 by omega)
  have h1 := Int.emod_lt_of_pos s (show (0 : Int) < n by omega)
  omega
theorem getD_memI {xs : List Int} {j : Nat} (h : j < xs.length) : xs.getD j 0 ∈ xs := by
  rw [List.getD_eq_getElem?_getD, List.getElem?_eq_getElem h]; exact List.getElem_mem h
theorem stroll_chain (es : List (Int × Int × Int)) (bs : List (Int × Int)) : ∀ (e : Int) (l : List Int), chainB es bs e (strollT es bs e l) = true
  | _, [] => by simp [strollT, chainB]
  | e, s :: l => by
    unfold strollT
    split
    · simp [chainB]
    · rename_i h
      unfold chainB
      rw [stroll_chain es bs _ l, Bool.and_true]
      exact nextT_mem.1 (getD_memI (mod_lt (by omega)))
theorem chain_ok {es : List (Int × Int × Int)} {bs : List (Int × Int)} : ∀ {a : Int} {l : List Int}, chainB es bs a l = true → okE es l = true
  | _, [], _ => by simp [okE]
  | a, b :: l, h => by
    unfold chainB at h
    rw [Bool.and_eq_true] at h
    have ih := chain_ok (es := es) (bs := bs) h.2
    unfold okE at ih ⊢
    rw [List.all_cons, ih, Bool.and_true]
    cases hb : inB 0 b ((es.length : Int) - 1)
    · rw [turnB_out2 hb] at h; exact absurd h.1 (by simp)
    · rfl
theorem cmp_step {a b : List Int} {k : Nat} (ha : k < a.length) (hb : k < b.length) (he : a.getD k 0 = b.getD k 0) : cmpL (a.drop k) (b.drop k) = cmpL (a.drop (k + 1)) (b.drop (k + 1)) := by
  rw [dropI ha, dropI hb, he]; simp [cmpL]
theorem cmp_lt {a b : List Int} {k : Nat} (ha : k < a.length) (hb : k < b.length) (he : a.getD k 0 < b.getD k 0) : cmpL (a.drop k) (b.drop k) = -1 := by
  rw [dropI ha, dropI hb]; unfold cmpL; rw [if_pos he]
theorem cmp_gt {a b : List Int} {k : Nat} (ha : k < a.length) (hb : k < b.length) (he : b.getD k 0 < a.getD k 0) : cmpL (a.drop k) (b.drop k) = 1 := by
  rw [dropI ha, dropI hb]; unfold cmpL; rw [if_neg (by omega), if_pos he]
theorem cmp_longer {a b : List Int} {k : Nat} (ha : k < a.length) (hb : b.length ≤ k) : cmpL (a.drop k) (b.drop k) = 1 := by
  rw [dropI ha, List.drop_eq_nil_of_le hb]; rfl
theorem cmp_shorter {a b : List Int} {k : Nat} (ha : a.length ≤ k) (hb : k < b.length) : cmpL (a.drop k) (b.drop k) = -1 := by
  rw [dropI hb, List.drop_eq_nil_of_le ha]; rfl
theorem cmp_same {a b : List Int} {k : Nat} (ha : a.length ≤ k) (hb : b.length ≤ k) : cmpL (a.drop k) (b.drop k) = 0 := by
  rw [List.drop_eq_nil_of_le ha, List.drop_eq_nil_of_le hb]; rfl
end Go.Proofs.Ytjopiefojicblaa
/- Rows of arcs: from, to, weight, and -1. -/
set_option linter.unusedVariables false
set_option linter.unusedSimpArgs false
namespace Go.Proofs.Ytjopiefojicblaa
open Go.ChangeShapes Go.WideShapes Go.ChangeAt Go.RowKit
theorem infoArc : (Try.prog.info? 86).map (fun i => (i.zero, i.size, i.bytes)) = some (some (.agg #[.int .i64 0, .int .i64 0, .int .i64 0, .int .i64 0]), 4, 32) := by kernel_rfl
theorem info4 : ∃ i, Try.prog.info? 86 = some i ∧ i.zero = some (.agg #[.int .i64 0, .int .i64 0, .int .i64 0, .int .i64 0]) ∧ i.size = 4 ∧ i.bytes = 32 := info_parts infoArc
def flat4 (xs : List (Int × Int × Int)) : List Value := xs.flatMap fun x => [.int .i64 x.1, .int .i64 x.2.1, .int .i64 x.2.2, .int .i64 (-1)]
theorem flat4_len (xs : List (Int × Int × Int)) : (flat4 xs).length = xs.length * 4 := by
  induction xs with
  | nil => rfl
  | cons x r ih => simp only [flat4, List.flatMap_cons, List.length_append, List.length_cons, List.length_nil] at *; omega
theorem flat4_append (l k : List (Int × Int × Int)) : flat4 (l ++ k) = flat4 l ++ flat4 k := by simp [flat4]
theorem flat4_get : ∀ (xs : List (Int × Int × Int)) (i : Nat), i < xs.length → (flat4 xs)[i * 4]? = some (.int .i64 (xs.getD i (0, 0, 0)).1) ∧ (flat4 xs)[i * 4 + 1]? = some (.int .i64 (xs.getD i (0, 0, 0)).2.1) ∧ (flat4 xs)[i * 4 + 2]? = some (.int .i64 (xs.getD i (0, 0, 0)).2.2) ∧ (flat4 xs)[i * 4 + 3]? = some (.int .i64 (-1))
  | x :: l, 0, _ => ⟨rfl, rfl, rfl, rfl⟩
  | x :: l, i + 1, h => by
    have ih := flat4_get l i (by simpa using h)
    have e0 : flat4 (x :: l) = .int .i64 x.1 :: .int .i64 x.2.1 :: .int .i64 x.2.2 :: .int .i64 (-1) :: flat4 l := rfl
    have e : (i + 1) * 4 = (i * 4) + 1 + 1 + 1 + 1 := by omega
    rw [e0, e, show i * 4 + 1 + 1 + 1 + 1 + 1 = (i * 4 + 1) + 1 + 1 + 1 + 1 from rfl, show i * 4 + 1 + 1 + 1 + 1 + 2 = (i * 4 + 2) + 1 + 1 + 1 + 1 from rfl, show i * 4 + 1 + 1 + 1 + 1 + 3 = (i * 4 + 3) + 1 + 1 + 1 + 1 from rfl]
    simp only [List.getElem?_cons_succ, List.getD_cons_succ]
    exact ih
structure ReadsQ (w : World) (A : Option Addr) (n c : Nat) (xs : List (Int × Int × Int)) : Prop where
  len : xs.length = n
  small : n ≤ maxLen
  cell : 0 < n → ∃ b o, A = some ⟨b, o, none⟩ ∧ ∀ i, i < n → w.cell? ⟨b, o + i * 4, none⟩ = some (.int .i64 (xs.getD i (0, 0, 0)).1) ∧ w.cell? ⟨b, o + i * 4 + 1, none⟩ = some (.int .i64 (xs.getD i (0, 0, 0)).2.1) ∧ w.cell? ⟨b, o + i * 4 + 2, none⟩ = some (.int .i64 (xs.getD i (0, 0, 0)).2.2) ∧ w.cell? ⟨b, o + i * 4 + 3, none⟩ = some (.int .i64 (-1))
theorem ReadsQ.below {w w' : World} {A : Option Addr} {n c : Nat} {xs : List (Int × Int × Int)} (h : ReadsQ w A n c xs) (hb : Below w.heap.size w w') : ReadsQ w' A n c xs := by
  refine ⟨h.len, h.small, fun hn => ?_⟩
  obtain ⟨b, o, hA, hc⟩ := h.cell hn
  exact ⟨b, o, hA, fun i hi => ⟨cell_below (hc i hi).1 hb, cell_below (hc i hi).2.1 hb, cell_below (hc i hi).2.2.1 hb, cell_below (hc i hi).2.2.2 hb⟩⟩
theorem ReadsQ.of_row {w : World} {B : Nat} {e : TypeId} {A : Option Addr} {n c : Nat} {xs : List (Int × Int × Int)} (h : w.ownsRow B e 4 (.slice A n c) n (flat4 xs)) (hn : n ≤ maxLen) : ReadsQ w A n c xs := by
  have hl : xs.length = n := by have := h.1; rw [flat4_len] at this; omega
  refine ⟨hl, hn, fun h0 => ?_⟩
  rcases h.2 with ⟨_, h1⟩ | ⟨g, cc, _, h1, _⟩
  · omega
  · injection h1 with e1 e2 e3
    subst e1
    refine ⟨g, 0, rfl, fun i hi => ?_⟩
    have := flat4_get xs i (by omega)
    rw [Nat.zero_add, h.cellAt _ (by omega), h.cellAt _ (by omega), h.cellAt _ (by omega), h.cellAt _ (by omega)]
    exact this
/-- all turns: of each edge what may come behind, as heavy as that -/
def arcRow (es : List (Int × Int × Int)) (a : Nat) (l : List Int) : List (Int × Int × Int) := l.map fun b => (((a : Nat) : Int), b, (es.getD b.toNat (0, 0, 0)).2.2)
def arcsN (es : List (Int × Int × Int)) (bs : List (Int × Int)) (k : Nat) : List (Int × Int × Int) := (List.range k).flatMap fun a => arcRow es a (nextT es bs ((a : Nat) : Int))
def arcsT (es : List (Int × Int × Int)) (bs : List (Int × Int)) : List (Int × Int × Int) := arcsN es bs es.length
theorem arcsN_succ (es : List (Int × Int × Int)) (bs : List (Int × Int)) (k : Nat) : arcsN es bs (k + 1) = arcsN es bs k ++ arcRow es k (nextT es bs ((k : Nat) : Int)) := by unfold arcsN; rw [List.range_succ, List.flatMap_append]; simp
theorem arcsN_len (es : List (Int × Int × Int)) (bs : List (Int × Int)) : ∀ k, (arcsN es bs k).length ≤ k * es.length
  | 0 => by simp [arcsN]
  | k + 1 => by
    have ih := arcsN_len es bs k
    have h := nextT_len es bs ((k : Nat) : Int)
    rw [arcsN_succ, List.length_append]
    unfold arcRow
    rw [List.length_map, Nat.add_mul]; omega
theorem arcsN_small {es : List (Int × Int × Int)} (h : es.length ≤ 512) (bs : List (Int × Int)) {k : Nat} (hk : k ≤ 512) : (arcsN es bs k).length ≤ 262144 :=
  Nat.le_trans (arcsN_len es bs k) (Nat.le_trans (Nat.mul_le_mul hk h) (by omega))
theorem arcRow_snoc (es : List (Int × Int × Int)) (a : Nat) (l : List Int) (b : Int) : arcRow es a (l ++ [b]) = arcRow es a l ++ [(((a : Nat) : Int), b, (es.getD b.toNat (0, 0, 0)).2.2)] := by unfold arcRow; rw [List.map_append]; rfl
theorem take_snocI {xs : List Int} {j : Nat} (h : j < xs.length) : xs.take (j + 1) = xs.take j ++ [xs.getD j 0] := by
  rw [List.take_succ_eq_append_getElem h, List.getD_eq_getElem?_getD, List.getElem?_eq_getElem h]; rfl
theorem getD_mem {xs : List Int} {j : Nat} (h : j < xs.length) : xs.getD j 0 ∈ xs := by
  rw [List.getD_eq_getElem?_getD, List.getElem?_eq_getElem h]; exact List.getElem_mem h
theorem next_get {es : List (Int × Int × Int)} {bs : List (Int × Int)} {a : Int} {j : Nat} (h : j < (nextT es bs a).length) : ∃ q : Nat, (nextT es bs a).getD j 0 = (q : Int) ∧ q < es.length ∧ turnB es bs a (q : Int) = true := by
  have hm := nextT_mem.1 (getD_mem h)
  obtain ⟨i, q, _, hq, _, hlt⟩ := turnB_in hm
  exact ⟨q, hq, hlt, by rw [← hq]; exact hm⟩
theorem Grown.upd {w w' : World} {base : Nat} {e : TypeId} {size : Nat} {v v' : Value} {n : Nat} {xs : List Value} (h : Grown w w' base e size v v' n xs) : Upd (fun b => v.ownBlock = some b) w w' :=
  ⟨h.by_.os, h.by_.tape, h.by_.output, h.by_.size, fun k hk hn => h.by_.block k hk fun e => hn e.symm⟩
theorem Grown.off {w w' : World} {base : Nat} {e : TypeId} {size : Nat} {v v' : Value} {n : Nat} {xs : List Value} (h : Grown w w' base e size v v' n xs) {b : Nat} (hb : b < w.heap.size) (hv : v.ownBlock ≠ some b) : v'.ownBlock ≠ some b := by
  intro e1
  rcases h.lies with h1 | h1
  · rw [h1] at e1; exact hv e1
  · rw [h1] at e1; injection e1 with e1; omega
end Go.Proofs.Ytjopiefojicblaa
/- All turns: turns.Arcs and the document's; two rows that are alike. -/
set_option linter.unusedVariables false
set_option linter.unusedSimpArgs false
namespace Go.Proofs.Ytjopiefojicblaa
open Go.ChangeShapes Go.WideShapes Go.ChangeAt Go.RowKit
set_option maxHeartbeats 16000000 in
set_option maxRecDepth 100000 in
theorem arcs4_any {A1 A2 A3 : Option Addr} {n1 n2 n3 c1 c2 c3 : Nat} {ns : List (Int × Int)} {es : List (Int × Int × Int)} {bs : List (Int × Int)} {w : World} (h : GR w A1 A2 A3 n1 n2 n3 c1 c2 c3 ns es bs) (hm : n2 ≤ 512) :
    Calls Try.prog 56 #[.agg #[.slice A1 n1 c1, .slice A2 n2 c2, .slice A3 n3 c3]] w fun e w' => ∃ A' c', e = .returned (.slice A' (arcsT es bs).length c') ∧ ReadsQ w' A' (arcsT es bs).length c' (arcsT es bs) ∧ (∀ b o, A' = some ⟨b, o, none⟩ → w.heap.size ≤ b ∧ b < w'.heap.size) ∧ Below w.heap.size w w' := by
  have HLE := Lib.hid h.rE.len
  have s3 : es.length ≤ 512 := by rw [h.rE.len]; exact hm
  have HB := Lib.hid (bl_alloc (Below.refl w.heap.size w) (.cells #[.slice A1 n1 c1, .slice A2 n2 c2, .slice A3 n3 c3] 29))
  have HG := Lib.hid (h.below HB.out)
  obtain ⟨i4, hi4⟩ := info4
  have IQ := Lib.hid hi4
  clear h hi4
  obtain ⟨W1, hW1⟩ : ∃ W1, W1 = w.alloc (.cells #[.slice A1 n1 c1, .slice A2 n2 c2, .slice A3 n3 c3] 29) := ⟨_, rfl⟩
  have HS : Hid (∀ w', Below W1.heap.size W1 w' → w'.cell? ⟨w.heap.size, 0, none⟩ = some (.slice A1 n1 c1) ∧ w'.cell? ⟨w.heap.size, 1, none⟩ = some (.slice A2 n2 c2) ∧ w'.cell? ⟨w.heap.size, 2, none⟩ = some (.slice A3 n3 c3)) := Lib.hid fun w' hb => by subst hW1; exact GR.box hb
  rw [← hW1] at HG HB
  have HW := Lib.hid hW1
  clear hW1
  go_enter Try.func56, Try.ntmps56
  go_wp2_with fail
  rw [← HW.out]
  go_loopg [3, 4] n2 (fun M v u wr => ∃ a : Nat, M = n2 - a ∧ a ≤ n2 ∧ u = .int .i64 (a : Nat) ∧ wr.ownsRow W1.heap.size 86 4 v (arcsN es bs a).length (flat4 (arcsN es bs a)) ∧ Below W1.heap.size W1 wr)
  case atStart => exact ⟨0, rfl, Nat.zero_le _, rfl, World.ownsRow_nil _ _ _ _, Below.refl _ _⟩
  case round =>
    obtain ⟨a, hM, ha, rfl, hown, hb⟩ := hrel
    have HM := Lib.hid hM
    have HOWN := Lib.hid hown
    have HBR := Lib.hid hb
    obtain ⟨k0, k1, k2⟩ := HS.out _ hb
    clear hM hown hb
    by_cases hlt : a < n2
    · have hln := nextT_len es bs (a : Int)
      rw [HLE.out] at hln
      have hsucc := arcsN_succ es bs a
      have hsm := arcsN_small s3 bs (show a ≤ 512 by omega)
      have hget : ∀ j, j < (nextT es bs (a : Int)).length → ∃ q : Nat, (nextT es bs (a : Int)).getD j 0 = (q : Int) ∧ q < n2 := fun j hj => by obtain ⟨q, h1, h2, _⟩ := next_get hj; rw [HLE.out] at h2; exact ⟨q, h1, h2⟩
      have hnext := next4_any (HG.out.below HBR.out) hm (a : Int)
      obtain ⟨T, hT⟩ : ∃ T, T = nextT es bs (a : Int) := ⟨_, rfl⟩
      rw [← hT] at hln hsucc hget hnext
      obtain ⟨C, hC⟩ : ∃ C, C = arcsN es bs a := ⟨_, rfl⟩
      rw [← hC] at hsucc hsm
      have HOWN' := HOWN
      rw [← hC] at HOWN'
      obtain ⟨ln, hl⟩ : ∃ ln, ln = T.length := ⟨_, rfl⟩
      rw [← hl] at hln hget hnext
      have HNEXT := Lib.hid hnext
      have HSUCC := Lib.hid hsucc
      have HGET := Lib.hid hget
      have HL := Lib.hid hl
      clear hsucc hget hT hC hl HOWN hnext
      go_wp2_with fail
      refine HNEXT.out.mono ?_
      rintro e v1 ⟨A, c, rfl, hrd, hnw, hb1⟩
      have HRD := Lib.hid hrd
      have HB1 := Lib.hid (bl_then HBR.out hb1)
      have HO1 := Lib.hid (own_upd HOWN'.out (Upd.of_below (F := fun _ => False) hb1) (fun _ _ h => h))
      have HNW := Lib.hid hnw
      clear hrd hnw hb1 k0 k1 k2
      go_wp2_with fail
      go_loopg [3, 6] ln (fun M v u wq => ∃ j : Nat, M = ln - j ∧ j ≤ ln ∧ u = .int .i64 (j : Nat) ∧ wq.ownsRow W1.heap.size 86 4 v (C ++ arcRow es a (T.take j)).length (flat4 (C ++ arcRow es a (T.take j))) ∧ Below W1.heap.size W1 wq ∧ ReadsI wq A ln c T ∧ ∀ b o, A = some ⟨b, o, none⟩ → b < wq.heap.size ∧ v.ownBlock ≠ some b)
      case atStart =>
        refine ⟨0, rfl, Nat.zero_le _, rfl, by simp only [List.take_zero, arcRow, List.map_nil, List.append_nil]; exact HO1.out, HB1.out, HRD.out, fun b o e => ⟨(HNW.out b o e).2, fun e2 => ?_⟩⟩
        have := (HNW.out b o e).1
        have := (World.ownsRow.lt HOWN'.out b e2).2
        omega
      case round =>
        obtain ⟨j, hM2, hj, rfl, hown, hb, hrq, hoff⟩ := hrel
        have HM2 := Lib.hid hM2
        have HOQ := Lib.hid hown
        have HBQ := Lib.hid hb
        have HRQ := Lib.hid hrq
        have HOF := Lib.hid hoff
        obtain ⟨k0, k1, k2⟩ := HS.out _ hb
        clear hM2 hown hb HOWN' hrq hoff
        by_cases hjl : j < ln
        · obtain ⟨q, hq, hq1⟩ := HGET.out j hjl
          obtain ⟨bT, oT, rfl, hcell⟩ := HRQ.out.cell (by omega)
          have d0 := hcell j hjl
          rw [hq] at d0
          have htk : T.take (j + 1) = T.take j ++ [(q : Int)] := by rw [take_snocI (by rw [← HL.out]; exact hjl), hq]
          have harc : arcRow es a (T.take (j + 1)) = arcRow es a (T.take j) ++ [((a : Int), (q : Int), (es.getD q (0, 0, 0)).2.2)] := by rw [htk, arcRow_snoc]; rfl
          have hlen : (C ++ arcRow es a (T.take j)).length ≤ 262656 := by
            rw [List.length_append]; unfold arcRow; rw [List.length_map]
            have := List.length_take_le j T
            omega
          obtain ⟨bE, oE, rfl, hcE⟩ := (HG.out.below HBQ.out).rE.cell (by omega)
          have d2 := (hcE q hq1).2.2
          obtain ⟨x2, hx⟩ : ∃ x, x = (es.getD q (0, 0, 0)).2.2 := ⟨_, rfl⟩
          rw [← hx] at d2 harc
          obtain ⟨D, hD⟩ : ∃ D, D = C ++ arcRow es a (T.take j) := ⟨_, rfl⟩
          have harc2 : C ++ arcRow es a (T.take (j + 1)) = D ++ [((a : Int), (q : Int), x2)] := by rw [harc, hD, List.append_assoc]
          rw [← hD] at hlen
          have HOQ' := HOQ
          rw [← hD] at HOQ'
          have HARC := Lib.hid harc2
          have j0 : (0 : Int) ≤ (j : Int) := by omega
          have j1 : (j : Int) < (ln : Int) := by omega
          have q0 : (0 : Int) ≤ (q : Int) := by omega
          have q1 : (q : Int) < (n2 : Int) := by omega
          have L0 : Hid (wr.cell? ⟨w.heap.size, 1, none⟩ = some (.slice (some ⟨bE, oE, none⟩) n2 c2)) := Lib.hid k1
          have hup := own_upd HOQ'.out (Upd.of_below (F := fun _ => False) (bl_alloc (bl_drew (Below.refl _ _)) (.cells #[.int .i64 (a : Int), .int .i64 (q : Int), .int .i64 x2, .int .i64 (-1)] 86))) (fun _ _ h => h)
          have hsrc := Src.new (w := wr.drew) (vs := #[.int .i64 (a : Int), .int .i64 (q : Int), .int .i64 x2, .int .i64 (-1)]) (t := 86) (size := 4) (by intro u hu; simp at hu; rcases hu with rfl | rfl | rfl | rfl <;> rfl) rfl
          have HUP := Lib.hid hup
          have HSRC := Lib.hid hsrc
          have hbd := bl_alloc (bl_drew (Below.refl wr.heap.size wr)) (.cells #[.int .i64 (a : Int), .int .i64 (q : Int), .int .i64 x2, .int .i64 (-1)] 86)
          have HBS : Hid (W1.heap.size ≤ (wr.drew.alloc (.cells #[.int .i64 (a : Int), .int .i64 (q : Int), .int .i64 x2, .int .i64 (-1)] 86)).heap.size) := Lib.hid (Nat.le_trans HBQ.out.size hbd.size)
          have HLE3 : Hid (D.length + 1 ≤ maxLen ∧ (D.length + 1) * 32 ≤ 140737488355328) := Lib.hid ⟨by unfold maxLen; omega, by omega⟩
          have HSQ : Hid (∀ w', Below wr.heap.size wr w' → w'.cell? ⟨bT, oT + j, none⟩ = some (.int .i64 (q : Int)) ∧ w'.cell? ⟨w.heap.size, 1, none⟩ = some (.slice (some ⟨bE, oE, none⟩) n2 c2) ∧ w'.cell? ⟨bE, oE + q * 3 + 2, none⟩ = some (.int .i64 x2)) := Lib.hid fun w' h => ⟨cell_below d0 h, cell_below k1 h, cell_below d2 h⟩
          have HBD := Lib.hid hbd
          have BD : Hid (Below wr.heap.size wr wr.drew) := Lib.hid (bl_drew (Below.refl _ _))
          have hbT := HOF.out bT oT rfl
          have hne1 : some bT ≠ Value.ownBlock _ := fun e => hbT.2 e.symm
          obtain ⟨bX, oX, hXe, hcX⟩ := HG.out.rE.cell (by omega)
          injection hXe with hXe
          injection hXe with hX1 hX2 _
          subst hX1 hX2
          have hbE : bE < W1.heap.size := World.block_lt_of_cell? W1 ⟨bE, oE + q * 3, none⟩ (hcX q hq1).1
          have hbw : w.heap.size < W1.heap.size := by have := HB.out.size; rw [HW.out] at this ⊢; rw [size_alloc]; omega
          have hlow : ∀ g, g < W1.heap.size → some g ≠ Value.ownBlock _ := fun g hg e => by have := (World.ownsRow.lt HOQ'.out g e.symm).1; omega
          have hszr := HBQ.out.size
          have HNE : Hid (_ ∧ _ ∧ _) := Lib.hid ⟨hne1, hlow _ hbw, hlow _ hbE⟩
          have HLT : Hid (bT < (wr.drew.alloc (.cells #[.int .i64 (a : Int), .int .i64 (q : Int), .int .i64 x2, .int .i64 (-1)] 86)).heap.size ∧ w.heap.size < (wr.drew.alloc (.cells #[.int .i64 (a : Int), .int .i64 (q : Int), .int .i64 x2, .int .i64 (-1)] 86)).heap.size ∧ bE < (wr.drew.alloc (.cells #[.int .i64 (a : Int), .int .i64 (q : Int), .int .i64 x2, .int .i64 (-1)] 86)).heap.size) := Lib.hid (by have := hbd.size; omega)
          clear hcell hq htk harc harc2 hx hD HOQ hup hsrc hbd hcE hbE hbw hlow hne1 hbT hcX hszr
          go_wp2_with fail
          go_region_held3 (fun w' => w'.cell? ⟨bT, oT + j, none⟩ = some (.int .i64 (q : Int)) ∧ w'.cell? ⟨w.heap.size, 1, none⟩ = some (.slice (some ⟨bE, oE, none⟩) n2 c2) ∧ w'.cell? ⟨bE, oE + q * 3 + 2, none⟩ = some (.int .i64 x2))
            (first | exact HSQ.out _ BD.out | exact HSQ.out _ HBD.out | exact HSZ.out)
            ((refine step_push (by rfl) (.tmp 23) (.tmp 39) 83 (by rfl) W1.heap.size 86 Try.underlying83 IQ.out ⟨rfl, by decide⟩ _ D.length _ (by rfl) HUP.out (some ⟨wr.heap.size, 0, none⟩) 1 1 _ (by rfl) HSRC.out HLE3.out HBS.out ?_
              intro v' w1 hgr
              have HSZ := Lib.hid (And.intro ((hgr.by_.cell_far ⟨bT, oT + j, none⟩ HLT.out.1 HNE.out.1).trans (HSQ.out _ HBD.out).1) (And.intro ((hgr.by_.cell_far ⟨w.heap.size, 1, none⟩ HLT.out.2.1 HNE.out.2.1).trans (HSQ.out _ HBD.out).2.1) ((hgr.by_.cell_far ⟨bE, oE + q * 3 + 2, none⟩ HLT.out.2.2 HNE.out.2.2).trans (HSQ.out _ HBD.out).2.2)))
              have HGR := Lib.hid hgr
              clear hgr))
          all_goals
            have hb3 : Below W1.heap.size W1 w1 := (HBQ.out.trans (HBD.out.mono HBQ.out.size)).grown HGR.out.by_ HBS.out (fun g hg => (World.ownsRow.lt HUP.out g hg).1)
            have hr3 := (HRQ.out.below HBD.out).upd HGR.out.upd (fun b o e hb e2 => HNE.out.1 (by injection e with e; injection e with e1 _ _; subst e1; exact e2.symm))
            have ho3 : ∀ b o, some (⟨bT, oT, none⟩ : Addr) = some ⟨b, o, none⟩ → b < w1.heap.size ∧ v'.ownBlock ≠ some b := fun b o e => by
              injection e with e; injection e with e1 _ _; subst e1
              exact ⟨Nat.lt_of_lt_of_le HLT.out.1 HGR.out.by_.size, HGR.out.off HLT.out.1 (fun e => HNE.out.1 e.symm)⟩
            have HB3 := Lib.hid hb3
            have HR3 := Lib.hid hr3
            have HO3 := Lib.hid ho3
            clear hb3 hr3 ho3
            go_wp2_with fail
            go_roundg (ln - (j + 1))
            case measure => have := HM2.out; omega
            case rel =>
              refine ⟨j + 1, rfl, by omega, by go_num, ?_, HB3.out, HR3.out, HO3.out⟩
              rw [HARC.out, List.length_append, flat4_append]; exact HGR.out.row
        · have hjn : ln = j := by omega
          subst hjn
          clear hjl hj
          have hfin : C ++ arcRow es a (T.take ln) = arcsN es bs (a + 1) := by rw [HSUCC.out, List.take_of_length_le (by rw [HL.out]; exact Nat.le_refl _)]
          have HFIN := Lib.hid hfin
          clear hfin
          go_wp2_with fail
          go_roundg (n2 - (a + 1))
          case measure => have := HM.out; omega
          case rel =>
            refine ⟨a + 1, rfl, by omega, by go_num, ?_, HBQ.out⟩
            rw [← HFIN.out]; exact HOQ.out
    · have han : n2 = a := by omega
      subst han
      clear hlt ha
      obtain ⟨A', c', hv⟩ := own_form HOWN.out
      subst hv
      have hsm := arcsN_small s3 bs s3
      go_wp2_with fail
      go_ret
      have he : arcsN es bs n2 = arcsT es bs := by unfold arcsT; rw [HLE.out]
      have ho := HOWN.out
      rw [he] at ho ⊢
      exact ⟨A', c', rfl, ReadsQ.of_row ho (by have : (arcsT es bs).length ≤ 262144 := hsm; unfold maxLen; omega), fun b o e => by have := own_in ho b o e; have := HB.out.size; omega, bl_then HB.out HBR.out⟩
end Go.Proofs.Ytjopiefojicblaa
