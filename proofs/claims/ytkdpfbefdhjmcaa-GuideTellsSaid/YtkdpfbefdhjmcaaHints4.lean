/- milepostref4.Hints, SameHints. -/
import Derived.Test.YtkdpfbefdhjmcaaHint4
import Derived.BigQuiet
set_option linter.unusedVariables false
set_option linter.unusedSimpArgs false
namespace Go.Proofs.Ytkdpfbefdhjmcaa
open Go.ChangeShapes Go.WideShapes Go.ChangeAt Go.RowKit
theorem stop_lt {es : List (Int × Int × Int)} {bs : List (Int × Int)} {a : Int} {l : List Int} {j : Nat} (h : j < stopN es bs a l) : (nextT es bs (lastI a (l.take j))).length = 1 := by
  have hl := stop_le es bs a l
  apply Decidable.byContradiction
  intro hn
  have := stop_here (a := a) (l := l) (k := j) (by omega) (by omega) hn
  omega
theorem stop_ne {es : List (Int × Int × Int)} {bs : List (Int × Int)} {a : Int} {l : List Int} (h : stopN es bs a l < l.length) : (nextT es bs (lastI a (l.take (stopN es bs a l)))).length ≠ 1 := fun hn => by
  have := stop_step (Nat.le_refl _) h hn
  omega
theorem bend_ne9 (ns : List (Int × Int)) (es : List (Int × Int × Int)) (a b : Int) : bendT ns es a b ≠ 9 := by
  unfold bendT
  split
  · unfold classF
    split
    · decide
    · unfold clsI
      repeat' split
      all_goals decide
  · decide
theorem hint_ne9 {ns : List (Int × Int)} {es : List (Int × Int × Int)} {bs : List (Int × Int)} {a : Int} {l : List Int} (h : stopN es bs a l < l.length) : (hintT ns es bs a l).1 ≠ 9 := by
  unfold hintT; rw [if_pos h]; exact bend_ne9 _ _ _ _
set_option maxHeartbeats 4000000 in
set_option maxRecDepth 100000 in
theorem hints_same {w : World} {A1 A2 : Option Addr} {n c1 c2 : Nat} {xs : List HintT} (h1 : ReadsH w A1 n c1 xs) (h2 : ReadsH w A2 n c2 xs) (hn : n ≤ 1099511627776) :
    Calls Try.prog 34 #[.slice A1 n c1, .slice A2 n c2] w fun e w' => e = .returned (.bool true) ∧ Below w.heap.size w w' := by
  have R1 := Lib.hid h1
  have R2 := Lib.hid h2
  clear h1 h2
  go_enter Try.func34, Try.ntmps34
  go_wp2_with fail
  go_loopg [5] n (fun M v wr => ∃ k : Nat, M = n - k ∧ k ≤ n ∧ v = .int .i64 (k : Nat) ∧ Below w.heap.size w wr)
  case atStart => exact ⟨0, rfl, Nat.zero_le _, rfl, Below.refl _ _⟩
  case round =>
    obtain ⟨k, hm, hk, rfl, hb⟩ := hrel
    have HM := Lib.hid hm
    have HB := Lib.hid hb
    clear hm hb
    by_cases hlt : k < n
    · obtain ⟨bA, oA, rfl, hcA⟩ := (R1.out.below HB.out).cell (by omega)
      obtain ⟨bB, oB, rfl, hcB⟩ := (R2.out.below HB.out).cell (by omega)
      obtain ⟨d0, d1, d2, d3⟩ := hcA k hlt
      obtain ⟨f0, f1, f2, f3⟩ := hcB k hlt
      obtain ⟨x, hx⟩ : ∃ x, x = xs.getD k (0, 0, 0, 0) := ⟨_, rfl⟩
      rw [← hx] at d0 d1 d2 d3 f0 f1 f2 f3
      obtain ⟨x0, x1, x2, x3⟩ := x
      dsimp only at d0 d1 d2 d3 f0 f1 f2 f3
      have k0 : (0 : Int) ≤ (k : Int) := by omega
      have k1 : (k : Int) < (n : Int) := by omega
      clear hcA hcB hx
      go_wp2_with fail
      go_quiet (fail)
      go_wp2_with fail
      go_roundg (n - (k + 1))
      case measure => have := HM.out; omega
      case rel => exact ⟨k + 1, rfl, by omega, by go_num, bl_drewN HB.out _⟩
    · have hkn : n = k := by omega
      subst hkn
      clear hlt
      go_wp2_with fail
      go_ret
      exact ⟨rfl, HB.out⟩
set_option maxRecDepth 100000 in
set_option maxHeartbeats 8000000 in
theorem hints4_out {A1 A2 A3 : Option Addr} {c1 c2 c3 : Nat} {ns bs : List (Int × Int)} {es : List (Int × Int × Int)} {w : World} (h : GR w A1 A2 A3 ns.length es.length bs.length c1 c2 c3 ns es bs) (hok : mayB ns es bs = true) {A : Option Addr} {n c : Nat} {xs : List Int} (hr : ReadsI w A n c xs) (hn : n ≤ 1048576) (a : Int) (hw : walkB es bs a xs = false) :
    Calls Try.prog 36 #[.agg #[.slice A1 ns.length c1, .slice A2 es.length c2, .slice A3 bs.length c3], .int .i64 a, .slice A n c] w fun e w' => e = .returned (.slice none 0 0) ∧ Below w.heap.size w w' := by
  have hs1 : (w.alloc (.cells #[.slice A1 ns.length c1, .slice A2 es.length c2, .slice A3 bs.length c3] 51)).heap.size = w.heap.size + 1 := size_alloc _ _
  have hb1 : Below w.heap.size w (w.alloc (.cells #[.slice A1 ns.length c1, .slice A2 es.length c2, .slice A3 bs.length c3] 51)) := bl_alloc (Below.refl _ _) _
  obtain ⟨V, hV⟩ : ∃ V, V = w.alloc (.cells #[.slice A1 ns.length c1, .slice A2 es.length c2, .slice A3 bs.length c3] 51) := ⟨_, rfl⟩
  have HS : Hid (∀ w', Below V.heap.size V w' → w'.cell? ⟨w.heap.size, 0, none⟩ = some (.slice A1 ns.length c1) ∧ w'.cell? ⟨w.heap.size, 1, none⟩ = some (.slice A2 es.length c2) ∧ w'.cell? ⟨w.heap.size, 2, none⟩ = some (.slice A3 bs.length c3)) := Lib.hid fun w' hb => by subst hV; exact GR.box hb
  rw [← hV] at hs1 hb1
  have HV := Lib.hid hV
  have HG := Lib.hid (h.below hb1)
  have HR := Lib.hid (hr.below hb1)
  have HB0 := Lib.hid hb1
  have HOK := Lib.hid hok
  have hhx := fun (w' : World) (hb : Below V.heap.size V w') => hint4_any (HG.out.below hb) HOK.out (HR.out.below hb) (by omega) a
  have hR : hintR ns es bs a xs = (0, 0, 0, 0) := by unfold hintR; rw [if_neg (by rw [hw]; simp)]
  rw [hR, hw] at hhx
  simp only [hintV] at hhx
  have HH := Lib.hid hhx
  clear h hr hok hs1 hb1 hV hhx hR hw
  go_enter Try.func36, Try.ntmps36
  go_wp2_with fail
  rw [← HV.out]
  go_loopg [1, 2, 7] 0 (fun M u z s wr => M = 0 ∧ u = .int .i64 a ∧ z = .slice A n c ∧ s = .slice none 0 0 ∧ Below V.heap.size V wr)
  case atStart => exact ⟨rfl, rfl, rfl, rfl, Below.refl _ _⟩
  case round =>
    obtain ⟨hM, rfl, rfl, rfl, hb⟩ := hrel
    obtain ⟨l0, l1, l2⟩ := HS.out _ hb
    have HB := Lib.hid hb
    clear hM hb
    go_wp2_with fail
    refine (HH.out _ HB.out).mono ?_
    rintro e y2 ⟨rfl, hb⟩
    have hb3 := bl_then HB0.out (bl_then HB.out (bl_alloc hb (.cells #[.int .i64 0, .int .i64 0, .int .i64 0, .int .i64 0] 78)))
    have HB3 := Lib.hid hb3
    clear hb hb3
    go_wp2_with fail
    go_ret
    exact ⟨rfl, HB3.out⟩
set_option maxRecDepth 100000 in
set_option maxHeartbeats 16000000 in
theorem hints4_in {A1 A2 A3 : Option Addr} {c1 c2 c3 : Nat} {ns bs : List (Int × Int)} {es : List (Int × Int × Int)} {w : World} (h : GR w A1 A2 A3 ns.length es.length bs.length c1 c2 c3 ns es bs) (hok : mayB ns es bs = true) {A : Option Addr} {n c : Nat} {xs : List Int} (hr : ReadsI w A n c xs) (hn : n ≤ 1048576) (hcap : n ≤ c ∧ c ≤ maxLen) (a : Int) (hw : walkB es bs a xs = true) :
    Calls Try.prog 36 #[.agg #[.slice A1 ns.length c1, .slice A2 es.length c2, .slice A3 bs.length c3], .int .i64 a, .slice A n c] w fun e w' => ∃ A' c', e = .returned (.slice A' (hintsT ns es bs a xs).length c') ∧ ReadsH w' A' (hintsT ns es bs a xs).length c' (hintsT ns es bs a xs) ∧ Below w.heap.size w w' := by
  have hs1 : (w.alloc (.cells #[.slice A1 ns.length c1, .slice A2 es.length c2, .slice A3 bs.length c3] 51)).heap.size = w.heap.size + 1 := size_alloc _ _
  have hb1 : Below w.heap.size w (w.alloc (.cells #[.slice A1 ns.length c1, .slice A2 es.length c2, .slice A3 bs.length c3] 51)) := bl_alloc (Below.refl _ _) _
  obtain ⟨V, hV⟩ : ∃ V, V = w.alloc (.cells #[.slice A1 ns.length c1, .slice A2 es.length c2, .slice A3 bs.length c3] 51) := ⟨_, rfl⟩
  have HS : Hid (∀ w', Below V.heap.size V w' → w'.cell? ⟨w.heap.size, 0, none⟩ = some (.slice A1 ns.length c1) ∧ w'.cell? ⟨w.heap.size, 1, none⟩ = some (.slice A2 es.length c2) ∧ w'.cell? ⟨w.heap.size, 2, none⟩ = some (.slice A3 bs.length c3)) := Lib.hid fun w' hb => by subst hV; exact GR.box hb
  rw [← hV] at hs1 hb1
  have HV := Lib.hid hV
  have HG := Lib.hid (h.below hb1)
  have HR := Lib.hid (hr.below hb1)
  have HB0 := Lib.hid hb1
  have HOK := Lib.hid hok
  have hhx := fun (w' : World) (hb : Below V.heap.size V w') (A' : Option Addr) (n' c' : Nat) (x : Int) (l : List Int) (hr' : ReadsI w' A' n' c' l) (hn' : n' ≤ 1099511627776) => hint4_any (HG.out.below hb) HOK.out hr' hn' x
  have HES : Hid (es.length ≤ 512) := Lib.hid (mayB_parts hok).2.1.2.2.1
  have hlen := hints_len (ns := ns) (es := es) (bs := bs) xs.length (a := a) (l := xs) (Nat.le_refl _)
  rw [hr.len] at hlen
  obtain ⟨i1, hi1⟩ := infoH
  have II := Lib.hid hi1
  have HH := Lib.hid hhx
  have HW := Lib.hid hw
  have HCAP := Lib.hid hcap
  obtain ⟨T, hT⟩ : ∃ T, T = hintsT ns es bs a xs := ⟨_, rfl⟩
  rw [← hT] at hlen ⊢
  have HTE := Lib.hid hT
  have HTL := Lib.hid hlen
  clear h hr hok hs1 hb1 hV hhx hw hcap hi1 hlen hT
  go_enter Try.func36, Try.ntmps36
  go_wp2_with fail
  rw [← HV.out]
  go_loopg [1, 2, 7] (n + 1) (fun M u z s wr => ∃ (x : Int) (A' : Option Addr) (m k : Nat) (l : List Int) (O : List HintT), M = m + 1 ∧ m ≤ n ∧ u = .int .i64 x ∧ z = .slice A' m k ∧ ReadsI V A' m k l ∧ m ≤ k ∧ k ≤ maxLen ∧ walkB es bs x l = true ∧ O ++ hintsT ns es bs x l = T ∧ wr.ownsRow V.heap.size 78 4 s O.length (flatH O) ∧ Below V.heap.size V wr)
  case atStart => exact ⟨a, A, n, c, xs, [], rfl, Nat.le_refl _, rfl, rfl, HR.out, HCAP.out.1, HCAP.out.2, HW.out, by rw [HTE.out]; rfl, World.ownsRow_nil _ _ _ _, Below.refl _ _⟩
  case round =>
    obtain ⟨x, A', m, k, l, O, hM, hmn, rfl, rfl, hrl, hmk, hkm, hwl, hO, hown, hb⟩ := hrel
    have HM := Lib.hid hM
    have HRL := Lib.hid hrl
    have HWL := Lib.hid hwl
    have HO := Lib.hid hO
    have HOWN := Lib.hid hown
    have HB := Lib.hid hb
    have HKM : Hid (m ≤ k ∧ k ≤ maxLen) := Lib.hid ⟨hmk, hkm⟩
    obtain ⟨l0, l1, l2⟩ := HS.out _ hb
    have hhx := HH.out wr hb A' m k x l (hrl.below hb) (by omega)
    have hll := hrl.len
    have hR : hintR ns es bs x l = hintT ns es bs x l := by unfold hintR; rw [if_pos hwl]
    rw [hR, hwl] at hhx
    have hkind := hintT_kind (ns := ns) (es := es) (bs := bs) (a := x) (l := l)
    have hk9 := fun h => hint_ne9 (ns := ns) (es := es) (bs := bs) (a := x) (l := l) h
    have hmore := fun h => hints_more (ns := ns) (es := es) (bs := bs) (a := x) (l := l) h
    have hlast := fun h => hints_last (ns := ns) (es := es) (bs := bs) (a := x) (l := l) h
    have hslt := fun (j : Nat) h => stop_lt (es := es) (bs := bs) (a := x) (l := l) (j := j) h
    have hsne := fun h => stop_ne (es := es) (bs := bs) (a := x) (l := l) h
    have hcut := fun (hk : stopN es bs x l < l.length) => walk_cut hwl hk
    obtain ⟨g, hg⟩ : ∃ g, g = hintT ns es bs x l := ⟨_, rfl⟩
    obtain ⟨S, hS⟩ : ∃ S, S = stopN es bs x l := ⟨_, rfl⟩
    rw [← hg] at hhx hkind hk9 hmore hlast
    rw [← hS] at hkind hk9 hmore hlast hcut hslt hsne
    obtain ⟨g0, g1, g2, g3⟩ := g
    simp only [hintV] at hhx
    dsimp only at hkind hk9
    have HHX := Lib.hid hhx
    have HMORE := Lib.hid hmore
    have HLAST := Lib.hid hlast
    have HCUT := Lib.hid hcut
    have HLL := Lib.hid hll
    have HKI := Lib.hid hkind
    have HK9 := Lib.hid hk9
    have HSLT := Lib.hid hslt
    have HSNE := Lib.hid hsne
    have hol : O.length + 1 ≤ 1048580 := by
      have h1 := HTL.out
      have h2 := hints_len (ns := ns) (es := es) (bs := bs) l.length (a := x) (l := l) (Nat.le_refl _)
      rw [← HO.out, List.length_append] at h1
      omega
    clear hM hrl hwl hO hown hb hhx hmore hlast hcut hll hg hS hkind hk9 hslt hsne hkm hmk hR
    go_wp2_with fail
    refine HHX.out.mono ?_
    rintro e y2 ⟨rfl, hb⟩
    have hq := new_block y2 (.cells #[.int .i64 g0, .int .i64 g1, .int .i64 g2, .int .i64 g3] 78)
    have hb3 := bl_then HB.out (bl_alloc hb (.cells #[.int .i64 g0, .int .i64 g1, .int .i64 g2, .int .i64 g3] 78))
    have q0 := block_cell hq (j := 0) rfl
    have q1 := block_cell hq (j := 1) rfl
    have q2 := block_cell hq (j := 2) rfl
    have q3 := block_cell hq (j := 3) rfl
    obtain ⟨y3, hy3⟩ : ∃ y3, y3 = y2.alloc (.cells #[.int .i64 g0, .int .i64 g1, .int .i64 g2, .int .i64 g3] 78) := ⟨_, rfl⟩
    have hb23 : Below wr.heap.size wr y3 := by rw [hy3]; exact bl_alloc hb _
    have HOA := Lib.hid (own_upd (own_upd HOWN.out (Upd.of_below (F := fun _ => False) hb23) (fun _ _ h => h)) (Upd.of_below (F := fun _ => False) (bl_alloc (Below.refl _ _) (.cells #[.int .i64 g0, .int .i64 g1, .int .i64 g2, .int .i64 g3] 78))) (fun _ _ h => h))
    have HSRC := Lib.hid (Src.new (w := y3) (vs := #[.int .i64 g0, .int .i64 g1, .int .i64 g2, .int .i64 g3]) (t := 78) (size := 4) (by intro u hu; simp at hu; rcases hu with rfl | rfl | rfl | rfl <;> rfl) rfl)
    rw [← hy3] at hb3 hq
    have HB3 := Lib.hid hb3
    have HQ := Lib.hid hq
    have HBS : Hid (V.heap.size ≤ (y3.alloc (.cells #[.int .i64 g0, .int .i64 g1, .int .i64 g2, .int .i64 g3] 78)).heap.size) := Lib.hid (bl_alloc hb3 _).size
    have HOL : Hid (O.length + 1 ≤ maxLen ∧ (O.length + 1) * 32 ≤ 140737488355328) := Lib.hid ⟨by unfold maxLen; omega, by omega⟩
    have HY3 := Lib.hid hy3
    have HYW : Hid (wr.heap.size ≤ y2.heap.size) := Lib.hid hb.size
    have HYS : Hid (y2.heap.size < y3.heap.size) := Lib.hid (by rw [hy3, size_alloc]; omega)
    clear hb hb3 hy3 hq hb23 hol l0 l1 l2
    go_upto_region 5 with fail
    rw [← HY3.out]
    rw [← HY3.out] at q0 q1 q2 q3
    go_wp2_with (at_builtin; refine wpList_push rfl (.tmp 19) (.tmp 21) 83 rfl V.heap.size 78 Try.underlying83 II.out ⟨rfl, by decide⟩ _ O.length _ rfl HOA.out (some ⟨y3.heap.size, 0, none⟩) 1 1 _ rfl HSRC.out HOL.out HBS.out ?_)
    intro v' w3 hgr
    have hrow := hgr.row
    have hqb : w3.heap[y2.heap.size]? = some (.cells #[.int .i64 g0, .int .i64 g1, .int .i64 g2, .int .i64 g3] 78) := by
      refine (hgr.by_.block y2.heap.size (by rw [size_alloc]; have := HYS.out; omega) fun e => ?_).trans (block_below HQ.out (bl_alloc (Below.refl _ _) _))
      have := (World.ownsRow.lt HOWN.out y2.heap.size e.symm).2
      have := HYW.out
      omega
    have hb3 : Below V.heap.size V w3 := (bl_alloc HB3.out (.cells #[.int .i64 g0, .int .i64 g1, .int .i64 g2, .int .i64 g3] 78)).grown hgr.by_ HBS.out (fun g hg => (World.ownsRow.lt HOA.out g hg).1)
    have d0 := block_cell hqb (j := 0) rfl
    have HROW := Lib.hid hrow
    have HB4 := Lib.hid hb3
    clear hgr hrow hqb hb3 q0 q1 q2 q3
    rcases HKI.out with ⟨hs, hg1⟩ | ⟨hs, hg0, hg1⟩
    · have b1 : (g0 == 9) = false := beq_false_of_ne (HK9.out hs)
      have hsm : S < m := by rw [← HLL.out]; exact hs
      have HSL := Lib.hid hs
      have HMO := Lib.hid (HMORE.out hs)
      have HWK := Lib.hid (HCUT.out hs)
      have hap := HWL.out
      clear hs hg1 hap
      go_wp2_with fail
      go_loopg [1, 2] S (fun M2 u2 z2 wq => ∃ (j q : Nat) (A2 : Option Addr) (k2 : Nat), M2 = S - j ∧ j ≤ S ∧ q + j = m ∧ u2 = .int .i64 (lastI x (l.take j)) ∧ z2 = .slice A2 q k2 ∧ ReadsI V A2 q k2 (l.drop j) ∧ q ≤ k2 ∧ k2 ≤ maxLen ∧ Below w3.heap.size w3 wq)
      case atStart => exact ⟨0, m, A', k, rfl, Nat.zero_le _, rfl, rfl, rfl, HRL.out, HKM.out.1, HKM.out.2, Below.refl _ _⟩
      case round =>
        obtain ⟨j, q, A2, k2, hM2, hjS, hqj, rfl, rfl, hr2, hmk2, hkm2, hb2⟩ := hrel
        have hq0 : 0 < q := by omega
        obtain ⟨b2, o2, rfl, hc2⟩ := hr2.cell hq0
        have hlj : j < l.length := by rw [HLL.out]; omega
        have e0 : (l.drop j).getD 0 0 = l.getD j 0 := by simp [List.getD_eq_getElem?_getD]
        have d0 := hc2 0 hq0
        rw [e0, Nat.add_zero] at d0
        have hls := last_step (a := x) hlj
        have hdd : (l.drop j).drop 1 = l.drop (j + 1) := by rw [List.drop_drop]
        obtain ⟨y, hy⟩ : ∃ y, y = l.getD j 0 := ⟨_, rfl⟩
        rw [← hy] at d0 hls
        have hbq := bl_then HB4.out hb2
        have hnx := next4_any (HG.out.below hbq) HES.out (lastI x (l.take j))
        have hsl := fun h => HSLT.out j h
        have hsn : j = S → (nextT es bs (lastI x (l.take j))).length ≠ 1 := fun h => by rw [h]; exact HSNE.out HSL.out
        obtain ⟨N, hN⟩ : ∃ N, N = (nextT es bs (lastI x (l.take j))).length := ⟨_, rfl⟩
        rw [← hN] at hnx hsl hsn
        obtain ⟨z, hz⟩ : ∃ z, z = lastI x (l.take j) := ⟨_, rfl⟩
        rw [← hz] at hnx
        rw [← hz]
        obtain ⟨l0, l1, l2⟩ := HS.out _ hbq
        have HM2 := Lib.hid hM2
        have HR2 := Lib.hid hr2
        have HD0 := Lib.hid d0
        have HLS := Lib.hid hls
        have HDD := Lib.hid hdd
        have HY := Lib.hid hy
        have HB2 := Lib.hid hb2
        have HBQ := Lib.hid hbq
        have HNX := Lib.hid hnx
        have HK2 : Hid (q ≤ k2 ∧ k2 ≤ maxLen) := Lib.hid ⟨hmk2, hkm2⟩
        have p0 : (0 : Int) < (q : Int) := by omega
        have p1 : (1 : Int) ≤ (q : Int) := by omega
        have p2 : (1 : Int) ≤ (k2 : Int) := by omega
        have p3 : 1 ≤ k2 := by omega
        have p4 : ¬ k2 = 0 := by omega
        clear hM2 hr2 d0 hls hdd hy hb2 hbq hnx hc2 e0 hN hz hmk2 hkm2
        by_cases hj : j < S
        · have hN1 := hsl hj
          subst hN1
          clear hsl hsn
          go_wp2_with fail
          refine HNX.out.mono ?_
          rintro e v1 ⟨AN, cN, rfl, _, _, hb1⟩
          have d1 := cell_below HD0.out (bl_then HBQ.out hb1)
          have HB5 : Hid (Below w3.heap.size w3 v1) := Lib.hid (bl_then HB2.out hb1)
          clear hb1 l0 l1 l2
          by_cases hk1 : k2 = 1
          · subst hk1
            obtain rfl : q = 1 := by have := HK2.out.1; omega
            go_wp2_with fail
            go_roundg (S - (j + 1))
            case measure => have := HM2.out; omega
            case rel => exact ⟨j + 1, 0, some ⟨b2, o2, none⟩, 0, rfl, by omega, by omega, by rw [HLS.out], rfl, by rw [← HDD.out]; exact HR2.out.rest (j := 1) (Nat.le_refl _) 0 (fun h => by omega), Nat.le_refl _, Nat.zero_le _, HB5.out⟩
          · go_wp2_with fail
            go_roundg (S - (j + 1))
            case measure => have := HM2.out; omega
            case rel => exact ⟨j + 1, q - 1, some ⟨b2, o2 + 1, none⟩, k2 - 1, rfl, by omega, by omega, by rw [HLS.out], rfl, by rw [← HDD.out]; exact HR2.out.rest (j := 1) hq0 (k2 - 1) (fun h => rfl), by have := HK2.out; omega, by have := HK2.out; omega, HB5.out⟩
        · have hjS' : j = S := by omega
          have hN1 : (N == 1) = false := beq_false_of_ne (hsn hjS')
          have hN2 : ((N : Int) == 1) = false := beq_false_of_ne (by have := hsn hjS'; omega)
          have HJS := Lib.hid hjS'
          clear hsl hsn hjS'
          go_wp2_with fail
          refine HNX.out.mono ?_
          rintro e v1 ⟨AN, cN, rfl, _, _, hb1⟩
          have d1 := cell_below HD0.out (bl_then HBQ.out hb1)
          have HB5 : Hid (Below w3.heap.size w3 v1) := Lib.hid (bl_then HB2.out hb1)
          have HO5 := Lib.hid (own_upd HROW.out (Upd.of_below (F := fun _ => False) HB5.out) (fun _ _ h => h))
          clear hb1 l0 l1 l2
          by_cases hk1 : k2 = 1
          · subst hk1
            obtain rfl : q = 1 := by have := HK2.out.1; omega
            go_wp2_with fail
            go_roundg (0 + 1)
            case measure => have := HM.out; omega
            case rel =>
              refine ⟨y, some ⟨b2, o2, none⟩, 0, 0, l.drop (S + 1), O ++ [(g0, g1, g2, g3)], rfl, Nat.zero_le _, rfl, rfl, ?_, Nat.le_refl _, Nat.zero_le _, ?_, ?_, ?_, bl_then HB4.out HB5.out⟩
              · rw [← HJS.out, ← HDD.out]; exact HR2.out.rest (j := 1) (Nat.le_refl _) 0 (fun h => by omega)
              · have := HWK.out; rw [← HJS.out] at this ⊢; rw [HY.out]; exact this
              · have := HMO.out; rw [← HJS.out] at this ⊢; rw [List.append_assoc, ← HO.out, this, HY.out]; rfl
              · rw [flatH_append, List.length_append]; exact HO5.out
          · go_wp2_with fail
            go_roundg (q - 1 + 1)
            case measure => have := HM.out; omega
            case rel =>
              refine ⟨y, some ⟨b2, o2 + 1, none⟩, q - 1, k2 - 1, l.drop (S + 1), O ++ [(g0, g1, g2, g3)], rfl, by omega, rfl, rfl, ?_, by have := HK2.out; omega, by have := HK2.out; omega, ?_, ?_, ?_, bl_then HB4.out HB5.out⟩
              · rw [← HJS.out, ← HDD.out]; exact HR2.out.rest (j := 1) hq0 (k2 - 1) (fun h => rfl)
              · have := HWK.out; rw [← HJS.out] at this ⊢; rw [HY.out]; exact this
              · have := HMO.out; rw [← HJS.out] at this ⊢; rw [List.append_assoc, ← HO.out, this, HY.out]; rfl
              · rw [flatH_append, List.length_append]; exact HO5.out
    · subst hg0 hg1
      have hla := HLAST.out hs
      have hO := HO.out
      rw [hla] at hO
      obtain ⟨A2', c2', hv⟩ := own_formH HROW.out
      subst hv
      have HO2 := Lib.hid hO
      clear hs hla hO
      go_wp2_with fail
      go_ret
      have hr := HROW.out
      rw [show flatH O ++ [Value.int .i64 9, .int .i64 (-1), .int .i64 g2, .int .i64 g3] = flatH T by rw [← HO2.out, flatH_append]; rfl] at hr
      have hl : O.length + 1 = T.length := by rw [← HO2.out]; simp
      refine ⟨A2', c2', by rw [← hl]; rfl, ?_, bl_then HB0.out HB4.out⟩
      rw [← hl]
      exact ReadsH.of_row hr HOL.out.1
theorem hints4_any {A1 A2 A3 : Option Addr} {c1 c2 c3 : Nat} {ns bs : List (Int × Int)} {es : List (Int × Int × Int)} {w : World} (h : GR w A1 A2 A3 ns.length es.length bs.length c1 c2 c3 ns es bs) (hok : mayB ns es bs = true) {A : Option Addr} {n c : Nat} {xs : List Int} (hr : ReadsI w A n c xs) (hn : n ≤ 1048576) (hcap : n ≤ c ∧ c ≤ maxLen) (a : Int) :
    Calls Try.prog 36 #[.agg #[.slice A1 ns.length c1, .slice A2 es.length c2, .slice A3 bs.length c3], .int .i64 a, .slice A n c] w fun e w' => ∃ A' c', e = .returned (.slice A' (hintsR ns es bs a xs).length c') ∧ ReadsH w' A' (hintsR ns es bs a xs).length c' (hintsR ns es bs a xs) ∧ Below w.heap.size w w' := by
  cases hw : walkB es bs a xs with
  | true =>
    have e : hintsR ns es bs a xs = hintsT ns es bs a xs := by unfold hintsR; rw [if_pos hw]
    rw [e]
    exact hints4_in h hok hr hn hcap a hw
  | false =>
    have e : hintsR ns es bs a xs = [] := by unfold hintsR; rw [if_neg (by rw [hw]; simp)]
    rw [e]
    refine (hints4_out h hok hr hn a hw).mono ?_
    rintro r w' ⟨rfl, hb⟩
    exact ⟨none, 0, rfl, ⟨rfl, by decide, fun h => by simp at h⟩, hb⟩
end Go.Proofs.Ytkdpfbefdhjmcaa
