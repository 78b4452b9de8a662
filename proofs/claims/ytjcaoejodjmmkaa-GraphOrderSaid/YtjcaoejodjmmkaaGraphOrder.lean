/- GraphOrder: bans that do not rise, or stand twice, or are no turns, make no graph; an edge from a node to itself may be. For every input, without a condition. -/
import Derived.Test.YtjcaoejodjmmkaaAwake5
import Derived.Test.YtjcaoejodjmmkaaTownUse
import Derived.Test.YtjcaoejodjmmkaaOrderPure
import Derived.Test.YtjcaoejodjmmkaaAppend
import Derived.Test.YtjcaoejodjmmkaaGraphNew
import Derived.Test.YtjcaoejodjmmkaaRow
import Derived.Deep.RegionHeld3
import Derived.Deep.CutRange
set_option linter.unusedVariables false
set_option linter.unusedSimpArgs false
namespace Go.Proofs.Ytjcaoejodjmmkaa.graphOrder
open Go.ChangeShapes Go.WideShapes Go.ChangeAt Go.RowKit RowP
theorem round_still {k n : Int} (hk : (Lit.int .i64 k).wf = true) (hn : 0 < n) (hn2 : n ≤ 4611686018427387904) (w : World) :
    Calls Try.prog 19 #[.int .i64 k, .int .i64 n] w fun e w' => e = .returned (.int .i64 (k % n)) ∧ w' = w := (round_any hk hn hn2 w).mono fun e w' h => ⟨h.1, h.2.symm⟩
theorem wf_swap {bs : List (Int × Int)} {x y : Nat} (h : ∀ z ∈ bs, (Lit.int .i64 z.1).wf = true ∧ (Lit.int .i64 z.2).wf = true) : ∀ z ∈ swapL bs x y, (Lit.int .i64 z.1).wf = true ∧ (Lit.int .i64 z.2).wf = true := by
  intro z hz
  unfold swapL at hz
  have hg : ∀ i, (Lit.int .i64 (bs.getD i (0, 0)).1).wf = true ∧ (Lit.int .i64 (bs.getD i (0, 0)).2).wf = true := fun i => getP_wf h i
  rcases List.mem_or_eq_of_mem_set hz with h1 | rfl
  · rcases List.mem_or_eq_of_mem_set h1 with h2 | rfl
    · exact h z h2
    · exact hg y
  · exact hg x
theorem swap_world {w : World} {base gb n c : Nat} {bs : List (Int × Int)} (hr : w.ownsRow base 43 2 (.slice (some ⟨gb, 0, none⟩) n c) n (flat2 bs)) (x y : Nat) :
    ((((w.setCell ⟨gb, x * 2, none⟩ (.int .i64 (bs.getD y (0, 0)).1)).setCell ⟨gb, x * 2 + 1, none⟩ (.int .i64 (bs.getD y (0, 0)).2)).setCell ⟨gb, y * 2, none⟩ (.int .i64 (bs.getD x (0, 0)).1)).setCell ⟨gb, y * 2 + 1, none⟩ (.int .i64 (bs.getD x (0, 0)).2)).drew.ownsRow base 43 2 (.slice (some ⟨gb, 0, none⟩) n c) n (flat2 (swapL bs x y)) ∧
    Upd (fun b => b = gb) w ((((w.setCell ⟨gb, x * 2, none⟩ (.int .i64 (bs.getD y (0, 0)).1)).setCell ⟨gb, x * 2 + 1, none⟩ (.int .i64 (bs.getD y (0, 0)).2)).setCell ⟨gb, y * 2, none⟩ (.int .i64 (bs.getD x (0, 0)).1)).setCell ⟨gb, y * 2 + 1, none⟩ (.int .i64 (bs.getD x (0, 0)).2)).drew := by
  refine ⟨?_, upd_drew (upd_setCell (F := fun b => b = gb) (a := ⟨gb, _, none⟩) (upd_setCell (F := fun b => b = gb) (a := ⟨gb, _, none⟩) (upd_setCell (F := fun b => b = gb) (a := ⟨gb, _, none⟩) (upd_setCell (F := fun b => b = gb) (a := ⟨gb, _, none⟩) (Upd.refl _ _) rfl _) rfl _) rfl _) rfl _)⟩
  have h1 := (((hr.stored (x * 2) (.int .i64 (bs.getD y (0, 0)).1)).1.stored (x * 2 + 1) (.int .i64 (bs.getD y (0, 0)).2)).1.stored (y * 2) (.int .i64 (bs.getD x (0, 0)).1)).1.stored (y * 2 + 1) (.int .i64 (bs.getD x (0, 0)).2)
  have h2 := h1.1
  rw [swap_cells] at h2
  exact h2
set_option maxRecDepth 100000 in
set_option maxHeartbeats 4000000 in
theorem walk_out (A : Option Addr) (n k : Nat) (a b : Int) (hs : n ≤ 9223372036854775807) (w : World) (h : 100 < n) :
    Calls Try.prog 4 #[.slice A n k, .int .i64 a, .int .i64 b] w fun e w' => e = .returned (.bool true) ∧ Below w.heap.size w w' := by
  go_enter Try.func4, Try.ntmps4
  go_wp2_with (go_at_call 12; refine (awake5 _).mono ?_; rintro e w1 ⟨rfl, hb1⟩)
  go_ret
  exact ⟨rfl, by assumption⟩
set_option maxRecDepth 100000 in
set_option maxHeartbeats 8000000 in
theorem walk_ins (A : Option Addr) (n k : Nat) (xs : List Int) (a b : Int) (ha : (Lit.int .i64 a).wf = true) (hb : (Lit.int .i64 b).wf = true) (w : World) (h : n ≤ 100) (hk : ReadsI w A n k xs) :
    Calls Try.prog 4 #[.slice A n k, .int .i64 a, .int .i64 b] w fun e w' => e = .returned (.bool true) ∧ Below w.heap.size w w' := by
  have HK := Lib.hid hk
  have HOK := Lib.hid (town_good xs)
  clear hk
  obtain ⟨ns, hns⟩ : ∃ ns, ns = townN xs := ⟨_, rfl⟩
  obtain ⟨es, hes⟩ : ∃ es, es = townE xs := ⟨_, rfl⟩
  obtain ⟨bs, hbs⟩ : ∃ bs, bs = townB xs := ⟨_, rfl⟩
  have HTC := Lib.hid (town_call HK.out)
  have hE70 := len_townE xs
  rw [← hes] at hE70
  rw [← hns, ← hes, ← hbs] at HOK HTC
  clear hns hes hbs
  have hbd := (mayB_parts HOK.out).2.1
  obtain ⟨s1, s2, s3, s4⟩ := hbd
  obtain ⟨ib, hib⟩ := info2
  obtain ⟨ie, hie⟩ := info3
  have IB := Lib.hid hib
  have IE := Lib.hid hie
  have i0 := Int.emod_nonneg a (show (bs.length : Int) + 1 ≠ 0 by omega)
  have i1 := Int.emod_lt_of_pos a (show (0 : Int) < (bs.length : Int) + 1 by omega)
  have i2 := Int.emod_nonneg b (show (bs.length : Int) + 1 ≠ 0 by omega)
  have i3 := Int.emod_lt_of_pos b (show (0 : Int) < (bs.length : Int) + 1 by omega)
  obtain ⟨x, hx⟩ : ∃ i : Nat, a % ((bs.length : Int) + 1) = (i : Int) := ⟨(a % ((bs.length : Int) + 1)).toNat, by omega⟩
  obtain ⟨y, hy⟩ : ∃ j : Nat, b % ((bs.length : Int) + 1) = (j : Int) := ⟨(b % ((bs.length : Int) + 1)).toNat, by omega⟩
  have ra := fun w => round_still ha (n := (bs.length : Int) + 1) (by omega) (by omega) w
  have rb := fun w => round_still hb (n := (bs.length : Int) + 1) (by omega) (by omega) w
  rw [hx] at ra i0 i1
  rw [hy] at rb i2 i3
  have RA := Lib.hid ra
  have RB := Lib.hid rb
  have WF := Lib.hid (mayB_wf HOK.out)
  clear ha hb ra rb hx hy hib hie
  go_enter Try.func4, Try.ntmps4
  go_wp2_with fail
  refine HTC.out.mono ?_
  rintro e w1 ⟨A1, A2, A3, c1, c2, c3, rfl, hT⟩
  have HT := Lib.hid hT
  have kk := fun j v hv => cell_three_new (w := w1) (x := .slice A1 ns.length c1) (y := .slice A2 es.length c2) (z := .slice A3 bs.length c3) (t := 28) j v hv
  have k0 := kk 0 _ rfl
  have k1 := kk 1 _ rfl
  have k2 := kk 2 _ rfl
  have v1 : IntKind.i64.wrap ((bs.length : Int) + 1) = (bs.length : Int) + 1 := IntWalk.i64_in _ (by omega)
  have v2 : (0 : Int) ≤ (bs.length : Int) + 1 := by omega
  have KK := Lib.hid kk
  clear hT kk HTC
  go_wp2_with fail
  go_quiet ((go_at_call 19; first | with_reducible refine Calls.quiet_of_same (RA.out _) | with_reducible refine Calls.quiet_of_same (RB.out _)))
  generalize hV : World.drewN _ _ = v0
  have hbv : Below w1.heap.size w1 v0 := by rw [← hV]; exact bl_drewN (bl_alloc (Below.refl _ _) _) _
  have hkv : ∀ j v, (#[.slice A1 ns.length c1, .slice A2 es.length c2, .slice A3 bs.length c3] : Array Value)[j]? = some v → v0.cell? ⟨w1.heap.size, j, none⟩ = some v := by
    intro j v hv; rw [← hV]; exact KK.out j v hv
  have HS : Hid (∀ w', Below v0.heap.size v0 w' → w'.cell? ⟨w1.heap.size, 0, none⟩ = some (.slice A1 ns.length c1) ∧ w'.cell? ⟨w1.heap.size, 1, none⟩ = some (.slice A2 es.length c2) ∧ w'.cell? ⟨w1.heap.size, 2, none⟩ = some (.slice A3 bs.length c3)) :=
    Lib.hid fun w' h => ⟨cell_below (hkv 0 _ rfl) h, cell_below (hkv 1 _ rfl) h, cell_below (hkv 2 _ rfl) h⟩
  have HBW : Hid (Below w.heap.size w v0) := Lib.hid (HT.out.below.trans (hbv.mono HT.out.below.size))
  have HRN := Lib.hid (HT.out.rN.below hbv)
  have HRE := Lib.hid (HT.out.rE.below hbv)
  have HRB := Lib.hid (HT.out.rB.below hbv)
  have hw1 : w1.heap.size < v0.heap.size := by rw [← hV]; show _ < (World.alloc _ _).heap.size; rw [size_alloc]; omega
  clear hV hbv hkv k0 k1 k2 KK v1 v2
  obtain ⟨k0, k1, k2⟩ := HS.out _ (Below.refl _ _)
  obtain ⟨B, hB⟩ : ∃ B, B = (decide (x < bs.length) && decide (y < bs.length)) := ⟨_, rfl⟩
  have HBB := Lib.hid hB
  clear hB
  go_upto_region 5 with fail
  go_cut [48] from 37 to 47 (fun s wx => s = .bool B ∧ wx = v0)
  case first =>
    by_cases hxl : x < bs.length
    · by_cases hyl : y < bs.length
      · have hB : B = true := by rw [HBB.out]; simp [hxl, hyl]
        subst hB
        go_wp2_with fail
        go_meet
        case rel => exact ⟨rfl, rfl⟩
      · have hB : B = false := by rw [HBB.out]; simp [hyl]
        subst hB
        go_wp2_with fail
        go_meet
        case rel => exact ⟨rfl, rfl⟩
    · have hB : B = false := by rw [HBB.out]; simp [hxl]
      subst hB
      go_wp2_with fail
      go_meet
      case rel => exact ⟨rfl, rfl⟩
  case rest =>
  obtain ⟨rfl, rfl⟩ := hcut
  obtain ⟨v0, rfl⟩ : ∃ v0 : World, v0 = wc := ⟨_, rfl⟩
  go_upto_if 48 with fail
  go_cut [] from 49 to 83 (fun wx => Below v0.heap.size v0 wx)
  case first =>
    cases B with
    | false =>
      go_wp2_with fail
      go_meet
      case rel => exact Below.refl _ _
    | true =>
      have hxy : x < bs.length ∧ y < bs.length := by have := HBB.out; simpa using this.symm
      obtain ⟨hxl, hyl⟩ := hxy
      obtain ⟨bB, oB, rfl, hcB⟩ := HRB.out.cell (by omega)
      obtain ⟨x0, x1⟩ := hcB x hxl
      obtain ⟨y0, y1⟩ := hcB y hyl
      have hsrc := (Src.ofP HRB.out).below (bl_alloc (bl_alloc (Below.refl v0.heap.size v0) (.cells #[.slice A1 ns.length c1, .slice A2 es.length c2, .slice (some ⟨bB, oB, none⟩) bs.length c3] 28)) (.cells #[] 43))
      have hempty := own_empty (v0.alloc (.cells #[.slice A1 ns.length c1, .slice A2 es.length c2, .slice (some ⟨bB, oB, none⟩) bs.length c3] 28)) 43 2
      rw [size_alloc] at hempty
      have HSRC := Lib.hid hsrc
      have HEM := Lib.hid hempty
      have kk := fun j v hv => cell_three_new (w := v0) (x := .slice A1 ns.length c1) (y := .slice A2 es.length c2) (z := .slice (some ⟨bB, oB, none⟩) bs.length c3) (t := 28) j v hv
      have KK := Lib.hid kk
      have HCX := Lib.hid (And.intro x0 (And.intro x1 (And.intro y0 y1)))
      obtain ⟨bx, hbx⟩ : ∃ z, z = bs.getD x (0, 0) := ⟨_, rfl⟩
      obtain ⟨by_, hby⟩ : ∃ z, z = bs.getD y (0, 0) := ⟨_, rfl⟩
      have HBX := Lib.hid hbx
      have HBY := Lib.hid hby
      clear hcB x0 x1 y0 y1 hsrc hempty kk hbx hby
      go_wp2_with (at_builtin; refine wpList_push rfl (.tmp 50) (.tmp 52) 26 rfl _ 43 Try.underlying26 IB.out ⟨rfl, by decide⟩ _ 0 [] rfl HEM.out _ bs.length c3 _ rfl HSRC.out ⟨by unfold maxLen; omega, by omega⟩ (by simp) ?_)
      intro v' w5 hgr
      obtain ⟨A', c', hv'⟩ := hgr.val
      have hrow := hgr.row
      (try rw [Nat.zero_add] at hv')
      (try rw [Nat.zero_add, List.nil_append] at hrow)
      subst hv'
      obtain ⟨gb, rfl, hg1, hg2⟩ := own_at hrow (by omega)
      have hbo : Below (v0.heap.size + 1) (v0.alloc (.cells #[.slice A1 ns.length c1, .slice A2 es.length c2, .slice (some ⟨bB, oB, none⟩) bs.length c3] 28)) w5 :=
        ((Below.refl (v0.heap.size + 1) _).alloc (by rw [size_alloc]; exact Nat.le_refl _) _).grown hgr.by_ (by simp) (fun k hk => by simp [Value.ownBlock] at hk; omega)
      have ho5 : w5.heap[v0.heap.size]? = some (.cells #[.slice A1 ns.length c1, .slice A2 es.length c2, .slice (some ⟨bB, oB, none⟩) bs.length c3] 28) := (hbo.block v0.heap.size (by omega)).trans (heap_alloc_new v0 _)
      have o2 := block_cell ho5 (j := 2) rfl
      have f2 := block_fr ho5 2
      have hb05 : Below v0.heap.size v0 w5 := ((Below.refl v0.heap.size v0).alloc (Nat.le_refl _) _).trans (hbo.mono (by omega))
      have HO5 := Lib.hid ho5
      have HB05 := Lib.hid hb05
      have HROW := Lib.hid hrow
      clear hbo ho5 hb05 hrow hgr KK
      go_wp2_with fail
      obtain ⟨w6, hw6⟩ : ∃ w6, w6 = w5.setCell ⟨v0.heap.size, 2, none⟩ (.slice (some ⟨gb, 0, none⟩) bs.length c') := ⟨_, rfl⟩
      have ho6 := block_set HO5.out 2 (.slice (some ⟨gb, 0, none⟩) bs.length c')
      have hr6 := own_upd HROW.out (upd_setCell (F := fun b => b = v0.heap.size) (a := ⟨v0.heap.size, 2, none⟩) (Upd.refl _ _) rfl (.slice (some ⟨gb, 0, none⟩) bs.length c')) (by intro b e; simp [Value.ownBlock] at e; omega)
      have hb6 : Below v0.heap.size v0 (w5.setCell ⟨v0.heap.size, 2, none⟩ (.slice (some ⟨gb, 0, none⟩) bs.length c')) := HB05.out.setCell (p := ⟨v0.heap.size, 2, none⟩) (Nat.le_refl _) _
      rw [← hw6] at ho6 hr6 hb6 ⊢
      clear hw6 o2 f2
      have HO6 := Lib.hid ho6
      have HR6 := Lib.hid hr6
      have HB6 := Lib.hid hb6
      have q2 := block_cell ho6 (j := 2) rfl
      have l2 := cell_below k2 hb6
      have X0 := cell_below HCX.out.1 hb6
      have X1 := cell_below HCX.out.2.1 hb6
      have Y0 := cell_below HCX.out.2.2.1 hb6
      have Y1 := cell_below HCX.out.2.2.2 hb6
      rw [← HBX.out] at X0 X1
      rw [← HBY.out] at Y0 Y1
      have cx0 := hr6.cellAt (x * 2) (by omega)
      have cx1 := hr6.cellAt (x * 2 + 1) (by omega)
      have cy0 := hr6.cellAt (y * 2) (by omega)
      have cy1 := hr6.cellAt (y * 2 + 1) (by omega)
      rw [(flat2_get bs x hxl).1] at cx0
      rw [(flat2_get bs x hxl).2] at cx1
      rw [(flat2_get bs y hyl).1] at cy0
      rw [(flat2_get bs y hyl).2] at cy1
      have fr := fun j => hr6.frozenAt j
      have fx0 := fr (x * 2)
      have fx1 := fr (x * 2 + 1)
      have fy0 := fr (y * 2)
      have fy1 := fr (y * 2 + 1)
      have z0 : (0 : Int) ≤ (x : Int) := by omega
      have z1 : (x : Int) < (bs.length : Int) := by omega
      have z2 : (0 : Int) ≤ (y : Int) := by omega
      have z3 : (y : Int) < (bs.length : Int) := by omega
      have n1 : gb ≠ v0.heap.size := by omega
      have n2 : gb ≠ w1.heap.size := by omega
      have hbB : bB < v0.heap.size := World.block_lt_of_cell? v0 ⟨bB, oB + x * 2, none⟩ HCX.out.1
      have n3 : gb ≠ bB := by omega
      have L0 : Hid (w6.cell? ⟨v0.heap.size, 2, none⟩ = some (.slice (some ⟨gb, 0, none⟩) bs.length c')) := Lib.hid q2
      clear ho6 hr6 hb6 fr
      have hsw := swap_world HR6.out x y
      rw [← HBX.out, ← HBY.out] at hsw
      have HSW := Lib.hid hsw
      clear hsw
      by_cases hxy : x = y
      · subst hxy
        have hbe : bx = by_ := HBX.out.trans HBY.out.symm
        subst hbe
        go_region_held3 (fun w' => w'.cell? ⟨v0.heap.size, 2, none⟩ = some (.slice (some ⟨gb, 0, none⟩) bs.length c') ∧ w'.cell? ⟨w1.heap.size, 2, none⟩ = some (.slice (some ⟨bB, oB, none⟩) bs.length c3) ∧ w'.cell? ⟨bB, oB + x * 2, none⟩ = some (.int .i64 bx.1) ∧ w'.cell? ⟨bB, oB + x * 2 + 1, none⟩ = some (.int .i64 bx.2) ∧ w'.cell? ⟨bB, oB + x * 2, none⟩ = some (.int .i64 bx.1) ∧ w'.cell? ⟨bB, oB + x * 2 + 1, none⟩ = some (.int .i64 bx.2))
          (go_keep) (fail)
        all_goals
          generalize hW : World.drew (World.setCell _ _ _) = w8
          have h8 := HSW.out
          rw [hW] at h8
          clear hW
          have hb8 : Below v0.heap.size v0 w8 := HB6.out.trans (h8.2.below HB6.out.size fun k hk e => by omega)
          have ho8 : w8.heap[v0.heap.size]? = _ := (h8.2.block v0.heap.size (by have := (own_lt2 HR6.out).2; omega) (by omega)).trans HO6.out
          have q0 := block_cell ho8 (j := 0) rfl
          have q1 := block_cell ho8 (j := 1) rfl
          have q2' := block_cell ho8 (j := 2) rfl
          have h3 := ReadsP.of_row h8.1 (by unfold maxLen; omega) (wf_swap WF.out.2.2)
          have H3 := Lib.hid h3
          have HB8 := Lib.hid hb8
          clear h8 ho8 h3 hb8 q2 cx0 cx1 cy0 cy1 fx0 fx1 fy0 fy1 X0 X1 Y0 Y1
          go_wp2_with fail
          refine (new_ok (HRN.out.below HB8.out) (HRE.out.below HB8.out) H3.out (by rw [swapL_same]; exact HOK.out)).mono ?_
          rintro e w9 ⟨pp, rfl, _, hb9⟩
          have HB9 : Hid (Below v0.heap.size v0 w9) := Lib.hid (HB8.out.trans (hb9.mono HB8.out.size))
          clear hb9
          go_wp2_with fail
          go_meet
          case rel => exact HB9.out
      · have n4 : x * 2 ≠ y * 2 := by omega
        have n5 : x * 2 ≠ y * 2 + 1 := by omega
        have n6 : x * 2 + 1 ≠ y * 2 := by omega
        have n7 : x * 2 + 1 ≠ y * 2 + 1 := by omega
        go_region_held3 (fun w' => w'.cell? ⟨v0.heap.size, 2, none⟩ = some (.slice (some ⟨gb, 0, none⟩) bs.length c') ∧ w'.cell? ⟨w1.heap.size, 2, none⟩ = some (.slice (some ⟨bB, oB, none⟩) bs.length c3) ∧ w'.cell? ⟨bB, oB + x * 2, none⟩ = some (.int .i64 bx.1) ∧ w'.cell? ⟨bB, oB + x * 2 + 1, none⟩ = some (.int .i64 bx.2) ∧ w'.cell? ⟨bB, oB + y * 2, none⟩ = some (.int .i64 by_.1) ∧ w'.cell? ⟨bB, oB + y * 2 + 1, none⟩ = some (.int .i64 by_.2))
          (go_keep) (fail)
        all_goals
          generalize hW : World.drew (World.setCell _ _ _) = w8
          have h8 := HSW.out
          rw [hW] at h8
          clear hW
          have hb8 : Below v0.heap.size v0 w8 := HB6.out.trans (h8.2.below HB6.out.size fun k hk e => by omega)
          have ho8 : w8.heap[v0.heap.size]? = _ := (h8.2.block v0.heap.size (by have := (own_lt2 HR6.out).2; omega) (by omega)).trans HO6.out
          have q0 := block_cell ho8 (j := 0) rfl
          have q1 := block_cell ho8 (j := 1) rfl
          have q2' := block_cell ho8 (j := 2) rfl
          have h3 := ReadsP.of_row h8.1 (by unfold maxLen; omega) (wf_swap WF.out.2.2)
          have H3 := Lib.hid h3
          have HB8 := Lib.hid hb8
          clear h8 ho8 h3 hb8 q2 cx0 cx1 cy0 cy1 fx0 fx1 fy0 fy1 X0 X1 Y0 Y1
          go_wp2_with fail
          refine (new_bad (HRN.out.below HB8.out) (HRE.out.below HB8.out) H3.out (swapL_bad HOK.out hxl hyl hxy)).mono ?_
          rintro e w9 ⟨rfl, hb9⟩
          have HB9 : Hid (Below v0.heap.size v0 w9) := Lib.hid (HB8.out.trans (hb9.mono HB8.out.size))
          have hxq : ((x : Int) == (y : Int)) = false := by simp; omega
          clear hb9 n4 n5 n6 n7
          go_wp2_with fail
          go_meet
          case rel => exact HB9.out
  case rest =>
    have HB0 := Lib.hid hcut
    have HRN1 := Lib.hid (HRN.out.below hcut)
    have HRE1 := Lib.hid (HRE.out.below hcut)
    have HRB1 := Lib.hid (HRB.out.below hcut)
    obtain ⟨k0, k1, k2⟩ := HS.out _ hcut
    have q0 := hcut.size
    have hw2 : w1.heap.size < wc.heap.size := by omega
    have hsrc := (Src.ofT HRE1.out).below (bl_alloc (bl_alloc (Below.refl wc.heap.size wc) (.cells #[.slice A1 ns.length c1, .slice A2 es.length c2, .slice A3 bs.length c3] 28)) (.cells #[] 36))
    have hempty := own_empty (wc.alloc (.cells #[.slice A1 ns.length c1, .slice A2 es.length c2, .slice A3 bs.length c3] 28)) 36 3
    rw [size_alloc] at hempty
    have HSRC := Lib.hid hsrc
    have HEM := Lib.hid hempty
    clear hcut hsrc hempty
    go_wp2_with (at_builtin; refine wpList_push rfl (.tmp 85) (.tmp 87) 25 rfl _ 36 Try.underlying25 IE.out ⟨rfl, by decide⟩ _ 0 [] rfl HEM.out A2 es.length c2 _ rfl HSRC.out ⟨by unfold maxLen; omega, by omega⟩ (by simp) ?_)
    intro v' w5 hgr
    obtain ⟨A', c', hv'⟩ := hgr.val
    have hrow := hgr.row
    (try rw [Nat.zero_add] at hv')
    (try rw [Nat.zero_add, List.nil_append] at hrow)
    subst hv'
    obtain ⟨g1, rfl, hg1, hg2⟩ := own_at hrow (by omega)
    have hbo : Below (wc.heap.size + 1) (wc.alloc (.cells #[.slice A1 ns.length c1, .slice A2 es.length c2, .slice A3 bs.length c3] 28)) w5 :=
      ((Below.refl (wc.heap.size + 1) _).alloc (by rw [size_alloc]; exact Nat.le_refl _) _).grown hgr.by_ (by simp) (fun k hk => by simp [Value.ownBlock] at hk; omega)
    have hrow2 := own_upd hrow (Upd.of_below (F := fun _ => False) (bl_alloc (Below.refl _ _) (.cells #[.int .i64 0, .int .i64 0, .int .i64 1] 36))) (fun _ _ h => h)
    have hsrc2 := Src.new (w := w5) (vs := #[.int .i64 0, .int .i64 0, .int .i64 1]) (t := 36) (size := 3) (by intro u hu; simp at hu; rcases hu with rfl | rfl <;> rfl) rfl
    have HROW2 := Lib.hid hrow2
    have HSRC2 := Lib.hid hsrc2
    have HBO := Lib.hid hbo
    clear hrow hgr hbo hrow2 hsrc2 HEM HSRC
    go_wp2_with (at_builtin; refine wpList_push rfl (.tmp 88) (.tmp 90) 25 rfl _ 36 Try.underlying25 IE.out ⟨rfl, by decide⟩ _ es.length _ rfl HROW2.out (some ⟨w5.heap.size, 0, none⟩) 1 1 _ rfl HSRC2.out ⟨by unfold maxLen; omega, by omega⟩ (by simp; omega) ?_)
    intro v'' w6 hgr
    obtain ⟨A'', c'', hv''⟩ := hgr.val
    have hrow := hgr.row
    subst hv''
    have hb2 : Below (wc.heap.size + 1) (wc.alloc (.cells #[.slice A1 ns.length c1, .slice A2 es.length c2, .slice A3 bs.length c3] 28)) w6 :=
      (HBO.out.alloc (by have := HBO.out.size; rw [size_alloc] at this; exact this) _).grown hgr.by_ (by have := HBO.out.size; rw [size_alloc] at this; simp; omega) (fun k hk => by simp [Value.ownBlock] at hk; omega)
    have ho6 : w6.heap[wc.heap.size]? = some (.cells #[.slice A1 ns.length c1, .slice A2 es.length c2, .slice A3 bs.length c3] 28) := (hb2.block wc.heap.size (by omega)).trans (heap_alloc_new wc _)
    have o0 := block_cell ho6 (j := 0) rfl
    have o1 := block_cell ho6 (j := 1) rfl
    have o2 := block_cell ho6 (j := 2) rfl
    have f1 := block_fr ho6 1
    have e1 : flat3 es ++ [.int .i64 0, .int .i64 0, .int .i64 1] = flat3 (es ++ [(0, 0, 1)]) := (flat3_append es [(0, 0, 1)]).symm
    have hb6 : Below wc.heap.size wc w6 := ((Below.refl wc.heap.size wc).alloc (Nat.le_refl _) _).trans (hb2.mono (by omega))
    have hb7 : Below wc.heap.size wc (w6.setCell ⟨wc.heap.size, 1, none⟩ (.slice A'' (es.length + 1) c'')) := hb6.setCell (p := ⟨wc.heap.size, 1, none⟩) (Nat.le_refl _) _
    have hrow' := own_upd hrow (upd_setCell (F := fun b => b = wc.heap.size) (a := ⟨wc.heap.size, 1, none⟩) (Upd.refl _ _) rfl (.slice A'' (es.length + 1) c'')) (by
      intro b e1 e2
      subst e2
      rcases hrow.2 with ⟨h0, _⟩ | ⟨g, cc, cur, e, hb, _⟩
      · rw [h0] at e1; cases e1
      · rw [e] at e1; simp [Value.ownBlock] at e1; omega)
    rw [e1] at hrow'
    have hwe : ∀ x ∈ es ++ [((0 : Int), (0 : Int), (1 : Int))], (Lit.int .i64 x.1).wf = true ∧ (Lit.int .i64 x.2.1).wf = true ∧ (Lit.int .i64 x.2.2).wf = true := by
      intro x hx
      rcases List.mem_append.1 hx with h1 | h1
      · exact WF.out.2.1 x h1
      · rw [List.mem_singleton.1 h1]; decide
    have r2 := ReadsT.of_row hrow' (by unfold maxLen; omega) hwe
    have HNEW := Lib.hid (new_ok (HRN1.out.below hb7) r2 (HRB1.out.below hb7) (more_edges HOK.out (by omega)))
    have HB7 := Lib.hid hb7
    clear hb2 ho6 hrow hgr hb6 e1 hrow' hwe r2 hb7
    go_wp2_with fail
    refine HNEW.out.mono ?_
    rintro e w9 ⟨pp, rfl, _, hb9⟩
    have hb10 : Below wc.heap.size wc w9 := HB7.out.trans (hb9.mono HB7.out.size)
    have hb11 : Below v0.heap.size v0 w9 := HB0.out.trans (hb10.mono HB0.out.size)
    obtain ⟨k0, k1, k2⟩ := HS.out _ hb11
    have HB11 := Lib.hid hb11
    have HRN2 := Lib.hid (HRN.out.below hb11)
    have HRE2 := Lib.hid (HRE.out.below hb11)
    have HRB2 := Lib.hid (HRB.out.below hb11)
    have hw3 : w1.heap.size < w9.heap.size := by have := hb11.size; omega
    clear hb9 hb10 hb11 o0 o1 o2 f1 HNEW HB7 HBO HROW2 HSRC2
    go_wp2_with fail
    obtain ⟨V, hV⟩ : ∃ V, V = w9.alloc (.cells #[.slice A1 ns.length c1, .slice A2 es.length c2, .slice A3 bs.length c3] 28) := ⟨_, rfl⟩
    rw [← hV]
    have hVs : V.heap.size = w9.heap.size + 1 := by rw [hV, size_alloc]
    have hVb : Below w9.heap.size w9 V := by rw [hV]; exact bl_alloc (Below.refl _ _) _
    have hVp : V.heap[w9.heap.size]? = some (.cells #[.slice A1 ns.length c1, .slice A2 es.length c2, .slice A3 bs.length c3] 28) := by rw [hV]; exact heap_alloc_new w9 _
    have hea : (V.drew.alloc (.cells #[] 43)).ownsRow V.heap.size 43 2 (.slice (some ⟨V.heap.size, 0, none⟩) 0 0) 0 [] := own_empty V.drew _ _
    have heb := own_upd hea (Upd.of_below (F := fun _ => False) (bl_alloc (Below.refl _ _) (.cells #[.int .i64 0, .int .i64 (es.length : Int)] 43))) (fun _ _ h => h)
    have hec := own_empty (V.drew.alloc (.cells #[.int .i64 0, .int .i64 (es.length : Int)] 43)) 43 2
    rw [show (V.drew.alloc (.cells #[.int .i64 0, .int .i64 (es.length : Int)] 43)).heap.size = V.heap.size + 1 from size_alloc _ _] at hec
    have hsv : Src V 2 A3 bs.length (flat2 bs) := (Src.ofP HRB2.out).below hVb
    have hqb := Src.new (w := V.drew.alloc (.cells #[] 43)) (vs := #[.int .i64 0, .int .i64 (es.length : Int)]) (t := 43) (size := 2) (by intro u hu; simp at hu; rcases hu with rfl | rfl <;> rfl) rfl
    rw [show (V.drew.alloc (.cells #[] 43)).heap.size = V.heap.size + 1 from size_alloc _ _] at hqb
    have hqc := (Src.new (w := V.drew) (vs := #[.int .i64 0, .int .i64 (es.length : Int)]) (t := 43) (size := 2) (by intro u hu; simp at hu; rcases hu with rfl | rfl <;> rfl) rfl).below (bl_alloc (Below.refl _ _) (.cells #[] 43))
    have k1' := cell_below k1 hVb
    have k2' := cell_below k2 hVb
    have HSV : Hid (∀ w', Below V.heap.size V w' → w'.cell? ⟨w1.heap.size, 1, none⟩ = some (.slice A2 es.length c2) ∧ w'.cell? ⟨w1.heap.size, 2, none⟩ = some (.slice A3 bs.length c3)) := Lib.hid fun w' h => ⟨cell_below k1' h, cell_below k2' h⟩
    have BD : Hid (Below V.heap.size V V.drew) := Lib.hid (bl_drew (Below.refl _ _))
    have ha1 : Below V.heap.size V (V.drew.alloc (.cells #[] 43)) := bl_alloc BD.out _
    have hb1 : Below V.heap.size V ((V.drew.alloc (.cells #[] 43)).alloc (.cells #[.int .i64 0, .int .i64 (es.length : Int)] 43)) := bl_alloc ha1 _
    have hc0 : Below V.heap.size V (V.drew.alloc (.cells #[.int .i64 0, .int .i64 (es.length : Int)] 43)) := bl_alloc BD.out _
    have hc1 : Below V.heap.size V ((V.drew.alloc (.cells #[.int .i64 0, .int .i64 (es.length : Int)] 43)).alloc (.cells #[] 43)) := bl_alloc hc0 _
    have HEA := Lib.hid hea
    have HEB := Lib.hid heb
    have HEC := Lib.hid hec
    have HSA := Lib.hid (hsv.below ha1)
    have HSB := Lib.hid (hsv.below hb1)
    have HSC := Lib.hid (hsv.below hc1)
    have HQB := Lib.hid hqb
    have HQC := Lib.hid hqc
    have HA1 := Lib.hid ha1
    have HB1 := Lib.hid hb1
    have HC0 := Lib.hid hc0
    have HC1 := Lib.hid hc1
    have HCS : Hid (V.heap.size + 1 ≤ ((V.drew.alloc (.cells #[.int .i64 0, .int .i64 (es.length : Int)] 43)).alloc (.cells #[] 43)).heap.size) := Lib.hid (by rw [size_alloc, size_alloc]; exact Nat.le_succ _)
    have HLE : Hid (0 + bs.length ≤ maxLen ∧ (0 + bs.length) * 16 ≤ 140737488355328) := Lib.hid ⟨by unfold maxLen; omega, by omega⟩
    have HLE2 : Hid (bs.length + 1 ≤ maxLen ∧ (bs.length + 1) * 16 ≤ 140737488355328) := Lib.hid ⟨by unfold maxLen; omega, by omega⟩
    have HVS := Lib.hid hVs
    have HVP := Lib.hid hVp
    have HBV : Hid (Below v0.heap.size v0 V) := Lib.hid (HB11.out.trans (hVb.mono HB11.out.size))
    have hw4 : w1.heap.size < V.heap.size := by omega
    clear hV hVb hVp hea heb hec hsv hqb hqc k1' k2' ha1 hb1 hc0 hc1 hVs k0 k1 k2
    obtain ⟨k1, k2⟩ := HSV.out _ (Below.refl _ _)
    go_cut [] from 99 to 109 (fun wx => ∃ A9 c9, wx.heap[w9.heap.size]? = some (.cells #[.slice A1 ns.length c1, .slice A2 es.length c2, .slice A9 (bs.length + 1) c9] 28) ∧ ReadsP wx A9 (bs.length + 1) c9 (bs ++ [(0, (es.length : Int))]) ∧ Below v0.heap.size v0 wx)
    case first =>
      go_region_held3 (fun w' => w'.cell? ⟨w1.heap.size, 1, none⟩ = some (.slice A2 es.length c2) ∧ w'.cell? ⟨w1.heap.size, 2, none⟩ = some (.slice A3 bs.length c3))
        (first | exact HSV.out _ BD.out | exact HSV.out _ HA1.out | exact HSV.out _ HB1.out | exact HSV.out _ HC0.out | exact HSV.out _ HC1.out | exact HSV.out _ BA.out | exact HSV.out _ (bl_alloc BA.out _) | exact HSV.out _ BZ.out | exact HSZ.out)
        (first
          | (refine step_push (by rfl) (.tmp 99) (.tmp 101) 26 (by rfl) _ 43 Try.underlying26 IB.out ⟨rfl, by decide⟩ _ 0 [] (by rfl) HEA.out A3 bs.length c3 _ (by rfl) HSA.out HLE.out HA1.out.size ?_
             intro v1 u1 hgr
             have hr := hgr.row
             rw [Nat.zero_add, List.nil_append] at hr
             have BA : Hid (Below V.heap.size V u1) := Lib.hid (HA1.out.grown hgr.by_ HA1.out.size (fun k hk => by simp [Value.ownBlock] at hk; omega))
             have RA := Lib.hid (own_upd hr (Upd.of_below (F := fun _ => False) (bl_alloc (Below.refl _ _) (.cells #[.int .i64 0, .int .i64 (es.length : Int)] 43))) (fun _ _ h => h))
             have QA := Lib.hid (Src.new (w := u1) (vs := #[.int .i64 0, .int .i64 (es.length : Int)]) (t := 43) (size := 2) (by intro u hu; simp at hu; rcases hu with rfl | rfl <;> rfl) rfl)
             have BN := Lib.hid (bl_alloc BA.out (.cells #[.int .i64 0, .int .i64 (es.length : Int)] 43))
             have VN : Hid (∀ b, v1.ownBlock = some b → V.heap.size ≤ b) := Lib.hid (fun b e => (World.ownsRow.lt hr b e).1)
             have BS : Hid (V.heap.size ≤ (u1.alloc (.cells #[.int .i64 0, .int .i64 (es.length : Int)] 43)).heap.size) := Lib.hid BN.out.size
             clear hgr hr)
          | (refine step_push (by rfl) (.tmp 102) (.tmp 107) 26 (by rfl) _ 43 Try.underlying26 IB.out ⟨rfl, by decide⟩ v1 bs.length _ (by rfl) RA.out (some ⟨u1.heap.size, 0, none⟩) 1 1 _ (by rfl) QA.out HLE2.out BS.out ?_
             intro v2 u2 hgr
             obtain ⟨A9, c9, hv9⟩ := hgr.val
             subst hv9
             have hr := hgr.row
             have hbz : Below V.heap.size V u2 := BN.out.grown hgr.by_ BN.out.size (fun k hk => VN.out k hk)
             have hp9 : u2.heap[w9.heap.size]? = _ := (hbz.block w9.heap.size (by have := HVS.out; omega)).trans HVP.out
             have p2 := block_cell hp9 (j := 2) rfl
             have f2 := block_fr hp9 2
             have HSZ : Hid ((u2.setCell ⟨w9.heap.size, 2, none⟩ (.slice A9 (bs.length + 1) c9)).cell? ⟨w1.heap.size, 1, none⟩ = some (.slice A2 es.length c2) ∧ (u2.setCell ⟨w9.heap.size, 2, none⟩ (.slice A9 (bs.length + 1) c9)).cell? ⟨w1.heap.size, 2, none⟩ = some (.slice A3 bs.length c3)) := Lib.hid ⟨cell_upd (HSV.out _ hbz).1 (upd_setCell (F := fun b => b = w9.heap.size) (a := ⟨w9.heap.size, 2, none⟩) (Upd.refl _ _) rfl _) (by omega), cell_upd (HSV.out _ hbz).2 (upd_setCell (F := fun b => b = w9.heap.size) (a := ⟨w9.heap.size, 2, none⟩) (Upd.refl _ _) rfl _) (by omega)⟩
             have HX9 : Hid (Below v0.heap.size v0 (u2.setCell ⟨w9.heap.size, 2, none⟩ (.slice A9 (bs.length + 1) c9))) := Lib.hid ((HBV.out.trans (hbz.mono HBV.out.size)).setCell (p := ⟨w9.heap.size, 2, none⟩) HB11.out.size _)
             have BZ := Lib.hid hbz
             have R9 := Lib.hid hr
             have HP9 := Lib.hid hp9
             clear hgr hr hbz hp9)
          | (refine step_push (by rfl) (.tmp 99) (.tmp 101) 26 (by rfl) _ 43 Try.underlying26 IB.out ⟨rfl, by decide⟩ _ 0 [] (by rfl) HEB.out A3 bs.length c3 _ (by rfl) HSB.out HLE.out HB1.out.size ?_
             intro v1 u1 hgr
             have hr := hgr.row
             rw [Nat.zero_add, List.nil_append] at hr
             have BA : Hid (Below V.heap.size V u1) := Lib.hid (HB1.out.grown hgr.by_ HB1.out.size (fun k hk => by simp [Value.ownBlock] at hk; omega))
             have RB := Lib.hid hr
             have QB := Lib.hid (HQB.out.grown hgr.by_ (fun ad e => by injection e with e; subst e; simp [Value.ownBlock]))
             have VN : Hid (∀ b, v1.ownBlock = some b → V.heap.size ≤ b) := Lib.hid (fun b e => (World.ownsRow.lt hr b e).1)
             have BS : Hid (V.heap.size ≤ u1.heap.size) := Lib.hid BA.out.size
             clear hgr hr)
          | (refine step_push (by rfl) (.tmp 102) (.tmp 107) 26 (by rfl) _ 43 Try.underlying26 IB.out ⟨rfl, by decide⟩ v1 bs.length _ (by rfl) RB.out (some ⟨V.heap.size + 1, 0, none⟩) 1 1 _ (by rfl) QB.out HLE2.out BS.out ?_
             intro v2 u2 hgr
             obtain ⟨A9, c9, hv9⟩ := hgr.val
             subst hv9
             have hr := hgr.row
             have hbz : Below V.heap.size V u2 := BA.out.grown hgr.by_ BA.out.size (fun k hk => VN.out k hk)
             have hp9 : u2.heap[w9.heap.size]? = _ := (hbz.block w9.heap.size (by have := HVS.out; omega)).trans HVP.out
             have p2 := block_cell hp9 (j := 2) rfl
             have f2 := block_fr hp9 2
             have HSZ : Hid ((u2.setCell ⟨w9.heap.size, 2, none⟩ (.slice A9 (bs.length + 1) c9)).cell? ⟨w1.heap.size, 1, none⟩ = some (.slice A2 es.length c2) ∧ (u2.setCell ⟨w9.heap.size, 2, none⟩ (.slice A9 (bs.length + 1) c9)).cell? ⟨w1.heap.size, 2, none⟩ = some (.slice A3 bs.length c3)) := Lib.hid ⟨cell_upd (HSV.out _ hbz).1 (upd_setCell (F := fun b => b = w9.heap.size) (a := ⟨w9.heap.size, 2, none⟩) (Upd.refl _ _) rfl _) (by omega), cell_upd (HSV.out _ hbz).2 (upd_setCell (F := fun b => b = w9.heap.size) (a := ⟨w9.heap.size, 2, none⟩) (Upd.refl _ _) rfl _) (by omega)⟩
             have HX9 : Hid (Below v0.heap.size v0 (u2.setCell ⟨w9.heap.size, 2, none⟩ (.slice A9 (bs.length + 1) c9))) := Lib.hid ((HBV.out.trans (hbz.mono HBV.out.size)).setCell (p := ⟨w9.heap.size, 2, none⟩) HB11.out.size _)
             have BZ := Lib.hid hbz
             have R9 := Lib.hid hr
             have HP9 := Lib.hid hp9
             clear hgr hr hbz hp9)
          | (refine step_push (by rfl) (.tmp 99) (.tmp 101) 26 (by rfl) _ 43 Try.underlying26 IB.out ⟨rfl, by decide⟩ _ 0 [] (by rfl) HEC.out A3 bs.length c3 _ (by rfl) HSC.out HLE.out HCS.out ?_
             intro v1 u1 hgr
             have hr := hgr.row
             rw [Nat.zero_add, List.nil_append] at hr
             have BA : Hid (Below V.heap.size V u1) := Lib.hid (HC1.out.grown hgr.by_ HC1.out.size (fun k hk => by simp [Value.ownBlock] at hk; omega))
             have RC := Lib.hid hr
             have QC := Lib.hid (HQC.out.grown hgr.by_ (fun ad e => by injection e with e; subst e; simp [Value.ownBlock]))
             have VN : Hid (∀ b, v1.ownBlock = some b → V.heap.size ≤ b) := Lib.hid (fun b e => by have := (World.ownsRow.lt hr b e).1; omega)
             have BS : Hid (V.heap.size + 1 ≤ u1.heap.size) := Lib.hid (Nat.le_trans HCS.out hgr.by_.size)
             clear hgr hr)
          | (refine step_push (by rfl) (.tmp 102) (.tmp 107) 26 (by rfl) _ 43 Try.underlying26 IB.out ⟨rfl, by decide⟩ v1 bs.length _ (by rfl) RC.out (some ⟨V.heap.size, 0, none⟩) 1 1 _ (by rfl) QC.out HLE2.out BS.out ?_
             intro v2 u2 hgr
             obtain ⟨A9, c9, hv9⟩ := hgr.val
             subst hv9
             have hr := hgr.row
             have hbz : Below V.heap.size V u2 := BA.out.grown hgr.by_ BA.out.size (fun k hk => VN.out k hk)
             have hp9 : u2.heap[w9.heap.size]? = _ := (hbz.block w9.heap.size (by have := HVS.out; omega)).trans HVP.out
             have p2 := block_cell hp9 (j := 2) rfl
             have f2 := block_fr hp9 2
             have HSZ : Hid ((u2.setCell ⟨w9.heap.size, 2, none⟩ (.slice A9 (bs.length + 1) c9)).cell? ⟨w1.heap.size, 1, none⟩ = some (.slice A2 es.length c2) ∧ (u2.setCell ⟨w9.heap.size, 2, none⟩ (.slice A9 (bs.length + 1) c9)).cell? ⟨w1.heap.size, 2, none⟩ = some (.slice A3 bs.length c3)) := Lib.hid ⟨cell_upd (HSV.out _ hbz).1 (upd_setCell (F := fun b => b = w9.heap.size) (a := ⟨w9.heap.size, 2, none⟩) (Upd.refl _ _) rfl _) (by omega), cell_upd (HSV.out _ hbz).2 (upd_setCell (F := fun b => b = w9.heap.size) (a := ⟨w9.heap.size, 2, none⟩) (Upd.refl _ _) rfl _) (by omega)⟩
             have HX9 : Hid (Below v0.heap.size v0 (u2.setCell ⟨w9.heap.size, 2, none⟩ (.slice A9 (bs.length + 1) c9))) := Lib.hid ((HBV.out.trans (hbz.mono HBV.out.size)).setCell (p := ⟨w9.heap.size, 2, none⟩) HB11.out.size _)
             have BZ := Lib.hid hbz
             have R9 := Lib.hid hr
             have HP9 := Lib.hid hp9
             clear hgr hr hbz hp9))
      all_goals
        go_wp2_with fail
        go_meet
        case rel =>
          have hu := upd_setCell (F := fun b => b = w9.heap.size) (a := ⟨w9.heap.size, 2, none⟩) (Upd.refl (fun b => b = w9.heap.size) u2) rfl (.slice A9 (bs.length + 1) c9)
          have e1 : flat2 bs ++ [.int .i64 0, .int .i64 (es.length : Int)] = flat2 (bs ++ [(0, (es.length : Int))]) := (flat2_append bs [(0, (es.length : Int))]).symm
          have hwe : ∀ x ∈ bs ++ [((0 : Int), (es.length : Int))], (Lit.int .i64 x.1).wf = true ∧ (Lit.int .i64 x.2).wf = true := by
            intro x hx
            rcases List.mem_append.1 hx with h1 | h1
            · exact WF.out.2.2 x h1
            · rw [List.mem_singleton.1 h1]; exact ⟨wf_of (k := 0) (by omega) (by omega), wf_of (k := (es.length : Int)) (by omega) (by omega)⟩
          have r9 := R9.out
          rw [e1] at r9
          refine ⟨A9, c9, block_set HP9.out 2 _, (ReadsP.of_row r9 (by unfold maxLen; omega) hwe).upd hu (fun b o e h => ?_), HX9.out⟩
          · subst e
            have := (own_lt2 r9).1
            have := HVS.out
            omega
    case rest =>
      obtain ⟨A9, c9, hp9, hr9, hb9⟩ := hcut
      have q0 := block_cell hp9 (j := 0) rfl
      have q1 := block_cell hp9 (j := 1) rfl
      have q2 := block_cell hp9 (j := 2) rfl
      have HNEW := Lib.hid (new_bad (HRN.out.below hb9) (HRE.out.below hb9) hr9 (more_bans ns bs es))
      have HB9 := Lib.hid hb9
      clear hp9 hr9 hb9
      go_wp2_with fail
      refine HNEW.out.mono ?_
      rintro e w10 ⟨rfl, hb10⟩
      have HB10 := Lib.hid (HB9.out.trans (hb10.mono HB9.out.size))
      clear hb10 q0 q1 q2
      go_wp2_with fail
      refine (awake5 _).mono ?_
      rintro e w11 ⟨rfl, hb11⟩
      have HB11 := Lib.hid (HB10.out.trans (hb11.mono HB10.out.size))
      clear hb11
      go_wp2_with fail
      go_ret
      exact ⟨rfl, HBW.out.trans (HB11.out.mono HBW.out.size)⟩
theorem walk {W : World} (A : Option Addr) (n k : Nat) (xs : List Int) (hk : ReadsI W A n k xs) (a : Int) (h5 : (Lit.int .i64 a).wf = true) (b : Int) (h6 : (Lit.int .i64 b).wf = true) :
    Calls Try.prog 4 #[.slice A n k, .int .i64 a, .int .i64 b] W fun e w' => e = .returned (.bool true) ∧ Below W.heap.size W w' := by
  by_cases h : 100 < n
  · have s1 := hk.small
    unfold maxLen at s1
    exact walk_out A n k a b (by omega) W h
  · exact walk_ins A n k xs a b h5 h6 W (by omega) hk
set_option maxRecDepth 100000 in
theorem lifted (os : Os) (started : os.Started) (H : Type) (enc : TypeId × Value → H) :
    ReturnsInHanded {} Try.checked os 4 .any (Rows.graphOrderSpec.pre6 enc Try.prog Try.f4 Rows.graphOrderRow.domain false) (Rows.graphOrderSpec.post enc Try.prog Try.f4 false true false false) := by
  refine returnsInHanded_of_change (C := Try.checked) own started (by kernel_rfl) Try.func4
    (ChangeSpec.witness6 (enc := enc) (C := Try.checked) false ⟨#[], #[.slice none 0 0, .int .i64 0, .int .i64 0], []⟩ 8 (by kernel_rfl) (by kernel_rfl) (by kernel_rfl) (by kernel_rfl)) ?_
  intro W base args ds gs before hval0 hW hcnd _
  have hval : ∀ (j : Nat) t v, Try.f4.params[j]? = some t → args[j]? = some v → Value.okWide Try.prog W .any base t v := hval0
  have hW' := hW
  obtain ⟨p, q, hA0, hV, rfl, hfz, hnd⟩ := hW
  have hA : DataW.TrodAll enc Try.prog W 0 (fun _ => true) true Try.f4.params.toList args.toList ds p := hA0
  rw [Try.params4] at hA hval
  obtain ⟨v0, vs0, d0, ds0, p0, q0, hargs, rfl, rfl, h0, r0⟩ := trodAll_cons hA
  obtain ⟨v1, vs1, d1, ds1, p1, q1, rfl, rfl, rfl, h1, r1⟩ := trodAll_cons r0
  obtain ⟨v2, vs2, d2, ds2, p2, q2, rfl, rfl, rfl, h2, r2⟩ := trodAll_cons r1
  obtain ⟨rfl, rfl, rfl⟩ := trodAll_nil r2
  obtain rfl : args = #[v0, v1, v2] := by cases args; simp_all
  obtain ⟨rfl, rfl⟩ := trodVars_none hV
  obtain ⟨a0, n0, c0, xs0, rfl, k0⟩ := open_reads (hval 0 22 v0 rfl rfl) h0
  obtain ⟨a1, rfl, rfl, rfl, w1⟩ := open_int Try.underlying3 (hval 1 3 v1 rfl rfl) h1
  obtain ⟨a2, rfl, rfl, rfl, w2⟩ := open_int Try.underlying3 (hval 2 3 v2 rfl rfl) h2
  refine (walk a0 n0 c0 xs0 k0 a1 w1 a2 w2).mono fun e W' ⟨he, hb⟩ => ?_
  subst he
  exact ⟨_, rfl, post_law hW' hb rfl rfl rfl rfl rfl (by rw [Try.params4]; exact readable_all (by kernel_rfl))⟩
theorem over : Rows.graphOrderRow.holds Try.pinned (OpenSpec.ofChange Rows.graphOrderSpec) :=
  OpenClaim.holds_of_wide 4 Try.f4 rfl rfl rfl rfl rfl rfl rfl ⟨rfl, rfl, rfl, rfl, rfl⟩ rfl rfl rfl rfl rfl (by kernel_rfl) Try.func4 (by kernel_rfl)
    (of_decide_eq_true (by kernel_rfl)) (by unfold Func.isWrapper; first | (rw [if_pos (by decide +kernel)]; kernel_rfl) | (rw [if_neg (by decide +kernel)]; exact ⟨rfl, rfl⟩))
    (fun os started H enc _ => lifted os started H enc)
theorem proved : Rows.GraphOrderSaid := over
#print axioms proved
end Go.Proofs.Ytjcaoejodjmmkaa.graphOrder
