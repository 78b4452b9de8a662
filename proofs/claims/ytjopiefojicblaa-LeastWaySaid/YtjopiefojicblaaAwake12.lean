/- What the laws of ways hold fixed. -/
import Derived.Test.YtjopiefojicblaaDistAll
import Derived.Test.YtjopiefojicblaaWayAt
set_option linter.unusedVariables false
set_option linter.unusedSimpArgs false
namespace Go.Proofs.Ytjopiefojicblaa
open Go.ChangeShapes Go.WideShapes Go.ChangeAt Go.RowKit HeapP DistP
set_option maxRecDepth 100000 in
set_option maxHeartbeats 2000000 in
theorem along_nil (e : Int) (AF : Option Addr) (m k : Nat) (A : Option Addr) (n c : Nat) (w : World) : Calls Try.prog 32 #[.pointer none, .int .i64 e, .slice AF m k, .slice A n c] w fun r w' => r = .returned (.tuple #[.slice none 0 0, .bool false]) ∧ w = w' := by
  go_enter Try.func32, Try.ntmps32
  go_wp2_with fail
  go_ret2
  exact ⟨rfl, rfl⟩
set_option maxRecDepth 100000 in
set_option maxHeartbeats 2000000 in
theorem way_nil (e v : Int) (A : Option Addr) (n c : Nat) (w : World) : Calls Try.prog 30 #[.pointer none, .int .i64 e, .int .i64 v, .slice A n c] w fun r w' => r = .returned (.tuple #[.slice none 0 0, .bool false]) ∧ w = w' := by
  go_enter Try.func30, Try.ntmps30
  go_wp2_with fail
  refine (to_nil _ _ _ _ _).mono ?_
  rintro r w1 ⟨rfl, rfl⟩
  go_wp2_with fail
  refine (along_nil _ _ _ _ _ _ _ _).mono ?_
  rintro r w1 ⟨rfl, rfl⟩
  go_wp2_with fail
  go_ret2
  exact ⟨rfl, rfl⟩
set_option maxRecDepth 100000 in
set_option maxHeartbeats 8000000 in
theorem awake12 (w : World) : Calls Try.prog 28 #[] w fun e w' => e = .returned (.bool true) ∧ Below w.heap.size w w' := by
  have hq : ReadsI (w.alloc (.cells #[.int .i64 3, .int .i64 3, .int .i64 5] 3)) (some ⟨w.heap.size, 0, none⟩) 3 3 [3, 3, 5] := readsI_new w [3, 3, 5] 3 rfl (by decide) (by decide) 3
  have hmd := made12 hq
  have hok0 := town_good [3, 3, 5]
  obtain ⟨ns, hns⟩ : ∃ ns, ns = townN [3, 3, 5] := ⟨_, rfl⟩
  obtain ⟨es, hes⟩ : ∃ es, es = townE [3, 3, 5] := ⟨_, rfl⟩
  obtain ⟨bs, hbs⟩ : ∃ bs, bs = townB [3, 3, 5] := ⟨_, rfl⟩
  have z1 := aE_len
  have z2 := aE_0
  have z3 := aN_len
  rw [← hes] at z1 z2
  rw [← hns] at z3
  rw [← hns, ← hes, ← hbs] at hmd hok0
  have HOK := Lib.hid hok0
  have HL43 := Lib.hid z1
  have HN16 := Lib.hid z3
  have HS0 : Hid (toSrc es 1 0) := Lib.hid (by unfold toSrc; rw [z2])
  have hi1 : inB 0 (1 : Int) ((ns.length : Int) - 1) = true := by rw [z3]; decide
  have hi0 : inB 0 (0 : Int) ((es.length : Int) - 1) = true := by rw [z1]; decide
  have hi9 : inB 0 (99 : Int) ((ns.length : Int) - 1) = false := by rw [z3]; decide
  have Z2 := Lib.hid z2
  rw [z1] at hmd
  have HMD := Lib.hid hmd
  have HI1 := Lib.hid hi1
  have HI0 := Lib.hid hi0
  have HI9 := Lib.hid hi9
  have HTO1 : Hid (toT ns es bs [] 1 = toD es bs [] 1) := Lib.hid (by unfold toT; rw [if_pos hi1])
  have HFR0 : Hid (fromT es bs [] 0 = fromD es bs [] 0) := Lib.hid (by unfold fromT; rw [if_pos hi0]; rfl)
  have HB01 : Hid (btwT ns es bs [] 0 1 = 0) := Lib.hid (by
    unfold btwT; rw [if_pos ⟨hi0, hi1⟩]
    have h2 := (toD_is hok0 [] 1)
    exact h2.2.a 0 (by rw [z1]; decide) (by unfold toSrc; rw [z2]))
  have HB09 : Hid (btwT ns es bs [] 0 99 = -1) := Lib.hid (by unfold btwT; rw [if_neg (by rw [hi9]; simp)])
  clear hq hmd hok0 hns hes hbs z1 z2 z3 hi1 hi0 hi9
  have HW01 : Hid (wayT ns es bs [] 0 1 = []) := Lib.hid (by
    have h0 := HB01.out
    unfold wayT
    rw [if_pos (by rw [h0]; decide), way_end]
    · rfl
    · unfold btwT at h0
      split at h0
      · have h1 : dl (toD es bs [] 1) (0 : Int).toNat = 0 := h0
        rw [h1]; decide
      · cases h0)
  have HW09 : Hid (wayT ns es bs [] 0 99 = []) := Lib.hid (by unfold wayT; rw [if_neg (by rw [HB09.out]; decide)])
  go_enter Try.func28, Try.ntmps28
  go_wp2_with fail
  refine HMD.out.mono ?_
  rintro e w1 ⟨A1, A2, A3, c1, c2, c3, B, t, p, rfl, hM⟩
  have hre : ReadsT w1 A2 43 c2 es := by have h := hM.g.rE; rw [HL43.out] at h; exact h
  obtain ⟨bE, oE, rfl, hc⟩ := hre.cell (by decide)
  obtain ⟨_, a1, a2⟩ := hc 0 (by decide)
  rw [Z2.out] at a1
  have hbx := bl_alloc (Below.refl w1.heap.size w1) (.cells #[.slice A1 ns.length c1, .slice (some ⟨bE, oE, none⟩) 43 c2, .slice A3 bs.length c3] 29)
  have hsx := fun (w' : World) (h : Below (w1.alloc (.cells #[.slice A1 ns.length c1, .slice (some ⟨bE, oE, none⟩) 43 c2, .slice A3 bs.length c3] 29)).heap.size (w1.alloc (.cells #[.slice A1 ns.length c1, .slice (some ⟨bE, oE, none⟩) 43 c2, .slice A3 bs.length c3] 29)) w') => (GR.box h).2.1
  have k1 : (w1.alloc (.cells #[.slice A1 ns.length c1, .slice (some ⟨bE, oE, none⟩) 43 c2, .slice A3 bs.length c3] 29)).cell? ⟨w1.heap.size, 1, none⟩ = some (.slice (some ⟨bE, oE, none⟩) 43 c2) := cell_three_new 1 _ rfl
  obtain ⟨v0, hv0⟩ : ∃ v0, v0 = w1.alloc (.cells #[.slice A1 ns.length c1, .slice (some ⟨bE, oE, none⟩) 43 c2, .slice A3 bs.length c3] 29) := ⟨_, rfl⟩
  have kE := cell_below a1 hbx
  rw [← hv0] at hbx hsx
  have HS : Hid (∀ w', Below v0.heap.size v0 w' → w'.cell? ⟨w1.heap.size, 1, none⟩ = some (.slice (some ⟨bE, oE, none⟩) 43 c2) ∧ w'.cell? ⟨bE, oE + 1, none⟩ = some (.int .i64 1)) :=
    Lib.hid fun w' h => ⟨hsx w' h, cell_below (cell_below a1 hbx) h⟩
  have HT := Lib.hid (hM.t.below hbx)
  have HBW : Hid (Below w.heap.size w v0) := Lib.hid ((bl_then (bl_alloc (Below.refl _ _) _) hM.below).trans (hbx.mono (by have := hM.below.size; rw [size_alloc] at this; omega)))
  have HV0 := Lib.hid hv0
  clear hM hre hc a1 a2 hbx hsx hv0 HMD
  go_wp2_with fail
  rw [← HV0.out]
  have hd := way_at HT.out (nilB v0) (by rw [HL43.out]; decide) 0 1
  rw [HB01.out, HW01.out, show decide ((0 : Int) ≤ 0) = true by decide] at hd
  refine hd.mono ?_
  clear hd
  rintro e y1 ⟨AW, cW, rfl, _, hb⟩
  have B1 := Lib.hid hb
  clear hb k1 kE
  go_wp2_with fail
  have hm := way_at (HT.out.below B1.out) (nilB y1) (by rw [HL43.out]; decide) 0 99
  rw [HB09.out, HW09.out, show decide ((0 : Int) ≤ -1) = false by decide] at hm
  refine hm.mono ?_
  clear hm
  rintro e y2 ⟨AV, cV, rfl, _, hb⟩
  have B2 := Lib.hid (bl_then B1.out hb)
  clear hb
  go_wp2_with (go_at_call 30; refine (way_nil _ _ _ _ _ _).mono ?_; rintro e w' ⟨rfl, rfl⟩)
  go_ret
  exact ⟨rfl, HBW.out.trans (B2.out.mono HBW.out.size)⟩
end Go.Proofs.Ytjopiefojicblaa
