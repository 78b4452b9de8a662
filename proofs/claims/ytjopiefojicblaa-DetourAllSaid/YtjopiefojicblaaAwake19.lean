/- What the laws of detours hold fixed. -/
import Derived.Test.YtjopiefojicblaaDistAll
import Derived.Test.YtjopiefojicblaaDetour
set_option linter.unusedVariables false
set_option linter.unusedSimpArgs false
namespace Go.Proofs.Ytjopiefojicblaa
open Go.ChangeShapes Go.WideShapes Go.ChangeAt Go.RowKit HeapP DistP
set_option maxRecDepth 100000 in
set_option maxHeartbeats 2000000 in
theorem btw_nil (v : Int) (A : Option Addr) (n c : Nat) (w : World) : Calls Try.prog 21 #[.pointer none, .int .i64 0, .int .i64 v, .slice A n c] w fun r w' => r = .returned (.tuple #[.int .i64 0, .bool false]) ∧ w = w' := by
  go_enter Try.func21, Try.ntmps21
  go_wp2_with (go_at_call 19; refine (to_nil _ _ _ _ _).mono ?_; rintro e w' ⟨rfl, rfl⟩)
  go_ret2
  exact ⟨rfl, rfl⟩
set_option maxRecDepth 100000 in
set_option maxHeartbeats 2000000 in
theorem ddist_nil (v : Int) (A : Option Addr) (n c : Nat) (w : World) : Calls Try.prog 39 #[.pointer none, .int .i64 0, .int .i64 v, .slice A n c] w fun r w' => r = .returned (.tuple #[.int .i64 0, .bool false]) ∧ w = w' := by
  go_enter Try.func39, Try.ntmps39
  go_wp2_with (go_at_call 21; refine (btw_nil _ _ _ _ _).mono ?_; rintro e w' ⟨rfl, rfl⟩)
  go_ret2
  exact ⟨rfl, rfl⟩
set_option maxRecDepth 100000 in
set_option maxHeartbeats 8000000 in
theorem awake19 (w : World) : Calls Try.prog 37 #[] w fun e w' => e = .returned (.bool true) ∧ Below w.heap.size w w' := by
  have hq : ReadsI (w.alloc (.cells #[.int .i64 3, .int .i64 3, .int .i64 5] 3)) (some ⟨w.heap.size, 0, none⟩) 3 3 [3, 3, 5] := readsI_new w [3, 3, 5] 3 rfl (by decide) (by decide) 3
  have hmd := made19 hq
  have hok0 := town_good [3, 3, 5]
  obtain ⟨ns, hns⟩ : ∃ ns, ns = townN [3, 3, 5] := ⟨_, rfl⟩
  obtain ⟨es, hes⟩ : ∃ es, es = townE [3, 3, 5] := ⟨_, rfl⟩
  obtain ⟨bs, hbs⟩ : ∃ bs, bs = townB [3, 3, 5] := ⟨_, rfl⟩
  have z1 := aE_len
  have z2 := aE_0
  have z3 := aN_len
  rw [← hes] at z1 z2
  rw [← hns] at z3
  rw [← hns, ← hes, ← hbs] at hmd hok0
  have HOK := Lib.hid hok0
  have HL43 := Lib.hid z1
  have HN16 := Lib.hid z3
  have HS0 : Hid (toSrc es 1 0) := Lib.hid (by unfold toSrc; rw [z2])
  have hi1 : inB 0 (1 : Int) ((ns.length : Int) - 1) = true := by rw [z3]; decide
  have hi0 : inB 0 (0 : Int) ((es.length : Int) - 1) = true := by rw [z1]; decide
  have hi9 : inB 0 (99 : Int) ((ns.length : Int) - 1) = false := by rw [z3]; decide
  have Z2 := Lib.hid z2
  rw [z1] at hmd
  have HMD := Lib.hid hmd
  have HI1 := Lib.hid hi1
  have HI0 := Lib.hid hi0
  have HI9 := Lib.hid hi9
  have HTO1 : Hid (toT ns es bs [] 1 = toD es bs [] 1) := Lib.hid (by unfold toT; rw [if_pos hi1])
  have HFR0 : Hid (fromT es bs [] 0 = fromD es bs [] 0) := Lib.hid (by unfold fromT; rw [if_pos hi0]; rfl)
  have HB01 : Hid (btwT ns es bs [] 0 1 = 0) := Lib.hid (by
    unfold btwT; rw [if_pos ⟨hi0, hi1⟩]
    have h2 := (toD_is hok0 [] 1)
    exact h2.2.a 0 (by rw [z1]; decide) (by unfold toSrc; rw [z2]))
  have HB09 : Hid (btwT ns es bs [] 0 99 = -1) := Lib.hid (by unfold btwT; rw [if_neg (by rw [hi9]; simp)])
  clear hq hmd hok0 hns hes hbs z1 z2 z3 hi1 hi0 hi9
  have HM01 : Hid (meetT ns es bs [] 0 1 = 0) := Lib.hid (by
    obtain ⟨m, h1, h2, _⟩ := meet_in (q := 0) (v := 1) (cl := []) HOK.out (by have := HB01.out; show (0 : Int) ≤ btwT ns es bs [] 0 1; omega) (by rw [HL43.out]; decide)
    obtain rfl : m = 0 := by omega
    exact h1)
  go_enter Try.func37, Try.ntmps37
  go_wp2_with fail
  refine HMD.out.mono ?_
  rintro e w1 ⟨A1, A2, A3, c1, c2, c3, B, t, p, rfl, hM⟩
  have hre : ReadsT w1 A2 43 c2 es := by have h := hM.g.rE; rw [HL43.out] at h; exact h
  obtain ⟨bE, oE, rfl, hc⟩ := hre.cell (by decide)
  obtain ⟨_, a1, a2⟩ := hc 0 (by decide)
  rw [Z2.out] at a1
  have hbx := bl_alloc (Below.refl w1.heap.size w1) (.cells #[.slice A1 ns.length c1, .slice (some ⟨bE, oE, none⟩) 43 c2, .slice A3 bs.length c3] 29)
  have hsx := fun (w' : World) (h : Below (w1.alloc (.cells #[.slice A1 ns.length c1, .slice (some ⟨bE, oE, none⟩) 43 c2, .slice A3 bs.length c3] 29)).heap.size (w1.alloc (.cells #[.slice A1 ns.length c1, .slice (some ⟨bE, oE, none⟩) 43 c2, .slice A3 bs.length c3] 29)) w') => (GR.box h).2.1
  have k1 : (w1.alloc (.cells #[.slice A1 ns.length c1, .slice (some ⟨bE, oE, none⟩) 43 c2, .slice A3 bs.length c3] 29)).cell? ⟨w1.heap.size, 1, none⟩ = some (.slice (some ⟨bE, oE, none⟩) 43 c2) := cell_three_new 1 _ rfl
  obtain ⟨v0, hv0⟩ : ∃ v0, v0 = w1.alloc (.cells #[.slice A1 ns.length c1, .slice (some ⟨bE, oE, none⟩) 43 c2, .slice A3 bs.length c3] 29) := ⟨_, rfl⟩
  have kE := cell_below a1 hbx
  rw [← hv0] at hbx hsx
  have HS : Hid (∀ w', Below v0.heap.size v0 w' → w'.cell? ⟨w1.heap.size, 1, none⟩ = some (.slice (some ⟨bE, oE, none⟩) 43 c2) ∧ w'.cell? ⟨bE, oE + 1, none⟩ = some (.int .i64 1)) :=
    Lib.hid fun w' h => ⟨hsx w' h, cell_below (cell_below a1 hbx) h⟩
  have HT := Lib.hid (hM.t.below hbx)
  have HBW : Hid (Below w.heap.size w v0) := Lib.hid ((bl_then (bl_alloc (Below.refl _ _) _) hM.below).trans (hbx.mono (by have := hM.below.size; rw [size_alloc] at this; omega)))
  have HV0 := Lib.hid hv0
  clear hM hre hc a1 a2 hbx hsx hv0 HMD
  go_wp2_with fail
  rw [← HV0.out]
  have hd := ddist_at HT.out (nilB v0) (by rw [HL43.out]; decide) 0 1
  rw [HB01.out, show max0 0 = 0 by decide, show decide ((0 : Int) ≤ 0) = true by decide] at hd
  refine hd.mono ?_
  clear hd
  rintro e y1 ⟨rfl, hb⟩
  have B1 := Lib.hid hb
  clear hb k1 kE
  obtain ⟨l1, lE⟩ := HS.out _ B1.out
  go_wp2_with fail
  have hm := meets_at (HT.out.below B1.out) (nilB y1) (by rw [HL43.out]; decide) 0 1
  rw [HM01.out, show max0 0 = 0 by decide, show decide ((0 : Int) ≤ 0) = true by decide] at hm
  refine hm.mono ?_
  clear hm
  rintro e y2 ⟨rfl, hb⟩
  have B2 := Lib.hid (bl_then B1.out hb)
  clear hb l1 lE
  go_wp2_with (go_at_call 39; refine (ddist_nil _ _ _ _ _).mono ?_; rintro e w' ⟨rfl, rfl⟩)
  go_ret
  exact ⟨rfl, HBW.out.trans (B2.out.mono HBW.out.size)⟩
end Go.Proofs.Ytjopiefojicblaa
