/- What the laws of distances hold fixed. -/
import Derived.Test.YtjopiefojicblaaDistAll
set_option linter.unusedVariables false
set_option linter.unusedSimpArgs false
namespace Go.Proofs.Ytjopiefojicblaa
open Go.ChangeShapes Go.WideShapes Go.ChangeAt Go.RowKit HeapP DistP
set_option maxRecDepth 100000 in
set_option maxHeartbeats 8000000 in
theorem awake11 (w : World) : Calls Try.prog 15 #[] w fun e w' => e = .returned (.bool true) ∧ Below w.heap.size w w' := by
  have hq : ReadsI (w.alloc (.cells #[.int .i64 3, .int .i64 3, .int .i64 5] 3)) (some ⟨w.heap.size, 0, none⟩) 3 3 [3, 3, 5] := readsI_new w [3, 3, 5] 3 rfl (by decide) (by decide) 3
  have hmd := made11 hq
  have hok0 := town_good [3, 3, 5]
  obtain ⟨ns, hns⟩ : ∃ ns, ns = townN [3, 3, 5] := ⟨_, rfl⟩
  obtain ⟨es, hes⟩ : ∃ es, es = townE [3, 3, 5] := ⟨_, rfl⟩
  obtain ⟨bs, hbs⟩ : ∃ bs, bs = townB [3, 3, 5] := ⟨_, rfl⟩
  have z1 := aE_len
  have z2 := aE_0
  have z3 := aN_len
  rw [← hes] at z1 z2
  rw [← hns] at z3
  rw [← hns, ← hes, ← hbs] at hmd hok0
  have HOK := Lib.hid hok0
  have HL43 := Lib.hid z1
  have HN16 := Lib.hid z3
  have HS0 : Hid (toSrc es 1 0) := Lib.hid (by unfold toSrc; rw [z2])
  have hi1 : inB 0 (1 : Int) ((ns.length : Int) - 1) = true := by rw [z3]; decide
  have hi0 : inB 0 (0 : Int) ((es.length : Int) - 1) = true := by rw [z1]; decide
  have hi9 : inB 0 (99 : Int) ((ns.length : Int) - 1) = false := by rw [z3]; decide
  have Z2 := Lib.hid z2
  rw [z1] at hmd
  have HMD := Lib.hid hmd
  have HI1 := Lib.hid hi1
  have HI0 := Lib.hid hi0
  have HI9 := Lib.hid hi9
  have HTO1 : Hid (toT ns es bs [] 1 = toD es bs [] 1) := Lib.hid (by unfold toT; rw [if_pos hi1])
  have HFR0 : Hid (fromT es bs [] 0 = fromD es bs [] 0) := Lib.hid (by unfold fromT; rw [if_pos hi0]; rfl)
  have HB01 : Hid (btwT ns es bs [] 0 1 = 0) := Lib.hid (by
    unfold btwT; rw [if_pos ⟨hi0, hi1⟩]
    have h2 := (toD_is hok0 [] 1)
    exact h2.2.a 0 (by rw [z1]; decide) (by unfold toSrc; rw [z2]))
  have HB09 : Hid (btwT ns es bs [] 0 99 = -1) := Lib.hid (by unfold btwT; rw [if_neg (by rw [hi9]; simp)])
  clear hq hmd hok0 hns hes hbs z1 z2 z3 hi1 hi0 hi9
  go_enter Try.func15, Try.ntmps15
  go_wp2_with fail
  refine HMD.out.mono ?_
  rintro e w1 ⟨A1, A2, A3, c1, c2, c3, B, t, p, rfl, hM⟩
  have hre : ReadsT w1 A2 43 c2 es := by have h := hM.g.rE; rw [HL43.out] at h; exact h
  obtain ⟨bE, oE, rfl, hc⟩ := hre.cell (by decide)
  obtain ⟨_, a1, a2⟩ := hc 0 (by decide)
  rw [Z2.out] at a1
  have hbx := bl_alloc (Below.refl w1.heap.size w1) (.cells #[.slice A1 ns.length c1, .slice (some ⟨bE, oE, none⟩) 43 c2, .slice A3 bs.length c3] 29)
  have hsx := fun (w' : World) (h : Below (w1.alloc (.cells #[.slice A1 ns.length c1, .slice (some ⟨bE, oE, none⟩) 43 c2, .slice A3 bs.length c3] 29)).heap.size (w1.alloc (.cells #[.slice A1 ns.length c1, .slice (some ⟨bE, oE, none⟩) 43 c2, .slice A3 bs.length c3] 29)) w') => (GR.box h).2.1
  have k1 : (w1.alloc (.cells #[.slice A1 ns.length c1, .slice (some ⟨bE, oE, none⟩) 43 c2, .slice A3 bs.length c3] 29)).cell? ⟨w1.heap.size, 1, none⟩ = some (.slice (some ⟨bE, oE, none⟩) 43 c2) := cell_three_new 1 _ rfl
  obtain ⟨v0, hv0⟩ : ∃ v0, v0 = w1.alloc (.cells #[.slice A1 ns.length c1, .slice (some ⟨bE, oE, none⟩) 43 c2, .slice A3 bs.length c3] 29) := ⟨_, rfl⟩
  have kE := cell_below a1 hbx
  rw [← hv0] at hbx hsx
  have HS : Hid (∀ w', Below v0.heap.size v0 w' → w'.cell? ⟨w1.heap.size, 1, none⟩ = some (.slice (some ⟨bE, oE, none⟩) 43 c2) ∧ w'.cell? ⟨bE, oE + 1, none⟩ = some (.int .i64 1)) :=
    Lib.hid fun w' h => ⟨hsx w' h, cell_below (cell_below a1 hbx) h⟩
  have HT := Lib.hid (hM.t.below hbx)
  have HBW : Hid (Below w.heap.size w v0) := Lib.hid ((bl_then (bl_alloc (Below.refl _ _) _) hM.below).trans (hbx.mono (by have := hM.below.size; rw [size_alloc] at this; omega)))
  have HV0 := Lib.hid hv0
  clear hM hre hc a1 a2 hbx hsx hv0 HMD
  go_wp2_with fail
  rw [← HV0.out]
  have hto := to_at HT.out (nilB v0) (by rw [HL43.out]; decide) 1
  have hlt := (toD_is HOK.out [] 1).1
  have hg0 := to_here HOK.out [] (v := 1) (x := 0) (by rw [HL43.out]; decide) HS0.out
  rw [HTO1.out, hlt, HL43.out] at hto
  have HG0 := Lib.hid hg0
  refine hto.mono ?_
  clear hto hlt hg0
  rintro e y1 ⟨AD, cD, rfl, hD, hb⟩
  have B1 := Lib.hid hb
  have HD := Lib.hid hD
  clear hb hD k1 kE
  go_wp2_with fail
  have hfr := from_at (HT.out.below B1.out) (nilB y1) 0
  have hlf := (fromD_is HOK.out [] 0).1
  have hg1 := from_here HOK.out [] (x := 0) (by rw [HL43.out]; decide)
  rw [HFR0.out, hlf, HL43.out] at hfr
  have HG1 := Lib.hid hg1
  refine hfr.mono ?_
  clear hfr hlf hg1
  rintro e y2 ⟨AF, cF, rfl, hF, hb⟩
  have B2 := Lib.hid (bl_then B1.out hb)
  have HD2 := Lib.hid (HD.out.1.below hb)
  have HF := Lib.hid hF
  obtain ⟨l1, lE⟩ := HS.out _ B2.out
  clear hb hF HD
  go_wp2_with fail
  have hb1 := btw_at (HT.out.below B2.out) (nilB y2) (by rw [HL43.out]; decide) 0 1
  rw [HB01.out] at hb1
  refine hb1.mono ?_
  clear hb1
  rintro e y3 ⟨rfl, hb⟩
  have B3 := Lib.hid (bl_then B2.out hb)
  have HD3 := Lib.hid (HD2.out.below hb)
  have HF3 := Lib.hid (HF.out.1.below hb)
  rw [show max0 0 = 0 by decide, show decide ((0 : Int) ≤ 0) = true by decide]
  clear hb HD2 HF l1 lE
  go_wp2_with fail
  have hb9 := btw_at (HT.out.below B3.out) (nilB y3) (by rw [HL43.out]; decide) 0 99
  rw [HB09.out] at hb9
  refine hb9.mono ?_
  clear hb9
  rintro e y4 ⟨rfl, hb⟩
  have B4 := Lib.hid (bl_then B3.out hb)
  have hd4 := HD3.out.below hb
  have hf4 := HF3.out.below hb
  obtain ⟨l1, lE⟩ := HS.out _ B4.out
  have hld : (toD es bs [] 1).length = 43 := by rw [(toD_is HOK.out [] 1).1, HL43.out]
  have hlf : (fromD es bs [] 0).length = 43 := by rw [(fromD_is HOK.out [] 0).1, HL43.out]
  rw [hld] at hd4
  rw [hlf] at hf4
  obtain ⟨bD, oD, rfl, hcD⟩ := hd4.cell (by decide)
  obtain ⟨bF, oF, rfl, hcF⟩ := hf4.cell (by decide)
  have d0 : y4.cell? ⟨bD, oD, none⟩ = some (.int .i64 0) := by have := hcD 0 (by decide); rw [HG0.out] at this; exact this
  have f0 : y4.cell? ⟨bF, oF, none⟩ = some (.int .i64 0) := by have := hcF 0 (by decide); rw [HG1.out] at this; exact this
  rw [show max0 (-1) = 0 by decide, show decide ((0 : Int) ≤ -1) = false by decide]
  clear hb HD3 HF3 hd4 hf4 hcD hcF hld hlf
  go_wp2_with (go_at_call 19; refine (to_nil _ _ _ _ _).mono ?_; rintro e w' ⟨rfl, rfl⟩)
  go_ret
  exact ⟨rfl, HBW.out.trans (B4.out.mono HBW.out.size)⟩
end Go.Proofs.Ytjopiefojicblaa
