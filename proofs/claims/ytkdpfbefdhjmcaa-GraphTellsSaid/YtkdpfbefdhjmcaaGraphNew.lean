/- graph.New. -/
import Derived.Test.YtkdpfbefdhjmcaaGraphAt
import Derived.Deep.RegionHeld3
set_option linter.unusedVariables false
set_option linter.unusedSimpArgs false
namespace Go.Proofs.Ytkdpfbefdhjmcaa
open Go.ChangeShapes Go.WideShapes Go.ChangeAt Go.RowKit RowP
theorem own_lt {w : World} {B b o : Nat} {e : TypeId} {size n c : Nat} {xs : List Value} (h : w.ownsRow B e size (.slice (some ⟨b, o, none⟩) n c) n xs) : B ≤ b ∧ b < w.heap.size := by
  rcases h.2 with ⟨h0, _⟩ | ⟨g, c, cur, e, hb, hg, _⟩
  · cases h0
  · injection e with e1 _ _
    injection e1 with e1
    injection e1 with e1 _ _
    subst e1
    refine ⟨hb, ?_⟩
    rcases Nat.lt_or_ge b w.heap.size with h1 | h1
    · exact h1
    · rw [Array.getElem?_eq_none h1] at hg; cases hg
set_option maxRecDepth 100000 in
set_option maxHeartbeats 4000000 in
theorem new_bad {A1 A2 A3 : Option Addr} {n1 c1 n2 c2 n3 c3 : Nat} {ns : List (Int × Int)} {es : List (Int × Int × Int)} {bs : List (Int × Int)} {w : World}
    (r1 : ReadsP w A1 n1 c1 ns) (r2 : ReadsT w A2 n2 c2 es) (r3 : ReadsP w A3 n3 c3 bs) (h : mayB ns es bs = false) :
    Calls Try.prog 16 #[.agg #[.slice A1 n1 c1, .slice A2 n2 c2, .slice A3 n3 c3]] w fun e w' => e = .returned (.tuple #[.pointer none, .int .i64 1]) ∧ Below w.heap.size w w' := by
  have hb0 : Below w.heap.size w (w.alloc (.cells #[.slice A1 n1 c1, .slice A2 n2 c2, .slice A3 n3 c3] 51)) := bl_alloc (Below.refl _ _) _
  have hmay := may_any (r1.below hb0) (r2.below hb0) (r3.below hb0)
  rw [h] at hmay
  have HMAY := Lib.hid hmay
  have HB0 := Lib.hid hb0
  clear r1 r2 r3 h hmay hb0
  go_enter Try.func16, Try.ntmps16
  go_wp2_with fail
  refine HMAY.out.mono ?_
  rintro e w1 ⟨rfl, hb1⟩
  have hbw := HB0.out.trans (hb1.mono HB0.out.size)
  have HBW := Lib.hid hbw
  clear hb1 hbw
  go_wp2_with fail
  go_ret2
  exact ⟨rfl, HBW.out⟩
set_option maxRecDepth 100000 in
set_option maxHeartbeats 16000000 in
theorem new_ok {A1 A2 A3 : Option Addr} {n1 c1 n2 c2 n3 c3 : Nat} {ns : List (Int × Int)} {es : List (Int × Int × Int)} {bs : List (Int × Int)} {w : World}
    (r1 : ReadsP w A1 n1 c1 ns) (r2 : ReadsT w A2 n2 c2 es) (r3 : ReadsP w A3 n3 c3 bs) (h : mayB ns es bs = true) :
    Calls Try.prog 16 #[.agg #[.slice A1 n1 c1, .slice A2 n2 c2, .slice A3 n3 c3]] w fun e w' => ∃ p, e = .returned (.tuple #[.pointer (some ⟨p, 0, none⟩), .int .i64 0]) ∧ GraphAt w' w.heap.size w'.heap.size p ns es bs ∧ Below w.heap.size w w' := by
  obtain ⟨hsz, hsm, hfr, hto⟩ := mayB_parts h
  have hb0 : Below w.heap.size w (w.alloc (.cells #[.slice A1 n1 c1, .slice A2 n2 c2, .slice A3 n3 c3] 51)) := bl_alloc (Below.refl _ _) _
  have hmay := may_any (r1.below hb0) (r2.below hb0) (r3.below hb0)
  rw [h] at hmay
  have hc := fun j v hv => cell_three_new (w := w) (x := .slice A1 n1 c1) (y := .slice A2 n2 c2) (z := .slice A3 n3 c3) (t := 51) j v hv
  have l1 := r1.len
  have l2 := r2.len
  have l3 := r3.len
  have s1 : n1 ≤ 256 := by omega
  have s2 : n2 ≤ 512 := by omega
  have s3 : n3 ≤ 1024 := by omega
  have R1 := Lib.hid r1
  have R2 := Lib.hid r2
  have R3 := Lib.hid r3
  have HOK := Lib.hid h
  have HFR : Hid (∀ i, i < n2 → (es.getD i (0, 0, 0)).1 = (fromN es i : Nat) ∧ fromN es i < n1) := Lib.hid (by rw [← l1, ← l2]; exact hfr)
  have HTO : Hid (∀ i, i < n2 → (es.getD i (0, 0, 0)).2.1 = (toN es i : Nat) ∧ toN es i < n1) := Lib.hid (by rw [← l1, ← l2]; exact hto)
  have HMAY := Lib.hid hmay
  have HB0 := Lib.hid hb0
  have HC := Lib.hid hc
  have L1 := Lib.hid l1
  have L2 := Lib.hid l2
  have L3 := Lib.hid l3
  have ce0 := hc 0 _ rfl
  have ce1 := hc 1 _ rfl
  have ce2 := hc 2 _ rfl
  clear r1 r2 r3 h hmay hb0 hsz hsm hfr hto hc l1 l2 l3
  go_enter Try.func16, Try.ntmps16
  go_wp2_with fail
  refine HMAY.out.mono ?_
  rintro e w1 ⟨rfl, hb1⟩
  have d0 : w1.cell? ⟨w.heap.size, 0, none⟩ = some (.slice A1 n1 c1) := cell_below (HC.out 0 _ rfl) hb1
  have d1 : w1.cell? ⟨w.heap.size, 1, none⟩ = some (.slice A2 n2 c2) := cell_below (HC.out 1 _ rfl) hb1
  have d2 : w1.cell? ⟨w.heap.size, 2, none⟩ = some (.slice A3 n3 c3) := cell_below (HC.out 2 _ rfl) hb1
  have hbw := HB0.out.trans (hb1.mono HB0.out.size)
  have HBW := Lib.hid hbw
  have D0 := Lib.hid (cell_below d0 (bl_drew (Below.refl _ _)))
  have D1 := Lib.hid (cell_below d1 (bl_drew (Below.refl _ _)))
  have D2 := Lib.hid (cell_below d2 (bl_drew (Below.refl _ _)))
  clear hb1 hbw ce0 ce1 ce2 HC
  go_wp2_with fail
  go_region_held3 (fun w' => w'.cell? ⟨w.heap.size, 0, none⟩ = some (.slice A1 n1 c1) ∧ w'.cell? ⟨w.heap.size, 1, none⟩ = some (.slice A2 n2 c2) ∧ w'.cell? ⟨w.heap.size, 2, none⟩ = some (.slice A3 n3 c3))
    (first | exact ⟨d0, d1, d2⟩ | exact ⟨p0, p1, p2⟩ | exact ⟨q0, q1, q2⟩ | exact ⟨r0, r1, r2⟩ | exact ⟨cell_below r0 (bl_alloc (Below.refl _ _) _), cell_below r1 (bl_alloc (Below.refl _ _) _), cell_below r2 (bl_alloc (Below.refl _ _) _)⟩)
    (first
      | (go_at_call 43
         refine (clone_node (R1.out.below (bl_drew HBW.out)) (by omega)).mono ?_
         rintro e w2 ⟨A1', c1', rfl, hown1, hb2, _⟩
         have p0 := cell_below D0.out hb2
         have p1 := cell_below D1.out hb2
         have p2 := cell_below D2.out hb2
         have hbw2 := (bl_drew HBW.out).trans (hb2.mono HBW.out.size)
         have HOWN1 := Lib.hid hown1
         have HBW2 := Lib.hid hbw2
         have P0 := Lib.hid p0
         have P1 := Lib.hid p1
         have P2 := Lib.hid p2
         clear hown1 hb2 hbw2)
      | (go_at_call 44
         refine (clone_edge (R2.out.below HBW2.out) (by omega)).mono ?_
         rintro e w3 ⟨A2', c2', rfl, hown2, hb3, _⟩
         have q0 := cell_below P0.out hb3
         have q1 := cell_below P1.out hb3
         have q2 := cell_below P2.out hb3
         have hbw3 := HBW2.out.trans (hb3.mono HBW2.out.size)
         have HOWN2 := Lib.hid hown2
         have HBW3 := Lib.hid hbw3
         have HST3 := Lib.hid hb3
         have Q0 := Lib.hid q0
         have Q1 := Lib.hid q1
         have Q2 := Lib.hid q2
         clear hown2 hb3 hbw3)
      | (go_at_call 45
         refine (clone_ban (R3.out.below HBW3.out) (by omega)).mono ?_
         rintro e w4 ⟨A3', c3', rfl, hown3, hb4, _⟩
         have r0 := cell_below Q0.out hb4
         have r1 := cell_below Q1.out hb4
         have r2 := cell_below Q2.out hb4
         have hbw4 := HBW3.out.trans (hb4.mono HBW3.out.size)
         have HOWN3 := Lib.hid hown3
         have HBW4 := Lib.hid hbw4
         have HST4 := Lib.hid hb4
         clear hown3 hb4 hbw4))
  have x0 := cell_below r0 (bl_alloc (Below.refl _ _) (.cells #[.slice A1' n1 c1', .slice A2' n2 c2', .slice A3' n3 c3', .slice none 0 0, .slice none 0 0, .slice none 0 0, .slice none 0 0] 96))
  have x1 := cell_below r1 (bl_alloc (Below.refl _ _) (.cells #[.slice A1' n1 c1', .slice A2' n2 c2', .slice A3' n3 c3', .slice none 0 0, .slice none 0 0, .slice none 0 0, .slice none 0 0] 96))
  have x2 := cell_below r2 (bl_alloc (Below.refl _ _) (.cells #[.slice A1' n1 c1', .slice A2' n2 c2', .slice A3' n3 c3', .slice none 0 0, .slice none 0 0, .slice none 0 0, .slice none 0 0] 96))
  have hp : (w4.alloc (.cells #[.slice A1' n1 c1', .slice A2' n2 c2', .slice A3' n3 c3', .slice none 0 0, .slice none 0 0, .slice none 0 0, .slice none 0 0] 96)).heap[w4.heap.size]? = some (.cells #[.slice A1' n1 c1', .slice A2' n2 c2', .slice A3' n3 c3', .slice none 0 0, .slice none 0 0, .slice none 0 0, .slice none 0 0] 96) := by
    show (w4.heap.push _)[w4.heap.size]? = _; simp
  have hb5 := bl_alloc HBW4.out (.cells #[.slice A1' n1 c1', .slice A2' n2 c2', .slice A3' n3 c3', .slice none 0 0, .slice none 0 0, .slice none 0 0, .slice none 0 0] 96)
  have k5 := bl_alloc (Below.refl w4.heap.size w4) (.cells #[.slice A1' n1 c1', .slice A2' n2 c2', .slice A3' n3 c3', .slice none 0 0, .slice none 0 0, .slice none 0 0, .slice none 0 0] 96)
  have hz5 := size_alloc w4 (.cells #[.slice A1' n1 c1', .slice A2' n2 c2', .slice A3' n3 c3', .slice none 0 0, .slice none 0 0, .slice none 0 0, .slice none 0 0] 96)
  obtain ⟨w5, hw5⟩ : ∃ w5, w5 = w4.alloc (.cells #[.slice A1' n1 c1', .slice A2' n2 c2', .slice A3' n3 c3', .slice none 0 0, .slice none 0 0, .slice none 0 0, .slice none 0 0] 96) := ⟨_, rfl⟩
  rw [← hw5] at x0 x1 x2 hp hb5 k5 hz5 ⊢
  obtain ⟨p, hpp⟩ : ∃ p, p = w4.heap.size := ⟨_, rfl⟩
  have HPP := Lib.hid hpp
  rw [← hpp] at hp hz5 ⊢
  have X0 := Lib.hid x0
  have X1 := Lib.hid x1
  have X2 := Lib.hid x2
  have HP := Lib.hid hp
  have HB5 := Lib.hid hb5
  have K5 := Lib.hid k5
  have HZ5 := Lib.hid hz5
  have hgp : w.heap.size < p := by have := HBW4.out.size; have h2 := World.block_lt_of_cell? _ _ r0; rw [hpp]; exact h2
  clear d0 d1 d2 p0 p1 p2 q0 q1 q2 r0 r1 r2 D0 D1 D2 P0 P1 P2 Q0 Q1 Q2 hp hb5 k5 hz5 hw5 hpp
  (try clear hHeld hHeld2 hHeld3 hHeld4)
  go_wp2_with fail
  refine (rows_from s1 s2 (R2.out.below HB5.out) HFR.out).mono ?_
  rintro e w6 ⟨RO, XF, bO, bF, cF, rfl, hio, hif, go1, gf1, hne, hso, hb6⟩
  have hp6 := (hb6.block p (by rw [HZ5.out]; omega)).trans HP.out
  have f3 := block_fr hp6 3
  have hp6b := block_set hp6 3 (.slice (some ⟨bO, 0, none⟩) n2 n2)
  have f5 := block_fr hp6b 5
  have y3 := block_cell hp6 (j := 3) rfl
  have y5 := block_cell hp6b (j := 5) rfl
  have hpw : p ≠ w.heap.size := by omega
  have v0 := (World.cell?_setCell_far (w6.setCell ⟨p, 3, none⟩ (.slice (some ⟨bO, 0, none⟩) n2 n2)) ⟨p, 5, none⟩ ⟨w.heap.size, 0, none⟩ (.slice (some ⟨bF, 0, none⟩) (n1 + 1) cF) hpw).trans ((World.cell?_setCell_far w6 ⟨p, 3, none⟩ ⟨w.heap.size, 0, none⟩ (.slice (some ⟨bO, 0, none⟩) n2 n2) hpw).trans (cell_below X0.out hb6))
  have v1 := (World.cell?_setCell_far (w6.setCell ⟨p, 3, none⟩ (.slice (some ⟨bO, 0, none⟩) n2 n2)) ⟨p, 5, none⟩ ⟨w.heap.size, 1, none⟩ (.slice (some ⟨bF, 0, none⟩) (n1 + 1) cF) hpw).trans ((World.cell?_setCell_far w6 ⟨p, 3, none⟩ ⟨w.heap.size, 1, none⟩ (.slice (some ⟨bO, 0, none⟩) n2 n2) hpw).trans (cell_below X1.out hb6))
  have v2 := (World.cell?_setCell_far (w6.setCell ⟨p, 3, none⟩ (.slice (some ⟨bO, 0, none⟩) n2 n2)) ⟨p, 5, none⟩ ⟨w.heap.size, 2, none⟩ (.slice (some ⟨bF, 0, none⟩) (n1 + 1) cF) hpw).trans ((World.cell?_setCell_far w6 ⟨p, 3, none⟩ ⟨w.heap.size, 2, none⟩ (.slice (some ⟨bO, 0, none⟩) n2 n2) hpw).trans (cell_below X2.out hb6))
  have hp7 := block_set hp6b 5 (.slice (some ⟨bF, 0, none⟩) (n1 + 1) cF)
  have hu7 : Upd (fun b => b = p) w6 ((w6.setCell ⟨p, 3, none⟩ (.slice (some ⟨bO, 0, none⟩) n2 n2)).setCell ⟨p, 5, none⟩ (.slice (some ⟨bF, 0, none⟩) (n1 + 1) cF)) := upd_setCell (F := fun b => b = p) (a := ⟨p, 5, none⟩) (upd_setCell (F := fun b => b = p) (a := ⟨p, 3, none⟩) (Upd.refl _ _) rfl _) rfl _
  have hb7 : Below w.heap.size w ((w6.setCell ⟨p, 3, none⟩ (.slice (some ⟨bO, 0, none⟩) n2 n2)).setCell ⟨p, 5, none⟩ (.slice (some ⟨bF, 0, none⟩) (n1 + 1) cF)) := (HB5.out.trans (hb6.mono HB5.out.size)).trans (hu7.below (Nat.le_trans HB5.out.size hb6.size) fun k hk e => by omega)
  have HP7 := Lib.hid hp7
  have HU7 := Lib.hid hu7
  have HB7 := Lib.hid hb7
  have HIO := Lib.hid hio
  have HIF := Lib.hid hif
  have HSO := Lib.hid hso
  have HB6 := Lib.hid hb6
  have GO1 := Lib.hid go1
  have GF1 := Lib.hid gf1
  clear hp6 hp6b hio hif hso hb6 go1 gf1 x0 x1 x2 hp7 hu7 hb7
  go_wp2_with fail
  obtain ⟨w7, hw7⟩ : ∃ w7, w7 = (w6.setCell ⟨p, 3, none⟩ (.slice (some ⟨bO, 0, none⟩) n2 n2)).setCell ⟨p, 5, none⟩ (.slice (some ⟨bF, 0, none⟩) (n1 + 1) cF) := ⟨_, rfl⟩
  rw [← hw7] at HP7 HU7 HB7 ⊢
  clear hw7 v0 v1 v2 y3 y5 f3 f5
  refine (rows_to s1 s2 (R2.out.below HB7.out) HTO.out).mono ?_
  rintro e w8 ⟨RI, XT, bI, bT, cT, rfl, hii, hit, gi1, gt1, hne2, hsi, hb8⟩
  have hp8 := (hb8.block p (by have := HU7.out.size; have h2 := HB6.out.size; rw [HZ5.out] at h2; omega)).trans HP7.out
  have f4 := block_fr hp8 4
  have hp8b := block_set hp8 4 (.slice (some ⟨bI, 0, none⟩) n2 n2)
  have f6 := block_fr hp8b 6
  have y4 := block_cell hp8 (j := 4) rfl
  have y6 := block_cell hp8b (j := 6) rfl
  have hp9 := block_set hp8b 6 (.slice (some ⟨bT, 0, none⟩) (n1 + 1) cT)
  have HP9 := Lib.hid hp9
  have HII := Lib.hid hii
  have HIT := Lib.hid hit
  have HSI := Lib.hid hsi
  have HB8 := Lib.hid hb8
  have GI1 := Lib.hid gi1
  have GT1 := Lib.hid gt1
  clear hp8 hp8b hp9 hii hit hsi hb8 gi1 gt1
  go_wp2_with fail
  go_ret2
  obtain rfl := L1.out
  obtain rfl := L2.out
  obtain rfl := L3.out
  have hu9 : Upd (fun b => b = p) w8 ((w8.setCell ⟨p, 4, none⟩ (.slice (some ⟨bI, 0, none⟩) es.length es.length)).setCell ⟨p, 6, none⟩ (.slice (some ⟨bT, 0, none⟩) (ns.length + 1) cT)) := upd_setCell (F := fun b => b = p) (a := ⟨p, 6, none⟩) (upd_setCell (F := fun b => b = p) (a := ⟨p, 4, none⟩) (Upd.refl _ _) rfl _) rfl _
  obtain ⟨w9, hw9⟩ : ∃ w9, w9 = (w8.setCell ⟨p, 4, none⟩ (.slice (some ⟨bI, 0, none⟩) es.length es.length)).setCell ⟨p, 6, none⟩ (.slice (some ⟨bT, 0, none⟩) (ns.length + 1) cT) := ⟨_, rfl⟩
  have hp9 := HP9.out
  rw [← hw9] at hu9 hp9 ⊢
  have hu89 := hu9
  have hu79 : Upd (fun b => b = p) w7 w9 := (Upd.of_below HB8.out).trans hu9 (fun _ _ h => h)
  have hu69 : Upd (fun b => b = p) w6 w9 := HU7.out.trans hu79 (fun _ _ h => h)
  have hu59 : Upd (fun b => b = p) w5 w9 := (Upd.of_below HB6.out).trans hu69 (fun _ _ h => h)
  have hu49 : Upd (fun b => b = p) w4 w9 := (Upd.of_below K5.out).trans hu59 (fun _ _ h => h)
  have hu39 : Upd (fun b => b = p) w3 w9 := (Upd.of_below HST4.out).trans hu49 (fun _ _ h => h)
  have hu29 : Upd (fun b => b = p) w2 w9 := (Upd.of_below HST3.out).trans hu39 (fun _ _ h => h)
  have z5 := HZ5.out
  have zp := HPP.out
  have z24 : w2.heap.size ≤ w4.heap.size := Nat.le_trans HST3.out.size HST4.out.size
  have z34 : w3.heap.size ≤ w4.heap.size := HST4.out.size
  have z49 := hu49.size
  have z59 := hu59.size
  have z69 := hu69.size
  have z89 := hu89.size
  have z2 : w.heap.size ≤ w2.heap.size := HBW2.out.size
  have z3 : w.heap.size ≤ w3.heap.size := HBW3.out.size
  have zd : w.heap.size ≤ w1.drew.heap.size := HBW.out.size
  have g1 := GO1.out
  have g2 := GF1.out
  have g3 := GI1.out
  have g4 := GT1.out
  have z57 : w5.heap.size ≤ w7.heap.size := Nat.le_trans HB6.out.size HU7.out.size
  have t1 := HIO.out.lt
  have t2 := HIF.out.lt
  have t3 := HII.out.lt
  have t4 := HIT.out.lt
  refine ⟨p, rfl, ⟨⟨A1', A2', A3', c1', c2', c3', bO, bI, bF, bT, cF, cT, RO, RI, XF, XT⟩, HOK.out, Nat.le_refl _, by omega, by omega, hp9, ?_, ?_, ?_, ?_, ?_, ?_, ?_, ?_, ?_, HSO.out, HSI.out⟩, ?_⟩
  · exact (ReadsP.of_row HOWN1.out R1.out.small R1.out.wf).upd hu29 fun b o e h => by subst h; have h1 := HOWN1.out; rw [e] at h1; have := own_lt h1; omega
  · exact (ReadsT.of_row HOWN2.out R2.out.small R2.out.wf).upd hu39 fun b o e h => by subst h; have h1 := HOWN2.out; rw [e] at h1; have := own_lt h1; omega
  · exact (ReadsP.of_row HOWN3.out R3.out.small R3.out.wf).upd hu49 fun b o e h => by subst h; have h1 := HOWN3.out; rw [e] at h1; have := own_lt h1; omega
  · intro b o e
    dsimp only at e
    rcases e with e | e | e
    · have h1 := HOWN1.out; rw [e] at h1; have := own_lt h1; omega
    · have h1 := HOWN2.out; rw [e] at h1; have := own_lt h1; omega
    · have h1 := HOWN3.out; rw [e] at h1; have := own_lt h1; omega
  · intro b e
    dsimp only at e
    rcases e with rfl | rfl | rfl | rfl <;> omega
  · exact HIO.out.upd hu69 (by omega)
  · exact HII.out.upd hu89 (by omega)
  · exact HIF.out.upd hu69 (by omega)
  · exact HIT.out.upd hu89 (by omega)
  · exact (HB7.out.trans (HB8.out.mono HB7.out.size)).trans (hu89.below (Nat.le_trans HB7.out.size HB8.out.size) fun k hk e => by omega)
end Go.Proofs.Ytkdpfbefdhjmcaa
