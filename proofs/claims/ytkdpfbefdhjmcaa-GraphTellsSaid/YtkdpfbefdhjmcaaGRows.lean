/- graph.rows: edges by a node of theirs. -/
import Derived.Test.YtkdpfbefdhjmcaaClone
import Derived.Test.YtkdpfbefdhjmcaaRowsPure
import Derived.Deep.OwnRows
import Derived.BigRegion
import Derived.Deep.RegionHeld
set_option linter.unusedVariables false
set_option linter.unusedSimpArgs false
namespace Go.Proofs.Ytkdpfbefdhjmcaa
open Go.ChangeShapes Go.WideShapes Go.ChangeAt Go.RowKit RowP
/-- a row of ints that is the call's own -/
def IRow (w : World) (b n cap : Nat) (L : List Int) : Prop := w.ownsRow 0 3 1 (.slice (some ⟨b, 0, none⟩) n cap) n (flatI L)
theorem IRow.len {w : World} {b n cap : Nat} {L : List Int} (h : IRow w b n cap L) : L.length = n := by have := h.1; rw [flatI_len] at this; omega
theorem IRow.cell {w : World} {b n cap : Nat} {L : List Int} (h : IRow w b n cap L) {i : Nat} (hi : i < n) : w.cell? ⟨b, i, none⟩ = some (.int .i64 (L.getD i 0)) := by
  have hl := h.len
  rw [World.ownsRow.cellAt h i (by omega), flatI_get L i (by omega)]
theorem IRow.fr {w : World} {b n cap : Nat} {L : List Int} (h : IRow w b n cap L) (i : Nat) : w.frozen? ⟨b, i, none⟩ = false := World.ownsRow.frozenAt h i
theorem flatI_set (L : List Int) (i : Nat) (x : Int) : (flatI L).set i (.int .i64 x) = flatI (L.set i x) := by simp [flatI, List.map_set]
theorem IRow.set {w : World} {b n cap : Nat} {L : List Int} (h : IRow w b n cap L) (i : Nat) (x : Int) : IRow (w.setCell ⟨b, i, none⟩ (.int .i64 x)) b n cap (L.set i x) := by
  have := (World.ownsRow.stored h i (.int .i64 x)).1
  rw [flatI_set] at this
  exact this
theorem IRow.upd {F : Nat → Prop} {w w' : World} {b n cap : Nat} {L : List Int} (h : IRow w b n cap L) (hu : Upd F w w') (hF : ¬ F b) : IRow w' b n cap L := by
  refine ⟨h.1, ?_⟩
  rcases h.2 with ⟨e, _⟩ | ⟨g, c, cur, e, hb, hg, r⟩
  · cases e
  · refine .inr ⟨g, c, cur, e, hb, ?_, r⟩
    simp only [Value.slice.injEq, Option.some.injEq, Addr.mk.injEq, and_true] at e
    obtain ⟨rfl, _⟩ := e
    have hlt : b < w.heap.size := by
      rcases Nat.lt_or_ge b w.heap.size with h1 | h1
      · exact h1
      · rw [Array.getElem?_eq_none h1] at hg; cases hg
    rw [hu.block b hlt hF]; exact hg
theorem IRow.lt {w : World} {b n cap : Nat} {L : List Int} (h : IRow w b n cap L) : b < w.heap.size := (World.ownsRow.lt h b rfl).2
theorem IRow.below {w w' : World} {b n cap : Nat} {L : List Int} (h : IRow w b n cap L) (hb : Below w.heap.size w w') : IRow w' b n cap L := h.upd (F := fun _ => False) (Upd.of_below hb) id
theorem IRow.base {w : World} {B b n cap : Nat} {L : List Int} (h : w.ownsRow B 3 1 (.slice (some ⟨b, 0, none⟩) n cap) n (flatI L)) : IRow w b n cap L := ⟨h.1, h.2.imp id fun ⟨g, c, cur, e, hb, r⟩ => ⟨g, c, cur, e, Nat.zero_le _, r⟩⟩
theorem IRow.made (w : World) (n : Nat) (hn : n ≤ maxLen) : IRow (w.alloc (.cells (madeCells #[.int .i64 0] n) 3)) w.heap.size n n (List.replicate n 0) := by
  refine ⟨by simp [flatI], .inr ⟨w.heap.size, n, madeCells #[.int .i64 0] n, rfl, Nat.zero_le _, ?_, Nat.le_refl _, hn, ?_, ?_⟩⟩
  · show (w.heap.push _)[w.heap.size]? = _; simp
  · simp [madeCells]
  · rw [toList_madeCells_one]; simp [flatI]
theorem cell_upd {F : Nat → Prop} {w w' : World} {b x : Nat} {v : Value} (h : w.cell? ⟨b, x, none⟩ = some v) (hu : Upd F w w') (hF : ¬ F b) : w'.cell? ⟨b, x, none⟩ = some v :=
  (World.cell?_of_block (a := ⟨b, x, none⟩) (hu.block b (World.block_lt_of_cell? w ⟨b, x, none⟩ h) hF)).trans h
theorem new1_any (a b c : Int) (w : World) : Calls Try.prog 47 #[.agg #[.int .i64 a, .int .i64 b, .int .i64 c]] w fun e w' => e = .returned (.int .i64 a) ∧ Below w.heap.size w w' := by
  go_enter Try.func47, Try.ntmps47
  go_wp2_with fail
  go_ret
  exact ⟨rfl, bl_alloc (Below.refl _ _) _⟩
theorem new2_any (a b c : Int) (w : World) : Calls Try.prog 48 #[.agg #[.int .i64 a, .int .i64 b, .int .i64 c]] w fun e w' => e = .returned (.int .i64 b) ∧ Below w.heap.size w w' := by
  go_enter Try.func48, Try.ntmps48
  go_wp2_with fail
  go_ret
  exact ⟨rfl, bl_alloc (Below.refl _ _) _⟩
theorem cell_three_new {w : World} {x y z : Value} {t : TypeId} : ∀ j v, (#[x, y, z] : Array Value)[j]? = some v → (w.alloc (.cells #[x, y, z] t)).cell? ⟨w.heap.size, j, none⟩ = some v := by
  intro j v hv
  have : (w.alloc (.cells #[x, y, z] t)).heap[w.heap.size]? = some (.cells #[x, y, z] t) := by show (w.heap.push _)[w.heap.size]? = _; simp
  unfold World.cell?; simp only [this]; exact hv
theorem wf_P2 {f : Nat → Nat} {N m : Nat} {L : List Int} (h : P2 f N m N L) (hm : m ≤ 512) : ∀ x ∈ L, (Lit.int .i64 x).wf = true := by
  intro x hx
  obtain ⟨i, hi, rfl⟩ := List.getElem_of_mem hx
  have hl := h.len
  have e := h.lo i (by omega)
  rw [List.getD_eq_getElem?_getD, List.getElem?_eq_getElem hi] at e
  have e2 : L[i] = (pre f m i : Nat) := e
  rw [e2]
  have := pre_le f m i
  exact wf_of (by omega) (by omega)
theorem own_at {w : World} {B : Nat} {e : TypeId} {size n c : Nat} {A : Option Addr} {xs : List Value} (h : w.ownsRow B e size (.slice A n c) n xs) (hn : 0 < n) : ∃ g, A = some ⟨g, 0, none⟩ ∧ B ≤ g ∧ g < w.heap.size := by
  rcases h.2 with ⟨_, h0⟩ | ⟨g, c, cur, e, hb, hg, _⟩
  · omega
  · injection e with e1 _ _
    refine ⟨g, e1, hb, ?_⟩
    rcases Nat.lt_or_ge g w.heap.size with h1 | h1
    · exact h1
    · rw [Array.getElem?_eq_none h1] at hg; cases hg
set_option maxRecDepth 100000 in
set_option maxHeartbeats 16000000 in
theorem rows_from {A1 A2 A3 : Option Addr} {n1 c1 n2 c2 n3 c3 : Nat} {es : List (Int × Int × Int)} {w : World} (h1 : n1 ≤ 256) (h2 : n2 ≤ 512)
    (r2 : ReadsT w A2 n2 c2 es) {f : Nat → Nat} (hf : ∀ i, i < n2 → (es.getD i (0, 0, 0)).1 = (f i : Nat) ∧ f i < n1) :
    Calls Try.prog 46 #[.agg #[.slice A1 n1 c1, .slice A2 n2 c2, .slice A3 n3 c3], .func (.func 47) #[] #[]] w fun e w' =>
      ∃ R X bR bX cX, e = .returned (.tuple #[.slice (some ⟨bR, 0, none⟩) n2 n2, .slice (some ⟨bX, 0, none⟩) (n1 + 1) cX]) ∧ IRow w' bR n2 n2 R ∧ IRow w' bX (n1 + 1) cX X ∧ w.heap.size ≤ bR ∧ w.heap.size ≤ bX ∧ bR ≠ bX ∧ Sorted f n1 n2 R X ∧ Below w.heap.size w w' := by
  have hc0 : ∀ j v, (#[Value.slice A1 n1 c1, .slice A2 n2 c2, .slice A3 n3 c3] : Array Value)[j]? = some v → (w.alloc (.cells #[.slice A1 n1 c1, .slice A2 n2 c2, .slice A3 n3 c3] 51)).cell? ⟨w.heap.size, j, none⟩ = some v := by
    intro j v hv
    have : (w.alloc (.cells #[.slice A1 n1 c1, .slice A2 n2 c2, .slice A3 n3 c3] 51)).heap[w.heap.size]? = some (.cells #[.slice A1 n1 c1, .slice A2 n2 c2, .slice A3 n3 c3] 51) := by show (w.heap.push _)[w.heap.size]? = _; simp
    unfold World.cell?; simp only [this]; exact hv
  have k0 := hc0 0 _ rfl
  have k1 := hc0 1 _ rfl
  have R2 := Lib.hid r2
  have HF := Lib.hid hf
  have hmk1 := run_make_row' (P := Try.prog) 71 3 (.int .i64 0) 8 Try.underlying71 infoInt rfl .i64 .i64 (n1 + 1) (by omega) (by omega)
  have hmk2 := run_make_row' (P := Try.prog) 71 3 (.int .i64 0) 8 Try.underlying71 infoInt rfl .i64 .i64 n2 (by omega) (by omega)
  rw [show (((n1 + 1 : Nat)) : Int) = (n1 : Int) + 1 by omega] at hmk1
  have HMK2 := Lib.hid hmk2
  clear hc0 r2 hf hmk2
  go_enter Try.func46, Try.ntmps46
  go_wp2_with fail
  have hi1 := IRow.made (w.alloc (.cells #[.slice A1 n1 c1, .slice A2 n2 c2, .slice A3 n3 c3] 51)) (n1 + 1) (by unfold maxLen; omega)
  rw [size_alloc] at hi1
  have kk0 := cell_below k0 (bl_alloc (Below.refl _ _) (.cells (madeCells #[.int .i64 0] (n1 + 1)) 3))
  have kk1 := cell_below k1 (bl_alloc (Below.refl _ _) (.cells (madeCells #[.int .i64 0] (n1 + 1)) 3))
  have hb1 : Below w.heap.size w ((w.alloc (.cells #[.slice A1 n1 c1, .slice A2 n2 c2, .slice A3 n3 c3] 51)).alloc (.cells (madeCells #[.int .i64 0] (n1 + 1)) 3)) := bl_alloc (bl_alloc (Below.refl _ _) _) _
  obtain ⟨W1, hW1⟩ : ∃ W1, W1 = (w.alloc (.cells #[.slice A1 n1 c1, .slice A2 n2 c2, .slice A3 n3 c3] 51)).alloc (.cells (madeCells #[.int .i64 0] (n1 + 1)) 3) := ⟨_, rfl⟩
  rw [← hW1] at hi1 kk0 kk1 hb1 ⊢
  have hz1 : W1.heap.size = w.heap.size + 2 := by rw [hW1, size_alloc, size_alloc]
  have KK0 := Lib.hid kk0
  have KK1 := Lib.hid kk1
  have HB1 := Lib.hid hb1
  have HI1 := Lib.hid hi1
  have HZ1 := Lib.hid hz1
  clear k0 k1 hW1 hmk1 kk0 kk1 hb1 hi1 hz1
  go_loopg [20] n2 (fun m v wr => ∃ (k : Nat) (L : List Int), m = n2 - k ∧ k ≤ n2 ∧ v = .int .i64 (k : Nat) ∧ Upd (fun b => b = w.heap.size + 1) W1 wr ∧ IRow wr (w.heap.size + 1) (n1 + 1) (n1 + 1) L ∧ P1 f n1 k L)
  case atStart => exact ⟨0, _, rfl, Nat.zero_le _, rfl, Upd.refl _ _, HI1.out, P1.start f n1⟩
  case round =>
    obtain ⟨k, L, hm, hk, rfl, hu, hi, hp⟩ := hrel
    have HM := Lib.hid hm
    have HU := Lib.hid hu
    have HI := Lib.hid hi
    have HP := Lib.hid hp
    clear hm hu hi hp
    have hbw : Below w.heap.size w wr := HB1.out.trans (HU.out.below (by rw [HZ1.out]; omega) fun b hb e => by omega)
    have HBW := Lib.hid hbw
    clear hbw
    by_cases hlt : k < n2
    · obtain ⟨b, o, rfl, hc⟩ := R2.out.cell (by omega)
      have hw01 := hc k hlt
      obtain ⟨hf1, hf2⟩ := HF.out k hlt
      have hsm := HP.out.small _ hf2
      obtain ⟨x, hx⟩ : ∃ x, x = es.getD k (0, 0, 0) := ⟨_, rfl⟩
      rw [← hx] at hw01 hf1
      obtain ⟨ef, et, ew⟩ := x
      obtain rfl : ef = (f k : Nat) := hf1
      obtain ⟨fk, hfk⟩ : ∃ fk, fk = f k := ⟨_, rfl⟩
      rw [← hfk] at hf2 hw01 hsm
      have HFK := Lib.hid hfk
      have hc0 := cell_below hw01.1 HBW.out
      have hc1 := cell_below hw01.2.1 HBW.out
      have hc2 := cell_below hw01.2.2 HBW.out
      clear hc hw01 hx hfk
      go_wp2_with fail
      refine (new1_any _ _ _ _).mono ?_
      rintro e w2 ⟨rfl, hb2⟩
      have hbw2 : Below wr.heap.size wr w2 := (bl_alloc (Below.refl _ _) _).trans (hb2.mono (by rw [size_alloc]; omega))
      have hi2 := HI.out.below hbw2
      have hu2 := HU.out.trans (Upd.of_below hbw2 (F := fun b => b = w.heap.size + 1)) (fun i _ h => h)
      have hcl := hi2.cell (i := fk + 1) (by omega)
      have hfr := hi2.fr (fk + 1)
      obtain ⟨y, hy⟩ : ∃ y, y = L.getD (fk + 1) 0 := ⟨_, rfl⟩
      rw [← hy] at hcl hsm
      have HI2 := Lib.hid hi2
      have HU2 := Lib.hid hu2
      have HY := Lib.hid hy
      clear hb2 hbw2 hi2 hu2 hc0 hc1 hc2 hy
      go_wp2_with fail
      go_roundg (n2 - (k + 1))
      case measure => have := HM.out; omega
      case rel =>
        refine ⟨k + 1, L.set (fk + 1) (y + 1), rfl, by omega, by go_num, upd_setCell HU2.out rfl _, ?_, ?_⟩
        · exact HI2.out.set _ _
        · rw [HY.out, HFK.out]; rw [HFK.out] at hf2; exact HP.out.step hf2
    · have hkn : k = n2 := by omega
      subst hkn
      have j0 := cell_upd KK0.out HU.out (by omega)
      have j1 := cell_upd KK1.out HU.out (by omega)
      have J0 := Lib.hid j0
      have J1 := Lib.hid j1
      have hp2 := P2.start HP.out
      have HP2 := Lib.hid hp2
      clear hlt hp2 HP HM
      go_wp2_with fail
      go_loopg [37] n1 (fun m v wq => ∃ (i : Nat) (L : List Int), m = n1 - i ∧ i ≤ n1 ∧ v = .int .i64 (i : Nat) ∧ Upd (fun b => b = w.heap.size + 1) W1 wq ∧ IRow wq (w.heap.size + 1) (n1 + 1) (n1 + 1) L ∧ P2 f n1 k i L)
      case atStart => exact ⟨0, L, rfl, Nat.zero_le _, rfl, HU.out, HI.out, HP2.out⟩
      case round =>
        obtain ⟨i, L2, hm, hi, rfl, hu, hir, hp⟩ := hrel
        have HM2 := Lib.hid hm
        have HUU := Lib.hid hu
        have HII := Lib.hid hir
        have HPP := Lib.hid hp
        clear hm hu hir hp HP2 HI HU
        by_cases hlt : i < n1
        · have hsm := HPP.out.small hlt
          have hcl := HII.out.cell (i := i + 1) (by omega)
          have hcl2 := HII.out.cell (i := i) (by omega)
          have hfr := HII.out.fr (i + 1)
          obtain ⟨y, hy⟩ : ∃ y, y = L2.getD (i + 1) 0 := ⟨_, rfl⟩
          obtain ⟨z, hz⟩ : ∃ z, z = L2.getD i 0 := ⟨_, rfl⟩
          rw [← hy, ← hz] at hsm
          rw [← hy] at hcl
          rw [← hz] at hcl2
          obtain ⟨⟨y0, y1⟩, z0, z1⟩ := hsm
          have HY := Lib.hid hy
          have HZ := Lib.hid hz
          have i0 : (0 : Int) ≤ (i : Int) := by omega
          have i1 : (i : Int) < (n1 : Int) + 1 := by omega
          have i2 : (0 : Int) ≤ (i : Int) + 1 := by omega
          have i3 : (i : Int) + 1 < (n1 : Int) + 1 := by omega
          clear hy hz
          go_wp2_with fail
          go_region
          go_wp2_with fail
          go_roundg (n1 - (i + 1))
          case measure => have := HM2.out; omega
          case rel =>
            refine ⟨i + 1, L2.set (i + 1) (y + z), rfl, by omega, by go_num, upd_drew (upd_setCell HUU.out rfl _), ?_, ?_⟩
            · exact (HII.out.set _ _).below (bl_drew (Below.refl _ _))
            · rw [HY.out, HZ.out]; exact HPP.out.step hlt
        · have hin : i = n1 := by omega
          subst hin
          have m1 := cell_upd KK1.out HUU.out (by omega)
          have hmk2 := HMK2.out
          have hwf := wf_P2 HPP.out h2
          have hia := HII.out.below (bl_alloc (Below.refl _ _) (.cells (madeCells #[.int .i64 0] k) 3))
          have hmade := IRow.made wr k (by unfold maxLen; omega)
          have hrd : ReadsI (wr.alloc (.cells (madeCells #[.int .i64 0] k) 3)) (some ⟨w.heap.size + 1, 0, none⟩) (i + 1) (i + 1) L2 := ReadsI.of_row hia (by unfold maxLen; omega) hwf
          have HRD := Lib.hid hrd
          have HIA := Lib.hid hia
          have HMD := Lib.hid hmade
          have M1 := Lib.hid m1
          have hb4 : Below w.heap.size w (wr.alloc (.cells (madeCells #[.int .i64 0] k) 3)) := bl_alloc (HB1.out.trans (HUU.out.below (by rw [HZ1.out]; omega) fun b hb e => by omega)) _
          have hge : w.heap.size + 2 ≤ wr.heap.size := by have := HUU.out.size; rw [HZ1.out] at this; exact this
          have HB4 := Lib.hid hb4
          clear hlt hwf hia hmade hrd HM2 hb4
          go_wp2_with fail
          refine (clone_int HRD.out (by omega)).mono ?_
          rintro e w3 ⟨A', cN, rfl, hown, hb3, hnil⟩
          obtain ⟨bN, rfl, hN1, hN2⟩ := own_at hown (by omega)
          rw [size_alloc] at hN1
          have hi3 : IRow w3 bN (i + 1) cN L2 := IRow.base hown
          have hx3 : IRow w3 (w.heap.size + 1) (i + 1) (i + 1) L2 := HIA.out.below hb3
          have hr3 : IRow w3 wr.heap.size k k (List.replicate k 0) := HMD.out.below hb3
          have m3 : w3.cell? ⟨w.heap.size, 1, none⟩ = some (#[Value.slice A1 i c1, .slice A2 k c2, .slice A3 n3 c3][1]) := cell_below M1.out ((bl_alloc (Below.refl _ _) _).trans (hb3.mono (by rw [size_alloc]; omega)))
          have hbw3 : Below w.heap.size w w3 := HB4.out.trans (hb3.mono HB4.out.size)
          obtain ⟨bR, hbR⟩ : ∃ bR, bR = wr.heap.size := ⟨_, rfl⟩
          rw [← hbR] at hN1 hr3 hge ⊢
          have HI3 := Lib.hid hi3
          have HX3 := Lib.hid hx3
          have HR3 := Lib.hid hr3
          have HB3 := Lib.hid hbw3
          have HN1 := Lib.hid hN1
          have HN2 := Lib.hid hN2
          have HGE := Lib.hid hge
          clear hown hb3 hnil hN1 hN2 hi3 hx3 hr3 hbw3 hge hbR HRD HIA HMD HB4 HUU HII M1 m1 hmk2 J0 J1 j0 j1 HMK2
          go_wp2_with fail
          go_loopg [61] k (fun m v wq => ∃ (q : Nat) (R X : List Int), m = k - q ∧ q ≤ k ∧ v = .int .i64 (q : Nat) ∧ Upd (fun b => b = bR ∨ b = bN) w3 wq ∧ IRow wq bR k k R ∧ IRow wq bN (i + 1) cN X ∧ P3 f i k q R X)
          case atStart => exact ⟨0, _, _, rfl, Nat.zero_le _, rfl, Upd.refl _ _, HR3.out, HI3.out, P3.start HPP.out⟩
          case round =>
            obtain ⟨q, R, X, hm, hq, rfl, hu, hr, hx, hp⟩ := hrel
            have HM3 := Lib.hid hm
            have HU3 := Lib.hid hu
            have HR4 := Lib.hid hr
            have HX4 := Lib.hid hx
            have HP4 := Lib.hid hp
            clear hm hu hr hx hp
            have hbq : Below w.heap.size w wr := HB3.out.trans (HU3.out.below HB3.out.size fun b hb e => by have := HN1.out; have := HGE.out; omega)
            have HBQ := Lib.hid hbq
            clear hbq
            by_cases hlt : q < k
            · obtain ⟨b, o, rfl, hc⟩ := R2.out.cell (by omega)
              have hw01 := hc q hlt
              obtain ⟨hf1, hf2⟩ := HF.out q hlt
              obtain ⟨hpl, hpm⟩ := HP4.out.place hlt hf2
              obtain ⟨x, hx⟩ : ∃ x, x = es.getD q (0, 0, 0) := ⟨_, rfl⟩
              rw [← hx] at hw01 hf1
              obtain ⟨ef, et, ew⟩ := x
              obtain rfl : ef = (f q : Nat) := hf1
              obtain ⟨pl, hpl2⟩ : ∃ pl, pl = pre f k (f q) + cnt f q (f q) := ⟨_, rfl⟩
              have hst := HP4.out.step hlt hf2
              rw [← hpl2] at hpl hpm hst
              have hxl := HX4.out.cell (i := f q) (by omega)
              rw [hpl] at hst hxl
              obtain ⟨fq, hfq⟩ : ∃ fq, fq = f q := ⟨_, rfl⟩
              rw [← hfq] at hf2 hw01 hst hxl
              have hc0 := cell_below hw01.1 HBQ.out
              have hc1 := cell_below hw01.2.1 HBQ.out
              have hc2 := cell_below hw01.2.2 HBQ.out
              have HXL := Lib.hid hxl
              have HST := Lib.hid hst
              have pq0 : (0 : Int) ≤ (pl : Int) := by omega
              have pq1 : (pl : Int) < (k : Int) := by omega
              have fq0 : (0 : Int) ≤ (fq : Int) := by omega
              have fq1 : (fq : Int) < (i : Int) + 1 := by omega
              have hpk : pl ≤ 512 := by omega
              clear hc hw01 hx hst hfq hpl2 hxl hpl hpm
              go_wp2_with fail
              refine (new1_any _ _ _ _).mono ?_
              rintro e w4 ⟨rfl, hb4⟩
              have hn4 := fun j v hv => cell_below (cell_three_new (w := wr) (x := .int .i64 fq) (y := .int .i64 et) (z := .int .i64 ew) (t := 63) j v hv) hb4
              have hbw4 : Below wr.heap.size wr w4 := (bl_alloc (Below.refl _ _) _).trans (hb4.mono (by rw [size_alloc]; omega))
              have hr4 := HR4.out.below hbw4
              have hx4 := HX4.out.below hbw4
              have hxl4 := cell_below HXL.out hbw4
              have hfr4 := hr4.fr pl
              have hne : bR ≠ wr.heap.size := by have := HR4.out.lt; omega
              have e0 := (World.cell?_setCell_far w4 ⟨bR, pl, none⟩ ⟨wr.heap.size, 0, none⟩ (.int .i64 q) hne).trans (hn4 0 _ rfl)
              have e1 := (World.cell?_setCell_far w4 ⟨bR, pl, none⟩ ⟨wr.heap.size, 1, none⟩ (.int .i64 q) hne).trans (hn4 1 _ rfl)
              have e2 := (World.cell?_setCell_far w4 ⟨bR, pl, none⟩ ⟨wr.heap.size, 2, none⟩ (.int .i64 q) hne).trans (hn4 2 _ rfl)
              have hcr := hr4.cell (i := pl) (by omega)
              have hrs := hr4.set pl (q : Nat)
              have hub4 := HU3.out.trans (Upd.of_below hbw4 (F := fun b => b = bR ∨ b = bN)) (fun i _ h => h)
              have hu4 := upd_setCell hub4 (a := ⟨bR, pl, none⟩) (Or.inl rfl) (.int .i64 q)
              have hbn : bN ≠ bR := by have := HN1.out; omega
              have hx5 := hx4.upd (upd_setCell (F := fun b => b = bR) (Upd.refl _ w4) (a := ⟨bR, pl, none⟩) rfl (.int .i64 q)) hbn
              have HRS := Lib.hid hrs
              have HU4 := Lib.hid hu4
              have HX5 := Lib.hid hx5
              have hxl5 := hx5.cell (i := fq) (by omega)
              have hxl4b := hxl4
              rw [hx4.cell (i := fq) (by omega)] at hxl4b
              rw [show X.getD fq 0 = (pl : Int) by injection hxl4b with h; injection h] at hxl5
              have HXL5 := Lib.hid hxl5
              have HHN := Lib.hid hn4
              clear hb4 hn4 hbw4 hr4 hx4 hne hrs hub4 hu4 hx5 hbn hc0 hc1 hc2 hxl5 hxl4b
              go_wp2_with fail
              refine (new1_any _ _ _ _).mono ?_
              rintro e w6 ⟨rfl, hb6⟩
              have hr6 := HRS.out.below hb6
              have hx6 := HX5.out.below hb6
              have hxl6 := cell_below HXL5.out hb6
              have hfr6 := hx6.fr fq
              have hu6 := HU4.out.trans (Upd.of_below hb6 (F := fun b => b = bR ∨ b = bN)) (fun i _ h => h)
              have HR6 := Lib.hid hr6
              have HX6 := Lib.hid hx6
              have HU6 := Lib.hid hu6
              clear hb6 hr6 hx6 hu6 e0 e1 e2 hcr hxl4 hfr4
              go_wp2_with fail
              go_roundg (k - (q + 1))
              case measure => have := HM3.out; omega
              case rel =>
                refine ⟨q + 1, R.set pl (q : Nat), X.set fq ((pl : Int) + 1), rfl, by omega, by go_num, upd_setCell HU6.out (Or.inr rfl) _, ?_, HX6.out.set _ _, HST.out⟩
                exact HR6.out.upd (upd_setCell (F := fun b => b = bN) (Upd.refl _ w6) (a := ⟨bN, fq, none⟩) rfl _) (by have := HN1.out; omega)
            · have hqn : q = k := by omega
              subst hqn
              have hxf := HX3.out.upd HU3.out (by have := HN1.out; have := HGE.out; omega)
              have HXF := Lib.hid hxf
              have hso : Sorted f i q R L2 := Sorted.of HP4.out HPP.out
              have HSO := Lib.hid hso
              clear hxf hso
              go_wp2_with fail
              go_ret2
              exact ⟨R, L2, bR, w.heap.size + 1, i + 1, rfl, HR4.out, HXF.out, by have := HGE.out; omega, by omega, by have := HGE.out; omega, HSO.out, HBQ.out⟩
set_option maxRecDepth 100000 in
set_option maxHeartbeats 16000000 in
theorem rows_to {A1 A2 A3 : Option Addr} {n1 c1 n2 c2 n3 c3 : Nat} {es : List (Int × Int × Int)} {w : World} (h1 : n1 ≤ 256) (h2 : n2 ≤ 512)
    (r2 : ReadsT w A2 n2 c2 es) {f : Nat → Nat} (hf : ∀ i, i < n2 → (es.getD i (0, 0, 0)).2.1 = (f i : Nat) ∧ f i < n1) :
    Calls Try.prog 46 #[.agg #[.slice A1 n1 c1, .slice A2 n2 c2, .slice A3 n3 c3], .func (.func 48) #[] #[]] w fun e w' =>
      ∃ R X bR bX cX, e = .returned (.tuple #[.slice (some ⟨bR, 0, none⟩) n2 n2, .slice (some ⟨bX, 0, none⟩) (n1 + 1) cX]) ∧ IRow w' bR n2 n2 R ∧ IRow w' bX (n1 + 1) cX X ∧ w.heap.size ≤ bR ∧ w.heap.size ≤ bX ∧ bR ≠ bX ∧ Sorted f n1 n2 R X ∧ Below w.heap.size w w' := by
  have hc0 : ∀ j v, (#[Value.slice A1 n1 c1, .slice A2 n2 c2, .slice A3 n3 c3] : Array Value)[j]? = some v → (w.alloc (.cells #[.slice A1 n1 c1, .slice A2 n2 c2, .slice A3 n3 c3] 51)).cell? ⟨w.heap.size, j, none⟩ = some v := by
    intro j v hv
    have : (w.alloc (.cells #[.slice A1 n1 c1, .slice A2 n2 c2, .slice A3 n3 c3] 51)).heap[w.heap.size]? = some (.cells #[.slice A1 n1 c1, .slice A2 n2 c2, .slice A3 n3 c3] 51) := by show (w.heap.push _)[w.heap.size]? = _; simp
    unfold World.cell?; simp only [this]; exact hv
  have k0 := hc0 0 _ rfl
  have k1 := hc0 1 _ rfl
  have R2 := Lib.hid r2
  have HF := Lib.hid hf
  have hmk1 := run_make_row' (P := Try.prog) 71 3 (.int .i64 0) 8 Try.underlying71 infoInt rfl .i64 .i64 (n1 + 1) (by omega) (by omega)
  have hmk2 := run_make_row' (P := Try.prog) 71 3 (.int .i64 0) 8 Try.underlying71 infoInt rfl .i64 .i64 n2 (by omega) (by omega)
  rw [show (((n1 + 1 : Nat)) : Int) = (n1 : Int) + 1 by omega] at hmk1
  have HMK2 := Lib.hid hmk2
  clear hc0 r2 hf hmk2
  go_enter Try.func46, Try.ntmps46
  go_wp2_with fail
  have hi1 := IRow.made (w.alloc (.cells #[.slice A1 n1 c1, .slice A2 n2 c2, .slice A3 n3 c3] 51)) (n1 + 1) (by unfold maxLen; omega)
  rw [size_alloc] at hi1
  have kk0 := cell_below k0 (bl_alloc (Below.refl _ _) (.cells (madeCells #[.int .i64 0] (n1 + 1)) 3))
  have kk1 := cell_below k1 (bl_alloc (Below.refl _ _) (.cells (madeCells #[.int .i64 0] (n1 + 1)) 3))
  have hb1 : Below w.heap.size w ((w.alloc (.cells #[.slice A1 n1 c1, .slice A2 n2 c2, .slice A3 n3 c3] 51)).alloc (.cells (madeCells #[.int .i64 0] (n1 + 1)) 3)) := bl_alloc (bl_alloc (Below.refl _ _) _) _
  obtain ⟨W1, hW1⟩ : ∃ W1, W1 = (w.alloc (.cells #[.slice A1 n1 c1, .slice A2 n2 c2, .slice A3 n3 c3] 51)).alloc (.cells (madeCells #[.int .i64 0] (n1 + 1)) 3) := ⟨_, rfl⟩
  rw [← hW1] at hi1 kk0 kk1 hb1 ⊢
  have hz1 : W1.heap.size = w.heap.size + 2 := by rw [hW1, size_alloc, size_alloc]
  have KK0 := Lib.hid kk0
  have KK1 := Lib.hid kk1
  have HB1 := Lib.hid hb1
  have HI1 := Lib.hid hi1
  have HZ1 := Lib.hid hz1
  clear k0 k1 hW1 hmk1 kk0 kk1 hb1 hi1 hz1
  go_loopg [20] n2 (fun m v wr => ∃ (k : Nat) (L : List Int), m = n2 - k ∧ k ≤ n2 ∧ v = .int .i64 (k : Nat) ∧ Upd (fun b => b = w.heap.size + 1) W1 wr ∧ IRow wr (w.heap.size + 1) (n1 + 1) (n1 + 1) L ∧ P1 f n1 k L)
  case atStart => exact ⟨0, _, rfl, Nat.zero_le _, rfl, Upd.refl _ _, HI1.out, P1.start f n1⟩
  case round =>
    obtain ⟨k, L, hm, hk, rfl, hu, hi, hp⟩ := hrel
    have HM := Lib.hid hm
    have HU := Lib.hid hu
    have HI := Lib.hid hi
    have HP := Lib.hid hp
    clear hm hu hi hp
    have hbw : Below w.heap.size w wr := HB1.out.trans (HU.out.below (by rw [HZ1.out]; omega) fun b hb e => by omega)
    have HBW := Lib.hid hbw
    clear hbw
    by_cases hlt : k < n2
    · obtain ⟨b, o, rfl, hc⟩ := R2.out.cell (by omega)
      have hw01 := hc k hlt
      obtain ⟨hf1, hf2⟩ := HF.out k hlt
      have hsm := HP.out.small _ hf2
      obtain ⟨x, hx⟩ : ∃ x, x = es.getD k (0, 0, 0) := ⟨_, rfl⟩
      rw [← hx] at hw01 hf1
      obtain ⟨ef, et, ew⟩ := x
      obtain rfl : et = (f k : Nat) := hf1
      obtain ⟨fk, hfk⟩ : ∃ fk, fk = f k := ⟨_, rfl⟩
      rw [← hfk] at hf2 hw01 hsm
      have HFK := Lib.hid hfk
      have hc0 := cell_below hw01.1 HBW.out
      have hc1 := cell_below hw01.2.1 HBW.out
      have hc2 := cell_below hw01.2.2 HBW.out
      clear hc hw01 hx hfk
      go_wp2_with fail
      refine (new2_any _ _ _ _).mono ?_
      rintro e w2 ⟨rfl, hb2⟩
      have hbw2 : Below wr.heap.size wr w2 := (bl_alloc (Below.refl _ _) _).trans (hb2.mono (by rw [size_alloc]; omega))
      have hi2 := HI.out.below hbw2
      have hu2 := HU.out.trans (Upd.of_below hbw2 (F := fun b => b = w.heap.size + 1)) (fun i _ h => h)
      have hcl := hi2.cell (i := fk + 1) (by omega)
      have hfr := hi2.fr (fk + 1)
      obtain ⟨y, hy⟩ : ∃ y, y = L.getD (fk + 1) 0 := ⟨_, rfl⟩
      rw [← hy] at hcl hsm
      have HI2 := Lib.hid hi2
      have HU2 := Lib.hid hu2
      have HY := Lib.hid hy
      clear hb2 hbw2 hi2 hu2 hc0 hc1 hc2 hy
      go_wp2_with fail
      go_roundg (n2 - (k + 1))
      case measure => have := HM.out; omega
      case rel =>
        refine ⟨k + 1, L.set (fk + 1) (y + 1), rfl, by omega, by go_num, upd_setCell HU2.out rfl _, ?_, ?_⟩
        · exact HI2.out.set _ _
        · rw [HY.out, HFK.out]; rw [HFK.out] at hf2; exact HP.out.step hf2
    · have hkn : k = n2 := by omega
      subst hkn
      have j0 := cell_upd KK0.out HU.out (by omega)
      have j1 := cell_upd KK1.out HU.out (by omega)
      have J0 := Lib.hid j0
      have J1 := Lib.hid j1
      have hp2 := P2.start HP.out
      have HP2 := Lib.hid hp2
      clear hlt hp2 HP HM
      go_wp2_with fail
      go_loopg [37] n1 (fun m v wq => ∃ (i : Nat) (L : List Int), m = n1 - i ∧ i ≤ n1 ∧ v = .int .i64 (i : Nat) ∧ Upd (fun b => b = w.heap.size + 1) W1 wq ∧ IRow wq (w.heap.size + 1) (n1 + 1) (n1 + 1) L ∧ P2 f n1 k i L)
      case atStart => exact ⟨0, L, rfl, Nat.zero_le _, rfl, HU.out, HI.out, HP2.out⟩
      case round =>
        obtain ⟨i, L2, hm, hi, rfl, hu, hir, hp⟩ := hrel
        have HM2 := Lib.hid hm
        have HUU := Lib.hid hu
        have HII := Lib.hid hir
        have HPP := Lib.hid hp
        clear hm hu hir hp HP2 HI HU
        by_cases hlt : i < n1
        · have hsm := HPP.out.small hlt
          have hcl := HII.out.cell (i := i + 1) (by omega)
          have hcl2 := HII.out.cell (i := i) (by omega)
          have hfr := HII.out.fr (i + 1)
          obtain ⟨y, hy⟩ : ∃ y, y = L2.getD (i + 1) 0 := ⟨_, rfl⟩
          obtain ⟨z, hz⟩ : ∃ z, z = L2.getD i 0 := ⟨_, rfl⟩
          rw [← hy, ← hz] at hsm
          rw [← hy] at hcl
          rw [← hz] at hcl2
          obtain ⟨⟨y0, y1⟩, z0, z1⟩ := hsm
          have HY := Lib.hid hy
          have HZ := Lib.hid hz
          have i0 : (0 : Int) ≤ (i : Int) := by omega
          have i1 : (i : Int) < (n1 : Int) + 1 := by omega
          have i2 : (0 : Int) ≤ (i : Int) + 1 := by omega
          have i3 : (i : Int) + 1 < (n1 : Int) + 1 := by omega
          clear hy hz
          go_wp2_with fail
          go_region
          go_wp2_with fail
          go_roundg (n1 - (i + 1))
          case measure => have := HM2.out; omega
          case rel =>
            refine ⟨i + 1, L2.set (i + 1) (y + z), rfl, by omega, by go_num, upd_drew (upd_setCell HUU.out rfl _), ?_, ?_⟩
            · exact (HII.out.set _ _).below (bl_drew (Below.refl _ _))
            · rw [HY.out, HZ.out]; exact HPP.out.step hlt
        · have hin : i = n1 := by omega
          subst hin
          have m1 := cell_upd KK1.out HUU.out (by omega)
          have hmk2 := HMK2.out
          have hwf := wf_P2 HPP.out h2
          have hia := HII.out.below (bl_alloc (Below.refl _ _) (.cells (madeCells #[.int .i64 0] k) 3))
          have hmade := IRow.made wr k (by unfold maxLen; omega)
          have hrd : ReadsI (wr.alloc (.cells (madeCells #[.int .i64 0] k) 3)) (some ⟨w.heap.size + 1, 0, none⟩) (i + 1) (i + 1) L2 := ReadsI.of_row hia (by unfold maxLen; omega) hwf
          have HRD := Lib.hid hrd
          have HIA := Lib.hid hia
          have HMD := Lib.hid hmade
          have M1 := Lib.hid m1
          have hb4 : Below w.heap.size w (wr.alloc (.cells (madeCells #[.int .i64 0] k) 3)) := bl_alloc (HB1.out.trans (HUU.out.below (by rw [HZ1.out]; omega) fun b hb e => by omega)) _
          have hge : w.heap.size + 2 ≤ wr.heap.size := by have := HUU.out.size; rw [HZ1.out] at this; exact this
          have HB4 := Lib.hid hb4
          clear hlt hwf hia hmade hrd HM2 hb4
          go_wp2_with fail
          refine (clone_int HRD.out (by omega)).mono ?_
          rintro e w3 ⟨A', cN, rfl, hown, hb3, hnil⟩
          obtain ⟨bN, rfl, hN1, hN2⟩ := own_at hown (by omega)
          rw [size_alloc] at hN1
          have hi3 : IRow w3 bN (i + 1) cN L2 := IRow.base hown
          have hx3 : IRow w3 (w.heap.size + 1) (i + 1) (i + 1) L2 := HIA.out.below hb3
          have hr3 : IRow w3 wr.heap.size k k (List.replicate k 0) := HMD.out.below hb3
          have m3 : w3.cell? ⟨w.heap.size, 1, none⟩ = some (#[Value.slice A1 i c1, .slice A2 k c2, .slice A3 n3 c3][1]) := cell_below M1.out ((bl_alloc (Below.refl _ _) _).trans (hb3.mono (by rw [size_alloc]; omega)))
          have hbw3 : Below w.heap.size w w3 := HB4.out.trans (hb3.mono HB4.out.size)
          obtain ⟨bR, hbR⟩ : ∃ bR, bR = wr.heap.size := ⟨_, rfl⟩
          rw [← hbR] at hN1 hr3 hge ⊢
          have HI3 := Lib.hid hi3
          have HX3 := Lib.hid hx3
          have HR3 := Lib.hid hr3
          have HB3 := Lib.hid hbw3
          have HN1 := Lib.hid hN1
          have HN2 := Lib.hid hN2
          have HGE := Lib.hid hge
          clear hown hb3 hnil hN1 hN2 hi3 hx3 hr3 hbw3 hge hbR HRD HIA HMD HB4 HUU HII M1 m1 hmk2 J0 J1 j0 j1 HMK2
          go_wp2_with fail
          go_loopg [61] k (fun m v wq => ∃ (q : Nat) (R X : List Int), m = k - q ∧ q ≤ k ∧ v = .int .i64 (q : Nat) ∧ Upd (fun b => b = bR ∨ b = bN) w3 wq ∧ IRow wq bR k k R ∧ IRow wq bN (i + 1) cN X ∧ P3 f i k q R X)
          case atStart => exact ⟨0, _, _, rfl, Nat.zero_le _, rfl, Upd.refl _ _, HR3.out, HI3.out, P3.start HPP.out⟩
          case round =>
            obtain ⟨q, R, X, hm, hq, rfl, hu, hr, hx, hp⟩ := hrel
            have HM3 := Lib.hid hm
            have HU3 := Lib.hid hu
            have HR4 := Lib.hid hr
            have HX4 := Lib.hid hx
            have HP4 := Lib.hid hp
            clear hm hu hr hx hp
            have hbq : Below w.heap.size w wr := HB3.out.trans (HU3.out.below HB3.out.size fun b hb e => by have := HN1.out; have := HGE.out; omega)
            have HBQ := Lib.hid hbq
            clear hbq
            by_cases hlt : q < k
            · obtain ⟨b, o, rfl, hc⟩ := R2.out.cell (by omega)
              have hw01 := hc q hlt
              obtain ⟨hf1, hf2⟩ := HF.out q hlt
              obtain ⟨hpl, hpm⟩ := HP4.out.place hlt hf2
              obtain ⟨x, hx⟩ : ∃ x, x = es.getD q (0, 0, 0) := ⟨_, rfl⟩
              rw [← hx] at hw01 hf1
              obtain ⟨ef, et, ew⟩ := x
              obtain rfl : et = (f q : Nat) := hf1
              obtain ⟨pl, hpl2⟩ : ∃ pl, pl = pre f k (f q) + cnt f q (f q) := ⟨_, rfl⟩
              have hst := HP4.out.step hlt hf2
              rw [← hpl2] at hpl hpm hst
              have hxl := HX4.out.cell (i := f q) (by omega)
              rw [hpl] at hst hxl
              obtain ⟨fq, hfq⟩ : ∃ fq, fq = f q := ⟨_, rfl⟩
              rw [← hfq] at hf2 hw01 hst hxl
              have hc0 := cell_below hw01.1 HBQ.out
              have hc1 := cell_below hw01.2.1 HBQ.out
              have hc2 := cell_below hw01.2.2 HBQ.out
              have HXL := Lib.hid hxl
              have HST := Lib.hid hst
              have pq0 : (0 : Int) ≤ (pl : Int) := by omega
              have pq1 : (pl : Int) < (k : Int) := by omega
              have fq0 : (0 : Int) ≤ (fq : Int) := by omega
              have fq1 : (fq : Int) < (i : Int) + 1 := by omega
              have hpk : pl ≤ 512 := by omega
              clear hc hw01 hx hst hfq hpl2 hxl hpl hpm
              go_wp2_with fail
              refine (new2_any _ _ _ _).mono ?_
              rintro e w4 ⟨rfl, hb4⟩
              have hn4 := fun j v hv => cell_below (cell_three_new (w := wr) (x := .int .i64 ef) (y := .int .i64 fq) (z := .int .i64 ew) (t := 63) j v hv) hb4
              have hbw4 : Below wr.heap.size wr w4 := (bl_alloc (Below.refl _ _) _).trans (hb4.mono (by rw [size_alloc]; omega))
              have hr4 := HR4.out.below hbw4
              have hx4 := HX4.out.below hbw4
              have hxl4 := cell_below HXL.out hbw4
              have hfr4 := hr4.fr pl
              have hne : bR ≠ wr.heap.size := by have := HR4.out.lt; omega
              have e0 := (World.cell?_setCell_far w4 ⟨bR, pl, none⟩ ⟨wr.heap.size, 0, none⟩ (.int .i64 q) hne).trans (hn4 0 _ rfl)
              have e1 := (World.cell?_setCell_far w4 ⟨bR, pl, none⟩ ⟨wr.heap.size, 1, none⟩ (.int .i64 q) hne).trans (hn4 1 _ rfl)
              have e2 := (World.cell?_setCell_far w4 ⟨bR, pl, none⟩ ⟨wr.heap.size, 2, none⟩ (.int .i64 q) hne).trans (hn4 2 _ rfl)
              have hcr := hr4.cell (i := pl) (by omega)
              have hrs := hr4.set pl (q : Nat)
              have hub4 := HU3.out.trans (Upd.of_below hbw4 (F := fun b => b = bR ∨ b = bN)) (fun i _ h => h)
              have hu4 := upd_setCell hub4 (a := ⟨bR, pl, none⟩) (Or.inl rfl) (.int .i64 q)
              have hbn : bN ≠ bR := by have := HN1.out; omega
              have hx5 := hx4.upd (upd_setCell (F := fun b => b = bR) (Upd.refl _ w4) (a := ⟨bR, pl, none⟩) rfl (.int .i64 q)) hbn
              have HRS := Lib.hid hrs
              have HU4 := Lib.hid hu4
              have HX5 := Lib.hid hx5
              have hxl5 := hx5.cell (i := fq) (by omega)
              have hxl4b := hxl4
              rw [hx4.cell (i := fq) (by omega)] at hxl4b
              rw [show X.getD fq 0 = (pl : Int) by injection hxl4b with h; injection h] at hxl5
              have HXL5 := Lib.hid hxl5
              have HHN := Lib.hid hn4
              clear hb4 hn4 hbw4 hr4 hx4 hne hrs hub4 hu4 hx5 hbn hc0 hc1 hc2 hxl5 hxl4b
              go_wp2_with fail
              refine (new2_any _ _ _ _).mono ?_
              rintro e w6 ⟨rfl, hb6⟩
              have hr6 := HRS.out.below hb6
              have hx6 := HX5.out.below hb6
              have hxl6 := cell_below HXL5.out hb6
              have hfr6 := hx6.fr fq
              have hu6 := HU4.out.trans (Upd.of_below hb6 (F := fun b => b = bR ∨ b = bN)) (fun i _ h => h)
              have HR6 := Lib.hid hr6
              have HX6 := Lib.hid hx6
              have HU6 := Lib.hid hu6
              clear hb6 hr6 hx6 hu6 e0 e1 e2 hcr hxl4 hfr4
              go_wp2_with fail
              go_roundg (k - (q + 1))
              case measure => have := HM3.out; omega
              case rel =>
                refine ⟨q + 1, R.set pl (q : Nat), X.set fq ((pl : Int) + 1), rfl, by omega, by go_num, upd_setCell HU6.out (Or.inr rfl) _, ?_, HX6.out.set _ _, HST.out⟩
                exact HR6.out.upd (upd_setCell (F := fun b => b = bN) (Upd.refl _ w6) (a := ⟨bN, fq, none⟩) rfl _) (by have := HN1.out; omega)
            · have hqn : q = k := by omega
              subst hqn
              have hxf := HX3.out.upd HU3.out (by have := HN1.out; have := HGE.out; omega)
              have HXF := Lib.hid hxf
              have hso : Sorted f i q R L2 := Sorted.of HP4.out HPP.out
              have HSO := Lib.hid hso
              clear hxf hso
              go_wp2_with fail
              go_ret2
              exact ⟨R, L2, bR, w.heap.size + 1, i + 1, rfl, HR4.out, HXF.out, by have := HGE.out; omega, by omega, by have := HGE.out; omega, HSO.out, HBQ.out⟩
end Go.Proofs.Ytkdpfbefdhjmcaa
