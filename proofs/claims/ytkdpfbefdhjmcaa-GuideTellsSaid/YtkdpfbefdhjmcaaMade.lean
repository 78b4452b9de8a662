/- A town, and its turns, as the laws make them. -/
import Derived.Test.YtkdpfbefdhjmcaaTurnsNew
import Derived.Test.YtkdpfbefdhjmcaaTurn4
import Derived.Test.YtkdpfbefdhjmcaaTownUse
import Derived.Test.YtkdpfbefdhjmcaaGraphNew
import Derived.Deep.RegionHeld3
set_option linter.unusedVariables false
set_option linter.unusedSimpArgs false
namespace Go.Proofs.Ytkdpfbefdhjmcaa
open Go.ChangeShapes Go.WideShapes Go.ChangeAt Go.RowKit
/-- what the laws' 'made' leaves: a graph that reads, its turns, all of it new -/
structure MadeR (w w' : World) (A1 A2 A3 : Option Addr) (c1 c2 c3 B t p : Nat) (ns : List (Int × Int)) (es : List (Int × Int × Int)) (bs : List (Int × Int)) : Prop where
  g : GR w' A1 A2 A3 ns.length es.length bs.length c1 c2 c3 ns es bs
  t : TurnsAt w' B w'.heap.size t p ns es bs
  lo : w.heap.size ≤ B
  below : Below w.heap.size w w'
set_option maxRecDepth 100000 in
set_option maxHeartbeats 8000000 in
theorem made21 {A : Option Addr} {n c : Nat} {xs : List Int} {w : World} (hk : ReadsI w A n c xs) :
    Calls Try.prog 29 #[.slice A n c] w fun e w' => ∃ A1 A2 A3 c1 c2 c3 B t p, e = .returned (.tuple #[.agg #[.slice A1 (townN xs).length c1, .slice A2 (townE xs).length c2, .slice A3 (townB xs).length c3], .pointer (some ⟨t, 0, none⟩)]) ∧
      MadeR w w' A1 A2 A3 c1 c2 c3 B t p (townN xs) (townE xs) (townB xs) := by
  have HOK := Lib.hid (town_good xs)
  have hb0 : Below w.heap.size w (w.alloc (.cells #[.slice none 0 0, .slice none 0 0, .slice none 0 0] 51)) := bl_alloc (Below.refl _ _) _
  have htc := town_call (hk.below hb0)
  obtain ⟨ns, hns⟩ : ∃ ns, ns = townN xs := ⟨_, rfl⟩
  obtain ⟨es, hes⟩ : ∃ es, es = townE xs := ⟨_, rfl⟩
  obtain ⟨bs, hbs⟩ : ∃ bs, bs = townB xs := ⟨_, rfl⟩
  rw [← hns, ← hes, ← hbs] at HOK htc ⊢
  have HTC := Lib.hid htc
  have hz0 : (w.alloc (.cells #[.slice none 0 0, .slice none 0 0, .slice none 0 0] 51)).heap[w.heap.size]? = some (.cells #[.slice none 0 0, .slice none 0 0, .slice none 0 0] 51) := heap_alloc_new w _
  have HB0 := Lib.hid hb0
  have HZ0 := Lib.hid hz0
  clear hns hes hbs htc hb0 hz0 hk
  go_enter Try.func29, Try.ntmps29
  go_wp2_with fail
  refine HTC.out.mono ?_
  rintro e w1 ⟨A1, A2, A3, c1, c2, c3, rfl, hT⟩
  have kk := fun j v hv => cell_three_new (w := w1) (x := .slice A1 ns.length c1) (y := .slice A2 es.length c2) (z := .slice A3 bs.length c3) (t := 51) j v hv
  have k0 := kk 0 _ rfl
  have k1 := kk 1 _ rfl
  have k2 := kk 2 _ rfl
  have hb2 : Below w1.heap.size w1 (w1.alloc (.cells #[.slice A1 ns.length c1, .slice A2 es.length c2, .slice A3 bs.length c3] 51)) := bl_alloc (Below.refl _ _) _
  have HNEW := Lib.hid (new_ok (hT.rN.below hb2) (hT.rE.below hb2) (hT.rB.below hb2) HOK.out)
  have HT := Lib.hid hT
  have KK := Lib.hid kk
  have HB2 := Lib.hid hb2
  have hlt0 : w.heap.size < w1.heap.size := by have := hT.below.size; rw [size_alloc] at this; omega
  clear hT kk hb2
  go_wp2_with fail
  refine HNEW.out.mono ?_
  rintro e w4 ⟨p, rfl, hG, hb4⟩
  have l0 : w4.cell? ⟨w1.heap.size, 0, none⟩ = some (.slice A1 ns.length c1) := cell_below (KK.out 0 _ rfl) hb4
  have l1 : w4.cell? ⟨w1.heap.size, 1, none⟩ = some (.slice A2 es.length c2) := cell_below (KK.out 1 _ rfl) hb4
  have l2 : w4.cell? ⟨w1.heap.size, 2, none⟩ = some (.slice A3 bs.length c3) := cell_below (KK.out 2 _ rfl) hb4
  have hb14 : Below w1.heap.size w1 w4 := HB2.out.trans (hb4.mono HB2.out.size)
  have HG := Lib.hid hG
  have HRN := Lib.hid (HT.out.rN.below hb14)
  have HRE := Lib.hid (HT.out.rE.below hb14)
  have HRB := Lib.hid (HT.out.rB.below hb14)
  have hb04 : Below (w.alloc (.cells #[.slice none 0 0, .slice none 0 0, .slice none 0 0] 51)).heap.size (w.alloc (.cells #[.slice none 0 0, .slice none 0 0, .slice none 0 0] 51)) w4 := bl_then HT.out.below hb14
  have HB04 := Lib.hid hb04
  have HS : Hid (∀ w', Below w4.heap.size w4 w' → w'.cell? ⟨w1.heap.size, 0, none⟩ = some (.slice A1 ns.length c1) ∧ w'.cell? ⟨w1.heap.size, 1, none⟩ = some (.slice A2 es.length c2) ∧ w'.cell? ⟨w1.heap.size, 2, none⟩ = some (.slice A3 bs.length c3)) := Lib.hid fun w' h => ⟨cell_below l0 h, cell_below l1 h, cell_below l2 h⟩
  have K0 : Hid (Below w4.heap.size w4 w4.drew) := Lib.hid (bl_drew (Below.refl _ _))
  have hne : w.heap.size ≠ w1.heap.size := by omega
  have hz4 : w4.heap.size > w.heap.size := by have := hb14.size; omega
  clear hG hb4 l0 l1 l2 hb14 k0 k1 k2 KK HNEW HTC hb04
  go_wp2_with fail
  go_region_held3 (fun w' => w'.cell? ⟨w1.heap.size, 0, none⟩ = some (.slice A1 ns.length c1) ∧ w'.cell? ⟨w1.heap.size, 1, none⟩ = some (.slice A2 es.length c2) ∧ w'.cell? ⟨w1.heap.size, 2, none⟩ = some (.slice A3 bs.length c3))
    (first | exact HS.out _ K0.out | exact HS.out _ K1.out | exact HSZ.out)
    (first
      | (go_at_call 54
         refine (turns_new (HG.out.below K0.out)).mono ?_
         rintro e w5 ⟨t, rfl, ht, hb⟩
         have K1 : Hid (Below w4.heap.size w4 w5) := Lib.hid (bl_then K0.out hb)
         have HTU := Lib.hid ht
         have hr : w5.heap[w.heap.size]? = some (.cells #[.slice none 0 0, .slice none 0 0, .slice none 0 0] 51) := ((bl_then HB04.out K1.out).block w.heap.size (by rw [size_alloc]; omega)).trans HZ0.out
         have r0 := block_cell hr (j := 0) rfl
         have r1 := block_cell hr (j := 1) rfl
         have r2 := block_cell hr (j := 2) rfl
         have f0 := block_fr hr 0
         have f1 := block_fr hr 1
         have f2 := block_fr hr 2
         have hu : Upd (fun b => b = w.heap.size) w5 (((w5.setCell ⟨w.heap.size, 0, none⟩ (.slice A1 ns.length c1)).setCell ⟨w.heap.size, 1, none⟩ (.slice A2 es.length c2)).setCell ⟨w.heap.size, 2, none⟩ (.slice A3 bs.length c3)) := upd_setCell (F := fun b => b = w.heap.size) (a := ⟨w.heap.size, 2, none⟩) (upd_setCell (F := fun b => b = w.heap.size) (a := ⟨w.heap.size, 1, none⟩) (upd_setCell (F := fun b => b = w.heap.size) (a := ⟨w.heap.size, 0, none⟩) (Upd.refl _ _) rfl _) rfl _) rfl _
         have HSZ := Lib.hid (And.intro (cell_upd (HS.out _ K1.out).1 hu hne.symm) (And.intro (cell_upd (HS.out _ K1.out).2.1 hu hne.symm) (cell_upd (HS.out _ K1.out).2.2 hu hne.symm)))
         have HR5 := Lib.hid (block_set (block_set (block_set hr 0 (.slice A1 ns.length c1)) 1 (.slice A2 es.length c2)) 2 (.slice A3 bs.length c3))
         have HU := Lib.hid hu
         clear hb ht hr hu))
  all_goals
    clear r0 r1 r2 f0 f1 f2
    have q0 : (((w5.setCell ⟨w.heap.size, 0, none⟩ (.slice A1 ns.length c1)).setCell ⟨w.heap.size, 1, none⟩ (.slice A2 es.length c2)).setCell ⟨w.heap.size, 2, none⟩ (.slice A3 bs.length c3)).cell? ⟨w.heap.size, 0, none⟩ = some (.slice A1 ns.length c1) := block_cell HR5.out (j := 0) rfl
    have q1 : (((w5.setCell ⟨w.heap.size, 0, none⟩ (.slice A1 ns.length c1)).setCell ⟨w.heap.size, 1, none⟩ (.slice A2 es.length c2)).setCell ⟨w.heap.size, 2, none⟩ (.slice A3 bs.length c3)).cell? ⟨w.heap.size, 1, none⟩ = some (.slice A2 es.length c2) := block_cell HR5.out (j := 1) rfl
    have q2 : (((w5.setCell ⟨w.heap.size, 0, none⟩ (.slice A1 ns.length c1)).setCell ⟨w.heap.size, 1, none⟩ (.slice A2 es.length c2)).setCell ⟨w.heap.size, 2, none⟩ (.slice A3 bs.length c3)).cell? ⟨w.heap.size, 2, none⟩ = some (.slice A3 bs.length c3) := block_cell HR5.out (j := 2) rfl
    go_wp2_with fail
    have hz5 : (((w5.setCell ⟨w.heap.size, 0, none⟩ (.slice A1 ns.length c1)).setCell ⟨w.heap.size, 1, none⟩ (.slice A2 es.length c2)).setCell ⟨w.heap.size, 2, none⟩ (.slice A3 bs.length c3)).heap.size = w5.heap.size := by rw [size_setCell, size_setCell, size_setCell]
    refine bodyPost_ret (v := .tuple #[.agg #[.slice A1 ns.length c1, .slice A2 es.length c2, .slice A3 bs.length c3], .pointer (some ⟨t, 0, none⟩)]) (by simp [results, Try.results29, go_sem, q0, q1, q2]) rfl ?_
    have hB : w.heap.size < (w1.alloc (.cells #[.slice A1 ns.length c1, .slice A2 es.length c2, .slice A3 bs.length c3] 51)).heap.size := by rw [size_alloc]; omega
    refine ⟨A1, A2, A3, c1, c2, c3, _, t, p, rfl, ⟨⟨(HRN.out.below K1.out).upd HU.out ?_, (HRE.out.below K1.out).upd HU.out ?_, (HRB.out.below K1.out).upd HU.out ?_⟩, ?_, Nat.le_of_lt hB, ?_⟩⟩
    · intro b o e e2; have := (HT.out.nw b o (.inl e)).1; rw [size_alloc] at this; omega
    · intro b o e e2; have := (HT.out.nw b o (.inr (.inl e))).1; rw [size_alloc] at this; omega
    · intro b o e e2; have := (HT.out.nw b o (.inr (.inr e))).1; rw [size_alloc] at this; omega
    · rw [hz5]; exact HTU.out.upd HU.out fun b hb _ e => by omega
    · exact (HB0.out.trans ((bl_then HB04.out K1.out).mono HB0.out.size)).trans (HU.out.below (by have := K1.out.size; omega) fun k hk e => by omega)
end Go.Proofs.Ytkdpfbefdhjmcaa
