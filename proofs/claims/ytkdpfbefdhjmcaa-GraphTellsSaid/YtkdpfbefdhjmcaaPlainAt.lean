/- graph.Plain: what a graph was made of, in rows of its own. -/
import Derived.Test.YtkdpfbefdhjmcaaAccess
import Derived.Deep.RegionHeld3
set_option linter.unusedVariables false
set_option linter.unusedSimpArgs false
namespace Go.Proofs.Ytkdpfbefdhjmcaa
open Go.ChangeShapes Go.WideShapes Go.ChangeAt Go.RowKit
set_option maxRecDepth 100000 in
set_option maxHeartbeats 8000000 in
theorem plain_at {w : World} {B E p : Nat} {ns bs : List (Int × Int)} {es : List (Int × Int × Int)} (h : GraphAt w B E p ns es bs) : Calls Try.prog 21 #[.pointer (some ⟨p, 0, none⟩)] w fun e w' =>
    ∃ A1 A2 A3 c1 c2 c3, e = .returned (.agg #[.slice A1 ns.length c1, .slice A2 es.length c2, .slice A3 bs.length c3]) ∧ ReadsP w' A1 ns.length c1 ns ∧ ReadsT w' A2 es.length c2 es ∧ ReadsP w' A3 bs.length c3 bs ∧
      (∀ b o, A1 = some ⟨b, o, none⟩ ∨ A2 = some ⟨b, o, none⟩ ∨ A3 = some ⟨b, o, none⟩ → w.heap.size ≤ b ∧ b < w'.heap.size ∧ (∀ j, w'.frozen? ⟨b, j, none⟩ = false) ∧ ∀ b' o', A1 = some ⟨b, o, none⟩ → A2 = some ⟨b', o', none⟩ → b ≠ b') ∧ Below w.heap.size w w' := by
  obtain ⟨d, hd⟩ := h
  obtain ⟨_, ⟨s1, s2, s3, s4⟩, _, _⟩ := mayB_parts hd.ok
  have g0 := hd.g0
  have g1 := hd.g1
  have g2 := hd.g2
  have R1 := Lib.hid hd.rN
  have R2 := Lib.hid hd.rE
  have R3 := Lib.hid hd.rB
  have HS : Hid (∀ w', Below w.heap.size w w' → w'.cell? ⟨p, 0, none⟩ = some (.slice d.A1 ns.length d.c1) ∧ w'.cell? ⟨p, 1, none⟩ = some (.slice d.A2 es.length d.c2) ∧ w'.cell? ⟨p, 2, none⟩ = some (.slice d.A3 bs.length d.c3)) :=
    Lib.hid fun w' h => ⟨cell_below g0 h, cell_below g1 h, cell_below g2 h⟩
  obtain ⟨a0, a1, a2⟩ := HS.out _ (bl_alloc (Below.refl w.heap.size w) (.cells #[.slice none 0 0, .slice none 0 0, .slice none 0 0] 51))
  have K0 : Hid (Below w.heap.size w (w.alloc (.cells #[.slice none 0 0, .slice none 0 0, .slice none 0 0] 51)).drew) := Lib.hid (bl_drew (bl_alloc (Below.refl _ _) _))
  have hz : (w.alloc (.cells #[.slice none 0 0, .slice none 0 0, .slice none 0 0] 51)).drew.heap[w.heap.size]? = some (.cells #[.slice none 0 0, .slice none 0 0, .slice none 0 0] 51) := by
    show (w.heap.push _)[w.heap.size]? = _; simp
  have HZ := Lib.hid hz
  have hzz : (w.alloc (.cells #[.slice none 0 0, .slice none 0 0, .slice none 0 0] 51)).drew.heap.size = w.heap.size + 1 := size_alloc _ _
  have HZZ := Lib.hid hzz
  clear hd hz hzz
  go_enter Try.func21, Try.ntmps21
  go_wp2_with fail
  go_region_held3 (fun w' => w'.cell? ⟨p, 0, none⟩ = some (.slice d.A1 ns.length d.c1) ∧ w'.cell? ⟨p, 1, none⟩ = some (.slice d.A2 es.length d.c2) ∧ w'.cell? ⟨p, 2, none⟩ = some (.slice d.A3 bs.length d.c3))
    (exact HS.out _ (by repeat (first | exact K0.out | exact K1.out | exact K2.out | exact K3.out | refine Below.setCell ?_ (by simp) _ | refine bl_drew ?_)))
    (first
      | (go_at_call 43
         refine (clone_node (R1.out.below K0.out) (by omega)).mono ?_
         rintro e w2 ⟨A1', c1', rfl, hown1, hb2, _⟩
         have K1 : Hid (Below w.heap.size w w2) := Lib.hid (bl_then K0.out hb2)
         have HOWN1 := Lib.hid hown1
         have HST2 := Lib.hid hb2
         clear hown1 hb2)
      | (go_at_call 44
         refine (clone_edge (R2.out.below K1.out) (by omega)).mono ?_
         rintro e w3 ⟨A2', c2', rfl, hown2, hb3, _⟩
         have K2 : Hid (Below w.heap.size w w3) := Lib.hid (bl_then K1.out hb3)
         have HOWN2 := Lib.hid hown2
         have HST3 := Lib.hid hb3
         clear hown2 hb3)
      | (go_at_call 45
         refine (clone_ban (R3.out.below K2.out) (by omega)).mono ?_
         rintro e w4 ⟨A3', c3', rfl, hown3, hb4, _⟩
         have K3 : Hid (Below w.heap.size w w4) := Lib.hid (bl_then K2.out hb4)
         have HOWN3 := Lib.hid hown3
         have HST4 := Lib.hid hb4
         have hz4 : w4.heap[w.heap.size]? = some (.cells #[.slice none 0 0, .slice none 0 0, .slice none 0 0] 51) := (hb4.block _ (by have := HST3.out.size; have := HST2.out.size; have := HZZ.out; omega)).trans ((HST3.out.block _ (by have := HST2.out.size; have := HZZ.out; omega)).trans ((HST2.out.block _ (by have := HZZ.out; omega)).trans HZ.out))
         have zc0 := block_cell hz4 (j := 0) rfl
         have zc1 := block_cell hz4 (j := 1) rfl
         have zc2 := block_cell hz4 (j := 2) rfl
         have zf0 := block_fr hz4 0
         have zf1 := block_fr hz4 1
         have zf2 := block_fr hz4 2
         have HZ4 := Lib.hid hz4
         clear hown3 hb4 hz4))
  have e1 := block_set HZ4.out 0 (.slice A1' ns.length c1')
  have e2 := block_set e1 1 (.slice A2' es.length c2')
  have e3 := block_set e2 2 (.slice A3' bs.length c3')
  have hu : Upd (fun b => b = w.heap.size) w4 (((w4.setCell ⟨w.heap.size, 0, none⟩ (.slice A1' ns.length c1')).setCell ⟨w.heap.size, 1, none⟩ (.slice A2' es.length c2')).setCell ⟨w.heap.size, 2, none⟩ (.slice A3' bs.length c3')) := upd_setCell (F := fun b => b = w.heap.size) (a := ⟨w.heap.size, 2, none⟩) (upd_setCell (F := fun b => b = w.heap.size) (a := ⟨w.heap.size, 1, none⟩) (upd_setCell (F := fun b => b = w.heap.size) (a := ⟨w.heap.size, 0, none⟩) (Upd.refl _ _) rfl _) rfl _) rfl _
  have HE3 := Lib.hid e3
  have HU := Lib.hid hu
  clear e1 e2 e3 hu
  go_wp2_with fail
  refine bodyPost_ret (results_cell_row (p := 2) (ty := 51) (by kernel_rfl) _ _ w.heap.size 51 #[.slice A1' ns.length c1', .slice A2' es.length c2', .slice A3' bs.length c3'] (0, 0) _ rfl HE3.out Try.underlying51 rfl (by kernel_rfl)) rfl ?_
  have z0 := HZZ.out
  have z2 := HST2.out.size
  have z3 := HST3.out.size
  have zu := HU.out.size
  have z4 := HST4.out.size
  have fr : ∀ {B0 : Nat} {wx : World} {e : TypeId} {s n c : Nat} {A : Option Addr} {vs : List Value}, w.heap.size + 1 ≤ B0 → wx.ownsRow B0 e s (.slice A n c) n vs → ∀ b o, A = some ⟨b, o, none⟩ → w.heap.size + 1 ≤ b ∧ b < wx.heap.size ∧ ∀ j, wx.frozen? ⟨b, j, none⟩ = false := by
    intro B0 wx e s n c A vs hB hr b o e2
    subst e2
    rcases hr.2 with ⟨h0, _⟩ | ⟨g, c, cur, e, hb, hg, _⟩
    · cases h0
    · injection e with e1 _ _
      injection e1 with e1
      injection e1 with e1 _ _
      subst e1
      refine ⟨by omega, ?_, fun j => by simp [World.frozen?, hg]⟩
      rcases Nat.lt_or_ge b wx.heap.size with h1 | h1
      · exact h1
      · rw [Array.getElem?_eq_none h1] at hg; cases hg
  have f1 := fr (by omega) HOWN1.out
  have f2 := fr (by omega) HOWN2.out
  have f3 := fr (by omega) HOWN3.out
  have fu : ∀ b, w.heap.size + 1 ≤ b → b < w4.heap.size → (∀ j, w4.frozen? ⟨b, j, none⟩ = false) → ∀ j, (((w4.setCell ⟨w.heap.size, 0, none⟩ (.slice A1' ns.length c1')).setCell ⟨w.heap.size, 1, none⟩ (.slice A2' es.length c2')).setCell ⟨w.heap.size, 2, none⟩ (.slice A3' bs.length c3')).frozen? ⟨b, j, none⟩ = false := by
    intro b h1 h2 h3 j
    exact (World.frozen?_of_block (a := ⟨b, j, none⟩) (HU.out.block b h2 (by omega))).trans (h3 j)
  have hne : ∀ b o b' o', A1' = some ⟨b, o, none⟩ → A2' = some ⟨b', o', none⟩ → b ≠ b' := by
    intro b o b' o' e1 e2 e3
    subst e3
    have q1 := (f1 b o e1).2.1
    subst e2
    rcases HOWN2.out.2 with ⟨h0, _⟩ | ⟨g, cc, cur, e, hb, hg, _⟩
    · cases h0
    · injection e with e2 _ _
      injection e2 with e2
      injection e2 with e2 _ _
      omega
  refine ⟨A1', A2', A3', c1', c2', c3', rfl, ?_, ?_, ?_, ?_, K3.out.trans (HU.out.below K3.out.size fun k hk e => by omega)⟩
  · exact (((ReadsP.of_row HOWN1.out R1.out.small R1.out.wf).below HST3.out).below HST4.out).upd HU.out fun b o e h => by have := f1 b o e; omega
  · exact ((ReadsT.of_row HOWN2.out R2.out.small R2.out.wf).below HST4.out).upd HU.out fun b o e h => by have := f2 b o e; omega
  · exact (ReadsP.of_row HOWN3.out R3.out.small R3.out.wf).upd HU.out fun b o e h => by have := f3 b o e; omega
  · rintro b o (e | e | e)
    · obtain ⟨g1, g2, g3⟩ := f1 b o e
      refine ⟨by omega, by omega, fu b g1 (by omega) fun j => ?_, fun b' o' => hne b o b' o'⟩
      exact (HST4.out.frozen (p := ⟨b, j, none⟩) (by show b < _; omega)).trans ((HST3.out.frozen (p := ⟨b, j, none⟩) g2).trans (g3 j))
    · obtain ⟨g1, g2, g3⟩ := f2 b o e
      refine ⟨by omega, by omega, fu b g1 (by omega) fun j => ?_, fun b' o' => hne b o b' o'⟩
      exact (HST4.out.frozen (p := ⟨b, j, none⟩) g2).trans (g3 j)
    · obtain ⟨g1, g2, g3⟩ := f3 b o e
      exact ⟨by omega, by omega, fu b g1 g2 g3, fun b' o' => hne b o b' o'⟩
end Go.Proofs.Ytkdpfbefdhjmcaa
