/- The town while it is made: its variable, its three rows. -/
import Derived.Test.YtkdpfbefdhjmcaaGraphAt
import Derived.Deep.AppendLies
set_option linter.unusedVariables false
set_option linter.unusedSimpArgs false
namespace Go.Proofs.Ytkdpfbefdhjmcaa
open Go.ChangeShapes Go.WideShapes Go.ChangeAt Go.RowKit
theorem own_keep {w w' : World} {B : Nat} {e : TypeId} {s n : Nat} {v : Value} {vs : List Value} (h : w.ownsRow B e s v n vs) (hb : Below w.heap.size w w') : w'.ownsRow B e s v n vs := by
  refine ⟨h.1, ?_⟩
  rcases h.2 with h0 | ⟨g, c, cur, e1, hb1, hg1, r⟩
  · exact .inl h0
  · subst e1
    exact .inr ⟨g, c, cur, rfl, hb1, (hb.block g (World.ownsRow.lt h g rfl).2).trans hg1, r⟩
structure TownW (w wr : World) (sN sE sB : Value) (ns : List (Int × Int)) (es : List (Int × Int × Int)) (bs : List (Int × Int)) : Prop where
  size : w.heap.size + 2 ≤ wr.heap.size
  h0 : wr.heap[w.heap.size]? = some (.cells #[.slice none 0 0, .slice none 0 0, .slice none 0 0] 51)
  hg : wr.heap[w.heap.size + 1]? = some (.cells #[sN, sE, sB] 51)
  oN : wr.ownsRow (w.heap.size + 2) 59 2 sN ns.length (flat2 ns)
  oE : wr.ownsRow (w.heap.size + 2) 63 3 sE es.length (flat3 es)
  oB : wr.ownsRow (w.heap.size + 2) 69 2 sB bs.length (flat2 bs)
  aNE : ∀ b, sN.ownBlock = some b → sE.ownBlock ≠ some b
  aNB : ∀ b, sN.ownBlock = some b → sB.ownBlock ≠ some b
  aEB : ∀ b, sE.ownBlock = some b → sB.ownBlock ≠ some b
  below : Below w.heap.size w wr
theorem TownW.still {w wr w2 : World} {sN sE sB : Value} {ns bs : List (Int × Int)} {es : List (Int × Int × Int)} (h : TownW w wr sN sE sB ns es bs) (hb : Below wr.heap.size wr w2) : TownW w w2 sN sE sB ns es bs :=
  ⟨Nat.le_trans h.size hb.size, (hb.block _ (by have := h.size; omega)).trans h.h0, (hb.block _ (by have := h.size; omega)).trans h.hg, own_keep h.oN hb, own_keep h.oE hb, own_keep h.oB hb, h.aNE, h.aNB, h.aEB, h.below.trans (hb.mono h.below.size)⟩
theorem TownW.var4 {w wr w2 w4 : World} {sN sE sB : Value} {ns bs : List (Int × Int)} {es : List (Int × Int × Int)} (h : TownW w wr sN sE sB ns es bs) (hb : Below wr.heap.size wr w2) {o : Obj} {ob : Option Nat} (hg : (w2.alloc o).grownBy w4 ob) (hne : ∀ b, ob = some b → w.heap.size + 2 ≤ b) : w4.heap[w.heap.size + 1]? = some (.cells #[sN, sE, sB] 51) := by
  have hz := hb.size
  have hz2 := h.size
  exact (hg.block _ (by rw [size_alloc]; omega) (fun e => by have := hne _ e.symm; omega)).trans ((heap_alloc_lt (by omega)).trans ((hb.block _ (by omega)).trans h.hg))
theorem other4 {wr w2 w4 : World} (hb : Below wr.heap.size wr w2) {o : Obj} {ob : Option Nat} (hg : (w2.alloc o).grownBy w4 ob) {b : Nat} (hlt : b < wr.heap.size) (hne : ob ≠ some b) : w4.heap[b]? = wr.heap[b]? :=
  (hg.block _ (by rw [size_alloc]; have := hb.size; omega) (fun e => hne e.symm)).trans ((heap_alloc_lt (by have := hb.size; omega)).trans (hb.block _ hlt))
theorem cell_three_list (w : World) (x y z : Value) (t : TypeId) : ∀ j u, [x, y, z][j]? = some u → (w.alloc (.cells #[x, y, z] t)).cell? ((⟨w.heap.size, 0, none⟩ : Addr).add j) = some u := by
  intro j u hj
  rw [Addr.add_lit, Nat.zero_add]
  exact cell_three_new j u (by simpa using hj)
theorem TownW.moreN {w wr w2 w4 : World} {g cap : Nat} {sN sE sB : Value} {ns bs : List (Int × Int)} {es : List (Int × Int × Int)} {x : (Int×Int)} (h : TownW w wr sN sE sB ns es bs) (hb : Below wr.heap.size wr w2)
    (ho : w4.ownsRow (w.heap.size + 2) 59 2 (.slice (some ⟨g, 0, none⟩) (ns.length + 1) cap) (ns.length + 1) (flat2 ns ++ flat2 [x])) {o : Obj} (hg : (w2.alloc o).grownBy w4 sN.ownBlock) (hat : sN.ownBlock = some g ∨ w2.heap.size ≤ g) (hlt : g < w4.heap.size) :
    TownW w (w4.setCell ⟨w.heap.size + 1, 0, none⟩ (.slice (some ⟨g, 0, none⟩) (ns.length + 1) cap)) (.slice (some ⟨g, 0, none⟩) (ns.length+1) cap) sE sB (ns++[x]) es bs := by
  have hz := hb.size
  have hz2 := h.size
  have hbl := h.below.size
  have hge : w.heap.size + 2 ≤ g := by
    rcases ho.2 with ⟨h0, _⟩ | ⟨g', c, cur, e, hb, hg, _⟩
    · cases h0
    · injection e with e1 _ _
      injection e1 with e1
      injection e1 with e1 _ _
      subst e1; exact hb
  have hoN := own_keep h.oN hb
  have hoE := own_keep h.oE hb
  have hoB := own_keep h.oB hb
  have lN := fun b e => (World.ownsRow.lt h.oN b e)
  have lE := fun b e => (World.ownsRow.lt h.oE b e)
  have lB := fun b e => (World.ownsRow.lt h.oB b e)
  have aNE := h.aNE
  have aNB := h.aNB
  have aEB := h.aEB
  have hown : ∀ b, sN.ownBlock = some b → w.heap.size + 2 ≤ b := fun b e => by first | exact (lN b e).1 | exact (lE b e).1 | exact (lB b e).1
  have hsz4 := hg.size
  rw [size_alloc] at hsz4
  have keep : ∀ b, b < w2.heap.size → sN.ownBlock ≠ some b → w4.heap[b]? = w2.heap[b]? := fun b hb' hne => (hg.block b (by rw [size_alloc]; omega) (fun e => hne e.symm)).trans (heap_alloc_lt hb')
  have k0 : w4.heap[w.heap.size]? = some (.cells #[.slice none 0 0, .slice none 0 0, .slice none 0 0] 51) := (keep _ (by omega) (fun e => by have := hown _ e; omega)).trans ((hb.block _ (by omega)).trans h.h0)
  have k1 : w4.heap[w.heap.size + 1]? = some (.cells #[sN, sE, sB] 51) := (keep _ (by omega) (fun e => by have := hown _ e; omega)).trans ((hb.block _ (by omega)).trans h.hg)
  have hrow : ∀ {e : TypeId} {s n : Nat} {v : Value} {vs : List Value}, w2.ownsRow (w.heap.size + 2) e s v n vs → (∀ b, v.ownBlock = some b → sN.ownBlock ≠ some b) → (w4.setCell ⟨w.heap.size + 1, 0, none⟩ (.slice (some ⟨g, 0, none⟩) (ns.length + 1) cap)).ownsRow (w.heap.size + 2) e s v n vs := by
    intro e s n v vs hr hne
    refine ownsRow_setCell_below ⟨hr.1, ?_⟩ (by show w.heap.size + 1 < w.heap.size + 2; omega) _
    rcases hr.2 with h0 | ⟨g', c, cur, e1, hb1, hg1, r⟩
    · exact .inl h0
    · subst e1
      have hl := World.ownsRow.lt hr g' rfl
      exact .inr ⟨g', c, cur, rfl, hb1, (keep g' hl.2 (hne g' rfl)).trans hg1, r⟩
  have hnew : (w4.setCell ⟨w.heap.size + 1, 0, none⟩ (.slice (some ⟨g, 0, none⟩) (ns.length + 1) cap)).ownsRow (w.heap.size + 2) 59 2 (.slice (some ⟨g, 0, none⟩) (ns.length + 1) cap) (ns ++ [x]).length (flat2 (ns ++ [x])) := by
    rw [show (ns ++ [x]).length = ns.length + 1 by simp, flat2_append]
    exact ownsRow_setCell_below ho (by show w.heap.size + 1 < w.heap.size + 2; omega) _
  have fresh : ∀ b, b < wr.heap.size → sN.ownBlock ≠ some b → b ≠ g := by
    intro b hb' hne e
    subst e
    rcases hat with h1 | h1
    · exact hne h1
    · omega
  have hset := block_set k1 0 (.slice (some ⟨g, 0, none⟩) (ns.length + 1) cap)
  refine ⟨by rw [size_setCell]; omega, (heap_setCell_ne (by show w.heap.size + 1 ≠ w.heap.size; omega)).trans k0, hset, ?_, ?_, ?_, ?_, ?_, ?_, ?_⟩
  · first | exact hnew | exact hrow hoN (fun b e => by first | exact fun e2 => aNE b e e2 | exact fun e2 => aNB b e e2)
  · first | exact hnew | exact hrow hoE (fun b e => by first | exact fun e2 => aNE b e2 e | exact fun e2 => aEB b e e2)
  · first | exact hnew | exact hrow hoB (fun b e => by first | exact fun e2 => aNB b e2 e | exact fun e2 => aEB b e2 e)
  · first
      | exact aNE
      | (intro b e e2; simp only [Value.ownBlock, Option.some.injEq] at e; exact fresh b (lE b e2).2 (fun e3 => aNE b e3 e2) e.symm)
      | (intro b e e2; simp only [Value.ownBlock, Option.some.injEq] at e2; exact fresh b (lN b e).2 (fun e3 => aNE b e e3) e2.symm)
  · first
      | exact aNB
      | (intro b e e2; simp only [Value.ownBlock, Option.some.injEq] at e; exact fresh b (lB b e2).2 (fun e3 => aNB b e3 e2) e.symm)
      | (intro b e e2; simp only [Value.ownBlock, Option.some.injEq] at e2; exact fresh b (lN b e).2 (fun e3 => aNB b e e3) e2.symm)
  · first
      | exact aEB
      | (intro b e e2; simp only [Value.ownBlock, Option.some.injEq] at e; exact fresh b (lB b e2).2 (fun e3 => aEB b e3 e2) e.symm)
      | (intro b e e2; simp only [Value.ownBlock, Option.some.injEq] at e2; exact fresh b (lE b e).2 (fun e3 => aEB b e e3) e2.symm)
  · have hb4 : Below w.heap.size w w4 := by
      refine ⟨hg.os.trans (hb.os.trans h.below.os), hg.tape.trans (hb.tape.trans h.below.tape), hg.output.trans (hb.output.trans h.below.output), by omega, fun k hk => ?_⟩
      exact (keep k (by omega) (fun e => by have := hown _ e; omega)).trans ((hb.block k (by omega)).trans (h.below.block k hk))
    exact hb4.trans ((upd_setCell (F := fun b => b = w.heap.size + 1) (Upd.refl _ w4) (a := ⟨w.heap.size + 1, 0, none⟩) rfl _).below (by omega) fun k hk e => by omega)
theorem TownW.moreE {w wr w2 w4 : World} {g cap : Nat} {sN sE sB : Value} {ns bs : List (Int × Int)} {es : List (Int × Int × Int)} {x : (Int×Int×Int)} (h : TownW w wr sN sE sB ns es bs) (hb : Below wr.heap.size wr w2)
    (ho : w4.ownsRow (w.heap.size + 2) 63 3 (.slice (some ⟨g, 0, none⟩) (es.length + 1) cap) (es.length + 1) (flat3 es ++ flat3 [x])) {o : Obj} (hg : (w2.alloc o).grownBy w4 sE.ownBlock) (hat : sE.ownBlock = some g ∨ w2.heap.size ≤ g) (hlt : g < w4.heap.size) :
    TownW w (w4.setCell ⟨w.heap.size + 1, 1, none⟩ (.slice (some ⟨g, 0, none⟩) (es.length + 1) cap)) sN (.slice (some ⟨g, 0, none⟩) (es.length+1) cap) sB ns (es++[x]) bs := by
  have hz := hb.size
  have hz2 := h.size
  have hbl := h.below.size
  have hge : w.heap.size + 2 ≤ g := by
    rcases ho.2 with ⟨h0, _⟩ | ⟨g', c, cur, e, hb, hg, _⟩
    · cases h0
    · injection e with e1 _ _
      injection e1 with e1
      injection e1 with e1 _ _
      subst e1; exact hb
  have hoN := own_keep h.oN hb
  have hoE := own_keep h.oE hb
  have hoB := own_keep h.oB hb
  have lN := fun b e => (World.ownsRow.lt h.oN b e)
  have lE := fun b e => (World.ownsRow.lt h.oE b e)
  have lB := fun b e => (World.ownsRow.lt h.oB b e)
  have aNE := h.aNE
  have aNB := h.aNB
  have aEB := h.aEB
  have hown : ∀ b, sE.ownBlock = some b → w.heap.size + 2 ≤ b := fun b e => by first | exact (lN b e).1 | exact (lE b e).1 | exact (lB b e).1
  have hsz4 := hg.size
  rw [size_alloc] at hsz4
  have keep : ∀ b, b < w2.heap.size → sE.ownBlock ≠ some b → w4.heap[b]? = w2.heap[b]? := fun b hb' hne => (hg.block b (by rw [size_alloc]; omega) (fun e => hne e.symm)).trans (heap_alloc_lt hb')
  have k0 : w4.heap[w.heap.size]? = some (.cells #[.slice none 0 0, .slice none 0 0, .slice none 0 0] 51) := (keep _ (by omega) (fun e => by have := hown _ e; omega)).trans ((hb.block _ (by omega)).trans h.h0)
  have k1 : w4.heap[w.heap.size + 1]? = some (.cells #[sN, sE, sB] 51) := (keep _ (by omega) (fun e => by have := hown _ e; omega)).trans ((hb.block _ (by omega)).trans h.hg)
  have hrow : ∀ {e : TypeId} {s n : Nat} {v : Value} {vs : List Value}, w2.ownsRow (w.heap.size + 2) e s v n vs → (∀ b, v.ownBlock = some b → sE.ownBlock ≠ some b) → (w4.setCell ⟨w.heap.size + 1, 1, none⟩ (.slice (some ⟨g, 0, none⟩) (es.length + 1) cap)).ownsRow (w.heap.size + 2) e s v n vs := by
    intro e s n v vs hr hne
    refine ownsRow_setCell_below ⟨hr.1, ?_⟩ (by show w.heap.size + 1 < w.heap.size + 2; omega) _
    rcases hr.2 with h0 | ⟨g', c, cur, e1, hb1, hg1, r⟩
    · exact .inl h0
    · subst e1
      have hl := World.ownsRow.lt hr g' rfl
      exact .inr ⟨g', c, cur, rfl, hb1, (keep g' hl.2 (hne g' rfl)).trans hg1, r⟩
  have hnew : (w4.setCell ⟨w.heap.size + 1, 1, none⟩ (.slice (some ⟨g, 0, none⟩) (es.length + 1) cap)).ownsRow (w.heap.size + 2) 63 3 (.slice (some ⟨g, 0, none⟩) (es.length + 1) cap) (es ++ [x]).length (flat3 (es ++ [x])) := by
    rw [show (es ++ [x]).length = es.length + 1 by simp, flat3_append]
    exact ownsRow_setCell_below ho (by show w.heap.size + 1 < w.heap.size + 2; omega) _
  have fresh : ∀ b, b < wr.heap.size → sE.ownBlock ≠ some b → b ≠ g := by
    intro b hb' hne e
    subst e
    rcases hat with h1 | h1
    · exact hne h1
    · omega
  have hset := block_set k1 1 (.slice (some ⟨g, 0, none⟩) (es.length + 1) cap)
  refine ⟨by rw [size_setCell]; omega, (heap_setCell_ne (by show w.heap.size + 1 ≠ w.heap.size; omega)).trans k0, hset, ?_, ?_, ?_, ?_, ?_, ?_, ?_⟩
  · first | exact hnew | exact hrow hoN (fun b e => by first | exact fun e2 => aNE b e e2 | exact fun e2 => aNB b e e2)
  · first | exact hnew | exact hrow hoE (fun b e => by first | exact fun e2 => aNE b e2 e | exact fun e2 => aEB b e e2)
  · first | exact hnew | exact hrow hoB (fun b e => by first | exact fun e2 => aNB b e2 e | exact fun e2 => aEB b e2 e)
  · first
      | exact aNE
      | (intro b e e2; simp only [Value.ownBlock, Option.some.injEq] at e; exact fresh b (lE b e2).2 (fun e3 => aNE b e3 e2) e.symm)
      | (intro b e e2; simp only [Value.ownBlock, Option.some.injEq] at e2; exact fresh b (lN b e).2 (fun e3 => aNE b e e3) e2.symm)
  · first
      | exact aNB
      | (intro b e e2; simp only [Value.ownBlock, Option.some.injEq] at e; exact fresh b (lB b e2).2 (fun e3 => aNB b e3 e2) e.symm)
      | (intro b e e2; simp only [Value.ownBlock, Option.some.injEq] at e2; exact fresh b (lN b e).2 (fun e3 => aNB b e e3) e2.symm)
  · first
      | exact aEB
      | (intro b e e2; simp only [Value.ownBlock, Option.some.injEq] at e; exact fresh b (lB b e2).2 (fun e3 => aEB b e3 e2) e.symm)
      | (intro b e e2; simp only [Value.ownBlock, Option.some.injEq] at e2; exact fresh b (lE b e).2 (fun e3 => aEB b e e3) e2.symm)
  · have hb4 : Below w.heap.size w w4 := by
      refine ⟨hg.os.trans (hb.os.trans h.below.os), hg.tape.trans (hb.tape.trans h.below.tape), hg.output.trans (hb.output.trans h.below.output), by omega, fun k hk => ?_⟩
      exact (keep k (by omega) (fun e => by have := hown _ e; omega)).trans ((hb.block k (by omega)).trans (h.below.block k hk))
    exact hb4.trans ((upd_setCell (F := fun b => b = w.heap.size + 1) (Upd.refl _ w4) (a := ⟨w.heap.size + 1, 1, none⟩) rfl _).below (by omega) fun k hk e => by omega)
theorem TownW.moreB {w wr w2 w4 : World} {g cap : Nat} {sN sE sB : Value} {ns bs : List (Int × Int)} {es : List (Int × Int × Int)} {x : (Int×Int)} (h : TownW w wr sN sE sB ns es bs) (hb : Below wr.heap.size wr w2)
    (ho : w4.ownsRow (w.heap.size + 2) 69 2 (.slice (some ⟨g, 0, none⟩) (bs.length + 1) cap) (bs.length + 1) (flat2 bs ++ flat2 [x])) {o : Obj} (hg : (w2.alloc o).grownBy w4 sB.ownBlock) (hat : sB.ownBlock = some g ∨ w2.heap.size ≤ g) (hlt : g < w4.heap.size) :
    TownW w (w4.setCell ⟨w.heap.size + 1, 2, none⟩ (.slice (some ⟨g, 0, none⟩) (bs.length + 1) cap)) sN sE (.slice (some ⟨g, 0, none⟩) (bs.length+1) cap) ns es (bs++[x]) := by
  have hz := hb.size
  have hz2 := h.size
  have hbl := h.below.size
  have hge : w.heap.size + 2 ≤ g := by
    rcases ho.2 with ⟨h0, _⟩ | ⟨g', c, cur, e, hb, hg, _⟩
    · cases h0
    · injection e with e1 _ _
      injection e1 with e1
      injection e1 with e1 _ _
      subst e1; exact hb
  have hoN := own_keep h.oN hb
  have hoE := own_keep h.oE hb
  have hoB := own_keep h.oB hb
  have lN := fun b e => (World.ownsRow.lt h.oN b e)
  have lE := fun b e => (World.ownsRow.lt h.oE b e)
  have lB := fun b e => (World.ownsRow.lt h.oB b e)
  have aNE := h.aNE
  have aNB := h.aNB
  have aEB := h.aEB
  have hown : ∀ b, sB.ownBlock = some b → w.heap.size + 2 ≤ b := fun b e => by first | exact (lN b e).1 | exact (lE b e).1 | exact (lB b e).1
  have hsz4 := hg.size
  rw [size_alloc] at hsz4
  have keep : ∀ b, b < w2.heap.size → sB.ownBlock ≠ some b → w4.heap[b]? = w2.heap[b]? := fun b hb' hne => (hg.block b (by rw [size_alloc]; omega) (fun e => hne e.symm)).trans (heap_alloc_lt hb')
  have k0 : w4.heap[w.heap.size]? = some (.cells #[.slice none 0 0, .slice none 0 0, .slice none 0 0] 51) := (keep _ (by omega) (fun e => by have := hown _ e; omega)).trans ((hb.block _ (by omega)).trans h.h0)
  have k1 : w4.heap[w.heap.size + 1]? = some (.cells #[sN, sE, sB] 51) := (keep _ (by omega) (fun e => by have := hown _ e; omega)).trans ((hb.block _ (by omega)).trans h.hg)
  have hrow : ∀ {e : TypeId} {s n : Nat} {v : Value} {vs : List Value}, w2.ownsRow (w.heap.size + 2) e s v n vs → (∀ b, v.ownBlock = some b → sB.ownBlock ≠ some b) → (w4.setCell ⟨w.heap.size + 1, 2, none⟩ (.slice (some ⟨g, 0, none⟩) (bs.length + 1) cap)).ownsRow (w.heap.size + 2) e s v n vs := by
    intro e s n v vs hr hne
    refine ownsRow_setCell_below ⟨hr.1, ?_⟩ (by show w.heap.size + 1 < w.heap.size + 2; omega) _
    rcases hr.2 with h0 | ⟨g', c, cur, e1, hb1, hg1, r⟩
    · exact .inl h0
    · subst e1
      have hl := World.ownsRow.lt hr g' rfl
      exact .inr ⟨g', c, cur, rfl, hb1, (keep g' hl.2 (hne g' rfl)).trans hg1, r⟩
  have hnew : (w4.setCell ⟨w.heap.size + 1, 2, none⟩ (.slice (some ⟨g, 0, none⟩) (bs.length + 1) cap)).ownsRow (w.heap.size + 2) 69 2 (.slice (some ⟨g, 0, none⟩) (bs.length + 1) cap) (bs ++ [x]).length (flat2 (bs ++ [x])) := by
    rw [show (bs ++ [x]).length = bs.length + 1 by simp, flat2_append]
    exact ownsRow_setCell_below ho (by show w.heap.size + 1 < w.heap.size + 2; omega) _
  have fresh : ∀ b, b < wr.heap.size → sB.ownBlock ≠ some b → b ≠ g := by
    intro b hb' hne e
    subst e
    rcases hat with h1 | h1
    · exact hne h1
    · omega
  have hset := block_set k1 2 (.slice (some ⟨g, 0, none⟩) (bs.length + 1) cap)
  refine ⟨by rw [size_setCell]; omega, (heap_setCell_ne (by show w.heap.size + 1 ≠ w.heap.size; omega)).trans k0, hset, ?_, ?_, ?_, ?_, ?_, ?_, ?_⟩
  · first | exact hnew | exact hrow hoN (fun b e => by first | exact fun e2 => aNE b e e2 | exact fun e2 => aNB b e e2)
  · first | exact hnew | exact hrow hoE (fun b e => by first | exact fun e2 => aNE b e2 e | exact fun e2 => aEB b e e2)
  · first | exact hnew | exact hrow hoB (fun b e => by first | exact fun e2 => aNB b e2 e | exact fun e2 => aEB b e2 e)
  · first
      | exact aNE
      | (intro b e e2; simp only [Value.ownBlock, Option.some.injEq] at e; exact fresh b (lE b e2).2 (fun e3 => aNE b e3 e2) e.symm)
      | (intro b e e2; simp only [Value.ownBlock, Option.some.injEq] at e2; exact fresh b (lN b e).2 (fun e3 => aNE b e e3) e2.symm)
  · first
      | exact aNB
      | (intro b e e2; simp only [Value.ownBlock, Option.some.injEq] at e; exact fresh b (lB b e2).2 (fun e3 => aNB b e3 e2) e.symm)
      | (intro b e e2; simp only [Value.ownBlock, Option.some.injEq] at e2; exact fresh b (lN b e).2 (fun e3 => aNB b e e3) e2.symm)
  · first
      | exact aEB
      | (intro b e e2; simp only [Value.ownBlock, Option.some.injEq] at e; exact fresh b (lB b e2).2 (fun e3 => aEB b e3 e2) e.symm)
      | (intro b e e2; simp only [Value.ownBlock, Option.some.injEq] at e2; exact fresh b (lE b e).2 (fun e3 => aEB b e e3) e2.symm)
  · have hb4 : Below w.heap.size w w4 := by
      refine ⟨hg.os.trans (hb.os.trans h.below.os), hg.tape.trans (hb.tape.trans h.below.tape), hg.output.trans (hb.output.trans h.below.output), by omega, fun k hk => ?_⟩
      exact (keep k (by omega) (fun e => by have := hown _ e; omega)).trans ((hb.block k (by omega)).trans (h.below.block k hk))
    exact hb4.trans ((upd_setCell (F := fun b => b = w.heap.size + 1) (Upd.refl _ w4) (a := ⟨w.heap.size + 1, 2, none⟩) rfl _).below (by omega) fun k hk e => by omega)
theorem own_val {w : World} {B : Nat} {e : TypeId} {s n : Nat} {v : Value} {vs : List Value} (h : w.ownsRow B e s v n vs) : ∃ A c, v = .slice A n c ∧ (0 < n → ∃ g, A = some ⟨g, 0, none⟩) := by
  rcases h.2 with ⟨h0, h1⟩ | ⟨g, c, cur, e1, _⟩
  · exact ⟨none, 0, by rw [h0, h1], fun h2 => by omega⟩
  · exact ⟨_, c, e1, fun _ => ⟨g, rfl⟩⟩
theorem TownW.fresh1 {w wr : World} {sN sE sB : Value} {ns bs : List (Int × Int)} (h : TownW w wr sN sE sB ns [] bs) (x y z : Int) :
    TownW w ((wr.alloc (.cells #[.int .i64 x, .int .i64 y, .int .i64 z] 63)).setCell ⟨w.heap.size + 1, 1, none⟩ (.slice (some ⟨wr.heap.size, 0, none⟩) 1 1)) sN (.slice (some ⟨wr.heap.size, 0, none⟩) 1 1) sB ns [(x, y, z)] bs := by
  have hs := h.size
  refine TownW.moreE (w2 := wr) (x := (x, y, z)) (cap := 1) h (Below.refl _ _) ⟨rfl, .inr ⟨wr.heap.size, 1, #[.int .i64 x, .int .i64 y, .int .i64 z], rfl, hs, ?_, Nat.le_refl _, by unfold maxLen; omega, rfl, rfl⟩⟩ (o := .cells #[.int .i64 x, .int .i64 y, .int .i64 z] 63) ⟨rfl, rfl, rfl, Nat.le_refl _, fun _ _ _ => rfl⟩ (.inr (Nat.le_refl _)) (by rw [size_alloc]; omega)
  show (wr.heap.push _)[wr.heap.size]? = _; simp
end Go.Proofs.Ytkdpfbefdhjmcaa
