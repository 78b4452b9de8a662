/- A graph in memory: what New leaves and all others read. -/
import Derived.Test.YtkdpfbefdhjmcaaGRows
import Derived.Test.YtkdpfbefdhjmcaaMayWalk
set_option linter.unusedVariables false
set_option linter.unusedSimpArgs false
namespace Go.Proofs.Ytkdpfbefdhjmcaa
open Go.ChangeShapes Go.WideShapes Go.ChangeAt Go.RowKit RowP
def fromN (es : List (Int × Int × Int)) (i : Nat) : Nat := (es.getD i (0, 0, 0)).1.toNat
def toN (es : List (Int × Int × Int)) (i : Nat) : Nat := (es.getD i (0, 0, 0)).2.1.toNat
theorem ReadsP.upd {F : Nat → Prop} {w w' : World} {A : Option Addr} {n c : Nat} {xs : List (Int × Int)} (h : ReadsP w A n c xs) (hu : Upd F w w') (hF : ∀ b o, A = some ⟨b, o, none⟩ → ¬ F b) : ReadsP w' A n c xs := by
  refine ⟨h.len, h.small, fun hn => ?_, h.wf⟩
  obtain ⟨b, o, hA, hc⟩ := h.cell hn
  exact ⟨b, o, hA, fun i hi => ⟨cell_upd (hc i hi).1 hu (hF b o hA), cell_upd (hc i hi).2 hu (hF b o hA)⟩⟩
theorem ReadsT.upd {F : Nat → Prop} {w w' : World} {A : Option Addr} {n c : Nat} {xs : List (Int × Int × Int)} (h : ReadsT w A n c xs) (hu : Upd F w w') (hF : ∀ b o, A = some ⟨b, o, none⟩ → ¬ F b) : ReadsT w' A n c xs := by
  refine ⟨h.len, h.small, fun hn => ?_, h.wf⟩
  obtain ⟨b, o, hA, hc⟩ := h.cell hn
  exact ⟨b, o, hA, fun i hi => ⟨cell_upd (hc i hi).1 hu (hF b o hA), cell_upd (hc i hi).2.1 hu (hF b o hA), cell_upd (hc i hi).2.2 hu (hF b o hA)⟩⟩
/-- where a graph's parts lie -/
structure GD where
  A1 : Option Addr
  A2 : Option Addr
  A3 : Option Addr
  c1 : Nat
  c2 : Nat
  c3 : Nat
  bO : Nat
  bI : Nat
  bF : Nat
  bT : Nat
  cF : Nat
  cT : Nat
  RO : List Int
  RI : List Int
  XF : List Int
  XT : List Int
def GD.cells (d : GD) (n1 n2 n3 : Nat) : Array Value := #[.slice d.A1 n1 d.c1, .slice d.A2 n2 d.c2, .slice d.A3 n3 d.c3, .slice (some ⟨d.bO, 0, none⟩) n2 n2, .slice (some ⟨d.bI, 0, none⟩) n2 n2, .slice (some ⟨d.bF, 0, none⟩) (n1 + 1) d.cF, .slice (some ⟨d.bT, 0, none⟩) (n1 + 1) d.cT]
/-- the graph of nodes, edges and bans at block p; all of it lies from B to ahead of E -/
structure GraphIs (w : World) (B E p : Nat) (d : GD) (ns : List (Int × Int)) (es : List (Int × Int × Int)) (bs : List (Int × Int)) : Prop where
  ok : mayB ns es bs = true
  top : E ≤ w.heap.size
  pB : B ≤ p
  pE : p < E
  hp : w.heap[p]? = some (.cells (d.cells ns.length es.length bs.length) 96)
  rN : ReadsP w d.A1 ns.length d.c1 ns
  rE : ReadsT w d.A2 es.length d.c2 es
  rB : ReadsP w d.A3 bs.length d.c3 bs
  nA : ∀ b o, d.A1 = some ⟨b, o, none⟩ ∨ d.A2 = some ⟨b, o, none⟩ ∨ d.A3 = some ⟨b, o, none⟩ → B ≤ b ∧ b < E
  nR : ∀ b, b = d.bO ∨ b = d.bI ∨ b = d.bF ∨ b = d.bT → B ≤ b ∧ b < E
  iO : IRow w d.bO es.length es.length d.RO
  iI : IRow w d.bI es.length es.length d.RI
  iF : IRow w d.bF (ns.length + 1) d.cF d.XF
  iT : IRow w d.bT (ns.length + 1) d.cT d.XT
  sO : Sorted (fromN es) ns.length es.length d.RO d.XF
  sI : Sorted (toN es) ns.length es.length d.RI d.XT
def GraphAt (w : World) (B E p : Nat) (ns : List (Int × Int)) (es : List (Int × Int × Int)) (bs : List (Int × Int)) : Prop := ∃ d, GraphIs w B E p d ns es bs
theorem GraphIs.upd {F : Nat → Prop} {w w' : World} {B E p : Nat} {d : GD} {ns bs : List (Int × Int)} {es : List (Int × Int × Int)} (h : GraphIs w B E p d ns es bs) (hu : Upd F w w') (hF : ∀ b, B ≤ b → b < E → ¬ F b) : GraphIs w' B E p d ns es bs := by
  have hr : ∀ b, b = d.bO ∨ b = d.bI ∨ b = d.bF ∨ b = d.bT → ¬ F b := fun b hb => hF b (h.nR b hb).1 (h.nR b hb).2
  refine ⟨h.ok, Nat.le_trans h.top hu.size, h.pB, h.pE, (hu.block p (Nat.lt_of_lt_of_le h.pE h.top) (hF p h.pB h.pE)).trans h.hp, h.rN.upd hu ?_, h.rE.upd hu ?_, h.rB.upd hu ?_, h.nA, h.nR, h.iO.upd hu (hr _ (.inl rfl)), h.iI.upd hu (hr _ (.inr (.inl rfl))), h.iF.upd hu (hr _ (.inr (.inr (.inl rfl)))), h.iT.upd hu (hr _ (.inr (.inr (.inr rfl)))), h.sO, h.sI⟩
  · exact fun b o e => hF b (h.nA b o (.inl e)).1 (h.nA b o (.inl e)).2
  · exact fun b o e => hF b (h.nA b o (.inr (.inl e))).1 (h.nA b o (.inr (.inl e))).2
  · exact fun b o e => hF b (h.nA b o (.inr (.inr e))).1 (h.nA b o (.inr (.inr e))).2
theorem GraphIs.below {w w' : World} {B E p : Nat} {d : GD} {ns bs : List (Int × Int)} {es : List (Int × Int × Int)} (h : GraphIs w B E p d ns es bs) (hb : Below w.heap.size w w') : GraphIs w' B E p d ns es bs := h.upd (F := fun _ => False) (Upd.of_below hb) fun _ _ _ => id
theorem GraphAt.upd {F : Nat → Prop} {w w' : World} {B E p : Nat} {ns bs : List (Int × Int)} {es : List (Int × Int × Int)} (h : GraphAt w B E p ns es bs) (hu : Upd F w w') (hF : ∀ b, B ≤ b → b < E → ¬ F b) : GraphAt w' B E p ns es bs := h.imp fun d k => k.upd hu hF
theorem GraphAt.below {w w' : World} {B E p : Nat} {ns bs : List (Int × Int)} {es : List (Int × Int × Int)} (h : GraphAt w B E p ns es bs) (hb : Below w.heap.size w w') : GraphAt w' B E p ns es bs := h.imp fun d k => k.below hb
theorem block_cell {w : World} {p : Nat} {vs : Array Value} {t : TypeId} (h : w.heap[p]? = some (.cells vs t)) {j : Nat} {v : Value} (hv : vs[j]? = some v) : w.cell? ⟨p, j, none⟩ = some v := by unfold World.cell?; simp only [h]; exact hv
theorem block_fr {w : World} {p : Nat} {vs : Array Value} {t : TypeId} (h : w.heap[p]? = some (.cells vs t)) (j : Nat) : w.frozen? ⟨p, j, none⟩ = false := by simp [World.frozen?, h]
theorem block_set {w : World} {p : Nat} {vs : Array Value} {t : TypeId} (h : w.heap[p]? = some (.cells vs t)) (j : Nat) (u : Value) : (w.setCell ⟨p, j, none⟩ u).heap[p]? = some (.cells (vs.setIfInBounds j u) t) := heap_setCell_same w p j vs t u h
theorem mayB_parts {ns bs : List (Int × Int)} {es : List (Int × Int × Int)} (h : mayB ns es bs = true) : sizeOk ns.length es.length bs.length = true ∧ (1 ≤ ns.length ∧ ns.length ≤ 256 ∧ es.length ≤ 512 ∧ bs.length ≤ 1024) ∧
    (∀ i, i < es.length → (es.getD i (0, 0, 0)).1 = (fromN es i : Nat) ∧ fromN es i < ns.length) ∧ (∀ i, i < es.length → (es.getD i (0, 0, 0)).2.1 = (toN es i : Nat) ∧ toN es i < ns.length) := by
  unfold mayB at h
  simp only [Bool.and_eq_true] at h
  obtain ⟨⟨⟨h1, h2⟩, h3⟩, h4⟩ := h
  have hs := h1
  unfold sizeOk inB at hs
  simp only [Bool.and_eq_true, decide_eq_true_eq] at hs
  have he : ∀ i, i < es.length → edgeOk ((ns.length : Int) - 1) (es.getD i (0, 0, 0)) = true := by
    intro i hi
    rw [List.getD_eq_getElem?_getD, List.getElem?_eq_getElem hi]
    exact List.all_eq_true.1 h3 _ (List.getElem_mem hi)
  refine ⟨h1, by omega, fun i hi => ?_, fun i hi => ?_⟩
  · have := he i hi
    unfold edgeOk inB at this
    simp only [Bool.and_eq_true, decide_eq_true_eq] at this
    unfold fromN; omega
  · have := he i hi
    unfold edgeOk inB at this
    simp only [Bool.and_eq_true, decide_eq_true_eq] at this
    unfold toN; omega
theorem may_any {A1 A2 A3 : Option Addr} {n1 c1 n2 c2 n3 c3 : Nat} {ns : List (Int × Int)} {es : List (Int × Int × Int)} {bs : List (Int × Int)} {w : World}
    (r1 : ReadsP w A1 n1 c1 ns) (r2 : ReadsT w A2 n2 c2 es) (r3 : ReadsP w A3 n3 c3 bs) :
    Calls Try.prog 42 #[.agg #[.slice A1 n1 c1, .slice A2 n2 c2, .slice A3 n3 c3]] w fun e w' => e = .returned (.bool (mayB ns es bs)) ∧ Below w.heap.size w w' := by
  cases h : sizeOk n1 n2 n3
  · have : mayB ns es bs = false := by unfold mayB; rw [r1.len, r2.len, r3.len, h]; rfl
    rw [this]
    exact may_size r1.small r2.small r3.small h
  · exact may_in r1 r2 r3 h
end Go.Proofs.Ytkdpfbefdhjmcaa
