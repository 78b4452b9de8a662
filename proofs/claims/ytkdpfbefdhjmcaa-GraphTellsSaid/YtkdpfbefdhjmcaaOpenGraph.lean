/- A graph that came in: three slices, and what they hold. -/
import Derived.Test.YtkdpfbefdhjmcaaReadsP
import Derived.Test.YtkdpfbefdhjmcaaMay
set_option linter.unusedVariables false
set_option linter.unusedSimpArgs false
namespace Go.Proofs.Ytkdpfbefdhjmcaa
open Go.ChangeShapes Go.WideShapes Go.ChangeAt Go.RowKit
section
variable {H : Type} {enc : TypeId × Value → H} {W : World} {base : Nat}
theorem three_of {α : Type} : ∀ {l : List α}, l.length = 3 → ∃ a b c, l = [a, b, c]
  | [a, b, c], _ => ⟨a, b, c, rfl⟩
theorem spot_none {W : World} {a : Addr} {k : Nat} {v : Value} (hk : k = 0) (h : W.cell? (a.add k) = some v) : a.spot = none := by
  subst hk
  cases hs : a.spot with
  | none => rfl
  | some s => simp [World.cell?, Addr.add, hs] at h; split at h <;> simp at h
theorem fields3 {t : TypeId} {f0 f1 f2 : Field} (ht : Try.prog.underlying t = some (.struct #[f0, f1, f2])) (o0 : f0.offset = 0) (o1 : f1.offset = 1) (o2 : f2.offset = 2)
    (c0 : Try.prog.cellsOf f0.type = 1) (c1 : Try.prog.cellsOf f1.type = 1) (c2 : Try.prog.cellsOf f2.type = 1) {v0 v1 v2 : Value} {fuel : Nat} {x : DataW H × List MemPlace} (hf : DataW.trod enc Try.prog W 0 (fun _ => true) true fuel t [v0, v1, v2] = some x) :
    ∃ k y0 y1 y2, DataW.trod enc Try.prog W 0 (fun _ => true) true k f0.type [v0] = some y0 ∧ DataW.trod enc Try.prog W 0 (fun _ => true) true k f1.type [v1] = some y1 ∧ DataW.trod enc Try.prog W 0 (fun _ => true) true k f2.type [v2] = some y2 := by
  obtain ⟨xs, k, _, _, _, hxl, hf2⟩ := DataW.trod_struct ht hf
  have g0 := hf2 0 f0 rfl
  have g1 := hf2 1 f1 rfl
  have g2 := hf2 2 f2 rfl
  obtain ⟨y0, y1, y2, rfl⟩ := three_of (show xs.length = 3 from hxl)
  rw [o0, c0] at g0
  rw [o1, c1] at g1
  rw [o2, c2] at g2
  exact ⟨k, y0, y1, y2, g0, g1, g2⟩
set_option maxRecDepth 100000 in
theorem open_pairs {t e : TypeId} {f0 f1 : Field} (ht : Try.prog.underlying t = some (.slice e)) (he : Try.prog.underlying e = some (.struct #[f0, f1])) (hc2 : Try.prog.cellsOf e = 2)
    (t0 : f0.type = 3) (t1 : f1.type = 3) (o0 : f0.offset = 0) (o1 : f1.offset = 1) {v : Value} {fuel : Nat} {x : DataW H × List MemPlace} (hf : DataW.trod enc Try.prog W 0 (fun _ => true) true fuel t [v] = some x) :
    ∃ A n c xs, v = .slice A n c ∧ ReadsP W A n c xs := by
  have hc1 : Try.prog.cellsOf 3 = 1 := by kernel_rfl
  rcases Go.Deep.open_slice ht hf with ⟨hcs, hx⟩ | ⟨a, n, c, m, q, D, Pl, hcs, _, hl, hm, hmm, _, hx⟩
  · injection hcs with hcs _
    exact ⟨none, 0, 0, [], hcs, rfl, Nat.zero_le _, fun h => absurd h (by omega), by simp⟩
  · injection hcs with hcs _
    simp only [if_true] at hmm
    have each : ∀ i, i < n → ∃ x : Int × Int, W.cell? (a.add (i * 2)) = some (.int .i64 x.1) ∧ W.cell? (a.add (i * 2 + 1)) = some (.int .i64 x.2) ∧ (Lit.int .i64 x.1).wf = true ∧ (Lit.int .i64 x.2).wf = true := by
      intro i hi
      obtain ⟨cs', h1, h2⟩ := hx i (by omega)
      rw [hc2] at h1
      obtain ⟨_, hlen, hcell⟩ := World.cells?_some h1
      obtain ⟨xs, k, _, _, _, hxl, hf2⟩ := DataW.trod_struct he h2
      have g0 := hf2 0 f0 rfl
      have g1 := hf2 1 f1 rfl
      obtain ⟨y0, y1, rfl⟩ := two_of (show xs.length = 2 from hxl)
      obtain ⟨v0, v1, rfl⟩ := two_of hlen
      rw [t0, o0, hc1] at g0
      rw [t1, o1, hc1] at g1
      rw [show List.take 1 (List.drop 0 [v0, v1]) = [v0] from rfl] at g0
      rw [show List.take 1 (List.drop 1 [v0, v1]) = [v1] from rfl] at g1
      rw [show [y0, y1][0]? = some y0 from rfl] at g0
      rw [show [y0, y1][1]? = some y1 from rfl] at g1
      obtain ⟨d0, q0⟩ := y0
      obtain ⟨d1, q1⟩ := y1
      obtain ⟨n0, e0, _, w0⟩ := DataW.trod_int Try.underlying3 g0
      obtain ⟨n1, e1, _, w1⟩ := DataW.trod_int Try.underlying3 g1
      injection e0 with e0 _
      injection e1 with e1 _
      subst e0 e1
      have c0 := hcell 0 (by omega)
      have c1 := hcell 1 (by omega)
      rw [Go.Deep.add_add] at c0 c1
      exact ⟨(n0, n1), by simpa using c0, by simpa using c1, w0, w1⟩
    obtain ⟨f, hf3⟩ := Go.Deep.choose_lt each
    refine ⟨some a, n, c, (List.range n).map f, hcs, by simp, by omega, fun hn => ?_, fun x hx => ?_⟩
    · have hsp := spot_none (Nat.zero_mul _) (hf3 0 hn).1
      obtain ⟨b, o, sp⟩ := a
      subst hsp
      refine ⟨b, o, rfl, fun i hi => ?_⟩
      have := hf3 i hi
      rw [Addr.add_lit, Addr.add_lit] at this
      have e : ((List.range n).map f).getD i (0, 0) = f i := by simp [List.getD_eq_getElem?_getD, hi]
      rw [e]
      exact ⟨this.1, by rw [Nat.add_assoc]; exact this.2.1⟩
    · obtain ⟨i, hi, rfl⟩ := List.mem_map.1 hx
      exact (hf3 i (List.mem_range.1 hi)).2.2
set_option maxRecDepth 100000 in
theorem open_triples {t e : TypeId} {f0 f1 f2 : Field} (ht : Try.prog.underlying t = some (.slice e)) (he : Try.prog.underlying e = some (.struct #[f0, f1, f2])) (hc2 : Try.prog.cellsOf e = 3)
    (t0 : f0.type = 3) (t1 : f1.type = 3) (t2 : f2.type = 3) (o0 : f0.offset = 0) (o1 : f1.offset = 1) (o2 : f2.offset = 2) {v : Value} {fuel : Nat} {x : DataW H × List MemPlace} (hf : DataW.trod enc Try.prog W 0 (fun _ => true) true fuel t [v] = some x) :
    ∃ A n c xs, v = .slice A n c ∧ ReadsT W A n c xs := by
  have hc1 : Try.prog.cellsOf 3 = 1 := by kernel_rfl
  rcases Go.Deep.open_slice ht hf with ⟨hcs, hx⟩ | ⟨a, n, c, m, q, D, Pl, hcs, _, hl, hm, hmm, _, hx⟩
  · injection hcs with hcs _
    exact ⟨none, 0, 0, [], hcs, rfl, Nat.zero_le _, fun h => absurd h (by omega), by simp⟩
  · injection hcs with hcs _
    simp only [if_true] at hmm
    have each : ∀ i, i < n → ∃ x : Int × Int × Int, W.cell? (a.add (i * 3)) = some (.int .i64 x.1) ∧ W.cell? (a.add (i * 3 + 1)) = some (.int .i64 x.2.1) ∧ W.cell? (a.add (i * 3 + 2)) = some (.int .i64 x.2.2) ∧ (Lit.int .i64 x.1).wf = true ∧ (Lit.int .i64 x.2.1).wf = true ∧ (Lit.int .i64 x.2.2).wf = true := by
      intro i hi
      obtain ⟨cs', h1, h2⟩ := hx i (by omega)
      rw [hc2] at h1
      obtain ⟨_, hlen, hcell⟩ := World.cells?_some h1
      obtain ⟨xs, k, _, _, _, hxl, hf2⟩ := DataW.trod_struct he h2
      have g0 := hf2 0 f0 rfl
      have g1 := hf2 1 f1 rfl
      have g2 := hf2 2 f2 rfl
      obtain ⟨y0, y1, y2, rfl⟩ := three_of (show xs.length = 3 from hxl)
      obtain ⟨v0, v1, v2, rfl⟩ := three_of hlen
      rw [t0, o0, hc1] at g0
      rw [t1, o1, hc1] at g1
      rw [t2, o2, hc1] at g2
      rw [show List.take 1 (List.drop 0 [v0, v1, v2]) = [v0] from rfl] at g0
      rw [show List.take 1 (List.drop 1 [v0, v1, v2]) = [v1] from rfl] at g1
      rw [show List.take 1 (List.drop 2 [v0, v1, v2]) = [v2] from rfl] at g2
      rw [show [y0, y1, y2][0]? = some y0 from rfl] at g0
      rw [show [y0, y1, y2][1]? = some y1 from rfl] at g1
      rw [show [y0, y1, y2][2]? = some y2 from rfl] at g2
      obtain ⟨d0, q0⟩ := y0
      obtain ⟨d1, q1⟩ := y1
      obtain ⟨d2, q2⟩ := y2
      obtain ⟨n0, e0, _, w0⟩ := DataW.trod_int Try.underlying3 g0
      obtain ⟨n1, e1, _, w1⟩ := DataW.trod_int Try.underlying3 g1
      obtain ⟨n2, e2, _, w2⟩ := DataW.trod_int Try.underlying3 g2
      injection e0 with e0 _
      injection e1 with e1 _
      injection e2 with e2 _
      subst e0 e1 e2
      have c0 := hcell 0 (by omega)
      have c1 := hcell 1 (by omega)
      have c2 := hcell 2 (by omega)
      rw [Go.Deep.add_add] at c0 c1 c2
      exact ⟨(n0, n1, n2), by simpa using c0, by simpa using c1, by simpa using c2, w0, w1, w2⟩
    obtain ⟨f, hf3⟩ := Go.Deep.choose_lt each
    refine ⟨some a, n, c, (List.range n).map f, hcs, by simp, by omega, fun hn => ?_, fun x hx => ?_⟩
    · have hsp := spot_none (Nat.zero_mul _) (hf3 0 hn).1
      obtain ⟨b, o, sp⟩ := a
      subst hsp
      refine ⟨b, o, rfl, fun i hi => ?_⟩
      have := hf3 i hi
      rw [Addr.add_lit, Addr.add_lit, Addr.add_lit] at this
      have e : ((List.range n).map f).getD i (0, 0, 0) = f i := by simp [List.getD_eq_getElem?_getD, hi]
      rw [e]
      exact ⟨this.1, by rw [Nat.add_assoc]; exact this.2.1, by rw [Nat.add_assoc]; exact this.2.2.1⟩
    · obtain ⟨i, hi, rfl⟩ := List.mem_map.1 hx
      exact (hf3 i (List.mem_range.1 hi)).2.2.2
set_option maxRecDepth 100000 in
theorem open_graph {v : Value} {d : DataW H} {p : List MemPlace} (ho : Value.okWide Try.prog W .any base 51 v) (h : DataW.Trod enc Try.prog W 0 (fun _ => true) true 51 v d p) :
    ∃ A1 n1 c1 ns A2 n2 c2 es A3 n3 c3 bs, v = .agg #[.slice A1 n1 c1, .slice A2 n2 c2, .slice A3 n3 c3] ∧ ReadsP W A1 n1 c1 ns ∧ ReadsT W A2 n2 c2 es ∧ ReadsP W A3 n3 c3 bs := by
  obtain ⟨cs, rfl, hsz⟩ := okWide_struct Try.underlying51 ho
  obtain ⟨fuel, hf⟩ := h
  have hc3 : Try.prog.cellsOf 51 = 3 := by kernel_rfl
  rw [hc3] at hsz
  obtain ⟨cl⟩ := cs
  obtain ⟨v0, v1, v2, rfl⟩ := three_of (show cl.length = 3 from hsz)
  obtain ⟨k, y0, y1, y2, g0', g1', g2'⟩ := fields3 Try.underlying51 rfl rfl rfl (by kernel_rfl) (by kernel_rfl) (by kernel_rfl) hf
  obtain ⟨A1, n1, k1, ns, rfl, r1⟩ := open_pairs Try.underlying47 Try.underlying59 (by kernel_rfl) rfl rfl rfl rfl g0'
  obtain ⟨A2, n2, k2, es, rfl, r2⟩ := open_triples Try.underlying48 Try.underlying63 (by kernel_rfl) rfl rfl rfl rfl rfl rfl g1'
  obtain ⟨A3, n3, k3, bs, rfl, r3⟩ := open_pairs Try.underlying49 Try.underlying69 (by kernel_rfl) rfl rfl rfl rfl g2'
  exact ⟨A1, n1, k1, ns, A2, n2, k2, es, A3, n3, k3, bs, rfl, r1, r2, r3⟩
end
end Go.Proofs.Ytkdpfbefdhjmcaa
