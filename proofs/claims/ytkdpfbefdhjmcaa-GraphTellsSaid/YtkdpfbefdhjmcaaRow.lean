/- From a law's walk (it returns true, and what was there is as it was) to what a row asks behind the call. -/
import Derived.Test.YtkdpfbefdhjmcaaKit
import Derived.ProofKit
import Derived.OpenShut
namespace Go.Proofs.Ytkdpfbefdhjmcaa
open Go.ChangeShapes Go.WideShapes Go.ChangeAt Go.RowKit
theorem own : ownKnob Try.prog.godebug = none := by kernel_rfl
theorem laidOut : laidOutB Try.prog = true := by kernel_rfl
theorem trodAll_below {H : Type} {enc : TypeId × Value → H} {W W' : World} (hb : Below W.heap.size W W') : ∀ (ts : List TypeId) (vs : List Value) (ds : List (DataW H)) (ps : List MemPlace),
    (∀ t ∈ ts, Try.prog.readableRec t = true ∧ t < Try.prog.types.size) → DataW.TrodAll enc Try.prog W 0 (fun _ => true) true ts vs ds ps → (∀ x ∈ ps, x.block < W.heap.size) →
    DataW.TrodAll enc Try.prog W' 0 (fun b => decide (b < W.heap.size)) true ts vs ds ps
  | [], vs, ds, ps, _, h, _ => by
    obtain ⟨rfl, rfl, rfl⟩ := trodAll_nil h
    exact trodAll_mk0
  | t :: ts, vs, ds, ps, ht, h, hlt => by
    obtain ⟨v, vs', d, ds', p, q, rfl, rfl, rfl, hd, hr⟩ := trodAll_cons h
    exact trodAll_cons_mk (Below.trod laidOut (ht t (List.mem_cons_self ..)).1 (ht t (List.mem_cons_self ..)).2 hd hb fun x hx => hlt x (List.mem_append_left _ hx))
      (trodAll_below hb ts vs' ds' q (fun u hu => ht u (List.mem_cons_of_mem _ hu)) hr fun x hx => hlt x (List.mem_append_right _ hx))
theorem readable_all {ts : List TypeId} (h : ts.all (fun t => Try.prog.readableRec t && decide (t < Try.prog.types.size)) = true) : ∀ t ∈ ts, Try.prog.readableRec t = true ∧ t < Try.prog.types.size := by
  intro t ht
  have := List.all_eq_true.1 h t ht
  simpa using this
theorem post_law {H : Type} {enc : TypeId × Value → H} {f : Func} {s : ChangeSpec} {W W' : World} {args : Array Value} {ds gs : List (DataW H)} {before : List MemPlace}
    (hW : DataW.Whole enc Try.prog f.params.toList s.vars false W args.toList ds gs before) (hb : Below W.heap.size W W')
    (hres : (s.fn H (ds ++ gs)).results = [.lit (.bool true)]) (hargs : (s.fn H (ds ++ gs)).args = ds) (hvars : (s.fn H (ds ++ gs)).vars = []) (hv : s.vars = []) (ht : f.resultTypes = #[4])
    (hro : ∀ t ∈ f.params.toList, Try.prog.readableRec t = true ∧ t < Try.prog.types.size) : s.post enc Try.prog f false true false false W args (.bool true) W' := by
  have hlt := hW.lt
  have hW' := hW
  obtain ⟨p, q, hA, hV, rfl, hfz, hnd⟩ := hW
  refine ⟨ds, gs, p ++ q, [], p, [], hW', ?_, ?_, ?_, hb.frame _, fun h => by cases h⟩
  · rw [hres, ht]
    exact trodAll_mk1 (shut_bool Try.underlying4 true)
  · rw [hargs]
    exact trodAll_below hb _ _ _ _ hro hA fun x hx => hlt x (List.mem_append_left _ hx)
  · rw [hvars, hv]
    exact rfl
end Go.Proofs.Ytkdpfbefdhjmcaa
