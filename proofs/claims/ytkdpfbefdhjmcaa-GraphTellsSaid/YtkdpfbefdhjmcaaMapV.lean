/- A map keyed by int, as its block holds it: what it tells at a key, and what a look-up, a store by two steps, a store and a delete come to, in whatever world holds that block. -/
import Derived.Test.YtkdpfbefdhjmcaaKit
import Derived.Maps.OwnSet
import Derived.Maps.OwnOps
import Derived.WideKeyEntry
namespace Go.Proofs.Ytkdpfbefdhjmcaa
open Go.RowKit Go.Maps Go.ChangeMaps Go.MapKept
def mapAt (w : World) (b : Nat) (es : Array MapEntry) (ck : Nat) : Prop := w.heap[b]? = some (.map es ck)
set_option maxRecDepth 100000 in
theorem mapAt_drew {w : World} {b : Nat} {es : Array MapEntry} {ck : Nat} : mapAt w.drew b es ck = mapAt w b es ck := rfl
set_option maxRecDepth 100000 in
theorem mapAt_drewN {w : World} {n b : Nat} {es : Array MapEntry} {ck : Nat} : mapAt (w.drewN n) b es ck = mapAt w b es ck := rfl
set_option maxRecDepth 100000 in
theorem mapAt_setCell {w : World} {a : Addr} {v : Value} {b : Nat} {es : Array MapEntry} {ck : Nat} (h : a.block ≠ b) : mapAt (w.setCell a v) b es ck = mapAt w b es ck := by
  unfold mapAt
  simp only [World.setCell]
  rw [Array.getElem?_modify]
  simp [h]
set_option maxRecDepth 100000 in
theorem mapAt_alloc {w : World} {o : Obj} {b : Nat} {es : Array MapEntry} {ck : Nat} (h : b < w.heap.size) : mapAt (w.alloc o) b es ck = mapAt w b es ck := by
  unfold mapAt
  show ((w.heap.push o)[b]? = _) = _
  rw [Array.getElem?_push, if_neg (by omega)]
set_option maxRecDepth 100000 in
theorem mapAt_lt {w : World} {b : Nat} {es : Array MapEntry} {ck : Nat} (h : mapAt w b es ck) : b < w.heap.size := (Array.getElem?_eq_some_iff.1 h).1
set_option maxRecDepth 100000 in
theorem setBlock_drew (w : World) (b : Nat) (o : Obj) : setBlock w.drew b o = (setBlock w b o).drew := rfl
set_option maxRecDepth 100000 in
theorem size_setBlock (w : World) (b : Nat) (o : Obj) : (setBlock w b o).heap.size = w.heap.size := by simp [setBlock]
set_option maxRecDepth 100000 in
theorem heap_setBlock_ne {w : World} {b k : Nat} {o : Obj} (h : b ≠ k) : (setBlock w b o).heap[k]? = w.heap[k]? := by
  simp only [setBlock]; rw [Array.getElem?_setIfInBounds_ne h]
set_option maxRecDepth 100000 in
theorem heap_setBlock_eq {w : World} {b : Nat} {o : Obj} (h : b < w.heap.size) : (setBlock w b o).heap[b]? = some o := by
  simp [setBlock, h]
set_option maxRecDepth 100000 in
theorem mapAt_setBlock {w : World} {b : Nat} {es : Array MapEntry} {ck : Nat} (h : b < w.heap.size) : mapAt (setBlock w b (.map es ck)) b es ck := heap_setBlock_eq h

def updV (m : Int → Option Value) (k : Int) (v : Value) : Int → Option Value := fun x => if x = k then some v else m x
def delV (m : Int → Option Value) (k : Int) : Int → Option Value := fun x => if x = k then none else m x
structure EntV (es : Array MapEntry) (ck : Nat) (m : Int → Option Value) : Prop where
  ent : ∀ x ∈ es.toList, ∃ k, x.key = .int .i64 k ∧ (Lit.int .i64 k).wf = true ∧ m k = some x.val
  cov : ∀ k v, m k = some v → ∃ x ∈ es.toList, x.key = .int .i64 k
  st : Stamped es ck
set_option maxRecDepth 100000 in
theorem EntV.empty (ck : Nat) : EntV #[] ck (fun _ => none) := ⟨by simp, by simp, stamped_empty ck⟩
set_option maxRecDepth 100000 in
theorem keyed3 : Keyed Try.prog 3 := int_keyed Try.underlying3
set_option maxRecDepth 100000 in
theorem EntV.keys {es : Array MapEntry} {ck : Nat} {m : Int → Option Value} (h : EntV es ck m) : ∀ x ∈ es.toList, ∃ l, keyOf Try.prog 3 x.key = some l := by
  intro x hx
  obtain ⟨k, hk, hw, _⟩ := h.ent x hx
  exact ⟨_, by rw [hk]; exact keyOf_int_mk Try.underlying3 hw⟩
set_option maxRecDepth 100000 in
/-- where a key is found -/
theorem EntV.find {es : Array MapEntry} {ck : Nat} {m : Int → Option Value} (h : EntV es ck m) {k : Int} (hw : (Lit.int .i64 k).wf = true) (w : World) :
    ((Instr.findKey 3 (.int .i64 k) es.toList).run Try.prog w = .ok none w ∧ m k = none ∧ ∀ x ∈ es.toList, x.key ≠ .int .i64 k) ∨
    ∃ j e, (Instr.findKey 3 (.int .i64 k) es.toList).run Try.prog w = .ok (some (j, e.val)) w ∧ es.toList[j]? = some e ∧ e.key = .int .i64 k ∧ m k = some e.val := by
  rcases keyed3.find w (keyOf_int_mk Try.underlying3 hw) es.toList h.keys with ⟨h1, h2⟩ | ⟨j, e, h1, h2, h3⟩
  · refine .inl ⟨h1, ?_, h2⟩
    cases hm : m k with
    | none => rfl
    | some v =>
      obtain ⟨x, hx, hk⟩ := h.cov k v hm
      exact absurd hk (h2 x hx)
  · refine .inr ⟨j, e, h1, h2, h3, ?_⟩
    obtain ⟨k', hk', _, hm⟩ := h.ent e (List.mem_of_getElem? h2)
    rw [h3] at hk'
    injection hk' with _ e1
    rw [e1]; exact hm
section
variable {t e : TypeId} {b : Nat} {es : Array MapEntry} {ck : Nat} {m : Int → Option Value} {k : Int}
set_option maxRecDepth 100000 in
/-- 'v, ok := m[k]' -/
theorem run_lookV (ht : Try.prog.underlying t = some (.map 3 e)) {z : Value} (hz : ∀ w : World, (zeroValue e).run Try.prog w = .ok z w) (h : EntV es ck m) (hw : (Lit.int .i64 k).wf = true) {w : World} (hb : mapAt w b es ck) :
    (Instr.lookup t (.map (some b)) (.int .i64 k) true).run Try.prog w = .ok (.tuple #[(m k).getD z, .bool (m k).isSome]) w := by
  have hkey := keyOf_int_mk Try.underlying3 hw
  rcases h.find hw w with ⟨h1, h2, _⟩ | ⟨j, e0, h1, _, _, h2⟩
  · simp [Instr.lookup, run_underlying ht, MapKept.run_getObj_map hb, keyed3.check w _ hkey, h1, hz, h2, Result.andThen]
  · simp [Instr.lookup, run_underlying ht, MapKept.run_getObj_map hb, keyed3.check w _ hkey, h1, h2, Result.andThen]
set_option maxRecDepth 100000 in
/-- 'm[k]' -/
theorem run_lookV1 (ht : Try.prog.underlying t = some (.map 3 e)) {z : Value} (hz : ∀ w : World, (zeroValue e).run Try.prog w = .ok z w) (h : EntV es ck m) (hw : (Lit.int .i64 k).wf = true) {w : World} (hb : mapAt w b es ck) :
    (Instr.lookup t (.map (some b)) (.int .i64 k) false).run Try.prog w = .ok ((m k).getD z) w := by
  have hkey := keyOf_int_mk Try.underlying3 hw
  rcases h.find hw w with ⟨h1, h2, _⟩ | ⟨j, e0, h1, _, _, h2⟩
  · simp [Instr.lookup, run_underlying ht, MapKept.run_getObj_map hb, keyed3.check w _ hkey, h1, hz, h2, Result.andThen]
  · simp [Instr.lookup, run_underlying ht, MapKept.run_getObj_map hb, keyed3.check w _ hkey, h1, h2, Result.andThen]
set_option maxRecDepth 100000 in
theorem EntV.push (h : EntV es ck m) (hw : (Lit.int .i64 k).wf = true) (hn : ∀ x ∈ es.toList, x.key ≠ .int .i64 k) (v : Value) : EntV (es.push ⟨.int .i64 k, v, ck⟩) (ck + 1) (updV m k v) := by
  refine ⟨?_, ?_, stamped_push h.st hn⟩
  · intro x hx
    simp only [Array.toList_push, List.mem_append, List.mem_singleton] at hx
    rcases hx with hx | rfl
    · obtain ⟨k', hk', hw', hm⟩ := h.ent x hx
      refine ⟨k', hk', hw', ?_⟩
      have : k' ≠ k := by rintro rfl; exact hn x hx hk'
      simp [updV, this, hm]
    · exact ⟨k, rfl, hw, by simp [updV]⟩
  · intro k' v' hm
    by_cases hk : k' = k
    · subst hk; exact ⟨⟨.int .i64 k', v, ck⟩, by simp, rfl⟩
    · simp only [updV, hk, if_false] at hm
      obtain ⟨x, hx, hxk⟩ := h.cov k' v' hm
      exact ⟨x, by simp [hx], hxk⟩
set_option maxRecDepth 100000 in
theorem EntV.put (h : EntV es ck m) {j : Nat} {e0 : MapEntry} (hj : es.toList[j]? = some e0) (hk : e0.key = .int .i64 k) (v : Value) : EntV (es.modify j fun x => { x with key := .int .i64 k, val := v }) ck (updV m k v) := by
  have hjl := (List.getElem?_eq_some_iff.1 hj).1
  have hl : (es.modify j fun x => { x with key := .int .i64 k, val := v }).toList = es.toList.set j { e0 with key := .int .i64 k, val := v } := by
    rw [Array.toList_modify, ChangeMaps.modify_eq_set _ _ _ _ hj]
  have hd := h.st.2.2
  refine ⟨?_, ?_, stamped_modify h.st j _ (fun _ _ => rfl) (fun x _ hx => by
    have : es.toList[j]? = some x := by simpa using hx
    rw [hj] at this; obtain rfl := Option.some.inj this; exact hk.symm)⟩
  · intro x hx
    rw [hl] at hx
    obtain ⟨i, hi, rfl⟩ := List.getElem_of_mem hx
    rw [List.length_set] at hi
    rw [List.getElem_set]
    split
    · rename_i e; subst e
      obtain ⟨k', hk', hw', _⟩ := h.ent e0 (List.mem_of_getElem? hj)
      rw [hk] at hk'; injection hk' with _ e1
      exact ⟨k, rfl, by rw [e1]; exact hw', by simp [updV]⟩
    · rename_i hne
      obtain ⟨k', hk', hw', hm⟩ := h.ent es.toList[i] (List.getElem_mem hi)
      refine ⟨k', hk', hw', ?_⟩
      have : k' ≠ k := by
        rintro rfl
        have e1 : (es.toList.map (·.key))[i]'(by simpa using hi) = (es.toList.map (·.key))[j]'(by simpa using hjl) := by
          simp only [List.getElem_map]
          rw [hk']
          have := (List.getElem?_eq_some_iff.1 hj).2
          rw [this, hk]
        have := (List.getElem_inj hd).1 e1
        exact hne this.symm
      simp only [updV, this, if_false]; exact hm
  · intro k' v' hm
    by_cases hkk : k' = k
    · subst hkk
      refine ⟨{ e0 with key := .int .i64 k', val := v }, ?_, rfl⟩
      rw [hl]
      exact List.mem_of_getElem? (i := j) (by rw [List.getElem?_set_self (by simpa using hjl)])
    · simp only [updV, hkk, if_false] at hm
      obtain ⟨x, hx, hxk⟩ := h.cov k' v' hm
      refine ⟨x, ?_, hxk⟩
      rw [hl]
      obtain ⟨i, hi, rfl⟩ := List.getElem_of_mem hx
      have hij : j ≠ i := by
        rintro rfl
        have := (List.getElem?_eq_some_iff.1 hj).2
        rw [this, hk] at hxk; injection hxk with _ e1; exact hkk e1.symm
      exact List.mem_of_getElem? (i := i) (by rw [List.getElem?_set_ne hij, List.getElem?_eq_getElem hi])
set_option maxRecDepth 100000 in
/-- 'm[k] = v' in one step -/
theorem run_putV (ht : Try.prog.underlying t = some (.map 3 e)) (h : EntV es ck m) (hw : (Lit.int .i64 k).wf = true) (v : Value) :
    ∃ es' ck', EntV es' ck' (updV m k v) ∧ ∀ w : World, mapAt w b es ck → (Instr.mapUpdate t (.map (some b)) (.int .i64 k) v).run Try.prog w = .ok () (setBlock w b (.map es' ck')) := by
  have hkey := keyOf_int_mk Try.underlying3 hw
  by_cases hin : ∃ x ∈ es.toList, x.key = .int .i64 k
  · obtain ⟨x, hx, hxk⟩ := hin
    have hF : ∀ w : World, ∃ j e0, (Instr.findKey 3 (.int .i64 k) es.toList).run Try.prog w = .ok (some (j, e0.val)) w ∧ es.toList[j]? = some e0 ∧ e0.key = .int .i64 k := by
      intro w
      rcases h.find hw w with ⟨_, _, h2⟩ | ⟨j, e0, h1, h2, h3, _⟩
      · exact absurd hxk (h2 x hx)
      · exact ⟨j, e0, h1, h2, h3⟩
    obtain ⟨j, hjl, hjx⟩ := List.getElem_of_mem hx
    have hj : es.toList[j]? = some x := by rw [List.getElem?_eq_getElem hjl, hjx]
    refine ⟨_, _, h.put hj hxk v, fun w hb => ?_⟩
    obtain ⟨j', e0, h1, h2, h3⟩ := hF w
    have hjj : j' = j := by
      have hj'l := (List.getElem?_eq_some_iff.1 h2).1
      have e1 : (es.toList.map (·.key))[j']'(by simpa using hj'l) = (es.toList.map (·.key))[j]'(by simpa using hjl) := by
        simp only [List.getElem_map]
        rw [(List.getElem?_eq_some_iff.1 h2).2, h3, hjx, hxk]
      exact (List.getElem_inj h.st.2.2).1 e1
    subst hjj
    have hje : es[j']? = some e0 := by simpa using h2
    simp [Instr.mapUpdate, run_underlying ht, MapKept.run_getObj_map hb, keyed3.check w false hkey, h1, hje, h3, keyed3.stays w hkey, MapKept.run_setObj_map _ hb, Result.andThen, setBlock]
  · have hn : ∀ x ∈ es.toList, x.key ≠ .int .i64 k := fun x hx e => hin ⟨x, hx, e⟩
    refine ⟨_, _, h.push hw hn v, fun w hb => ?_⟩
    rcases h.find hw w with ⟨h1, _, _⟩ | ⟨j, e0, _, h2, h3, _⟩
    · simp [Instr.mapUpdate, run_underlying ht, MapKept.run_getObj_map hb, keyed3.check w false hkey, h1, MapKept.run_setObj_map _ hb, Result.andThen, setBlock]
    · exact absurd h3 (hn e0 (List.mem_of_getElem? h2))
set_option maxRecDepth 100000 in
/-- 'm[k] = v' in two steps: the entry is laid, then its value -/
theorem run_putV2 (ht : Try.prog.underlying t = some (.map 3 e)) {z : Value} (hz : ∀ w : World, (zeroValue e).run Try.prog w = .ok z w) (h : EntV es ck m) (hw : (Lit.int .i64 k).wf = true) (v : Value) :
    ∃ v0 st es1 ck1 es2 ck2, EntV es2 ck2 (updV m k v) ∧ (∀ w : World, mapAt w b es ck → (Instr.mapEntry t (.map (some b)) (.int .i64 k)).run Try.prog w = .ok (.tuple #[v0, .int .i64 st]) (setBlock w b (.map es1 ck1))) ∧
      ∀ w : World, mapAt w b es1 ck1 → (Instr.entryStore t (.map (some b)) (.int .i64 st) v).run Try.prog w = .ok () (setBlock w b (.map es2 ck2)) := by
  have hkey := keyOf_int_mk Try.underlying3 hw
  obtain ⟨s1, s2, s3⟩ := h.st
  by_cases hin : ∃ x ∈ es.toList, x.key = .int .i64 k
  · obtain ⟨x, hx, hxk⟩ := hin
    obtain ⟨j, hjl, hjx⟩ := List.getElem_of_mem hx
    have hj : es.toList[j]? = some x := by rw [List.getElem?_eq_getElem hjl, hjx]
    have hsame : es.modify j (fun e => { e with key := .int .i64 k }) = es := by
      apply Array.ext'
      rw [Array.toList_modify, ChangeMaps.modify_eq_set _ _ _ _ hj]
      have : ({ x with key := .int .i64 k } : MapEntry) = x := by rw [← hxk]
      rw [this]
      exact WideElems.set_self _ _ _ hj
    refine ⟨x.val, x.born, es, ck, _, _, h.put hj hxk v, fun w hb => ?_, fun w hb => ?_⟩
    · rcases h.find hw w with ⟨_, _, h2⟩ | ⟨j', e0, h1, h2, h3, _⟩
      · exact absurd hxk (h2 x hx)
      · have hjj : j' = j := by
          have hj'l := (List.getElem?_eq_some_iff.1 h2).1
          have e1 : (es.toList.map (·.key))[j']'(by simpa using hj'l) = (es.toList.map (·.key))[j]'(by simpa using hjl) := by
            simp only [List.getElem_map]
            rw [(List.getElem?_eq_some_iff.1 h2).2, h3, hjx, hxk]
          exact (List.getElem_inj s3).1 e1
        subst hjj
        rw [hj] at h2; obtain rfl := Option.some.inj h2
        have hje : es[j']? = some x := by simpa using hj
        simp [Instr.mapEntry, run_underlying ht, MapKept.run_getObj_map hb, keyed3.check w false hkey, h1, hje, hxk, keyed3.stays w hkey, hsame, MapKept.run_setObj_map _ hb, Result.andThen, setBlock, goInt]
    · have hidx : es.findIdx? (fun e => ((e.born : Nat) : Int) == ((x.born : Nat) : Int)) = some j := by
        rw [WideElems.findIdx_arr]
        exact WideElems.findIdx_born s2 hj
      have hmod : es.modify j (fun e => { e with val := v }) = es.modify j (fun e' => { e' with key := .int .i64 k, val := v }) := by
        apply Array.ext'
        rw [Array.toList_modify, Array.toList_modify, ChangeMaps.modify_eq_set _ _ _ _ hj, ChangeMaps.modify_eq_set _ _ _ _ hj, ← hxk]
      simp [Instr.entryStore, MapKept.run_getObj_map hb, asInt, asIntOf, hidx, hmod, MapKept.run_setObj_map _ hb, Result.andThen, setBlock]
  · have hn : ∀ x ∈ es.toList, x.key ≠ .int .i64 k := fun x hx e => hin ⟨x, hx, e⟩
    refine ⟨z, ck, es.push ⟨.int .i64 k, z, ck⟩, ck + 1, es.push ⟨.int .i64 k, v, ck⟩, ck + 1, h.push hw hn v, fun w hb => ?_, fun w hb => ?_⟩
    · rcases h.find hw w with ⟨h1, _, _⟩ | ⟨j, e0, _, h2, h3, _⟩
      · simp [Instr.mapEntry, run_underlying ht, MapKept.run_getObj_map hb, keyed3.check w false hkey, h1, hz, MapKept.run_setObj_map _ hb, Result.andThen, setBlock, goInt]
      · exact absurd h3 (hn e0 (List.mem_of_getElem? h2))
    · have hidx : (es.push ⟨.int .i64 k, z, ck⟩).findIdx? (fun e => ((e.born : Nat) : Int) == ((ck : Nat) : Int)) = some es.size := by
        rw [WideElems.findIdx_arr]
        exact WideElems.findIdx_born (l := (es.push ⟨.int .i64 k, z, ck⟩).toList) (j := es.size) (e0 := ⟨.int .i64 k, z, ck⟩) (by
          simp only [Array.toList_push, List.map_append, List.map_cons, List.map_nil]
          refine List.nodup_append.2 ⟨s2, by simp, fun a ha c hc e1 => ?_⟩
          simp only [List.mem_singleton] at hc
          obtain ⟨x, hx, rfl⟩ := List.mem_map.1 ha
          have := s1 x hx
          omega) (by simp)
      have hmod : (es.push ⟨.int .i64 k, z, ck⟩).modify es.size (fun e => { e with val := v }) = es.push ⟨.int .i64 k, v, ck⟩ := by
        apply Array.ext'
        rw [Array.toList_modify, Array.toList_push, Array.toList_push, ← Array.length_toList, WideElems.modify_last]
      simp [Instr.entryStore, MapKept.run_getObj_map hb, asInt, asIntOf, hidx, hmod, MapKept.run_setObj_map _ hb, Result.andThen, setBlock]
set_option maxRecDepth 100000 in
/-- 'delete(m, k)' -/
theorem run_delV (ht : Try.prog.underlying t = some (.map 3 e)) (h : EntV es ck m) (hw : (Lit.int .i64 k).wf = true) (ty : TypeId) :
    ∃ es', EntV es' ck (delV m k) ∧ ∀ w : World, mapAt w b es ck → (Builtin.delete_ #[t, 3] ty #[.map (some b), .int .i64 k]).run Try.prog w = .ok (.tuple #[]) (setBlock w b (.map es' ck)) := by
  have hkey := keyOf_int_mk Try.underlying3 hw
  by_cases hin : ∃ x ∈ es.toList, x.key = .int .i64 k
  · obtain ⟨x, hx, hxk⟩ := hin
    obtain ⟨j, hjl, hjx⟩ := List.getElem_of_mem hx
    have hjs : j < es.size := by simpa using hjl
    have hsub : (es.eraseIdxIfInBounds j).toList = es.toList.eraseIdx j := by
      unfold Array.eraseIdxIfInBounds
      rw [dif_pos hjs]
      simp
    have hnk : ∀ y ∈ es.toList.eraseIdx j, y.key ≠ .int .i64 k := by
      intro y hy e
      rw [List.mem_eraseIdx_iff_getElem] at hy
      obtain ⟨i, hi, hne, rfl⟩ := hy
      have e1 : (es.toList.map (·.key))[i]'(by simpa using hi) = (es.toList.map (·.key))[j]'(by simpa using hjl) := by
        simp only [List.getElem_map]
        rw [e, hjx, hxk]
      exact hne ((List.getElem_inj h.st.2.2).1 e1)
    refine ⟨es.eraseIdxIfInBounds j, ⟨?_, ?_, stamped_erase h.st j⟩, fun w hb => ?_⟩
    · intro y hy
      rw [hsub] at hy
      obtain ⟨k', hk', hw', hm⟩ := h.ent y ((List.eraseIdx_sublist _ _).subset hy)
      refine ⟨k', hk', hw', ?_⟩
      have : k' ≠ k := by rintro rfl; exact hnk y hy hk'
      simp only [delV, this, if_false]; exact hm
    · intro k' v' hm
      have hkk : k' ≠ k := by rintro rfl; simp [delV] at hm
      simp only [delV, hkk, if_false] at hm
      obtain ⟨y, hy, hyk⟩ := h.cov k' v' hm
      refine ⟨y, ?_, hyk⟩
      rw [hsub, List.mem_eraseIdx_iff_getElem]
      obtain ⟨i, hi, rfl⟩ := List.getElem_of_mem hy
      refine ⟨i, hi, ?_, rfl⟩
      rintro rfl
      rw [hjx, hxk] at hyk; injection hyk with _ e1; exact hkk e1.symm
    · rcases h.find hw w with ⟨_, _, h2⟩ | ⟨j', e0, h1, h2, h3, _⟩
      · exact absurd hxk (h2 x hx)
      · have hjj : j' = j := by
          have hj'l := (List.getElem?_eq_some_iff.1 h2).1
          have e1 : (es.toList.map (·.key))[j']'(by simpa using hj'l) = (es.toList.map (·.key))[j]'(by simpa using hjl) := by
            simp only [List.getElem_map]
            rw [(List.getElem?_eq_some_iff.1 h2).2, h3, hjx, hxk]
          exact (List.getElem_inj h.st.2.2).1 e1
        subst hjj
        simp [Builtin.delete_, run_underlying ht, MapKept.run_getObj_map hb, keyed3.check w _ hkey, h1, MapKept.run_setObj_map _ hb, Result.andThen, setBlock]
  · have hn : ∀ x ∈ es.toList, x.key ≠ .int .i64 k := fun x hx e => hin ⟨x, hx, e⟩
    refine ⟨es, ⟨?_, ?_, h.st⟩, fun w hb => ?_⟩
    · intro y hy
      obtain ⟨k', hk', hw', hm⟩ := h.ent y hy
      refine ⟨k', hk', hw', ?_⟩
      have : k' ≠ k := by rintro rfl; exact hn y hy hk'
      simp only [delV, this, if_false]; exact hm
    · intro k' v' hm
      have hkk : k' ≠ k := by rintro rfl; simp [delV] at hm
      simp only [delV, hkk, if_false] at hm
      exact h.cov k' v' hm
    · rcases h.find hw w with ⟨h1, _, _⟩ | ⟨j', e0, h1, h2, h3, _⟩
      · simp [Builtin.delete_, run_underlying ht, MapKept.run_getObj_map hb, keyed3.check w _ hkey, h1, MapKept.run_setObj_map _ hb, Result.andThen, setBlock]
      · exact absurd h3 (hn e0 (List.mem_of_getElem? h2))
end
end Go.Proofs.Ytkdpfbefdhjmcaa
