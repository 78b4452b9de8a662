/- heap.Heap's Len, Key, Push, Pop, said of its parts. -/
import Derived.Test.YtkdpfbefdhjmcaaHeapDown
import Derived.Maps.AppendAt
set_option linter.unusedVariables false
set_option linter.unusedSimpArgs false
namespace Go.Proofs.Ytkdpfbefdhjmcaa
open Go.RowKit Go.Maps Go.ChangeMaps Go.MapKept HeapP
theorem infoItem : (Try.prog.info? 88).map (fun i => (i.zero, i.size, i.bytes)) = some (some (.agg #[.int .i64 0, .int .i64 0]), 2, 16) := by kernel_rfl
def Head (w : World) (hb : Nat) (lv mv : Value) : Prop := w.heap[hb]? = some (.cells #[lv, mv] 28 (0, 0))
theorem Head.c0 {w : World} {hb : Nat} {lv mv : Value} (h : Head w hb lv mv) : w.cell? ⟨hb, 0, none⟩ = some lv := by unfold Head at h; simp [World.cell?, h]
theorem Head.c1 {w : World} {hb : Nat} {lv mv : Value} (h : Head w hb lv mv) : w.cell? ⟨hb, 1, none⟩ = some mv := by unfold Head at h; simp [World.cell?, h]
theorem Head.fr {w : World} {hb : Nat} {lv mv : Value} (h : Head w hb lv mv) (o : Nat) : w.frozen? ⟨hb, o, none⟩ = false := by unfold Head at h; simp [World.frozen?, h]
theorem Head.lt {w : World} {hb : Nat} {lv mv : Value} (h : Head w hb lv mv) : hb < w.heap.size := (Array.getElem?_eq_some_iff.1 h).1
theorem InR.head {w : World} {hb lb mb cap : Nat} {l : List It} {m : Int → Option Nat} (h : InR w hb lb mb cap l m) : Head w hb (.slice (some ⟨lb, 0, none⟩) l.length cap) (.map (some mb)) := h.hd
set_option maxHeartbeats 1000000 in
theorem len_any {w : World} {hb n cap : Nat} {A : Option Addr} {mv : Value} (h : Head w hb (.slice A n cap) mv) : Calls Try.prog 13 #[.pointer (some ⟨hb, 0, none⟩)] w fun e w' => e = .returned (.int .i64 n) ∧ w = w' := by
  have c0 := h.c0
  go_enter Try.func13, Try.ntmps13
  go_wp2
  go_ret
  exact ⟨rfl, rfl⟩
set_option maxHeartbeats 1000000 in
theorem len_nil (w : World) : Calls Try.prog 13 #[.pointer none] w fun e w' => e = .returned (.int .i64 0) ∧ w = w' := by
  go_enter Try.func13, Try.ntmps13
  go_wp2
  go_ret
  exact ⟨rfl, rfl⟩
set_option maxHeartbeats 1000000 in
theorem key_empty {w : World} {hb : Nat} {lv : Value} (h : Head w hb lv (.map none)) {id : Int} (hw : (Lit.int .i64 id).wf = true) :
    Calls Try.prog 11 #[.pointer (some ⟨hb, 0, none⟩), .int .i64 id] w fun e w' => e = .returned (.tuple #[.int .i64 0, .bool false]) ∧ w = w' := by
  have c1 := h.c1
  have hrun := look_nil (w := w) (t := 26) true keyed3 Try.underlying26 (zeroInt _) (keyOf_int_mk Try.underlying3 hw)
  go_enter Try.func11, Try.ntmps11
  go_wp2
  go_ret2
  exact ⟨rfl, rfl⟩
set_option maxHeartbeats 1000000 in
theorem key_none {w : World} {hb lb mb cap : Nat} {l : List It} {m : Int → Option Nat} (h : InR w hb lb mb cap l m) {id : Int} (hw : (Lit.int .i64 id).wf = true) (hm : m id = none) :
    Calls Try.prog 11 #[.pointer (some ⟨hb, 0, none⟩), .int .i64 id] w fun e w' => e = .returned (.tuple #[.int .i64 0, .bool false]) ∧ w = w' := by
  have c1 := h.c1
  obtain ⟨es, ck, hmb, hes⟩ := h.map
  have hrun := run_lookV (t := 26) Try.underlying26 zeroInt hes hw hmb
  rw [show toV m id = none by simp [toV, hm]] at hrun
  simp only [Option.getD_none, Option.isSome_none] at hrun
  clear hes hmb h hm
  go_enter Try.func11, Try.ntmps11
  go_wp2
  go_ret2
  exact ⟨rfl, rfl⟩
set_option maxHeartbeats 1000000 in
theorem key_some {w : World} {hb lb mb cap : Nat} {l : List It} {m : Int → Option Nat} (h : InR w hb lb mb cap l m) {id : Int} (hw : (Lit.int .i64 id).wf = true) {j : Nat} (hm : m id = some j) (hj : j < l.length) :
    Calls Try.prog 11 #[.pointer (some ⟨hb, 0, none⟩), .int .i64 id] w fun e w' => e = .returned (.tuple #[.int .i64 (g l j).2, .bool true]) ∧ w = w' := by
  have c0 := h.c0
  have c1 := h.c1
  have y1 := h.i1 hj
  obtain ⟨es, ck, hmb, hes⟩ := h.map
  have hrun := run_lookV (t := 26) Try.underlying26 zeroInt hes hw hmb
  rw [show toV m id = some (.int .i64 j) by simp [toV, hm]] at hrun
  simp only [Option.getD_some, Option.isSome_some] at hrun
  have hl := h.len
  have hn : l.length ≤ 9223372036854775807 := by have := hl.1; have := hl.2; unfold maxLen at this; omega
  clear hes hmb h hm hl
  go_enter Try.func11, Try.ntmps11
  go_wp2
  go_ret2
  exact ⟨rfl, rfl⟩
set_option maxHeartbeats 1000000 in
theorem push_nil (id key : Int) (w : World) : Calls Try.prog 9 #[.pointer none, .int .i64 id, .int .i64 key] w fun e w' => e = .returned (.bool false) ∧ w = w' := by
  go_enter Try.func9, Try.ntmps9
  go_wp2
  go_ret
  exact ⟨rfl, rfl⟩
set_option maxRecDepth 100000 in
set_option maxHeartbeats 1000000 in
theorem push_no {w : World} {hb lb mb cap : Nat} {l : List It} {m : Int → Option Nat} (h : InR w hb lb mb cap l m) {id key : Int} (hw : (Lit.int .i64 id).wf = true) {j : Nat} (hm : m id = some j) (hj : j < l.length) (hk : (g l j).2 ≤ key) :
    Calls Try.prog 9 #[.pointer (some ⟨hb, 0, none⟩), .int .i64 id, .int .i64 key] w fun e w' => e = .returned (.bool false) ∧ w = w' := by
  have c0 := h.c0
  have c1 := h.c1
  have y1 := h.i1 hj
  obtain ⟨es, ck, hmb, hes⟩ := h.map
  have hrun := run_lookV (t := 26) Try.underlying26 zeroInt hes hw hmb
  rw [show toV m id = some (.int .i64 j) by simp [toV, hm]] at hrun
  simp only [Option.getD_some, Option.isSome_some] at hrun
  have hl := h.len
  have hn : l.length ≤ 9223372036854775807 := by have := hl.1; have := hl.2; unfold maxLen at this; omega
  clear hes hmb h hm hl
  have heq := Go.run_eql_map_nil (P := Try.prog) w 26 3 3 (some mb) Try.underlying26
  go_enter Try.func9, Try.ntmps9
  go_wp2
  go_ret
  exact ⟨rfl, rfl⟩
/-- one item's key is written -/
theorem InR.setKey {w : World} {hb lb mb cap : Nat} {l : List It} {m : Int → Option Nat} (h : InR w hb lb mb cap l m) {j : Nat} (hj : j < l.length) {id key : Int} (hid : (g l j).1 = id) (hk : (Lit.int .i64 key).wf = true) :
    InR (w.setCell ⟨lb, j * 2 + 1, none⟩ (.int .i64 key)) hb lb mb cap (l.set j (id, key)) m := by
  obtain ⟨a1, a2, a3⟩ := h.apart
  have hfl : (flat l).set (j * 2 + 1) (.int .i64 key) = flat (l.set j (id, key)) := by
    rw [← flat_set]
    congr 1
    have hl : j * 2 < (flat l).length := by rw [flat_length]; omega
    have h0 := flat_get0 l j hj
    rw [List.getElem?_eq_getElem hl] at h0
    have h0' := Option.some.inj h0
    rw [hid] at h0'
    rw [← h0', List.set_getElem_self]
  have hr := (h.row.stored (j * 2 + 1) (.int .i64 key)).1
  rw [hfl] at hr
  refine ⟨?_, ?_, ?_, ?_⟩
  · rw [List.length_set, heap_setCell_ne (Ne.symm a1)]; exact h.hd
  · rw [List.length_set]; exact hr
  · obtain ⟨es, ck, hmb, hes⟩ := h.map
    exact ⟨es, ck, by rw [mapAt_setCell a3]; exact hmb, hes⟩
  · intro y hy
    rcases List.mem_or_eq_of_mem_set hy with h1 | rfl
    · exact h.wf y h1
    · exact ⟨by rw [← hid]; exact (h.wf _ (g_mem hj)).1, hk⟩
set_option maxRecDepth 100000 in
set_option maxHeartbeats 2000000 in
theorem push_lower {w : World} {hb lb mb cap : Nat} {l : List It} {m : Int → Option Nat} (h : InR w hb lb mb cap l m) {id key : Int} (hw : (Lit.int .i64 id).wf = true) (hwk : (Lit.int .i64 key).wf = true) {j : Nat} (hm : m id = some j) (hj : j < l.length) (hid : (g l j).1 = id) (hk : key < (g l j).2) :
    Calls Try.prog 9 #[.pointer (some ⟨hb, 0, none⟩), .int .i64 id, .int .i64 key] w fun e w' => e = .returned (.bool true) ∧
      InR w' hb lb mb cap (upS (id, key) (l.set j (id, key)) m j).1 (upS (id, key) (l.set j (id, key)) m j).2 ∧ Upd (fun k => k = lb ∨ k = mb) w w' := by
  have c0 := h.c0
  have c1 := h.c1
  have y1 := h.i1 hj
  have f1 := h.row.frozenAt (j * 2 + 1)
  obtain ⟨a1, a2, a3⟩ := h.apart
  obtain ⟨es, ck, hmb, hes⟩ := h.map
  have hrun := run_lookV (t := 26) Try.underlying26 zeroInt hes hw hmb
  rw [show toV m id = some (.int .i64 j) by simp [toV, hm]] at hrun
  simp only [Option.getD_some, Option.isSome_some] at hrun
  have hl := h.len
  have hn : l.length ≤ 9223372036854775807 := by have := hl.1; have := hl.2; unfold maxLen at this; omega
  have hset := h.setKey hj hid hwk
  have HS := Lib.hid hset
  have HG : Hid (g (l.set j (id, key)) j = (id, key)) := Lib.hid (g_set_eq hj)
  have HJ : Hid (j < (l.set j (id, key)).length) := Lib.hid (by simpa using hj)
  clear hes hmb h hm hl hset hid
  have heq := Go.run_eql_map_nil (P := Try.prog) w 26 3 3 (some mb) Try.underlying26
  go_enter Try.func9, Try.ntmps9
  go_wp2_with fail
  refine (up_any HS.out HJ.out).mono ?_
  rintro e w2 ⟨rfl, hr2, hu2⟩
  have HR2 := Lib.hid hr2
  have HU2 := Lib.hid hu2
  clear hr2 hu2
  go_wp2_with fail
  go_ret
  refine ⟨rfl, ?_, ?_⟩
  · have := HR2.out; rw [HG.out] at this; exact this
  · exact (upd_setCell (Upd.refl _ _) (.inl rfl) _).trans HU2.out fun _ _ h => h
/-- the row has grown by one -/
theorem InR.grown {w W : World} {hb lb mb cap : Nat} {l : List It} {m : Int → Option Nat} (h : InR w hb lb mb cap l m) {x : It} (hx : Wf x) {lb' cap' : Nat} {F : Nat → Prop} (hu : Upd F w W) (hF : ∀ k, F k → k = lb) (hrow : W.ownsRow 0 88 2 (.slice (some ⟨lb', 0, none⟩) (l.length + 1) cap') (l.length + 1) (flat l ++ [.int .i64 x.1, .int .i64 x.2])) :
    InR (W.setCell ⟨hb, 0, none⟩ (.slice (some ⟨lb', 0, none⟩) (l.length + 1) cap')) hb lb' mb cap' (l ++ [x]) m := by
  obtain ⟨a1, a2, a3⟩ := h.apart
  obtain ⟨s1, s2, s3⟩ := h.sizes
  have hh : W.heap[hb]? = some (.cells #[.slice (some ⟨lb, 0, none⟩) l.length cap, .map (some mb)] 28 (0, 0)) := (hu.block hb s1 (fun e => a1 (hF _ e))).trans h.hd
  have hm : W.heap[mb]? = w.heap[mb]? := hu.block mb s3 (fun e => a3 (hF _ e).symm)
  have hne : hb ≠ lb' := by
    rintro rfl
    rcases hrow.2 with ⟨e, _⟩ | ⟨g, c, cur, e, _, h2, _⟩
    · cases e
    · simp only [Value.slice.injEq, Option.some.injEq, Addr.mk.injEq, and_true] at e
      obtain ⟨rfl, _⟩ := e
      rw [hh] at h2; simp at h2
  refine ⟨?_, ⟨?_, ?_⟩, ?_, ?_⟩
  · rw [List.length_append]
    simp only [World.setCell]
    rw [Array.getElem?_modify]
    simp [hh]
  · rw [flat_length]
  · rw [List.length_append, flat_append]
    rcases hrow.2 with ⟨e, _⟩ | ⟨g, c, cur, e, r⟩
    · cases e
    · refine .inr ⟨g, c, cur, e, ?_⟩
      simp only [Value.slice.injEq, Option.some.injEq, Addr.mk.injEq, and_true] at e
      obtain ⟨rfl, _⟩ := e
      rw [heap_setCell_ne hne]; exact r
  · obtain ⟨es, ck, hmb, hes⟩ := h.map
    exact ⟨es, ck, by rw [mapAt_setCell a2]; exact hm.trans hmb, hes⟩
  · intro y hy
    rcases List.mem_append.1 hy with h1 | h1
    · exact h.wf y h1
    · rw [List.mem_singleton.1 h1]; exact hx
theorem own_formH {w : World} {e : TypeId} {size n : Nat} {v : Value} {xs : List Value} (h : w.ownsRow 0 e size v n xs) (hn : 0 < n) : ∃ g cap, v = .slice (some ⟨g, 0, none⟩) n cap := by
  rcases h.2 with ⟨_, h0⟩ | ⟨g, c, cur, e, _⟩
  · omega
  · exact ⟨g, c, e⟩
theorem upd_grown {w W w1 : World} {row : Option Nat} (hu : Upd (fun _ => False) w W) (hg : W.grownBy w1 row) : Upd (fun k => some k = row) w w1 :=
  ⟨hg.os.trans hu.os, hg.tape.trans hu.tape, hg.output.trans hu.output, Nat.le_trans hu.size hg.size, fun k hk hn => (hg.block k (Nat.lt_of_lt_of_le hk hu.size) hn).trans (hu.block k hk id)⟩
set_option maxRecDepth 100000 in
set_option maxHeartbeats 4000000 in
theorem push_fresh {w : World} {hb lb mb cap : Nat} {l : List It} {m : Int → Option Nat} (h : InR w hb lb mb cap l m) {id key : Int} (hw : (Lit.int .i64 id).wf = true) (hwk : (Lit.int .i64 key).wf = true) (hm : m id = none) (hsmall : l.length ≤ 1099511627776) :
    Calls Try.prog 9 #[.pointer (some ⟨hb, 0, none⟩), .int .i64 id, .int .i64 key] w fun e w' => e = .returned (.bool true) ∧
      ∃ lb' cap', InR w' hb lb' mb cap' (upS (id, key) (l ++ [(id, key)]) m l.length).1 (upS (id, key) (l ++ [(id, key)]) m l.length).2 ∧ (lb' = lb ∨ w.heap.size ≤ lb') ∧ Upd (fun k => k = hb ∨ k = lb ∨ k = mb) w w' := by
  have hh := h.head
  have c0 := h.c0
  have c1 := h.c1
  obtain ⟨a1, a2, a3⟩ := h.apart
  obtain ⟨s1, s2, s3⟩ := h.sizes
  obtain ⟨es, ck, hmb, hes⟩ := h.map
  have hrun := run_lookV (t := 26) Try.underlying26 zeroInt hes hw hmb
  rw [show toV m id = none by simp [toV, hm]] at hrun
  simp only [Option.getD_none, Option.isSome_none] at hrun
  obtain ⟨i0, hi, hz0, hz1, hz2⟩ := info_parts infoItem
  have HR := Lib.hid h
  have HH := Lib.hid hh
  have HWF : Hid (Wf (id, key)) := Lib.hid ⟨hw, hwk⟩
  have HI := Lib.hid (And.intro hi (And.intro hz0 (And.intro hz1 hz2)))
  clear hes hmb h hm hh hw hwk hi hz0 hz1 hz2
  have heq := Go.run_eql_map_nil (P := Try.prog) w 26 3 3 (some mb) Try.underlying26
  go_enter Try.func9, Try.ntmps9
  go_wp2_with (at_builtin; refine wpList_append_own_at _ rfl _ _ 25 rfl 0 88 i0 (.agg #[.int .i64 0, .int .i64 0]) 2 16 Try.underlying25 HI.out.1 HI.out.2.1 HI.out.2.2.1 HI.out.2.2.2 rfl (by decide) _ _ _ rfl (HR.out.row.alloc _) ⟨w.heap.size, 0, none⟩ 1 1 [.int .i64 id, .int .i64 key] rfl rfl ?c1 ?c2 ?c3 ?c4 ?c5 ?_)
  case c1 => exact cell_two_new _ _ _ _
  case c2 => intro u hu; simp only [List.mem_cons, List.not_mem_nil, or_false] at hu; rcases hu with rfl | rfl <;> rfl
  case c3 => unfold maxLen; omega
  case c4 => omega
  case c5 => omega
  intro v' w1 hown' hgrow _ hloc
  obtain ⟨lb', cap', hv⟩ := own_formH hown' (by omega)
  rw [hv] at hown' hloc ⊢
  have hu1 : Upd (fun k => some k = some lb) w w1 := upd_grown (upd_alloc (Upd.refl _ _) _) hgrow
  have hloc' : lb' = lb ∨ w.heap.size ≤ lb' := by
    simp only [Value.ownBlock, Option.some.injEq, size_alloc] at hloc; omega
  have hin2 := HR.out.grown HWF.out hu1 (fun k e => by simpa using e) hown'
  have hd1 : Head w1 hb (.slice (some ⟨lb, 0, none⟩) l.length cap) (.map (some mb)) := (hu1.block hb s1 (fun e => a1 (by simpa using e))).trans HH.out
  have hj : l.length < (l ++ [((id, key) : It)]).length := by simp
  have hg2 : g (l ++ [((id, key) : It)]) l.length = (id, key) := g_append_last l (id, key)
  have hin3 := hin2.setKey hj (id := id) (key := key) (by rw [hg2]) HWF.out.2
  rw [set_append_last] at hin3
  have d0 := hd1.c0
  have d0f := hd1.fr 0
  have e0 := hin2.c0
  have e1 := hin2.i1 hj
  have f1 := hin2.row.frozenAt (l.length * 2 + 1)
  rw [hg2] at e1
  rw [List.length_append, List.length_singleton] at e0
  have hne : hb ≠ lb' := hin2.apart.1
  have HL := Lib.hid hloc'
  have HIN3 := Lib.hid hin3
  have HJ := Lib.hid hj
  have HG2 := Lib.hid hg2
  have HU1 := Lib.hid hu1
  clear hloc' hin3 hin2 hd1 hj hg2 hu1 hgrow hown' hloc hv c0 c1 hrun heq
  go_wp2_with fail
  refine (up_any HIN3.out HJ.out).mono ?_
  rintro e w4 ⟨rfl, hr4, hu4⟩
  have HR4 := Lib.hid hr4
  have HU4 := Lib.hid hu4
  clear hr4 hu4
  go_wp2_with fail
  go_ret
  refine ⟨rfl, lb', cap', ?_, HL.out, ?_⟩
  · have := HR4.out; rw [HG2.out] at this; exact this
  · have hlo := HL.out
    have u1 : Upd (fun k => k = hb ∨ k = lb ∨ k = mb) w w1 := HU1.out.mono fun k _ e => .inr (.inl (by simpa using e))
    have u2 : Upd (fun k => k = hb ∨ k = lb' ∨ k = mb) w1 _ := upd_setCell (upd_setCell (Upd.refl _ w1) (a := ⟨hb, 0, none⟩) (.inl rfl) (.slice (some ⟨lb', 0, none⟩) (l.length + 1) cap')) (a := ⟨lb', l.length * 2 + 1, none⟩) (.inr (.inl rfl)) (.int .i64 key)
    refine u1.trans (u2.trans (HU4.out.mono fun k _ e => ?_) fun _ _ h => h) fun k hk e => ?_
    · exact .inr e
    · omega
theorem InR.first {W : World} {hb lb mb cap : Nat} {lv : Value} {x : It} (hx : Wf x) (hd : Head W hb lv (.map (some mb))) (hmap : mapAt W mb #[] 0)
    (hrow : W.ownsRow 0 88 2 (.slice (some ⟨lb, 0, none⟩) 1 cap) 1 [.int .i64 x.1, .int .i64 x.2]) : InR (W.setCell ⟨hb, 0, none⟩ (.slice (some ⟨lb, 0, none⟩) 1 cap)) hb lb mb cap [x] (fun _ => none) := by
  unfold Head at hd
  have hne : hb ≠ lb := by
    rintro rfl
    rcases hrow.2 with ⟨e, _⟩ | ⟨g, c, cur, e, _, h2, _⟩
    · cases e
    · simp only [Value.slice.injEq, Option.some.injEq, Addr.mk.injEq, and_true] at e
      obtain ⟨rfl, _⟩ := e
      rw [hd] at h2; simp at h2
  have hnm : hb ≠ mb := by rintro rfl; unfold mapAt at hmap; rw [hd] at hmap; simp at hmap
  refine ⟨?_, ⟨hrow.1, ?_⟩, ⟨#[], 0, by rw [mapAt_setCell hnm]; exact hmap, EntV.empty 0⟩, ?_⟩
  · simp only [World.setCell]
    rw [Array.getElem?_modify]
    simp [hd]
  · rcases hrow.2 with ⟨e, _⟩ | ⟨g, c, cur, e, r⟩
    · cases e
    · refine .inr ⟨g, c, cur, e, ?_⟩
      simp only [Value.slice.injEq, Option.some.injEq, Addr.mk.injEq, and_true] at e
      obtain ⟨rfl, _⟩ := e
      rw [heap_setCell_ne hne]; exact r
  · intro y hy
    rw [List.mem_singleton.1 hy]; exact hx
set_option maxRecDepth 100000 in
set_option maxHeartbeats 4000000 in
theorem push_first {w : World} {hb : Nat} (hh : Head w hb (.slice none 0 0) (.map none)) {id key : Int} (hw : (Lit.int .i64 id).wf = true) (hwk : (Lit.int .i64 key).wf = true) :
    Calls Try.prog 9 #[.pointer (some ⟨hb, 0, none⟩), .int .i64 id, .int .i64 key] w fun e w' => e = .returned (.bool true) ∧
      ∃ lb' mb' cap', InR w' hb lb' mb' cap' (upS (id, key) [(id, key)] (fun _ => none) 0).1 (upS (id, key) [(id, key)] (fun _ => none) 0).2 ∧ w.heap.size ≤ lb' ∧ w.heap.size ≤ mb' ∧ Upd (fun k => k = hb) w w' := by
  have s1 := hh.lt
  have c0 := hh.c0
  have c1 := hh.c1
  have f1 := hh.fr 1
  have hmm := @run_makeMap Try.prog
  have heq := Go.run_eql_map_nil (P := Try.prog) w 26 3 3 none Try.underlying26
  obtain ⟨i0, hi, hz0, hz1, hz2⟩ := info_parts infoItem
  have hmap : mapAt ((w.setCell ⟨hb, 1, none⟩ (.map (some w.heap.size))).alloc (.map #[] 0)) w.heap.size #[] 0 := by
    have := heap_alloc_eq (w.setCell ⟨hb, 1, none⟩ (.map (some w.heap.size))) (.map #[] 0)
    rw [size_setCell] at this
    exact this
  have hrun := run_lookV (t := 26) Try.underlying26 zeroInt (EntV.empty 0) hw hmap
  simp only [Option.getD_none, Option.isSome_none] at hrun
  have HH := Lib.hid hh
  have HWF : Hid (Wf (id, key)) := Lib.hid ⟨hw, hwk⟩
  have HI := Lib.hid (And.intro hi (And.intro hz0 (And.intro hz1 hz2)))
  clear hh hw hwk hi hz0 hz1 hz2 hmap
  go_enter Try.func9, Try.ntmps9
  go_wp2_with (at_builtin; refine wpList_append_own_at _ rfl _ _ 25 rfl 0 88 i0 (.agg #[.int .i64 0, .int .i64 0]) 2 16 Try.underlying25 HI.out.1 HI.out.2.1 HI.out.2.2.1 HI.out.2.2.2 rfl (by decide) (.slice none 0 0) 0 [] rfl (World.ownsRow_nil _ _ _ _) ⟨w.heap.size + 1, 0, none⟩ 1 1 [.int .i64 id, .int .i64 key] rfl rfl ?c1 ?c2 ?c3 ?c4 ?c5 ?_)
  case c1 =>
    have e : w.heap.size + 1 = ((w.setCell ⟨hb, 1, none⟩ (.map (some w.heap.size))).alloc (.map #[] 0)).heap.size := by rw [size_alloc, size_setCell]
    rw [e]
    exact cell_two_new _ _ _ _
  case c2 => intro u hu; simp only [List.mem_cons, List.not_mem_nil, or_false] at hu; rcases hu with rfl | rfl <;> rfl
  case c3 => unfold maxLen; omega
  case c4 => omega
  case c5 => omega
  intro v' w1 hown' hgrow _ hloc
  try simp only [Nat.zero_add, List.nil_append] at hown'
  obtain ⟨lb', cap', hv⟩ := own_formH hown' (by omega)
  rw [hv] at hown' hloc ⊢
  have hloc' : w.heap.size ≤ lb' := by
    simp only [Value.ownBlock, Option.some.injEq, size_alloc, size_setCell, reduceCtorEq, false_or] at hloc; omega
  have hgr : ∀ k, k < w.heap.size + 1 → w1.heap[k]? = ((w.setCell ⟨hb, 1, none⟩ (.map (some w.heap.size))).alloc (.map #[] 0)).heap[k]? := fun k hk =>
    (hgrow.block k (by rw [size_alloc, size_alloc, size_setCell]; omega) (by simp [Value.ownBlock])).trans (heap_alloc_lt (by rw [size_alloc, size_setCell]; omega))
  have hd1 : Head w1 hb (.slice none 0 0) (.map (some w.heap.size)) := by
    have h1 := HH.out
    unfold Head at h1 ⊢
    rw [hgr hb (by omega), heap_alloc_lt (by rw [size_setCell]; omega)]
    simp only [World.setCell]
    rw [Array.getElem?_modify]
    simp [h1]
  have hm1 : mapAt w1 w.heap.size #[] 0 := by
    have := heap_alloc_eq (w.setCell ⟨hb, 1, none⟩ (.map (some w.heap.size))) (.map #[] 0)
    rw [size_setCell] at this
    exact (hgr _ (by omega)).trans this
  have hu1 : Upd (fun k => k = hb) w w1 :=
    (upd_alloc (upd_alloc (upd_setCell (Upd.refl _ w) (a := ⟨hb, 1, none⟩) (by rfl) _) _) _).trans (G := fun _ => False) ⟨hgrow.os, hgrow.tape, hgrow.output, hgrow.size, fun k hk _ => hgrow.block k hk (by simp [Value.ownBlock])⟩ fun _ _ h => h.elim
  have hin2 := InR.first HWF.out hd1 hm1 hown'
  have hj : 0 < ([((id, key) : It)]).length := by simp
  have hg2 : g [((id, key) : It)] 0 = (id, key) := rfl
  have hin3 := hin2.setKey hj (id := id) (key := key) (by rw [hg2]) HWF.out.2
  have d0 := hd1.c0
  have d0f := hd1.fr 0
  have e0 := hin2.c0
  have e1 := hin2.i1 hj
  have f1 := hin2.row.frozenAt 1
  rw [hg2] at e1
  simp only [List.length_singleton, Nat.zero_mul, Nat.zero_add] at e0 e1
  have hne : hb ≠ lb' := hin2.apart.1
  have HL := Lib.hid hloc'
  have HIN3 := Lib.hid hin3
  have HJ := Lib.hid hj
  have HU1 := Lib.hid hu1
  clear hloc' hin3 hin2 hd1 hj hg2 hu1 hgrow hown' hloc hv c0 c1 hrun heq hmm hm1 hgr
  go_wp2_with fail
  refine (up_any HIN3.out HJ.out).mono ?_
  rintro e w4 ⟨rfl, hr4, hu4⟩
  have HR4 := Lib.hid hr4
  have HU4 := Lib.hid hu4
  clear hr4 hu4
  go_wp2_with fail
  go_ret
  refine ⟨rfl, lb', w.heap.size, cap', HR4.out, HL.out, Nat.le_refl _, ?_⟩
  have hlo := HL.out
  have u2 : Upd (fun k => k = hb ∨ k = lb' ∨ k = w.heap.size) w1 _ := upd_setCell (upd_setCell (Upd.refl _ w1) (a := ⟨hb, 0, none⟩) (.inl rfl) (.slice (some ⟨lb', 0, none⟩) 1 cap')) (a := ⟨lb', 1, none⟩) (.inr (.inl rfl)) (.int .i64 key)
  refine HU1.out.trans (u2.trans (HU4.out.mono fun k _ e => ?_) fun _ _ h => h) fun k hk e => ?_
  · exact .inr e
  · omega
end Go.Proofs.Ytkdpfbefdhjmcaa
