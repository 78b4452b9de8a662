/- heap.Heap's Pop, said of its parts. -/
import Derived.Test.YtkdpfbefdhjmcaaHeapOps
import Derived.Deep.RegionLaw
set_option linter.unusedVariables false
set_option linter.unusedSimpArgs false
namespace Go.Proofs.Ytkdpfbefdhjmcaa
open Go.RowKit Go.Maps Go.ChangeMaps Go.MapKept HeapP
set_option maxHeartbeats 1000000 in
theorem pop_nil (w : World) : Calls Try.prog 7 #[.pointer none] w fun e w' => e = .returned (.tuple #[.int .i64 0, .int .i64 0, .int .i64 4]) ∧ w = w' := by
  go_enter Try.func7, Try.ntmps7
  go_wp2_with (go_at_call 13; refine (len_nil _).mono ?_; rintro e w' ⟨rfl, rfl⟩)
  go_ret3
  exact ⟨rfl, rfl⟩
set_option maxHeartbeats 1000000 in
theorem pop_empty {w : World} {hb cap : Nat} {A : Option Addr} {mv : Value} (h : Head w hb (.slice A 0 cap) mv) : Calls Try.prog 7 #[.pointer (some ⟨hb, 0, none⟩)] w fun e w' => e = .returned (.tuple #[.int .i64 0, .int .i64 0, .int .i64 4]) ∧ w = w' := by
  go_enter Try.func7, Try.ntmps7
  go_wp2_with (go_at_call 13; refine (len_any h).mono ?_; rintro e w' ⟨rfl, rfl⟩)
  go_ret3
  exact ⟨rfl, rfl⟩
theorem step_delete {P : Program} {ops : Array Oper} {o : Oper} {a : Act} {w : World} {K : Act → World → Prop} {Q : Exit → Act → World → Prop} {E : Prop}
    (hg : o.guard = none) (m x : Operand) (t k : TypeId) (hop : o.op = Op.call { callee := Callee.builtin Builtin.delete, args := #[m, x], argTypes := #[t, k] })
    (mv kv : Value) (hm : a.eval m = mv) (hx : a.eval x = kv) (w' : World) (hrun : (Builtin.delete_ #[t, k] o.type #[mv, kv]).run P w = .ok (.tuple #[]) w')
    (hK : K (a.put o.dst (.tuple #[])) w') :
    if Region.wanted o (yielded ops a.tmps) = true then Oper.wp P o a w K Q else E := by
  have hw : Region.wanted o (yielded ops a.tmps) = true := by simp [Region.wanted, hg]
  rw [if_pos hw]
  unfold Oper.wp
  simp [execOp, hop, resolve, invoke, builtin, hm, hx, hrun, Result.andThen]
  exact hK
theorem take_row {w : World} {lb cap n : Nat} {l : List It} (h : w.ownsRow 0 88 2 (.slice (some ⟨lb, 0, none⟩) l.length cap) l.length (flat l)) (hn : n ≤ l.length) :
    w.ownsRow 0 88 2 (.slice (some ⟨lb, 0, none⟩) n cap) n (flat (l.take n)) := by
  refine ⟨by rw [flat_length, List.length_take]; omega, ?_⟩
  rcases h.2 with ⟨e, _⟩ | ⟨g, c, cur, e, hb, hh, h1, h2, h3, h4⟩
  · cases e
  · simp only [Value.slice.injEq, Option.some.injEq, Addr.mk.injEq, and_true] at e
    obtain ⟨rfl, _, rfl⟩ := e
    refine .inr ⟨lb, cap, cur, rfl, hb, hh, by omega, h2, h3, ?_⟩
    rw [flat_take, ← h4, List.take_take]
    congr 1
    omega
/-- the row is shortened -/
theorem InR.shrink {w : World} {hb lb mb cap : Nat} {l : List It} {m : Int → Option Nat} (h : InR w hb lb mb cap l m) {n : Nat} (hn : n ≤ l.length) :
    InR (w.setCell ⟨hb, 0, none⟩ (.slice (some ⟨lb, 0, none⟩) n cap)) hb lb mb cap (l.take n) m := by
  obtain ⟨a1, a2, a3⟩ := h.apart
  have hd := h.hd
  have hlen : (l.take n).length = n := by rw [List.length_take]; omega
  refine ⟨?_, ?_, ?_, ?_⟩
  · rw [hlen]
    simp only [World.setCell]
    rw [Array.getElem?_modify]
    simp [hd]
  · rw [hlen]
    have hr := take_row h.row hn
    refine ⟨hr.1, ?_⟩
    rcases hr.2 with ⟨e, _⟩ | ⟨g, c, cur, e, r⟩
    · cases e
    · refine .inr ⟨g, c, cur, e, ?_⟩
      simp only [Value.slice.injEq, Option.some.injEq, Addr.mk.injEq, and_true] at e
      obtain ⟨rfl, _⟩ := e
      rw [heap_setCell_ne a1]; exact r
  · obtain ⟨es, ck, hmb, hes⟩ := h.map
    exact ⟨es, ck, by rw [mapAt_setCell a2]; exact hmb, hes⟩
  · intro y hy
    exact h.wf y (List.mem_of_mem_take hy)
/-- an entry is struck -/
theorem InR.struck {w : World} {hb lb mb cap : Nat} {l : List It} {m : Int → Option Nat} (h : InR w hb lb mb cap l m) {id : Int} {es' : Array MapEntry} {ck : Nat} (hes : EntV es' ck (delV (toV m) id)) :
    InR (setBlock w mb (.map es' ck)) hb lb mb cap l (del m id) := by
  obtain ⟨a1, a2, a3⟩ := h.apart
  obtain ⟨s1, s2, s3⟩ := h.sizes
  refine ⟨?_, ?_, ⟨es', ck, mapAt_setBlock s3, by rw [toV_del]; exact hes⟩, h.wf⟩
  · rw [heap_setBlock_ne (Ne.symm a2)]; exact h.hd
  · refine ⟨h.row.1, ?_⟩
    rcases h.row.2 with ⟨e, _⟩ | ⟨g, c, cur, e, r⟩
    · cases e
    · refine .inr ⟨g, c, cur, e, ?_⟩
      simp only [Value.slice.injEq, Option.some.injEq, Addr.mk.injEq, and_true] at e
      obtain ⟨rfl, _⟩ := e
      rw [heap_setBlock_ne (Ne.symm a3)]; exact r
/-- the first item is written -/
theorem InR.setItem {w : World} {hb lb mb cap : Nat} {l : List It} {m : Int → Option Nat} (h : InR w hb lb mb cap l m) {j : Nat} {x : It} (hx : Wf x) :
    InR ((w.setCell ⟨lb, j * 2, none⟩ (.int .i64 x.1)).setCell ⟨lb, j * 2 + 1, none⟩ (.int .i64 x.2)) hb lb mb cap (l.set j x) m := by
  obtain ⟨a1, a2, a3⟩ := h.apart
  have hr := ((h.row.stored (j * 2) (.int .i64 x.1)).1.stored (j * 2 + 1) (.int .i64 x.2)).1
  rw [flat_set] at hr
  refine ⟨?_, ?_, ?_, ?_⟩
  · rw [List.length_set, heap_setCell_ne (Ne.symm a1), heap_setCell_ne (Ne.symm a1)]; exact h.hd
  · rw [List.length_set]; exact hr
  · obtain ⟨es, ck, hmb, hes⟩ := h.map
    exact ⟨es, ck, by rw [mapAt_setCell a3, mapAt_setCell a3]; exact hmb, hes⟩
  · intro y hy
    rcases List.mem_or_eq_of_mem_set hy with h1 | rfl
    · exact h.wf y h1
    · exact hx
/-- what is left when the first one is out -/
def popL (l : List It) (m : Int → Option Nat) : List It × (Int → Option Nat) :=
  if l.length = 1 then (l.take 0, del m (g l 0).1) else downS (g l (l.length - 1)) ((l.take (l.length - 1)).set 0 (g l (l.length - 1))) (del m (g l 0).1) 0
set_option maxRecDepth 100000 in
set_option maxHeartbeats 8000000 in
theorem pop_any {w : World} {hb lb mb cap : Nat} {l : List It} {m : Int → Option Nat} (h : InR w hb lb mb cap l m) (h0 : 0 < l.length) (hsmall : l.length ≤ 1099511627776) :
    Calls Try.prog 7 #[.pointer (some ⟨hb, 0, none⟩)] w fun e w' => e = .returned (.tuple #[.int .i64 (g l 0).1, .int .i64 (g l 0).2, .int .i64 0]) ∧
      InR w' hb lb mb cap (popL l m).1 (popL l m).2 ∧ Upd (fun k => k = hb ∨ k = lb ∨ k = mb) w w' := by
  have hh := h.head
  have c0 := h.c0
  have c1 := h.c1
  have x0 := h.i0 h0
  have x1 := h.i1 h0
  have hl : l.length - 1 < l.length := by omega
  have y0 := h.i0 hl
  have y1 := h.i1 hl
  have t0 : (0 : Int) < (l.length : Int) := by omega
  have r1 : IntKind.i64.wrap ((l.length : Int) - 1) = ((l.length - 1 : Nat) : Int) := by rw [IntWalk.i64_in _ (by omega)]; omega
  obtain ⟨a1, a2, a3⟩ := h.apart
  obtain ⟨s1, s2, s3⟩ := h.sizes
  have hcap := h.len.1
  have HR := Lib.hid h
  have HH := Lib.hid hh
  clear h hh
  go_enter Try.func7, Try.ntmps7
  go_wp2_with (go_at_call 13; refine (len_any HH.out).mono ?_; rintro e w' ⟨rfl, rfl⟩)
  go_region
  -- two orders of laying the two copies
  obtain ⟨xb, hxb⟩ : ∃ xb : Nat, xb = w.heap.size := ⟨_, rfl⟩
  obtain ⟨yb, hyb⟩ : ∃ yb : Nat, yb = w.heap.size + 1 := ⟨_, rfl⟩
  rw [← hyb, ← hxb]
  rotate_left
  obtain ⟨xb, hxb⟩ : ∃ xb : Nat, xb = w.heap.size + 1 := ⟨_, rfl⟩
  obtain ⟨yb, hyb⟩ : ∃ yb : Nat, yb = w.heap.size := ⟨_, rfl⟩
  rw [← hxb, ← hyb]
  rotate_left
  all_goals
    generalize hw1 : World.drew _ = w1
    have hu1 : Upd (fun k => k = hb ∨ k = lb ∨ k = mb) w w1 := by rw [← hw1]; exact upd_drew (upd_alloc (upd_alloc (Upd.refl _ _) _) _)
    have hin1 : InR w1 hb lb mb cap l m := HR.out.upd (F := fun _ => False) (by rw [← hw1]; exact upd_drew (upd_alloc (upd_alloc (Upd.refl _ _) _) _)) id id id
    have hx : w1.heap[xb]? = some (.cells #[.int .i64 (g l 0).1, .int .i64 (g l 0).2] 88 (0, 0)) := by
      rw [← hw1, hxb]
      first
        | exact (heap_alloc_lt (by rw [size_alloc]; omega)).trans (heap_alloc_eq _ _)
        | (have := heap_alloc_eq (w.alloc (.cells #[.int .i64 (g l (l.length - 1)).1, .int .i64 (g l (l.length - 1)).2] 88)) (.cells #[.int .i64 (g l 0).1, .int .i64 (g l 0).2] 88); rw [size_alloc] at this; exact this)
    have hy : w1.heap[yb]? = some (.cells #[.int .i64 (g l (l.length - 1)).1, .int .i64 (g l (l.length - 1)).2] 88 (0, 0)) := by
      rw [← hw1, hyb]
      first
        | exact (heap_alloc_lt (by rw [size_alloc]; omega)).trans (heap_alloc_eq _ _)
        | (have := heap_alloc_eq (w.alloc (.cells #[.int .i64 (g l 0).1, .int .i64 (g l 0).2] 88)) (.cells #[.int .i64 (g l (l.length - 1)).1, .int .i64 (g l (l.length - 1)).2] 88); rw [size_alloc] at this; exact this)
    have hxs : w.heap.size ≤ xb := by omega
    have hys : w.heap.size ≤ yb := by omega
    clear hw1 x0 x1 y0 y1 c0 c1 hxb hyb
    -- the row is shortened
    have k0 := hin1.c0
    have kf := hin1.head.fr 0
    have hin2 := (hin1.shrink (n := l.length - 1) (by omega)).kept (w' := (w1.setCell ⟨hb, 0, none⟩ (.slice (some ⟨lb, 0, none⟩) (l.length - 1) cap)).drew) rfl rfl rfl
    have hx2 := (heap_setCell_ne (w := w1) (a := ⟨hb, 0, none⟩) (v := .slice (some ⟨lb, 0, none⟩) (l.length - 1) cap) (b := xb) (by show hb ≠ _; omega)).trans hx
    have hy2 := (heap_setCell_ne (w := w1) (a := ⟨hb, 0, none⟩) (v := .slice (some ⟨lb, 0, none⟩) (l.length - 1) cap) (b := yb) (by show hb ≠ _; omega)).trans hy
    have hu2 := upd_drew (upd_setCell hu1 (a := ⟨hb, 0, none⟩) (.inl rfl) (.slice (some ⟨lb, 0, none⟩) (l.length - 1) cap))
    have HIN2 := Lib.hid hin2
    have HX2 := Lib.hid hx2
    have HY2 := Lib.hid hy2
    have HU2 := Lib.hid hu2
    clear hin1 hin2 hx hy hx2 hy2 hu1 hu2
    go_wp2_with fail
    go_region
    clear k0 kf
    generalize hw2 : World.drew _ = w2
    have hin2 : InR w2 hb lb mb cap (l.take (l.length - 1)) m := by rw [← hw2]; exact HIN2.out
    have hx2 : w2.heap[xb]? = some (.cells #[.int .i64 (g l 0).1, .int .i64 (g l 0).2] 88 (0, 0)) := by rw [← hw2]; exact HX2.out
    have hy2 : w2.heap[yb]? = some (.cells #[.int .i64 (g l (l.length - 1)).1, .int .i64 (g l (l.length - 1)).2] 88 (0, 0)) := by rw [← hw2]; exact HY2.out
    have hu2 : Upd (fun k => k = hb ∨ k = lb ∨ k = mb) w w2 := by rw [← hw2]; exact HU2.out
    clear HIN2 HX2 HY2 HU2 hw2
    -- the entry is struck
    have k1 := hin2.c1
    have q0 : w2.cell? ⟨xb, 0, none⟩ = some (.int .i64 (g l 0).1) := by simp [World.cell?, hx2]
    obtain ⟨es, ck, hmb, hes⟩ := hin2.map
    obtain ⟨es', hes', hdel⟩ := run_delV (b := mb) (t := 26) (e := 3) Try.underlying26 hes (HR.out.wf _ (g_mem h0)).1 0
    have hd3 := hdel w2.drew hmb
    have hin3 : InR (setBlock w2.drew mb (.map es' ck)) hb lb mb cap (l.take (l.length - 1)) (del m (g l 0).1) := (hin2.kept (w' := w2.drew) rfl rfl rfl).struck hes'
    have hxm : mb ≠ xb := by omega
    have hym : mb ≠ yb := by omega
    have hx3 : (setBlock w2.drew mb (.map es' ck)).heap[xb]? = _ := (heap_setBlock_ne hxm).trans hx2
    have hy3 : (setBlock w2.drew mb (.map es' ck)).heap[yb]? = _ := (heap_setBlock_ne hym).trans hy2
    have hu3 : Upd (fun k => k = hb ∨ k = lb ∨ k = mb) w (setBlock w2.drew mb (.map es' ck)) := upd_setBlock (upd_drew hu2) (.inr (.inr rfl)) _
    have HIN3 := Lib.hid hin3
    have HX3 := Lib.hid hx3
    have HY3 := Lib.hid hy3
    have HU3 := Lib.hid hu3
    have HD3 := Lib.hid hd3
    clear hin2 hx2 hy2 hu2 hin3 hx3 hy3 hu3 hdel hes hes' hmb hd3
    go_wp2_with fail
    go_region_law (refine step_delete rfl _ _ 26 3 rfl _ _ rfl rfl _ HD3.out ?_)
    all_goals
      clear k1 q0
      generalize hw3 : setBlock _ _ _ = w3
      have hin3 : InR w3 hb lb mb cap (l.take (l.length - 1)) (del m (g l 0).1) := by rw [← hw3]; exact HIN3.out
      have hx3 : w3.heap[xb]? = some (.cells #[.int .i64 (g l 0).1, .int .i64 (g l 0).2] 88 (0, 0)) := by rw [← hw3]; exact HX3.out
      have hy3 : w3.heap[yb]? = some (.cells #[.int .i64 (g l (l.length - 1)).1, .int .i64 (g l (l.length - 1)).2] 88 (0, 0)) := by rw [← hw3]; exact HY3.out
      have hu3 : Upd (fun k => k = hb ∨ k = lb ∨ k = mb) w w3 := by rw [← hw3]; exact HU3.out
      clear HIN3 HX3 HY3 HU3 HD3 hw3
      have hlen : (l.take (l.length - 1)).length = l.length - 1 := by rw [List.length_take]; omega
      have c3 := hin3.c0
      rw [hlen] at c3
      have u0 : w3.cell? ⟨xb, 0, none⟩ = some (.int .i64 (g l 0).1) := by simp [World.cell?, hx3]
      have u1 : w3.cell? ⟨xb, 1, none⟩ = some (.int .i64 (g l 0).2) := by simp [World.cell?, hx3]
      have HIN3 := Lib.hid hin3
      have HX3 := Lib.hid hx3
      have HU3 := Lib.hid hu3
      have HLEN := Lib.hid hlen
      clear hin3 hx3 hu3 hlen
      by_cases h1 : l.length = 1
      · have hd : decide (0 < l.length - 1) = false := by simp; omega
        have HP : Hid (popL l m = (l.take (l.length - 1), del m (g l 0).1)) := Lib.hid (by unfold popL; rw [if_pos h1]; rw [h1])
        have H1 := Lib.hid h1
        clear h1 hy3
        go_wp2_with fail
        go_quiet (fail)
        go_wp2_with fail
        go_ret3
        refine ⟨rfl, ?_, upd_drewN HU3.out _⟩
        rw [HP.out]
        exact HIN3.out.kept rfl rfl rfl
      · have hd : decide (0 < l.length - 1) = true := by simp; omega
        have h2 : 0 < l.length - 1 := by omega
        have HP : Hid (popL l m = downS (g l (l.length - 1)) ((l.take (l.length - 1)).set 0 (g l (l.length - 1))) (del m (g l 0).1) 0) := Lib.hid (by unfold popL; rw [if_neg h1])
        have v0 : w3.cell? ⟨yb, 0, none⟩ = some (.int .i64 (g l (l.length - 1)).1) := by simp [World.cell?, hy3]
        have v1 : w3.cell? ⟨yb, 1, none⟩ = some (.int .i64 (g l (l.length - 1)).2) := by simp [World.cell?, hy3]
        have hz : 0 < (l.take (l.length - 1)).length := by rw [HLEN.out]; exact h2
        have o0 := HIN3.out.i0 hz
        have o1 := HIN3.out.i1 hz
        have of0 := HIN3.out.row.frozenAt 0
        have of1 := HIN3.out.row.frozenAt 1
        simp only [Nat.zero_mul, Nat.zero_add] at o0 o1
        have hwl := HR.out.wf _ (g_mem hl)
        have hin4 := (HIN3.out.setItem (j := 0) hwl)
        simp only [Nat.zero_mul, Nat.zero_add] at hin4
        have hx4 := (heap_setCell_ne (w := (w3.setCell ⟨lb, 0, none⟩ (.int .i64 (g l (l.length - 1)).1))) (a := ⟨lb, 1, none⟩) (v := .int .i64 (g l (l.length - 1)).2) (b := xb) (by show lb ≠ _; omega)).trans ((heap_setCell_ne (a := ⟨lb, 0, none⟩) (by show lb ≠ _; omega)).trans HX3.out)
        have hu4 := upd_setCell (upd_setCell HU3.out (a := ⟨lb, 0, none⟩) (.inr (.inl rfl)) (.int .i64 (g l (l.length - 1)).1)) (a := ⟨lb, 1, none⟩) (.inr (.inl rfl)) (.int .i64 (g l (l.length - 1)).2)
        have HIN4 := Lib.hid hin4
        have HX4 := Lib.hid hx4
        have HU4 := Lib.hid hu4
        have H1 := Lib.hid h1
        clear hin4 hx4 hu4 h1 hwl hy3 HIN3 HX3 HU3
        go_wp2_with fail
        go_region
        all_goals
          clear u0 u1 v0 v1 o0 o1 of0 of1 c3
          generalize hw4 : World.drew _ = w4
          have hin4 : InR w4 hb lb mb cap ((l.take (l.length - 1)).set 0 (g l (l.length - 1))) (del m (g l 0).1) := by rw [← hw4]; exact HIN4.out.kept rfl rfl rfl
          have hx4 : w4.heap[xb]? = some (.cells #[.int .i64 (g l 0).1, .int .i64 (g l 0).2] 88 (0, 0)) := by rw [← hw4]; exact HX4.out
          have hu4 : Upd (fun k => k = hb ∨ k = lb ∨ k = mb) w w4 := by rw [← hw4]; exact upd_drew HU4.out
          have hj4 : 0 < ((l.take (l.length - 1)).set 0 (g l (l.length - 1))).length := by rw [List.length_set]; exact hz
          have hg4 : g ((l.take (l.length - 1)).set 0 (g l (l.length - 1))) 0 = g l (l.length - 1) := g_set_eq hz
          have hs4 : ((l.take (l.length - 1)).set 0 (g l (l.length - 1))).length ≤ 1152921504606846976 := by rw [List.length_set, HLEN.out]; omega
          have HIN5 := Lib.hid hin4
          have HX5 := Lib.hid hx4
          have HU5 := Lib.hid hu4
          have HJ5 := Lib.hid hj4
          have HG5 := Lib.hid hg4
          have HS5 := Lib.hid hs4
          clear hin4 hx4 hu4 hj4 hg4 hs4 hw4 HIN4 HX4 HU4
          go_wp2_with fail
          refine (down_any HIN5.out HJ5.out HS5.out).mono ?_
          rintro e w5 ⟨rfl, hr5, hu5⟩
          have hx5 : w5.heap[xb]? = some (.cells #[.int .i64 (g l 0).1, .int .i64 (g l 0).2] 88 (0, 0)) := (hu5.block xb (Array.getElem?_eq_some_iff.1 HX5.out).1 (by rintro (e | e) <;> omega)).trans HX5.out
          have p0 : w5.cell? ⟨xb, 0, none⟩ = some (.int .i64 (g l 0).1) := by simp [World.cell?, hx5]
          have p1 : w5.cell? ⟨xb, 1, none⟩ = some (.int .i64 (g l 0).2) := by simp [World.cell?, hx5]
          have HR5 := Lib.hid hr5
          have HU6 := Lib.hid hu5
          clear hr5 hu5 hx5
          go_wp2_with fail
          go_quiet (fail)
          go_wp2_with fail
          go_ret3
          refine ⟨rfl, ?_, upd_drewN (HU5.out.trans HU6.out fun k _ h => .inr h) _⟩
          rw [HP.out]
          have hfin := HR5.out
          rw [HG5.out] at hfin
          exact hfin.kept rfl rfl rfl
end Go.Proofs.Ytkdpfbefdhjmcaa
