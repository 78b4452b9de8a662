/- turns.New: the two tables, row by row. -/
import Derived.Test.YtkdpfbefdhjmcaaTurnsMem
import Derived.Test.YtkdpfbefdhjmcaaSearch
import Derived.Deep.RegionLaw
import Derived.Deep.CutRange
import Derived.BigRegion
set_option linter.unusedVariables false
set_option linter.unusedSimpArgs false
namespace Go.Proofs.Ytkdpfbefdhjmcaa
open Go.ChangeShapes Go.WideShapes Go.ChangeAt Go.RowKit RowP
theorem turns_start (w : World) (m : Nat) (vs : Array Value) (T : TypeId) {a b : Nat} (hab : (a = w.heap.size ∧ b = w.heap.size + 1) ∨ (a = w.heap.size + 1 ∧ b = w.heap.size)) :
    (((w.alloc (.cells (madeCells #[.slice none 0 0] m) 71)).alloc (.cells (madeCells #[.slice none 0 0] m) 71)).alloc (.cells vs T)).drew.heap[w.heap.size + 1 + 1]? = some (.cells vs T) ∧
    TR (((w.alloc (.cells (madeCells #[.slice none 0 0] m) 71)).alloc (.cells (madeCells #[.slice none 0 0] m) 71)).alloc (.cells vs T)).drew w.heap.size m (fun s => if s = true then a else b) (fun _ _ => .slice none 0 0) (fun _ _ => []) ∧
    w.heap.size + 1 + 1 < (((w.alloc (.cells (madeCells #[.slice none 0 0] m) 71)).alloc (.cells (madeCells #[.slice none 0 0] m) 71)).alloc (.cells vs T)).drew.heap.size ∧ (∀ s : Bool, w.heap.size + 1 + 1 ≠ (fun s => if s = true then a else b) s) ∧
    Below w.heap.size w (((w.alloc (.cells (madeCells #[.slice none 0 0] m) 71)).alloc (.cells (madeCells #[.slice none 0 0] m) 71)).alloc (.cells vs T)).drew := by
  have z1 : (w.alloc (.cells (madeCells #[.slice none 0 0] m) 71)).heap.size = w.heap.size + 1 := size_alloc _ _
  have z2 : ((w.alloc (.cells (madeCells #[.slice none 0 0] m) 71)).alloc (.cells (madeCells #[.slice none 0 0] m) 71)).heap.size = w.heap.size + 1 + 1 := by rw [size_alloc, z1]
  have g0 : (((w.alloc (.cells (madeCells #[.slice none 0 0] m) 71)).alloc (.cells (madeCells #[.slice none 0 0] m) 71)).alloc (.cells vs T)).heap[w.heap.size]? = some (.cells (madeCells #[.slice none 0 0] m) 71) := by
    rw [heap_alloc_lt (by omega), heap_alloc_lt (by omega)]; exact heap_alloc_new w _
  have g1 : (((w.alloc (.cells (madeCells #[.slice none 0 0] m) 71)).alloc (.cells (madeCells #[.slice none 0 0] m) 71)).alloc (.cells vs T)).heap[w.heap.size + 1]? = some (.cells (madeCells #[.slice none 0 0] m) 71) := by
    rw [heap_alloc_lt (by omega), ← z1]; exact heap_alloc_new _ _
  have g2 : (((w.alloc (.cells (madeCells #[.slice none 0 0] m) 71)).alloc (.cells (madeCells #[.slice none 0 0] m) 71)).alloc (.cells vs T)).heap[w.heap.size + 1 + 1]? = some (.cells vs T) := by
    rw [← z2]; exact heap_alloc_new _ _
  refine ⟨g2, TR.start (fun s => ?_) (fun s => ?_) ?_, ?_, fun s => ?_, bl_drew (bl_alloc (bl_alloc (bl_alloc (Below.refl _ _) _) _) _)⟩
  · cases s <;> rcases hab with ⟨rfl, rfl⟩ | ⟨rfl, rfl⟩ <;> first | exact g0 | exact g1
  · cases s <;> simp <;> omega
  · simp; omega
  · show _ < (World.alloc _ _).heap.size; rw [size_alloc, z2]; omega
  · cases s <;> simp <;> omega
/-- what stands while the tables are filled; O: the row that is ranged over -/
structure TS (w wx : World) (tb : Bool → Nat) (t p m : Nat) (R : Bool → Nat → Value) (L : Bool → Nat → List Int) (A : Option Addr) (n c : Nat) (O : List Int) : Prop where
  tr : TR wx w.heap.size m tb R L
  ht : wx.heap[t]? = some (.cells #[.pointer (some ⟨p, 0, none⟩), .slice (some ⟨tb true, 0, none⟩) m m, .slice (some ⟨tb false, 0, none⟩) m m] 120)
  off : Off tb R m t
  tl : t < wx.heap.size
  bw : Below w.heap.size w wx
  rO : ReadsI wx A n c O
  oO : ∀ b o, A = some ⟨b, o, none⟩ → b < wx.heap.size ∧ Off tb R m b
theorem TS.below {w wx wy : World} {tb : Bool → Nat} {t p m : Nat} {R : Bool → Nat → Value} {L : Bool → Nat → List Int} {A : Option Addr} {n c : Nat} {O : List Int} (h : TS w wx tb t p m R L A n c O) (hb : Below wx.heap.size wx wy) : TS w wy tb t p m R L A n c O :=
  ⟨h.tr.below hb, (hb.block t h.tl).trans h.ht, h.off, Nat.lt_of_lt_of_le h.tl hb.size, h.bw.trans (hb.mono h.bw.size), h.rO.below hb, fun b o e => ⟨Nat.lt_of_lt_of_le (h.oO b o e).1 hb.size, (h.oO b o e).2⟩⟩
theorem TS.push {w wx w1 : World} {tb : Bool → Nat} {t p m : Nat} {R : Bool → Nat → Value} {L : Bool → Nat → List Int} {A : Option Addr} {n c : Nat} {O : List Int} (h : TS w wx tb t p m R L A n c O) (s : Bool) {i : Nat} (hi : i < m) {v' : Value} {x : Int}
    (hg : Grown wx w1 w.heap.size 3 1 (R s i) v' ((L s i).length + 1) (flatI (L s i) ++ [.int .i64 x])) : ∃ R', TS w (w1.setCell ⟨tb s, i, none⟩ v') tb t p m R' (pushL L s i x) A n c O := by
  obtain ⟨h1, h2⟩ := h.tr.push s hi hg
  have hsz := h2.size
  have htl := h.tl
  refine ⟨_, h1, ?_, h.off.push h.tl hi rfl hg, by omega, ?_, h.rO.upd h2 fun b o e hb => ?_, fun b o e => ⟨by have := (h.oO b o e).1; omega, (h.oO b o e).2.push (h.oO b o e).1 hi rfl hg⟩⟩
  · rw [h2.block t h.tl (by rintro (e | e); exact h.off.1 s e; exact h.off.2 s i hi e)]; exact h.ht
  · refine h.bw.trans (h2.below h.bw.size fun k hk e => ?_)
    rcases e with rfl | e
    · have := h.tr.tbB s; omega
    · have := (World.ownsRow.lt (h.tr.row s i hi) k e).1; omega
  · rintro (e2 | e2)
    · exact (h.oO b o e).2.1 s e2
    · exact (h.oO b o e).2.2 s i hi e2
theorem TS.start {w wx : World} {tb : Bool → Nat} {t p m : Nat} {R : Bool → Nat → Value} {L : Bool → Nat → List Int} {A : Option Addr} {n c : Nat} {O : List Int} (h : TS w wx tb t p m R L A n c O) {A' : Option Addr} {n' c' : Nat} {O' : List Int}
    (hr : ReadsI wx A' n' c' O') (ho : ∀ b o, A' = some ⟨b, o, none⟩ → b < wx.heap.size ∧ Off tb R m b) : TS w wx tb t p m R L A' n' c' O' := ⟨h.tr, h.ht, h.off, h.tl, h.bw, hr, ho⟩
theorem TS.off_new {w wx : World} {tb : Bool → Nat} {t p m : Nat} {R : Bool → Nat → Value} {L : Bool → Nat → List Int} {A : Option Addr} {n c : Nat} {O : List Int} (h : TS w wx tb t p m R L A n c O) {b : Nat} (hb : wx.heap.size ≤ b) : Off tb R m b :=
  ⟨fun s e => by have := h.tr.lt s; omega, fun s i hi e => by have := ownBlock_lt (h.tr.row s i hi) e; omega⟩
theorem len_inner {ns bs : List (Int × Int)} {es : List (Int × Int × Int)} (h : mayB ns es bs = true) {a : Nat} (ha : a < es.length) (j : Nat) (s : Bool) {i : Nat} (hi : i < es.length) :
    (innerL bs a (outerL ns es bs a) ((outT ns es ((toN es a : Nat) : Int)).take j) s i).length ≤ 1024 := by
  obtain ⟨_, ⟨s1, s2, s3, s4⟩, hf, ht⟩ := mayB_parts h
  have hv := (ht a ha).2
  cases s with
  | true =>
    rw [innerL_true]
    split
    · rw [outerL_true h _ (by omega), if_neg (by omega), List.nil_append]
      refine Nat.le_trans (List.length_filter_le _ _) ?_
      refine Nat.le_trans (List.length_take_le' _ _) ?_
      have := (outT_wf h ((toN es a : Nat) : Int)).2
      omega
    · rw [outerL_true h _ (by omega)]
      split
      · have := nextT_len es bs ((i : Nat) : Int); omega
      · simp
  | false =>
    have hl : (outerL ns es bs a false i).length ≤ 512 := by
      rw [outerL_false h a (by omega) i hi, List.length_map]
      refine Nat.le_trans (List.length_filter_le _ _) ?_
      simp; omega
    rw [innerL_false _ _ _ _ _ (fun b hb => by obtain ⟨q, rfl, _⟩ := (outT_mem hv).1 (List.mem_of_mem_take hb); exact ⟨q, rfl⟩) (List.Sublist.nodup (List.take_sublist _ _) (by rw [outT_in hv]; exact rowOf_nodup _ _ _))]
    split
    · rw [List.length_append]; simp; omega
    · omega
set_option maxRecDepth 100000 in
set_option maxHeartbeats 16000000 in
theorem turns_new {w : World} {B E p : Nat} {ns bs : List (Int × Int)} {es : List (Int × Int × Int)} (h : GraphAt w B E p ns es bs) : Calls Try.prog 54 #[.pointer (some ⟨p, 0, none⟩)] w fun e w' =>
    ∃ t, e = .returned (.pointer (some ⟨t, 0, none⟩)) ∧ TurnsAt w' B w'.heap.size t p ns es bs ∧ Below w.heap.size w w' := by
  obtain ⟨hok, hBp, hpE, hEw⟩ := h.bd
  obtain ⟨_, ⟨s1, s2, s3, s4⟩, hfr, hto⟩ := mayB_parts hok
  have hmk := run_make_row' (P := Try.prog) 118 71 (.slice none 0 0) 24 Try.underlying118 infoRow rfl .i64 .i64 es.length (by omega) (by omega)
  have HG := Lib.hid h
  have HOK := Lib.hid hok
  have HFR := Lib.hid hfr
  have HTO := Lib.hid hto
  clear h hok hfr hto
  go_enter Try.func54, Try.ntmps54
  go_wp2_with fail
  refine (edges_at HG.out).mono ?_
  rintro e w' ⟨rfl, rfl⟩
  go_upto_region 4 with fail
  go_cut [4] from 14 to 20 (fun s wx => ∃ t tb, s = .pointer (some ⟨t, 0, none⟩) ∧ wx.heap[t]? = some (.cells #[.pointer (some ⟨p, 0, none⟩), .slice (some ⟨tb true, 0, none⟩) es.length es.length, .slice (some ⟨tb false, 0, none⟩) es.length es.length] 120) ∧ TR wx w.heap.size es.length tb (fun _ _ => .slice none 0 0) (fun _ _ => []) ∧ w.heap.size ≤ t ∧ t < wx.heap.size ∧ (∀ s, t ≠ tb s) ∧ Below w.heap.size w wx)
  case first =>
    go_region
    all_goals
      go_wp2_with fail
      go_meet
      case rel =>
        first
          | exact ⟨w.heap.size + 1 + 1, fun s => if s = true then w.heap.size else w.heap.size + 1, rfl, (turns_start w es.length _ _ (.inl ⟨rfl, rfl⟩)).1, (turns_start w es.length _ _ (.inl ⟨rfl, rfl⟩)).2.1, by omega, (turns_start w es.length _ _ (.inl ⟨rfl, rfl⟩)).2.2⟩
          | exact ⟨w.heap.size + 1 + 1, fun s => if s = true then w.heap.size + 1 else w.heap.size, rfl, (turns_start w es.length _ _ (.inr ⟨rfl, rfl⟩)).1, (turns_start w es.length _ _ (.inr ⟨rfl, rfl⟩)).2.1, by omega, (turns_start w es.length _ _ (.inr ⟨rfl, rfl⟩)).2.2⟩
  case rest =>
    obtain ⟨t, tb, rfl, ht, hTR, ht1, ht2, ht3, hb⟩ := hcut
    have hTS : TS w wc tb t p es.length (fun _ _ => .slice none 0 0) (fun _ _ => []) none 0 0 [] := ⟨hTR, ht, ⟨ht3, fun s i hi e => by simp [Value.ownBlock] at e⟩, ht2, hb, ⟨rfl, by decide, fun h => by omega, by simp⟩, fun b o e => by cases e⟩
    have HTS := Lib.hid hTS
    obtain ⟨i1, hi1⟩ := info1
    have II := Lib.hid hi1
    clear ht hTR ht2 ht3 hb hTS hi1
    go_wp2_with fail
    go_loopg [22] es.length (fun M v wr => ∃ (a : Nat) (R : Bool → Nat → Value), M = es.length - a ∧ a ≤ es.length ∧ v = .int .i64 (a : Nat) ∧ TS w wr tb t p es.length R (outerL ns es bs a) none 0 0 [])
    case atStart => exact ⟨0, _, rfl, Nat.zero_le _, rfl, HTS.out⟩
    case round =>
      obtain ⟨a, R, hm, ha, rfl, hS⟩ := hrel
      have HM := Lib.hid hm
      have HS := Lib.hid hS
      clear hm hS HTS
      by_cases hlt : a < es.length
      · have hedge := edge_at (HG.out.below HS.out.bw) (a : Int)
        rw [edgeT_in hlt, inB_nat hlt] at hedge
        obtain ⟨hta, htb⟩ := HTO.out a hlt
        obtain ⟨x, hx⟩ : ∃ x, x = es.getD a (0, 0, 0) := ⟨_, rfl⟩
        rw [← hx] at hedge hta
        obtain ⟨x0, x1, x2⟩ := x
        dsimp only at hedge hta
        obtain ⟨O, hO⟩ : ∃ O, O = outT ns es ((toN es a : Nat) : Int) := ⟨_, rfl⟩
        obtain ⟨v, hv⟩ : ∃ v, v = toN es a := ⟨_, rfl⟩
        rw [← hv] at hta htb hO
        subst hta
        have HEDGE := Lib.hid hedge
        have HO := Lib.hid hO
        have HV := Lib.hid hv
        clear hedge hx hO hv
        go_wp2_with fail
        refine HEDGE.out.mono ?_
        rintro e v1 ⟨rfl, hb1⟩
        have hb2 : Below wr.heap.size wr (v1.alloc (.cells #[.int .i64 x0, .int .i64 (v : Int), .int .i64 x2] 63)) := bl_alloc hb1 _
        have c1 := cell_three_new (w := v1) (x := .int .i64 x0) (y := .int .i64 (v : Int)) (z := .int .i64 x2) (t := 63) 1 _ rfl
        have hS2 := HS.out.below hb2
        have hout := out_reads (HG.out.below hS2.bw) (v : Int)
        rw [← HO.out] at hout
        obtain ⟨ln, hln⟩ : ∃ ln, ln = O.length := ⟨_, rfl⟩
        rw [← hln] at hout
        have hl512 : ln ≤ es.length := by rw [hln, HO.out]; exact (outT_wf HOK.out _).2
        have HS2 := Lib.hid hS2
        have HOUT := Lib.hid hout
        have HLN := Lib.hid hln
        clear hb1 hb2 hS2 hout hln
        go_wp2_with fail
        refine HOUT.out.mono ?_
        rintro e v3 ⟨A', c', rfl, hr, hnw, hb3⟩
        have hS3 := (HS2.out.below hb3).start hr (fun b o e => ⟨(hnw b o e).2, HS2.out.off_new (hnw b o e).1⟩)
        have HS3 := Lib.hid hS3
        clear hr hnw hb3 hS3 c1
        go_wp2_with fail
        go_loopg [36] ln (fun M u wq => ∃ (j : Nat) (R' : Bool → Nat → Value), M = ln - j ∧ j ≤ ln ∧ u = .int .i64 (j : Nat) ∧ TS w wq tb t p es.length R' (innerL bs a (outerL ns es bs a) (O.take j)) A' ln c' O)
        case atStart => exact ⟨0, _, rfl, Nat.zero_le _, rfl, HS3.out⟩
        case round =>
          obtain ⟨j, R', hm2, hj, rfl, hS⟩ := hrel
          have HM2 := Lib.hid hm2
          have HS4 := Lib.hid hS
          clear hm2 hS HS3
          by_cases hjl : j < ln
          · have hcl : j < cnt (fromN es) es.length v := by rw [← outT_len htb, ← HO.out, ← HLN.out]; exact hjl
            obtain ⟨q, hq, hq1, _, _⟩ := outT_get htb hcl
            rw [← HO.out] at hq
            obtain ⟨bO, oO, rfl, hcell⟩ := HS4.out.rO.cell (by omega)
            have c0 := hcell j hjl
            rw [hq] at c0
            have htk : O.take (j + 1) = O.take j ++ [(q : Int)] := by
              rw [List.take_succ_eq_append_getElem (by rw [← HLN.out]; exact hjl)]
              rw [List.getD_eq_getElem?_getD, List.getElem?_eq_getElem (by rw [← HLN.out]; exact hjl)] at hq
              rw [← hq]; rfl
            have hlen : ∀ s i, i < es.length → (innerL bs a (outerL ns es bs a) (O.take j) s i).length ≤ 1024 := by
              intro s i hi
              rw [HO.out, HV.out]; exact len_inner HOK.out hlt j s hi
            have hstep : innerL bs a (outerL ns es bs a) (O.take (j + 1)) = stepL bs a (innerL bs a (outerL ns es bs a) (O.take j)) (q : Int) := by rw [htk, innerL_snoc]
            obtain ⟨L, hL⟩ : ∃ L, L = innerL bs a (outerL ns es bs a) (O.take j) := ⟨_, rfl⟩
            rw [← hL] at hlen hstep
            have HS4' := HS4
            rw [← hL] at HS4'
            have HSTEP := Lib.hid hstep
            have HLEN := Lib.hid hlen
            have j0 : (0 : Int) ≤ (j : Int) := by omega
            have j1 : (j : Int) < (ln : Int) := by omega
            have hban := banned_at (HG.out.below HS4.out.bw) (a : Int) (q : Int)
            have HBAN := Lib.hid hban
            clear hcell hq htk hstep hlen hL HS4 hban
            by_cases hb : ((a : Int), (q : Int)) ∈ bs
            · rw [decide_eq_true hb] at HBAN
              have HB := Lib.hid hb
              clear hb
              go_wp2_with fail
              refine HBAN.out.mono ?_
              rintro e v5 ⟨rfl, hb5⟩
              have HS5 := Lib.hid (HS4'.out.below hb5)
              clear hb5
              go_wp2_with fail
              go_roundg (ln - (j + 1))
              case measure => have := HM2.out; omega
              case rel =>
                refine ⟨j + 1, R', rfl, by omega, by go_num, ?_⟩
                rw [HSTEP.out]; unfold stepL; rw [if_pos HB.out]
                exact HS5.out
            · rw [decide_eq_false hb] at HBAN
              have HB := Lib.hid hb
              clear hb
              go_wp2_with fail
              refine HBAN.out.mono ?_
              rintro e v5 ⟨rfl, hb5⟩
              have HS5 := Lib.hid (HS4'.out.below hb5)
              clear hb5 c0 HS4' HBAN
              go_upto_region 13 with fail
              go_cut [] from 45 to 60 (fun wx => ∃ R1, TS w wx tb t p es.length R1 (pushL L true a (q : Int)) (some ⟨bO, oO, none⟩) ln c' O)
              case first =>
                have htab := HS5.out.tr.cell true (i := a) (by omega)
                have hfr := HS5.out.tr.fr true a
                have t1 := block_cell HS5.out.ht (j := 1) rfl
                have hrow := own_upd (HS5.out.tr.row true a (by omega)) (Upd.of_below (F := fun _ => False) (bl_alloc (bl_drew (Below.refl v5.heap.size v5)) (.cells #[.int .i64 (q : Int)] 3))) (fun _ _ h => h)
                have hl1 := HLEN.out true a (by omega)
                have hsrc := Src.new (w := v5.drew) (vs := #[.int .i64 (q : Int)]) (t := 3) (size := 1) (by intro u hu; simp at hu; subst hu; rfl) rfl
                have HROW := Lib.hid hrow
                have HSRC := Lib.hid hsrc
                have HLL : Hid ((L true a).length + 1 ≤ maxLen ∧ ((L true a).length + 1) * 8 ≤ 140737488355328) := Lib.hid ⟨by unfold maxLen; omega, by omega⟩
                have HBA : Hid (w.heap.size ≤ (v5.drew.alloc (.cells #[.int .i64 (q : Int)] 3)).heap.size) := Lib.hid (Nat.le_trans HS5.out.bw.size (bl_alloc (bl_drew (Below.refl v5.heap.size v5)) _).size)
                have htt : t < v5.heap.size := HS5.out.tl
                have a0 : (0 : Int) ≤ (a : Int) := by omega
                have a1 : (a : Int) < (es.length : Int) := by omega
                have htb1 := HS5.out.tr.lt true
                clear hrow hsrc hl1
                have hne1 : some t ≠ (R' true a).ownBlock := fun e => HS5.out.off.2 true a (by omega) e.symm
                have hne2 : some (tb true) ≠ (R' true a).ownBlock := fun e => HS5.out.tr.nott true a _ (by omega) e.symm true rfl
                have hsz : v5.heap.size ≤ (v5.drew.alloc (.cells #[.int .i64 (q : Int)] 3)).heap.size := (bl_alloc (bl_drew (Below.refl v5.heap.size v5)) _).size
                have t1a := cell_below t1 (bl_alloc (bl_drew (Below.refl v5.heap.size v5)) (.cells #[.int .i64 (q : Int)] 3))
                have taba := cell_below htab (bl_alloc (bl_drew (Below.refl v5.heap.size v5)) (.cells #[.int .i64 (q : Int)] 3))
                have fra : (v5.drew.alloc (.cells #[.int .i64 (q : Int)] 3)).frozen? ⟨tb true, a, none⟩ = false := ((bl_alloc (bl_drew (Below.refl v5.heap.size v5)) (.cells #[.int .i64 (q : Int)] 3)).frozen (p := ⟨tb true, a, none⟩) htb1).trans hfr
                have HN1 := Lib.hid hne1
                have HN2 := Lib.hid hne2
                have HT1 := Lib.hid t1a
                have HTA := Lib.hid taba
                have HFA := Lib.hid fra
                have HZT : Hid (t < (v5.drew.alloc (.cells #[.int .i64 (q : Int)] 3)).heap.size) := Lib.hid (Nat.lt_of_lt_of_le htt hsz)
                have HZB : Hid (tb true < (v5.drew.alloc (.cells #[.int .i64 (q : Int)] 3)).heap.size) := Lib.hid (Nat.lt_of_lt_of_le htb1 hsz)
                have HSX := Lib.hid (HS5.out.below (bl_alloc (bl_drew (Below.refl v5.heap.size v5)) (.cells #[.int .i64 (q : Int)] 3)))
                clear hne1 hne2 hsz t1a taba fra
                go_region_law ((refine step_push (by rfl) (.tmp 56) (.tmp 58) 71 (by rfl) _ 3 Try.underlying71 II.out ⟨rfl, by decide⟩ _ (L true a).length _ (by rfl) HROW.out (some ⟨v5.heap.size, 0, none⟩) 1 1 _ (by rfl) HSRC.out HLL.out HBA.out ?_; intro v' w9 hgr; obtain ⟨A9, c9, hv9⟩ := hgr.val; subst hv9; have t9 := (hgr.by_.cell_far ⟨t, 1, none⟩ HZT.out HN1.out).trans HT1.out; have tab9 := (hgr.by_.cell_far ⟨tb true, a, none⟩ HZB.out HN2.out).trans HTA.out; have fr9 := (hgr.by_.frozen_far ⟨tb true, a, none⟩ HZB.out HN2.out).trans HFA.out; have HGR := Lib.hid hgr; clear hgr))
                all_goals
                  go_wp2_with fail
                  go_meet
                  case rel => exact HSX.out.push true (by omega) HGR.out
              case rest =>
                obtain ⟨R1, hS6⟩ := hcut
                obtain ⟨v6, rfl⟩ : ∃ v6 : World, v6 = wc := ⟨_, rfl⟩
                have HS6 := Lib.hid hS6
                clear hS6
                go_upto_region 14 with fail
                have hlen1 : ∀ s i, i < es.length → (pushL L true a (q : Int) s i).length ≤ 1025 := by
                  intro s i hi
                  have := HLEN.out s i hi
                  unfold pushL; split
                  · rw [List.length_append]; simp; omega
                  · omega
                have HLEN := Lib.hid hlen1
                obtain ⟨L1, hL1⟩ : ∃ L1, L1 = pushL L true a (q : Int) := ⟨_, rfl⟩
                rw [← hL1] at HLEN HS6
                have HL1 := Lib.hid hL1
                clear hlen1 hL1
                have htab := HS6.out.tr.cell false (i := q) (by omega)
                have hfr := HS6.out.tr.fr false q
                have t1 := block_cell HS6.out.ht (j := 2) rfl
                have hrow := own_upd (HS6.out.tr.row false q (by omega)) (Upd.of_below (F := fun _ => False) (bl_alloc (bl_drew (Below.refl v6.heap.size v6)) (.cells #[.int .i64 (a : Int)] 3))) (fun _ _ h => h)
                have hl1 := HLEN.out false q (by omega)
                have hsrc := Src.new (w := v6.drew) (vs := #[.int .i64 (a : Int)]) (t := 3) (size := 1) (by intro u hu; simp at hu; subst hu; rfl) rfl
                have HROW := Lib.hid hrow
                have HSRC := Lib.hid hsrc
                have HLL : Hid ((L1 false q).length + 1 ≤ maxLen ∧ ((L1 false q).length + 1) * 8 ≤ 140737488355328) := Lib.hid ⟨by unfold maxLen; omega, by omega⟩
                have HBA : Hid (w.heap.size ≤ (v6.drew.alloc (.cells #[.int .i64 (a : Int)] 3)).heap.size) := Lib.hid (Nat.le_trans HS6.out.bw.size (bl_alloc (bl_drew (Below.refl v6.heap.size v6)) _).size)
                have htt : t < v6.heap.size := HS6.out.tl
                have a0 : (0 : Int) ≤ (q : Int) := by omega
                have a1 : (q : Int) < (es.length : Int) := by omega
                have htb1 := HS6.out.tr.lt false
                clear hrow hsrc hl1
                have hne1 : some t ≠ (R1 false q).ownBlock := fun e => HS6.out.off.2 false q (by omega) e.symm
                have hne2 : some (tb false) ≠ (R1 false q).ownBlock := fun e => HS6.out.tr.nott false q _ (by omega) e.symm false rfl
                have hsz : v6.heap.size ≤ (v6.drew.alloc (.cells #[.int .i64 (a : Int)] 3)).heap.size := (bl_alloc (bl_drew (Below.refl v6.heap.size v6)) _).size
                have t1a := cell_below t1 (bl_alloc (bl_drew (Below.refl v6.heap.size v6)) (.cells #[.int .i64 (a : Int)] 3))
                have taba := cell_below htab (bl_alloc (bl_drew (Below.refl v6.heap.size v6)) (.cells #[.int .i64 (a : Int)] 3))
                have fra : (v6.drew.alloc (.cells #[.int .i64 (a : Int)] 3)).frozen? ⟨tb false, q, none⟩ = false := ((bl_alloc (bl_drew (Below.refl v6.heap.size v6)) (.cells #[.int .i64 (a : Int)] 3)).frozen (p := ⟨tb false, q, none⟩) htb1).trans hfr
                have HN1 := Lib.hid hne1
                have HN2 := Lib.hid hne2
                have HT1 := Lib.hid t1a
                have HTA := Lib.hid taba
                have HFA := Lib.hid fra
                have HZT : Hid (t < (v6.drew.alloc (.cells #[.int .i64 (a : Int)] 3)).heap.size) := Lib.hid (Nat.lt_of_lt_of_le htt hsz)
                have HZB : Hid (tb false < (v6.drew.alloc (.cells #[.int .i64 (a : Int)] 3)).heap.size) := Lib.hid (Nat.lt_of_lt_of_le htb1 hsz)
                have HSX := Lib.hid (HS6.out.below (bl_alloc (bl_drew (Below.refl v6.heap.size v6)) (.cells #[.int .i64 (a : Int)] 3)))
                clear hne1 hne2 hsz t1a taba fra
                go_region_law ((refine step_push (by rfl) (.tmp 72) (.tmp 74) 71 (by rfl) _ 3 Try.underlying71 II.out ⟨rfl, by decide⟩ _ (L1 false q).length _ (by rfl) HROW.out (some ⟨v6.heap.size, 0, none⟩) 1 1 _ (by rfl) HSRC.out HLL.out HBA.out ?_; intro v' w9 hgr; obtain ⟨A9, c9, hv9⟩ := hgr.val; subst hv9; have t9 := (hgr.by_.cell_far ⟨t, 2, none⟩ HZT.out HN1.out).trans HT1.out; have tab9 := (hgr.by_.cell_far ⟨tb false, q, none⟩ HZB.out HN2.out).trans HTA.out; have fr9 := (hgr.by_.frozen_far ⟨tb false, q, none⟩ HZB.out HN2.out).trans HFA.out; have HGR := Lib.hid hgr; clear hgr))
                all_goals
                  obtain ⟨R2, hS7⟩ := HSX.out.push false (by omega) HGR.out
                  have HS7 := Lib.hid hS7
                  clear hS7
                  go_wp2_with fail
                  go_roundg (ln - (j + 1))
                  case measure => have := HM2.out; omega
                  case rel =>
                    refine ⟨j + 1, R2, rfl, by omega, by go_num, ?_⟩
                    rw [HSTEP.out]; unfold stepL; rw [if_neg HB.out, ← HL1.out]
                    exact HS7.out
          · have hjn : ln = j := by omega
            subst hjn
            clear hjl hj
            go_wp2_with fail
            go_roundg (es.length - (a + 1))
            case measure => have := HM.out; omega
            case rel =>
              refine ⟨a + 1, R', rfl, by omega, by go_num, ?_⟩
              have h4 := HS4.out
              rw [List.take_of_length_le (by rw [HLN.out]; exact Nat.le_refl _), HO.out, HV.out] at h4
              exact h4.start ⟨rfl, by decide, fun h => by omega, by simp⟩ (fun b o e => by cases e)
      · have han : es.length = a := by omega
        subst han
        clear hlt ha
        go_wp2_with fail
        go_ret
        have h4 := HS.out
        refine ⟨t, rfl, ⟨tb, R, (HG.out.below h4.bw).wide (Nat.le_trans hEw h4.bw.size) (Nat.le_refl _), by omega, h4.tl, h4.ht, Nat.le_refl _, ?_, fun s => h4.tr.lt s, fun s i b hi e => ownBlock_lt (h4.tr.row s i hi) e⟩, h4.bw⟩
        have h5 := h4.tr.base (show B ≤ w.heap.size by omega)
        refine ⟨h5.tab, h5.tbB, h5.tne, fun s i hi => ?_, h5.nott, h5.apart⟩
        have h6 := h5.row s i hi
        cases s with
        | true => rw [rows_next HOK.out hi] at h6; exact h6
        | false => rw [rows_prev HOK.out hi] at h6; exact h6
end Go.Proofs.Ytkdpfbefdhjmcaa
