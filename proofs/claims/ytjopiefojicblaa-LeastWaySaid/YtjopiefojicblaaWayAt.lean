/- least.Along, least.Way. -/
import Derived.Test.YtjopiefojicblaaLeastAt
set_option linter.unusedVariables false
set_option linter.unusedSimpArgs false
namespace Go.Proofs.Ytjopiefojicblaa
open Go.ChangeShapes Go.WideShapes Go.ChangeAt Go.RowKit HeapP DistP RowP
def castL (l : List Nat) : List Int := l.map fun i => ((i : Nat) : Int)
theorem castL_append (l k : List Nat) : castL (l ++ k) = castL l ++ castL k := by simp [castL]
theorem castL_len (l : List Nat) : (castL l).length = l.length := by simp [castL]
/-- the way that is told: none, where there is none -/
noncomputable def wayT (ns : Bs) (es : Es) (bs : Bs) (cl : List Bool) (e v : Int) : List Int := if 0 ≤ btwT ns es bs cl e v then castL (wayL es bs cl (dl (toD es bs cl v)) e.toNat) else []
theorem way_wf {ns bs : Bs} {es : Es} (h : mayB ns es bs = true) {cl : List Bool} {v : Int} {e : Nat} (he : e < es.length) (h0 : 0 ≤ dl (toD es bs cl v) e) : ∀ x ∈ castL (wayL es bs cl (dl (toD es bs cl v)) e), (Lit.int .i64 x).wf = true := by
  intro x hx
  obtain ⟨i, hi, rfl⟩ := List.mem_map.1 hx
  have := ((way_ok h (toD_is h cl v).2 _ e he h0 (Int.le_of_eq (by omega : dl (toD es bs cl v) e = ((dl (toD es bs cl v) e).toNat : Int)))).lt i hi).1
  have s3 := (mayB_parts h).2.1.2.2.1
  exact wf_of (by omega) (by omega)
set_option maxRecDepth 100000 in
set_option maxHeartbeats 16000000 in
/-- Along, where far is what To tells, of an edge from where there is a way -/
theorem along_in {w : World} {B E t p : Nat} {ns bs : List (Int × Int)} {es : List (Int × Int × Int)} (h : TurnsAt w B E t p ns es bs) {A : Option Addr} {n c : Nat} {cl : List Bool} (hc : ReadsB w A n c cl) {v : Int} {AF : Option Addr} {cF : Nat} (hf : ReadsI w AF es.length cF (toD es bs cl v))
    {e : Nat} (he : e < es.length) (h0 : 0 ≤ dl (toD es bs cl v) e) :
    Calls Try.prog 32 #[.pointer (some ⟨t, 0, none⟩), .int .i64 (e : Nat), .slice AF es.length cF, .slice A n c] w fun r w' =>
      ∃ A' c', r = .returned (.tuple #[.slice A' (castL (wayL es bs cl (dl (toD es bs cl v)) e)).length c', .bool true]) ∧ Given w w' A' c' (castL (wayL es bs cl (dl (toD es bs cl v)) e)) ∧ Below w.heap.size w w' := by
  have HT := Lib.hid h
  have HC := Lib.hid hc
  have HF := Lib.hid hf
  obtain ⟨tb, R, hT⟩ := h
  have hok := hT.g.bd.1
  have HOK := Lib.hid hok
  have s3 := (mayB_parts hok).2.1.2.2.1
  have hD := (toD_is hok cl v)
  have HL := Lib.hid hD.1
  have HIS := Lib.hid hD.2
  have hbd := fun x => dl_bd (toD_bd hok cl v) x
  have HBD := Lib.hid hbd
  have hst := fun (w' : World) (hb : Below w.heap.size w w') (x : Nat) (hx : x < es.length) => step_at (HT.out.below hb) (HC.out.below hb) HL.out (HF.out.below hb) HBD.out hx
  have HST := Lib.hid hst
  have c0 : w.cell? ⟨t, 0, none⟩ = some (.pointer (some ⟨p, 0, none⟩)) := block_cell hT.ht (j := 0) rfl
  have HG := Lib.hid hT.g
  have hwf := way_wf hok (cl := cl) (v := v) he h0
  have HWF := Lib.hid hwf
  have hwl := way_len (es := es) (bs := bs) (cl := cl) (D := dl (toD es bs cl v)) (dl (toD es bs cl v) e).toNat (e := e) (by omega)
  have hb5 := (hbd e).2
  have HWL : Hid ((wayL es bs cl (dl (toD es bs cl v)) e).length ≤ 33553920) := Lib.hid (by omega)
  obtain ⟨i1, hi1⟩ := info1
  have II := Lib.hid hi1
  have e0 : (0 : Int) ≤ (e : Int) := by omega
  have e1 : (e : Int) < (es.length : Int) := by omega
  have e2 : ¬ (es.length : Int) ≤ (e : Int) := by omega
  have e3 : decide (es.length ≤ e) = false := decide_eq_false (by omega)
  have hmm : (if (es.length : Int) < (es.length : Int) then (es.length : Int) else (es.length : Int)) = (es.length : Int) := by split <;> rfl
  obtain ⟨bF, oF, hAF, hcF⟩ := hf.cell (by omega)
  have dE := hcF e he
  rw [dl_get (by rw [hD.1]; exact he)] at dE
  subst hAF
  obtain ⟨D, hDD⟩ : ∃ D, D = dl (toD es bs cl v) := ⟨_, rfl⟩
  rw [← hDD] at dE h0 HIS HBD HST HWF HWL hb5 ⊢
  have hd0 : ¬ D e < 0 := by omega
  have HDE := Lib.hid hDD
  obtain ⟨T, hTT⟩ : ∃ T, T = wayL es bs cl D e := ⟨_, rfl⟩
  rw [← hTT] at HWF HWL ⊢
  have HTT := Lib.hid hTT
  clear hT hc hf hok hD hbd hst hwf hwl hi1 hcF hDD hTT
  have HH0 := Lib.hid h0
  obtain ⟨de, hde⟩ : ∃ de, de = D e := ⟨_, rfl⟩
  rw [← hde] at dE hd0
  have HE2 := Lib.hid hde
  clear hde h0 hb5
  go_enter Try.func32, Try.ntmps32
  go_wp2_with (go_at_call 58; refine (edges_at HG.out).mono ?_; rintro e w' ⟨rfl, rfl⟩)
  go_loopg [1, 8] ((D e).toNat + 1) (fun M u z wr => ∃ (x : Nat) (O : List Nat), M = (D x).toNat + 1 ∧ u = .int .i64 (x : Nat) ∧ x < es.length ∧ 0 ≤ D x ∧ O ++ wayL es bs cl D x = T ∧ wr.ownsRow w.heap.size 3 1 z O.length (flatI (castL O)) ∧ Below w.heap.size w wr)
  case atStart => exact ⟨e, [], rfl, rfl, he, HH0.out, by rw [HTT.out]; rfl, World.ownsRow_nil _ _ _ _, Below.refl _ _⟩
  case round =>
    obtain ⟨x, O, hM, rfl, hx, hx0, hO, hown, hb⟩ := hrel
    have HM := Lib.hid hM
    have HX0 := Lib.hid hx0
    have HO := Lib.hid hO
    have HOWN := Lib.hid hown
    have HB := Lib.hid hb
    obtain ⟨bF2, oF2, hAF2, hcF2⟩ := (HF.out.below HB.out).cell (by omega)
    have dX := hcF2 x hx
    rw [dl_get (by rw [HL.out]; exact hx), ← HDE.out] at dX
    injection hAF2 with hAF2
    injection hAF2 with hAF3 hAF4 _
    subst hAF3 hAF4
    have x0 : (0 : Int) ≤ (x : Int) := by omega
    have x1 : (x : Int) < (es.length : Int) := by omega
    obtain ⟨dx, hdx⟩ : ∃ dx, dx = D x := ⟨_, rfl⟩
    rw [← hdx] at dX
    have HDX := Lib.hid hdx
    clear hM hO hown hb hcF2 dE hdx hx0
    by_cases hp : 0 < dx
    · obtain ⟨y, hy⟩ := step_some HOK.out HIS.out hx (by rw [← HDX.out]; exact hp)
      obtain ⟨p1, p2, p3, p4, p5, p6⟩ := step_parts hy
      have hmo := way_more (es := es) (bs := bs) (cl := cl) (D := D) (e := x) (by rw [← HDX.out]; exact hp) hy
      have hsi : stepI es bs cl D x = (y : Int) := by unfold stepI; rw [hy]
      have hsx := HST.out wr HB.out x hx
      rw [hsi] at hsx
      have hO := HO.out
      rw [hmo] at hO
      have hol : O.length + 1 ≤ 33553920 := by
        have := HWL.out
        rw [← hO] at this
        simp at this; omega
      have HO2 := Lib.hid hO
      have HSX := Lib.hid hsx
      have HP1 := Lib.hid p1
      have HP4 := Lib.hid p4
      have HP5 := Lib.hid p5
      have y0 : (0 : Int) ≤ (y : Int) := by omega
      have y1 : ¬ (y : Int) < 0 := by omega
      clear hy p1 p2 p3 p4 p5 p6 hmo hsi hsx hO
      go_wp2_with fail
      refine HSX.out.mono ?_
      rintro r w2 ⟨rfl, hb2⟩
      have HB2 := Lib.hid (bl_then HB.out hb2)
      have HOA := Lib.hid (own_upd (own_upd HOWN.out (Upd.of_below (F := fun _ => False) hb2) (fun _ _ h => h)) (Upd.of_below (F := fun _ => False) (bl_alloc (Below.refl _ _) (.cells #[.int .i64 (y : Int)] 3))) (fun _ _ h => h))
      have HSRC := Lib.hid (Src.new (w := w2) (vs := #[.int .i64 (y : Int)]) (t := 3) (size := 1) (by intro u hu; simp at hu; subst hu; rfl) rfl)
      have HBS : Hid (w.heap.size ≤ (w2.alloc (.cells #[.int .i64 (y : Int)] 3)).heap.size) := Lib.hid (bl_alloc HB2.out _).size
      have HOL : Hid (O.length + 1 ≤ maxLen ∧ (O.length + 1) * 8 ≤ 140737488355328) := Lib.hid ⟨by unfold maxLen; omega, by omega⟩
      clear hb2 hol
      go_wp2_with (at_builtin; refine wpList_push rfl (.tmp 47) (.tmp 49) 22 rfl w.heap.size 3 Try.underlying22 II.out ⟨rfl, by decide⟩ _ O.length _ rfl HOA.out (some ⟨w2.heap.size, 0, none⟩) 1 1 _ rfl HSRC.out HOL.out HBS.out ?_)
      intro v' w3 hgr
      have hrow := hgr.row
      have hb3 : Below w.heap.size w w3 := (bl_alloc HB2.out (.cells #[.int .i64 (y : Int)] 3)).grown hgr.by_ HBS.out (fun g hg => (World.ownsRow.lt HOA.out g hg).1)
      have HROW := Lib.hid hrow
      have HB3 := Lib.hid hb3
      clear hgr hrow hb3
      go_wp2_with fail
      go_roundg ((D y).toNat + 1)
      case measure => have := HM.out; have := HP4.out; have := HP5.out; omega
      case rel =>
        refine ⟨y, O ++ [y], rfl, rfl, HP1.out, HP4.out, ?_, ?_, HB3.out⟩
        · rw [List.append_assoc]; exact HO2.out
        · rw [castL_append, flatI_append, List.length_append]; exact HROW.out
    · have hend := way_end (es := es) (bs := bs) (cl := cl) (D := D) (e := x) (by rw [← HDX.out]; exact hp)
      have hO := HO.out
      rw [hend, List.append_nil] at hO
      subst hO
      obtain ⟨A', c', hv⟩ := own_form HOWN.out
      subst hv
      have HROW := HOWN
      clear hend
      go_wp2_with fail
      go_ret2
      refine ⟨A', c', by rw [castL_len]; rfl, ⟨?_, fun b o e => by subst e; exact own_lt2 HROW.out, by rw [castL_len]; exact own_shape HROW.out⟩, HB.out⟩
      have hr := HROW.out
      rw [← castL_len] at hr
      exact ReadsI.of_row (by rw [castL_len]; rw [castL_len] at hr; exact hr) (by have := HWL.out; rw [castL_len]; unfold maxLen; omega) HWF.out
theorem wayT_none {ns bs : Bs} {es : Es} {cl : List Bool} {e v : Int} (h : btwT ns es bs cl e v < 0) : wayT ns es bs cl e v = [] ∧ decide (0 ≤ btwT ns es bs cl e v) = false := by
  refine ⟨by unfold wayT; rw [if_neg (by omega)], decide_eq_false (by omega)⟩
set_option maxRecDepth 100000 in
set_option maxHeartbeats 4000000 in
/-- Along of an edge that there is none of in far -/
theorem along_out {w : World} {B E t p : Nat} {ns bs : List (Int × Int)} {es : List (Int × Int × Int)} (h : TurnsAt w B E t p ns es bs) {A : Option Addr} {n c : Nat} (e : Int) {AF : Option Addr} {m cF : Nat} (hm : m = es.length ∨ m = 0) (he : e < 0 ∨ (m : Int) ≤ e) :
    Calls Try.prog 32 #[.pointer (some ⟨t, 0, none⟩), .int .i64 e, .slice AF m cF, .slice A n c] w fun r w' => r = .returned (.tuple #[.slice none 0 0, .bool false]) ∧ Below w.heap.size w w' := by
  obtain ⟨tb, R, hT⟩ := h
  have c0 : w.cell? ⟨t, 0, none⟩ = some (.pointer (some ⟨p, 0, none⟩)) := block_cell hT.ht (j := 0) rfl
  have HG := Lib.hid hT.g
  clear hT
  by_cases h0 : e < 0
  · clear hm he
    go_enter Try.func32, Try.ntmps32
    go_wp2_with fail
    go_ret2
    exact ⟨rfl, Below.refl _ _⟩
  · have h2 : (m : Int) ≤ e := by omega
    have hmm : (if (es.length : Int) < (m : Int) then (es.length : Int) else (m : Int)) = (m : Int) := by rcases hm with rfl | rfl <;> split <;> omega
    clear hm he
    go_enter Try.func32, Try.ntmps32
    go_wp2_with (go_at_call 58; refine (edges_at HG.out).mono ?_; rintro e w' ⟨rfl, rfl⟩)
    go_ret2
    exact ⟨rfl, Below.refl _ _⟩
set_option maxRecDepth 100000 in
set_option maxHeartbeats 4000000 in
/-- Along of an edge from where there is no way -/
theorem along_no {w : World} {B E t p : Nat} {ns bs : List (Int × Int)} {es : List (Int × Int × Int)} (h : TurnsAt w B E t p ns es bs) {A : Option Addr} {n c : Nat} {AF : Option Addr} {cF : Nat} {L : List Int} (hl : L.length = es.length) (hf : ReadsI w AF es.length cF L) {e : Nat} (he : e < es.length) (h0 : dl L e < 0) :
    Calls Try.prog 32 #[.pointer (some ⟨t, 0, none⟩), .int .i64 (e : Nat), .slice AF es.length cF, .slice A n c] w fun r w' => r = .returned (.tuple #[.slice none 0 0, .bool false]) ∧ Below w.heap.size w w' := by
  obtain ⟨tb, R, hT⟩ := h
  have c0 : w.cell? ⟨t, 0, none⟩ = some (.pointer (some ⟨p, 0, none⟩)) := block_cell hT.ht (j := 0) rfl
  have HG := Lib.hid hT.g
  have e0 : (0 : Int) ≤ (e : Int) := by omega
  have e1 : (e : Int) < (es.length : Int) := by omega
  have e2 : ¬ (es.length : Int) ≤ (e : Int) := by omega
  have hmm : (if (es.length : Int) < (es.length : Int) then (es.length : Int) else (es.length : Int)) = (es.length : Int) := by split <;> rfl
  obtain ⟨bF, oF, rfl, hcF⟩ := hf.cell (by omega)
  have dE := hcF e he
  rw [dl_get (by rw [hl]; exact he)] at dE
  obtain ⟨de, hde⟩ : ∃ de, de = dl L e := ⟨_, rfl⟩
  rw [← hde] at dE h0
  clear hT hcF hf hl hde
  go_enter Try.func32, Try.ntmps32
  go_wp2_with (go_at_call 58; refine (edges_at HG.out).mono ?_; rintro e w' ⟨rfl, rfl⟩)
  go_ret2
  exact ⟨rfl, Below.refl _ _⟩
theorem along_at {w : World} {B E t p : Nat} {ns bs : List (Int × Int)} {es : List (Int × Int × Int)} (h : TurnsAt w B E t p ns es bs) {A : Option Addr} {n c : Nat} {cl : List Bool} (hc : ReadsB w A n c cl) (e v : Int) {AF : Option Addr} {cF : Nat} (hf : ReadsI w AF (toT ns es bs cl v).length cF (toT ns es bs cl v)) :
    Calls Try.prog 32 #[.pointer (some ⟨t, 0, none⟩), .int .i64 e, .slice AF (toT ns es bs cl v).length cF, .slice A n c] w fun r w' =>
      ∃ A' c', r = .returned (.tuple #[.slice A' (wayT ns es bs cl e v).length c', .bool (decide (0 ≤ btwT ns es bs cl e v))]) ∧ Given w w' A' c' (wayT ns es bs cl e v) ∧ Below w.heap.size w w' := by
  have hok : mayB ns es bs = true := by obtain ⟨tb, R, hT⟩ := h; exact hT.g.bd.1
  have none_ : btwT ns es bs cl e v < 0 → Calls Try.prog 32 #[.pointer (some ⟨t, 0, none⟩), .int .i64 e, .slice AF (toT ns es bs cl v).length cF, .slice A n c] w (fun r w' => r = .returned (.tuple #[.slice none 0 0, .bool false]) ∧ Below w.heap.size w w') → Calls Try.prog 32 #[.pointer (some ⟨t, 0, none⟩), .int .i64 e, .slice AF (toT ns es bs cl v).length cF, .slice A n c] w fun r w' =>
      ∃ A' c', r = .returned (.tuple #[.slice A' (wayT ns es bs cl e v).length c', .bool (decide (0 ≤ btwT ns es bs cl e v))]) ∧ Given w w' A' c' (wayT ns es bs cl e v) ∧ Below w.heap.size w w' := by
    intro hlt hcall
    obtain ⟨x1, x2⟩ := wayT_none hlt
    rw [x1, x2]
    refine hcall.mono ?_
    rintro r w' ⟨rfl, hb⟩
    exact ⟨none, 0, rfl, given_nil _ _, hb⟩
  rcases inB_cases (v := v) (n := ns.length) with ⟨k, rfl, hk, hin⟩ | ⟨hout, hin⟩
  · have et : toT ns es bs cl (k : Int) = toD es bs cl (k : Int) := by unfold toT; rw [if_pos hin]
    have hl := (toD_is hok cl (k : Int)).1
    rcases inB_cases (v := e) (n := es.length) with ⟨q, rfl, hq, hin2⟩ | ⟨hout2, hin2⟩
    · have eb : btwT ns es bs cl (q : Int) (k : Int) = dl (toD es bs cl (k : Int)) q := by unfold btwT; rw [if_pos ⟨hin2, hin⟩, Int.toNat_natCast]
      have hf' := hf
      rw [et, hl] at hf'
      by_cases h0 : 0 ≤ dl (toD es bs cl (k : Int)) q
      · have := along_in h hc hf' hq h0
        have ew : wayT ns es bs cl (q : Int) (k : Int) = castL (wayL es bs cl (dl (toD es bs cl (k : Int))) q) := by unfold wayT; rw [eb, if_pos h0, Int.toNat_natCast]
        rw [ew, eb, decide_eq_true h0, et, hl]
        exact this
      · refine none_ (by rw [eb]; omega) ?_
        rw [et, hl]
        exact along_no h hl hf' hq (by omega)
    · have eb : btwT ns es bs cl e (k : Int) = -1 := by unfold btwT; rw [if_neg (by rw [hin2]; simp)]
      refine none_ (by rw [eb]; omega) ?_
      exact along_out h e (.inl (by rw [et, hl])) (by rw [et, hl]; exact hout2)
  · have et : toT ns es bs cl v = [] := by unfold toT; rw [if_neg (by rw [hin]; simp)]
    have eb : btwT ns es bs cl e v = -1 := by unfold btwT; rw [if_neg (by rw [hin]; simp)]
    refine none_ (by rw [eb]; omega) ?_
    refine along_out h e (.inr (by rw [et]; rfl)) ?_
    rw [et]
    show e < 0 ∨ (0 : Int) ≤ e
    omega
set_option maxRecDepth 100000 in
set_option maxHeartbeats 4000000 in
theorem way_at {w : World} {B E t p : Nat} {ns bs : List (Int × Int)} {es : List (Int × Int × Int)} (h : TurnsAt w B E t p ns es bs) {A : Option Addr} {n c : Nat} {cl : List Bool} (hc : ReadsB w A n c cl) (h1 : 1 ≤ es.length) (e v : Int) :
    Calls Try.prog 30 #[.pointer (some ⟨t, 0, none⟩), .int .i64 e, .int .i64 v, .slice A n c] w fun r w' =>
      ∃ A' c', r = .returned (.tuple #[.slice A' (wayT ns es bs cl e v).length c', .bool (decide (0 ≤ btwT ns es bs cl e v))]) ∧ Given w w' A' c' (wayT ns es bs cl e v) ∧ Below w.heap.size w w' := by
  have hto := to_at h hc h1 v
  have hal := fun (w' : World) (hb : Below w.heap.size w w') (AF : Option Addr) (cF : Nat) (hf : ReadsI w' AF (toT ns es bs cl v).length cF (toT ns es bs cl v)) => along_at (h.below hb) (hc.below hb) e v hf
  have HTO := Lib.hid hto
  have HAL := Lib.hid hal
  clear h hc hto hal
  obtain ⟨W, hW⟩ : ∃ W, W = wayT ns es bs cl e v := ⟨_, rfl⟩
  obtain ⟨L, hL⟩ : ∃ L, L = toT ns es bs cl v := ⟨_, rfl⟩
  obtain ⟨b, hb⟩ : ∃ b, b = decide (0 ≤ btwT ns es bs cl e v) := ⟨_, rfl⟩
  rw [← hW, ← hb] at HAL ⊢
  rw [← hL] at HAL HTO
  clear hW hL hb
  go_enter Try.func30, Try.ntmps30
  go_wp2_with fail
  refine HTO.out.mono ?_
  rintro r w1 ⟨A1, d1, rfl, hg1, hb1⟩
  have HG1 := Lib.hid hg1
  have HB1 := Lib.hid hb1
  clear hg1 hb1
  go_wp2_with fail
  refine (HAL.out w1 HB1.out A1 d1 HG1.out.1).mono ?_
  rintro r w2 ⟨A2, d2, rfl, hg2, hb2⟩
  have HG2 := Lib.hid hg2
  have HB2 := Lib.hid hb2
  clear hg2 hb2
  go_wp2_with fail
  go_ret2
  exact ⟨A2, d2, rfl, ⟨HG2.out.1, fun b o e => by have := HG2.out.2.1 b o e; have := HB1.out.size; omega, HG2.out.2.2⟩, bl_then HB1.out HB2.out⟩
end Go.Proofs.Ytjopiefojicblaa
