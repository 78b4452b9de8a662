/- detour.Dist, detour.Meets; the document's Meets. -/
import Derived.Test.YtjopiefojicblaaLeastAt
set_option linter.unusedVariables false
set_option linter.unusedSimpArgs false
namespace Go.Proofs.Ytjopiefojicblaa
open Go.ChangeShapes Go.WideShapes Go.ChangeAt Go.RowKit HeapP DistP RowP
theorem range_getD {N k : Nat} (h : k < N) : (List.range N).getD k 0 = k := by simp [List.getD_eq_getElem?_getD, h]
/-- the first number of which it is so; -1: there is none -/
def firstI (p : Nat → Bool) (N : Nat) : Int := match (List.range N).find? p with
  | some i => (i : Int)
  | none => -1
theorem first_at {p : Nat → Bool} {N k : Nat} (hn : ∀ j, j < k → p j = false) (hk : k < N) (hp : p k = true) : firstI p N = (k : Int) := by
  unfold firstI
  have := find_at (p := p) (l := List.range N) (k := k) (fun j hj => by rw [range_getD (by omega)]; exact hn j hj) (by simpa using hk) (by rw [range_getD hk]; exact hp)
  rw [range_getD hk] at this
  rw [this]
theorem first_no {p : Nat → Bool} {N : Nat} (h : ∀ j, j < N → p j = false) : firstI p N = -1 := by
  unfold firstI
  rw [find_no (l := List.range N) (fun j hj => by rw [List.length_range] at hj; rw [range_getD hj]; exact h j hj)]
theorem first_or (p : Nat → Bool) (N : Nat) : (∀ j, j < N → p j = false) ∨ ∃ k : Nat, k < N ∧ p k = true ∧ ∀ j, j < k → p j = false := by
  induction N with
  | zero => exact .inl fun j hj => by omega
  | succ N ih =>
    rcases ih with h | ⟨k, h1, h2, h3⟩
    · cases hp : p N with
      | true => exact .inr ⟨N, by omega, hp, h⟩
      | false =>
        left
        intro j hj
        by_cases e : j = N
        · subst e; exact hp
        · exact h j (by omega)
    · exact .inr ⟨k, by omega, h2, h3⟩
theorem first_is (p : Nat → Bool) (N : Nat) : (firstI p N = -1 ∧ ∀ j, j < N → p j = false) ∨ ∃ k : Nat, firstI p N = (k : Int) ∧ k < N ∧ p k = true ∧ ∀ j, j < k → p j = false := by
  rcases first_or p N with h | ⟨k, h1, h2, h3⟩
  · exact .inl ⟨first_no h, h⟩
  · exact .inr ⟨k, first_at h3 h1 h2, h1, h2, h3⟩
/-- the least edge where both ends meet; -1: there is none -/
noncomputable def meetT (ns : Bs) (es : Es) (bs : Bs) (cl : List Bool) (e v : Int) : Int :=
  if 0 ≤ btwT ns es bs cl e v then firstI (meetB (dl (fromT es bs cl e)) (dl (toT ns es bs cl v)) (btwT ns es bs cl e v)) es.length else -1
theorem btw_in {ns bs : Bs} {es : Es} (h : mayB ns es bs = true) {cl : List Bool} {e v : Int} (h0 : 0 ≤ btwT ns es bs cl e v) : ∃ q k : Nat, e = (q : Int) ∧ v = (k : Int) ∧ q < es.length ∧ k < ns.length ∧ fromT es bs cl e = fromD es bs cl q ∧ toT ns es bs cl v = toD es bs cl v ∧ btwT ns es bs cl e v = dl (toD es bs cl v) q ∧ inB 0 e ((es.length : Int) - 1) = true ∧ inB 0 v ((ns.length : Int) - 1) = true := by
  have hin : inB 0 e ((es.length : Int) - 1) = true ∧ inB 0 v ((ns.length : Int) - 1) = true := by
    unfold btwT at h0
    split at h0
    · rename_i h2; exact h2
    · omega
  have h3 := hin
  unfold inB at h3
  simp only [Bool.and_eq_true, decide_eq_true_eq] at h3
  refine ⟨e.toNat, v.toNat, by omega, by omega, by omega, by omega, ?_, ?_, ?_, hin.1, hin.2⟩
  · unfold fromT; rw [if_pos hin.1]
  · unfold toT; rw [if_pos hin.2]
  · unfold btwT; rw [if_pos hin]
theorem meet_in {ns bs : Bs} {es : Es} (h : mayB ns es bs = true) {cl : List Bool} {q : Nat} {v : Int} (h0 : 0 ≤ btwT ns es bs cl (q : Int) v) (hq : q < es.length) :
    ∃ m : Nat, meetT ns es bs cl (q : Int) v = (m : Int) ∧ m ≤ q ∧ meetB (dl (fromD es bs cl q)) (dl (toD es bs cl v)) (dl (toD es bs cl v) q) m = true ∧ ∀ j, j < m → meetB (dl (fromD es bs cl q)) (dl (toD es bs cl v)) (dl (toD es bs cl v) q) j = false := by
  obtain ⟨q2, k, e1, rfl, h1, h2, e3, e4, e5, _, _⟩ := btw_in h h0
  obtain rfl : q2 = q := by omega
  have hF := (fromD_is h cl q2).2
  have e6 := hF.a q2 hq rfl
  have hmq : meetB (dl (fromD es bs cl q2)) (dl (toD es bs cl (k : Int))) (dl (toD es bs cl (k : Int)) q2) q2 = true := meetB_iff.2 ⟨by omega, by omega, by omega⟩
  have hm : meetT ns es bs cl (q2 : Int) (k : Int) = firstI (meetB (dl (fromD es bs cl q2)) (dl (toD es bs cl (k : Int))) (dl (toD es bs cl (k : Int)) q2)) es.length := by
    unfold meetT; rw [if_pos h0, e3, e4, e5]
  rw [hm]
  rcases first_is (meetB (dl (fromD es bs cl q2)) (dl (toD es bs cl (k : Int))) (dl (toD es bs cl (k : Int)) q2)) es.length with ⟨_, f2⟩ | ⟨m, f1, f2, f3, f4⟩
  · rw [f2 q2 hq] at hmq; cases hmq
  · refine ⟨m, f1, ?_, f3, f4⟩
    by_cases hlt : q2 < m
    · rw [f4 q2 hlt] at hmq; cases hmq
    · omega
theorem meet_none {ns bs : Bs} {es : Es} {cl : List Bool} {e v : Int} (h0 : btwT ns es bs cl e v < 0) : meetT ns es bs cl e v = -1 := by unfold meetT; rw [if_neg (by omega)]
theorem meet_sign {ns bs : Bs} {es : Es} (h : mayB ns es bs = true) {cl : List Bool} {e v : Int} : (0 ≤ meetT ns es bs cl e v) ↔ 0 ≤ btwT ns es bs cl e v := by
  constructor
  · intro h1
    by_cases h0 : 0 ≤ btwT ns es bs cl e v
    · exact h0
    · rw [meet_none (by omega)] at h1; omega
  · intro h0
    obtain ⟨q, k, rfl, rfl, h1, h2, _⟩ := btw_in h h0
    obtain ⟨m, hm, _⟩ := meet_in h h0 h1
    rw [hm]; omega
set_option maxRecDepth 100000 in
set_option maxHeartbeats 4000000 in
theorem ddist_at {w : World} {B E t p : Nat} {ns bs : List (Int × Int)} {es : List (Int × Int × Int)} (h : TurnsAt w B E t p ns es bs) {A : Option Addr} {n c : Nat} {cl : List Bool} (hc : ReadsB w A n c cl) (h1 : 1 ≤ es.length) (e v : Int) :
    Calls Try.prog 39 #[.pointer (some ⟨t, 0, none⟩), .int .i64 e, .int .i64 v, .slice A n c] w fun r w' => r = .returned (.tuple #[.int .i64 (max0 (btwT ns es bs cl e v)), .bool (decide (0 ≤ btwT ns es bs cl e v))]) ∧ Below w.heap.size w w' := by
  have hb := btw_at h hc h1 e v
  obtain ⟨D, hD⟩ : ∃ D, D = max0 (btwT ns es bs cl e v) := ⟨_, rfl⟩
  obtain ⟨o, ho⟩ : ∃ o, o = decide (0 ≤ btwT ns es bs cl e v) := ⟨_, rfl⟩
  rw [← hD, ← ho] at hb ⊢
  have HB := Lib.hid hb
  clear h hc hb hD ho
  go_enter Try.func39, Try.ntmps39
  go_wp2_with fail
  refine HB.out.mono ?_
  rintro r w1 ⟨rfl, hb1⟩
  have B1 := Lib.hid hb1
  clear hb1
  go_wp2_with fail
  go_ret2
  exact ⟨rfl, B1.out⟩
set_option maxRecDepth 100000 in
set_option maxHeartbeats 8000000 in
theorem meets_at {w : World} {B E t p : Nat} {ns bs : List (Int × Int)} {es : List (Int × Int × Int)} (h : TurnsAt w B E t p ns es bs) {A : Option Addr} {n c : Nat} {cl : List Bool} (hc : ReadsB w A n c cl) (h1 : 1 ≤ es.length) (e v : Int) :
    Calls Try.prog 40 #[.pointer (some ⟨t, 0, none⟩), .int .i64 e, .int .i64 v, .slice A n c] w fun r w' => r = .returned (.tuple #[.int .i64 (max0 (meetT ns es bs cl e v)), .bool (decide (0 ≤ meetT ns es bs cl e v))]) ∧ Below w.heap.size w w' := by
  have hok : mayB ns es bs = true := by obtain ⟨tb, R, hT⟩ := h; exact hT.g.bd.1
  have s3 := (mayB_parts hok).2.1.2.2.1
  have hd := ddist_at h hc h1 e v
  by_cases h0 : 0 ≤ btwT ns es bs cl e v
  · have hfr := fun (w' : World) (hb : Below w.heap.size w w') => from_at (h.below hb) (hc.below hb) e
    have hto := fun (w' : World) (hb : Below w.heap.size w w') => to_at (h.below hb) (hc.below hb) h1 v
    have hms := (meet_sign (e := e) (v := v) (cl := cl) hok).2 h0
    have hmf : meetT ns es bs cl e v = firstI (meetB (dl (fromT es bs cl e)) (dl (toT ns es bs cl v)) (btwT ns es bs cl e v)) es.length := if_pos h0
    have hbd := btw_bd hok cl e v
    obtain ⟨q, k, rfl, rfl, hq, hk, ef, et, _, _, _⟩ := btw_in hok h0
    have hbF : ∀ i, -1 ≤ dl (fromT es bs cl (q : Int)) i ∧ dl (fromT es bs cl (q : Int)) i ≤ 33553920 := fun i => by rw [ef]; exact dl_bd (fromD_bd hok cl _) i
    have hbT : ∀ i, -1 ≤ dl (toT ns es bs cl (k : Int)) i ∧ dl (toT ns es bs cl (k : Int)) i ≤ 33553920 := fun i => by rw [et]; exact dl_bd (toD_bd hok cl _) i
    have lF : (fromT es bs cl (q : Int)).length = es.length := by rw [ef]; exact (fromD_is hok cl q).1
    have lT : (toT ns es bs cl (k : Int)).length = es.length := by rw [et]; exact (toD_is hok cl (k : Int)).1
    rw [lF] at hfr
    rw [lT] at hto
    have x1 : max0 (btwT ns es bs cl (q : Int) (k : Int)) = btwT ns es bs cl (q : Int) (k : Int) := if_pos h0
    have x2 : decide (0 ≤ btwT ns es bs cl (q : Int) (k : Int)) = true := decide_eq_true h0
    rw [x1, x2] at hd
    rw [show max0 (meetT ns es bs cl (q : Int) (k : Int)) = meetT ns es bs cl (q : Int) (k : Int) from if_pos hms, decide_eq_true hms, hmf]
    rw [hmf] at hms
    obtain ⟨F, hF⟩ : ∃ F, F = fromT es bs cl (q : Int) := ⟨_, rfl⟩
    obtain ⟨T, hTT⟩ : ∃ T, T = toT ns es bs cl (k : Int) := ⟨_, rfl⟩
    obtain ⟨D, hD⟩ : ∃ D, D = btwT ns es bs cl (q : Int) (k : Int) := ⟨_, rfl⟩
    rw [← hF] at hfr hbF lF hms ⊢
    rw [← hTT] at hto hbT lT hms ⊢
    rw [← hD] at hd hbd hms ⊢
    have HBF := Lib.hid hbF
    have HBT := Lib.hid hbT
    have HFR := Lib.hid hfr
    have HTO := Lib.hid hto
    have HD := Lib.hid hd
    have HMS := Lib.hid hms
    have LF := Lib.hid lF
    have LT := Lib.hid lT
    clear h hc hok hfr hto hmf hbF hbT lF lT x1 x2 hF hTT hD ef et h0 hd hms hq hk
    go_enter Try.func40, Try.ntmps40
    go_wp2_with fail
    refine HD.out.mono ?_
    rintro r w1 ⟨rfl, hb1⟩
    have B1 := Lib.hid hb1
    clear hb1
    go_wp2_with fail
    refine (HFR.out w1 B1.out).mono ?_
    rintro r w2 ⟨AF, cF, rfl, hg, hb⟩
    have B2 := Lib.hid (bl_then B1.out hb)
    have hg1 := hg.1
    rw [LF.out] at hg1
    have HF2 := Lib.hid hg1
    clear hg hb hg1
    go_wp2_with fail
    refine (HTO.out w2 B2.out).mono ?_
    rintro r w3 ⟨AT, cT, rfl, hg, hb⟩
    have B3 := Lib.hid (bl_then B2.out hb)
    have hg1 := hg.1
    rw [LT.out] at hg1
    have HT3 := Lib.hid hg1
    have HF3 := Lib.hid (HF2.out.below hb)
    clear hg hb hg1
    go_wp2_with fail
    go_loopg [36] es.length (fun M u wr => ∃ i : Nat, M = es.length - i ∧ i ≤ es.length ∧ u = .int .i64 (i : Nat) ∧ (∀ j, j < i → meetB (dl F) (dl T) D j = false) ∧ Below w3.heap.size w3 wr)
    case atStart => exact ⟨0, rfl, Nat.zero_le _, rfl, fun j hj => by omega, Below.refl _ _⟩
    case round =>
      obtain ⟨i, hM, hi, rfl, hno, hb⟩ := hrel
      have HM := Lib.hid hM
      have HNO := Lib.hid hno
      have HB := Lib.hid hb
      clear hM hno hb
      by_cases hlt : i < es.length
      · obtain ⟨bF, oF, rfl, hcF⟩ := (HF3.out.below HB.out).cell (by omega)
        obtain ⟨bT, oT, rfl, hcT⟩ := (HT3.out.below HB.out).cell (by omega)
        have dF := hcF i hlt
        have dT := hcT i hlt
        rw [dl_get (by rw [LF.out]; exact hlt)] at dF
        rw [dl_get (by rw [LT.out]; exact hlt)] at dT
        have hfi := @meetB_iff (dl F) (dl T) D i
        have hno2 : meetB (dl F) (dl T) D i = false → ∀ j, j < i + 1 → meetB (dl F) (dl T) D j = false := fun h2 j hj => by
          by_cases hji : j = i
          · rw [hji]; exact h2
          · exact HNO.out j (by omega)
        have hfa := fun h2 => first_at (p := meetB (dl F) (dl T) D) HNO.out hlt h2
        have hbF := HBF.out i
        have hbT := HBT.out i
        obtain ⟨df, hdf⟩ : ∃ df, df = dl F i := ⟨_, rfl⟩
        obtain ⟨dt, hdt⟩ : ∃ dt, dt = dl T i := ⟨_, rfl⟩
        rw [← hdf] at dF hfi hbF
        rw [← hdt] at dT hfi hbT
        have hsum : IntKind.i64.wrap (df + dt) = df + dt := IntWalk.i64_in _ (by omega)
        have HFI := Lib.hid hfi
        have HNO3 := Lib.hid hno2
        have HFA := Lib.hid hfa
        have i0 : (0 : Int) ≤ (i : Int) := by omega
        have i1 : (i : Int) < (es.length : Int) := by omega
        clear hcF hcT hfi hno2 hfa hdf hdt
        by_cases hf0 : 0 ≤ df
        · have b1 : decide (0 ≤ df) = true := decide_eq_true hf0
          by_cases ht0 : 0 ≤ dt
          · have b2 : decide (0 ≤ dt) = true := decide_eq_true ht0
            by_cases hs : df + dt = D
            · have b3 : (df + dt == D) = true := by simp [hs]
              have HFS := Lib.hid (HFA.out (HFI.out.2 ⟨hf0, ht0, hs⟩))
              clear hs
              go_wp2_with fail
              go_ret2
              exact ⟨by rw [HFS.out]; rfl, bl_then B3.out HB.out⟩
            · have b3 : (df + dt == D) = false := beq_false_of_ne hs
              have HNO2 := Lib.hid (HNO3.out (by cases hff : meetB (dl F) (dl T) D i with
                | false => rfl
                | true => exact absurd (HFI.out.1 hff).2.2 hs))
              clear hs
              go_wp2_with fail
              go_roundg (es.length - (i + 1))
              case measure => have := HM.out; omega
              case rel => exact ⟨i + 1, rfl, by omega, by go_num, HNO2.out, HB.out⟩
          · have b2 : decide (0 ≤ dt) = false := decide_eq_false ht0
            have HNO2 := Lib.hid (HNO3.out (by cases hff : meetB (dl F) (dl T) D i with
              | false => rfl
              | true => exact absurd (HFI.out.1 hff).2.1 ht0))
            go_wp2_with fail
            go_roundg (es.length - (i + 1))
            case measure => have := HM.out; omega
            case rel => exact ⟨i + 1, rfl, by omega, by go_num, HNO2.out, HB.out⟩
        · have b1 : decide (0 ≤ df) = false := decide_eq_false hf0
          have HNO2 := Lib.hid (HNO3.out (by cases hff : meetB (dl F) (dl T) D i with
            | false => rfl
            | true => exact absurd (HFI.out.1 hff).1 hf0))
          go_wp2_with fail
          go_roundg (es.length - (i + 1))
          case measure => have := HM.out; omega
          case rel => exact ⟨i + 1, rfl, by omega, by go_num, HNO2.out, HB.out⟩
      · exfalso
        obtain rfl : i = es.length := by omega
        have := first_no HNO.out
        have := HMS.out
        omega
  · have x1 : max0 (btwT ns es bs cl e v) = 0 := if_neg h0
    have x2 : decide (0 ≤ btwT ns es bs cl e v) = false := decide_eq_false h0
    rw [x1, x2] at hd
    rw [meet_none (by omega)]
    have HD := Lib.hid hd
    clear h hc hok h0 x1 x2 hd
    go_enter Try.func40, Try.ntmps40
    go_wp2_with fail
    refine HD.out.mono ?_
    rintro r w1 ⟨rfl, hb1⟩
    have B1 := Lib.hid hb1
    clear hb1
    go_wp2_with fail
    go_ret2
    exact ⟨rfl, B1.out⟩
set_option maxRecDepth 100000 in
set_option maxHeartbeats 8000000 in
theorem meets4_at {w : World} {A1 A2 A3 : Option Addr} {n3 c1 c2 c3 : Nat} {ns bs : List (Int × Int)} {es : List (Int × Int × Int)} (h : GR w A1 A2 A3 ns.length es.length n3 c1 c2 c3 ns es bs) (hok : mayB ns es bs = true) {A : Option Addr} {n c : Nat} {cl : List Bool} (hc : ReadsB w A n c cl) (e v : Int) :
    Calls Try.prog 41 #[.agg #[.slice A1 ns.length c1, .slice A2 es.length c2, .slice A3 n3 c3], .int .i64 e, .int .i64 v, .slice A n c] w fun r w' => r = .returned (.int .i64 (meetT ns es bs cl e v)) ∧ Below w.heap.size w w' := by
  have s3 := (mayB_parts hok).2.1.2.2.1
  have HB0 := Lib.hid (bl_alloc (Below.refl w.heap.size w) (.cells #[.slice A1 ns.length c1, .slice A2 es.length c2, .slice A3 n3 c3] 29))
  have HG := Lib.hid (h.below HB0.out)
  have HC := Lib.hid (hc.below HB0.out)
  obtain ⟨W1, hW1⟩ : ∃ W1, W1 = w.alloc (.cells #[.slice A1 ns.length c1, .slice A2 es.length c2, .slice A3 n3 c3] 29) := ⟨_, rfl⟩
  have HS : Hid (∀ w', Below W1.heap.size W1 w' → w'.cell? ⟨w.heap.size, 0, none⟩ = some (.slice A1 ns.length c1) ∧ w'.cell? ⟨w.heap.size, 1, none⟩ = some (.slice A2 es.length c2) ∧ w'.cell? ⟨w.heap.size, 2, none⟩ = some (.slice A3 n3 c3)) := Lib.hid fun w' hb => by subst hW1; exact GR.box hb
  rw [← hW1] at HG HC HB0
  have HW := Lib.hid hW1
  have hbt := btw4_at HG.out hok HC.out e v
  have hbd := btw_bd hok cl e v
  by_cases h0 : 0 ≤ btwT ns es bs cl e v
  · have hfr := fun (w' : World) (hb : Below W1.heap.size W1 w') => from4_at (HG.out.below hb) hok (HC.out.below hb) e
    have hto := fun (w' : World) (hb : Below W1.heap.size W1 w') => to4_at (HG.out.below hb) hok (HC.out.below hb) v
    have hms := (meet_sign (e := e) (v := v) (cl := cl) hok).2 h0
    have hmf : meetT ns es bs cl e v = firstI (meetB (dl (fromT es bs cl e)) (dl (toT ns es bs cl v)) (btwT ns es bs cl e v)) es.length := if_pos h0
    obtain ⟨q, k, rfl, rfl, hq, hk, ef, et, _, _, _⟩ := btw_in hok h0
    have hbF : ∀ i, -1 ≤ dl (fromT es bs cl (q : Int)) i ∧ dl (fromT es bs cl (q : Int)) i ≤ 33553920 := fun i => by rw [ef]; exact dl_bd (fromD_bd hok cl _) i
    have hbT : ∀ i, -1 ≤ dl (toT ns es bs cl (k : Int)) i ∧ dl (toT ns es bs cl (k : Int)) i ≤ 33553920 := fun i => by rw [et]; exact dl_bd (toD_bd hok cl _) i
    have lF : (fromT es bs cl (q : Int)).length = es.length := by rw [ef]; exact (fromD_is hok cl q).1
    have lT : (toT ns es bs cl (k : Int)).length = es.length := by rw [et]; exact (toD_is hok cl (k : Int)).1
    rw [lF] at hfr
    rw [lT] at hto
    rw [hmf]
    rw [hmf] at hms
    obtain ⟨F, hF⟩ : ∃ F, F = fromT es bs cl (q : Int) := ⟨_, rfl⟩
    obtain ⟨T, hTT⟩ : ∃ T, T = toT ns es bs cl (k : Int) := ⟨_, rfl⟩
    obtain ⟨D, hD⟩ : ∃ D, D = btwT ns es bs cl (q : Int) (k : Int) := ⟨_, rfl⟩
    rw [← hF] at hfr hbF lF hms ⊢
    rw [← hTT] at hto hbT lT hms ⊢
    rw [← hD] at hbt hbd hms h0 ⊢
    have hd0 : ¬ D < 0 := by omega
    have HBF := Lib.hid hbF
    have HBT := Lib.hid hbT
    have HFR := Lib.hid hfr
    have HTO := Lib.hid hto
    have HD := Lib.hid hbt
    have HMS := Lib.hid hms
    have LF := Lib.hid lF
    have LT := Lib.hid lT
    clear h hc hok hfr hto hmf hbF hbT lF lT hF hTT hD ef et hbt hms hq hk h0 hW1
    go_enter Try.func41, Try.ntmps41
    go_wp2_with fail
    rw [← HW.out]
    refine HD.out.mono ?_
    rintro r w1 ⟨rfl, hb1⟩
    have B1 := Lib.hid hb1
    have K0 : Hid (Below W1.heap.size W1 w1.drew) := Lib.hid (bl_drew hb1)
    clear hb1
    go_wp2_with fail
    go_region_held3 (fun w' => w'.cell? ⟨w.heap.size, 0, none⟩ = some (.slice A1 ns.length c1) ∧ w'.cell? ⟨w.heap.size, 1, none⟩ = some (.slice A2 es.length c2) ∧ w'.cell? ⟨w.heap.size, 2, none⟩ = some (.slice A3 n3 c3))
      (first | exact HS.out _ K0.out | exact HS.out _ K1.out | exact HS.out _ K2.out)
      (first
        | (go_at_call 24
           refine (HFR.out _ K0.out).mono ?_
           rintro r z1 ⟨AF, cF, rfl, hg, hb⟩
           have K1 : Hid (Below W1.heap.size W1 z1) := Lib.hid (bl_then K0.out hb)
           have hg1 := hg.1
           rw [LF.out] at hg1
           have HF2 := Lib.hid hg1
           clear hg hb hg1)
        | (go_at_call 20
           refine (HTO.out _ K1.out).mono ?_
           rintro r z2 ⟨AT, cT, rfl, hg, hb⟩
           have K2 : Hid (Below W1.heap.size W1 z2) := Lib.hid (bl_then K1.out hb)
           have hg1 := hg.1
           rw [LT.out] at hg1
           have HT3 := Lib.hid hg1
           have HF3 := Lib.hid (HF2.out.below hb)
           clear hg hb hg1))
    all_goals
      go_wp2_with fail
      go_loopg [12] es.length (fun M u wr => ∃ i : Nat, M = es.length - i ∧ i ≤ es.length ∧ u = .int .i64 (i : Nat) ∧ (∀ j, j < i → meetB (dl F) (dl T) D j = false) ∧ Below z2.heap.size z2 wr)
      case atStart => exact ⟨0, rfl, Nat.zero_le _, rfl, fun j hj => by omega, Below.refl _ _⟩
      case round =>
        obtain ⟨i, hM, hi, rfl, hno, hb⟩ := hrel
        have HM := Lib.hid hM
        have HNO := Lib.hid hno
        have HB := Lib.hid hb
        clear hM hno hb
        by_cases hlt : i < es.length
        · obtain ⟨bF, oF, rfl, hcF⟩ := (HF3.out.below HB.out).cell (by omega)
          obtain ⟨bT, oT, rfl, hcT⟩ := (HT3.out.below HB.out).cell (by omega)
          have dF := hcF i hlt
          have dT := hcT i hlt
          rw [dl_get (by rw [LF.out]; exact hlt)] at dF
          rw [dl_get (by rw [LT.out]; exact hlt)] at dT
          have hfi := @meetB_iff (dl F) (dl T) D i
          have hno2 : meetB (dl F) (dl T) D i = false → ∀ j, j < i + 1 → meetB (dl F) (dl T) D j = false := fun h2 j hj => by
            by_cases hji : j = i
            · rw [hji]; exact h2
            · exact HNO.out j (by omega)
          have hfa := fun h2 => first_at (p := meetB (dl F) (dl T) D) HNO.out hlt h2
          have hbF := HBF.out i
          have hbT := HBT.out i
          obtain ⟨df, hdf⟩ : ∃ df, df = dl F i := ⟨_, rfl⟩
          obtain ⟨dt, hdt⟩ : ∃ dt, dt = dl T i := ⟨_, rfl⟩
          rw [← hdf] at dF hfi hbF
          rw [← hdt] at dT hfi hbT
          have hsum : IntKind.i64.wrap (df + dt) = df + dt := IntWalk.i64_in _ (by omega)
          have HFI := Lib.hid hfi
          have HNO3 := Lib.hid hno2
          have HFA := Lib.hid hfa
          have i0 : (0 : Int) ≤ (i : Int) := by omega
          have i1 : (i : Int) < (es.length : Int) := by omega
          clear hcF hcT hfi hno2 hfa hdf hdt
          by_cases hf0 : 0 ≤ df
          · have b1 : decide (0 ≤ df) = true := decide_eq_true hf0
            by_cases ht0 : 0 ≤ dt
            · have b2 : decide (0 ≤ dt) = true := decide_eq_true ht0
              by_cases hs : df + dt = D
              · have b3 : (df + dt == D) = true := by simp [hs]
                have HFS := Lib.hid (HFA.out (HFI.out.2 ⟨hf0, ht0, hs⟩))
                clear hs
                go_wp2_with fail
                go_quiet (fail)
                go_wp2_with fail
                go_ret
                exact ⟨by rw [HFS.out]; rfl, HB0.out.trans ((bl_then K2.out (bl_drewN HB.out _)).mono HB0.out.size)⟩
              · have b3 : (df + dt == D) = false := beq_false_of_ne hs
                have HNO2 := Lib.hid (HNO3.out (by cases hff : meetB (dl F) (dl T) D i with
                  | false => rfl
                  | true => exact absurd (HFI.out.1 hff).2.2 hs))
                clear hs
                go_wp2_with fail
                go_quiet (fail)
                go_wp2_with fail
                go_roundg (es.length - (i + 1))
                case measure => have := HM.out; omega
                case rel => exact ⟨i + 1, rfl, by omega, by go_num, HNO2.out, bl_drewN HB.out _⟩
            · have b2 : decide (0 ≤ dt) = false := decide_eq_false ht0
              have HNO2 := Lib.hid (HNO3.out (by cases hff : meetB (dl F) (dl T) D i with
                | false => rfl
                | true => exact absurd (HFI.out.1 hff).2.1 ht0))
              go_wp2_with fail
              go_quiet (fail)
              go_wp2_with fail
              go_roundg (es.length - (i + 1))
              case measure => have := HM.out; omega
              case rel => exact ⟨i + 1, rfl, by omega, by go_num, HNO2.out, bl_drewN HB.out _⟩
          · have b1 : decide (0 ≤ df) = false := decide_eq_false hf0
            have HNO2 := Lib.hid (HNO3.out (by cases hff : meetB (dl F) (dl T) D i with
              | false => rfl
              | true => exact absurd (HFI.out.1 hff).1 hf0))
            go_wp2_with fail
            go_quiet (fail)
            go_wp2_with fail
            go_roundg (es.length - (i + 1))
            case measure => have := HM.out; omega
            case rel => exact ⟨i + 1, rfl, by omega, by go_num, HNO2.out, bl_drewN HB.out _⟩
        · exfalso
          obtain rfl : i = es.length := by omega
          have := first_no HNO.out
          have := HMS.out
          omega
  · have hneg : btwT ns es bs cl e v < 0 := by omega
    rw [meet_none hneg]
    obtain ⟨D, hD⟩ : ∃ D, D = btwT ns es bs cl e v := ⟨_, rfl⟩
    rw [← hD] at hbt hneg
    have HD := Lib.hid hbt
    clear h hc hok h0 hbt hbd hD hW1
    go_enter Try.func41, Try.ntmps41
    go_wp2_with fail
    rw [← HW.out]
    refine HD.out.mono ?_
    rintro r w1 ⟨rfl, hb1⟩
    have B1 := Lib.hid hb1
    clear hb1
    go_wp2_with fail
    go_ret
    exact ⟨rfl, HB0.out.trans (B1.out.mono HB0.out.size)⟩
end Go.Proofs.Ytjopiefojicblaa
