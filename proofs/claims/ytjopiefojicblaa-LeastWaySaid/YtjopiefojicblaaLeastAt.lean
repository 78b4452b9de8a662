/- least.step, Along, Way; the document's Way. -/
import Derived.Test.YtjopiefojicblaaLeastPure
import Derived.Test.YtjopiefojicblaaDistAll
import Derived.Test.YtjopiefojicblaaOuts
import Derived.BigQuiet
set_option linter.unusedVariables false
set_option linter.unusedSimpArgs false
namespace Go.Proofs.Ytjopiefojicblaa
open Go.ChangeShapes Go.WideShapes Go.ChangeAt Go.RowKit HeapP DistP RowP
def stepI (es : Es) (bs : Bs) (cl : List Bool) (D : Nat → Int) (e : Nat) : Int := match stepN es bs cl D e with
  | some n => (n : Int)
  | none => -1
theorem find_at {p : Nat → Bool} : ∀ {l : List Nat} {k : Nat}, (∀ j, j < k → p (l.getD j 0) = false) → k < l.length → p (l.getD k 0) = true → l.find? p = some (l.getD k 0)
  | [], _, _, h, _ => by simp at h
  | x :: l, 0, _, _, hp => by
    have : p x = true := hp
    simp [List.find?_cons, this]
  | x :: l, k + 1, hn, hk, hp => by
    have h0 : p x = false := hn 0 (by omega)
    rw [List.find?_cons, h0]
    exact find_at (l := l) (k := k) (fun j hj => hn (j + 1) (by omega)) (by simpa using hk) hp
theorem find_no {p : Nat → Bool} {l : List Nat} (h : ∀ j, j < l.length → p (l.getD j 0) = false) : l.find? p = none := by
  rw [List.find?_eq_none]
  intro x hx
  obtain ⟨j, hj, rfl⟩ := List.getElem_of_mem hx
  have := h j hj
  rw [List.getD_eq_getElem?_getD, List.getElem?_eq_getElem hj, Option.getD_some] at this
  simp [this]
theorem way_len {es : Es} {bs : Bs} {cl : List Bool} {D : Nat → Int} (k : Nat) : ∀ {e : Nat}, D e ≤ (k : Int) → (wayL es bs cl D e).length ≤ k := by
  induction k with
  | zero => intro e h; rw [way_end (by omega)]; simp
  | succ k ih =>
    intro e h
    by_cases h0 : 0 < D e
    · cases hn : stepN es bs cl D e with
      | none =>
        rw [wayL, if_pos h0]
        split
        · simp
        · rename_i m h2; rw [hn] at h2; cases h2
      | some n =>
        obtain ⟨_, _, _, _, p5, _⟩ := step_parts hn
        rw [way_more h0 hn]
        have := ih (e := n) (by omega)
        simpa using this
    · rw [way_end h0]; simp
set_option maxRecDepth 100000 in
set_option maxHeartbeats 16000000 in
theorem step_at {w : World} {B E t p : Nat} {ns bs : List (Int × Int)} {es : List (Int × Int × Int)} (h : TurnsAt w B E t p ns es bs) {A : Option Addr} {n c : Nat} {cl : List Bool} (hc : ReadsB w A n c cl) {AF : Option Addr} {cF : Nat} {L : List Int} (hl : L.length = es.length) (hf : ReadsI w AF es.length cF L)
    (hbd : ∀ x, -1 ≤ dl L x ∧ dl L x ≤ 33553920) {e : Nat} (he : e < es.length) :
    Calls Try.prog 61 #[.pointer (some ⟨t, 0, none⟩), .int .i64 (e : Nat), .slice AF es.length cF, .slice A n c] w fun r w' => r = .returned (.int .i64 (stepI es bs cl (dl L) e)) ∧ Below w.heap.size w w' := by
  have HT := Lib.hid h
  have HC := Lib.hid hc
  have HF := Lib.hid hf
  have HL := Lib.hid hl
  have HBD := Lib.hid hbd
  obtain ⟨tb, R, hT⟩ := h
  have hok := hT.g.bd.1
  have HOK := Lib.hid hok
  have s3 := (mayB_parts hok).2.1.2.2.1
  have HC0 : Hid (w.cell? ⟨t, 0, none⟩ = some (.pointer (some ⟨p, 0, none⟩))) := Lib.hid (block_cell hT.ht (j := 0) rfl)
  have HG := Lib.hid hT.g
  have hnx := next_at (HT.out) (e : Int)
  rw [nextT_eq] at hnx
  rw [List.length_map] at hnx
  have hnl : (nextN es bs e).length ≤ 512 := by unfold nextN; exact Nat.le_trans (List.length_filter_le _ _) (by simpa using s3)
  have HNX := Lib.hid hnx
  have e0 : (0 : Int) ≤ (e : Int) := by omega
  have e1 : (e : Int) < (es.length : Int) := by omega
  have hcs := hc.small
  unfold maxLen at hcs
  have hcm : n ≤ 9223372036854775807 := by omega
  have HCL := Lib.hid hc.len
  clear hT hc hf hl hbd hok hnx hcs
  go_enter Try.func61, Try.ntmps61
  go_wp2_with fail
  refine HNX.out.mono ?_
  rintro r wn ⟨AN, cN, rfl, hr, _, hb⟩
  have HRN := Lib.hid hr
  have HBN := Lib.hid hb
  clear hr hb
  go_wp2_with fail
  go_loopg [18] (nextN es bs e).length (fun M u wr => ∃ k : Nat, M = (nextN es bs e).length - k ∧ k ≤ (nextN es bs e).length ∧ u = .int .i64 (k : Nat) ∧ (∀ j, j < k → fitB es cl (dl L) e ((nextN es bs e).getD j 0) = false) ∧ Below wn.heap.size wn wr)
  case atStart => exact ⟨0, rfl, Nat.zero_le _, rfl, fun j hj => by omega, Below.refl _ _⟩
  case round =>
    obtain ⟨k, hM, hk, rfl, hno, hb⟩ := hrel
    have HM := Lib.hid hM
    have HNO := Lib.hid hno
    have HB := Lib.hid hb
    clear hM hno hb
    by_cases hkl : k < (nextN es bs e).length
    · obtain ⟨bN, oN, rfl, hcN⟩ := (HRN.out.below HB.out).cell (by omega)
      have dN := hcN k hkl
      rw [map_cast_getD hkl] at dN
      have hmem : (nextN es bs e).getD k 0 ∈ nextN es bs e := by rw [List.getD_eq_getElem?_getD, List.getElem?_eq_getElem hkl]; exact List.getElem_mem hkl
      have hyl := (nextN_mem.1 hmem).1
      have hfa := fun h1 => find_at (p := fitB es cl (dl L) e) HNO.out hkl h1
      have hfi := @fitB_iff es cl (dl L) e ((nextN es bs e).getD k 0)
      have hno2 : fitB es cl (dl L) e ((nextN es bs e).getD k 0) = false → ∀ j, j < k + 1 → fitB es cl (dl L) e ((nextN es bs e).getD j 0) = false := fun h1 j hj => by
        by_cases hjk : j = k
        · rw [hjk]; exact h1
        · exact HNO.out j (by omega)
      obtain ⟨y, hy⟩ : ∃ y, y = (nextN es bs e).getD k 0 := ⟨_, rfl⟩
      rw [← hy] at dN hyl hfa hfi hno2
      have hed := edge_at (HG.out.below (bl_then HBN.out HB.out)) (y : Int)
      have het : edgeT es (y : Int) = es.getD y (0, 0, 0) := by unfold edgeT inB; rw [if_pos (by simp; omega), Int.toNat_natCast]
      rw [het] at hed
      have hwy := wN_bd HOK.out y
      rw [show wN es y = (es.getD y (0, 0, 0)).2.2 from rfl] at hwy hfi
      obtain ⟨gg, hgg⟩ : ∃ gg, gg = es.getD y (0, 0, 0) := ⟨_, rfl⟩
      rw [← hgg] at hed hwy hfi
      obtain ⟨g0, g1, wy⟩ := gg
      dsimp only at hed hwy hfi
      have HED := Lib.hid hed
      have t0 := cell_below HC0.out (bl_then HBN.out HB.out)
      have hby := HBD.out y
      have hbe := HBD.out e
      have HFA := Lib.hid hfa
      have HFI := Lib.hid hfi
      have HNOF := Lib.hid hno2
      have y0 : (0 : Int) ≤ (y : Int) := by omega
      have y1 : (y : Int) < (es.length : Int) := by omega
      have k0 : (0 : Int) ≤ (k : Int) := by omega
      have k1 : (k : Int) < ((nextN es bs e).length : Int) := by omega
      have HYL := Lib.hid hyl
      clear hcN hmem hfa hfi hno2 hy hed het hgg
      go_wp2_with fail
      refine HED.out.mono ?_
      rintro r w2 ⟨rfl, hb2⟩
      have HB4 := Lib.hid (bl_then HB.out (bl_alloc hb2 (.cells #[.int .i64 g0, .int .i64 g1, .int .i64 wy] 43)))
      have e2 : (w2.alloc (.cells #[.int .i64 g0, .int .i64 g1, .int .i64 wy] 43)).cell? ⟨w2.heap.size, 2, none⟩ = some (.int .i64 wy) := cell_three_new 2 _ rfl
      obtain ⟨bF, oF, rfl, hcF⟩ := (HF.out.below (bl_then HBN.out HB4.out)).cell (by omega)
      have dY := hcF y HYL.out
      have dE := hcF e he
      rw [dl_get (by rw [HL.out]; exact HYL.out)] at dY
      rw [dl_get (by rw [HL.out]; exact he)] at dE
      obtain ⟨dy, hdy⟩ : ∃ dy, dy = dl L y := ⟨_, rfl⟩
      obtain ⟨de, hde⟩ : ∃ de, de = dl L e := ⟨_, rfl⟩
      rw [← hdy] at dY hby HFI
      rw [← hde] at dE hbe HFI
      have hsub : IntKind.i64.wrap (de - wy) = de - wy := IntWalk.i64_in _ (by omega)
      have HCC := Lib.hid (HC.out.below (bl_then HBN.out HB4.out))
      clear hb2 hcF hdy hde t0
      by_cases hyn : y < n
      · obtain ⟨bC, oC, rfl, hcC⟩ := HCC.out.cell (by omega)
        have dC := hcC y hyn
        rw [show cl.getD y false = shutB cl y from rfl] at dC
        have y2 : (y : Int) < (n : Int) := by omega
        clear hcC
        cases hsh : shutB cl y with
        | true =>
          rw [hsh] at dC
          have HNO2 := Lib.hid (HNOF.out (by cases hff : fitB es cl (dl L) e y with
            | false => rfl
            | true => have := (HFI.out.1 hff).1; rw [hsh] at this; cases this))
          clear hsh
          go_wp2_with fail
          go_quiet (fail)
          go_wp2_with fail
          go_roundg ((nextN es bs e).length - (k + 1))
          case measure => have := HM.out; omega
          case rel => exact ⟨k + 1, rfl, by omega, by go_num, HNO2.out, bl_drewN HB4.out _⟩
        | false =>
          rw [hsh] at dC
          by_cases hd0 : 0 ≤ dy
          · have b1 : decide (0 ≤ dy) = true := decide_eq_true hd0
            by_cases hd1 : dy < de
            · have b2 : decide (dy < de) = true := decide_eq_true hd1
              by_cases hd2 : dy = de - wy
              · have b3 : (dy == de - wy) = true := by simp [hd2]
                have hst : stepI es bs cl (dl L) e = (y : Int) := by
                  have h1 := HFA.out (HFI.out.2 ⟨hsh, hd0, hd1, hd2⟩)
                  unfold stepI stepN; rw [h1]
                have HST := Lib.hid hst
                clear hst hd2 hsh
                go_wp2_with fail
                go_quiet (fail)
                go_wp2_with fail
                go_ret
                exact ⟨by rw [HST.out]; rfl, bl_drewN (bl_then HBN.out HB4.out) _⟩
              · have b3 : (dy == de - wy) = false := beq_false_of_ne hd2
                have HNO2 := Lib.hid (HNOF.out (by cases hff : fitB es cl (dl L) e y with
                  | false => rfl
                  | true => exact absurd (HFI.out.1 hff).2.2.2 hd2))
                clear hsh hd2
                go_wp2_with fail
                go_quiet (fail)
                go_wp2_with fail
                go_roundg ((nextN es bs e).length - (k + 1))
                case measure => have := HM.out; omega
                case rel => exact ⟨k + 1, rfl, by omega, by go_num, HNO2.out, bl_drewN HB4.out _⟩
            · have b2 : decide (dy < de) = false := decide_eq_false hd1
              have HNO2 := Lib.hid (HNOF.out (by cases hff : fitB es cl (dl L) e y with
                | false => rfl
                | true => exact absurd (HFI.out.1 hff).2.2.1 hd1))
              clear hsh
              go_wp2_with fail
              go_quiet (fail)
              go_wp2_with fail
              go_roundg ((nextN es bs e).length - (k + 1))
              case measure => have := HM.out; omega
              case rel => exact ⟨k + 1, rfl, by omega, by go_num, HNO2.out, bl_drewN HB4.out _⟩
          · have b1 : decide (0 ≤ dy) = false := decide_eq_false hd0
            have HNO2 := Lib.hid (HNOF.out (by cases hff : fitB es cl (dl L) e y with
              | false => rfl
              | true => exact absurd (HFI.out.1 hff).2.1 hd0))
            clear hsh
            go_wp2_with fail
            go_quiet (fail)
            go_wp2_with fail
            go_roundg ((nextN es bs e).length - (k + 1))
            case measure => have := HM.out; omega
            case rel => exact ⟨k + 1, rfl, by omega, by go_num, HNO2.out, bl_drewN HB4.out _⟩
      · have hsh : shutB cl y = false := shutB_lt (by rw [HCL.out]; omega)
        have y2 : ¬ (y : Int) < (n : Int) := by omega
        clear hyn
        by_cases hd0 : 0 ≤ dy
        · have b1 : decide (0 ≤ dy) = true := decide_eq_true hd0
          by_cases hd1 : dy < de
          · have b2 : decide (dy < de) = true := decide_eq_true hd1
            by_cases hd2 : dy = de - wy
            · have b3 : (dy == de - wy) = true := by simp [hd2]
              have hst : stepI es bs cl (dl L) e = (y : Int) := by
                have h1 := HFA.out (HFI.out.2 ⟨hsh, hd0, hd1, hd2⟩)
                unfold stepI stepN; rw [h1]
              have HST := Lib.hid hst
              clear hst hd2 hsh
              go_wp2_with fail
              go_quiet (fail)
              go_wp2_with fail
              go_ret
              exact ⟨by rw [HST.out]; rfl, bl_drewN (bl_then HBN.out HB4.out) _⟩
            · have b3 : (dy == de - wy) = false := beq_false_of_ne hd2
              have HNO2 := Lib.hid (HNOF.out (by cases hff : fitB es cl (dl L) e y with
                | false => rfl
                | true => exact absurd (HFI.out.1 hff).2.2.2 hd2))
              clear hsh hd2
              go_wp2_with fail
              go_quiet (fail)
              go_wp2_with fail
              go_roundg ((nextN es bs e).length - (k + 1))
              case measure => have := HM.out; omega
              case rel => exact ⟨k + 1, rfl, by omega, by go_num, HNO2.out, bl_drewN HB4.out _⟩
          · have b2 : decide (dy < de) = false := decide_eq_false hd1
            have HNO2 := Lib.hid (HNOF.out (by cases hff : fitB es cl (dl L) e y with
              | false => rfl
              | true => exact absurd (HFI.out.1 hff).2.2.1 hd1))
            clear hsh
            go_wp2_with fail
            go_quiet (fail)
            go_wp2_with fail
            go_roundg ((nextN es bs e).length - (k + 1))
            case measure => have := HM.out; omega
            case rel => exact ⟨k + 1, rfl, by omega, by go_num, HNO2.out, bl_drewN HB4.out _⟩
        · have b1 : decide (0 ≤ dy) = false := decide_eq_false hd0
          have HNO2 := Lib.hid (HNOF.out (by cases hff : fitB es cl (dl L) e y with
            | false => rfl
            | true => exact absurd (HFI.out.1 hff).2.1 hd0))
          clear hsh
          go_wp2_with fail
          go_quiet (fail)
          go_wp2_with fail
          go_roundg ((nextN es bs e).length - (k + 1))
          case measure => have := HM.out; omega
          case rel => exact ⟨k + 1, rfl, by omega, by go_num, HNO2.out, bl_drewN HB4.out _⟩
    · obtain rfl : k = (nextN es bs e).length := by omega
      have hst : stepI es bs cl (dl L) e = -1 := by unfold stepI stepN; rw [find_no HNO.out]
      have HST := Lib.hid hst
      clear hst hkl hk
      go_wp2_with fail
      go_ret
      exact ⟨by rw [HST.out]; rfl, bl_then HBN.out HB.out⟩
end Go.Proofs.Ytjopiefojicblaa
