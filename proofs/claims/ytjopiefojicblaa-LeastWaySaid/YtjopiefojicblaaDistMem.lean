/- DistMem: DistTo, DistFrom, one behind the other. -/
import Derived.Test.YtjopiefojicblaaDistBase
/- dist.To: the least first finds the distances to a node. -/
set_option linter.unusedVariables false
set_option linter.unusedSimpArgs false
namespace Go.Proofs.Ytjopiefojicblaa
open Go.ChangeShapes Go.WideShapes Go.ChangeAt Go.RowKit HeapP DistP RowP
theorem toW_le {ns bs : Bs} {es : Es} (h : mayB ns es bs = true) (y x : Nat) : toW es y x ≤ 65535 := (wN_bd h y).2.1
set_option maxRecDepth 100000 in
set_option maxHeartbeats 16000000 in
theorem to_in {w : World} {B E t p : Nat} {ns bs : List (Int × Int)} {es : List (Int × Int × Int)} (h : TurnsAt w B E t p ns es bs) {A : Option Addr} {n c : Nat} {cl : List Bool} (hc : ReadsB w A n c cl) (h1 : 1 ≤ es.length) {v : Nat} (hv : v < ns.length) :
    Calls Try.prog 19 #[.pointer (some ⟨t, 0, none⟩), .int .i64 (v : Nat), .slice A n c] w fun r w' =>
      ∃ g, r = .returned (.slice (some ⟨g, 0, none⟩) es.length es.length) ∧ IRow w' g es.length es.length (toD es bs cl (v : Int)) ∧ w.heap.size ≤ g ∧ Below w.heap.size w w' := by
  have HT := Lib.hid h
  have HC := Lib.hid hc
  obtain ⟨tb, R, hT⟩ := h
  have hok := hT.g.bd.1
  have HOK := Lib.hid hok
  have hs := (mayB_parts hok).2.1
  have c0 : w.cell? ⟨t, 0, none⟩ = some (.pointer (some ⟨p, 0, none⟩)) := block_cell hT.ht (j := 0) rfl
  have C0 := Lib.hid c0
  have HG := Lib.hid hT.g
  have v0 : (0 : Int) ≤ (v : Int) := by omega
  have v1 : ¬ (ns.length : Int) ≤ (v : Int) := by omega
  have v2 : ¬ (v : Int) < 0 := by omega
  have hno := fun (w' : World) (hb : Below w.heap.size w w') => none_at (HT.out.below hb) h1
  have HNO := Lib.hid hno
  have hin := fun (w' : World) (hb : Below w.heap.size w w') => in_reads (HG.out.below hb) (v : Int)
  rw [inT_src hv] at hin
  rw [List.length_map] at hin
  have HIN := Lib.hid hin
  have HM : Hid (∀ x, x ∈ srcN es v ↔ x < es.length ∧ toSrc es (v : Int) x) := Lib.hid fun x => srcN_mem hok
  have HNET := Lib.hid (to_net hok cl)
  have hN5 : es.length ≤ 512 := hs.2.2.1
  have hsl : (srcN es v).length ≤ 512 := by unfold srcN rowOf; exact Nat.le_trans (List.length_filter_le _ _) (by simpa using hN5)
  obtain ⟨SN, hSN⟩ : ∃ SN, SN = srcN es v := ⟨_, rfl⟩
  rw [← hSN] at HM HIN hsl
  have HDE : Hid (∀ L : List Int, L.length = es.length → IsD es.length (toSrc es (v : Int)) (toSucc es bs cl) (toW es) (dl L) → L = toD es bs cl (v : Int)) := Lib.hid fun L a b => distL_eq (to_net hok cl) a b
  have HVS := Lib.hid hv
  clear hT hc hok hno hin hs hSN hv h1
  go_enter Try.func19, Try.ntmps19
  go_wp2_with (go_at_call 46; refine (nodes_at HG.out).mono ?_; rintro e w' ⟨rfl, rfl⟩)
  refine (HNO.out _ (Below.refl _ _)).mono ?_
  rintro e y1 ⟨g, rfl, hr, hg, hb⟩
  have ds0 := DS.start (w := w) (List.length_replicate) hr hg hb
  have D0 := Lib.hid ds0
  have c1 := cell_below c0 ds0.below
  clear hr hg hb ds0 c0 v0 v1 v2
  go_wp2_with fail
  refine (HIN.out _ D0.out.below).mono ?_
  rintro e y2 ⟨AI, cI, rfl, hri, hni, hbi⟩
  have D1 := Lib.hid (D0.out.step hbi)
  have I1 := Lib.hid (RA.of D0.out hri hni)
  obtain ⟨hbk, hhb⟩ : ∃ hbk, hbk = y1.heap.size := ⟨_, rfl⟩
  rw [← hhb] at D1 I1
  rw [← hhb]
  clear hri hni hbi c1 hhb D0
  go_wp2_with fail
  go_loopg [42] SN.length (fun M u wr => ∃ (k : Nat) (fp : List Nat), M = SN.length - k ∧ k ≤ SN.length ∧ u = .int .i64 (k : Nat) ∧ DS w wr g hbk fp (List.replicate es.length (-1)) (seeds (SN.take k)) ∧ RA wr g fp AI SN.length cI (SN.map fun i => ((i : Nat) : Int)))
  case atStart => exact ⟨0, [hbk], rfl, Nat.zero_le _, rfl, D1.out, I1.out⟩
  case round =>
    obtain ⟨k, fp, hM, hk, rfl, hd, hi⟩ := hrel
    have HMM := Lib.hid hM
    have HD := Lib.hid hd
    have HI := Lib.hid hi
    clear hM hd hi
    by_cases hlt : k < SN.length
    · obtain ⟨bI, oI, rfl, hcI⟩ := HI.out.rd.cell (by omega)
      have d0 := hcI k hlt
      rw [map_cast_getD hlt] at d0
      have hxm : SN.getD k 0 ∈ SN := by rw [List.getD_eq_getElem?_getD, List.getElem?_eq_getElem hlt]; exact List.getElem_mem hlt
      have hxl := ((HM.out _).1 hxm).1
      have hsk := seeds_take hlt
      have hsn : (seeds (SN.take k)).length ≤ es.length := seeds_len fun x hx => ((HM.out x).1 (List.mem_of_mem_take hx)).1
      obtain ⟨x, hx⟩ : ∃ x, x = SN.getD k 0 := ⟨_, rfl⟩
      rw [← hx] at d0 hxl hsk
      have hpu := push_at (id := (x : Int)) (key := 0) HD.out.heap ⟨wf_of (by omega) (by omega), show (Lit.int .i64 0).wf = true by decide⟩ (by omega)
      rw [← hsk] at hpu
      have HPU := Lib.hid hpu
      have k0 : (0 : Int) ≤ (k : Int) := by omega
      have k1 : (k : Int) < (SN.length : Int) := by omega
      clear hcI hxm hsk hsn hx hpu
      go_wp2_with fail
      refine HPU.out.mono ?_
      rintro e w2 ⟨rfl, fp', h2, f2, u2⟩
      have D2 := Lib.hid (HD.out.heapTo h2 f2 u2)
      have I2 := Lib.hid (HI.out.heapTo f2 u2)
      clear h2 f2 u2
      go_wp2_with fail
      go_roundg (SN.length - (k + 1))
      case measure => have := HMM.out; omega
      case rel => exact ⟨k + 1, fp', rfl, by omega, by go_num, D2.out, I2.out⟩
    · obtain rfl : k = SN.length := by omega
      have hd := HD.out
      rw [List.take_of_length_le (by omega)] at hd
      have hinv := seeds_inv (succ := toSucc es bs cl) (W := toW es) HM.out
      have HD2 := Lib.hid hd
      have HINV := Lib.hid hinv
      clear hd hinv HD HI hlt hk
      go_wp2_with fail
      go_loopg [11] (es.length + 1) (fun M u wq => ∃ (fp : List Nat) (L : List Int) (S : List It), M = negs L + 1 ∧ L.length = es.length ∧ DS w wq g hbk fp L S ∧ Inv es.length (toSrc es (v : Int)) (toSucc es bs cl) (toW es) (dl L) S (fun _ _ => True) ∧ Small es.length L)
      case atStart => exact ⟨fp, _, _, by rw [negs_start], List.length_replicate, HD2.out, HINV.out, small_start _⟩
      case round =>
        obtain ⟨fp1, L, S, hM2, hLl, hd2, hinv2, hsm2⟩ := hrel
        have HM2 := Lib.hid hM2
        have HLL := Lib.hid hLl
        have HD3 := Lib.hid hd2
        have HINV2 := Lib.hid hinv2
        have HSM2 := Lib.hid hsm2
        clear hM2 hLl hd2 hinv2 hsm2 HD2 HINV
        cases S with
        | nil =>
          have hL := HDE.out L HLL.out HINV2.out.final
          have hrow := HD3.out.row
          rw [HLL.out] at hrow
          rw [hL] at hrow
          have HROW := Lib.hid hrow
          clear hL hrow
          go_wp2_with (go_at_call 50; refine (len_at HD3.out.heap).mono ?_; rintro e w' ⟨rfl, rfl⟩)
          go_ret
          exact ⟨g, rfl, HROW.out, HD3.out.lo.1, HD3.out.below⟩
        | cons z S =>
          have hz := HINV2.out.inN z (List.mem_cons_self ..)
          obtain ⟨hsm3, hng, hz0, hzb⟩ := small_pop HLL.out (toW_le HOK.out) HINV2.out HSM2.out
          have hrnd := HINV2.out.round HNET.out
          have hll := fun (ys : List Nat) (hy : ∀ y ∈ ys, y ∈ toSucc es bs cl z.1.toNat) => looks_len HNET.out HLL.out HINV2.out hy
          have hlen := inv_len HINV2.out
          obtain ⟨z1, z2⟩ := z
          obtain ⟨x, rfl⟩ : ∃ x : Nat, z1 = (x : Int) := ⟨z1.toNat, by have := hz.1; omega⟩
          dsimp only at hz hsm3 hng hz0 hzb hrnd hll
          rw [Int.toNat_natCast] at hz hsm3 hng hrnd hll
          have hxN : x < es.length := hz.2.1
          have hxL : x < L.length := by rw [HLL.out]; exact hxN
          rw [← dl_set hxL] at hrnd
          have HLEN : Hid ((((x : Int), z2) :: S).length ≤ 1099511627776) := Lib.hid (by omega)
          have HRND := Lib.hid hrnd
          have HLKS := Lib.hid hll
          have HSM3 := Lib.hid hsm3
          have HNG := Lib.hid hng
          have hpos : (0 : Int) < ((((x : Int), z2) :: S).length : Nat) := by simp
          clear hz hsm3 hng hrnd hll hlen
          go_wp2_with fail
          refine (len_at HD3.out.heap).mono ?_
          rintro e w' ⟨rfl, rfl⟩
          go_wp2_with fail
          refine (pop_at HD3.out.heap HLEN.out).mono ?_
          rintro e w2 ⟨rfl, h2, u2⟩
          have D4 := Lib.hid (HD3.out.heapTo h2 (fun k hk => .inl hk) u2)
          have hrow := D4.out.row
          rw [HLL.out] at hrow
          have r0 := hrow.cell hxN
          have f0 := hrow.fr x
          have D5 := Lib.hid (D4.out.put x z2)
          have x0 : (0 : Int) ≤ (x : Int) := by omega
          have x1 : (x : Int) < (es.length : Int) := by omega
          clear h2 u2 hrow hpos
          go_wp2_with fail
          refine (shut_any (HC.out.below D5.out.below) x (by omega)).mono ?_
          rintro e w3 ⟨rfl, rfl⟩
          cases hsh : shutB cl x with
          | true =>
            have hsc : toSucc es bs cl x = [] := by unfold toSucc; rw [if_pos hsh]
            have hrnd := HRND.out
            rw [hsc] at hrnd
            have HRND3 := Lib.hid hrnd
            clear hsh hsc hrnd r0 f0
            go_wp2_with fail
            go_roundg (negs (L.set x z2) + 1)
            case measure => have := HM2.out; have := HNG.out; omega
            case rel => exact ⟨fp1, L.set x z2, S, rfl, by rw [List.length_set]; exact HLL.out, D5.out, HRND3.out, HSM3.out⟩
          | false =>
            have hsc : toSucc es bs cl x = prevN es bs x := by unfold toSucc; rw [if_neg (by rw [hsh]; simp)]
            have hrnd := HRND.out
            rw [hsc] at hrnd
            have HRND3 := Lib.hid hrnd
            have hpv := prev_at (HT.out.below D5.out.below) (x : Int)
            rw [prevT_eq] at hpv
            rw [List.length_map] at hpv
            have HPV := Lib.hid hpv
            have hpl : (prevN es bs x).length ≤ 512 := by unfold prevN; exact Nat.le_trans (List.length_filter_le _ _) (by simpa using hN5)
            have hpm : ∀ y ∈ prevN es bs x, y < es.length := fun y hy => (prevN_mem.1 hy).1
            have hplk : ∀ k, (looks (toW es) (dl (L.set x z2)) x S ((prevN es bs x).take k)).length ≤ es.length := fun k => HLKS.out _ fun y hy => by rw [hsc]; exact List.mem_of_mem_take hy
            obtain ⟨PN, hPN⟩ : ∃ PN, PN = prevN es bs x := ⟨_, rfl⟩
            rw [← hPN] at HRND3 HPV hpl hpm hplk
            have HPM := Lib.hid hpm
            have HPLK := Lib.hid hplk
            have hwx := wN_bd HOK.out x
            have HWX := Lib.hid (hwx.2.2 hxN)
            have hsum : IntKind.i64.wrap (z2 + wN es x) = z2 + wN es x := IntWalk.i64_in _ (by omega)
            have HSUM := Lib.hid hsum
            have hdx : dl (L.set x z2) x = z2 := by rw [dl_set hxL]; simp [setD]
            have HDX := Lib.hid hdx
            have hwg := fun (w' : World) (hb : Below w.heap.size w w') => wgt_at (HT.out.below hb) hxN
            have hkey : 0 ≤ z2 + wN es x ∧ z2 + wN es x ≤ 134217728 := by omega
            have hW0 : toW es x = fun _ => wN es x := rfl
            obtain ⟨wx, hwx2⟩ : ∃ wx, wx = wN es x := ⟨_, rfl⟩
            rw [← hwx2] at hwg hkey hW0 HSUM
            have HWG := Lib.hid hwg
            have HKEY := Lib.hid hkey
            have HWW := Lib.hid hW0
            clear hsh hsc hrnd hpv hpm hPN hplk hwx hsum hdx hwg hwx2 r0 f0 hkey hW0
            go_wp2_with fail
            refine HPV.out.mono ?_
            rintro e w4 ⟨AP, cP, rfl, hrp, hnp, hbp⟩
            have D6 := Lib.hid (D5.out.step hbp)
            have I6 := Lib.hid (RA.of D5.out hrp hnp)
            clear hrp hnp hbp
            go_wp2_with fail
            go_loopg [70] PN.length (fun M u wv => ∃ (k : Nat) (fp : List Nat), M = PN.length - k ∧ k ≤ PN.length ∧ u = .int .i64 (k : Nat) ∧ DS w wv g hbk fp (L.set x z2) (looks (toW es) (dl (L.set x z2)) x S (PN.take k)) ∧ RA wv g fp AP PN.length cP (PN.map fun i => ((i : Nat) : Int)))
            case atStart => exact ⟨0, fp1, rfl, Nat.zero_le _, rfl, D6.out, I6.out⟩
            case round =>
              obtain ⟨k, fp2, hM3, hk, rfl, hd3, hi3⟩ := hrel
              have HM3 := Lib.hid hM3
              have HD6 := Lib.hid hd3
              have HI6 := Lib.hid hi3
              clear hM3 hd3 hi3
              by_cases hlt : k < PN.length
              · obtain ⟨bI, oI, rfl, hcI⟩ := HI6.out.rd.cell (by omega)
                have d0 := hcI k hlt
                rw [map_cast_getD hlt] at d0
                have hxm : PN.getD k 0 ∈ PN := by rw [List.getD_eq_getElem?_getD, List.getElem?_eq_getElem hlt]; exact List.getElem_mem hlt
                have hyl := HPM.out _ hxm
                have hlk := looks_to (W := toW es) (D := dl (L.set x z2)) (x := x) (S := S) hlt
                have hSL := HPLK.out k
                rw [HDX.out, HWW.out] at hlk
                have hrow := HD6.out.row
                rw [List.length_set, HLL.out] at hrow
                obtain ⟨y, hy⟩ : ∃ y, y = PN.getD k 0 := ⟨_, rfl⟩
                rw [← hy] at d0 hyl hlk
                have r1 := hrow.cell hyl
                rw [dl_get (by rw [List.length_set, HLL.out]; exact hyl)] at r1
                obtain ⟨dy, hdy⟩ : ∃ dy, dy = dl (L.set x z2) y := ⟨_, rfl⟩
                rw [← hdy] at r1 hlk
                have HLK := Lib.hid hlk
                have k0 : (0 : Int) ≤ (k : Int) := by omega
                have k1 : (k : Int) < (PN.length : Int) := by omega
                have y0 : (0 : Int) ≤ (y : Int) := by omega
                have y1 : (y : Int) < (es.length : Int) := by omega
                have HSL := Lib.hid hSL
                clear hcI hxm hlk hrow hy hdy hSL
                by_cases hneg : dy < 0
                · have hlk := HLK.out
                  rw [if_pos hneg] at hlk
                  have HLK2 := Lib.hid hlk
                  clear hlk
                  go_wp2_with fail
                  refine (HWG.out _ HD6.out.below).mono ?_
                  rintro e w5 ⟨rfl, hb5⟩
                  have D7 := Lib.hid (HD6.out.step hb5)
                  have I7 := Lib.hid (HI6.out.step hb5)
                  have hpu := push_at (id := (y : Int)) (key := z2 + wx) D7.out.heap ⟨wf_of (by omega) (by omega), wf_of (by have := HKEY.out; omega) (by have := HKEY.out; omega)⟩ (by have := HSL.out; omega)
                  rw [← HLK2.out] at hpu
                  have HPU := Lib.hid hpu
                  have hsum := HSUM.out
                  clear hb5 hpu d0 r1
                  go_wp2_with fail
                  refine HPU.out.mono ?_
                  rintro e w6 ⟨rfl, fp', h2, f2, u2⟩
                  have D8 := Lib.hid (D7.out.heapTo h2 f2 u2)
                  have I8 := Lib.hid (I7.out.heapTo f2 u2)
                  clear h2 f2 u2 hsum
                  go_wp2_with fail
                  go_roundg (PN.length - (k + 1))
                  case measure => have := HM3.out; omega
                  case rel => exact ⟨k + 1, fp', rfl, by omega, by go_num, D8.out, I8.out⟩
                · have hlk := HLK.out
                  rw [if_neg hneg] at hlk
                  have HLK2 := Lib.hid hlk
                  clear hlk
                  go_wp2_with fail
                  go_roundg (PN.length - (k + 1))
                  case measure => have := HM3.out; omega
                  case rel => exact ⟨k + 1, fp2, rfl, by omega, by go_num, by rw [HLK2.out]; exact HD6.out, HI6.out⟩
              · obtain rfl : k = PN.length := by omega
                have hd := HD6.out
                rw [List.take_of_length_le (Nat.le_refl _)] at hd
                have HD7 := Lib.hid hd
                clear hd hlt hk
                go_wp2_with fail
                go_roundg (negs (L.set x z2) + 1)
                case measure => have := HM2.out; have := HNG.out; omega
                case rel => exact ⟨fp2, L.set x z2, _, rfl, by rw [List.length_set]; exact HLL.out, HD7.out, HRND3.out, HSM3.out⟩
end Go.Proofs.Ytjopiefojicblaa
/- dist.From: the least first finds how far each edge is from one. -/
set_option linter.unusedVariables false
set_option linter.unusedSimpArgs false
namespace Go.Proofs.Ytjopiefojicblaa
open Go.ChangeShapes Go.WideShapes Go.ChangeAt Go.RowKit HeapP DistP RowP
theorem fromW_le {ns bs : Bs} {es : Es} (h : mayB ns es bs = true) (y x : Nat) : fromW es y x ≤ 65535 := (wN_bd h x).2.1
set_option maxRecDepth 100000 in
set_option maxHeartbeats 16000000 in
theorem from_in {w : World} {B E t p : Nat} {ns bs : List (Int × Int)} {es : List (Int × Int × Int)} (h : TurnsAt w B E t p ns es bs) {A : Option Addr} {n c : Nat} {cl : List Bool} (hc : ReadsB w A n c cl) {a : Nat} (ha : a < es.length) :
    Calls Try.prog 23 #[.pointer (some ⟨t, 0, none⟩), .int .i64 (a : Nat), .slice A n c] w fun r w' =>
      ∃ g, r = .returned (.slice (some ⟨g, 0, none⟩) es.length es.length) ∧ IRow w' g es.length es.length (fromD es bs cl a) ∧ w.heap.size ≤ g ∧ Below w.heap.size w w' := by
  have HT := Lib.hid h
  have HC := Lib.hid hc
  obtain ⟨tb, R, hT⟩ := h
  have hok := hT.g.bd.1
  have HOK := Lib.hid hok
  have hs := (mayB_parts hok).2.1
  have c0 : w.cell? ⟨t, 0, none⟩ = some (.pointer (some ⟨p, 0, none⟩)) := block_cell hT.ht (j := 0) rfl
  have HG := Lib.hid hT.g
  have v0 : (0 : Int) ≤ (a : Int) := by omega
  have v1 : ¬ (es.length : Int) ≤ (a : Int) := by omega
  have v2 : ¬ (a : Int) < 0 := by omega
  have hno := fun (w' : World) (hb : Below w.heap.size w w') => none_at (HT.out.below hb) (by omega)
  have HNO := Lib.hid hno
  have HNET := Lib.hid (from_net hok cl)
  have hN5 : es.length ≤ 512 := hs.2.2.1
  have HDE : Hid (∀ L : List Int, L.length = es.length → IsD es.length (fun x => x = a) (fromSucc es bs cl) (fromW es) (dl L) → L = fromD es bs cl a) := Lib.hid fun L a b => distL_eq (from_net hok cl) a b
  have HINV0 := Lib.hid (seeds_inv (N := es.length) (src := fun x => x = a) (succ := fromSucc es bs cl) (W := fromW es) (l := [a]) fun x => by simp; intro e; omega)
  have hS0 : pushF [] (((a : Nat) : Int), 0) = seeds [a] := rfl
  have HS0 := Lib.hid hS0
  have HAL := Lib.hid ha
  clear hT hc hok hno hs hS0 ha
  go_enter Try.func23, Try.ntmps23
  go_wp2_with (go_at_call 58; refine (edges_at HG.out).mono ?_; rintro e w' ⟨rfl, rfl⟩)
  refine (HNO.out _ (Below.refl _ _)).mono ?_
  rintro e y1 ⟨g, rfl, hr, hg, hb⟩
  have ds0 := DS.start (w := w) (List.length_replicate) hr hg hb
  have hpu := push_at (id := (a : Int)) (key := 0) ds0.heap ⟨wf_of (by omega) (by omega), show (Lit.int .i64 0).wf = true by decide⟩ (by simp)
  rw [HS0.out] at hpu
  have HPU := Lib.hid hpu
  have D0 := Lib.hid ds0
  clear hr hg hb ds0 c0 v0 v1 v2 hpu
  go_wp2_with fail
  refine HPU.out.mono ?_
  rintro e y2 ⟨rfl, fp, h2, f2, u2⟩
  have D1 := Lib.hid (D0.out.heapTo h2 f2 u2)
  obtain ⟨hbk, hhb⟩ : ∃ hbk, hbk = y1.heap.size := ⟨_, rfl⟩
  rw [← hhb] at D1
  rw [← hhb]
  clear h2 f2 u2 hhb D0 HPU
  go_wp2_with fail
  go_loopg [9] (es.length + 1) (fun M u wq => ∃ (fp : List Nat) (L : List Int) (S : List It), M = negs L + 1 ∧ L.length = es.length ∧ DS w wq g hbk fp L S ∧ Inv es.length (fun x => x = a) (fromSucc es bs cl) (fromW es) (dl L) S (fun _ _ => True) ∧ Small es.length L)
  case atStart => exact ⟨fp, _, _, by rw [negs_start], List.length_replicate, D1.out, HINV0.out, small_start _⟩
  case round =>
    obtain ⟨fp1, L, S, hM2, hLl, hd2, hinv2, hsm2⟩ := hrel
    have HM2 := Lib.hid hM2
    have HLL := Lib.hid hLl
    have HD3 := Lib.hid hd2
    have HINV2 := Lib.hid hinv2
    have HSM2 := Lib.hid hsm2
    clear hM2 hLl hd2 hinv2 hsm2
    cases S with
    | nil =>
      have hL := HDE.out L HLL.out HINV2.out.final
      have hrow := HD3.out.row
      rw [HLL.out] at hrow
      rw [hL] at hrow
      have HROW := Lib.hid hrow
      clear hL hrow
      go_wp2_with (go_at_call 50; refine (len_at HD3.out.heap).mono ?_; rintro e w' ⟨rfl, rfl⟩)
      go_ret
      exact ⟨g, rfl, HROW.out, HD3.out.lo.1, HD3.out.below⟩
    | cons z S =>
      have hz := HINV2.out.inN z (List.mem_cons_self ..)
      obtain ⟨hsm3, hng, hz0, hzb⟩ := small_pop HLL.out (fromW_le HOK.out) HINV2.out HSM2.out
      have hrnd := HINV2.out.round HNET.out
      have hll := fun (ys : List Nat) (hy : ∀ y ∈ ys, y ∈ fromSucc es bs cl z.1.toNat) => looks_len HNET.out HLL.out HINV2.out hy
      have hlen := inv_len HINV2.out
      obtain ⟨z1, z2⟩ := z
      obtain ⟨x, rfl⟩ : ∃ x : Nat, z1 = (x : Int) := ⟨z1.toNat, by have := hz.1; omega⟩
      dsimp only at hz hsm3 hng hz0 hzb hrnd hll
      rw [Int.toNat_natCast] at hz hsm3 hng hrnd hll
      have hxN : x < es.length := hz.2.1
      have hxL : x < L.length := by rw [HLL.out]; exact hxN
      rw [← dl_set hxL] at hrnd
      have HLEN : Hid ((((x : Int), z2) :: S).length ≤ 1099511627776) := Lib.hid (by omega)
      have HRND := Lib.hid hrnd
      have HLKS := Lib.hid hll
      have HSM3 := Lib.hid hsm3
      have HNG := Lib.hid hng
      have hpos : (0 : Int) < ((((x : Int), z2) :: S).length : Nat) := by simp
      clear hz hsm3 hng hrnd hll hlen
      go_wp2_with fail
      refine (len_at HD3.out.heap).mono ?_
      rintro e w' ⟨rfl, rfl⟩
      go_wp2_with fail
      refine (pop_at HD3.out.heap HLEN.out).mono ?_
      rintro e w2 ⟨rfl, h2, u2⟩
      have D4 := Lib.hid (HD3.out.heapTo h2 (fun k hk => .inl hk) u2)
      have hrow := D4.out.row
      rw [HLL.out] at hrow
      have r0 := hrow.cell hxN
      have f0 := hrow.fr x
      have D5 := Lib.hid (D4.out.put x z2)
      have x0 : (0 : Int) ≤ (x : Int) := by omega
      have x1 : (x : Int) < (es.length : Int) := by omega
      clear h2 u2 hrow hpos
      have hsc : fromSucc es bs cl x = (nextN es bs x).filter fun i => !shutB cl i := rfl
      have hrnd := HRND.out
      rw [hsc] at hrnd
      have HRND3 := Lib.hid hrnd
      have hpv := next_at (HT.out.below D5.out.below) (x : Int)
      rw [nextT_eq] at hpv
      rw [List.length_map] at hpv
      have HPV := Lib.hid hpv
      have hpl : (nextN es bs x).length ≤ 512 := by unfold nextN; exact Nat.le_trans (List.length_filter_le _ _) (by simpa using hN5)
      have hpm : ∀ y ∈ nextN es bs x, y < es.length := fun y hy => (nextN_mem.1 hy).1
      have hplk : ∀ k, (looks (fromW es) (dl (L.set x z2)) x S (((nextN es bs x).take k).filter fun i => !shutB cl i)).length ≤ es.length := fun k => HLKS.out _ fun y hy => by
        rw [hsc]
        obtain ⟨h1, h2⟩ := List.mem_filter.1 hy
        exact List.mem_filter.2 ⟨List.mem_of_mem_take h1, h2⟩
      obtain ⟨PN, hPN⟩ : ∃ PN, PN = nextN es bs x := ⟨_, rfl⟩
      rw [← hPN] at HRND3 HPV hpl hpm hplk
      have HPM := Lib.hid hpm
      have HPLK := Lib.hid hplk
      have hdx : dl (L.set x z2) x = z2 := by rw [dl_set hxL]; simp [setD]
      have HDX := Lib.hid hdx
      have hwg := fun (w' : World) (hb : Below w.heap.size w w') (y : Nat) (hy : y < es.length) => wgt_at (HT.out.below hb) hy
      have HWG := Lib.hid hwg
      clear hsc hrnd hpv hpm hPN hplk hdx hwg
      go_wp2_with fail
      refine HPV.out.mono ?_
      rintro e w4 ⟨AP, cP, rfl, hrp, hnp, hbp⟩
      have D6 := Lib.hid (D5.out.step hbp)
      have I6 := Lib.hid (RA.of D5.out hrp hnp)
      clear hrp hnp hbp r0 f0
      go_wp2_with fail
      go_loopg [53] PN.length (fun M u wv => ∃ (k : Nat) (fp : List Nat), M = PN.length - k ∧ k ≤ PN.length ∧ u = .int .i64 (k : Nat) ∧ DS w wv g hbk fp (L.set x z2) (looks (fromW es) (dl (L.set x z2)) x S ((PN.take k).filter fun i => !shutB cl i)) ∧ RA wv g fp AP PN.length cP (PN.map fun i => ((i : Nat) : Int)))
      case atStart => exact ⟨0, fp1, rfl, Nat.zero_le _, rfl, D6.out, I6.out⟩
      case round =>
        obtain ⟨k, fp2, hM3, hk, rfl, hd3, hi3⟩ := hrel
        have HM3 := Lib.hid hM3
        have HD6 := Lib.hid hd3
        have HI6 := Lib.hid hi3
        clear hM3 hd3 hi3
        by_cases hlt : k < PN.length
        · obtain ⟨bI, oI, rfl, hcI⟩ := HI6.out.rd.cell (by omega)
          have d0 := hcI k hlt
          rw [map_cast_getD hlt] at d0
          have hxm : PN.getD k 0 ∈ PN := by rw [List.getD_eq_getElem?_getD, List.getElem?_eq_getElem hlt]; exact List.getElem_mem hlt
          have hyl := HPM.out _ hxm
          have hlk := looks_from (W := fromW es) (D := dl (L.set x z2)) (x := x) (S := S) (p := fun i => !shutB cl i) hlt
          have hSL := HPLK.out k
          rw [HDX.out] at hlk
          have hrow := HD6.out.row
          rw [List.length_set, HLL.out] at hrow
          obtain ⟨y, hy⟩ : ∃ y, y = PN.getD k 0 := ⟨_, rfl⟩
          rw [← hy] at d0 hyl hlk
          rw [show fromW es x y = wN es y from rfl] at hlk
          have r1 := hrow.cell hyl
          rw [dl_get (by rw [List.length_set, HLL.out]; exact hyl)] at r1
          obtain ⟨dy, hdy⟩ : ∃ dy, dy = dl (L.set x z2) y := ⟨_, rfl⟩
          rw [← hdy] at r1 hlk
          have hwx := wN_bd HOK.out y
          have hwx1 := hwx.2.2 hyl
          have hsum : IntKind.i64.wrap (z2 + wN es y) = z2 + wN es y := IntWalk.i64_in _ (by omega)
          have hkey : 0 ≤ z2 + wN es y ∧ z2 + wN es y ≤ 134217728 := by omega
          have hwg := fun (w' : World) (hb : Below w.heap.size w w') => HWG.out w' hb y hyl
          obtain ⟨wx, hwx2⟩ : ∃ wx, wx = wN es y := ⟨_, rfl⟩
          rw [← hwx2] at hwg hkey hlk hsum
          have HWG2 := Lib.hid hwg
          have HKEY := Lib.hid hkey
          have HSUM := Lib.hid hsum
          have HLK := Lib.hid hlk
          have k0 : (0 : Int) ≤ (k : Int) := by omega
          have k1 : (k : Int) < (PN.length : Int) := by omega
          have y0 : (0 : Int) ≤ (y : Int) := by omega
          have y1 : (y : Int) < (es.length : Int) := by omega
          have HSL := Lib.hid hSL
          clear hcI hxm hlk hrow hy hdy hSL hwx hwx1 hsum hkey hwg hwx2
          by_cases hneg : dy < 0
          · have hdn : decide (dy < 0) = true := decide_eq_true hneg
            cases hsh : shutB cl y with
            | false =>
              have hlk := HLK.out
              rw [if_pos ⟨hneg, by simp [hsh]⟩] at hlk
              have HLK2 := Lib.hid hlk
              have hsa := shut_any (HC.out.below HD6.out.below) y (by omega)
              rw [hsh] at hsa
              have HSA := Lib.hid hsa
              clear hlk hsh hsa
              go_wp2_with fail
              refine HSA.out.mono ?_
              rintro e w5 ⟨rfl, rfl⟩
              go_wp2_with fail
              refine (HWG2.out _ HD6.out.below).mono ?_
              rintro e w5 ⟨rfl, hb5⟩
              have D7 := Lib.hid (HD6.out.step hb5)
              have I7 := Lib.hid (HI6.out.step hb5)
              have hpu := push_at (id := (y : Int)) (key := z2 + wx) D7.out.heap ⟨wf_of (by omega) (by omega), wf_of (by have := HKEY.out; omega) (by have := HKEY.out; omega)⟩ (by have := HSL.out; omega)
              rw [← HLK2.out] at hpu
              have HPU := Lib.hid hpu
              have hsum := HSUM.out
              clear hb5 hpu d0 r1
              go_wp2_with fail
              refine HPU.out.mono ?_
              rintro e w6 ⟨rfl, fp', h2, f2, u2⟩
              have D8 := Lib.hid (D7.out.heapTo h2 f2 u2)
              have I8 := Lib.hid (I7.out.heapTo f2 u2)
              clear h2 f2 u2 hsum
              go_wp2_with fail
              go_roundg (PN.length - (k + 1))
              case measure => have := HM3.out; omega
              case rel => exact ⟨k + 1, fp', rfl, by omega, by go_num, D8.out, I8.out⟩
            | true =>
              have hlk := HLK.out
              rw [if_neg (by simp [hsh])] at hlk
              have HLK2 := Lib.hid hlk
              have hsa := shut_any (HC.out.below HD6.out.below) y (by omega)
              rw [hsh] at hsa
              have HSA := Lib.hid hsa
              clear hlk hsh hsa
              go_wp2_with fail
              refine HSA.out.mono ?_
              rintro e w5 ⟨rfl, rfl⟩
              go_wp2_with fail
              go_roundg (PN.length - (k + 1))
              case measure => have := HM3.out; omega
              case rel => exact ⟨k + 1, fp2, rfl, by omega, by go_num, by rw [HLK2.out]; exact HD6.out, HI6.out⟩
          · have hlk := HLK.out
            rw [if_neg (fun h => hneg h.1)] at hlk
            have HLK2 := Lib.hid hlk
            clear hlk
            go_wp2_with fail
            go_roundg (PN.length - (k + 1))
            case measure => have := HM3.out; omega
            case rel => exact ⟨k + 1, fp2, rfl, by omega, by go_num, by rw [HLK2.out]; exact HD6.out, HI6.out⟩
        · obtain rfl : k = PN.length := by omega
          have hd := HD6.out
          rw [List.take_of_length_le (Nat.le_refl _)] at hd
          have HD7 := Lib.hid hd
          clear hd hlt hk
          go_wp2_with fail
          go_roundg (negs (L.set x z2) + 1)
          case measure => have := HM2.out; have := HNG.out; omega
          case rel => exact ⟨fp2, L.set x z2, _, rfl, by rw [List.length_set]; exact HLL.out, HD7.out, HRND3.out, HSM3.out⟩
end Go.Proofs.Ytjopiefojicblaa
