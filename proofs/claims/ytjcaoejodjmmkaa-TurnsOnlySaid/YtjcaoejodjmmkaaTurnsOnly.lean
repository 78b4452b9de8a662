/- TurnsOnly: a turn is where an edge ends and the next one begins, and no ban: so many there are as edges that come times edges that go, of each node, less the bans. For every input, without a condition. -/
import Derived.Test.YtjcaoejodjmmkaaAwake7
import Derived.Test.YtjcaoejodjmmkaaArcs
import Derived.Test.YtjcaoejodjmmkaaTurnsSum
import Derived.Test.YtjcaoejodjmmkaaRow
set_option linter.unusedVariables false
set_option linter.unusedSimpArgs false
namespace Go.Proofs.Ytjcaoejodjmmkaa.turnsOnly
open Go.ChangeShapes Go.WideShapes Go.ChangeAt Go.RowKit RowP
set_option maxRecDepth 100000 in
set_option maxHeartbeats 4000000 in
theorem walk_out (A : Option Addr) (n k : Nat) (hs : n ≤ 9223372036854775807) (w : World) (h : 100 < n) :
    Calls Try.prog 11 #[.slice A n k] w fun e w' => e = .returned (.bool true) ∧ Below w.heap.size w w' := by
  go_enter Try.func11, Try.ntmps11
  go_wp2_with (go_at_call 31; refine (awake7 _).mono ?_; rintro e w1 ⟨rfl, hb1⟩)
  go_ret
  exact ⟨rfl, by assumption⟩
theorem cnt_le (f : Nat → Nat) (m v : Nat) : cnt f m v ≤ m := by unfold cnt; exact Nat.le_trans (List.length_filter_le _ _) (by simp)
set_option maxRecDepth 100000 in
set_option maxHeartbeats 8000000 in
theorem walk_ins (A : Option Addr) (n k : Nat) (xs : List Int) (w : World) (h : n ≤ 100) (hk : ReadsI w A n k xs) :
    Calls Try.prog 11 #[.slice A n k] w fun e w' => e = .returned (.bool true) ∧ Below w.heap.size w w' := by
  have HOK := Lib.hid (town_good xs)
  have hmd := made7 hk
  have hE70 := len_townE xs
  obtain ⟨ns, hns⟩ : ∃ ns, ns = townN xs := ⟨_, rfl⟩
  obtain ⟨es, hes⟩ : ∃ es, es = townE xs := ⟨_, rfl⟩
  obtain ⟨bs, hbs⟩ : ∃ bs, bs = townB xs := ⟨_, rfl⟩
  rw [← hes] at hE70
  rw [← hns, ← hes, ← hbs] at HOK hmd
  have HMD := Lib.hid hmd
  obtain ⟨s1, s2, s3, s4⟩ := (mayB_parts HOK.out).2.1
  clear hmd hns hes hbs
  clear hk
  have HCOUNT := Lib.hid (turns_count HOK.out)
  go_enter Try.func11, Try.ntmps11
  go_wp2_with fail
  refine HMD.out.mono ?_
  rintro e w1 ⟨A1, A2, A3, c1, c2, c3, B, t, p, rfl, hM⟩
  have hbx := bl_alloc (Below.refl w1.heap.size w1) (.cells #[.slice A1 ns.length c1, .slice A2 es.length c2, .slice A3 bs.length c3] 28)
  obtain ⟨v0, hv0⟩ : ∃ v0, v0 = w1.alloc (.cells #[.slice A1 ns.length c1, .slice A2 es.length c2, .slice A3 bs.length c3] 28) := ⟨_, rfl⟩
  have HS : Hid (∀ w', Below v0.heap.size v0 w' → w'.cell? ⟨w1.heap.size, 0, none⟩ = some (.slice A1 ns.length c1) ∧ w'.cell? ⟨w1.heap.size, 1, none⟩ = some (.slice A2 es.length c2) ∧ w'.cell? ⟨w1.heap.size, 2, none⟩ = some (.slice A3 bs.length c3)) := Lib.hid fun w' hb => by subst hv0; exact GR.box hb
  have k0 : (w1.alloc (.cells #[.slice A1 ns.length c1, .slice A2 es.length c2, .slice A3 bs.length c3] 28)).cell? ⟨w1.heap.size, 0, none⟩ = some (.slice A1 ns.length c1) := cell_three_new 0 _ rfl
  have k1 : (w1.alloc (.cells #[.slice A1 ns.length c1, .slice A2 es.length c2, .slice A3 bs.length c3] 28)).cell? ⟨w1.heap.size, 1, none⟩ = some (.slice A2 es.length c2) := cell_three_new 1 _ rfl
  have k2 : (w1.alloc (.cells #[.slice A1 ns.length c1, .slice A2 es.length c2, .slice A3 bs.length c3] 28)).cell? ⟨w1.heap.size, 2, none⟩ = some (.slice A3 bs.length c3) := cell_three_new 2 _ rfl
  rw [← hv0] at hbx
  have HG := Lib.hid (hM.g.below hbx)
  have HT := Lib.hid (hM.t.below hbx)
  have HBW : Hid (Below w.heap.size w v0) := Lib.hid (hM.below.trans (hbx.mono hM.below.size))
  have HV0 := Lib.hid hv0
  have HTE : Hid (w1.heap.size < v0.heap.size) := Lib.hid (by rw [hv0, size_alloc]; omega)
  have HLO : Hid (w.heap.size ≤ B) := Lib.hid hM.lo
  clear hM hbx hv0 HMD
  have HT0 : Hid (∀ w', Below v0.heap.size v0 w' → w'.cell? ⟨t, 0, none⟩ = some (.pointer (some ⟨p, 0, none⟩))) := Lib.hid fun w' hb => by
    obtain ⟨tb, R, hT⟩ := HT.out.below hb; exact block_cell hT.ht rfl
  have HGG : Hid (∀ w', Below v0.heap.size v0 w' → ∃ E, GraphAt w' B E p ns es bs) := Lib.hid fun w' hb => by
    obtain ⟨tb, R, hT⟩ := HT.out.below hb; exact ⟨_, hT.g⟩
  go_wp2_with fail
  rw [← HV0.out]
  go_loopg [5, 6] ns.length (fun M u v wr => ∃ k P : Nat, M = ns.length - k ∧ k ≤ ns.length ∧ v = .int .i64 (k : Nat) ∧ u = .int .i64 (P : Nat) ∧ P = sm (fun v => cnt (toN es) es.length v * cnt (fromN es) es.length v) k ∧ Below v0.heap.size v0 wr)
  case atStart => exact ⟨0, 0, rfl, Nat.zero_le _, rfl, rfl, rfl, Below.refl _ _⟩
  case round =>
    obtain ⟨k, P, hM, hk, rfl, rfl, hP, hb⟩ := hrel
    have hPb : P ≤ k * 262144 := by
      rw [hP]
      exact sm_le _ _ _ fun i hi => Nat.mul_le_mul (Nat.le_trans (cnt_le _ _ _) s3) (Nat.le_trans (cnt_le _ _ _) s3)
    have hPc : P ≤ 67108864 := Nat.le_trans hPb (by omega)
    have HM := Lib.hid hM
    have HP := Lib.hid hP
    have HB := Lib.hid hb
    obtain ⟨l0, l1, l2⟩ := HS.out _ hb
    clear hM hb k0 k1 k2 hP hPb
    by_cases hlt : k < ns.length
    · have K0 : Hid (Below v0.heap.size v0 wr.drew) := Lib.hid (bl_drew HB.out)
      have r1 : ∀ w', Below v0.heap.size v0 w' → Calls Try.prog 16 #[.pointer (some ⟨p, 0, none⟩), .int .i64 (k : Int)] w' fun e w'' => ∃ A' c', e = .returned (.slice A' (inT ns es (k : Int)).length c') ∧ Below w'.heap.size w' w'' := fun w' hb => by
        obtain ⟨E, hg⟩ := HGG.out w' hb
        exact (in_at hg _).mono fun e w'' ⟨A', c', he, _, hb⟩ => ⟨A', c', he, hb⟩
      have r2 : ∀ w', Below v0.heap.size v0 w' → Calls Try.prog 15 #[.pointer (some ⟨p, 0, none⟩), .int .i64 (k : Int)] w' fun e w'' => ∃ A' c', e = .returned (.slice A' (outT ns es (k : Int)).length c') ∧ Below w'.heap.size w' w'' := fun w' hb => by
        obtain ⟨E, hg⟩ := HGG.out w' hb
        exact (out_at hg _).mono fun e w'' ⟨A', c', he, _, hb⟩ => ⟨A', c', he, hb⟩
      rw [inT_len hlt] at r1
      rw [outT_len hlt] at r2
      have g1 := Nat.le_trans (cnt_le (toN es) es.length k) s3
      have g2 := Nat.le_trans (cnt_le (fromN es) es.length k) s3
      obtain ⟨ci, hci⟩ : ∃ ci, ci = cnt (toN es) es.length k := ⟨_, rfl⟩
      obtain ⟨co, hco⟩ : ∃ co, co = cnt (fromN es) es.length k := ⟨_, rfl⟩
      rw [← hci] at r1 g1
      rw [← hco] at r2 g2
      have hmul : ci * co ≤ 262144 := Nat.le_trans (Nat.mul_le_mul g1 g2) (by omega)
      have hmi : (ci : Int) * (co : Int) = ((ci * co : Nat) : Int) := by simp
      obtain ⟨m, hm⟩ : ∃ m, m = ci * co := ⟨_, rfl⟩
      rw [← hm] at hmul hmi
      have R1 := Lib.hid r1
      have R2 := Lib.hid r2
      have HCI := Lib.hid hci
      have HCO := Lib.hid hco
      have HMM := Lib.hid hm
      have e1 : IntKind.i64.wrap ((ci : Int) * (co : Int)) = (m : Int) := by rw [hmi]; exact IntWalk.i64_in _ (by omega)
      have e2 : IntKind.i64.wrap ((P : Int) + (m : Int)) = (P : Int) + (m : Int) := IntWalk.i64_in _ (by omega)
      clear r1 r2 hci hco hm hmi
      go_wp2_with fail
      go_region_held3 (fun w' => w'.cell? ⟨t, 0, none⟩ = some (.pointer (some ⟨p, 0, none⟩)))
        (first | exact HT0.out _ K0.out | exact HT0.out _ K1.out | exact HT0.out _ K2.out)
        (first
          | (go_at_call 16
             refine (R1.out _ K0.out).mono ?_
             rintro e y1 ⟨D1, d1, rfl, hb⟩
             have K1 : Hid (Below v0.heap.size v0 y1) := Lib.hid (bl_then K0.out hb)
             clear hb)
          | (go_at_call 15
             refine (R2.out _ K1.out).mono ?_
             rintro e y2 ⟨D2, d2, rfl, hb⟩
             have K2 : Hid (Below v0.heap.size v0 y2) := Lib.hid (bl_then K1.out hb)
             clear hb))
      all_goals
        go_wp2_with fail
        go_roundg (ns.length - (k + 1))
        case measure => have := HM.out; omega
        case rel =>
          refine ⟨k + 1, P + m, rfl, by omega, by go_num, by go_num, ?_, K2.out⟩
          simp only [sm]
          rw [← HP.out, ← HCI.out, ← HCO.out, ← HMM.out]
    · have hkn : ns.length = k := by omega
      subst hkn
      clear hlt hk
      have hcnt : sm (fun a => (nextT es bs ((a : Nat) : Int)).length) es.length + bs.length = P := by rw [HP.out]; exact HCOUNT.out
      have HCN := Lib.hid hcnt
      have HB1 := HB
      clear hcnt
      obtain ⟨x0, rfl⟩ : ∃ x0 : World, x0 = wr := ⟨_, rfl⟩
      go_wp2_with fail
      go_loopg [7, 8] es.length (fun M u v wr => ∃ j S : Nat, M = es.length - j ∧ j ≤ es.length ∧ v = .int .i64 (j : Nat) ∧ u = .int .i64 (S : Nat) ∧ S = sm (fun a => (nextT es bs ((a : Nat) : Int)).length) j ∧ Below v0.heap.size v0 wr)
      case atStart => exact ⟨0, 0, rfl, Nat.zero_le _, rfl, rfl, rfl, HB1.out⟩
      case round =>
        obtain ⟨j, S, hM2, hj, rfl, rfl, hS, hb⟩ := hrel
        have hSb : S ≤ j * 512 := by
          rw [hS]
          exact sm_le _ _ _ fun i hi => Nat.le_trans (nextT_len _ _ _) s3
        have hSc : S ≤ 262144 := Nat.le_trans hSb (by omega)
        have HM2 := Lib.hid hM2
        have HSS := Lib.hid hS
        have HB2 := Lib.hid hb
        obtain ⟨l0, l1, l2⟩ := HS.out _ hb
        clear hM2 hb hS hSb
        by_cases hlt : j < es.length
        · have hnx := next_at (HT.out.below HB2.out) (j : Int)
          have hl5 := nextT_len es bs (j : Int)
          obtain ⟨ln, hln⟩ : ∃ ln, ln = (nextT es bs (j : Int)).length := ⟨_, rfl⟩
          rw [← hln] at hnx hl5
          have HNX := Lib.hid hnx
          have HLN := Lib.hid hln
          clear hnx hln
          go_wp2_with fail
          refine HNX.out.mono ?_
          rintro e y1 ⟨D1, d1, rfl, _, _, hb⟩
          have HB3 := Lib.hid (bl_then HB2.out hb)
          clear hb
          go_wp2_with fail
          go_roundg (es.length - (j + 1))
          case measure => have := HM2.out; omega
          case rel =>
            refine ⟨j + 1, S + ln, rfl, by omega, by go_num, by go_num, ?_, HB3.out⟩
            simp only [sm]
            rw [← HSS.out, ← HLN.out]
        · have hjn : es.length = j := by omega
          subst hjn
          clear hlt hj
          have hSP : S + bs.length = P := by rw [HSS.out]; exact HCN.out
          have hal : (arcsT es bs).length = S := by rw [HSS.out]; exact arcsN_sum es bs es.length
          have har := arcs_at (HT.out.below HB2.out)
          rw [hal] at har
          have HAR := Lib.hid har
          have hq : ((S : Int) == (P : Int) - (bs.length : Int)) = true := by simp; omega
          clear hSP hal har
          go_wp2_with fail
          refine HAR.out.mono ?_
          rintro e y1 ⟨D1, d1, rfl, _, hb⟩
          have HB3 := Lib.hid (bl_then HB2.out hb)
          clear hb
          go_wp2_with fail
          refine (awake7 _).mono ?_
          rintro e y2 ⟨rfl, hb⟩
          have HB4 := Lib.hid (bl_then HB3.out hb)
          clear hb
          go_wp2_with fail
          go_ret
          exact ⟨rfl, HBW.out.trans (HB4.out.mono HBW.out.size)⟩
theorem walk {W : World} (A : Option Addr) (n k : Nat) (xs : List Int) (hk : ReadsI W A n k xs) :
    Calls Try.prog 11 #[.slice A n k] W fun e w' => e = .returned (.bool true) ∧ Below W.heap.size W w' := by
  by_cases h : 100 < n
  · have s1 := hk.small
    unfold maxLen at s1
    exact walk_out A n k (by omega) W h
  · exact walk_ins A n k xs W (by omega) hk
set_option maxRecDepth 100000 in
theorem lifted (os : Os) (started : os.Started) (H : Type) (enc : TypeId × Value → H) :
    ReturnsInHanded {} Try.checked os 11 .any (Rows.turnsOnlySpec.pre6 enc Try.prog Try.f11 Rows.turnsOnlyRow.domain false) (Rows.turnsOnlySpec.post enc Try.prog Try.f11 false true false false) := by
  refine returnsInHanded_of_change (C := Try.checked) own started (by kernel_rfl) Try.func11
    (ChangeSpec.witness6 (enc := enc) (C := Try.checked) false ⟨#[], #[.slice none 0 0], []⟩ 8 (by kernel_rfl) (by kernel_rfl) (by kernel_rfl) (by kernel_rfl)) ?_
  intro W base args ds gs before hval0 hW hcnd _
  have hval : ∀ (j : Nat) t v, Try.f11.params[j]? = some t → args[j]? = some v → Value.okWide Try.prog W .any base t v := hval0
  have hW' := hW
  obtain ⟨p, q, hA0, hV, rfl, hfz, hnd⟩ := hW
  have hA : DataW.TrodAll enc Try.prog W 0 (fun _ => true) true Try.f11.params.toList args.toList ds p := hA0
  rw [Try.params11] at hA hval
  obtain ⟨v0, vs0, d0, ds0, p0, q0, hargs, rfl, rfl, h0, r0⟩ := trodAll_cons hA
  obtain ⟨rfl, rfl, rfl⟩ := trodAll_nil r0
  obtain rfl : args = #[v0] := by cases args; simp_all
  obtain ⟨rfl, rfl⟩ := trodVars_none hV
  obtain ⟨a0, n0, c0, xs0, rfl, k0⟩ := open_reads (hval 0 22 v0 rfl rfl) h0
  refine (walk a0 n0 c0 xs0 k0).mono fun e W' ⟨he, hb⟩ => ?_
  subst he
  exact ⟨_, rfl, post_law hW' hb rfl rfl rfl rfl rfl (by rw [Try.params11]; exact readable_all (by kernel_rfl))⟩
theorem over : Rows.turnsOnlyRow.holds Try.pinned (OpenSpec.ofChange Rows.turnsOnlySpec) :=
  OpenClaim.holds_of_wide 11 Try.f11 rfl rfl rfl rfl rfl rfl rfl ⟨rfl, rfl, rfl, rfl, rfl⟩ rfl rfl rfl rfl rfl (by kernel_rfl) Try.func11 (by kernel_rfl)
    (of_decide_eq_true (by kernel_rfl)) (by unfold Func.isWrapper; first | (rw [if_pos (by decide +kernel)]; kernel_rfl) | (rw [if_neg (by decide +kernel)]; exact ⟨rfl, rfl⟩))
    (fun os started H enc _ => lifted os started H enc)
theorem proved : Rows.TurnsOnlySaid := over
#print axioms proved
end Go.Proofs.Ytjcaoejodjmmkaa.turnsOnly
