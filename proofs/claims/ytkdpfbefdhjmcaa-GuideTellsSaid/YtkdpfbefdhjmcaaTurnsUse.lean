/- What turns tell: Next, Prev, May. -/
import Derived.Test.YtkdpfbefdhjmcaaTurnsNew
import Derived.Test.YtkdpfbefdhjmcaaTownUse
set_option linter.unusedVariables false
set_option linter.unusedSimpArgs false
namespace Go.Proofs.Ytkdpfbefdhjmcaa
open Go.ChangeShapes Go.WideShapes Go.ChangeAt Go.RowKit RowP
theorem nextT_wf {es : List (Int × Int × Int)} (h : es.length ≤ 512) (bs : List (Int × Int)) (e : Int) : ∀ x ∈ nextT es bs e, (Lit.int .i64 x).wf = true := by
  intro x hx
  obtain ⟨i, j, _, rfl, _, hj⟩ := turnB_in (nextT_mem.1 hx)
  exact wf_of (by omega) (by omega)
theorem prevT_wf {es : List (Int × Int × Int)} (h : es.length ≤ 512) (bs : List (Int × Int)) (e : Int) : ∀ x ∈ prevT es bs e, (Lit.int .i64 x).wf = true := by
  intro x hx
  obtain ⟨i, j, rfl, _, hi, _⟩ := turnB_in (prevT_mem.1 hx)
  exact wf_of (by omega) (by omega)
set_option maxRecDepth 100000 in
set_option maxHeartbeats 4000000 in
theorem some_in {w : World} {B m : Nat} {tb : Bool → Nat} {R : Bool → Nat → Value} {L : Bool → Nat → List Int} (h : TR w B m tb R L) (hm : m ≤ 512) (s : Bool) {k : Nat} (hk : k < m) (hl : (L s k).length ≤ 512) (hw : ∀ x ∈ L s k, (Lit.int .i64 x).wf = true) :
    Calls Try.prog 76 #[.slice (some ⟨tb s, 0, none⟩) m m, .int .i64 (k : Nat)] w fun e w' => ∃ A' c', e = .returned (.slice A' (L s k).length c') ∧ ReadsI w' A' (L s k).length c' (L s k) ∧ (∀ b o, A' = some ⟨b, o, none⟩ → w.heap.size ≤ b ∧ b < w'.heap.size) ∧ Below w.heap.size w w' := by
  obtain ⟨i1, hi1⟩ := info1
  have II := Lib.hid hi1
  have hrow := h.row s k hk
  have c0 := h.cell s hk
  obtain ⟨A, c, hR, _⟩ := own_val hrow
  rw [hR] at hrow c0
  have hsrc := Src.ofI (ReadsI.of_row hrow (by unfold maxLen; omega) hw)
  have HSRC := Lib.hid hsrc
  have HW := Lib.hid hw
  obtain ⟨xs, hxs⟩ : ∃ xs, xs = L s k := ⟨_, rfl⟩
  rw [← hxs] at c0 hl HSRC HW ⊢
  have k0 : ¬ ((k : Int) < 0) := by omega
  have k1 : (k : Int) < (m : Int) := by omega
  have k2 : (0 : Int) ≤ (k : Int) := by omega
  clear hi1 hrow hsrc hw hxs hR h
  go_enter Try.func76, Try.ntmps76
  go_wp2_with (at_builtin; refine wpList_push rfl (.const (.slice none 0 0)) (.tmp 16) 71 rfl w.heap.size 3 Try.underlying71 II.out ⟨rfl, by decide⟩ (.slice none 0 0) 0 [] rfl (World.ownsRow_nil _ _ _ _) A xs.length c _ rfl HSRC.out ⟨by unfold maxLen; omega, by omega⟩ (Nat.le_refl _) ?_)
  intro v' w1 hgr
  obtain ⟨A', c', hv'⟩ := hgr.val
  have hrow := hgr.row
  have hb := hgr.below (Nat.le_refl _) (by intro b e; simp [Value.ownBlock] at e)
  (try rw [Nat.zero_add] at hv')
  (try rw [Nat.zero_add, List.nil_append] at hrow)
  subst hv'
  have HB := Lib.hid hb
  have HROW := Lib.hid hrow
  clear hgr hrow hb
  go_wp2_with fail
  go_ret
  exact ⟨A', c', rfl, ReadsI.of_row HROW.out (by unfold maxLen; omega) HW.out, fun b o e => by subst e; exact own_lt2 HROW.out, HB.out⟩
set_option maxRecDepth 100000 in
set_option maxHeartbeats 4000000 in
theorem some_out (w : World) (A : Option Addr) {m : Nat} (c : Nat) (hm : m ≤ 512) {k : Int} (hk : inB 0 k ((m : Int) - 1) = false) :
    Calls Try.prog 76 #[.slice A m c, .int .i64 k] w fun e w' => e = .returned (.slice none 0 0) ∧ w = w' := by
  unfold inB at hk
  simp only [Bool.and_eq_false_iff, decide_eq_false_iff_not] at hk
  by_cases h0 : k < 0
  · clear hk
    go_enter Try.func76, Try.ntmps76
    go_wp2_with fail
    go_ret
    exact ⟨rfl, rfl⟩
  · have h1 : (m : Int) ≤ k := by omega
    clear hk
    go_enter Try.func76, Try.ntmps76
    go_wp2_with fail
    go_ret
    exact ⟨rfl, rfl⟩
set_option maxRecDepth 100000 in
set_option maxHeartbeats 4000000 in
theorem next_at {w : World} {B E t p : Nat} {ns bs : List (Int × Int)} {es : List (Int × Int × Int)} (h : TurnsAt w B E t p ns es bs) (k : Int) : Calls Try.prog 72 #[.pointer (some ⟨t, 0, none⟩), .int .i64 k] w fun e w' =>
    ∃ A' c', e = .returned (.slice A' (nextT es bs k).length c') ∧ ReadsI w' A' (nextT es bs k).length c' (nextT es bs k) ∧ (∀ b o, A' = some ⟨b, o, none⟩ → w.heap.size ≤ b ∧ b < w'.heap.size) ∧ Below w.heap.size w w' := by
  obtain ⟨tb, R, h⟩ := h
  obtain ⟨_, ⟨s1, s2, s3, s4⟩, _, _⟩ := mayB_parts h.g.bd.1
  have c1 := block_cell h.ht (j := 1) rfl
  cases hin : inB 0 k ((es.length : Int) - 1)
  · have he : nextT es bs k = [] := nextT_out hin
    have HE := Lib.hid he
    have HIN := Lib.hid hin
    clear h he hin
    go_enter Try.func72, Try.ntmps72
    go_wp2_with fail
    refine (some_out _ _ _ (by omega) HIN.out).mono ?_
    rintro e w' ⟨rfl, rfl⟩
    go_wp2_with fail
    go_ret
    rw [HE.out]
    exact ⟨none, 0, rfl, ⟨rfl, by decide, fun h => by simp at h, by simp⟩, (fun b o e => by cases e), Below.refl _ _⟩
  · unfold inB at hin
    simp only [Bool.and_eq_true, decide_eq_true_eq] at hin
    obtain ⟨q, rfl⟩ : ∃ q : Nat, k = (q : Int) := ⟨k.toNat, by omega⟩
    have hq : q < es.length := by omega
    have hsome := some_in h.tr s3 true hq (by show (nextT es bs (q : Int)).length ≤ 512; have := nextT_len es bs (q : Int); omega) (by show ∀ x ∈ nextT es bs (q : Int), _; exact nextT_wf s3 bs _)
    have HS : Hid (Calls Try.prog 76 #[.slice (some ⟨tb true, 0, none⟩) es.length es.length, .int .i64 (q : Nat)] w fun e w' => ∃ A' c', e = .returned (.slice A' (nextT es bs (q : Int)).length c') ∧ ReadsI w' A' (nextT es bs (q : Int)).length c' (nextT es bs (q : Int)) ∧ (∀ b o, A' = some ⟨b, o, none⟩ → w.heap.size ≤ b ∧ b < w'.heap.size) ∧ Below w.heap.size w w') := Lib.hid hsome
    obtain ⟨xs, hxs⟩ : ∃ xs, xs = nextT es bs (q : Int) := ⟨_, rfl⟩
    rw [← hxs] at HS ⊢
    clear h hsome hxs hin
    go_enter Try.func72, Try.ntmps72
    go_wp2_with fail
    refine HS.out.mono ?_
    rintro e w' ⟨A', c', rfl, hr, hn, hb⟩
    have HR := Lib.hid hr
    have HN := Lib.hid hn
    have HB := Lib.hid hb
    clear hr hn hb
    go_wp2_with fail
    go_ret
    exact ⟨A', c', rfl, HR.out, HN.out, HB.out⟩
end Go.Proofs.Ytkdpfbefdhjmcaa
