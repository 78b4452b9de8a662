/- milepostref4.Heap: Find, Pop, over a sorted list. -/
import Derived.Test.YtkdpfbefdhjmcaaHeap4Pure
import Derived.Test.YtkdpfbefdhjmcaaRegionLast
import Derived.Test.YtkdpfbefdhjmcaaReadsP
import Derived.Test.YtkdpfbefdhjmcaaAppend
import Derived.Test.YtkdpfbefdhjmcaaGraphAt
set_option linter.unusedVariables false
set_option linter.unusedSimpArgs false
namespace Go.Proofs.Ytkdpfbefdhjmcaa
open Go.ChangeShapes Go.WideShapes Go.ChangeAt Go.RowKit HeapP DistP
theorem infoKey : (Try.prog.info? 38).map (fun i => (i.zero, i.size, i.bytes)) = some (some (.agg #[.int .i64 0, .int .i64 0]), 2, 16) := by kernel_rfl
theorem infoK : ∃ i, Try.prog.info? 38 = some i ∧ i.zero = some (.agg #[.int .i64 0, .int .i64 0]) ∧ i.size = 2 ∧ i.bytes = 16 := info_parts infoKey
/-- at p stands a heap of the document's: its row lies at A, with room for c -/
structure H4 (w : World) (p : Nat) (A : Option Addr) (c : Nat) (S : List It) : Prop where
  hd : w.heap[p]? = some (.cells #[.slice A S.length c] 32)
  rd : ReadsP w A S.length c S
  cap : S.length ≤ c ∧ c ≤ maxLen
  at_ : (A = none ∧ c = 0) ∨ ∃ b o, A = some ⟨b, o, none⟩ ∧ b ≠ p ∧ b < w.heap.size
theorem ReadsP.updP {F : Nat → Prop} {w w' : World} {A : Option Addr} {n c : Nat} {xs : List (Int × Int)} (h : ReadsP w A n c xs) (hu : Upd F w w') (hF : ∀ b o, A = some ⟨b, o, none⟩ → ¬ F b) : ReadsP w' A n c xs := by
  refine ⟨h.len, h.small, fun hn => ?_, h.wf⟩
  obtain ⟨b, o, hA, hc⟩ := h.cell hn
  refine ⟨b, o, hA, fun i hi => ?_⟩
  have h0 := hc i hi
  have hlt := World.block_lt_of_cell? w ⟨b, o + i * 2, none⟩ h0.1
  exact ⟨(World.cell?_of_block (a := ⟨b, o + i * 2, none⟩) (hu.block b hlt (hF b o hA))).trans h0.1, (World.cell?_of_block (a := ⟨b, o + i * 2 + 1, none⟩) (hu.block b hlt (hF b o hA))).trans h0.2⟩
theorem ReadsP.frontP {w : World} {A : Option Addr} {n c : Nat} {xs : List (Int × Int)} (h : ReadsP w A n c xs) {j : Nat} (hj : j ≤ n) (c' : Nat) : ReadsP w A j c' (xs.take j) := by
  refine ⟨by rw [List.length_take, h.len]; omega, Nat.le_trans hj h.small, fun hn => ?_, fun x hx => h.wf x (List.mem_of_mem_take hx)⟩
  obtain ⟨b, o, hA, hc⟩ := h.cell (by omega)
  refine ⟨b, o, hA, fun i hi => ?_⟩
  have e : (xs.take j).getD i (0, 0) = xs.getD i (0, 0) := by rw [List.getD_eq_getElem?_getD, List.getD_eq_getElem?_getD, List.getElem?_take_of_lt hi]
  rw [e]; exact hc i (by omega)
theorem ReadsP.restP {w : World} {A : Option Addr} {n c : Nat} {xs : List (Int × Int)} (h : ReadsP w A n c xs) {j : Nat} (hj : j ≤ n) {A' : Option Addr} (c' : Nat) (hA' : ∀ b o, j < n → A = some ⟨b, o, none⟩ → A' = some ⟨b, o + j * 2, none⟩) : ReadsP w A' (n - j) c' (xs.drop j) := by
  refine ⟨by rw [List.length_drop, h.len], by have := h.small; omega, fun hn => ?_, fun x hx => h.wf x (List.mem_of_mem_drop hx)⟩
  obtain ⟨b, o, hA, hc⟩ := h.cell (by omega)
  refine ⟨b, o + j * 2, hA' b o (by omega) hA, fun i hi => ?_⟩
  have e : (xs.drop j).getD i (0, 0) = xs.getD (j + i) (0, 0) := by simp [List.getD_eq_getElem?_getD]
  have := hc (j + i) (by omega)
  rw [e, show o + j * 2 + i * 2 = o + (j + i) * 2 by omega]; exact this
theorem H4.upd {F : Nat → Prop} {w w' : World} {p : Nat} {A : Option Addr} {c : Nat} {S : List It} (h : H4 w p A c S) (hu : Upd F w w') (hp : ¬ F p) (hF : ∀ b o, A = some ⟨b, o, none⟩ → ¬ F b) : H4 w' p A c S := by
  have hlt : p < w.heap.size := (Array.getElem?_eq_some_iff.1 h.hd).1
  refine ⟨(hu.block p hlt hp).trans h.hd, h.rd.updP hu hF, h.cap, h.at_.imp id ?_⟩
  rintro ⟨b, o, e1, e2, e3⟩
  exact ⟨b, o, e1, e2, Nat.lt_of_lt_of_le e3 hu.size⟩
theorem H4.below {w w' : World} {p : Nat} {A : Option Addr} {c : Nat} {S : List It} (h : H4 w p A c S) (hb : Below w.heap.size w w') : H4 w' p A c S := h.upd (F := fun _ => False) (Upd.of_below hb) id (fun _ _ _ => id)
theorem own_lower {w : World} {B B' : Nat} {e : TypeId} {s n : Nat} {v : Value} {xs : List Value} (h : w.ownsRow B e s v n xs) (hB : B' ≤ B) : w.ownsRow B' e s v n xs :=
  ⟨h.1, h.2.imp id fun ⟨g, c, cur, e, hb, r⟩ => ⟨g, c, cur, e, Nat.le_trans hB hb, r⟩⟩
theorem H4.of_row {w : World} {p B m : Nat} {A : Option Addr} {c : Nat} {S : List It} (hr : w.ownsRow B 38 2 (.slice A m c) m (flat2 S)) (hm : S.length = m) (hs : m ≤ maxLen) (hB : p < B) (hw : ∀ x ∈ S, Wf x) {v : Value} (hp : w.heap[p]? = some (.cells #[v] 32)) :
    H4 (w.setCell ⟨p, 0, none⟩ (.slice A m c)) p A c S ∧ ∀ b o, A = some ⟨b, o, none⟩ → B ≤ b := by
  have hu := upd_setCell (F := fun b => b = p) (a := ⟨p, 0, none⟩) (Upd.refl _ w) rfl (.slice A m c)
  have hne : ∀ b, (Value.slice A m c).ownBlock = some b → ¬ b = p := fun b e e2 => by have := (World.ownsRow.lt hr b e).1; omega
  subst hm
  refine ⟨⟨block_set hp 0 _, ReadsP.of_row (own_upd hr hu hne) hs hw, ?_, ?_⟩, fun b o e => (own_in hr b o e).1⟩
  · rcases hr.2 with ⟨h1, h2⟩ | ⟨g, cc, cur, h1, hb, hg, h3, h4, _⟩
    · injection h1 with e1 e2 e3
      rw [e2, e3]; exact ⟨Nat.le_refl _, Nat.zero_le _⟩
    · injection h1 with e1 e2 e3
      rw [e3]; exact ⟨h3, h4⟩
  · rcases hr.2 with ⟨h1, h2⟩ | ⟨g, cc, cur, h1, hb, hg, h3, h4, _⟩
    · injection h1 with e1 e2 e3
      exact .inl ⟨e1, e3⟩
    · injection h1 with e1 e2 e3
      refine .inr ⟨g, 0, e1, by omega, ?_⟩
      rw [size_setCell]
      exact (Array.getElem?_eq_some_iff.1 hg).1
set_option maxRecDepth 100000 in
set_option maxHeartbeats 4000000 in
theorem find4_at {w : World} {p : Nat} {A : Option Addr} {c : Nat} {S : List It} (h : H4 w p A c S) (id : Int) :
    Calls Try.prog 12 #[.pointer (some ⟨p, 0, none⟩), .int .i64 id] w fun e w' => e = .returned (.int .i64 (findI S id)) ∧ w = w' := by
  have c0 : w.cell? ⟨p, 0, none⟩ = some (.slice A S.length c) := block_cell h.hd (j := 0) rfl
  have hsm := h.rd.small
  unfold maxLen at hsm
  have HFL := Lib.hid (findN_le S id)
  have HR := Lib.hid h.rd
  obtain ⟨n, hn⟩ : ∃ n, n = S.length := ⟨_, rfl⟩
  rw [← hn] at c0 hsm HFL HR
  have HN := Lib.hid hn
  have hsm2 : n ≤ 9223372036854775807 := by omega
  clear h hn hsm
  go_enter Try.func12, Try.ntmps12
  go_wp2_with fail
  go_loopg [5] n (fun M u wr => ∃ k : Nat, M = n - k ∧ k ≤ findN S id ∧ u = .int .i64 (k : Nat) ∧ w = wr)
  case atStart => exact ⟨0, rfl, Nat.zero_le _, rfl, rfl⟩
  case round =>
    obtain ⟨k, hM, hk, rfl, rfl⟩ := hrel
    have HM := Lib.hid hM
    have HK := Lib.hid hk
    have hkn := Nat.le_trans hk HFL.out
    clear hM hk
    by_cases hlt : k < n
    · obtain ⟨b, o, rfl, hc⟩ := HR.out.cell (by omega)
      have d0 := (hc k hlt).1
      have hst := fun hne => findN_step (S := S) (id := id) HK.out (by rw [← HN.out]; exact hlt) hne
      have hhe := fun he => findN_here (S := S) (id := id) HK.out (by rw [← HN.out]; exact hlt) he
      have hgk : g S k = S.getD k (0, 0) := rfl
      rw [hgk] at hst hhe
      obtain ⟨y, hy⟩ : ∃ y, y = (S.getD k (0, 0)).1 := ⟨_, rfl⟩
      rw [← hy] at d0 hst hhe
      have HST := Lib.hid hst
      have HHE := Lib.hid hhe
      have k0 : (0 : Int) ≤ (k : Int) := by omega
      have k1 : (k : Int) < (n : Int) := by omega
      clear hc hst hhe hgk hy
      by_cases hid : y = id
      · have t : (y == id) = true := by simp [hid]
        have HI := Lib.hid hid
        clear hid
        go_wp2_with fail
        go_ret
        refine ⟨ret_int ?_, rfl⟩
        unfold findI
        rw [HHE.out HI.out, ← HN.out, if_pos hlt]
      · have t : (y == id) = false := beq_false_of_ne hid
        have HI := Lib.hid hid
        clear hid
        go_wp2_with fail
        go_roundg (n - (k + 1))
        case measure => have := HM.out; omega
        case rel => exact ⟨k + 1, rfl, HST.out HI.out, by go_num, rfl⟩
    · have hkn : n = k := by omega
      have HKN := Lib.hid hkn
      subst hkn
      clear hlt
      go_wp2_with fail
      go_ret
      refine ⟨ret_int ?_, rfl⟩
      unfold findI
      rw [if_neg (by have := HK.out; have := HN.out; omega)]
theorem pblk0 {w : World} {p : Nat} {a b : Value} {t : TypeId} (h : w.heap[p]? = some (.cells #[a, b] t)) (v : Value) : (w.setCell ⟨p, 0, none⟩ v).heap[p]? = some (.cells #[v, b] t) := block_set h 0 v
theorem pblk1 {w : World} {p : Nat} {a b : Value} {t : TypeId} (h : w.heap[p]? = some (.cells #[a, b] t)) (v : Value) : (w.setCell ⟨p, 1, none⟩ v).heap[p]? = some (.cells #[a, v] t) := block_set h 1 v
theorem pnew (w : World) (o : Obj) : (w.alloc o).heap[w.heap.size]? = some o := by show (w.heap.push _)[w.heap.size]? = _; simp
set_option maxRecDepth 100000 in
set_option maxHeartbeats 4000000 in
theorem pop4_nil {w : World} {p : Nat} {A : Option Addr} {c : Nat} (h : H4 w p A c []) :
    Calls Try.prog 8 #[.pointer (some ⟨p, 0, none⟩)] w fun e w' => e = .returned (.tuple #[.agg #[.int .i64 0, .int .i64 0], .bool false]) ∧ Below w.heap.size w w' := by
  have c0 : w.cell? ⟨p, 0, none⟩ = some (.slice A 0 c) := block_cell h.hd (j := 0) rfl
  have hb0 : Below w.heap.size w (w.alloc (.cells #[.int .i64 0, .int .i64 0] 38)) := bl_alloc (Below.refl _ _) _
  have e0 := cell_below c0 hb0
  have hq := pnew w (.cells #[.int .i64 0, .int .i64 0] 38)
  have q0 := block_cell hq (j := 0) rfl
  have q1 := block_cell hq (j := 1) rfl
  have f0 := block_fr hq 0
  have f1 := block_fr hq 1
  have HB0 := Lib.hid hb0
  have HQ := Lib.hid hq
  clear h hb0 hq c0
  go_enter Try.func8, Try.ntmps8
  go_wp2_with fail
  refine bodyPost_ret (v := .tuple #[.agg #[.int .i64 0, .int .i64 0], .bool false]) (by simp [results, Try.results8, go_sem, q0, q1]) rfl ⟨rfl, HB0.out⟩
/-- a row of keys of the call's own -/
structure R4 (V w : World) (v : Value) (m : Nat) (L : List It) : Prop where
  bl : Below V.heap.size V w
  row : w.ownsRow V.heap.size 38 2 v m (flat2 L)
theorem R4.build {V w : World} (h : Below V.heap.size V w) : R4 V (w.alloc (.cells #[] 38)) (.slice (some ⟨w.heap.size, 0, none⟩) 0 0) 0 [] :=
  ⟨bl_alloc h _, own_lower (own_empty w 38 2) h.size⟩
theorem R4.below {V w w' : World} {v : Value} {m : Nat} {L : List It} (h : R4 V w v m L) (hb : Below w.heap.size w w') : R4 V w' v m L :=
  ⟨bl_then h.bl hb, own_upd h.row (Upd.of_below (F := fun _ => False) hb) (fun _ _ h => h)⟩
theorem R4.push {V w w' : World} {v v' : Value} {m k : Nat} {L M : List It} (h : R4 V w v m L) (hg : Grown w w' V.heap.size 38 2 v v' (m + k) (flat2 L ++ flat2 M)) : R4 V w' v' (m + k) (L ++ M) :=
  ⟨h.bl.grown hg.by_ h.bl.size (fun g hg' => (World.ownsRow.lt h.row g hg').1), by rw [flat2_append]; exact hg.row⟩
/-- a new key in a block of its own -/
theorem src4_new (w : World) (i k : Int) : Src (w.alloc (.cells #[.int .i64 i, .int .i64 k] 38)) 2 (some ⟨w.heap.size, 0, none⟩) 1 (flat2 [((i, k) : It)]) :=
  Src.new (w := w) (vs := #[.int .i64 i, .int .i64 k]) (t := 38) (size := 2) (by intro u hu; simp at hu; rcases hu with rfl | rfl <;> rfl) rfl
end Go.Proofs.Ytkdpfbefdhjmcaa
