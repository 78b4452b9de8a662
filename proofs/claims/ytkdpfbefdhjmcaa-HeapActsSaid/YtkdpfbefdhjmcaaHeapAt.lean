/- heap.Heap as a sorted list: what its calls come to. -/
import Derived.Test.YtkdpfbefdhjmcaaHeapPop
import Derived.Test.YtkdpfbefdhjmcaaDistPure
set_option linter.unusedVariables false
set_option linter.unusedSimpArgs false
namespace Go.Proofs.Ytkdpfbefdhjmcaa
open Go.RowKit Go.Maps Go.ChangeMaps Go.MapKept HeapP DistP
/-- at hb stands a heap of the blocks fp that stands for S -/
def HeapAt (w : World) (hb : Nat) (fp : List Nat) (S : List It) : Prop :=
  (fp = [hb] ∧ S = [] ∧ Head w hb (.slice none 0 0) (.map none)) ∨ ∃ lb mb cap l m, fp = [hb, lb, mb] ∧ InR w hb lb mb cap l m ∧ Abs l m S
theorem HeapAt.upd {F : Nat → Prop} {w w' : World} {hb : Nat} {fp : List Nat} {S : List It} (h : HeapAt w hb fp S) (hu : Upd F w w') (hF : ∀ k ∈ fp, ¬ F k) : HeapAt w' hb fp S := by
  rcases h with ⟨rfl, rfl, hh⟩ | ⟨lb, mb, cap, l, m, rfl, hin, ha⟩
  · exact .inl ⟨rfl, rfl, (hu.block hb hh.lt (hF hb (by simp))).trans hh⟩
  · exact .inr ⟨lb, mb, cap, l, m, rfl, hin.upd hu (hF _ (by simp)) (hF _ (by simp)) (hF _ (by simp)), ha⟩
theorem HeapAt.below {w w' : World} {hb : Nat} {fp : List Nat} {S : List It} (h : HeapAt w hb fp S) (hb' : Below w.heap.size w w') : HeapAt w' hb fp S := h.upd (F := fun _ => False) (Upd.of_below hb') (fun _ _ => id)
theorem HeapAt.lt {w : World} {hb : Nat} {fp : List Nat} {S : List It} (h : HeapAt w hb fp S) : ∀ k ∈ fp, k < w.heap.size := by
  rcases h with ⟨rfl, rfl, hh⟩ | ⟨lb, mb, cap, l, m, rfl, hin, ha⟩
  · intro k hk; rw [List.mem_singleton.1 hk]; exact hh.lt
  · have := hin.sizes
    intro k hk
    simp only [List.mem_cons, List.not_mem_nil, or_false] at hk
    omega
theorem HeapAt.mem {w : World} {hb : Nat} {fp : List Nat} {S : List It} (h : HeapAt w hb fp S) : hb ∈ fp := by
  rcases h with ⟨rfl, _⟩ | ⟨lb, mb, cap, l, m, rfl, _⟩ <;> simp
theorem HeapAt.wf {w : World} {hb : Nat} {fp : List Nat} {S : List It} (h : HeapAt w hb fp S) : ∀ x ∈ S, Wf x := by
  rcases h with ⟨rfl, rfl, hh⟩ | ⟨lb, mb, cap, l, m, rfl, hin, ha⟩
  · simp
  · intro x hx; exact hin.wf x (ha.perm.mem_iff.2 hx)
theorem HeapAt.sorted {w : World} {hb : Nat} {fp : List Nat} {S : List It} (h : HeapAt w hb fp S) : Sorted S := by
  rcases h with ⟨rfl, rfl, hh⟩ | ⟨lb, mb, cap, l, m, rfl, hin, ha⟩
  · exact List.Pairwise.nil
  · exact ha.sorted
theorem HeapAt.uniq {w : World} {hb : Nat} {fp : List Nat} {S : List It} (h : HeapAt w hb fp S) : Uniq S := by
  rcases h with ⟨rfl, rfl, hh⟩ | ⟨lb, mb, cap, l, m, rfl, hin, ha⟩
  · intro y hy; simp at hy
  · intro y hy z hz e; exact ha.uniq hy hz e
theorem len_at {w : World} {hb : Nat} {fp : List Nat} {S : List It} (h : HeapAt w hb fp S) : Calls Try.prog 13 #[.pointer (some ⟨hb, 0, none⟩)] w fun e w' => e = .returned (.int .i64 S.length) ∧ w = w' := by
  rcases h with ⟨rfl, rfl, hh⟩ | ⟨lb, mb, cap, l, m, rfl, hin, ha⟩
  · exact len_any hh
  · rw [← ha.perm.length_eq]; exact len_any hin.head
theorem any_false {S : List It} {x : It} (h : ∀ y ∈ S, y.1 ≠ x.1) : S.any (fun y => decide (y.1 = x.1) && decide (y.2 ≤ x.2)) = false := by
  rw [List.any_eq_false]
  intro y hy
  simp [h y hy]
theorem filter_all {S : List It} {x : It} (h : ∀ y ∈ S, y.1 ≠ x.1) : S.filter (fun y => !decide (y.1 = x.1)) = S := by
  rw [List.filter_eq_self]
  intro y hy
  simp [h y hy]
def pushB (S : List It) (x : It) : Bool := !S.any fun y => decide (y.1 = x.1) && decide (y.2 ≤ x.2)
theorem push_at {w : World} {hb : Nat} {fp : List Nat} {S : List It} (h : HeapAt w hb fp S) {id key : Int} (hx : Wf (id, key)) (hsmall : S.length ≤ 1099511627776) :
    Calls Try.prog 9 #[.pointer (some ⟨hb, 0, none⟩), .int .i64 id, .int .i64 key] w fun e w' => e = .returned (.bool (pushB S (id, key))) ∧
      ∃ fp', HeapAt w' hb fp' (pushF S (id, key)) ∧ (∀ k ∈ fp', k ∈ fp ∨ w.heap.size ≤ k) ∧ Upd (· ∈ fp) w w' := by
  rcases h with ⟨rfl, rfl, hh⟩ | ⟨lb, mb, cap, l, m, rfl, hin, ha⟩
  · refine (push_first hh hx.1 hx.2).mono ?_
    rintro e w' ⟨rfl, lb, mb, cap, hr, h1, h2, hu⟩
    refine ⟨rfl, [hb, lb, mb], .inr ⟨lb, mb, cap, _, _, rfl, hr, ?_⟩, ?_, hu.mono fun k _ e => by simp [e]⟩
    · have := push_new (x := (id, key)) abs_empty rfl
      exact this
    · intro k hk
      simp only [List.mem_cons, List.not_mem_nil, or_false] at hk
      simp only [List.mem_singleton]
      omega
  · have hlen : l.length ≤ 1099511627776 := by rw [ha.perm.length_eq]; exact hsmall
    cases hm : m id with
    | none =>
      have hN : ∀ y ∈ S, y.1 ≠ ((id, key) : It).1 := ha.none hm
      refine (push_fresh hin hx.1 hx.2 hm hlen).mono ?_
      rintro e w' ⟨rfl, lb', cap', hr, h1, hu⟩
      refine ⟨?_, [hb, lb', mb], .inr ⟨lb', mb, cap', _, _, rfl, hr, ?_⟩, ?_, hu.mono fun k _ e => by simpa using e⟩
      · simp only [pushB, any_false hN, Bool.not_false]
      · have e1 : pushF S (id, key) = ins (id, key) S := by unfold pushF; rw [any_false hN]; simp only [Bool.false_eq_true, if_false]; rw [filter_all hN]
        rw [e1]; exact push_new (x := (id, key)) ha hm
      · intro k hk
        simp only [List.mem_cons, List.not_mem_nil, or_false] at hk
        rcases hk with rfl | rfl | rfl
        · exact .inl (by simp)
        · rcases h1 with rfl | h1
          · exact .inl (by simp)
          · exact .inr h1
        · exact .inl (by simp)
    | some j =>
      obtain ⟨hj, hg, hS⟩ := ha.some hm
      by_cases hk : (g l j).2 ≤ key
      · have hany : S.any (fun y => decide (y.1 = ((id, key) : It).1) && decide (y.2 ≤ ((id, key) : It).2)) = true := by
          rw [List.any_eq_true]
          exact ⟨g l j, hS, by simp [hg, hk]⟩
        refine (push_no hin hx.1 hm hj hk).mono ?_
        rintro e w' ⟨rfl, rfl⟩
        refine ⟨?_, [hb, lb, mb], .inr ⟨lb, mb, cap, l, m, rfl, hin, ?_⟩, fun k hk => .inl hk, Upd.refl _ _⟩
        · simp only [pushB, hany, Bool.not_true]
        · unfold pushF; rw [if_pos hany]; exact ha
      · have hany : S.any (fun y => decide (y.1 = ((id, key) : It).1) && decide (y.2 ≤ ((id, key) : It).2)) = false := by
          rw [List.any_eq_false]
          intro y hy hc
          simp only [Bool.and_eq_true, decide_eq_true_eq] at hc
          have := ha.uniq hy hS (by rw [hg]; exact hc.1)
          rw [this] at hc
          exact hk hc.2
        refine (push_lower hin hx.1 hx.2 hm hj hg (by omega)).mono ?_
        rintro e w' ⟨rfl, hr, hu⟩
        refine ⟨?_, [hb, lb, mb], .inr ⟨lb, mb, cap, _, _, rfl, hr, ?_⟩, fun k hk => .inl hk, hu.mono fun k _ e => ?_⟩
        · simp only [pushB, hany, Bool.not_false]
        · have e1 : pushF S (id, key) = ins (id, key) (S.filter fun y => !decide (y.1 = id)) := by unfold pushF; rw [hany]; rfl
          rw [e1]; exact push_less (x := (id, key)) ha hm (by show key < _; omega)
        · have e : k = lb ∨ k = mb := e
          simp only [List.mem_cons, List.not_mem_nil, or_false]
          exact .inr e
theorem pop_at_nil {w : World} {hb : Nat} {fp : List Nat} (h : HeapAt w hb fp []) : Calls Try.prog 7 #[.pointer (some ⟨hb, 0, none⟩)] w fun e w' => e = .returned (.tuple #[.int .i64 0, .int .i64 0, .int .i64 4]) ∧ w = w' := by
  rcases h with ⟨rfl, _, hh⟩ | ⟨lb, mb, cap, l, m, rfl, hin, ha⟩
  · exact pop_empty hh
  · have : l.length = 0 := ha.perm.length_eq
    have hh := hin.head
    rw [this] at hh
    exact pop_empty hh
theorem pop_at {w : World} {hb : Nat} {fp : List Nat} {x : It} {S : List It} (h : HeapAt w hb fp (x :: S)) (hsmall : (x :: S).length ≤ 1099511627776) :
    Calls Try.prog 7 #[.pointer (some ⟨hb, 0, none⟩)] w fun e w' => e = .returned (.tuple #[.int .i64 x.1, .int .i64 x.2, .int .i64 0]) ∧ HeapAt w' hb fp S ∧ Upd (· ∈ fp) w w' := by
  rcases h with ⟨rfl, e, _⟩ | ⟨lb, mb, cap, l, m, rfl, hin, ha⟩
  · cases e
  · obtain ⟨h0, hg⟩ := ha.top
    have hlen : l.length ≤ 1099511627776 := by rw [ha.perm.length_eq]; exact hsmall
    refine (pop_any hin h0 hlen).mono ?_
    rintro e w' ⟨rfl, hr, hu⟩
    refine ⟨by rw [hg], .inr ⟨lb, mb, cap, _, _, rfl, hr, ?_⟩, hu.mono fun k _ e => by simpa using e⟩
    unfold popL
    by_cases h1 : l.length = 1
    · rw [if_pos h1, hg]
      obtain ⟨rfl, hab⟩ := pop_one ha h1
      exact hab
    · rw [if_neg h1, hg]
      exact pop_more ha (by omega)
theorem key_at {w : World} {hb : Nat} {fp : List Nat} {S : List It} (h : HeapAt w hb fp S) {x : It} (hx : x ∈ S) :
    Calls Try.prog 11 #[.pointer (some ⟨hb, 0, none⟩), .int .i64 x.1] w fun e w' => e = .returned (.tuple #[.int .i64 x.2, .bool true]) ∧ w = w' := by
  have hw := h.wf x hx
  rcases h with ⟨rfl, rfl, _⟩ | ⟨lb, mb, cap, l, m, rfl, hin, ha⟩
  · simp at hx
  · obtain ⟨j, hj, hg⟩ := mem_g (ha.perm.mem_iff.2 hx)
    have hm := ha.con.1 j hj
    rw [hg] at hm
    have := key_some hin hw.1 hm hj
    rw [hg] at this
    exact this
theorem key_at_none {w : World} {hb : Nat} {fp : List Nat} {S : List It} (h : HeapAt w hb fp S) {id : Int} (hw : (Lit.int .i64 id).wf = true) (hn : ∀ y ∈ S, y.1 ≠ id) :
    Calls Try.prog 11 #[.pointer (some ⟨hb, 0, none⟩), .int .i64 id] w fun e w' => e = .returned (.tuple #[.int .i64 0, .bool false]) ∧ w = w' := by
  rcases h with ⟨rfl, rfl, hh⟩ | ⟨lb, mb, cap, l, m, rfl, hin, ha⟩
  · exact key_empty hh hw
  · refine key_none hin hw ?_
    cases hm : m id with
    | none => rfl
    | some j =>
      obtain ⟨_, hg, hS⟩ := ha.some hm
      exact absurd hg (hn _ hS)
end Go.Proofs.Ytkdpfbefdhjmcaa
