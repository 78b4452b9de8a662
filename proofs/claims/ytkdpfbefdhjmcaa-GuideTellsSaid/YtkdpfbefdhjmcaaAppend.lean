/- append onto a row of the call's own, of cells that lie anywhere, or of none. -/
import Derived.Test.YtkdpfbefdhjmcaaGRows
import Derived.Maps.AppendAt
import Derived.Deep.AppendLies
import Derived.Deep.RegionHeld3
set_option linter.unusedVariables false
set_option linter.unusedSimpArgs false
namespace Go.Proofs.Ytkdpfbefdhjmcaa
open Go.ChangeShapes Go.WideShapes Go.ChangeAt Go.RowKit
/-- m elements lie at A: none where nothing is there -/
structure Src (w : World) (size : Nat) (A : Option Addr) (m : Nat) (news : List Value) : Prop where
  len : news.length = m * size
  one : ∀ u ∈ news, u.oneCell' = true
  at_ : ∀ ad, A = some ad → ∀ j u, news[j]? = some u → w.cell? (ad.add j) = some u
  none_ : A = none → m = 0
theorem Src.below {w w' : World} {size m : Nat} {A : Option Addr} {news : List Value} (h : Src w size A m news) (hb : Below w.heap.size w w') : Src w' size A m news :=
  ⟨h.len, h.one, fun ad hA j u hu => (hb.cell (World.block_lt_of_cell? _ _ (h.at_ ad hA j u hu))).trans (h.at_ ad hA j u hu), h.none_⟩
theorem Src.ofI {w : World} {A : Option Addr} {n c : Nat} {xs : List Int} (h : ReadsI w A n c xs) : Src w 1 A n (flatI xs) :=
  ⟨by rw [flatI_len, h.len], flat_oneflatI xs, h.flat, fun e => by rcases Nat.eq_zero_or_pos n with h0 | h0; exact h0; obtain ⟨b, o, e2, _⟩ := h.cell h0; rw [e] at e2; cases e2⟩
theorem Src.ofP {w : World} {A : Option Addr} {n c : Nat} {xs : List (Int × Int)} (h : ReadsP w A n c xs) : Src w 2 A n (flat2 xs) :=
  ⟨by rw [flat2_len, h.len], flat_oneflat2 xs, h.flat, fun e => by rcases Nat.eq_zero_or_pos n with h0 | h0; exact h0; obtain ⟨b, o, e2, _⟩ := h.cell h0; rw [e] at e2; cases e2⟩
theorem Src.ofT {w : World} {A : Option Addr} {n c : Nat} {xs : List (Int × Int × Int)} (h : ReadsT w A n c xs) : Src w 3 A n (flat3 xs) :=
  ⟨by rw [flat3_len, h.len], flat_oneflat3 xs, h.flat, fun e => by rcases Nat.eq_zero_or_pos n with h0 | h0; exact h0; obtain ⟨b, o, e2, _⟩ := h.cell h0; rw [e] at e2; cases e2⟩
/-- one element in a block that was just laid -/
theorem Src.new {w : World} {vs : Array Value} {t : TypeId} (h1 : ∀ u ∈ vs.toList, u.oneCell' = true) {size : Nat} (hs : vs.size = 1 * size) : Src (w.alloc (.cells vs t)) size (some ⟨w.heap.size, 0, none⟩) 1 vs.toList := by
  refine ⟨by simpa using hs, h1, fun ad hA j u hu => ?_, fun e => by cases e⟩
  injection hA with hA
  subst hA
  rw [Addr.add_lit, Nat.zero_add]
  exact block_cell_new w vs t j u (by simpa using hu)
where
  block_cell_new (w : World) (vs : Array Value) (t : TypeId) (j : Nat) (u : Value) (hu : vs[j]? = some u) : (w.alloc (.cells vs t)).cell? ⟨w.heap.size, j, none⟩ = some u := by
    have h : (w.alloc (.cells vs t)).heap[w.heap.size]? = some (.cells vs t) := by show (w.heap.push _)[w.heap.size]? = _; simp
    unfold World.cell?
    simp only [h]
    exact hu
theorem run_push_none (w : World) {base : Nat} {t ty e : TypeId} {i : TypeInfo} {size : Nat} (ht : Try.prog.underlying t = some (.slice e)) (hi : Try.prog.info? e = some i) {v : Value} {n : Nat} {xs : List Value} (hown : w.ownsRow base e size v n xs) (c : Nat) :
    (Builtin.append_ #[t, t] ty #[v, .slice none 0 c]).run Try.prog w = .ok v w := by
  rcases hown.2 with ⟨rfl, _⟩ | ⟨g, cap, cur, rfl, _, _, hle, _⟩ <;> simp [Builtin.append_, run_underlying ht, sizeOf, typeInfo, hi, Builtin.lenOf, Builtin.firstCells, storeCells, *]
/-- what an append leaves: the row is longer; it lies where it lay, or in the block that was just made -/
structure Grown (w w' : World) (base : Nat) (e : TypeId) (size : Nat) (v v' : Value) (n : Nat) (xs : List Value) : Prop where
  row : w'.ownsRow base e size v' n xs
  by_ : w.grownBy w' v.ownBlock
  lies : v'.ownBlock = v.ownBlock ∨ v'.ownBlock = some w.heap.size
theorem run_push (w : World) {base : Nat} {t : TypeId} (ty : TypeId) {e : TypeId} {i : TypeInfo} {z : Value} {size bytes : Nat} (ht : Try.prog.underlying t = some (.slice e)) (hI : Try.prog.info? e = some i ∧ i.zero = some z ∧ i.size = size ∧ i.bytes = bytes)
    (hzs : z.cells.size = size ∧ 0 < size) {v : Value} {n : Nat} {xs : List Value} (hown : w.ownsRow base e size v n xs) {A : Option Addr} {m : Nat} (c : Nat) {news : List Value} (hs : Src w size A m news)
    (hsm : n + m ≤ maxLen ∧ (n + m) * bytes ≤ 140737488355328) (hbase : base ≤ w.heap.size) :
    ∃ v' w', (Builtin.append_ #[t, t] ty #[v, .slice A m c]).run Try.prog w = .ok v' w' ∧ Grown w w' base e size v v' (n + m) (xs ++ news) := by
  cases A with
  | none =>
    obtain rfl := hs.none_ rfl
    obtain rfl : news = [] := List.eq_nil_of_length_eq_zero (by have := hs.len; omega)
    exact ⟨v, w, run_push_none w ht hI.1 hown c, by rw [List.append_nil]; exact hown, World.grownBy.refl _ _, .inl rfl⟩
  | some ad =>
    obtain ⟨v', w', h1, h2, h3, _, h5⟩ := run_append_own_at (P := Try.prog) w base t ty e i z size bytes ht hI.1 hI.2.1 hI.2.2.1 hI.2.2.2 hzs.1 hzs.2 v n xs hown ad m c news hs.len (hs.at_ ad rfl) hs.one hsm.1 hsm.2 hbase
    exact ⟨v', w', h1, h2, h3, h5⟩
theorem wp_builtin {o : Oper} {a : Act} {w w' : World} {v v' : Value} {K : Act → World → Prop} {Q : Exit → Act → World → Prop} (s x : Operand) (t : TypeId) {y : Value} (ho : o.op = .call { callee := .builtin .append, args := #[s, x], argTypes := #[t, t] })
    (hs : a.eval s = v) (hx : a.eval x = y) (hrun : (Builtin.append_ #[t, t] o.type #[v, y]).run Try.prog w = .ok v' w') (h : K (a.put o.dst v') w') : o.wp Try.prog a w K Q := by
  subst hs hx
  unfold Oper.wp execOp
  simp only [ho, resolve, invoke, builtin, Sem.run_bind, Sem.run_pure, Result.andThen_ok, List.map_toArray, List.map_cons, List.map_nil, hrun]
  exact h
theorem wpList_push {ops : Array Oper} {rest : List Oper} {o : Oper} {a : Act} {w : World} {Q : Exit → Act → World → Prop} (hg : o.guard = none) (s x : Operand) (t : TypeId) (ho : o.op = .call { callee := .builtin .append, args := #[s, x], argTypes := #[t, t] })
    (base : Nat) (e : TypeId) {i : TypeInfo} {z : Value} {size bytes : Nat} (ht : Try.prog.underlying t = some (.slice e)) (hI : Try.prog.info? e = some i ∧ i.zero = some z ∧ i.size = size ∧ i.bytes = bytes) (hzs : z.cells.size = size ∧ 0 < size)
    (v : Value) (n : Nat) (xs : List Value) (hs : a.eval s = v) (hown : w.ownsRow base e size v n xs) (A : Option Addr) (m c : Nat) (news : List Value) (hx : a.eval x = .slice A m c) (hsrc : Src w size A m news)
    (hsm : n + m ≤ maxLen ∧ (n + m) * bytes ≤ 140737488355328) (hbase : base ≤ w.heap.size)
    (h : ∀ v' w', Grown w w' base e size v v' (n + m) (xs ++ news) → wpList Try.prog ops Q rest (a.put o.dst v') w') : wpList Try.prog ops Q (o :: rest) a w := by
  obtain ⟨v', w', hrun, hgr⟩ := run_push w o.type ht hI hzs hown c hsrc hsm hbase
  exact wpList_plain hg fun K hK => wp_builtin s x t ho hs hx hrun (hK _ _ (h v' w' hgr))
theorem step_push {ops : Array Oper} {o : Oper} {a : Act} {w : World} {K : Act → World → Prop} {Q : Exit → Act → World → Prop} {E : Prop} (hg : o.guard = none) (s x : Operand) (t : TypeId) (ho : o.op = .call { callee := .builtin .append, args := #[s, x], argTypes := #[t, t] })
    (base : Nat) (e : TypeId) {i : TypeInfo} {z : Value} {size bytes : Nat} (ht : Try.prog.underlying t = some (.slice e)) (hI : Try.prog.info? e = some i ∧ i.zero = some z ∧ i.size = size ∧ i.bytes = bytes) (hzs : z.cells.size = size ∧ 0 < size)
    (v : Value) (n : Nat) (xs : List Value) (hs : a.eval s = v) (hown : w.ownsRow base e size v n xs) (A : Option Addr) (m c : Nat) (news : List Value) (hx : a.eval x = .slice A m c) (hsrc : Src w size A m news)
    (hsm : n + m ≤ maxLen ∧ (n + m) * bytes ≤ 140737488355328) (hbase : base ≤ w.heap.size)
    (h : ∀ v' w', Grown w w' base e size v v' (n + m) (xs ++ news) → K (a.put o.dst v') w') : if Region.wanted o (yielded ops a.tmps) = true then Oper.wp Try.prog o a w K Q else E := by
  rw [if_pos (by simp [Region.wanted, hg])]
  obtain ⟨v', w', hrun, hgr⟩ := run_push w o.type ht hI hzs hown c hsrc hsm hbase
  exact wp_builtin s x t ho hs hx hrun (h v' w' hgr)
theorem step_pushG {ops : Array Oper} {o : Oper} {a : Act} {w : World} {K : Act → World → Prop} {Q : Exit → Act → World → Prop} {E : Prop} (hg : Region.wanted o (yielded ops a.tmps) = true) (s x : Operand) (t : TypeId) (ho : o.op = .call { callee := .builtin .append, args := #[s, x], argTypes := #[t, t] })
    (base : Nat) (e : TypeId) {i : TypeInfo} {z : Value} {size bytes : Nat} (ht : Try.prog.underlying t = some (.slice e)) (hI : Try.prog.info? e = some i ∧ i.zero = some z ∧ i.size = size ∧ i.bytes = bytes) (hzs : z.cells.size = size ∧ 0 < size)
    (v : Value) (n : Nat) (xs : List Value) (hs : a.eval s = v) (hown : w.ownsRow base e size v n xs) (A : Option Addr) (m c : Nat) (news : List Value) (hx : a.eval x = .slice A m c) (hsrc : Src w size A m news)
    (hsm : n + m ≤ maxLen ∧ (n + m) * bytes ≤ 140737488355328) (hbase : base ≤ w.heap.size)
    (h : ∀ v' w', Grown w w' base e size v v' (n + m) (xs ++ news) → K (a.put o.dst v') w') : if Region.wanted o (yielded ops a.tmps) = true then Oper.wp Try.prog o a w K Q else E := by
  rw [if_pos hg]
  obtain ⟨v', w', hrun, hgr⟩ := run_push w o.type ht hI hzs hown c hsrc hsm hbase
  exact wp_builtin s x t ho hs hx hrun (h v' w' hgr)
/-- the new value, written out -/
theorem Grown.val {w w' : World} {base : Nat} {e : TypeId} {size : Nat} {v v' : Value} {n : Nat} {xs : List Value} (h : Grown w w' base e size v v' n xs) : ∃ A c, v' = .slice A n c := by
  rcases h.row.2 with ⟨rfl, h0⟩ | ⟨g, cap, cur, rfl, _⟩
  · subst h0; exact ⟨none, 0, rfl⟩
  · exact ⟨_, _, rfl⟩
theorem Grown.below {w w' : World} {B base : Nat} {e : TypeId} {size : Nat} {v v' : Value} {n : Nat} {xs : List Value} (h : Grown w w' base e size v v' n xs) (hB : B ≤ w.heap.size) (hv : ∀ b, v.ownBlock = some b → B ≤ b) : Below B w w' :=
  (Below.refl _ _).grown h.by_ hB fun k hk => hv k hk
theorem own_upd {F : Nat → Prop} {w w' : World} {base : Nat} {e : TypeId} {size : Nat} {v : Value} {n : Nat} {xs : List Value} (h : w.ownsRow base e size v n xs) (hu : Upd F w w') (hF : ∀ b, v.ownBlock = some b → ¬ F b) : w'.ownsRow base e size v n xs := by
  refine ⟨h.1, h.2.imp id ?_⟩
  rintro ⟨g, c, cur, rfl, hb, hg, r⟩
  have hlt : g < w.heap.size := by
    rcases Nat.lt_or_ge g w.heap.size with h1 | h1
    · exact h1
    · rw [Array.getElem?_eq_none h1] at hg; cases hg
  exact ⟨g, c, cur, rfl, hb, by rw [hu.block g hlt (hF g rfl)]; exact hg, r⟩
theorem Src.grown {w w' : World} {size m : Nat} {A : Option Addr} {news : List Value} {row : Option Nat} (h : Src w size A m news) (hg : w.grownBy w' row) (hne : ∀ ad, A = some ad → row ≠ some ad.block) : Src w' size A m news := by
  refine ⟨h.len, h.one, fun ad hA j u hu => ?_, h.none_⟩
  have h0 := h.at_ ad hA j u hu
  have hb : (ad.add j).block = ad.block := by unfold Addr.add; split <;> rfl
  have hlt := World.block_lt_of_cell? _ _ h0
  rw [hb] at hlt
  exact (World.cell?_of_block (a := ad.add j) (by rw [hb]; exact hg.block _ hlt (fun e => hne ad hA e.symm))).trans h0
theorem own_form {w : World} {B : Nat} {e : TypeId} {s n : Nat} {v : Value} {vs : List Value} (h : w.ownsRow B e s v n vs) : ∃ A c, v = .slice A n c := by
  rcases h.2 with ⟨h0, h1⟩ | ⟨g, c, cur, e1, _⟩
  · exact ⟨none, 0, by rw [h0, h1]⟩
  · exact ⟨_, c, e1⟩
theorem own_in {w : World} {B : Nat} {e : TypeId} {s n m c : Nat} {A : Option Addr} {vs : List Value} (h : w.ownsRow B e s (.slice A n c) m vs) : ∀ b o, A = some ⟨b, o, none⟩ → B ≤ b ∧ b < w.heap.size := by
  intro b o e2
  subst e2
  exact World.ownsRow.lt h b rfl
/-- an empty row that was just laid -/
theorem own_empty (w : World) (e : TypeId) (size : Nat) : (w.alloc (.cells #[] e)).ownsRow w.heap.size e size (.slice (some ⟨w.heap.size, 0, none⟩) 0 0) 0 [] := by
  refine ⟨by simp, .inr ⟨w.heap.size, 0, #[], rfl, Nat.le_refl _, ?_, Nat.le_refl _, by unfold maxLen; omega, by simp, by simp⟩⟩
  show (w.heap.push _)[w.heap.size]? = _; simp
theorem info1 : ∃ i, Try.prog.info? 3 = some i ∧ i.zero = some (.int .i64 0) ∧ i.size = 1 ∧ i.bytes = 8 := info_parts infoInt
theorem info2 : ∃ i, Try.prog.info? 69 = some i ∧ i.zero = some (.agg #[.int .i64 0, .int .i64 0]) ∧ i.size = 2 ∧ i.bytes = 16 := info_parts infoBan
theorem info3 : ∃ i, Try.prog.info? 63 = some i ∧ i.zero = some (.agg #[.int .i64 0, .int .i64 0, .int .i64 0]) ∧ i.size = 3 ∧ i.bytes = 24 := info_parts infoEdge
end Go.Proofs.Ytkdpfbefdhjmcaa
