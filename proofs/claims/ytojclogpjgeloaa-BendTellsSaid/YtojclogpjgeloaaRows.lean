/-
  No cell of these rows narrows 'for every input' (looked for: loops, veiled, ifaces, maps, wideKeys, modest, calm, conditions, laid).
  DERIVED. THE GIVEN ROWS OF THIS SEAT. 8 by the template 'for every input the law returns true; each argument reads behind the call as it read before'; 0 by the template 'total and deterministic' (their statements: YtojclogpjgeloaaTotals.lean).
  GIVEN WITH THE SEED: the statements are not yours to turn. If you find one false, say at which input.
  Laid BY PROGRAM, IN A SANDBOX (cutbox-rows.mjs): the forced cells as the released guide's own fill.sh prints them over the translation 51725a1faf2e0346… (all of the seat's roots in one cut). By AI agents, Wed Nov 11 2026. No macro, syntax, notation, axiom, sorry.
-/
import Derived.Test.YtojclogpjgeloaaChecked
import GoSem.Claim
import GoSem.ClaimJoined
import GoSem.ClaimMapViews
import Derived.JoinedTies
import Derived.KernelRfl
namespace Go.Proofs.Ytojclogpjgeloaa
/- THE CELL 'sum', in the pinned program and in every row, IS THE sha256 OF THE DUMP (.gsa) THAT YtojclogpjgeloaaProg.lean LOADS. Nothing in Lean hashes anything: it is a label: what it is worth is what the hold of that sum in a sandbox is worth. -/
noncomputable def Try.pinned : Pinned := { name := "ytojclogpjgeloaa", sum := "51725a1faf2e0346fc86f53fd7f3b18b73e0bded3445addfb74818214f7d8647", checked := Try.checked }
namespace Rows
def none {H : Type} : Left H := { results := [], args := [] }

/-- 'milepostlaw9.BendMirrors': WHATEVER THE INPUT: true; the input reads as it did. -/
def bendMirrorsSpec : ChangeSpec := { name := "bendMirrors", fn := fun _ => fun
  | [d1, d2, d3, d4, d5] => { results := [.lit (.bool true)], args := [d1, d2, d3, d4, d5] }
  | _ => none }
def bendMirrorsRow : OpenClaim := { program := "ytojclogpjgeloaa", sum := "51725a1faf2e0346fc86f53fd7f3b18b73e0bded3445addfb74818214f7d8647", func := "milepost/milepostlaw9.BendMirrors", spec := "bendMirrors", apart := false }
def BendMirrorsSaid : Prop := bendMirrorsRow.holds Try.pinned (OpenSpec.ofChange bendMirrorsSpec)

/-- ITS FALSE NEIGHBOUR: 'it returns false'. Refute it at one input. -/
def bendMirrorsWrong : ChangeSpec := { name := "bendMirrors", fn := fun _ => fun
  | [d1, d2, d3, d4, d5] => { results := [.lit (.bool false)], args := [d1, d2, d3, d4, d5] }
  | _ => none }
def BendMirrorsWrongFalsely : Prop := bendMirrorsRow.holds Try.pinned (OpenSpec.ofChange bendMirrorsWrong)

/-- 'milepostlaw9.BendBack': WHATEVER THE INPUT: true; the input reads as it did. -/
def bendBackSpec : ChangeSpec := { name := "bendBack", fn := fun _ => fun
  | [d1, d2, d3, d4] => { results := [.lit (.bool true)], args := [d1, d2, d3, d4] }
  | _ => none }
def bendBackRow : OpenClaim := { program := "ytojclogpjgeloaa", sum := "51725a1faf2e0346fc86f53fd7f3b18b73e0bded3445addfb74818214f7d8647", func := "milepost/milepostlaw9.BendBack", spec := "bendBack", apart := false }
def BendBackSaid : Prop := bendBackRow.holds Try.pinned (OpenSpec.ofChange bendBackSpec)

/-- ITS FALSE NEIGHBOUR: 'it returns false'. Refute it at one input. -/
def bendBackWrong : ChangeSpec := { name := "bendBack", fn := fun _ => fun
  | [d1, d2, d3, d4] => { results := [.lit (.bool false)], args := [d1, d2, d3, d4] }
  | _ => none }
def BendBackWrongFalsely : Prop := bendBackRow.holds Try.pinned (OpenSpec.ofChange bendBackWrong)

/-- 'milepostlaw9.BendSides': WHATEVER THE INPUT: true; the input reads as it did. -/
def bendSidesSpec : ChangeSpec := { name := "bendSides", fn := fun _ => fun
  | [d1, d2, d3, d4] => { results := [.lit (.bool true)], args := [d1, d2, d3, d4] }
  | _ => none }
def bendSidesRow : OpenClaim := { program := "ytojclogpjgeloaa", sum := "51725a1faf2e0346fc86f53fd7f3b18b73e0bded3445addfb74818214f7d8647", func := "milepost/milepostlaw9.BendSides", spec := "bendSides", apart := false }
def BendSidesSaid : Prop := bendSidesRow.holds Try.pinned (OpenSpec.ofChange bendSidesSpec)

/-- ITS FALSE NEIGHBOUR: 'it returns false'. Refute it at one input. -/
def bendSidesWrong : ChangeSpec := { name := "bendSides", fn := fun _ => fun
  | [d1, d2, d3, d4] => { results := [.lit (.bool false)], args := [d1, d2, d3, d4] }
  | _ => none }
def BendSidesWrongFalsely : Prop := bendSidesRow.holds Try.pinned (OpenSpec.ofChange bendSidesWrong)

/-- 'milepostlaw4.HeapActs': WHATEVER THE INPUT: true; the input reads as it did. -/
def heapActsSpec : ChangeSpec := { name := "heapActs", fn := fun _ => fun
  | [d] => { results := [.lit (.bool true)], args := [d] }
  | _ => none }
def heapActsRow : OpenClaim := { program := "ytojclogpjgeloaa", sum := "51725a1faf2e0346fc86f53fd7f3b18b73e0bded3445addfb74818214f7d8647", func := "milepost/milepostlaw4.HeapActs", spec := "heapActs", apart := false }
def HeapActsSaid : Prop := heapActsRow.holds Try.pinned (OpenSpec.ofChange heapActsSpec)

/-- ITS FALSE NEIGHBOUR: 'it returns false'. Refute it at one input. -/
def heapActsWrong : ChangeSpec := { name := "heapActs", fn := fun _ => fun
  | [d] => { results := [.lit (.bool false)], args := [d] }
  | _ => none }
def HeapActsWrongFalsely : Prop := heapActsRow.holds Try.pinned (OpenSpec.ofChange heapActsWrong)

/-- 'milepostlaw4.HeapSorts': WHATEVER THE INPUT: true; the input reads as it did. -/
def heapSortsSpec : ChangeSpec := { name := "heapSorts", fn := fun _ => fun
  | [d] => { results := [.lit (.bool true)], args := [d] }
  | _ => none }
def heapSortsRow : OpenClaim := { program := "ytojclogpjgeloaa", sum := "51725a1faf2e0346fc86f53fd7f3b18b73e0bded3445addfb74818214f7d8647", func := "milepost/milepostlaw4.HeapSorts", spec := "heapSorts", apart := false }
def HeapSortsSaid : Prop := heapSortsRow.holds Try.pinned (OpenSpec.ofChange heapSortsSpec)

/-- ITS FALSE NEIGHBOUR: 'it returns false'. Refute it at one input. -/
def heapSortsWrong : ChangeSpec := { name := "heapSorts", fn := fun _ => fun
  | [d] => { results := [.lit (.bool false)], args := [d] }
  | _ => none }
def HeapSortsWrongFalsely : Prop := heapSortsRow.holds Try.pinned (OpenSpec.ofChange heapSortsWrong)

/-- 'milepostlaw4.HeapLowers': WHATEVER THE INPUT: true; the input reads as it did. -/
def heapLowersSpec : ChangeSpec := { name := "heapLowers", fn := fun _ => fun
  | [d1, d2, d3] => { results := [.lit (.bool true)], args := [d1, d2, d3] }
  | _ => none }
def heapLowersRow : OpenClaim := { program := "ytojclogpjgeloaa", sum := "51725a1faf2e0346fc86f53fd7f3b18b73e0bded3445addfb74818214f7d8647", func := "milepost/milepostlaw4.HeapLowers", spec := "heapLowers", apart := false }
def HeapLowersSaid : Prop := heapLowersRow.holds Try.pinned (OpenSpec.ofChange heapLowersSpec)

/-- ITS FALSE NEIGHBOUR: 'it returns false'. Refute it at one input. -/
def heapLowersWrong : ChangeSpec := { name := "heapLowers", fn := fun _ => fun
  | [d1, d2, d3] => { results := [.lit (.bool false)], args := [d1, d2, d3] }
  | _ => none }
def HeapLowersWrongFalsely : Prop := heapLowersRow.holds Try.pinned (OpenSpec.ofChange heapLowersWrong)

/-- 'milepostlaw4.HeapHalves': WHATEVER THE INPUT: true; the input reads as it did. -/
def heapHalvesSpec : ChangeSpec := { name := "heapHalves", fn := fun _ => fun
  | [d1, d2, d3] => { results := [.lit (.bool true)], args := [d1, d2, d3] }
  | _ => none }
def heapHalvesRow : OpenClaim := { program := "ytojclogpjgeloaa", sum := "51725a1faf2e0346fc86f53fd7f3b18b73e0bded3445addfb74818214f7d8647", func := "milepost/milepostlaw4.HeapHalves", spec := "heapHalves", apart := false }
def HeapHalvesSaid : Prop := heapHalvesRow.holds Try.pinned (OpenSpec.ofChange heapHalvesSpec)

/-- ITS FALSE NEIGHBOUR: 'it returns false'. Refute it at one input. -/
def heapHalvesWrong : ChangeSpec := { name := "heapHalves", fn := fun _ => fun
  | [d1, d2, d3] => { results := [.lit (.bool false)], args := [d1, d2, d3] }
  | _ => none }
def HeapHalvesWrongFalsely : Prop := heapHalvesRow.holds Try.pinned (OpenSpec.ofChange heapHalvesWrong)

/-- 'milepostlaw9.BendTells': WHATEVER THE INPUT: true; the input reads as it did. -/
def bendTellsSpec : ChangeSpec := { name := "bendTells", fn := fun _ => fun
  | [d1, d2, d3, d4, d5, d6, d7, d8] => { results := [.lit (.bool true)], args := [d1, d2, d3, d4, d5, d6, d7, d8] }
  | _ => none }
def bendTellsRow : OpenClaim := { program := "ytojclogpjgeloaa", sum := "51725a1faf2e0346fc86f53fd7f3b18b73e0bded3445addfb74818214f7d8647", func := "milepost/milepostlaw9.BendTells", spec := "bendTells", unfollowed := true, recurses := true, apart := false }
def BendTellsSaid : Prop := bendTellsRow.holds Try.pinned (OpenSpec.ofChange bendTellsSpec)

/-- ITS FALSE NEIGHBOUR: 'it returns false'. Refute it at one input. -/
def bendTellsWrong : ChangeSpec := { name := "bendTells", fn := fun _ => fun
  | [d1, d2, d3, d4, d5, d6, d7, d8] => { results := [.lit (.bool false)], args := [d1, d2, d3, d4, d5, d6, d7, d8] }
  | _ => none }
def BendTellsWrongFalsely : Prop := bendTellsRow.holds Try.pinned (OpenSpec.ofChange bendTellsWrong)

/- THE SECOND FORM. 'bulk': how many values and letters a reading holds, each counted each time it is reached (what is shared counts as often as it is met; a slice's spare places count too). A statement '..UptoSaid' is the law's where the arguments, and the package variables that the reading takes, are together of bulk at most 1048576: NARROWER than '..Said'. Prove '..Said' where nothing that the law and all that it calls make is longer than what came in: it says more and counts as full. Else prove '..UptoSaid'. A law counts once. -/
mutual
def uptoBulk {H : Type} : DataW H → Nat
  | .lit (.string bytes) => bytes.length + 1
  | .lit _ => 1
  | .nil => 1
  | .ptr d => uptoBulk d + 1
  | .slice elems spare => uptoBulkAll elems + uptoBulkAll spare + 1
  | .agg parts => uptoBulkAll parts + 1
  | .iface _ d => uptoBulk d + 1
  | .map entries => uptoBulkEntries entries + 1
  | .held _ => 1
def uptoBulkAll {H : Type} : List (DataW H) → Nat
  | [] => 0
  | d :: r => uptoBulk d + uptoBulkAll r
def uptoBulkEntries {H : Type} : List (Lit × DataW H) → Nat
  | [] => 0
  | x :: r => uptoBulkEntry x + uptoBulkEntries r
def uptoBulkEntry {H : Type} : Lit × DataW H → Nat
  | (.string bytes, d) => bytes.length + uptoBulk d + 1
  | (_, d) => uptoBulk d + 1
 end
def uptoSmall : (H : Type) → List (DataW H) → Bool := fun _ ds => decide (uptoBulkAll ds ≤ 1048576)
def OpenSpec.upto (s : _root_.Go.ChangeSpec) : _root_.Go.OpenSpec := { _root_.Go.OpenSpec.ofChange s with cond := some uptoSmall }

/-- 'milepostlaw9.BendMirrors', WHERE WHAT IT READS IS OF BULK AT MOST 1048576: true; the input reads as it did. -/
def bendMirrorsUptoRow : OpenClaim := { program := "ytojclogpjgeloaa", sum := "51725a1faf2e0346fc86f53fd7f3b18b73e0bded3445addfb74818214f7d8647", func := "milepost/milepostlaw9.BendMirrors", spec := "bendMirrors", apart := false, narrowed := true }
def BendMirrorsUptoSaid : Prop := bendMirrorsUptoRow.holds Try.pinned (OpenSpec.upto bendMirrorsSpec)

/-- 'milepostlaw9.BendBack', WHERE WHAT IT READS IS OF BULK AT MOST 1048576: true; the input reads as it did. -/
def bendBackUptoRow : OpenClaim := { program := "ytojclogpjgeloaa", sum := "51725a1faf2e0346fc86f53fd7f3b18b73e0bded3445addfb74818214f7d8647", func := "milepost/milepostlaw9.BendBack", spec := "bendBack", apart := false, narrowed := true }
def BendBackUptoSaid : Prop := bendBackUptoRow.holds Try.pinned (OpenSpec.upto bendBackSpec)

/-- 'milepostlaw9.BendSides', WHERE WHAT IT READS IS OF BULK AT MOST 1048576: true; the input reads as it did. -/
def bendSidesUptoRow : OpenClaim := { program := "ytojclogpjgeloaa", sum := "51725a1faf2e0346fc86f53fd7f3b18b73e0bded3445addfb74818214f7d8647", func := "milepost/milepostlaw9.BendSides", spec := "bendSides", apart := false, narrowed := true }
def BendSidesUptoSaid : Prop := bendSidesUptoRow.holds Try.pinned (OpenSpec.upto bendSidesSpec)

/-- 'milepostlaw4.HeapActs', WHERE WHAT IT READS IS OF BULK AT MOST 1048576: true; the input reads as it did. -/
def heapActsUptoRow : OpenClaim := { program := "ytojclogpjgeloaa", sum := "51725a1faf2e0346fc86f53fd7f3b18b73e0bded3445addfb74818214f7d8647", func := "milepost/milepostlaw4.HeapActs", spec := "heapActs", apart := false, narrowed := true }
def HeapActsUptoSaid : Prop := heapActsUptoRow.holds Try.pinned (OpenSpec.upto heapActsSpec)

/-- 'milepostlaw4.HeapSorts', WHERE WHAT IT READS IS OF BULK AT MOST 1048576: true; the input reads as it did. -/
def heapSortsUptoRow : OpenClaim := { program := "ytojclogpjgeloaa", sum := "51725a1faf2e0346fc86f53fd7f3b18b73e0bded3445addfb74818214f7d8647", func := "milepost/milepostlaw4.HeapSorts", spec := "heapSorts", apart := false, narrowed := true }
def HeapSortsUptoSaid : Prop := heapSortsUptoRow.holds Try.pinned (OpenSpec.upto heapSortsSpec)

/-- 'milepostlaw4.HeapLowers', WHERE WHAT IT READS IS OF BULK AT MOST 1048576: true; the input reads as it did. -/
def heapLowersUptoRow : OpenClaim := { program := "ytojclogpjgeloaa", sum := "51725a1faf2e0346fc86f53fd7f3b18b73e0bded3445addfb74818214f7d8647", func := "milepost/milepostlaw4.HeapLowers", spec := "heapLowers", apart := false, narrowed := true }
def HeapLowersUptoSaid : Prop := heapLowersUptoRow.holds Try.pinned (OpenSpec.upto heapLowersSpec)

/-- 'milepostlaw4.HeapHalves', WHERE WHAT IT READS IS OF BULK AT MOST 1048576: true; the input reads as it did. -/
def heapHalvesUptoRow : OpenClaim := { program := "ytojclogpjgeloaa", sum := "51725a1faf2e0346fc86f53fd7f3b18b73e0bded3445addfb74818214f7d8647", func := "milepost/milepostlaw4.HeapHalves", spec := "heapHalves", apart := false, narrowed := true }
def HeapHalvesUptoSaid : Prop := heapHalvesUptoRow.holds Try.pinned (OpenSpec.upto heapHalvesSpec)

/-- 'milepostlaw9.BendTells', WHERE WHAT IT READS IS OF BULK AT MOST 1048576: true; the input reads as it did. -/
def bendTellsUptoRow : OpenClaim := { program := "ytojclogpjgeloaa", sum := "51725a1faf2e0346fc86f53fd7f3b18b73e0bded3445addfb74818214f7d8647", func := "milepost/milepostlaw9.BendTells", spec := "bendTells", unfollowed := true, recurses := true, apart := false, narrowed := true }
def BendTellsUptoSaid : Prop := bendTellsUptoRow.holds Try.pinned (OpenSpec.upto bendTellsSpec)

end Rows
end Go.Proofs.Ytojclogpjgeloaa
