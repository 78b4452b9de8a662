/-
  No cell of these rows narrows 'for every input' (looked for: loops, veiled, ifaces, maps, wideKeys, modest, calm, conditions, laid).
  DERIVED. THE GIVEN ROWS OF THIS SEAT. 9 by the template 'for every input the law returns true; each argument reads behind the call as it read before'; 0 by the template 'total and deterministic' (their statements: YtjcaoejodjmmkaaTotals.lean).
  GIVEN WITH THE SEED: the statements are not yours to turn. If you find one false, say at which input.
  Laid BY PROGRAM, IN A SANDBOX (cutbox-rows.mjs): the forced cells as the released guide's own fill.sh prints them over the translation aa8b0fedd896cdf2… (all of the seat's roots in one cut). By AI agents, Wed Nov 11 2026. No macro, syntax, notation, axiom, sorry.
-/
import Derived.Test.YtjcaoejodjmmkaaChecked
import GoSem.Claim
import GoSem.ClaimJoined
import GoSem.ClaimMapViews
import Derived.JoinedTies
import Derived.KernelRfl
namespace Go.Proofs.Ytjcaoejodjmmkaa
/- THE CELL 'sum', in the pinned program and in every row, IS THE sha256 OF THE DUMP (.gsa) THAT YtjcaoejodjmmkaaProg.lean LOADS. Nothing in Lean hashes anything: it is a label: what it is worth is what the hold of that sum in a sandbox is worth. -/
noncomputable def Try.pinned : Pinned := { name := "ytjcaoejodjmmkaa", sum := "aa8b0fedd896cdf2c8867cc5776edea9d73a410c855c9c52a769f3ee923f5829", checked := Try.checked }
namespace Rows
def none {H : Type} : Left H := { results := [], args := [] }

/-- 'milepostlaw5.GraphRows': WHATEVER THE INPUT: true; the input reads as it did. -/
def graphRowsSpec : ChangeSpec := { name := "graphRows", fn := fun _ => fun
  | [d1, d2] => { results := [.lit (.bool true)], args := [d1, d2] }
  | _ => none }
def graphRowsRow : OpenClaim := { program := "ytjcaoejodjmmkaa", sum := "aa8b0fedd896cdf2c8867cc5776edea9d73a410c855c9c52a769f3ee923f5829", func := "milepost/milepostlaw5.GraphRows", spec := "graphRows", unfollowed := true, recurses := true, apart := false }
def GraphRowsSaid : Prop := graphRowsRow.holds Try.pinned (OpenSpec.ofChange graphRowsSpec)

/-- ITS FALSE NEIGHBOUR: 'it returns false'. Refute it at one input. -/
def graphRowsWrong : ChangeSpec := { name := "graphRows", fn := fun _ => fun
  | [d1, d2] => { results := [.lit (.bool false)], args := [d1, d2] }
  | _ => none }
def GraphRowsWrongFalsely : Prop := graphRowsRow.holds Try.pinned (OpenSpec.ofChange graphRowsWrong)

/-- 'milepostlaw5.GraphOrder': WHATEVER THE INPUT: true; the input reads as it did. -/
def graphOrderSpec : ChangeSpec := { name := "graphOrder", fn := fun _ => fun
  | [d1, d2, d3] => { results := [.lit (.bool true)], args := [d1, d2, d3] }
  | _ => none }
def graphOrderRow : OpenClaim := { program := "ytjcaoejodjmmkaa", sum := "aa8b0fedd896cdf2c8867cc5776edea9d73a410c855c9c52a769f3ee923f5829", func := "milepost/milepostlaw5.GraphOrder", spec := "graphOrder", unfollowed := true, recurses := true, apart := false }
def GraphOrderSaid : Prop := graphOrderRow.holds Try.pinned (OpenSpec.ofChange graphOrderSpec)

/-- ITS FALSE NEIGHBOUR: 'it returns false'. Refute it at one input. -/
def graphOrderWrong : ChangeSpec := { name := "graphOrder", fn := fun _ => fun
  | [d1, d2, d3] => { results := [.lit (.bool false)], args := [d1, d2, d3] }
  | _ => none }
def GraphOrderWrongFalsely : Prop := graphOrderRow.holds Try.pinned (OpenSpec.ofChange graphOrderWrong)

/-- 'milepostlaw5.GraphBans': WHATEVER THE INPUT: true; the input reads as it did. -/
def graphBansSpec : ChangeSpec := { name := "graphBans", fn := fun _ => fun
  | [d1, d2, d3] => { results := [.lit (.bool true)], args := [d1, d2, d3] }
  | _ => none }
def graphBansRow : OpenClaim := { program := "ytjcaoejodjmmkaa", sum := "aa8b0fedd896cdf2c8867cc5776edea9d73a410c855c9c52a769f3ee923f5829", func := "milepost/milepostlaw5.GraphBans", spec := "graphBans", unfollowed := true, recurses := true, apart := false }
def GraphBansSaid : Prop := graphBansRow.holds Try.pinned (OpenSpec.ofChange graphBansSpec)

/-- ITS FALSE NEIGHBOUR: 'it returns false'. Refute it at one input. -/
def graphBansWrong : ChangeSpec := { name := "graphBans", fn := fun _ => fun
  | [d1, d2, d3] => { results := [.lit (.bool false)], args := [d1, d2, d3] }
  | _ => none }
def GraphBansWrongFalsely : Prop := graphBansRow.holds Try.pinned (OpenSpec.ofChange graphBansWrong)

/-- 'milepostlaw5.GraphTells': WHATEVER THE INPUT: true; the input reads as it did. -/
def graphTellsSpec : ChangeSpec := { name := "graphTells", fn := fun _ => fun
  | [d1, d2, d3, d4, d5] => { results := [.lit (.bool true)], args := [d1, d2, d3, d4, d5] }
  | _ => none }
def graphTellsRow : OpenClaim := { program := "ytjcaoejodjmmkaa", sum := "aa8b0fedd896cdf2c8867cc5776edea9d73a410c855c9c52a769f3ee923f5829", func := "milepost/milepostlaw5.GraphTells", spec := "graphTells", unfollowed := true, recurses := true, apart := false }
def GraphTellsSaid : Prop := graphTellsRow.holds Try.pinned (OpenSpec.ofChange graphTellsSpec)

/-- ITS FALSE NEIGHBOUR: 'it returns false'. Refute it at one input. -/
def graphTellsWrong : ChangeSpec := { name := "graphTells", fn := fun _ => fun
  | [d1, d2, d3, d4, d5] => { results := [.lit (.bool false)], args := [d1, d2, d3, d4, d5] }
  | _ => none }
def GraphTellsWrongFalsely : Prop := graphTellsRow.holds Try.pinned (OpenSpec.ofChange graphTellsWrong)

/-- 'milepostlaw5.GraphStays': WHATEVER THE INPUT: true; the input reads as it did. -/
def graphStaysSpec : ChangeSpec := { name := "graphStays", fn := fun _ => fun
  | [d1, d2] => { results := [.lit (.bool true)], args := [d1, d2] }
  | _ => none }
def graphStaysRow : OpenClaim := { program := "ytjcaoejodjmmkaa", sum := "aa8b0fedd896cdf2c8867cc5776edea9d73a410c855c9c52a769f3ee923f5829", func := "milepost/milepostlaw5.GraphStays", spec := "graphStays", unfollowed := true, recurses := true, apart := false }
def GraphStaysSaid : Prop := graphStaysRow.holds Try.pinned (OpenSpec.ofChange graphStaysSpec)

/-- ITS FALSE NEIGHBOUR: 'it returns false'. Refute it at one input. -/
def graphStaysWrong : ChangeSpec := { name := "graphStays", fn := fun _ => fun
  | [d1, d2] => { results := [.lit (.bool false)], args := [d1, d2] }
  | _ => none }
def GraphStaysWrongFalsely : Prop := graphStaysRow.holds Try.pinned (OpenSpec.ofChange graphStaysWrong)

/-- 'milepostlaw7.TurnsTell': WHATEVER THE INPUT: true; the input reads as it did. -/
def turnsTellSpec : ChangeSpec := { name := "turnsTell", fn := fun _ => fun
  | [d1, d2, d3] => { results := [.lit (.bool true)], args := [d1, d2, d3] }
  | _ => none }
def turnsTellRow : OpenClaim := { program := "ytjcaoejodjmmkaa", sum := "aa8b0fedd896cdf2c8867cc5776edea9d73a410c855c9c52a769f3ee923f5829", func := "milepost/milepostlaw7.TurnsTell", spec := "turnsTell", unfollowed := true, recurses := true, apart := false }
def TurnsTellSaid : Prop := turnsTellRow.holds Try.pinned (OpenSpec.ofChange turnsTellSpec)

/-- ITS FALSE NEIGHBOUR: 'it returns false'. Refute it at one input. -/
def turnsTellWrong : ChangeSpec := { name := "turnsTell", fn := fun _ => fun
  | [d1, d2, d3] => { results := [.lit (.bool false)], args := [d1, d2, d3] }
  | _ => none }
def TurnsTellWrongFalsely : Prop := turnsTellRow.holds Try.pinned (OpenSpec.ofChange turnsTellWrong)

/-- 'milepostlaw7.TurnsBoth': WHATEVER THE INPUT: true; the input reads as it did. -/
def turnsBothSpec : ChangeSpec := { name := "turnsBoth", fn := fun _ => fun
  | [d] => { results := [.lit (.bool true)], args := [d] }
  | _ => none }
def turnsBothRow : OpenClaim := { program := "ytjcaoejodjmmkaa", sum := "aa8b0fedd896cdf2c8867cc5776edea9d73a410c855c9c52a769f3ee923f5829", func := "milepost/milepostlaw7.TurnsBoth", spec := "turnsBoth", unfollowed := true, recurses := true, apart := false }
def TurnsBothSaid : Prop := turnsBothRow.holds Try.pinned (OpenSpec.ofChange turnsBothSpec)

/-- ITS FALSE NEIGHBOUR: 'it returns false'. Refute it at one input. -/
def turnsBothWrong : ChangeSpec := { name := "turnsBoth", fn := fun _ => fun
  | [d] => { results := [.lit (.bool false)], args := [d] }
  | _ => none }
def TurnsBothWrongFalsely : Prop := turnsBothRow.holds Try.pinned (OpenSpec.ofChange turnsBothWrong)

/-- 'milepostlaw7.TurnsFree': WHATEVER THE INPUT: true; the input reads as it did. -/
def turnsFreeSpec : ChangeSpec := { name := "turnsFree", fn := fun _ => fun
  | [d1, d2, d3] => { results := [.lit (.bool true)], args := [d1, d2, d3] }
  | _ => none }
def turnsFreeRow : OpenClaim := { program := "ytjcaoejodjmmkaa", sum := "aa8b0fedd896cdf2c8867cc5776edea9d73a410c855c9c52a769f3ee923f5829", func := "milepost/milepostlaw7.TurnsFree", spec := "turnsFree", unfollowed := true, recurses := true, apart := false }
def TurnsFreeSaid : Prop := turnsFreeRow.holds Try.pinned (OpenSpec.ofChange turnsFreeSpec)

/-- ITS FALSE NEIGHBOUR: 'it returns false'. Refute it at one input. -/
def turnsFreeWrong : ChangeSpec := { name := "turnsFree", fn := fun _ => fun
  | [d1, d2, d3] => { results := [.lit (.bool false)], args := [d1, d2, d3] }
  | _ => none }
def TurnsFreeWrongFalsely : Prop := turnsFreeRow.holds Try.pinned (OpenSpec.ofChange turnsFreeWrong)

/-- 'milepostlaw7.TurnsOnly': WHATEVER THE INPUT: true; the input reads as it did. -/
def turnsOnlySpec : ChangeSpec := { name := "turnsOnly", fn := fun _ => fun
  | [d] => { results := [.lit (.bool true)], args := [d] }
  | _ => none }
def turnsOnlyRow : OpenClaim := { program := "ytjcaoejodjmmkaa", sum := "aa8b0fedd896cdf2c8867cc5776edea9d73a410c855c9c52a769f3ee923f5829", func := "milepost/milepostlaw7.TurnsOnly", spec := "turnsOnly", unfollowed := true, recurses := true, apart := false }
def TurnsOnlySaid : Prop := turnsOnlyRow.holds Try.pinned (OpenSpec.ofChange turnsOnlySpec)

/-- ITS FALSE NEIGHBOUR: 'it returns false'. Refute it at one input. -/
def turnsOnlyWrong : ChangeSpec := { name := "turnsOnly", fn := fun _ => fun
  | [d] => { results := [.lit (.bool false)], args := [d] }
  | _ => none }
def TurnsOnlyWrongFalsely : Prop := turnsOnlyRow.holds Try.pinned (OpenSpec.ofChange turnsOnlyWrong)

/- THE SECOND FORM. 'bulk': how many values and letters a reading holds, each counted each time it is reached (what is shared counts as often as it is met; a slice's spare places count too). A statement '..UptoSaid' is the law's where the arguments, and the package variables that the reading takes, are together of bulk at most 1048576: NARROWER than '..Said'. Prove '..Said' where nothing that the law and all that it calls make is longer than what came in: it says more and counts as full. Else prove '..UptoSaid'. A law counts once. -/
mutual
def uptoBulk {H : Type} : DataW H → Nat
  | .lit (.string bytes) => bytes.length + 1
  | .lit _ => 1
  | .nil => 1
  | .ptr d => uptoBulk d + 1
  | .slice elems spare => uptoBulkAll elems + uptoBulkAll spare + 1
  | .agg parts => uptoBulkAll parts + 1
  | .iface _ d => uptoBulk d + 1
  | .map entries => uptoBulkEntries entries + 1
  | .held _ => 1
def uptoBulkAll {H : Type} : List (DataW H) → Nat
  | [] => 0
  | d :: r => uptoBulk d + uptoBulkAll r
def uptoBulkEntries {H : Type} : List (Lit × DataW H) → Nat
  | [] => 0
  | x :: r => uptoBulkEntry x + uptoBulkEntries r
def uptoBulkEntry {H : Type} : Lit × DataW H → Nat
  | (.string bytes, d) => bytes.length + uptoBulk d + 1
  | (_, d) => uptoBulk d + 1
 end
def uptoSmall : (H : Type) → List (DataW H) → Bool := fun _ ds => decide (uptoBulkAll ds ≤ 1048576)
def OpenSpec.upto (s : _root_.Go.ChangeSpec) : _root_.Go.OpenSpec := { _root_.Go.OpenSpec.ofChange s with cond := some uptoSmall }

/-- 'milepostlaw5.GraphRows', WHERE WHAT IT READS IS OF BULK AT MOST 1048576: true; the input reads as it did. -/
def graphRowsUptoRow : OpenClaim := { program := "ytjcaoejodjmmkaa", sum := "aa8b0fedd896cdf2c8867cc5776edea9d73a410c855c9c52a769f3ee923f5829", func := "milepost/milepostlaw5.GraphRows", spec := "graphRows", unfollowed := true, recurses := true, apart := false, narrowed := true }
def GraphRowsUptoSaid : Prop := graphRowsUptoRow.holds Try.pinned (OpenSpec.upto graphRowsSpec)

/-- 'milepostlaw5.GraphOrder', WHERE WHAT IT READS IS OF BULK AT MOST 1048576: true; the input reads as it did. -/
def graphOrderUptoRow : OpenClaim := { program := "ytjcaoejodjmmkaa", sum := "aa8b0fedd896cdf2c8867cc5776edea9d73a410c855c9c52a769f3ee923f5829", func := "milepost/milepostlaw5.GraphOrder", spec := "graphOrder", unfollowed := true, recurses := true, apart := false, narrowed := true }
def GraphOrderUptoSaid : Prop := graphOrderUptoRow.holds Try.pinned (OpenSpec.upto graphOrderSpec)

/-- 'milepostlaw5.GraphBans', WHERE WHAT IT READS IS OF BULK AT MOST 1048576: true; the input reads as it did. -/
def graphBansUptoRow : OpenClaim := { program := "ytjcaoejodjmmkaa", sum := "aa8b0fedd896cdf2c8867cc5776edea9d73a410c855c9c52a769f3ee923f5829", func := "milepost/milepostlaw5.GraphBans", spec := "graphBans", unfollowed := true, recurses := true, apart := false, narrowed := true }
def GraphBansUptoSaid : Prop := graphBansUptoRow.holds Try.pinned (OpenSpec.upto graphBansSpec)

/-- 'milepostlaw5.GraphTells', WHERE WHAT IT READS IS OF BULK AT MOST 1048576: true; the input reads as it did. -/
def graphTellsUptoRow : OpenClaim := { program := "ytjcaoejodjmmkaa", sum := "aa8b0fedd896cdf2c8867cc5776edea9d73a410c855c9c52a769f3ee923f5829", func := "milepost/milepostlaw5.GraphTells", spec := "graphTells", unfollowed := true, recurses := true, apart := false, narrowed := true }
def GraphTellsUptoSaid : Prop := graphTellsUptoRow.holds Try.pinned (OpenSpec.upto graphTellsSpec)

/-- 'milepostlaw5.GraphStays', WHERE WHAT IT READS IS OF BULK AT MOST 1048576: true; the input reads as it did. -/
def graphStaysUptoRow : OpenClaim := { program := "ytjcaoejodjmmkaa", sum := "aa8b0fedd896cdf2c8867cc5776edea9d73a410c855c9c52a769f3ee923f5829", func := "milepost/milepostlaw5.GraphStays", spec := "graphStays", unfollowed := true, recurses := true, apart := false, narrowed := true }
def GraphStaysUptoSaid : Prop := graphStaysUptoRow.holds Try.pinned (OpenSpec.upto graphStaysSpec)

/-- 'milepostlaw7.TurnsTell', WHERE WHAT IT READS IS OF BULK AT MOST 1048576: true; the input reads as it did. -/
def turnsTellUptoRow : OpenClaim := { program := "ytjcaoejodjmmkaa", sum := "aa8b0fedd896cdf2c8867cc5776edea9d73a410c855c9c52a769f3ee923f5829", func := "milepost/milepostlaw7.TurnsTell", spec := "turnsTell", unfollowed := true, recurses := true, apart := false, narrowed := true }
def TurnsTellUptoSaid : Prop := turnsTellUptoRow.holds Try.pinned (OpenSpec.upto turnsTellSpec)

/-- 'milepostlaw7.TurnsBoth', WHERE WHAT IT READS IS OF BULK AT MOST 1048576: true; the input reads as it did. -/
def turnsBothUptoRow : OpenClaim := { program := "ytjcaoejodjmmkaa", sum := "aa8b0fedd896cdf2c8867cc5776edea9d73a410c855c9c52a769f3ee923f5829", func := "milepost/milepostlaw7.TurnsBoth", spec := "turnsBoth", unfollowed := true, recurses := true, apart := false, narrowed := true }
def TurnsBothUptoSaid : Prop := turnsBothUptoRow.holds Try.pinned (OpenSpec.upto turnsBothSpec)

/-- 'milepostlaw7.TurnsFree', WHERE WHAT IT READS IS OF BULK AT MOST 1048576: true; the input reads as it did. -/
def turnsFreeUptoRow : OpenClaim := { program := "ytjcaoejodjmmkaa", sum := "aa8b0fedd896cdf2c8867cc5776edea9d73a410c855c9c52a769f3ee923f5829", func := "milepost/milepostlaw7.TurnsFree", spec := "turnsFree", unfollowed := true, recurses := true, apart := false, narrowed := true }
def TurnsFreeUptoSaid : Prop := turnsFreeUptoRow.holds Try.pinned (OpenSpec.upto turnsFreeSpec)

/-- 'milepostlaw7.TurnsOnly', WHERE WHAT IT READS IS OF BULK AT MOST 1048576: true; the input reads as it did. -/
def turnsOnlyUptoRow : OpenClaim := { program := "ytjcaoejodjmmkaa", sum := "aa8b0fedd896cdf2c8867cc5776edea9d73a410c855c9c52a769f3ee923f5829", func := "milepost/milepostlaw7.TurnsOnly", spec := "turnsOnly", unfollowed := true, recurses := true, apart := false, narrowed := true }
def TurnsOnlyUptoSaid : Prop := turnsOnlyUptoRow.holds Try.pinned (OpenSpec.upto turnsOnlySpec)

end Rows
end Go.Proofs.Ytjcaoejodjmmkaa
