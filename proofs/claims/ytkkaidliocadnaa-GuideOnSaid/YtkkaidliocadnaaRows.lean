/-
  No cell of these rows narrows 'for every input' (looked for: loops, veiled, ifaces, maps, wideKeys, modest, calm, conditions, laid).
  DERIVED. THE GIVEN ROWS OF THIS SEAT. 8 by the template 'for every input the law returns true; each argument reads behind the call as it read before'; 0 by the template 'total and deterministic' (their statements: YtkkaidliocadnaaTotals.lean).
  GIVEN WITH THE SEED: the statements are not yours to turn. If you find one false, say at which input.
  Laid BY PROGRAM, IN A SANDBOX (cutbox-rows.mjs): the forced cells as the released guide's own fill.sh prints them over the translation 93ad14cb87af9386… (all of the seat's roots in one cut). By AI agents, Wed Nov 11 2026. No macro, syntax, notation, axiom, sorry.
-/
import Derived.Test.YtkkaidliocadnaaChecked
import GoSem.Claim
import GoSem.ClaimJoined
import GoSem.ClaimMapViews
import Derived.JoinedTies
import Derived.KernelRfl
namespace Go.Proofs.Ytkkaidliocadnaa
/- THE CELL 'sum', in the pinned program and in every row, IS THE sha256 OF THE DUMP (.gsa) THAT YtkkaidliocadnaaProg.lean LOADS. Nothing in Lean hashes anything: it is a label: what it is worth is what the hold of that sum in a sandbox is worth. -/
noncomputable def Try.pinned : Pinned := { name := "ytkkaidliocadnaa", sum := "93ad14cb87af938676c1686dd148fdb198795ba6dd6ad9db1682a61f9ffc7ec5", checked := Try.checked }
namespace Rows
def none {H : Type} : Left H := { results := [], args := [] }

/-- 'milepostlaw8.WalkTells': WHATEVER THE INPUT: true; the input reads as it did. -/
def walkTellsSpec : ChangeSpec := { name := "walkTells", fn := fun _ => fun
  | [d1, d2, d3, d4, d5] => { results := [.lit (.bool true)], args := [d1, d2, d3, d4, d5] }
  | _ => none }
def walkTellsRow : OpenClaim := { program := "ytkkaidliocadnaa", sum := "93ad14cb87af938676c1686dd148fdb198795ba6dd6ad9db1682a61f9ffc7ec5", func := "milepost/milepostlaw8.WalkTells", spec := "walkTells", unfollowed := true, recurses := true, apart := false }
def WalkTellsSaid : Prop := walkTellsRow.holds Try.pinned (OpenSpec.ofChange walkTellsSpec)

/-- ITS FALSE NEIGHBOUR: 'it returns false'. Refute it at one input. -/
def walkTellsWrong : ChangeSpec := { name := "walkTells", fn := fun _ => fun
  | [d1, d2, d3, d4, d5] => { results := [.lit (.bool false)], args := [d1, d2, d3, d4, d5] }
  | _ => none }
def WalkTellsWrongFalsely : Prop := walkTellsRow.holds Try.pinned (OpenSpec.ofChange walkTellsWrong)

/-- 'milepostlaw8.WalkJoins': WHATEVER THE INPUT: true; the input reads as it did. -/
def walkJoinsSpec : ChangeSpec := { name := "walkJoins", fn := fun _ => fun
  | [d1, d2, d3, d4] => { results := [.lit (.bool true)], args := [d1, d2, d3, d4] }
  | _ => none }
def walkJoinsRow : OpenClaim := { program := "ytkkaidliocadnaa", sum := "93ad14cb87af938676c1686dd148fdb198795ba6dd6ad9db1682a61f9ffc7ec5", func := "milepost/milepostlaw8.WalkJoins", spec := "walkJoins", unfollowed := true, recurses := true, apart := false }
def WalkJoinsSaid : Prop := walkJoinsRow.holds Try.pinned (OpenSpec.ofChange walkJoinsSpec)

/-- ITS FALSE NEIGHBOUR: 'it returns false'. Refute it at one input. -/
def walkJoinsWrong : ChangeSpec := { name := "walkJoins", fn := fun _ => fun
  | [d1, d2, d3, d4] => { results := [.lit (.bool false)], args := [d1, d2, d3, d4] }
  | _ => none }
def WalkJoinsWrongFalsely : Prop := walkJoinsRow.holds Try.pinned (OpenSpec.ofChange walkJoinsWrong)

/-- 'milepostlaw8.WalkOrder': WHATEVER THE INPUT: true; the input reads as it did. -/
def walkOrderSpec : ChangeSpec := { name := "walkOrder", fn := fun _ => fun
  | [d1, d2, d3] => { results := [.lit (.bool true)], args := [d1, d2, d3] }
  | _ => none }
def walkOrderRow : OpenClaim := { program := "ytkkaidliocadnaa", sum := "93ad14cb87af938676c1686dd148fdb198795ba6dd6ad9db1682a61f9ffc7ec5", func := "milepost/milepostlaw8.WalkOrder", spec := "walkOrder", unfollowed := true, recurses := true, apart := false }
def WalkOrderSaid : Prop := walkOrderRow.holds Try.pinned (OpenSpec.ofChange walkOrderSpec)

/-- ITS FALSE NEIGHBOUR: 'it returns false'. Refute it at one input. -/
def walkOrderWrong : ChangeSpec := { name := "walkOrder", fn := fun _ => fun
  | [d1, d2, d3] => { results := [.lit (.bool false)], args := [d1, d2, d3] }
  | _ => none }
def WalkOrderWrongFalsely : Prop := walkOrderRow.holds Try.pinned (OpenSpec.ofChange walkOrderWrong)

/-- 'milepostlaw8.WalkBreaks': WHATEVER THE INPUT: true; the input reads as it did. -/
def walkBreaksSpec : ChangeSpec := { name := "walkBreaks", fn := fun _ => fun
  | [d1, d2, d3, d4, d5] => { results := [.lit (.bool true)], args := [d1, d2, d3, d4, d5] }
  | _ => none }
def walkBreaksRow : OpenClaim := { program := "ytkkaidliocadnaa", sum := "93ad14cb87af938676c1686dd148fdb198795ba6dd6ad9db1682a61f9ffc7ec5", func := "milepost/milepostlaw8.WalkBreaks", spec := "walkBreaks", unfollowed := true, recurses := true, apart := false }
def WalkBreaksSaid : Prop := walkBreaksRow.holds Try.pinned (OpenSpec.ofChange walkBreaksSpec)

/-- ITS FALSE NEIGHBOUR: 'it returns false'. Refute it at one input. -/
def walkBreaksWrong : ChangeSpec := { name := "walkBreaks", fn := fun _ => fun
  | [d1, d2, d3, d4, d5] => { results := [.lit (.bool false)], args := [d1, d2, d3, d4, d5] }
  | _ => none }
def WalkBreaksWrongFalsely : Prop := walkBreaksRow.holds Try.pinned (OpenSpec.ofChange walkBreaksWrong)

/-- 'milepostlaw21.GuideTells': WHATEVER THE INPUT: true; the input reads as it did. -/
def guideTellsSpec : ChangeSpec := { name := "guideTells", fn := fun _ => fun
  | [d1, d2, d3, d4] => { results := [.lit (.bool true)], args := [d1, d2, d3, d4] }
  | _ => none }
def guideTellsRow : OpenClaim := { program := "ytkkaidliocadnaa", sum := "93ad14cb87af938676c1686dd148fdb198795ba6dd6ad9db1682a61f9ffc7ec5", func := "milepost/milepostlaw21.GuideTells", spec := "guideTells", unfollowed := true, recurses := true, apart := false }
def GuideTellsSaid : Prop := guideTellsRow.holds Try.pinned (OpenSpec.ofChange guideTellsSpec)

/-- ITS FALSE NEIGHBOUR: 'it returns false'. Refute it at one input. -/
def guideTellsWrong : ChangeSpec := { name := "guideTells", fn := fun _ => fun
  | [d1, d2, d3, d4] => { results := [.lit (.bool false)], args := [d1, d2, d3, d4] }
  | _ => none }
def GuideTellsWrongFalsely : Prop := guideTellsRow.holds Try.pinned (OpenSpec.ofChange guideTellsWrong)

/-- 'milepostlaw21.GuideSums': WHATEVER THE INPUT: true; the input reads as it did. -/
def guideSumsSpec : ChangeSpec := { name := "guideSums", fn := fun _ => fun
  | [d1, d2, d3] => { results := [.lit (.bool true)], args := [d1, d2, d3] }
  | _ => none }
def guideSumsRow : OpenClaim := { program := "ytkkaidliocadnaa", sum := "93ad14cb87af938676c1686dd148fdb198795ba6dd6ad9db1682a61f9ffc7ec5", func := "milepost/milepostlaw21.GuideSums", spec := "guideSums", unfollowed := true, recurses := true, apart := false }
def GuideSumsSaid : Prop := guideSumsRow.holds Try.pinned (OpenSpec.ofChange guideSumsSpec)

/-- ITS FALSE NEIGHBOUR: 'it returns false'. Refute it at one input. -/
def guideSumsWrong : ChangeSpec := { name := "guideSums", fn := fun _ => fun
  | [d1, d2, d3] => { results := [.lit (.bool false)], args := [d1, d2, d3] }
  | _ => none }
def GuideSumsWrongFalsely : Prop := guideSumsRow.holds Try.pinned (OpenSpec.ofChange guideSumsWrong)

/-- 'milepostlaw21.GuideOnly': WHATEVER THE INPUT: true; the input reads as it did. -/
def guideOnlySpec : ChangeSpec := { name := "guideOnly", fn := fun _ => fun
  | [d1, d2, d3] => { results := [.lit (.bool true)], args := [d1, d2, d3] }
  | _ => none }
def guideOnlyRow : OpenClaim := { program := "ytkkaidliocadnaa", sum := "93ad14cb87af938676c1686dd148fdb198795ba6dd6ad9db1682a61f9ffc7ec5", func := "milepost/milepostlaw21.GuideOnly", spec := "guideOnly", unfollowed := true, recurses := true, apart := false }
def GuideOnlySaid : Prop := guideOnlyRow.holds Try.pinned (OpenSpec.ofChange guideOnlySpec)

/-- ITS FALSE NEIGHBOUR: 'it returns false'. Refute it at one input. -/
def guideOnlyWrong : ChangeSpec := { name := "guideOnly", fn := fun _ => fun
  | [d1, d2, d3] => { results := [.lit (.bool false)], args := [d1, d2, d3] }
  | _ => none }
def GuideOnlyWrongFalsely : Prop := guideOnlyRow.holds Try.pinned (OpenSpec.ofChange guideOnlyWrong)

/-- 'milepostlaw21.GuideOn': WHATEVER THE INPUT: true; the input reads as it did. -/
def guideOnSpec : ChangeSpec := { name := "guideOn", fn := fun _ => fun
  | [d1, d2, d3] => { results := [.lit (.bool true)], args := [d1, d2, d3] }
  | _ => none }
def guideOnRow : OpenClaim := { program := "ytkkaidliocadnaa", sum := "93ad14cb87af938676c1686dd148fdb198795ba6dd6ad9db1682a61f9ffc7ec5", func := "milepost/milepostlaw21.GuideOn", spec := "guideOn", unfollowed := true, recurses := true, apart := false }
def GuideOnSaid : Prop := guideOnRow.holds Try.pinned (OpenSpec.ofChange guideOnSpec)

/-- ITS FALSE NEIGHBOUR: 'it returns false'. Refute it at one input. -/
def guideOnWrong : ChangeSpec := { name := "guideOn", fn := fun _ => fun
  | [d1, d2, d3] => { results := [.lit (.bool false)], args := [d1, d2, d3] }
  | _ => none }
def GuideOnWrongFalsely : Prop := guideOnRow.holds Try.pinned (OpenSpec.ofChange guideOnWrong)

/- THE SECOND FORM. 'bulk': how many values and letters a reading holds, each counted each time it is reached (what is shared counts as often as it is met; a slice's spare places count too). A statement '..UptoSaid' is the law's where the arguments, and the package variables that the reading takes, are together of bulk at most 1048576: NARROWER than '..Said'. Prove '..Said' where nothing that the law and all that it calls make is longer than what came in: it says more and counts as full. Else prove '..UptoSaid'. A law counts once. -/
mutual
def uptoBulk {H : Type} : DataW H → Nat
  | .lit (.string bytes) => bytes.length + 1
  | .lit _ => 1
  | .nil => 1
  | .ptr d => uptoBulk d + 1
  | .slice elems spare => uptoBulkAll elems + uptoBulkAll spare + 1
  | .agg parts => uptoBulkAll parts + 1
  | .iface _ d => uptoBulk d + 1
  | .map entries => uptoBulkEntries entries + 1
  | .held _ => 1
def uptoBulkAll {H : Type} : List (DataW H) → Nat
  | [] => 0
  | d :: r => uptoBulk d + uptoBulkAll r
def uptoBulkEntries {H : Type} : List (Lit × DataW H) → Nat
  | [] => 0
  | x :: r => uptoBulkEntry x + uptoBulkEntries r
def uptoBulkEntry {H : Type} : Lit × DataW H → Nat
  | (.string bytes, d) => bytes.length + uptoBulk d + 1
  | (_, d) => uptoBulk d + 1
 end
def uptoSmall : (H : Type) → List (DataW H) → Bool := fun _ ds => decide (uptoBulkAll ds ≤ 1048576)
def OpenSpec.upto (s : _root_.Go.ChangeSpec) : _root_.Go.OpenSpec := { _root_.Go.OpenSpec.ofChange s with cond := some uptoSmall }

/-- 'milepostlaw8.WalkTells', WHERE WHAT IT READS IS OF BULK AT MOST 1048576: true; the input reads as it did. -/
def walkTellsUptoRow : OpenClaim := { program := "ytkkaidliocadnaa", sum := "93ad14cb87af938676c1686dd148fdb198795ba6dd6ad9db1682a61f9ffc7ec5", func := "milepost/milepostlaw8.WalkTells", spec := "walkTells", unfollowed := true, recurses := true, apart := false, narrowed := true }
def WalkTellsUptoSaid : Prop := walkTellsUptoRow.holds Try.pinned (OpenSpec.upto walkTellsSpec)

/-- 'milepostlaw8.WalkJoins', WHERE WHAT IT READS IS OF BULK AT MOST 1048576: true; the input reads as it did. -/
def walkJoinsUptoRow : OpenClaim := { program := "ytkkaidliocadnaa", sum := "93ad14cb87af938676c1686dd148fdb198795ba6dd6ad9db1682a61f9ffc7ec5", func := "milepost/milepostlaw8.WalkJoins", spec := "walkJoins", unfollowed := true, recurses := true, apart := false, narrowed := true }
def WalkJoinsUptoSaid : Prop := walkJoinsUptoRow.holds Try.pinned (OpenSpec.upto walkJoinsSpec)

/-- 'milepostlaw8.WalkOrder', WHERE WHAT IT READS IS OF BULK AT MOST 1048576: true; the input reads as it did. -/
def walkOrderUptoRow : OpenClaim := { program := "ytkkaidliocadnaa", sum := "93ad14cb87af938676c1686dd148fdb198795ba6dd6ad9db1682a61f9ffc7ec5", func := "milepost/milepostlaw8.WalkOrder", spec := "walkOrder", unfollowed := true, recurses := true, apart := false, narrowed := true }
def WalkOrderUptoSaid : Prop := walkOrderUptoRow.holds Try.pinned (OpenSpec.upto walkOrderSpec)

/-- 'milepostlaw8.WalkBreaks', WHERE WHAT IT READS IS OF BULK AT MOST 1048576: true; the input reads as it did. -/
def walkBreaksUptoRow : OpenClaim := { program := "ytkkaidliocadnaa", sum := "93ad14cb87af938676c1686dd148fdb198795ba6dd6ad9db1682a61f9ffc7ec5", func := "milepost/milepostlaw8.WalkBreaks", spec := "walkBreaks", unfollowed := true, recurses := true, apart := false, narrowed := true }
def WalkBreaksUptoSaid : Prop := walkBreaksUptoRow.holds Try.pinned (OpenSpec.upto walkBreaksSpec)

/-- 'milepostlaw21.GuideTells', WHERE WHAT IT READS IS OF BULK AT MOST 1048576: true; the input reads as it did. -/
def guideTellsUptoRow : OpenClaim := { program := "ytkkaidliocadnaa", sum := "93ad14cb87af938676c1686dd148fdb198795ba6dd6ad9db1682a61f9ffc7ec5", func := "milepost/milepostlaw21.GuideTells", spec := "guideTells", unfollowed := true, recurses := true, apart := false, narrowed := true }
def GuideTellsUptoSaid : Prop := guideTellsUptoRow.holds Try.pinned (OpenSpec.upto guideTellsSpec)

/-- 'milepostlaw21.GuideSums', WHERE WHAT IT READS IS OF BULK AT MOST 1048576: true; the input reads as it did. -/
def guideSumsUptoRow : OpenClaim := { program := "ytkkaidliocadnaa", sum := "93ad14cb87af938676c1686dd148fdb198795ba6dd6ad9db1682a61f9ffc7ec5", func := "milepost/milepostlaw21.GuideSums", spec := "guideSums", unfollowed := true, recurses := true, apart := false, narrowed := true }
def GuideSumsUptoSaid : Prop := guideSumsUptoRow.holds Try.pinned (OpenSpec.upto guideSumsSpec)

/-- 'milepostlaw21.GuideOnly', WHERE WHAT IT READS IS OF BULK AT MOST 1048576: true; the input reads as it did. -/
def guideOnlyUptoRow : OpenClaim := { program := "ytkkaidliocadnaa", sum := "93ad14cb87af938676c1686dd148fdb198795ba6dd6ad9db1682a61f9ffc7ec5", func := "milepost/milepostlaw21.GuideOnly", spec := "guideOnly", unfollowed := true, recurses := true, apart := false, narrowed := true }
def GuideOnlyUptoSaid : Prop := guideOnlyUptoRow.holds Try.pinned (OpenSpec.upto guideOnlySpec)

/-- 'milepostlaw21.GuideOn', WHERE WHAT IT READS IS OF BULK AT MOST 1048576: true; the input reads as it did. -/
def guideOnUptoRow : OpenClaim := { program := "ytkkaidliocadnaa", sum := "93ad14cb87af938676c1686dd148fdb198795ba6dd6ad9db1682a61f9ffc7ec5", func := "milepost/milepostlaw21.GuideOn", spec := "guideOn", unfollowed := true, recurses := true, apart := false, narrowed := true }
def GuideOnUptoSaid : Prop := guideOnUptoRow.holds Try.pinned (OpenSpec.upto guideOnSpec)

end Rows
end Go.Proofs.Ytkkaidliocadnaa
