/-
  No cell of these rows narrows 'for every input' (looked for: loops, veiled, ifaces, maps, wideKeys, modest, calm, conditions, laid).
  DERIVED. THE GIVEN ROWS OF THIS SEAT. 12 by the template 'for every input the law returns true; each argument reads behind the call as it read before'; 0 by the template 'total and deterministic' (their statements: YtjopiefojicblaaTotals.lean).
  GIVEN WITH THE SEED: the statements are not yours to turn. If you find one false, say at which input.
  Laid BY PROGRAM, IN A SANDBOX (cutbox-rows.mjs): the forced cells as the released guide's own fill.sh prints them over the translation 7a274facb18970d6… (all of the seat's roots in one cut). By AI agents, Wed Nov 11 2026. No macro, syntax, notation, axiom, sorry.
-/
import Derived.Test.YtjopiefojicblaaChecked
import GoSem.Claim
import GoSem.ClaimJoined
import GoSem.ClaimMapViews
import Derived.JoinedTies
import Derived.KernelRfl
namespace Go.Proofs.Ytjopiefojicblaa
/- THE CELL 'sum', in the pinned program and in every row, IS THE sha256 OF THE DUMP (.gsa) THAT YtjopiefojicblaaProg.lean LOADS. Nothing in Lean hashes anything: it is a label: what it is worth is what the hold of that sum in a sandbox is worth. -/
noncomputable def Try.pinned : Pinned := { name := "ytjopiefojicblaa", sum := "7a274facb18970d612e89a3b7f83b6010f3cf5313ecb00d3e558180a8424722b", checked := Try.checked }
namespace Rows
def none {H : Type} : Left H := { results := [], args := [] }

/-- 'milepostlaw11.DistTells': WHATEVER THE INPUT: true; the input reads as it did. -/
def distTellsSpec : ChangeSpec := { name := "distTells", fn := fun _ => fun
  | [d1, d2, d3, d4, d5] => { results := [.lit (.bool true)], args := [d1, d2, d3, d4, d5] }
  | _ => none }
def distTellsRow : OpenClaim := { program := "ytjopiefojicblaa", sum := "7a274facb18970d612e89a3b7f83b6010f3cf5313ecb00d3e558180a8424722b", func := "milepost/milepostlaw11.DistTells", spec := "distTells", unfollowed := true, recurses := true, apart := false }
def DistTellsSaid : Prop := distTellsRow.holds Try.pinned (OpenSpec.ofChange distTellsSpec)

/-- ITS FALSE NEIGHBOUR: 'it returns false'. Refute it at one input. -/
def distTellsWrong : ChangeSpec := { name := "distTells", fn := fun _ => fun
  | [d1, d2, d3, d4, d5] => { results := [.lit (.bool false)], args := [d1, d2, d3, d4, d5] }
  | _ => none }
def DistTellsWrongFalsely : Prop := distTellsRow.holds Try.pinned (OpenSpec.ofChange distTellsWrong)

/-- 'milepostlaw11.DistBest': WHATEVER THE INPUT: true; the input reads as it did. -/
def distBestSpec : ChangeSpec := { name := "distBest", fn := fun _ => fun
  | [d1, d2, d3, d4, d5] => { results := [.lit (.bool true)], args := [d1, d2, d3, d4, d5] }
  | _ => none }
def distBestRow : OpenClaim := { program := "ytjopiefojicblaa", sum := "7a274facb18970d612e89a3b7f83b6010f3cf5313ecb00d3e558180a8424722b", func := "milepost/milepostlaw11.DistBest", spec := "distBest", unfollowed := true, recurses := true, apart := false }
def DistBestSaid : Prop := distBestRow.holds Try.pinned (OpenSpec.ofChange distBestSpec)

/-- ITS FALSE NEIGHBOUR: 'it returns false'. Refute it at one input. -/
def distBestWrong : ChangeSpec := { name := "distBest", fn := fun _ => fun
  | [d1, d2, d3, d4, d5] => { results := [.lit (.bool false)], args := [d1, d2, d3, d4, d5] }
  | _ => none }
def DistBestWrongFalsely : Prop := distBestRow.holds Try.pinned (OpenSpec.ofChange distBestWrong)

/-- 'milepostlaw11.DistMore': WHATEVER THE INPUT: true; the input reads as it did. -/
def distMoreSpec : ChangeSpec := { name := "distMore", fn := fun _ => fun
  | [d1, d2, d3, d4] => { results := [.lit (.bool true)], args := [d1, d2, d3, d4] }
  | _ => none }
def distMoreRow : OpenClaim := { program := "ytjopiefojicblaa", sum := "7a274facb18970d612e89a3b7f83b6010f3cf5313ecb00d3e558180a8424722b", func := "milepost/milepostlaw11.DistMore", spec := "distMore", unfollowed := true, recurses := true, apart := false }
def DistMoreSaid : Prop := distMoreRow.holds Try.pinned (OpenSpec.ofChange distMoreSpec)

/-- ITS FALSE NEIGHBOUR: 'it returns false'. Refute it at one input. -/
def distMoreWrong : ChangeSpec := { name := "distMore", fn := fun _ => fun
  | [d1, d2, d3, d4] => { results := [.lit (.bool false)], args := [d1, d2, d3, d4] }
  | _ => none }
def DistMoreWrongFalsely : Prop := distMoreRow.holds Try.pinned (OpenSpec.ofChange distMoreWrong)

/-- 'milepostlaw11.DistBothWays': WHATEVER THE INPUT: true; the input reads as it did. -/
def distBothWaysSpec : ChangeSpec := { name := "distBothWays", fn := fun _ => fun
  | [d1, d2, d3] => { results := [.lit (.bool true)], args := [d1, d2, d3] }
  | _ => none }
def distBothWaysRow : OpenClaim := { program := "ytjopiefojicblaa", sum := "7a274facb18970d612e89a3b7f83b6010f3cf5313ecb00d3e558180a8424722b", func := "milepost/milepostlaw11.DistBothWays", spec := "distBothWays", unfollowed := true, recurses := true, apart := false }
def DistBothWaysSaid : Prop := distBothWaysRow.holds Try.pinned (OpenSpec.ofChange distBothWaysSpec)

/-- ITS FALSE NEIGHBOUR: 'it returns false'. Refute it at one input. -/
def distBothWaysWrong : ChangeSpec := { name := "distBothWays", fn := fun _ => fun
  | [d1, d2, d3] => { results := [.lit (.bool false)], args := [d1, d2, d3] }
  | _ => none }
def DistBothWaysWrongFalsely : Prop := distBothWaysRow.holds Try.pinned (OpenSpec.ofChange distBothWaysWrong)

/-- 'milepostlaw12.LeastTells': WHATEVER THE INPUT: true; the input reads as it did. -/
def leastTellsSpec : ChangeSpec := { name := "leastTells", fn := fun _ => fun
  | [d1, d2, d3, d4] => { results := [.lit (.bool true)], args := [d1, d2, d3, d4] }
  | _ => none }
def leastTellsRow : OpenClaim := { program := "ytjopiefojicblaa", sum := "7a274facb18970d612e89a3b7f83b6010f3cf5313ecb00d3e558180a8424722b", func := "milepost/milepostlaw12.LeastTells", spec := "leastTells", unfollowed := true, recurses := true, apart := false }
def LeastTellsSaid : Prop := leastTellsRow.holds Try.pinned (OpenSpec.ofChange leastTellsSpec)

/-- ITS FALSE NEIGHBOUR: 'it returns false'. Refute it at one input. -/
def leastTellsWrong : ChangeSpec := { name := "leastTells", fn := fun _ => fun
  | [d1, d2, d3, d4] => { results := [.lit (.bool false)], args := [d1, d2, d3, d4] }
  | _ => none }
def LeastTellsWrongFalsely : Prop := leastTellsRow.holds Try.pinned (OpenSpec.ofChange leastTellsWrong)

/-- 'milepostlaw12.LeastWay': WHATEVER THE INPUT: true; the input reads as it did. -/
def leastWaySpec : ChangeSpec := { name := "leastWay", fn := fun _ => fun
  | [d1, d2, d3, d4] => { results := [.lit (.bool true)], args := [d1, d2, d3, d4] }
  | _ => none }
def leastWayRow : OpenClaim := { program := "ytjopiefojicblaa", sum := "7a274facb18970d612e89a3b7f83b6010f3cf5313ecb00d3e558180a8424722b", func := "milepost/milepostlaw12.LeastWay", spec := "leastWay", unfollowed := true, recurses := true, apart := false }
def LeastWaySaid : Prop := leastWayRow.holds Try.pinned (OpenSpec.ofChange leastWaySpec)

/-- ITS FALSE NEIGHBOUR: 'it returns false'. Refute it at one input. -/
def leastWayWrong : ChangeSpec := { name := "leastWay", fn := fun _ => fun
  | [d1, d2, d3, d4] => { results := [.lit (.bool false)], args := [d1, d2, d3, d4] }
  | _ => none }
def LeastWayWrongFalsely : Prop := leastWayRow.holds Try.pinned (OpenSpec.ofChange leastWayWrong)

/-- 'milepostlaw12.LeastFirst': WHATEVER THE INPUT: true; the input reads as it did. -/
def leastFirstSpec : ChangeSpec := { name := "leastFirst", fn := fun _ => fun
  | [d1, d2, d3] => { results := [.lit (.bool true)], args := [d1, d2, d3] }
  | _ => none }
def leastFirstRow : OpenClaim := { program := "ytjopiefojicblaa", sum := "7a274facb18970d612e89a3b7f83b6010f3cf5313ecb00d3e558180a8424722b", func := "milepost/milepostlaw12.LeastFirst", spec := "leastFirst", unfollowed := true, recurses := true, apart := false }
def LeastFirstSaid : Prop := leastFirstRow.holds Try.pinned (OpenSpec.ofChange leastFirstSpec)

/-- ITS FALSE NEIGHBOUR: 'it returns false'. Refute it at one input. -/
def leastFirstWrong : ChangeSpec := { name := "leastFirst", fn := fun _ => fun
  | [d1, d2, d3] => { results := [.lit (.bool false)], args := [d1, d2, d3] }
  | _ => none }
def LeastFirstWrongFalsely : Prop := leastFirstRow.holds Try.pinned (OpenSpec.ofChange leastFirstWrong)

/-- 'milepostlaw12.LeastShut': WHATEVER THE INPUT: true; the input reads as it did. -/
def leastShutSpec : ChangeSpec := { name := "leastShut", fn := fun _ => fun
  | [d1, d2, d3, d4] => { results := [.lit (.bool true)], args := [d1, d2, d3, d4] }
  | _ => none }
def leastShutRow : OpenClaim := { program := "ytjopiefojicblaa", sum := "7a274facb18970d612e89a3b7f83b6010f3cf5313ecb00d3e558180a8424722b", func := "milepost/milepostlaw12.LeastShut", spec := "leastShut", unfollowed := true, recurses := true, apart := false }
def LeastShutSaid : Prop := leastShutRow.holds Try.pinned (OpenSpec.ofChange leastShutSpec)

/-- ITS FALSE NEIGHBOUR: 'it returns false'. Refute it at one input. -/
def leastShutWrong : ChangeSpec := { name := "leastShut", fn := fun _ => fun
  | [d1, d2, d3, d4] => { results := [.lit (.bool false)], args := [d1, d2, d3, d4] }
  | _ => none }
def LeastShutWrongFalsely : Prop := leastShutRow.holds Try.pinned (OpenSpec.ofChange leastShutWrong)

/-- 'milepostlaw19.DetourTells': WHATEVER THE INPUT: true; the input reads as it did. -/
def detourTellsSpec : ChangeSpec := { name := "detourTells", fn := fun _ => fun
  | [d1, d2, d3, d4] => { results := [.lit (.bool true)], args := [d1, d2, d3, d4] }
  | _ => none }
def detourTellsRow : OpenClaim := { program := "ytjopiefojicblaa", sum := "7a274facb18970d612e89a3b7f83b6010f3cf5313ecb00d3e558180a8424722b", func := "milepost/milepostlaw19.DetourTells", spec := "detourTells", unfollowed := true, recurses := true, apart := false }
def DetourTellsSaid : Prop := detourTellsRow.holds Try.pinned (OpenSpec.ofChange detourTellsSpec)

/-- ITS FALSE NEIGHBOUR: 'it returns false'. Refute it at one input. -/
def detourTellsWrong : ChangeSpec := { name := "detourTells", fn := fun _ => fun
  | [d1, d2, d3, d4] => { results := [.lit (.bool false)], args := [d1, d2, d3, d4] }
  | _ => none }
def DetourTellsWrongFalsely : Prop := detourTellsRow.holds Try.pinned (OpenSpec.ofChange detourTellsWrong)

/-- 'milepostlaw19.DetourMeets': WHATEVER THE INPUT: true; the input reads as it did. -/
def detourMeetsSpec : ChangeSpec := { name := "detourMeets", fn := fun _ => fun
  | [d1, d2, d3, d4] => { results := [.lit (.bool true)], args := [d1, d2, d3, d4] }
  | _ => none }
def detourMeetsRow : OpenClaim := { program := "ytjopiefojicblaa", sum := "7a274facb18970d612e89a3b7f83b6010f3cf5313ecb00d3e558180a8424722b", func := "milepost/milepostlaw19.DetourMeets", spec := "detourMeets", unfollowed := true, recurses := true, apart := false }
def DetourMeetsSaid : Prop := detourMeetsRow.holds Try.pinned (OpenSpec.ofChange detourMeetsSpec)

/-- ITS FALSE NEIGHBOUR: 'it returns false'. Refute it at one input. -/
def detourMeetsWrong : ChangeSpec := { name := "detourMeets", fn := fun _ => fun
  | [d1, d2, d3, d4] => { results := [.lit (.bool false)], args := [d1, d2, d3, d4] }
  | _ => none }
def DetourMeetsWrongFalsely : Prop := detourMeetsRow.holds Try.pinned (OpenSpec.ofChange detourMeetsWrong)

/-- 'milepostlaw19.DetourNone': WHATEVER THE INPUT: true; the input reads as it did. -/
def detourNoneSpec : ChangeSpec := { name := "detourNone", fn := fun _ => fun
  | [d1, d2, d3] => { results := [.lit (.bool true)], args := [d1, d2, d3] }
  | _ => none }
def detourNoneRow : OpenClaim := { program := "ytjopiefojicblaa", sum := "7a274facb18970d612e89a3b7f83b6010f3cf5313ecb00d3e558180a8424722b", func := "milepost/milepostlaw19.DetourNone", spec := "detourNone", unfollowed := true, recurses := true, apart := false }
def DetourNoneSaid : Prop := detourNoneRow.holds Try.pinned (OpenSpec.ofChange detourNoneSpec)

/-- ITS FALSE NEIGHBOUR: 'it returns false'. Refute it at one input. -/
def detourNoneWrong : ChangeSpec := { name := "detourNone", fn := fun _ => fun
  | [d1, d2, d3] => { results := [.lit (.bool false)], args := [d1, d2, d3] }
  | _ => none }
def DetourNoneWrongFalsely : Prop := detourNoneRow.holds Try.pinned (OpenSpec.ofChange detourNoneWrong)

/-- 'milepostlaw19.DetourAll': WHATEVER THE INPUT: true; the input reads as it did. -/
def detourAllSpec : ChangeSpec := { name := "detourAll", fn := fun _ => fun
  | [d1, d2, d3] => { results := [.lit (.bool true)], args := [d1, d2, d3] }
  | _ => none }
def detourAllRow : OpenClaim := { program := "ytjopiefojicblaa", sum := "7a274facb18970d612e89a3b7f83b6010f3cf5313ecb00d3e558180a8424722b", func := "milepost/milepostlaw19.DetourAll", spec := "detourAll", unfollowed := true, recurses := true, apart := false }
def DetourAllSaid : Prop := detourAllRow.holds Try.pinned (OpenSpec.ofChange detourAllSpec)

/-- ITS FALSE NEIGHBOUR: 'it returns false'. Refute it at one input. -/
def detourAllWrong : ChangeSpec := { name := "detourAll", fn := fun _ => fun
  | [d1, d2, d3] => { results := [.lit (.bool false)], args := [d1, d2, d3] }
  | _ => none }
def DetourAllWrongFalsely : Prop := detourAllRow.holds Try.pinned (OpenSpec.ofChange detourAllWrong)

/- THE SECOND FORM. 'bulk': how many values and letters a reading holds, each counted each time it is reached (what is shared counts as often as it is met; a slice's spare places count too). A statement '..UptoSaid' is the law's where the arguments, and the package variables that the reading takes, are together of bulk at most 1048576: NARROWER than '..Said'. Prove '..Said' where nothing that the law and all that it calls make is longer than what came in: it says more and counts as full. Else prove '..UptoSaid'. A law counts once. -/
mutual
def uptoBulk {H : Type} : DataW H → Nat
  | .lit (.string bytes) => bytes.length + 1
  | .lit _ => 1
  | .nil => 1
  | .ptr d => uptoBulk d + 1
  | .slice elems spare => uptoBulkAll elems + uptoBulkAll spare + 1
  | .agg parts => uptoBulkAll parts + 1
  | .iface _ d => uptoBulk d + 1
  | .map entries => uptoBulkEntries entries + 1
  | .held _ => 1
def uptoBulkAll {H : Type} : List (DataW H) → Nat
  | [] => 0
  | d :: r => uptoBulk d + uptoBulkAll r
def uptoBulkEntries {H : Type} : List (Lit × DataW H) → Nat
  | [] => 0
  | x :: r => uptoBulkEntry x + uptoBulkEntries r
def uptoBulkEntry {H : Type} : Lit × DataW H → Nat
  | (.string bytes, d) => bytes.length + uptoBulk d + 1
  | (_, d) => uptoBulk d + 1
 end
def uptoSmall : (H : Type) → List (DataW H) → Bool := fun _ ds => decide (uptoBulkAll ds ≤ 1048576)
def OpenSpec.upto (s : _root_.Go.ChangeSpec) : _root_.Go.OpenSpec := { _root_.Go.OpenSpec.ofChange s with cond := some uptoSmall }

/-- 'milepostlaw11.DistTells', WHERE WHAT IT READS IS OF BULK AT MOST 1048576: true; the input reads as it did. -/
def distTellsUptoRow : OpenClaim := { program := "ytjopiefojicblaa", sum := "7a274facb18970d612e89a3b7f83b6010f3cf5313ecb00d3e558180a8424722b", func := "milepost/milepostlaw11.DistTells", spec := "distTells", unfollowed := true, recurses := true, apart := false, narrowed := true }
def DistTellsUptoSaid : Prop := distTellsUptoRow.holds Try.pinned (OpenSpec.upto distTellsSpec)

/-- 'milepostlaw11.DistBest', WHERE WHAT IT READS IS OF BULK AT MOST 1048576: true; the input reads as it did. -/
def distBestUptoRow : OpenClaim := { program := "ytjopiefojicblaa", sum := "7a274facb18970d612e89a3b7f83b6010f3cf5313ecb00d3e558180a8424722b", func := "milepost/milepostlaw11.DistBest", spec := "distBest", unfollowed := true, recurses := true, apart := false, narrowed := true }
def DistBestUptoSaid : Prop := distBestUptoRow.holds Try.pinned (OpenSpec.upto distBestSpec)

/-- 'milepostlaw11.DistMore', WHERE WHAT IT READS IS OF BULK AT MOST 1048576: true; the input reads as it did. -/
def distMoreUptoRow : OpenClaim := { program := "ytjopiefojicblaa", sum := "7a274facb18970d612e89a3b7f83b6010f3cf5313ecb00d3e558180a8424722b", func := "milepost/milepostlaw11.DistMore", spec := "distMore", unfollowed := true, recurses := true, apart := false, narrowed := true }
def DistMoreUptoSaid : Prop := distMoreUptoRow.holds Try.pinned (OpenSpec.upto distMoreSpec)

/-- 'milepostlaw11.DistBothWays', WHERE WHAT IT READS IS OF BULK AT MOST 1048576: true; the input reads as it did. -/
def distBothWaysUptoRow : OpenClaim := { program := "ytjopiefojicblaa", sum := "7a274facb18970d612e89a3b7f83b6010f3cf5313ecb00d3e558180a8424722b", func := "milepost/milepostlaw11.DistBothWays", spec := "distBothWays", unfollowed := true, recurses := true, apart := false, narrowed := true }
def DistBothWaysUptoSaid : Prop := distBothWaysUptoRow.holds Try.pinned (OpenSpec.upto distBothWaysSpec)

/-- 'milepostlaw12.LeastTells', WHERE WHAT IT READS IS OF BULK AT MOST 1048576: true; the input reads as it did. -/
def leastTellsUptoRow : OpenClaim := { program := "ytjopiefojicblaa", sum := "7a274facb18970d612e89a3b7f83b6010f3cf5313ecb00d3e558180a8424722b", func := "milepost/milepostlaw12.LeastTells", spec := "leastTells", unfollowed := true, recurses := true, apart := false, narrowed := true }
def LeastTellsUptoSaid : Prop := leastTellsUptoRow.holds Try.pinned (OpenSpec.upto leastTellsSpec)

/-- 'milepostlaw12.LeastWay', WHERE WHAT IT READS IS OF BULK AT MOST 1048576: true; the input reads as it did. -/
def leastWayUptoRow : OpenClaim := { program := "ytjopiefojicblaa", sum := "7a274facb18970d612e89a3b7f83b6010f3cf5313ecb00d3e558180a8424722b", func := "milepost/milepostlaw12.LeastWay", spec := "leastWay", unfollowed := true, recurses := true, apart := false, narrowed := true }
def LeastWayUptoSaid : Prop := leastWayUptoRow.holds Try.pinned (OpenSpec.upto leastWaySpec)

/-- 'milepostlaw12.LeastFirst', WHERE WHAT IT READS IS OF BULK AT MOST 1048576: true; the input reads as it did. -/
def leastFirstUptoRow : OpenClaim := { program := "ytjopiefojicblaa", sum := "7a274facb18970d612e89a3b7f83b6010f3cf5313ecb00d3e558180a8424722b", func := "milepost/milepostlaw12.LeastFirst", spec := "leastFirst", unfollowed := true, recurses := true, apart := false, narrowed := true }
def LeastFirstUptoSaid : Prop := leastFirstUptoRow.holds Try.pinned (OpenSpec.upto leastFirstSpec)

/-- 'milepostlaw12.LeastShut', WHERE WHAT IT READS IS OF BULK AT MOST 1048576: true; the input reads as it did. -/
def leastShutUptoRow : OpenClaim := { program := "ytjopiefojicblaa", sum := "7a274facb18970d612e89a3b7f83b6010f3cf5313ecb00d3e558180a8424722b", func := "milepost/milepostlaw12.LeastShut", spec := "leastShut", unfollowed := true, recurses := true, apart := false, narrowed := true }
def LeastShutUptoSaid : Prop := leastShutUptoRow.holds Try.pinned (OpenSpec.upto leastShutSpec)

/-- 'milepostlaw19.DetourTells', WHERE WHAT IT READS IS OF BULK AT MOST 1048576: true; the input reads as it did. -/
def detourTellsUptoRow : OpenClaim := { program := "ytjopiefojicblaa", sum := "7a274facb18970d612e89a3b7f83b6010f3cf5313ecb00d3e558180a8424722b", func := "milepost/milepostlaw19.DetourTells", spec := "detourTells", unfollowed := true, recurses := true, apart := false, narrowed := true }
def DetourTellsUptoSaid : Prop := detourTellsUptoRow.holds Try.pinned (OpenSpec.upto detourTellsSpec)

/-- 'milepostlaw19.DetourMeets', WHERE WHAT IT READS IS OF BULK AT MOST 1048576: true; the input reads as it did. -/
def detourMeetsUptoRow : OpenClaim := { program := "ytjopiefojicblaa", sum := "7a274facb18970d612e89a3b7f83b6010f3cf5313ecb00d3e558180a8424722b", func := "milepost/milepostlaw19.DetourMeets", spec := "detourMeets", unfollowed := true, recurses := true, apart := false, narrowed := true }
def DetourMeetsUptoSaid : Prop := detourMeetsUptoRow.holds Try.pinned (OpenSpec.upto detourMeetsSpec)

/-- 'milepostlaw19.DetourNone', WHERE WHAT IT READS IS OF BULK AT MOST 1048576: true; the input reads as it did. -/
def detourNoneUptoRow : OpenClaim := { program := "ytjopiefojicblaa", sum := "7a274facb18970d612e89a3b7f83b6010f3cf5313ecb00d3e558180a8424722b", func := "milepost/milepostlaw19.DetourNone", spec := "detourNone", unfollowed := true, recurses := true, apart := false, narrowed := true }
def DetourNoneUptoSaid : Prop := detourNoneUptoRow.holds Try.pinned (OpenSpec.upto detourNoneSpec)

/-- 'milepostlaw19.DetourAll', WHERE WHAT IT READS IS OF BULK AT MOST 1048576: true; the input reads as it did. -/
def detourAllUptoRow : OpenClaim := { program := "ytjopiefojicblaa", sum := "7a274facb18970d612e89a3b7f83b6010f3cf5313ecb00d3e558180a8424722b", func := "milepost/milepostlaw19.DetourAll", spec := "detourAll", unfollowed := true, recurses := true, apart := false, narrowed := true }
def DetourAllUptoSaid : Prop := detourAllUptoRow.holds Try.pinned (OpenSpec.upto detourAllSpec)

end Rows
end Go.Proofs.Ytjopiefojicblaa
