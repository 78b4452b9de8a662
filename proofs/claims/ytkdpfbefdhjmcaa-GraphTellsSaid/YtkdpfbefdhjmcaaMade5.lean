/- The two-node graph that law 5's awake makes, and the two that are none: on lists alone. -/
import Derived.Test.YtkdpfbefdhjmcaaGraphAt
set_option linter.unusedVariables false
namespace Go.Proofs.Ytkdpfbefdhjmcaa
def aN : List (Int × Int) := [(1, 2), (0, 0)]
def aE : List (Int × Int × Int) := [(0, 1, 5), (1, 0, 6)]
def aB : List (Int × Int) := [(0, 1)]
theorem a_ok : mayB aN aE aB = true := by decide
theorem a_none : mayB [] [] [] = false := by decide
theorem a_zero : mayB [(0, 0)] [(0, 0, 0)] [] = false := by decide
end Go.Proofs.Ytkdpfbefdhjmcaa
