/- milepostalike.Round, as a call that leaves all as it was. -/
import Derived.Test.YtjopiefojicblaaBase
set_option linter.unusedVariables false
namespace Go.Proofs.Ytjopiefojicblaa
open Go.RowKit
theorem round_still {k n : Int} (hk : (Lit.int .i64 k).wf = true) (hn : 0 < n) (hn2 : n ≤ 4611686018427387904) (w : World) :
    Calls Try.prog 25 #[.int .i64 k, .int .i64 n] w fun e w' => e = .returned (.int .i64 (k % n)) ∧ w' = w := (round_any hk hn hn2 w).mono fun e w' h => ⟨h.1, h.2.symm⟩
end Go.Proofs.Ytjopiefojicblaa
