/- walk.Valid, Weight, End, Cmp; the document's Walk, Weight, End, Cmp. -/
import Derived.Test.YtjopiefojicblaaStrides
import Derived.Test.YtjopiefojicblaaTurnsAll
import Derived.Test.YtjopiefojicblaaRefs
import Derived.BigQuiet
set_option linter.unusedVariables false
set_option linter.unusedSimpArgs false
namespace Go.Proofs.Ytjopiefojicblaa
open Go.ChangeShapes Go.WideShapes Go.ChangeAt Go.RowKit
end Go.Proofs.Ytjopiefojicblaa
