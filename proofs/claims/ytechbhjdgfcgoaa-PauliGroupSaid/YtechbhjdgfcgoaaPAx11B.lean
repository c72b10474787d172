/- Printed for this claim by a program of the session: contracts of Go functions: a call answers what its Lean function tells, wherever that tells something. -/
import Derived.Test.YtechbhjdgfcgoaaPAx0
import Derived.Test.YtechbhjdgfcgoaaPAx1
import Derived.Test.YtechbhjdgfcgoaaPAx2
import Derived.Test.YtechbhjdgfcgoaaPAx3
import Derived.Test.YtechbhjdgfcgoaaPAx7
namespace Go.Proofs.Ytechbhjdgfcgoaa.PA
open Go.RowKit Go.Proofs.YtechbhjdgfcgoaaW.PrintWords Go.Proofs.YtechbhjdgfcgoaaW.PrintLast Go.Proofs.YtechbhjdgfcgoaaW.PrintMore
set_option linter.unusedVariables false
set_option linter.unusedSimpArgs false

@[reducible] def Blk25i64u64u64i64 (x0 x1 x2 x3 : Int) : Obj := .cells #[.int .i64 x0, .int .u64 x1, .int .u64 x2, .int .i64 x3] 25 (0, 0)
end Go.Proofs.Ytechbhjdgfcgoaa.PA
