/- Slimmed by this session: what nothing names is struck out. -/
import Derived.Test.YteblbknmikieoaaWInv
import Derived.Test.YteblbknmikieoaaWFootNe
namespace Go.Proofs.YteblbknmikieoaaW.PrintWords
open Go.RowKit
end Go.Proofs.YteblbknmikieoaaW.PrintWords
namespace Go.Proofs.YteblbknmikieoaaW.PrintLast
section
variable {ops : Array Oper} {a : Act} {o og : Oper} {g : Nat} {t : Tmp} {u : Bool}
end
end Go.Proofs.YteblbknmikieoaaW.PrintLast
