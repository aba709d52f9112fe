/- Slimmed by this session: what nothing names is struck out. -/
import Derived.Test.YtlnjefcfbncegaaWInv
import Derived.Test.YtlnjefcfbncegaaWFootNe
namespace Go.Proofs.YtlnjefcfbncegaaW.PrintWords
open Go.RowKit
end Go.Proofs.YtlnjefcfbncegaaW.PrintWords
namespace Go.Proofs.YtlnjefcfbncegaaW.PrintLast
section
variable {ops : Array Oper} {a : Act} {o og : Oper} {g : Nat} {t : Tmp} {u : Bool}
end
end Go.Proofs.YtlnjefcfbncegaaW.PrintLast
