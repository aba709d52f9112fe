/- Slimmed by this session: what nothing names is struck out. -/
import Derived.Test.YtdfbnlmjnollnaaWInv
import Derived.Test.YtdfbnlmjnollnaaWFootNe
namespace Go.Proofs.YtdfbnlmjnollnaaW.PrintWords
open Go.RowKit
end Go.Proofs.YtdfbnlmjnollnaaW.PrintWords
namespace Go.Proofs.YtdfbnlmjnollnaaW.PrintLast
section
variable {ops : Array Oper} {a : Act} {o og : Oper} {g : Nat} {t : Tmp} {u : Bool}
end
end Go.Proofs.YtdfbnlmjnollnaaW.PrintLast
