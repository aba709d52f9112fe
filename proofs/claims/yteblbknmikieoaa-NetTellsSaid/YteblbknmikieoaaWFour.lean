/- Slimmed by this session: what nothing names is struck out. -/
import Derived.Test.YteblbknmikieoaaWTab
namespace Go.Proofs.YteblbknmikieoaaW.PrintLast
section
variable {P : Program} {ops : Array Oper} {Q : Exit → Act → World → Prop} {md : Region.Mode} {S : World → Prop} {ds : List Nat} {T : Bool × List (List Nat × List Nat)}
end
end Go.Proofs.YteblbknmikieoaaW.PrintLast
