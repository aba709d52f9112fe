/- Slimmed by this session: what nothing names is struck out. -/
import Derived.Test.YteblbknmikieoaaXbOpens
import Derived.Test.YteblbknmikieoaaXbK6
namespace Go.Proofs.Yteblbknmikieoaa.Xb
open Go.RowKit Go.Proofs.YteblbknmikieoaaW.PrintWords Go.Proofs.YteblbknmikieoaaW.PrintLast Go.Proofs.YteblbknmikieoaaW.PrintMore
set_option linter.unusedVariables false
set_option linter.unusedSimpArgs false
def w9_NetOdd.Pure : Prop := ∀ (x0 : S27) (x1 : Int) (x2 : Int), B27 x0 → (Lit.int .u16 x1).wf = true → (Lit.int .u8 x2).wf = true → ∃ k, w9_NetOdd.f k x0.f0 x0.f1 x0.f2 x0.f3 x0.f4 x1 x2 = some true
end Go.Proofs.Yteblbknmikieoaa.Xb
