/- Slimmed by this session: what nothing names is struck out. -/
import Derived.Test.YteblbknmikieoaaXbOpens
import Derived.Test.YteblbknmikieoaaXbK6
namespace Go.Proofs.Yteblbknmikieoaa.Xb
open Go.RowKit Go.Proofs.YteblbknmikieoaaW.PrintWords Go.Proofs.YteblbknmikieoaaW.PrintLast Go.Proofs.YteblbknmikieoaaW.PrintMore
set_option linter.unusedVariables false
set_option linter.unusedSimpArgs false
def w9_NetTells.Pure : Prop := ∀ (x0 : S27) (x1 : S27) (x2 : List Int) (x3 : List Int), B27 x0 → B27 x1 → (x2.length ≤ maxLen ∧ ∀ z ∈ x2, (Lit.int .u16 z).wf = true) → (x3.length ≤ maxLen ∧ ∀ z ∈ x3, (Lit.int .u16 z).wf = true) → ∃ k, w9_NetTells.f k x0.f0 x0.f1 x0.f2 x0.f3 x0.f4 x1.f0 x1.f1 x1.f2 x1.f3 x1.f4 x2 x3 = some true
end Go.Proofs.Yteblbknmikieoaa.Xb
