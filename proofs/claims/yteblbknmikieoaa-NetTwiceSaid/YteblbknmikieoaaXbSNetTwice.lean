/- Slimmed by this session: what nothing names is struck out. -/
import Derived.Test.YteblbknmikieoaaXbOpens
import Derived.Test.YteblbknmikieoaaXb90
namespace Go.Proofs.Yteblbknmikieoaa.Xb
open Go.RowKit Go.Proofs.YteblbknmikieoaaW.PrintWords Go.Proofs.YteblbknmikieoaaW.PrintLast Go.Proofs.YteblbknmikieoaaW.PrintMore
attribute [local go_sem] max2_int min2_int max_two min_two max_three min_three max_four min_four
set_option linter.unusedVariables false
set_option linter.unusedSimpArgs false
def w9_NetTwice.Pure : Prop := ∀ (x0 : S27) (x1 : Int) (x2 : List Int) (x3 : List Int), B27 x0 → (Lit.int .u16 x1).wf = true → (x2.length ≤ maxLen ∧ ∀ z ∈ x2, (Lit.int .u16 z).wf = true) → (x3.length ≤ maxLen ∧ ∀ z ∈ x3, (Lit.int .u16 z).wf = true) → ∃ k, w9_NetTwice.f k x0.f0 x0.f1 x0.f2 x0.f3 x0.f4 x1 x2 x3 = some true
end Go.Proofs.Yteblbknmikieoaa.Xb
