/- Printed by this session's program xprint.py (over the kit's print): the Go functions named below come to the Lean functions of the same names, whatever the world. -/
import Derived.Test.YtcfipamdinfomaaXbOpens
import Derived.Test.YtcfipamdinfomaaXb39
namespace Go.Proofs.Ytcfipamdinfomaa.Xb
open Go.RowKit Go.Proofs.YtcfipamdinfomaaW.PrintWords Go.Proofs.YtcfipamdinfomaaW.PrintLast Go.Proofs.YtcfipamdinfomaaW.PrintMore
attribute [local go_sem] max2_int min2_int max_two min_two max_three min_three max_four min_four   -- for this text's walks alone
set_option linter.unusedVariables false
set_option linter.unusedSimpArgs false

def proofmarklaw08_VecBits.Pure : Prop := ∀ (x0 : Int) (x1 : Int) (x2 : Int) (x3 : List Bool), (Lit.int .u16 x0).wf = true → (Lit.int .u16 x1).wf = true → (Lit.int .u8 x2).wf = true → (x3.length ≤ maxLen ∧ ∀ z ∈ x3, True) → ∃ k, proofmarklaw08_VecBits.f k x0 x1 x2 x3 = some true
end Go.Proofs.Ytcfipamdinfomaa.Xb
