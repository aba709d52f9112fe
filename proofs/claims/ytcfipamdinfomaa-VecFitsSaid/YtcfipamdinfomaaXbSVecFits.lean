/- Printed by this session's program xprint.py (over the kit's print): the Go functions named below come to the Lean functions of the same names, whatever the world. -/
import Derived.Test.YtcfipamdinfomaaXbOpens
import Derived.Test.YtcfipamdinfomaaXb36
namespace Go.Proofs.Ytcfipamdinfomaa.Xb
open Go.RowKit Go.Proofs.YtcfipamdinfomaaW.PrintWords Go.Proofs.YtcfipamdinfomaaW.PrintLast Go.Proofs.YtcfipamdinfomaaW.PrintMore
attribute [local go_sem] max2_int min2_int max_two min_two max_three min_three max_four min_four   -- for this text's walks alone
set_option linter.unusedVariables false
set_option linter.unusedSimpArgs false

def proofmarklaw08_VecFits.Pure : Prop := ∀ (x0 : S24), B24 x0 → ∃ k, proofmarklaw08_VecFits.f k x0.f0 x0.f1 x0.f2 x0.f3 x0.f4 x0.f5 = some true
end Go.Proofs.Ytcfipamdinfomaa.Xb
