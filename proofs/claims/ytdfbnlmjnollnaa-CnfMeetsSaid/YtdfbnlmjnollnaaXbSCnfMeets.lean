/- Printed by this session's program xprint.py (over the kit's print): the Go functions named below come to the Lean functions of the same names, whatever the world. -/
import Derived.Test.YtdfbnlmjnollnaaXbOpens
import Derived.Test.YtdfbnlmjnollnaaXb29
namespace Go.Proofs.Ytdfbnlmjnollnaa.Xb
open Go.RowKit Go.Proofs.YtdfbnlmjnollnaaW.PrintWords Go.Proofs.YtdfbnlmjnollnaaW.PrintLast Go.Proofs.YtdfbnlmjnollnaaW.PrintMore
attribute [local go_sem] max2_int min2_int max_two min_two max_three min_three max_four min_four   -- for this text's walks alone
set_option linter.unusedVariables false
set_option linter.unusedSimpArgs false

def proofmarklaw17_CnfMeets.Pure : Prop := ∀ (x0 : Int) (x1 : List (S53)) (x2 : List Bool), (Lit.int .u8 x0).wf = true → (x1.length ≤ maxLen ∧ ∀ z ∈ x1, B53 z) → (x2.length ≤ maxLen ∧ ∀ z ∈ x2, True) → ∃ k, proofmarklaw17_CnfMeets.f k x0 x1 x2 = some true
end Go.Proofs.Ytdfbnlmjnollnaa.Xb
