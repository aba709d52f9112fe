/- Slimmed by this session: what nothing names is struck out. -/
import Derived.Test.YtdfbnlmjnollnaaXbOpens
import Derived.Test.YtdfbnlmjnollnaaXb30
namespace Go.Proofs.Ytdfbnlmjnollnaa.Xb
open Go.RowKit Go.Proofs.YtdfbnlmjnollnaaW.PrintWords Go.Proofs.YtdfbnlmjnollnaaW.PrintLast Go.Proofs.YtdfbnlmjnollnaaW.PrintMore
attribute [local go_sem] max2_int min2_int max_two min_two max_three min_three max_four min_four
set_option linter.unusedVariables false
set_option linter.unusedSimpArgs false
def proofmarklaw17_CnfOnly.Pure : Prop := ∀ (x0 : Int) (x1 : List (S53)) (x2 : List Bool) (x3 : List Int), (Lit.int .u8 x0).wf = true → (x1.length ≤ maxLen ∧ ∀ z ∈ x1, B53 z) → (x2.length ≤ maxLen ∧ ∀ z ∈ x2, True) → (x3.length ≤ maxLen ∧ ∀ z ∈ x3, (Lit.int .u16 z).wf = true) → ∃ k, proofmarklaw17_CnfOnly.f k x0 x1 x2 x3 = some true
end Go.Proofs.Ytdfbnlmjnollnaa.Xb
