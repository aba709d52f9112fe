/- Slimmed by this session: what nothing names is struck out. -/
import Derived.Test.YtdfbnlmjnollnaaXbOpens
import Derived.Test.YtdfbnlmjnollnaaXb31
namespace Go.Proofs.Ytdfbnlmjnollnaa.Xb
open Go.RowKit Go.Proofs.YtdfbnlmjnollnaaW.PrintWords Go.Proofs.YtdfbnlmjnollnaaW.PrintLast Go.Proofs.YtdfbnlmjnollnaaW.PrintMore
attribute [local go_sem] max2_int min2_int max_two min_two max_three min_three max_four min_four
set_option linter.unusedVariables false
set_option linter.unusedSimpArgs false
def proofmarklaw17_CnfValue.Pure : Prop := ∀ (x0 : Int) (x1 : List (S53)) (x2 : List Bool) (x3 : Int) (x4 : List Bool), (Lit.int .u8 x0).wf = true → (x1.length ≤ maxLen ∧ ∀ z ∈ x1, B53 z) → (x2.length ≤ maxLen ∧ ∀ z ∈ x2, True) → (Lit.int .u16 x3).wf = true → (x4.length ≤ maxLen ∧ ∀ z ∈ x4, True) → ∃ k, proofmarklaw17_CnfValue.f k x0 x1 x2 x3 x4 = some true
end Go.Proofs.Ytdfbnlmjnollnaa.Xb
