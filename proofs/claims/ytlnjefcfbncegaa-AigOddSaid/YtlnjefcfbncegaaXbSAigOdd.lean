/- Slimmed by this session: what nothing names is struck out. -/
import Derived.Test.YtlnjefcfbncegaaXbOpens
import Derived.Test.YtlnjefcfbncegaaXb37
namespace Go.Proofs.Ytlnjefcfbncegaa.Xb
open Go.RowKit Go.Proofs.YtlnjefcfbncegaaW.PrintWords Go.Proofs.YtlnjefcfbncegaaW.PrintLast Go.Proofs.YtlnjefcfbncegaaW.PrintMore
attribute [local go_sem] max2_int min2_int max_two min_two max_three min_three max_four min_four
set_option linter.unusedVariables false
set_option linter.unusedSimpArgs false
def proofmarklaw13_AigOdd.Pure : Prop := ∀ (x0 : Int) (x1 : List (S28)) (x2 : Int) (x3 : Int), (Lit.int .u8 x0).wf = true → (x1.length ≤ maxLen ∧ ∀ z ∈ x1, B28 z) → (Lit.int .u16 x2).wf = true → (Lit.int .u8 x3).wf = true → ∃ k, proofmarklaw13_AigOdd.f k x0 x1 x2 x3 = some true
end Go.Proofs.Ytlnjefcfbncegaa.Xb
