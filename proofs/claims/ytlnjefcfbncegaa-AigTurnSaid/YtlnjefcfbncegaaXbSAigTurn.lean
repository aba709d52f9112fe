/- Slimmed by this session: what nothing names is struck out. -/
import Derived.Test.YtlnjefcfbncegaaXbOpens
import Derived.Test.YtlnjefcfbncegaaXb38
namespace Go.Proofs.Ytlnjefcfbncegaa.Xb
open Go.RowKit Go.Proofs.YtlnjefcfbncegaaW.PrintWords Go.Proofs.YtlnjefcfbncegaaW.PrintLast Go.Proofs.YtlnjefcfbncegaaW.PrintMore
attribute [local go_sem] max2_int min2_int max_two min_two max_three min_three max_four min_four
set_option linter.unusedVariables false
set_option linter.unusedSimpArgs false
def proofmarklaw13_AigTurn.Pure : Prop := ∀ (x0 : Int) (x1 : List (S28)) (x2 : S28) (x3 : List Bool), (Lit.int .u8 x0).wf = true → (x1.length ≤ maxLen ∧ ∀ z ∈ x1, B28 z) → B28 x2 → (x3.length ≤ maxLen ∧ ∀ z ∈ x3, True) → ∃ k, proofmarklaw13_AigTurn.f k x0 x1 x2.f0 x2.f1 x2.f2 x2.f3 x3 = some true
end Go.Proofs.Ytlnjefcfbncegaa.Xb
