/- Slimmed by this session: what nothing names is struck out. -/
import Derived.Test.YtlnjefcfbncegaaXbOpens
import Derived.Test.YtlnjefcfbncegaaXb32
namespace Go.Proofs.Ytlnjefcfbncegaa.Xb
open Go.RowKit Go.Proofs.YtlnjefcfbncegaaW.PrintWords Go.Proofs.YtlnjefcfbncegaaW.PrintLast Go.Proofs.YtlnjefcfbncegaaW.PrintMore
attribute [local go_sem] max2_int min2_int max_two min_two max_three min_three max_four min_four
set_option linter.unusedVariables false
set_option linter.unusedSimpArgs false
def proofmarklaw13_AigTells.Pure : Prop := ∀ (x0 : S24) (x1 : Int) (x2 : List (S28)) (x3 : S28) (x4 : List Bool), B24 x0 → (Lit.int .u8 x1).wf = true → (x2.length ≤ maxLen ∧ ∀ z ∈ x2, B28 z) → B28 x3 → (x4.length ≤ maxLen ∧ ∀ z ∈ x4, True) → ∃ k, proofmarklaw13_AigTells.f k x0.f0 x0.f1 x1 x2 x3.f0 x3.f1 x3.f2 x3.f3 x4 = some true
end Go.Proofs.Ytlnjefcfbncegaa.Xb
