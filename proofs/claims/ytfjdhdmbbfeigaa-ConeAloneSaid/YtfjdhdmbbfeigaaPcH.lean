/- The live question, whose answer is fixed. -/
import Derived.Test.YtfjdhdmbbfeigaaPl
import Derived.Test.YtfjdhdmbbfeigaaF
namespace Go.Proofs.Ytfjdhdmbbfeigaa.Am
set_option linter.unusedVariables false
set_option maxRecDepth 100000
theorem head16 : law16_head big = some (true, ()) := by kernel_rfl
end Go.Proofs.Ytfjdhdmbbfeigaa.Am
