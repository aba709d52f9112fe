/- The live question, whose answer is fixed. -/
import Derived.Test.YtieocmcjecpgpaaPl
import Derived.Test.YtieocmcjecpgpaaF
namespace Go.Proofs.Ytieocmcjecpgpaa.Am
set_option linter.unusedVariables false
set_option maxRecDepth 100000
theorem head12 : law12_head big = some (true, ()) := by kernel_rfl
end Go.Proofs.Ytieocmcjecpgpaa.Am
