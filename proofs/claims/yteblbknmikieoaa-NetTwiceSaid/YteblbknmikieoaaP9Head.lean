/- Slimmed by this session: what nothing names is struck out. -/
import Derived.Test.YteblbknmikieoaaP9Eval
import Derived.Test.YteblbknmikieoaaXb65
namespace Go.Proofs.Yteblbknmikieoaa.P9
open Go.RowKit Go.Proofs.YteblbknmikieoaaW.PrintWords Go.Proofs.YteblbknmikieoaaW.PrintMore Go.Proofs.Yteblbknmikieoaa.PBits Go.Proofs.Yteblbknmikieoaa.PVec Go.Proofs.Yteblbknmikieoaa.Xb
set_option linter.unusedVariables false
set_option linter.unusedSimpArgs false
theorem head09 : Ev (fun k => w9_head.f k) true := Ev.of w9_head.mono (k := 40) (by decide +kernel)
end Go.Proofs.Yteblbknmikieoaa.P9
