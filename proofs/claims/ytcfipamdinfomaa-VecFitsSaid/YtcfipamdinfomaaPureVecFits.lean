/- The pure statement of VecFits: what a node makes is a number of its width. -/
import Derived.Test.YtcfipamdinfomaaXbSVecFits
import Derived.Test.YtcfipamdinfomaaP8All
namespace Go.Proofs.Ytcfipamdinfomaa.Pure
open Go.RowKit Go.Proofs.YtcfipamdinfomaaW.PrintWords Go.Proofs.YtcfipamdinfomaaW.PrintMore Go.Proofs.Ytcfipamdinfomaa.PBits Go.Proofs.Ytcfipamdinfomaa.PVec Go.Proofs.Ytcfipamdinfomaa.PVec8 Go.Proofs.Ytcfipamdinfomaa.PVecDo Go.Proofs.Ytcfipamdinfomaa.Xb
theorem VecFits : proofmarklaw08_VecFits.Pure := by
  intro x0 w0
  obtain ⟨op, W, p, q, r, n, lo, a, b, c, wb, hev, hW, y, e1, _, hy0, hy1⟩ := made_ev x0.f0 x0.f1 x0.f2 x0.f3 x0.f4 x0.f5 (lit_u8 w0.1) (lit_u8 w0.2.1) (lit_u32 w0.2.2.1) (lit_u32 w0.2.2.2.1) (lit_u32 w0.2.2.2.2.1) (lit_u8 w0.2.2.2.2.2)
  have hm := mask_f (k := W) hW.1 (by omega)
  have hd : decide (y ≤ P2 W - 1) = true := decide_eq_true (by omega)
  refine Ev.rounds (r := true) ?_
  unfold proofmarklaw08_VecFits.f
  refine Ev.bind (f := fun k t => _) head08 ?_
  refine Ev.bind (f := fun k t => _) hev ?_
  refine Ev.bindc (f := fun k t => _) e1 ?_
  refine Ev.ite_pos (by trivial) ?_
  refine Ev.ite_pos hy0 ?_
  refine Ev.bindc (f := fun k t => _) hm ?_
  refine Ev.const ?_
  rw [hd]
end Go.Proofs.Ytcfipamdinfomaa.Pure
