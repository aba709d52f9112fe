/- The pure statement of VecTells: what a node of any op makes, masks, bits and numbers are the document's. -/
import Derived.Test.YtcfipamdinfomaaXbSVecTells
import Derived.Test.YtcfipamdinfomaaP8All
namespace Go.Proofs.Ytcfipamdinfomaa.Pure
open Go.RowKit Go.Proofs.YtcfipamdinfomaaW.PrintWords Go.Proofs.YtcfipamdinfomaaW.PrintMore Go.Proofs.Ytcfipamdinfomaa.PBits Go.Proofs.Ytcfipamdinfomaa.PVec Go.Proofs.Ytcfipamdinfomaa.PVec8 Go.Proofs.Ytcfipamdinfomaa.PVecDo Go.Proofs.Ytcfipamdinfomaa.Xb
theorem VecTells : proofmarklaw08_VecTells.Pure := by
  intro x0 x1 w0 _w1
  have h1 := lit_u8 w0.2.1
  have h5 := lit_u8 w0.2.2.2.2.2
  obtain ⟨op, W, p, q, r, n, lo, a, b, c, wb, hev, _, y, e1, e2, _, _⟩ := made_ev x0.f0 x0.f1 x0.f2 x0.f3 x0.f4 x0.f5 (lit_u8 w0.1) h1 (lit_u32 w0.2.2.1) (lit_u32 w0.2.2.2.1) (lit_u32 w0.2.2.2.2.1) h5
  refine Ev.rounds (r := true) ?_
  unfold proofmarklaw08_VecTells.f
  rw [kw16 h1.1 h1.2, w64 (n := x0.f5) (by omega) (by omega), tmodn h5.1]
  have hk : 1 ≤ x0.f1 % 16 + 1 ∧ x0.f1 % 16 + 1 ≤ 16 := by omega
  refine Ev.bind (f := fun k t => _) head08 ?_
  by_cases hl : (x1.length : Int) > 32
  · refine Ev.ite_pos hl ?_
    exact Ev.now _
  refine Ev.ite_neg hl ?_
  refine Ev.bind (f := fun k t => _) hev ?_
  generalize x0.f1 % 16 + 1 = k at hk ⊢
  have hv : 0 ≤ x0.f5 % 33 ∧ x0.f5 % 33 ≤ 62 := by omega
  generalize x0.f5 % 33 = v at hv ⊢
  have k0 : 0 ≤ k := by omega
  have k1 : k ≤ 62 := by omega
  refine Ev.ite_pos (by trivial) ?_
  refine Ev.bindc (f := fun k t => _) e1 ?_
  refine Ev.bindc (f := fun k t => _) e2 ?_
  refine Ev.ite_pos (by trivial) ?_
  refine Ev.bindc (f := fun k t => _) (mask_f hv.1 hv.2) ?_
  refine Ev.bindc (f := fun k t => _) (rmask_f hv.1 hv.2) ?_
  refine Ev.ite_pos (by trivial) ?_
  refine Ev.bindc (f := fun k t => _) (rmask_f k0 k1) ?_
  have hx := num_mod a k
  have h16 := p2_16 hk.2
  have em : Go.bits .and .i64 a (P2 k - 1) = a % P2 k := and_mask k0 k1
  rw [em]
  generalize a % P2 k = x at hx em ⊢
  obtain ⟨m, rfl⟩ := Int.eq_ofNat_of_zero_le k0
  obtain ⟨z, rfl⟩ := Int.eq_ofNat_of_zero_le hx.1
  have hx1 := hx.2
  refine Ev.bind (f := fun k t => _) (bits_ev z m (by omega) (by omega)) ?_
  refine Ev.bindc (f := fun k t => _) (rmask_f k0 k1) ?_
  rw [em]
  refine Ev.bind (f := fun k t => _) (rbits_ev z m (by omega) (by omega)) ?_
  refine Ev.bind (f := fun k t => _) (same_ev (bitsL z m) (by rw [bitsL_len]; omega)) ?_
  refine Ev.ite_pos (by trivial) ?_
  refine Ev.bind (f := fun k t => _) (num_ev x1 (by omega)) ?_
  refine Ev.bind (f := fun k t => _) (rnum_ev x1 (by omega)) ?_
  refine Ev.const ?_
  rw [beq_self_eq_true]
end Go.Proofs.Ytcfipamdinfomaa.Pure
