/- The pure statement of VecSums: sums, differences and products of numbers of so many bits. -/
import Derived.Test.YtcfipamdinfomaaXbSVecSums
import Derived.Test.YtcfipamdinfomaaPVec8
namespace Go.Proofs.Ytcfipamdinfomaa.Pure
open Go.RowKit Go.Proofs.YtcfipamdinfomaaW.PrintWords Go.Proofs.YtcfipamdinfomaaW.PrintMore Go.Proofs.Ytcfipamdinfomaa.PBits Go.Proofs.Ytcfipamdinfomaa.PVec Go.Proofs.Ytcfipamdinfomaa.PVec8 Go.Proofs.Ytcfipamdinfomaa.Xb
theorem VecSums : proofmarklaw08_VecSums.Pure := by
  intro x0 x1 x2 w0 w1 w2
  have b0 := lit_u16 w0
  have b1 := lit_u16 w1
  have b2 := lit_u8 w2
  refine Ev.rounds (r := true) ?_
  unfold proofmarklaw08_VecSums.f
  rw [kw16 b2.1 b2.2, w64 (n := x0) (by omega) (by omega), w64 (n := x1) (by omega) (by omega)]
  have hk : 1 ≤ x2 % 16 + 1 ∧ x2 % 16 + 1 ≤ 16 := by omega
  generalize x2 % 16 + 1 = k at hk ⊢
  clear b2 w2
  have k0 : 0 ≤ k := by omega
  have k1 : k ≤ 62 := by omega
  have k2 : k ≤ 31 := by omega
  refine Ev.bind (f := fun k t => _) head08 ?_
  refine Ev.bindc (f := fun k t => _) (rmask_f k0 k1) ?_
  refine Ev.bindc (f := fun k t => _) (rmask_f k0 k1) ?_
  have m0 := and_mask (a := x0) k0 k1
  have m1 := and_mask (a := x1) k0 k1
  rw [m0, m1]
  have hx := num_mod x0 k
  have hy := num_mod x1 k
  generalize x0 % P2 k = x at hx m0 ⊢
  generalize x1 % P2 k = y at hy m1 ⊢
  refine Ev.bindc (f := fun k t => _) (do_add' k0 k2 hx hy) ?_
  refine Ev.bindc (f := fun k t => _) (rmask_f k0 k1) ?_
  rw [and_mask (a := 2) k0 k1, m0, m1]
  refine Ev.ite_pos (by trivial) ?_
  have e1 := sum_back hx.1 hx.2 hy.1 hy.2
  refine Ev.bindc (f := fun k t => _) (do_sub' k0 k2 (num_mod (x + y) k) hy) ?_
  refine Ev.ite_pos e1 ?_
  refine Ev.bindc (f := fun k t => _) (do_add' k0 k2 hy hx) ?_
  refine Ev.ite_pos (by rw [Int.add_comm]) ?_
  refine Ev.bindc (f := fun k t => _) (do_add' k0 k2 hx (num_zero k)) ?_
  refine Ev.ite_pos (by rw [Int.add_zero]; exact md_lt hx.1 hx.2) ?_
  refine Ev.bindc (f := fun k t => _) (do_sub' k0 k2 hx hx) ?_
  refine Ev.ite_pos (by rw [Int.sub_self]; exact md_lt (by omega) (p2_pos k)) ?_
  by_cases h : k = 1
  · refine Ev.ite_pos h ?_
    exact Ev.now _
  · refine Ev.ite_neg h ?_
    have h4 := p2_le (k := 2) (m := k) (by omega)
    have h5 : P2 2 = 4 := rfl
    have e2 : (2 : Int) % P2 k = 2 := md_lt (by omega) (by omega)
    rw [e2]
    refine Ev.bindc (f := fun k t => _) (do_mul' k0 k2 hx ⟨by omega, by omega⟩) ?_
    refine Ev.bindc (f := fun k t => _) (do_add' k0 k2 hx hx) ?_
    refine Ev.const ?_
    rw [show x * 2 = x + x by omega, beq_self_eq_true]
end Go.Proofs.Ytcfipamdinfomaa.Pure
