/- The pure statement of VecOrder: of two numbers one is below the other, or they are one. -/
import Derived.Test.YtcfipamdinfomaaXbSVecOrder
import Derived.Test.YtcfipamdinfomaaPVec8
namespace Go.Proofs.Ytcfipamdinfomaa.Pure
open Go.RowKit Go.Proofs.YtcfipamdinfomaaW.PrintWords Go.Proofs.YtcfipamdinfomaaW.PrintMore Go.Proofs.Ytcfipamdinfomaa.PBits Go.Proofs.Ytcfipamdinfomaa.PVec Go.Proofs.Ytcfipamdinfomaa.PVec8 Go.Proofs.Ytcfipamdinfomaa.Xb
theorem VecOrder : proofmarklaw08_VecOrder.Pure := by
  intro x0 x1 x2 w0 w1 w2
  have b0 := lit_u16 w0
  have b1 := lit_u16 w1
  have b2 := lit_u8 w2
  refine Ev.rounds (r := true) ?_
  unfold proofmarklaw08_VecOrder.f
  rw [kw16 b2.1 b2.2, w64 (n := x0) (by omega) (by omega), w64 (n := x1) (by omega) (by omega)]
  have hk : 1 ≤ x2 % 16 + 1 ∧ x2 % 16 + 1 ≤ 16 := by omega
  generalize x2 % 16 + 1 = k at hk ⊢
  clear b2 w2
  have k0 : 0 ≤ k := by omega
  have k1 : k ≤ 62 := by omega
  refine Ev.bind (f := fun k t => _) head08 ?_
  refine Ev.bindc (f := fun k t => _) (rmask_f k0 k1) ?_
  refine Ev.bindc (f := fun k t => _) (rmask_f k0 k1) ?_
  generalize Go.bits .and .i64 x0 (P2 k - 1) = x
  generalize Go.bits .and .i64 x1 (P2 k - 1) = y
  refine Ev.bindc (f := fun k t => _) do_lt ?_
  refine Ev.bindc (f := fun k t => _) do_lt ?_
  refine Ev.bindc (f := fun k t => _) do_le ?_
  refine Ev.bindc (f := fun k t => _) do_eq ?_
  refine Ev.bindc (f := fun k t => _) do_ne ?_
  refine Ev.ite_pos (by trivial) ?_
  rcases Int.lt_trichotomy x y with h | h | h
  · have h2 : ¬ (y < x) := by omega
    have h3 : x ≤ y := by omega
    have h4 : ¬ (x = y) := by omega
    simp only [if_pos h, if_neg h2, if_pos h3, if_neg h4, decide_eq_true h]
    refine Ev.ite_pos (by simp [wrap64]) ?_
    refine Ev.ite_pos (by simp [wrap64]) ?_
    refine Ev.ite_pos (by simp [wrap64]) ?_
    exact Ev.now _
  · have h2 : ¬ (y < x) := by omega
    have h3 : x ≤ y := by omega
    have h4 : ¬ (x < y) := by omega
    simp only [if_pos h, if_neg h2, if_pos h3, if_neg h4, decide_eq_false h4]
    refine Ev.ite_pos (by simp [wrap64]) ?_
    refine Ev.ite_pos (by simp [wrap64]) ?_
    refine Ev.ite_pos (by simp [wrap64]) ?_
    exact Ev.now _
  · have h2 : ¬ (x = y) := by omega
    have h3 : ¬ (x ≤ y) := by omega
    have h4 : ¬ (x < y) := by omega
    simp only [if_pos h, if_neg h2, if_neg h3, if_neg h4, decide_eq_false h4]
    refine Ev.ite_pos (by simp [wrap64]) ?_
    refine Ev.ite_pos (by simp [wrap64]) ?_
    refine Ev.ite_pos (by simp [wrap64]) ?_
    exact Ev.now _
end Go.Proofs.Ytcfipamdinfomaa.Pure
