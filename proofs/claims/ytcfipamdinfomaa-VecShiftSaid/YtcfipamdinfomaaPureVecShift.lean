/- The pure statement of VecShift: a number and itself, added, is it with a 0 below it, of as many bits less one. -/
import Derived.Test.YtcfipamdinfomaaXbSVecShift
import Derived.Test.YtcfipamdinfomaaPVec8
namespace Go.Proofs.Ytcfipamdinfomaa.Pure
open Go.RowKit Go.Proofs.YtcfipamdinfomaaW.PrintWords Go.Proofs.YtcfipamdinfomaaW.PrintMore Go.Proofs.Ytcfipamdinfomaa.PBits Go.Proofs.Ytcfipamdinfomaa.PVec Go.Proofs.Ytcfipamdinfomaa.PVec8 Go.Proofs.Ytcfipamdinfomaa.Xb
theorem VecShift : proofmarklaw08_VecShift.Pure := by
  intro x0 x1 w0 w1
  have b0 := lit_u16 w0
  have b1 := lit_u8 w1
  refine Ev.rounds (r := true) ?_
  unfold proofmarklaw08_VecShift.f
  rw [kw15 b1.1 b1.2, w64 (n := x0) (by omega) (by omega)]
  have hk : 2 ≤ x1 % 15 + 2 ∧ x1 % 15 + 2 ≤ 16 := by omega
  generalize x1 % 15 + 2 = k at hk ⊢
  clear b1 w1
  rw [w64 (n := k - 1) (by omega) (by omega), w64 (n := k - 2) (by omega) (by omega)]
  have k0 : 0 ≤ k := by omega
  have k1 : k ≤ 62 := by omega
  refine Ev.bind (f := fun k t => _) head08 ?_
  refine Ev.bindc (f := fun k t => _) (rmask_f k0 k1) ?_
  rw [and_mask (a := x0) k0 k1]
  have hx := num_mod x0 k
  generalize x0 % P2 k = x at hx ⊢
  have hQ := p2_pos (k - 1)
  have hP : P2 k = 2 * P2 (k - 1) := by rw [← p2_succ (by omega)]; congr 1; omega
  have e0 : ∀ z : Int, z / P2 0 = z := fun z => by rw [p2_zero, Int.ediv_one]
  have e2 : k - 2 - 0 + 1 = k - 1 := by omega
  have h16 := p2_16 hk.2
  have hm := num_mod x (k - 1)
  have hm0 := hm.1
  have hm1 := hm.2
  have hx0 := hx.1
  have hx1 := hx.2
  refine Ev.bindc (f := fun k t => _) (do_slice (by omega) (by omega) (by omega) (by omega) (by omega)) ?_
  rw [e0, e2]
  refine Ev.bindc (f := fun k t => _) (do_cat (by omega) (by omega) hm.1 ⟨by omega, p2_pos 1⟩ (by rw [p2_one]; omega)) ?_
  refine Ev.bindc (f := fun k t => _) (do_cat (by omega) (by omega) (by omega) hm (by rw [Int.zero_mul]; omega)) ?_
  refine Ev.bindc (f := fun k t => _) (do_redand (by omega) (by omega)) ?_
  refine Ev.bindc (f := fun k t => _) (do_inv k0 k1 hx) ?_
  refine Ev.bindc (f := fun k t => _) do_redor ?_
  refine Ev.ite_pos (by trivial) ?_
  refine Ev.bindc (f := fun k t => _) (do_add' k0 (by omega) hx hx) ?_
  have e5 : x % P2 (k - 1) * P2 1 + 0 = (x + x) % P2 k := by
    rw [show x + x = 2 * x by omega, hP, Int.mul_emod_mul_of_pos _ _ (by omega), p2_one]
    omega
  refine Ev.ite_pos e5 ?_
  refine Ev.ite_pos (by rw [Int.zero_mul, Int.zero_add]) ?_
  refine Ev.const ?_
  by_cases h : x = P2 k - 1
  · rw [if_pos h, if_pos (by omega)]
    simp [wrap64]
  · rw [if_neg h, if_neg (by omega)]
    simp [wrap64]
end Go.Proofs.Ytcfipamdinfomaa.Pure
