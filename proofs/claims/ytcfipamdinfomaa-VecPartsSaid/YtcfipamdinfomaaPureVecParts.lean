/- The pure statement of VecParts: slices of a number, put together, are the number. -/
import Derived.Test.YtcfipamdinfomaaXbSVecParts
import Derived.Test.YtcfipamdinfomaaPVec8
namespace Go.Proofs.Ytcfipamdinfomaa.Pure
open Go.RowKit Go.Proofs.YtcfipamdinfomaaW.PrintWords Go.Proofs.YtcfipamdinfomaaW.PrintMore Go.Proofs.Ytcfipamdinfomaa.PBits Go.Proofs.Ytcfipamdinfomaa.PVec Go.Proofs.Ytcfipamdinfomaa.PVec8 Go.Proofs.Ytcfipamdinfomaa.Xb
theorem VecParts : proofmarklaw08_VecParts.Pure := by
  intro x0 x1 x2 w0 w1 w2
  have b0 := lit_u16 w0
  have b1 := lit_u8 w1
  have b2 := lit_u8 w2
  refine Ev.rounds (r := true) ?_
  unfold proofmarklaw08_VecParts.f
  rw [kw15 b1.1 b1.2, w64 (n := x0) (by omega) (by omega), w64 (n := x2) (by omega) (by omega)]
  have hk : 2 ≤ x1 % 15 + 2 ∧ x1 % 15 + 2 ≤ 16 := by omega
  generalize x1 % 15 + 2 = k at hk ⊢
  clear b1 w1
  rw [w64 (n := k - 1) (by omega) (by omega), tmodn b2.1]
  have hl0 := Int.emod_nonneg x2 (by omega : k - 1 ≠ 0)
  have hl1 := Int.emod_lt_of_pos x2 (by omega : 0 < k - 1)
  rw [w64 (n := x2 % (k - 1) + 1) (by omega) (by omega)]
  have hl : 1 ≤ x2 % (k - 1) + 1 ∧ x2 % (k - 1) + 1 ≤ k - 1 := by omega
  generalize x2 % (k - 1) + 1 = lo at hl ⊢
  clear hl0 hl1 b2 w2
  rw [w64 (n := k - lo) (by omega) (by omega), w64 (n := lo - 1) (by omega) (by omega)]
  have k0 : 0 ≤ k := by omega
  have k1 : k ≤ 62 := by omega
  refine Ev.bind (f := fun k t => _) head08 ?_
  refine Ev.bindc (f := fun k t => _) (rmask_f k0 k1) ?_
  rw [and_mask (a := x0) k0 k1]
  have hx := num_mod x0 k
  generalize x0 % P2 k = x at hx ⊢
  have hP := p2_pos lo
  have hQ := p2_pos (k - lo)
  have hPQ : P2 k = P2 lo * P2 (k - lo) := by rw [← p2_add (by omega) (by omega)]; congr 1; omega
  have e0 : ∀ z : Int, z / P2 0 = z := fun z => by rw [p2_zero, Int.ediv_one]
  have e1 : k - 1 - lo + 1 = k - lo := by omega
  have e2 : lo - 1 - 0 + 1 = lo := by omega
  have e3 : x / P2 lo % P2 (k - lo) = x / P2 lo := md_lt (Int.ediv_nonneg hx.1 (by omega)) (Int.ediv_lt_of_lt_mul hP (by rw [Int.mul_comm, ← hPQ]; exact hx.2))
  have e4 : x / P2 lo * P2 lo + x % P2 lo = x := by rw [Int.mul_comm]; exact Int.mul_ediv_add_emod x (P2 lo)
  have h16 := p2_16 hk.2
  have hx1 := hx.2
  refine Ev.ite_neg (by omega) ?_
  refine Ev.bindc (f := fun k t => _) (do_slice (by omega) (by omega) (by omega) (by omega) (by omega)) ?_
  rw [e1, e3]
  refine Ev.bindc (f := fun k t => _) (do_slice (by omega) (by omega) (by omega) (by omega) (by omega)) ?_
  rw [e0, e2]
  refine Ev.bindc (f := fun k t => _) (do_cat (by omega) (by omega) (Int.ediv_nonneg hx.1 (by omega)) (num_mod x lo) (by omega)) ?_
  rw [e4]
  refine Ev.ite_pos (by trivial) ?_
  refine Ev.ite_pos (by trivial) ?_
  refine Ev.bindc (f := fun k t => _) (do_slice (by omega) (by omega) (by omega) (by omega) (by omega)) ?_
  rw [e0, e2]
  refine Ev.ite_pos (by trivial) ?_
  refine Ev.bindc (f := fun k t => _) do_redor ?_
  refine Ev.bindc (f := fun k t => _) do_eq ?_
  refine Ev.const ?_
  by_cases h : x = 0
  · rw [if_pos h, if_pos h]
    simp [wrap64]
  · rw [if_neg h, if_neg h]
    simp [wrap64]
end Go.Proofs.Ytcfipamdinfomaa.Pure
