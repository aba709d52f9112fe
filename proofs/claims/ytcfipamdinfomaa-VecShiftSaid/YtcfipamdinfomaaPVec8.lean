/- What the law's live question of layer 8 comes to; sums, products and parts of numbers of so many bits. -/
import Derived.Test.YtcfipamdinfomaaPVec
import Derived.Test.YtcfipamdinfomaaXb27
namespace Go.Proofs.Ytcfipamdinfomaa.PVec8
open Go.RowKit Go.Proofs.YtcfipamdinfomaaW.PrintWords Go.Proofs.YtcfipamdinfomaaW.PrintMore Go.Proofs.Ytcfipamdinfomaa.PBits Go.Proofs.Ytcfipamdinfomaa.PVec Go.Proofs.Ytcfipamdinfomaa.Xb
section
variable {k p q r n lo x y c wb : Int}
theorem do_add' (hk0 : 0 ≤ k) (hk : k ≤ 31) (hx : Num_ k x) (hy : Num_ k y) : vec_Do.f 9 k p q r n lo x y c wb = some ((x + y) % P2 k) := by
  have h := p2_le (m := 31) hk
  have h2 : P2 31 = 2147483648 := rfl
  have h3 := hx.1
  have h4 := hx.2
  have h5 := hy.1
  have h6 := hy.2
  rw [do_add hk0 (by omega), w64 (by omega) (by omega)]
theorem do_sub' (hk0 : 0 ≤ k) (hk : k ≤ 31) (hx : Num_ k x) (hy : Num_ k y) : vec_Do.f 10 k p q r n lo x y c wb = some ((x - y) % P2 k) := by
  have h := p2_le (m := 31) hk
  have h2 : P2 31 = 2147483648 := rfl
  have h3 := hx.1
  have h4 := hx.2
  have h5 := hy.1
  have h6 := hy.2
  rw [do_sub hk0 (by omega), w64 (by omega) (by omega)]
theorem do_mul' (hk0 : 0 ≤ k) (hk : k ≤ 31) (hx : Num_ k x) (hy : Num_ k y) : vec_Do.f 11 k p q r n lo x y c wb = some (x * y % P2 k) := by
  have h := p2_le (m := 31) hk
  have h2 : P2 31 = 2147483648 := rfl
  have h3 := hx.1
  have h4 := hx.2
  have h5 := hy.1
  have h6 := hy.2
  have h7 : x * y ≤ 2147483648 * 2147483648 := Int.mul_le_mul (by omega) (by omega) h5 (by omega)
  have h8 : 0 ≤ x * y := Int.mul_nonneg h3 h5
  rw [do_mul hk0 (by omega), w64 (by omega) (by omega)]
theorem num_mod (a k : Int) : Num_ k (a % P2 k) := by
  have h := p2_pos k
  exact ⟨Int.emod_nonneg a (by omega), Int.emod_lt_of_pos a h⟩
theorem num_zero (k : Int) : Num_ k 0 := ⟨by omega, p2_pos k⟩
theorem sum_back {P x y : Int} (h0 : 0 ≤ x) (h1 : x < P) (h2 : 0 ≤ y) (h3 : y < P) : ((x + y) % P - y) % P = x := by
  by_cases h : x + y < P
  · rw [md_lt (a := x + y) (by omega) h, md_lt (by omega) (by omega)]
    omega
  · rw [md_ge (a := x + y) (by omega) (by omega), md_neg (by omega) (by omega)]
    omega
end
theorem kw16 {a : Int} (h0 : 0 ≤ a) (h1 : a ≤ 255) : wrap64 (Int.tmod (wrap64 a) 16 + 1) = a % 16 + 1 := by
  rw [w64 (n := a) (by omega) (by omega), tmodn h0, w64 (by omega) (by omega)]
theorem kw15 {a : Int} (h0 : 0 ≤ a) (h1 : a ≤ 255) : wrap64 (Int.tmod (wrap64 a) 15 + 2) = a % 15 + 2 := by
  rw [w64 (n := a) (by omega) (by omega), tmodn h0, w64 (by omega) (by omega)]
theorem head08 : Ev (fun k => proofmarklaw08_head.f k) true := by
  unfold proofmarklaw08_head.f
  refine Ev.bindc (f := fun k t => _) (a := 15) (by rw [do_sub (by decide) (by decide), w64 (by decide) (by decide)]; rfl) ?_
  refine Ev.ite_pos (by trivial) ?_
  refine Ev.bindc (f := fun k t => _) (a := 83) (by rw [do_cat (by decide) (by decide) (by decide) ⟨by decide, by decide⟩ (by decide)]; rfl) ?_
  refine Ev.ite_pos (by trivial) ?_
  refine Ev.bindc (f := fun k t => _) (a := 2) (by rw [do_slice (by decide) (by decide) (by decide) (by decide) (by decide)]; rfl) ?_
  refine Ev.ite_pos (by trivial) ?_
  refine Ev.bindc (f := fun k t => _) (a := 1) (by rw [do_redand (by decide) (by decide)]; rfl) ?_
  refine Ev.ite_pos (by trivial) ?_
  refine Ev.bindc (f := fun k t => _) (a := 9) (by rw [do_mux]; rfl) ?_
  refine Ev.ite_pos (by trivial) ?_
  refine Ev.bindc (f := fun k t => _) (a := 15) (mask_f (by decide) (by decide)) ?_
  refine Ev.ite_pos (by trivial) ?_
  refine Ev.bindc (f := fun k t => _) (a := 0) (mask_f (by decide) (by decide)) ?_
  refine Ev.ite_pos (by trivial) ?_
  refine Ev.bind (f := fun k t => _) (bits_ev 6 4 (by decide) (by decide)) ?_
  refine Ev.bind (f := fun k t => _) (same_ev [false, true, true, false] (by decide)) ?_
  refine Ev.ite_pos (by trivial) ?_
  refine Ev.bind (f := fun k t => _) (num_ev [false, true, true, false] (by decide)) ?_
  exact Ev.now _
end Go.Proofs.Ytcfipamdinfomaa.PVec8
