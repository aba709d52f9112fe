/- The pure statement of VecBits: a number is that of its bits, and goes bit by bit. -/
import Derived.Test.YtcfipamdinfomaaXbSVecBits
import Derived.Test.YtcfipamdinfomaaP8All
namespace Go.Proofs.Ytcfipamdinfomaa.Pure
open Go.RowKit Go.Proofs.YtcfipamdinfomaaW.PrintWords Go.Proofs.YtcfipamdinfomaaW.PrintMore Go.Proofs.Ytcfipamdinfomaa.PBits Go.Proofs.Ytcfipamdinfomaa.PVec Go.Proofs.Ytcfipamdinfomaa.PVec8 Go.Proofs.Ytcfipamdinfomaa.Xb
theorem bits_loop (k x y : Nat) (hk : k ≤ 62) (hx : x < 2 ^ k) : ∀ d (i : Nat), k - i = d → i ≤ k →
    Ev (fun r => proofmarklaw08_VecBits.l0 r true (k : Int) (bitsL x k) (bitsL y k) (bitsL (x &&& y) k) (bitsL (x ||| y) k) (bitsL (x ^^^ y) k) (bitsL (2 ^ k - (x + 1)) k) (i : Int)) true := by
  intro d
  induction d with
  | zero =>
    intro i hd hi
    have z : ¬ ((i : Int) < (k : Int)) := by omega
    exact Ev.step (f := fun _ => some true) (fun r => by simp only [proofmarklaw08_VecBits.l0]; rw [if_neg z]) (Ev.now _)
  | succ d ih =>
    intro i hd hi
    have hlt : i < k := by omega
    have z : (i : Int) < (k : Int) := by omega
    have z2 : (0 : Int) ≤ (i : Int) := by omega
    refine Ev.step (fun r => ?_) (ih (i + 1) (by omega) (by omega))
    simp only [proofmarklaw08_VecBits.l0, bitsL_len]
    rw [if_pos z, if_pos z2, if_pos z, if_pos z, bitsL_rd hlt, bitsL_rd hlt, bitsL_rd hlt, bitsL_rd hlt, bitsL_rd hlt, bitsL_rd hlt, Nat.testBit_and, Nat.testBit_or, Nat.testBit_xor, Nat.testBit_two_pow_sub_succ hx, succ64 (by omega)]
    rw [decide_eq_true hlt]
    cases x.testBit i <;> cases y.testBit i <;> simp [z]
theorem VecBits : proofmarklaw08_VecBits.Pure := by
  intro x0 x1 x2 x3 w0 w1 w2 _w3
  have b0 := lit_u16 w0
  have b1 := lit_u16 w1
  have b2 := lit_u8 w2
  refine Ev.rounds (r := true) ?_
  unfold proofmarklaw08_VecBits.f
  rw [kw16 b2.1 b2.2, w64 (n := x0) (by omega) (by omega), w64 (n := x1) (by omega) (by omega)]
  have hk : 1 ≤ x2 % 16 + 1 ∧ x2 % 16 + 1 ≤ 16 := by omega
  generalize x2 % 16 + 1 = k at hk ⊢
  clear b2 w2
  have k0 : 0 ≤ k := by omega
  have k1 : k ≤ 62 := by omega
  refine Ev.bind (f := fun k t => _) head08 ?_
  refine Ev.bindc (f := fun k t => _) (rmask_f k0 k1) ?_
  refine Ev.bindc (f := fun k t => _) (rmask_f k0 k1) ?_
  rw [and_mask (a := x0) k0 k1, and_mask (a := x1) k0 k1]
  have hx := num_mod x0 k
  have hy := num_mod x1 k
  have h16 := p2_16 hk.2
  generalize x0 % P2 k = x at hx ⊢
  generalize x1 % P2 k = y at hy ⊢
  obtain ⟨m, rfl⟩ := Int.eq_ofNat_of_zero_le k0
  obtain ⟨n, rfl⟩ := Int.eq_ofNat_of_zero_le hx.1
  obtain ⟨v, rfl⟩ := Int.eq_ofNat_of_zero_le hy.1
  have hp : P2 (m : Int) = ((2 ^ m : Nat) : Int) := by unfold P2; rw [Int.toNat_natCast]
  have hn : n < 2 ^ m := by have := hx.2; omega
  have hv : v < 2 ^ m := by have := hy.2; omega
  have hm : 2 ^ m ≤ 65536 := by omega
  have hm1 : m ≤ 16 := by omega
  refine Ev.bind (f := fun k t => _) (bits_ev n m (by omega) (by omega)) ?_
  refine Ev.bind (f := fun k t => _) (bits_ev v m (by omega) (by omega)) ?_
  refine Ev.ite_pos (by rw [bitsL_len]) ?_
  refine Ev.ite_pos (by rw [bitsL_len]) ?_
  refine Ev.bind (f := fun k t => _) (num_ev (bitsL n m) (by rw [bitsL_len]; omega)) ?_
  refine Ev.ite_pos (by rw [num_bits hn]) ?_
  by_cases hl : (x3.length : Int) > 32
  · refine Ev.ite_pos hl ?_
    refine Ev.step (f := fun _ => some true) (fun r => ?_) (Ev.now _)
    simp only [proofmarklaw08_VecBits.j0, if_true, decide_eq_true hl]
  refine Ev.ite_neg hl ?_
  have hl32 : x3.length ≤ 32 := by omega
  have hnum := numL_lt x3
  have h32 : 2 ^ x3.length ≤ 2 ^ 32 := Nat.pow_le_pow_right (by omega) hl32
  refine Ev.bind (f := fun k t => _) (num_ev x3 (by omega)) ?_
  refine Ev.bind (f := fun k t => _) (bits_ev (numL x3) x3.length (by omega) (by omega)) ?_
  rw [bits_num]
  refine Ev.bind (f := fun k t => _) (same_ev x3 (by omega)) ?_
  have c1 : Go.bits .and .i64 (n : Int) (v : Int) % P2 (m : Int) = ((n &&& v : Nat) : Int) := by
    rw [and_nat _ _ (by omega) (by omega)]
    have : n &&& v < 2 ^ m := Nat.and_lt_two_pow n hv
    exact md_lt (by omega) (by omega)
  have c2 : Go.bits .or .i64 (n : Int) (v : Int) % P2 (m : Int) = ((n ||| v : Nat) : Int) := by
    rw [or_nat _ _ (by omega) (by omega)]
    have : n ||| v < 2 ^ m := Nat.or_lt_two_pow hn hv
    exact md_lt (by omega) (by omega)
  have c3 : Go.bits .xor .i64 (n : Int) (v : Int) % P2 (m : Int) = ((n ^^^ v : Nat) : Int) := by
    rw [xor_nat _ _ (by omega) (by omega)]
    have : n ^^^ v < 2 ^ m := Nat.xor_lt_two_pow hn hv
    exact md_lt (by omega) (by omega)
  have c4 : P2 (m : Int) - 1 - (n : Int) = ((2 ^ m - (n + 1) : Nat) : Int) := by omega
  have l1 : n &&& v < 2 ^ m := Nat.and_lt_two_pow n hv
  have l2 : n ||| v < 2 ^ m := Nat.or_lt_two_pow hn hv
  have l3 : n ^^^ v < 2 ^ m := Nat.xor_lt_two_pow hn hv
  have hi := do_inv (p := 0) (q := 0) (r := 0) (n := 0) (lo := 0) (y := 0) (c := 0) (wb := (m : Int)) k0 k1 hx
  rw [c4] at hi
  have ha := do_and (p := 0) (q := 0) (r := 0) (n := 0) (lo := 0) (x := (n : Int)) (y := (v : Int)) (c := 0) (wb := (m : Int)) k0 k1
  have ho := do_or (p := 0) (q := 0) (r := 0) (n := 0) (lo := 0) (x := (n : Int)) (y := (v : Int)) (c := 0) (wb := (m : Int)) k0 k1
  have hxo := do_xor (p := 0) (q := 0) (r := 0) (n := 0) (lo := 0) (x := (n : Int)) (y := (v : Int)) (c := 0) (wb := (m : Int)) k0 k1
  rw [c1] at ha
  rw [c2] at ho
  rw [c3] at hxo
  refine Ev.step (f := fun r => _) (fun r => by simp only [proofmarklaw08_VecBits.j0]; rw [if_neg (by decide)]) ?_
  refine Ev.bindc (f := fun k t => _) ha ?_
  refine Ev.bind (f := fun k t => _) (bits_ev _ m (by omega) (by omega)) ?_
  refine Ev.bindc (f := fun k t => _) ho ?_
  refine Ev.bind (f := fun k t => _) (bits_ev _ m (by omega) (by omega)) ?_
  refine Ev.bindc (f := fun k t => _) hxo ?_
  refine Ev.bind (f := fun k t => _) (bits_ev _ m (by omega) (by omega)) ?_
  refine Ev.bindc (f := fun k t => _) hi ?_
  refine Ev.bind (f := fun k t => _) (bits_ev _ m (by omega) (by omega)) ?_
  refine Ev.ite_pos (by rw [bitsL_len]) ?_
  refine Ev.ite_pos (by rw [bitsL_len]) ?_
  refine Ev.ite_pos (by rw [bitsL_len]) ?_
  have e : (((bitsL (2 ^ m - (n + 1)) m).length : Int) != (m : Int)) = false := by rw [bitsL_len]; simp
  rw [e]
  refine Ev.step (f := fun r => _) (fun r => by simp only [proofmarklaw08_VecBits.j1]; rw [if_neg (by decide)]) ?_
  exact bits_loop m n v (by omega) hn m 0 (by omega) (by omega)
end Go.Proofs.Ytcfipamdinfomaa.Pure
