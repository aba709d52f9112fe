/- Slimmed by this session: what nothing names is struck out. -/
import Derived.Test.YteblbknmikieoaaPBits
import Derived.Test.YteblbknmikieoaaXbK3
import Derived.Test.YteblbknmikieoaaXbK1
namespace Go.Proofs.Yteblbknmikieoaa.PVec
open Go.RowKit Go.Proofs.YteblbknmikieoaaW.PrintWords Go.Proofs.YteblbknmikieoaaW.PrintMore Go.Proofs.Yteblbknmikieoaa.PBits Go.Proofs.Yteblbknmikieoaa.Xb
def P2 (k : Int) : Int := ((2 ^ k.toNat : Nat) : Int)
theorem p2_pos (k : Int) : 0 < P2 k := by
  have : 0 < 2 ^ k.toNat := Nat.pow_pos (by omega)
  unfold P2
  omega
theorem p2_le {k m : Int} (h : k ≤ m) : P2 k ≤ P2 m := by
  have : 2 ^ k.toNat ≤ 2 ^ m.toNat := Nat.pow_le_pow_right (by omega) (by omega)
  unfold P2
  omega
theorem p2_62 {k : Int} (h : k ≤ 62) : P2 k ≤ 4611686018427387904 := p2_le (m := 62) h
theorem p2_16 {k : Int} (h : k ≤ 16) : P2 k ≤ 65536 := p2_le (m := 16) h
theorem shl_p2 {a k : Int} (h1 : k ≤ 62) (ha : 0 ≤ a) (hb : a * P2 k < 9223372036854775808) : shl .i64 a k = a * P2 k := by
  have e : min k.toNat IntKind.i64.bits = k.toNat := Nat.min_eq_left (by show k.toNat ≤ 64; omega)
  have e2 : ((2 : Int) ^ k.toNat) = P2 k := by unfold P2; push_cast; rfl
  unfold shl
  rw [e, e2]
  have := p2_pos k
  exact wrapi _ (Int.mul_nonneg ha (by omega)) hb
theorem mask_f {k : Int} (h0 : 0 ≤ k) (h1 : k ≤ 62) : vec_Mask.f k = some (P2 k - 1) := by
  have h2 := p2_62 h1
  have h3 := p2_pos k
  unfold vec_Mask.f
  rw [if_pos h0, shl_p2 h1 (by omega) (by omega), Int.one_mul, w64 (by omega) (by omega)]
theorem rmask_f {k : Int} (h0 : 0 ≤ k) (h1 : k ≤ 62) : r8_Mask.f k = some (P2 k - 1) := mask_f h0 h1
section
variable {k p q r n lo x y c wb : Int}
end
end Go.Proofs.Yteblbknmikieoaa.PVec
