/- Slimmed by this session: what nothing names is struck out. -/
import Derived.Test.YteblbknmikieoaaPBits
import Derived.Test.YteblbknmikieoaaXbK3
import Derived.Test.YteblbknmikieoaaXbK1
namespace Go.Proofs.Yteblbknmikieoaa.PVec
open Go.RowKit Go.Proofs.YteblbknmikieoaaW.PrintWords Go.Proofs.YteblbknmikieoaaW.PrintMore Go.Proofs.Yteblbknmikieoaa.PBits Go.Proofs.Yteblbknmikieoaa.Xb
def P2 (k : Int) : Int := ((2 ^ k.toNat : Nat) : Int)
theorem p2_pos (k : Int) : 0 < P2 k := by
  have : 0 < 2 ^ k.toNat := Nat.pow_pos (by omega)
  unfold P2
  omega
theorem p2_le {k m : Int} (h : k ≤ m) : P2 k ≤ P2 m := by
  have : 2 ^ k.toNat ≤ 2 ^ m.toNat := Nat.pow_le_pow_right (by omega) (by omega)
  unfold P2
  omega
theorem p2_62 {k : Int} (h : k ≤ 62) : P2 k ≤ 4611686018427387904 := p2_le (m := 62) h
theorem p2_16 {k : Int} (h : k ≤ 16) : P2 k ≤ 65536 := p2_le (m := 16) h
theorem p2_add {a b : Int} (ha : 0 ≤ a) (hb : 0 ≤ b) : P2 (a + b) = P2 a * P2 b := by
  unfold P2
  rw [show (a + b).toNat = a.toNat + b.toNat by omega, Nat.pow_add]
  push_cast
  rfl
theorem p2_one : P2 1 = 2 := rfl
theorem shl_p2 {a k : Int} (h1 : k ≤ 62) (ha : 0 ≤ a) (hb : a * P2 k < 9223372036854775808) : shl .i64 a k = a * P2 k := by
  have e : min k.toNat IntKind.i64.bits = k.toNat := Nat.min_eq_left (by show k.toNat ≤ 64; omega)
  have e2 : ((2 : Int) ^ k.toNat) = P2 k := by unfold P2; push_cast; rfl
  unfold shl
  rw [e, e2]
  have := p2_pos k
  exact wrapi _ (Int.mul_nonneg ha (by omega)) hb
theorem shr_p2 {a k : Int} (h1 : k ≤ 62) : shr .i64 a k = a / P2 k := by
  have e : min k.toNat IntKind.i64.bits = k.toNat := Nat.min_eq_left (by show k.toNat ≤ 64; omega)
  have e2 : ((2 : Int) ^ k.toNat) = P2 k := by unfold P2; push_cast; rfl
  unfold shr
  rw [e, e2]
theorem mask_f {k : Int} (h0 : 0 ≤ k) (h1 : k ≤ 62) : vec_Mask.f k = some (P2 k - 1) := by
  have h2 := p2_62 h1
  have h3 := p2_pos k
  unfold vec_Mask.f
  rw [if_pos h0, shl_p2 h1 (by omega) (by omega), Int.one_mul, w64 (by omega) (by omega)]
theorem rmask_f {k : Int} (h0 : 0 ≤ k) (h1 : k ≤ 62) : r8_Mask.f k = some (P2 k - 1) := mask_f h0 h1
theorem md_neg {a P : Int} (h0 : -P ≤ a) (h1 : a < 0) : a % P = a + P := by
  have e : a = (a + P) + P * (-1) := by omega
  rw [e, Int.add_mul_emod_self_left, Int.emod_eq_of_lt (by omega) (by omega)]
  omega
theorem and_mask {a k : Int} (h0 : 0 ≤ k) (h1 : k ≤ 62) : Go.bits .and .i64 a (P2 k - 1) = a % P2 k := by
  have h2 := p2_62 h1
  have h3 := p2_pos k
  have e : P2 k - 1 = ((2 ^ k.toNat - 1 : Nat) : Int) := by unfold P2 at h3 ⊢; omega
  have hm := Int.emod_lt_of_pos a h3
  have hm0 := Int.emod_nonneg a (by omega : P2 k ≠ 0)
  show IntKind.i64.wrap ((BitVec.ofInt 64 a &&& BitVec.ofInt 64 (P2 k - 1)).toNat : Int) = _
  rw [e, BitVec.toNat_and, toN _ (by unfold P2 at h2; omega), BitVec.toNat_ofInt, Nat.and_two_pow_sub_one_eq_mod]
  have e3 : (((a % (2 ^ 64 : Nat)).toNat % 2 ^ k.toNat : Nat) : Int) = a % P2 k := by
    rw [Int.natCast_emod, Int.toNat_of_nonneg (by omega)]
    exact Int.emod_emod_of_dvd a (by
      have : (2 ^ k.toNat : Nat) ∣ 2 ^ 64 := Nat.pow_dvd_pow 2 (by omega)
      exact Int.natCast_dvd_natCast.2 this)
  rw [e3]
  exact wrapi _ hm0 (by omega)
theorem xor_neg {a : Int} (h0 : 0 ≤ a) (h1 : a < 9223372036854775808) : Go.bits .xor .i64 (-1) a = -1 - a := by
  obtain ⟨n, rfl⟩ := Int.eq_ofNat_of_zero_le h0
  show IntKind.i64.wrap ((BitVec.ofInt 64 (-1) ^^^ BitVec.ofInt 64 (n : Int)).toNat : Int) = _
  rw [show BitVec.ofInt 64 (-1) = BitVec.allOnes 64 by decide, BitVec.allOnes_xor, BitVec.toNat_not, toN n (by omega), IntKind.wrap_i64]
  omega
def Num_ (k x : Int) : Prop := 0 ≤ x ∧ x < P2 k
section
variable {k p q r n lo x y c wb : Int}
theorem do_lit : vec_Do.f 1 k p q r n lo x y c wb = some n := rfl
theorem do_inv (hk0 : 0 ≤ k) (hk : k ≤ 62) (hx : Num_ k x) : vec_Do.f 3 k p q r n lo x y c wb = some (P2 k - 1 - x) := by
  have h := p2_62 hk
  show (vec_works_2.f x y).bind (fun t => (vec_Mask.f k).bind fun m => some (Go.bits .and .i64 t m)) = _
  unfold vec_works_2.f
  rw [mask_f hk0 hk]
  simp only [Option.bind_some]
  have hx0 := hx.1
  have hx1 := hx.2
  rw [xor_neg hx0 (by omega), and_mask hk0 hk, md_neg (by omega) (by omega)]
  congr 1
  omega
theorem do_redor : vec_Do.f 4 k p q r n lo x y c wb = some (if x = 0 then 0 else 1) := by
  show (vec_works_3.f x y).bind (fun t => vec_flag.f t) = _
  unfold vec_works_3.f vec_flag.f
  simp only [Option.bind_some]
  by_cases h : x = 0
  · rw [if_pos h, h]
    rfl
  · rw [if_neg h, if_pos (by simpa using h)]
theorem do_redand (h0 : 0 ≤ lo) (h1 : lo ≤ 62) : vec_Do.f 5 k p q r n lo x y c wb = some (if x = P2 lo - 1 then 1 else 0) := by
  show vec_works_4.f 5 k p q r n lo x y c wb = _
  unfold vec_works_4.f vec_flag.f
  rw [mask_f h0 h1]
  simp only [Option.bind_some]
  by_cases h : x = P2 lo - 1
  · rw [if_pos h, if_pos (by simpa using h)]
    rfl
  · rw [if_neg h, if_neg (by simpa using h)]
    rfl
theorem do_and (hk0 : 0 ≤ k) (hk : k ≤ 62) : vec_Do.f 6 k p q r n lo x y c wb = some (Go.bits .and .i64 x y % P2 k) := by
  show (vec_works_5.f x y).bind (fun t => (vec_Mask.f k).bind fun m => some (Go.bits .and .i64 t m)) = _
  unfold vec_works_5.f
  rw [mask_f hk0 hk]
  simp only [Option.bind_some, and_mask hk0 hk]
theorem do_or (hk0 : 0 ≤ k) (hk : k ≤ 62) : vec_Do.f 7 k p q r n lo x y c wb = some (Go.bits .or .i64 x y % P2 k) := by
  show (vec_works_6.f x y).bind (fun t => (vec_Mask.f k).bind fun m => some (Go.bits .and .i64 t m)) = _
  unfold vec_works_6.f
  rw [mask_f hk0 hk]
  simp only [Option.bind_some, and_mask hk0 hk]
theorem do_xor (hk0 : 0 ≤ k) (hk : k ≤ 62) : vec_Do.f 8 k p q r n lo x y c wb = some (Go.bits .xor .i64 x y % P2 k) := by
  show (vec_works_7.f x y).bind (fun t => (vec_Mask.f k).bind fun m => some (Go.bits .and .i64 t m)) = _
  unfold vec_works_7.f
  rw [mask_f hk0 hk]
  simp only [Option.bind_some, and_mask hk0 hk]
theorem do_add (hk0 : 0 ≤ k) (hk : k ≤ 62) : vec_Do.f 9 k p q r n lo x y c wb = some (wrap64 (x + y) % P2 k) := by
  show (vec_works_8.f x y).bind (fun t => (vec_Mask.f k).bind fun m => some (Go.bits .and .i64 t m)) = _
  unfold vec_works_8.f
  rw [mask_f hk0 hk]
  simp only [Option.bind_some, and_mask hk0 hk]
theorem do_sub (hk0 : 0 ≤ k) (hk : k ≤ 62) : vec_Do.f 10 k p q r n lo x y c wb = some (wrap64 (x - y) % P2 k) := by
  show (vec_works_9.f x y).bind (fun t => (vec_Mask.f k).bind fun m => some (Go.bits .and .i64 t m)) = _
  unfold vec_works_9.f
  rw [mask_f hk0 hk]
  simp only [Option.bind_some, and_mask hk0 hk]
theorem do_mul (hk0 : 0 ≤ k) (hk : k ≤ 62) : vec_Do.f 11 k p q r n lo x y c wb = some (wrap64 (x * y) % P2 k) := by
  show (vec_works_10.f x y).bind (fun t => (vec_Mask.f k).bind fun m => some (Go.bits .and .i64 t m)) = _
  unfold vec_works_10.f
  rw [mask_f hk0 hk]
  simp only [Option.bind_some, and_mask hk0 hk]
theorem flag_f (b : Bool) : vec_flag.f b = some (if b = true then 1 else 0) := by
  unfold vec_flag.f
  split <;> rfl
theorem do_eq : vec_Do.f 12 k p q r n lo x y c wb = some (if x = y then 1 else 0) := by
  show (vec_works_11.f x y).bind (fun t => vec_flag.f t) = _
  unfold vec_works_11.f
  simp only [Option.bind_some, flag_f, beq_iff_eq]
theorem do_ne : vec_Do.f 13 k p q r n lo x y c wb = some (if x = y then 0 else 1) := by
  show (vec_works_12.f x y).bind (fun t => vec_flag.f t) = _
  unfold vec_works_12.f
  simp only [Option.bind_some, flag_f, bne_iff_ne]
  by_cases h : x = y
  · rw [if_pos h, if_neg (by simpa using h)]
  · rw [if_neg h, if_pos h]
theorem do_lt : vec_Do.f 14 k p q r n lo x y c wb = some (if x < y then 1 else 0) := by
  show (vec_works_13.f x y).bind (fun t => vec_flag.f t) = _
  unfold vec_works_13.f
  simp only [Option.bind_some, flag_f, decide_eq_true_eq]
theorem do_le : vec_Do.f 15 k p q r n lo x y c wb = some (if x ≤ y then 1 else 0) := by
  show (vec_works_14.f x y).bind (fun t => vec_flag.f t) = _
  unfold vec_works_14.f
  simp only [Option.bind_some, flag_f, decide_eq_true_eq]
theorem do_mux : vec_Do.f 16 k p q r n lo x y c wb = some (if x = 1 then y else c) := by
  show vec_works_15.f 16 k p q r n lo x y c wb = _
  unfold vec_works_15.f
  split <;> rfl
theorem or_add {a b w : Int} (ha : 0 ≤ a) (hb : Num_ w b) (hs : a * P2 w + b < 9223372036854775808) : Go.bits .or .i64 (a * P2 w) b = a * P2 w + b := by
  obtain ⟨m, rfl⟩ := Int.eq_ofNat_of_zero_le ha
  obtain ⟨v, rfl⟩ := Int.eq_ofNat_of_zero_le hb.1
  have hv := hb.2
  unfold P2 at hv hs ⊢
  have e : (m : Int) * ((2 ^ w.toNat : Nat) : Int) = ((2 ^ w.toNat * m : Nat) : Int) := by push_cast; exact Int.mul_comm _ _
  rw [e] at hs ⊢
  have hv' : v < 2 ^ w.toNat := by omega
  rw [or_nat _ _ (by omega) (by omega), ← Nat.two_pow_add_eq_or_of_lt hv' m]
  push_cast
  rfl
theorem do_cat (hw0 : 0 ≤ wb) (hw : wb ≤ 62) (hx : 0 ≤ x) (hy : Num_ wb y) (hs : x * P2 wb + y < 9223372036854775808) : vec_Do.f 17 k p q r n lo x y c wb = some (x * P2 wb + y) := by
  have h := hy.1
  show vec_works_16.f 17 k p q r n lo x y c wb = _
  unfold vec_works_16.f
  rw [if_pos hw0, shl_p2 hw hx (by omega), or_add hx hy hs]
theorem do_slice (h0 : 0 ≤ lo) (h1 : lo ≤ 62) (hn0 : lo ≤ n + 1) (hn : n - lo ≤ 61) (_hn1 : n ≤ 1000) : vec_Do.f 18 k p q r n lo x y c wb = some (x / P2 lo % P2 (n - lo + 1)) := by
  show vec_works_17.f 18 k p q r n lo x y c wb = _
  unfold vec_works_17.f
  rw [if_pos h0, w64 (n := n - lo) (by omega) (by omega), w64 (n := n - lo + 1) (by omega) (by omega), mask_f (by omega) (by omega), shr_p2 h1]
  simp only [Option.bind_some]
  rw [and_mask (by omega) (by omega)]
end
theorem num_mod (a k : Int) : Num_ k (a % P2 k) := by
  have h := p2_pos k
  exact ⟨Int.emod_nonneg a (by omega), Int.emod_lt_of_pos a h⟩
theorem num_zero (k : Int) : Num_ k 0 := ⟨by omega, p2_pos k⟩
end Go.Proofs.Yteblbknmikieoaa.PVec
