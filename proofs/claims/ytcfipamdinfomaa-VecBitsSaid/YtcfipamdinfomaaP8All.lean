/- Plain facts: Go's bit operations on small naturals of 64 bits; the wrap of what fits; loops by rounds. Plain facts of numbers of so many bits: what vec.Mask, vec.Do, vec.Bits and vec.Num come to. What the law's live question of layer 8 comes to; sums, products and parts of numbers of so many bits. What the document's Do comes to, and the nodes that the law makes: Do and the document's Do make one number, of the node's width. -/
import Derived.Test.YtcfipamdinfomaaWWords
import Derived.Test.YtcfipamdinfomaaWMore
import Derived.IntWalk
import Derived.Test.YtcfipamdinfomaaXb23
import Derived.Test.YtcfipamdinfomaaXbL
import Derived.Test.YtcfipamdinfomaaXb25
import Derived.Test.YtcfipamdinfomaaXb26
import Derived.Test.YtcfipamdinfomaaXb28
import Derived.Test.YtcfipamdinfomaaXb24
import Derived.Test.YtcfipamdinfomaaXb27
import Derived.Test.YtcfipamdinfomaaXb29
import Derived.Test.YtcfipamdinfomaaXb32
import Derived.Test.YtcfipamdinfomaaXb31
import Derived.Test.YtcfipamdinfomaaXb30
import Derived.Test.YtcfipamdinfomaaXb33
import Derived.Test.YtcfipamdinfomaaXb34
namespace Go.Proofs.Ytcfipamdinfomaa.PBits
open Go.RowKit Go.Proofs.YtcfipamdinfomaaW.PrintWords Go.Proofs.YtcfipamdinfomaaW.PrintMore
theorem w64 {n : Int} (h0 : -9223372036854775808 ≤ n) (h1 : n ≤ 9223372036854775807) : wrap64 n = n := by unfold wrap64; omega
theorem succ64 {i : Nat} (h : i < 4611686018427387904) : wrap64 ((i : Int) + 1) = ((i + 1 : Nat) : Int) := by rw [w64 (by omega) (by omega)]; push_cast; rfl
theorem wrapi (n : Int) (h0 : 0 ≤ n) (h1 : n < 9223372036854775808) : IntKind.i64.wrap n = n := by rw [IntKind.wrap_i64]; omega
theorem toN (a : Nat) (ha : a < 9223372036854775808) : (BitVec.ofInt 64 (a : Int)).toNat = a := by
  rw [BitVec.ofInt_natCast, BitVec.toNat_ofNat]; exact Nat.mod_eq_of_lt (by omega)
theorem xor_nat (a b : Nat) (ha : a < 9223372036854775808) (hb : b < 9223372036854775808) : Go.bits .xor .i64 (a : Int) (b : Int) = ((a ^^^ b : Nat) : Int) := by
  have hx : a ^^^ b < 2 ^ 63 := Nat.xor_lt_two_pow (by omega) (by omega)
  show IntKind.i64.wrap ((BitVec.ofInt 64 (a : Int) ^^^ BitVec.ofInt 64 (b : Int)).toNat : Int) = _
  rw [BitVec.toNat_xor, toN a ha, toN b hb]
  exact wrapi _ (by omega) (by omega)
theorem and_nat (a b : Nat) (ha : a < 9223372036854775808) (hb : b < 9223372036854775808) : Go.bits .and .i64 (a : Int) (b : Int) = ((a &&& b : Nat) : Int) := by
  have hx : a &&& b < 2 ^ 63 := Nat.and_lt_two_pow a (by omega)
  show IntKind.i64.wrap ((BitVec.ofInt 64 (a : Int) &&& BitVec.ofInt 64 (b : Int)).toNat : Int) = _
  rw [BitVec.toNat_and, toN a ha, toN b hb]
  exact wrapi _ (by omega) (by omega)
theorem or_nat (a b : Nat) (ha : a < 9223372036854775808) (hb : b < 9223372036854775808) : Go.bits .or .i64 (a : Int) (b : Int) = ((a ||| b : Nat) : Int) := by
  have hx : a ||| b < 2 ^ 63 := Nat.or_lt_two_pow (by omega) (by omega)
  show IntKind.i64.wrap ((BitVec.ofInt 64 (a : Int) ||| BitVec.ofInt 64 (b : Int)).toNat : Int) = _
  rw [BitVec.toNat_or, toN a ha, toN b hb]
  exact wrapi _ (by omega) (by omega)
/-- A literal, turned. -/
def turn (a : Int) : Int := if a % 2 = 0 then a + 1 else a - 1
theorem nat_xor_one (a : Nat) : a ^^^ 1 = if a % 2 = 0 then a + 1 else a - 1 := by
  have h1 : (a ^^^ 1) / 2 = a / 2 := by
    have := Nat.shiftRight_xor_distrib (a := a) (b := 1) (i := 1)
    simpa [Nat.shiftRight_eq_div_pow] using this
  have h2 : (a ^^^ 1) % 2 = if a % 2 = 0 then 1 else 0 := by
    have h3 := Nat.testBit_xor a 1 0
    simp only [Nat.testBit_zero] at h3
    rcases Nat.mod_two_eq_zero_or_one a with h | h <;> rcases Nat.mod_two_eq_zero_or_one (a ^^^ 1) with h' | h' <;> simp [h, h'] at h3 ⊢
  split at h2 <;> rename_i h
  · rw [if_pos h]; omega
  · rw [if_neg h]; omega
theorem xor_one (a : Int) (h0 : 0 ≤ a) (h1 : a < 9223372036854775807) : Go.bits .xor .i64 a 1 = turn a := by
  obtain ⟨n, rfl⟩ := Int.eq_ofNat_of_zero_le h0
  have := xor_nat n 1 (by omega) (by omega)
  rw [show ((1 : Nat) : Int) = 1 from rfl] at this
  rw [this, nat_xor_one]
  unfold turn
  split <;> split <;> omega
theorem and_one (a : Int) (h0 : 0 ≤ a) (h1 : a < 9223372036854775808) : Go.bits .and .i64 a 1 = a % 2 := by
  obtain ⟨n, rfl⟩ := Int.eq_ofNat_of_zero_le h0
  have := and_nat n 1 (by omega) (by omega)
  rw [show ((1 : Nat) : Int) = 1 from rfl] at this
  rw [this, Nat.and_one_is_mod]
  omega
theorem turn_turn (a : Int) : turn (turn a) = a := by unfold turn; split <;> split <;> omega
theorem turn_nonneg {a : Int} (h : 0 ≤ a) : 0 ≤ turn a := by unfold turn; split <;> omega
theorem turn_lt {a n : Int} (h : a < 2 * n) : turn a < 2 * n := by unfold turn; split <;> omega
theorem turn_div (a : Int) : turn a / 2 = a / 2 := by unfold turn; split <;> omega
theorem turn_mod (a : Int) : turn a % 2 = 1 - a % 2 := by unfold turn; split <;> omega
theorem turn_ne (a : Int) : turn a ≠ a := by unfold turn; split <;> omega
theorem tdiv2 {a : Int} (h : 0 ≤ a) : Int.tdiv a 2 = a / 2 := Int.tdiv_eq_ediv_of_nonneg h
theorem tmodn {a b : Int} (h : 0 ≤ a) : Int.tmod a b = a % b := Int.tmod_eq_emod_of_nonneg h
theorem lit_u8 {x : Int} (h : (Lit.int .u8 x).wf = true) : 0 ≤ x ∧ x ≤ 255 := by
  have h1 : IntKind.u8.min = 0 := by decide
  have h2 : IntKind.u8.max = 255 := by decide
  simp [Lit.wf] at h
  omega
theorem lit_u16 {x : Int} (h : (Lit.int .u16 x).wf = true) : 0 ≤ x ∧ x ≤ 65535 := by
  have h1 : IntKind.u16.min = 0 := by decide
  have h2 : IntKind.u16.max = 65535 := by decide
  simp [Lit.wf] at h
  omega
theorem mx_max (a b : Int) : mx a b = max a b := by unfold mx; omega
theorem Ev.ite_pos {α : Type} {c : Prop} [Decidable c] {g f : Nat → Option α} {r : α} (hc : c) (h : Ev g r) : Ev (fun k => if c then g k else f k) r := by
  simp only [if_pos hc]; exact h
theorem Ev.ite_neg {α : Type} {c : Prop} [Decidable c] {g f : Nat → Option α} {r : α} (hc : ¬ c) (h : Ev f r) : Ev (fun k => if c then g k else f k) r := by
  simp only [if_neg hc]; exact h
theorem Ev.const {α : Type} {o : Option α} {r : α} (h : o = some r) : Ev (fun _ => o) r := ⟨0, fun _ _ => h⟩
theorem Ev.bindc {α β : Type} {o : Option α} {f : Nat → α → Option β} {a : α} {r : β} (h : o = some a) (k : Ev (fun n => f n a) r) : Ev (fun n => o.bind (f n)) r := by
  subst h; exact k
end Go.Proofs.Ytcfipamdinfomaa.PBits
namespace Go.Proofs.Ytcfipamdinfomaa.PVec
open Go.RowKit Go.Proofs.YtcfipamdinfomaaW.PrintWords Go.Proofs.YtcfipamdinfomaaW.PrintMore Go.Proofs.Ytcfipamdinfomaa.PBits Go.Proofs.Ytcfipamdinfomaa.Xb
/-- Two to the k. -/
def P2 (k : Int) : Int := ((2 ^ k.toNat : Nat) : Int)
theorem p2_pos (k : Int) : 0 < P2 k := by
  have : 0 < 2 ^ k.toNat := Nat.pow_pos (by omega)
  unfold P2
  omega
theorem p2_le {k m : Int} (h : k ≤ m) : P2 k ≤ P2 m := by
  have : 2 ^ k.toNat ≤ 2 ^ m.toNat := Nat.pow_le_pow_right (by omega) (by omega)
  unfold P2
  omega
theorem p2_62 {k : Int} (h : k ≤ 62) : P2 k ≤ 4611686018427387904 := p2_le (m := 62) h
theorem p2_16 {k : Int} (h : k ≤ 16) : P2 k ≤ 65536 := p2_le (m := 16) h
theorem p2_succ {k : Int} (h : 0 ≤ k) : P2 (k + 1) = 2 * P2 k := by
  unfold P2
  rw [show (k + 1).toNat = k.toNat + 1 by omega, Nat.pow_succ]
  omega
theorem p2_add {a b : Int} (ha : 0 ≤ a) (hb : 0 ≤ b) : P2 (a + b) = P2 a * P2 b := by
  unfold P2
  rw [show (a + b).toNat = a.toNat + b.toNat by omega, Nat.pow_add]
  push_cast
  rfl
theorem p2_one : P2 1 = 2 := rfl
theorem p2_zero : P2 0 = 1 := rfl
theorem shl_p2 {a k : Int} (h1 : k ≤ 62) (ha : 0 ≤ a) (hb : a * P2 k < 9223372036854775808) : shl .i64 a k = a * P2 k := by
  have e : min k.toNat IntKind.i64.bits = k.toNat := Nat.min_eq_left (by show k.toNat ≤ 64; omega)
  have e2 : ((2 : Int) ^ k.toNat) = P2 k := by unfold P2; push_cast; rfl
  unfold shl
  rw [e, e2]
  have := p2_pos k
  exact wrapi _ (Int.mul_nonneg ha (by omega)) hb
theorem shr_p2 {a k : Int} (h1 : k ≤ 62) : shr .i64 a k = a / P2 k := by
  have e : min k.toNat IntKind.i64.bits = k.toNat := Nat.min_eq_left (by show k.toNat ≤ 64; omega)
  have e2 : ((2 : Int) ^ k.toNat) = P2 k := by unfold P2; push_cast; rfl
  unfold shr
  rw [e, e2]
theorem mask_f {k : Int} (h0 : 0 ≤ k) (h1 : k ≤ 62) : vec_Mask.f k = some (P2 k - 1) := by
  have h2 := p2_62 h1
  have h3 := p2_pos k
  unfold vec_Mask.f
  rw [if_pos h0, shl_p2 h1 (by omega) (by omega), Int.one_mul, w64 (by omega) (by omega)]
theorem rmask_f {k : Int} (h0 : 0 ≤ k) (h1 : k ≤ 62) : proofmarkref08_Mask.f k = some (P2 k - 1) := mask_f h0 h1
theorem md_lt {a P : Int} (h0 : 0 ≤ a) (h1 : a < P) : a % P = a := Int.emod_eq_of_lt h0 h1
theorem md_ge {a P : Int} (h0 : P ≤ a) (h1 : a < 2 * P) : a % P = a - P := by
  have e : a = (a - P) + P * 1 := by omega
  rw [e, Int.add_mul_emod_self_left, Int.emod_eq_of_lt (by omega) (by omega)]
  omega
theorem md_neg {a P : Int} (h0 : -P ≤ a) (h1 : a < 0) : a % P = a + P := by
  have e : a = (a + P) + P * (-1) := by omega
  rw [e, Int.add_mul_emod_self_left, Int.emod_eq_of_lt (by omega) (by omega)]
  omega
theorem and_mask {a k : Int} (h0 : 0 ≤ k) (h1 : k ≤ 62) : Go.bits .and .i64 a (P2 k - 1) = a % P2 k := by
  have h2 := p2_62 h1
  have h3 := p2_pos k
  have e : P2 k - 1 = ((2 ^ k.toNat - 1 : Nat) : Int) := by unfold P2 at h3 ⊢; omega
  have hm := Int.emod_lt_of_pos a h3
  have hm0 := Int.emod_nonneg a (by omega : P2 k ≠ 0)
  show IntKind.i64.wrap ((BitVec.ofInt 64 a &&& BitVec.ofInt 64 (P2 k - 1)).toNat : Int) = _
  rw [e, BitVec.toNat_and, toN _ (by unfold P2 at h2; omega), BitVec.toNat_ofInt, Nat.and_two_pow_sub_one_eq_mod]
  have e3 : (((a % (2 ^ 64 : Nat)).toNat % 2 ^ k.toNat : Nat) : Int) = a % P2 k := by
    rw [Int.natCast_emod, Int.toNat_of_nonneg (by omega)]
    exact Int.emod_emod_of_dvd a (by
      have : (2 ^ k.toNat : Nat) ∣ 2 ^ 64 := Nat.pow_dvd_pow 2 (by omega)
      exact Int.natCast_dvd_natCast.2 this)
  rw [e3]
  exact wrapi _ hm0 (by omega)
theorem xor_neg {a : Int} (h0 : 0 ≤ a) (h1 : a < 9223372036854775808) : Go.bits .xor .i64 (-1) a = -1 - a := by
  obtain ⟨n, rfl⟩ := Int.eq_ofNat_of_zero_le h0
  show IntKind.i64.wrap ((BitVec.ofInt 64 (-1) ^^^ BitVec.ofInt 64 (n : Int)).toNat : Int) = _
  rw [show BitVec.ofInt 64 (-1) = BitVec.allOnes 64 by decide, BitVec.allOnes_xor, BitVec.toNat_not, toN n (by omega), IntKind.wrap_i64]
  omega
/-- A number of so many bits. -/
def Num_ (k x : Int) : Prop := 0 ≤ x ∧ x < P2 k
section
variable {k p q r n lo x y c wb : Int}
theorem do_lit : vec_Do.f 1 k p q r n lo x y c wb = some n := rfl
theorem do_inv (hk0 : 0 ≤ k) (hk : k ≤ 62) (hx : Num_ k x) : vec_Do.f 3 k p q r n lo x y c wb = some (P2 k - 1 - x) := by
  have h := p2_62 hk
  show (vec_works_2.f x y).bind (fun t => (vec_Mask.f k).bind fun m => some (Go.bits .and .i64 t m)) = _
  unfold vec_works_2.f
  rw [mask_f hk0 hk]
  simp only [Option.bind_some]
  have hx0 := hx.1
  have hx1 := hx.2
  rw [xor_neg hx0 (by omega), and_mask hk0 hk, md_neg (by omega) (by omega)]
  congr 1
  omega
theorem do_redor : vec_Do.f 4 k p q r n lo x y c wb = some (if x = 0 then 0 else 1) := by
  show (vec_works_3.f x y).bind (fun t => vec_flag.f t) = _
  unfold vec_works_3.f vec_flag.f
  simp only [Option.bind_some]
  by_cases h : x = 0
  · rw [if_pos h, h]
    rfl
  · rw [if_neg h, if_pos (by simpa using h)]
theorem do_redand (h0 : 0 ≤ lo) (h1 : lo ≤ 62) : vec_Do.f 5 k p q r n lo x y c wb = some (if x = P2 lo - 1 then 1 else 0) := by
  show vec_works_4.f 5 k p q r n lo x y c wb = _
  unfold vec_works_4.f vec_flag.f
  rw [mask_f h0 h1]
  simp only [Option.bind_some]
  by_cases h : x = P2 lo - 1
  · rw [if_pos h, if_pos (by simpa using h)]
    rfl
  · rw [if_neg h, if_neg (by simpa using h)]
    rfl
theorem do_and (hk0 : 0 ≤ k) (hk : k ≤ 62) : vec_Do.f 6 k p q r n lo x y c wb = some (Go.bits .and .i64 x y % P2 k) := by
  show (vec_works_5.f x y).bind (fun t => (vec_Mask.f k).bind fun m => some (Go.bits .and .i64 t m)) = _
  unfold vec_works_5.f
  rw [mask_f hk0 hk]
  simp only [Option.bind_some, and_mask hk0 hk]
theorem do_or (hk0 : 0 ≤ k) (hk : k ≤ 62) : vec_Do.f 7 k p q r n lo x y c wb = some (Go.bits .or .i64 x y % P2 k) := by
  show (vec_works_6.f x y).bind (fun t => (vec_Mask.f k).bind fun m => some (Go.bits .and .i64 t m)) = _
  unfold vec_works_6.f
  rw [mask_f hk0 hk]
  simp only [Option.bind_some, and_mask hk0 hk]
theorem do_xor (hk0 : 0 ≤ k) (hk : k ≤ 62) : vec_Do.f 8 k p q r n lo x y c wb = some (Go.bits .xor .i64 x y % P2 k) := by
  show (vec_works_7.f x y).bind (fun t => (vec_Mask.f k).bind fun m => some (Go.bits .and .i64 t m)) = _
  unfold vec_works_7.f
  rw [mask_f hk0 hk]
  simp only [Option.bind_some, and_mask hk0 hk]
theorem do_add (hk0 : 0 ≤ k) (hk : k ≤ 62) : vec_Do.f 9 k p q r n lo x y c wb = some (wrap64 (x + y) % P2 k) := by
  show (vec_works_8.f x y).bind (fun t => (vec_Mask.f k).bind fun m => some (Go.bits .and .i64 t m)) = _
  unfold vec_works_8.f
  rw [mask_f hk0 hk]
  simp only [Option.bind_some, and_mask hk0 hk]
theorem do_sub (hk0 : 0 ≤ k) (hk : k ≤ 62) : vec_Do.f 10 k p q r n lo x y c wb = some (wrap64 (x - y) % P2 k) := by
  show (vec_works_9.f x y).bind (fun t => (vec_Mask.f k).bind fun m => some (Go.bits .and .i64 t m)) = _
  unfold vec_works_9.f
  rw [mask_f hk0 hk]
  simp only [Option.bind_some, and_mask hk0 hk]
theorem do_mul (hk0 : 0 ≤ k) (hk : k ≤ 62) : vec_Do.f 11 k p q r n lo x y c wb = some (wrap64 (x * y) % P2 k) := by
  show (vec_works_10.f x y).bind (fun t => (vec_Mask.f k).bind fun m => some (Go.bits .and .i64 t m)) = _
  unfold vec_works_10.f
  rw [mask_f hk0 hk]
  simp only [Option.bind_some, and_mask hk0 hk]
theorem flag_f (b : Bool) : vec_flag.f b = some (if b = true then 1 else 0) := by
  unfold vec_flag.f
  split <;> rfl
theorem do_eq : vec_Do.f 12 k p q r n lo x y c wb = some (if x = y then 1 else 0) := by
  show (vec_works_11.f x y).bind (fun t => vec_flag.f t) = _
  unfold vec_works_11.f
  simp only [Option.bind_some, flag_f, beq_iff_eq]
theorem do_ne : vec_Do.f 13 k p q r n lo x y c wb = some (if x = y then 0 else 1) := by
  show (vec_works_12.f x y).bind (fun t => vec_flag.f t) = _
  unfold vec_works_12.f
  simp only [Option.bind_some, flag_f, bne_iff_ne]
  by_cases h : x = y
  · rw [if_pos h, if_neg (by simpa using h)]
  · rw [if_neg h, if_pos h]
theorem do_lt : vec_Do.f 14 k p q r n lo x y c wb = some (if x < y then 1 else 0) := by
  show (vec_works_13.f x y).bind (fun t => vec_flag.f t) = _
  unfold vec_works_13.f
  simp only [Option.bind_some, flag_f, decide_eq_true_eq]
theorem do_le : vec_Do.f 15 k p q r n lo x y c wb = some (if x ≤ y then 1 else 0) := by
  show (vec_works_14.f x y).bind (fun t => vec_flag.f t) = _
  unfold vec_works_14.f
  simp only [Option.bind_some, flag_f, decide_eq_true_eq]
theorem do_mux : vec_Do.f 16 k p q r n lo x y c wb = some (if x = 1 then y else c) := by
  show vec_works_15.f 16 k p q r n lo x y c wb = _
  unfold vec_works_15.f
  split <;> rfl
theorem or_add {a b w : Int} (ha : 0 ≤ a) (hb : Num_ w b) (hs : a * P2 w + b < 9223372036854775808) : Go.bits .or .i64 (a * P2 w) b = a * P2 w + b := by
  obtain ⟨m, rfl⟩ := Int.eq_ofNat_of_zero_le ha
  obtain ⟨v, rfl⟩ := Int.eq_ofNat_of_zero_le hb.1
  have hv := hb.2
  unfold P2 at hv hs ⊢
  have e : (m : Int) * ((2 ^ w.toNat : Nat) : Int) = ((2 ^ w.toNat * m : Nat) : Int) := by push_cast; exact Int.mul_comm _ _
  rw [e] at hs ⊢
  have hv' : v < 2 ^ w.toNat := by omega
  rw [or_nat _ _ (by omega) (by omega), ← Nat.two_pow_add_eq_or_of_lt hv' m]
  push_cast
  rfl
theorem do_cat (hw0 : 0 ≤ wb) (hw : wb ≤ 62) (hx : 0 ≤ x) (hy : Num_ wb y) (hs : x * P2 wb + y < 9223372036854775808) : vec_Do.f 17 k p q r n lo x y c wb = some (x * P2 wb + y) := by
  have h := hy.1
  show vec_works_16.f 17 k p q r n lo x y c wb = _
  unfold vec_works_16.f
  rw [if_pos hw0, shl_p2 hw hx (by omega), or_add hx hy hs]
theorem do_slice (h0 : 0 ≤ lo) (h1 : lo ≤ 62) (hn0 : lo ≤ n + 1) (hn : n - lo ≤ 61) (_hn1 : n ≤ 1000) : vec_Do.f 18 k p q r n lo x y c wb = some (x / P2 lo % P2 (n - lo + 1)) := by
  show vec_works_17.f 18 k p q r n lo x y c wb = _
  unfold vec_works_17.f
  rw [if_pos h0, w64 (n := n - lo) (by omega) (by omega), w64 (n := n - lo + 1) (by omega) (by omega), mask_f (by omega) (by omega), shr_p2 h1]
  simp only [Option.bind_some]
  rw [and_mask (by omega) (by omega)]
end
/-- The bits of a number, the lowest first. -/
def bitsL (n w : Nat) : List Bool := (List.range w).map n.testBit
theorem bitsL_len (n w : Nat) : (bitsL n w).length = w := by simp [bitsL]
theorem bitsL_get {n w i : Nat} (h : i < w) : (bitsL n w)[i]? = some (n.testBit i) := by simp [bitsL, h]
theorem bitsL_rd {n w i : Nat} (h : i < w) : rdOf false (bitsL n w) (i : Int) = n.testBit i := by
  unfold rdOf
  rw [Int.toNat_natCast, List.getD_eq_getElem?_getD, bitsL_get h]
  rfl
theorem bitsL_succ (n w : Nat) : bitsL n (w + 1) = bitsL n w ++ [n.testBit w] := by simp [bitsL, List.range_succ]
theorem bit_at (n i : Nat) (hn : n < 4611686018427387904) (hi : i ≤ 62) : ((Go.bits .and .i64 (shr .i64 (n : Int) (i : Int)) 1) == 1) = n.testBit i := by
  have h : (n : Int) / P2 (i : Int) = ((n / 2 ^ i : Nat) : Int) := by unfold P2; rw [Int.toNat_natCast]; push_cast; rfl
  have h2 : n / 2 ^ i ≤ n := Nat.div_le_self _ _
  rw [shr_p2 (by omega), h, Nat.testBit_eq_decide_div_mod_eq]
  clear h
  generalize n / 2 ^ i = m at h2 ⊢
  rw [and_one _ (by omega) (by omega)]
  rcases Nat.mod_two_eq_zero_or_one m with e | e
  · rw [e, show (m : Int) % 2 = 0 by omega]
    rfl
  · rw [e, show (m : Int) % 2 = 1 by omega]
    rfl
theorem bits_ev (n w : Nat) (hn : n < 4611686018427387904) (hw : w ≤ 62) : Ev (fun k => vec_Bits.f k (n : Int) (w : Int)) (bitsL n w) := by
  have loop : ∀ d (i : Nat), w - i = d → i ≤ w → Ev (fun k => vec_Bits.l0 k (n : Int) (bitsL n i ++ List.replicate (w - i) false) (w : Int) (i : Int)) (bitsL n w) := by
    intro d
    induction d with
    | zero =>
      intro i hd hi
      obtain rfl : i = w := by omega
      have z : ¬ ((i : Int) < (i : Int)) := by omega
      exact Ev.step (fun k => by simp only [vec_Bits.l0]; rw [if_neg z, Nat.sub_self, List.replicate_zero, List.append_nil]) (Ev.now _)
    | succ d ih =>
      intro i hd hi
      have z : (i : Int) < (w : Int) := by omega
      have z2 : (0 : Int) ≤ (i : Int) := by omega
      have z3 : (i : Int) < ((bitsL n i ++ List.replicate (w - i) false).length : Int) := by rw [List.length_append, bitsL_len, List.length_replicate]; omega
      have e : (bitsL n i ++ List.replicate (w - i) false).set i (n.testBit i) = bitsL n (i + 1) ++ List.replicate (w - (i + 1)) false := by
        rw [List.set_append_right _ _ (by rw [bitsL_len]; omega), bitsL_len, Nat.sub_self, show w - i = (w - (i + 1)) + 1 by omega, List.replicate_succ, List.set_cons_zero, bitsL_succ, List.append_assoc]
        rfl
      refine Ev.step (fun k => ?_) (ih (i + 1) (by omega) (by omega))
      simp only [vec_Bits.l0]
      rw [if_pos z, if_pos z2, if_pos z3, bit_at n i hn (by omega), Int.toNat_natCast, e, succ64 (by omega)]
  have h := loop w 0 (by omega) (by omega)
  have z : (0 : Int) ≤ (w : Int) := by omega
  have z2 : (w : Int).toNat ≤ 281474976710656 := by omega
  unfold vec_Bits.f
  simp only [if_pos z, if_pos z2]
  simpa [bitsL] using h
/-- The number of bits. -/
def numL : List Bool → Nat
  | [] => 0
  | b :: l => b.toNat + 2 * numL l
theorem numL_lt : ∀ l : List Bool, numL l < 2 ^ l.length
  | [] => by decide
  | b :: l => by
    have := numL_lt l
    have hb := Bool.toNat_lt b
    rw [List.length_cons, Nat.pow_succ]
    simp only [numL]
    omega
theorem numL_snoc (b : Bool) : ∀ l : List Bool, numL (l ++ [b]) = numL l + b.toNat * 2 ^ l.length
  | [] => by simp [numL]
  | a :: l => by
    rw [List.cons_append, List.length_cons, Nat.pow_succ]
    simp only [numL]
    rw [numL_snoc b l, Nat.mul_add, ← Nat.mul_assoc, Nat.mul_comm 2 (b.toNat), Nat.mul_assoc, Nat.mul_comm 2 (2 ^ l.length), Nat.add_assoc]
theorem numL_testBit : ∀ (l : List Bool) (i : Nat), (numL l).testBit i = l.getD i false
  | [], i => by simp [numL]
  | b :: l, 0 => by
    simp only [numL, Nat.testBit_zero, List.getD_cons_zero]
    cases b <;> simp <;> omega
  | b :: l, i + 1 => by
    rw [Nat.testBit_succ, List.getD_cons_succ, ← numL_testBit l i]
    simp only [numL]
    have hb := Bool.toNat_lt b
    congr 1
    omega
theorem num_bits {x k : Nat} (h : x < 2 ^ k) : numL (bitsL x k) = x := by
  refine Nat.eq_of_testBit_eq fun i => ?_
  rw [numL_testBit, List.getD_eq_getElem?_getD]
  by_cases hi : i < k
  · rw [bitsL_get hi]
    rfl
  · rw [List.getElem?_eq_none (by rw [bitsL_len]; omega), Nat.testBit_lt_two_pow (Nat.lt_of_lt_of_le h (Nat.pow_le_pow_right (by omega) (by omega)))]
    rfl
theorem bits_num (l : List Bool) : bitsL (numL l) l.length = l := by
  refine List.ext_getElem? fun i => ?_
  by_cases hi : i < l.length
  · rw [bitsL_get hi, numL_testBit, List.getD_eq_getElem?_getD, List.getElem?_eq_getElem hi]
    rfl
  · rw [List.getElem?_eq_none (by rw [bitsL_len]; omega), List.getElem?_eq_none (by omega)]
theorem num_ev (l : List Bool) (hl : l.length ≤ 62) : Ev (fun k => vec_Num.f k l) ((numL l : Nat) : Int) := by
  have loop : ∀ d (i : Nat), l.length - i = d → i ≤ l.length → Ev (fun k => vec_Num.l0 k ((numL (l.take i) : Nat) : Int) l (l.length : Int) (i : Int)) ((numL l : Nat) : Int) := by
    intro d
    induction d with
    | zero =>
      intro i hd hi
      obtain rfl : i = l.length := by omega
      have z : ¬ ((l.length : Int) < (l.length : Int)) := by omega
      exact Ev.step (fun k => by simp only [vec_Num.l0]; rw [if_neg z, List.take_length]) (Ev.now _)
    | succ d ih =>
      intro i hd hi
      have hlt : i < l.length := by omega
      have z : (i : Int) < (l.length : Int) := by omega
      have z2 : (0 : Int) ≤ (i : Int) := by omega
      have hr : rdOf false l (i : Int) = l[i] := by
        unfold rdOf
        rw [Int.toNat_natCast, List.getD_eq_getElem?_getD, List.getElem?_eq_getElem hlt]
        rfl
      have hn := numL_lt (l.take i)
      rw [List.length_take, Nat.min_eq_left (by omega)] at hn
      have hp : 2 ^ i ≤ 2 ^ 61 := Nat.pow_le_pow_right (by omega) (by omega)
      have e : Go.bits .or .i64 ((numL (l.take i) : Nat) : Int) (shl .i64 (if l[i] = true then 1 else 0) (i : Int)) = ((numL (l.take (i + 1)) : Nat) : Int) := by
        have e1 : shl .i64 (if l[i] = true then 1 else 0) (i : Int) = ((l[i].toNat * 2 ^ i : Nat) : Int) := by
          have : P2 (i : Int) = ((2 ^ i : Nat) : Int) := by unfold P2; rw [Int.toNat_natCast]
          cases l[i]
          · rw [if_neg (by decide), shl_p2 (by omega) (by omega) (by omega)]
            simp
          · rw [if_pos rfl, shl_p2 (by omega) (by omega) (by omega), this]
            simp
        have hb : l[i].toNat * 2 ^ i ≤ 2 ^ i := by cases l[i] <;> simp
        rw [e1, or_nat _ _ (by omega) (by omega), Nat.or_comm, Nat.mul_comm, ← Nat.two_pow_add_eq_or_of_lt hn, List.take_add_one, List.getElem?_eq_getElem hlt]
        show _ = ((numL (l.take i ++ [l[i]]) : Nat) : Int)
        rw [numL_snoc, List.length_take, Nat.min_eq_left (by omega), Nat.mul_comm, Nat.add_comm]
      refine Ev.step (fun k => ?_) (ih (i + 1) (by omega) (by omega))
      simp only [vec_Num.l0]
      rw [if_pos z, if_pos z2, if_pos z, hr, flag_f, Option.bind_some, e, succ64 (by omega)]
  have h := loop l.length 0 (by omega) (by omega)
  unfold vec_Num.f
  exact h
theorem same_ev (l : List Bool) (hl : l.length < 1000000) : Ev (fun k => proofmarkref08_Same.f k l l) true := by
  have loop : ∀ d (i : Nat), l.length - i = d → i ≤ l.length → Ev (fun k => proofmarkref08_Same.l0 k l l (i : Int)) true := by
    intro d
    induction d with
    | zero =>
      intro i hd hi
      have z : ¬ ((i : Int) < (l.length : Int)) := by omega
      exact Ev.step (fun k => by simp only [proofmarkref08_Same.l0]; rw [if_neg z]) (Ev.now _)
    | succ d ih =>
      intro i hd hi
      have z : (i : Int) < (l.length : Int) := by omega
      have z2 : (0 : Int) ≤ (i : Int) := by omega
      refine Ev.step (fun k => ?_) (ih (i + 1) (by omega) (by omega))
      simp only [proofmarkref08_Same.l0]
      rw [if_pos z, if_pos z2, if_pos z, if_neg (by simp), succ64 (by omega)]
  unfold proofmarkref08_Same.f
  simp only [if_true]
  exact loop _ 0 rfl (by omega)
end Go.Proofs.Ytcfipamdinfomaa.PVec
namespace Go.Proofs.Ytcfipamdinfomaa.PVec8
open Go.RowKit Go.Proofs.YtcfipamdinfomaaW.PrintWords Go.Proofs.YtcfipamdinfomaaW.PrintMore Go.Proofs.Ytcfipamdinfomaa.PBits Go.Proofs.Ytcfipamdinfomaa.PVec Go.Proofs.Ytcfipamdinfomaa.Xb
section
variable {k p q r n lo x y c wb : Int}
theorem do_add' (hk0 : 0 ≤ k) (hk : k ≤ 31) (hx : Num_ k x) (hy : Num_ k y) : vec_Do.f 9 k p q r n lo x y c wb = some ((x + y) % P2 k) := by
  have h := p2_le (m := 31) hk
  have h2 : P2 31 = 2147483648 := rfl
  have h3 := hx.1
  have h4 := hx.2
  have h5 := hy.1
  have h6 := hy.2
  rw [do_add hk0 (by omega), w64 (by omega) (by omega)]
theorem do_sub' (hk0 : 0 ≤ k) (hk : k ≤ 31) (hx : Num_ k x) (hy : Num_ k y) : vec_Do.f 10 k p q r n lo x y c wb = some ((x - y) % P2 k) := by
  have h := p2_le (m := 31) hk
  have h2 : P2 31 = 2147483648 := rfl
  have h3 := hx.1
  have h4 := hx.2
  have h5 := hy.1
  have h6 := hy.2
  rw [do_sub hk0 (by omega), w64 (by omega) (by omega)]
theorem do_mul' (hk0 : 0 ≤ k) (hk : k ≤ 31) (hx : Num_ k x) (hy : Num_ k y) : vec_Do.f 11 k p q r n lo x y c wb = some (x * y % P2 k) := by
  have h := p2_le (m := 31) hk
  have h2 : P2 31 = 2147483648 := rfl
  have h3 := hx.1
  have h4 := hx.2
  have h5 := hy.1
  have h6 := hy.2
  have h7 : x * y ≤ 2147483648 * 2147483648 := Int.mul_le_mul (by omega) (by omega) h5 (by omega)
  have h8 : 0 ≤ x * y := Int.mul_nonneg h3 h5
  rw [do_mul hk0 (by omega), w64 (by omega) (by omega)]
theorem num_mod (a k : Int) : Num_ k (a % P2 k) := by
  have h := p2_pos k
  exact ⟨Int.emod_nonneg a (by omega), Int.emod_lt_of_pos a h⟩
theorem num_zero (k : Int) : Num_ k 0 := ⟨by omega, p2_pos k⟩
theorem sum_back {P x y : Int} (h0 : 0 ≤ x) (h1 : x < P) (h2 : 0 ≤ y) (h3 : y < P) : ((x + y) % P - y) % P = x := by
  by_cases h : x + y < P
  · rw [md_lt (a := x + y) (by omega) h, md_lt (by omega) (by omega)]
    omega
  · rw [md_ge (a := x + y) (by omega) (by omega), md_neg (by omega) (by omega)]
    omega
end
theorem kw16 {a : Int} (h0 : 0 ≤ a) (h1 : a ≤ 255) : wrap64 (Int.tmod (wrap64 a) 16 + 1) = a % 16 + 1 := by
  rw [w64 (n := a) (by omega) (by omega), tmodn h0, w64 (by omega) (by omega)]
theorem kw15 {a : Int} (h0 : 0 ≤ a) (h1 : a ≤ 255) : wrap64 (Int.tmod (wrap64 a) 15 + 2) = a % 15 + 2 := by
  rw [w64 (n := a) (by omega) (by omega), tmodn h0, w64 (by omega) (by omega)]
theorem head08 : Ev (fun k => proofmarklaw08_head.f k) true := by
  unfold proofmarklaw08_head.f
  refine Ev.bindc (f := fun k t => _) (a := 15) (by rw [do_sub (by decide) (by decide), w64 (by decide) (by decide)]; rfl) ?_
  refine Ev.ite_pos (by trivial) ?_
  refine Ev.bindc (f := fun k t => _) (a := 83) (by rw [do_cat (by decide) (by decide) (by decide) ⟨by decide, by decide⟩ (by decide)]; rfl) ?_
  refine Ev.ite_pos (by trivial) ?_
  refine Ev.bindc (f := fun k t => _) (a := 2) (by rw [do_slice (by decide) (by decide) (by decide) (by decide) (by decide)]; rfl) ?_
  refine Ev.ite_pos (by trivial) ?_
  refine Ev.bindc (f := fun k t => _) (a := 1) (by rw [do_redand (by decide) (by decide)]; rfl) ?_
  refine Ev.ite_pos (by trivial) ?_
  refine Ev.bindc (f := fun k t => _) (a := 9) (by rw [do_mux]; rfl) ?_
  refine Ev.ite_pos (by trivial) ?_
  refine Ev.bindc (f := fun k t => _) (a := 15) (mask_f (by decide) (by decide)) ?_
  refine Ev.ite_pos (by trivial) ?_
  refine Ev.bindc (f := fun k t => _) (a := 0) (mask_f (by decide) (by decide)) ?_
  refine Ev.ite_pos (by trivial) ?_
  refine Ev.bind (f := fun k t => _) (bits_ev 6 4 (by decide) (by decide)) ?_
  refine Ev.bind (f := fun k t => _) (same_ev [false, true, true, false] (by decide)) ?_
  refine Ev.ite_pos (by trivial) ?_
  refine Ev.bind (f := fun k t => _) (num_ev [false, true, true, false] (by decide)) ?_
  exact Ev.now _
end Go.Proofs.Ytcfipamdinfomaa.PVec8
namespace Go.Proofs.Ytcfipamdinfomaa.PVecDo
open Go.RowKit Go.Proofs.YtcfipamdinfomaaW.PrintWords Go.Proofs.YtcfipamdinfomaaW.PrintMore Go.Proofs.Ytcfipamdinfomaa.PBits Go.Proofs.Ytcfipamdinfomaa.PVec Go.Proofs.Ytcfipamdinfomaa.PVec8 Go.Proofs.Ytcfipamdinfomaa.Xb
theorem one_f (b : Bool) : proofmarkref08_one.f b = some (if b = true then 1 else 0) := by
  unfold proofmarkref08_one.f
  split <;> rfl
section
variable {k p q r n lo x y c wb : Int}
theorem rdo_lit : proofmarkref08_Do.f 1 k p q r n lo x y c wb = some n := rfl
theorem rdo_inv (hk0 : 0 ≤ k) (hk : k ≤ 62) (hx : Num_ k x) : proofmarkref08_Do.f 3 k p q r n lo x y c wb = some (P2 k - 1 - x) := by
  have h := p2_62 hk
  have h1 := hx.1
  have h2 := hx.2
  show (proofmarkref08_Mask.f k).bind (fun t => some (wrap64 (t - x))) = _
  rw [rmask_f hk0 hk, Option.bind_some, w64 (by omega) (by omega)]
theorem rdo_redor : proofmarkref08_Do.f 4 k p q r n lo x y c wb = some (if x = 0 then 0 else 1) := by
  show (proofmarkref08_one.f (x != 0)).bind (fun t => some t) = _
  rw [one_f, Option.bind_some]
  by_cases h : x = 0
  · rw [if_pos h, h]
    rfl
  · rw [if_neg h, if_pos (by simpa using h)]
theorem rdo_redand (h0 : 0 ≤ lo) (h1 : lo ≤ 62) : proofmarkref08_Do.f 5 k p q r n lo x y c wb = some (if x = P2 lo - 1 then 1 else 0) := by
  show (proofmarkref08_Mask.f lo).bind (fun t => (proofmarkref08_one.f (x == t)).bind fun t => some t) = _
  rw [rmask_f h0 h1, Option.bind_some, one_f, Option.bind_some]
  simp only [beq_iff_eq]
theorem rdo_and : proofmarkref08_Do.f 6 k p q r n lo x y c wb = some (Go.bits .and .i64 x y) := rfl
theorem rdo_or : proofmarkref08_Do.f 7 k p q r n lo x y c wb = some (Go.bits .or .i64 x y) := rfl
theorem rdo_xor : proofmarkref08_Do.f 8 k p q r n lo x y c wb = some (Go.bits .xor .i64 x y) := rfl
theorem rdo_add (hk0 : 0 ≤ k) (hk : k ≤ 62) : proofmarkref08_Do.f 9 k p q r n lo x y c wb = some (wrap64 (x + y) % P2 k) := by
  show (proofmarkref08_Mask.f k).bind (fun t => some (Go.bits .and .i64 (wrap64 (x + y)) t)) = _
  rw [rmask_f hk0 hk, Option.bind_some, and_mask hk0 hk]
theorem rdo_sub (hk0 : 0 ≤ k) (hk : k ≤ 62) : proofmarkref08_Do.f 10 k p q r n lo x y c wb = some (wrap64 (x - y) % P2 k) := by
  show (proofmarkref08_Mask.f k).bind (fun t => some (Go.bits .and .i64 (wrap64 (x - y)) t)) = _
  rw [rmask_f hk0 hk, Option.bind_some, and_mask hk0 hk]
theorem rdo_mul (hk0 : 0 ≤ k) (hk : k ≤ 62) : proofmarkref08_Do.f 11 k p q r n lo x y c wb = some (wrap64 (x * y) % P2 k) := by
  show (proofmarkref08_Mask.f k).bind (fun t => some (Go.bits .and .i64 (wrap64 (x * y)) t)) = _
  rw [rmask_f hk0 hk, Option.bind_some, and_mask hk0 hk]
theorem rdo_eq : proofmarkref08_Do.f 12 k p q r n lo x y c wb = some (if x = y then 1 else 0) := by
  show ((proofmarkref08_one.f (x == y)).bind (fun t => some t)).bind (fun t => some t) = _
  rw [one_f]
  simp only [Option.bind_some, beq_iff_eq]
theorem rdo_ne : proofmarkref08_Do.f 13 k p q r n lo x y c wb = some (if x = y then 0 else 1) := by
  show ((proofmarkref08_one.f (x != y)).bind (fun t => some t)).bind (fun t => some t) = _
  rw [one_f]
  simp only [Option.bind_some, bne_iff_ne]
  by_cases h : x = y
  · rw [if_pos h, if_neg (by simpa using h)]
  · rw [if_neg h, if_pos h]
theorem rdo_lt : proofmarkref08_Do.f 14 k p q r n lo x y c wb = some (if x < y then 1 else 0) := by
  show ((proofmarkref08_one.f (decide (x < y))).bind (fun t => some t)).bind (fun t => some t) = _
  rw [one_f]
  simp only [Option.bind_some, decide_eq_true_eq]
theorem rdo_le : proofmarkref08_Do.f 15 k p q r n lo x y c wb = some (if x ≤ y then 1 else 0) := by
  show ((proofmarkref08_one.f (decide (x ≤ y))).bind (fun t => some t)).bind (fun t => some t) = _
  rw [one_f]
  simp only [Option.bind_some, decide_eq_true_eq]
theorem rdo_mux : proofmarkref08_Do.f 16 k p q r n lo x y c wb = some (if x = 1 then y else c) := by
  show (if x = 1 then some y else some c).bind (fun t => some t) = _
  split <;> rfl
theorem rdo_cat (hw0 : 0 ≤ wb) (hw : wb ≤ 62) (hx : 0 ≤ x) (hy : 0 ≤ y) (hs : x * P2 wb + y < 9223372036854775808) : proofmarkref08_Do.f 17 k p q r n lo x y c wb = some (x * P2 wb + y) := by
  have h := p2_pos wb
  have h2 : 0 ≤ x * P2 wb := Int.mul_nonneg hx (by omega)
  show (if 0 ≤ wb then some (wrap64 (shl .i64 x wb + y)) else none).bind (fun t => some t) = _
  rw [if_pos hw0, shl_p2 hw hx (by omega), w64 (by omega) (by omega)]
  rfl
theorem rdo_slice (h0 : 0 ≤ lo) (h1 : lo ≤ 62) (hn0 : lo ≤ n + 1) (hn : n - lo ≤ 61) (_hn1 : n ≤ 1000) : proofmarkref08_Do.f 18 k p q r n lo x y c wb = some (x / P2 lo % P2 (n - lo + 1)) := by
  show (if 0 ≤ lo then (proofmarkref08_Mask.f (wrap64 (wrap64 (n - lo) + 1))).bind (fun t => some (Go.bits .and .i64 (shr .i64 x lo) t)) else none).bind (fun t => some t) = _
  rw [if_pos h0, w64 (n := n - lo) (by omega) (by omega), w64 (n := n - lo + 1) (by omega) (by omega), rmask_f (by omega) (by omega), shr_p2 h1]
  simp only [Option.bind_some]
  rw [and_mask (by omega) (by omega)]
end
theorem lit_u32 {x : Int} (h : (Lit.int .u32 x).wf = true) : 0 ≤ x ∧ x ≤ 4294967295 := by
  have h1 : IntKind.u32.min = 0 := by decide
  have h2 : IntKind.u32.max = 4294967295 := by decide
  simp [Lit.wf] at h
  omega
/-- Both make one number of this node, and it is of its width. -/
def Fine (op W p q r n lo a b c wb : Int) : Prop := (0 ≤ W ∧ W ≤ 16) ∧ ∃ y, vec_Do.f op W p q r n lo a b c wb = some y ∧ proofmarkref08_Do.f op W p q r n lo a b c wb = some y ∧ 0 ≤ y ∧ y < P2 W
section
variable {w a b c : Int}
theorem bit01 {P : Prop} [Decidable P] : 0 ≤ (if P then (1 : Int) else 0) ∧ (if P then (1 : Int) else 0) < P2 1 := by rw [p2_one]; split <;> omega
theorem bit10 {P : Prop} [Decidable P] : 0 ≤ (if P then (0 : Int) else 1) ∧ (if P then (0 : Int) else 1) < P2 1 := by rw [p2_one]; split <;> omega
theorem fine_lit (h : 1 ≤ w ∧ w ≤ 16) (ha : Num_ w a) : Fine 1 w 0 0 0 a 0 0 0 0 0 := ⟨by omega, a, do_lit, rdo_lit, ha.1, ha.2⟩
theorem fine_inv (h : 1 ≤ w ∧ w ≤ 16) (ha : Num_ w a) : Fine 3 w 0 0 0 0 0 a 0 0 w := ⟨by omega, _, do_inv (by omega) (by omega) ha, rdo_inv (by omega) (by omega) ha, by have := ha.2; omega, by have := ha.1; omega⟩
theorem fine_redor : Fine 4 1 0 0 0 0 w a 0 0 0 := ⟨by omega, _, do_redor, rdo_redor, bit10.1, bit10.2⟩
theorem fine_redand (h : 1 ≤ w ∧ w ≤ 16) : Fine 5 1 0 0 0 0 w a 0 0 0 := ⟨by omega, _, do_redand (by omega) (by omega), rdo_redand (by omega) (by omega), bit01.1, bit01.2⟩
theorem fine_eq : Fine 12 1 0 0 0 0 w a b 0 w := ⟨by omega, _, do_eq, rdo_eq, bit01.1, bit01.2⟩
theorem fine_ne : Fine 13 1 0 0 0 0 w a b 0 w := ⟨by omega, _, do_ne, rdo_ne, bit10.1, bit10.2⟩
theorem fine_lt : Fine 14 1 0 0 0 0 w a b 0 w := ⟨by omega, _, do_lt, rdo_lt, bit01.1, bit01.2⟩
theorem fine_le : Fine 15 1 0 0 0 0 w a b 0 w := ⟨by omega, _, do_le, rdo_le, bit01.1, bit01.2⟩
theorem fine_add (h : 1 ≤ w ∧ w ≤ 16) : Fine 9 w 0 0 0 0 0 a b 0 w := ⟨by omega, _, do_add (by omega) (by omega), rdo_add (by omega) (by omega), (num_mod _ w).1, (num_mod _ w).2⟩
theorem fine_sub (h : 1 ≤ w ∧ w ≤ 16) : Fine 10 w 0 0 0 0 0 a b 0 w := ⟨by omega, _, do_sub (by omega) (by omega), rdo_sub (by omega) (by omega), (num_mod _ w).1, (num_mod _ w).2⟩
theorem fine_mul (h : 1 ≤ w ∧ w ≤ 16) : Fine 11 w 0 0 0 0 0 a b 0 w := ⟨by omega, _, do_mul (by omega) (by omega), rdo_mul (by omega) (by omega), (num_mod _ w).1, (num_mod _ w).2⟩
theorem nats (h : 1 ≤ w ∧ w ≤ 16) (ha : Num_ w a) : ∃ n : Nat, a = n ∧ n < 2 ^ w.toNat ∧ 2 ^ w.toNat ≤ 65536 := by
  obtain ⟨n, rfl⟩ := Int.eq_ofNat_of_zero_le ha.1
  have h1 := ha.2
  have h2 := p2_16 h.2
  unfold P2 at h1 h2
  exact ⟨n, rfl, by omega, by omega⟩
theorem fine_and (h : 1 ≤ w ∧ w ≤ 16) (ha : Num_ w a) (hb : Num_ w b) : Fine 6 w 0 0 0 0 0 a b 0 w := by
  obtain ⟨n, rfl, hn, hp⟩ := nats h ha
  obtain ⟨m, rfl, hm, _⟩ := nats h hb
  have hr : n &&& m < 2 ^ w.toNat := Nat.and_lt_two_pow n hm
  have e : Go.bits .and .i64 (n : Int) (m : Int) = ((n &&& m : Nat) : Int) := and_nat _ _ (by omega) (by omega)
  have hl : Num_ w ((n &&& m : Nat) : Int) := ⟨by omega, by unfold P2; omega⟩
  refine ⟨by omega, ((n &&& m : Nat) : Int), ?_, ?_, hl.1, hl.2⟩
  · rw [do_and (by omega) (by omega), e, md_lt hl.1 hl.2]
  · rw [rdo_and, e]
theorem fine_or (h : 1 ≤ w ∧ w ≤ 16) (ha : Num_ w a) (hb : Num_ w b) : Fine 7 w 0 0 0 0 0 a b 0 w := by
  obtain ⟨n, rfl, hn, hp⟩ := nats h ha
  obtain ⟨m, rfl, hm, _⟩ := nats h hb
  have hr : n ||| m < 2 ^ w.toNat := Nat.or_lt_two_pow hn hm
  have e : Go.bits .or .i64 (n : Int) (m : Int) = ((n ||| m : Nat) : Int) := or_nat _ _ (by omega) (by omega)
  have hl : Num_ w ((n ||| m : Nat) : Int) := ⟨by omega, by unfold P2; omega⟩
  refine ⟨by omega, ((n ||| m : Nat) : Int), ?_, ?_, hl.1, hl.2⟩
  · rw [do_or (by omega) (by omega), e, md_lt hl.1 hl.2]
  · rw [rdo_or, e]
theorem fine_xor (h : 1 ≤ w ∧ w ≤ 16) (ha : Num_ w a) (hb : Num_ w b) : Fine 8 w 0 0 0 0 0 a b 0 w := by
  obtain ⟨n, rfl, hn, hp⟩ := nats h ha
  obtain ⟨m, rfl, hm, _⟩ := nats h hb
  have hr : n ^^^ m < 2 ^ w.toNat := Nat.xor_lt_two_pow hn hm
  have e : Go.bits .xor .i64 (n : Int) (m : Int) = ((n ^^^ m : Nat) : Int) := xor_nat _ _ (by omega) (by omega)
  have hl : Num_ w ((n ^^^ m : Nat) : Int) := ⟨by omega, by unfold P2; omega⟩
  refine ⟨by omega, ((n ^^^ m : Nat) : Int), ?_, ?_, hl.1, hl.2⟩
  · rw [do_xor (by omega) (by omega), e, md_lt hl.1 hl.2]
  · rw [rdo_xor, e]
theorem fine_mux (h : 1 ≤ w ∧ w ≤ 16) (hb : Num_ w b) (hc : Num_ w c) : Fine 16 w 0 0 0 0 0 a b c w := by
  refine ⟨by omega, _, do_mux, rdo_mux, ?_⟩
  split
  · exact hb
  · exact hc
theorem cat_lt {W wb x y : Int} (h0 : 0 ≤ wb) (h1 : wb ≤ W) (hx : Num_ (W - wb) x) (hy : Num_ wb y) : 0 ≤ x * P2 wb ∧ x * P2 wb + y < P2 W := by
  have hp := p2_pos wb
  have e : P2 W = P2 (W - wb) * P2 wb := by rw [← p2_add (by omega) h0]; congr 1; omega
  have h2 := hx.2
  have h3 := hy.2
  have h4 : (x + 1) * P2 wb ≤ P2 (W - wb) * P2 wb := Int.mul_le_mul_of_nonneg_right (by omega) (by omega)
  rw [Int.add_mul, Int.one_mul] at h4
  exact ⟨Int.mul_nonneg hx.1 (by omega), by omega⟩
theorem fine_cat {W wb : Int} (h0 : 1 ≤ wb) (h1 : wb ≤ W) (h2 : W ≤ 16) (ha : Num_ (W - wb) a) (hb : Num_ wb b) : Fine 17 W 0 0 0 0 0 a b 0 wb := by
  obtain ⟨h3, h4⟩ := cat_lt (by omega) h1 ha hb
  have h5 := p2_16 h2
  have hb0 := hb.1
  exact ⟨by omega, _, do_cat (by omega) (by omega) ha.1 hb (by omega), rdo_cat (by omega) (by omega) ha.1 hb.1 (by omega), by omega, h4⟩
theorem fine_slice {n lo : Int} (h0 : 0 ≤ lo) (h1 : lo ≤ n) (h2 : n < 16) : Fine 18 (n - lo + 1) 0 0 0 n lo a 0 0 0 :=
  ⟨by omega, _, do_slice h0 (by omega) (by omega) (by omega) (by omega), rdo_slice h0 (by omega) (by omega) (by omega) (by omega), (num_mod _ _).1, (num_mod _ _).2⟩
end
theorem one_bit (a : Int) (h0 : 0 ≤ a) (h1 : a < 9223372036854775808) : Go.bits .and .i64 a 1 = a % P2 1 := by rw [and_one a h0 h1, p2_one]
abbrev T11 := Int × Int × Int × Int × Int × Int × Int × Int × Int × Int × Int
section
variable {w a b c A0 A1 A2 A3 A4 A5 : Int}
theorem j1_cmp {op : Int} : Ev (fun k => proofmarklaw08_Made.j1 k w a b c op true A0 A1 A2 A3 A4 A5 op w 0 0 0 0 0) ((op, 1, 0, 0, 0, 0, w, a, b, 0, w) : T11) :=
  Ev.step (f := fun _ => some ((op, 1, 0, 0, 0, 0, w, a, b, 0, w) : T11)) (fun k => by simp only [proofmarklaw08_Made.j1]; rw [if_pos trivial]) (Ev.now _)
theorem j1_else {op : Int} (h1 : op ≠ 16) (h2 : op ≠ 17) (h3 : op ≠ 18) : Ev (fun k => proofmarklaw08_Made.j1 k w a b c op false A0 A1 A2 A3 A4 A5 op w 0 0 0 0 0) ((op, w, 0, 0, 0, 0, 0, a, b, 0, w) : T11) :=
  Ev.step (f := fun _ => some ((op, w, 0, 0, 0, 0, 0, a, b, 0, w) : T11)) (fun k => by simp only [proofmarklaw08_Made.j1]; rw [if_neg (by decide), if_neg h1, if_neg h2, if_neg h3]) (Ev.now _)
theorem j1_mux : Ev (fun k => proofmarklaw08_Made.j1 k w a b c 16 false A0 A1 A2 A3 A4 A5 16 w 0 0 0 0 0) ((16, w, 0, 0, 0, 0, 0, Go.bits .and .i64 (wrap64 A2) 1, b, c, w) : T11) :=
  Ev.step (f := fun _ => some ((16, w, 0, 0, 0, 0, 0, Go.bits .and .i64 (wrap64 A2) 1, b, c, w) : T11)) (fun k => by simp only [proofmarklaw08_Made.j1]; rw [if_neg (by decide), if_pos trivial]) (Ev.now _)
theorem j2_ev {W wb : Int} (h0 : 1 ≤ wb) (h1 : wb ≤ W) (h2 : W ≤ 16) : ∃ x y, Ev (fun k => proofmarklaw08_Made.j2 k wb A0 A1 A2 A3 A4 A5 17 W 0 0 0 0 0) ((17, W, 0, 0, 0, 0, 0, x, y, 0, wb) : T11) ∧ Num_ (W - wb) x ∧ Num_ wb y := by
  refine ⟨wrap64 A2 % P2 (W - wb), wrap64 A3 % P2 wb, Ev.step (f := fun _ => some ((17, W, 0, 0, 0, 0, 0, wrap64 A2 % P2 (W - wb), wrap64 A3 % P2 wb, 0, wb) : T11)) (fun k => ?_) (Ev.now _), num_mod _ _, num_mod _ _⟩
  simp only [proofmarklaw08_Made.j2]
  rw [w64 (n := W - wb) (by omega) (by omega), rmask_f (by omega) (by omega), rmask_f (by omega) (by omega), Option.bind_some, Option.bind_some, and_mask (by omega) (by omega), and_mask (by omega) (by omega)]
theorem j1_cat (h : 1 ≤ w ∧ w ≤ 16) (h5 : 0 ≤ A5) (h5' : A5 ≤ 255) : ∃ W x y wb, Ev (fun k => proofmarklaw08_Made.j1 k w a b c 17 false A0 A1 A2 A3 A4 A5 17 w 0 0 0 0 0) ((17, W, 0, 0, 0, 0, 0, x, y, 0, wb) : T11) ∧ Fine 17 W 0 0 0 0 0 x y 0 wb := by
  have hm0 := Int.emod_nonneg A5 (by omega : w ≠ 0)
  have hm1 := Int.emod_lt_of_pos A5 (by omega : 0 < w)
  have e : wrap64 (Int.tmod (wrap64 A5) w + 1) = A5 % w + 1 := by rw [w64 (n := A5) (by omega) (by omega), tmodn h5, w64 (by omega) (by omega)]
  by_cases hw : A5 % w + 1 = w
  · have hmn : mn (wrap64 (w + 1)) 16 = if w = 16 then 16 else w + 1 := by
      rw [w64 (by omega) (by omega)]
      unfold mn
      split <;> split <;> omega
    obtain ⟨x, y, hev, hx, hy⟩ := j2_ev (A0 := A0) (A1 := A1) (A2 := A2) (A3 := A3) (A4 := A4) (A5 := A5) (W := if w = 16 then 16 else w + 1) (wb := 1) (by omega) (by split <;> omega) (by split <;> omega)
    refine ⟨_, x, y, 1, Ev.step (fun k => ?_) hev, fine_cat (by omega) (by split <;> omega) (by split <;> omega) hx hy⟩
    simp only [proofmarklaw08_Made.j1]
    rw [if_neg (by decide), if_neg (by decide), if_pos trivial, if_neg (by omega), e, if_pos hw, hmn]
  · obtain ⟨x, y, hev, hx, hy⟩ := j2_ev (A0 := A0) (A1 := A1) (A2 := A2) (A3 := A3) (A4 := A4) (A5 := A5) (W := w) (wb := A5 % w + 1) (by omega) (by omega) (by omega)
    refine ⟨_, x, y, _, Ev.step (fun k => ?_) hev, fine_cat (by omega) (by omega) (by omega) hx hy⟩
    simp only [proofmarklaw08_Made.j1]
    rw [if_neg (by decide), if_neg (by decide), if_pos trivial, if_neg (by omega), e, if_neg hw]
theorem j1_slice (h : 1 ≤ w ∧ w ≤ 16) (h4 : 0 ≤ A4) (h4' : A4 ≤ 4294967295) (h5 : 0 ≤ A5) (h5' : A5 ≤ 255) : ∃ W n lo, Ev (fun k => proofmarklaw08_Made.j1 k w a b c 18 false A0 A1 A2 A3 A4 A5 18 w 0 0 0 0 0) ((18, W, 0, 0, 0, n, lo, a, 0, 0, 0) : T11) ∧ Fine 18 W 0 0 0 n lo a 0 0 0 := by
  have hm0 := Int.emod_nonneg A5 (by omega : w ≠ 0)
  have hm1 := Int.emod_lt_of_pos A5 (by omega : 0 < w)
  have e1 : Int.tmod (wrap64 A5) w = A5 % w := by rw [w64 (n := A5) (by omega) (by omega), tmodn h5]
  have e2 : wrap64 A4 = A4 := w64 (by omega) (by omega)
  generalize A5 % w = lo at hm0 hm1 e1
  have hn0 := Int.emod_nonneg A4 (by omega : w - lo ≠ 0)
  have hn1 := Int.emod_lt_of_pos A4 (by omega : 0 < w - lo)
  have e3 : wrap64 (w - lo) = w - lo := w64 (by omega) (by omega)
  have e4 : Int.tmod A4 (w - lo) = A4 % (w - lo) := tmodn h4
  generalize A4 % (w - lo) = d at hn0 hn1 e4
  have hf := fine_slice (a := a) (n := lo + d) (lo := lo) hm0 (by omega) (by omega)
  refine ⟨_, lo + d, lo, Ev.step (f := fun _ => some ((18, lo + d - lo + 1, 0, 0, 0, lo + d, lo, a, 0, 0, 0) : T11)) (fun k => ?_) (Ev.now _), hf⟩
  simp only [proofmarklaw08_Made.j1]
  rw [if_neg (by decide), if_neg (by decide), if_neg (by decide), if_pos trivial, if_neg (by omega), e1, e2, e3, e4, if_neg (by omega), w64 (n := lo + d) (by omega) (by omega), w64 (n := lo + d - lo) (by omega) (by omega), w64 (n := lo + d - lo + 1) (by omega) (by omega)]
theorem j0_true {op : Int} : Ev (fun k => proofmarklaw08_Made.j0 k w a b c op true A0 A1 A2 A3 A4 A5 op w 0 0 0 0 0) ((op, 1, 0, 0, 0, 0, w, a, 0, 0, 0) : T11) :=
  Ev.step (f := fun _ => some ((op, 1, 0, 0, 0, 0, w, a, 0, 0, 0) : T11)) (fun k => by simp only [proofmarklaw08_Made.j0]; rw [if_pos trivial]) (Ev.now _)
theorem j0_of {op : Int} {z : Bool} {t : T11} (hz : z = (op == 12 || op == 13 || op == 14 || op == 15)) (h : Ev (fun k => proofmarklaw08_Made.j1 k w a b c op z A0 A1 A2 A3 A4 A5 op w 0 0 0 0 0) t) : Ev (fun k => proofmarklaw08_Made.j0 k w a b c op false A0 A1 A2 A3 A4 A5 op w 0 0 0 0 0) t := by
  refine Ev.step (fun k => ?_) h
  simp only [proofmarklaw08_Made.j0]
  rw [if_neg (by decide)]
  by_cases h1 : op = 12
  · rw [if_pos h1]
    subst hz h1
    rfl
  rw [if_neg h1]
  by_cases h2 : op = 13
  · rw [if_pos h2]
    subst hz h2
    rfl
  rw [if_neg h2]
  by_cases h3 : op = 14
  · rw [if_pos h3]
    subst hz h3
    rfl
  rw [if_neg h3]
  have e1 : (op == 12) = false := by simpa using h1
  have e2 : (op == 13) = false := by simpa using h2
  have e3 : (op == 14) = false := by simpa using h3
  rw [hz, e1, e2, e3, Bool.false_or, Bool.false_or, Bool.false_or]
end
abbrev OPS : List Int := [1, 3, 4, 5, 6, 7, 8, 9, 10, 11, 12, 13, 14, 15, 16, 17, 18]
/-- Whatever the law makes, both make one number of it. -/
theorem made_ev (x0 x1 x2 x3 x4 x5 : Int) (h0 : 0 ≤ x0 ∧ x0 ≤ 255) (h1 : 0 ≤ x1 ∧ x1 ≤ 255) (h2 : 0 ≤ x2 ∧ x2 ≤ 4294967295) (h3 : 0 ≤ x3 ∧ x3 ≤ 4294967295) (h4 : 0 ≤ x4 ∧ x4 ≤ 4294967295) (h5 : 0 ≤ x5 ∧ x5 ≤ 255) :
    ∃ op W p q r n lo a b c wb, Ev (fun k => proofmarklaw08_Made.f k x0 x1 x2 x3 x4 x5) ((op, W, p, q, r, n, lo, a, b, c, wb) : T11) ∧ Fine op W p q r n lo a b c wb := by
  unfold proofmarklaw08_Made.f
  rw [kw16 h1.1 h1.2, w64 (n := x0) (by omega) (by omega), tmodn h0.1, w64 (n := x2) (by omega) (by omega), w64 (n := x3) (by omega) (by omega), w64 (n := x4) (by omega) (by omega)]
  have hk : 1 ≤ x1 % 16 + 1 ∧ x1 % 16 + 1 ≤ 16 := by omega
  generalize x1 % 16 + 1 = w at hk ⊢
  have hi : 0 ≤ x0 % 17 ∧ x0 % 17 < 17 := by omega
  generalize x0 % 17 = i at hi ⊢
  simp only [Option.bind_some, rmask_f (k := w) (by omega) (by omega), and_mask (k := w) (by omega) (by omega)]
  have ha := num_mod x2 w
  have hb := num_mod x3 w
  have hc := num_mod x4 w
  generalize x2 % P2 w = a at ha ⊢
  generalize x3 % P2 w = b at hb ⊢
  generalize x4 % P2 w = c at hc ⊢
  have hl : i < (([1, 3, 4, 5, 6, 7, 8, 9, 10, 11, 12, 13, 14, 15, 16, 17, 18] : List Int).length : Int) := by show i < 17; omega
  simp only [if_pos hi.1, if_pos hl]
  clear hl
  have hii : i = 0 ∨ i = 1 ∨ i = 2 ∨ i = 3 ∨ i = 4 ∨ i = 5 ∨ i = 6 ∨ i = 7 ∨ i = 8 ∨ i = 9 ∨ i = 10 ∨ i = 11 ∨ i = 12 ∨ i = 13 ∨ i = 14 ∨ i = 15 ∨ i = 16 := by omega
  clear hi
  rcases hii with rfl | rfl | rfl | rfl | rfl | rfl | rfl | rfl | rfl | rfl | rfl | rfl | rfl | rfl | rfl | rfl | rfl
  · exact ⟨_, _, _, _, _, _, _, _, _, _, _, Ev.now _, fine_lit hk ha⟩
  · exact ⟨_, _, _, _, _, _, _, _, _, _, _, Ev.now _, fine_inv hk ha⟩
  · exact ⟨_, _, _, _, _, _, _, _, _, _, _, j0_true (op := 4), fine_redor⟩
  · exact ⟨_, _, _, _, _, _, _, _, _, _, _, j0_true (op := 5), fine_redand hk⟩
  · exact ⟨_, _, _, _, _, _, _, _, _, _, _, j0_of (op := 6) rfl (j1_else (by decide) (by decide) (by decide)), fine_and hk ha hb⟩
  · exact ⟨_, _, _, _, _, _, _, _, _, _, _, j0_of (op := 7) rfl (j1_else (by decide) (by decide) (by decide)), fine_or hk ha hb⟩
  · exact ⟨_, _, _, _, _, _, _, _, _, _, _, j0_of (op := 8) rfl (j1_else (by decide) (by decide) (by decide)), fine_xor hk ha hb⟩
  · exact ⟨_, _, _, _, _, _, _, _, _, _, _, j0_of (op := 9) rfl (j1_else (by decide) (by decide) (by decide)), fine_add hk⟩
  · exact ⟨_, _, _, _, _, _, _, _, _, _, _, j0_of (op := 10) rfl (j1_else (by decide) (by decide) (by decide)), fine_sub hk⟩
  · exact ⟨_, _, _, _, _, _, _, _, _, _, _, j0_of (op := 11) rfl (j1_else (by decide) (by decide) (by decide)), fine_mul hk⟩
  · exact ⟨_, _, _, _, _, _, _, _, _, _, _, j0_of (op := 12) rfl j1_cmp, fine_eq⟩
  · exact ⟨_, _, _, _, _, _, _, _, _, _, _, j0_of (op := 13) rfl j1_cmp, fine_ne⟩
  · exact ⟨_, _, _, _, _, _, _, _, _, _, _, j0_of (op := 14) rfl j1_cmp, fine_lt⟩
  · exact ⟨_, _, _, _, _, _, _, _, _, _, _, j0_of (op := 15) rfl j1_cmp, fine_le⟩
  · exact ⟨_, _, _, _, _, _, _, _, _, _, _, j0_of (op := 16) rfl j1_mux, fine_mux hk hb hc⟩
  · obtain ⟨W, x, y, wb, hev, hf⟩ := j1_cat (a := a) (b := b) (c := c) (A0 := x0) (A1 := x1) (A2 := x2) (A3 := x3) (A4 := x4) hk h5.1 h5.2
    exact ⟨_, _, _, _, _, _, _, _, _, _, _, j0_of (op := 17) rfl hev, hf⟩
  · obtain ⟨W, n, lo, hev, hf⟩ := j1_slice (a := a) (b := b) (c := c) (A0 := x0) (A1 := x1) (A2 := x2) (A3 := x3) hk h4.1 h4.2 h5.1 h5.2
    exact ⟨_, _, _, _, _, _, _, _, _, _, _, j0_of (op := 18) rfl hev, hf⟩
theorem rbits_ev (n w : Nat) (hn : n < 4611686018427387904) (hw : w ≤ 62) : Ev (fun k => proofmarkref08_Bits.f k (n : Int) (w : Int)) (bitsL n w) := by
  have loop : ∀ d (i : Nat), w - i = d → i ≤ w → Ev (fun k => proofmarkref08_Bits.l0 k (n : Int) (w : Int) (bitsL n i) (i : Int)) (bitsL n w) := by
    intro d
    induction d with
    | zero =>
      intro i hd hi
      obtain rfl : i = w := by omega
      have z : ¬ ((i : Int) < (i : Int)) := by omega
      exact Ev.step (fun k => by simp only [proofmarkref08_Bits.l0]; rw [if_neg z]) (Ev.now _)
    | succ d ih =>
      intro i hd hi
      have z : (i : Int) < (w : Int) := by omega
      have z2 : (0 : Int) ≤ (i : Int) := by omega
      have z3 : (bitsL n i).length < 140737488355328 := by rw [bitsL_len]; omega
      refine Ev.step (fun k => ?_) (ih (i + 1) (by omega) (by omega))
      simp only [proofmarkref08_Bits.l0]
      rw [if_pos z, if_pos z2, if_pos z3, bit_at n i hn (by omega), succ64 (by omega), bitsL_succ]
  exact loop w 0 (by omega) (by omega)
theorem rnum_ev (l : List Bool) (hl : l.length ≤ 60) : Ev (fun k => proofmarkref08_Num.f k l) ((numL l : Nat) : Int) := by
  have loop : ∀ (i : Nat), i ≤ l.length → Ev (fun k => proofmarkref08_Num.l0 k l ((numL (l.drop i) : Nat) : Int) ((i : Int) - 1)) ((numL l : Nat) : Int) := by
    intro i
    induction i with
    | zero =>
      intro _
      have z : ¬ (((0 : Nat) : Int) - 1 ≥ 0) := by omega
      exact Ev.step (fun k => by simp only [proofmarkref08_Num.l0]; rw [if_neg z, List.drop_zero]) (Ev.now _)
    | succ i ih =>
      intro hi
      have hlt : i < l.length := by omega
      have e : ((i + 1 : Nat) : Int) - 1 = (i : Int) := by omega
      have z : (i : Int) ≥ 0 := by omega
      have z2 : (i : Int) < (l.length : Int) := by omega
      have hr : rdOf false l (i : Int) = l[i] := by
        unfold rdOf
        rw [Int.toNat_natCast, List.getD_eq_getElem?_getD, List.getElem?_eq_getElem hlt]
        rfl
      have hd : numL (l.drop i) = l[i].toNat + 2 * numL (l.drop (i + 1)) := by rw [List.drop_eq_getElem_cons hlt]; rfl
      have hb := numL_lt (l.drop (i + 1))
      rw [List.length_drop] at hb
      have hp : 2 ^ (l.length - (i + 1)) ≤ 2 ^ 60 := Nat.pow_le_pow_right (by omega) (by omega)
      have ew : wrap64 ((i : Int) - 1) = (i : Int) - 1 := w64 (by omega) (by omega)
      refine Ev.step (fun k => ?_) (ih (by omega))
      simp only [proofmarkref08_Num.l0]
      rw [e, if_pos z, if_pos z, if_pos z2, hr, ew, hd]
      cases l[i]
      · rw [if_neg (by decide), w64 (by omega) (by omega)]
        simp
      · rw [if_pos rfl, w64 (n := 2 * ((numL (l.drop (i + 1)) : Nat) : Int)) (by omega) (by omega), w64 (by omega) (by omega)]
        simp
        congr 1
        omega
  have h := loop l.length (by omega)
  unfold proofmarkref08_Num.f
  rw [w64 (by omega) (by omega)]
  rw [List.drop_length] at h
  exact h
end Go.Proofs.Ytcfipamdinfomaa.PVecDo
