/- Plain facts: Go's bit operations on small naturals of 64 bits; the wrap of what fits; loops by rounds. -/
import Derived.Test.YtcfipamdinfomaaWWords
import Derived.Test.YtcfipamdinfomaaWMore
import Derived.IntWalk
namespace Go.Proofs.Ytcfipamdinfomaa.PBits
open Go.RowKit Go.Proofs.YtcfipamdinfomaaW.PrintWords Go.Proofs.YtcfipamdinfomaaW.PrintMore
theorem w64 {n : Int} (h0 : -9223372036854775808 ≤ n) (h1 : n ≤ 9223372036854775807) : wrap64 n = n := by unfold wrap64; omega
theorem succ64 {i : Nat} (h : i < 4611686018427387904) : wrap64 ((i : Int) + 1) = ((i + 1 : Nat) : Int) := by rw [w64 (by omega) (by omega)]; push_cast; rfl
theorem wrapi (n : Int) (h0 : 0 ≤ n) (h1 : n < 9223372036854775808) : IntKind.i64.wrap n = n := by rw [IntKind.wrap_i64]; omega
theorem toN (a : Nat) (ha : a < 9223372036854775808) : (BitVec.ofInt 64 (a : Int)).toNat = a := by
  rw [BitVec.ofInt_natCast, BitVec.toNat_ofNat]; exact Nat.mod_eq_of_lt (by omega)
theorem xor_nat (a b : Nat) (ha : a < 9223372036854775808) (hb : b < 9223372036854775808) : Go.bits .xor .i64 (a : Int) (b : Int) = ((a ^^^ b : Nat) : Int) := by
  have hx : a ^^^ b < 2 ^ 63 := Nat.xor_lt_two_pow (by omega) (by omega)
  show IntKind.i64.wrap ((BitVec.ofInt 64 (a : Int) ^^^ BitVec.ofInt 64 (b : Int)).toNat : Int) = _
  rw [BitVec.toNat_xor, toN a ha, toN b hb]
  exact wrapi _ (by omega) (by omega)
theorem and_nat (a b : Nat) (ha : a < 9223372036854775808) (hb : b < 9223372036854775808) : Go.bits .and .i64 (a : Int) (b : Int) = ((a &&& b : Nat) : Int) := by
  have hx : a &&& b < 2 ^ 63 := Nat.and_lt_two_pow a (by omega)
  show IntKind.i64.wrap ((BitVec.ofInt 64 (a : Int) &&& BitVec.ofInt 64 (b : Int)).toNat : Int) = _
  rw [BitVec.toNat_and, toN a ha, toN b hb]
  exact wrapi _ (by omega) (by omega)
theorem or_nat (a b : Nat) (ha : a < 9223372036854775808) (hb : b < 9223372036854775808) : Go.bits .or .i64 (a : Int) (b : Int) = ((a ||| b : Nat) : Int) := by
  have hx : a ||| b < 2 ^ 63 := Nat.or_lt_two_pow (by omega) (by omega)
  show IntKind.i64.wrap ((BitVec.ofInt 64 (a : Int) ||| BitVec.ofInt 64 (b : Int)).toNat : Int) = _
  rw [BitVec.toNat_or, toN a ha, toN b hb]
  exact wrapi _ (by omega) (by omega)
/-- A literal, turned. -/
def turn (a : Int) : Int := if a % 2 = 0 then a + 1 else a - 1
theorem nat_xor_one (a : Nat) : a ^^^ 1 = if a % 2 = 0 then a + 1 else a - 1 := by
  have h1 : (a ^^^ 1) / 2 = a / 2 := by
    have := Nat.shiftRight_xor_distrib (a := a) (b := 1) (i := 1)
    simpa [Nat.shiftRight_eq_div_pow] using this
  have h2 : (a ^^^ 1) % 2 = if a % 2 = 0 then 1 else 0 := by
    have h3 := Nat.testBit_xor a 1 0
    simp only [Nat.testBit_zero] at h3
    rcases Nat.mod_two_eq_zero_or_one a with h | h <;> rcases Nat.mod_two_eq_zero_or_one (a ^^^ 1) with h' | h' <;> simp [h, h'] at h3 ⊢
  split at h2 <;> rename_i h
  · rw [if_pos h]; omega
  · rw [if_neg h]; omega
theorem xor_one (a : Int) (h0 : 0 ≤ a) (h1 : a < 9223372036854775807) : Go.bits .xor .i64 a 1 = turn a := by
  obtain ⟨n, rfl⟩ := Int.eq_ofNat_of_zero_le h0
  have := xor_nat n 1 (by omega) (by omega)
  rw [show ((1 : Nat) : Int) = 1 from rfl] at this
  rw [this, nat_xor_one]
  unfold turn
  split <;> split <;> omega
theorem and_one (a : Int) (h0 : 0 ≤ a) (h1 : a < 9223372036854775808) : Go.bits .and .i64 a 1 = a % 2 := by
  obtain ⟨n, rfl⟩ := Int.eq_ofNat_of_zero_le h0
  have := and_nat n 1 (by omega) (by omega)
  rw [show ((1 : Nat) : Int) = 1 from rfl] at this
  rw [this, Nat.and_one_is_mod]
  omega
theorem turn_turn (a : Int) : turn (turn a) = a := by unfold turn; split <;> split <;> omega
theorem turn_nonneg {a : Int} (h : 0 ≤ a) : 0 ≤ turn a := by unfold turn; split <;> omega
theorem turn_lt {a n : Int} (h : a < 2 * n) : turn a < 2 * n := by unfold turn; split <;> omega
theorem turn_div (a : Int) : turn a / 2 = a / 2 := by unfold turn; split <;> omega
theorem turn_mod (a : Int) : turn a % 2 = 1 - a % 2 := by unfold turn; split <;> omega
theorem turn_ne (a : Int) : turn a ≠ a := by unfold turn; split <;> omega
theorem tdiv2 {a : Int} (h : 0 ≤ a) : Int.tdiv a 2 = a / 2 := Int.tdiv_eq_ediv_of_nonneg h
theorem tmodn {a b : Int} (h : 0 ≤ a) : Int.tmod a b = a % b := Int.tmod_eq_emod_of_nonneg h
theorem lit_u8 {x : Int} (h : (Lit.int .u8 x).wf = true) : 0 ≤ x ∧ x ≤ 255 := by
  have h1 : IntKind.u8.min = 0 := by decide
  have h2 : IntKind.u8.max = 255 := by decide
  simp [Lit.wf] at h
  omega
theorem lit_u16 {x : Int} (h : (Lit.int .u16 x).wf = true) : 0 ≤ x ∧ x ≤ 65535 := by
  have h1 : IntKind.u16.min = 0 := by decide
  have h2 : IntKind.u16.max = 65535 := by decide
  simp [Lit.wf] at h
  omega
theorem mx_max (a b : Int) : mx a b = max a b := by unfold mx; omega
theorem Ev.ite_pos {α : Type} {c : Prop} [Decidable c] {g f : Nat → Option α} {r : α} (hc : c) (h : Ev g r) : Ev (fun k => if c then g k else f k) r := by
  simp only [if_pos hc]; exact h
theorem Ev.ite_neg {α : Type} {c : Prop} [Decidable c] {g f : Nat → Option α} {r : α} (hc : ¬ c) (h : Ev f r) : Ev (fun k => if c then g k else f k) r := by
  simp only [if_neg hc]; exact h
theorem Ev.const {α : Type} {o : Option α} {r : α} (h : o = some r) : Ev (fun _ => o) r := ⟨0, fun _ _ => h⟩
theorem Ev.bindc {α β : Type} {o : Option α} {f : Nat → α → Option β} {a : α} {r : β} (h : o = some a) (k : Ev (fun n => f n a) r) : Ev (fun n => o.bind (f n)) r := by
  subst h; exact k
end Go.Proofs.Ytcfipamdinfomaa.PBits
