/- Plain facts of numbers of so many bits: what vec.Mask, vec.Do, vec.Bits and vec.Num come to. -/
import Derived.Test.YtcfipamdinfomaaPBits
import Derived.Test.YtcfipamdinfomaaXb23
import Derived.Test.YtcfipamdinfomaaXb4
import Derived.Test.YtcfipamdinfomaaXb5
import Derived.Test.YtcfipamdinfomaaXb25
import Derived.Test.YtcfipamdinfomaaXb26
import Derived.Test.YtcfipamdinfomaaXb28
import Derived.Test.YtcfipamdinfomaaXb24
namespace Go.Proofs.Ytcfipamdinfomaa.PVec
open Go.RowKit Go.Proofs.YtcfipamdinfomaaW.PrintWords Go.Proofs.YtcfipamdinfomaaW.PrintMore Go.Proofs.Ytcfipamdinfomaa.PBits Go.Proofs.Ytcfipamdinfomaa.Xb
/-- Two to the k. -/
def P2 (k : Int) : Int := ((2 ^ k.toNat : Nat) : Int)
theorem p2_pos (k : Int) : 0 < P2 k := by
  have : 0 < 2 ^ k.toNat := Nat.pow_pos (by omega)
  unfold P2
  omega
theorem p2_le {k m : Int} (h : k ≤ m) : P2 k ≤ P2 m := by
  have : 2 ^ k.toNat ≤ 2 ^ m.toNat := Nat.pow_le_pow_right (by omega) (by omega)
  unfold P2
  omega
theorem p2_62 {k : Int} (h : k ≤ 62) : P2 k ≤ 4611686018427387904 := p2_le (m := 62) h
theorem p2_16 {k : Int} (h : k ≤ 16) : P2 k ≤ 65536 := p2_le (m := 16) h
theorem p2_succ {k : Int} (h : 0 ≤ k) : P2 (k + 1) = 2 * P2 k := by
  unfold P2
  rw [show (k + 1).toNat = k.toNat + 1 by omega, Nat.pow_succ]
  omega
theorem p2_add {a b : Int} (ha : 0 ≤ a) (hb : 0 ≤ b) : P2 (a + b) = P2 a * P2 b := by
  unfold P2
  rw [show (a + b).toNat = a.toNat + b.toNat by omega, Nat.pow_add]
  push_cast
  rfl
theorem p2_one : P2 1 = 2 := rfl
theorem p2_zero : P2 0 = 1 := rfl
theorem shl_p2 {a k : Int} (h1 : k ≤ 62) (ha : 0 ≤ a) (hb : a * P2 k < 9223372036854775808) : shl .i64 a k = a * P2 k := by
  have e : min k.toNat IntKind.i64.bits = k.toNat := Nat.min_eq_left (by show k.toNat ≤ 64; omega)
  have e2 : ((2 : Int) ^ k.toNat) = P2 k := by unfold P2; push_cast; rfl
  unfold shl
  rw [e, e2]
  have := p2_pos k
  exact wrapi _ (Int.mul_nonneg ha (by omega)) hb
theorem shr_p2 {a k : Int} (h1 : k ≤ 62) : shr .i64 a k = a / P2 k := by
  have e : min k.toNat IntKind.i64.bits = k.toNat := Nat.min_eq_left (by show k.toNat ≤ 64; omega)
  have e2 : ((2 : Int) ^ k.toNat) = P2 k := by unfold P2; push_cast; rfl
  unfold shr
  rw [e, e2]
theorem mask_f {k : Int} (h0 : 0 ≤ k) (h1 : k ≤ 62) : vec_Mask.f k = some (P2 k - 1) := by
  have h2 := p2_62 h1
  have h3 := p2_pos k
  unfold vec_Mask.f
  rw [if_pos h0, shl_p2 h1 (by omega) (by omega), Int.one_mul, w64 (by omega) (by omega)]
theorem rmask_f {k : Int} (h0 : 0 ≤ k) (h1 : k ≤ 62) : proofmarkref08_Mask.f k = some (P2 k - 1) := mask_f h0 h1
theorem md_lt {a P : Int} (h0 : 0 ≤ a) (h1 : a < P) : a % P = a := Int.emod_eq_of_lt h0 h1
theorem md_ge {a P : Int} (h0 : P ≤ a) (h1 : a < 2 * P) : a % P = a - P := by
  have e : a = (a - P) + P * 1 := by omega
  rw [e, Int.add_mul_emod_self_left, Int.emod_eq_of_lt (by omega) (by omega)]
  omega
theorem md_neg {a P : Int} (h0 : -P ≤ a) (h1 : a < 0) : a % P = a + P := by
  have e : a = (a + P) + P * (-1) := by omega
  rw [e, Int.add_mul_emod_self_left, Int.emod_eq_of_lt (by omega) (by omega)]
  omega
theorem and_mask {a k : Int} (h0 : 0 ≤ k) (h1 : k ≤ 62) : Go.bits .and .i64 a (P2 k - 1) = a % P2 k := by
  have h2 := p2_62 h1
  have h3 := p2_pos k
  have e : P2 k - 1 = ((2 ^ k.toNat - 1 : Nat) : Int) := by unfold P2 at h3 ⊢; omega
  have hm := Int.emod_lt_of_pos a h3
  have hm0 := Int.emod_nonneg a (by omega : P2 k ≠ 0)
  show IntKind.i64.wrap ((BitVec.ofInt 64 a &&& BitVec.ofInt 64 (P2 k - 1)).toNat : Int) = _
  rw [e, BitVec.toNat_and, toN _ (by unfold P2 at h2; omega), BitVec.toNat_ofInt, Nat.and_two_pow_sub_one_eq_mod]
  have e3 : (((a % (2 ^ 64 : Nat)).toNat % 2 ^ k.toNat : Nat) : Int) = a % P2 k := by
    rw [Int.natCast_emod, Int.toNat_of_nonneg (by omega)]
    exact Int.emod_emod_of_dvd a (by
      have : (2 ^ k.toNat : Nat) ∣ 2 ^ 64 := Nat.pow_dvd_pow 2 (by omega)
      exact Int.natCast_dvd_natCast.2 this)
  rw [e3]
  exact wrapi _ hm0 (by omega)
theorem xor_neg {a : Int} (h0 : 0 ≤ a) (h1 : a < 9223372036854775808) : Go.bits .xor .i64 (-1) a = -1 - a := by
  obtain ⟨n, rfl⟩ := Int.eq_ofNat_of_zero_le h0
  show IntKind.i64.wrap ((BitVec.ofInt 64 (-1) ^^^ BitVec.ofInt 64 (n : Int)).toNat : Int) = _
  rw [show BitVec.ofInt 64 (-1) = BitVec.allOnes 64 by decide, BitVec.allOnes_xor, BitVec.toNat_not, toN n (by omega), IntKind.wrap_i64]
  omega
/-- A number of so many bits. -/
def Num_ (k x : Int) : Prop := 0 ≤ x ∧ x < P2 k
section
variable {k p q r n lo x y c wb : Int}
theorem do_lit : vec_Do.f 1 k p q r n lo x y c wb = some n := rfl
theorem do_inv (hk0 : 0 ≤ k) (hk : k ≤ 62) (hx : Num_ k x) : vec_Do.f 3 k p q r n lo x y c wb = some (P2 k - 1 - x) := by
  have h := p2_62 hk
  show (vec_works_2.f x y).bind (fun t => (vec_Mask.f k).bind fun m => some (Go.bits .and .i64 t m)) = _
  unfold vec_works_2.f
  rw [mask_f hk0 hk]
  simp only [Option.bind_some]
  have hx0 := hx.1
  have hx1 := hx.2
  rw [xor_neg hx0 (by omega), and_mask hk0 hk, md_neg (by omega) (by omega)]
  congr 1
  omega
theorem do_redor : vec_Do.f 4 k p q r n lo x y c wb = some (if x = 0 then 0 else 1) := by
  show (vec_works_3.f x y).bind (fun t => vec_flag.f t) = _
  unfold vec_works_3.f vec_flag.f
  simp only [Option.bind_some]
  by_cases h : x = 0
  · rw [if_pos h, h]
    rfl
  · rw [if_neg h, if_pos (by simpa using h)]
theorem do_redand (h0 : 0 ≤ lo) (h1 : lo ≤ 62) : vec_Do.f 5 k p q r n lo x y c wb = some (if x = P2 lo - 1 then 1 else 0) := by
  show vec_works_4.f 5 k p q r n lo x y c wb = _
  unfold vec_works_4.f vec_flag.f
  rw [mask_f h0 h1]
  simp only [Option.bind_some]
  by_cases h : x = P2 lo - 1
  · rw [if_pos h, if_pos (by simpa using h)]
    rfl
  · rw [if_neg h, if_neg (by simpa using h)]
    rfl
theorem do_and (hk0 : 0 ≤ k) (hk : k ≤ 62) : vec_Do.f 6 k p q r n lo x y c wb = some (Go.bits .and .i64 x y % P2 k) := by
  show (vec_works_5.f x y).bind (fun t => (vec_Mask.f k).bind fun m => some (Go.bits .and .i64 t m)) = _
  unfold vec_works_5.f
  rw [mask_f hk0 hk]
  simp only [Option.bind_some, and_mask hk0 hk]
theorem do_or (hk0 : 0 ≤ k) (hk : k ≤ 62) : vec_Do.f 7 k p q r n lo x y c wb = some (Go.bits .or .i64 x y % P2 k) := by
  show (vec_works_6.f x y).bind (fun t => (vec_Mask.f k).bind fun m => some (Go.bits .and .i64 t m)) = _
  unfold vec_works_6.f
  rw [mask_f hk0 hk]
  simp only [Option.bind_some, and_mask hk0 hk]
theorem do_xor (hk0 : 0 ≤ k) (hk : k ≤ 62) : vec_Do.f 8 k p q r n lo x y c wb = some (Go.bits .xor .i64 x y % P2 k) := by
  show (vec_works_7.f x y).bind (fun t => (vec_Mask.f k).bind fun m => some (Go.bits .and .i64 t m)) = _
  unfold vec_works_7.f
  rw [mask_f hk0 hk]
  simp only [Option.bind_some, and_mask hk0 hk]
theorem do_add (hk0 : 0 ≤ k) (hk : k ≤ 62) : vec_Do.f 9 k p q r n lo x y c wb = some (wrap64 (x + y) % P2 k) := by
  show (vec_works_8.f x y).bind (fun t => (vec_Mask.f k).bind fun m => some (Go.bits .and .i64 t m)) = _
  unfold vec_works_8.f
  rw [mask_f hk0 hk]
  simp only [Option.bind_some, and_mask hk0 hk]
theorem do_sub (hk0 : 0 ≤ k) (hk : k ≤ 62) : vec_Do.f 10 k p q r n lo x y c wb = some (wrap64 (x - y) % P2 k) := by
  show (vec_works_9.f x y).bind (fun t => (vec_Mask.f k).bind fun m => some (Go.bits .and .i64 t m)) = _
  unfold vec_works_9.f
  rw [mask_f hk0 hk]
  simp only [Option.bind_some, and_mask hk0 hk]
theorem do_mul (hk0 : 0 ≤ k) (hk : k ≤ 62) : vec_Do.f 11 k p q r n lo x y c wb = some (wrap64 (x * y) % P2 k) := by
  show (vec_works_10.f x y).bind (fun t => (vec_Mask.f k).bind fun m => some (Go.bits .and .i64 t m)) = _
  unfold vec_works_10.f
  rw [mask_f hk0 hk]
  simp only [Option.bind_some, and_mask hk0 hk]
theorem flag_f (b : Bool) : vec_flag.f b = some (if b = true then 1 else 0) := by
  unfold vec_flag.f
  split <;> rfl
theorem do_eq : vec_Do.f 12 k p q r n lo x y c wb = some (if x = y then 1 else 0) := by
  show (vec_works_11.f x y).bind (fun t => vec_flag.f t) = _
  unfold vec_works_11.f
  simp only [Option.bind_some, flag_f, beq_iff_eq]
theorem do_ne : vec_Do.f 13 k p q r n lo x y c wb = some (if x = y then 0 else 1) := by
  show (vec_works_12.f x y).bind (fun t => vec_flag.f t) = _
  unfold vec_works_12.f
  simp only [Option.bind_some, flag_f, bne_iff_ne]
  by_cases h : x = y
  · rw [if_pos h, if_neg (by simpa using h)]
  · rw [if_neg h, if_pos h]
theorem do_lt : vec_Do.f 14 k p q r n lo x y c wb = some (if x < y then 1 else 0) := by
  show (vec_works_13.f x y).bind (fun t => vec_flag.f t) = _
  unfold vec_works_13.f
  simp only [Option.bind_some, flag_f, decide_eq_true_eq]
theorem do_le : vec_Do.f 15 k p q r n lo x y c wb = some (if x ≤ y then 1 else 0) := by
  show (vec_works_14.f x y).bind (fun t => vec_flag.f t) = _
  unfold vec_works_14.f
  simp only [Option.bind_some, flag_f, decide_eq_true_eq]
theorem do_mux : vec_Do.f 16 k p q r n lo x y c wb = some (if x = 1 then y else c) := by
  show vec_works_15.f 16 k p q r n lo x y c wb = _
  unfold vec_works_15.f
  split <;> rfl
theorem or_add {a b w : Int} (ha : 0 ≤ a) (hb : Num_ w b) (hs : a * P2 w + b < 9223372036854775808) : Go.bits .or .i64 (a * P2 w) b = a * P2 w + b := by
  obtain ⟨m, rfl⟩ := Int.eq_ofNat_of_zero_le ha
  obtain ⟨v, rfl⟩ := Int.eq_ofNat_of_zero_le hb.1
  have hv := hb.2
  unfold P2 at hv hs ⊢
  have e : (m : Int) * ((2 ^ w.toNat : Nat) : Int) = ((2 ^ w.toNat * m : Nat) : Int) := by push_cast; exact Int.mul_comm _ _
  rw [e] at hs ⊢
  have hv' : v < 2 ^ w.toNat := by omega
  rw [or_nat _ _ (by omega) (by omega), ← Nat.two_pow_add_eq_or_of_lt hv' m]
  push_cast
  rfl
theorem do_cat (hw0 : 0 ≤ wb) (hw : wb ≤ 62) (hx : 0 ≤ x) (hy : Num_ wb y) (hs : x * P2 wb + y < 9223372036854775808) : vec_Do.f 17 k p q r n lo x y c wb = some (x * P2 wb + y) := by
  have h := hy.1
  show vec_works_16.f 17 k p q r n lo x y c wb = _
  unfold vec_works_16.f
  rw [if_pos hw0, shl_p2 hw hx (by omega), or_add hx hy hs]
theorem do_slice (h0 : 0 ≤ lo) (h1 : lo ≤ 62) (hn0 : lo ≤ n + 1) (hn : n - lo ≤ 61) (_hn1 : n ≤ 1000) : vec_Do.f 18 k p q r n lo x y c wb = some (x / P2 lo % P2 (n - lo + 1)) := by
  show vec_works_17.f 18 k p q r n lo x y c wb = _
  unfold vec_works_17.f
  rw [if_pos h0, w64 (n := n - lo) (by omega) (by omega), w64 (n := n - lo + 1) (by omega) (by omega), mask_f (by omega) (by omega), shr_p2 h1]
  simp only [Option.bind_some]
  rw [and_mask (by omega) (by omega)]
end
/-- The bits of a number, the lowest first. -/
def bitsL (n w : Nat) : List Bool := (List.range w).map n.testBit
theorem bitsL_len (n w : Nat) : (bitsL n w).length = w := by simp [bitsL]
theorem bitsL_get {n w i : Nat} (h : i < w) : (bitsL n w)[i]? = some (n.testBit i) := by simp [bitsL, h]
theorem bitsL_rd {n w i : Nat} (h : i < w) : rdOf false (bitsL n w) (i : Int) = n.testBit i := by
  unfold rdOf
  rw [Int.toNat_natCast, List.getD_eq_getElem?_getD, bitsL_get h]
  rfl
theorem bitsL_succ (n w : Nat) : bitsL n (w + 1) = bitsL n w ++ [n.testBit w] := by simp [bitsL, List.range_succ]
theorem bit_at (n i : Nat) (hn : n < 4611686018427387904) (hi : i ≤ 62) : ((Go.bits .and .i64 (shr .i64 (n : Int) (i : Int)) 1) == 1) = n.testBit i := by
  have h : (n : Int) / P2 (i : Int) = ((n / 2 ^ i : Nat) : Int) := by unfold P2; rw [Int.toNat_natCast]; push_cast; rfl
  have h2 : n / 2 ^ i ≤ n := Nat.div_le_self _ _
  rw [shr_p2 (by omega), h, Nat.testBit_eq_decide_div_mod_eq]
  clear h
  generalize n / 2 ^ i = m at h2 ⊢
  rw [and_one _ (by omega) (by omega)]
  rcases Nat.mod_two_eq_zero_or_one m with e | e
  · rw [e, show (m : Int) % 2 = 0 by omega]
    rfl
  · rw [e, show (m : Int) % 2 = 1 by omega]
    rfl
theorem bits_ev (n w : Nat) (hn : n < 4611686018427387904) (hw : w ≤ 62) : Ev (fun k => vec_Bits.f k (n : Int) (w : Int)) (bitsL n w) := by
  have loop : ∀ d (i : Nat), w - i = d → i ≤ w → Ev (fun k => vec_Bits.l0 k (n : Int) (bitsL n i ++ List.replicate (w - i) false) (w : Int) (i : Int)) (bitsL n w) := by
    intro d
    induction d with
    | zero =>
      intro i hd hi
      obtain rfl : i = w := by omega
      have z : ¬ ((i : Int) < (i : Int)) := by omega
      exact Ev.step (fun k => by simp only [vec_Bits.l0]; rw [if_neg z, Nat.sub_self, List.replicate_zero, List.append_nil]) (Ev.now _)
    | succ d ih =>
      intro i hd hi
      have z : (i : Int) < (w : Int) := by omega
      have z2 : (0 : Int) ≤ (i : Int) := by omega
      have z3 : (i : Int) < ((bitsL n i ++ List.replicate (w - i) false).length : Int) := by rw [List.length_append, bitsL_len, List.length_replicate]; omega
      have e : (bitsL n i ++ List.replicate (w - i) false).set i (n.testBit i) = bitsL n (i + 1) ++ List.replicate (w - (i + 1)) false := by
        rw [List.set_append_right _ _ (by rw [bitsL_len]; omega), bitsL_len, Nat.sub_self, show w - i = (w - (i + 1)) + 1 by omega, List.replicate_succ, List.set_cons_zero, bitsL_succ, List.append_assoc]
        rfl
      refine Ev.step (fun k => ?_) (ih (i + 1) (by omega) (by omega))
      simp only [vec_Bits.l0]
      rw [if_pos z, if_pos z2, if_pos z3, bit_at n i hn (by omega), Int.toNat_natCast, e, succ64 (by omega)]
  have h := loop w 0 (by omega) (by omega)
  have z : (0 : Int) ≤ (w : Int) := by omega
  have z2 : (w : Int).toNat ≤ 281474976710656 := by omega
  unfold vec_Bits.f
  simp only [if_pos z, if_pos z2]
  simpa [bitsL] using h
/-- The number of bits. -/
def numL : List Bool → Nat
  | [] => 0
  | b :: l => b.toNat + 2 * numL l
theorem numL_lt : ∀ l : List Bool, numL l < 2 ^ l.length
  | [] => by decide
  | b :: l => by
    have := numL_lt l
    have hb := Bool.toNat_lt b
    rw [List.length_cons, Nat.pow_succ]
    simp only [numL]
    omega
theorem numL_snoc (b : Bool) : ∀ l : List Bool, numL (l ++ [b]) = numL l + b.toNat * 2 ^ l.length
  | [] => by simp [numL]
  | a :: l => by
    rw [List.cons_append, List.length_cons, Nat.pow_succ]
    simp only [numL]
    rw [numL_snoc b l, Nat.mul_add, ← Nat.mul_assoc, Nat.mul_comm 2 (b.toNat), Nat.mul_assoc, Nat.mul_comm 2 (2 ^ l.length), Nat.add_assoc]
theorem numL_testBit : ∀ (l : List Bool) (i : Nat), (numL l).testBit i = l.getD i false
  | [], i => by simp [numL]
  | b :: l, 0 => by
    simp only [numL, Nat.testBit_zero, List.getD_cons_zero]
    cases b <;> simp <;> omega
  | b :: l, i + 1 => by
    rw [Nat.testBit_succ, List.getD_cons_succ, ← numL_testBit l i]
    simp only [numL]
    have hb := Bool.toNat_lt b
    congr 1
    omega
theorem num_bits {x k : Nat} (h : x < 2 ^ k) : numL (bitsL x k) = x := by
  refine Nat.eq_of_testBit_eq fun i => ?_
  rw [numL_testBit, List.getD_eq_getElem?_getD]
  by_cases hi : i < k
  · rw [bitsL_get hi]
    rfl
  · rw [List.getElem?_eq_none (by rw [bitsL_len]; omega), Nat.testBit_lt_two_pow (Nat.lt_of_lt_of_le h (Nat.pow_le_pow_right (by omega) (by omega)))]
    rfl
theorem bits_num (l : List Bool) : bitsL (numL l) l.length = l := by
  refine List.ext_getElem? fun i => ?_
  by_cases hi : i < l.length
  · rw [bitsL_get hi, numL_testBit, List.getD_eq_getElem?_getD, List.getElem?_eq_getElem hi]
    rfl
  · rw [List.getElem?_eq_none (by rw [bitsL_len]; omega), List.getElem?_eq_none (by omega)]
theorem num_ev (l : List Bool) (hl : l.length ≤ 62) : Ev (fun k => vec_Num.f k l) ((numL l : Nat) : Int) := by
  have loop : ∀ d (i : Nat), l.length - i = d → i ≤ l.length → Ev (fun k => vec_Num.l0 k ((numL (l.take i) : Nat) : Int) l (l.length : Int) (i : Int)) ((numL l : Nat) : Int) := by
    intro d
    induction d with
    | zero =>
      intro i hd hi
      obtain rfl : i = l.length := by omega
      have z : ¬ ((l.length : Int) < (l.length : Int)) := by omega
      exact Ev.step (fun k => by simp only [vec_Num.l0]; rw [if_neg z, List.take_length]) (Ev.now _)
    | succ d ih =>
      intro i hd hi
      have hlt : i < l.length := by omega
      have z : (i : Int) < (l.length : Int) := by omega
      have z2 : (0 : Int) ≤ (i : Int) := by omega
      have hr : rdOf false l (i : Int) = l[i] := by
        unfold rdOf
        rw [Int.toNat_natCast, List.getD_eq_getElem?_getD, List.getElem?_eq_getElem hlt]
        rfl
      have hn := numL_lt (l.take i)
      rw [List.length_take, Nat.min_eq_left (by omega)] at hn
      have hp : 2 ^ i ≤ 2 ^ 61 := Nat.pow_le_pow_right (by omega) (by omega)
      have e : Go.bits .or .i64 ((numL (l.take i) : Nat) : Int) (shl .i64 (if l[i] = true then 1 else 0) (i : Int)) = ((numL (l.take (i + 1)) : Nat) : Int) := by
        have e1 : shl .i64 (if l[i] = true then 1 else 0) (i : Int) = ((l[i].toNat * 2 ^ i : Nat) : Int) := by
          have : P2 (i : Int) = ((2 ^ i : Nat) : Int) := by unfold P2; rw [Int.toNat_natCast]
          cases l[i]
          · rw [if_neg (by decide), shl_p2 (by omega) (by omega) (by omega)]
            simp
          · rw [if_pos rfl, shl_p2 (by omega) (by omega) (by omega), this]
            simp
        have hb : l[i].toNat * 2 ^ i ≤ 2 ^ i := by cases l[i] <;> simp
        rw [e1, or_nat _ _ (by omega) (by omega), Nat.or_comm, Nat.mul_comm, ← Nat.two_pow_add_eq_or_of_lt hn, List.take_add_one, List.getElem?_eq_getElem hlt]
        show _ = ((numL (l.take i ++ [l[i]]) : Nat) : Int)
        rw [numL_snoc, List.length_take, Nat.min_eq_left (by omega), Nat.mul_comm, Nat.add_comm]
      refine Ev.step (fun k => ?_) (ih (i + 1) (by omega) (by omega))
      simp only [vec_Num.l0]
      rw [if_pos z, if_pos z2, if_pos z, hr, flag_f, Option.bind_some, e, succ64 (by omega)]
  have h := loop l.length 0 (by omega) (by omega)
  unfold vec_Num.f
  exact h
theorem same_ev (l : List Bool) (hl : l.length < 1000000) : Ev (fun k => proofmarkref08_Same.f k l l) true := by
  have loop : ∀ d (i : Nat), l.length - i = d → i ≤ l.length → Ev (fun k => proofmarkref08_Same.l0 k l l (i : Int)) true := by
    intro d
    induction d with
    | zero =>
      intro i hd hi
      have z : ¬ ((i : Int) < (l.length : Int)) := by omega
      exact Ev.step (fun k => by simp only [proofmarkref08_Same.l0]; rw [if_neg z]) (Ev.now _)
    | succ d ih =>
      intro i hd hi
      have z : (i : Int) < (l.length : Int) := by omega
      have z2 : (0 : Int) ≤ (i : Int) := by omega
      refine Ev.step (fun k => ?_) (ih (i + 1) (by omega) (by omega))
      simp only [proofmarkref08_Same.l0]
      rw [if_pos z, if_pos z2, if_pos z, if_neg (by simp), succ64 (by omega)]
  unfold proofmarkref08_Same.f
  simp only [if_true]
  exact loop _ 0 rfl (by omega)
end Go.Proofs.Ytcfipamdinfomaa.PVec
