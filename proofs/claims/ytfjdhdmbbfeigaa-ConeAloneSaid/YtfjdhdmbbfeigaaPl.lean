/- Plain facts, with no program in sight: the wrap of what fits; bit operations on small numbers; conditions, loops. -/
import Derived.Test.YtfjdhdmbbfeigaaAmW
namespace Go.Proofs.Ytfjdhdmbbfeigaa.Am
set_option linter.unusedVariables false
set_option linter.unusedSimpArgs false
theorem wrap_def (n : Int) : IntKind.wrap .i64 n = (n + 9223372036854775808) % 18446744073709551616 - 9223372036854775808 := by
  rw [IntKind.wrap_i64]
theorem w64 {n : Int} (h0 : -9223372036854775808 ≤ n) (h1 : n ≤ 9223372036854775807) : IntKind.wrap .i64 n = n := by rw [wrap_def]; omega
theorem succ64 {i : Nat} (h : i < 4611686018427387904) : IntKind.wrap .i64 ((i : Int) + 1) = ((i + 1 : Nat) : Int) := by rw [w64 (by omega) (by omega)]; push_cast; rfl
theorem wrapi (n : Int) (h0 : 0 ≤ n) (h1 : n < 9223372036854775808) : IntKind.i64.wrap n = n := w64 (by omega) (by omega)
theorem toN (a : Nat) (ha : a < 9223372036854775808) : (BitVec.ofInt 64 (a : Int)).toNat = a := by
  rw [BitVec.ofInt_natCast, BitVec.toNat_ofNat]; exact Nat.mod_eq_of_lt (by omega)
theorem xor_nat (a b : Nat) (ha : a < 9223372036854775808) (hb : b < 9223372036854775808) : bits .xor .i64 (a : Int) (b : Int) = ((a ^^^ b : Nat) : Int) := by
  have hx : a ^^^ b < 2 ^ 63 := Nat.xor_lt_two_pow (by omega) (by omega)
  show IntKind.i64.wrap ((BitVec.ofInt 64 (a : Int) ^^^ BitVec.ofInt 64 (b : Int)).toNat : Int) = _
  rw [BitVec.toNat_xor, toN a ha, toN b hb]
  exact wrapi _ (by omega) (by omega)
theorem and_nat (a b : Nat) (ha : a < 9223372036854775808) (hb : b < 9223372036854775808) : bits .and .i64 (a : Int) (b : Int) = ((a &&& b : Nat) : Int) := by
  have hx : a &&& b < 2 ^ 63 := Nat.and_lt_two_pow a (by omega)
  show IntKind.i64.wrap ((BitVec.ofInt 64 (a : Int) &&& BitVec.ofInt 64 (b : Int)).toNat : Int) = _
  rw [BitVec.toNat_and, toN a ha, toN b hb]
  exact wrapi _ (by omega) (by omega)
theorem or_nat (a b : Nat) (ha : a < 9223372036854775808) (hb : b < 9223372036854775808) : bits .or .i64 (a : Int) (b : Int) = ((a ||| b : Nat) : Int) := by
  have hx : a ||| b < 2 ^ 63 := Nat.or_lt_two_pow (by omega) (by omega)
  show IntKind.i64.wrap ((BitVec.ofInt 64 (a : Int) ||| BitVec.ofInt 64 (b : Int)).toNat : Int) = _
  rw [BitVec.toNat_or, toN a ha, toN b hb]
  exact wrapi _ (by omega) (by omega)
/-- A literal, turned. -/
def turn (a : Int) : Int := if a % 2 = 0 then a + 1 else a - 1
theorem nat_xor_one (a : Nat) : a ^^^ 1 = if a % 2 = 0 then a + 1 else a - 1 := by
  have h1 : (a ^^^ 1) / 2 = a / 2 := by
    have := Nat.shiftRight_xor_distrib (a := a) (b := 1) (i := 1)
    simpa [Nat.shiftRight_eq_div_pow] using this
  have h2 : (a ^^^ 1) % 2 = if a % 2 = 0 then 1 else 0 := by
    have h3 := Nat.testBit_xor a 1 0
    simp only [Nat.testBit_zero] at h3
    rcases Nat.mod_two_eq_zero_or_one a with h | h <;> rcases Nat.mod_two_eq_zero_or_one (a ^^^ 1) with h' | h' <;> simp [h, h'] at h3 ⊢
  split at h2 <;> rename_i h
  · rw [if_pos h]; omega
  · rw [if_neg h]; omega
theorem xor_one (a : Int) (h0 : 0 ≤ a) (h1 : a < 9223372036854775807) : bits .xor .i64 a 1 = turn a := by
  obtain ⟨n, rfl⟩ := Int.eq_ofNat_of_zero_le h0
  have := xor_nat n 1 (by omega) (by omega)
  rw [show ((1 : Nat) : Int) = 1 from rfl] at this
  rw [this, nat_xor_one]
  unfold turn
  split <;> split <;> omega
theorem and_one (a : Int) (h0 : 0 ≤ a) (h1 : a < 9223372036854775808) : bits .and .i64 a 1 = a % 2 := by
  obtain ⟨n, rfl⟩ := Int.eq_ofNat_of_zero_le h0
  have := and_nat n 1 (by omega) (by omega)
  rw [show ((1 : Nat) : Int) = 1 from rfl] at this
  rw [this, Nat.and_one_is_mod]
  omega
theorem turn_turn (a : Int) : turn (turn a) = a := by unfold turn; split <;> split <;> omega
theorem turn_nonneg {a : Int} (h : 0 ≤ a) : 0 ≤ turn a := by unfold turn; split <;> omega
theorem turn_lt {a n : Int} (h : a < 2 * n) : turn a < 2 * n := by unfold turn; split <;> omega
theorem turn_div (a : Int) : turn a / 2 = a / 2 := by unfold turn; split <;> omega
theorem turn_mod (a : Int) : turn a % 2 = 1 - a % 2 := by unfold turn; split <;> omega
theorem turn_ne (a : Int) : turn a ≠ a := by unfold turn; split <;> omega
theorem tdiv2 {a : Int} (h : 0 ≤ a) : Int.tdiv a 2 = a / 2 := Int.tdiv_eq_ediv_of_nonneg h
theorem tmodn {a b : Int} (h : 0 ≤ a) : Int.tmod a b = a % b := Int.tmod_eq_emod_of_nonneg h
theorem lit_u8 {x : Int} (h : (Lit.int .u8 x).wf = true) : 0 ≤ x ∧ x ≤ 255 := by
  have h1 : IntKind.u8.min = 0 := by decide
  have h2 : IntKind.u8.max = 255 := by decide
  simp [Lit.wf] at h
  omega
theorem lit_u16 {x : Int} (h : (Lit.int .u16 x).wf = true) : 0 ≤ x ∧ x ≤ 65535 := by
  have h1 : IntKind.u16.min = 0 := by decide
  have h2 : IntKind.u16.max = 65535 := by decide
  simp [Lit.wf] at h
  omega
/-- Two to the k. -/
def P2 (k : Int) : Int := ((2 ^ k.toNat : Nat) : Int)
theorem p2_pos (k : Int) : 0 < P2 k := by
  have : 0 < 2 ^ k.toNat := Nat.pow_pos (by omega)
  unfold P2
  omega
theorem p2_le {k m : Int} (h : k ≤ m) : P2 k ≤ P2 m := by
  have : 2 ^ k.toNat ≤ 2 ^ m.toNat := Nat.pow_le_pow_right (by omega) (by omega)
  unfold P2
  omega
theorem p2_62 {k : Int} (h : k ≤ 62) : P2 k ≤ 4611686018427387904 := p2_le (m := 62) h
theorem p2_16 {k : Int} (h : k ≤ 16) : P2 k ≤ 65536 := p2_le (m := 16) h
theorem p2_succ {k : Int} (h : 0 ≤ k) : P2 (k + 1) = 2 * P2 k := by
  unfold P2
  rw [show (k + 1).toNat = k.toNat + 1 by omega, Nat.pow_succ]
  omega
theorem p2_add {a b : Int} (ha : 0 ≤ a) (hb : 0 ≤ b) : P2 (a + b) = P2 a * P2 b := by
  unfold P2
  rw [show (a + b).toNat = a.toNat + b.toNat by omega, Nat.pow_add]
  push_cast
  rfl
theorem p2_one : P2 1 = 2 := rfl
theorem p2_zero : P2 0 = 1 := rfl
theorem shl_p2 {a k : Int} (h1 : k ≤ 62) (ha : 0 ≤ a) (hb : a * P2 k < 9223372036854775808) : shlI .i64 a k = a * P2 k := by
  have e : min k.toNat IntKind.i64.bits = k.toNat := Nat.min_eq_left (by show k.toNat ≤ 64; omega)
  have e2 : ((2 : Int) ^ k.toNat) = P2 k := by unfold P2; push_cast; rfl
  unfold shlI
  rw [e, e2]
  have := p2_pos k
  exact wrapi _ (Int.mul_nonneg ha (by omega)) hb
theorem shr_p2 {a k : Int} (h1 : k ≤ 62) : shrI .i64 a k = a / P2 k := by
  have e : min k.toNat IntKind.i64.bits = k.toNat := Nat.min_eq_left (by show k.toNat ≤ 64; omega)
  have e2 : ((2 : Int) ^ k.toNat) = P2 k := by unfold P2; push_cast; rfl
  unfold shrI
  rw [e, e2]
  exact Int.fdiv_eq_ediv_of_nonneg _ (by have := p2_pos k; omega)
theorem md_lt {a P : Int} (h0 : 0 ≤ a) (h1 : a < P) : a % P = a := Int.emod_eq_of_lt h0 h1
theorem md_ge {a P : Int} (h0 : P ≤ a) (h1 : a < 2 * P) : a % P = a - P := by
  have e : a = (a - P) + P * 1 := by omega
  rw [e, Int.add_mul_emod_self_left, Int.emod_eq_of_lt (by omega) (by omega)]
  omega
theorem md_neg {a P : Int} (h0 : -P ≤ a) (h1 : a < 0) : a % P = a + P := by
  have e : a = (a + P) + P * (-1) := by omega
  rw [e, Int.add_mul_emod_self_left, Int.emod_eq_of_lt (by omega) (by omega)]
  omega
theorem and_mask {a k : Int} (h0 : 0 ≤ k) (h1 : k ≤ 62) : bits .and .i64 a (P2 k - 1) = a % P2 k := by
  have h2 := p2_62 h1
  have h3 := p2_pos k
  have e : P2 k - 1 = ((2 ^ k.toNat - 1 : Nat) : Int) := by unfold P2 at h3 ⊢; omega
  have hm := Int.emod_lt_of_pos a h3
  have hm0 := Int.emod_nonneg a (by omega : P2 k ≠ 0)
  show IntKind.i64.wrap ((BitVec.ofInt 64 a &&& BitVec.ofInt 64 (P2 k - 1)).toNat : Int) = _
  rw [e, BitVec.toNat_and, toN _ (by unfold P2 at h2; omega), BitVec.toNat_ofInt, Nat.and_two_pow_sub_one_eq_mod]
  have e3 : (((a % (2 ^ 64 : Nat)).toNat % 2 ^ k.toNat : Nat) : Int) = a % P2 k := by
    rw [Int.natCast_emod, Int.toNat_of_nonneg (by omega)]
    exact Int.emod_emod_of_dvd a (by
      have : (2 ^ k.toNat : Nat) ∣ 2 ^ 64 := Nat.pow_dvd_pow 2 (by omega)
      exact Int.natCast_dvd_natCast.2 this)
  rw [e3]
  exact wrapi _ hm0 (by omega)
theorem xor_neg {a : Int} (h0 : 0 ≤ a) (h1 : a < 9223372036854775808) : bits .xor .i64 (-1) a = -1 - a := by
  obtain ⟨n, rfl⟩ := Int.eq_ofNat_of_zero_le h0
  show IntKind.i64.wrap ((BitVec.ofInt 64 (-1) ^^^ BitVec.ofInt 64 (n : Int)).toNat : Int) = _
  rw [show BitVec.ofInt 64 (-1) = BitVec.allOnes 64 by decide, BitVec.allOnes_xor, BitVec.toNat_not, toN n (by omega), IntKind.wrap_i64]
  omega
/-- A number of so many bits. -/
def Num_ (k x : Int) : Prop := 0 ≤ x ∧ x < P2 k
theorem or_add {a b w : Int} (ha : 0 ≤ a) (hb : Num_ w b) (hs : a * P2 w + b < 9223372036854775808) : bits .or .i64 (a * P2 w) b = a * P2 w + b := by
  obtain ⟨m, rfl⟩ := Int.eq_ofNat_of_zero_le ha
  obtain ⟨v, rfl⟩ := Int.eq_ofNat_of_zero_le hb.1
  have hv := hb.2
  unfold P2 at hv hs ⊢
  have e : (m : Int) * ((2 ^ w.toNat : Nat) : Int) = ((2 ^ w.toNat * m : Nat) : Int) := by push_cast; exact Int.mul_comm _ _
  rw [e] at hs ⊢
  have hv' : v < 2 ^ w.toNat := by omega
  rw [or_nat _ _ (by omega) (by omega), ← Nat.two_pow_add_eq_or_of_lt hv' m]
  push_cast
  rfl
theorem num_mod (a k : Int) : Num_ k (a % P2 k) := by
  have h := p2_pos k
  exact ⟨Int.emod_nonneg a (by omega), Int.emod_lt_of_pos a h⟩
theorem num_zero (k : Int) : Num_ k 0 := ⟨by omega, p2_pos k⟩
/-- A loop's round. -/
theorem iter_s {α β : Type} (F : (α → Option β) → α → Option β) (n : Nat) (d : α) : iter F (n + 1) d = F (iter F n) d := rfl
theorem ask_if {α : Type} {c : Prop} [Decidable c] {x : Option α} : ask c x = if c then x else none := rfl
theorem cond_dec {α : Type} {c : Prop} [Decidable c] {x y : α} : cond (decide c) x y = if c then x else y := by by_cases h : c <;> simp [h]
theorem cond_if {α : Type} {b : Bool} {x y : α} : cond b x y = if b = true then x else y := by cases b <;> rfl
theorem bindS {α β : Type} {x : α} {f : α → Option β} : (some x).bind f = f x := rfl
theorem ite_bind {α β : Type} {c : Prop} [Decidable c] {x y : Option α} {f : α → Option β} : (if c then x else y).bind f = if c then x.bind f else y.bind f := by split <;> rfl
/-- A loop, by what holds at its head. -/
theorem iter_inv {α β : Type} {F : (α → Option β) → α → Option β} (I : α → Prop) (μ : α → Nat) (Q : β → Prop) (h : ∀ self d, I d → (∀ d', I d' → μ d' < μ d → ∃ r, self d' = some r ∧ Q r) → ∃ r, F self d = some r ∧ Q r) : ∀ n d, I d → μ d < n → ∃ r, iter F n d = some r ∧ Q r
  | 0, d, _, hm => absurd hm (Nat.not_lt_zero _)
  | n + 1, d, hd, hm => h (iter F n) d hd fun d' hd' hm' => iter_inv I μ Q h n d' hd' (by omega)
/-- A loop that goes through. -/
theorem iter_up {σ β : Type} {F : (σ → Option β) → σ → Option β} (st : Nat → σ) (r : β) {len : Nat} (h1 : ∀ self j, j < len → F self (st j) = self (st (j + 1))) (h2 : ∀ self, F self (st len) = some r) {m : Nat} (hm : len < m) : iter F m (st 0) = some r := by
  have key : ∀ d j m, j + d = len → d < m → iter F m (st j) = some r := by
    intro d
    induction d with
    | zero =>
      intro j m hj hm
      obtain ⟨m, rfl⟩ : ∃ k, m = k + 1 := ⟨m - 1, by omega⟩
      obtain rfl : j = len := by omega
      exact h2 _
    | succ d ih =>
      intro j m hj hm
      obtain ⟨m, rfl⟩ : ∃ k, m = k + 1 := ⟨m - 1, by omega⟩
      rw [iter_s, h1 _ j (by omega)]
      exact ih (j + 1) m (by omega) (by omega)
  exact key len 0 m (by omega) hm
/-- A loop that looks whether all are so. -/
theorem iter_all {σ β γ : Type} {F : (σ → Option (β ⊕ γ)) → σ → Option (β ⊕ γ)} (st : Nat → σ) (ok : Nat → Prop) (no : Nat → β) (yes : γ) {len : Nat}
    (h1 : ∀ self j, j < len → (∀ i, i < j → ok i) → ok j → F self (st j) = self (st (j + 1))) (h2 : ∀ self j, j < len → (∀ i, i < j → ok i) → ¬ ok j → F self (st j) = some (.inl (no j))) (h3 : (∀ i, i < len → ok i) → ∀ self, F self (st len) = some (.inr yes)) {m : Nat} (hm : len < m) :
    ((∀ i, i < len → ok i) ∧ iter F m (st 0) = some (.inr yes)) ∨ ∃ j, j < len ∧ (∀ i, i < j → ok i) ∧ ¬ ok j ∧ iter F m (st 0) = some (.inl (no j)) := by
  have key : ∀ d j m, j + d = len → d < m → (∀ i, i < j → ok i) → ((∀ i, i < len → ok i) ∧ iter F m (st j) = some (.inr yes)) ∨ ∃ k, k < len ∧ (∀ i, i < k → ok i) ∧ ¬ ok k ∧ iter F m (st j) = some (.inl (no k)) := by
    intro d
    induction d with
    | zero =>
      intro j m hj hm hall
      obtain ⟨m, rfl⟩ : ∃ k, m = k + 1 := ⟨m - 1, by omega⟩
      obtain rfl : j = len := by omega
      exact .inl ⟨hall, h3 hall _⟩
    | succ d ih =>
      intro j m hj hm hall
      obtain ⟨m, rfl⟩ : ∃ k, m = k + 1 := ⟨m - 1, by omega⟩
      by_cases hk : ok j
      · rw [iter_s, h1 _ j (by omega) hall hk]
        exact ih (j + 1) m (by omega) (by omega) fun i hi => by
          by_cases e : i = j
          · subst e; exact hk
          · exact hall i (by omega)
      · exact .inr ⟨j, by omega, hall, hk, by rw [iter_s, h2 _ j (by omega) hall hk]⟩
  exact key len 0 m (by omega) hm fun i hi => absurd hi (Nat.not_lt_zero _)
theorem at_nat {t : Ty} {l : List t.D} {j : Nat} (h : j < l.length) : at_ t l (j : Int) = l[j] := by
  unfold at_
  rw [Int.toNat_natCast, List.getD_eq_getElem?_getD, List.getElem?_eq_getElem h]
  rfl
/-- A list filled from its beginning. -/
def fillN {α : Type} (n : Nat) (g : Nat → α) (z : α) (j : Nat) : List α := (List.range j).map g ++ List.replicate (n - j) z
theorem fillN_len {α : Type} {n : Nat} {g : Nat → α} {z : α} {j : Nat} (h : j ≤ n) : (fillN n g z j).length = n := by simp [fillN]; omega
theorem fillN_set {α : Type} {n : Nat} {g : Nat → α} {z : α} {j : Nat} (h : j < n) : (fillN n g z j).set j (g j) = fillN n g z (j + 1) := by
  unfold fillN
  rw [List.set_append_right _ _ (by simp), show n - j = (n - (j + 1)) + 1 by omega, List.replicate_succ, List.range_succ]
  simp
theorem fillN_0 {α : Type} {n : Nat} {g : Nat → α} {z : α} : fillN n g z 0 = List.replicate n z := by simp [fillN]
theorem fillN_n {α : Type} {n : Nat} {g : Nat → α} {z : α} : fillN n g z n = (List.range n).map g := by simp [fillN]
theorem range_app {α : Type} {g : Nat → α} {j : Nat} : (List.range j).map g ++ [g j] = (List.range (j + 1)).map g := by simp [List.range_succ]
theorem at_range {t : Ty} {n : Nat} {g : Nat → t.D} {j : Nat} (h : j < n) : at_ t ((List.range n).map g) (j : Int) = g j := by
  rw [at_nat (by simpa using h)]
  simp
theorem at_set {t : Ty} {l : List t.D} {i j : Nat} {x : t.D} (hi : i < l.length) : at_ t (l.set i x) (j : Int) = if i = j then x else at_ t l (j : Int) := by
  unfold at_
  simp only [Int.toNat_natCast, List.getD_eq_getElem?_getD, List.getElem?_set]
  split
  · rename_i e
    subst e
    simp [hi]
  · rfl
theorem ext_at {t : Ty} {l k : List t.D} (hl : l.length = k.length) (h : ∀ j : Nat, j < l.length → at_ t l (j : Int) = at_ t k (j : Int)) : l = k := by
  refine List.ext_getElem hl fun j h1 h2 => ?_
  have := h j h1
  rwa [at_nat h1, at_nat h2] at this
theorem lit_i64 {x : Int} (h : (Lit.int .i64 x).wf = true) : -9223372036854775808 ≤ x ∧ x ≤ 9223372036854775807 := by
  have h1 : IntKind.i64.min = -9223372036854775808 := by decide
  have h2 : IntKind.i64.max = 9223372036854775807 := by decide
  simp [Lit.wf] at h
  omega
theorem maxLen_eq : maxLen = 9223372036854775807 := by decide
/-- Fuel for all loops. -/
abbrev big : Nat := 18446744073709551616
end Go.Proofs.Ytfjdhdmbbfeigaa.Am
