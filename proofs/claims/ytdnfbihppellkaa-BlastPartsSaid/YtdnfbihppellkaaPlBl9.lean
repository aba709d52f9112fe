/- The document's Do; constants, as bits. -/
import Derived.Test.YtdnfbihppellkaaPlBl8
namespace Go.Proofs.Ytdnfbihppellkaa.Am
set_option linter.unusedVariables false
set_option linter.unusedSimpArgs false
theorem num_nat {k x : Int} (hk : k ≤ 62) (h : Num_ k x) : ∃ a : Nat, x = (a : Int) ∧ a < 2 ^ k.toNat ∧ a < 9223372036854775808 := by
  obtain ⟨a, rfl⟩ := Int.eq_ofNat_of_zero_le h.1
  have h2 := h.2
  have h3 := p2_62 hk
  unfold P2 at h2 h3
  exact ⟨a, rfl, by omega, by omega⟩
theorem and_num {k x y : Int} (hk : k ≤ 62) (hx : Num_ k x) (hy : Num_ k y) : bits .and .i64 x y % P2 k = bits .and .i64 x y := by
  obtain ⟨a, rfl, ha, ha2⟩ := num_nat hk hx
  obtain ⟨b, rfl, hb, hb2⟩ := num_nat hk hy
  rw [and_nat a b ha2 hb2]
  have := Nat.and_lt_two_pow a hb
  exact md_lt (by omega) (by unfold P2; omega)
theorem or_num {k x y : Int} (hk : k ≤ 62) (hx : Num_ k x) (hy : Num_ k y) : bits .or .i64 x y % P2 k = bits .or .i64 x y := by
  obtain ⟨a, rfl, ha, ha2⟩ := num_nat hk hx
  obtain ⟨b, rfl, hb, hb2⟩ := num_nat hk hy
  rw [or_nat a b ha2 hb2]
  have := Nat.or_lt_two_pow ha hb
  exact md_lt (by omega) (by unfold P2; omega)
theorem xor_num {k x y : Int} (hk : k ≤ 62) (hx : Num_ k x) (hy : Num_ k y) : bits .xor .i64 x y % P2 k = bits .xor .i64 x y := by
  obtain ⟨a, rfl, ha, ha2⟩ := num_nat hk hx
  obtain ⟨b, rfl, hb, hb2⟩ := num_nat hk hy
  rw [xor_nat a b ha2 hb2]
  have := Nat.xor_lt_two_pow ha hb
  exact md_lt (by omega) (by unfold P2; omega)
theorem one_f {n : Nat} {b : Bool} : ref08_one n b = some (if b = true then 1 else 0, ()) := by cases b <;> rfl
theorem one_p {n : Nat} {p : Prop} [Decidable p] : ref08_one n (decide p) = some (if p then 1 else 0, ()) := by rw [one_f]; by_cases h : p <;> simp [h]
theorem rdo_f {n m : Nat} {op w u lo x y z wbit : Int} {wa wb wc W K : Nat} (h : NodeOK op w u lo wa wb wc W K) (hx : Num_ wa x) (hy : Num_ wb y) (hz : Num_ wc z) (hb : op = 17 → wbit = wb) : ref08_Do n op w 0 0 0 u lo x y z wbit = vec_Do m op w 0 0 0 u lo x y z wb := by
  cases h with
  | lit k N h1 h2 h3 => rw [do_lit]; simp [ref08_Do]
  | inv k h1 h2 =>
    have p62 := p2_62 (k := (wa : Int)) (by omega)
    rw [do_inv (by omega) (by omega) hx]
    simp only [ref08_Do, cond_dec, Int.reduceEq, ↓reduceIte]
    rw [rmask_f (by omega) (by omega), bindS, w64 (by have := hx.2; omega) (by have := hx.1; omega)]
  | red op k h0 h1 h2 =>
    rcases h0 with rfl | rfl
    · rw [do_redor]
      simp only [ref08_Do, cond_dec, one_p, bindS, Int.reduceEq, ↓reduceIte]
      simp
    · rw [do_redand (by omega) (by omega)]
      simp only [ref08_Do, cond_dec, one_p, bindS, Int.reduceEq, ↓reduceIte]
      rw [rmask_f (by omega) (by omega), bindS]
  | two op k h0 h1 h2 =>
    rcases h0 with rfl | rfl | rfl | rfl | rfl
    · rw [do_and (by omega) (by omega), and_num (by omega) hx hy]
      simp only [ref08_Do, cond_dec, Int.reduceEq, ↓reduceIte]
    · rw [do_or (by omega) (by omega), or_num (by omega) hx hy]
      simp only [ref08_Do, cond_dec, Int.reduceEq, ↓reduceIte]
    · rw [do_xor (by omega) (by omega), xor_num (by omega) hx hy]
      simp only [ref08_Do, cond_dec, Int.reduceEq, ↓reduceIte]
    · rw [do_add (by omega) (by omega)]
      simp only [ref08_Do, cond_dec, Int.reduceEq, ↓reduceIte]
      rw [rmask_f (by omega) (by omega), bindS, and_mask (by omega) (by omega)]
    · rw [do_sub (by omega) (by omega)]
      simp only [ref08_Do, cond_dec, Int.reduceEq, ↓reduceIte]
      rw [rmask_f (by omega) (by omega), bindS, and_mask (by omega) (by omega)]
  | mul k h1 h2 =>
    rw [do_mul (by omega) (by omega)]
    simp only [ref08_Do, cond_dec, Int.reduceEq, ↓reduceIte]
    rw [rmask_f (by omega) (by omega), bindS, and_mask (by omega) (by omega)]
  | ord op k h0 h1 h2 =>
    rcases h0 with rfl | rfl | rfl | rfl
    · rw [do_eq]
      simp only [ref08_Do, ref08_more, cond_dec, one_p, bindS, Int.reduceEq, ↓reduceIte]
    · rw [do_ne]
      simp only [ref08_Do, ref08_more, cond_dec, one_p, bindS, Int.reduceEq, ↓reduceIte]
      by_cases c : x = y <;> simp [c]
    · rw [do_lt]
      simp only [ref08_Do, ref08_more, cond_dec, one_p, bindS, Int.reduceEq, ↓reduceIte]
    · rw [do_le]
      simp only [ref08_Do, ref08_more, cond_dec, one_p, bindS, Int.reduceEq, ↓reduceIte]
  | mux k h1 h2 =>
    rw [do_mux]
    simp only [ref08_Do, ref08_more, cond_dec, Int.reduceEq, ↓reduceIte]
    split <;> rfl
  | cat a b h1 h2 h3 =>
    have e := hb rfl
    subst e
    have pa := p2_16 (k := (wa : Int)) (by omega)
    have pb := p2_16 (k := (wb : Int)) (by omega)
    have hx1 := hx.2
    have hx0 := hx.1
    have hy1 := hy.2
    have hy0 := hy.1
    have hb2 : x * P2 (wb : Int) ≤ 65536 * 65536 := Int.mul_le_mul (by omega) pb (Int.le_of_lt (p2_pos _)) (by omega)
    have hb0 : 0 ≤ x * P2 (wb : Int) := Int.mul_nonneg hx0 (Int.le_of_lt (p2_pos _))
    rw [do_cat (by omega) (by omega) hx.1 hy (by omega)]
    simp only [ref08_Do, ref08_more, cond_dec, Int.reduceEq, ↓reduceIte]
    rw [ask_of (by omega), bindS, shl_p2 (by omega) hx.1 (by omega), w64 (by omega) (by omega)]
  | slice k N L h1 h2 h3 =>
    rw [do_slice (by omega) (by omega) (by omega) (by omega) (by omega)]
    simp only [ref08_Do, ref08_more, cond_dec, Int.reduceEq, ↓reduceIte]
    rw [ask_of (by omega), w64 (n := (N : Int) - (L : Int)) (by omega) (by omega), w64 (by omega) (by omega), rmask_f (by omega) (by omega), bindS, bindS, and_mask (by omega) (by omega), shr_p2 (by omega)]
theorem nbits_succ (N j : Nat) : nbits N (j + 1) = nbits N j ++ [((N / 2 ^ j % 2 : Nat) : Int)] := by simp [nbits, List.range_succ]
theorem bit_f {N j : Nat} (h63 : N < 4611686018427387904) (hj : j ≤ 60) : bits .and .i64 (shrI .i64 (N : Int) (j : Int)) 1 = ((N / 2 ^ j % 2 : Nat) : Int) := by
  rw [shr_p2 (by omega)]
  have e : (N : Int) / P2 (j : Int) = ((N / 2 ^ j : Nat) : Int) := by unfold P2; rw [Int.toNat_natCast, Int.natCast_ediv]
  rw [e]
  have hM := Nat.div_le_self N (2 ^ j)
  generalize N / 2 ^ j = M at hM ⊢
  rw [and_one _ (by omega) (by omega)]
  omega
end Go.Proofs.Ytdnfbihppellkaa.Am
