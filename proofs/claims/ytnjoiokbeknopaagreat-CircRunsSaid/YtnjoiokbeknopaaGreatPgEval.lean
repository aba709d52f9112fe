/- A net's values; its runs (chapter 15). -/
import Derived.Test.YtnjoiokbeknopaaGreatPnE
namespace Go.Proofs.YtnjoiokbeknopaaGreat.Am
set_option linter.unusedVariables false
set_option linter.unusedSimpArgs false
theorem mask_f {n : Nat} {k : Int} (h0 : 0 ≤ k) (h1 : k ≤ 62) : vec_Mask n k = some (P2 k - 1, ()) := by
  have h2 := p2_62 h1
  have h3 := p2_pos k
  unfold vec_Mask
  rw [ask_of h0, shl_p2 h1 (by omega) (by omega), Int.one_mul, w64 (by omega) (by omega)]
section
variable {m : Nat} {k p q r n lo x y c wb : Int}
theorem flag_f (b : Bool) : vec_flag m b = some (if b = true then 1 else 0, ()) := by cases b <;> rfl
theorem do_lit : vec_Do m 1 k p q r n lo x y c wb = some (n, ()) := by
  simp [vec_Do, vec_works, vec_two__vec_works_2, vec_asked__vec_works_3, vec_two__vec_works_5, vec_two__vec_works_6, vec_two__vec_works_7, vec_two__vec_works_8, vec_two__vec_works_9, vec_two__vec_works_10, vec_asked__vec_works_11, vec_asked__vec_works_12, vec_asked__vec_works_13, vec_asked__vec_works_14, vec_works_1, vec_works_2, vec_works_3, vec_works_4, vec_works_5, vec_works_6, vec_works_7, vec_works_8, vec_works_9, vec_works_10, vec_works_11, vec_works_12, vec_works_13, vec_works_14, vec_works_15, vec_works_16, vec_works_17, vec_two_1__vec_works_2, vec_two_1__vec_works_5, vec_two_1__vec_works_6, vec_two_1__vec_works_7, vec_two_1__vec_works_8, vec_two_1__vec_works_9, vec_two_1__vec_works_10, vec_asked_1__vec_works_3, vec_asked_1__vec_works_11, vec_asked_1__vec_works_12, vec_asked_1__vec_works_13, vec_asked_1__vec_works_14, flag_f]
theorem do_inv (hk0 : 0 ≤ k) (hk : k ≤ 62) (hx : Num_ k x) : vec_Do m 3 k p q r n lo x y c wb = some (P2 k - 1 - x, ()) := by
  simp [vec_Do, vec_works, vec_two__vec_works_2, vec_asked__vec_works_3, vec_two__vec_works_5, vec_two__vec_works_6, vec_two__vec_works_7, vec_two__vec_works_8, vec_two__vec_works_9, vec_two__vec_works_10, vec_asked__vec_works_11, vec_asked__vec_works_12, vec_asked__vec_works_13, vec_asked__vec_works_14, vec_works_1, vec_works_2, vec_works_3, vec_works_4, vec_works_5, vec_works_6, vec_works_7, vec_works_8, vec_works_9, vec_works_10, vec_works_11, vec_works_12, vec_works_13, vec_works_14, vec_works_15, vec_works_16, vec_works_17, vec_two_1__vec_works_2, vec_two_1__vec_works_5, vec_two_1__vec_works_6, vec_two_1__vec_works_7, vec_two_1__vec_works_8, vec_two_1__vec_works_9, vec_two_1__vec_works_10, vec_asked_1__vec_works_3, vec_asked_1__vec_works_11, vec_asked_1__vec_works_12, vec_asked_1__vec_works_13, vec_asked_1__vec_works_14, mask_f hk0 hk, xor_neg hx.1 (by have := hx.2; have := p2_62 hk; omega), and_mask hk0 hk]
  rw [md_neg (a := -1 - x) (P := P2 k) (by have := hx.2; omega) (by have := hx.1; omega)]
  omega
theorem do_redor : vec_Do m 4 k p q r n lo x y c wb = some (if x = 0 then 0 else 1, ()) := by
  simp [vec_Do, vec_works, vec_two__vec_works_2, vec_asked__vec_works_3, vec_two__vec_works_5, vec_two__vec_works_6, vec_two__vec_works_7, vec_two__vec_works_8, vec_two__vec_works_9, vec_two__vec_works_10, vec_asked__vec_works_11, vec_asked__vec_works_12, vec_asked__vec_works_13, vec_asked__vec_works_14, vec_works_1, vec_works_2, vec_works_3, vec_works_4, vec_works_5, vec_works_6, vec_works_7, vec_works_8, vec_works_9, vec_works_10, vec_works_11, vec_works_12, vec_works_13, vec_works_14, vec_works_15, vec_works_16, vec_works_17, vec_two_1__vec_works_2, vec_two_1__vec_works_5, vec_two_1__vec_works_6, vec_two_1__vec_works_7, vec_two_1__vec_works_8, vec_two_1__vec_works_9, vec_two_1__vec_works_10, vec_asked_1__vec_works_3, vec_asked_1__vec_works_11, vec_asked_1__vec_works_12, vec_asked_1__vec_works_13, vec_asked_1__vec_works_14, flag_f]
theorem do_redand (h0 : 0 ≤ lo) (h1 : lo ≤ 62) : vec_Do m 5 k p q r n lo x y c wb = some (if x = P2 lo - 1 then 1 else 0, ()) := by
  simp [vec_Do, vec_works, vec_two__vec_works_2, vec_asked__vec_works_3, vec_two__vec_works_5, vec_two__vec_works_6, vec_two__vec_works_7, vec_two__vec_works_8, vec_two__vec_works_9, vec_two__vec_works_10, vec_asked__vec_works_11, vec_asked__vec_works_12, vec_asked__vec_works_13, vec_asked__vec_works_14, vec_works_1, vec_works_2, vec_works_3, vec_works_4, vec_works_5, vec_works_6, vec_works_7, vec_works_8, vec_works_9, vec_works_10, vec_works_11, vec_works_12, vec_works_13, vec_works_14, vec_works_15, vec_works_16, vec_works_17, vec_two_1__vec_works_2, vec_two_1__vec_works_5, vec_two_1__vec_works_6, vec_two_1__vec_works_7, vec_two_1__vec_works_8, vec_two_1__vec_works_9, vec_two_1__vec_works_10, vec_asked_1__vec_works_3, vec_asked_1__vec_works_11, vec_asked_1__vec_works_12, vec_asked_1__vec_works_13, vec_asked_1__vec_works_14, mask_f h0 h1, flag_f]
theorem do_and (hk0 : 0 ≤ k) (hk : k ≤ 62) : vec_Do m 6 k p q r n lo x y c wb = some (bits .and .i64 x y % P2 k, ()) := by
  simp [vec_Do, vec_works, vec_two__vec_works_2, vec_asked__vec_works_3, vec_two__vec_works_5, vec_two__vec_works_6, vec_two__vec_works_7, vec_two__vec_works_8, vec_two__vec_works_9, vec_two__vec_works_10, vec_asked__vec_works_11, vec_asked__vec_works_12, vec_asked__vec_works_13, vec_asked__vec_works_14, vec_works_1, vec_works_2, vec_works_3, vec_works_4, vec_works_5, vec_works_6, vec_works_7, vec_works_8, vec_works_9, vec_works_10, vec_works_11, vec_works_12, vec_works_13, vec_works_14, vec_works_15, vec_works_16, vec_works_17, vec_two_1__vec_works_2, vec_two_1__vec_works_5, vec_two_1__vec_works_6, vec_two_1__vec_works_7, vec_two_1__vec_works_8, vec_two_1__vec_works_9, vec_two_1__vec_works_10, vec_asked_1__vec_works_3, vec_asked_1__vec_works_11, vec_asked_1__vec_works_12, vec_asked_1__vec_works_13, vec_asked_1__vec_works_14, mask_f hk0 hk, and_mask hk0 hk]
theorem do_or (hk0 : 0 ≤ k) (hk : k ≤ 62) : vec_Do m 7 k p q r n lo x y c wb = some (bits .or .i64 x y % P2 k, ()) := by
  simp [vec_Do, vec_works, vec_two__vec_works_2, vec_asked__vec_works_3, vec_two__vec_works_5, vec_two__vec_works_6, vec_two__vec_works_7, vec_two__vec_works_8, vec_two__vec_works_9, vec_two__vec_works_10, vec_asked__vec_works_11, vec_asked__vec_works_12, vec_asked__vec_works_13, vec_asked__vec_works_14, vec_works_1, vec_works_2, vec_works_3, vec_works_4, vec_works_5, vec_works_6, vec_works_7, vec_works_8, vec_works_9, vec_works_10, vec_works_11, vec_works_12, vec_works_13, vec_works_14, vec_works_15, vec_works_16, vec_works_17, vec_two_1__vec_works_2, vec_two_1__vec_works_5, vec_two_1__vec_works_6, vec_two_1__vec_works_7, vec_two_1__vec_works_8, vec_two_1__vec_works_9, vec_two_1__vec_works_10, vec_asked_1__vec_works_3, vec_asked_1__vec_works_11, vec_asked_1__vec_works_12, vec_asked_1__vec_works_13, vec_asked_1__vec_works_14, mask_f hk0 hk, and_mask hk0 hk]
theorem do_xor (hk0 : 0 ≤ k) (hk : k ≤ 62) : vec_Do m 8 k p q r n lo x y c wb = some (bits .xor .i64 x y % P2 k, ()) := by
  simp [vec_Do, vec_works, vec_two__vec_works_2, vec_asked__vec_works_3, vec_two__vec_works_5, vec_two__vec_works_6, vec_two__vec_works_7, vec_two__vec_works_8, vec_two__vec_works_9, vec_two__vec_works_10, vec_asked__vec_works_11, vec_asked__vec_works_12, vec_asked__vec_works_13, vec_asked__vec_works_14, vec_works_1, vec_works_2, vec_works_3, vec_works_4, vec_works_5, vec_works_6, vec_works_7, vec_works_8, vec_works_9, vec_works_10, vec_works_11, vec_works_12, vec_works_13, vec_works_14, vec_works_15, vec_works_16, vec_works_17, vec_two_1__vec_works_2, vec_two_1__vec_works_5, vec_two_1__vec_works_6, vec_two_1__vec_works_7, vec_two_1__vec_works_8, vec_two_1__vec_works_9, vec_two_1__vec_works_10, vec_asked_1__vec_works_3, vec_asked_1__vec_works_11, vec_asked_1__vec_works_12, vec_asked_1__vec_works_13, vec_asked_1__vec_works_14, mask_f hk0 hk, and_mask hk0 hk]
theorem do_add (hk0 : 0 ≤ k) (hk : k ≤ 62) : vec_Do m 9 k p q r n lo x y c wb = some (IntKind.wrap .i64 (x + y) % P2 k, ()) := by
  simp [vec_Do, vec_works, vec_two__vec_works_2, vec_asked__vec_works_3, vec_two__vec_works_5, vec_two__vec_works_6, vec_two__vec_works_7, vec_two__vec_works_8, vec_two__vec_works_9, vec_two__vec_works_10, vec_asked__vec_works_11, vec_asked__vec_works_12, vec_asked__vec_works_13, vec_asked__vec_works_14, vec_works_1, vec_works_2, vec_works_3, vec_works_4, vec_works_5, vec_works_6, vec_works_7, vec_works_8, vec_works_9, vec_works_10, vec_works_11, vec_works_12, vec_works_13, vec_works_14, vec_works_15, vec_works_16, vec_works_17, vec_two_1__vec_works_2, vec_two_1__vec_works_5, vec_two_1__vec_works_6, vec_two_1__vec_works_7, vec_two_1__vec_works_8, vec_two_1__vec_works_9, vec_two_1__vec_works_10, vec_asked_1__vec_works_3, vec_asked_1__vec_works_11, vec_asked_1__vec_works_12, vec_asked_1__vec_works_13, vec_asked_1__vec_works_14, mask_f hk0 hk, and_mask hk0 hk]
theorem do_sub (hk0 : 0 ≤ k) (hk : k ≤ 62) : vec_Do m 10 k p q r n lo x y c wb = some (IntKind.wrap .i64 (x - y) % P2 k, ()) := by
  simp [vec_Do, vec_works, vec_two__vec_works_2, vec_asked__vec_works_3, vec_two__vec_works_5, vec_two__vec_works_6, vec_two__vec_works_7, vec_two__vec_works_8, vec_two__vec_works_9, vec_two__vec_works_10, vec_asked__vec_works_11, vec_asked__vec_works_12, vec_asked__vec_works_13, vec_asked__vec_works_14, vec_works_1, vec_works_2, vec_works_3, vec_works_4, vec_works_5, vec_works_6, vec_works_7, vec_works_8, vec_works_9, vec_works_10, vec_works_11, vec_works_12, vec_works_13, vec_works_14, vec_works_15, vec_works_16, vec_works_17, vec_two_1__vec_works_2, vec_two_1__vec_works_5, vec_two_1__vec_works_6, vec_two_1__vec_works_7, vec_two_1__vec_works_8, vec_two_1__vec_works_9, vec_two_1__vec_works_10, vec_asked_1__vec_works_3, vec_asked_1__vec_works_11, vec_asked_1__vec_works_12, vec_asked_1__vec_works_13, vec_asked_1__vec_works_14, mask_f hk0 hk, and_mask hk0 hk]
theorem do_mul (hk0 : 0 ≤ k) (hk : k ≤ 62) : vec_Do m 11 k p q r n lo x y c wb = some (IntKind.wrap .i64 (x * y) % P2 k, ()) := by
  simp [vec_Do, vec_works, vec_two__vec_works_2, vec_asked__vec_works_3, vec_two__vec_works_5, vec_two__vec_works_6, vec_two__vec_works_7, vec_two__vec_works_8, vec_two__vec_works_9, vec_two__vec_works_10, vec_asked__vec_works_11, vec_asked__vec_works_12, vec_asked__vec_works_13, vec_asked__vec_works_14, vec_works_1, vec_works_2, vec_works_3, vec_works_4, vec_works_5, vec_works_6, vec_works_7, vec_works_8, vec_works_9, vec_works_10, vec_works_11, vec_works_12, vec_works_13, vec_works_14, vec_works_15, vec_works_16, vec_works_17, vec_two_1__vec_works_2, vec_two_1__vec_works_5, vec_two_1__vec_works_6, vec_two_1__vec_works_7, vec_two_1__vec_works_8, vec_two_1__vec_works_9, vec_two_1__vec_works_10, vec_asked_1__vec_works_3, vec_asked_1__vec_works_11, vec_asked_1__vec_works_12, vec_asked_1__vec_works_13, vec_asked_1__vec_works_14, mask_f hk0 hk, and_mask hk0 hk]
theorem do_eq : vec_Do m 12 k p q r n lo x y c wb = some (if x = y then 1 else 0, ()) := by
  simp [vec_Do, vec_works, vec_two__vec_works_2, vec_asked__vec_works_3, vec_two__vec_works_5, vec_two__vec_works_6, vec_two__vec_works_7, vec_two__vec_works_8, vec_two__vec_works_9, vec_two__vec_works_10, vec_asked__vec_works_11, vec_asked__vec_works_12, vec_asked__vec_works_13, vec_asked__vec_works_14, vec_works_1, vec_works_2, vec_works_3, vec_works_4, vec_works_5, vec_works_6, vec_works_7, vec_works_8, vec_works_9, vec_works_10, vec_works_11, vec_works_12, vec_works_13, vec_works_14, vec_works_15, vec_works_16, vec_works_17, vec_two_1__vec_works_2, vec_two_1__vec_works_5, vec_two_1__vec_works_6, vec_two_1__vec_works_7, vec_two_1__vec_works_8, vec_two_1__vec_works_9, vec_two_1__vec_works_10, vec_asked_1__vec_works_3, vec_asked_1__vec_works_11, vec_asked_1__vec_works_12, vec_asked_1__vec_works_13, vec_asked_1__vec_works_14, flag_f]
theorem do_ne : vec_Do m 13 k p q r n lo x y c wb = some (if x = y then 0 else 1, ()) := by
  simp [vec_Do, vec_works, vec_two__vec_works_2, vec_asked__vec_works_3, vec_two__vec_works_5, vec_two__vec_works_6, vec_two__vec_works_7, vec_two__vec_works_8, vec_two__vec_works_9, vec_two__vec_works_10, vec_asked__vec_works_11, vec_asked__vec_works_12, vec_asked__vec_works_13, vec_asked__vec_works_14, vec_works_1, vec_works_2, vec_works_3, vec_works_4, vec_works_5, vec_works_6, vec_works_7, vec_works_8, vec_works_9, vec_works_10, vec_works_11, vec_works_12, vec_works_13, vec_works_14, vec_works_15, vec_works_16, vec_works_17, vec_two_1__vec_works_2, vec_two_1__vec_works_5, vec_two_1__vec_works_6, vec_two_1__vec_works_7, vec_two_1__vec_works_8, vec_two_1__vec_works_9, vec_two_1__vec_works_10, vec_asked_1__vec_works_3, vec_asked_1__vec_works_11, vec_asked_1__vec_works_12, vec_asked_1__vec_works_13, vec_asked_1__vec_works_14, flag_f]
theorem do_lt : vec_Do m 14 k p q r n lo x y c wb = some (if x < y then 1 else 0, ()) := by
  simp [vec_Do, vec_works, vec_two__vec_works_2, vec_asked__vec_works_3, vec_two__vec_works_5, vec_two__vec_works_6, vec_two__vec_works_7, vec_two__vec_works_8, vec_two__vec_works_9, vec_two__vec_works_10, vec_asked__vec_works_11, vec_asked__vec_works_12, vec_asked__vec_works_13, vec_asked__vec_works_14, vec_works_1, vec_works_2, vec_works_3, vec_works_4, vec_works_5, vec_works_6, vec_works_7, vec_works_8, vec_works_9, vec_works_10, vec_works_11, vec_works_12, vec_works_13, vec_works_14, vec_works_15, vec_works_16, vec_works_17, vec_two_1__vec_works_2, vec_two_1__vec_works_5, vec_two_1__vec_works_6, vec_two_1__vec_works_7, vec_two_1__vec_works_8, vec_two_1__vec_works_9, vec_two_1__vec_works_10, vec_asked_1__vec_works_3, vec_asked_1__vec_works_11, vec_asked_1__vec_works_12, vec_asked_1__vec_works_13, vec_asked_1__vec_works_14, flag_f]
theorem do_le : vec_Do m 15 k p q r n lo x y c wb = some (if x ≤ y then 1 else 0, ()) := by
  simp [vec_Do, vec_works, vec_two__vec_works_2, vec_asked__vec_works_3, vec_two__vec_works_5, vec_two__vec_works_6, vec_two__vec_works_7, vec_two__vec_works_8, vec_two__vec_works_9, vec_two__vec_works_10, vec_asked__vec_works_11, vec_asked__vec_works_12, vec_asked__vec_works_13, vec_asked__vec_works_14, vec_works_1, vec_works_2, vec_works_3, vec_works_4, vec_works_5, vec_works_6, vec_works_7, vec_works_8, vec_works_9, vec_works_10, vec_works_11, vec_works_12, vec_works_13, vec_works_14, vec_works_15, vec_works_16, vec_works_17, vec_two_1__vec_works_2, vec_two_1__vec_works_5, vec_two_1__vec_works_6, vec_two_1__vec_works_7, vec_two_1__vec_works_8, vec_two_1__vec_works_9, vec_two_1__vec_works_10, vec_asked_1__vec_works_3, vec_asked_1__vec_works_11, vec_asked_1__vec_works_12, vec_asked_1__vec_works_13, vec_asked_1__vec_works_14, flag_f]
theorem do_mux : vec_Do m 16 k p q r n lo x y c wb = some (if x = 1 then y else c, ()) := by
  simp [vec_Do, vec_works, vec_two__vec_works_2, vec_asked__vec_works_3, vec_two__vec_works_5, vec_two__vec_works_6, vec_two__vec_works_7, vec_two__vec_works_8, vec_two__vec_works_9, vec_two__vec_works_10, vec_asked__vec_works_11, vec_asked__vec_works_12, vec_asked__vec_works_13, vec_asked__vec_works_14, vec_works_1, vec_works_2, vec_works_3, vec_works_4, vec_works_5, vec_works_6, vec_works_7, vec_works_8, vec_works_9, vec_works_10, vec_works_11, vec_works_12, vec_works_13, vec_works_14, vec_works_15, vec_works_16, vec_works_17, vec_two_1__vec_works_2, vec_two_1__vec_works_5, vec_two_1__vec_works_6, vec_two_1__vec_works_7, vec_two_1__vec_works_8, vec_two_1__vec_works_9, vec_two_1__vec_works_10, vec_asked_1__vec_works_3, vec_asked_1__vec_works_11, vec_asked_1__vec_works_12, vec_asked_1__vec_works_13, vec_asked_1__vec_works_14, flag_f, cond_dec]
  split <;> rfl
theorem do_cat (hw0 : 0 ≤ wb) (hw : wb ≤ 62) (hx : 0 ≤ x) (hy : Num_ wb y) (hs : x * P2 wb + y < 9223372036854775808) : vec_Do m 17 k p q r n lo x y c wb = some (x * P2 wb + y, ()) := by
  simp [vec_Do, vec_works, vec_two__vec_works_2, vec_asked__vec_works_3, vec_two__vec_works_5, vec_two__vec_works_6, vec_two__vec_works_7, vec_two__vec_works_8, vec_two__vec_works_9, vec_two__vec_works_10, vec_asked__vec_works_11, vec_asked__vec_works_12, vec_asked__vec_works_13, vec_asked__vec_works_14, vec_works_1, vec_works_2, vec_works_3, vec_works_4, vec_works_5, vec_works_6, vec_works_7, vec_works_8, vec_works_9, vec_works_10, vec_works_11, vec_works_12, vec_works_13, vec_works_14, vec_works_15, vec_works_16, vec_works_17, vec_two_1__vec_works_2, vec_two_1__vec_works_5, vec_two_1__vec_works_6, vec_two_1__vec_works_7, vec_two_1__vec_works_8, vec_two_1__vec_works_9, vec_two_1__vec_works_10, vec_asked_1__vec_works_3, vec_asked_1__vec_works_11, vec_asked_1__vec_works_12, vec_asked_1__vec_works_13, vec_asked_1__vec_works_14, ask_of hw0, shl_p2 hw hx (by have := hy.1; omega), or_add hx hy hs]
theorem do_slice (h0 : 0 ≤ lo) (h1 : lo ≤ 62) (hn0 : lo ≤ n + 1) (hn : n - lo ≤ 61) (_hn1 : n ≤ 1000) : vec_Do m 18 k p q r n lo x y c wb = some (x / P2 lo % P2 (n - lo + 1), ()) := by
  simp [vec_Do, vec_works, vec_two__vec_works_2, vec_asked__vec_works_3, vec_two__vec_works_5, vec_two__vec_works_6, vec_two__vec_works_7, vec_two__vec_works_8, vec_two__vec_works_9, vec_two__vec_works_10, vec_asked__vec_works_11, vec_asked__vec_works_12, vec_asked__vec_works_13, vec_asked__vec_works_14, vec_works_1, vec_works_2, vec_works_3, vec_works_4, vec_works_5, vec_works_6, vec_works_7, vec_works_8, vec_works_9, vec_works_10, vec_works_11, vec_works_12, vec_works_13, vec_works_14, vec_works_15, vec_works_16, vec_works_17, vec_two_1__vec_works_2, vec_two_1__vec_works_5, vec_two_1__vec_works_6, vec_two_1__vec_works_7, vec_two_1__vec_works_8, vec_two_1__vec_works_9, vec_two_1__vec_works_10, vec_asked_1__vec_works_3, vec_asked_1__vec_works_11, vec_asked_1__vec_works_12, vec_asked_1__vec_works_13, vec_asked_1__vec_works_14, ask_of h0, w64 (n := n - lo) (by omega) (by omega), w64 (n := n - lo + 1) (by omega) (by omega), mask_f (n := m) (k := n - lo + 1) (by omega) (by omega), shr_p2 h1, and_mask (k := n - lo + 1) (by omega) (by omega)]
end
theorem cat_lt {W wb x y : Int} (h0 : 0 ≤ wb) (h1 : wb ≤ W) (hx : Num_ (W - wb) x) (hy : Num_ wb y) : 0 ≤ x * P2 wb ∧ x * P2 wb + y < P2 W := by
  have e : P2 W = P2 (W - wb) * P2 wb := by rw [← p2_add (by omega) h0]; congr 1; omega
  have h2 := p2_pos wb
  have h3 : (x + 1) * P2 wb ≤ P2 (W - wb) * P2 wb := Int.mul_le_mul_of_nonneg_right (by have := hx.2; omega) (by omega)
  rw [Int.add_mul, Int.one_mul] at h3
  exact ⟨Int.mul_nonneg hx.1 (by omega), by rw [e]; have := hy.2; omega⟩
theorem bit01 {P : Prop} [Decidable P] : Num_ 1 (if P then (1 : Int) else 0) := by unfold Num_; rw [p2_one]; split <;> omega
theorem bit10 {P : Prop} [Decidable P] : Num_ 1 (if P then (0 : Int) else 1) := by unfold Num_; rw [p2_one]; split <;> omega
/-- What a node makes of numbers. -/
noncomputable def doV (N : List Nd) (v : List Int) (x : Nd) : Int := match vec_Do 0 x.1 x.2.1 x.2.2.1 x.2.2.2.1 x.2.2.2.2.1 x.2.2.2.2.2.1 x.2.2.2.2.2.2 (Ki_at v x.2.2.1) (Ki_at v x.2.2.2.1) (Ki_at v x.2.2.2.2.1) (Kiiiiiii_at N x.2.2.2.1).2.1 with | some r => r.1 | none => 0
theorem do_same (n : Nat) (a b c d e f g h i j k : Int) : vec_Do n a b c d e f g h i j k = vec_Do 0 a b c d e f g h i j k := rfl
/-- What a node makes is a number of its width. -/
theorem do_ok {n : Nat} {N : List Nd} {i : Nat} (hall : ∀ j : Nat, j < i → NodeP N j) (h : NodeP N i) (ho : ¬ ((Kiiiiiii_at N i).1 = 21 ∨ (Kiiiiiii_at N i).1 = 22)) {v : List Int} (hv : ∀ j : Int, 0 ≤ j → j < i → Num_ (Kiiiiiii_at N j).2.1 (Ki_at v j)) :
    vec_Do n (Kiiiiiii_at N i).1 (Kiiiiiii_at N i).2.1 (Kiiiiiii_at N i).2.2.1 (Kiiiiiii_at N i).2.2.2.1 (Kiiiiiii_at N i).2.2.2.2.1 (Kiiiiiii_at N i).2.2.2.2.2.1 (Kiiiiiii_at N i).2.2.2.2.2.2 (Ki_at v (Kiiiiiii_at N i).2.2.1) (Ki_at v (Kiiiiiii_at N i).2.2.2.1) (Ki_at v (Kiiiiiii_at N i).2.2.2.2.1) (Kiiiiiii_at N (Kiiiiiii_at N i).2.2.2.1).2.1 = some (doV N v (Kiiiiiii_at N i), ()) ∧ Num_ (Kiiiiiii_at N i).2.1 (doV N v (Kiiiiiii_at N i)) := by
  have fin : (∃ y, vec_Do n (Kiiiiiii_at N i).1 (Kiiiiiii_at N i).2.1 (Kiiiiiii_at N i).2.2.1 (Kiiiiiii_at N i).2.2.2.1 (Kiiiiiii_at N i).2.2.2.2.1 (Kiiiiiii_at N i).2.2.2.2.2.1 (Kiiiiiii_at N i).2.2.2.2.2.2 (Ki_at v (Kiiiiiii_at N i).2.2.1) (Ki_at v (Kiiiiiii_at N i).2.2.2.1) (Ki_at v (Kiiiiiii_at N i).2.2.2.2.1) (Kiiiiiii_at N (Kiiiiiii_at N i).2.2.2.1).2.1 = some (y, ()) ∧ Num_ (Kiiiiiii_at N i).2.1 y) → vec_Do n (Kiiiiiii_at N i).1 (Kiiiiiii_at N i).2.1 (Kiiiiiii_at N i).2.2.1 (Kiiiiiii_at N i).2.2.2.1 (Kiiiiiii_at N i).2.2.2.2.1 (Kiiiiiii_at N i).2.2.2.2.2.1 (Kiiiiiii_at N i).2.2.2.2.2.2 (Ki_at v (Kiiiiiii_at N i).2.2.1) (Ki_at v (Kiiiiiii_at N i).2.2.2.1) (Ki_at v (Kiiiiiii_at N i).2.2.2.2.1) (Kiiiiiii_at N (Kiiiiiii_at N i).2.2.2.1).2.1 = some (doV N v (Kiiiiiii_at N i), ()) ∧ Num_ (Kiiiiiii_at N i).2.1 (doV N v (Kiiiiiii_at N i)) := by
    rintro ⟨y, h1, h2⟩
    have e : doV N v (Kiiiiiii_at N i) = y := by
      unfold doV
      rw [← do_same n, h1]
    rw [e]
    exact ⟨h1, h2⟩
  refine fin ?_
  have w1 := h.w1
  have w16 := h.w16
  have ha := wid_le hall (Kiiiiiii_at N i).2.2.1
  have hb := wid_le hall (Kiiiiiii_at N i).2.2.2.1
  have hc := wid_le hall (Kiiiiiii_at N i).2.2.2.2.1
  have num : ∀ {a : Int}, 0 < wid N a i → Num_ (wid N a i) (Ki_at v a) := fun {a} q => by
    obtain ⟨q0, q1, q2⟩ := wid_pos q
    rw [q2]
    exact hv a q0 q1
  rcases h.fit with ⟨o, f1, f2, f3⟩ | ⟨o, -⟩ | ⟨o, f1, f2, f3⟩ | ⟨o, f1, f2, f3, f4⟩ | ⟨o, f1, f2, f3, f4⟩ | ⟨o, f1, f2, f3, f4, f5⟩ | ⟨o, f1, f2, f3, f4, f5⟩ | ⟨o, f1, f2, f3, f4, f5⟩ | ⟨o, f1, f2, f3, f4⟩
  · rw [o]
    exact ⟨_, do_lit, by omega, by omega⟩
  · exact absurd o ho
  · have hx := num (a := (Kiiiiiii_at N i).2.2.1) (by omega)
    rw [f3] at hx
    rw [o]
    exact ⟨_, do_inv (by omega) (by omega) hx, by have := hx.2; omega, by have := hx.1; omega⟩
  · rw [f2]
    rcases o with o | o
    · rw [o]
      exact ⟨_, do_redor, bit10⟩
    · rw [o]
      exact ⟨_, do_redand (by omega) (by omega), bit01⟩
  · have o' : (Kiiiiiii_at N i).1 = 6 ∨ (Kiiiiiii_at N i).1 = 7 ∨ (Kiiiiiii_at N i).1 = 8 ∨ (Kiiiiiii_at N i).1 = 9 ∨ (Kiiiiiii_at N i).1 = 10 ∨ (Kiiiiiii_at N i).1 = 11 := by omega
    rcases o' with o | o | o | o | o | o <;> rw [o]
    · exact ⟨_, do_and (by omega) (by omega), num_mod _ _⟩
    · exact ⟨_, do_or (by omega) (by omega), num_mod _ _⟩
    · exact ⟨_, do_xor (by omega) (by omega), num_mod _ _⟩
    · exact ⟨_, do_add (by omega) (by omega), num_mod _ _⟩
    · exact ⟨_, do_sub (by omega) (by omega), num_mod _ _⟩
    · exact ⟨_, do_mul (by omega) (by omega), num_mod _ _⟩
  · have o' : (Kiiiiiii_at N i).1 = 12 ∨ (Kiiiiiii_at N i).1 = 13 ∨ (Kiiiiiii_at N i).1 = 14 ∨ (Kiiiiiii_at N i).1 = 15 := by omega
    rw [f2]
    rcases o' with o | o | o | o <;> rw [o]
    · exact ⟨_, do_eq, bit01⟩
    · exact ⟨_, do_ne, bit10⟩
    · exact ⟨_, do_lt, bit01⟩
    · exact ⟨_, do_le, bit01⟩
  · have hy := num (a := (Kiiiiiii_at N i).2.2.2.1) (by omega)
    have hz := num (a := (Kiiiiiii_at N i).2.2.2.2.1) (by omega)
    rw [f4] at hy
    rw [f5] at hz
    rw [o]
    refine ⟨_, do_mux, ?_⟩
    split
    · exact hy
    · exact hz
  · have hx := num (a := (Kiiiiiii_at N i).2.2.1) (by omega)
    have hy := num (a := (Kiiiiiii_at N i).2.2.2.1) (by omega)
    obtain ⟨-, -, e⟩ := wid_pos (N := N) (a := (Kiiiiiii_at N i).2.2.2.1) (i := i) (by omega)
    have e2 : wid N (Kiiiiiii_at N i).2.2.1 i = (Kiiiiiii_at N i).2.1 - wid N (Kiiiiiii_at N i).2.2.2.1 i := by omega
    rw [e2] at hx
    have hl := cat_lt (by omega) (by omega) hx hy
    have hp := p2_16 w16
    rw [o, ← e]
    exact ⟨_, do_cat (by omega) (by omega) hx.1 hy (by omega), by have := hy.1; omega, hl.2⟩
  · rw [o]
    refine ⟨_, do_slice (by omega) (by omega) (by omega) (by omega) (by omega), ?_⟩
    rw [← f4]
    exact num_mod _ _
/-- Numbers put at places, so many of them. -/
def setS (l : List Int) (p : Nat → Int) (x : Nat → Int) : Nat → List Int
  | 0 => l
  | i + 1 => (setS l p x i).set (p i).toNat (x i)
theorem setS_len (l : List Int) (p x : Nat → Int) : ∀ i, (setS l p x i).length = l.length
  | 0 => rfl
  | i + 1 => by rw [setS, List.length_set, setS_len l p x i]
noncomputable def evN (N : List Nd) (l : List Int) : Nat → List Int
  | 0 => l
  | i + 1 => if (Kiiiiiii_at N i).1 = 21 ∨ (Kiiiiiii_at N i).1 = 22 then evN N l i else (evN N l i).set i (doV N (evN N l i) (Kiiiiiii_at N i))
theorem evN_len (N : List Nd) (l : List Int) : ∀ i, (evN N l i).length = l.length
  | 0 => rfl
  | i + 1 => by
    rw [evN]
    split
    · exact evN_len N l i
    · rw [List.length_set, evN_len N l i]
def insV (N : List Nd) (I : List Pn) (ins : List Int) : List Int := setS (List.replicate N.length 0) (fun j => (Ksi_at I j).2) (fun j => Ki_at ins j) I.length
def stV (N : List Nd) (I : List Pn) (C : List Cl) (st ins : List Int) : List Int := setS (insV N I ins) (fun j => (Ksiii_at C j).2.1) (fun j => Ki_at st j) C.length
/-- What all nodes are. -/
noncomputable def evalV (N : List Nd) (I : List Pn) (C : List Cl) (st ins : List Int) : List Int := evN N (stV N I C st ins) N.length
theorem stV_len (N : List Nd) (I : List Pn) (C : List Cl) (st ins : List Int) : (stV N I C st ins).length = N.length := by
  unfold stV insV
  rw [setS_len, setS_len, List.length_replicate]
theorem evalV_len (N : List Nd) (I : List Pn) (C : List Cl) (st ins : List Int) : (evalV N I C st ins).length = N.length := by
  unfold evalV
  rw [evN_len, stV_len]
/-- All are numbers of their widths. -/
def Nums (N : List Nd) (v : List Int) : Prop := v.length = N.length ∧ ∀ j : Nat, j < N.length → Num_ (Kiiiiiii_at N (j : Int)).2.1 (Ki_at v (j : Int))
theorem nums_set {N : List Nd} {v : List Int} (h : Nums N v) {i : Nat} {x : Int} (hx : i < N.length → Num_ (Kiiiiiii_at N (i : Int)).2.1 x) : Nums N (v.set i x) := by
  refine ⟨by rw [List.length_set]; exact h.1, fun j hj => ?_⟩
  by_cases c : i < v.length
  · rw [show Ki_at (v.set i x) (j : Int) = _ from at_set (t := i_) c]
    split
    · rename_i e
      subst e
      exact hx hj
    · exact h.2 j hj
  · rw [List.set_eq_of_length_le (by omega)]
    exact h.2 j hj
theorem nums_zero (N : List Nd) : Nums N (List.replicate N.length 0) := by
  refine ⟨List.length_replicate, fun j hj => ?_⟩
  have : Ki_at (List.replicate N.length 0) (j : Int) = 0 := by
    show at_ i_ _ _ = _
    rw [at_nat (by simpa using hj)]
    simp
  rw [this]
  exact num_zero _
theorem nums_setS {N : List Nd} {l : List Int} {p x : Nat → Int} {k : Nat} (h : Nums N l) (hf : ∀ j, j < k → 0 ≤ p j ∧ Num_ (Kiiiiiii_at N (p j)).2.1 (x j)) : ∀ i, i ≤ k → Nums N (setS l p x i)
  | 0, _ => h
  | i + 1, hi => by
    rw [setS]
    obtain ⟨h0, h1⟩ := hf i (by omega)
    refine nums_set (nums_setS h hf i (by omega)) fun _ => ?_
    have e : (((p i).toNat : Nat) : Int) = p i := by omega
    rw [e]
    exact h1
theorem nums_evN {N : List Nd} (hall : ∀ j : Nat, j < N.length → NodeP N j) {l : List Int} (h : Nums N l) : ∀ i, i ≤ N.length → Nums N (evN N l i)
  | 0, _ => h
  | i + 1, hi => by
    have ih := nums_evN hall h i (by omega)
    rw [evN]
    split
    · exact ih
    · rename_i o
      refine nums_set ih fun _ => ?_
      exact (do_ok (n := 0) (fun j hj => hall j (by omega)) (hall i (by omega)) o (v := evN N l i) (fun j h0 h1 => by
        have := ih.2 j.toNat (by omega)
        have e : ((j.toNat : Nat) : Int) = j := by omega
        rw [e] at this
        exact this)).2
section
variable {N : List Nd} {I : List Pn} {C : List Cl} {P : List Pw} {Q : List Pn} {st ins : List Int}
theorem nums_stV (r : RightP N I C P Q) (hi : FitI N I ins) (hs : FitC N C st) : Nums N (stV N I C st ins) :=
  nums_setS (nums_setS (nums_zero N) (fun j hj => ⟨(pin_node r.ins hj).1, hi.2 j hj⟩) _ (Nat.le_refl _)) (fun j hj => ⟨(cell_node r.cells hj).1, hs.2 j hj⟩) _ (Nat.le_refl _)
theorem nums_evalV (r : RightP N I C P Q) (hi : FitI N I ins) (hs : FitC N C st) : Nums N (evalV N I C st ins) := nums_evN r.nodes (nums_stV r hi hs) _ (Nat.le_refl _)
end
/-- Its operands' places are places; those that it has stand ahead. -/
theorem opnds {N : List Nd} {i : Nat} (hi : i < N.length) (h : NodeP N i) : (0 ≤ (Kiiiiiii_at N i).2.2.1 ∧ (Kiiiiiii_at N i).2.2.1 < N.length ∧ (0 < opk (Kiiiiiii_at N i).1 → (Kiiiiiii_at N i).2.2.1 < i)) ∧ (0 ≤ (Kiiiiiii_at N i).2.2.2.1 ∧ (Kiiiiiii_at N i).2.2.2.1 < N.length ∧ (1 < opk (Kiiiiiii_at N i).1 → (Kiiiiiii_at N i).2.2.2.1 < i)) ∧ (0 ≤ (Kiiiiiii_at N i).2.2.2.2.1 ∧ (Kiiiiiii_at N i).2.2.2.2.1 < N.length ∧ (2 < opk (Kiiiiiii_at N i).1 → (Kiiiiiii_at N i).2.2.2.2.1 < i)) := by
  have w1 := h.w1
  have a0 := h.a0
  have b0 := h.b0
  have c0 := h.c0
  have pos : ∀ a : Int, 0 < wid N a i → 0 ≤ a ∧ a < i := fun a q => ⟨(wid_pos q).1, (wid_pos q).2.1⟩
  have ho := opk_cases h.op
  have pa := pos (Kiiiiiii_at N i).2.2.1
  have pb := pos (Kiiiiiii_at N i).2.2.2.1
  have pc := pos (Kiiiiiii_at N i).2.2.2.2.1
  have hf := h.fit
  unfold FitP at hf
  generalize wid N (Kiiiiiii_at N i).2.2.1 i = wa at *
  generalize wid N (Kiiiiiii_at N i).2.2.2.1 i = wb at *
  generalize wid N (Kiiiiiii_at N i).2.2.2.2.1 i = wc at *
  generalize Kiiiiiii_at N i = x at *
  unfold opk at a0 b0 c0 ⊢
  rcases ho with o | o | o | o | o | o | o | o | o | o | o | o | o | o | o | o | o | o | o <;> simp only [o] at a0 b0 c0 hf ⊢ <;> simp at a0 b0 c0 hf ⊢ <;> omega
theorem eval_f {n : Nat} {N I C P Q} {st ins : List Int} (s : Small N I C P Q) (r : RightP N I C P Q) (hi : FitI N I ins) (hs : FitC N C st) (hn : 1000 < n) : net_Eval n N I C P Q st ins = some (evalV N I C st ins, ()) := by
  have s1 := s.n
  have s2 := s.i
  have s3 := s.c
  have l1 := iter_up (F := net_Eval_l1b n I ins) (fun j => ((j : Int), setS (List.replicate N.length 0) (fun j => (Ksi_at I j).2) (fun j => Ki_at ins j) j, ())) (insV N I ins, ()) (len := I.length) (m := n)
    (fun self j hj => by
      obtain ⟨m0, m1, -⟩ := pin_node r.ins hj
      have hl := setS_len (List.replicate N.length 0) (fun j => (Ksi_at I j).2) (fun j => Ki_at ins j) j
      rw [List.length_replicate] at hl
      have := hi.1
      unfold net_Eval_l1b
      simp only [cond_dec]
      rw [if_pos (by omega), ask_of (by omega), ask_of (by omega), ask_of (by omega), succ64 (by omega), setS])
    (fun self => by
      unfold net_Eval_l1b
      simp only [cond_dec]
      rw [if_neg (by omega)]
      rfl) (by omega)
  have l2 := iter_up (F := net_Eval_l2b n C st) (fun j => ((j : Int), setS (insV N I ins) (fun j => (Ksiii_at C j).2.1) (fun j => Ki_at st j) j, ())) (stV N I C st ins, ()) (len := C.length) (m := n)
    (fun self j hj => by
      obtain ⟨m0, m1, -⟩ := cell_node r.cells hj
      have hl := setS_len (insV N I ins) (fun j => (Ksiii_at C j).2.1) (fun j => Ki_at st j) j
      have hl2 : (insV N I ins).length = N.length := by rw [insV, setS_len, List.length_replicate]
      have := hs.1
      unfold net_Eval_l2b
      simp only [cond_dec]
      rw [if_pos (by omega), ask_of (by omega), ask_of (by omega), ask_of (by omega), succ64 (by omega), setS])
    (fun self => by
      unfold net_Eval_l2b
      simp only [cond_dec]
      rw [if_neg (by omega)]
      rfl) (by omega)
  have l3 := iter_up (F := net_Eval_l3b n N) (fun j => ((j : Int), evN N (stV N I C st ins) j, ())) (evalV N I C st ins, ()) (len := N.length) (m := n)
    (fun self j hj => by
      have hi' := r.nodes j hj
      obtain ⟨⟨a0, a1, -⟩, ⟨b0, b1, -⟩, ⟨c0, c1, -⟩⟩ := opnds hj hi'
      have hnu := nums_evN r.nodes (nums_stV r hi hs) j (by omega)
      have hl := hnu.1
      unfold net_Eval_l3b
      simp only [cond_dec, ite_bind, bindS, cond_if, decide_eq_true_eq]
      rw [if_pos (by omega), ask_of (by omega), evN]
      by_cases o1 : (Kiiiiiii_at N (j : Int)).1 = 21
      · rw [if_neg (by omega), if_neg (by decide), if_pos (Or.inl o1), succ64 (by omega)]
      · rw [if_pos o1]
        by_cases o2 : (Kiiiiiii_at N (j : Int)).1 = 22
        · rw [if_neg (by omega), if_pos (Or.inr o2), succ64 (by omega)]
        · rw [if_pos o2, if_neg (by omega)]
          obtain ⟨d1, -⟩ := do_ok (n := n) (fun k hk => r.nodes k (by omega)) hi' (by omega) (v := evN N (stV N I C st ins) j) (fun k h0 h1 => by
            have := hnu.2 k.toNat (by omega)
            rwa [show ((k.toNat : Nat) : Int) = k by omega] at this)
          rw [ask_of (by omega), ask_of (by omega), ask_of (by omega), ask_of (by omega), d1]
          simp only [bindS]
          rw [ask_of (by omega), succ64 (by omega), Int.toNat_natCast])
    (fun self => by
      unfold net_Eval_l3b
      simp only [cond_dec]
      rw [if_neg (by omega)]
      rfl) (by omega)
  unfold net_Eval
  rw [ask_of (by omega), Int.toNat_natCast, show net_Eval_l1 n I ins (0, List.replicate N.length 0, ()) = _ from l1, bindS, show net_Eval_l2 n C st (0, insV N I ins, ()) = _ from l2, bindS, show net_Eval_l3 n N (0, stV N I C st ins, ()) = _ from l3]
  rfl
def afterV (C : List Cl) (v : List Int) : List Int := (List.range C.length).map fun j : Nat => Ki_at v (Ksiii_at C (j : Int)).2.2.1
theorem after_f {n : Nat} {N I C P Q} {st ins : List Int} (s : Small N I C P Q) (r : RightP N I C P Q) (hi : FitI N I ins) (hs : FitC N C st) (hn : 1000 < n) : net_After n N I C P Q st ins = some (afterV C (evalV N I C st ins), ()) := by
  have s3 := s.c
  have hlen := evalV_len N I C st ins
  unfold net_After
  rw [show net_Eval n N I C P Q st ins = _ from eval_f s r hi hs hn, bindS]
  generalize evalV N I C st ins = v at *
  have l1 := iter_up (F := net_After_l1b n (v, ()) C) (fun j => ((j : Int), fillN C.length (fun j => Ki_at v (Ksiii_at C (j : Int)).2.2.1) 0 j, ())) (afterV C v, ()) (len := C.length) (m := n)
    (fun self j hj => by
      have hl := fillN_len (g := fun j => Ki_at v (Ksiii_at C (j : Int)).2.2.1) (z := 0) (Nat.le_of_lt hj)
      obtain ⟨q0, q1, -⟩ := next_pos r hj
      unfold net_After_l1b
      simp only [cond_dec]
      rw [if_pos (by omega), ask_of (by omega), ask_of (by omega), ask_of (by omega), succ64 (by omega), Int.toNat_natCast, ← fillN_set hj])
    (fun self => by
      unfold net_After_l1b
      simp only [cond_dec]
      rw [if_neg (by omega), fillN_n]
      rfl) (by omega)
  rw [fillN_0] at l1
  rw [ask_of (by omega), Int.toNat_natCast, show net_After_l1 n (v, ()) C (0, List.replicate C.length 0, ()) = _ from l1]
  rfl
theorem at_len {t : Ty} {l : List t.D} {j : Int} {k : Nat} (h : j = k) (hk : k < l.length) : at_ t l j = l[k] := by subst h; exact at_nat hk
theorem fit_first {N I C P Q} (r : RightP N I C P Q) : FitC N C (firstV C) := by
  refine ⟨by simp [firstV], fun j hj => ?_⟩
  rw [show Ki_at (firstV C) (j : Int) = _ from at_range (t := i_) hj]
  have := r.cell j hj
  exact ⟨this.2.1, by have := this.2.2; omega⟩
theorem fit_after {N I C P Q} (r : RightP N I C P Q) {v : List Int} (hv : Nums N v) : FitC N C (afterV C v) := by
  refine ⟨by simp [afterV], fun j hj => ?_⟩
  rw [show Ki_at (afterV C v) (j : Int) = _ from at_range (t := i_) hj]
  obtain ⟨q0, q1, q2⟩ := next_pos r hj
  rw [← q2]
  have := hv.2 (Ksiii_at C (j : Int)).2.2.1.toNat (by omega)
  rwa [show (((Ksiii_at C (j : Int)).2.2.1.toNat : Nat) : Int) = (Ksiii_at C (j : Int)).2.2.1 by omega] at this
theorem i_set {l : List Int} {i j : Nat} {x : Int} (hi : i < l.length) : Ki_at (l.set i x) (j : Int) = if i = j then x else Ki_at l (j : Int) := at_set (t := i_) hi
theorem setS_other {l : List Int} {p x : Nat → Int} : ∀ {k m : Nat}, (∀ j, j < k → 0 ≤ p j ∧ p j ≠ (m : Int)) → Ki_at (setS l p x k) (m : Int) = Ki_at l (m : Int)
  | 0, m, _ => rfl
  | k + 1, m, h => by
    rw [setS]
    have ih := setS_other (l := l) (p := p) (x := x) (k := k) (m := m) fun j hj => h j (by omega)
    have hk := h k (by omega)
    by_cases c : (p k).toNat < (setS l p x k).length
    · rw [i_set c, if_neg (by omega)]; exact ih
    · rw [List.set_eq_of_length_le (by omega)]; exact ih
theorem setS_at {l : List Int} {p x : Nat → Int} : ∀ {k j : Nat}, j < k → (∀ j, j < k → 0 ≤ p j ∧ p j < l.length) → (∀ i j, i < k → j < k → p i = p j → i = j) → Ki_at (setS l p x k) (p j) = x j
  | 0, j, h, _, _ => by omega
  | k + 1, j, h, hp, inj => by
    rw [setS]
    have hl := setS_len l p x k
    have hk := hp k (by omega)
    have hj := hp j h
    obtain ⟨m, hm⟩ := Int.eq_ofNat_of_zero_le hj.1
    by_cases c : j = k
    · subst c
      rw [show (p j).toNat = m by omega, hm, i_set (by rw [hl]; omega), if_pos rfl]
    · have ih := setS_at (l := l) (p := p) (x := x) (k := k) (j := j) (by omega) (fun i hi => hp i (by omega)) fun a b ha hb => inj a b (by omega) (by omega)
      rw [hm, i_set (by rw [hl]; omega), if_neg fun q => c (inj j k (by omega) (by omega) (by omega)), ← hm]
      exact ih
section
variable {N : List Nd} {I : List Pn} {C : List Cl} {P : List Pw} {Q : List Pn} {st ins : List Int}
theorem stV_cell (r : RightP N I C P Q) {j : Nat} (hj : j < C.length) : Ki_at (stV N I C st ins) (Ksiii_at C (j : Int)).2.1 = Ki_at st (j : Int) := by
  have hl : (insV N I ins).length = N.length := by rw [insV, setS_len, List.length_replicate]
  unfold stV
  refine setS_at (p := fun j : Nat => (Ksiii_at C (j : Int)).2.1) (x := fun j : Nat => Ki_at st (j : Int)) hj (fun k hk => ?_) fun a b ha hb e => cell_inj r ha hb e
  obtain ⟨m0, m1, -⟩ := cell_node r.cells hk
  exact ⟨m0, by omega⟩
theorem stV_pin (r : RightP N I C P Q) {j : Nat} (hj : j < I.length) : Ki_at (stV N I C st ins) (Ksi_at I (j : Int)).2 = Ki_at ins (j : Int) := by
  obtain ⟨p0, p1, p2⟩ := pin_node r.ins hj
  have e : (Ksi_at I (j : Int)).2 = ((Ksi_at I (j : Int)).2.toNat : Int) := by omega
  unfold stV
  rw [e, setS_other (fun k hk => ?_), ← e]
  · unfold insV
    refine setS_at (p := fun j : Nat => (Ksi_at I (j : Int)).2) (x := fun j : Nat => Ki_at ins (j : Int)) hj (fun k hk => ?_) fun a b ha hb e => pin_inj r ha hb e
    obtain ⟨m0, m1, -⟩ := pin_node r.ins hk
    exact ⟨m0, by rw [List.length_replicate]; exact m1⟩
  · obtain ⟨m0, m1, m2⟩ := cell_node r.cells hk
    refine ⟨m0, fun q => ?_⟩
    rw [← e] at q
    rw [q, p2] at m2
    cases m2
end
theorem evN_high {N : List Nd} {l : List Int} : ∀ {i m : Nat}, i ≤ m → Ki_at (evN N l i) (m : Int) = Ki_at l (m : Int)
  | 0, m, _ => rfl
  | i + 1, m, h => by
    have ih := evN_high (N := N) (l := l) (i := i) (m := m) (by omega)
    rw [evN]
    split
    · exact ih
    · by_cases c : i < (evN N l i).length
      · rw [i_set c, if_neg (by omega)]; exact ih
      · rw [List.set_eq_of_length_le (by omega)]; exact ih
theorem evN_low {N : List Nd} {l : List Int} {m i : Nat} (h : m < i) : ∀ d, Ki_at (evN N l (i + d)) (m : Int) = Ki_at (evN N l i) (m : Int)
  | 0 => rfl
  | d + 1 => by
    have ih := evN_low (N := N) (l := l) h d
    show Ki_at (evN N l (i + d + 1)) (m : Int) = _
    rw [evN]
    split
    · exact ih
    · by_cases c : i + d < (evN N l (i + d)).length
      · rw [i_set c, if_neg (by omega)]; exact ih
      · rw [List.set_eq_of_length_le (by omega)]; exact ih
theorem evN_at {N : List Nd} {l : List Int} {i n : Nat} (h : i < n) (hl : i < l.length) : Ki_at (evN N l n) (i : Int) = if (Kiiiiiii_at N (i : Int)).1 = 21 ∨ (Kiiiiiii_at N (i : Int)).1 = 22 then Ki_at l (i : Int) else doV N (evN N l i) (Kiiiiiii_at N (i : Int)) := by
  obtain ⟨d, rfl⟩ : ∃ d, n = i + 1 + d := ⟨n - (i + 1), by omega⟩
  rw [evN_low (by omega), evN]
  split
  · exact evN_high (Nat.le_refl _)
  · rw [i_set (by rw [evN_len]; exact hl), if_pos rfl]
abbrev Tr := List (List Int)
/-- A net's state ahead of each cycle, what all nodes are in it. -/
noncomputable def sV (N : List Nd) (I : List Pn) (C : List Cl) (t : Tr) : Nat → List Int
  | 0 => firstV C
  | k + 1 => afterV C (evalV N I C (sV N I C t k) (KLi_at t (k : Int)))
noncomputable def vV (N : List Nd) (I : List Pn) (C : List Cl) (t : Tr) (k : Nat) : List Int := evalV N I C (sV N I C t k) (KLi_at t (k : Int))
def bitsV (P : List Pw) (v : List Int) : List Bool := (List.range P.length).map fun j : Nat => decide (Ki_at v (Kisi_at P (j : Int)).2.2 = 1)
/-- Rows of numbers that fit the inputs. -/
def FitT (N : List Nd) (I : List Pn) (t : Tr) : Prop := t.length ≤ 200 ∧ ∀ k : Nat, k < t.length → FitI N I (KLi_at t (k : Int))
section
variable {N : List Nd} {I : List Pn} {C : List Cl} {P : List Pw} {Q : List Pn} {t u : Tr}
theorem sV_fit (r : RightP N I C P Q) (ft : FitT N I t) : ∀ k, k ≤ t.length → FitC N C (sV N I C t k)
  | 0, _ => fit_first r
  | k + 1, h => fit_after r (nums_evalV r (ft.2 k (by omega)) (sV_fit r ft k (by omega)))
theorem vV_nums (r : RightP N I C P Q) (ft : FitT N I t) {k : Nat} (h : k < t.length) : Nums N (vV N I C t k) := nums_evalV r (ft.2 k h) (sV_fit r ft k (by omega))
theorem sV_len : ∀ k, (sV N I C t k).length = C.length
  | 0 => by simp [sV, firstV]
  | k + 1 => by simp [sV, afterV]
theorem vV_len {k : Nat} : (vV N I C t k).length = N.length := evalV_len _ _ _ _ _
theorem bitsV_len {v : List Int} : (bitsV P v).length = P.length := by simp [bitsV]
theorem bitsV_at {v : List Int} {j : Nat} (h : j < P.length) : Kb_at (bitsV P v) (j : Int) = decide (Ki_at v (Kisi_at P (j : Int)).2.2 = 1) := at_range (t := b_) h
theorem sV_congr : ∀ k, (∀ i : Nat, i < k → KLi_at t (i : Int) = KLi_at u (i : Int)) → sV N I C t k = sV N I C u k
  | 0, _ => rfl
  | k + 1, h => by rw [sV, sV, sV_congr k (fun i hi => h i (by omega)), h k (by omega)]
theorem vV_congr {k : Nat} (h : ∀ i : Nat, i ≤ k → KLi_at t (i : Int) = KLi_at u (i : Int)) : vV N I C t k = vV N I C u k := by
  rw [vV, vV, sV_congr k (fun i hi => h i (by omega)), h k (Nat.le_refl _)]
theorem prop_node (r : RightP N I C P Q) {j : Nat} (h : j < P.length) : 0 ≤ (Kisi_at P (j : Int)).2.2 ∧ (Kisi_at P (j : Int)).2.2 < N.length ∧ (Kiiiiiii_at N (Kisi_at P (j : Int)).2.2).2.1 = 1 := by
  have hp := (r.prop j h).2.2
  obtain ⟨q0, q1, q2⟩ := wid_pos (N := N) (a := (Kisi_at P (j : Int)).2.2) (i := N.length) (by omega)
  exact ⟨q0, q1, by omega⟩
/-- A property's node is 0 or 1. -/
theorem prop_bit (r : RightP N I C P Q) {v : List Int} (hv : Nums N v) {j : Nat} (h : j < P.length) : Ki_at v (Kisi_at P (j : Int)).2.2 = 0 ∨ Ki_at v (Kisi_at P (j : Int)).2.2 = 1 := by
  obtain ⟨q0, q1, q2⟩ := prop_node r h
  have := hv.2 (Kisi_at P (j : Int)).2.2.toNat (by omega)
  rw [show (((Kisi_at P (j : Int)).2.2.toNat : Nat) : Int) = (Kisi_at P (j : Int)).2.2 by omega, q2] at this
  have h2 := this.2
  rw [p2_one] at h2
  have := this.1
  omega
end
theorem clone11_f {n : Nat} {l : List Int} (h : l.length ≤ 1000) : slices_Clone_int_int n l = some (l, ()) := by
  unfold slices_Clone_int_int
  rw [ask_of (by simp; omega)]
theorem states_f {n : Nat} {N I C P Q t} (s : Small N I C P Q) (r : RightP N I C P Q) (ft : FitT N I t) (hn : 1000 < n) : sim_States n N I C P Q t = some ((List.range (t.length + 1)).map (sV N I C t), ()) := by
  have s3 := s.c
  have ft1 := ft.1
  have l1 := iter_up (F := sim_cycles_1__sim_States_o_l1b n N I C P Q t) (fun j => (sV N I C t j, (j : Int), 0, (List.range j).map (sV N I C t), ())) (.inr (0, (List.range t.length).map (sV N I C t), ())) (len := t.length) (m := n)
    (fun self j hj => by
      have hl := sV_len (N := N) (I := I) (C := C) (t := t) j
      unfold sim_cycles_1__sim_States_o_l1b sim_States_y_i2
      simp only [cond_dec]
      rw [if_pos (by omega), ask_of (by omega), eval_f s r (ft.2 j hj) (sV_fit r ft j (by omega)) hn, bindS, ask_of trivial, clone11_f (by omega), bindS, ask_of (by simp; omega), bindS]
      simp only [Bool.not_true, cond_false]
      rw [show net_After n N I C P Q (sV N I C t j) (KLi_at t (j : Int)) = _ from after_f s r (ft.2 j hj) (sV_fit r ft j (by omega)) hn, bindS, succ64 (by omega), range_app (g := sV N I C t)]
      rfl)
    (fun self => by
      unfold sim_cycles_1__sim_States_o_l1b
      simp only [cond_dec]
      rw [if_neg (by omega)]) (by omega)
  unfold sim_States sim_cycles sim_cycles_1__sim_States_o
  simp only [first_f s hn, bindS]
  rw [show sim_cycles_1__sim_States_o_l1 n N I C P Q t (firstV C, 0, 0, [], ()) = _ from l1]
  simp only [bindS, Sum.elim_inr]
  rw [ask_of (by omega)]
  simp only [cond_dec]
  rw [if_pos trivial]
  have j1 : sim_States_j1 n (firstV C, ()) (0, N, I, C, P, Q, t, (List.range t.length).map (sV N I C t), ()) N I C P Q t = some (sV N I C t t.length, ()) := by
    unfold sim_States_j1
    simp only [cond_dec]
    by_cases h : 0 < t.length
    · obtain ⟨k, hk⟩ : ∃ k, t.length = k + 1 := ⟨t.length - 1, by omega⟩
      have e : IntKind.wrap .i64 ((t.length : Int) - 1) = (k : Int) := by rw [w64 (by omega) (by omega)]; omega
      rw [if_pos (by omega), e, ask_of (by simp; omega), ask_of (by omega), show KLi_at ((List.range t.length).map (sV N I C t)) (k : Int) = sV N I C t k from at_range (t := KLi_) (by omega), show net_After n N I C P Q (sV N I C t k) (KLi_at t (k : Int)) = _ from after_f s r (ft.2 k (by omega)) (sV_fit r ft k (by omega)) hn, bindS, hk]
      rfl
    · have e : t.length = 0 := by omega
      rw [if_neg (by omega), e]
      rfl
  rw [j1, bindS, ask_of (by simp; omega), range_app (g := sV N I C t)]
theorem props_f {n : Nat} {N I C P Q} {v : List Int} (s : Small N I C P Q) (r : RightP N I C P Q) (hv : v.length = N.length) (hn : 1000 < n) : sim_props n N I C P Q v = some (bitsV P v, ()) := by
  have s4 := s.p
  have l1 := iter_up (F := sim_props_l1b n P v) (fun j => ((j : Int), fillN P.length (fun j => decide (Ki_at v (Kisi_at P (j : Int)).2.2 = 1)) false j, ())) (bitsV P v, ()) (len := P.length) (m := n)
    (fun self j hj => by
      have hl := fillN_len (g := fun j : Nat => decide (Ki_at v (Kisi_at P (j : Int)).2.2 = 1)) (z := false) (Nat.le_of_lt hj)
      obtain ⟨q0, q1, -⟩ := prop_node r hj
      unfold sim_props_l1b
      simp only [cond_dec]
      rw [if_pos (by omega), ask_of (by omega), ask_of (by omega), ask_of (by omega), succ64 (by omega), Int.toNat_natCast, ← fillN_set hj])
    (fun self => by
      unfold sim_props_l1b
      simp only [cond_dec]
      rw [if_neg (by omega), fillN_n]
      rfl) (by omega)
  rw [fillN_0] at l1
  unfold sim_props
  rw [ask_of (by omega), Int.toNat_natCast, show sim_props_l1 n P v (0, List.replicate P.length false, ()) = _ from l1]
  rfl
theorem run_f {n : Nat} {N I C P Q t} (s : Small N I C P Q) (r : RightP N I C P Q) (ft : FitT N I t) (hn : 1000 < n) : sim_Run n N I C P Q t = some ((List.range t.length).map (fun k => bitsV P (vV N I C t k)), ()) := by
  have ft1 := ft.1
  have l1 := iter_up (F := sim_cycles_1__sim_Run_o_l1b n N I C P Q t) (fun j => (sV N I C t j, (j : Int), 0, N, I, C, P, Q, (List.range j).map (fun k => bitsV P (vV N I C t k)), ())) (.inr (0, N, I, C, P, Q, (List.range t.length).map (fun k => bitsV P (vV N I C t k)), ())) (len := t.length) (m := n)
    (fun self j hj => by
      unfold sim_cycles_1__sim_Run_o_l1b sim_Run_y_i2
      simp only [cond_dec]
      rw [if_pos (by omega), ask_of (by omega), eval_f s r (ft.2 j hj) (sV_fit r ft j (by omega)) hn, bindS, ask_of trivial, props_f s r (evalV_len _ _ _ _ _) hn, bindS, ask_of (by simp; omega), bindS]
      simp only [Bool.not_true, cond_false]
      rw [show net_After n N I C P Q (sV N I C t j) (KLi_at t (j : Int)) = _ from after_f s r (ft.2 j hj) (sV_fit r ft j (by omega)) hn, bindS, succ64 (by omega)]
      have := range_app (g := fun k => bitsV P (vV N I C t k)) (j := j)
      rw [← this]
      rfl)
    (fun self => by
      unfold sim_cycles_1__sim_Run_o_l1b
      simp only [cond_dec]
      rw [if_neg (by omega)]) (by omega)
  unfold sim_Run sim_cycles sim_cycles_1__sim_Run_o
  simp only [first_f s hn, bindS]
  rw [show sim_cycles_1__sim_Run_o_l1 n N I C P Q t (firstV C, 0, 0, N, I, C, P, Q, [], ()) = _ from l1]
  simp only [bindS, Sum.elim_inr]
  rw [ask_of (by omega)]
  rfl
def traceV (N : List Nd) (I : List Pn) (l : Tr) : Tr := (List.range (min l.length 64)).map fun k : Nat => rowI N I (KLw_at l (k : Int))
theorem trace_len {N I l} : (traceV N I l).length = min l.length 64 := by simp [traceV]
theorem rawV_app {a : List Int} {w : Nat → Int} {j : Nat} : rawV a w j ++ [if j < a.length then bits .and .i64 (IntKind.wrap .i64 (Kw_at a (j : Int))) (P2 (w j) - 1) else 0] = rawV a w (j + 1) := by
  unfold rawV
  rw [List.range_succ]
  simp
theorem traceRow_f {n : Nat} {N I C P Q} {l : Tr} {T : Tr} (s : Small N I C P Q) (r : RightP N I C P Q) (hn : 1000 < n) {k : Nat} (hk : k < l.length) : law11_Trace_l2 n ((k : Int), T, ()) N I l (0, [], ()) = some (rowI N I (KLw_at l (k : Int)), ()) := by
  have s2 := s.i
  exact iter_up (F := law11_Trace_l2b n ((k : Int), T, ()) N I l) (fun j => ((j : Int), rawV (KLw_at l (k : Int)) (fun j => (Kiiiiiii_at N (Ksi_at I (j : Int)).2).2.1) j, ())) (rowI N I (KLw_at l (k : Int)), ()) (len := I.length) (m := n)
    (fun self j hj => by
      obtain ⟨m0, m1, -⟩ := pin_node r.ins hj
      have hw := node_at r.nodes m0 m1
      have w1 := hw.w1
      have w16 := hw.w16
      have hl : (rawV (KLw_at l (k : Int)) (fun j => (Kiiiiiii_at N (Ksi_at I (j : Int)).2).2.1) j).length = j := by simp [rawV]
      unfold law11_Trace_l2b law11_Trace_j1
      simp only [cond_dec]
      rw [if_pos (by omega), ask_of (by omega), ← rawV_app]
      by_cases h : j < (KLw_at l (k : Int)).length
      · rw [if_pos (by omega), ask_of (by omega), ask_of (by omega), ask_of (by omega), ask_of (by omega), rmask_f (by omega) (by omega)]
        simp only [bindS]
        rw [ask_of (by simp; omega), succ64 (by omega), if_pos h]
      · rw [if_neg (by omega)]
        simp only [bindS]
        rw [ask_of (by simp; omega), succ64 (by omega), if_neg h])
    (fun self => by
      unfold law11_Trace_l2b
      simp only [cond_dec]
      rw [if_neg (by omega)]
      rfl) (by omega)
theorem trace_f {n : Nat} {N I C P Q} {l : Tr} (s : Small N I C P Q) (r : RightP N I C P Q) (hn : 1000 < n) : law11_Trace n N I C P Q l = some (traceV N I l, ()) := by
  have h := iter_up (F := law11_Trace_l3b n N I l) (fun j => ((j : Int), (List.range j).map (fun k : Nat => rowI N I (KLw_at l (k : Int))), ())) (traceV N I l, ()) (len := min l.length 64) (m := n)
    (fun self j hj => by
      unfold law11_Trace_l3b
      simp only [cond_dec]
      rw [if_pos (by omega), if_pos (by omega), traceRow_f s r hn (by omega), bindS, ask_of (by simp; omega), succ64 (by omega)]
      simp only
      rw [range_app (g := fun k : Nat => rowI N I (KLw_at l (k : Int)))])
    (fun self => by
      unfold law11_Trace_l3b
      simp only [cond_dec]
      by_cases c : l.length < 64
      · rw [if_neg (by omega)]; rfl
      · by_cases e : ((min l.length 64 : Nat) : Int) < (l.length : Int)
        · rw [if_pos e, if_neg (by omega)]; rfl
        · rw [if_neg e]; rfl) (by omega)
  unfold law11_Trace law11_Trace_l3
  rw [show iter (law11_Trace_l3b n N I l) n (0, [], ()) = _ from h]
  rfl
def U16r (l : Tr) : Prop := ∀ x ∈ l, U16s x
theorem u16_row {l : Tr} (h : U16r l) {k : Nat} (hk : k < l.length) : U16s (KLw_at l (k : Int)) := h _ (mem_at (t := KLw_) hk)
theorem trace_at {N I l} {k : Nat} (hk : k < (traceV N I l).length) : KLi_at (traceV N I l) (k : Int) = rowI N I (KLw_at l (k : Int)) := at_range (t := KLi_) (by rw [trace_len] at hk; exact hk)
theorem trace_fit {N I C P Q} {l : Tr} (r : RightP N I C P Q) (h : U16r l) : FitT N I (traceV N I l) := by
  refine ⟨by rw [trace_len]; omega, fun k hk => ?_⟩
  rw [trace_at hk]
  rw [trace_len] at hk
  exact fit_rowI r (u16_row h (by omega))
end Go.Proofs.YtnjoiokbeknopaaGreat.Am
