/- Products; bits of numbers; parts put together. -/
import Derived.Test.YtfjdhdmbbfeigaaPnBl3
namespace Go.Proofs.Ytfjdhdmbbfeigaa.Am
set_option linter.unusedVariables false
set_option linter.unusedSimpArgs false
theorem bv_rep {ins : Int} {g : List Kii} {V : List Bool} (h : Mod ins g V) (i : Nat) : bv V (List.replicate i (0 : Int)) = List.replicate i false := by
  simp [bv, List.map_replicate, lv_0 h]
theorem zero_lit {ins : Int} {g : List Kii} (r : RG ins g) : LitG ins g 0 := by have := r.i0; simp [LitG]; omega
theorem one_lit {ins : Int} {g : List Kii} (r : RG ins g) : LitG ins g 1 := by have := r.i0; simp [LitG]; omega
theorem rep_lits {ins : Int} {g : List Kii} (r : RG ins g) (i : Nat) : Lits ins g (List.replicate i 0) := fun x hx => by
  rw [List.eq_of_mem_replicate hx]; exact zero_lit r
theorem lits_app {ins : Int} {g : List Kii} {l m : List Int} (h : Lits ins g l) (k : Lits ins g m) : Lits ins g (l ++ m) := fun x hx => (List.mem_append.1 hx).elim (h x) (k x)
/-- A product, with one bit more. -/
theorem mul_step {T Q D P nA nB y X M : Nat} (hA : nA = T + Q * D) (hM : M = P * Q) (hX : X = nA * nB % M) : (X + P * (T * y) + 0) % M = nA * (nB + P * y) % M := by
  have e : nA * (nB + P * y) = (nA * nB + P * (T * y)) + M * (D * y) := by
    rw [Nat.mul_add, hM]
    have : nA * (P * y) = P * (T * y) + P * Q * (D * y) := by
      subst hA
      rw [Nat.add_mul, Nat.mul_left_comm T P y]
      congr 1
      rw [Nat.mul_assoc Q D, Nat.mul_left_comm D P y, Nat.mul_left_comm Q P, Nat.mul_assoc P Q]
    rw [this]
    omega
  rw [e, Nat.add_mul_mod_self_left, hX, Nat.add_zero, Nat.mod_add_mod]
section
variable {n : Nat} {ins : Int} {g : List Kii} {o w p q s u lo : Int} {A B C : List Int}
end
/-- A number's bits, as literals. -/
def nbits (N w : Nat) : List Int := (List.range w).map fun i => ((N / 2 ^ i % 2 : Nat) : Int)
theorem nbits_lits {ins : Int} {g : List Kii} (r : RG ins g) (N w : Nat) : Lits ins g (nbits N w) := fun x hx => by
  obtain ⟨i, -, rfl⟩ := List.mem_map.1 hx
  rcases Nat.mod_two_eq_zero_or_one (N / 2 ^ i) with h | h <;> simp only [h]
  · exact zero_lit r
  · exact one_lit r
theorem nbits_v {ins : Int} {g : List Kii} {V : List Bool} (h : Mod ins g V) {N w : Nat} (hN : N < 2 ^ w) : nb (bv V (nbits N w)) = N := by
  have hl : (bv V (nbits N w)).length = w := by simp [bv, nbits]
  refine nb_bits (fun i hi => ?_) (by rw [hl]; exact hN)
  rw [hl] at hi
  have : (bv V (nbits N w)).getD i false = lv V ((N / 2 ^ i % 2 : Nat) : Int) := by
    rw [List.getD_eq_getElem?_getD, List.getElem?_eq_getElem (by simp [bv, nbits]; exact hi)]
    simp [bv, nbits]
  rw [this, Nat.testBit_eq_decide_div_mod_eq]
  rcases Nat.mod_two_eq_zero_or_one (N / 2 ^ i) with h' | h' <;> simp only [h']
  · exact lv_0 h
  · exact lv_1 h
end Go.Proofs.Ytfjdhdmbbfeigaa.Am
