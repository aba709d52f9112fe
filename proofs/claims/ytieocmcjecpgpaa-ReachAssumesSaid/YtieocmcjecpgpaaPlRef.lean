/- The document's answers for nets: what a node makes of numbers, what all nodes are, first, after. -/
import Derived.Test.YtieocmcjecpgpaaPlEval
namespace Go.Proofs.Ytieocmcjecpgpaa.Am
set_option linter.unusedVariables false
set_option linter.unusedSimpArgs false
theorem num_nat {k x : Int} (hk : k ≤ 62) (h : Num_ k x) : ∃ a : Nat, x = (a : Int) ∧ a < 2 ^ k.toNat ∧ a < 9223372036854775808 := by
  obtain ⟨a, rfl⟩ := Int.eq_ofNat_of_zero_le h.1
  have h2 := h.2
  have h3 := p2_62 hk
  unfold P2 at h2 h3
  exact ⟨a, rfl, by omega, by omega⟩
theorem and_num {k x y : Int} (hk : k ≤ 62) (hx : Num_ k x) (hy : Num_ k y) : bits .and .i64 x y % P2 k = bits .and .i64 x y := by
  obtain ⟨a, rfl, ha, ha2⟩ := num_nat hk hx
  obtain ⟨b, rfl, hb, hb2⟩ := num_nat hk hy
  rw [and_nat a b ha2 hb2]
  have := Nat.and_lt_two_pow a hb
  exact md_lt (by omega) (by unfold P2; omega)
theorem or_num {k x y : Int} (hk : k ≤ 62) (hx : Num_ k x) (hy : Num_ k y) : bits .or .i64 x y % P2 k = bits .or .i64 x y := by
  obtain ⟨a, rfl, ha, ha2⟩ := num_nat hk hx
  obtain ⟨b, rfl, hb, hb2⟩ := num_nat hk hy
  rw [or_nat a b ha2 hb2]
  have := Nat.or_lt_two_pow ha hb
  exact md_lt (by omega) (by unfold P2; omega)
theorem xor_num {k x y : Int} (hk : k ≤ 62) (hx : Num_ k x) (hy : Num_ k y) : bits .xor .i64 x y % P2 k = bits .xor .i64 x y := by
  obtain ⟨a, rfl, ha, ha2⟩ := num_nat hk hx
  obtain ⟨b, rfl, hb, hb2⟩ := num_nat hk hy
  rw [xor_nat a b ha2 hb2]
  have := Nat.xor_lt_two_pow ha hb
  exact md_lt (by omega) (by unfold P2; omega)
theorem one_f {n : Nat} {b : Bool} : ref08_one n b = some (if b = true then 1 else 0, ()) := by cases b <;> rfl
theorem one_p {n : Nat} {p : Prop} [Decidable p] : ref08_one n (decide p) = some (if p then 1 else 0, ()) := by rw [one_f]; by_cases h : p <;> simp [h]
/-- The document's Do of a right node. -/
theorem rdo_ok {n : Nat} {N : List Nd} {i : Nat} (hall : ∀ j : Nat, j < i → NodeP N j) (h : NodeP N i) (ho : ¬ ((Kiiiiiii_at N i).1 = 21 ∨ (Kiiiiiii_at N i).1 = 22)) {v : List Int} (hv : ∀ j : Int, 0 ≤ j → j < i → Num_ (Kiiiiiii_at N j).2.1 (Ki_at v j)) :
    ref08_Do n (Kiiiiiii_at N i).1 (Kiiiiiii_at N i).2.1 (Kiiiiiii_at N i).2.2.1 (Kiiiiiii_at N i).2.2.2.1 (Kiiiiiii_at N i).2.2.2.2.1 (Kiiiiiii_at N i).2.2.2.2.2.1 (Kiiiiiii_at N i).2.2.2.2.2.2 (Ki_at v (Kiiiiiii_at N i).2.2.1) (Ki_at v (Kiiiiiii_at N i).2.2.2.1) (Ki_at v (Kiiiiiii_at N i).2.2.2.2.1) (Kiiiiiii_at N (Kiiiiiii_at N i).2.2.2.1).2.1 = some (doV N v (Kiiiiiii_at N i), ()) := by
  have e : ∀ y, vec_Do 0 (Kiiiiiii_at N i).1 (Kiiiiiii_at N i).2.1 (Kiiiiiii_at N i).2.2.1 (Kiiiiiii_at N i).2.2.2.1 (Kiiiiiii_at N i).2.2.2.2.1 (Kiiiiiii_at N i).2.2.2.2.2.1 (Kiiiiiii_at N i).2.2.2.2.2.2 (Ki_at v (Kiiiiiii_at N i).2.2.1) (Ki_at v (Kiiiiiii_at N i).2.2.2.1) (Ki_at v (Kiiiiiii_at N i).2.2.2.2.1) (Kiiiiiii_at N (Kiiiiiii_at N i).2.2.2.1).2.1 = some (y, ()) → doV N v (Kiiiiiii_at N i) = y := fun y h1 => by
    unfold doV
    rw [h1]
  have w1 := h.w1
  have w16 := h.w16
  have ha := wid_le hall (Kiiiiiii_at N i).2.2.1
  have hb := wid_le hall (Kiiiiiii_at N i).2.2.2.1
  have hc := wid_le hall (Kiiiiiii_at N i).2.2.2.2.1
  have num : ∀ {a : Int}, 0 < wid N a i → Num_ (wid N a i) (Ki_at v a) := fun {a} q => by
    obtain ⟨q0, q1, q2⟩ := wid_pos q
    rw [q2]
    exact hv a q0 q1
  rcases h.fit with ⟨o, f1, f2, f3⟩ | ⟨o, -⟩ | ⟨o, f1, f2, f3⟩ | ⟨o, f1, f2, f3, f4⟩ | ⟨o, f1, f2, f3, f4⟩ | ⟨o, f1, f2, f3, f4, f5⟩ | ⟨o, f1, f2, f3, f4, f5⟩ | ⟨o, f1, f2, f3, f4, f5⟩ | ⟨o, f1, f2, f3, f4⟩
  · rw [o] at e
    rw [e _ do_lit, o]
    simp [ref08_Do]
  · exact absurd o ho
  · have hx := num (a := (Kiiiiiii_at N i).2.2.1) (by omega)
    rw [f3] at hx
    have p62 := p2_62 (k := (Kiiiiiii_at N i).2.1) (by omega)
    rw [o] at e
    rw [e _ (do_inv (by omega) (by omega) hx), o]
    simp only [ref08_Do, cond_dec, rmask_f (show 0 ≤ (Kiiiiiii_at N i).2.1 by omega) (show (Kiiiiiii_at N i).2.1 ≤ 62 by omega), bindS]
    simp
    exact w64 (by have := hx.2; omega) (by have := hx.1; omega)
  · rcases o with o | o
    · rw [o] at e
      rw [e _ do_redor, o]
      simp only [ref08_Do, cond_dec, one_p, bindS]
      simp
    · rw [o] at e
      rw [e _ (do_redand (by omega) (by omega)), o]
      simp only [ref08_Do, cond_dec, one_p, bindS, rmask_f (show 0 ≤ (Kiiiiiii_at N i).2.2.2.2.2.2 by omega) (show (Kiiiiiii_at N i).2.2.2.2.2.2 ≤ 62 by omega)]
      simp
  · have hx := num (a := (Kiiiiiii_at N i).2.2.1) (by omega)
    have hy := num (a := (Kiiiiiii_at N i).2.2.2.1) (by omega)
    rw [f3] at hx
    rw [f4] at hy
    have o' : (Kiiiiiii_at N i).1 = 6 ∨ (Kiiiiiii_at N i).1 = 7 ∨ (Kiiiiiii_at N i).1 = 8 ∨ (Kiiiiiii_at N i).1 = 9 ∨ (Kiiiiiii_at N i).1 = 10 ∨ (Kiiiiiii_at N i).1 = 11 := by omega
    rcases o' with o | o | o | o | o | o <;> rw [o] at e
    · rw [e _ (do_and (by omega) (by omega)), o, and_num (by omega) hx hy]
      simp [ref08_Do, cond_dec]
    · rw [e _ (do_or (by omega) (by omega)), o, or_num (by omega) hx hy]
      simp [ref08_Do, cond_dec]
    · rw [e _ (do_xor (by omega) (by omega)), o, xor_num (by omega) hx hy]
      simp [ref08_Do, cond_dec]
    · rw [e _ (do_add (by omega) (by omega)), o]
      simp [ref08_Do, cond_dec, rmask_f (show 0 ≤ (Kiiiiiii_at N i).2.1 by omega) (show (Kiiiiiii_at N i).2.1 ≤ 62 by omega), and_mask (show 0 ≤ (Kiiiiiii_at N i).2.1 by omega) (show (Kiiiiiii_at N i).2.1 ≤ 62 by omega)]
    · rw [e _ (do_sub (by omega) (by omega)), o]
      simp [ref08_Do, cond_dec, rmask_f (show 0 ≤ (Kiiiiiii_at N i).2.1 by omega) (show (Kiiiiiii_at N i).2.1 ≤ 62 by omega), and_mask (show 0 ≤ (Kiiiiiii_at N i).2.1 by omega) (show (Kiiiiiii_at N i).2.1 ≤ 62 by omega)]
    · rw [e _ (do_mul (by omega) (by omega)), o]
      simp [ref08_Do, cond_dec, rmask_f (show 0 ≤ (Kiiiiiii_at N i).2.1 by omega) (show (Kiiiiiii_at N i).2.1 ≤ 62 by omega), and_mask (show 0 ≤ (Kiiiiiii_at N i).2.1 by omega) (show (Kiiiiiii_at N i).2.1 ≤ 62 by omega)]
  · have o' : (Kiiiiiii_at N i).1 = 12 ∨ (Kiiiiiii_at N i).1 = 13 ∨ (Kiiiiiii_at N i).1 = 14 ∨ (Kiiiiiii_at N i).1 = 15 := by omega
    rcases o' with o | o | o | o <;> rw [o] at e
    · rw [e _ do_eq, o]
      simp only [ref08_Do, ref08_more, cond_dec, one_p, bindS]
      simp
    · rw [e _ do_ne, o]
      simp only [ref08_Do, ref08_more, cond_dec, one_p, bindS]
      simp
    · rw [e _ do_lt, o]
      simp only [ref08_Do, ref08_more, cond_dec, one_p, bindS]
      simp
    · rw [e _ do_le, o]
      simp only [ref08_Do, ref08_more, cond_dec, one_p, bindS]
      simp
  · rw [o] at e
    rw [e _ do_mux, o]
    simp only [ref08_Do, ref08_more, cond_dec]
    simp
    split <;> rfl
  · have hx := num (a := (Kiiiiiii_at N i).2.2.1) (by omega)
    have hy := num (a := (Kiiiiiii_at N i).2.2.2.1) (by omega)
    obtain ⟨-, -, e1⟩ := wid_pos (N := N) (a := (Kiiiiiii_at N i).2.2.2.1) (i := i) (by omega)
    have e2 : wid N (Kiiiiiii_at N i).2.2.1 i = (Kiiiiiii_at N i).2.1 - wid N (Kiiiiiii_at N i).2.2.2.1 i := by omega
    rw [e2] at hx
    have hl := cat_lt (by omega) (by omega) hx hy
    have hp := p2_16 w16
    rw [o, ← e1] at e
    have hy0 := hy.1
    rw [e _ (do_cat (by omega) (by omega) hx.1 hy (by omega)), o, ← e1]
    simp only [ref08_Do, ref08_more, cond_dec]
    simp
    rw [ask_of (by omega), bindS, shl_p2 (by omega) hx.1 (by omega), w64 (by omega) (by omega)]
  · rw [o] at e
    rw [e _ (do_slice (by omega) (by omega) (by omega) (by omega) (by omega)), o]
    simp only [ref08_Do, ref08_more, cond_dec]
    simp
    rw [ask_of (by omega), w64 (n := (Kiiiiiii_at N i).2.2.2.2.2.1 - (Kiiiiiii_at N i).2.2.2.2.2.2) (by omega) (by omega), w64 (by omega) (by omega), rmask_f (by omega) (by omega), bindS, bindS, and_mask (by omega) (by omega), shr_p2 (by omega)]
end Go.Proofs.Ytieocmcjecpgpaa.Am
