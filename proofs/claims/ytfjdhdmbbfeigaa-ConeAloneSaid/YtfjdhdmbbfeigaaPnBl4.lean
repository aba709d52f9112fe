/- Products; bits of numbers; parts put together. -/
import Derived.Test.YtfjdhdmbbfeigaaPnBl3
namespace Go.Proofs.Ytfjdhdmbbfeigaa.Am
set_option linter.unusedVariables false
set_option linter.unusedSimpArgs false
theorem bv_rep {ins : Int} {g : List Kii} {V : List Bool} (h : Mod ins g V) (i : Nat) : bv V (List.replicate i (0 : Int)) = List.replicate i false := by
  simp [bv, List.map_replicate, lv_0 h]
theorem zero_lit {ins : Int} {g : List Kii} (r : RG ins g) : LitG ins g 0 := by have := r.i0; simp [LitG]; omega
theorem one_lit {ins : Int} {g : List Kii} (r : RG ins g) : LitG ins g 1 := by have := r.i0; simp [LitG]; omega
theorem rep_lits {ins : Int} {g : List Kii} (r : RG ins g) (i : Nat) : Lits ins g (List.replicate i 0) := fun x hx => by
  rw [List.eq_of_mem_replicate hx]; exact zero_lit r
theorem lits_app {ins : Int} {g : List Kii} {l m : List Int} (h : Lits ins g l) (k : Lits ins g m) : Lits ins g (l ++ m) := fun x hx => (List.mem_append.1 hx).elim (h x) (k x)
/-- A product, with one bit more. -/
theorem mul_step {T Q D P nA nB y X M : Nat} (hA : nA = T + Q * D) (hM : M = P * Q) (hX : X = nA * nB % M) : (X + P * (T * y) + 0) % M = nA * (nB + P * y) % M := by
  have e : nA * (nB + P * y) = (nA * nB + P * (T * y)) + M * (D * y) := by
    rw [Nat.mul_add, hM]
    have : nA * (P * y) = P * (T * y) + P * Q * (D * y) := by
      subst hA
      rw [Nat.add_mul, Nat.mul_left_comm T P y]
      congr 1
      rw [Nat.mul_assoc Q D, Nat.mul_left_comm D P y, Nat.mul_left_comm Q P, Nat.mul_assoc P Q]
    rw [this]
    omega
  rw [e, Nat.add_mul_mod_self_left, hX, Nat.add_zero, Nat.mod_add_mod]
section
variable {n : Nat} {ins : Int} {g : List Kii} {o w p q s u lo : Int} {A B C : List Int}
theorem row_m {i : Nat} {out : List Int} {D : Int × List Kii × Int × Int × Int × Int × Int × Int × Int × List Int × List Int × List Int × Unit} (r : RG ins g) (hg : g.length + A.length < 19000) (hA : Lits ins g A) (hB : Lits ins g B) (hi : i < B.length) (hiA : i < A.length) (hAl : A.length ≤ 1000) (hn : 30000 < n) :
    ∃ t L, blast_maker_doMul_l1 n (out, (i : Int), D) A B ((i : Int), ins, g, o, w, p, q, s, u, lo, A, B, C, List.replicate A.length (0 : Int), ()) = some (ins, g ++ t, o, w, p, q, s, u, lo, A, B, C, L, ()) ∧ t.length ≤ A.length ∧ RG ins (g ++ t) ∧ L.length = A.length ∧ Lits ins (g ++ t) L ∧ ∀ V, Mod ins (g ++ t) V → nb (bv V L) = 2 ^ i * (nb (bv V (A.take (A.length - i))) * (lv V (Ki_at B (i : Int))).toNat) := by
  obtain ⟨R, e, t, L, hR, ht, hr, hL, hLs, hv⟩ := iter_ex (F := blast_maker_doMul_l1b n (out, (i : Int), D) A B) (len := A.length - i) (m := n) (d := ((i : Int), ins, g, o, w, p, q, s, u, lo, A, B, C, List.replicate A.length (0 : Int), ()))
    (fun j d => ∃ t L, d = (((i + j : Nat) : Int), ins, g ++ t, o, w, p, q, s, u, lo, A, B, C, (List.replicate i (0 : Int) ++ L) ++ List.replicate (A.length - (List.replicate i (0 : Int) ++ L).length) (0 : Int), ()) ∧ t.length ≤ j ∧ RG ins (g ++ t) ∧ L.length = j ∧ Lits ins (g ++ t) L ∧ ∀ V, Mod ins (g ++ t) V → nb (bv V L) = nb (bv V (A.take j)) * (lv V (Ki_at B (i : Int))).toNat)
    (fun R => ∃ t L, R = (ins, g ++ t, o, w, p, q, s, u, lo, A, B, C, L, ()) ∧ t.length ≤ A.length ∧ RG ins (g ++ t) ∧ L.length = A.length ∧ Lits ins (g ++ t) L ∧ ∀ V, Mod ins (g ++ t) V → nb (bv V L) = 2 ^ i * (nb (bv V (A.take (A.length - i))) * (lv V (Ki_at B (i : Int))).toNat))
    (fun self j d hj ⟨t, L, hd, ht, hr, hL, hLs, hv⟩ => by
      subst hd
      obtain ⟨t', y, e, ht', hr', hy, hv'⟩ := and_m (o := o) (w := w) (p := p) (q := q) (s := s) (u := u) (lo := lo) (A := A) (B := B) (C := C) hr (by simp; omega) (hA.at (j := j) (by omega)).more (hB.at hi).more hn
      have hlen : (List.replicate i (0 : Int) ++ L).length = i + j := by simp [hL]
      unfold blast_maker_doMul_l1b
      simp only [cond_dec]
      have hk : IntKind.wrap .i64 (((i + j : Nat) : Int) - (i : Int)) = (j : Int) := by rw [w64 (by omega) (by omega)]; omega
      rw [if_pos (by omega), hk, ask_of (by omega), e, bindS, ask_of (by rw [fill_len (w := A.length) (by omega)]; omega), succ64 (by omega), Int.toNat_natCast]
      refine ⟨_, rfl, t ++ t', L ++ [y], ?_, by simp; omega, by simpa using hr', by simp [hL], by simpa using (Lits.more hLs).snoc hy, fun V hV => ?_⟩
      · rw [← hlen, fill_set (by omega)]
        simp [Nat.add_assoc, hL]
      · have hV : Mod ins (g ++ t ++ t') V := by simpa using hV
        have q0 := hv V hV.pre
        have q2 := hv' V hV
        dsimp only at q2
        rw [bv_take_at (l := A) (by omega), bv_snoc, nb_step (P := 2 ^ j) (bv V L) _ (by rw [bv_len, hL]), nb_step (P := 2 ^ j) (bv V (A.take j)) _ (by rw [bv_len]; simp; congr 1; omega), q2, q0]
        cases lv V (Ki_at A (j : Int)) <;> cases lv V (Ki_at B (i : Int)) <;> simp)
    (fun self d ⟨t, L, hd, ht, hr, hL, hLs, hv⟩ => by
      subst hd
      unfold blast_maker_doMul_l1b
      simp only [cond_dec]
      rw [if_neg (by omega)]
      have hlen : (List.replicate i (0 : Int) ++ L).length = A.length := by simp [hL]; omega
      refine ⟨_, rfl, t, List.replicate i (0 : Int) ++ L, by rw [fill_end hlen], by omega, hr, hlen, lits_app (rep_lits hr i) hLs, fun V hV => ?_⟩
      rw [bv_app, bv_rep hV, nb_app, nb_rep, List.length_replicate, Nat.zero_add, hv V hV]) (by omega)
    ⟨[], [], by simp; omega, by simp, by simpa using r, rfl, fun x hx => by simp at hx, fun V hV => by simp [bv, nb]⟩
  subst hR
  exact ⟨t, L, e, ht, hr, hL, hLs, hv⟩
theorem doMul_m (r : RG ins g) (hg : g.length + 10 * A.length * A.length < 18000) (hA : Lits ins g A) (hB : Lits ins g B) (hAB : B.length = A.length) (hAl : A.length ≤ 40) (hn : 30000 < n) : MS (10 * A.length * A.length) ins g (o, w, p, q, s, u, lo, A, B, C, ()) (blast_maker_doMul n ins g o w p q s u lo A B C) (NP ins A.length fun V => nb (bv V A) * nb (bv V B) % 2 ^ A.length) := by
  obtain ⟨R, e, t, L, hR, ht, hr, hL, hLs, hv⟩ := iter_ex (F := blast_maker_doMul_l2b n A B) (len := A.length) (m := n) (d := (List.replicate A.length (0 : Int), 0, ins, g, o, w, p, q, s, u, lo, A, B, C, ()))
    (fun j d => ∃ t L, d = (L, (j : Int), ins, g ++ t, o, w, p, q, s, u, lo, A, B, C, ()) ∧ t.length ≤ 10 * A.length * j ∧ RG ins (g ++ t) ∧ L.length = A.length ∧ Lits ins (g ++ t) L ∧ ∀ V, Mod ins (g ++ t) V → nb (bv V L) = nb (bv V A) * nb (bv V (B.take j)) % 2 ^ A.length)
    (fun R => ∃ t L, R = (L, ins, g ++ t, o, w, p, q, s, u, lo, A, B, C, ()) ∧ t.length ≤ 10 * A.length * A.length ∧ RG ins (g ++ t) ∧ L.length = A.length ∧ Lits ins (g ++ t) L ∧ ∀ V, Mod ins (g ++ t) V → nb (bv V L) = nb (bv V A) * nb (bv V B) % 2 ^ A.length)
    (fun self j d hj ⟨t, L, hd, ht, hr, hL, hLs, hv⟩ => by
      subst hd
      have hK : 10 * A.length * (j + 1) = 10 * A.length * j + 10 * A.length := Nat.mul_succ _ _
      have hK2 : 10 * A.length * (j + 1) ≤ 10 * A.length * A.length := Nat.mul_le_mul_left _ hj
      obtain ⟨t1, L1, e1, ht1, hr1, hL1, hLs1, hv1⟩ := row_m (o := o) (w := w) (p := p) (q := q) (s := s) (u := u) (lo := lo) (C := C) (out := L) (i := j) (D := (ins, g ++ t, o, w, p, q, s, u, lo, A, B, C, ())) hr (by simp; omega) hA.more hB.more (by omega) hj (by omega) hn
      obtain ⟨t2, L2, e2, ht2, hr2, hL2, hLs2, hv2⟩ := sum_m (o := o) (w := w) (p := p) (q := q) (s := s) (u := u) (lo := lo) (A := A) (B := B) (C := C) (a := L) (b := L1) (c := 0) hr1 (by simp; omega) hLs.more hLs1 (by omega) (by omega) (zero_lit hr1) hn
      unfold blast_maker_doMul_l2b
      simp only [cond_dec]
      rw [if_pos (by omega), ask_of (by omega), ask_of (by omega), Int.toNat_natCast, e1, bindS]
      simp only
      rw [e2, bindS, succ64 (by omega)]
      refine ⟨_, rfl, t ++ t1 ++ t2, L2, by simp, by simp; omega, by simpa using hr2, by omega, by simpa using hLs2, fun V hV => ?_⟩
      have hV : Mod ins (g ++ t ++ t1 ++ t2) V := by simpa using hV
      have q0 := hv V hV.pre.pre
      have q1 := hv1 V hV.pre
      have q2 := hv2 V hV
      dsimp only at q2
      rw [q2, hL, lv_0 hV, q1, bv_take_at (l := B) (by omega), nb_step (P := 2 ^ j) (bv V (B.take j)) _ (by rw [bv_len]; simp; congr 1; omega)]
      refine mul_step (Q := 2 ^ (A.length - j)) (D := nb (bv V (A.drop (A.length - j)))) ?_ ?_ q0
      · have : bv V A = bv V (A.take (A.length - j)) ++ bv V (A.drop (A.length - j)) := by rw [← bv_app, List.take_append_drop]
        rw [this, nb_app, bv_len]
        congr 3
        simp
      · rw [← Nat.pow_add]; congr 1; omega)
    (fun self d ⟨t, L, hd, ht, hr, hL, hLs, hv⟩ => by
      subst hd
      unfold blast_maker_doMul_l2b
      simp only [cond_dec]
      rw [if_neg (by omega)]
      exact ⟨_, rfl, t, L, rfl, ht, hr, hL, hLs, fun V hV => by rw [hv V hV, List.take_of_length_le (by omega)]⟩) (by omega)
    ⟨[], List.replicate A.length 0, by simp, by simp, by simpa using r, by simp, by simpa using rep_lits r A.length, fun V hV => by rw [bv_rep hV, nb_rep]; simp [bv, nb]⟩
  subst hR
  unfold blast_maker_doMul
  rw [ask_of (by omega), Int.toNat_natCast, show blast_maker_doMul_l2 n A B (List.replicate A.length (0 : Int), 0, ins, g, o, w, p, q, s, u, lo, A, B, C, ()) = _ from e, bindS]
  exact ⟨t, L, rfl, ht, hr, hL, hLs, hv⟩
end
/-- A number's bits, as literals. -/
def nbits (N w : Nat) : List Int := (List.range w).map fun i => ((N / 2 ^ i % 2 : Nat) : Int)
theorem nbits_lits {ins : Int} {g : List Kii} (r : RG ins g) (N w : Nat) : Lits ins g (nbits N w) := fun x hx => by
  obtain ⟨i, -, rfl⟩ := List.mem_map.1 hx
  rcases Nat.mod_two_eq_zero_or_one (N / 2 ^ i) with h | h <;> simp only [h]
  · exact zero_lit r
  · exact one_lit r
theorem nbits_v {ins : Int} {g : List Kii} {V : List Bool} (h : Mod ins g V) {N w : Nat} (hN : N < 2 ^ w) : nb (bv V (nbits N w)) = N := by
  have hl : (bv V (nbits N w)).length = w := by simp [bv, nbits]
  refine nb_bits (fun i hi => ?_) (by rw [hl]; exact hN)
  rw [hl] at hi
  have : (bv V (nbits N w)).getD i false = lv V ((N / 2 ^ i % 2 : Nat) : Int) := by
    rw [List.getD_eq_getElem?_getD, List.getElem?_eq_getElem (by simp [bv, nbits]; exact hi)]
    simp [bv, nbits]
  rw [this, Nat.testBit_eq_decide_div_mod_eq]
  rcases Nat.mod_two_eq_zero_or_one (N / 2 ^ i) with h' | h' <;> simp only [h']
  · exact lv_0 h
  · exact lv_1 h
theorem doLit_f {n : Nat} {ins : Int} {g : List Kii} {o p q s lo : Int} {A B C : List Int} {N w : Nat} (hw : w ≤ 60) (hN : N < 2 ^ w) (hn : 30000 < n) : blast_maker_doLit_o n [(ins, g, o, (w : Int), p, q, s, (N : Int), lo, A, B, C)] 0 = some (nbits N w, ()) := by
  have h63 : N < 4611686018427387904 := Nat.lt_of_lt_of_le hN (Nat.pow_le_pow_right (by omega) (show w ≤ 62 by omega))
  have l1 := iter_up (F := blast_maker_doLit_o_l1b n [(ins, g, o, (w : Int), p, q, s, (N : Int), lo, A, B, C)] 0) (fun j => ((j : Int), nbits N j ++ List.replicate (w - (nbits N j).length) (0 : Int), ())) (nbits N w, ()) (len := w) (m := n)
    (fun self j hj => by
      have hl : (nbits N j).length = j := by simp [nbits]
      have hx : bits .and .i64 (shrI .i64 (N : Int) (j : Int)) 1 = ((N / 2 ^ j % 2 : Nat) : Int) := by
        rw [shr_p2 (by omega)]
        have e : (N : Int) / P2 (j : Int) = ((N / 2 ^ j : Nat) : Int) := by unfold P2; rw [Int.toNat_natCast, Int.natCast_ediv]
        rw [e]
        have hM := Nat.div_le_self N (2 ^ j)
        generalize N / 2 ^ j = M at hM ⊢
        rw [and_one _ (by omega) (by omega)]
        omega
      unfold blast_maker_doLit_o_l1b
      simp only [cond_dec]
      show (if (j : Int) < ((List.replicate (Int.toNat (w : Int)) (0 : Int)).length : Int) then ask (0 ≤ (j : Int)) (ask (0 ≤ (j : Int) ∧ (j : Int) < ((nbits N j ++ List.replicate (w - (nbits N j).length) (0 : Int)).length : Int)) (self (IntKind.wrap .i64 ((j : Int) + 1), (nbits N j ++ List.replicate (w - (nbits N j).length) (0 : Int)).set (Int.toNat (j : Int)) (bits .and .i64 (shrI .i64 (N : Int) (j : Int)) 1), ()))) else _) = _
      rw [if_pos (by simp; omega), ask_of (by omega), ask_of (by rw [fill_len (by omega)]; omega), hx, succ64 (by omega), Int.toNat_natCast]
      have := fill_set (L := nbits N j) (w := w) (x := ((N / 2 ^ j % 2 : Nat) : Int)) (by omega)
      rw [hl] at this ⊢
      rw [this]
      have e2 : nbits N (j + 1) = nbits N j ++ [((N / 2 ^ j % 2 : Nat) : Int)] := by simp [nbits, List.range_succ]
      rw [e2])
    (fun self => by
      have hl : (nbits N w).length = w := by simp [nbits]
      unfold blast_maker_doLit_o_l1b
      simp only [cond_dec]
      show (if (w : Int) < ((List.replicate (Int.toNat (w : Int)) (0 : Int)).length : Int) then _ else some (nbits N w ++ List.replicate (w - (nbits N w).length) (0 : Int), ())) = _
      rw [if_neg (by simp), fill_end hl]) (by omega)
  unfold blast_maker_doLit_o
  show ask ((0 ≤ (w : Int) ∧ (w : Int) ≤ (w : Int)) ∧ (8 : Int) * (w : Int) ≤ 281474976710656 ∧ (w : Int) ≤ 281474976710656) ((blast_maker_doLit_o_l1 n [(ins, g, o, (w : Int), p, q, s, (N : Int), lo, A, B, C)] 0 (0, List.replicate (Int.toNat (w : Int)) (0 : Int), ())).bind _) = _
  rw [ask_of (by omega), Int.toNat_natCast]
  have l2 : blast_maker_doLit_o_l1 n [(ins, g, o, (w : Int), p, q, s, (N : Int), lo, A, B, C)] 0 (0, List.replicate w (0 : Int), ()) = some (nbits N w, ()) := by
    have := l1
    simp only [nbits, List.range_zero, List.map_nil, List.nil_append, List.length_nil, Nat.sub_zero] at this
    exact this
  rw [l2, bindS]
theorem concat_f {n : Nat} {a b : List Int} (ha : a.length ≤ 1000) (hb : b.length ≤ 1000) (hn : 30000 < n) : slices_Concat_int_int_o n [a, b] = some (a ++ b, ()) := by
  have l1 : slices_Concat_int_int_o_l1 n [a, b] (0, 0, ()) = some (((a.length + b.length : Nat) : Int), ()) := by
    obtain ⟨m, rfl⟩ : ∃ m, n = m + 3 := ⟨n - 3, by omega⟩
    unfold slices_Concat_int_int_o_l1
    have s : ∀ {x : Int}, 0 ≤ x → x ≤ 1000000 → IntKind.wrap .i64 x = x := fun h0 h1 => w64 (by omega) (by omega)
    have k0 : KLi_at [a, b] 0 = a := rfl
    have k1 : KLi_at [a, b] 1 = b := rfl
    rw [iter_s]
    conv => lhs; unfold slices_Concat_int_int_o_l1b
    simp only [cond_dec]
    rw [if_pos (by simp), ask_of (by simp), k0, s (x := 0 + (a.length : Int)) (by omega) (by omega), if_neg (by omega), s (x := 0 + 1) (by omega) (by omega), iter_s]
    conv => lhs; unfold slices_Concat_int_int_o_l1b
    simp only [cond_dec]
    rw [if_pos (by simp), ask_of (by simp), show (0 + 1 : Int) = 1 from rfl, k1, s (x := 0 + (a.length : Int) + (b.length : Int)) (by omega) (by omega), if_neg (by omega), s (x := 1 + 1) (by omega) (by omega), iter_s]
    conv => lhs; unfold slices_Concat_int_int_o_l1b
    simp only [cond_dec]
    rw [if_neg (by simp)]
    congr 2
    omega
  have gr : slices_Grow_int_int_o n ((a.length + b.length : Nat) : Int) = some ([], ()) := by
    unfold slices_Grow_int_int_o
    simp only [cond_dec]
    rw [if_neg (by omega), bindS, ask_of trivial, show (((a.length + b.length : Nat) : Int) - 0) = ((a.length + b.length : Nat) : Int) by omega, w64 (by omega) (by omega)]
    split
    · rw [ask_of trivial, ask_of trivial, ask_of (by omega), ask_of (by omega)]
      simp
    · rfl
  have l2 : slices_Concat_int_int_o_l2 n [a, b] (0, [], ()) = some (a ++ b, ()) := by
    obtain ⟨m, rfl⟩ : ∃ m, n = m + 3 := ⟨n - 3, by omega⟩
    unfold slices_Concat_int_int_o_l2
    have s : ∀ {x : Int}, 0 ≤ x → x ≤ 1000000 → IntKind.wrap .i64 x = x := fun h0 h1 => w64 (by omega) (by omega)
    have k0 : KLi_at [a, b] 0 = a := rfl
    have k1 : KLi_at [a, b] 1 = b := rfl
    rw [iter_s]
    conv => lhs; unfold slices_Concat_int_int_o_l2b
    simp only [cond_dec]
    rw [if_pos (by simp), ask_of (by simp), k0, ask_of (by simp; omega), s (x := 0 + 1) (by omega) (by omega), iter_s]
    conv => lhs; unfold slices_Concat_int_int_o_l2b
    simp only [cond_dec]
    rw [if_pos (by simp), ask_of (by simp), show (0 + 1 : Int) = 1 from rfl, k1, ask_of (by simp; omega), s (x := 1 + 1) (by omega) (by omega), iter_s]
    conv => lhs; unfold slices_Concat_int_int_o_l2b
    simp only [cond_dec]
    rw [if_neg (by simp)]
    rfl
  unfold slices_Concat_int_int_o
  rw [l1, bindS, gr, bindS]
  simp only
  rw [l2, bindS]
end Go.Proofs.Ytfjdhdmbbfeigaa.Am
