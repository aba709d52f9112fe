/- Sums, orders, choices, products. -/
import Derived.Test.YtfjdhdmbbfeigaaPnBl2
namespace Go.Proofs.Ytfjdhdmbbfeigaa.Am
set_option linter.unusedVariables false
set_option linter.unusedSimpArgs false
theorem nb_step (l : List Bool) (b : Bool) {P : Nat} (h : 2 ^ l.length = P) : nb (l ++ [b]) = nb l + P * b.toNat := by rw [nb_snoc, h]
theorem full_add (a b c : Bool) : (((a != b) != c).toNat) + 2 * (bif (a != b) then c else a).toNat = a.toNat + b.toNat + c.toNat := by cases a <;> cases b <;> cases c <;> rfl
section
variable {n : Nat} {ins : Int} {g : List Kii} {o w p q s u lo c : Int} {A B C a b : List Int}
theorem sum_m (r : RG ins g) (hg : g.length + 9 * a.length < 19000) (ha : Lits ins g a) (hb : Lits ins g b) (hab : b.length = a.length) (hal : a.length ≤ 1000) (hc : LitG ins g c) (hn : 30000 < n) : MS (9 * a.length) ins g (o, w, p, q, s, u, lo, A, B, C, ()) (blast_maker_sum n a b c ins g o w p q s u lo A B C) (NP ins a.length fun V => (nb (bv V a) + nb (bv V b) + (lv V c).toNat) % 2 ^ a.length) := by
  obtain ⟨R, e, t, L, hR, ht, hr, hL, hLs, hv⟩ := iter_ex (F := blast_maker_sum_l1b n a b) (len := a.length) (m := n) (d := (c, 0, ins, g, o, w, p, q, s, u, lo, A, B, C, List.replicate a.length (0 : Int), ()))
    (fun j d => ∃ t L x, d = (x, (j : Int), ins, g ++ t, o, w, p, q, s, u, lo, A, B, C, L ++ List.replicate (a.length - L.length) (0 : Int), ()) ∧ t.length ≤ 9 * j ∧ RG ins (g ++ t) ∧ LitG ins (g ++ t) x ∧ L.length = j ∧ Lits ins (g ++ t) L ∧ ∀ V, Mod ins (g ++ t) V → nb (bv V L) + 2 ^ j * (lv V x).toNat = nb (bv V (a.take j)) + nb (bv V (b.take j)) + (lv V c).toNat)
    (fun R => ∃ t L, R = (ins, g ++ t, o, w, p, q, s, u, lo, A, B, C, L, ()) ∧ t.length ≤ 9 * a.length ∧ RG ins (g ++ t) ∧ L.length = a.length ∧ Lits ins (g ++ t) L ∧ ∀ V, Mod ins (g ++ t) V → nb (bv V L) = (nb (bv V a) + nb (bv V b) + (lv V c).toNat) % 2 ^ a.length)
    (fun self j d hj ⟨t, L, x, hd, ht, hr, hx, hL, hLs, hv⟩ => by
      subst hd
      obtain ⟨t1, y1, e1, ht1, hr1, hy1, hv1⟩ := xor_m (o := o) (w := w) (p := p) (q := q) (s := s) (u := u) (lo := lo) (A := A) (B := B) (C := C) hr (by simp; omega) (ha.at hj).more (hb.at (j := j) (by omega)).more hn
      obtain ⟨t2, y2, e2, ht2, hr2, hy2, hv2⟩ := xor_m (o := o) (w := w) (p := p) (q := q) (s := s) (u := u) (lo := lo) (A := A) (B := B) (C := C) hr1 (by simp; omega) hy1 hx.more hn
      obtain ⟨t3, y3, e3, ht3, hr3, hy3, hv3⟩ := mux_m (o := o) (w := w) (p := p) (q := q) (s := s) (u := u) (lo := lo) (A := A) (B := B) (C := C) hr2 (by simp; omega) hy1.more hx.more.more (ha.at hj).more.more.more hn
      unfold blast_maker_sum_l1b
      simp only [cond_dec]
      rw [if_pos (by omega), ask_of (by omega), ask_of (by omega), e1, bindS]
      simp only
      rw [e2, bindS]
      simp only
      rw [ask_of (by rw [fill_len (L := L) (w := a.length) (by omega)]; omega), ask_of (by omega), e3, bindS, succ64 (by omega), Int.toNat_natCast]
      refine ⟨_, rfl, t ++ t1 ++ t2 ++ t3, L ++ [y2], y3, ?_, by simp; omega, by simpa using hr3, by simpa using hy3, by simp [hL], by simpa using (Lits.more (t := t3) ((Lits.more (t := t2) (Lits.more (t := t1) hLs)).snoc hy2)), fun V hV => ?_⟩
      · subst hL
        rw [fill_set hj]
        simp
      · have hV : Mod ins (g ++ t ++ t1 ++ t2 ++ t3) V := by simpa using hV
        have q0 := hv V hV.pre.pre.pre
        have q1 := hv1 V hV.pre.pre
        have q2 := hv2 V hV.pre
        have q3 := hv3 V hV
        dsimp only at q1 q2 q3
        rw [bv_take_at hj, bv_take_at (l := b) (by omega), bv_snoc]
        rw [nb_step (P := 2 ^ j) (bv V L) _ (by rw [bv_len, hL]), nb_step (P := 2 ^ j) (bv V (a.take j)) _ (by rw [bv_len]; simp; congr 1; omega), nb_step (P := 2 ^ j) (bv V (b.take j)) _ (by rw [bv_len]; simp; congr 1; omega)]
        rw [q2, q3, q1, Nat.pow_succ]
        have fa := full_add (lv V (Ki_at a (j : Int))) (lv V (Ki_at b (j : Int))) (lv V x)
        generalize 2 ^ j = P at q0 ⊢
        generalize nb (bv V L) = nL at q0 ⊢
        generalize nb (bv V (a.take j)) = nA at q0 ⊢
        generalize nb (bv V (b.take j)) = nB at q0 ⊢
        generalize (lv V c).toNat = c0 at q0 ⊢
        revert fa q0
        cases lv V (Ki_at a (j : Int)) <;> cases lv V (Ki_at b (j : Int)) <;> cases lv V x <;> simp <;> omega)
    (fun self d ⟨t, L, x, hd, ht, hr, hx, hL, hLs, hv⟩ => by
      subst hd
      unfold blast_maker_sum_l1b
      simp only [cond_dec]
      rw [if_neg (by simp)]
      refine ⟨_, rfl, t, L, by simp only [fill_end hL], ht, hr, hL, hLs, fun V hV => ?_⟩
      have q := hv V hV
      rw [List.take_length, List.take_of_length_le (by omega)] at q
      have hlt := nb_lt (bv V L)
      rw [bv_len, hL] at hlt
      rw [← q, Nat.add_mul_mod_self_left, Nat.mod_eq_of_lt hlt]) (by omega)
    ⟨[], [], c, by simp, by simp, by simpa using r, by simpa using hc, rfl, fun x hx => by simp at hx, fun V hV => by simp [bv, nb]⟩
  subst hR
  unfold blast_maker_sum
  rw [ask_of (by omega), Int.toNat_natCast, show blast_maker_sum_l1 n a b (c, 0, ins, g, o, w, p, q, s, u, lo, A, B, C, List.replicate a.length (0 : Int), ()) = _ from e, bindS]
  exact ⟨t, L, rfl, ht, hr, hL, hLs, hv⟩
/-- The order of two numbers, with one bit more. -/
theorem ord_step {x y P : Nat} (a b z : Bool) (hx : x < P) (hy : y < P) : (bif (a != b) then b else (if x < y then true else if y < x then false else z)) = (if x + P * a.toNat < y + P * b.toNat then true else if y + P * b.toNat < x + P * a.toNat then false else z) := by
  cases a <;> cases b <;> simp <;> (try omega) <;> (repeat' split) <;> (try omega) <;> rfl
theorem below_m (r : RG ins g) (hg : g.length + 6 * A.length < 19000) (hA : Lits ins g A) (hB : Lits ins g B) (hAB : B.length = A.length) (hAl : A.length ≤ 1000) (hc : LitG ins g c) (hn : 30000 < n) : MS (6 * A.length) ins g (o, w, p, q, s, u, lo, A, B, C, ()) (blast_maker_below n c ins g o w p q s u lo A B C) (BP ins 1 fun V => [if nb (bv V A) < nb (bv V B) then true else if nb (bv V B) < nb (bv V A) then false else lv V c]) := by
  obtain ⟨R, e, t, x, hR, ht, hr, hx, hv⟩ := iter_ex (F := blast_maker_below_l1b n A) (len := A.length) (m := n) (d := (c, 0, ins, g, o, w, p, q, s, u, lo, A, B, C, ()))
    (fun j d => ∃ t x, d = (x, (j : Int), ins, g ++ t, o, w, p, q, s, u, lo, A, B, C, ()) ∧ t.length ≤ 6 * j ∧ RG ins (g ++ t) ∧ LitG ins (g ++ t) x ∧ ∀ V, Mod ins (g ++ t) V → lv V x = if nb (bv V (A.take j)) < nb (bv V (B.take j)) then true else if nb (bv V (B.take j)) < nb (bv V (A.take j)) then false else lv V c)
    (fun R => ∃ t x, R = (x, ins, g ++ t, o, w, p, q, s, u, lo, A, B, C, ()) ∧ t.length ≤ 6 * A.length ∧ RG ins (g ++ t) ∧ LitG ins (g ++ t) x ∧ ∀ V, Mod ins (g ++ t) V → lv V x = if nb (bv V A) < nb (bv V B) then true else if nb (bv V B) < nb (bv V A) then false else lv V c)
    (fun self j d hj ⟨t, x, hd, ht, hr, hx, hv⟩ => by
      subst hd
      obtain ⟨t1, y1, e1, ht1, hr1, hy1, hv1⟩ := xor_m (o := o) (w := w) (p := p) (q := q) (s := s) (u := u) (lo := lo) (A := A) (B := B) (C := C) hr (by simp; omega) (hA.at hj).more (hB.at (j := j) (by omega)).more hn
      obtain ⟨t2, y2, e2, ht2, hr2, hy2, hv2⟩ := mux_m (o := o) (w := w) (p := p) (q := q) (s := s) (u := u) (lo := lo) (A := A) (B := B) (C := C) hr1 (by simp; omega) hy1 (hB.at (j := j) (by omega)).more.more hx.more hn
      unfold blast_maker_below_l1b
      simp only [cond_dec]
      rw [if_pos (by omega), ask_of (by omega), ask_of (by omega), e1, bindS]
      simp only
      rw [ask_of (by omega), e2, bindS, ask_of ⟨⟨trivial, eqO_ints .i64 B⟩, trivial⟩, succ64 (by omega)]
      refine ⟨_, rfl, t ++ t1 ++ t2, y2, by simp, by simp; omega, by simpa using hr2, by simpa using hy2, fun V hV => ?_⟩
      have hV : Mod ins (g ++ t ++ t1 ++ t2) V := by simpa using hV
      have q0 := hv V hV.pre.pre
      have q1 := hv1 V hV.pre
      have q2 := hv2 V hV
      dsimp only at q1 q2
      have hla : (bv V (A.take j)).length = j := by rw [bv_len]; simp; omega
      have hlb : (bv V (B.take j)).length = j := by rw [bv_len]; simp; omega
      have ka := nb_lt (bv V (A.take j))
      have kb := nb_lt (bv V (B.take j))
      rw [hla] at ka
      rw [hlb] at kb
      rw [bv_take_at hj, bv_take_at (l := B) (by omega), nb_step (P := 2 ^ j) (bv V (A.take j)) _ (by rw [hla]), nb_step (P := 2 ^ j) (bv V (B.take j)) _ (by rw [hlb]), q2, q1, q0]
      exact ord_step _ _ _ ka kb)
    (fun self d ⟨t, x, hd, ht, hr, hx, hv⟩ => by
      subst hd
      unfold blast_maker_below_l1b
      simp only [cond_dec]
      rw [if_neg (by omega)]
      exact ⟨_, rfl, t, x, rfl, ht, hr, hx, fun V hV => by rw [hv V hV, List.take_length, List.take_of_length_le (by omega)]⟩) (by omega)
    ⟨[], c, by simp, by simp, by simpa using r, by simpa using hc, fun V hV => by simp [bv, nb]⟩
  subst hR
  unfold blast_maker_below
  rw [show blast_maker_below_l1 n A (c, 0, ins, g, o, w, p, q, s, u, lo, A, B, C, ()) = _ from e, bindS]
  exact ⟨t, [x], rfl, ht, hr, rfl, fun y hy => by rw [List.mem_singleton.1 hy]; exact hx, fun V hV => by simp only [bv, List.map_cons, List.map_nil]; rw [hv V hV]; rfl⟩
theorem doMux_m (r : RG ins g) (hg : g.length + 3 * B.length < 19000) (hA : Lits ins g A) (hB : Lits ins g B) (hC : Lits ins g C) (hA1 : A.length = 1) (hBC : C.length = B.length) (hBl : B.length ≤ 1000) (hn : 30000 < n) : MS (3 * B.length) ins g (o, w, p, q, s, u, lo, A, B, C, ()) (blast_maker_doMux n ins g o w p q s u lo A B C) (BP ins B.length fun V => bif lv V (Ki_at A 0) then bv V B else bv V C) := by
  obtain ⟨R, e, t, L, hR, ht, hr, hL, hLs, hv⟩ := iter_ex (F := blast_maker_doMux_l1b n B) (len := B.length) (m := n) (d := (0, ins, g, o, w, p, q, s, u, lo, A, B, C, List.replicate B.length (0 : Int), ()))
    (fun j d => ∃ t L, d = ((j : Int), ins, g ++ t, o, w, p, q, s, u, lo, A, B, C, L ++ List.replicate (B.length - L.length) (0 : Int), ()) ∧ t.length ≤ 3 * j ∧ RG ins (g ++ t) ∧ L.length = j ∧ Lits ins (g ++ t) L ∧ ∀ V, Mod ins (g ++ t) V → bv V L = bif lv V (Ki_at A 0) then bv V (B.take j) else bv V (C.take j))
    (fun R => ∃ t L, R = (ins, g ++ t, o, w, p, q, s, u, lo, A, B, C, L, ()) ∧ t.length ≤ 3 * B.length ∧ RG ins (g ++ t) ∧ L.length = B.length ∧ Lits ins (g ++ t) L ∧ ∀ V, Mod ins (g ++ t) V → bv V L = bif lv V (Ki_at A 0) then bv V B else bv V C)
    (fun self j d hj ⟨t, L, hd, ht, hr, hL, hLs, hv⟩ => by
      subst hd
      obtain ⟨t', y, e, ht', hr', hy, hv'⟩ := mux_m (o := o) (w := w) (p := p) (q := q) (s := s) (u := u) (lo := lo) (A := A) (B := B) (C := C) hr (by simp; omega) (a := Ki_at A 0) (hA.at (j := 0) (by omega)).more (hB.at hj).more (hC.at (j := j) (by omega)).more hn
      unfold blast_maker_doMux_l1b
      simp only [cond_dec]
      rw [if_pos (by simp; omega), ask_of (by omega), ask_of (by omega), ask_of (by omega), e, bindS, ask_of (by rw [fill_len (L := L) (w := B.length) (by omega)]; omega), succ64 (by omega), Int.toNat_natCast]
      refine ⟨_, rfl, t ++ t', L ++ [y], ?_, by simp; omega, by simpa using hr', by simp [hL], by simpa using (Lits.more hLs).snoc hy, fun V hV => ?_⟩
      · subst hL
        rw [fill_set hj]
        simp
      · have hV : Mod ins (g ++ t ++ t') V := by simpa using hV
        have q2 := hv' V hV
        dsimp only at q2
        rw [bv_snoc, hv V hV.pre, q2, bv_take_at hj, bv_take_at (l := C) (by omega)]
        cases lv V (Ki_at A 0) <;> rfl)
    (fun self d ⟨t, L, hd, ht, hr, hL, hLs, hv⟩ => by
      subst hd
      unfold blast_maker_doMux_l1b
      simp only [cond_dec]
      rw [if_neg (by simp)]
      exact ⟨_, rfl, t, L, by simp only [fill_end hL], ht, hr, hL, hLs, fun V hV => by rw [hv V hV, List.take_length, List.take_of_length_le (by omega)]⟩) (by omega)
    ⟨[], [], by simp, by simp, by simpa using r, rfl, fun x hx => by simp at hx, fun V hV => by simp [bv]⟩
  subst hR
  unfold blast_maker_doMux
  rw [ask_of (by omega), Int.toNat_natCast, show blast_maker_doMux_l1 n B (0, ins, g, o, w, p, q, s, u, lo, A, B, C, List.replicate B.length (0 : Int), ()) = _ from e, bindS]
  exact ⟨t, L, rfl, ht, hr, hL, hLs, hv⟩
end
end Go.Proofs.Ytfjdhdmbbfeigaa.Am
