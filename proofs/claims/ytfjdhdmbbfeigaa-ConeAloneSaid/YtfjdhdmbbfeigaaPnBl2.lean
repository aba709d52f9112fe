/- What the maker of bits makes. -/
import Derived.Test.YtfjdhdmbbfeigaaPnBl
namespace Go.Proofs.Ytfjdhdmbbfeigaa.Am
set_option linter.unusedVariables false
set_option linter.unusedSimpArgs false
abbrev MTail := Int × Int × Int × Int × Int × Int × Int × List Int × List Int × List Int × Unit
/-- What a step of the maker comes to: so many ands more, what was made, and all else as it was. -/
def MS {Y : Type} (k : Nat) (ins : Int) (g : List Kii) (τ : MTail) (R : Option (Y × Int × List Kii × MTail)) (P : List Kii → Y → Prop) : Prop := ∃ t y, R = some (y, ins, g ++ t, τ) ∧ t.length ≤ k ∧ RG ins (g ++ t) ∧ P (g ++ t) y
/-- A literal that means as told. -/
def LP (ins : Int) (φ : List Bool → Bool) (G : List Kii) (y : Int) : Prop := LitG ins G y ∧ ∀ V, Mod ins G V → lv V y = φ V
/-- Bits that mean as told. -/
def BP (ins : Int) (w : Nat) (ψ : List Bool → List Bool) (G : List Kii) (l : List Int) : Prop := l.length = w ∧ Lits ins G l ∧ ∀ V, Mod ins G V → bv V l = ψ V
/-- Bits whose number is as told. -/
def NP (ins : Int) (w : Nat) (N : List Bool → Nat) (G : List Kii) (l : List Int) : Prop := l.length = w ∧ Lits ins G l ∧ ∀ V, Mod ins G V → nb (bv V l) = N V
section
variable {n : Nat} {ins : Int} {g : List Kii} {o w p q s u lo a b c : Int} {A B C : List Int}
theorem and_m (r : RG ins g) (hl : g.length < 20000) (ha : LitG ins g a) (hb : LitG ins g b) (hn : 30000 < n) : MS 1 ins g (o, w, p, q, s, u, lo, A, B, C, ()) (blast_maker_and n a b ins g o w p q s u lo A B C) (LP ins fun V => lv V a && lv V b) := by
  obtain ⟨t, x, e, ht, hr, hx, hv⟩ := and_f r hl ha hb hn
  unfold blast_maker_and
  rw [e, bindS]
  exact ⟨t, x, rfl, ht, hr, hx, hv⟩
theorem or_m (r : RG ins g) (hl : g.length < 20000) (ha : LitG ins g a) (hb : LitG ins g b) (hn : 30000 < n) : MS 1 ins g (o, w, p, q, s, u, lo, A, B, C, ()) (blast_maker_or n a b ins g o w p q s u lo A B C) (LP ins fun V => lv V a || lv V b) := by
  obtain ⟨e1, t1⟩ := turn_lit r ha
  obtain ⟨e2, t2⟩ := turn_lit r hb
  obtain ⟨t, x, e, ht, hr, hx, hv⟩ := and_m (o := o) (w := w) (p := p) (q := q) (s := s) (u := u) (lo := lo) (A := A) (B := B) (C := C) r hl t1 t2 hn
  obtain ⟨e3, t3⟩ := turn_lit hr hx
  unfold blast_maker_or
  rw [e1, e2, e, bindS]
  simp only [e3]
  exact ⟨t, turn x, rfl, ht, hr, t3, fun V hV => by rw [lv_turn, hv V hV]; dsimp only; rw [lv_turn, lv_turn]; cases lv V a <;> cases lv V b <;> rfl⟩
theorem xor_m (r : RG ins g) (hl : g.length < 19990) (ha : LitG ins g a) (hb : LitG ins g b) (hn : 30000 < n) : MS 3 ins g (o, w, p, q, s, u, lo, A, B, C, ()) (blast_maker_xor n a b ins g o w p q s u lo A B C) (LP ins fun V => lv V a != lv V b) := by
  obtain ⟨e1, t1⟩ := turn_lit r ha
  obtain ⟨e2, t2⟩ := turn_lit r hb
  obtain ⟨t, x, e, ht, hr, hx, hv⟩ := and_m (o := o) (w := w) (p := p) (q := q) (s := s) (u := u) (lo := lo) (A := A) (B := B) (C := C) r (by omega) ha t2 hn
  obtain ⟨t', y, e', ht', hr', hy, hv'⟩ := and_m (o := o) (w := w) (p := p) (q := q) (s := s) (u := u) (lo := lo) (A := A) (B := B) (C := C) hr (by simp; omega) t1.more hb.more hn
  obtain ⟨t3, z, e3, ht3, hr3, hz, hv3⟩ := or_m (o := o) (w := w) (p := p) (q := q) (s := s) (u := u) (lo := lo) (A := A) (B := B) (C := C) hr' (by simp; omega) hx.more hy hn
  unfold blast_maker_xor
  rw [e1, e2, e, bindS]
  simp only
  rw [e', bindS]
  simp only
  rw [e3, bindS]
  refine ⟨t ++ t' ++ t3, z, by simp, by simp; omega, by simpa using hr3, by simpa using hz, fun V hV => ?_⟩
  have hV : Mod ins (g ++ t ++ t' ++ t3) V := by simpa using hV
  have q3 := hv3 V hV
  have q1 := hv V hV.pre.pre
  have q2 := hv' V hV.pre
  dsimp only at q1 q2 q3 ⊢
  rw [q3, q1, q2, lv_turn, lv_turn]
  cases lv V a <;> cases lv V b <;> rfl
theorem mux_m (r : RG ins g) (hl : g.length < 19990) (ha : LitG ins g a) (hb : LitG ins g b) (hc : LitG ins g c) (hn : 30000 < n) : MS 3 ins g (o, w, p, q, s, u, lo, A, B, C, ()) (blast_maker_mux n a b c ins g o w p q s u lo A B C) (LP ins fun V => bif lv V a then lv V b else lv V c) := by
  obtain ⟨e1, t1⟩ := turn_lit r ha
  obtain ⟨t, x, e, ht, hr, hx, hv⟩ := and_m (o := o) (w := w) (p := p) (q := q) (s := s) (u := u) (lo := lo) (A := A) (B := B) (C := C) r (by omega) ha hb hn
  obtain ⟨t', y, e', ht', hr', hy, hv'⟩ := and_m (o := o) (w := w) (p := p) (q := q) (s := s) (u := u) (lo := lo) (A := A) (B := B) (C := C) hr (by simp; omega) t1.more hc.more hn
  obtain ⟨t3, z, e3, ht3, hr3, hz, hv3⟩ := or_m (o := o) (w := w) (p := p) (q := q) (s := s) (u := u) (lo := lo) (A := A) (B := B) (C := C) hr' (by simp; omega) hx.more hy hn
  unfold blast_maker_mux
  rw [e1, e, bindS]
  simp only
  rw [e', bindS]
  simp only
  rw [e3, bindS]
  refine ⟨t ++ t' ++ t3, z, by simp, by simp; omega, by simpa using hr3, by simpa using hz, fun V hV => ?_⟩
  have hV : Mod ins (g ++ t ++ t' ++ t3) V := by simpa using hV
  have q3 := hv3 V hV
  have q1 := hv V hV.pre.pre
  have q2 := hv' V hV.pre
  dsimp only at q1 q2 q3 ⊢
  rw [q3, q1, q2, lv_turn]
  cases lv V a <;> cases lv V b <;> cases lv V c <;> rfl
theorem any_m {l : List Int} (r : RG ins g) (hg : g.length + l.length < 19000) (h : Lits ins g l) (hn : 30000 < n) : MS l.length ins g (o, w, p, q, s, u, lo, A, B, C, ()) (blast_maker_any n l ins g o w p q s u lo A B C) (LP ins fun V => (bv V l).any id) := by
  obtain ⟨R, e, t, x, hR, ht, hr, hx, hv⟩ := iter_ex (F := blast_maker_any_l1b n l) (len := l.length) (m := n) (d := (0, 0, ins, g, o, w, p, q, s, u, lo, A, B, C, ()))
    (fun j d => ∃ t x, d = (x, (j : Int), ins, g ++ t, o, w, p, q, s, u, lo, A, B, C, ()) ∧ t.length ≤ j ∧ RG ins (g ++ t) ∧ LitG ins (g ++ t) x ∧ ∀ V, Mod ins (g ++ t) V → lv V x = (bv V (l.take j)).any id)
    (fun R => ∃ t x, R = (x, ins, g ++ t, o, w, p, q, s, u, lo, A, B, C, ()) ∧ t.length ≤ l.length ∧ RG ins (g ++ t) ∧ LitG ins (g ++ t) x ∧ ∀ V, Mod ins (g ++ t) V → lv V x = (bv V l).any id)
    (fun self j d hj ⟨t, x, hd, ht, hr, hx, hv⟩ => by
      subst hd
      obtain ⟨t', y, e, ht', hr', hy, hv'⟩ := or_m (o := o) (w := w) (p := p) (q := q) (s := s) (u := u) (lo := lo) (A := A) (B := B) (C := C) hr (by simp; omega) hx (h.at hj).more hn
      unfold blast_maker_any_l1b
      simp only [cond_dec]
      rw [if_pos (by omega), ask_of (by omega), e, bindS, succ64 (by omega)]
      refine ⟨_, rfl, t ++ t', y, by simp, by simp; omega, by simpa using hr', by simpa using hy, fun V hV => ?_⟩
      have hV : Mod ins (g ++ t ++ t') V := by simpa using hV
      have q2 := hv' V hV
      dsimp only at q2
      rw [q2, hv V hV.pre, bv_take_at hj, List.any_append]
      simp)
    (fun self d ⟨t, x, hd, ht, hr, hx, hv⟩ => by
      subst hd
      unfold blast_maker_any_l1b
      simp only [cond_dec]
      rw [if_neg (by omega)]
      exact ⟨_, rfl, t, x, rfl, ht, hr, hx, fun V hV => by rw [hv V hV, List.take_length]⟩) (by omega)
    ⟨[], 0, by simp, by simp, by simpa using r, by have := r.i0; simp [LitG]; omega, fun V hV => by rw [lv_0 hV]; simp [bv]⟩
  subst hR
  unfold blast_maker_any
  rw [show blast_maker_any_l1 n l (0, 0, ins, g, o, w, p, q, s, u, lo, A, B, C, ()) = _ from e, bindS]
  exact ⟨t, x, rfl, ht, hr, hx, hv⟩
theorem both_and_m (r : RG ins g) (hg : g.length + 1 * A.length < 19000) (hA : Lits ins g A) (hB : Lits ins g B) (hAB : B.length = A.length) (hAl : A.length ≤ 1000) (hn : 30000 < n) : MS (1 * A.length) ins g (o, w, p, q, s, u, lo, A, B, C, ()) (blast_maker_both__blast_maker_and n ins g o w p q s u lo A B C) (BP ins A.length fun V => List.zipWith (fun x y => x && y) (bv V A) (bv V B)) := by
  obtain ⟨R, e, t, L, hR, ht, hr, hL, hLs, hv⟩ := iter_ex (F := blast_maker_both__blast_maker_and_l1b n A) (len := A.length) (m := n) (d := (0, ins, g, o, w, p, q, s, u, lo, A, B, C, List.replicate A.length (0 : Int), ()))
    (fun j d => ∃ t L, d = ((j : Int), ins, g ++ t, o, w, p, q, s, u, lo, A, B, C, L ++ List.replicate (A.length - L.length) (0 : Int), ()) ∧ t.length ≤ 1 * j ∧ RG ins (g ++ t) ∧ L.length = j ∧ Lits ins (g ++ t) L ∧ ∀ V, Mod ins (g ++ t) V → bv V L = (List.zipWith (fun x y => x && y) (bv V A) (bv V B)).take j)
    (fun R => ∃ t L, R = (ins, g ++ t, o, w, p, q, s, u, lo, A, B, C, L, ()) ∧ t.length ≤ 1 * A.length ∧ RG ins (g ++ t) ∧ L.length = A.length ∧ Lits ins (g ++ t) L ∧ ∀ V, Mod ins (g ++ t) V → bv V L = List.zipWith (fun x y => x && y) (bv V A) (bv V B))
    (fun self j d hj ⟨t, L, hd, ht, hr, hL, hLs, hv⟩ => by
      subst hd
      obtain ⟨t', y, e, ht', hr', hy, hv'⟩ := and_m (o := o) (w := w) (p := p) (q := q) (s := s) (u := u) (lo := lo) (A := A) (B := B) (C := C) hr (by simp; omega) (hA.at hj).more (hB.at (j := j) (by omega)).more hn
      unfold blast_maker_both__blast_maker_and_l1b
      simp only [cond_dec]
      rw [if_pos (by simp; omega), ask_of (by omega), ask_of (by omega), e, bindS, ask_of (by rw [fill_len (L := L) (w := A.length) (by omega)]; omega), succ64 (by omega), Int.toNat_natCast]
      refine ⟨_, rfl, t ++ t', L ++ [y], ?_, by simp; omega, by simpa using hr', by simp [hL], by simpa using (Lits.more hLs).snoc hy, fun V hV => ?_⟩
      · subst hL
        rw [fill_set hj]
        simp
      · have hV : Mod ins (g ++ t ++ t') V := by simpa using hV
        have q2 := hv' V hV
        dsimp only at q2
        rw [bv_snoc, hv V hV.pre, q2]
        have hz : j < (List.zipWith (fun x y => x && y) (bv V A) (bv V B)).length := by simp [bv]; omega
        rw [take_at (t := Ty.bool) hz, at_nat (t := Ty.bool) hz, List.getElem_zipWith]
        have h1 : lv V (Ki_at A (j : Int)) = (bv V A)[j]'(by simp [bv]; omega) := by
          rw [show Ki_at A (j : Int) = A[j] from at_nat (t := .int .i64) hj]; simp [bv]
        have h2 : lv V (Ki_at B (j : Int)) = (bv V B)[j]'(by simp [bv]; omega) := by
          rw [show Ki_at B (j : Int) = B[j] from at_nat (t := .int .i64) (by omega)]; simp [bv]
        rw [h1, h2])
    (fun self d ⟨t, L, hd, ht, hr, hL, hLs, hv⟩ => by
      subst hd
      unfold blast_maker_both__blast_maker_and_l1b
      simp only [cond_dec]
      rw [if_neg (by simp)]
      exact ⟨_, rfl, t, L, by simp only [fill_end hL], ht, hr, hL, hLs, fun V hV => by rw [hv V hV, List.take_of_length_le (by simp [bv]; omega)]⟩) (by omega)
    ⟨[], [], by simp, by simp, by simpa using r, rfl, fun x hx => by simp at hx, fun V hV => by simp [bv]⟩
  subst hR
  unfold blast_maker_both__blast_maker_and
  rw [ask_of (by omega), Int.toNat_natCast, show blast_maker_both__blast_maker_and_l1 n A (0, ins, g, o, w, p, q, s, u, lo, A, B, C, List.replicate A.length (0 : Int), ()) = _ from e, bindS]
  exact ⟨t, L, rfl, ht, hr, hL, hLs, hv⟩
theorem both_or_m (r : RG ins g) (hg : g.length + 1 * A.length < 19000) (hA : Lits ins g A) (hB : Lits ins g B) (hAB : B.length = A.length) (hAl : A.length ≤ 1000) (hn : 30000 < n) : MS (1 * A.length) ins g (o, w, p, q, s, u, lo, A, B, C, ()) (blast_maker_both__blast_maker_or n ins g o w p q s u lo A B C) (BP ins A.length fun V => List.zipWith (fun x y => x || y) (bv V A) (bv V B)) := by
  obtain ⟨R, e, t, L, hR, ht, hr, hL, hLs, hv⟩ := iter_ex (F := blast_maker_both__blast_maker_or_l1b n A) (len := A.length) (m := n) (d := (0, ins, g, o, w, p, q, s, u, lo, A, B, C, List.replicate A.length (0 : Int), ()))
    (fun j d => ∃ t L, d = ((j : Int), ins, g ++ t, o, w, p, q, s, u, lo, A, B, C, L ++ List.replicate (A.length - L.length) (0 : Int), ()) ∧ t.length ≤ 1 * j ∧ RG ins (g ++ t) ∧ L.length = j ∧ Lits ins (g ++ t) L ∧ ∀ V, Mod ins (g ++ t) V → bv V L = (List.zipWith (fun x y => x || y) (bv V A) (bv V B)).take j)
    (fun R => ∃ t L, R = (ins, g ++ t, o, w, p, q, s, u, lo, A, B, C, L, ()) ∧ t.length ≤ 1 * A.length ∧ RG ins (g ++ t) ∧ L.length = A.length ∧ Lits ins (g ++ t) L ∧ ∀ V, Mod ins (g ++ t) V → bv V L = List.zipWith (fun x y => x || y) (bv V A) (bv V B))
    (fun self j d hj ⟨t, L, hd, ht, hr, hL, hLs, hv⟩ => by
      subst hd
      obtain ⟨t', y, e, ht', hr', hy, hv'⟩ := or_m (o := o) (w := w) (p := p) (q := q) (s := s) (u := u) (lo := lo) (A := A) (B := B) (C := C) hr (by simp; omega) (hA.at hj).more (hB.at (j := j) (by omega)).more hn
      unfold blast_maker_both__blast_maker_or_l1b
      simp only [cond_dec]
      rw [if_pos (by simp; omega), ask_of (by omega), ask_of (by omega), e, bindS, ask_of (by rw [fill_len (L := L) (w := A.length) (by omega)]; omega), succ64 (by omega), Int.toNat_natCast]
      refine ⟨_, rfl, t ++ t', L ++ [y], ?_, by simp; omega, by simpa using hr', by simp [hL], by simpa using (Lits.more hLs).snoc hy, fun V hV => ?_⟩
      · subst hL
        rw [fill_set hj]
        simp
      · have hV : Mod ins (g ++ t ++ t') V := by simpa using hV
        have q2 := hv' V hV
        dsimp only at q2
        rw [bv_snoc, hv V hV.pre, q2]
        have hz : j < (List.zipWith (fun x y => x || y) (bv V A) (bv V B)).length := by simp [bv]; omega
        rw [take_at (t := Ty.bool) hz, at_nat (t := Ty.bool) hz, List.getElem_zipWith]
        have h1 : lv V (Ki_at A (j : Int)) = (bv V A)[j]'(by simp [bv]; omega) := by
          rw [show Ki_at A (j : Int) = A[j] from at_nat (t := .int .i64) hj]; simp [bv]
        have h2 : lv V (Ki_at B (j : Int)) = (bv V B)[j]'(by simp [bv]; omega) := by
          rw [show Ki_at B (j : Int) = B[j] from at_nat (t := .int .i64) (by omega)]; simp [bv]
        rw [h1, h2])
    (fun self d ⟨t, L, hd, ht, hr, hL, hLs, hv⟩ => by
      subst hd
      unfold blast_maker_both__blast_maker_or_l1b
      simp only [cond_dec]
      rw [if_neg (by simp)]
      exact ⟨_, rfl, t, L, by simp only [fill_end hL], ht, hr, hL, hLs, fun V hV => by rw [hv V hV, List.take_of_length_le (by simp [bv]; omega)]⟩) (by omega)
    ⟨[], [], by simp, by simp, by simpa using r, rfl, fun x hx => by simp at hx, fun V hV => by simp [bv]⟩
  subst hR
  unfold blast_maker_both__blast_maker_or
  rw [ask_of (by omega), Int.toNat_natCast, show blast_maker_both__blast_maker_or_l1 n A (0, ins, g, o, w, p, q, s, u, lo, A, B, C, List.replicate A.length (0 : Int), ()) = _ from e, bindS]
  exact ⟨t, L, rfl, ht, hr, hL, hLs, hv⟩
theorem both_xor_m (r : RG ins g) (hg : g.length + 3 * A.length < 19000) (hA : Lits ins g A) (hB : Lits ins g B) (hAB : B.length = A.length) (hAl : A.length ≤ 1000) (hn : 30000 < n) : MS (3 * A.length) ins g (o, w, p, q, s, u, lo, A, B, C, ()) (blast_maker_both__blast_maker_xor n ins g o w p q s u lo A B C) (BP ins A.length fun V => List.zipWith (fun x y => x != y) (bv V A) (bv V B)) := by
  obtain ⟨R, e, t, L, hR, ht, hr, hL, hLs, hv⟩ := iter_ex (F := blast_maker_both__blast_maker_xor_l1b n A) (len := A.length) (m := n) (d := (0, ins, g, o, w, p, q, s, u, lo, A, B, C, List.replicate A.length (0 : Int), ()))
    (fun j d => ∃ t L, d = ((j : Int), ins, g ++ t, o, w, p, q, s, u, lo, A, B, C, L ++ List.replicate (A.length - L.length) (0 : Int), ()) ∧ t.length ≤ 3 * j ∧ RG ins (g ++ t) ∧ L.length = j ∧ Lits ins (g ++ t) L ∧ ∀ V, Mod ins (g ++ t) V → bv V L = (List.zipWith (fun x y => x != y) (bv V A) (bv V B)).take j)
    (fun R => ∃ t L, R = (ins, g ++ t, o, w, p, q, s, u, lo, A, B, C, L, ()) ∧ t.length ≤ 3 * A.length ∧ RG ins (g ++ t) ∧ L.length = A.length ∧ Lits ins (g ++ t) L ∧ ∀ V, Mod ins (g ++ t) V → bv V L = List.zipWith (fun x y => x != y) (bv V A) (bv V B))
    (fun self j d hj ⟨t, L, hd, ht, hr, hL, hLs, hv⟩ => by
      subst hd
      obtain ⟨t', y, e, ht', hr', hy, hv'⟩ := xor_m (o := o) (w := w) (p := p) (q := q) (s := s) (u := u) (lo := lo) (A := A) (B := B) (C := C) hr (by simp; omega) (hA.at hj).more (hB.at (j := j) (by omega)).more hn
      unfold blast_maker_both__blast_maker_xor_l1b
      simp only [cond_dec]
      rw [if_pos (by simp; omega), ask_of (by omega), ask_of (by omega), e, bindS, ask_of (by rw [fill_len (L := L) (w := A.length) (by omega)]; omega), succ64 (by omega), Int.toNat_natCast]
      refine ⟨_, rfl, t ++ t', L ++ [y], ?_, by simp; omega, by simpa using hr', by simp [hL], by simpa using (Lits.more hLs).snoc hy, fun V hV => ?_⟩
      · subst hL
        rw [fill_set hj]
        simp
      · have hV : Mod ins (g ++ t ++ t') V := by simpa using hV
        have q2 := hv' V hV
        dsimp only at q2
        rw [bv_snoc, hv V hV.pre, q2]
        have hz : j < (List.zipWith (fun x y => x != y) (bv V A) (bv V B)).length := by simp [bv]; omega
        rw [take_at (t := Ty.bool) hz, at_nat (t := Ty.bool) hz, List.getElem_zipWith]
        have h1 : lv V (Ki_at A (j : Int)) = (bv V A)[j]'(by simp [bv]; omega) := by
          rw [show Ki_at A (j : Int) = A[j] from at_nat (t := .int .i64) hj]; simp [bv]
        have h2 : lv V (Ki_at B (j : Int)) = (bv V B)[j]'(by simp [bv]; omega) := by
          rw [show Ki_at B (j : Int) = B[j] from at_nat (t := .int .i64) (by omega)]; simp [bv]
        rw [h1, h2])
    (fun self d ⟨t, L, hd, ht, hr, hL, hLs, hv⟩ => by
      subst hd
      unfold blast_maker_both__blast_maker_xor_l1b
      simp only [cond_dec]
      rw [if_neg (by simp)]
      exact ⟨_, rfl, t, L, by simp only [fill_end hL], ht, hr, hL, hLs, fun V hV => by rw [hv V hV, List.take_of_length_le (by simp [bv]; omega)]⟩) (by omega)
    ⟨[], [], by simp, by simp, by simpa using r, rfl, fun x hx => by simp at hx, fun V hV => by simp [bv]⟩
  subst hR
  unfold blast_maker_both__blast_maker_xor
  rw [ask_of (by omega), Int.toNat_natCast, show blast_maker_both__blast_maker_xor_l1 n A (0, ins, g, o, w, p, q, s, u, lo, A, B, C, List.replicate A.length (0 : Int), ()) = _ from e, bindS]
  exact ⟨t, L, rfl, ht, hr, hL, hLs, hv⟩
end
end Go.Proofs.Ytfjdhdmbbfeigaa.Am
