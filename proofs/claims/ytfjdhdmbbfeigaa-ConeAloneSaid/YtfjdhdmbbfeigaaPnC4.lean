/- Right circuits. -/
import Derived.Test.YtfjdhdmbbfeigaaPnC3
namespace Go.Proofs.Ytfjdhdmbbfeigaa.Am
set_option linter.unusedVariables false
set_option linter.unusedSimpArgs false
def lex (a b c d : Int) : Prop := a < c ∨ a = c ∧ b < d
structure CircR (ins : Int) (G : List Kii) (iL : List Kiii) (lL : List Kiibii) (oL : List Kiii) : Prop where
  r : RG ins G
  sum : (iL.length : Int) + (lL.length : Int) = ins
  l256 : lL.length ≤ 256
  o1000 : oL.length ≤ 1000
  i : ∀ j : Nat, j < iL.length → (Kiii_at iL (j : Int)).1 = (j : Int) + 1 ∧ 0 ≤ (Kiii_at iL (j : Int)).2.1 ∧ 0 ≤ (Kiii_at iL (j : Int)).2.2
  ip : ∀ j : Nat, j + 1 < iL.length → lex (Kiii_at iL (j : Int)).2.1 (Kiii_at iL (j : Int)).2.2 (Kiii_at iL ((j + 1 : Nat) : Int)).2.1 (Kiii_at iL ((j + 1 : Nat) : Int)).2.2
  l : ∀ j : Nat, j < lL.length → (Kiibii_at lL (j : Int)).1 = (iL.length : Int) + (j : Int) + 1 ∧ 0 ≤ (Kiibii_at lL (j : Int)).2.2.2.1 ∧ 0 ≤ (Kiibii_at lL (j : Int)).2.2.2.2 ∧ LitG ins G (Kiibii_at lL (j : Int)).2.1
  lp : ∀ j : Nat, j + 1 < lL.length → lex (Kiibii_at lL (j : Int)).2.2.2.1 (Kiibii_at lL (j : Int)).2.2.2.2 (Kiibii_at lL ((j + 1 : Nat) : Int)).2.2.2.1 (Kiibii_at lL ((j + 1 : Nat) : Int)).2.2.2.2
  o : ∀ j : Nat, j < oL.length → 8 ≤ (Kiii_at oL (j : Int)).1 ∧ (Kiii_at oL (j : Int)).1 ≤ 10 ∧ 0 ≤ (Kiii_at oL (j : Int)).2.2 ∧ LitG ins G (Kiii_at oL (j : Int)).2.1
section
variable {n : Nat} {ins : Int} {G : List Kii} {iL oL : List Kiii} {lL : List Kiibii}
theorem there_ok {a b : Int} (ha : 0 ≤ a) (hb : 0 ≤ b) : circ_place_there n a b = some (true, ()) := by
  unfold circ_place_there
  simp only [cond_dec]
  rw [if_pos ha, decide_eq_true hb]
theorem behind_ok {a b c d : Int} (h : lex c d a b) : circ_place_behind n a b c d = some (true, ()) := by
  unfold circ_place_behind
  simp only [cond_dec]
  rcases h with h | ⟨h1, h2⟩
  · rw [if_pos h]
  · rw [if_neg (by omega), if_pos h1.symm, decide_eq_true h2]
theorem rises_ok {a b c d : Int} (h : lex a b c d) : ref15_rises n a b c d = some (true, ()) := by
  unfold ref15_rises
  simp only [cond_dec]
  rcases h with h | ⟨h1, h2⟩
  · rw [if_pos h]
  · rw [if_neg (by omega), if_pos h1, decide_eq_true h2]
theorem odd_ok {x : Int} (r : RG ins G) (h : LitG ins G x) : circ_Right_1 n x [(ins, G, iL, lL, oL)] 0 = some (false, ()) := by
  have i0 := r.i0
  have i1 := r.i1
  have hg := r.len
  obtain ⟨h0, h1⟩ := h
  unfold circ_Right_1
  simp only [cond_dec]
  have sh : shrI .i64 x 1 = x / 2 := shr_p2 (by omega)
  rw [if_neg (by omega), ask_of (by omega), sh, show (KiLPiiELPiiiELPiibiiELPiiiE_at [(ins, G, iL, lL, oL)] 0) = (ins, G, iL, lL, oL) from rfl]
  simp only
  rw [wrap_small (by omega) (by omega), decide_eq_false (by omega)]
theorem circR_f (h : CircR ins G iL lL oL) (hn : 30000 < n) : circ_Right n ins G iL lL oL = some (true, ()) := by
  have hr := h.r
  have i0 := hr.i0
  have i1 := hr.i1
  have hg := hr.len
  have hs := h.sum
  have h256 := h.l256
  have ho := h.o1000
  unfold circ_Right
  rw [aigRight_f hr hn, bindS]
  simp only [Bool.not_true, cond_false, cond_dec]
  rw [if_neg (by omega), wrap_small (by omega) (by omega), if_neg (by omega)]
  have l1 := iter_up (F := circ_Right_l1b n iL) (fun j => ((j : Int), (match j with | 0 => (-1, 0, ()) | k + 1 => ((Kiii_at iL (k : Int)).2.1, (Kiii_at iL (k : Int)).2.2, ()) : Int × Int × Unit))) (.inr (match iL.length with | 0 => (-1, 0, ()) | k + 1 => ((Kiii_at iL (k : Int)).2.1, (Kiii_at iL (k : Int)).2.2, ()))) (len := iL.length) (m := n)
    (fun self j hj => by
      obtain ⟨q1, q2, q3⟩ := h.i j hj
      unfold circ_Right_l1b
      simp only [cond_dec]
      rw [if_pos (by omega), ask_of (by omega), ask_of (by omega), ask_of (by omega), ask_of (by omega), succ64 (by omega), if_neg (by omega), there_ok q2 q3, bindS]
      simp only [Bool.not_true, cond_false]
      cases j with
      | zero =>
        simp only
        rw [behind_ok (.inl (by omega)), bindS]
        rfl
      | succ k =>
        have hp := h.ip k hj
        simp only
        rw [behind_ok hp, bindS]
        rfl)
    (fun self => by
      unfold circ_Right_l1b
      simp only [cond_dec]
      rw [if_neg (by omega)]) (by omega)
  rw [show circ_Right_l1 n iL (0, -1, 0, ()) = _ from l1, bindS, Sum.elim_inr]
  have l2 := iter_up (F := circ_Right_l2b n ins G iL lL oL) (fun j => ((j : Int), (match j with | 0 => (-1, 0, ()) | k + 1 => ((Kiibii_at lL (k : Int)).2.2.2.1, (Kiibii_at lL (k : Int)).2.2.2.2, ()) : Int × Int × Unit))) (.inr ()) (len := lL.length) (m := n)
    (fun self j hj => by
      obtain ⟨q1, q2, q3, q4⟩ := h.l j hj
      unfold circ_Right_l2b
      simp only [cond_dec]
      rw [if_pos (by omega), ask_of (by omega), succ64 (by omega), wrap_small (x := (iL.length : Int) + (j : Int)) (by omega) (by omega), wrap_small (by omega) (by omega), if_neg (by omega), odd_ok hr q4, bindS]
      simp only [cond_false]
      rw [there_ok q2 q3, bindS]
      simp only [Bool.not_true, cond_false]
      cases j with
      | zero =>
        simp only
        rw [behind_ok (.inl (by omega)), bindS]
        rfl
      | succ k =>
        have hp := h.lp k hj
        simp only
        rw [behind_ok hp, bindS]
        rfl)
    (fun self => by
      unfold circ_Right_l2b
      simp only [cond_dec]
      rw [if_neg (by omega)]) (by omega)
  rw [show circ_Right_l2 n ins G iL lL oL (0, -1, 0, ()) = _ from l2, bindS, Sum.elim_inr]
  have l3 := iter_up (F := circ_Right_l3b n ins G iL lL oL) (fun j => ((j : Int), ())) (.inr ()) (len := oL.length) (m := n)
    (fun self j hj => by
      obtain ⟨q1, q2, q3, q4⟩ := h.o j hj
      unfold circ_Right_l3b
      simp only [cond_dec]
      rw [if_pos (by omega), ask_of (by omega), if_neg (by omega), if_neg (by omega), if_neg (by omega), odd_ok hr q4, bindS, succ64 (by omega)]
      rfl)
    (fun self => by
      unfold circ_Right_l3b
      simp only [cond_dec]
      rw [if_neg (by omega)]) (by omega)
  rw [show circ_Right_l3 n ins G iL lL oL (0, ()) = _ from l3, bindS, Sum.elim_inr]
theorem find_no {p q : Int} {j : Nat} (hj : j ≤ G.length) (hl : G.length ≤ 20000) (h : ∀ k : Nat, k < j → Kii_at G (k : Int) ≠ (p, q)) (hn : 30000 < n) : ref13_find n ins G p q (j : Int) = some (-1, ()) := by
  have l := iter_up (F := ref13_find_l1b n G p q (j : Int)) (fun k => ((k : Int), ())) (.inr ()) (len := j) (m := n)
    (fun self k hk => by
      have e : (Kii_at G (k : Int)).1 = p → ¬ (Kii_at G (k : Int)).2 = q := fun h1 h2 => h k hk (by rw [← h1, ← h2])
      unfold ref13_find_l1b
      simp only [cond_dec]
      rw [if_pos (by omega), ask_of (by omega), ask_of (by omega), succ64 (by omega)]
      by_cases h1 : (Kii_at G (k : Int)).1 = p
      · rw [if_pos h1, ask_of (by omega), ask_of (by omega), if_neg (e h1)]
      · rw [if_neg h1])
    (fun self => by
      unfold ref13_find_l1b
      simp only [cond_dec]
      rw [if_neg (by omega)]) (by omega)
  unfold ref13_find ref13_find_l1
  rw [show iter (ref13_find_l1b n G p q (j : Int)) n (0, ()) = _ from l]
  rfl
theorem right13_f (r : RG ins G) (hn : 30000 < n) : ref13_Right n ins G = some (true, ()) := by
  have i0 := r.i0
  have i1 := r.i1
  have hg := r.len
  have l1 := iter_up (F := ref13_Right_l1b n ins G) (fun j => ((j : Int), ())) (.inr ()) (len := G.length) (m := n)
    (fun self j hj => by
      obtain ⟨a1, a2, a3, a4⟩ := r.a j hj
      have hno := find_no (n := n) (ins := ins) (p := (Kii_at G (j : Int)).1) (q := (Kii_at G (j : Int)).2) (j := j) (by omega) hg (fun k hk => r.nd k j hk hj) hn
      unfold ref13_Right_l1b
      simp only [cond_dec]
      rw [if_pos (by omega), ask_of (by omega), ask_of (by omega), ask_of (by omega), ask_of (by omega), if_neg (by omega), if_neg (by omega), ask_of (by omega), tdiv2 (show 0 ≤ (Kii_at G (j : Int)).2 by omega), tdiv2 (show 0 ≤ (Kii_at G (j : Int)).1 by omega), wrap_small (x := ins + (j : Int)) (by omega) (by omega), wrap_small (x := (Kii_at G (j : Int)).2 / 2) (by omega) (by omega), wrap_small (x := (Kii_at G (j : Int)).1 / 2) (by omega) (by omega), if_neg (by omega), ask_of (by omega), ask_of (by omega), if_neg a4, hno, bindS, if_neg (by simp only; omega), succ64 (by omega)])
    (fun self => by
      unfold ref13_Right_l1b
      simp only [cond_dec]
      rw [if_neg (by omega)]) (by omega)
  unfold ref13_Right
  simp only [cond_dec]
  rw [if_neg (by omega), if_neg (by omega), if_neg (by omega), wrap_small (by omega) (by omega), if_neg (by omega), show ref13_Right_l1 n ins G (0, ()) = _ from l1]
  rfl
theorem lit15_f {x : Int} (r : RG ins G) (h : LitG ins G x) : ref15_literal n ins G x = some (true, ()) := by
  have i0 := r.i0
  have i1 := r.i1
  have hg := r.len
  obtain ⟨h0, h1⟩ := h
  unfold ref15_literal
  simp only [cond_dec]
  rw [if_pos h0, ask_of (by omega), tdiv2 h0, wrap_small (x := x / 2) (by omega) (by omega), wrap_small (by omega) (by omega), decide_eq_true (by omega)]
theorem right15_f (h : CircR ins G iL lL oL) (hn : 30000 < n) : ref15_Right n ins G iL lL oL = some (true, ()) := by
  have hr := h.r
  have i0 := hr.i0
  have i1 := hr.i1
  have hg := hr.len
  have hs := h.sum
  have h256 := h.l256
  have ho := h.o1000
  unfold ref15_Right
  rw [right13_f hr hn, bindS]
  simp only [Bool.not_true, cond_false, cond_dec]
  rw [if_neg (by omega), wrap_small (by omega) (by omega), if_neg (by omega)]
  have l1 := iter_up (F := ref15_Right_l1b n iL) (fun j => ((j : Int), ())) (.inr ()) (len := iL.length) (m := n)
    (fun self j hj => by
      obtain ⟨q1, q2, q3⟩ := h.i j hj
      unfold ref15_Right_l1b
      simp only [cond_dec]
      rw [if_pos (by omega), ask_of (by omega), ask_of (by omega), succ64 (by omega), if_neg (by omega), ask_of (by omega), if_neg (by omega), ask_of (by omega), if_neg (by omega)]
      cases j with
      | zero => rw [if_neg (by omega)]
      | succ k =>
        have hp := h.ip k hj
        have e : IntKind.wrap .i64 (((k + 1 : Nat) : Int) - 1) = (k : Int) := by rw [w64 (by omega) (by omega)]; omega
        rw [if_pos (by omega), e, ask_of (by omega), ask_of (by omega), ask_of (by omega), ask_of (by omega), ask_of (by omega), ask_of (by omega), rises_ok hp, bindS]
        rfl)
    (fun self => by
      unfold ref15_Right_l1b
      simp only [cond_dec]
      rw [if_neg (by omega)]) (by omega)
  rw [show ref15_Right_l1 n iL (0, ()) = _ from l1, bindS, Sum.elim_inr]
  have l2 := iter_up (F := ref15_Right_l2b n ins G iL lL) (fun j => ((j : Int), ())) (.inr ()) (len := lL.length) (m := n)
    (fun self j hj => by
      obtain ⟨q1, q2, q3, q4⟩ := h.l j hj
      unfold ref15_Right_l2b
      simp only [cond_dec]
      rw [if_pos (by omega), ask_of (by omega), succ64 (by omega), wrap_small (x := (iL.length : Int) + (j : Int)) (by omega) (by omega), wrap_small (by omega) (by omega), if_neg (by omega), if_neg (by omega), if_neg (by omega), lit15_f hr q4, bindS]
      simp only [Bool.not_true, cond_false]
      cases j with
      | zero => rw [if_neg (by omega)]
      | succ k =>
        have hp := h.lp k hj
        have e : IntKind.wrap .i64 (((k + 1 : Nat) : Int) - 1) = (k : Int) := by rw [w64 (by omega) (by omega)]; omega
        rw [if_pos (by omega), e, ask_of (by omega), ask_of (by omega), rises_ok hp, bindS]
        rfl)
    (fun self => by
      unfold ref15_Right_l2b
      simp only [cond_dec]
      rw [if_neg (by omega)]) (by omega)
  rw [show ref15_Right_l2 n ins G iL lL (0, ()) = _ from l2, bindS, Sum.elim_inr]
  have l3 := iter_up (F := ref15_Right_l3b n ins G oL) (fun j => ((j : Int), ())) (.inr ()) (len := oL.length) (m := n)
    (fun self j hj => by
      obtain ⟨q1, q2, q3, q4⟩ := h.o j hj
      unfold ref15_Right_l3b
      simp only [cond_dec]
      rw [if_pos (by omega), ask_of (by omega), if_neg (by omega), if_neg (by omega), if_neg (by omega), lit15_f hr q4, bindS, succ64 (by omega)]
      rfl)
    (fun self => by
      unfold ref15_Right_l3b
      simp only [cond_dec]
      rw [if_neg (by omega)]) (by omega)
  rw [show ref15_Right_l3 n ins G oL (0, ()) = _ from l3, bindS, Sum.elim_inr]
end
end Go.Proofs.Ytfjdhdmbbfeigaa.Am
