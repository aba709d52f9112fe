/- CircOdd, in plain Lean. -/
import Derived.Test.YtnjoiokbeknopaaPnM
import Derived.Test.YtnjoiokbeknopaaAmY
namespace Go.Proofs.Ytnjoiokbeknopaa.Am
set_option linter.unusedVariables false
set_option linter.unusedSimpArgs false
def prevI (iL : List Kiii) : Nat → Int × Int × Unit
  | 0 => (-1, 0, ())
  | k + 1 => ((Kiii_at iL (k : Int)).2.1, (Kiii_at iL (k : Int)).2.2, ())
def prevL (lL : List Kiibii) : Nat → Int × Int × Unit
  | 0 => (-1, 0, ())
  | k + 1 => ((Kiibii_at lL (k : Int)).2.2.2.1, (Kiibii_at lL (k : Int)).2.2.2.2, ())
section
variable {n : Nat} {ins : Int} {G : List Kii} {iL oL iL' oL' : List Kiii} {lL lL' : List Kiibii}
theorem l1_ok (h : CircR ins G iL lL oL) (hn : 30000 < n) : ∃ d, circ_Right_l1 n iL (0, -1, 0, ()) = some (.inr d) := by
  have hr := h.r
  have i1 := hr.i1
  have hs := h.sum
  refine ⟨prevI iL iL.length, iter_up (F := circ_Right_l1b n iL) (fun j => ((j : Int), prevI iL j)) (.inr (prevI iL iL.length)) (len := iL.length) (m := n)
    (fun self j hj => ?_) (fun self => ?_) (by omega)⟩
  · obtain ⟨q1, q2, q3⟩ := h.i j hj
    unfold circ_Right_l1b
    simp only [cond_dec]
    rw [if_pos (by omega), ask_of (by omega), ask_of (by omega), ask_of (by omega), ask_of (by omega), succ64 (by omega), if_neg (by omega), there_ok q2 q3, bindS]
    simp only [Bool.not_true, cond_false]
    cases j with
    | zero =>
      simp only [prevI]
      rw [behind_ok (.inl (by omega)), bindS]
      rfl
    | succ k =>
      have hp := h.ip k hj
      simp only [prevI]
      rw [behind_ok hp, bindS]
      rfl
  · unfold circ_Right_l1b
    simp only [cond_dec]
    rw [if_neg (by omega)]
theorem l2_pre (h : CircR ins G iL lL oL) {k : Nat} (hk : k ≤ lL.length) (hl : lL'.length = lL.length) (same : ∀ j : Nat, j < k → Kiibii_at lL' (j : Int) = Kiibii_at lL (j : Int)) {R : (Bool × Unit) ⊕ Unit} (fin : ∀ self, circ_Right_l2b n ins G iL lL' oL' self ((k : Int), prevL lL k) = some R) (hn : 30000 < n) : circ_Right_l2 n ins G iL lL' oL' (0, -1, 0, ()) = some R := by
  have hr := h.r
  have i1 := hr.i1
  have hs := h.sum
  have h256 := h.l256
  refine iter_up (F := circ_Right_l2b n ins G iL lL' oL') (fun j => ((j : Int), prevL lL j)) R (len := k) (m := n)
    (fun self j hj => ?_) fin (by omega)
  obtain ⟨q1, q2, q3, q4⟩ := h.l j (by omega)
  unfold circ_Right_l2b
  simp only [cond_dec, same j hj]
  rw [if_pos (by omega), ask_of (by omega), succ64 (by omega), wrap_small (x := (iL.length : Int) + (j : Int)) (by omega) (by omega), wrap_small (by omega) (by omega), if_neg (by omega), odd_ok hr q4, bindS]
  simp only [cond_false]
  rw [there_ok q2 q3, bindS]
  simp only [Bool.not_true, cond_false]
  cases j with
  | zero =>
    simp only [prevL]
    rw [behind_ok (.inl (by omega)), bindS]
    rfl
  | succ m =>
    have hp := h.lp m (by omega)
    simp only [prevL]
    rw [behind_ok hp, bindS]
    rfl
theorem no_sum (h : CircR ins G iL lL oL) (h1 : lL'.length < lL.length) (hn : 30000 < n) : circ_Right n ins G iL lL' oL' = some (false, ()) := by
  have hr := h.r
  have i0 := hr.i0
  have i1 := hr.i1
  have hs := h.sum
  have h256 := h.l256
  unfold circ_Right
  rw [aigRight_f hr hn, bindS]
  simp only [Bool.not_true, cond_false, cond_dec]
  rw [if_neg (by omega), wrap_small (by omega) (by omega), if_pos (by omega)]
theorem no_ins (h : CircR ins G iL lL oL) (hl : iL'.length = iL.length) (h0 : 0 < iL.length) (hx : (Kiii_at iL' 0).1 ≠ 1) (hn : 30000 < n) : circ_Right n ins G iL' lL' oL' = some (false, ()) ∨ lL'.length ≠ lL.length := by
  by_cases hll : lL'.length = lL.length
  · left
    have hr := h.r
    have i0 := hr.i0
    have i1 := hr.i1
    have hs := h.sum
    have h256 := h.l256
    unfold circ_Right
    rw [aigRight_f hr hn, bindS]
    simp only [Bool.not_true, cond_false, cond_dec]
    rw [if_neg (by omega), wrap_small (by omega) (by omega), if_neg (by omega)]
    have l1 : circ_Right_l1 n iL' (0, -1, 0, ()) = some (.inl (false, ())) := iter_up (F := circ_Right_l1b n iL') (fun j => ((j : Int), (-1 : Int), (0 : Int), ())) (.inl (false, ())) (len := 0) (m := n)
      (fun self j hj => absurd hj (Nat.not_lt_zero _))
      (fun self => by
        have e : IntKind.wrap .i64 (((0 : Nat) : Int) + 1) = 1 := by rw [succ64 (by omega)]; rfl
        unfold circ_Right_l1b
        simp only [cond_dec]
        rw [if_pos (by omega), ask_of (by omega), ask_of (by omega), ask_of (by omega), ask_of (by omega), e, if_pos (show (Kiii_at iL' ((0 : Nat) : Int)).1 ≠ 1 from hx)]) (by omega)
    rw [l1, bindS, Sum.elim_inl]
  · exact .inr hll
theorem no_lat (h : CircR ins G iL lL oL) {k : Nat} (hk : k < lL.length) (hl : lL'.length = lL.length) (same : ∀ j : Nat, j < k → Kiibii_at lL' (j : Int) = Kiibii_at lL (j : Int)) (hx : (Kiibii_at lL' (k : Int)).1 ≠ (iL.length : Int) + (k : Int) + 1 ∨ 0 ≤ (Kiibii_at lL' (k : Int)).2.1 ∧ ins + G.length < (Kiibii_at lL' (k : Int)).2.1 / 2) (hn : 30000 < n) : circ_Right n ins G iL lL' oL' = some (false, ()) := by
  have hr := h.r
  have i0 := hr.i0
  have i1 := hr.i1
  have hg := hr.len
  have hs := h.sum
  have h256 := h.l256
  obtain ⟨d, e1⟩ := l1_ok (n := n) h hn
  have e2 : circ_Right_l2 n ins G iL lL' oL' (0, -1, 0, ()) = some (.inl (false, ())) := by
    refine l2_pre h (k := k) (by omega) hl same (fun self => ?_) hn
    unfold circ_Right_l2b
    simp only [cond_dec]
    rw [if_pos (by omega), ask_of (by omega), wrap_small (x := (iL.length : Int) + (k : Int)) (by omega) (by omega), wrap_small (by omega) (by omega)]
    by_cases c : (Kiibii_at lL' (k : Int)).1 ≠ (iL.length : Int) + (k : Int) + 1
    · rw [if_pos c]
    · rw [if_neg c]
      obtain ⟨z0, z1⟩ := hx.resolve_left c
      have sh : shrI .i64 (Kiibii_at lL' (k : Int)).2.1 1 = (Kiibii_at lL' (k : Int)).2.1 / 2 := shr_p2 (by omega)
      unfold circ_Right_1
      simp only [cond_dec]
      rw [if_neg (by omega), ask_of (by omega), sh, show (KiLPiiELPiiiELPiibiiELPiiiE_at [(ins, G, iL, lL', oL')] 0) = (ins, G, iL, lL', oL') from rfl]
      simp only
      rw [wrap_small (by omega) (by omega), decide_eq_true z1, bindS]
      rfl
  unfold circ_Right
  rw [aigRight_f hr hn, bindS]
  simp only [Bool.not_true, cond_false, cond_dec]
  rw [if_neg (by omega), wrap_small (by omega) (by omega), if_neg (by omega), e1, bindS, Sum.elim_inr, e2, bindS, Sum.elim_inl]
theorem no_out (h : CircR ins G iL lL oL) (h0 : 0 < oL'.length) (hx : (Kiii_at oL' 0).1 < 8 ∨ 8 ≤ (Kiii_at oL' 0).1 ∧ (Kiii_at oL' 0).1 ≤ 10 ∧ 0 ≤ (Kiii_at oL' 0).2.2 ∧ (Kiii_at oL' 0).2.1 < 0) (hn : 30000 < n) : circ_Right n ins G iL lL oL' = some (false, ()) := by
  have hr := h.r
  have i0 := hr.i0
  have i1 := hr.i1
  have hs := h.sum
  have h256 := h.l256
  obtain ⟨d, e1⟩ := l1_ok (n := n) h hn
  have e2 : circ_Right_l2 n ins G iL lL oL' (0, -1, 0, ()) = some (.inr ()) := by
    refine l2_pre h (k := lL.length) (Nat.le_refl _) rfl (fun j hj => rfl) (fun self => ?_) hn
    unfold circ_Right_l2b
    simp only [cond_dec]
    rw [if_neg (by omega)]
  have e3 : circ_Right_l3 n ins G iL lL oL' (0, ()) = some (.inl (false, ())) := iter_up (F := circ_Right_l3b n ins G iL lL oL') (fun j => ((j : Int), ())) (.inl (false, ())) (len := 0) (m := n)
    (fun self j hj => absurd hj (Nat.not_lt_zero _))
    (fun self => by
      unfold circ_Right_l3b
      simp only [cond_dec]
      rw [if_pos (by omega), ask_of (by omega)]
      by_cases c : (Kiii_at oL' ((0 : Nat) : Int)).1 < 8
      · rw [if_pos c]
      · obtain ⟨z0, z1, z2, z3⟩ := hx.resolve_left c
        have z1 : ¬ 10 < (Kiii_at oL' ((0 : Nat) : Int)).1 := fun q => absurd z1 (Int.not_le.2 q)
        have z2 : ¬ (Kiii_at oL' ((0 : Nat) : Int)).2.2 < 0 := Int.not_lt.2 z2
        rw [if_neg c, if_neg z1, if_neg z2]
        unfold circ_Right_1
        simp only [cond_dec]
        rw [if_pos (show (Kiii_at oL' ((0 : Nat) : Int)).2.1 < 0 from z3), bindS]
        rfl) (by omega)
  unfold circ_Right
  rw [aigRight_f hr hn, bindS]
  simp only [Bool.not_true, cond_false, cond_dec]
  rw [if_neg (by omega), wrap_small (by omega) (by omega), if_neg (by omega), e1, bindS, Sum.elim_inr, e2, bindS, Sum.elim_inr, e3, bindS, Sum.elim_inl]
end
theorem mod8 {a : Int} {m : Nat} (ha : (Lit.int .u8 a).wf = true) (h0 : 0 < m) (hm : m < 1000000) : ∃ k : Nat, k < m ∧ Int.tmod (IntKind.wrap .i64 a) (m : Int) = (k : Int) := by
  obtain ⟨q0, q1⟩ := lit_u8 ha
  rw [w64 (by omega) (by omega), tmodn q0]
  have h1 := Int.emod_nonneg a (show (m : Int) ≠ 0 by omega)
  have h2 := Int.emod_lt_of_pos a (show (0 : Int) < m by omega)
  exact ⟨(a % m).toNat, by omega, by omega⟩
theorem odds15 {N I C P Q} {a c : Int} (ha : (Lit.int .u8 a).wf = true) (hc : (Lit.int .u8 c).wf = true) : law15_CircOdd big N I C P Q a c = some (true, ()) := by
  have hn : 30000 < big := by decide
  unfold law15_CircOdd
  rw [head15, bindS]
  obtain ⟨g, hg, hs⟩ := great_f (n := big) (N := N) (I := I) (C := C) (P := P) (Q := Q)
  rw [hg, bindS]
  cases g with
  | true => rfl
  | false =>
  have s := hs rfl
  obtain ⟨b1, hb1, hr⟩ := right_f s (n := big) (by omega)
  simp only [cond_false, hb1, bindS]
  cases b1 with
  | false => rfl
  | true =>
  have r := hr.1 rfl
  rw [weight15_f s r hn]
  simp only [Bool.not_true, cond_false, cond_dec, bindS]
  by_cases hw : (6000 : Int) < wts N N.length
  · rw [if_pos hw]
  rw [if_neg hw]
  obtain ⟨G, L, e1, hB, hL⟩ := rcompile_f s r (by omega) hn
  have hC := comp_right2 (B := fun x => KLi_at L x) r hB.1 (hB.ok hL)
  rw [e1, bindS]
  simp only
  generalize pinL N I I.length = iL at *
  generalize latL N C (fun x => KLi_at L x) iL.length C.length = lL at *
  generalize outL P (fun x => KLi_at L x) = oL at *
  generalize ((wl N (LLof I C) : Nat) : Int) = ins at *
  have hrr := hC.r
  have i0 := hrr.i0
  have i1 := hrr.i1
  have hg := hrr.len
  have hsum := hC.sum
  have h256 := hC.l256
  have h1000 := hC.o1000
  rw [ask_of (by simp; omega), ask_of (by simp; omega), ask_of (by simp; omega)]
  unfold law15_CircOdd_j1
  simp only [cond_dec]
  by_cases z1 : (lL.length : Int) = 0
  · simp only [if_pos z1, bindS, cond_true]
    rw [circR_f hC hn]
    rfl
  by_cases z2 : (iL.length : Int) = 0
  · simp only [if_neg z1, if_pos z2, bindS, cond_true]
    rw [circR_f hC hn]
    rfl
  by_cases z3 : (oL.length : Int) = 0
  · simp only [if_neg z1, if_neg z2, bindS, decide_eq_true z3, cond_true]
    rw [circR_f hC hn]
    rfl
  simp only [if_neg z1, if_neg z2, bindS, decide_eq_false z3, cond_false, cond_true]
  rw [ask_of z1]
  obtain ⟨k, hk, e⟩ := mod8 (m := lL.length) ha (by omega) (by omega)
  have fin : ∀ {ins' : Int} {G' : List Kii} {iL' oL' : List Kiii} {lL' : List Kiibii}, law15_CircOdd_j2 big (ins, G, iL, lL, oL, ()) a c = some (ins', G', lL', iL', oL', ()) → circ_Right big ins' G' iL' lL' oL' = some (false, ()) → (law15_CircOdd_j2 big (ins, G, iL, lL, oL, ()) a c).bind (fun d15 => (circ_Right big ins G iL lL oL).bind (fun r16 => cond r16.1 ((circ_Right big d15.1 d15.2.1 d15.2.2.2.1 d15.2.2.1 d15.2.2.2.2.1).bind (fun r17 => some (!r17.1, ()))) (some (false, ())))) = some (true, ()) := fun q1 q2 => by
    rw [q1, bindS, circR_f hC hn, bindS]
    simp only [cond_true]
    rw [q2, bindS]
    rfl
  obtain ⟨c0, c1⟩ := lit_u8 hc
  have hm0 := Int.emod_nonneg c (show (6 : Int) ≠ 0 by omega)
  have hm1 := Int.emod_lt_of_pos c (show (0 : Int) < 6 by omega)
  have at1 : ∀ (x : Kiibii) (j : Nat), Kiibii_at (lL.set k x) (j : Int) = if k = j then x else Kiibii_at lL (j : Int) := fun x j => at_set (t := Kiibii_) hk
  have hlk := hC.l k hk
  have pre : law15_CircOdd_j2 big (ins, G, iL, lL, oL, ()) a c = if c % 6 = 0 then some (ins, G, lL.set k ((Kiibii_at lL (k : Int)).1 + 1, (Kiibii_at lL (k : Int)).2.1, (Kiibii_at lL (k : Int)).2.2.1, (Kiibii_at lL (k : Int)).2.2.2.1, (Kiibii_at lL (k : Int)).2.2.2.2), iL, oL, ())
      else if c % 6 = 1 then some (ins, G, lL.set k ((Kiibii_at lL (k : Int)).1, 2 * (ins + G.length + 1), (Kiibii_at lL (k : Int)).2.2.1, (Kiibii_at lL (k : Int)).2.2.2.1, (Kiibii_at lL (k : Int)).2.2.2.2), iL, oL, ())
      else if c % 6 = 2 then some (ins, G, (lL.drop 1).take (lL.length - 1), iL, oL, ())
      else if c % 6 = 3 then some (ins, G, lL, iL.set 0 (0, (Kiii_at iL 0).2.1, (Kiii_at iL 0).2.2), oL, ())
      else if c % 6 = 4 then some (ins, G, lL, iL, oL.set 0 ((Kiii_at oL 0).1, -1, (Kiii_at oL 0).2.2), ())
      else some (ins, G, lL, iL, oL.set 0 (7, (Kiii_at oL 0).2.1, (Kiii_at oL 0).2.2), ()) := by
    unfold law15_CircOdd_j2
    simp only [cond_dec, List.nil_append, e, tmodn c0, Int.toNat_natCast]
    rw [ask_of (by omega), ask_of (by omega), ask_of (by omega), ask_of (by omega), ask_of (by omega), ask_of (by omega), ask_of (by omega), ask_of (by omega), ask_of (by omega), wrap_small (x := (Kiibii_at lL (k : Int)).1 + 1) (by omega) (by omega), wrap_small (x := ins + (G.length : Int)) (by omega) (by omega), wrap_small (x := ins + (G.length : Int) + 1) (by omega) (by omega), wrap_small (x := 2 * (ins + (G.length : Int) + 1)) (by omega) (by omega)]
    by_cases y5 : c % 6 = 5
    · simp [y5]
    · rw [if_neg y5]
      repeat' split
      all_goals first | rfl | omega
  by_cases y0 : c % 6 = 0
  · rw [if_pos y0] at pre
    refine fin pre (no_lat hC hk (by simp) (fun j hj => by rw [at1, if_neg (by omega)]) (.inl ?_) hn)
    rw [at1, if_pos rfl]
    simp only
    omega
  rw [if_neg y0] at pre
  by_cases y1 : c % 6 = 1
  · rw [if_pos y1] at pre
    refine fin pre (no_lat hC hk (by simp) (fun j hj => by rw [at1, if_neg (by omega)]) (.inr ?_) hn)
    rw [at1, if_pos rfl]
    simp only
    omega
  rw [if_neg y1] at pre
  by_cases y2 : c % 6 = 2
  · rw [if_pos y2] at pre
    exact fin pre (no_sum hC (by simp; omega) hn)
  rw [if_neg y2] at pre
  by_cases y3 : c % 6 = 3
  · rw [if_pos y3] at pre
    have hx : Kiii_at (iL.set 0 (0, (Kiii_at iL 0).2.1, (Kiii_at iL 0).2.2)) ((0 : Nat) : Int) = (0, (Kiii_at iL 0).2.1, (Kiii_at iL 0).2.2) := by
      rw [show Kiii_at (iL.set 0 (0, (Kiii_at iL 0).2.1, (Kiii_at iL 0).2.2)) ((0 : Nat) : Int) = _ from at_set (t := Kiii_) (by omega), if_pos rfl]
    refine fin pre ((no_ins hC (by simp) (by omega) ?_ hn).resolve_right fun q => q rfl)
    show (Kiii_at _ ((0 : Nat) : Int)).1 ≠ 1
    rw [hx]
    simp
  rw [if_neg y3] at pre
  have hl0 := hC.o 0 (by omega)
  by_cases y4 : c % 6 = 4
  · rw [if_pos y4] at pre
    have hx : Kiii_at (oL.set 0 ((Kiii_at oL 0).1, -1, (Kiii_at oL 0).2.2)) ((0 : Nat) : Int) = ((Kiii_at oL 0).1, -1, (Kiii_at oL 0).2.2) := by
      rw [show Kiii_at (oL.set 0 ((Kiii_at oL 0).1, -1, (Kiii_at oL 0).2.2)) ((0 : Nat) : Int) = _ from at_set (t := Kiii_) (by omega), if_pos rfl]
    refine fin pre (no_out hC (by simp; omega) (.inr ?_) hn)
    show 8 ≤ (Kiii_at _ ((0 : Nat) : Int)).1 ∧ (Kiii_at _ ((0 : Nat) : Int)).1 ≤ 10 ∧ 0 ≤ (Kiii_at _ ((0 : Nat) : Int)).2.2 ∧ (Kiii_at _ ((0 : Nat) : Int)).2.1 < 0
    rw [hx]
    exact ⟨hl0.1, hl0.2.1, hl0.2.2.1, by simp⟩
  rw [if_neg y4] at pre
  have hx : Kiii_at (oL.set 0 (7, (Kiii_at oL 0).2.1, (Kiii_at oL 0).2.2)) ((0 : Nat) : Int) = (7, (Kiii_at oL 0).2.1, (Kiii_at oL 0).2.2) := by
    rw [show Kiii_at (oL.set 0 (7, (Kiii_at oL 0).2.1, (Kiii_at oL 0).2.2)) ((0 : Nat) : Int) = _ from at_set (t := Kiii_) (by omega), if_pos rfl]
  refine fin pre (no_out hC (by simp; omega) (.inl ?_) hn)
  show (Kiii_at _ ((0 : Nat) : Int)).1 < 8
  rw [hx]
  simp
end Go.Proofs.Ytnjoiokbeknopaa.Am
namespace Go.Proofs.Ytnjoiokbeknopaa.Pure
open Go.Proofs.Ytnjoiokbeknopaa.Am
theorem CircOdd (d : law15_CircOdd_s.I) (h : BAs law15_CircOdd_s.ar d fun _ => True) : ∃ n, law15_CircOdd n d.1 d.2.1 d.2.2.1 d.2.2.2.1 d.2.2.2.2.1 d.2.2.2.2.2.1 d.2.2.2.2.2.2.1 = some (true, ()) := by
  obtain ⟨-, -, -, -, -, h2, h3, -⟩ := h
  exact ⟨big, odds15 h2 h3⟩
end Go.Proofs.Ytnjoiokbeknopaa.Pure
