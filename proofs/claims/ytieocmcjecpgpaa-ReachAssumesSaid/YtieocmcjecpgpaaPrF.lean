/- Small nets; what the program tells. -/
import Derived.Test.YtieocmcjecpgpaaPrE
namespace Go.Proofs.Ytieocmcjecpgpaa.Am
set_option linter.unusedVariables false
set_option linter.unusedSimpArgs false
/-- The widths of an op's nodes, in all. -/
def sw (N : List Nd) (op : Int) (i d : Nat) : Int := ((frm N op i d).map fun j => (Kiiiiiii_at N j).2.1).sum
def smB (N : List Nd) : Bool := if sw N 22 0 N.length ≤ 12 then decide (sw N 21 0 N.length ≤ 8) else false
def sumN (w : Nat → Nat) : Nat → Nat
  | 0 => 0
  | j + 1 => sumN w j + w j
theorem tot_pow (w : Nat → Nat) : ∀ j, tot w j = 2 ^ sumN w j
  | 0 => rfl
  | j + 1 => by rw [tot, sumN, tot_pow w j, Nat.pow_add]
section
variable {N : List Nd} {I : List Pn} {C : List Cl} {P : List Pw} {Q : List Pn} {n : Nat} {p : Int}
theorem wide_l (op : Int) (hN : ∀ j : Nat, j < N.length → NodeP N j) (hl : N.length ≤ 4000) : ∀ (d i m : Nat) (acc : Int), i + d = N.length → d < m → 0 ≤ acc → acc ≤ 16 * i → iter (reach_wide_l1b n N op) m (acc, (i : Int), ()) = some (acc + sw N op i d, ()) ∧ iter (ref12_wide_l1b n N op) m (acc, (i : Int), ()) = some (acc + sw N op i d, ()) := by
  intro d
  induction d with
  | zero =>
    intro i m acc hi hm h0 h1
    obtain ⟨m, rfl⟩ : ∃ k, m = k + 1 := ⟨m - 1, by omega⟩
    have z : sw N op i 0 = 0 := rfl
    have c : ¬ (i : Int) < (N.length : Int) := by omega
    rw [iter_s, iter_s, z, Int.add_zero]
    unfold reach_wide_l1b ref12_wide_l1b
    simp only [cond_dec, if_neg c]
    refine ⟨?_, ?_⟩ <;> first | rfl | trivial
  | succ d ih =>
    intro i m acc hi hm h0 h1
    obtain ⟨m, rfl⟩ : ∃ k, m = k + 1 := ⟨m - 1, by omega⟩
    have hn := hN i (by omega)
    have w1 := hn.w1
    have w16 := hn.w16
    rw [iter_s, iter_s]
    have e : sw N op i (d + 1) = if (Kiiiiiii_at N (i : Int)).1 = op then (Kiiiiiii_at N (i : Int)).2.1 + sw N op (i + 1) d else sw N op (i + 1) d := by
      unfold sw
      rw [frm]
      split <;> simp
    by_cases c : (Kiiiiiii_at N (i : Int)).1 = op
    · rw [if_pos c] at e
      have ih := ih (i + 1) m (acc + (Kiiiiiii_at N (i : Int)).2.1) (by omega) (by omega) (by omega) (by push_cast; omega)
      generalize iter (reach_wide_l1b n N op) m = self at ih ⊢
      generalize iter (ref12_wide_l1b n N op) m = self2 at ih ⊢
      unfold reach_wide_l1b ref12_wide_l1b
      simp only [cond_dec]
      have c1 : (i : Int) < (N.length : Int) := by omega
      have c2 : 0 ≤ (i : Int) ∧ (i : Int) < (N.length : Int) := by omega
      simp only [if_pos c1, if_pos c, ask_if, if_pos c2]
      rw [succ64 (by omega), w64 (n := acc + _) (by omega) (by omega), ih.1, ih.2, e, Int.add_assoc]
      exact ⟨rfl, rfl⟩
    · rw [if_neg c] at e
      have ih := ih (i + 1) m acc (by omega) (by omega) (by omega) (by push_cast; omega)
      generalize iter (reach_wide_l1b n N op) m = self at ih ⊢
      generalize iter (ref12_wide_l1b n N op) m = self2 at ih ⊢
      unfold reach_wide_l1b ref12_wide_l1b
      simp only [cond_dec]
      have c1 : (i : Int) < (N.length : Int) := by omega
      have c2 : 0 ≤ (i : Int) ∧ (i : Int) < (N.length : Int) := by omega
      simp only [if_pos c1, if_neg c, ask_if, if_pos c2]
      rw [succ64 (by omega), ih.1, ih.2, e]
      exact ⟨rfl, rfl⟩
theorem small_n (hN : ∀ j : Nat, j < N.length → NodeP N j) (hl : N.length ≤ 4000) (hn : 5000 < n) : reach_Small n N I C P Q = some (smB N, ()) ∧ ref12_Small n N I C P Q = some (smB N, ()) := by
  have w (op : Int) : reach_wide n N I C P Q op = some (sw N op 0 N.length, ()) ∧ ref12_wide n N I C P Q op = some (sw N op 0 N.length, ()) := by
    obtain ⟨h1, h2⟩ := wide_l (n := n) op hN hl N.length 0 n 0 (by omega) (by omega) (by omega) (by omega)
    unfold reach_wide ref12_wide reach_wide_l1 ref12_wide_l1
    rw [show iter (reach_wide_l1b n N op) n (0, 0, ()) = _ from h1, show iter (ref12_wide_l1b n N op) n (0, 0, ()) = _ from h2, Int.zero_add]
    exact ⟨rfl, rfl⟩
  unfold reach_Small ref12_Small smB
  rw [(w 22).1, (w 22).2, (w 21).1, (w 21).2]
  simp only [bindS, cond_dec]
  split <;> exact ⟨rfl, rfl⟩
theorem small_f (r : RightP N I C P Q) (hn : 5000 < n) : reach_Small n N I C P Q = some (smB N, ()) ∧ ref12_Small n N I C P Q = some (smB N, ()) := small_n r.nodes r.n hn
theorem sum_I (r : RightP N I C P Q) : ∀ j : Nat, j ≤ I.length → ((sumN (wI N I) j : Nat) : Int) = ((I.take j).map fun p => (Kiiiiiii_at N p.2).2.1).sum
  | 0, _ => by simp [sumN]
  | j + 1, h => by
    obtain ⟨m0, m1, -⟩ := pin_node r.ins (j := j) (by omega)
    have hw := node_at r.nodes m0 m1
    have w1 := hw.w1
    rw [show I.take (j + 1) = I.take j ++ [Ksi_at I (j : Int)] from take_snoc (t := Ksi_) (by omega), List.map_append, List.sum_append, ← sum_I r j (by omega), sumN]
    simp only [List.map_cons, List.map_nil, List.sum_cons, List.sum_nil, wI]
    omega
theorem sum_C (r : RightP N I C P Q) : ∀ j : Nat, j ≤ C.length → ((sumN (wC N C) j : Nat) : Int) = ((C.take j).map fun p => (Kiiiiiii_at N p.2.1).2.1).sum ∧ j ≤ sumN (wC N C) j
  | 0, _ => by simp [sumN]
  | j + 1, h => by
    obtain ⟨m0, m1, -⟩ := cell_node r.cells (j := j) (by omega)
    have hw := node_at r.nodes m0 m1
    have w1 := hw.w1
    have ih := sum_C r j (by omega)
    have e : wC N C j = (Kiiiiiii_at N (Ksiii_at C (j : Int)).2.1).2.1.toNat := rfl
    rw [show C.take (j + 1) = C.take j ++ [Ksiii_at C (j : Int)] from take_snoc (t := Ksiii_) (by omega), List.map_append, List.sum_append, ← ih.1, sumN]
    simp only [List.map_cons, List.map_nil, List.sum_cons, List.sum_nil]
    omega
theorem sm_of (r : RightP N I C P Q) (h : smB N = true) : Sm N I C := by
  unfold smB at h
  split at h <;> (try cases h)
  rename_i h22
  have h21 := of_decide_eq_true h
  have a := sum_I r I.length (Nat.le_refl _)
  have b := sum_C r C.length (Nat.le_refl _)
  rw [List.take_length] at a b
  have ea : (I.map fun p => (Kiiiiiii_at N p.2).2.1).sum = sw N 21 0 N.length := by
    unfold sw
    rw [← r.ins, List.map_map]
    rfl
  have eb : (C.map fun p => (Kiiiiiii_at N p.2.1).2.1).sum = sw N 22 0 N.length := by
    unfold sw
    rw [← r.cells, List.map_map]
    rfl
  rw [ea] at a
  rw [eb] at b
  refine ⟨?_, by omega, ?_⟩
  · rw [tot_pow]
    have : 2 ^ sumN (wI N I) I.length ≤ 2 ^ 8 := Nat.pow_le_pow_right (by omega) (by omega)
    exact this
  · rw [tot_pow]
    have : 2 ^ sumN (wC N C) C.length ≤ 2 ^ 12 := Nat.pow_le_pow_right (by omega) (by omega)
    exact this
/-- Is a property none that may be asked of? -/
def badP (P : List Pw) (p : Int) : Bool := if p < 0 then true else if (P.length : Int) ≤ p then true else decide ((Kisi_at P p).1 = 9)
noncomputable def tellV (N : List Nd) (I : List Pn) (C : List Cl) (P : List Pw) (p : Int) : Int × Int × Tr × Int :=
  match badP P p with
  | true => (0, 0, [], 1)
  | false => match smB N with
    | false => (0, 0, [], 2)
    | true => ((tellR N I (resN N I C P p)).1, (tellR N I (resN N I C P p)).2.1, (tellR N I (resN N I C P p)).2.2, 0)
noncomputable def manyV (N : List Nd) (I : List Pn) (C : List Cl) (P : List Pw) : Int × Int :=
  match smB N with
  | false => (0, 2)
  | true => (((resN N I C P (-1)).2.length : Int), 0)
theorem bad_f : reach_Tell_j1 n P p = some (badP P p, ()) := by
  unfold reach_Tell_j1 badP
  simp only [cond_dec]
  by_cases h1 : p < 0
  · rw [if_pos h1, if_pos h1]
  · rw [if_neg h1, if_neg h1]
    by_cases h2 : (P.length : Int) ≤ p
    · rw [if_pos h2, if_pos h2]
    · rw [if_neg h2, if_neg h2, ask_of (by omega)]
theorem badP_no (h : badP P p = false) : 0 ≤ p ∧ p < P.length ∧ (Kisi_at P p).1 ≠ 9 := by
  unfold badP at h
  split at h
  · cases h
  · split at h
    · cases h
    · exact ⟨by omega, by omega, of_decide_eq_false h⟩
theorem tell_f (s : Small N I C P Q) (r : RightP N I C P Q) (hn : 20000 < n) : reach_Tell n N I C P Q p = some ((tellV N I C P p).1, (tellV N I C P p).2.1, (tellV N I C P p).2.2.1, (tellV N I C P p).2.2.2, ()) := by
  unfold reach_Tell
  rw [bad_f, bindS]
  unfold tellV
  cases hb : badP P p with
  | true => rfl
  | false =>
    simp only [cond_false]
    rw [(small_f (n := n) r (by omega)).1, bindS]
    cases hs : smB N with
    | false => rfl
    | true =>
      have sm := sm_of r hs
      obtain ⟨q0, q1, -⟩ := badP_no hb
      obtain ⟨h1, h2⟩ := res_f (p := p) r sm
      obtain ⟨ll, met, hb, R⟩ := begin_f (n := n) s r sm.c (by omega)
      obtain ⟨ll', met', R', hl⟩ := tell_l (n := n) s r sm hn q1 5000 (i := 0) (m := n) h1 Inv.start R (by omega)
      simp only [Bool.not_true, cond_false]
      rw [hb, bindS]
      unfold reach_Tell_l2
      simp only
      rw [show iter (reach_Tell_l2b n N I C P Q p) n (0, 0, 0, N, I, C, P, Q, ll, met, ()) = _ from hl, bindS]
      generalize resN N I C P p = x at *
      obtain ⟨x1, l⟩ := x
      cases x1 with
      | some q => rfl
      | none =>
        have hinv : Inv (sysN N I C P p) l.length 0 l := h2
        have hl0 := (List.getElem?_eq_some_iff.1 hinv.z).1
        have hl4 : l.length ≤ 4096 := Nat.le_trans (inv_few r hinv) sm.s
        have R' : PRel N I C l ll' met' := R'
        have hll : ll'.length = l.length := R'.len
        obtain ⟨y, hy, -, y2, -⟩ := R'.el (l.length - 1) l[l.length - 1] (List.getElem?_eq_getElem (by omega))
        simp only [Sum.elim_inr]
        have ei : IntKind.wrap .i64 ((ll'.length : Int) - 1) = ((l.length - 1 : Nat) : Int) := by rw [w64 (by omega) (by omega)]; omega
        have hg : 0 ≤ ((l.length - 1 : Nat) : Int) ∧ ((l.length - 1 : Nat) : Int) < (ll'.length : Int) := by rw [hll]; omega
        rw [ei, ask_of hg]
        have ey : KLiiLii_at ll' ((l.length - 1 : Nat) : Int) = y := by
          unfold KLiiLii_at at_
          simp [List.getD_eq_getElem?_getD, hy]
        rw [ey, y2]
        simp only [tellR, List.getElem?_eq_getElem (show l.length - 1 < l.length by omega), Option.getD_some]
theorem many_f (s : Small N I C P Q) (r : RightP N I C P Q) (hn : 20000 < n) : reach_Many n N I C P Q = some ((manyV N I C P).1, (manyV N I C P).2, ()) ∧ (smB N = true → (resN N I C P (-1)).1 = none) := by
  unfold reach_Many
  rw [(small_f (n := n) r (by omega)).1, bindS]
  unfold manyV
  cases hs : smB N with
  | false => exact ⟨rfl, fun h => by cases h⟩
  | true =>
    have sm := sm_of r hs
    obtain ⟨h1, h2⟩ := res_f (p := -1) r sm
    obtain ⟨ll, met, hb, R⟩ := begin_f (n := n) s r sm.c (by omega)
    obtain ⟨ll', met', hx, R', hl⟩ := many_l (n := n) s r sm hn 5000 (i := 0) (m := n) h1 Inv.start R (by omega)
    simp only [Bool.not_true, cond_false]
    rw [hb, bindS]
    unfold reach_Many_l1
    simp only
    rw [show iter (reach_Many_l1b n) n (0, N, I, C, P, Q, ll, met, ()) = _ from hl, bindS]
    simp only
    rw [R'.len]
    exact ⟨rfl, fun _ => hx⟩
theorem great_l : ∀ (d i m : Nat) (acc : Int), i + d = N.length → d < m → N.length ≤ 4000 → ∃ v : Int, iter (law12_Great_l2b n N) m (acc, (i : Int), ()) = some (v, ()) := by
  intro d
  induction d with
  | zero =>
    intro i m acc hi hm hl
    obtain ⟨m, rfl⟩ : ∃ k, m = k + 1 := ⟨m - 1, by omega⟩
    rw [iter_s]
    unfold law12_Great_l2b
    simp only [cond_dec]
    rw [if_neg (by omega)]
    exact ⟨_, rfl⟩
  | succ d ih =>
    intro i m acc hi hm hl
    obtain ⟨m, rfl⟩ : ∃ k, m = k + 1 := ⟨m - 1, by omega⟩
    have ih := fun acc => ih (i + 1) m acc (by omega) (by omega) hl
    rw [iter_s]
    generalize iter (law12_Great_l2b n N) m = self at ih ⊢
    unfold law12_Great_l2b
    have j1 : law12_Great_j1 n (acc, (i : Int), ()) N = some (decide ((Kiiiiiii_at N (i : Int)).1 = 21 ∨ (Kiiiiiii_at N (i : Int)).1 = 22), ()) := by
      unfold law12_Great_j1
      simp only [cond_dec]
      rw [ask_of (by omega), ask_of (by omega)]
      by_cases c : (Kiiiiiii_at N (i : Int)).1 = 21
      · rw [if_pos c]; simp [c]
      · rw [if_neg c]; simp [c]
    simp only [cond_dec]
    rw [if_pos (by omega), j1, bindS]
    simp only [cond_dec]
    rw [succ64 (by omega), ask_of (by omega)]
    split
    · exact ih _
    · exact ih _
theorem great12_f (hn : 5000 < n) : ∃ b : Bool, law12_Great n N I C P Q = some (b, ()) ∧ (b = false → Small N I C P Q ∧ RightP N I C P Q ∧ N.length ≤ 60) := by
  obtain ⟨b1, h1, h2⟩ := great_f (n := n) (N := N) (I := I) (C := C) (P := P) (Q := Q)
  unfold law12_Great
  rw [h1, bindS]
  cases b1 with
  | true => exact ⟨true, rfl, fun h => by cases h⟩
  | false =>
    have s := h2 rfl
    obtain ⟨b2, h3, h4⟩ := right_f (n := n) s (by omega)
    simp only [cond_false]
    rw [h3, bindS]
    cases b2 with
    | false => exact ⟨true, rfl, fun h => by cases h⟩
    | true =>
      have r := h4.1 rfl
      simp only [Bool.not_true, cond_false, cond_dec]
      by_cases c : (60 : Int) < (N.length : Int)
      · rw [if_pos c]; exact ⟨true, rfl, fun h => by cases h⟩
      · rw [if_neg c]
        obtain ⟨v, hv⟩ := great_l (n := n) (N := N) N.length 0 n 0 (by omega) (by omega) r.n
        unfold law12_Great_l2
        rw [show iter (law12_Great_l2b n N) n (0, 0, ()) = _ from hv, bindS]
        simp only
        by_cases d : 11 < v
        · rw [if_pos d, (small_f (n := n) r (by omega)).2, bindS]
          exact ⟨_, rfl, fun _ => ⟨s, r, by omega⟩⟩
        · rw [if_neg d]
          exact ⟨_, rfl, fun _ => ⟨s, r, by omega⟩⟩
end
end Go.Proofs.Ytieocmcjecpgpaa.Am
