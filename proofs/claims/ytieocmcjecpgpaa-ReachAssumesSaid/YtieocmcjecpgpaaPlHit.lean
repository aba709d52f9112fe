/- Where a property is hit. -/
import Derived.Test.YtieocmcjecpgpaaPlSim3
namespace Go.Proofs.Ytieocmcjecpgpaa.Am
set_option linter.unusedVariables false
set_option linter.unusedSimpArgs false
def LegalP (P : List Pw) (v : List Int) : Prop := ∀ j : Nat, j < P.length → (Kisi_at P (j : Int)).1 = 9 → Ki_at v (Kisi_at P (j : Int)).2.2 ≠ 0
noncomputable def legalB (P : List Pw) (v : List Int) : Bool := @decide (LegalP P v) (Classical.propDecidable _)
theorem legalB_iff {P : List Pw} {v : List Int} : legalB P v = true ↔ LegalP P v := by unfold legalB; exact @decide_eq_true_iff _ (Classical.propDecidable _)
theorem legalB_no {P : List Pw} {v : List Int} : legalB P v = false ↔ ¬ LegalP P v := by unfold legalB; exact @decide_eq_false_iff_not _ (Classical.propDecidable _)
def hitB (P : List Pw) (p : Nat) (v : List Int) : Bool := decide (Ki_at v (Kisi_at P (p : Int)).2.2 = 1) == decide ((Kisi_at P (p : Int)).1 = 10)
/-- The first so many cycles, from one on. -/
def hitS (L H : Nat → Bool) : Nat → Nat → Int × Bool
  | 0, _ => (0, false)
  | d + 1, k => match L k, H k with | false, _ => (0, false) | true, true => ((k : Int), true) | true, false => hitS L H d (k + 1)
theorem hitS_spec {L H : Nat → Bool} : ∀ (d k : Nat), (∃ j, k ≤ j ∧ j < k + d ∧ L j = true ∧ H j = true ∧ (∀ i, k ≤ i → i < j → L i = true ∧ H i = false) ∧ hitS L H d k = ((j : Int), true)) ∨ (hitS L H d k = (0, false) ∧ ∀ j, k ≤ j → j < k + d → (∀ i, k ≤ i → i < j → L i = true ∧ H i = false) → L j = true → H j = false)
  | 0, k => .inr ⟨rfl, fun j h1 h2 => by omega⟩
  | d + 1, k => by
    unfold hitS
    cases hL : L k with
    | false =>
      refine .inr ⟨rfl, fun j h1 h2 h3 h4 => ?_⟩
      by_cases e : k = j
      · subst e; rw [hL] at h4; cases h4
      · have := (h3 k (Nat.le_refl _) (by omega)).1
        rw [hL] at this; cases this
    | true =>
      cases hH : H k with
      | true => exact .inl ⟨k, Nat.le_refl _, by omega, hL, hH, fun i h1 h2 => by omega, rfl⟩
      | false =>
        rcases hitS_spec (L := L) (H := H) d (k + 1) with ⟨j, h1, h2, h3, h4, h5, h6⟩ | ⟨h1, h2⟩
        · refine .inl ⟨j, by omega, by omega, h3, h4, fun i q1 q2 => ?_, h6⟩
          by_cases e : i = k
          · subst e; exact ⟨hL, hH⟩
          · exact h5 i (by omega) q2
        · refine .inr ⟨h1, fun j q1 q2 q3 q4 => ?_⟩
          by_cases e : j = k
          · subst e; exact hH
          · exact h2 j (by omega) (by omega) (fun i z1 z2 => q3 i (by omega) z2) q4
theorem hitS_congr {L H L' H' : Nat → Bool} : ∀ (d k : Nat), (∀ j, k ≤ j → j < k + d → L j = L' j ∧ H j = H' j) → hitS L H d k = hitS L' H' d k
  | 0, _, _ => rfl
  | d + 1, k, h => by
    unfold hitS
    obtain ⟨h1, h2⟩ := h k (Nat.le_refl _) (by omega)
    rw [h1, h2, hitS_congr d (k + 1) fun j q1 q2 => h j (by omega) (by omega)]
/-- It is where it is. -/
theorem hitS_at {L H : Nat → Bool} {d j : Nat} (hj : j < d) (h1 : ∀ i, i < j → L i = true ∧ H i = false) (h2 : L j = true) (h3 : H j = true) : hitS L H d 0 = ((j : Int), true) := by
  rcases hitS_spec (L := L) (H := H) d 0 with ⟨i, -, q2, q3, q4, q5, q6⟩ | ⟨-, q⟩
  · rcases Nat.lt_trichotomy i j with e | e | e
    · have := (h1 i e).2; rw [q4] at this; cases this
    · subst e; exact q6
    · have := (q5 j (by omega) e).2; rw [h3] at this; cases this
  · have := q j (by omega) (by omega) (fun i _ hi => h1 i hi) h2
    rw [h3] at this; cases this
theorem hitS_no {L H : Nat → Bool} {d : Nat} (h : ∀ j, j < d → (∀ i, i < j → L i = true ∧ H i = false) → L j = true → H j = false) : hitS L H d 0 = (0, false) := by
  rcases hitS_spec (L := L) (H := H) d 0 with ⟨i, -, q2, q3, q4, q5, q6⟩ | ⟨q, -⟩
  · have := h i (by omega) (fun i z => q5 i (by omega) z) q3
    rw [q4] at this; cases this
  · exact q
section
variable {N : List Nd} {I : List Pn} {C : List Cl} {P : List Pw} {Q : List Pn} {t : Tr}
theorem legal_f {n : Nat} {v : List Int} (s : Small N I C P Q) (r : RightP N I C P Q) (hv : v.length = N.length) (hn : 1000 < n) : sim_Hit_y_l1 n v P (0, ()) = some (match legalB P v with | true => .inr () | false => .inl ()) := by
  have s4 := s.p
  have l1 := iter_all (F := sim_Hit_y_l1b n v P) (fun j => ((j : Int), ())) (fun j => (Kisi_at P (j : Int)).1 = 9 → Ki_at v (Kisi_at P (j : Int)).2.2 ≠ 0) (fun _ => ()) () (len := P.length) (m := n)
    (fun self j hj hall hk => by
      obtain ⟨q0, q1, -⟩ := prop_node r hj
      unfold sim_Hit_y_l1b
      simp only [cond_dec]
      rw [if_pos (by omega), ask_of (by omega), succ64 (by omega)]
      by_cases e : (Kisi_at P (j : Int)).1 = 9
      · rw [if_pos e, ask_of (by omega), if_neg (hk e)]
      · rw [if_neg e])
    (fun self j hj hall hk => by
      obtain ⟨q0, q1, -⟩ := prop_node r hj
      simp only [Classical.not_imp, Classical.not_not, ne_eq] at hk
      unfold sim_Hit_y_l1b
      simp only [cond_dec]
      rw [if_pos (by omega), ask_of (by omega), if_pos hk.1, ask_of (by omega), if_pos hk.2])
    (fun _ self => by
      unfold sim_Hit_y_l1b
      simp only [cond_dec]
      rw [if_neg (by omega)]) (by omega)
  rcases l1 with ⟨h, e⟩ | ⟨j, hj, -, hk, e⟩
  · rw [legalB_iff.2 h]
    exact e
  · rw [legalB_no.2 fun q => hk (q j hj)]
    exact e
theorem hit_f {n : Nat} {p : Nat} (s : Small N I C P Q) (r : RightP N I C P Q) (ft : FitT N I t) (hn : 1000 < n) (hp : p < P.length) (h9 : (Kisi_at P (p : Int)).1 ≠ 9) : sim_Hit n N I C P Q (p : Int) t = some ((hitS (fun k => legalB P (vV N I C t k)) (fun k => hitB P p (vV N I C t k)) t.length 0).1, (hitS (fun k => legalB P (vV N I C t k)) (fun k => hitB P p (vV N I C t k)) t.length 0).2, ()) := by
  have ft1 := ft.1
  obtain ⟨q0, q1, -⟩ := prop_node r hp
  unfold sim_Hit sim_cycles sim_cycles_1__sim_Hit_o sim_cycles_1__sim_Hit_o_l1
  simp only [cond_dec]
  rw [if_neg (by omega), if_neg (by omega), ask_of (by omega), if_neg h9, ask_of (by omega)]
  simp only [first_f s hn, bindS]
  generalize hL : (fun k => legalB P (vV N I C t k)) = L
  generalize hH : (fun k => hitB P p (vV N I C t k)) = H
  have key : ∀ (d k m : Nat), k + d = t.length → d < m → ∃ x, iter (sim_cycles_1__sim_Hit_o_l1b n N I C P Q t) m (sV N I C t k, (k : Int), 0, N, I, C, P, Q, (p : Int), 0, false, decide ((Kisi_at P (p : Int)).1 = 10), (k : Int), ()) = some x ∧
      (x = .inl (2, N, I, C, P, Q, (p : Int), 0, false, decide ((Kisi_at P (p : Int)).1 = 10), 0, ()) ∨ True) ∧ ((∃ z : Int, x = .inl (2, N, I, C, P, Q, (p : Int), 0, false, decide ((Kisi_at P (p : Int)).1 = 10), z, ()) ∧ hitS L H d k = (0, false)) ∨ (∃ z y : Int, x = .inl (1, N, I, C, P, Q, (p : Int), y, true, decide ((Kisi_at P (p : Int)).1 = 10), z, ()) ∧ hitS L H d k = (y, true)) ∨ (∃ z : Int, x = .inr (0, N, I, C, P, Q, (p : Int), 0, false, decide ((Kisi_at P (p : Int)).1 = 10), z, ()) ∧ hitS L H d k = (0, false))) := by
    intro d
    induction d with
    | zero =>
      intro k m hk hm
      obtain ⟨m, rfl⟩ : ∃ k, m = k + 1 := ⟨m - 1, by omega⟩
      rw [iter_s]
      unfold sim_cycles_1__sim_Hit_o_l1b
      simp only [cond_dec]
      rw [if_neg (by omega)]
      exact ⟨_, rfl, .inr trivial, .inr (.inr ⟨_, rfl, rfl⟩)⟩
    | succ d ih =>
      intro k m hk hm
      obtain ⟨m, rfl⟩ : ∃ k, m = k + 1 := ⟨m - 1, by omega⟩
      have ih' := ih (k + 1) m (by omega) (by omega)
      rw [iter_s]
      generalize iter (sim_cycles_1__sim_Hit_o_l1b n N I C P Q t) m = self at ih' ⊢
      have hvl := vV_len (N := N) (I := I) (C := C) (t := t) (k := k)
      unfold sim_cycles_1__sim_Hit_o_l1b sim_Hit_y
      simp only [cond_dec]
      rw [if_pos (by omega), ask_of (by omega), eval_f s r (ft.2 k (by omega)) (sV_fit r ft k (by omega)) hn, bindS, ask_of trivial]
      have e1 : evalV N I C (sV N I C t k) (KLi_at t (k : Int)) = vV N I C t k := rfl
      have eL : L k = legalB P (vV N I C t k) := by rw [← hL]
      have eH : H k = hitB P p (vV N I C t k) := by rw [← hH]
      simp only [e1]
      rw [legal_f s r hvl hn, ← eL]
      unfold hitS
      cases hLk : L k with
      | false => exact ⟨_, rfl, .inr trivial, .inl ⟨_, rfl, rfl⟩⟩
      | true =>
        simp only [bindS, Sum.elim_inr]
        rw [ask_of (by omega), ask_of (by omega)]
        have e2 : (decide (Ki_at (vV N I C t k) (Kisi_at P (p : Int)).2.2 = 1) == decide ((Kisi_at P (p : Int)).1 = 10)) = H k := by rw [eH]; rfl
        rw [e2]
        cases hHk : H k with
        | true => exact ⟨_, rfl, .inr trivial, .inr (.inl ⟨_, _, rfl, rfl⟩)⟩
        | false =>
          simp only [cond_false, bindS, Bool.not_true]
          rw [show net_After n N I C P Q (sV N I C t k) (KLi_at t (k : Int)) = _ from after_f s r (ft.2 k (by omega)) (sV_fit r ft k (by omega)) hn, bindS]
          simp only [succ64 (show k < 4611686018427387904 by omega)]
          exact ih'
  obtain ⟨x, hx, -, hc⟩ := key t.length 0 n (by omega) (by omega)
  rw [show iter (sim_cycles_1__sim_Hit_o_l1b n N I C P Q t) n (firstV C, 0, 0, N, I, C, P, Q, (p : Int), 0, false, decide ((Kisi_at P (p : Int)).1 = 10), 0, ()) = some x from hx]
  rcases hc with ⟨z, rfl, e⟩ | ⟨z, y, rfl, e⟩ | ⟨z, rfl, e⟩
  · rw [e]; rfl
  · rw [e]; rfl
  · rw [e]; rfl
theorem hit9_f {n : Nat} {p : Nat} (hp : p < P.length) (h9 : (Kisi_at P (p : Int)).1 = 9) : sim_Hit n N I C P Q (p : Int) t = some (0, false, ()) := by
  unfold sim_Hit
  simp only [cond_dec]
  rw [if_neg (by omega), if_neg (by omega), ask_of (by omega), if_pos h9]
/-- What Hit tells. -/
noncomputable def hitV (N : List Nd) (I : List Pn) (C : List Cl) (P : List Pw) (t : Tr) (p : Nat) : Int × Bool := if (Kisi_at P (p : Int)).1 = 9 then (0, false) else hitS (fun k => legalB P (vV N I C t k)) (fun k => hitB P p (vV N I C t k)) t.length 0
theorem simHit_f {n : Nat} {p : Nat} (s : Small N I C P Q) (r : RightP N I C P Q) (ft : FitT N I t) (hn : 1000 < n) (hp : p < P.length) : sim_Hit n N I C P Q (p : Int) t = some ((hitV N I C P t p).1, (hitV N I C P t p).2, ()) := by
  unfold hitV
  by_cases h : (Kisi_at P (p : Int)).1 = 9
  · rw [if_pos h, hit9_f hp h]
  · rw [if_neg h, hit_f s r ft hn hp h]
end
end Go.Proofs.Ytieocmcjecpgpaa.Am
