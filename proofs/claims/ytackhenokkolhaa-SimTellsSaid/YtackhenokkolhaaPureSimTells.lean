/- SimTells, in plain Lean. -/
import Derived.Test.YtackhenokkolhaaPlHit
import Derived.Test.YtackhenokkolhaaPlRef2
import Derived.Test.YtackhenokkolhaaAmY
namespace Go.Proofs.Ytackhenokkolhaa.Am
set_option linter.unusedVariables false
set_option linter.unusedSimpArgs false
section
variable {N : List Nd} {I : List Pn} {C : List Cl} {P : List Pw} {Q : List Pn} {t : Tr} {n : Nat}
theorem rrow_f {k : Nat} (s : Small N I C P Q) (r : RightP N I C P Q) (hn : 1000 < n) (hk : k < t.length) (hl : (KLi_at t (k : Int)).length = I.length) : (FitI N I (KLi_at t (k : Int)) ∧ ref11_Right_l1 n ((k : Int), ()) N I t (0, ()) = some (.inr ())) ∨ (¬ FitI N I (KLi_at t (k : Int)) ∧ ref11_Right_l1 n ((k : Int), ()) N I t (0, ()) = some (.inl (false, ()))) := by
  have s2 := s.i
  have l1 := iter_all (F := ref11_Right_l1b n ((k : Int), ()) N I t) (fun j => ((j : Int), ())) (fun j => Num_ (Kiiiiiii_at N (Ksi_at I (j : Int)).2).2.1 (Ki_at (KLi_at t (k : Int)) (j : Int))) (fun _ => (false, ())) () (len := I.length) (m := n)
    (fun self j hj hall hq => by
      obtain ⟨m0, m1, -⟩ := pin_node r.ins hj
      have hw := node_at r.nodes m0 m1
      have w1 := hw.w1
      have w16 := hw.w16
      have q0 := hq.1
      have q1 := hq.2
      unfold ref11_Right_l1b
      simp only [cond_dec]
      rw [if_pos (by omega), ask_of (by omega), ask_of (by omega), if_neg (by omega), ask_of (by omega), ask_of (by omega), rmask_f (by omega) (by omega), bindS, if_neg (by simp only; omega), succ64 (by omega)])
    (fun self j hj hall hq => by
      obtain ⟨m0, m1, -⟩ := pin_node r.ins hj
      have hw := node_at r.nodes m0 m1
      have w1 := hw.w1
      have w16 := hw.w16
      unfold ref11_Right_l1b
      simp only [cond_dec]
      rw [if_pos (by omega), ask_of (by omega), ask_of (by omega)]
      by_cases h : Ki_at (KLi_at t (k : Int)) (j : Int) < 0
      · rw [if_pos h]
      · have : ¬ Ki_at (KLi_at t (k : Int)) (j : Int) < P2 (Kiiiiiii_at N (Ksi_at I (j : Int)).2).2.1 := fun q => hq ⟨by omega, q⟩
        rw [if_neg h, ask_of (by omega), ask_of (by omega), rmask_f (by omega) (by omega), bindS, if_pos (by simp only; omega)])
    (fun _ self => by
      unfold ref11_Right_l1b
      simp only [cond_dec]
      rw [if_neg (by omega)]) (by omega)
  rcases l1 with ⟨h, e⟩ | ⟨j, hj, -, hq, e⟩
  · exact .inl ⟨⟨hl, h⟩, e⟩
  · exact .inr ⟨fun q => hq (q.2 j hj), e⟩
theorem rRight_f (s : Small N I C P Q) (r : RightP N I C P Q) (hn : 1000 < n) : ∃ b : Bool, ref11_Right n N I C P Q t = some (b, ()) ∧ (b = true ↔ RightT N I t) := by
  unfold ref11_Right
  simp only [cond_dec]
  by_cases h64 : (64 : Int) < (t.length : Int)
  · rw [if_pos h64]
    exact ⟨false, rfl, by simp; exact fun q => by have := q.1; omega⟩
  rw [if_neg h64]
  have l2 := iter_all (F := ref11_Right_l2b n N I t) (fun j => ((j : Int), ())) (fun j => FitI N I (KLi_at t (j : Int))) (fun _ => (false, ())) () (len := t.length) (m := n)
    (fun self j hj hall hk => by
      have h0 := hk.1
      unfold ref11_Right_l2b
      simp only [cond_dec]
      rw [if_pos (by omega), ask_of (by omega), if_neg (by omega)]
      rcases rrow_f (t := t) (k := j) s r hn hj h0 with ⟨-, e⟩ | ⟨q, -⟩
      · rw [e, bindS, succ64 (by omega)]; rfl
      · exact absurd hk q)
    (fun self j hj hall hk => by
      unfold ref11_Right_l2b
      simp only [cond_dec]
      rw [if_pos (by omega), ask_of (by omega)]
      by_cases h0 : (KLi_at t (j : Int)).length = I.length
      · rw [if_neg (by omega)]
        rcases rrow_f (t := t) (k := j) s r hn hj h0 with ⟨q, -⟩ | ⟨-, e⟩
        · exact absurd q hk
        · rw [e, bindS]; rfl
      · rw [if_pos (by omega)])
    (fun _ self => by
      unfold ref11_Right_l2b
      simp only [cond_dec]
      rw [if_neg (by omega)]) (by omega)
  unfold ref11_Right_l2
  rcases l2 with ⟨h, e⟩ | ⟨j, hj, -, hk, e⟩
  · rw [show iter (ref11_Right_l2b n N I t) n (0, ()) = _ from e, bindS, Sum.elim_inr]
    exact ⟨true, rfl, by simp; exact ⟨by omega, h⟩⟩
  · rw [show iter (ref11_Right_l2b n N I t) n (0, ()) = _ from e, bindS, Sum.elim_inl]
    exact ⟨false, rfl, by simp; exact fun q => hk (q.2 j hj)⟩
theorem rStates_f (s : Small N I C P Q) (r : RightP N I C P Q) (ft : FitT N I t) (hn : 1000 < n) : ref11_States n N I C P Q t = some ((List.range (t.length + 1)).map (sV N I C t), ()) := by
  have ft1 := ft.1
  have l1 := iter_up (F := ref11_States_l1b n N I C P Q t) (fun j => (sV N I C t j, (j : Int), (List.range (j + 1)).map (sV N I C t), ())) ((List.range (t.length + 1)).map (sV N I C t), ()) (len := t.length) (m := n)
    (fun self j hj => by
      unfold ref11_States_l1b
      simp only [cond_dec]
      rw [if_pos (by omega), ask_of (by omega), rafter_f s r (ft.2 j hj) (sV_fit r ft j (by omega)) hn, bindS, ask_of (by simp; omega), succ64 (by omega)]
      have := range_app (g := sV N I C t) (j := j + 1)
      rw [← this]
      rfl)
    (fun self => by
      unfold ref11_States_l1b
      simp only [cond_dec]
      rw [if_neg (by omega)]) (by omega)
  unfold ref11_States
  rw [rfirst_f s hn, bindS, show ref11_States_l1 n N I C P Q t (firstV C, 0, [firstV C], ()) = _ from l1]
  rfl
theorem rProps_f {v : List Int} (s : Small N I C P Q) (r : RightP N I C P Q) (hv : v.length = N.length) (hn : 1000 < n) : ref11_Props n N I C P Q v = some (bitsV P v, ()) := by
  have s4 := s.p
  have l1 := iter_up (F := ref11_Props_l1b n P v) (fun j => ((j : Int), (List.range j).map (fun j : Nat => decide (Ki_at v (Kisi_at P (j : Int)).2.2 = 1)), ())) (bitsV P v, ()) (len := P.length) (m := n)
    (fun self j hj => by
      obtain ⟨q0, q1, -⟩ := prop_node r hj
      unfold ref11_Props_l1b
      simp only [cond_dec]
      rw [if_pos (by omega), ask_of (by omega), ask_of (by omega), ask_of (by simp; omega), succ64 (by omega), range_app (g := fun j : Nat => decide (Ki_at v (Kisi_at P (j : Int)).2.2 = 1))])
    (fun self => by
      unfold ref11_Props_l1b
      simp only [cond_dec]
      rw [if_neg (by omega)]
      rfl) (by omega)
  unfold ref11_Props
  rw [show ref11_Props_l1 n P v (0, [], ()) = _ from l1]
  rfl
theorem rRun_f (s : Small N I C P Q) (r : RightP N I C P Q) (ft : FitT N I t) (hn : 1000 < n) : ref11_Run n N I C P Q t = some ((List.range t.length).map (fun k => bitsV P (vV N I C t k)), ()) := by
  have ft1 := ft.1
  have S : ∀ k : Nat, k ≤ t.length → KLi_at ((List.range (t.length + 1)).map (sV N I C t)) (k : Int) = sV N I C t k := fun k hk => at_range (t := KLi_) (by omega)
  have hSl : ((List.range (t.length + 1)).map (sV N I C t)).length = t.length + 1 := by simp
  unfold ref11_Run
  rw [rStates_f s r ft hn, bindS]
  generalize (List.range (t.length + 1)).map (sV N I C t) = X at *
  have l1 := iter_up (F := ref11_Run_l1b n (X, ()) N I C P Q t) (fun j => ((j : Int), (List.range j).map (fun k => bitsV P (vV N I C t k)), ())) ((List.range t.length).map (fun k => bitsV P (vV N I C t k)), ()) (len := t.length) (m := n)
    (fun self j hj => by
      unfold ref11_Run_l1b
      simp only [cond_dec]
      rw [if_pos (by omega), ask_of (by omega), ask_of (by omega), S j (by omega), reval_f s r (ft.2 j hj) (sV_fit r ft j (by omega)) hn, bindS, rProps_f s r (evalV_len _ _ _ _ _) hn, bindS, ask_of (by simp; omega), succ64 (by omega)]
      have := range_app (g := fun k => bitsV P (vV N I C t k)) (j := j)
      rw [← this]
      rfl)
    (fun self => by
      unfold ref11_Run_l1b
      simp only [cond_dec]
      rw [if_neg (by omega)]) (by omega)
  rw [show ref11_Run_l1 n (X, ()) N I C P Q t (0, [], ()) = _ from l1]
  rfl
theorem rLegal_f {v : List Int} (s : Small N I C P Q) (r : RightP N I C P Q) (hv : Nums N v) (hn : 1000 < n) : ref11_Legal n N I C P Q (bitsV P v) = some (legalB P v, ()) := by
  have s4 := s.p
  have bl := bitsV_len (P := P) (v := v)
  have l1 := iter_all (F := ref11_Legal_l1b n P (bitsV P v)) (fun j => ((j : Int), ())) (fun j => (Kisi_at P (j : Int)).1 = 9 → Ki_at v (Kisi_at P (j : Int)).2.2 = 1) (fun _ => (false, ())) () (len := P.length) (m := n)
    (fun self j hj hall hk => by
      unfold ref11_Legal_l1b
      simp only [cond_dec, bitsV_at hj]
      rw [if_pos (by omega), ask_of (by omega), succ64 (by omega)]
      by_cases e : (Kisi_at P (j : Int)).1 = 9
      · rw [if_pos e, ask_of (by omega)]
        simp [hk e]
      · rw [if_neg e])
    (fun self j hj hall hk => by
      simp only [Classical.not_imp] at hk
      unfold ref11_Legal_l1b
      simp only [cond_dec, bitsV_at hj]
      rw [if_pos (by omega), ask_of (by omega), if_pos hk.1, ask_of (by omega)]
      simp [hk.2])
    (fun _ self => by
      unfold ref11_Legal_l1b
      simp only [cond_dec]
      rw [if_neg (by omega)]) (by omega)
  unfold ref11_Legal ref11_Legal_l1
  rcases l1 with ⟨h, e⟩ | ⟨j, hj, -, hk, e⟩
  · rw [show iter (ref11_Legal_l1b n P (bitsV P v)) n (0, ()) = _ from e, legalB_iff.2 fun j hj q q0 => by have := h j hj q; omega]
    rfl
  · rw [show iter (ref11_Legal_l1b n P (bitsV P v)) n (0, ()) = _ from e, legalB_no.2 fun q => hk fun h9 => by
      rcases prop_bit r hv hj with z | z
      · exact absurd z (q j hj h9)
      · exact z]
    rfl
theorem rHits_f {v : List Int} {p : Nat} (r : RightP N I C P Q) (hp : p < P.length) : ref11_Hits n N I C P Q (p : Int) (bitsV P v) = some (decide ((Kisi_at P (p : Int)).1 ≠ 9) && hitB P p v, ()) := by
  have bl := bitsV_len (P := P) (v := v)
  have k1 := (r.prop p hp).1
  have k2 := (r.prop p hp).2.1
  unfold ref11_Hits hitB
  simp only [cond_dec, bitsV_at hp]
  rw [ask_of (by omega)]
  by_cases h8 : (Kisi_at P (p : Int)).1 = 8
  · rw [if_pos h8, ask_of (by omega), h8]
    cases decide (Ki_at v (Kisi_at P (p : Int)).2.2 = 1) <;> simp
  · rw [if_neg h8, ask_of (by omega)]
    by_cases h10 : (Kisi_at P (p : Int)).1 = 10
    · rw [if_pos h10, ask_of (by omega), h10]
      cases decide (Ki_at v (Kisi_at P (p : Int)).2.2 = 1) <;> simp
    · rw [if_neg h10]
      have : (Kisi_at P (p : Int)).1 = 9 := by omega
      simp [this]
theorem rHit_f {p : Nat} (s : Small N I C P Q) (r : RightP N I C P Q) (ft : FitT N I t) (hn : 1000 < n) (hp : p < P.length) : ref11_Hit n N I C P Q (p : Int) t = some ((hitV N I C P t p).1, (hitV N I C P t p).2, ()) := by
  have ft1 := ft.1
  have Y1 : ((List.range t.length).map fun k => bitsV P (vV N I C t k)).length = t.length := by simp
  have B : ∀ k : Nat, k < t.length → KLb_at ((List.range t.length).map fun k => bitsV P (vV N I C t k)) (k : Int) = bitsV P (vV N I C t k) := fun k hk => at_range (t := KLb_) hk
  unfold ref11_Hit
  simp only [cond_dec]
  rw [if_neg (by omega), if_neg (by omega), rRun_f s r ft hn, bindS]
  generalize ((List.range t.length).map fun k => bitsV P (vV N I C t k)) = Y at *
  let H : Nat → Bool := fun k => decide ((Kisi_at P (p : Int)).1 ≠ 9) && hitB P p (vV N I C t k)
  have key : ∀ (d k m : Nat), k + d = t.length → d < m → ∃ x, iter (ref11_Hit_l1b n (Y, ()) N I C P Q (p : Int)) m ((k : Int), ()) = some x ∧ ((∃ y b, x = .inl (y, b, ()) ∧ hitS (fun k => legalB P (vV N I C t k)) H d k = (y, b)) ∨ (x = .inr () ∧ hitS (fun k => legalB P (vV N I C t k)) H d k = (0, false))) := by
    intro d
    induction d with
    | zero =>
      intro k m hk hm
      obtain ⟨m, rfl⟩ : ∃ k, m = k + 1 := ⟨m - 1, by omega⟩
      rw [iter_s]
      unfold ref11_Hit_l1b
      simp only [cond_dec]
      rw [if_neg (by omega)]
      exact ⟨_, rfl, .inr ⟨rfl, rfl⟩⟩
    | succ d ih =>
      intro k m hk hm
      obtain ⟨m, rfl⟩ : ∃ k, m = k + 1 := ⟨m - 1, by omega⟩
      have ih' := ih (k + 1) m (by omega) (by omega)
      rw [iter_s]
      generalize iter (ref11_Hit_l1b n (Y, ()) N I C P Q (p : Int)) m = self at ih' ⊢
      unfold ref11_Hit_l1b
      simp only [cond_dec]
      rw [if_pos (by omega), ask_of (by omega), B k (by omega), rLegal_f s r (vV_nums r ft (by omega)) hn, bindS]
      unfold hitS
      cases hL : legalB P (vV N I C t k) with
      | false => exact ⟨_, rfl, .inl ⟨_, _, rfl, rfl⟩⟩
      | true =>
        simp only [Bool.not_true, cond_false]
        rw [ask_of (by omega), rHits_f r hp, bindS]
        have eH : (decide ((Kisi_at P (p : Int)).1 ≠ 9) && hitB P p (vV N I C t k)) = H k := rfl
        rw [eH]
        cases hH : H k with
        | true => exact ⟨_, rfl, .inl ⟨_, _, rfl, rfl⟩⟩
        | false =>
          simp only [cond_false, succ64 (show k < 4611686018427387904 by omega)]
          exact ih'
  have eq : hitS (fun k => legalB P (vV N I C t k)) H t.length 0 = hitV N I C P t p := by
    unfold hitV
    by_cases h9 : (Kisi_at P (p : Int)).1 = 9
    · rw [if_pos h9]
      exact hitS_no fun j _ _ _ => by show (decide ((Kisi_at P (p : Int)).1 ≠ 9) && _) = false; simp [h9]
    · rw [if_neg h9]
      exact hitS_congr _ _ fun j _ _ => ⟨rfl, by show (decide ((Kisi_at P (p : Int)).1 ≠ 9) && _) = _; simp [h9]⟩
  obtain ⟨x, hx, hc⟩ := key t.length 0 n (by omega) (by omega)
  rw [show ref11_Hit_l1 n (Y, ()) N I C P Q (p : Int) (0, ()) = some x from hx, bindS, ← eq]
  rcases hc with ⟨y, b, rfl, e⟩ | ⟨rfl, e⟩
  · rw [e]; rfl
  · rw [e]; rfl
theorem out_f {p : Int} (h : p < 0 ∨ P.length ≤ p) : sim_Hit n N I C P Q p t = some (0, false, ()) ∧ ref11_Hit n N I C P Q p t = some (0, false, ()) := by
  unfold sim_Hit ref11_Hit
  simp only [cond_dec]
  by_cases h0 : p < 0
  · rw [if_pos h0, if_pos h0]; exact ⟨rfl, rfl⟩
  · rw [if_neg h0, if_neg h0, if_pos (by omega), if_pos (by omega)]; exact ⟨rfl, rfl⟩
end
theorem tells {N I C P Q} {rows l : Tr} {p : Int} (hl : U16r l) : law11_SimTells big N I C P Q rows l p = some (true, ()) := by
  have hn : 1000 < big := by decide
  unfold law11_SimTells
  rw [head11, bindS]
  obtain ⟨g, hg, hs⟩ := great_f (n := big) (N := N) (I := I) (C := C) (P := P) (Q := Q)
  rw [hg, bindS]
  cases g with
  | true => rfl
  | false =>
  have s := hs rfl
  have s3 := s.c
  have s4 := s.p
  obtain ⟨b, hb_, hr⟩ := right_f s hn
  simp only [cond_false, hb_, bindS]
  cases b with
  | false => rfl
  | true =>
  have r := hr.1 rfl
  simp only [Bool.not_true, cond_false, cond_dec]
  by_cases h100 : (100 : Int) < (rows.length : Int)
  · rw [if_pos h100]
  rw [if_neg h100]
  obtain ⟨b1, hb1, hf1⟩ := simRight_f (t := rows) s r (by omega) hn
  obtain ⟨b2, hb2, hf2⟩ := rRight_f (t := rows) s r hn
  have hb12 : b1 = b2 := by
    cases b1 <;> cases b2 <;> simp at hf1 hf2 ⊢
    · exact absurd hf2 hf1
    · exact absurd hf1 hf2
  subst hb12
  rw [hb1, bindS, hb2]
  simp only [bindS, bne_self_eq_false, cond_false]
  rw [trace_f s r hn, bindS]
  have fl := trace_fit r hl
  obtain ⟨t, ht, ft⟩ : ∃ t, (cond b1 (some (rows, ())) (some (traceV N I l, ())) : Option (Tr × Unit)) = some (t, ()) ∧ FitT N I t := by
    cases b1 with
    | true => exact ⟨rows, rfl, (hf1.1 rfl).fit⟩
    | false => exact ⟨_, rfl, fl⟩
  rw [ht]
  simp only [bindS]
  have ft1 := ft.1
  obtain ⟨y, z, h1, h2⟩ : ∃ y z, sim_Hit big N I C P Q p t = some (y, z, ()) ∧ ref11_Hit big N I C P Q p t = some (y, z, ()) := by
    by_cases h : p < 0 ∨ P.length ≤ p
    · exact ⟨_, _, (out_f h).1, (out_f h).2⟩
    · obtain ⟨q, rfl⟩ := Int.eq_ofNat_of_zero_le (a := p) (by omega)
      exact ⟨_, _, simHit_f s r ft hn (by omega), rHit_f s r ft hn (by omega)⟩
  rw [h1, bindS, h2]
  simp only [bindS, cond_true]
  rw [states_f s r ft hn, bindS, rStates_f s r ft hn]
  simp only [bindS]
  rw [sameRows_f (by simp; omega) (fun j hj => by
    rw [show KLi_at ((List.range (t.length + 1)).map (sV N I C t)) (j : Int) = sV N I C t j from at_range (t := KLi_) (by simpa using hj), sV_len]
    omega) hn]
  simp only [bindS, cond_true]
  rw [run_f s r ft hn, bindS, rRun_f s r ft hn]
  simp only [bindS]
  rw [sameBits_f (by simp; omega) (fun j hj => by
    rw [show KLb_at ((List.range t.length).map (fun k => bitsV P (vV N I C t k))) (j : Int) = bitsV P (vV N I C t j) from at_range (t := KLb_) (by simpa using hj), bitsV_len]
    omega) hn]
  simp
end Go.Proofs.Ytackhenokkolhaa.Am
namespace Go.Proofs.Ytackhenokkolhaa.Pure
open Go.Proofs.Ytackhenokkolhaa.Am
theorem SimTells (d : law11_SimTells_s.I) (h : BAs law11_SimTells_s.ar d fun _ => True) : ∃ n, law11_SimTells n d.1 d.2.1 d.2.2.1 d.2.2.2.1 d.2.2.2.2.1 d.2.2.2.2.2.1 d.2.2.2.2.2.2.1 d.2.2.2.2.2.2.2.1 = some (true, ()) := by
  obtain ⟨-, -, -, -, -, -, h2, -⟩ := h
  exact ⟨big, tells (fun x hx => (h2.2 x hx).2)⟩
end Go.Proofs.Ytackhenokkolhaa.Pure
