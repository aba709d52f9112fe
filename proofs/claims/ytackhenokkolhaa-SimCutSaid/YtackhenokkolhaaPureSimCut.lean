/- SimCut, in plain Lean. -/
import Derived.Test.YtackhenokkolhaaPlHit
import Derived.Test.YtackhenokkolhaaAmY
namespace Go.Proofs.Ytackhenokkolhaa.Am
set_option linter.unusedVariables false
set_option linter.unusedSimpArgs false
section
variable {N : List Nd} {I : List Pn} {C : List Cl} {P : List Pw} {Q : List Pn} {t u : Tr} {p : Nat}
theorem hitV_cases : (∃ j, j < t.length ∧ (Kisi_at P (p : Int)).1 ≠ 9 ∧ (∀ i, i < j → legalB P (vV N I C t i) = true ∧ hitB P p (vV N I C t i) = false) ∧ legalB P (vV N I C t j) = true ∧ hitB P p (vV N I C t j) = true ∧ hitV N I C P t p = ((j : Int), true)) ∨ hitV N I C P t p = (0, false) := by
  unfold hitV
  by_cases h9 : (Kisi_at P (p : Int)).1 = 9
  · rw [if_pos h9]; exact .inr rfl
  · rw [if_neg h9]
    rcases hitS_spec (L := fun k => legalB P (vV N I C t k)) (H := fun k => hitB P p (vV N I C t k)) t.length 0 with ⟨j, -, h2, h3, h4, h5, h6⟩ | ⟨h, -⟩
    · exact .inl ⟨j, by omega, h9, fun i hi => h5 i (by omega) hi, h3, h4, h6⟩
    · exact .inr h
/-- A trace that begins alike has the same hit. -/
theorem hitV_same {j : Nat} (h9 : (Kisi_at P (p : Int)).1 ≠ 9) (h1 : ∀ i, i < j → legalB P (vV N I C t i) = true ∧ hitB P p (vV N I C t i) = false) (h2 : legalB P (vV N I C t j) = true) (h3 : hitB P p (vV N I C t j) = true) (hj : j < u.length) (e : ∀ i : Nat, i ≤ j → KLi_at u (i : Int) = KLi_at t (i : Int)) : hitV N I C P u p = ((j : Int), true) := by
  unfold hitV
  rw [if_neg h9]
  have v : ∀ i, i ≤ j → vV N I C u i = vV N I C t i := fun i hi => vV_congr fun k hk => e k (by omega)
  refine hitS_at hj (fun i hi => ?_) ?_ ?_
  · show legalB P (vV N I C u i) = true ∧ hitB P p (vV N I C u i) = false
    rw [v i (by omega)]; exact h1 i hi
  · show legalB P (vV N I C u j) = true
    rw [v j (Nat.le_refl _)]; exact h2
  · show hitB P p (vV N I C u j) = true
    rw [v j (Nat.le_refl _)]; exact h3
theorem hitV_none {j : Nat} (h1 : ∀ i, i < j → legalB P (vV N I C t i) = true ∧ hitB P p (vV N I C t i) = false) (hj : u.length = j) (e : ∀ i : Nat, i < j → KLi_at u (i : Int) = KLi_at t (i : Int)) : hitV N I C P u p = (0, false) := by
  unfold hitV
  by_cases h9 : (Kisi_at P (p : Int)).1 = 9
  · rw [if_pos h9]
  · rw [if_neg h9]
    refine hitS_no fun i hi _ _ => ?_
    show hitB P p (vV N I C u i) = false
    rw [vV_congr (u := t) fun k hk => e k (by omega)]
    exact (h1 i (by omega)).2
end
theorem cuts {N I C P Q} {l more : Tr} {a : Int} (hl : U16r l) (ha : (Lit.int .u8 a).wf = true) (hm : U16r more) : law11_SimCut big N I C P Q l a more = some (true, ()) := by
  have hn : 1000 < big := by decide
  unfold law11_SimCut
  rw [head11, bindS]
  obtain ⟨g, hg, hs⟩ := great_f (n := big) (N := N) (I := I) (C := C) (P := P) (Q := Q)
  rw [hg, bindS]
  cases g with
  | true => rfl
  | false =>
  have s := hs rfl
  have s3 := s.c
  have s4 := s.p
  obtain ⟨b, hb, hr⟩ := right_f s hn
  simp only [cond_false, hb, bindS]
  cases b with
  | false => rfl
  | true =>
  have r := hr.1 rfl
  simp only [Bool.not_true, cond_false, cond_dec]
  by_cases hP : (P.length : Int) = 0
  · rw [if_pos hP]
  rw [if_neg hP, trace_f s r hn, bindS]
  have ft := trace_fit r hl
  have tl : (traceV N I l).length ≤ 64 := by rw [trace_len]; omega
  generalize traceV N I l = t at *
  obtain ⟨p, hp, e⟩ := lit_mod8 (m := P.length) ha (by omega) (by omega)
  simp only [e]
  rw [ask_of hP, simHit_f s r ft hn hp, bindS]
  rcases hitV_cases (N := N) (I := I) (C := C) (P := P) (t := t) (p := p) with ⟨j, hj, h9, h1, h2, h3, hv⟩ | hv
  rotate_left
  · rw [hv]; rfl
  rw [hv]
  simp only [Bool.not_true, cond_false, succ64 (show j < 4611686018427387904 by omega), Int.toNat_natCast, List.nil_append, cond_true]
  rw [if_neg (by omega), if_neg (by omega), ask_of (by omega)]
  have tk : ∀ k, k ≤ t.length → (t.take k).length = k := fun k hk => by rw [List.length_take]; omega
  have t1 := tk (j + 1) (by omega)
  have t2 := tk j (by omega)
  rw [simHit_f s r (fit_take ft (j + 1)) hn hp, bindS, hitV_same h9 h1 h2 h3 (by omega) (fun i hi => at_take (t := KLi_) (by omega)), ask_of (by omega), simHit_f s r (fit_take ft j) hn hp, bindS, hitV_none h1 t2 (fun i hi => at_take (t := KLi_) (by omega)), ask_of (by omega), ask_of (by simp; omega), trace_f s r hn, bindS]
  have fm := trace_fit r hm
  have ml : (traceV N I more).length ≤ 64 := by rw [trace_len]; omega
  generalize traceV N I more = m at *
  rw [ask_of (by simp; omega)]
  obtain ⟨U, hU, fU, lU, eU⟩ : ∃ U : Tr, law11_SimCut_j1 big (t, ()) ((j : Int), true, ()) (m, ()) = some (U, ()) ∧ FitT N I U ∧ j < U.length ∧ ∀ i : Nat, i ≤ j → KLi_at U (i : Int) = KLi_at t (i : Int) := by
    have fA : FitT N I (t.take (j + 1) ++ m) := by
      refine ⟨by rw [List.length_append]; omega, fun i hi => ?_⟩
      rw [List.length_append] at hi
      by_cases c : i < j + 1
      · rw [show KLi_at (t.take (j + 1) ++ m) (i : Int) = _ from at_appl (t := KLi_) (by omega), show at_ KLi_ (t.take (j + 1)) (i : Int) = KLi_at t (i : Int) from at_take (t := KLi_) c]
        exact ft.2 i (by omega)
      · rw [show KLi_at (t.take (j + 1) ++ m) (i : Int) = _ from at_appr (t := KLi_) (by omega)]
        exact fm.2 _ (by omega)
    have eA : ∀ i : Nat, i ≤ j → KLi_at (t.take (j + 1) ++ m) (i : Int) = KLi_at t (i : Int) := fun i hi => (at_appl (t := KLi_) (by omega)).trans (at_take (t := KLi_) (by omega))
    have lA : (t.take (j + 1) ++ m).length = j + 1 + m.length := by rw [List.length_append, t1]
    unfold law11_SimCut_j1
    simp only [cond_dec, succ64 (show j < 4611686018427387904 by omega), Int.toNat_natCast, List.nil_append]
    by_cases c : (64 : Int) < ((t.take (j + 1) ++ m).length : Int)
    · rw [if_pos c, ask_of (by omega)]
      refine ⟨_, rfl, ?_, ?_, ?_⟩
      · rw [List.drop_zero]; exact fit_take fA _
      · rw [List.drop_zero, List.length_take]; show j < min 64 _; omega
      · intro i hi
        rw [List.drop_zero, show KLi_at ((t.take (j + 1) ++ m).take (Int.toNat 64)) (i : Int) = _ from at_take (t := KLi_) (show i < 64 by omega)]
        exact eA i hi
    · rw [if_neg c]
      exact ⟨_, rfl, fA, by omega, eA⟩
  rw [hU, bindS, simHit_f s r fU hn hp, bindS, hitV_same h9 h1 h2 h3 lU eU]
  simp
end Go.Proofs.Ytackhenokkolhaa.Am
namespace Go.Proofs.Ytackhenokkolhaa.Pure
open Go.Proofs.Ytackhenokkolhaa.Am
theorem SimCut (d : law11_SimCut_s.I) (h : BAs law11_SimCut_s.ar d fun _ => True) : ∃ n, law11_SimCut n d.1 d.2.1 d.2.2.1 d.2.2.2.1 d.2.2.2.2.1 d.2.2.2.2.2.1 d.2.2.2.2.2.2.1 d.2.2.2.2.2.2.2.1 = some (true, ()) := by
  obtain ⟨-, -, -, -, -, h1, h2, h3, -⟩ := h
  exact ⟨big, cuts (fun x hx => (h1.2 x hx).2) h2 (fun x hx => (h3.2 x hx).2)⟩
end Go.Proofs.Ytackhenokkolhaa.Pure
