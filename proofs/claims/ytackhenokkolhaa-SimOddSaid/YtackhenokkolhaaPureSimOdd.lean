/- SimOdd, in plain Lean. -/
import Derived.Test.YtackhenokkolhaaPlHit
import Derived.Test.YtackhenokkolhaaAmY
namespace Go.Proofs.Ytackhenokkolhaa.Am
set_option linter.unusedVariables false
set_option linter.unusedSimpArgs false
theorem odds {N I C P Q} {l : Tr} {a c : Int} (hl : U16r l) (ha : (Lit.int .u8 a).wf = true) (hc : (Lit.int .u8 c).wf = true) : law11_SimOdd big N I C P Q l a c = some (true, ()) := by
  have hn : 1000 < big := by decide
  unfold law11_SimOdd
  rw [head11, bindS]
  obtain ⟨g, hg, hs⟩ := great_f (n := big) (N := N) (I := I) (C := C) (P := P) (Q := Q)
  rw [hg, bindS]
  cases g with
  | true => rfl
  | false =>
  have s := hs rfl
  have s2 := s.i
  obtain ⟨b, hb_, hr⟩ := right_f s hn
  simp only [cond_false, hb_, bindS]
  cases b with
  | false => rfl
  | true =>
  have r := hr.1 rfl
  simp only [Bool.not_true, cond_false, cond_dec]
  rw [trace_f s r hn, bindS]
  have ft := trace_fit r hl
  have tl : (traceV N I l).length ≤ 64 := by rw [trace_len]; omega
  generalize traceV N I l = t at *
  by_cases h0 : (t.length : Int) = 0
  · simp only [h0, if_true, bindS, cond_true, decide_true]
  simp only [if_neg h0]
  obtain ⟨b1, hb1, hf1⟩ := simRight_f (t := t) s r (by omega) hn
  have : b1 = true := hf1.2 ⟨tl, ft.2⟩
  subst this
  obtain ⟨k, hk, e⟩ := lit_mod8 (m := t.length) ha (by omega) (by omega)
  have fk := ft.2 k hk
  have lk_ := fk.1
  simp only [hb1, bindS, Bool.not_true, cond_false, e, List.nil_append, Int.toNat_natCast, List.length_nil, Nat.zero_add]
  rw [ask_of h0, ask_of (by simp; omega), ask_of (by omega), ask_of (by simp; omega), ask_of (by simp; omega), ask_of (by omega)]
  -- the long one
  have l1 := iter_up (F := law11_SimOdd_l1b big (t, ()) a) (fun j => ((j : Int), (List.range j).map (fun _ => KLi_at t (k : Int)), ())) ((List.range 65).map (fun _ => KLi_at t (k : Int)), ()) (len := 65) (m := big)
    (fun self j hj => by
      unfold law11_SimOdd_l1b
      simp only [cond_dec, e]
      rw [if_pos (by omega), ask_of (by omega), ask_of (by simp; omega), succ64 (by omega), range_app (g := fun _ => KLi_at t (k : Int))])
    (fun self => by
      unfold law11_SimOdd_l1b
      simp only [cond_dec]
      rw [if_neg (by omega)]) (by omega)
  rw [show law11_SimOdd_l1 big (t, ()) a (0, [], ()) = _ from l1, bindS]
  -- one number more
  have no : ∀ u : Tr, u.length ≤ 300 → ¬ RightT N I u → sim_Right big N I C P Q u = some (false, ()) := fun u hu q => by
    obtain ⟨b2, hb2, hf2⟩ := simRight_f (t := u) s r hu hn
    cases b2 with
    | false => exact hb2
    | true => exact absurd (hf2.1 rfl) q
  have at1 : ∀ x : List Int, KLi_at (t.set k x) (k : Int) = x := fun x => by
    rw [show KLi_at (t.set k x) (k : Int) = _ from at_set (t := KLi_) hk, if_pos rfl]
  have n1 : ¬ RightT N I (t.set k (KLi_at t (k : Int) ++ [0])) := fun q => by
    have := (q.2 k (by rw [List.length_set]; exact hk)).1
    rw [at1, List.length_append] at this
    simp at this
    omega
  have n2 : ¬ RightT N I ((List.range 65).map (fun _ => KLi_at t (k : Int))) := fun q => by
    have := q.1
    simp at this
  rw [no _ (by rw [List.length_set]; omega) n1, bindS]
  simp only [cond_false]
  rw [no _ (by simp) n2, bindS]
  simp only [cond_false]
  by_cases hI : (I.length : Int) = 0
  · rw [if_pos hI]
  rw [if_neg hI]
  obtain ⟨j, hj, ej⟩ := lit_mod8 (a := c) (m := (KLi_at t (k : Int)).length) hc (by omega) (by omega)
  obtain ⟨m0, m1, -⟩ := pin_node r.ins (j := j) (by omega)
  have hw := node_at r.nodes m0 m1
  have w1 := hw.w1
  have w16 := hw.w16
  simp only [ej, Int.toNat_natCast, cond_true]
  rw [ask_of (by omega), ask_of (by simp; omega), ask_of (by omega), ask_of (by omega), ask_of (by omega), ask_of (by omega), rmask_f (by omega) (by omega), bindS, ask_of (by omega), ask_of (by simp; omega)]
  simp only [List.set_set]
  have nj := fk.2 j (by omega)
  have p16 := p2_16 w16
  have n3 : ¬ RightT N I (t.set k ((KLi_at t (k : Int)).set j (IntKind.wrap .i64 (IntKind.wrap .i64 (Ki_at (KLi_at t (k : Int)) (j : Int) + 1) + (P2 (Kiiiiiii_at N (Ksi_at I (j : Int)).2).2.1 - 1))))) := fun q => by
    have := (q.2 k (by rw [List.length_set]; exact hk)).2 j (by omega)
    rw [at1, show Ki_at ((KLi_at t (k : Int)).set j _) (j : Int) = _ from at_set (t := i_) hj, if_pos rfl, w64 (n := Ki_at (KLi_at t (k : Int)) (j : Int) + 1) (by have := nj.1; omega) (by have := nj.2; omega), w64 (by have := nj.1; have := p2_pos (Kiiiiiii_at N (Ksi_at I (j : Int)).2).2.1; omega) (by have := nj.2; omega)] at this
    have h1 := this.2
    have h2 := nj.1
    omega
  rw [no _ (by rw [List.length_set]; omega) n3]
  rfl
end Go.Proofs.Ytackhenokkolhaa.Am
namespace Go.Proofs.Ytackhenokkolhaa.Pure
open Go.Proofs.Ytackhenokkolhaa.Am
theorem SimOdd (d : law11_SimOdd_s.I) (h : BAs law11_SimOdd_s.ar d fun _ => True) : ∃ n, law11_SimOdd n d.1 d.2.1 d.2.2.1 d.2.2.2.1 d.2.2.2.2.1 d.2.2.2.2.2.1 d.2.2.2.2.2.2.1 d.2.2.2.2.2.2.2.1 = some (true, ()) := by
  obtain ⟨-, -, -, -, -, h1, h2, h3, -⟩ := h
  exact ⟨big, odds (fun x hx => (h1.2 x hx).2) h2 h3⟩
end Go.Proofs.Ytackhenokkolhaa.Pure
