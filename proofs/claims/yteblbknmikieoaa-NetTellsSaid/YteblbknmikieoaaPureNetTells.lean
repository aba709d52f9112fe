/- Slimmed by this session: what nothing names is struck out. -/
import Derived.Test.YteblbknmikieoaaXbSNetTells
import Derived.Test.YteblbknmikieoaaP9A
namespace Go.Proofs.Yteblbknmikieoaa.Pure
open Go.RowKit Go.Proofs.YteblbknmikieoaaW.PrintWords Go.Proofs.YteblbknmikieoaaW.PrintMore Go.Proofs.Yteblbknmikieoaa.PBits Go.Proofs.Yteblbknmikieoaa.PVec Go.Proofs.Yteblbknmikieoaa.P9 Go.Proofs.Yteblbknmikieoaa.Xb
set_option linter.unusedVariables false
set_option linter.unusedSimpArgs false
theorem nd_mem {N : List Nd} {j : Nat} (h : j < N.length) : nd N (j : Int) ∈ N := by
  have : nd N (j : Int) = N[j] := by
    unfold nd rd_T41
    rw [Int.toNat_natCast, List.getD_eq_getElem?_getD, List.getElem?_eq_getElem h]
    rfl
  rw [this]
  exact List.getElem_mem h
theorem NetTells : w9_NetTells.Pure := by
  intro n m a b hx hm ha hb
  have ha' : ∀ z ∈ a, 0 ≤ z ∧ z ≤ 65535 := fun z hz => lit_u16 (ha.2 z hz)
  have hb' : ∀ z ∈ b, 0 ≤ z ∧ z ≤ 65535 := fun z hz => lit_u16 (hb.2 z hz)
  have wf : ∀ j : Nat, j < n.f0.length → (Lit.int .i64 (nd n.f0 (j : Int)).f0).wf = true := fun j hj => (hx.1.2 _ (nd_mem hj)).1
  clear hx hm ha hb
  generalize n.f0 = N at *
  generalize n.f1 = I
  generalize n.f2 = C
  generalize n.f3 = P
  generalize n.f4 = Q
  generalize m.f0 = N'
  generalize m.f1 = I'
  generalize m.f2 = C'
  generalize m.f3 = P'
  generalize m.f4 = Q'
  refine Ev.rounds (r := true) ?_
  unfold w9_NetTells.f
  obtain ⟨g, hg, hs⟩ := great_f (N := N) (I := I) (C := C) (P := P) (Q := Q)
  obtain ⟨g2, hg2, -⟩ := great_f (N := N') (I := I') (C := C') (P := P') (Q := Q')
  refine Ev.bind (f := fun k t => _) head09 ?_
  simp only [hg, hg2, Option.bind_some]
  have j0 : Ev (fun k => w9_NetTells.j0 k a b true true N I C P Q N' I' C' P' Q') true := Ev.step (fun k => by simp only [w9_NetTells.j0]; rw [if_pos trivial]) (Ev.now _)
  cases g with
  | true => exact Ev.ite_pos rfl j0
  | false =>
    refine Ev.ite_neg (by decide) ?_
    cases g2 with
    | true => exact j0
    | false =>
      obtain ⟨s, hn⟩ := hs rfl
      obtain ⟨q, hq, hr⟩ := right_ev s
      obtain ⟨p, hp, hpr⟩ := nright_iff s wf
      have e : p = q := Bool.eq_iff_iff.2 (hpr.trans hr.symm)
      subst e
      obtain ⟨c, c1, c2⟩ := sames_ev (N' := N') (I' := I') (C' := C') (P' := P') (Q' := Q') s
      refine Ev.step (fun k => rfl) ?_
      simp only [w9_NetTells.j0, Bool.false_eq_true, if_false]
      refine Ev.bind (f := fun k t => _) hp ?_
      refine Ev.bind (f := fun k t => _) hq ?_
      rw [bne_self_eq_false]
      refine Ev.ite_neg (by decide) ?_
      refine Ev.bind (f := fun k t => _) c1 ?_
      refine Ev.bind (f := fun k t => _) c2 ?_
      rw [bne_self_eq_false]
      refine Ev.step (fun k => rfl) ?_
      simp only [w9_NetTells.j1, Bool.false_eq_true, if_false, if_true]
      refine Ev.bind (f := fun k t => _) hq ?_
      cases p with
      | false => exact Ev.ite_neg (by decide) (Ev.now _)
      | true =>
        have r := hr.1 rfl
        refine Ev.ite_pos rfl ?_
        obtain ⟨st, ins, hrow, hi, hst⟩ := rows_ev s r ha' hb'
        have s1 := s.n
        have s3 := s.c
        have e1 := eval_ev s r hi hst
        have e2 := reval_ev s r hi hst
        have a1 := after_ev s r hi hst
        have a2 := rafter_ev s r hi hst
        have f1 := first_ev (I := I) (P := P) (Q := Q) s
        have f2 := rfirst_ev (I := I) (P := P) (Q := Q) s
        have lv := evalV_len N st ins
        have la := afterV_len C (evalV N st ins)
        have lf := firstV_len C
        generalize evalV N st ins = v at *
        generalize afterV C v = w at *
        generalize firstV C = u at *
        refine Ev.bind (f := fun k t => _) hrow ?_
        refine Ev.bind (f := fun k t => _) f1 ?_
        refine Ev.bind (f := fun k t => _) f2 ?_
        refine Ev.bind (f := fun k t => _) (same_ev (by omega)) ?_
        refine Ev.ite_pos rfl ?_
        refine Ev.bind (f := fun k t => _) e1 ?_
        refine Ev.bind (f := fun k t => _) e2 ?_
        refine Ev.bind (f := fun k t => _) (same_ev (by omega)) ?_
        refine Ev.ite_pos rfl ?_
        refine Ev.bind (f := fun k t => _) a1 ?_
        refine Ev.bind (f := fun k t => _) a2 ?_
        refine Ev.bind (f := fun k t => _) (same_ev (by omega)) ?_
        exact Ev.now _
end Go.Proofs.Yteblbknmikieoaa.Pure
