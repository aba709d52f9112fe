/- Slimmed by this session: what nothing names is struck out. -/
import Derived.Test.YteblbknmikieoaaXbSNetFits
import Derived.Test.YteblbknmikieoaaP9Head
namespace Go.Proofs.Yteblbknmikieoaa.Pure
open Go.RowKit Go.Proofs.YteblbknmikieoaaW.PrintWords Go.Proofs.YteblbknmikieoaaW.PrintMore Go.Proofs.Yteblbknmikieoaa.PBits Go.Proofs.Yteblbknmikieoaa.PVec Go.Proofs.Yteblbknmikieoaa.P9 Go.Proofs.Yteblbknmikieoaa.Xb
set_option linter.unusedVariables false
set_option linter.unusedSimpArgs false
theorem NetFits : w9_NetFits.Pure := by
  intro x a b hx ha hb
  have ha' : ∀ z ∈ a, 0 ≤ z ∧ z ≤ 65535 := fun z hz => lit_u16 (ha.2 z hz)
  have hb' : ∀ z ∈ b, 0 ≤ z ∧ z ≤ 65535 := fun z hz => lit_u16 (hb.2 z hz)
  clear hx ha hb
  generalize x.f0 = N
  generalize x.f1 = I
  generalize x.f2 = C
  generalize x.f3 = P
  generalize x.f4 = Q
  refine Ev.rounds (r := true) ?_
  unfold w9_NetFits.f
  obtain ⟨g, hg, hs⟩ := great_f (N := N) (I := I) (C := C) (P := P) (Q := Q)
  refine Ev.bind (f := fun k t515 => (w9_Great.f N I C P Q).bind fun t516 => (if t516 = true then (w9_NetFits.j0 k a b t515 true N I C P Q) else ((r9_Right.f k N I C P Q).bind fun t517 => (w9_NetFits.j0 k a b t515 (!t517) N I C P Q)))) head09 ?_
  simp only [hg, Option.bind_some]
  have j0 : Ev (fun k => w9_NetFits.j0 k a b true true N I C P Q) true := Ev.step (fun k => by simp only [w9_NetFits.j0]; rw [if_pos trivial]) (Ev.now _)
  cases g with
  | true => exact Ev.ite_pos rfl j0
  | false =>
    have s := (hs rfl).1
    refine Ev.ite_neg (by decide) ?_
    obtain ⟨q, hq, hr⟩ := right_ev s
    refine Ev.bind (f := fun k t517 => w9_NetFits.j0 k a b true (!t517) N I C P Q) hq ?_
    cases q with
    | false => exact j0
    | true =>
      have r := hr.1 rfl
      have s1 := s.n
      have s3 := s.c
      obtain ⟨st, ins, hrow, hi, hst⟩ := rows_ev s r ha' hb'
      have hv := nums_evalV r.nodes hi hst
      have he := eval_ev s r hi hst
      have haf := after_ev s r hi hst
      have hfi := first_ev (N := N) (I := I) (P := P) (Q := Q) s
      generalize hvv : evalV N st ins = v at *
      have lf : (firstV C).length = C.length := by unfold firstV; rw [fillS_len, List.length_replicate]
      have la : (afterV C v).length = C.length := by unfold afterV; rw [fillS_len, List.length_replicate]
      have rf : ∀ j : Nat, j < C.length → rd (firstV C) (j : Int) = (cl C (j : Int)).f3 := fun j hj => fillS_rd _ _ _ (by rw [List.length_replicate]; omega) j hj
      have ra : ∀ j : Nat, j < C.length → rd (afterV C v) (j : Int) = rd v (cl C (j : Int)).f2 := fun j hj => fillS_rd _ _ _ (by rw [List.length_replicate]; omega) j hj
      generalize firstV C = f at *
      generalize afterV C v = w at *
      have hvl := hv.1
      have l1 : ∀ d (i : Nat), i + d = C.length → Ev (fun k => w9_NetFits.l1 k true v f w (i : Int) N I C P Q) true := by
        intro d
        induction d with
        | zero =>
          intro i h
          have z : ¬ ((i : Int) < (w.length : Int)) := by omega
          exact Ev.step (fun k => by simp only [w9_NetFits.l1]; rw [if_neg z]) (Ev.now _)
        | succ d ih =>
          intro i h
          have z : (i : Int) < (w.length : Int) := by omega
          have z2 : (i : Int) < (C.length : Int) := by omega
          obtain ⟨n0, n1', n2, nc, m0, m1, w1, w16⟩ := next_pos r (j := i) (by omega)
          have n1 : (cl C (i : Int)).f2 < (v.length : Int) := by omega
          have e1 := rf i (by omega)
          have e2 := ra i (by omega)
          have hn := hv.2 (cl C (i : Int)).f2.toNat (by omega)
          have e0 : (((cl C (i : Int)).f2.toNat : Nat) : Int) = (cl C (i : Int)).f2 := by omega
          rw [e0, n2, ← e2] at hn
          have c1 := nc.2.1
          have c2 := nc.2.2
          rw [← e1] at c1 c2
          have g1 : ¬ rd w (i : Int) < 0 := by have := hn.1; omega
          have g2 : ¬ rd w (i : Int) > P2 (nd N (cl C (i : Int)).f1).f1 - 1 := by have := hn.2; omega
          have g3 : ¬ rd f (i : Int) < 0 := by omega
          have g4 : ¬ rd f (i : Int) > P2 (nd N (cl C (i : Int)).f1).f1 - 1 := by omega
          exact Ev.step (fun k => by simp only [w9_NetFits.l1]; rw [if_pos z, if_pos (by omega), if_pos z2, if_pos m0, if_pos m1, rmask_le ⟨w1, w16⟩, Option.bind_some, if_neg g1, if_neg g2, if_pos (by omega), if_neg g3, if_neg g4, if_pos n0, if_pos n1, if_pos e2, succ64 (by omega)]) (ih (i + 1) (by omega))
      have l0 : ∀ d (i : Nat), i + d = N.length → Ev (fun k => w9_NetFits.l0 k true v f w (i : Int) N I C P Q) true := by
        intro d
        induction d with
        | zero =>
          intro i h
          have z : ¬ ((i : Int) < (v.length : Int)) := by omega
          exact Ev.step (fun k => by simp only [w9_NetFits.l0]; exact if_neg z) (l1 C.length 0 (by omega))
        | succ d ih =>
          intro i h
          have z : (i : Int) < (v.length : Int) := by omega
          have hn := hv.2 i (by omega)
          have hw := r.nodes i (by omega)
          have g1 : ¬ rd v (i : Int) < 0 := by have := hn.1; omega
          have g2 : ¬ rd v (i : Int) > P2 (nd N (i : Int)).f1 - 1 := by have := hn.2; omega
          exact Ev.step (fun k => by simp only [w9_NetFits.l0]; rw [if_pos z, if_pos (by omega), if_neg g1, if_pos (by omega), rmask_le ⟨hw.w1, hw.w16⟩, Option.bind_some, if_neg g2, succ64 (by omega)]) (ih (i + 1) (by omega))
      have j1 : Ev (fun k => w9_NetFits.j1 k true v f w false N I C P Q) true := Ev.step (fun k => by simp only [w9_NetFits.j1]; exact if_neg (by decide)) (l0 N.length 0 (by omega))
      have z1 : (v.length : Int) = (N.length : Int) := by omega
      have z2 : (f.length : Int) = (C.length : Int) := by omega
      have z3 : ((w.length : Int) != (C.length : Int)) = false := bne_eq_false_iff_eq.mpr (by omega)
      refine Ev.step (f := fun k => (w9_Rows.f k N I C P Q a b).bind fun bt518 => ((net_Eval.f k N I C P Q bt518.1 bt518.2).bind fun t524 => ((net_First.f k N I C P Q).bind fun t527 => ((net_After.f k N I C P Q bt518.1 bt518.2).bind fun t530 => (if (t524.length : Int) = (N.length : Int) then (if (t527.length : Int) = (C.length : Int) then (w9_NetFits.j1 k true t524 t527 t530 ((t530.length : Int) != (C.length : Int)) N I C P Q) else (w9_NetFits.j1 k true t524 t527 t530 true N I C P Q)) else (w9_NetFits.j1 k true t524 t527 t530 true N I C P Q)))))) (fun k => by simp only [w9_NetFits.j0]; exact if_neg (by decide)) ?_
      refine Ev.bind (f := fun k bt518 => ((net_Eval.f k N I C P Q bt518.1 bt518.2).bind fun t524 => ((net_First.f k N I C P Q).bind fun t527 => ((net_After.f k N I C P Q bt518.1 bt518.2).bind fun t530 => (if (t524.length : Int) = (N.length : Int) then (if (t527.length : Int) = (C.length : Int) then (w9_NetFits.j1 k true t524 t527 t530 ((t530.length : Int) != (C.length : Int)) N I C P Q) else (w9_NetFits.j1 k true t524 t527 t530 true N I C P Q)) else (w9_NetFits.j1 k true t524 t527 t530 true N I C P Q)))))) hrow ?_
      refine Ev.bind (f := fun k t524 => ((net_First.f k N I C P Q).bind fun t527 => ((net_After.f k N I C P Q st ins).bind fun t530 => (if (t524.length : Int) = (N.length : Int) then (if (t527.length : Int) = (C.length : Int) then (w9_NetFits.j1 k true t524 t527 t530 ((t530.length : Int) != (C.length : Int)) N I C P Q) else (w9_NetFits.j1 k true t524 t527 t530 true N I C P Q)) else (w9_NetFits.j1 k true t524 t527 t530 true N I C P Q))))) he ?_
      refine Ev.bind (f := fun k t527 => ((net_After.f k N I C P Q st ins).bind fun t530 => (if (v.length : Int) = (N.length : Int) then (if (t527.length : Int) = (C.length : Int) then (w9_NetFits.j1 k true v t527 t530 ((t530.length : Int) != (C.length : Int)) N I C P Q) else (w9_NetFits.j1 k true v t527 t530 true N I C P Q)) else (w9_NetFits.j1 k true v t527 t530 true N I C P Q)))) hfi ?_
      refine Ev.bind (f := fun k t530 => (if (v.length : Int) = (N.length : Int) then (if (f.length : Int) = (C.length : Int) then (w9_NetFits.j1 k true v f t530 ((t530.length : Int) != (C.length : Int)) N I C P Q) else (w9_NetFits.j1 k true v f t530 true N I C P Q)) else (w9_NetFits.j1 k true v f t530 true N I C P Q))) haf ?_
      refine Ev.ite_pos z1 (Ev.ite_pos z2 ?_)
      rw [z3]
      exact j1
end Go.Proofs.Yteblbknmikieoaa.Pure
