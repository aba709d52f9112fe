/- The pure statement of CnfValue: a literal of clauses has the value of the graph's literal, and the values meet the clauses, wherever the variables begin. -/
import Derived.Test.YtdfbnlmjnollnaaXbSCnfValue
import Derived.Test.YtdfbnlmjnollnaaPAll
namespace Go.Proofs.Ytdfbnlmjnollnaa.Pure
open Go.RowKit Go.Proofs.YtdfbnlmjnollnaaW.PrintWords Go.Proofs.YtdfbnlmjnollnaaW.PrintMore Go.Proofs.Ytdfbnlmjnollnaa.PBits Go.Proofs.Ytdfbnlmjnollnaa.PAig Go.Proofs.Ytdfbnlmjnollnaa.PCnf Go.Proofs.Ytdfbnlmjnollnaa.PVal Go.Proofs.Ytdfbnlmjnollnaa.Xb
theorem opOk {x : S53} (h : B53 x) : OpOk x := ⟨lit_u8 h.1, lit_u16 h.2.1, lit_u16 h.2.2.1, lit_u16 h.2.2.2⟩
theorem CnfValue : proofmarklaw17_CnfValue.Pure := by
  intro x0 x1 x2 x3 x4 w0 w1 w2 w3 w4
  have b0 := lit_u8 w0
  have b3 := lit_u16 w3
  refine Ev.rounds (r := true) ?_
  unfold proofmarklaw17_CnfValue.f
  refine Ev.bind (f := fun k t => _) head_ev ?_
  rw [great_f]
  simp only [Option.bind_some]
  have out : Ev (fun k => proofmarklaw17_CnfValue.j0 k x0 x1 x2 x3 x4 true true) true := Ev.step (fun k => by simp only [proofmarklaw17_CnfValue.j0]; rw [if_pos trivial]) (Ev.now _)
  by_cases hl : (x1.length : Int) > 120
  · simp only [decide_eq_true hl, if_true]
    exact out
  simp only [decide_eq_false hl, Bool.false_eq_true, if_false]
  by_cases hp : (x4.length : Int) > 300
  · simp only [decide_eq_true hp]
    exact out
  simp only [decide_eq_false hp]
  obtain ⟨ins, l, lits, hev, hg, hn⟩ := made_ev x0 x1 b0.1 b0.2 (fun x hx => opOk (w1.2 x hx)) (by omega)
  have i0 := hg.ins0
  have i1 := hg.ins1
  obtain ⟨inp, hb, hi⟩ := bits_ev ins l x2 i0 i1
  obtain ⟨w, he, hw⟩ := eval_ev hg (by omega) hi
  have wl := hw.len
  refine Ev.step (fun k => by simp only [proofmarklaw17_CnfValue.j0]; rw [if_neg (by decide)]) ?_
  refine Ev.bind (f := fun k bt => _) hev ?_
  refine Ev.bind (f := fun k bt => _) hb ?_
  refine Ev.bind (f := fun k bt => _) he ?_
  have e1 : wrap64 (wrap64 (1 + ins) + (l.length : Int)) = 1 + ins + l.length := by rw [w64 (n := 1 + ins) (by omega) (by omega), w64 (by omega) (by omega)]
  have e2 : wrap64 (2 * (1 + ins + (l.length : Int))) = 2 * (1 + ins + l.length) := w64 (by omega) (by omega)
  have e3 : wrap64 x3 = x3 := w64 (by omega) (by omega)
  have e4 : Int.tmod x3 (2 * (1 + ins + (l.length : Int))) = x3 % (2 * (1 + ins + l.length)) := tmodn b3.1
  have hm : 0 < 2 * (1 + ins + (l.length : Int)) := by omega
  have a0 := Int.emod_nonneg x3 (show 2 * (1 + ins + (l.length : Int)) ≠ 0 by omega)
  have a1 := Int.emod_lt_of_pos x3 hm
  simp only [e1, e2, e3, e4]
  clear e1 e2 e3 e4
  generalize x3 % (2 * (1 + ins + (l.length : Int))) = a at a0 a1 ⊢
  have z1 : ¬ (2 * (1 + ins + (l.length : Int)) = 0) := by omega
  have z2 : ([] : List Bool).length + x4.length < 140737488355328 := by rw [List.length_nil]; omega
  have z3 : x4.length + w.length < 140737488355328 := by omega
  refine Ev.ite_neg z1 ?_
  refine Ev.ite_pos wl ?_
  refine Ev.bindc (f := fun k t => _) rfl ?_
  refine Ev.ite_pos z2 ?_
  refine Ev.bindc (f := fun k t => _) rfl ?_
  refine Ev.ite_pos z3 ?_
  refine Ev.bindc (f := fun k t => _) rfl ?_
  have p0 : (0 : Int) ≤ (x4.length : Int) := by omega
  have c1 := clauses_f hg (by omega) p0 (show (x4.length : Int) < 100000000 by omega)
  refine Ev.bindc (f := fun k t => _) c1 ?_
  have hin := In_cls hg p0 _ (Nat.le_refl _)
  have hm : (x4.length : Int) + 1 + ins + (l.length : Int) = ((x4 ++ w).length : Int) := by rw [List.length_append]; omega
  have hb9 : (x4 ++ w).length < 1000000000 := by rw [List.length_append]; omega
  have hb8 : ((x4 ++ w).length : Int) < 1000000000 := by omega
  rw [hm] at hin
  have hin' : In (cls ins x4.length l l.length) 0 ((x4 ++ w).length : Int) := by
    intro r hr x hx
    have := hin r hr x hx
    exact ⟨by omega, this.2⟩
  refine Ev.bind (f := fun k t => _) (within_ev _ _ _ (by rw [cls_len]; omega) (cls_rows _ _ _ _) hin hb8) ?_
  refine Ev.ite_pos rfl ?_
  have of1 := of_f a0 (show a < 1000000000 by omega) p0 (show (x4.length : Int) < 1000000000 by omega)
  refine Ev.bindc (f := fun k t => _) of1 ?_
  refine Ev.ite_pos trivial ?_
  have bd := ofv_bd (a := a) (off := (x4.length : Int)) a0 p0
  have ab := ofv_abs (a := a) (off := (x4.length : Int)) a0 p0
  have e5 : mx (ofv a x4.length) (wrap64 (-(ofv a x4.length))) = x4.length + 1 + a / 2 := by
    rw [w64 (n := -(ofv a x4.length)) (by omega) (by omega), mx_max, ab]
  have z5 : (x4.length : Int) + 1 + a / 2 > (x4.length : Int) := by omega
  have z6 : (x4.length : Int) + 1 + a / 2 ≤ ((x4 ++ w).length : Int) := by omega
  rw [e5]
  refine Ev.ite_pos z5 ?_
  refine Ev.ite_pos z6 ?_
  have hone : In [[ofv a x4.length]] 0 ((x4 ++ w).length : Int) := by
    intro r hr x hx
    simp at hr
    subst hr
    simp at hx
    subst hx
    rw [ab]
    omega
  have me1 := met_ev [[ofv a x4.length]] (x4 ++ w) (by simp) (by intro r hr; simp at hr; subst hr; simp) hb9 hone
  have mv : met [[ofv a x4.length]] (x4 ++ w) = lv w a := by
    unfold met
    simp only [List.all_cons, List.all_nil, List.any_cons, List.any_nil, tr_ofv a0, Bool.or_false, Bool.and_true]
  rw [mv] at me1
  refine Ev.bind (f := fun k t => _) me1 ?_
  have lf := lit_f (v := w) (a := a) a0 (by omega) (by omega)
  refine Ev.bindc (f := fun k t => _) lf ?_
  have z7 : (lv w a == lv w a) = true := beq_self_eq_true _
  refine Ev.ite_pos z7 ?_
  have m := hw.met hg x4
  have me := met_ev _ (x4 ++ w) (by rw [cls_len]; omega) (cls_rows _ _ _ _) hb9 hin'
  rw [m] at me
  refine Ev.bind (f := fun k t => _) me ?_
  exact Ev.now _
end Go.Proofs.Ytdfbnlmjnollnaa.Pure
