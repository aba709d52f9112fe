/- The pure statement of CnfMeets: a graph's values meet its clauses. -/
import Derived.Test.YtdfbnlmjnollnaaXbSCnfMeets
import Derived.Test.YtdfbnlmjnollnaaPAll
namespace Go.Proofs.Ytdfbnlmjnollnaa.Pure
open Go.RowKit Go.Proofs.YtdfbnlmjnollnaaW.PrintWords Go.Proofs.YtdfbnlmjnollnaaW.PrintMore Go.Proofs.Ytdfbnlmjnollnaa.PBits Go.Proofs.Ytdfbnlmjnollnaa.PAig Go.Proofs.Ytdfbnlmjnollnaa.PCnf Go.Proofs.Ytdfbnlmjnollnaa.PVal Go.Proofs.Ytdfbnlmjnollnaa.Xb
theorem opOk {x : S53} (h : B53 x) : OpOk x := ⟨lit_u8 h.1, lit_u16 h.2.1, lit_u16 h.2.2.1, lit_u16 h.2.2.2⟩
theorem CnfMeets : proofmarklaw17_CnfMeets.Pure := by
  intro x0 x1 x2 w0 w1 w2
  have b0 := lit_u8 w0
  refine Ev.rounds (r := true) ?_
  unfold proofmarklaw17_CnfMeets.f
  refine Ev.bind (f := fun k t => _) head_ev ?_
  rw [great_f]
  simp only [Option.bind_some]
  by_cases hl : (x1.length : Int) > 120
  · simp only [decide_eq_true hl, if_true]
    exact Ev.now _
  simp only [decide_eq_false hl, Bool.false_eq_true, if_false]
  obtain ⟨ins, l, lits, hev, hg, hn⟩ := made_ev x0 x1 b0.1 b0.2 (fun x hx => opOk (w1.2 x hx)) (by omega)
  refine Ev.bind (f := fun k bt => _) hev ?_
  have v1 := (vars_f hg (by omega)).1
  have i0 := hg.ins0
  have i1 := hg.ins1
  obtain ⟨inp, hb, hi⟩ := bits_ev ins l x2 i0 i1
  obtain ⟨w, he, hw⟩ := eval_ev hg (by omega) hi
  have wl := hw.len
  refine Ev.bind (f := fun k bt => _) hb ?_
  refine Ev.bind (f := fun k bt => _) he ?_
  have c1 := clauses_f hg (by omega) (show (0 : Int) ≤ 0 by omega) (show (0 : Int) < 100000000 by omega)
  refine Ev.bindc (f := fun k t => _) c1 ?_
  refine Ev.bindc (f := fun k t => _) v1 ?_
  refine Ev.ite_pos wl ?_
  have hin := In_cls hg (show (0 : Int) ≤ 0 by omega) _ (Nat.le_refl _)
  have hm : (0 : Int) + 1 + ins + (l.length : Int) = (w.length : Int) := by omega
  rw [hm] at hin
  refine Ev.bind (f := fun k t => _) (within_ev _ _ _ (by rw [cls_len]; omega) (cls_rows _ _ _ _) hin (by omega)) ?_
  refine Ev.ite_pos rfl ?_
  refine Ev.ite_pos trivial ?_
  have m := hw.met hg []
  have me := met_ev _ w (by rw [cls_len]; omega) (cls_rows _ _ _ _) (by omega) hin
  rw [show met (cls ins 0 l l.length) w = true from m] at me
  refine Ev.bind (f := fun k t => _) me ?_
  exact Ev.now _
end Go.Proofs.Ytdfbnlmjnollnaa.Pure
