/- The pure statement of CnfTells: of what is made, variables, literals and clauses are the document's. -/
import Derived.Test.YtdfbnlmjnollnaaXbSCnfTells
import Derived.Test.YtdfbnlmjnollnaaPCnf
namespace Go.Proofs.Ytdfbnlmjnollnaa.Pure
open Go.RowKit Go.Proofs.YtdfbnlmjnollnaaW.PrintWords Go.Proofs.YtdfbnlmjnollnaaW.PrintMore Go.Proofs.Ytdfbnlmjnollnaa.PBits Go.Proofs.Ytdfbnlmjnollnaa.PAig Go.Proofs.Ytdfbnlmjnollnaa.PCnf Go.Proofs.Ytdfbnlmjnollnaa.Xb
theorem opOk {x : S53} (h : B53 x) : OpOk x := ⟨lit_u8 h.1, lit_u16 h.2.1, lit_u16 h.2.2.1, lit_u16 h.2.2.2⟩
theorem CnfTells : proofmarklaw17_CnfTells.Pure := by
  intro x0 x1 x2 x3 w0 w1 w2 w3
  have b0 := lit_u8 w0
  have b2 := lit_u16 w2
  have b3 := lit_u16 w3
  refine Ev.rounds (r := true) ?_
  unfold proofmarklaw17_CnfTells.f
  refine Ev.bind (f := fun k t => _) head_ev ?_
  rw [great_f]
  simp only [Option.bind_some]
  by_cases hl : (x1.length : Int) > 120
  · simp only [decide_eq_true hl, if_true]
    exact Ev.now _
  simp only [decide_eq_false hl, Bool.false_eq_true, if_false]
  obtain ⟨ins, l, lits, hev, hg, hn⟩ := made_ev x0 x1 b0.1 b0.2 (fun x hx => opOk (w1.2 x hx)) (by omega)
  refine Ev.bind (f := fun k bt => _) hev ?_
  obtain ⟨v1, v2⟩ := vars_f hg (by omega)
  have e3 : wrap64 x3 = x3 := w64 (by omega) (by omega)
  have e2 : wrap64 x2 = x2 := w64 (by omega) (by omega)
  simp only [if_true, v1, v2, Option.bind_some, e2, e3, of_f b3.1 (show x3 < 1000000000 by omega) b2.1 (show x2 < 1000000000 by omega), ofr_f b3.1 (show x3 < 1000000000 by omega) b2.1 (show x2 < 1000000000 by omega), clauses_f hg (by omega) b2.1 (show x2 < 100000000 by omega)]
  refine Ev.bind (f := fun k t => _) (clausesr_ev hg (by omega) b2.1 (by omega)) ?_
  refine Ev.bind (f := fun k t => _) (same_ev _ (by rw [cls_len]; omega) (cls_rows _ _ _ _)) (Ev.now _)
end Go.Proofs.Ytdfbnlmjnollnaa.Pure
