/- Slimmed by this session: what nothing names is struck out. -/
import Derived.Test.YtlnjefcfbncegaaXbSAigPlain
import Derived.Test.YtlnjefcfbncegaaP13All
namespace Go.Proofs.Ytlnjefcfbncegaa.Pure
open Go.RowKit Go.Proofs.YtlnjefcfbncegaaW.PrintWords Go.Proofs.YtlnjefcfbncegaaW.PrintMore Go.Proofs.Ytlnjefcfbncegaa.PBits Go.Proofs.Ytlnjefcfbncegaa.PAig Go.Proofs.Ytlnjefcfbncegaa.PAig13 Go.Proofs.Ytlnjefcfbncegaa.Xb
theorem opOk {x : S28} (h : B28 x) : OpOk x := ⟨lit_u8 h.1, lit_u16 h.2.1, lit_u16 h.2.2.1, lit_u16 h.2.2.2⟩
theorem AigPlain : proofmarklaw13_AigPlain.Pure := by
  intro x0 x1 x2 x3 w0 w1 w2 w3
  have b0 := lit_u8 w0
  have b2 := lit_u16 w2
  have b3 := lit_u16 w3
  refine Ev.rounds (r := true) ?_
  unfold proofmarklaw13_AigPlain.f
  refine Ev.bind (f := fun k t => _) head13 ?_
  rw [great_f]
  simp only [Option.bind_some]
  by_cases hl : (x1.length : Int) > 120
  · simp only [decide_eq_true hl, if_true]
    exact Ev.now _
  simp only [decide_eq_false hl, Bool.false_eq_true, if_false]
  obtain ⟨ins, l, lits, hev, hg, hn⟩ := made_ev x0 x1 b0.1 b0.2 (fun x hx => opOk (w1.2 x hx)) (by omega)
  refine Ev.bind (f := fun k bt => _) hev ?_
  have i0 := hg.ins0
  have i1 := hg.ins1
  have hf : Few ins l := ⟨i0, by omega, by omega⟩
  obtain ⟨ea, la⟩ := literal_f hf b2.1 b2.2
  obtain ⟨eb, lb⟩ := literal_f hf b3.1 b3.2
  refine Ev.bindc (f := fun k t => _) ea ?_
  refine Ev.bindc (f := fun k t => _) eb ?_
  generalize x2 % (2 * (ins + (l.length : Int) + 1)) = a at la ⊢
  generalize x3 % (2 * (ins + (l.length : Int) + 1)) = b at lb ⊢
  have ab := la.bd hf
  have l0 : Lit_ ins l 0 := ⟨by omega, by omega⟩
  have l1 : Lit_ ins l 1 := ⟨by omega, by omega⟩
  have tx : Go.bits .xor .i64 a 1 = turn a := xor_one a ab.1 (by omega)
  rw [tx]
  have c1 := aand_ev hf la la
  rw [(and_self' ins l a).1, (and_self' ins l a).2] at c1
  have c2 := aand_ev hf la la.turn
  rw [(and_turn' ins l a).1, (and_turn' ins l a).2] at c2
  have c3 := aand_ev hf l0 la
  rw [(and_zero ins l la.1).1, (and_zero ins l la.1).2] at c3
  have c4 := aand_ev hf la l1
  rw [(and_comm' ins l a 1).1, (and_comm' ins l a 1).2, (and_one' ins l la.1).1, (and_one' ins l la.1).2] at c4
  have c5 := aor_ev hg hf (by omega) la l0
  rw [(or_zero ins l la.1).1, (or_zero ins l la.1).2] at c5
  have c6 := axor_ev hg hf (by omega) la l1
  rw [(xor_one' ins l la.1).1, (xor_one' ins l la.1).2] at c6
  have c7 := amux_ev hg hf (by omega) l1 la lb
  rw [(mux_one ins l la.1 lb.1).1, (mux_one ins l la.1 lb.1).2] at c7
  have sm := gsame_ev ins l (by omega)
  refine Ev.bind (f := fun k t => _) c1 ?_
  refine Ev.bind (f := fun k t => _) c2 ?_
  refine Ev.bind (f := fun k t => _) c3 ?_
  refine Ev.bind (f := fun k t => _) c4 ?_
  refine Ev.bind (f := fun k t => _) c5 ?_
  refine Ev.bind (f := fun k t => _) c6 ?_
  refine Ev.bind (f := fun k t => _) c7 ?_
  refine Ev.ite_pos (by trivial) ?_
  refine Ev.ite_pos (by trivial) ?_
  refine Ev.ite_pos (by trivial) ?_
  refine Ev.ite_pos (by trivial) ?_
  refine Ev.ite_pos (by trivial) ?_
  refine Ev.ite_pos (by trivial) ?_
  refine Ev.ite_pos (by trivial) ?_
  refine Ev.ite_pos (by trivial) ?_
  refine Ev.bind (f := fun k t => _) sm ?_
  refine Ev.ite_pos (by trivial) ?_
  refine Ev.bind (f := fun k t => _) sm ?_
  refine Ev.ite_pos (by trivial) ?_
  refine Ev.bind (f := fun k t => _) sm ?_
  refine Ev.ite_pos (by trivial) ?_
  refine Ev.bind (f := fun k t => _) sm ?_
  refine Ev.ite_pos (by trivial) ?_
  refine Ev.bind (f := fun k t => _) sm ?_
  refine Ev.ite_pos (by trivial) ?_
  refine Ev.bind (f := fun k t => _) sm ?_
  refine Ev.ite_pos (by trivial) ?_
  refine Ev.bind (f := fun k t => _) sm ?_
  exact Ev.now _
end Go.Proofs.Ytlnjefcfbncegaa.Pure
