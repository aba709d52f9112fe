/- Slimmed by this session: what nothing names is struck out. -/
import Derived.Test.YtlnjefcfbncegaaXbSAigShared
import Derived.Test.YtlnjefcfbncegaaP13All
namespace Go.Proofs.Ytlnjefcfbncegaa.Pure
open Go.RowKit Go.Proofs.YtlnjefcfbncegaaW.PrintWords Go.Proofs.YtlnjefcfbncegaaW.PrintMore Go.Proofs.Ytlnjefcfbncegaa.PBits Go.Proofs.Ytlnjefcfbncegaa.PAig Go.Proofs.Ytlnjefcfbncegaa.PAig13 Go.Proofs.Ytlnjefcfbncegaa.Xb
theorem opOk {x : S28} (h : B28 x) : OpOk x := ⟨lit_u8 h.1, lit_u16 h.2.1, lit_u16 h.2.2.1, lit_u16 h.2.2.2⟩
theorem AigShared : proofmarklaw13_AigShared.Pure := by
  intro x0 x1 x2 w0 w1 w2
  have b0 := lit_u8 w0
  have b2 := lit_u16 w2.2.1
  have b3 := lit_u16 w2.2.2.1
  refine Ev.rounds (r := true) ?_
  unfold proofmarklaw13_AigShared.f
  refine Ev.bind (f := fun k t => _) head13 ?_
  rw [great_f]
  simp only [Option.bind_some]
  by_cases hl : (x1.length : Int) > 120
  · simp only [decide_eq_true hl, if_true]
    exact Ev.now _
  simp only [decide_eq_false hl, Bool.false_eq_true, if_false]
  obtain ⟨ins, l, lits, hev, hg, hn⟩ := made_ev x0 x1 b0.1 b0.2 (fun x hx => opOk (w1.2 x hx)) (by omega)
  refine Ev.bind (f := fun k bt => _) hev ?_
  have i0 := hg.ins0
  have i1 := hg.ins1
  have hf : Few ins l := ⟨i0, by omega, by omega⟩
  obtain ⟨ea, la⟩ := literal_f hf b2.1 b2.2
  obtain ⟨eb, lb⟩ := literal_f hf b3.1 b3.2
  refine Ev.bindc (f := fun k t => _) ea ?_
  refine Ev.bindc (f := fun k t => _) eb ?_
  generalize x2.f1 % (2 * (ins + (l.length : Int) + 1)) = a at la ⊢
  generalize x2.f2 % (2 * (ins + (l.length : Int) + 1)) = b at lb ⊢
  have ab := la.bd hf
  have bb := lb.bd hf
  obtain ⟨g1, ⟨t1, e1, n1⟩, q1⟩ := and_good hg la lb
  obtain ⟨g2, ⟨t2, e2, n2⟩, q2⟩ := xor_good hg la lb
  have len1 : (andL l a b).length ≤ l.length + 1 := by rw [e1, List.length_append]; omega
  have len2 : (xorL ins l a b).length ≤ l.length + 3 := by rw [e2, List.length_append]; omega
  have hf1 : Few ins (andL l a b) := ⟨i0, by omega, by omega⟩
  have hf2 : Few ins (xorL ins l a b) := ⟨i0, by omega, by omega⟩
  have la1 : Lit_ ins (andL l a b) a := by rw [e1]; exact la.app
  have lb1 : Lit_ ins (andL l a b) b := by rw [e1]; exact lb.app
  have la2 : Lit_ ins (xorL ins l a b) a := by rw [e2]; exact la.app
  have lb2 : Lit_ ins (xorL ins l a b) b := by rw [e2]; exact lb.app
  have c1 := aand_ev hf la lb
  have c2 := aand_ev hf1 lb1 la1
  have ag := and_again ins l [] a b
  rw [List.append_nil] at ag
  rw [(and_comm' ins (andL l a b) b a).1, (and_comm' ins (andL l a b) b a).2, ag.1, ag.2] at c2
  have c3 := axor_ev hg hf (by omega) la lb
  have c4 := axor_ev g2 hf2 (by omega) la2 lb2
  have xa : xorL ins (xorL ins l a b) a b = xorL ins l a b ∧ xorX ins (xorL ins l a b) a b = xorX ins l a b := mux_again hg la lb.turn lb
  rw [xa.1, xa.2] at c4
  have s1 := gsame_ev ins (andL l a b) (by omega)
  have s2 := gsame_ev ins (xorL ins l a b) (by omega)
  refine Ev.bind (f := fun k t => _) c1 ?_
  refine Ev.bind (f := fun k t => _) c2 ?_
  refine Ev.bind (f := fun k t => _) c3 ?_
  refine Ev.bind (f := fun k t => _) c4 ?_
  refine Ev.ite_pos (by trivial) ?_
  refine Ev.bind (f := fun k t => _) s1 ?_
  refine Ev.ite_pos (by trivial) ?_
  refine Ev.ite_pos (by trivial) ?_
  refine Ev.bind (f := fun k t => _) s2 ?_
  refine Ev.ite_pos (by trivial) ?_
  refine Ev.const ?_
  rw [beq_self_eq_true]
end Go.Proofs.Ytlnjefcfbncegaa.Pure
