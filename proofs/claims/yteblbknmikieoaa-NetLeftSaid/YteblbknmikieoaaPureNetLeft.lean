/- Slimmed by this session: what nothing names is struck out. -/
import Derived.Test.YteblbknmikieoaaXbSNetLeft
import Derived.Test.YteblbknmikieoaaP9Head
import Derived.Test.YteblbknmikieoaaP9Net
import Derived.Test.YteblbknmikieoaaP9App
namespace Go.Proofs.Yteblbknmikieoaa.Pure
open Go.RowKit Go.Proofs.YteblbknmikieoaaW.PrintWords Go.Proofs.YteblbknmikieoaaW.PrintMore Go.Proofs.Yteblbknmikieoaa.PBits Go.Proofs.Yteblbknmikieoaa.PVec Go.Proofs.Yteblbknmikieoaa.P9 Go.Proofs.Yteblbknmikieoaa.Xb
set_option linter.unusedVariables false
set_option linter.unusedSimpArgs false
theorem NetLeft : w9_NetLeft.Pure := by
  intro n a b x hx ha hb hx3
  have ha' : ∀ z ∈ a, 0 ≤ z ∧ z ≤ 65535 := fun z hz => lit_u16 (ha.2 z hz)
  have hb' : ∀ z ∈ b, 0 ≤ z ∧ z ≤ 65535 := fun z hz => lit_u16 (hb.2 z hz)
  have hx' := lit_u16 hx3
  clear hx ha hb hx3
  generalize n.f0 = N
  generalize n.f1 = I
  generalize n.f2 = C
  generalize n.f3 = P
  generalize n.f4 = Q
  refine Ev.rounds (r := true) ?_
  unfold w9_NetLeft.f
  obtain ⟨g, hg, hs⟩ := great_f (N := N) (I := I) (C := C) (P := P) (Q := Q)
  refine Ev.bind (f := fun k t => _) head09 ?_
  simp only [hg, Option.bind_some]
  have j0 : Ev (fun k => w9_NetLeft.j0 k a b x true true N I C P Q) true := Ev.step (fun k => by simp only [w9_NetLeft.j0]; rw [if_pos trivial]) (Ev.now _)
  cases g with
  | true => exact Ev.ite_pos rfl j0
  | false =>
    obtain ⟨s, hn⟩ := hs rfl
    refine Ev.ite_neg (by decide) ?_
    obtain ⟨q, hq, hr⟩ := right_ev s
    refine Ev.bind (f := fun k t => _) hq ?_
    cases q with
    | false => exact Ev.ite_neg (by decide) j0
    | true =>
      have r := hr.1 rfl
      refine Ev.ite_pos rfl ?_
      rw [decide_eq_false (show ¬ ((N.length : Int) ≥ 4000) by omega)]
      have s3 := s.c
      obtain ⟨st, ins, hrow, hi, hst⟩ := rows_ev s r ha' hb'
      have hwx : wrap64 x = x := w64 (by omega) (by omega)
      refine Ev.step (fun k => rfl) ?_
      simp only [w9_NetLeft.j0, Bool.false_eq_true, if_false, Option.bind_some, List.nil_append, List.length_nil, Nat.zero_add, hwx]
      refine Ev.ite_pos (by omega) (Ev.ite_pos (by omega) ?_)
      generalize hy : (⟨1, 16, 0, 0, 0, x, 0⟩ : Nd) = y
      have y1 : y.f0 ≠ 21 := by subst hy; show (1 : Int) ≠ 21; decide
      have y2 : y.f0 ≠ 22 := by subst hy; show (1 : Int) ≠ 22; decide
      have hyn : NodeP (N ++ [y]) N.length := by
        have e : nd (N ++ [y]) (N.length : Int) = y := nd_last
        have p16 : P2 16 = 65536 := rfl
        have o1 : opk 1 = 0 := by decide
        refine ⟨?_, ?_, ?_, ?_, ?_, ?_, ?_⟩ <;> rw [e] <;> subst hy <;> simp only [o1, p16, FitP]
        · decide
        · decide
        · decide
        · exact fun _ => trivial
        · exact fun _ => trivial
        · exact fun _ => trivial
        · exact Or.inl ⟨trivial, hx'.1, by omega, trivial⟩
      have r' : RightP (N ++ [y]) I C [] [] := right_app r (by omega) hyn y1 y2 rfl (fun d hd => by
        obtain ⟨q1, q2, q3, q4, q5⟩ := cell_in r hd
        exact cellP_app q1 q2 q3 q4 q5) (by simp) (by simp) (by simp)
      have s' : Small (N ++ [y]) I C [] [] := ⟨by simp; omega, s.i, s.c, by simp, by simp⟩
      have hi' : Fits (N ++ [y]) (frm (N ++ [y]) 21 0 (N ++ [y]).length) ins := by
        rw [frm_one y1]
        refine ⟨hi.1, fun j hj => ?_⟩
        obtain ⟨m0, m1, -⟩ := frm_mem _ _ _ (rd_mem hj)
        rw [nd_app (by omega) (by omega)]
        exact hi.2 j hj
      have hst' : Fits (N ++ [y]) (frm (N ++ [y]) 22 0 (N ++ [y]).length) st := by
        rw [frm_one y2]
        refine ⟨hst.1, fun j hj => ?_⟩
        obtain ⟨m0, m1, -⟩ := frm_mem _ _ _ (rd_mem hj)
        rw [nd_app (by omega) (by omega)]
        exact hst.2 j hj
      have hdo : doV (N ++ [y]) (evalV N st ins ++ [0]) y = x := by
        subst hy
        unfold doV
        rw [do_lit]
        rfl
      have hev : evalV (N ++ [y]) st ins = evalV N st ins ++ [x] := by rw [evalV_app r.nodes y1 y2, hdo]
      have hl := evalV_len N st ins
      have haf : afterV C (evalV (N ++ [y]) st ins) = afterV C (evalV N st ins) := by
        rw [hev]
        refine fillS_congr _ fun j hj => ?_
        obtain ⟨q0, q1, -⟩ := next_pos r hj
        exact rd_left q0 (by omega)
      have e1 := eval_ev s' r' hi' hst'
      have e2 := eval_ev s r hi hst
      have a1 := after_ev s' r' hi' hst'
      have a2 := after_ev s r hi hst
      rw [haf] at a1
      rw [hev] at e1
      have la : (afterV C (evalV N st ins)).length ≤ 100000 := by unfold afterV; rw [fillS_len, List.length_replicate]; exact s3
      generalize evalV N st ins = v at *
      generalize afterV C v = w at *
      refine Ev.bind (f := fun k t => _) hrow ?_
      simp only []
      refine Ev.bind (f := fun k t => _) e1 ?_
      refine Ev.bind (f := fun k t => _) (nright_ev s' r') ?_
      have z1 : (((v ++ [x]).length : Nat) : Int) = wrap64 ((N.length : Int) + 1) := by rw [succ64 (by omega)]; simp; omega
      have z2 : (N.length : Int) < (((v ++ [x]).length : Nat) : Int) := by simp; omega
      have z3 : rd (v ++ [x]) (N.length : Int) = x := by rw [rd_app (by omega), if_neg (by omega)]
      have z4 : (v ++ [x]).take ((N.length : Int) : Int).toNat = v := by rw [Int.toNat_natCast, List.take_append_of_le_length (by omega), List.take_of_length_le (by omega)]
      refine Ev.ite_pos rfl (Ev.ite_pos z1 (Ev.ite_pos (by omega) (Ev.ite_pos z2 ?_)))
      rw [z3, bne_self_eq_false]
      refine Ev.step (fun k => rfl) ?_
      simp only [w9_NetLeft.j1, Bool.false_eq_true, if_false, if_true, z4]
      refine Ev.ite_pos (by omega) (Ev.ite_pos (by omega) ?_)
      refine Ev.bind (f := fun k t => _) e2 ?_
      refine Ev.bind (f := fun k t => _) (same_ev (by omega)) ?_
      refine Ev.ite_pos rfl ?_
      refine Ev.bind (f := fun k t => _) a1 ?_
      refine Ev.bind (f := fun k t => _) a2 ?_
      refine Ev.bind (f := fun k t => _) (same_ev la) ?_
      exact Ev.now _
end Go.Proofs.Yteblbknmikieoaa.Pure
