/- The pure statement of CnfGrows: clauses of a graph begin with those of what it was ahead of its last ands. -/
import Derived.Test.YtdfbnlmjnollnaaXbSCnfGrows
import Derived.Test.YtdfbnlmjnollnaaPCnf
namespace Go.Proofs.Ytdfbnlmjnollnaa.Pure
open Go.RowKit Go.Proofs.YtdfbnlmjnollnaaW.PrintWords Go.Proofs.YtdfbnlmjnollnaaW.PrintMore Go.Proofs.Ytdfbnlmjnollnaa.PBits Go.Proofs.Ytdfbnlmjnollnaa.PAig Go.Proofs.Ytdfbnlmjnollnaa.PCnf Go.Proofs.Ytdfbnlmjnollnaa.Xb
theorem opOk {x : S53} (h : B53 x) : OpOk x := ⟨lit_u8 h.1, lit_u16 h.2.1, lit_u16 h.2.2.1, lit_u16 h.2.2.2⟩
theorem good_take {ins : Int} {l : List A2} (h : GoodA ins l) (m : Nat) : GoodA ins (l.take m) := by
  have key : ∀ (i : Nat) (x : A2), (l.take m)[i]? = some x → l[i]? = some x := by
    intro i x hx
    rw [List.getElem?_take] at hx
    split at hx
    · exact hx
    · cases hx
  exact ⟨h.ins0, h.ins1, fun i x hx => h.in_ i x (key i x hx), fun i j x hi hj => h.once i j x (key i x hi) (key j x hj)⟩
theorem cls_take (ins off : Int) (l : List A2) (m : Nat) (hm : m ≤ l.length) : ∀ k, k ≤ m → cls ins off (l.take m) k = cls ins off l k
  | 0, _ => rfl
  | k + 1, hk => by
    unfold cls
    rw [cls_take ins off l m hm k (by omega)]
    have : (l.take m).getD k z49 = l.getD k z49 := by
      rw [List.getD_eq_getElem?_getD, List.getD_eq_getElem?_getD, List.getElem?_take, if_pos (by omega)]
    rw [this]
theorem cls_prefix (ins off : Int) (l : List A2) : ∀ k m, m ≤ k → ∃ t, cls ins off l k = cls ins off l m ++ t
  | 0, m, h => by
    obtain rfl : m = 0 := by omega
    exact ⟨[], by simp⟩
  | k + 1, m, h => by
    by_cases e : m = k + 1
    · subst e
      exact ⟨[], by simp⟩
    · obtain ⟨t, ht⟩ := cls_prefix ins off l k m (by omega)
      exact ⟨t ++ three ins off k (l.getD k z49), by rw [cls, ht, List.append_assoc]⟩
theorem CnfGrows : proofmarklaw17_CnfGrows.Pure := by
  intro x0 x1 x2 x3 w0 w1 w2 w3
  have b0 := lit_u8 w0
  have b2 := lit_u16 w2
  have b3 := lit_u16 w3
  refine Ev.rounds (r := true) ?_
  unfold proofmarklaw17_CnfGrows.f
  refine Ev.bind (f := fun k t => _) head_ev ?_
  rw [great_f]
  simp only [Option.bind_some]
  by_cases hl : (x1.length : Int) > 120
  · simp only [decide_eq_true hl, if_true]
    exact Ev.now _
  simp only [decide_eq_false hl, Bool.false_eq_true, if_false]
  obtain ⟨ins, l, lits, hev, hg, hn⟩ := made_ev x0 x1 b0.1 b0.2 (fun x hx => opOk (w1.2 x hx)) (by omega)
  refine Ev.bind (f := fun k bt => _) hev ?_
  have e3 : wrap64 x3 = x3 := w64 (by omega) (by omega)
  have e2 : wrap64 x2 = x2 := w64 (by omega) (by omega)
  have e4 : wrap64 ((l.length : Int) + 1) = (l.length : Int) + 1 := w64 (by omega) (by omega)
  have e5 : Int.tmod x3 ((l.length : Int) + 1) = x3 % ((l.length : Int) + 1) := tmodn b3.1
  simp only [e2, e3, e4, e5]
  clear e2 e3 e4 e5
  have m0 : 0 ≤ x3 % ((l.length : Int) + 1) := Int.emod_nonneg _ (by omega)
  have m1 : x3 % ((l.length : Int) + 1) < (l.length : Int) + 1 := Int.emod_lt_of_pos _ (by omega)
  obtain ⟨m, hm⟩ := Int.eq_ofNat_of_zero_le m0
  rw [hm] at m0 m1
  simp only [hm]
  have hml : m ≤ l.length := by omega
  have lt : (l.take m).length = m := by rw [List.length_take]; omega
  have c1 := clauses_f hg (by omega) b2.1 (show x2 < 100000000 by omega)
  have c2 := clauses_f (good_take hg m) (by omega) b2.1 (show x2 < 100000000 by omega)
  rw [lt, cls_take ins x2 l m hml m (Nat.le_refl _)] at c2
  have z1 : ¬ ((l.length : Int) + 1 = 0) := by omega
  have z2 : 0 ≤ (m : Int) := by omega
  have z3 : (m : Int) ≤ (l.length : Int) := by omega
  rw [Int.toNat_natCast]
  refine Ev.ite_neg z1 ?_
  refine Ev.bindc (f := fun k t => _) c1 ?_
  refine Ev.ite_pos z2 (Ev.ite_pos z3 ?_)
  refine Ev.bindc (f := fun k t => _) c2 ?_
  refine Ev.ite_pos trivial ?_
  simp only [cls_len]
  have q1 : wrap64 (1 + wrap64 (3 * (l.length : Int))) = ((1 + 3 * l.length : Nat) : Int) := by rw [w64 (n := 3 * (l.length : Int)) (by omega) (by omega), w64 (by omega) (by omega)]; push_cast; rfl
  have q2 : wrap64 (1 + wrap64 (3 * (m : Int))) = ((1 + 3 * m : Nat) : Int) := by rw [w64 (n := 3 * (m : Int)) (by omega) (by omega), w64 (by omega) (by omega)]; push_cast; rfl
  rw [q1, q2]
  clear q1 q2
  have z4 : (0 : Int) ≤ ((1 + 3 * m : Nat) : Int) := by omega
  have z5 : ((1 + 3 * m : Nat) : Int) ≤ ((1 + 3 * l.length : Nat) : Int) := by omega
  refine Ev.ite_pos rfl (Ev.ite_pos rfl (Ev.ite_pos z4 (Ev.ite_pos z5 ?_)))
  rw [Int.toNat_natCast]
  obtain ⟨t, ht⟩ := cls_prefix ins x2 l l.length m hml
  have ht2 : (cls ins x2 l l.length).take (1 + 3 * m) = cls ins x2 l m := by
    rw [ht]
    exact List.take_left' (cls_len _ _ _ _)
  rw [ht2]
  refine Ev.bind (f := fun k t => _) (same_ev _ (by rw [cls_len]; omega) (cls_rows _ _ _ _)) (Ev.now _)
end Go.Proofs.Ytdfbnlmjnollnaa.Pure
