/- Plain facts: whether clauses are of variables within bounds. -/
import Derived.Test.YtdfbnlmjnollnaaPCnf
import Derived.Test.YtdfbnlmjnollnaaXb21
namespace Go.Proofs.Ytdfbnlmjnollnaa.PCnf
open Go.RowKit Go.Proofs.YtdfbnlmjnollnaaW.PrintWords Go.Proofs.YtdfbnlmjnollnaaW.PrintMore Go.Proofs.Ytdfbnlmjnollnaa.PBits Go.Proofs.Ytdfbnlmjnollnaa.PAig Go.Proofs.Ytdfbnlmjnollnaa.Xb
theorem within_ev (a : List (List Int)) (off most : Int) (ha : a.length < 1000000000) (hr : ∀ r ∈ a, r.length < 1000000000) (hi : In a off most) (hm : most < 1000000000) : Ev (fun k => proofmarklaw17_within.f k a off most) true := by
  have outer : ∀ d i, a.length - i = d → i ≤ a.length → Ev (fun k => proofmarklaw17_within.l0 k a off most (i : Int)) true := by
    intro d
    induction d with
    | zero =>
      intro i hd hi
      have z : ¬ ((i : Int) < (a.length : Int)) := by omega
      exact Ev.step (fun k => by simp only [proofmarklaw17_within.l0]; rw [if_neg z]) (Ev.now _)
    | succ d ih =>
      intro i hd hle
      have hlt : i < a.length := by omega
      have hb := hr _ (List.getElem_mem hlt)
      have z1 : (i : Int) < (a.length : Int) := by omega
      have z0 : (0 : Int) ≤ (i : Int) := by omega
      have inner : ∀ e j, a[i].length - j = e → j ≤ a[i].length → Ev (fun k => proofmarklaw17_within.l1 k a off most (i : Int) (j : Int)) true := by
        intro e
        induction e with
        | zero =>
          intro j he hj
          have hn := ih (i + 1) (by omega) (by omega)
          refine Ev.step (fun k => ?_) hn
          have z2 : ¬ ((j : Int) < (a[i].length : Int)) := by omega
          simp only [proofmarklaw17_within.l1]
          rw [rows_get hlt, if_pos z0, if_pos z1, if_neg z2, succ64 (by omega)]
        | succ e ih2 =>
          intro j he hj
          have hn := ih2 (j + 1) (by omega) (by omega)
          have hjl : j < a[i].length := by omega
          have z2 : (j : Int) < (a[i].length : Int) := by omega
          have z3 : (0 : Int) ≤ (j : Int) := by omega
          obtain ⟨b1, b2⟩ := hi _ (List.getElem_mem hlt) _ (List.getElem_mem hjl)
          have w : wrap64 (-(a[i][j])) = -(a[i][j]) := w64 (by omega) (by omega)
          have z4 : ¬ (max (a[i][j]) (-(a[i][j])) ≤ off) := by omega
          have z5 : ¬ (max (a[i][j]) (-(a[i][j])) > most) := by omega
          refine Ev.step (fun k => ?_) hn
          simp only [proofmarklaw17_within.l1]
          rw [rows_get hlt, if_pos z0, if_pos z1, if_pos z2, if_pos z3, rd_get hjl, w, mx_max, if_neg z4, if_neg z5, succ64 (by omega)]
      have hn := inner 0
      refine Ev.step (fun k => ?_) (inner _ 0 rfl (by omega))
      simp only [proofmarklaw17_within.l0]
      rw [if_pos z1]
      rfl
  unfold proofmarklaw17_within.f
  exact outer _ 0 rfl (by omega)
end Go.Proofs.Ytdfbnlmjnollnaa.PCnf
