/- The pure statement of CnfTurn: literals and their opposites; a literal's number tells it. -/
import Derived.Test.YtdfbnlmjnollnaaXbSCnfTurn
import Derived.Test.YtdfbnlmjnollnaaPCnf
namespace Go.Proofs.Ytdfbnlmjnollnaa.Pure
open Go.RowKit Go.Proofs.YtdfbnlmjnollnaaW.PrintWords Go.Proofs.YtdfbnlmjnollnaaW.PrintMore Go.Proofs.Ytdfbnlmjnollnaa.PBits Go.Proofs.Ytdfbnlmjnollnaa.PAig Go.Proofs.Ytdfbnlmjnollnaa.PCnf Go.Proofs.Ytdfbnlmjnollnaa.Xb
theorem ofv_turn {a off : Int} (h0 : 0 ≤ a) (h2 : 0 ≤ off) : ofv (turn a) off = -(ofv a off) := by unfold ofv turn; split <;> split <;> omega
theorem ofv_inj {a b off : Int} (h0 : 0 ≤ a) (h1 : 0 ≤ b) (h2 : 0 ≤ off) : ofv a off = ofv b off ↔ a = b := by unfold ofv; constructor <;> (split <;> split <;> omega)
theorem ofv_neg {a off : Int} (h0 : 0 ≤ a) (h2 : 0 ≤ off) : ofv a off < 0 ↔ a % 2 = 1 := by unfold ofv; constructor <;> (split <;> omega)
theorem CnfTurn : proofmarklaw17_CnfTurn.Pure := by
  intro x0 x1 x2 w0 w1 w2
  have b0 := lit_u16 w0
  have b1 := lit_u16 w1
  have b2 := lit_u16 w2
  refine Ev.rounds (r := true) ?_
  unfold proofmarklaw17_CnfTurn.f
  refine Ev.bind (f := fun k t => _) head_ev ?_
  have e0 : wrap64 x0 = x0 := w64 (by omega) (by omega)
  have e1 : wrap64 x1 = x1 := w64 (by omega) (by omega)
  have e2 : wrap64 x2 = x2 := w64 (by omega) (by omega)
  have t0 : turn x0 < 1000000000 := by unfold turn; split <;> omega
  have hb := ofv_bd (a := x0) (off := x2) b0.1 b2.1
  have q0 := of_f b0.1 (show x0 < 1000000000 by omega) b2.1 (show x2 < 1000000000 by omega)
  have q1 := of_f b1.1 (show x1 < 1000000000 by omega) b2.1 (show x2 < 1000000000 by omega)
  have q2 := of_f (turn_nonneg b0.1) t0 b2.1 (show x2 < 1000000000 by omega)
  rw [ofv_turn b0.1 b2.1] at q2
  have e3 : wrap64 (-(ofv x0 x2)) = -(ofv x0 x2) := w64 (by omega) (by omega)
  have e4 : ((ofv x0 x2 == ofv x1 x2) == (x0 == x1)) = true := by
    rw [beq_iff_eq, Bool.eq_iff_iff, beq_iff_eq, beq_iff_eq]
    exact ofv_inj b0.1 b1.1 b2.1
  have e5 := ofv_abs (a := x0) (off := x2) b0.1 b2.1
  have e6 : wrap64 ((x2 + 1 + x0 / 2) - x2) = 1 + x0 / 2 := by rw [w64 (by omega) (by omega)]; omega
  have e7 : wrap64 (1 + x0 / 2 - 1) = x0 / 2 := by rw [w64 (by omega) (by omega)]; omega
  have e8 : wrap64 (2 * (x0 / 2)) = 2 * (x0 / 2) := w64 (by omega) (by omega)
  have e9 : wrap64 (2 * (x0 / 2) + 1) = 2 * (x0 / 2) + 1 := w64 (by omega) (by omega)
  have hx := xor_one x0 b0.1 (by omega)
  have hne : ofv x0 x2 ≠ 0 := by unfold ofv; split <;> omega
  have hng := ofv_neg b0.1 b2.1 (a := x0)
  have p1 : x0 % 2 = 1 → (2 * (x0 / 2) + 1 == x0) = true := fun h => beq_iff_eq.2 (by omega)
  have p2 : ¬ x0 % 2 = 1 → (2 * (x0 / 2) == x0) = true := fun h => beq_iff_eq.2 (by omega)
  simp only [e0, e1, e2, q0, q1, Option.bind_some, hx, q2, e3, e4, if_true, mx_max, e5, e6, e7, e8, e9, if_neg hne]
  by_cases hn : ofv x0 x2 < 0
  · refine Ev.ite_pos hn (Ev.const ?_)
    rw [p1 (hng.1 hn)]
  · refine Ev.ite_neg hn (Ev.const ?_)
    rw [p2 (fun h => hn (hng.2 h))]
end Go.Proofs.Ytdfbnlmjnollnaa.Pure
