/- Slimmed by this session: what nothing names is struck out. -/
import Derived.Test.YtdfbnlmjnollnaaXb0
namespace Go.Proofs.Ytdfbnlmjnollnaa.Xb
open Go.RowKit Go.Proofs.YtdfbnlmjnollnaaW.PrintWords Go.Proofs.YtdfbnlmjnollnaaW.PrintLast Go.Proofs.YtdfbnlmjnollnaaW.PrintMore
attribute [local go_sem] max2_int min2_int max_two min_two max_three min_three max_four min_four
set_option linter.unusedVariables false
set_option linter.unusedSimpArgs false
def proofmarkref17_Of.f (a0 : Int) (a1 : Int) : Option (Int) := if (Int.tmod a0 2) = 1 then (some (wrap64 (-(wrap64 ((wrap64 (a1 + 1)) + (wrap64 (Int.tdiv a0 2))))))) else (some (wrap64 ((wrap64 (a1 + 1)) + (wrap64 (Int.tdiv a0 2)))))
set_option maxHeartbeats 8000000 in
set_option maxRecDepth 100000 in
theorem proofmarkref17_Of.calls (a0 : Int) (a1 : Int) (r : Int) (w : World) (h : proofmarkref17_Of.f a0 a1 = some r) :
  Calls Try.prog 16 #[.int .i64 a0, .int .i64 a1] w fun e w' => e = .returned (.int .i64 r) ∧ Drawn0 w w' := by
 have H : (if (Int.tmod a0 2) = 1 then (some (wrap64 (-(wrap64 ((wrap64 (a1 + 1)) + (wrap64 (Int.tdiv a0 2))))))) else (some (wrap64 ((wrap64 (a1 + 1)) + (wrap64 (Int.tdiv a0 2)))))) = some r := h
 clear h
 by_cases c3 : (Int.tmod a0 2) = 1
 ·rw [if_pos c3] at H
  have c3b0 : ((Int.tmod a0 2) == 1) = true := beq_iff_eq.mpr c3
  have c3b1 : ((Int.tmod a0 2) != 1) = false := bne_eq_false_iff_eq.mpr c3
  clear c3
  obtain rfl := Option.some.inj H
  go_enter Try.func16, Try.ntmps16
  go_wp2
  go_ret
  exact ⟨by first | rfl | (simp; done) | (simp [*]; done), by repeat (first | exact Drawn0.refl _ | apply Drawn0.step)⟩
 ·rw [if_neg c3] at H
  have c3b0 : ((Int.tmod a0 2) == 1) = false := beq_eq_false_iff_ne.mpr c3
  have c3b1 : ((Int.tmod a0 2) != 1) = true := bne_iff_ne.mpr c3
  obtain rfl := Option.some.inj H
  go_enter Try.func16, Try.ntmps16
  go_wp2
  go_ret
  exact ⟨by first | rfl | (simp; done) | (simp [*]; done), by repeat (first | exact Drawn0.refl _ | apply Drawn0.step)⟩
end Go.Proofs.Ytdfbnlmjnollnaa.Xb
