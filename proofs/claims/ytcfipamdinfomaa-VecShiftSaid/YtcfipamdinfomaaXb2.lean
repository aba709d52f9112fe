/- Printed by this session's program xprint.py (over the kit's print): the Go functions named below come to the Lean functions of the same names, whatever the world. -/
import Derived.Test.YtcfipamdinfomaaXb0
namespace Go.Proofs.Ytcfipamdinfomaa.Xb
open Go.RowKit Go.Proofs.YtcfipamdinfomaaW.PrintWords Go.Proofs.YtcfipamdinfomaaW.PrintLast Go.Proofs.YtcfipamdinfomaaW.PrintMore
attribute [local go_sem] max2_int min2_int max_two min_two max_three min_three max_four min_four   -- for this text's walks alone
set_option linter.unusedVariables false
set_option linter.unusedSimpArgs false

/-! ### vec_works_2: function 27 -/
def vec_works_2.f (a0 : Int) (a1 : Int) : Option (Int) := some (Go.bits .xor .i64 (-1) a0)
set_option maxHeartbeats 8000000 in
set_option maxRecDepth 100000 in
theorem vec_works_2.calls (a0 : Int) (a1 : Int) (r : Int) (w : World) (h : vec_works_2.f a0 a1 = some r) :
  Calls Try.prog 27 #[.int .i64 a0, .int .i64 a1] w fun e w' => e = .returned (.int .i64 r) ∧ Drawn0 w w' := by
 have H : (some (Go.bits .xor .i64 (-1) a0)) = some r := h
 clear h
 obtain rfl := Option.some.inj H
 go_enter Try.func27, Try.ntmps27
 go_wp2
 go_ret
 exact ⟨by first | rfl | (simp; done) | (simp [*]; done), by repeat (first | exact Drawn0.refl _ | apply Drawn0.step)⟩

end Go.Proofs.Ytcfipamdinfomaa.Xb
