/- Slimmed by this session: what nothing names is struck out. -/
import Derived.Test.YtlnjefcfbncegaaXb0
namespace Go.Proofs.Ytlnjefcfbncegaa.Xb
open Go.RowKit Go.Proofs.YtlnjefcfbncegaaW.PrintWords Go.Proofs.YtlnjefcfbncegaaW.PrintLast Go.Proofs.YtlnjefcfbncegaaW.PrintMore
attribute [local go_sem] max2_int min2_int max_two min_two max_three min_three max_four min_four
set_option linter.unusedVariables false
set_option linter.unusedSimpArgs false
def proofmarkref13_turn.f (a0 : Int) : Option (Int) := some (Go.bits .xor .i64 a0 1)
set_option maxHeartbeats 8000000 in
set_option maxRecDepth 100000 in
theorem proofmarkref13_turn.calls (a0 : Int) (r : Int) (w : World) (h : proofmarkref13_turn.f a0 = some r) :
  Calls Try.prog 38 #[.int .i64 a0] w fun e w' => e = .returned (.int .i64 r) ∧ Drawn0 w w' := by
 have H : (some (Go.bits .xor .i64 a0 1)) = some r := h
 clear h
 obtain rfl := Option.some.inj H
 go_enter Try.func38, Try.ntmps38
 go_wp2
 go_ret
 exact ⟨by first | rfl | (simp; done) | (simp [*]; done), by repeat (first | exact Drawn0.refl _ | apply Drawn0.step)⟩
end Go.Proofs.Ytlnjefcfbncegaa.Xb
