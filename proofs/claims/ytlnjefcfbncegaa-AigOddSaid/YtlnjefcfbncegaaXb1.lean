/- Slimmed by this session: what nothing names is struck out. -/
import Derived.Test.YtlnjefcfbncegaaXb0
namespace Go.Proofs.Ytlnjefcfbncegaa.Xb
open Go.RowKit Go.Proofs.YtlnjefcfbncegaaW.PrintWords Go.Proofs.YtlnjefcfbncegaaW.PrintLast Go.Proofs.YtlnjefcfbncegaaW.PrintMore
attribute [local go_sem] max2_int min2_int max_two min_two max_three min_three max_four min_four
set_option linter.unusedVariables false
set_option linter.unusedSimpArgs false
theorem eqA50 (d : Nat) (w : World) (x0 y0 : Int) (x1 y1 : Int) :
  (Op.equalIn (d + 2) 50 (.agg #[.int .i64 x0, .int .i64 x1]) (.agg #[.int .i64 y0, .int .i64 y1])).run Try.prog w = .ok (x0 == y0 && (x1 == y1)) w := by
 obtain ⟨i, hi⟩ := Option.isSome_iff_exists.mp (show (Try.prog.info? 3).isSome = true by kernel_rfl)
 rw [run_equalIn_array w (d + 1) _ _ Try.underlying50 hi]
 have e0 : Try.prog.cellsOf 3 = 1 := by kernel_rfl
 simp only [List.range_eq_range', List.range', e0, Op.eqItems, Nat.zero_mul, Nat.one_mul, Nat.zero_add]
 go_simp
 by_cases h0 : x0 = y0 <;> by_cases h1 : x1 = y1 <;> simp [h0, h1]
end Go.Proofs.Ytlnjefcfbncegaa.Xb
