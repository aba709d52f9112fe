/- Slimmed by this session: what nothing names is struck out. -/
import Derived.Test.YtlnjefcfbncegaaXb0
namespace Go.Proofs.Ytlnjefcfbncegaa.Xb
open Go.RowKit Go.Proofs.YtlnjefcfbncegaaW.PrintWords Go.Proofs.YtlnjefcfbncegaaW.PrintLast Go.Proofs.YtlnjefcfbncegaaW.PrintMore
attribute [local go_sem] max2_int min2_int max_two min_two max_three min_three max_four min_four
set_option linter.unusedVariables false
set_option linter.unusedSimpArgs false
theorem aig_rules.calls (w : World) : Calls Try.prog 39 #[] w fun e w' => e = .returned (.slice (some ⟨w.heap.size, 0, none⟩) 3 3) ∧ w.alloc (.cells #[.func (.func 42) #[] #[], .func (.func 40) #[] #[], .func (.func 43) #[] #[], .func (.func 40) #[] #[], .func (.func 44) #[] #[], .func (.func 41) #[] #[]] 67) = w' := by
 go_enter Try.func39, Try.ntmps39
 go_wp2
 go_ret
 exact ⟨rfl, rfl⟩
set_option maxHeartbeats 1000000 in
set_option maxRecDepth 100000 in
theorem aig_plain.walk1 (a b : Int) (w : World) (c1 : (a == 0) = true) : Calls Try.prog 34 #[.agg #[.int .i64 a, .int .i64 b]] w fun e w' => e = .returned (.tuple #[.int .i64 (0), .bool true]) ∧ Below w.heap.size w w' := by
 have hix0 : ∀ (x0 x1 : Value) (W : World), (Instr.index 53 (.agg #[x0, x1]) (.int .i64 0)).run Try.prog W = .ok x0 W := fun _ _ _ => by kernel_rfl
 have hix1 : ∀ (x0 x1 : Value) (W : World), (Instr.index 53 (.agg #[x0, x1]) (.int .i64 1)).run Try.prog W = .ok x1 W := fun _ _ _ => by kernel_rfl
 go_enter Try.func34, Try.ntmps34
 go_wp2_with (go_at_call 39; refine (aig_rules.calls _).mono ?_; rintro e w' ⟨rfl, rfl⟩)
 refine wp_loop_rounds 1 ?_
 rw [rounds_succ]
 go_wp2
 repeat (go_quiet (fail); try go_wp2)
 go_ret2
 exact ⟨rfl, by repeat (first | exact Below.refl _ _ | apply below_alloc)⟩
set_option maxHeartbeats 1000000 in
set_option maxRecDepth 100000 in
theorem aig_plain.walk2 (a b : Int) (w : World) (c1 : (a == 0) = false) (c2 : (Go.bits .xor .i64 a 1 == b) = true) : Calls Try.prog 34 #[.agg #[.int .i64 a, .int .i64 b]] w fun e w' => e = .returned (.tuple #[.int .i64 (0), .bool true]) ∧ Below w.heap.size w w' := by
 have hix0 : ∀ (x0 x1 : Value) (W : World), (Instr.index 53 (.agg #[x0, x1]) (.int .i64 0)).run Try.prog W = .ok x0 W := fun _ _ _ => by kernel_rfl
 have hix1 : ∀ (x0 x1 : Value) (W : World), (Instr.index 53 (.agg #[x0, x1]) (.int .i64 1)).run Try.prog W = .ok x1 W := fun _ _ _ => by kernel_rfl
 go_enter Try.func34, Try.ntmps34
 go_wp2_with (go_at_call 39; refine (aig_rules.calls _).mono ?_; rintro e w' ⟨rfl, rfl⟩)
 refine wp_loop_rounds 2 ?_
 rw [rounds_succ]
 go_wp2
 repeat (go_quiet (fail); try go_wp2)
 rw [rounds_succ]
 go_wp2
 repeat (go_quiet (fail); try go_wp2)
 go_ret2
 exact ⟨rfl, by repeat (first | exact Below.refl _ _ | apply below_alloc)⟩
set_option maxHeartbeats 1000000 in
set_option maxRecDepth 100000 in
theorem aig_plain.walk3 (a b : Int) (w : World) (c1 : (a == 0) = false) (c2 : (Go.bits .xor .i64 a 1 == b) = false) (c3 : (a == 1) = true) : Calls Try.prog 34 #[.agg #[.int .i64 a, .int .i64 b]] w fun e w' => e = .returned (.tuple #[.int .i64 (b), .bool true]) ∧ Below w.heap.size w w' := by
 have hix0 : ∀ (x0 x1 : Value) (W : World), (Instr.index 53 (.agg #[x0, x1]) (.int .i64 0)).run Try.prog W = .ok x0 W := fun _ _ _ => by kernel_rfl
 have hix1 : ∀ (x0 x1 : Value) (W : World), (Instr.index 53 (.agg #[x0, x1]) (.int .i64 1)).run Try.prog W = .ok x1 W := fun _ _ _ => by kernel_rfl
 go_enter Try.func34, Try.ntmps34
 go_wp2_with (go_at_call 39; refine (aig_rules.calls _).mono ?_; rintro e w' ⟨rfl, rfl⟩)
 refine wp_loop_rounds 3 ?_
 rw [rounds_succ]
 go_wp2
 repeat (go_quiet (fail); try go_wp2)
 rw [rounds_succ]
 go_wp2
 repeat (go_quiet (fail); try go_wp2)
 rw [rounds_succ]
 go_wp2
 repeat (go_quiet (fail); try go_wp2)
 go_ret2
 exact ⟨rfl, by repeat (first | exact Below.refl _ _ | apply below_alloc)⟩
set_option maxHeartbeats 1000000 in
set_option maxRecDepth 100000 in
theorem aig_plain.walk4 (a b : Int) (w : World) (c1 : (a == 0) = false) (c2 : (Go.bits .xor .i64 a 1 == b) = false) (c3 : (a == 1) = false) (c4 : (a == b) = true) : Calls Try.prog 34 #[.agg #[.int .i64 a, .int .i64 b]] w fun e w' => e = .returned (.tuple #[.int .i64 (b), .bool true]) ∧ Below w.heap.size w w' := by
 have hix0 : ∀ (x0 x1 : Value) (W : World), (Instr.index 53 (.agg #[x0, x1]) (.int .i64 0)).run Try.prog W = .ok x0 W := fun _ _ _ => by kernel_rfl
 have hix1 : ∀ (x0 x1 : Value) (W : World), (Instr.index 53 (.agg #[x0, x1]) (.int .i64 1)).run Try.prog W = .ok x1 W := fun _ _ _ => by kernel_rfl
 go_enter Try.func34, Try.ntmps34
 go_wp2_with (go_at_call 39; refine (aig_rules.calls _).mono ?_; rintro e w' ⟨rfl, rfl⟩)
 refine wp_loop_rounds 3 ?_
 rw [rounds_succ]
 go_wp2
 repeat (go_quiet (fail); try go_wp2)
 rw [rounds_succ]
 go_wp2
 repeat (go_quiet (fail); try go_wp2)
 rw [rounds_succ]
 go_wp2
 repeat (go_quiet (fail); try go_wp2)
 go_ret2
 exact ⟨rfl, by repeat (first | exact Below.refl _ _ | apply below_alloc)⟩
set_option maxHeartbeats 1000000 in
set_option maxRecDepth 100000 in
theorem aig_plain.walk5 (a b : Int) (w : World) (c1 : (a == 0) = false) (c2 : (Go.bits .xor .i64 a 1 == b) = false) (c3 : (a == 1) = false) (c4 : (a == b) = false) : Calls Try.prog 34 #[.agg #[.int .i64 a, .int .i64 b]] w fun e w' => e = .returned (.tuple #[.int .i64 (0), .bool false]) ∧ Below w.heap.size w w' := by
 have hix0 : ∀ (x0 x1 : Value) (W : World), (Instr.index 53 (.agg #[x0, x1]) (.int .i64 0)).run Try.prog W = .ok x0 W := fun _ _ _ => by kernel_rfl
 have hix1 : ∀ (x0 x1 : Value) (W : World), (Instr.index 53 (.agg #[x0, x1]) (.int .i64 1)).run Try.prog W = .ok x1 W := fun _ _ _ => by kernel_rfl
 go_enter Try.func34, Try.ntmps34
 go_wp2_with (go_at_call 39; refine (aig_rules.calls _).mono ?_; rintro e w' ⟨rfl, rfl⟩)
 refine wp_loop_rounds 4 ?_
 rw [rounds_succ]
 go_wp2
 repeat (go_quiet (fail); try go_wp2)
 rw [rounds_succ]
 go_wp2
 repeat (go_quiet (fail); try go_wp2)
 rw [rounds_succ]
 go_wp2
 repeat (go_quiet (fail); try go_wp2)
 rw [rounds_succ]
 go_wp2
 repeat (go_quiet (fail); try go_wp2)
 go_ret2
 exact ⟨rfl, by repeat (first | exact Below.refl _ _ | apply below_alloc)⟩
def aig_plain.f (a0_0 : Int) (a0_1 : Int) : Option (Int × Bool) :=
 if a0_0 = 0 then some (0, true) else if Go.bits .xor .i64 a0_0 1 = a0_1 then some (0, true) else if a0_0 = 1 then some (a0_1, true) else if a0_0 = a0_1 then some (a0_1, true) else some (0, false)
theorem aig_plain.calls (a0_0 : Int) (a0_1 : Int) (r1 : Int) (r2 : Bool) (w : World) (h : aig_plain.f a0_0 a0_1 = some (r1, r2)) :
  Calls Try.prog 34 #[.agg #[.int .i64 a0_0, .int .i64 a0_1]] w fun e w' => e = .returned (.tuple #[.int .i64 r1, .bool r2]) ∧ Below w.heap.size w w' := by
 unfold aig_plain.f at h
 by_cases c1 : a0_0 = 0
 ·rw [if_pos c1] at h
  cases h
  exact aig_plain.walk1 _ _ _ (beq_iff_eq.mpr c1)
 rw [if_neg c1] at h
 by_cases c2 : Go.bits .xor .i64 a0_0 1 = a0_1
 ·rw [if_pos c2] at h
  cases h
  exact aig_plain.walk2 _ _ _ (beq_eq_false_iff_ne.mpr c1) (beq_iff_eq.mpr c2)
 rw [if_neg c2] at h
 by_cases c3 : a0_0 = 1
 ·rw [if_pos c3] at h
  cases h
  exact aig_plain.walk3 _ _ _ (beq_eq_false_iff_ne.mpr c1) (beq_eq_false_iff_ne.mpr c2) (beq_iff_eq.mpr c3)
 rw [if_neg c3] at h
 by_cases c4 : a0_0 = a0_1
 ·rw [if_pos c4] at h
  cases h
  exact aig_plain.walk4 _ _ _ (beq_eq_false_iff_ne.mpr c1) (beq_eq_false_iff_ne.mpr c2) (beq_eq_false_iff_ne.mpr c3) (beq_iff_eq.mpr c4)
 rw [if_neg c4] at h
 cases h
 exact aig_plain.walk5 _ _ _ (beq_eq_false_iff_ne.mpr c1) (beq_eq_false_iff_ne.mpr c2) (beq_eq_false_iff_ne.mpr c3) (beq_eq_false_iff_ne.mpr c4)
end Go.Proofs.Ytlnjefcfbncegaa.Xb
