/- Functions, executed. -/
import Derived.Test.YtnjoiokbeknopaaGreatF1
namespace Go.Proofs.YtnjoiokbeknopaaGreat.Am
set_option linter.unusedVariables false
set_option maxRecDepth 100000
noncomputable def ref13_And_j1 (n : Nat) (d5 : Int × Int × Unit) (r7 : Int × Unit) (x1 : Int) (x2 : List Kii) : Option ((Int × Int × List Kii × Unit)) :=
 cond (decide (r7.1 < 0))
 (ask (True ∧ ((([] : List Kii)).length + x2.length) * 16 ≤ 140737488355328) (ask (True ∧ ((([] : List Kii) ++ x2).length + (([(d5.1, d5.2.1)] : List Kii)).length) * 16 ≤ 140737488355328) (some ((x2.length : Int), x1, (([] : List Kii) ++ x2) ++ ([(d5.1, d5.2.1)] : List Kii), ()))))
 (some (r7.1, x1, x2, ()))
noncomputable def ref13_And_j2 (n : Nat) (d5 : Int × Int × Unit) (r10 : Int × Unit) (x1 : Int) (x2 : List Kii) : Option ((Int × Int × List Kii × Unit)) :=
 cond (decide (r10.1 < 0))
 (ask (True ∧ ((([] : List Kii)).length + x2.length) * 16 ≤ 140737488355328) (ask (True ∧ ((([] : List Kii) ++ x2).length + (([(d5.1, d5.2.1)] : List Kii)).length) * 16 ≤ 140737488355328) (some ((x2.length : Int), x1, (([] : List Kii) ++ x2) ++ ([(d5.1, d5.2.1)] : List Kii), ()))))
 (some (r10.1, x1, x2, ()))
noncomputable def ref13_And (n : Nat) (x1 : Int) (x2 : List Kii) (x3 : Int) (x4 : Int) : Option (Int × List Kii × Int × Unit) :=
 ((cond (decide (x4 < x3))
 (some (x4, x3, ()))
 (some (x3, x4, ()))) : Option ((Int × Int × Unit))).bind (fun d5 => cond (decide (d5.1 = 0))
 (some (x1, x2, 0, ()))
 (ask ((2 : Int) ≠ 0) (ask ((2 : Int) ≠ 0) (cond (decide ((IntKind.wrap .i64 (Int.tdiv d5.1 2)) = (IntKind.wrap .i64 (Int.tdiv d5.2.1 2))))
 (cond (decide (d5.1 ≠ d5.2.1))
 (some (x1, x2, 0, ()))
 (((cond (decide (d5.1 = 1))
 (some (true, ()))
 (some (decide (d5.1 = d5.2.1), ()))) : Option ((Bool × Unit))).bind (fun d6 => cond d6.1
 (some (x1, x2, d5.2.1, ()))
 ((ref13_find n x1 x2 d5.1 d5.2.1 (x2.length : Int)).bind (fun r7 => (ref13_And_j1 n d5 r7 x1 x2).bind (fun d8 => some (d8.2.1, d8.2.2.1, IntKind.wrap .i64 ((2 : Int) * (IntKind.wrap .i64 ((IntKind.wrap .i64 (d8.2.1 + 1)) + d8.1))), ())))))))
 (((cond (decide (d5.1 = 1))
 (some (true, ()))
 (some (decide (d5.1 = d5.2.1), ()))) : Option ((Bool × Unit))).bind (fun d9 => cond d9.1
 (some (x1, x2, d5.2.1, ()))
 ((ref13_find n x1 x2 d5.1 d5.2.1 (x2.length : Int)).bind (fun r10 => (ref13_And_j2 n d5 r10 x1 x2).bind (fun d11 => some (d11.2.1, d11.2.2.1, IntKind.wrap .i64 ((2 : Int) * (IntKind.wrap .i64 ((IntKind.wrap .i64 (d11.2.1 + 1)) + d11.1))), ()))))))))))
def ref13_And_s : Sig := ⟨[.c true [.int .i64, .row Kii_], .c false [.int .i64], .c false [.int .i64]], [], .t [(true, [.int .i64, .row Kii_]), (false, [.int .i64])], []⟩
def ref13_And_a : Ann := .s .d (.j [1, 2, 9, 10, 11, 12, 13] [] [(.normal, ⟨[(1, .c false [.int .i64]), (2, .c false [.int .i64])], []⟩)] .d (.s .d (.s (.j [29, 30, 31, 32, 33, 34, 35] [] [(.normal, ⟨[(35, .c false [.bool])], []⟩)] .d .d) (.s .d (.j [3, 8, 41, 45, 46, 47, 48, 49, 50, 51, 52, 53, 54, 55, 56, 57, 58, 59] [100] [(.normal, ⟨[(3, .c false [.con (.ptr 100 0)]), (8, .c false [.int .i64])], [(100, .var 30 [.int .i64, .row Kii_])]⟩)] .d .d)))))
noncomputable def ref13_And_c (n : Nat) : Ctr Tryz.prog := .of Tryz.func111 n [ref13_find_c n] ref13_And_a ref13_And_s (fun d => ref13_And n d.1 d.2.1 d.2.2.1 d.2.2.2.1) fun d => by kernel_rfl
noncomputable def ref13_turn (n : Nat) (x1 : Int) : Option (Int × Unit) :=
 some (bits .xor .i64 x1 1, ())
def ref13_turn_s : Sig := ⟨[.c false [.int .i64]], [], .c false [.int .i64], []⟩
def ref13_turn_a : Ann := .d
noncomputable def ref13_turn_c (n : Nat) : Ctr Tryz.prog := .of Tryz.func114 n [] ref13_turn_a ref13_turn_s (fun d => ref13_turn n d.1) fun d => by kernel_rfl
noncomputable def ref13_Or (n : Nat) (x1 : Int) (x2 : List Kii) (x3 : Int) (x4 : Int) : Option (Int × List Kii × Int × Unit) :=
 (ref13_turn n x3).bind (fun r5 => (ref13_turn n x4).bind (fun r6 => (ref13_And n x1 x2 r5.1 r6.1).bind (fun r7 => (ref13_turn n r7.2.2.1).bind (fun r8 => some (r7.1, r7.2.1, r8.1, ())))))
def ref13_Or_s : Sig := ⟨[.c true [.int .i64, .row Kii_], .c false [.int .i64], .c false [.int .i64]], [], .t [(true, [.int .i64, .row Kii_]), (false, [.int .i64])], []⟩
def ref13_Or_a : Ann := .d
noncomputable def ref13_Or_c (n : Nat) : Ctr Tryz.prog := .of Tryz.func112 n [ref13_turn_c n, ref13_And_c n] ref13_Or_a ref13_Or_s (fun d => ref13_Or n d.1 d.2.1 d.2.2.1 d.2.2.2.1) fun d => by kernel_rfl
noncomputable def ref13_Mux (n : Nat) (x1 : Int) (x2 : List Kii) (x3 : Int) (x4 : Int) (x5 : Int) : Option (Int × List Kii × Int × Unit) :=
 (ref13_And n x1 x2 x3 x4).bind (fun r6 => (ref13_turn n x3).bind (fun r7 => (ref13_And n r6.1 r6.2.1 r7.1 x5).bind (fun r8 => (ref13_Or n r8.1 r8.2.1 r6.2.2.1 r8.2.2.1).bind (fun r9 => some (r9.1, r9.2.1, r9.2.2.1, ())))))
def ref13_Mux_s : Sig := ⟨[.c true [.int .i64, .row Kii_], .c false [.int .i64], .c false [.int .i64], .c false [.int .i64]], [], .t [(true, [.int .i64, .row Kii_]), (false, [.int .i64])], []⟩
def ref13_Mux_a : Ann := .d
noncomputable def ref13_Mux_c (n : Nat) : Ctr Tryz.prog := .of Tryz.func82 n [ref13_And_c n, ref13_turn_c n, ref13_Or_c n] ref13_Mux_a ref13_Mux_s (fun d => ref13_Mux n d.1 d.2.1 d.2.2.1 d.2.2.2.1 d.2.2.2.2.1) fun d => by kernel_rfl
noncomputable def ref13_Xor (n : Nat) (x1 : Int) (x2 : List Kii) (x3 : Int) (x4 : Int) : Option (Int × List Kii × Int × Unit) :=
 (ref13_turn n x4).bind (fun r5 => (ref13_Mux n x1 x2 x3 r5.1 x4).bind (fun r6 => some (r6.1, r6.2.1, r6.2.2.1, ())))
def ref13_Xor_s : Sig := ⟨[.c true [.int .i64, .row Kii_], .c false [.int .i64], .c false [.int .i64]], [], .t [(true, [.int .i64, .row Kii_]), (false, [.int .i64])], []⟩
def ref13_Xor_a : Ann := .d
noncomputable def ref13_Xor_c (n : Nat) : Ctr Tryz.prog := .of Tryz.func113 n [ref13_turn_c n, ref13_Mux_c n] ref13_Xor_a ref13_Xor_s (fun d => ref13_Xor n d.1 d.2.1 d.2.2.1 d.2.2.2.1) fun d => by kernel_rfl
noncomputable def ref14_each_j1 (n : Nat) (d9 : Int × Int × List Kii × List Int × Unit) (x3 : Int) (x4 : List Int) (x5 : List Int) : Option ((Int × Int × List Kii × Unit)) :=
 cond (decide (x3 = 6))
 (ask (0 ≤ d9.1 ∧ d9.1 < (x4.length : Int)) (ask (0 ≤ d9.1 ∧ d9.1 < (x5.length : Int)) ((ref13_And n d9.2.1 d9.2.2.1 (Ki_at x4 d9.1) (Ki_at x5 d9.1)).bind (fun r10 => some (r10.2.2.1, r10.1, r10.2.1, ())))))
 (cond (decide (x3 = 7))
 (ask (0 ≤ d9.1 ∧ d9.1 < (x4.length : Int)) (ask (0 ≤ d9.1 ∧ d9.1 < (x5.length : Int)) ((ref13_Or n d9.2.1 d9.2.2.1 (Ki_at x4 d9.1) (Ki_at x5 d9.1)).bind (fun r11 => some (r11.2.2.1, r11.1, r11.2.1, ())))))
 (ask (0 ≤ d9.1 ∧ d9.1 < (x4.length : Int)) (ask (0 ≤ d9.1 ∧ d9.1 < (x5.length : Int)) ((ref13_Xor n d9.2.1 d9.2.2.1 (Ki_at x4 d9.1) (Ki_at x5 d9.1)).bind (fun r12 => some (r12.2.2.1, r12.1, r12.2.1, ()))))))
noncomputable def ref14_each_l2b (n : Nat) (x3 : Int) (x4 : List Int) (x5 : List Int) (self : Int × Int × List Kii × List Int × Unit → Option ((Int × List Kii × List Int × Unit))) (d9 : Int × Int × List Kii × List Int × Unit) : Option ((Int × List Kii × List Int × Unit)) :=
 cond (decide (d9.1 < (x4.length : Int)))
 ((ref14_each_j1 n d9 x3 x4 x5).bind (fun d13 => ask (True ∧ (d9.2.2.2.1.length + (([d13.1] : List Int)).length) * 8 ≤ 140737488355328) (self (IntKind.wrap .i64 (d9.1 + 1), d13.2.1, d13.2.2.1, d9.2.2.2.1 ++ ([d13.1] : List Int), ()))))
 (some (d9.2.1, d9.2.2.1, d9.2.2.2.1, ()))
noncomputable def ref14_each_l2 (n : Nat) (x3 : Int) (x4 : List Int) (x5 : List Int) : Int × Int × List Kii × List Int × Unit → Option ((Int × List Kii × List Int × Unit)) := iter (ref14_each_l2b n x3 x4 x5) n
noncomputable def ref14_each (n : Nat) (x1 : Int) (x2 : List Kii) (x3 : Int) (x4 : List Int) (x5 : List Int) : Option (Int × List Kii × List Int × Unit) :=
 (ref14_each_l2 n x3 x4 x5 (0, x1, x2, ([] : List Int), ())).bind (fun d14 => some (d14.1, d14.2.1, d14.2.2.1, ()))
def ref14_each_s : Sig := ⟨[.c true [.int .i64, .row Kii_], .c false [.int .i64], .c false [.row i_], .c false [.row i_]], [], .t [(true, [.int .i64, .row Kii_]), (false, [.row i_])], []⟩
def ref14_each_a : Ann := .s .d (.s .d (.s (.s .d (.b (.l [4, 10, 11, 12, 13, 14, 15, 16, 17, 18, 19, 20, 21, 22, 23, 24, 25, 26, 27, 28, 29, 30, 31, 32, 33, 34, 35, 36, 37, 38, 39, 40, 41, 42, 43, 44, 45, 46, 47, 48, 49, 50, 51, 52, 53, 54, 55, 56, 57, 58, 59, 60, 61, 62, 63, 64, 65, 66, 67, 68, 69] [100] ⟨[(4, .c false [.con (.ptr 100 0)]), (10, .c false [.con (.own 100000 1)]), (11, .c false [.int .i64])], [(100, .var 30 [.int .i64, .row Kii_]), (100000, .row 3 i_)]⟩ [(.exit 0, ⟨[(4, .c false [.con (.ptr 100 0)]), (10, .c false [.con (.own 100000 1)])], [(100, .var 30 [.int .i64, .row Kii_]), (100000, .row 3 i_)]⟩)] (.s .d (.s (.b (.s .d (.s .d (.j [12, 13, 21, 22, 23, 24, 25, 26, 27, 28, 29, 30, 31, 32, 33, 34, 35, 36, 37, 38, 39, 40, 41, 42, 43, 44, 45, 46, 47, 48, 49, 50, 51, 52, 53, 54, 55, 56, 57, 58, 59, 60, 61, 62, 63, 64] [100065] [(.normal, ⟨[(12, .c false [.int .i64]), (13, .c false [.con (.ptr 100065 0)])], [(100065, .var 30 [.int .i64, .row Kii_])]⟩)] .d .d)))) .d))))) .d))
noncomputable def ref14_each_c (n : Nat) : Ctr Tryz.prog := .of Tryz.func79 n [ref13_And_c n, ref13_Or_c n, ref13_Xor_c n] ref14_each_a ref14_each_s (fun d => ref14_each n d.1 d.2.1 d.2.2.1 d.2.2.2.1 d.2.2.2.2.1) fun d => by kernel_rfl
noncomputable def ref14_sum_l1b (n : Nat) (x3 : List Int) (x4 : List Int) (self : Int × Int × Int × List Kii × List Int × Unit → Option ((Int × List Kii × List Int × Unit))) (d9 : Int × Int × Int × List Kii × List Int × Unit) : Option ((Int × List Kii × List Int × Unit)) :=
 cond (decide (d9.2.1 < (x3.length : Int)))
 (ask (0 ≤ d9.2.1 ∧ d9.2.1 < (x3.length : Int)) (ask (0 ≤ d9.2.1 ∧ d9.2.1 < (x4.length : Int)) ((ref13_Xor n d9.2.2.1 d9.2.2.2.1 (Ki_at x3 d9.2.1) (Ki_at x4 d9.2.1)).bind (fun r10 => (ref13_Xor n r10.1 r10.2.1 r10.2.2.1 d9.1).bind (fun r11 => ask (0 ≤ d9.2.1 ∧ d9.2.1 < (x3.length : Int)) (ask (0 ≤ d9.2.1 ∧ d9.2.1 < (x4.length : Int)) ((ref13_And n r11.1 r11.2.1 (Ki_at x3 d9.2.1) (Ki_at x4 d9.2.1)).bind (fun r12 => (ref13_And n r12.1 r12.2.1 r10.2.2.1 d9.1).bind (fun r13 => (ref13_Or n r13.1 r13.2.1 r12.2.2.1 r13.2.2.1).bind (fun r14 => ask (True ∧ (d9.2.2.2.2.1.length + (([r11.2.2.1] : List Int)).length) * 8 ≤ 140737488355328) (self (r14.2.2.1, IntKind.wrap .i64 (d9.2.1 + 1), r14.1, r14.2.1, d9.2.2.2.2.1 ++ ([r11.2.2.1] : List Int), ()))))))))))))
 (some (d9.2.2.1, d9.2.2.2.1, d9.2.2.2.2.1, ()))
noncomputable def ref14_sum_l1 (n : Nat) (x3 : List Int) (x4 : List Int) : Int × Int × Int × List Kii × List Int × Unit → Option ((Int × List Kii × List Int × Unit)) := iter (ref14_sum_l1b n x3 x4) n
noncomputable def ref14_sum (n : Nat) (x1 : Int) (x2 : List Kii) (x3 : List Int) (x4 : List Int) (x5 : Int) : Option (Int × List Kii × List Int × Unit) :=
 (ref14_sum_l1 n x3 x4 (x5, 0, x1, x2, ([] : List Int), ())).bind (fun d15 => some (d15.1, d15.2.1, d15.2.2.1, ()))
def ref14_sum_s : Sig := ⟨[.c true [.int .i64, .row Kii_], .c false [.row i_], .c false [.row i_], .c false [.int .i64]], [], .t [(true, [.int .i64, .row Kii_]), (false, [.row i_])], []⟩
def ref14_sum_a : Ann := .s .d (.s .d (.s (.s .d (.b (.l [3, 4, 10, 11, 12, 13, 14, 15, 16, 17, 18, 19, 20, 21, 22, 23, 24, 25, 26, 27, 28, 29, 30, 31, 32, 33, 34, 35, 36, 37, 38, 39, 40, 41, 42, 43, 44, 45, 46, 47, 48, 49, 50, 51, 52, 53, 54, 55, 56, 57, 58, 59, 60, 61, 62, 63, 64, 65, 66, 67, 68, 69, 70, 71, 72, 73, 74, 75, 76, 77, 78, 79, 80] [100] ⟨[(3, .c false [.int .i64]), (4, .c false [.con (.ptr 100 0)]), (10, .c false [.con (.own 100000 1)]), (11, .c false [.int .i64])], [(100, .var 30 [.int .i64, .row Kii_]), (100000, .row 3 i_)]⟩ [(.exit 0, ⟨[(4, .c false [.con (.ptr 100 0)]), (10, .c false [.con (.own 100000 1)])], [(100, .var 30 [.int .i64, .row Kii_]), (100000, .row 3 i_)]⟩)] .d))) .d))
noncomputable def ref14_sum_c (n : Nat) : Ctr Tryz.prog := .of Tryz.func80 n [ref13_Xor_c n, ref13_And_c n, ref13_Or_c n] ref14_sum_a ref14_sum_s (fun d => ref14_sum n d.1 d.2.1 d.2.2.1 d.2.2.2.1 d.2.2.2.2.1) fun d => by kernel_rfl
noncomputable def ref14_sum_o_l1b (n : Nat) (x3 : List Int) (x4 : List Int) (self : Int × Int × Int × List Kii × List Int × Unit → Option ((Int × List Kii × List Int × Unit))) (d9 : Int × Int × Int × List Kii × List Int × Unit) : Option ((Int × List Kii × List Int × Unit)) :=
 cond (decide (d9.2.1 < (x3.length : Int)))
 (ask (0 ≤ d9.2.1 ∧ d9.2.1 < (x3.length : Int)) (ask (0 ≤ d9.2.1 ∧ d9.2.1 < (x4.length : Int)) ((ref13_Xor n d9.2.2.1 d9.2.2.2.1 (Ki_at x3 d9.2.1) (Ki_at x4 d9.2.1)).bind (fun r10 => (ref13_Xor n r10.1 r10.2.1 r10.2.2.1 d9.1).bind (fun r11 => ask (0 ≤ d9.2.1 ∧ d9.2.1 < (x3.length : Int)) (ask (0 ≤ d9.2.1 ∧ d9.2.1 < (x4.length : Int)) ((ref13_And n r11.1 r11.2.1 (Ki_at x3 d9.2.1) (Ki_at x4 d9.2.1)).bind (fun r12 => (ref13_And n r12.1 r12.2.1 r10.2.2.1 d9.1).bind (fun r13 => (ref13_Or n r13.1 r13.2.1 r12.2.2.1 r13.2.2.1).bind (fun r14 => ask (True ∧ (d9.2.2.2.2.1.length + (([r11.2.2.1] : List Int)).length) * 8 ≤ 140737488355328) (self (r14.2.2.1, IntKind.wrap .i64 (d9.2.1 + 1), r14.1, r14.2.1, d9.2.2.2.2.1 ++ ([r11.2.2.1] : List Int), ()))))))))))))
 (some (d9.2.2.1, d9.2.2.2.1, d9.2.2.2.2.1, ()))
noncomputable def ref14_sum_o_l1 (n : Nat) (x3 : List Int) (x4 : List Int) : Int × Int × Int × List Kii × List Int × Unit → Option ((Int × List Kii × List Int × Unit)) := iter (ref14_sum_o_l1b n x3 x4) n
noncomputable def ref14_sum_o (n : Nat) (x1 : Int) (x2 : List Kii) (x3 : List Int) (x4 : List Int) (x5 : Int) : Option (Int × List Kii × List Int × Unit) :=
 (ref14_sum_o_l1 n x3 x4 (x5, 0, x1, x2, ([] : List Int), ())).bind (fun d15 => some (d15.1, d15.2.1, d15.2.2.1, ()))
def ref14_sum_o_s : Sig := ⟨[.c true [.int .i64, .row Kii_], .c false [.row i_], .c false [.row i_], .c false [.int .i64]], [], .t [(true, [.int .i64, .row Kii_]), (false, [.con (.own 100000 1)])], [(100000, .row 3 i_)]⟩
def ref14_sum_o_a : Ann := .s .d (.s .d (.s (.s .d (.b (.l [3, 4, 10, 11, 12, 13, 14, 15, 16, 17, 18, 19, 20, 21, 22, 23, 24, 25, 26, 27, 28, 29, 30, 31, 32, 33, 34, 35, 36, 37, 38, 39, 40, 41, 42, 43, 44, 45, 46, 47, 48, 49, 50, 51, 52, 53, 54, 55, 56, 57, 58, 59, 60, 61, 62, 63, 64, 65, 66, 67, 68, 69, 70, 71, 72, 73, 74, 75, 76, 77, 78, 79, 80] [100] ⟨[(3, .c false [.int .i64]), (4, .c false [.con (.ptr 100 0)]), (10, .c false [.con (.own 100000 1)]), (11, .c false [.int .i64])], [(100, .var 30 [.int .i64, .row Kii_]), (100000, .row 3 i_)]⟩ [(.exit 0, ⟨[(4, .c false [.con (.ptr 100 0)]), (10, .c false [.con (.own 100000 1)])], [(100, .var 30 [.int .i64, .row Kii_]), (100000, .row 3 i_)]⟩)] .d))) .d))
noncomputable def ref14_sum_o_c (n : Nat) : Ctr Tryz.prog := .of Tryz.func80 n [ref13_Xor_c n, ref13_And_c n, ref13_Or_c n] ref14_sum_o_a ref14_sum_o_s (fun d => ref14_sum_o n d.1 d.2.1 d.2.2.1 d.2.2.2.1 d.2.2.2.2.1) fun d => by kernel_rfl
noncomputable def ref14_times_j1 (n : Nat) (d8 : Int × Int × List Kii × List Int × Unit) (d12 : Int × Int × List Kii × List Int × Unit) (x3 : List Int) (x4 : List Int) : Option ((Int × Int × List Kii × Unit)) :=
 cond (decide (d8.1 ≤ d12.1))
 (ask (0 ≤ (IntKind.wrap .i64 (d12.1 - d8.1)) ∧ IntKind.wrap .i64 (d12.1 - d8.1) < (x3.length : Int)) (ask (0 ≤ d8.1 ∧ d8.1 < (x4.length : Int)) ((ref13_And n d12.2.1 d12.2.2.1 (Ki_at x3 (IntKind.wrap .i64 (d12.1 - d8.1))) (Ki_at x4 d8.1)).bind (fun r13 => some (r13.2.2.1, r13.1, r13.2.1, ())))))
 (some (0, d12.2.1, d12.2.2.1, ()))
noncomputable def ref14_times_l2b (n : Nat) (d8 : Int × Int × List Kii × List Int × Unit) (x3 : List Int) (x4 : List Int) (self : Int × Int × List Kii × List Int × Unit → Option ((Int × List Kii × List Int × Unit))) (d12 : Int × Int × List Kii × List Int × Unit) : Option ((Int × List Kii × List Int × Unit)) :=
 cond (decide (d12.1 < (x3.length : Int)))
 ((ref14_times_j1 n d8 d12 x3 x4).bind (fun d14 => ask (True ∧ (d12.2.2.2.1.length + (([d14.1] : List Int)).length) * 8 ≤ 140737488355328) (self (IntKind.wrap .i64 (d12.1 + 1), d14.2.1, d14.2.2.1, d12.2.2.2.1 ++ ([d14.1] : List Int), ()))))
 (some (d12.2.1, d12.2.2.1, d12.2.2.2.1, ()))
noncomputable def ref14_times_l2 (n : Nat) (d8 : Int × Int × List Kii × List Int × Unit) (x3 : List Int) (x4 : List Int) : Int × Int × List Kii × List Int × Unit → Option ((Int × List Kii × List Int × Unit)) := iter (ref14_times_l2b n d8 x3 x4) n
noncomputable def ref14_times_l3b (n : Nat) (x3 : List Int) (x4 : List Int) (self : Int × Int × List Kii × List Int × Unit → Option ((Int × List Kii × List Int × Unit))) (d8 : Int × Int × List Kii × List Int × Unit) : Option ((Int × List Kii × List Int × Unit)) :=
 cond (decide (d8.1 < (x4.length : Int)))
 ((ref14_times_l2 n d8 x3 x4 (0, d8.2.1, d8.2.2.1, ([] : List Int), ())).bind (fun d15 => (ref14_sum_o n d15.1 d15.2.1 d8.2.2.2.1 d15.2.2.1 0).bind (fun r16 => ask (True ∧ ((([] : List Int)).length + r16.2.2.1.length) * 8 ≤ 140737488355328) (self (IntKind.wrap .i64 (d8.1 + 1), r16.1, r16.2.1, ([] : List Int) ++ r16.2.2.1, ())))))
 (some (d8.2.1, d8.2.2.1, d8.2.2.2.1, ()))
noncomputable def ref14_times_l3 (n : Nat) (x3 : List Int) (x4 : List Int) : Int × Int × List Kii × List Int × Unit → Option ((Int × List Kii × List Int × Unit)) := iter (ref14_times_l3b n x3 x4) n
noncomputable def ref14_times (n : Nat) (x1 : Int) (x2 : List Kii) (x3 : List Int) (x4 : List Int) : Option (Int × List Kii × List Int × Unit) :=
 ask ((0 ≤ (x3.length : Int) ∧ (x3.length : Int) ≤ (x3.length : Int)) ∧ (8 : Int) * (x3.length : Int) ≤ 281474976710656 ∧ (x3.length : Int) ≤ 281474976710656) ((ref14_times_l3 n x3 x4 (0, x1, x2, List.replicate (x3.length : Int).toNat (0 : Int), ())).bind (fun d17 => some (d17.1, d17.2.1, d17.2.2.1, ())))
def ref14_times_s : Sig := ⟨[.c true [.int .i64, .row Kii_], .c false [.row i_], .c false [.row i_]], [], .t [(true, [.int .i64, .row Kii_]), (false, [.row i_])], []⟩
def ref14_times_a : Ann := .s .d (.s .d (.s (.s .d (.b (.l [3, 8, 9, 10, 11, 12, 13, 14, 15, 16, 19, 20, 21, 22, 23, 24, 25, 26, 27, 28, 29, 30, 31, 32, 33, 34, 35, 36, 37, 38, 39, 40, 41, 42, 43, 44, 45, 46, 47, 48, 49, 50, 51, 52, 53, 54, 55, 56, 57, 58, 59, 60, 61, 62, 63, 64, 65, 66] [100, 293] ⟨[(3, .c false [.con (.ptr 100 0)]), (8, .c false [.con (.own 293 1)]), (9, .c false [.int .i64])], [(100, .var 30 [.int .i64, .row Kii_]), (293, .row 3 i_)]⟩ [(.exit 0, ⟨[(3, .c false [.con (.ptr 100 0)]), (8, .c false [.con (.own 293 1)])], [(100, .var 30 [.int .i64, .row Kii_]), (293, .row 3 i_)]⟩)] (.s .d (.s (.b (.s .d (.s (.s .d (.b (.l [3, 10, 11, 12, 13, 14, 26, 27, 28, 29, 30, 31, 32, 33, 34, 35, 36, 37, 38, 39, 40, 41, 42, 43, 44, 45, 46, 47, 48, 49, 50, 51, 52, 53, 54, 55] [100] ⟨[(3, .c false [.con (.ptr 100 0)]), (10, .c false [.con (.own 100000 1)]), (11, .c false [.int .i64])], [(100, .var 30 [.int .i64, .row Kii_]), (100000, .row 3 i_)]⟩ [(.exit 2, ⟨[(3, .c false [.con (.ptr 100 0)]), (10, .c false [.con (.own 100000 1)])], [(100, .var 30 [.int .i64, .row Kii_]), (100000, .row 3 i_)]⟩)] (.s .d (.s (.b (.s .d (.j [3, 12, 13, 14, 32, 33, 34, 35, 36, 37, 38, 39, 40, 41, 42, 43, 44, 45, 46, 47, 48, 49, 50, 51] [100] [(.normal, ⟨[(3, .c false [.con (.ptr 100 0)]), (12, .c false [.int .i64])], [(100, .var 30 [.int .i64, .row Kii_])]⟩)] .d .d))) .d))))) (.s (.z [293, 100000]) .d)))) .d))))) .d))
noncomputable def ref14_times_c (n : Nat) : Ctr Tryz.prog := .of Tryz.func81 n [ref13_And_c n, ref14_sum_o_c n] ref14_times_a ref14_times_s (fun d => ref14_times n d.1 d.2.1 d.2.2.1 d.2.2.2.1) fun d => by kernel_rfl
noncomputable def ref14_all_l1b (n : Nat) (x3 : List Int) (self : Int × Int × Int × List Kii × Unit → Option ((Int × Int × List Kii × Unit))) (d6 : Int × Int × Int × List Kii × Unit) : Option ((Int × Int × List Kii × Unit)) :=
 cond (decide (d6.2.1 < (x3.length : Int)))
 (ask (0 ≤ d6.2.1 ∧ d6.2.1 < (x3.length : Int)) ((ref13_And n d6.2.2.1 d6.2.2.2.1 d6.1 (Ki_at x3 d6.2.1)).bind (fun r7 => self (r7.2.2.1, IntKind.wrap .i64 (d6.2.1 + 1), r7.1, r7.2.1, ()))))
 (some (d6.1, d6.2.2.1, d6.2.2.2.1, ()))
noncomputable def ref14_all_l1 (n : Nat) (x3 : List Int) : Int × Int × Int × List Kii × Unit → Option ((Int × Int × List Kii × Unit)) := iter (ref14_all_l1b n x3) n
noncomputable def ref14_all (n : Nat) (x1 : Int) (x2 : List Kii) (x3 : List Int) : Option (Int × List Kii × Int × Unit) :=
 (ref14_all_l1 n x3 (1, 0, x1, x2, ())).bind (fun d8 => some (d8.2.1, d8.2.2.1, d8.1, ()))
def ref14_all_s : Sig := ⟨[.c true [.int .i64, .row Kii_], .c false [.row i_]], [], .t [(true, [.int .i64, .row Kii_]), (false, [.int .i64])], []⟩
def ref14_all_a : Ann := .s .d (.s .d (.s (.s .d (.b (.l [2, 6, 7, 8, 9, 10, 11, 12, 13, 14, 15, 16, 17, 18, 19, 20, 21, 22, 23, 24, 25, 26, 27] [100] ⟨[(2, .c false [.con (.ptr 100 0)]), (6, .c false [.int .i64]), (7, .c false [.int .i64])], [(100, .var 30 [.int .i64, .row Kii_])]⟩ [(.exit 0, ⟨[(2, .c false [.con (.ptr 100 0)]), (6, .c false [.int .i64])], [(100, .var 30 [.int .i64, .row Kii_])]⟩)] .d))) .d))
noncomputable def ref14_all_c (n : Nat) : Ctr Tryz.prog := .of Tryz.func115 n [ref13_And_c n] ref14_all_a ref14_all_s (fun d => ref14_all n d.1 d.2.1 d.2.2.1) fun d => by kernel_rfl
noncomputable def ref14_less_l1b (n : Nat) (x3 : List Int) (x4 : List Int) (self : Int × Int × Int × List Kii × Unit → Option ((Int × Int × List Kii × Unit))) (d8 : Int × Int × Int × List Kii × Unit) : Option ((Int × Int × List Kii × Unit)) :=
 cond (decide (d8.2.1 < (x3.length : Int)))
 (ask (0 ≤ d8.2.1 ∧ d8.2.1 < (x3.length : Int)) (ask (0 ≤ d8.2.1 ∧ d8.2.1 < (x4.length : Int)) ((ref13_Xor n d8.2.2.1 d8.2.2.2.1 (Ki_at x3 d8.2.1) (Ki_at x4 d8.2.1)).bind (fun r9 => ask (0 ≤ d8.2.1 ∧ d8.2.1 < (x4.length : Int)) ((ref13_Mux n r9.1 r9.2.1 r9.2.2.1 (Ki_at x4 d8.2.1) d8.1).bind (fun r10 => self (r10.2.2.1, IntKind.wrap .i64 (d8.2.1 + 1), r10.1, r10.2.1, ())))))))
 (some (d8.1, d8.2.2.1, d8.2.2.2.1, ()))
noncomputable def ref14_less_l1 (n : Nat) (x3 : List Int) (x4 : List Int) : Int × Int × Int × List Kii × Unit → Option ((Int × Int × List Kii × Unit)) := iter (ref14_less_l1b n x3 x4) n
noncomputable def ref14_less (n : Nat) (x1 : Int) (x2 : List Kii) (x3 : List Int) (x4 : List Int) (x5 : Int) : Option (Int × List Kii × Int × Unit) :=
 (ref14_less_l1 n x3 x4 (x5, 0, x1, x2, ())).bind (fun d11 => some (d11.2.1, d11.2.2.1, d11.1, ()))
def ref14_less_s : Sig := ⟨[.c true [.int .i64, .row Kii_], .c false [.row i_], .c false [.row i_], .c false [.int .i64]], [], .t [(true, [.int .i64, .row Kii_]), (false, [.int .i64])], []⟩
def ref14_less_a : Ann := .s .d (.s (.s .d (.b (.l [3, 4, 10, 11, 12, 13, 14, 15, 16, 17, 18, 19, 20, 21, 22, 23, 24, 25, 26, 27, 28, 29, 30, 31, 32, 33, 34, 35, 36, 37, 38, 39, 40, 41, 42, 43, 44, 45, 46] [100] ⟨[(3, .c false [.int .i64]), (4, .c false [.con (.ptr 100 0)]), (10, .c false [.int .i64])], [(100, .var 30 [.int .i64, .row Kii_])]⟩ [(.exit 0, ⟨[(3, .c false [.int .i64]), (4, .c false [.con (.ptr 100 0)])], [(100, .var 30 [.int .i64, .row Kii_])]⟩)] .d))) .d)
noncomputable def ref14_less_c (n : Nat) : Ctr Tryz.prog := .of Tryz.func116 n [ref13_Xor_c n, ref13_Mux_c n] ref14_less_a ref14_less_s (fun d => ref14_less n d.1 d.2.1 d.2.2.1 d.2.2.2.1 d.2.2.2.2.1) fun d => by kernel_rfl
noncomputable def ref14_asked (n : Nat) (x1 : Int) (x2 : List Kii) (x3 : Int) (x4 : Int) (x5 : Int) (x6 : Int) (x7 : Int) (x8 : Int) (x9 : Int) (x10 : List Int) (x11 : List Int) : Option (Int × List Kii × Int × Unit) :=
 cond (decide (x3 = 5))
 ((ref14_all n x1 x2 x10).bind (fun r12 => some (r12.1, r12.2.1, r12.2.2.1, ())))
 (cond (decide (x3 = 4))
 ((ref14_turned n x10).bind (fun r13 => (ref14_all n x1 x2 r13.1).bind (fun r14 => some (r14.1, r14.2.1, bits .xor .i64 r14.2.2.1 1, ()))))
 (cond (decide (x3 = 14))
 ((ref14_less n x1 x2 x10 x11 0).bind (fun r15 => some (r15.1, r15.2.1, r15.2.2.1, ())))
 (cond (decide (x3 = 15))
 ((ref14_less n x1 x2 x10 x11 1).bind (fun r16 => some (r16.1, r16.2.1, r16.2.2.1, ())))
 ((ref14_each n x1 x2 8 x10 x11).bind (fun r17 => (ref14_turned n r17.2.2.1).bind (fun r18 => (ref14_all n r17.1 r17.2.1 r18.1).bind (fun r19 => cond (decide (x3 = 13))
 (some (r19.1, r19.2.1, bits .xor .i64 r19.2.2.1 1, ()))
 (some (r19.1, r19.2.1, r19.2.2.1, ())))))))))
def ref14_asked_s : Sig := ⟨[.c true [.int .i64, .row Kii_], .c true [.int .i64, .int .i64, .int .i64, .int .i64, .int .i64, .int .i64, .int .i64], .c false [.row i_], .c false [.row i_]], [], .t [(true, [.int .i64, .row Kii_]), (false, [.int .i64])], []⟩
def ref14_asked_a : Ann := .d
noncomputable def ref14_asked_c (n : Nat) : Ctr Tryz.prog := .of Tryz.func83 n [ref14_all_c n, ref14_turned_c n, ref14_less_c n, ref14_each_c n] ref14_asked_a ref14_asked_s (fun d => ref14_asked n d.1 d.2.1 d.2.2.1 d.2.2.2.1 d.2.2.2.2.1 d.2.2.2.2.2.1 d.2.2.2.2.2.2.1 d.2.2.2.2.2.2.2.1 d.2.2.2.2.2.2.2.2.1 d.2.2.2.2.2.2.2.2.2.1 d.2.2.2.2.2.2.2.2.2.2.1) fun d => by kernel_rfl
noncomputable def ref14_Do_l1b (n : Nat) (x10 : List Int) (x11 : List Int) (x12 : List Int) (self : Int × Int × List Kii × List Int × Unit → Option ((Int × List Kii × List Int × Unit))) (d24 : Int × Int × List Kii × List Int × Unit) : Option ((Int × List Kii × List Int × Unit)) :=
 cond (decide (d24.1 < (x11.length : Int)))
 (ask (0 ≤ (0 : Int) ∧ 0 < (x10.length : Int)) (ask (0 ≤ d24.1 ∧ d24.1 < (x11.length : Int)) (ask (0 ≤ d24.1 ∧ d24.1 < (x12.length : Int)) ((ref13_Mux n d24.2.1 d24.2.2.1 (Ki_at x10 0) (Ki_at x11 d24.1) (Ki_at x12 d24.1)).bind (fun r25 => ask (True ∧ (d24.2.2.2.1.length + (([r25.2.2.1] : List Int)).length) * 8 ≤ 140737488355328) (self (IntKind.wrap .i64 (d24.1 + 1), r25.1, r25.2.1, d24.2.2.2.1 ++ ([r25.2.2.1] : List Int), ())))))))
 (some (d24.2.1, d24.2.2.1, d24.2.2.2.1, ()))
noncomputable def ref14_Do_l1 (n : Nat) (x10 : List Int) (x11 : List Int) (x12 : List Int) : Int × Int × List Kii × List Int × Unit → Option ((Int × List Kii × List Int × Unit)) := iter (ref14_Do_l1b n x10 x11 x12) n
noncomputable def ref14_Do (n : Nat) (x1 : Int) (x2 : List Kii) (x3 : Int) (x4 : Int) (x5 : Int) (x6 : Int) (x7 : Int) (x8 : Int) (x9 : Int) (x10 : List Int) (x11 : List Int) (x12 : List Int) : Option (Int × List Kii × List Int × Unit) :=
 cond (decide (x3 = 1))
 ((ref14_lit n x8 x4).bind (fun r13 => some (x1, x2, r13.1, ())))
 (cond (decide (x3 = 3))
 ((ref14_turned n x10).bind (fun r14 => some (x1, x2, r14.1, ())))
 (((cond (decide (x3 = 6))
 (some (decide (x3 = 6), ()))
 (cond (decide (x3 = 7))
 (some (decide (x3 = 7), ()))
 (some (decide (x3 = 8), ())))) : Option ((Bool × Unit))).bind (fun d15 => cond d15.1
 ((ref14_each n x1 x2 x3 x10 x11).bind (fun r16 => some (r16.1, r16.2.1, r16.2.2.1, ())))
 (cond (decide (x3 = 9))
 ((ref14_sum n x1 x2 x10 x11 0).bind (fun r17 => some (r17.1, r17.2.1, r17.2.2.1, ())))
 (cond (decide (x3 = 10))
 ((ref14_turned n x11).bind (fun r18 => (ref14_sum n x1 x2 x10 r18.1 1).bind (fun r19 => some (r19.1, r19.2.1, r19.2.2.1, ()))))
 (cond (decide (x3 = 11))
 ((ref14_times n x1 x2 x10 x11).bind (fun r20 => some (r20.1, r20.2.1, r20.2.2.1, ())))
 (cond (decide (x3 = 17))
 (ask (True ∧ ((([] : List Int)).length + x11.length) * 8 ≤ 140737488355328) (ask (True ∧ ((([] : List Int) ++ x11).length + x10.length) * 8 ≤ 140737488355328) (some (x1, x2, (([] : List Int) ++ x11) ++ x10, ()))))
 (cond (decide (x3 = 18))
 (ask (0 ≤ x9 ∧ x9 ≤ IntKind.wrap .i64 (x8 + 1) ∧ IntKind.wrap .i64 (x8 + 1) ≤ (x10.length : Int)) (ask (True ∧ ((([] : List Int)).length + ((x10.take (IntKind.wrap .i64 (x8 + 1)).toNat).drop x9.toNat).length) * 8 ≤ 140737488355328) (some (x1, x2, ([] : List Int) ++ ((x10.take (IntKind.wrap .i64 (x8 + 1)).toNat).drop x9.toNat), ()))))
 (cond (decide (x3 = 16))
 ((ref14_Do_l1 n x10 x11 x12 (0, x1, x2, ([] : List Int), ())).bind (fun d26 => some (d26.1, d26.2.1, d26.2.2.1, ())))
 ((ref14_asked n x1 x2 x3 x4 x5 x6 x7 x8 x9 x10 x11).bind (fun r27 => some (r27.1, r27.2.1, ([r27.2.2.1] : List Int), ()))))))))))))
def ref14_Do_s : Sig := ⟨[.c true [.int .i64, .row Kii_], .c true [.int .i64, .int .i64, .int .i64, .int .i64, .int .i64, .int .i64, .int .i64], .c false [.row i_], .c false [.row i_], .c false [.row i_]], [], .t [(true, [.int .i64, .row Kii_]), (false, [.row i_])], []⟩
def ref14_Do_a : Ann := .s .d (.s (.s .d (.b (.s .d (.s .d (.s .d (.s .d (.j [41, 42, 43, 44] [] [(.normal, ⟨[(41, .c false [.bool])], []⟩)] .d (.s .d (.s .d (.s .d (.s .d (.s .d (.s .d (.s .d (.s .d (.s .d (.s .d (.s .d (.s .d (.s (.s .d (.s (.s .d (.b (.l [5, 20, 21, 22, 23, 112, 113, 114, 115, 116, 117, 118, 119, 120, 121, 122, 123, 124, 125, 126, 127, 128, 129, 130, 131, 132, 133, 134, 135, 136, 137, 138] [100] ⟨[(5, .c false [.con (.ptr 100 0)]), (20, .c false [.con (.own 100000 1)]), (21, .c false [.int .i64])], [(100, .var 30 [.int .i64, .row Kii_]), (100000, .row 3 i_)]⟩ [(.exit 1, ⟨[(5, .c false [.con (.ptr 100 0)]), (20, .c false [.con (.own 100000 1)])], [(100, .var 30 [.int .i64, .row Kii_]), (100000, .row 3 i_)]⟩)] .d))) .d)) .d)))))))))))))))))))) .d)
noncomputable def ref14_Do_c (n : Nat) : Ctr Tryz.prog := .of Tryz.func71 n [ref14_lit_c n, ref14_turned_c n, ref14_each_c n, ref14_sum_c n, ref14_times_c n, ref13_Mux_c n, ref14_asked_c n] ref14_Do_a ref14_Do_s (fun d => ref14_Do n d.1 d.2.1 d.2.2.1 d.2.2.2.1 d.2.2.2.2.1 d.2.2.2.2.2.1 d.2.2.2.2.2.2.1 d.2.2.2.2.2.2.2.1 d.2.2.2.2.2.2.2.2.1 d.2.2.2.2.2.2.2.2.2.1 d.2.2.2.2.2.2.2.2.2.2.1 d.2.2.2.2.2.2.2.2.2.2.2.1) fun d => by kernel_rfl
noncomputable def ref15_made_l1b (n : Nat) (x1 : List Kiiiiiii) (self : Int × Int × Int × Int × List Kii × List (List Int) × Unit → Option ((Int × List Kii × List (List Int) × Unit))) (d12 : Int × Int × Int × Int × List Kii × List (List Int) × Unit) : Option ((Int × List Kii × List (List Int) × Unit)) :=
 cond (decide (d12.2.2.1 < (x1.length : Int)))
 (ask (0 ≤ d12.2.2.1 ∧ d12.2.2.1 < (x1.length : Int)) (cond (decide (((Kiiiiiii_at x1 d12.2.2.1).1) = 21))
 ((ref15_bits n d12.1 (((Kiiiiiii_at x1 d12.2.2.1).2).1)).bind (fun r13 => ask (True ∧ (d12.2.2.2.2.2.1.length + (([r13.1] : List (List Int))).length) * 24 ≤ 140737488355328) (self (IntKind.wrap .i64 (d12.1 + (((Kiiiiiii_at x1 d12.2.2.1).2).1)), d12.2.1, IntKind.wrap .i64 (d12.2.2.1 + 1), d12.2.2.2.1, d12.2.2.2.2.1, d12.2.2.2.2.2.1 ++ ([r13.1] : List (List Int)), ()))))
 (cond (decide (((Kiiiiiii_at x1 d12.2.2.1).1) = 22))
 ((ref15_bits n d12.2.1 (((Kiiiiiii_at x1 d12.2.2.1).2).1)).bind (fun r14 => ask (True ∧ (d12.2.2.2.2.2.1.length + (([r14.1] : List (List Int))).length) * 24 ≤ 140737488355328) (self (d12.1, IntKind.wrap .i64 (d12.2.1 + (((Kiiiiiii_at x1 d12.2.2.1).2).1)), IntKind.wrap .i64 (d12.2.2.1 + 1), d12.2.2.2.1, d12.2.2.2.2.1, d12.2.2.2.2.2.1 ++ ([r14.1] : List (List Int)), ()))))
 (cond (decide (((Kiiiiiii_at x1 d12.2.2.1).1) = 1))
 ((ref14_Do n d12.2.2.2.1 d12.2.2.2.2.1 ((Kiiiiiii_at x1 d12.2.2.1).1) (((Kiiiiiii_at x1 d12.2.2.1).2).1) ((((Kiiiiiii_at x1 d12.2.2.1).2).2).1) (((((Kiiiiiii_at x1 d12.2.2.1).2).2).2).1) ((((((Kiiiiiii_at x1 d12.2.2.1).2).2).2).2).1) (((((((Kiiiiiii_at x1 d12.2.2.1).2).2).2).2).2).1) (((((((Kiiiiiii_at x1 d12.2.2.1).2).2).2).2).2).2) ([] : List Int) ([] : List Int) ([] : List Int)).bind (fun r15 => ask (True ∧ (d12.2.2.2.2.2.1.length + (([r15.2.2.1] : List (List Int))).length) * 24 ≤ 140737488355328) (self (d12.1, d12.2.1, IntKind.wrap .i64 (d12.2.2.1 + 1), r15.1, r15.2.1, d12.2.2.2.2.2.1 ++ ([r15.2.2.1] : List (List Int)), ()))))
 (ask (0 ≤ ((((Kiiiiiii_at x1 d12.2.2.1).2).2).1) ∧ (((Kiiiiiii_at x1 d12.2.2.1).2).2).1 < (d12.2.2.2.2.2.1.length : Int)) (ask (0 ≤ (((((Kiiiiiii_at x1 d12.2.2.1).2).2).2).1) ∧ ((((Kiiiiiii_at x1 d12.2.2.1).2).2).2).1 < (d12.2.2.2.2.2.1.length : Int)) (ask (0 ≤ ((((((Kiiiiiii_at x1 d12.2.2.1).2).2).2).2).1) ∧ (((((Kiiiiiii_at x1 d12.2.2.1).2).2).2).2).1 < (d12.2.2.2.2.2.1.length : Int)) ((ref14_Do n d12.2.2.2.1 d12.2.2.2.2.1 ((Kiiiiiii_at x1 d12.2.2.1).1) (((Kiiiiiii_at x1 d12.2.2.1).2).1) ((((Kiiiiiii_at x1 d12.2.2.1).2).2).1) (((((Kiiiiiii_at x1 d12.2.2.1).2).2).2).1) ((((((Kiiiiiii_at x1 d12.2.2.1).2).2).2).2).1) (((((((Kiiiiiii_at x1 d12.2.2.1).2).2).2).2).2).1) (((((((Kiiiiiii_at x1 d12.2.2.1).2).2).2).2).2).2) (KLi_at d12.2.2.2.2.2.1 ((((Kiiiiiii_at x1 d12.2.2.1).2).2).1)) (KLi_at d12.2.2.2.2.2.1 (((((Kiiiiiii_at x1 d12.2.2.1).2).2).2).1)) (KLi_at d12.2.2.2.2.2.1 ((((((Kiiiiiii_at x1 d12.2.2.1).2).2).2).2).1))).bind (fun r16 => ask (True ∧ (d12.2.2.2.2.2.1.length + (([r16.2.2.1] : List (List Int))).length) * 24 ≤ 140737488355328) (self (d12.1, d12.2.1, IntKind.wrap .i64 (d12.2.2.1 + 1), r16.1, r16.2.1, d12.2.2.2.2.2.1 ++ ([r16.2.2.1] : List (List Int)), ())))))))))))
 (some (d12.2.2.2.1, d12.2.2.2.2.1, d12.2.2.2.2.2.1, ()))
noncomputable def ref15_made_l1 (n : Nat) (x1 : List Kiiiiiii) : Int × Int × Int × Int × List Kii × List (List Int) × Unit → Option ((Int × List Kii × List (List Int) × Unit)) := iter (ref15_made_l1b n x1) n
noncomputable def ref15_made (n : Nat) (x1 : List Kiiiiiii) (x2 : List Ksi) (x3 : List Ksiii) (x4 : List Kisi) (x5 : List Ksi) : Option (Int × List Kii × List (List Int) × Unit) :=
 (ref15_wide n x1 x2 x3 x4 x5 21).bind (fun r6 => (ref15_wide n x1 x2 x3 x4 x5 22).bind (fun r7 => (ref13_New n (IntKind.wrap .i64 (r6.1 + r7.1))).bind (fun r8 => (ref15_made_l1 n x1 (1, IntKind.wrap .i64 ((1 : Int) + r6.1), 0, r8.1, ([] : List Kii), ([] : List (List Int)), ())).bind (fun d17 => some (d17.1, d17.2.1, d17.2.2.1, ())))))
def ref15_made_s : Sig := ⟨[.c true [.row Kiiiiiii_, .row Ksi_, .row Ksiii_, .row Kisi_, .row Ksi_]], [], .t [(true, [.int .i64, .row Kii_]), (false, [.row KLi_])], []⟩
def ref15_made_a : Ann := .s .d (.s .d (.s .d (.s .d (.s .d (.s .d (.s (.s .d (.b (.l [5, 6, 7, 8, 9, 10, 11, 12, 13, 14, 24, 25, 26, 27, 28, 29, 30, 31, 32, 33, 34, 35, 36, 37, 38, 39, 40, 41, 42, 43, 44, 45, 46, 47, 48, 49, 50, 51, 52, 53, 54, 55, 56, 57, 58, 59, 60, 61, 62, 63, 64, 65, 66, 67, 68, 69, 70, 71, 72, 73, 74, 75, 76, 77, 78, 79, 80, 81, 82, 83, 84, 85, 86, 87, 88, 89, 90, 91, 92, 93, 94, 95, 96, 97, 98, 99, 100, 101, 102] [485] ⟨[(5, .c false [.con (.ptr 485 0)]), (6, .c false [.con (.own 100000 1)]), (7, .c false [.int .i64]), (8, .c false [.int .i64]), (9, .c false [.int .i64])], [(485, .var 30 [.int .i64, .row Kii_]), (100000, .row 46 KLi_)]⟩ [(.exit 0, ⟨[(5, .c false [.con (.ptr 485 0)]), (6, .c false [.con (.own 100000 1)])], [(485, .var 30 [.int .i64, .row Kii_]), (100000, .row 46 KLi_)]⟩)] .d))) .d))))))
noncomputable def ref15_made_c (n : Nat) : Ctr Tryz.prog := .of Tryz.func47 n [ref15_wide_c n, ref13_New_c n, ref15_bits_c n, ref14_Do_c n] ref15_made_a ref15_made_s (fun d => ref15_made n d.1 d.2.1 d.2.2.1 d.2.2.2.1 d.2.2.2.2.1) fun d => by kernel_rfl
noncomputable def ref15_Compile_l1b (n : Nat) (d10 : Int × Int × List Kii × List Kiii × Unit) (x1 : List Kiiiiiii) (x2 : List Ksi) (self : Int × Int × List Kii × List Kiii × Unit → Option ((Int × List Kii × List Kiii × Unit))) (d13 : Int × Int × List Kii × List Kiii × Unit) : Option ((Int × List Kii × List Kiii × Unit)) :=
 ask (0 ≤ d10.1 ∧ d10.1 < (x2.length : Int)) (ask (0 ≤ ((Ksi_at x2 d10.1).2) ∧ (Ksi_at x2 d10.1).2 < (x1.length : Int)) (cond (decide (d13.1 < (((Kiiiiiii_at x1 ((Ksi_at x2 d10.1).2)).2).1)))
 (ask (True ∧ (d13.2.2.2.1.length + (([(IntKind.wrap .i64 ((d13.2.2.2.1.length : Int) + 1), d10.1, d13.1)] : List Kiii)).length) * 24 ≤ 140737488355328) (self (IntKind.wrap .i64 (d13.1 + 1), d13.2.1, d13.2.2.1, d13.2.2.2.1 ++ ([(IntKind.wrap .i64 ((d13.2.2.2.1.length : Int) + 1), d10.1, d13.1)] : List Kiii), ())))
 (some (d13.2.1, d13.2.2.1, d13.2.2.2.1, ()))))
noncomputable def ref15_Compile_l1 (n : Nat) (d10 : Int × Int × List Kii × List Kiii × Unit) (x1 : List Kiiiiiii) (x2 : List Ksi) : Int × Int × List Kii × List Kiii × Unit → Option ((Int × List Kii × List Kiii × Unit)) := iter (ref15_Compile_l1b n d10 x1 x2) n
noncomputable def ref15_Compile_l2b (n : Nat) (x1 : List Kiiiiiii) (x2 : List Ksi) (self : Int × Int × List Kii × List Kiii × Unit → Option ((Int × List Kii × List Kiii × Unit))) (d10 : Int × Int × List Kii × List Kiii × Unit) : Option ((Int × List Kii × List Kiii × Unit)) :=
 cond (decide (d10.1 < (x2.length : Int)))
 ((ref15_Compile_l1 n d10 x1 x2 (0, d10.2.1, d10.2.2.1, d10.2.2.2.1, ())).bind (fun d14 => self (IntKind.wrap .i64 (d10.1 + 1), d14.1, d14.2.1, d14.2.2.1, ())))
 (some (d10.2.1, d10.2.2.1, d10.2.2.2.1, ()))
noncomputable def ref15_Compile_l2 (n : Nat) (x1 : List Kiiiiiii) (x2 : List Ksi) : Int × Int × List Kii × List Kiii × Unit → Option ((Int × List Kii × List Kiii × Unit)) := iter (ref15_Compile_l2b n x1 x2) n
noncomputable def ref15_Compile_l3b (n : Nat) (d15 : Int × List Kii × List Kiii × Unit) (d19 : Int × Int × List Kii × List Kiibii × Unit) (r6 : Int × List Kii × List (List Int) × Unit) (x1 : List Kiiiiiii) (x3 : List Ksiii) (self : Int × Int × List Kii × List Kiibii × Unit → Option ((Int × List Kii × List Kiibii × Unit))) (d22 : Int × Int × List Kii × List Kiibii × Unit) : Option ((Int × List Kii × List Kiibii × Unit)) :=
 ask (0 ≤ (((Ksiii_at x3 d19.1).2).1) ∧ ((Ksiii_at x3 d19.1).2).1 < (x1.length : Int)) (cond (decide (d22.1 < (((Kiiiiiii_at x1 (((Ksiii_at x3 d19.1).2).1)).2).1)))
 (ask (0 ≤ ((((Ksiii_at x3 d19.1).2).2).1) ∧ (((Ksiii_at x3 d19.1).2).2).1 < (r6.2.2.1.length : Int)) (ask (0 ≤ d22.1 ∧ d22.1 < ((KLi_at r6.2.2.1 ((((Ksiii_at x3 d19.1).2).2).1)).length : Int)) (ask (0 ≤ d22.1) (ask (True ∧ (d22.2.2.2.1.length + (([(IntKind.wrap .i64 ((IntKind.wrap .i64 ((d15.2.2.1.length : Int) + (d22.2.2.2.1.length : Int))) + 1), Ki_at (KLi_at r6.2.2.1 ((((Ksiii_at x3 d19.1).2).2).1)) d22.1, decide ((bits .and .i64 (shrI .i64 ((((Ksiii_at x3 d19.1).2).2).2) d22.1) 1) = 1), d19.1, d22.1)] : List Kiibii)).length) * 40 ≤ 140737488355328) (self (IntKind.wrap .i64 (d22.1 + 1), d22.2.1, d22.2.2.1, d22.2.2.2.1 ++ ([(IntKind.wrap .i64 ((IntKind.wrap .i64 ((d15.2.2.1.length : Int) + (d22.2.2.2.1.length : Int))) + 1), Ki_at (KLi_at r6.2.2.1 ((((Ksiii_at x3 d19.1).2).2).1)) d22.1, decide ((bits .and .i64 (shrI .i64 ((((Ksiii_at x3 d19.1).2).2).2) d22.1) 1) = 1), d19.1, d22.1)] : List Kiibii), ()))))))
 (some (d22.2.1, d22.2.2.1, d22.2.2.2.1, ())))
noncomputable def ref15_Compile_l3 (n : Nat) (d15 : Int × List Kii × List Kiii × Unit) (d19 : Int × Int × List Kii × List Kiibii × Unit) (r6 : Int × List Kii × List (List Int) × Unit) (x1 : List Kiiiiiii) (x3 : List Ksiii) : Int × Int × List Kii × List Kiibii × Unit → Option ((Int × List Kii × List Kiibii × Unit)) := iter (ref15_Compile_l3b n d15 d19 r6 x1 x3) n
noncomputable def ref15_Compile_l4b (n : Nat) (d15 : Int × List Kii × List Kiii × Unit) (r6 : Int × List Kii × List (List Int) × Unit) (x1 : List Kiiiiiii) (x3 : List Ksiii) (self : Int × Int × List Kii × List Kiibii × Unit → Option ((Int × List Kii × List Kiibii × Unit))) (d19 : Int × Int × List Kii × List Kiibii × Unit) : Option ((Int × List Kii × List Kiibii × Unit)) :=
 cond (decide (d19.1 < (x3.length : Int)))
 (ask (0 ≤ d19.1 ∧ d19.1 < (x3.length : Int)) ((ref15_Compile_l3 n d15 d19 r6 x1 x3 (0, d19.2.1, d19.2.2.1, d19.2.2.2.1, ())).bind (fun d23 => self (IntKind.wrap .i64 (d19.1 + 1), d23.1, d23.2.1, d23.2.2.1, ()))))
 (some (d19.2.1, d19.2.2.1, d19.2.2.2.1, ()))
noncomputable def ref15_Compile_l4 (n : Nat) (d15 : Int × List Kii × List Kiii × Unit) (r6 : Int × List Kii × List (List Int) × Unit) (x1 : List Kiiiiiii) (x3 : List Ksiii) : Int × Int × List Kii × List Kiibii × Unit → Option ((Int × List Kii × List Kiibii × Unit)) := iter (ref15_Compile_l4b n d15 r6 x1 x3) n
noncomputable def ref15_Compile_l5b (n : Nat) (r6 : Int × List Kii × List (List Int) × Unit) (x4 : List Kisi) (self : Int × Int × List Kii × List Kiii × Unit → Option ((Int × List Kii × List Kiii × Unit))) (d28 : Int × Int × List Kii × List Kiii × Unit) : Option ((Int × List Kii × List Kiii × Unit)) :=
 cond (decide (d28.1 < (x4.length : Int)))
 (ask (0 ≤ d28.1 ∧ d28.1 < (x4.length : Int)) (ask (0 ≤ d28.1 ∧ d28.1 < (x4.length : Int)) (ask (0 ≤ (((Kisi_at x4 d28.1).2).2) ∧ ((Kisi_at x4 d28.1).2).2 < (r6.2.2.1.length : Int)) (ask (0 ≤ (0 : Int) ∧ 0 < ((KLi_at r6.2.2.1 (((Kisi_at x4 d28.1).2).2)).length : Int)) (ask (True ∧ (d28.2.2.2.1.length + (([((Kisi_at x4 d28.1).1, Ki_at (KLi_at r6.2.2.1 (((Kisi_at x4 d28.1).2).2)) 0, d28.1)] : List Kiii)).length) * 24 ≤ 140737488355328) (self (IntKind.wrap .i64 (d28.1 + 1), d28.2.1, d28.2.2.1, d28.2.2.2.1 ++ ([((Kisi_at x4 d28.1).1, Ki_at (KLi_at r6.2.2.1 (((Kisi_at x4 d28.1).2).2)) 0, d28.1)] : List Kiii), ())))))))
 (some (d28.2.1, d28.2.2.1, d28.2.2.2.1, ()))
noncomputable def ref15_Compile_l5 (n : Nat) (r6 : Int × List Kii × List (List Int) × Unit) (x4 : List Kisi) : Int × Int × List Kii × List Kiii × Unit → Option ((Int × List Kii × List Kiii × Unit)) := iter (ref15_Compile_l5b n r6 x4) n
noncomputable def ref15_Compile (n : Nat) (x1 : List Kiiiiiii) (x2 : List Ksi) (x3 : List Ksiii) (x4 : List Kisi) (x5 : List Ksi) : Option (Int × List Kii × List Kiii × List Kiibii × List Kiii × Unit) :=
 (ref15_made n x1 x2 x3 x4 x5).bind (fun r6 => (ref15_Compile_l2 n x1 x2 (0, r6.1, r6.2.1, ([] : List Kiii), ())).bind (fun d15 => (ref15_Compile_l4 n d15 r6 x1 x3 (0, d15.1, d15.2.1, ([] : List Kiibii), ())).bind (fun d24 => (ref15_Compile_l5 n r6 x4 (0, d24.1, d24.2.1, ([] : List Kiii), ())).bind (fun d29 => some (d29.1, d29.2.1, d15.2.2.1, d24.2.2.1, d29.2.2.1, ())))))
def ref15_Compile_s : Sig := ⟨[.c true [.row Kiiiiiii_, .row Ksi_, .row Ksiii_, .row Kisi_, .row Ksi_]], [], .c true [.int .i64, .row Kii_, .row Kiii_, .row Kiibii_, .row Kiii_], []⟩
def ref15_Compile_a : Ann := .s .d (.s .d (.s .d (.s (.s .d (.b (.l [5, 6, 7, 19, 20, 21, 22, 23, 24, 25, 26, 27, 28, 29, 30, 31, 32, 33, 34, 35, 36, 37, 38, 39, 40, 41, 42, 43, 44, 45, 46, 47, 48, 49, 50, 51, 52] [614] ⟨[(5, .c false [.con (.ptr 614 0)]), (6, .c false [.int .i64])], [(614, .var 35 [.int .i64, .row Kii_, .con (.own 100000 3), .con .nilsl, .con .nilsl]), (100000, .row 89 Kiii_)]⟩ [(.exit 0, ⟨[(5, .c false [.con (.ptr 614 0)])], [(614, .var 35 [.int .i64, .row Kii_, .con (.own 100000 3), .con .nilsl, .con .nilsl]), (100000, .row 89 Kiii_)]⟩)] (.s .d (.s (.b (.s .d (.b (.l [5, 7, 26, 27, 28, 29, 30, 31, 32, 33, 34, 35, 36, 37, 38, 39, 40, 41, 42, 43, 44, 45, 46, 47, 48, 49, 50, 51, 52] [614, 100000] ⟨[(5, .c false [.con (.ptr 614 0)]), (7, .c false [.int .i64])], [(614, .var 35 [.int .i64, .row Kii_, .con (.own 100000 3), .con .nilsl, .con .nilsl]), (100000, .row 89 Kiii_)]⟩ [(.exit 2, ⟨[(5, .c false [.con (.ptr 614 0)])], [(614, .var 35 [.int .i64, .row Kii_, .con (.own 100000 3), .con .nilsl, .con .nilsl]), (100000, .row 89 Kiii_)]⟩)] .d)))) .d))))) (.s (.s .d (.b (.l [5, 8, 9, 10, 53, 54, 55, 56, 57, 58, 59, 60, 61, 62, 63, 64, 65, 66, 67, 68, 69, 70, 71, 72, 73, 74, 75, 76, 77, 78, 79, 80, 81, 82, 83, 84, 85, 86, 87, 88, 89, 90, 91, 92, 93, 94, 95, 96, 97, 98, 99, 100, 101, 102, 103, 104, 105] [614] ⟨[(5, .c false [.con (.ptr 614 0)]), (8, .c false [.int .i64])], [(614, .var 35 [.int .i64, .row Kii_, .con (.own 100000 3), .con (.own 200000 5), .con .nilsl]), (200000, .row 71 Kiibii_)]⟩ [(.exit 4, ⟨[(5, .c false [.con (.ptr 614 0)])], [(614, .var 35 [.int .i64, .row Kii_, .con (.own 100000 3), .con (.own 200000 5), .con .nilsl]), (200000, .row 71 Kiibii_)]⟩)] (.s .d (.s (.b (.s .d (.s .d (.b (.l [5, 10, 65, 66, 67, 68, 69, 70, 71, 72, 73, 74, 75, 76, 77, 78, 79, 80, 81, 82, 83, 84, 85, 86, 87, 88, 89, 90, 91, 92, 93, 94, 95, 96, 97, 98, 99, 100, 101, 102, 103, 104, 105] [614, 200000] ⟨[(5, .c false [.con (.ptr 614 0)]), (10, .c false [.int .i64])], [(614, .var 35 [.int .i64, .row Kii_, .con (.own 100000 3), .con (.own 200000 5), .con .nilsl]), (200000, .row 71 Kiibii_)]⟩ [(.exit 6, ⟨[(5, .c false [.con (.ptr 614 0)])], [(614, .var 35 [.int .i64, .row Kii_, .con (.own 100000 3), .con (.own 200000 5), .con .nilsl]), (200000, .row 71 Kiibii_)]⟩)] .d))))) .d))))) (.s (.s .d (.b (.l [5, 11, 106, 107, 108, 109, 110, 111, 112, 113, 114, 115, 116, 117, 118, 119, 120, 121, 122, 123, 124, 125, 126, 127, 128, 129, 130, 131, 132, 133, 134, 135, 136] [614] ⟨[(5, .c false [.con (.ptr 614 0)]), (11, .c false [.int .i64])], [(614, .var 35 [.int .i64, .row Kii_, .con (.own 100000 3), .con (.own 200000 5), .con (.own 300000 3)]), (300000, .row 73 Kiii_)]⟩ [(.exit 8, ⟨[(5, .c false [.con (.ptr 614 0)])], [(614, .var 35 [.int .i64, .row Kii_, .con (.own 100000 3), .con (.own 200000 5), .con (.own 300000 3)]), (300000, .row 73 Kiii_)]⟩)] .d))) .d)))))
noncomputable def ref15_Compile_c (n : Nat) : Ctr Tryz.prog := .of Tryz.func12 n [ref15_made_c n] ref15_Compile_a ref15_Compile_s (fun d => ref15_Compile n d.1 d.2.1 d.2.2.1 d.2.2.2.1 d.2.2.2.2.1) fun d => by kernel_rfl
noncomputable def law15_Bits_l1b (n : Nat) (x1 : List Bool) (x2 : Int) (self : Int × List Bool × Unit → Option ((List Bool × Unit))) (d4 : Int × List Bool × Unit) : Option ((List Bool × Unit)) :=
 cond (decide (d4.1 < x2))
 (cond (decide (d4.1 < (x1.length : Int)))
 (ask (0 ≤ d4.1 ∧ d4.1 < (x1.length : Int)) (ask (True ∧ (d4.2.1.length + (([Kb_at x1 d4.1] : List Bool)).length) * 1 ≤ 140737488355328) (self (IntKind.wrap .i64 (d4.1 + 1), d4.2.1 ++ ([Kb_at x1 d4.1] : List Bool), ()))))
 (ask (True ∧ (d4.2.1.length + (([false] : List Bool)).length) * 1 ≤ 140737488355328) (self (IntKind.wrap .i64 (d4.1 + 1), d4.2.1 ++ ([false] : List Bool), ()))))
 (some (d4.2.1, ()))
noncomputable def law15_Bits_l1 (n : Nat) (x1 : List Bool) (x2 : Int) : Int × List Bool × Unit → Option ((List Bool × Unit)) := iter (law15_Bits_l1b n x1 x2) n
noncomputable def law15_Bits (n : Nat) (x1 : List Bool) (x2 : Int) : Option (List Bool × Unit) :=
 (law15_Bits_l1 n x1 x2 (0, ([] : List Bool), ())).bind (fun d5 => some (d5.1, ()))
def law15_Bits_s : Sig := ⟨[.c false [.row b_], .c false [.int .i64]], [], .c false [.row b_], []⟩
def law15_Bits_a : Ann := .s .d (.s .d (.s (.s .d (.b (.l [5, 6, 7, 8, 9, 10, 11, 12, 13, 14, 15, 16, 17, 18, 19, 20, 21, 22, 23, 24] [] ⟨[(5, .c false [.con (.own 100000 1)]), (6, .c false [.int .i64])], [(100000, .row 4 b_)]⟩ [(.exit 0, ⟨[(5, .c false [.con (.own 100000 1)])], [(100000, .row 4 b_)]⟩)] .d))) .d))
noncomputable def law15_Bits_c (n : Nat) : Ctr Tryz.prog := .of Tryz.func13 n [] law15_Bits_a law15_Bits_s (fun d => law15_Bits n d.1 d.2.1) fun d => by kernel_rfl
noncomputable def ref13_Lit (n : Nat) (x1 : List Bool) (x2 : Int) : Option (Bool × Unit) :=
 ask ((2 : Int) ≠ 0) (ask (0 ≤ (IntKind.wrap .i64 (Int.tdiv x2 2)) ∧ IntKind.wrap .i64 (Int.tdiv x2 2) < (x1.length : Int)) (ask ((2 : Int) ≠ 0) (some ((Kb_at x1 (IntKind.wrap .i64 (Int.tdiv x2 2)) != decide ((Int.tmod x2 2) = 1)), ()))))
def ref13_Lit_s : Sig := ⟨[.c false [.row b_], .c false [.int .i64]], [], .c false [.bool], []⟩
def ref13_Lit_a : Ann := .d
noncomputable def ref13_Lit_c (n : Nat) : Ctr Tryz.prog := .of Tryz.func51 n [] ref13_Lit_a ref13_Lit_s (fun d => ref13_Lit n d.1 d.2.1) fun d => by kernel_rfl
noncomputable def ref13_Eval_l1b (n : Nat) (x2 : List Kii) (self : Int × List Bool × Unit → Option ((List Bool × Unit))) (d6 : Int × List Bool × Unit) : Option ((List Bool × Unit)) :=
 cond (decide (d6.1 < (x2.length : Int)))
 (ask (0 ≤ d6.1 ∧ d6.1 < (x2.length : Int)) (ask (0 < 2) ((ref13_Lit n d6.2.1 ((Kii_at x2 d6.1).1)).bind (fun r7 => cond r7.1
 (ask (0 ≤ d6.1 ∧ d6.1 < (x2.length : Int)) (ask (1 < 2) ((ref13_Lit n d6.2.1 ((Kii_at x2 d6.1).2)).bind (fun r8 => ask (True ∧ (d6.2.1.length + (([r8.1] : List Bool)).length) * 1 ≤ 140737488355328) (self (IntKind.wrap .i64 (d6.1 + 1), d6.2.1 ++ ([r8.1] : List Bool), ()))))))
 (ask (True ∧ (d6.2.1.length + (([false] : List Bool)).length) * 1 ≤ 140737488355328) (self (IntKind.wrap .i64 (d6.1 + 1), d6.2.1 ++ ([false] : List Bool), ())))))))
 (some (d6.2.1, ()))
noncomputable def ref13_Eval_l1 (n : Nat) (x2 : List Kii) : Int × List Bool × Unit → Option ((List Bool × Unit)) := iter (ref13_Eval_l1b n x2) n
noncomputable def ref13_Eval (n : Nat) (x1 : Int) (x2 : List Kii) (x3 : List Bool) : Option (List Bool × Unit) :=
 ask (True ∧ ((([false] : List Bool)).length + x3.length) * 1 ≤ 140737488355328) ((ref13_Eval_l1 n x2 (0, ([false] : List Bool) ++ x3, ())).bind (fun d9 => some (d9.1, ())))
def ref13_Eval_s : Sig := ⟨[.c true [.int .i64, .row Kii_], .c false [.row b_]], [], .c false [.row b_], []⟩
def ref13_Eval_a : Ann := .s .d (.s .d (.s (.s .d (.b (.l [5, 6, 9, 10, 11, 12, 13, 14, 15, 16, 17, 18, 19, 20, 21, 22, 23, 24, 25, 26, 27, 28, 29, 30, 31, 32, 33, 34, 35, 36, 37] [229] ⟨[(5, .c false [.con (.own 229 1)]), (6, .c false [.int .i64])], [(229, .row 4 b_)]⟩ [(.exit 0, ⟨[(5, .c false [.con (.own 229 1)])], [(229, .row 4 b_)]⟩)] .d))) .d))
noncomputable def ref13_Eval_c (n : Nat) : Ctr Tryz.prog := .of Tryz.func50 n [ref13_Lit_c n] ref13_Eval_a ref13_Eval_s (fun d => ref13_Eval n d.1 d.2.1 d.2.2.1) fun d => by kernel_rfl
noncomputable def ref13_Eval_o_l1b (n : Nat) (x2 : List Kii) (self : Int × List Bool × Unit → Option ((List Bool × Unit))) (d6 : Int × List Bool × Unit) : Option ((List Bool × Unit)) :=
 cond (decide (d6.1 < (x2.length : Int)))
 (ask (0 ≤ d6.1 ∧ d6.1 < (x2.length : Int)) (ask (0 < 2) ((ref13_Lit n d6.2.1 ((Kii_at x2 d6.1).1)).bind (fun r7 => cond r7.1
 (ask (0 ≤ d6.1 ∧ d6.1 < (x2.length : Int)) (ask (1 < 2) ((ref13_Lit n d6.2.1 ((Kii_at x2 d6.1).2)).bind (fun r8 => ask (True ∧ (d6.2.1.length + (([r8.1] : List Bool)).length) * 1 ≤ 140737488355328) (self (IntKind.wrap .i64 (d6.1 + 1), d6.2.1 ++ ([r8.1] : List Bool), ()))))))
 (ask (True ∧ (d6.2.1.length + (([false] : List Bool)).length) * 1 ≤ 140737488355328) (self (IntKind.wrap .i64 (d6.1 + 1), d6.2.1 ++ ([false] : List Bool), ())))))))
 (some (d6.2.1, ()))
noncomputable def ref13_Eval_o_l1 (n : Nat) (x2 : List Kii) : Int × List Bool × Unit → Option ((List Bool × Unit)) := iter (ref13_Eval_o_l1b n x2) n
noncomputable def ref13_Eval_o (n : Nat) (x1 : Int) (x2 : List Kii) (x3 : List Bool) : Option (List Bool × Unit) :=
 ask (True ∧ ((([false] : List Bool)).length + x3.length) * 1 ≤ 140737488355328) ((ref13_Eval_o_l1 n x2 (0, ([false] : List Bool) ++ x3, ())).bind (fun d9 => some (d9.1, ())))
def ref13_Eval_o_s : Sig := ⟨[.c true [.int .i64, .row Kii_], .c false [.row b_]], [], .c false [.con (.own 229 1)], [(229, .row 4 b_)]⟩
def ref13_Eval_o_a : Ann := .s .d (.s .d (.s (.s .d (.b (.l [5, 6, 9, 10, 11, 12, 13, 14, 15, 16, 17, 18, 19, 20, 21, 22, 23, 24, 25, 26, 27, 28, 29, 30, 31, 32, 33, 34, 35, 36, 37] [229] ⟨[(5, .c false [.con (.own 229 1)]), (6, .c false [.int .i64])], [(229, .row 4 b_)]⟩ [(.exit 0, ⟨[(5, .c false [.con (.own 229 1)])], [(229, .row 4 b_)]⟩)] .d))) .d))
noncomputable def ref13_Eval_o_c (n : Nat) : Ctr Tryz.prog := .of Tryz.func50 n [ref13_Lit_c n] ref13_Eval_o_a ref13_Eval_o_s (fun d => ref13_Eval_o n d.1 d.2.1 d.2.2.1) fun d => by kernel_rfl
noncomputable def ref15_Step_l1b (n : Nat) (r8 : List Bool × Unit) (x4 : List Kiibii) (self : Int × List Bool × Unit → Option ((List Bool × Unit))) (d10 : Int × List Bool × Unit) : Option ((List Bool × Unit)) :=
 cond (decide (d10.1 < (x4.length : Int)))
 (ask (0 ≤ d10.1 ∧ d10.1 < (x4.length : Int)) ((ref13_Lit n r8.1 (((Kiibii_at x4 d10.1).2).1)).bind (fun r11 => ask (True ∧ (d10.2.1.length + (([r11.1] : List Bool)).length) * 1 ≤ 140737488355328) (self (IntKind.wrap .i64 (d10.1 + 1), d10.2.1 ++ ([r11.1] : List Bool), ())))))
 (some (d10.2.1, ()))
noncomputable def ref15_Step_l1 (n : Nat) (r8 : List Bool × Unit) (x4 : List Kiibii) : Int × List Bool × Unit → Option ((List Bool × Unit)) := iter (ref15_Step_l1b n r8 x4) n
noncomputable def ref15_Step_l2b (n : Nat) (r8 : List Bool × Unit) (x5 : List Kiii) (self : Int × List Bool × Unit → Option ((List Bool × Unit))) (d14 : Int × List Bool × Unit) : Option ((List Bool × Unit)) :=
 cond (decide (d14.1 < (x5.length : Int)))
 (ask (0 ≤ d14.1 ∧ d14.1 < (x5.length : Int)) ((ref13_Lit n r8.1 (((Kiii_at x5 d14.1).2).1)).bind (fun r15 => ask (True ∧ (d14.2.1.length + (([r15.1] : List Bool)).length) * 1 ≤ 140737488355328) (self (IntKind.wrap .i64 (d14.1 + 1), d14.2.1 ++ ([r15.1] : List Bool), ())))))
 (some (d14.2.1, ()))
noncomputable def ref15_Step_l2 (n : Nat) (r8 : List Bool × Unit) (x5 : List Kiii) : Int × List Bool × Unit → Option ((List Bool × Unit)) := iter (ref15_Step_l2b n r8 x5) n
noncomputable def ref15_Step (n : Nat) (x1 : Int) (x2 : List Kii) (x3 : List Kiii) (x4 : List Kiibii) (x5 : List Kiii) (x6 : List Bool) (x7 : List Bool) : Option (List Bool × List Bool × Unit) :=
 ask (True ∧ ((([] : List Bool)).length + x7.length) * 1 ≤ 140737488355328) (ask (True ∧ ((([] : List Bool) ++ x7).length + x6.length) * 1 ≤ 140737488355328) ((ref13_Eval_o n x1 x2 ((([] : List Bool) ++ x7) ++ x6)).bind (fun r8 => (ref15_Step_l1 n r8 x4 (0, ([] : List Bool), ())).bind (fun d12 => (ref15_Step_l2 n r8 x5 (0, ([] : List Bool), ())).bind (fun d16 => some (d12.1, d16.1, ()))))))
def ref15_Step_s : Sig := ⟨[.c true [.int .i64, .row Kii_, .row Kiii_, .row Kiibii_, .row Kiii_], .c false [.row b_], .c false [.row b_]], [], .t [(false, [.row b_]), (false, [.row b_])], []⟩
def ref15_Step_a : Ann := .s .d (.s .d (.s .d (.s .d (.s (.s .d (.b (.l [9, 11, 21, 22, 23, 24, 25, 26, 27, 28, 29, 30, 31, 32, 33, 34, 35, 36, 37, 38] [] ⟨[(9, .c false [.con (.own 100000 1)]), (11, .c false [.int .i64])], [(100000, .row 4 b_)]⟩ [(.exit 0, ⟨[(9, .c false [.con (.own 100000 1)])], [(100000, .row 4 b_)]⟩)] .d))) (.s (.s .d (.b (.l [10, 12, 39, 40, 41, 42, 43, 44, 45, 46, 47, 48, 49, 50, 51, 52, 53, 54, 55, 56] [] ⟨[(10, .c false [.con (.own 200000 1)]), (12, .c false [.int .i64])], [(200000, .row 4 b_)]⟩ [(.exit 2, ⟨[(10, .c false [.con (.own 200000 1)])], [(200000, .row 4 b_)]⟩)] .d))) .d)))))
noncomputable def ref15_Step_c (n : Nat) : Ctr Tryz.prog := .of Tryz.func15 n [ref13_Eval_o_c n, ref13_Lit_c n] ref15_Step_a ref15_Step_s (fun d => ref15_Step n d.1 d.2.1 d.2.2.1 d.2.2.2.1 d.2.2.2.2.1 d.2.2.2.2.2.1 d.2.2.2.2.2.2.1) fun d => by kernel_rfl
noncomputable def law15_At (n : Nat) (x1 : List Int) (x2 : Int) : Option (Int × Unit) :=
 cond (decide (x2 < (x1.length : Int)))
 (ask (0 ≤ x2 ∧ x2 < (x1.length : Int)) (some (Kw_at x1 x2, ())))
 (some (0, ()))
def law15_At_s : Sig := ⟨[.c false [.row u16_], .c false [.int .i64]], [], .c false [.int .u16], []⟩
def law15_At_a : Ann := .d
noncomputable def law15_At_c (n : Nat) : Ctr Tryz.prog := .of Tryz.func16 n [] law15_At_a law15_At_s (fun d => law15_At n d.1 d.2.1) fun d => by kernel_rfl
noncomputable def ref15_First_l1b (n : Nat) (x4 : List Kiibii) (self : Int × List Bool × Unit → Option ((List Bool × Unit))) (d7 : Int × List Bool × Unit) : Option ((List Bool × Unit)) :=
 cond (decide (d7.1 < (x4.length : Int)))
 (ask (0 ≤ d7.1 ∧ d7.1 < (x4.length : Int)) (ask (True ∧ (d7.2.1.length + (([(((Kiibii_at x4 d7.1).2).2).1] : List Bool)).length) * 1 ≤ 140737488355328) (self (IntKind.wrap .i64 (d7.1 + 1), d7.2.1 ++ ([(((Kiibii_at x4 d7.1).2).2).1] : List Bool), ()))))
 (some (d7.2.1, ()))
noncomputable def ref15_First_l1 (n : Nat) (x4 : List Kiibii) : Int × List Bool × Unit → Option ((List Bool × Unit)) := iter (ref15_First_l1b n x4) n
noncomputable def ref15_First (n : Nat) (x1 : Int) (x2 : List Kii) (x3 : List Kiii) (x4 : List Kiibii) (x5 : List Kiii) : Option (List Bool × Unit) :=
 (ref15_First_l1 n x4 (0, ([] : List Bool), ())).bind (fun d8 => some (d8.1, ()))
def ref15_First_s : Sig := ⟨[.c true [.int .i64, .row Kii_, .row Kiii_, .row Kiibii_, .row Kiii_]], [], .c false [.row b_], []⟩
def ref15_First_a : Ann := .s .d (.s .d (.s (.s .d (.b (.l [3, 4, 5, 6, 7, 8, 9, 10, 11, 12, 13, 14, 15, 16, 17, 18, 19, 20] [] ⟨[(3, .c false [.con (.own 100000 1)]), (4, .c false [.int .i64])], [(100000, .row 4 b_)]⟩ [(.exit 0, ⟨[(3, .c false [.con (.own 100000 1)])], [(100000, .row 4 b_)]⟩)] .d))) .d))
noncomputable def ref15_First_c (n : Nat) : Ctr Tryz.prog := .of Tryz.func19 n [] ref15_First_a ref15_First_s (fun d => ref15_First n d.1 d.2.1 d.2.2.1 d.2.2.2.1 d.2.2.2.2.1) fun d => by kernel_rfl
noncomputable def ref15_Ins_l1b (n : Nat) (x3 : List Kiii) (x6 : List Int) (self : Int × List Bool × Unit → Option ((List Bool × Unit))) (d8 : Int × List Bool × Unit) : Option ((List Bool × Unit)) :=
 cond (decide (d8.1 < (x3.length : Int)))
 (ask (0 ≤ d8.1 ∧ d8.1 < (x3.length : Int)) (ask (2 < 3) (cond (decide ((((Kiii_at x3 d8.1).2).2) < 16))
 (ask (0 ≤ d8.1 ∧ d8.1 < (x3.length : Int)) (ask (1 < 3) (ask (0 ≤ (((Kiii_at x3 d8.1).2).1) ∧ ((Kiii_at x3 d8.1).2).1 < (x6.length : Int)) (ask (0 ≤ (((Kiii_at x3 d8.1).2).2)) (ask (True ∧ (d8.2.1.length + (([decide ((bits .and .i64 (shrI .i64 (Ki_at x6 (((Kiii_at x3 d8.1).2).1)) (((Kiii_at x3 d8.1).2).2)) 1) = 1)] : List Bool)).length) * 1 ≤ 140737488355328) (self (IntKind.wrap .i64 (d8.1 + 1), d8.2.1 ++ ([decide ((bits .and .i64 (shrI .i64 (Ki_at x6 (((Kiii_at x3 d8.1).2).1)) (((Kiii_at x3 d8.1).2).2)) 1) = 1)] : List Bool), ())))))))
 (ask (True ∧ (d8.2.1.length + (([false] : List Bool)).length) * 1 ≤ 140737488355328) (self (IntKind.wrap .i64 (d8.1 + 1), d8.2.1 ++ ([false] : List Bool), ()))))))
 (some (d8.2.1, ()))
noncomputable def ref15_Ins_l1 (n : Nat) (x3 : List Kiii) (x6 : List Int) : Int × List Bool × Unit → Option ((List Bool × Unit)) := iter (ref15_Ins_l1b n x3 x6) n
noncomputable def ref15_Ins (n : Nat) (x1 : Int) (x2 : List Kii) (x3 : List Kiii) (x4 : List Kiibii) (x5 : List Kiii) (x6 : List Int) : Option (List Bool × Unit) :=
 (ref15_Ins_l1 n x3 x6 (0, ([] : List Bool), ())).bind (fun d9 => some (d9.1, ()))
def ref15_Ins_s : Sig := ⟨[.c true [.int .i64, .row Kii_, .row Kiii_, .row Kiibii_, .row Kiii_], .c false [.row i_]], [], .c false [.row b_], []⟩
def ref15_Ins_a : Ann := .s .d (.s .d (.s (.s .d (.b (.l [5, 6, 7, 8, 9, 10, 11, 12, 13, 14, 15, 16, 17, 18, 19, 20, 21, 22, 23, 24, 25, 26, 27, 28, 29, 30, 31, 32, 33, 34, 35, 36, 37, 38, 39, 40] [] ⟨[(5, .c false [.con (.own 100000 1)]), (6, .c false [.int .i64])], [(100000, .row 4 b_)]⟩ [(.exit 0, ⟨[(5, .c false [.con (.own 100000 1)])], [(100000, .row 4 b_)]⟩)] .d))) .d))
noncomputable def ref15_Ins_c (n : Nat) : Ctr Tryz.prog := .of Tryz.func21 n [] ref15_Ins_a ref15_Ins_s (fun d => ref15_Ins n d.1 d.2.1 d.2.2.1 d.2.2.2.1 d.2.2.2.2.1 d.2.2.2.2.2.1) fun d => by kernel_rfl
noncomputable def ref15_Ins_o_l1b (n : Nat) (x3 : List Kiii) (x6 : List Int) (self : Int × List Bool × Unit → Option ((List Bool × Unit))) (d8 : Int × List Bool × Unit) : Option ((List Bool × Unit)) :=
 cond (decide (d8.1 < (x3.length : Int)))
 (ask (0 ≤ d8.1 ∧ d8.1 < (x3.length : Int)) (ask (2 < 3) (cond (decide ((((Kiii_at x3 d8.1).2).2) < 16))
 (ask (0 ≤ d8.1 ∧ d8.1 < (x3.length : Int)) (ask (1 < 3) (ask (0 ≤ (((Kiii_at x3 d8.1).2).1) ∧ ((Kiii_at x3 d8.1).2).1 < (x6.length : Int)) (ask (0 ≤ (((Kiii_at x3 d8.1).2).2)) (ask (True ∧ (d8.2.1.length + (([decide ((bits .and .i64 (shrI .i64 (Ki_at x6 (((Kiii_at x3 d8.1).2).1)) (((Kiii_at x3 d8.1).2).2)) 1) = 1)] : List Bool)).length) * 1 ≤ 140737488355328) (self (IntKind.wrap .i64 (d8.1 + 1), d8.2.1 ++ ([decide ((bits .and .i64 (shrI .i64 (Ki_at x6 (((Kiii_at x3 d8.1).2).1)) (((Kiii_at x3 d8.1).2).2)) 1) = 1)] : List Bool), ())))))))
 (ask (True ∧ (d8.2.1.length + (([false] : List Bool)).length) * 1 ≤ 140737488355328) (self (IntKind.wrap .i64 (d8.1 + 1), d8.2.1 ++ ([false] : List Bool), ()))))))
 (some (d8.2.1, ()))
noncomputable def ref15_Ins_o_l1 (n : Nat) (x3 : List Kiii) (x6 : List Int) : Int × List Bool × Unit → Option ((List Bool × Unit)) := iter (ref15_Ins_o_l1b n x3 x6) n
noncomputable def ref15_Ins_o (n : Nat) (x1 : Int) (x2 : List Kii) (x3 : List Kiii) (x4 : List Kiibii) (x5 : List Kiii) (x6 : List Int) : Option (List Bool × Unit) :=
 (ref15_Ins_o_l1 n x3 x6 (0, ([] : List Bool), ())).bind (fun d9 => some (d9.1, ()))
def ref15_Ins_o_s : Sig := ⟨[.c true [.int .i64, .row Kii_, .row Kiii_, .row Kiibii_, .row Kiii_], .c false [.row i_]], [], .c false [.con (.own 100000 1)], [(100000, .row 4 b_)]⟩
def ref15_Ins_o_a : Ann := .s .d (.s .d (.s (.s .d (.b (.l [5, 6, 7, 8, 9, 10, 11, 12, 13, 14, 15, 16, 17, 18, 19, 20, 21, 22, 23, 24, 25, 26, 27, 28, 29, 30, 31, 32, 33, 34, 35, 36, 37, 38, 39, 40] [] ⟨[(5, .c false [.con (.own 100000 1)]), (6, .c false [.int .i64])], [(100000, .row 4 b_)]⟩ [(.exit 0, ⟨[(5, .c false [.con (.own 100000 1)])], [(100000, .row 4 b_)]⟩)] .d))) .d))
noncomputable def ref15_Ins_o_c (n : Nat) : Ctr Tryz.prog := .of Tryz.func21 n [] ref15_Ins_o_a ref15_Ins_o_s (fun d => ref15_Ins_o n d.1 d.2.1 d.2.2.1 d.2.2.2.1 d.2.2.2.2.1 d.2.2.2.2.2.1) fun d => by kernel_rfl
noncomputable def ref15_Row_j1 (n : Nat) (d10 : Int × List Int × Unit) (x3 : List Kiii) (x6 : Int) (x7 : List Bool) : Option ((Bool × Unit)) :=
 cond (decide ((((Kiii_at x3 d10.1).2).1) < x6))
 (cond (decide ((((Kiii_at x3 d10.1).2).2) < 16))
 (ask (0 ≤ d10.1 ∧ d10.1 < (x7.length : Int)) (some (Kb_at x7 d10.1, ())))
 (some (false, ())))
 (some (false, ()))
noncomputable def ref15_Row_l2b (n : Nat) (x3 : List Kiii) (x6 : Int) (x7 : List Bool) (self : Int × List Int × Unit → Option ((List Int × Unit))) (d10 : Int × List Int × Unit) : Option ((List Int × Unit)) :=
 cond (decide (d10.1 < (x3.length : Int)))
 (ask (0 ≤ d10.1 ∧ d10.1 < (x3.length : Int)) (ask (1 < 3) (ask (0 ≤ d10.1 ∧ d10.1 < (x3.length : Int)) (ask (2 < 3) ((ref15_Row_j1 n d10 x3 x6 x7).bind (fun d11 => cond d11.1
 (ask (0 ≤ (((Kiii_at x3 d10.1).2).1) ∧ ((Kiii_at x3 d10.1).2).1 < (d10.2.1.length : Int)) (ask (0 ≤ (((Kiii_at x3 d10.1).2).2)) (ask (0 ≤ (((Kiii_at x3 d10.1).2).1) ∧ ((Kiii_at x3 d10.1).2).1 < (d10.2.1.length : Int)) (self (IntKind.wrap .i64 (d10.1 + 1), d10.2.1.set (((Kiii_at x3 d10.1).2).1).toNat (IntKind.wrap .i64 ((Ki_at d10.2.1 (((Kiii_at x3 d10.1).2).1)) + (shlI .i64 1 (((Kiii_at x3 d10.1).2).2)))), ())))))
 (self (IntKind.wrap .i64 (d10.1 + 1), d10.2.1, ()))))))))
 (some (d10.2.1, ()))
noncomputable def ref15_Row_l2 (n : Nat) (x3 : List Kiii) (x6 : Int) (x7 : List Bool) : Int × List Int × Unit → Option ((List Int × Unit)) := iter (ref15_Row_l2b n x3 x6 x7) n
noncomputable def ref15_Row (n : Nat) (x1 : Int) (x2 : List Kii) (x3 : List Kiii) (x4 : List Kiibii) (x5 : List Kiii) (x6 : Int) (x7 : List Bool) : Option (List Int × Unit) :=
 ask ((0 ≤ x6 ∧ x6 ≤ x6) ∧ (8 : Int) * x6 ≤ 281474976710656 ∧ x6 ≤ 281474976710656) ((ref15_Row_l2 n x3 x6 x7 (0, List.replicate x6.toNat (0 : Int), ())).bind (fun d12 => some (d12.1, ())))
def ref15_Row_s : Sig := ⟨[.c true [.int .i64, .row Kii_, .row Kiii_, .row Kiibii_, .row Kiii_], .c false [.int .i64], .c false [.row b_]], [], .c false [.row i_], []⟩
def ref15_Row_a : Ann := .s .d (.s .d (.s (.s .d (.b (.l [7, 8, 9, 10, 12, 13, 14, 15, 16, 17, 18, 19, 20, 21, 22, 23, 24, 25, 26, 27, 28, 29, 30, 31, 32, 33, 34, 35, 36, 37, 38, 39, 40, 41, 42, 43, 44, 45, 46, 47, 48, 49, 50, 51, 52, 53, 54] [165] ⟨[(7, .c false [.con (.own 165 1)]), (8, .c false [.int .i64])], [(165, .row 3 i_)]⟩ [(.exit 0, ⟨[(7, .c false [.con (.own 165 1)])], [(165, .row 3 i_)]⟩)] (.s .d (.s (.b (.s .d (.s .d (.j [32, 33, 34, 35, 36, 37, 38, 39, 40, 41, 42, 43, 44] [] [(.normal, ⟨[(44, .c false [.bool])], []⟩)] .d .d)))) .d))))) .d))
noncomputable def ref15_Row_c (n : Nat) : Ctr Tryz.prog := .of Tryz.func24 n [] ref15_Row_a ref15_Row_s (fun d => ref15_Row n d.1 d.2.1 d.2.2.1 d.2.2.2.1 d.2.2.2.2.1 d.2.2.2.2.2.1 d.2.2.2.2.2.2.1) fun d => by kernel_rfl
noncomputable def law15_CircTells_l1b (n : Nat) (x2 : List Ksi) (x14 : List Int) (self : Int × List Int × Unit → Option ((List Int × Unit))) (d27 : Int × List Int × Unit) : Option ((List Int × Unit)) :=
 cond (decide (d27.1 < (x2.length : Int)))
 ((law15_At n x14 d27.1).bind (fun r28 => ask (True ∧ (d27.2.1.length + (([IntKind.wrap .i64 r28.1] : List Int)).length) * 8 ≤ 140737488355328) (self (IntKind.wrap .i64 (d27.1 + 1), d27.2.1 ++ ([IntKind.wrap .i64 r28.1] : List Int), ()))))
 (some (d27.2.1, ()))
noncomputable def law15_CircTells_l1 (n : Nat) (x2 : List Ksi) (x14 : List Int) : Int × List Int × Unit → Option ((List Int × Unit)) := iter (law15_CircTells_l1b n x2 x14) n
noncomputable def law15_CircTells (n : Nat) (x1 : List Kiiiiiii) (x2 : List Ksi) (x3 : List Ksiii) (x4 : List Kisi) (x5 : List Ksi) (x6 : Int) (x7 : List Kii) (x8 : List Kiii) (x9 : List Kiibii) (x10 : List Kiii) (x11 : List Bool) (x12 : List Bool) (x13 : Int) (x14 : List Int) : Option (Bool × Unit) :=
 (law15_head n).bind (fun r15 => (law09_Great n x1 x2 x3 x4 x5).bind (fun r16 => cond r16.1
 (some (r15.1, ()))
 ((ref09_Right n x1 x2 x3 x4 x5).bind (fun r17 => cond (!r17.1)
 (some (r15.1, ()))
 ((ref15_Weight n x1 x2 x3 x4 x5).bind (fun r18 => cond (decide ((6000 : Int) < r18.1))
 (some (r15.1, ()))
 (cond (decide ((200 : Int) < (x7.length : Int)))
 (some (r15.1, ()))
 (cond (decide ((100 : Int) < (x8.length : Int)))
 (some (r15.1, ()))
 (cond (decide ((300 : Int) < (x9.length : Int)))
 (some (r15.1, ()))
 (cond (decide ((100 : Int) < (x10.length : Int)))
 (some (r15.1, ()))
 ((circ_Right n x6 x7 x8 x9 x10).bind (fun r19 => (ref15_Right n x6 x7 x8 x9 x10).bind (fun r20 => cond (r19.1 != r20.1)
 (some (false, ()))
 ((ref15_Compile n x1 x2 x3 x4 x5).bind (fun r21 => (law15_Bits n x11 (r21.2.2.2.1.length : Int)).bind (fun r22 => (law15_Bits n x12 (r21.2.2.1.length : Int)).bind (fun r23 => (circ_Step n r21.1 r21.2.1 r21.2.2.1 r21.2.2.2.1 r21.2.2.2.2.1 r22.1 r23.1).bind (fun r24 => (ref15_Step n r21.1 r21.2.1 r21.2.2.1 r21.2.2.2.1 r21.2.2.2.2.1 r22.1 r23.1).bind (fun r25 => (law15_CircTells_l1 n x2 x14 (0, ([] : List Int), ())).bind (fun d29 => ask ((65 : Int) ≠ 0) (cond r15.1
 ((circ_First n r21.1 r21.2.1 r21.2.2.1 r21.2.2.2.1 r21.2.2.2.2.1).bind (fun r30 => (ref15_First n r21.1 r21.2.1 r21.2.2.1 r21.2.2.2.1 r21.2.2.2.2.1).bind (fun r31 => (ref08_Same n r30.1 r31.1).bind (fun r32 => cond r32.1
 ((ref08_Same n r24.1 r25.1).bind (fun r33 => cond r33.1
 ((ref08_Same n r24.2.1 r25.2.1).bind (fun r34 => cond r34.1
 ((circ_Ins_o n r21.1 r21.2.1 r21.2.2.1 r21.2.2.2.1 r21.2.2.2.2.1 d29.1).bind (fun r35 => (ref15_Ins_o n r21.1 r21.2.1 r21.2.2.1 r21.2.2.2.1 r21.2.2.2.2.1 d29.1).bind (fun r36 => (ref08_Same n r35.1 r36.1).bind (fun r37 => cond r37.1
 ((circ_Row n r21.1 r21.2.1 r21.2.2.1 r21.2.2.2.1 r21.2.2.2.2.1 (Int.tmod (IntKind.wrap .i64 x13) 65) r23.1).bind (fun r38 => (ref15_Row n r21.1 r21.2.1 r21.2.2.1 r21.2.2.2.1 r21.2.2.2.2.1 (Int.tmod (IntKind.wrap .i64 x13) 65) r23.1).bind (fun r39 => (ref04_SameInts n r38.1 r39.1).bind (fun r40 => some (r40.1, ())))))
 (some (false, ()))))))
 (some (false, ()))))
 (some (false, ()))))
 (some (false, ()))))))
 (some (false, ())))))))))))))))))))))))
def law15_CircTells_s : Sig := ⟨[.c true [.row Kiiiiiii_, .row Ksi_, .row Ksiii_, .row Kisi_, .row Ksi_], .c true [.int .i64, .row Kii_, .row Kiii_, .row Kiibii_, .row Kiii_], .c false [.row b_], .c false [.row b_], .c false [.int .u8], .c false [.row u16_]], [], .c false [.bool], []⟩
def law15_CircTells_a : Ann := .s .d (.s .d (.s .d (.s .d (.s .d (.s .d (.s .d (.s .d (.s .d (.s .d (.s (.s .d (.b (.l [21, 22, 94, 95, 96, 97, 98, 99, 100, 101, 102, 103, 104, 105, 106, 107] [] ⟨[(21, .c false [.con (.own 100000 1)]), (22, .c false [.int .i64])], [(100000, .row 3 i_)]⟩ [(.exit 0, ⟨[(21, .c false [.con (.own 100000 1)])], [(100000, .row 3 i_)]⟩)] .d))) .d))))))))))
noncomputable def law15_CircTells_c (n : Nat) : Ctr Tryz.prog := .of Tryz.func3 n [law15_head_c n, law09_Great_c n, ref09_Right_c n, ref15_Weight_c n, circ_Right_c n, ref15_Right_c n, ref15_Compile_c n, law15_Bits_c n, circ_Step_c n, ref15_Step_c n, law15_At_c n, circ_First_c n, ref15_First_c n, ref08_Same_c n, circ_Ins_o_c n, ref15_Ins_o_c n, circ_Row_c n, ref15_Row_c n, ref04_SameInts_c n] law15_CircTells_a law15_CircTells_s (fun d => law15_CircTells n d.1 d.2.1 d.2.2.1 d.2.2.2.1 d.2.2.2.2.1 d.2.2.2.2.2.1 d.2.2.2.2.2.2.1 d.2.2.2.2.2.2.2.1 d.2.2.2.2.2.2.2.2.1 d.2.2.2.2.2.2.2.2.2.1 d.2.2.2.2.2.2.2.2.2.2.1 d.2.2.2.2.2.2.2.2.2.2.2.1 d.2.2.2.2.2.2.2.2.2.2.2.2.1 d.2.2.2.2.2.2.2.2.2.2.2.2.2.1) fun d => by kernel_rfl
noncomputable def law15_Fits_j1 (n : Nat) (d12 : Int × Int × Int × Unit) (x1 : List Kiiiiiii) : Option ((Int × Unit)) :=
 ask (0 ≤ d12.2.2.1 ∧ d12.2.2.1 < (x1.length : Int)) (cond (decide (((Kiiiiiii_at x1 d12.2.2.1).1) = 21))
 (ask (0 ≤ d12.2.2.1 ∧ d12.2.2.1 < (x1.length : Int)) (some (IntKind.wrap .i64 (d12.1 + (((Kiiiiiii_at x1 d12.2.2.1).2).1)), ())))
 (some (d12.1, ())))
noncomputable def law15_Fits_l2b (n : Nat) (x1 : List Kiiiiiii) (self : Int × Int × Int × Unit → Option ((Int × Int × Unit))) (d12 : Int × Int × Int × Unit) : Option ((Int × Int × Unit)) :=
 cond (decide (d12.2.2.1 < (x1.length : Int)))
 ((law15_Fits_j1 n d12 x1).bind (fun d13 => ask (0 ≤ d12.2.2.1 ∧ d12.2.2.1 < (x1.length : Int)) (cond (decide (((Kiiiiiii_at x1 d12.2.2.1).1) = 22))
 (ask (0 ≤ d12.2.2.1 ∧ d12.2.2.1 < (x1.length : Int)) (self (d13.1, IntKind.wrap .i64 (d12.2.1 + (((Kiiiiiii_at x1 d12.2.2.1).2).1)), IntKind.wrap .i64 (d12.2.2.1 + 1), ())))
 (self (d13.1, d12.2.1, IntKind.wrap .i64 (d12.2.2.1 + 1), ())))))
 (some (d12.1, d12.2.1, ()))
noncomputable def law15_Fits_l2 (n : Nat) (x1 : List Kiiiiiii) : Int × Int × Int × Unit → Option ((Int × Int × Unit)) := iter (law15_Fits_l2b n x1) n
noncomputable def law15_Fits (n : Nat) (x1 : List Kiiiiiii) (x2 : List Ksi) (x3 : List Ksiii) (x4 : List Kisi) (x5 : List Ksi) (x6 : Int) (x7 : List Kii) (x8 : List Kiii) (x9 : List Kiibii) (x10 : List Kiii) : Option (Bool × Unit) :=
 (law15_Fits_l2 n x1 (0, 0, 0, ())).bind (fun d14 => (ref15_Right n x6 x7 x8 x9 x10).bind (fun r15 => cond r15.1
 (cond (decide ((x8.length : Int) = d14.1))
 (cond (decide ((x9.length : Int) = d14.2.1))
 (some (decide ((x10.length : Int) = (x4.length : Int)), ()))
 (some (false, ())))
 (some (false, ())))
 (some (false, ()))))
def law15_Fits_s : Sig := ⟨[.c true [.row Kiiiiiii_, .row Ksi_, .row Ksiii_, .row Kisi_, .row Ksi_], .c true [.int .i64, .row Kii_, .row Kiii_, .row Kiibii_, .row Kiii_]], [], .c false [.bool], []⟩
def law15_Fits_a : Ann := .s .d (.s .d (.s .d (.s (.s .d (.b (.l [5, 6, 7, 8, 9, 10, 11, 12, 13, 14, 15, 16, 17, 18, 19, 20, 21, 22, 23, 24, 25, 26, 27, 28, 29, 30, 31, 32, 33, 34, 35, 36, 37, 38, 39, 40, 41, 42, 43, 44] [] ⟨[(5, .c false [.int .i64]), (6, .c false [.int .i64]), (7, .c false [.int .i64])], []⟩ [(.exit 0, ⟨[(5, .c false [.int .i64]), (6, .c false [.int .i64])], []⟩)] (.s .d (.s (.b (.j [5, 15, 16, 17, 18, 19, 20, 21, 22, 23, 24, 25, 26, 27, 28, 29] [] [(.normal, ⟨[(5, .c false [.int .i64])], []⟩)] .d .d)) .d))))) .d)))
noncomputable def law15_Fits_c (n : Nat) : Ctr Tryz.prog := .of Tryz.func26 n [ref15_Right_c n] law15_Fits_a law15_Fits_s (fun d => law15_Fits n d.1 d.2.1 d.2.2.1 d.2.2.2.1 d.2.2.2.2.1 d.2.2.2.2.2.1 d.2.2.2.2.2.2.1 d.2.2.2.2.2.2.2.1 d.2.2.2.2.2.2.2.2.1 d.2.2.2.2.2.2.2.2.2.1) fun d => by kernel_rfl
noncomputable def law09_Rows_j1 (n : Nat) (d9 : Int × List Int × Unit) (x1 : List Kiiiiiii) (x3 : List Ksiii) (x6 : List Int) : Option ((Int × Unit)) :=
 cond (decide (d9.1 < (x6.length : Int)))
 (ask (0 ≤ d9.1 ∧ d9.1 < (x6.length : Int)) (ask (0 ≤ d9.1 ∧ d9.1 < (x3.length : Int)) (ask (0 ≤ (((Ksiii_at x3 d9.1).2).1) ∧ ((Ksiii_at x3 d9.1).2).1 < (x1.length : Int)) ((ref08_Mask n (((Kiiiiiii_at x1 (((Ksiii_at x3 d9.1).2).1)).2).1)).bind (fun r10 => some (bits .and .i64 (IntKind.wrap .i64 (Kw_at x6 d9.1)) r10.1, ()))))))
 (some (0, ()))
noncomputable def law09_Rows_l2b (n : Nat) (x1 : List Kiiiiiii) (x3 : List Ksiii) (x6 : List Int) (self : Int × List Int × Unit → Option ((List Int × Unit))) (d9 : Int × List Int × Unit) : Option ((List Int × Unit)) :=
 cond (decide (d9.1 < (x3.length : Int)))
 ((law09_Rows_j1 n d9 x1 x3 x6).bind (fun d11 => ask (True ∧ (d9.2.1.length + (([d11.1] : List Int)).length) * 8 ≤ 140737488355328) (self (IntKind.wrap .i64 (d9.1 + 1), d9.2.1 ++ ([d11.1] : List Int), ()))))
 (some (d9.2.1, ()))
noncomputable def law09_Rows_l2 (n : Nat) (x1 : List Kiiiiiii) (x3 : List Ksiii) (x6 : List Int) : Int × List Int × Unit → Option ((List Int × Unit)) := iter (law09_Rows_l2b n x1 x3 x6) n
noncomputable def law09_Rows_j3 (n : Nat) (d14 : Int × List Int × Unit) (x1 : List Kiiiiiii) (x2 : List Ksi) (x7 : List Int) : Option ((Int × Unit)) :=
 cond (decide (d14.1 < (x7.length : Int)))
 (ask (0 ≤ d14.1 ∧ d14.1 < (x7.length : Int)) (ask (0 ≤ d14.1 ∧ d14.1 < (x2.length : Int)) (ask (0 ≤ ((Ksi_at x2 d14.1).2) ∧ (Ksi_at x2 d14.1).2 < (x1.length : Int)) ((ref08_Mask n (((Kiiiiiii_at x1 ((Ksi_at x2 d14.1).2)).2).1)).bind (fun r15 => some (bits .and .i64 (IntKind.wrap .i64 (Kw_at x7 d14.1)) r15.1, ()))))))
 (some (0, ()))
noncomputable def law09_Rows_l4b (n : Nat) (x1 : List Kiiiiiii) (x2 : List Ksi) (x7 : List Int) (self : Int × List Int × Unit → Option ((List Int × Unit))) (d14 : Int × List Int × Unit) : Option ((List Int × Unit)) :=
 cond (decide (d14.1 < (x2.length : Int)))
 ((law09_Rows_j3 n d14 x1 x2 x7).bind (fun d16 => ask (True ∧ (d14.2.1.length + (([d16.1] : List Int)).length) * 8 ≤ 140737488355328) (self (IntKind.wrap .i64 (d14.1 + 1), d14.2.1 ++ ([d16.1] : List Int), ()))))
 (some (d14.2.1, ()))
noncomputable def law09_Rows_l4 (n : Nat) (x1 : List Kiiiiiii) (x2 : List Ksi) (x7 : List Int) : Int × List Int × Unit → Option ((List Int × Unit)) := iter (law09_Rows_l4b n x1 x2 x7) n
noncomputable def law09_Rows (n : Nat) (x1 : List Kiiiiiii) (x2 : List Ksi) (x3 : List Ksiii) (x4 : List Kisi) (x5 : List Ksi) (x6 : List Int) (x7 : List Int) : Option (List Int × List Int × Unit) :=
 (law09_Rows_l2 n x1 x3 x6 (0, ([] : List Int), ())).bind (fun d12 => (law09_Rows_l4 n x1 x2 x7 (0, ([] : List Int), ())).bind (fun d17 => some (d12.1, d17.1, ())))
def law09_Rows_s : Sig := ⟨[.c true [.row Kiiiiiii_, .row Ksi_, .row Ksiii_, .row Kisi_, .row Ksi_], .c false [.row u16_], .c false [.row u16_]], [], .t [(false, [.row i_]), (false, [.row i_])], []⟩
def law09_Rows_a : Ann := .s .d (.s .d (.s .d (.s (.s .d (.b (.l [8, 10, 11, 14, 15, 16, 17, 18, 19, 20, 21, 22, 23, 24, 25, 26, 27, 28, 29, 30, 31, 32, 33, 34, 35, 36, 37, 38, 39, 40, 41, 42, 43, 44, 45, 46] [] ⟨[(8, .c false [.con (.own 100000 1)]), (10, .c false [.int .i64])], [(100000, .row 3 i_)]⟩ [(.exit 0, ⟨[(8, .c false [.con (.own 100000 1)])], [(100000, .row 3 i_)]⟩)] (.s .d (.s (.b (.s .d (.j [11, 21, 22, 23, 24, 25, 26, 27, 28, 29, 30, 31, 32, 33, 34, 35, 36, 37, 38, 39, 40, 41, 42] [] [(.normal, ⟨[(11, .c false [.int .i64])], []⟩)] .d .d))) .d))))) (.s (.s .d (.b (.l [9, 12, 13, 47, 48, 49, 50, 51, 52, 53, 54, 55, 56, 57, 58, 59, 60, 61, 62, 63, 64, 65, 66, 67, 68, 69, 70, 71, 72, 73, 74, 75, 76, 77, 78, 79] [] ⟨[(9, .c false [.con (.own 200000 1)]), (12, .c false [.int .i64])], [(200000, .row 3 i_)]⟩ [(.exit 2, ⟨[(9, .c false [.con (.own 200000 1)])], [(200000, .row 3 i_)]⟩)] (.s .d (.s (.b (.s .d (.j [13, 54, 55, 56, 57, 58, 59, 60, 61, 62, 63, 64, 65, 66, 67, 68, 69, 70, 71, 72, 73, 74, 75] [] [(.normal, ⟨[(13, .c false [.int .i64])], []⟩)] .d .d))) .d))))) .d))))
noncomputable def law09_Rows_c (n : Nat) : Ctr Tryz.prog := .of Tryz.func27 n [ref08_Mask_c n] law09_Rows_a law09_Rows_s (fun d => law09_Rows n d.1 d.2.1 d.2.2.1 d.2.2.2.1 d.2.2.2.2.1 d.2.2.2.2.2.1 d.2.2.2.2.2.2.1) fun d => by kernel_rfl
noncomputable def ref15_State_l1b (n : Nat) (x4 : List Kiibii) (x6 : List Int) (self : Int × List Bool × Unit → Option ((List Bool × Unit))) (d8 : Int × List Bool × Unit) : Option ((List Bool × Unit)) :=
 cond (decide (d8.1 < (x4.length : Int)))
 (ask (0 ≤ d8.1 ∧ d8.1 < (x4.length : Int)) (cond (decide ((((((Kiibii_at x4 d8.1).2).2).2).1) < (x6.length : Int)))
 (cond (decide ((((((Kiibii_at x4 d8.1).2).2).2).2) < 16))
 (ask (0 ≤ (((((Kiibii_at x4 d8.1).2).2).2).1) ∧ ((((Kiibii_at x4 d8.1).2).2).2).1 < (x6.length : Int)) (ask (0 ≤ (((((Kiibii_at x4 d8.1).2).2).2).2)) (ask (True ∧ (d8.2.1.length + (([decide ((bits .and .i64 (shrI .i64 (Ki_at x6 (((((Kiibii_at x4 d8.1).2).2).2).1)) (((((Kiibii_at x4 d8.1).2).2).2).2)) 1) = 1)] : List Bool)).length) * 1 ≤ 140737488355328) (self (IntKind.wrap .i64 (d8.1 + 1), d8.2.1 ++ ([decide ((bits .and .i64 (shrI .i64 (Ki_at x6 (((((Kiibii_at x4 d8.1).2).2).2).1)) (((((Kiibii_at x4 d8.1).2).2).2).2)) 1) = 1)] : List Bool), ())))))
 (ask (True ∧ (d8.2.1.length + (([false] : List Bool)).length) * 1 ≤ 140737488355328) (self (IntKind.wrap .i64 (d8.1 + 1), d8.2.1 ++ ([false] : List Bool), ()))))
 (ask (True ∧ (d8.2.1.length + (([false] : List Bool)).length) * 1 ≤ 140737488355328) (self (IntKind.wrap .i64 (d8.1 + 1), d8.2.1 ++ ([false] : List Bool), ())))))
 (some (d8.2.1, ()))
noncomputable def ref15_State_l1 (n : Nat) (x4 : List Kiibii) (x6 : List Int) : Int × List Bool × Unit → Option ((List Bool × Unit)) := iter (ref15_State_l1b n x4 x6) n
noncomputable def ref15_State (n : Nat) (x1 : Int) (x2 : List Kii) (x3 : List Kiii) (x4 : List Kiibii) (x5 : List Kiii) (x6 : List Int) : Option (List Bool × Unit) :=
 (ref15_State_l1 n x4 x6 (0, ([] : List Bool), ())).bind (fun d9 => some (d9.1, ()))
def ref15_State_s : Sig := ⟨[.c true [.int .i64, .row Kii_, .row Kiii_, .row Kiibii_, .row Kiii_], .c false [.row i_]], [], .c false [.row b_], []⟩
def ref15_State_a : Ann := .s .d (.s .d (.s (.s .d (.b (.l [5, 6, 7, 8, 9, 10, 11, 12, 13, 14, 15, 16, 17, 18, 19, 20, 21, 22, 23, 24, 25, 26, 27, 28, 29, 30, 31, 32, 33, 34, 35, 36, 37, 38, 39, 40, 41, 42, 43, 44] [] ⟨[(5, .c false [.con (.own 100000 1)]), (6, .c false [.int .i64])], [(100000, .row 4 b_)]⟩ [(.exit 0, ⟨[(5, .c false [.con (.own 100000 1)])], [(100000, .row 4 b_)]⟩)] .d))) .d))
noncomputable def ref15_State_c (n : Nat) : Ctr Tryz.prog := .of Tryz.func28 n [] ref15_State_a ref15_State_s (fun d => ref15_State n d.1 d.2.1 d.2.2.1 d.2.2.2.1 d.2.2.2.2.1 d.2.2.2.2.2.1) fun d => by kernel_rfl
noncomputable def vec_two__vec_works_2 (n : Nat) : Option (Unit) :=
 some ()
def vec_two__vec_works_2_s : Sig := ⟨[.c false [.con (.fn 87 [])]], [], .c false [.con (.fn 134 [(100, 0)])], [(100, .var 103 [.con (.fn 87 [])])]⟩
def vec_two__vec_works_2_a : Ann := .d
noncomputable def vec_two__vec_works_2_c (n : Nat) : Ctr Tryz.prog := .of Tryz.func86 n [] vec_two__vec_works_2_a vec_two__vec_works_2_s (fun d => vec_two__vec_works_2 n) fun d => by kernel_rfl
noncomputable def vec_asked__vec_works_3 (n : Nat) : Option (Unit) :=
 some ()
def vec_asked__vec_works_3_s : Sig := ⟨[.c false [.con (.fn 89 [])]], [], .c false [.con (.fn 135 [(100, 0)])], [(100, .var 149 [.con (.fn 89 [])])]⟩
def vec_asked__vec_works_3_a : Ann := .d
noncomputable def vec_asked__vec_works_3_c (n : Nat) : Ctr Tryz.prog := .of Tryz.func88 n [] vec_asked__vec_works_3_a vec_asked__vec_works_3_s (fun d => vec_asked__vec_works_3 n) fun d => by kernel_rfl
noncomputable def vec_two__vec_works_5 (n : Nat) : Option (Unit) :=
 some ()
def vec_two__vec_works_5_s : Sig := ⟨[.c false [.con (.fn 93 [])]], [], .c false [.con (.fn 134 [(100, 0)])], [(100, .var 103 [.con (.fn 93 [])])]⟩
def vec_two__vec_works_5_a : Ann := .d
noncomputable def vec_two__vec_works_5_c (n : Nat) : Ctr Tryz.prog := .of Tryz.func86 n [] vec_two__vec_works_5_a vec_two__vec_works_5_s (fun d => vec_two__vec_works_5 n) fun d => by kernel_rfl
noncomputable def vec_two__vec_works_6 (n : Nat) : Option (Unit) :=
 some ()
def vec_two__vec_works_6_s : Sig := ⟨[.c false [.con (.fn 94 [])]], [], .c false [.con (.fn 134 [(100, 0)])], [(100, .var 103 [.con (.fn 94 [])])]⟩
def vec_two__vec_works_6_a : Ann := .d
noncomputable def vec_two__vec_works_6_c (n : Nat) : Ctr Tryz.prog := .of Tryz.func86 n [] vec_two__vec_works_6_a vec_two__vec_works_6_s (fun d => vec_two__vec_works_6 n) fun d => by kernel_rfl
noncomputable def vec_two__vec_works_7 (n : Nat) : Option (Unit) :=
 some ()
def vec_two__vec_works_7_s : Sig := ⟨[.c false [.con (.fn 95 [])]], [], .c false [.con (.fn 134 [(100, 0)])], [(100, .var 103 [.con (.fn 95 [])])]⟩
def vec_two__vec_works_7_a : Ann := .d
noncomputable def vec_two__vec_works_7_c (n : Nat) : Ctr Tryz.prog := .of Tryz.func86 n [] vec_two__vec_works_7_a vec_two__vec_works_7_s (fun d => vec_two__vec_works_7 n) fun d => by kernel_rfl
noncomputable def vec_two__vec_works_8 (n : Nat) : Option (Unit) :=
 some ()
def vec_two__vec_works_8_s : Sig := ⟨[.c false [.con (.fn 96 [])]], [], .c false [.con (.fn 134 [(100, 0)])], [(100, .var 103 [.con (.fn 96 [])])]⟩
def vec_two__vec_works_8_a : Ann := .d
noncomputable def vec_two__vec_works_8_c (n : Nat) : Ctr Tryz.prog := .of Tryz.func86 n [] vec_two__vec_works_8_a vec_two__vec_works_8_s (fun d => vec_two__vec_works_8 n) fun d => by kernel_rfl
noncomputable def vec_two__vec_works_9 (n : Nat) : Option (Unit) :=
 some ()
def vec_two__vec_works_9_s : Sig := ⟨[.c false [.con (.fn 97 [])]], [], .c false [.con (.fn 134 [(100, 0)])], [(100, .var 103 [.con (.fn 97 [])])]⟩
def vec_two__vec_works_9_a : Ann := .d
noncomputable def vec_two__vec_works_9_c (n : Nat) : Ctr Tryz.prog := .of Tryz.func86 n [] vec_two__vec_works_9_a vec_two__vec_works_9_s (fun d => vec_two__vec_works_9 n) fun d => by kernel_rfl
noncomputable def vec_two__vec_works_10 (n : Nat) : Option (Unit) :=
 some ()
def vec_two__vec_works_10_s : Sig := ⟨[.c false [.con (.fn 98 [])]], [], .c false [.con (.fn 134 [(100, 0)])], [(100, .var 103 [.con (.fn 98 [])])]⟩
def vec_two__vec_works_10_a : Ann := .d
noncomputable def vec_two__vec_works_10_c (n : Nat) : Ctr Tryz.prog := .of Tryz.func86 n [] vec_two__vec_works_10_a vec_two__vec_works_10_s (fun d => vec_two__vec_works_10 n) fun d => by kernel_rfl
noncomputable def vec_asked__vec_works_11 (n : Nat) : Option (Unit) :=
 some ()
def vec_asked__vec_works_11_s : Sig := ⟨[.c false [.con (.fn 99 [])]], [], .c false [.con (.fn 135 [(100, 0)])], [(100, .var 149 [.con (.fn 99 [])])]⟩
def vec_asked__vec_works_11_a : Ann := .d
noncomputable def vec_asked__vec_works_11_c (n : Nat) : Ctr Tryz.prog := .of Tryz.func88 n [] vec_asked__vec_works_11_a vec_asked__vec_works_11_s (fun d => vec_asked__vec_works_11 n) fun d => by kernel_rfl
noncomputable def vec_asked__vec_works_12 (n : Nat) : Option (Unit) :=
 some ()
def vec_asked__vec_works_12_s : Sig := ⟨[.c false [.con (.fn 100 [])]], [], .c false [.con (.fn 135 [(100, 0)])], [(100, .var 149 [.con (.fn 100 [])])]⟩
def vec_asked__vec_works_12_a : Ann := .d
noncomputable def vec_asked__vec_works_12_c (n : Nat) : Ctr Tryz.prog := .of Tryz.func88 n [] vec_asked__vec_works_12_a vec_asked__vec_works_12_s (fun d => vec_asked__vec_works_12 n) fun d => by kernel_rfl
noncomputable def vec_asked__vec_works_13 (n : Nat) : Option (Unit) :=
 some ()
def vec_asked__vec_works_13_s : Sig := ⟨[.c false [.con (.fn 101 [])]], [], .c false [.con (.fn 135 [(100, 0)])], [(100, .var 149 [.con (.fn 101 [])])]⟩
def vec_asked__vec_works_13_a : Ann := .d
noncomputable def vec_asked__vec_works_13_c (n : Nat) : Ctr Tryz.prog := .of Tryz.func88 n [] vec_asked__vec_works_13_a vec_asked__vec_works_13_s (fun d => vec_asked__vec_works_13 n) fun d => by kernel_rfl
noncomputable def vec_asked__vec_works_14 (n : Nat) : Option (Unit) :=
 some ()
def vec_asked__vec_works_14_s : Sig := ⟨[.c false [.con (.fn 102 [])]], [], .c false [.con (.fn 135 [(100, 0)])], [(100, .var 149 [.con (.fn 102 [])])]⟩
def vec_asked__vec_works_14_a : Ann := .d
noncomputable def vec_asked__vec_works_14_c (n : Nat) : Ctr Tryz.prog := .of Tryz.func88 n [] vec_asked__vec_works_14_a vec_asked__vec_works_14_s (fun d => vec_asked__vec_works_14 n) fun d => by kernel_rfl
noncomputable def vec_works (n : Nat) : Option (Unit) :=
 (vec_two__vec_works_2 n).bind (fun r1 => (vec_asked__vec_works_3 n).bind (fun r2 => (vec_two__vec_works_5 n).bind (fun r3 => (vec_two__vec_works_6 n).bind (fun r4 => (vec_two__vec_works_7 n).bind (fun r5 => (vec_two__vec_works_8 n).bind (fun r6 => (vec_two__vec_works_9 n).bind (fun r7 => (vec_two__vec_works_10 n).bind (fun r8 => (vec_asked__vec_works_11 n).bind (fun r9 => (vec_asked__vec_works_12 n).bind (fun r10 => (vec_asked__vec_works_13 n).bind (fun r11 => (vec_asked__vec_works_14 n).bind (fun r12 => some ()))))))))))))
def vec_works_s : Sig := ⟨[], [], .c false [.con (.map 100)], [(100, .tab [(.i64, 1), (.i64, 3), (.i64, 4), (.i64, 5), (.i64, 6), (.i64, 7), (.i64, 8), (.i64, 9), (.i64, 10), (.i64, 11), (.i64, 12), (.i64, 13), (.i64, 14), (.i64, 15), (.i64, 16), (.i64, 17), (.i64, 18)] [(false, [.con (.fn 85 [])]), (false, [.con (.fn 134 [(228, 0)])]), (false, [.con (.fn 135 [(356, 0)])]), (false, [.con (.fn 90 [])]), (false, [.con (.fn 134 [(548, 0)])]), (false, [.con (.fn 134 [(676, 0)])]), (false, [.con (.fn 134 [(804, 0)])]), (false, [.con (.fn 134 [(932, 0)])]), (false, [.con (.fn 134 [(1060, 0)])]), (false, [.con (.fn 134 [(1188, 0)])]), (false, [.con (.fn 135 [(1316, 0)])]), (false, [.con (.fn 135 [(1444, 0)])]), (false, [.con (.fn 135 [(1572, 0)])]), (false, [.con (.fn 135 [(1700, 0)])]), (false, [.con (.fn 103 [])]), (false, [.con (.fn 104 [])]), (false, [.con (.fn 105 [])])]), (228, .var 103 [.con (.fn 87 [])]), (356, .var 149 [.con (.fn 89 [])]), (548, .var 103 [.con (.fn 93 [])]), (676, .var 103 [.con (.fn 94 [])]), (804, .var 103 [.con (.fn 95 [])]), (932, .var 103 [.con (.fn 96 [])]), (1060, .var 103 [.con (.fn 97 [])]), (1188, .var 103 [.con (.fn 98 [])]), (1316, .var 149 [.con (.fn 99 [])]), (1444, .var 149 [.con (.fn 100 [])]), (1572, .var 149 [.con (.fn 101 [])]), (1700, .var 149 [.con (.fn 102 [])])]⟩
def vec_works_a : Ann := .d
noncomputable def vec_works_c (n : Nat) : Ctr Tryz.prog := .of Tryz.func74 n [vec_two__vec_works_2_c n, vec_asked__vec_works_3_c n, vec_two__vec_works_5_c n, vec_two__vec_works_6_c n, vec_two__vec_works_7_c n, vec_two__vec_works_8_c n, vec_two__vec_works_9_c n, vec_two__vec_works_10_c n, vec_asked__vec_works_11_c n, vec_asked__vec_works_12_c n, vec_asked__vec_works_13_c n, vec_asked__vec_works_14_c n] vec_works_a vec_works_s (fun d => vec_works n) fun d => by kernel_rfl
noncomputable def vec_works_1 (n : Nat) (x1 : Int) (x2 : Int) (x3 : Int) (x4 : Int) (x5 : Int) (x6 : Int) (x7 : Int) (x8 : Int) (x9 : Int) (x10 : Int) (x11 : Int) : Option (Int × Unit) :=
 some (x6, ())
def vec_works_1_s : Sig := ⟨[.c true [.int .i64, .int .i64, .int .i64, .int .i64, .int .i64, .int .i64, .int .i64], .c false [.int .i64], .c false [.int .i64], .c false [.int .i64], .c false [.int .i64]], [], .c false [.int .i64], []⟩
def vec_works_1_a : Ann := .d
noncomputable def vec_works_1_c (n : Nat) : Ctr Tryz.prog := .of Tryz.func85 n [] vec_works_1_a vec_works_1_s (fun d => vec_works_1 n d.1 d.2.1 d.2.2.1 d.2.2.2.1 d.2.2.2.2.1 d.2.2.2.2.2.1 d.2.2.2.2.2.2.1 d.2.2.2.2.2.2.2.1 d.2.2.2.2.2.2.2.2.1 d.2.2.2.2.2.2.2.2.2.1 d.2.2.2.2.2.2.2.2.2.2.1) fun d => by kernel_rfl
noncomputable def vec_works_2 (n : Nat) (x1 : Int) (x2 : Int) : Option (Int × Unit) :=
 some (bits .xor .i64 (-1) x1, ())
def vec_works_2_s : Sig := ⟨[.c false [.int .i64], .c false [.int .i64]], [], .c false [.int .i64], []⟩
def vec_works_2_a : Ann := .d
noncomputable def vec_works_2_c (n : Nat) : Ctr Tryz.prog := .of Tryz.func87 n [] vec_works_2_a vec_works_2_s (fun d => vec_works_2 n d.1 d.2.1) fun d => by kernel_rfl
noncomputable def vec_Mask (n : Nat) (x1 : Int) : Option (Int × Unit) :=
 ask (0 ≤ x1) (some (IntKind.wrap .i64 ((shlI .i64 1 x1) - 1), ()))
def vec_Mask_s : Sig := ⟨[.c false [.int .i64]], [], .c false [.int .i64], []⟩
def vec_Mask_a : Ann := .d
noncomputable def vec_Mask_c (n : Nat) : Ctr Tryz.prog := .of Tryz.func92 n [] vec_Mask_a vec_Mask_s (fun d => vec_Mask n d.1) fun d => by kernel_rfl
noncomputable def vec_two_1__vec_works_2 (n : Nat) (x1 : Int) (x2 : Int) (x3 : Int) (x4 : Int) (x5 : Int) (x6 : Int) (x7 : Int) (x8 : Int) (x9 : Int) (x10 : Int) (x11 : Int) : Option (Int × Unit) :=
 (vec_works_2 n x8 x9).bind (fun r12 => (vec_Mask n x2).bind (fun r13 => some (bits .and .i64 r12.1 r13.1, ())))
def vec_two_1__vec_works_2_s : Sig := ⟨[.c true [.int .i64, .int .i64, .int .i64, .int .i64, .int .i64, .int .i64, .int .i64], .c false [.int .i64], .c false [.int .i64], .c false [.int .i64], .c false [.int .i64], .c false [.con (.ptr 0 0)]], [(0, .var 103 [.con (.fn 87 [])])], .c false [.int .i64], [(0, .var 103 [.con (.fn 87 [])])]⟩
def vec_two_1__vec_works_2_a : Ann := .d
noncomputable def vec_two_1__vec_works_2_c (n : Nat) : Ctr Tryz.prog := .of Tryz.func134 n [vec_works_2_c n, vec_Mask_c n] vec_two_1__vec_works_2_a vec_two_1__vec_works_2_s (fun d => vec_two_1__vec_works_2 n d.1 d.2.1 d.2.2.1 d.2.2.2.1 d.2.2.2.2.1 d.2.2.2.2.2.1 d.2.2.2.2.2.2.1 d.2.2.2.2.2.2.2.1 d.2.2.2.2.2.2.2.2.1 d.2.2.2.2.2.2.2.2.2.1 d.2.2.2.2.2.2.2.2.2.2.1) fun d => by kernel_rfl
noncomputable def vec_works_3 (n : Nat) (x1 : Int) (x2 : Int) : Option (Bool × Unit) :=
 some (decide (x1 ≠ 0), ())
def vec_works_3_s : Sig := ⟨[.c false [.int .i64], .c false [.int .i64]], [], .c false [.bool], []⟩
def vec_works_3_a : Ann := .d
noncomputable def vec_works_3_c (n : Nat) : Ctr Tryz.prog := .of Tryz.func89 n [] vec_works_3_a vec_works_3_s (fun d => vec_works_3 n d.1 d.2.1) fun d => by kernel_rfl
noncomputable def vec_flag (n : Nat) (x1 : Bool) : Option (Int × Unit) :=
 cond x1
 (some (1, ()))
 (some (0, ()))
def vec_flag_s : Sig := ⟨[.c false [.bool]], [], .c false [.int .i64], []⟩
def vec_flag_a : Ann := .d
noncomputable def vec_flag_c (n : Nat) : Ctr Tryz.prog := .of Tryz.func91 n [] vec_flag_a vec_flag_s (fun d => vec_flag n d.1) fun d => by kernel_rfl
noncomputable def vec_asked_1__vec_works_3 (n : Nat) (x1 : Int) (x2 : Int) (x3 : Int) (x4 : Int) (x5 : Int) (x6 : Int) (x7 : Int) (x8 : Int) (x9 : Int) (x10 : Int) (x11 : Int) : Option (Int × Unit) :=
 (vec_works_3 n x8 x9).bind (fun r12 => (vec_flag n r12.1).bind (fun r13 => some (r13.1, ())))
def vec_asked_1__vec_works_3_s : Sig := ⟨[.c true [.int .i64, .int .i64, .int .i64, .int .i64, .int .i64, .int .i64, .int .i64], .c false [.int .i64], .c false [.int .i64], .c false [.int .i64], .c false [.int .i64], .c false [.con (.ptr 0 0)]], [(0, .var 149 [.con (.fn 89 [])])], .c false [.int .i64], [(0, .var 149 [.con (.fn 89 [])])]⟩
def vec_asked_1__vec_works_3_a : Ann := .d
noncomputable def vec_asked_1__vec_works_3_c (n : Nat) : Ctr Tryz.prog := .of Tryz.func135 n [vec_works_3_c n, vec_flag_c n] vec_asked_1__vec_works_3_a vec_asked_1__vec_works_3_s (fun d => vec_asked_1__vec_works_3 n d.1 d.2.1 d.2.2.1 d.2.2.2.1 d.2.2.2.2.1 d.2.2.2.2.2.1 d.2.2.2.2.2.2.1 d.2.2.2.2.2.2.2.1 d.2.2.2.2.2.2.2.2.1 d.2.2.2.2.2.2.2.2.2.1 d.2.2.2.2.2.2.2.2.2.2.1) fun d => by kernel_rfl
noncomputable def vec_works_4 (n : Nat) (x1 : Int) (x2 : Int) (x3 : Int) (x4 : Int) (x5 : Int) (x6 : Int) (x7 : Int) (x8 : Int) (x9 : Int) (x10 : Int) (x11 : Int) : Option (Int × Unit) :=
 (vec_Mask n x7).bind (fun r12 => (vec_flag n (decide (x8 = r12.1))).bind (fun r13 => some (r13.1, ())))
def vec_works_4_s : Sig := ⟨[.c true [.int .i64, .int .i64, .int .i64, .int .i64, .int .i64, .int .i64, .int .i64], .c false [.int .i64], .c false [.int .i64], .c false [.int .i64], .c false [.int .i64]], [], .c false [.int .i64], []⟩
def vec_works_4_a : Ann := .d
noncomputable def vec_works_4_c (n : Nat) : Ctr Tryz.prog := .of Tryz.func90 n [vec_Mask_c n, vec_flag_c n] vec_works_4_a vec_works_4_s (fun d => vec_works_4 n d.1 d.2.1 d.2.2.1 d.2.2.2.1 d.2.2.2.2.1 d.2.2.2.2.2.1 d.2.2.2.2.2.2.1 d.2.2.2.2.2.2.2.1 d.2.2.2.2.2.2.2.2.1 d.2.2.2.2.2.2.2.2.2.1 d.2.2.2.2.2.2.2.2.2.2.1) fun d => by kernel_rfl
noncomputable def vec_works_5 (n : Nat) (x1 : Int) (x2 : Int) : Option (Int × Unit) :=
 some (bits .and .i64 x1 x2, ())
def vec_works_5_s : Sig := ⟨[.c false [.int .i64], .c false [.int .i64]], [], .c false [.int .i64], []⟩
def vec_works_5_a : Ann := .d
noncomputable def vec_works_5_c (n : Nat) : Ctr Tryz.prog := .of Tryz.func93 n [] vec_works_5_a vec_works_5_s (fun d => vec_works_5 n d.1 d.2.1) fun d => by kernel_rfl
noncomputable def vec_two_1__vec_works_5 (n : Nat) (x1 : Int) (x2 : Int) (x3 : Int) (x4 : Int) (x5 : Int) (x6 : Int) (x7 : Int) (x8 : Int) (x9 : Int) (x10 : Int) (x11 : Int) : Option (Int × Unit) :=
 (vec_works_5 n x8 x9).bind (fun r12 => (vec_Mask n x2).bind (fun r13 => some (bits .and .i64 r12.1 r13.1, ())))
def vec_two_1__vec_works_5_s : Sig := ⟨[.c true [.int .i64, .int .i64, .int .i64, .int .i64, .int .i64, .int .i64, .int .i64], .c false [.int .i64], .c false [.int .i64], .c false [.int .i64], .c false [.int .i64], .c false [.con (.ptr 0 0)]], [(0, .var 103 [.con (.fn 93 [])])], .c false [.int .i64], [(0, .var 103 [.con (.fn 93 [])])]⟩
def vec_two_1__vec_works_5_a : Ann := .d
noncomputable def vec_two_1__vec_works_5_c (n : Nat) : Ctr Tryz.prog := .of Tryz.func134 n [vec_works_5_c n, vec_Mask_c n] vec_two_1__vec_works_5_a vec_two_1__vec_works_5_s (fun d => vec_two_1__vec_works_5 n d.1 d.2.1 d.2.2.1 d.2.2.2.1 d.2.2.2.2.1 d.2.2.2.2.2.1 d.2.2.2.2.2.2.1 d.2.2.2.2.2.2.2.1 d.2.2.2.2.2.2.2.2.1 d.2.2.2.2.2.2.2.2.2.1 d.2.2.2.2.2.2.2.2.2.2.1) fun d => by kernel_rfl
noncomputable def vec_works_6 (n : Nat) (x1 : Int) (x2 : Int) : Option (Int × Unit) :=
 some (bits .or .i64 x1 x2, ())
def vec_works_6_s : Sig := ⟨[.c false [.int .i64], .c false [.int .i64]], [], .c false [.int .i64], []⟩
def vec_works_6_a : Ann := .d
noncomputable def vec_works_6_c (n : Nat) : Ctr Tryz.prog := .of Tryz.func94 n [] vec_works_6_a vec_works_6_s (fun d => vec_works_6 n d.1 d.2.1) fun d => by kernel_rfl
noncomputable def vec_two_1__vec_works_6 (n : Nat) (x1 : Int) (x2 : Int) (x3 : Int) (x4 : Int) (x5 : Int) (x6 : Int) (x7 : Int) (x8 : Int) (x9 : Int) (x10 : Int) (x11 : Int) : Option (Int × Unit) :=
 (vec_works_6 n x8 x9).bind (fun r12 => (vec_Mask n x2).bind (fun r13 => some (bits .and .i64 r12.1 r13.1, ())))
def vec_two_1__vec_works_6_s : Sig := ⟨[.c true [.int .i64, .int .i64, .int .i64, .int .i64, .int .i64, .int .i64, .int .i64], .c false [.int .i64], .c false [.int .i64], .c false [.int .i64], .c false [.int .i64], .c false [.con (.ptr 0 0)]], [(0, .var 103 [.con (.fn 94 [])])], .c false [.int .i64], [(0, .var 103 [.con (.fn 94 [])])]⟩
def vec_two_1__vec_works_6_a : Ann := .d
noncomputable def vec_two_1__vec_works_6_c (n : Nat) : Ctr Tryz.prog := .of Tryz.func134 n [vec_works_6_c n, vec_Mask_c n] vec_two_1__vec_works_6_a vec_two_1__vec_works_6_s (fun d => vec_two_1__vec_works_6 n d.1 d.2.1 d.2.2.1 d.2.2.2.1 d.2.2.2.2.1 d.2.2.2.2.2.1 d.2.2.2.2.2.2.1 d.2.2.2.2.2.2.2.1 d.2.2.2.2.2.2.2.2.1 d.2.2.2.2.2.2.2.2.2.1 d.2.2.2.2.2.2.2.2.2.2.1) fun d => by kernel_rfl
noncomputable def vec_works_7 (n : Nat) (x1 : Int) (x2 : Int) : Option (Int × Unit) :=
 some (bits .xor .i64 x1 x2, ())
def vec_works_7_s : Sig := ⟨[.c false [.int .i64], .c false [.int .i64]], [], .c false [.int .i64], []⟩
def vec_works_7_a : Ann := .d
noncomputable def vec_works_7_c (n : Nat) : Ctr Tryz.prog := .of Tryz.func95 n [] vec_works_7_a vec_works_7_s (fun d => vec_works_7 n d.1 d.2.1) fun d => by kernel_rfl
noncomputable def vec_two_1__vec_works_7 (n : Nat) (x1 : Int) (x2 : Int) (x3 : Int) (x4 : Int) (x5 : Int) (x6 : Int) (x7 : Int) (x8 : Int) (x9 : Int) (x10 : Int) (x11 : Int) : Option (Int × Unit) :=
 (vec_works_7 n x8 x9).bind (fun r12 => (vec_Mask n x2).bind (fun r13 => some (bits .and .i64 r12.1 r13.1, ())))
def vec_two_1__vec_works_7_s : Sig := ⟨[.c true [.int .i64, .int .i64, .int .i64, .int .i64, .int .i64, .int .i64, .int .i64], .c false [.int .i64], .c false [.int .i64], .c false [.int .i64], .c false [.int .i64], .c false [.con (.ptr 0 0)]], [(0, .var 103 [.con (.fn 95 [])])], .c false [.int .i64], [(0, .var 103 [.con (.fn 95 [])])]⟩
def vec_two_1__vec_works_7_a : Ann := .d
noncomputable def vec_two_1__vec_works_7_c (n : Nat) : Ctr Tryz.prog := .of Tryz.func134 n [vec_works_7_c n, vec_Mask_c n] vec_two_1__vec_works_7_a vec_two_1__vec_works_7_s (fun d => vec_two_1__vec_works_7 n d.1 d.2.1 d.2.2.1 d.2.2.2.1 d.2.2.2.2.1 d.2.2.2.2.2.1 d.2.2.2.2.2.2.1 d.2.2.2.2.2.2.2.1 d.2.2.2.2.2.2.2.2.1 d.2.2.2.2.2.2.2.2.2.1 d.2.2.2.2.2.2.2.2.2.2.1) fun d => by kernel_rfl
noncomputable def vec_works_8 (n : Nat) (x1 : Int) (x2 : Int) : Option (Int × Unit) :=
 some (IntKind.wrap .i64 (x1 + x2), ())
def vec_works_8_s : Sig := ⟨[.c false [.int .i64], .c false [.int .i64]], [], .c false [.int .i64], []⟩
def vec_works_8_a : Ann := .d
noncomputable def vec_works_8_c (n : Nat) : Ctr Tryz.prog := .of Tryz.func96 n [] vec_works_8_a vec_works_8_s (fun d => vec_works_8 n d.1 d.2.1) fun d => by kernel_rfl
noncomputable def vec_two_1__vec_works_8 (n : Nat) (x1 : Int) (x2 : Int) (x3 : Int) (x4 : Int) (x5 : Int) (x6 : Int) (x7 : Int) (x8 : Int) (x9 : Int) (x10 : Int) (x11 : Int) : Option (Int × Unit) :=
 (vec_works_8 n x8 x9).bind (fun r12 => (vec_Mask n x2).bind (fun r13 => some (bits .and .i64 r12.1 r13.1, ())))
def vec_two_1__vec_works_8_s : Sig := ⟨[.c true [.int .i64, .int .i64, .int .i64, .int .i64, .int .i64, .int .i64, .int .i64], .c false [.int .i64], .c false [.int .i64], .c false [.int .i64], .c false [.int .i64], .c false [.con (.ptr 0 0)]], [(0, .var 103 [.con (.fn 96 [])])], .c false [.int .i64], [(0, .var 103 [.con (.fn 96 [])])]⟩
def vec_two_1__vec_works_8_a : Ann := .d
noncomputable def vec_two_1__vec_works_8_c (n : Nat) : Ctr Tryz.prog := .of Tryz.func134 n [vec_works_8_c n, vec_Mask_c n] vec_two_1__vec_works_8_a vec_two_1__vec_works_8_s (fun d => vec_two_1__vec_works_8 n d.1 d.2.1 d.2.2.1 d.2.2.2.1 d.2.2.2.2.1 d.2.2.2.2.2.1 d.2.2.2.2.2.2.1 d.2.2.2.2.2.2.2.1 d.2.2.2.2.2.2.2.2.1 d.2.2.2.2.2.2.2.2.2.1 d.2.2.2.2.2.2.2.2.2.2.1) fun d => by kernel_rfl
noncomputable def vec_works_9 (n : Nat) (x1 : Int) (x2 : Int) : Option (Int × Unit) :=
 some (IntKind.wrap .i64 (x1 - x2), ())
def vec_works_9_s : Sig := ⟨[.c false [.int .i64], .c false [.int .i64]], [], .c false [.int .i64], []⟩
def vec_works_9_a : Ann := .d
noncomputable def vec_works_9_c (n : Nat) : Ctr Tryz.prog := .of Tryz.func97 n [] vec_works_9_a vec_works_9_s (fun d => vec_works_9 n d.1 d.2.1) fun d => by kernel_rfl
noncomputable def vec_two_1__vec_works_9 (n : Nat) (x1 : Int) (x2 : Int) (x3 : Int) (x4 : Int) (x5 : Int) (x6 : Int) (x7 : Int) (x8 : Int) (x9 : Int) (x10 : Int) (x11 : Int) : Option (Int × Unit) :=
 (vec_works_9 n x8 x9).bind (fun r12 => (vec_Mask n x2).bind (fun r13 => some (bits .and .i64 r12.1 r13.1, ())))
def vec_two_1__vec_works_9_s : Sig := ⟨[.c true [.int .i64, .int .i64, .int .i64, .int .i64, .int .i64, .int .i64, .int .i64], .c false [.int .i64], .c false [.int .i64], .c false [.int .i64], .c false [.int .i64], .c false [.con (.ptr 0 0)]], [(0, .var 103 [.con (.fn 97 [])])], .c false [.int .i64], [(0, .var 103 [.con (.fn 97 [])])]⟩
def vec_two_1__vec_works_9_a : Ann := .d
noncomputable def vec_two_1__vec_works_9_c (n : Nat) : Ctr Tryz.prog := .of Tryz.func134 n [vec_works_9_c n, vec_Mask_c n] vec_two_1__vec_works_9_a vec_two_1__vec_works_9_s (fun d => vec_two_1__vec_works_9 n d.1 d.2.1 d.2.2.1 d.2.2.2.1 d.2.2.2.2.1 d.2.2.2.2.2.1 d.2.2.2.2.2.2.1 d.2.2.2.2.2.2.2.1 d.2.2.2.2.2.2.2.2.1 d.2.2.2.2.2.2.2.2.2.1 d.2.2.2.2.2.2.2.2.2.2.1) fun d => by kernel_rfl
noncomputable def vec_works_10 (n : Nat) (x1 : Int) (x2 : Int) : Option (Int × Unit) :=
 some (IntKind.wrap .i64 (x1 * x2), ())
def vec_works_10_s : Sig := ⟨[.c false [.int .i64], .c false [.int .i64]], [], .c false [.int .i64], []⟩
def vec_works_10_a : Ann := .d
noncomputable def vec_works_10_c (n : Nat) : Ctr Tryz.prog := .of Tryz.func98 n [] vec_works_10_a vec_works_10_s (fun d => vec_works_10 n d.1 d.2.1) fun d => by kernel_rfl
noncomputable def vec_two_1__vec_works_10 (n : Nat) (x1 : Int) (x2 : Int) (x3 : Int) (x4 : Int) (x5 : Int) (x6 : Int) (x7 : Int) (x8 : Int) (x9 : Int) (x10 : Int) (x11 : Int) : Option (Int × Unit) :=
 (vec_works_10 n x8 x9).bind (fun r12 => (vec_Mask n x2).bind (fun r13 => some (bits .and .i64 r12.1 r13.1, ())))
def vec_two_1__vec_works_10_s : Sig := ⟨[.c true [.int .i64, .int .i64, .int .i64, .int .i64, .int .i64, .int .i64, .int .i64], .c false [.int .i64], .c false [.int .i64], .c false [.int .i64], .c false [.int .i64], .c false [.con (.ptr 0 0)]], [(0, .var 103 [.con (.fn 98 [])])], .c false [.int .i64], [(0, .var 103 [.con (.fn 98 [])])]⟩
def vec_two_1__vec_works_10_a : Ann := .d
noncomputable def vec_two_1__vec_works_10_c (n : Nat) : Ctr Tryz.prog := .of Tryz.func134 n [vec_works_10_c n, vec_Mask_c n] vec_two_1__vec_works_10_a vec_two_1__vec_works_10_s (fun d => vec_two_1__vec_works_10 n d.1 d.2.1 d.2.2.1 d.2.2.2.1 d.2.2.2.2.1 d.2.2.2.2.2.1 d.2.2.2.2.2.2.1 d.2.2.2.2.2.2.2.1 d.2.2.2.2.2.2.2.2.1 d.2.2.2.2.2.2.2.2.2.1 d.2.2.2.2.2.2.2.2.2.2.1) fun d => by kernel_rfl
noncomputable def vec_works_11 (n : Nat) (x1 : Int) (x2 : Int) : Option (Bool × Unit) :=
 some (decide (x1 = x2), ())
def vec_works_11_s : Sig := ⟨[.c false [.int .i64], .c false [.int .i64]], [], .c false [.bool], []⟩
def vec_works_11_a : Ann := .d
noncomputable def vec_works_11_c (n : Nat) : Ctr Tryz.prog := .of Tryz.func99 n [] vec_works_11_a vec_works_11_s (fun d => vec_works_11 n d.1 d.2.1) fun d => by kernel_rfl
noncomputable def vec_asked_1__vec_works_11 (n : Nat) (x1 : Int) (x2 : Int) (x3 : Int) (x4 : Int) (x5 : Int) (x6 : Int) (x7 : Int) (x8 : Int) (x9 : Int) (x10 : Int) (x11 : Int) : Option (Int × Unit) :=
 (vec_works_11 n x8 x9).bind (fun r12 => (vec_flag n r12.1).bind (fun r13 => some (r13.1, ())))
def vec_asked_1__vec_works_11_s : Sig := ⟨[.c true [.int .i64, .int .i64, .int .i64, .int .i64, .int .i64, .int .i64, .int .i64], .c false [.int .i64], .c false [.int .i64], .c false [.int .i64], .c false [.int .i64], .c false [.con (.ptr 0 0)]], [(0, .var 149 [.con (.fn 99 [])])], .c false [.int .i64], [(0, .var 149 [.con (.fn 99 [])])]⟩
def vec_asked_1__vec_works_11_a : Ann := .d
noncomputable def vec_asked_1__vec_works_11_c (n : Nat) : Ctr Tryz.prog := .of Tryz.func135 n [vec_works_11_c n, vec_flag_c n] vec_asked_1__vec_works_11_a vec_asked_1__vec_works_11_s (fun d => vec_asked_1__vec_works_11 n d.1 d.2.1 d.2.2.1 d.2.2.2.1 d.2.2.2.2.1 d.2.2.2.2.2.1 d.2.2.2.2.2.2.1 d.2.2.2.2.2.2.2.1 d.2.2.2.2.2.2.2.2.1 d.2.2.2.2.2.2.2.2.2.1 d.2.2.2.2.2.2.2.2.2.2.1) fun d => by kernel_rfl
noncomputable def vec_works_12 (n : Nat) (x1 : Int) (x2 : Int) : Option (Bool × Unit) :=
 some (decide (x1 ≠ x2), ())
def vec_works_12_s : Sig := ⟨[.c false [.int .i64], .c false [.int .i64]], [], .c false [.bool], []⟩
def vec_works_12_a : Ann := .d
noncomputable def vec_works_12_c (n : Nat) : Ctr Tryz.prog := .of Tryz.func100 n [] vec_works_12_a vec_works_12_s (fun d => vec_works_12 n d.1 d.2.1) fun d => by kernel_rfl
noncomputable def vec_asked_1__vec_works_12 (n : Nat) (x1 : Int) (x2 : Int) (x3 : Int) (x4 : Int) (x5 : Int) (x6 : Int) (x7 : Int) (x8 : Int) (x9 : Int) (x10 : Int) (x11 : Int) : Option (Int × Unit) :=
 (vec_works_12 n x8 x9).bind (fun r12 => (vec_flag n r12.1).bind (fun r13 => some (r13.1, ())))
def vec_asked_1__vec_works_12_s : Sig := ⟨[.c true [.int .i64, .int .i64, .int .i64, .int .i64, .int .i64, .int .i64, .int .i64], .c false [.int .i64], .c false [.int .i64], .c false [.int .i64], .c false [.int .i64], .c false [.con (.ptr 0 0)]], [(0, .var 149 [.con (.fn 100 [])])], .c false [.int .i64], [(0, .var 149 [.con (.fn 100 [])])]⟩
def vec_asked_1__vec_works_12_a : Ann := .d
noncomputable def vec_asked_1__vec_works_12_c (n : Nat) : Ctr Tryz.prog := .of Tryz.func135 n [vec_works_12_c n, vec_flag_c n] vec_asked_1__vec_works_12_a vec_asked_1__vec_works_12_s (fun d => vec_asked_1__vec_works_12 n d.1 d.2.1 d.2.2.1 d.2.2.2.1 d.2.2.2.2.1 d.2.2.2.2.2.1 d.2.2.2.2.2.2.1 d.2.2.2.2.2.2.2.1 d.2.2.2.2.2.2.2.2.1 d.2.2.2.2.2.2.2.2.2.1 d.2.2.2.2.2.2.2.2.2.2.1) fun d => by kernel_rfl
noncomputable def vec_works_13 (n : Nat) (x1 : Int) (x2 : Int) : Option (Bool × Unit) :=
 some (decide (x1 < x2), ())
def vec_works_13_s : Sig := ⟨[.c false [.int .i64], .c false [.int .i64]], [], .c false [.bool], []⟩
def vec_works_13_a : Ann := .d
noncomputable def vec_works_13_c (n : Nat) : Ctr Tryz.prog := .of Tryz.func101 n [] vec_works_13_a vec_works_13_s (fun d => vec_works_13 n d.1 d.2.1) fun d => by kernel_rfl
noncomputable def vec_asked_1__vec_works_13 (n : Nat) (x1 : Int) (x2 : Int) (x3 : Int) (x4 : Int) (x5 : Int) (x6 : Int) (x7 : Int) (x8 : Int) (x9 : Int) (x10 : Int) (x11 : Int) : Option (Int × Unit) :=
 (vec_works_13 n x8 x9).bind (fun r12 => (vec_flag n r12.1).bind (fun r13 => some (r13.1, ())))
def vec_asked_1__vec_works_13_s : Sig := ⟨[.c true [.int .i64, .int .i64, .int .i64, .int .i64, .int .i64, .int .i64, .int .i64], .c false [.int .i64], .c false [.int .i64], .c false [.int .i64], .c false [.int .i64], .c false [.con (.ptr 0 0)]], [(0, .var 149 [.con (.fn 101 [])])], .c false [.int .i64], [(0, .var 149 [.con (.fn 101 [])])]⟩
def vec_asked_1__vec_works_13_a : Ann := .d
noncomputable def vec_asked_1__vec_works_13_c (n : Nat) : Ctr Tryz.prog := .of Tryz.func135 n [vec_works_13_c n, vec_flag_c n] vec_asked_1__vec_works_13_a vec_asked_1__vec_works_13_s (fun d => vec_asked_1__vec_works_13 n d.1 d.2.1 d.2.2.1 d.2.2.2.1 d.2.2.2.2.1 d.2.2.2.2.2.1 d.2.2.2.2.2.2.1 d.2.2.2.2.2.2.2.1 d.2.2.2.2.2.2.2.2.1 d.2.2.2.2.2.2.2.2.2.1 d.2.2.2.2.2.2.2.2.2.2.1) fun d => by kernel_rfl
noncomputable def vec_works_14 (n : Nat) (x1 : Int) (x2 : Int) : Option (Bool × Unit) :=
 some (decide (x1 ≤ x2), ())
def vec_works_14_s : Sig := ⟨[.c false [.int .i64], .c false [.int .i64]], [], .c false [.bool], []⟩
def vec_works_14_a : Ann := .d
noncomputable def vec_works_14_c (n : Nat) : Ctr Tryz.prog := .of Tryz.func102 n [] vec_works_14_a vec_works_14_s (fun d => vec_works_14 n d.1 d.2.1) fun d => by kernel_rfl
noncomputable def vec_asked_1__vec_works_14 (n : Nat) (x1 : Int) (x2 : Int) (x3 : Int) (x4 : Int) (x5 : Int) (x6 : Int) (x7 : Int) (x8 : Int) (x9 : Int) (x10 : Int) (x11 : Int) : Option (Int × Unit) :=
 (vec_works_14 n x8 x9).bind (fun r12 => (vec_flag n r12.1).bind (fun r13 => some (r13.1, ())))
def vec_asked_1__vec_works_14_s : Sig := ⟨[.c true [.int .i64, .int .i64, .int .i64, .int .i64, .int .i64, .int .i64, .int .i64], .c false [.int .i64], .c false [.int .i64], .c false [.int .i64], .c false [.int .i64], .c false [.con (.ptr 0 0)]], [(0, .var 149 [.con (.fn 102 [])])], .c false [.int .i64], [(0, .var 149 [.con (.fn 102 [])])]⟩
def vec_asked_1__vec_works_14_a : Ann := .d
noncomputable def vec_asked_1__vec_works_14_c (n : Nat) : Ctr Tryz.prog := .of Tryz.func135 n [vec_works_14_c n, vec_flag_c n] vec_asked_1__vec_works_14_a vec_asked_1__vec_works_14_s (fun d => vec_asked_1__vec_works_14 n d.1 d.2.1 d.2.2.1 d.2.2.2.1 d.2.2.2.2.1 d.2.2.2.2.2.1 d.2.2.2.2.2.2.1 d.2.2.2.2.2.2.2.1 d.2.2.2.2.2.2.2.2.1 d.2.2.2.2.2.2.2.2.2.1 d.2.2.2.2.2.2.2.2.2.2.1) fun d => by kernel_rfl
noncomputable def vec_works_15 (n : Nat) (x1 : Int) (x2 : Int) (x3 : Int) (x4 : Int) (x5 : Int) (x6 : Int) (x7 : Int) (x8 : Int) (x9 : Int) (x10 : Int) (x11 : Int) : Option (Int × Unit) :=
 cond (decide (x8 = 1))
 (some (x9, ()))
 (some (x10, ()))
def vec_works_15_s : Sig := ⟨[.c true [.int .i64, .int .i64, .int .i64, .int .i64, .int .i64, .int .i64, .int .i64], .c false [.int .i64], .c false [.int .i64], .c false [.int .i64], .c false [.int .i64]], [], .c false [.int .i64], []⟩
def vec_works_15_a : Ann := .d
noncomputable def vec_works_15_c (n : Nat) : Ctr Tryz.prog := .of Tryz.func103 n [] vec_works_15_a vec_works_15_s (fun d => vec_works_15 n d.1 d.2.1 d.2.2.1 d.2.2.2.1 d.2.2.2.2.1 d.2.2.2.2.2.1 d.2.2.2.2.2.2.1 d.2.2.2.2.2.2.2.1 d.2.2.2.2.2.2.2.2.1 d.2.2.2.2.2.2.2.2.2.1 d.2.2.2.2.2.2.2.2.2.2.1) fun d => by kernel_rfl
noncomputable def vec_works_16 (n : Nat) (x1 : Int) (x2 : Int) (x3 : Int) (x4 : Int) (x5 : Int) (x6 : Int) (x7 : Int) (x8 : Int) (x9 : Int) (x10 : Int) (x11 : Int) : Option (Int × Unit) :=
 ask (0 ≤ x11) (some (bits .or .i64 (shlI .i64 x8 x11) x9, ()))
def vec_works_16_s : Sig := ⟨[.c true [.int .i64, .int .i64, .int .i64, .int .i64, .int .i64, .int .i64, .int .i64], .c false [.int .i64], .c false [.int .i64], .c false [.int .i64], .c false [.int .i64]], [], .c false [.int .i64], []⟩
def vec_works_16_a : Ann := .d
noncomputable def vec_works_16_c (n : Nat) : Ctr Tryz.prog := .of Tryz.func104 n [] vec_works_16_a vec_works_16_s (fun d => vec_works_16 n d.1 d.2.1 d.2.2.1 d.2.2.2.1 d.2.2.2.2.1 d.2.2.2.2.2.1 d.2.2.2.2.2.2.1 d.2.2.2.2.2.2.2.1 d.2.2.2.2.2.2.2.2.1 d.2.2.2.2.2.2.2.2.2.1 d.2.2.2.2.2.2.2.2.2.2.1) fun d => by kernel_rfl
noncomputable def vec_works_17 (n : Nat) (x1 : Int) (x2 : Int) (x3 : Int) (x4 : Int) (x5 : Int) (x6 : Int) (x7 : Int) (x8 : Int) (x9 : Int) (x10 : Int) (x11 : Int) : Option (Int × Unit) :=
 ask (0 ≤ x7) ((vec_Mask n (IntKind.wrap .i64 ((IntKind.wrap .i64 (x6 - x7)) + 1))).bind (fun r12 => some (bits .and .i64 (shrI .i64 x8 x7) r12.1, ())))
def vec_works_17_s : Sig := ⟨[.c true [.int .i64, .int .i64, .int .i64, .int .i64, .int .i64, .int .i64, .int .i64], .c false [.int .i64], .c false [.int .i64], .c false [.int .i64], .c false [.int .i64]], [], .c false [.int .i64], []⟩
def vec_works_17_a : Ann := .d
noncomputable def vec_works_17_c (n : Nat) : Ctr Tryz.prog := .of Tryz.func105 n [vec_Mask_c n] vec_works_17_a vec_works_17_s (fun d => vec_works_17 n d.1 d.2.1 d.2.2.1 d.2.2.2.1 d.2.2.2.2.1 d.2.2.2.2.2.1 d.2.2.2.2.2.2.1 d.2.2.2.2.2.2.2.1 d.2.2.2.2.2.2.2.2.1 d.2.2.2.2.2.2.2.2.2.1 d.2.2.2.2.2.2.2.2.2.2.1) fun d => by kernel_rfl
noncomputable def vec_Do (n : Nat) (x1 : Int) (x2 : Int) (x3 : Int) (x4 : Int) (x5 : Int) (x6 : Int) (x7 : Int) (x8 : Int) (x9 : Int) (x10 : Int) (x11 : Int) : Option (Int × Unit) :=
 (vec_works n).bind (fun r12 => cond (decide (x1 = 1))
 ((vec_works_1 n x1 x2 x3 x4 x5 x6 x7 x8 x9 x10 x11).bind (fun r13 => some (r13.1, ())))
 (cond (decide (x1 = 3))
 ((vec_two_1__vec_works_2 n x1 x2 x3 x4 x5 x6 x7 x8 x9 x10 x11).bind (fun r14 => some (r14.1, ())))
 (cond (decide (x1 = 4))
 ((vec_asked_1__vec_works_3 n x1 x2 x3 x4 x5 x6 x7 x8 x9 x10 x11).bind (fun r15 => some (r15.1, ())))
 (cond (decide (x1 = 5))
 ((vec_works_4 n x1 x2 x3 x4 x5 x6 x7 x8 x9 x10 x11).bind (fun r16 => some (r16.1, ())))
 (cond (decide (x1 = 6))
 ((vec_two_1__vec_works_5 n x1 x2 x3 x4 x5 x6 x7 x8 x9 x10 x11).bind (fun r17 => some (r17.1, ())))
 (cond (decide (x1 = 7))
 ((vec_two_1__vec_works_6 n x1 x2 x3 x4 x5 x6 x7 x8 x9 x10 x11).bind (fun r18 => some (r18.1, ())))
 (cond (decide (x1 = 8))
 ((vec_two_1__vec_works_7 n x1 x2 x3 x4 x5 x6 x7 x8 x9 x10 x11).bind (fun r19 => some (r19.1, ())))
 (cond (decide (x1 = 9))
 ((vec_two_1__vec_works_8 n x1 x2 x3 x4 x5 x6 x7 x8 x9 x10 x11).bind (fun r20 => some (r20.1, ())))
 (cond (decide (x1 = 10))
 ((vec_two_1__vec_works_9 n x1 x2 x3 x4 x5 x6 x7 x8 x9 x10 x11).bind (fun r21 => some (r21.1, ())))
 (cond (decide (x1 = 11))
 ((vec_two_1__vec_works_10 n x1 x2 x3 x4 x5 x6 x7 x8 x9 x10 x11).bind (fun r22 => some (r22.1, ())))
 (cond (decide (x1 = 12))
 ((vec_asked_1__vec_works_11 n x1 x2 x3 x4 x5 x6 x7 x8 x9 x10 x11).bind (fun r23 => some (r23.1, ())))
 (cond (decide (x1 = 13))
 ((vec_asked_1__vec_works_12 n x1 x2 x3 x4 x5 x6 x7 x8 x9 x10 x11).bind (fun r24 => some (r24.1, ())))
 (cond (decide (x1 = 14))
 ((vec_asked_1__vec_works_13 n x1 x2 x3 x4 x5 x6 x7 x8 x9 x10 x11).bind (fun r25 => some (r25.1, ())))
 (cond (decide (x1 = 15))
 ((vec_asked_1__vec_works_14 n x1 x2 x3 x4 x5 x6 x7 x8 x9 x10 x11).bind (fun r26 => some (r26.1, ())))
 (cond (decide (x1 = 16))
 ((vec_works_15 n x1 x2 x3 x4 x5 x6 x7 x8 x9 x10 x11).bind (fun r27 => some (r27.1, ())))
 (cond (decide (x1 = 17))
 ((vec_works_16 n x1 x2 x3 x4 x5 x6 x7 x8 x9 x10 x11).bind (fun r28 => some (r28.1, ())))
 (cond (decide (x1 = 18))
 ((vec_works_17 n x1 x2 x3 x4 x5 x6 x7 x8 x9 x10 x11).bind (fun r29 => some (r29.1, ())))
 (some (0, ())))))))))))))))))))
def vec_Do_s : Sig := ⟨[.c true [.int .i64, .int .i64, .int .i64, .int .i64, .int .i64, .int .i64, .int .i64], .c false [.int .i64], .c false [.int .i64], .c false [.int .i64], .c false [.int .i64]], [], .c false [.int .i64], []⟩
def vec_Do_a : Ann := .d
noncomputable def vec_Do_c (n : Nat) : Ctr Tryz.prog := .of Tryz.func57 n [vec_works_c n, vec_works_1_c n, vec_two_1__vec_works_2_c n, vec_asked_1__vec_works_3_c n, vec_works_4_c n, vec_two_1__vec_works_5_c n, vec_two_1__vec_works_6_c n, vec_two_1__vec_works_7_c n, vec_two_1__vec_works_8_c n, vec_two_1__vec_works_9_c n, vec_two_1__vec_works_10_c n, vec_asked_1__vec_works_11_c n, vec_asked_1__vec_works_12_c n, vec_asked_1__vec_works_13_c n, vec_asked_1__vec_works_14_c n, vec_works_15_c n, vec_works_16_c n, vec_works_17_c n] vec_Do_a vec_Do_s (fun d => vec_Do n d.1 d.2.1 d.2.2.1 d.2.2.2.1 d.2.2.2.2.1 d.2.2.2.2.2.1 d.2.2.2.2.2.2.1 d.2.2.2.2.2.2.2.1 d.2.2.2.2.2.2.2.2.1 d.2.2.2.2.2.2.2.2.2.1 d.2.2.2.2.2.2.2.2.2.2.1) fun d => by kernel_rfl
noncomputable def net_Eval_l1b (n : Nat) (x2 : List Ksi) (x7 : List Int) (self : Int × List Int × Unit → Option ((List Int × Unit))) (d10 : Int × List Int × Unit) : Option ((List Int × Unit)) :=
 cond (decide (d10.1 < (x2.length : Int)))
 (ask (0 ≤ d10.1 ∧ d10.1 < (x2.length : Int)) (ask (0 ≤ d10.1 ∧ d10.1 < (x7.length : Int)) (ask (0 ≤ ((Ksi_at x2 d10.1).2) ∧ (Ksi_at x2 d10.1).2 < (d10.2.1.length : Int)) (self (IntKind.wrap .i64 (d10.1 + 1), d10.2.1.set ((Ksi_at x2 d10.1).2).toNat (Ki_at x7 d10.1), ())))))
 (some (d10.2.1, ()))
noncomputable def net_Eval_l1 (n : Nat) (x2 : List Ksi) (x7 : List Int) : Int × List Int × Unit → Option ((List Int × Unit)) := iter (net_Eval_l1b n x2 x7) n
noncomputable def net_Eval_l2b (n : Nat) (x3 : List Ksiii) (x6 : List Int) (self : Int × List Int × Unit → Option ((List Int × Unit))) (d14 : Int × List Int × Unit) : Option ((List Int × Unit)) :=
 cond (decide (d14.1 < (x3.length : Int)))
 (ask (0 ≤ d14.1 ∧ d14.1 < (x3.length : Int)) (ask (0 ≤ d14.1 ∧ d14.1 < (x6.length : Int)) (ask (0 ≤ (((Ksiii_at x3 d14.1).2).1) ∧ ((Ksiii_at x3 d14.1).2).1 < (d14.2.1.length : Int)) (self (IntKind.wrap .i64 (d14.1 + 1), d14.2.1.set (((Ksiii_at x3 d14.1).2).1).toNat (Ki_at x6 d14.1), ())))))
 (some (d14.2.1, ()))
noncomputable def net_Eval_l2 (n : Nat) (x3 : List Ksiii) (x6 : List Int) : Int × List Int × Unit → Option ((List Int × Unit)) := iter (net_Eval_l2b n x3 x6) n
noncomputable def net_Eval_l3b (n : Nat) (x1 : List Kiiiiiii) (self : Int × List Int × Unit → Option ((List Int × Unit))) (d18 : Int × List Int × Unit) : Option ((List Int × Unit)) :=
 cond (decide (d18.1 < (x1.length : Int)))
 (ask (0 ≤ d18.1 ∧ d18.1 < (x1.length : Int)) (((cond (decide (((Kiiiiiii_at x1 d18.1).1) ≠ 21))
 (some (decide (((Kiiiiiii_at x1 d18.1).1) ≠ 22), ()))
 (some (false, ()))) : Option ((Bool × Unit))).bind (fun d19 => cond d19.1
 (ask (0 ≤ ((((Kiiiiiii_at x1 d18.1).2).2).1) ∧ (((Kiiiiiii_at x1 d18.1).2).2).1 < (d18.2.1.length : Int)) (ask (0 ≤ (((((Kiiiiiii_at x1 d18.1).2).2).2).1) ∧ ((((Kiiiiiii_at x1 d18.1).2).2).2).1 < (d18.2.1.length : Int)) (ask (0 ≤ ((((((Kiiiiiii_at x1 d18.1).2).2).2).2).1) ∧ (((((Kiiiiiii_at x1 d18.1).2).2).2).2).1 < (d18.2.1.length : Int)) (ask (0 ≤ (((((Kiiiiiii_at x1 d18.1).2).2).2).1) ∧ ((((Kiiiiiii_at x1 d18.1).2).2).2).1 < (x1.length : Int)) ((vec_Do n ((Kiiiiiii_at x1 d18.1).1) (((Kiiiiiii_at x1 d18.1).2).1) ((((Kiiiiiii_at x1 d18.1).2).2).1) (((((Kiiiiiii_at x1 d18.1).2).2).2).1) ((((((Kiiiiiii_at x1 d18.1).2).2).2).2).1) (((((((Kiiiiiii_at x1 d18.1).2).2).2).2).2).1) (((((((Kiiiiiii_at x1 d18.1).2).2).2).2).2).2) (Ki_at d18.2.1 ((((Kiiiiiii_at x1 d18.1).2).2).1)) (Ki_at d18.2.1 (((((Kiiiiiii_at x1 d18.1).2).2).2).1)) (Ki_at d18.2.1 ((((((Kiiiiiii_at x1 d18.1).2).2).2).2).1)) (((Kiiiiiii_at x1 (((((Kiiiiiii_at x1 d18.1).2).2).2).1)).2).1)).bind (fun r20 => ask (0 ≤ d18.1 ∧ d18.1 < (d18.2.1.length : Int)) (self (IntKind.wrap .i64 (d18.1 + 1), d18.2.1.set d18.1.toNat r20.1, ()))))))))
 (self (IntKind.wrap .i64 (d18.1 + 1), d18.2.1, ())))))
 (some (d18.2.1, ()))
noncomputable def net_Eval_l3 (n : Nat) (x1 : List Kiiiiiii) : Int × List Int × Unit → Option ((List Int × Unit)) := iter (net_Eval_l3b n x1) n
noncomputable def net_Eval (n : Nat) (x1 : List Kiiiiiii) (x2 : List Ksi) (x3 : List Ksiii) (x4 : List Kisi) (x5 : List Ksi) (x6 : List Int) (x7 : List Int) : Option (List Int × Unit) :=
 ask ((0 ≤ (x1.length : Int) ∧ (x1.length : Int) ≤ (x1.length : Int)) ∧ (8 : Int) * (x1.length : Int) ≤ 281474976710656 ∧ (x1.length : Int) ≤ 281474976710656) ((net_Eval_l1 n x2 x7 (0, List.replicate (x1.length : Int).toNat (0 : Int), ())).bind (fun d11 => (net_Eval_l2 n x3 x6 (0, d11.1, ())).bind (fun d15 => (net_Eval_l3 n x1 (0, d15.1, ())).bind (fun d21 => some (d21.1, ())))))
def net_Eval_s : Sig := ⟨[.c true [.row Kiiiiiii_, .row Ksi_, .row Ksiii_, .row Kisi_, .row Ksi_], .c false [.row i_], .c false [.row i_]], [], .c false [.row i_], []⟩
def net_Eval_a : Ann := .s .d (.s .d (.s (.s .d (.b (.l [7, 8, 9, 17, 21, 22, 23, 24, 25, 26, 27, 28, 29, 30, 31, 32, 33, 34] [293] ⟨[(7, .c false [.con (.own 293 1)]), (21, .c false [.int .i64])], [(293, .row 3 i_)]⟩ [(.exit 0, ⟨[(7, .c false [.con (.own 293 1)])], [(293, .row 3 i_)]⟩)] .d))) (.s (.s .d (.b (.l [7, 10, 11, 38, 39, 40, 41, 42, 43, 44, 45, 46, 47, 48, 49, 50, 51] [293] ⟨[(7, .c false [.con (.own 293 1)]), (38, .c false [.int .i64])], [(293, .row 3 i_)]⟩ [(.exit 2, ⟨[(7, .c false [.con (.own 293 1)])], [(293, .row 3 i_)]⟩)] .d))) (.s (.s .d (.b (.l [7, 12, 13, 55, 56, 57, 58, 59, 60, 61, 62, 63, 64, 65, 66, 67, 68, 69, 70, 71, 72, 73, 74, 75, 76, 77, 78, 79, 80, 81, 82, 83, 84, 85, 86, 87, 88, 89, 90, 91, 92, 93, 94, 95] [293] ⟨[(7, .c false [.con (.own 293 1)]), (55, .c false [.int .i64])], [(293, .row 3 i_)]⟩ [(.exit 4, ⟨[(7, .c false [.con (.own 293 1)])], [(293, .row 3 i_)]⟩)] (.s .d (.s .d (.s (.b (.s .d (.j [60, 61, 62, 63, 64, 65, 66, 67] [] [(.normal, ⟨[(67, .c false [.bool])], []⟩)] .d .d))) .d)))))) .d))))
noncomputable def net_Eval_c (n : Nat) : Ctr Tryz.prog := .of Tryz.func30 n [vec_Do_c n] net_Eval_a net_Eval_s (fun d => net_Eval n d.1 d.2.1 d.2.2.1 d.2.2.2.1 d.2.2.2.2.1 d.2.2.2.2.2.1 d.2.2.2.2.2.2.1) fun d => by kernel_rfl
noncomputable def net_After_l1b (n : Nat) (r8 : List Int × Unit) (x3 : List Ksiii) (self : Int × List Int × Unit → Option ((List Int × Unit))) (d11 : Int × List Int × Unit) : Option ((List Int × Unit)) :=
 cond (decide (d11.1 < (x3.length : Int)))
 (ask (0 ≤ d11.1 ∧ d11.1 < (x3.length : Int)) (ask (0 ≤ ((((Ksiii_at x3 d11.1).2).2).1) ∧ (((Ksiii_at x3 d11.1).2).2).1 < (r8.1.length : Int)) (ask (0 ≤ d11.1 ∧ d11.1 < (d11.2.1.length : Int)) (self (IntKind.wrap .i64 (d11.1 + 1), d11.2.1.set d11.1.toNat (Ki_at r8.1 ((((Ksiii_at x3 d11.1).2).2).1)), ())))))
 (some (d11.2.1, ()))
noncomputable def net_After_l1 (n : Nat) (r8 : List Int × Unit) (x3 : List Ksiii) : Int × List Int × Unit → Option ((List Int × Unit)) := iter (net_After_l1b n r8 x3) n
noncomputable def net_After (n : Nat) (x1 : List Kiiiiiii) (x2 : List Ksi) (x3 : List Ksiii) (x4 : List Kisi) (x5 : List Ksi) (x6 : List Int) (x7 : List Int) : Option (List Int × Unit) :=
 (net_Eval n x1 x2 x3 x4 x5 x6 x7).bind (fun r8 => ask ((0 ≤ (x3.length : Int) ∧ (x3.length : Int) ≤ (x3.length : Int)) ∧ (8 : Int) * (x3.length : Int) ≤ 281474976710656 ∧ (x3.length : Int) ≤ 281474976710656) ((net_After_l1 n r8 x3 (0, List.replicate (x3.length : Int).toNat (0 : Int), ())).bind (fun d12 => some (d12.1, ()))))
def net_After_s : Sig := ⟨[.c true [.row Kiiiiiii_, .row Ksi_, .row Ksiii_, .row Kisi_, .row Ksi_], .c false [.row i_], .c false [.row i_]], [], .c false [.row i_], []⟩
def net_After_a : Ann := .s .d (.s .d (.s .d (.s (.s .d (.b (.l [8, 9, 10, 18, 22, 23, 24, 25, 26, 27, 28, 29, 30, 31, 32, 33, 34, 35] [293] ⟨[(8, .c false [.con (.own 293 1)]), (22, .c false [.int .i64])], [(293, .row 3 i_)]⟩ [(.exit 0, ⟨[(8, .c false [.con (.own 293 1)])], [(293, .row 3 i_)]⟩)] .d))) .d)))
noncomputable def net_After_c (n : Nat) : Ctr Tryz.prog := .of Tryz.func29 n [net_Eval_c n] net_After_a net_After_s (fun d => net_After n d.1 d.2.1 d.2.2.1 d.2.2.2.1 d.2.2.2.2.1 d.2.2.2.2.2.1 d.2.2.2.2.2.2.1) fun d => by kernel_rfl
noncomputable def law15_CircStep_l1b (n : Nat) (r17 : List Bool × List Bool × Unit) (r19 : List Int × Unit) (x4 : List Kisi) (self : Int × Unit → Option ((Bool × Unit) ⊕ (Unit))) (d21 : Int × Unit) : Option ((Bool × Unit) ⊕ (Unit)) :=
 cond (decide (d21.1 < (r17.2.1.length : Int)))
 (ask (0 ≤ d21.1 ∧ d21.1 < (r17.2.1.length : Int)) (ask (0 ≤ d21.1 ∧ d21.1 < (x4.length : Int)) (ask (0 ≤ (((Kisi_at x4 d21.1).2).2) ∧ ((Kisi_at x4 d21.1).2).2 < (r19.1.length : Int)) (cond (Kb_at r17.2.1 d21.1 != decide ((Ki_at r19.1 (((Kisi_at x4 d21.1).2).2)) = 1))
 (some (.inl (false, ())))
 (self (IntKind.wrap .i64 (d21.1 + 1), ()))))))
 (some (.inr ()))
noncomputable def law15_CircStep_l1 (n : Nat) (r17 : List Bool × List Bool × Unit) (r19 : List Int × Unit) (x4 : List Kisi) : Int × Unit → Option ((Bool × Unit) ⊕ (Unit)) := iter (law15_CircStep_l1b n r17 r19 x4) n
noncomputable def law15_CircStep (n : Nat) (x1 : List Kiiiiiii) (x2 : List Ksi) (x3 : List Ksiii) (x4 : List Kisi) (x5 : List Ksi) (x6 : List Int) (x7 : List Int) : Option (Bool × Unit) :=
 (law15_head n).bind (fun r8 => (law09_Great n x1 x2 x3 x4 x5).bind (fun r9 => cond r9.1
 (some (r8.1, ()))
 ((ref09_Right n x1 x2 x3 x4 x5).bind (fun r10 => cond (!r10.1)
 (some (r8.1, ()))
 ((ref15_Weight n x1 x2 x3 x4 x5).bind (fun r11 => cond (decide ((6000 : Int) < r11.1))
 (some (r8.1, ()))
 ((circ_Compile n x1 x2 x3 x4 x5).bind (fun r12 => (law15_Fits n x1 x2 x3 x4 x5 r12.1 r12.2.1 r12.2.2.1 r12.2.2.2.1 r12.2.2.2.2.1).bind (fun r13 => cond (!r13.1)
 (some (false, ()))
 ((law09_Rows n x1 x2 x3 x4 x5 x6 x7).bind (fun r14 => (ref15_State n r12.1 r12.2.1 r12.2.2.1 r12.2.2.2.1 r12.2.2.2.2.1 r14.1).bind (fun r15 => (circ_Ins n r12.1 r12.2.1 r12.2.2.1 r12.2.2.2.1 r12.2.2.2.2.1 r14.2.1).bind (fun r16 => (circ_Step n r12.1 r12.2.1 r12.2.2.1 r12.2.2.2.1 r12.2.2.2.2.1 r15.1 r16.1).bind (fun r17 => (net_After n x1 x2 x3 x4 x5 r14.1 r14.2.1).bind (fun r18 => (net_Eval n x1 x2 x3 x4 x5 r14.1 r14.2.1).bind (fun r19 => cond (decide ((r18.1.length : Int) ≠ (x3.length : Int)))
 (some (false, ()))
 (cond (decide ((r19.1.length : Int) ≠ (x1.length : Int)))
 (some (false, ()))
 (cond (decide ((r17.2.1.length : Int) ≠ (x4.length : Int)))
 (some (false, ()))
 ((law15_CircStep_l1 n r17 r19 x4 (0, ())).bind (Sum.elim (fun d22 => some (d22.1, ())) (fun d23 => cond r8.1
 ((ref15_State n r12.1 r12.2.1 r12.2.2.1 r12.2.2.2.1 r12.2.2.2.2.1 r18.1).bind (fun r24 => (ref08_Same n r17.1 r24.1).bind (fun r25 => some (r25.1, ()))))
 (some (false, ())))))))))))))))))))))))
def law15_CircStep_s : Sig := ⟨[.c true [.row Kiiiiiii_, .row Ksi_, .row Ksiii_, .row Kisi_, .row Ksi_], .c false [.row u16_], .c false [.row u16_]], [], .c false [.bool], []⟩
def law15_CircStep_a : Ann := .s .d (.s .d (.s .d (.s .d (.s .d (.s .d (.s .d (.s .d (.s .d (.s .d (.s (.s .d (.b (.l [6, 15, 84, 85, 86, 87, 88, 89, 90, 91, 92, 93, 94, 95, 96, 97, 98, 99, 100, 101, 102, 103, 104] [] ⟨[(15, .c false [.int .i64])], []⟩ [(.ret, ⟨[(6, .c false [.bool])], []⟩), (.exit 0, ⟨[], []⟩)] .d))) .d))))))))))
noncomputable def law15_CircStep_c (n : Nat) : Ctr Tryz.prog := .of Tryz.func4 n [law15_head_c n, law09_Great_c n, ref09_Right_c n, ref15_Weight_c n, circ_Compile_c n, law15_Fits_c n, law09_Rows_c n, ref15_State_c n, circ_Ins_c n, circ_Step_c n, net_After_c n, net_Eval_c n, ref08_Same_c n] law15_CircStep_a law15_CircStep_s (fun d => law15_CircStep n d.1 d.2.1 d.2.2.1 d.2.2.2.1 d.2.2.2.2.1 d.2.2.2.2.2.1 d.2.2.2.2.2.2.1) fun d => by kernel_rfl
noncomputable def law11_Trace_j1 (n : Nat) (d8 : Int × List (List Int) × Unit) (d10 : Int × List Int × Unit) (x1 : List Kiiiiiii) (x2 : List Ksi) (x6 : List (List Int)) : Option ((Int × Unit)) :=
 ask (0 ≤ d8.1 ∧ d8.1 < (x6.length : Int)) (cond (decide (d10.1 < ((KLw_at x6 d8.1).length : Int)))
 (ask (0 ≤ d8.1 ∧ d8.1 < (x6.length : Int)) (ask (0 ≤ d10.1 ∧ d10.1 < ((KLw_at x6 d8.1).length : Int)) (ask (0 ≤ d10.1 ∧ d10.1 < (x2.length : Int)) (ask (0 ≤ ((Ksi_at x2 d10.1).2) ∧ (Ksi_at x2 d10.1).2 < (x1.length : Int)) ((ref08_Mask n (((Kiiiiiii_at x1 ((Ksi_at x2 d10.1).2)).2).1)).bind (fun r11 => some (bits .and .i64 (IntKind.wrap .i64 (Kw_at (KLw_at x6 d8.1) d10.1)) r11.1, ())))))))
 (some (0, ())))
noncomputable def law11_Trace_l2b (n : Nat) (d8 : Int × List (List Int) × Unit) (x1 : List Kiiiiiii) (x2 : List Ksi) (x6 : List (List Int)) (self : Int × List Int × Unit → Option ((List Int × Unit))) (d10 : Int × List Int × Unit) : Option ((List Int × Unit)) :=
 cond (decide (d10.1 < (x2.length : Int)))
 ((law11_Trace_j1 n d8 d10 x1 x2 x6).bind (fun d12 => ask (True ∧ (d10.2.1.length + (([d12.1] : List Int)).length) * 8 ≤ 140737488355328) (self (IntKind.wrap .i64 (d10.1 + 1), d10.2.1 ++ ([d12.1] : List Int), ()))))
 (some (d10.2.1, ()))
noncomputable def law11_Trace_l2 (n : Nat) (d8 : Int × List (List Int) × Unit) (x1 : List Kiiiiiii) (x2 : List Ksi) (x6 : List (List Int)) : Int × List Int × Unit → Option ((List Int × Unit)) := iter (law11_Trace_l2b n d8 x1 x2 x6) n
noncomputable def law11_Trace_l3b (n : Nat) (x1 : List Kiiiiiii) (x2 : List Ksi) (x6 : List (List Int)) (self : Int × List (List Int) × Unit → Option ((List (List Int) × Unit))) (d8 : Int × List (List Int) × Unit) : Option ((List (List Int) × Unit)) :=
 cond (decide (d8.1 < (x6.length : Int)))
 (cond (decide (d8.1 < 64))
 ((law11_Trace_l2 n d8 x1 x2 x6 (0, ([] : List Int), ())).bind (fun d13 => ask (True ∧ (d8.2.1.length + (([d13.1] : List (List Int))).length) * 24 ≤ 140737488355328) (self (IntKind.wrap .i64 (d8.1 + 1), d8.2.1 ++ ([d13.1] : List (List Int)), ()))))
 (some (d8.2.1, ())))
 (some (d8.2.1, ()))
noncomputable def law11_Trace_l3 (n : Nat) (x1 : List Kiiiiiii) (x2 : List Ksi) (x6 : List (List Int)) : Int × List (List Int) × Unit → Option ((List (List Int) × Unit)) := iter (law11_Trace_l3b n x1 x2 x6) n
noncomputable def law11_Trace (n : Nat) (x1 : List Kiiiiiii) (x2 : List Ksi) (x3 : List Ksiii) (x4 : List Kisi) (x5 : List Ksi) (x6 : List (List Int)) : Option (List (List Int) × Unit) :=
 (law11_Trace_l3 n x1 x2 x6 (0, ([] : List (List Int)), ())).bind (fun d14 => some (d14.1, ()))
def law11_Trace_s : Sig := ⟨[.c true [.row Kiiiiiii_, .row Ksi_, .row Ksiii_, .row Kisi_, .row Ksi_], .c false [.row KLw_]], [], .c false [.row KLi_], []⟩
def law11_Trace_a : Ann := .s .d (.s .d (.s (.s .d (.b (.l [5, 6, 7, 8, 9, 10, 11, 12, 13, 14, 15, 16, 17, 18, 19, 20, 21, 22, 23, 24, 25, 26, 27, 28, 29, 30, 31, 32, 33, 34, 35, 36, 37, 38, 39, 40, 41, 42, 43, 44, 45, 46, 47, 48, 49, 50, 51, 52, 53, 54, 55, 56, 57, 58, 59, 60, 61, 62] [] ⟨[(5, .c false [.con (.own 100000 1)]), (6, .c false [.int .i64])], [(100000, .row 46 KLi_)]⟩ [(.exit 0, ⟨[(5, .c false [.con (.own 100000 1)])], [(100000, .row 46 KLi_)]⟩)] (.s .d (.s (.b (.s .d (.s (.s .d (.b (.l [7, 8, 9, 20, 21, 22, 23, 24, 25, 26, 27, 28, 29, 30, 31, 32, 33, 34, 35, 36, 37, 38, 39, 40, 41, 42, 43, 44, 45, 46, 47, 48, 49, 50, 51, 52, 53, 54, 55, 56, 57, 58] [] ⟨[(7, .c false [.con (.own 200000 1)]), (8, .c false [.int .i64])], [(200000, .row 3 i_)]⟩ [(.exit 2, ⟨[(7, .c false [.con (.own 200000 1)])], [(200000, .row 3 i_)]⟩)] (.s .d (.s (.b (.s .d (.j [9, 27, 28, 29, 30, 31, 32, 33, 34, 35, 36, 37, 38, 39, 40, 41, 42, 43, 44, 45, 46, 47, 48, 49, 50, 51, 52, 53, 54] [] [(.normal, ⟨[(9, .c false [.int .i64])], []⟩)] .d .d))) .d))))) .d))) .d))))) .d))
noncomputable def law11_Trace_c (n : Nat) : Ctr Tryz.prog := .of Tryz.func31 n [ref08_Mask_c n] law11_Trace_a law11_Trace_s (fun d => law11_Trace n d.1 d.2.1 d.2.2.1 d.2.2.2.1 d.2.2.2.2.1 d.2.2.2.2.2.1) fun d => by kernel_rfl
noncomputable def sim_cycles (n : Nat) (x1 : List Kiiiiiii) (x2 : List Ksi) (x3 : List Ksiii) (x4 : List Kisi) (x5 : List Ksi) (x6 : List (List Int)) : Option (List Kiiiiiii × List Ksi × List Ksiii × List Kisi × List Ksi × List (List Int) × Unit) :=
 some (x1, x2, x3, x4, x5, x6, ())
def sim_cycles_s : Sig := ⟨[.c true [.row Kiiiiiii_, .row Ksi_, .row Ksiii_, .row Kisi_, .row Ksi_], .c false [.row KLi_]], [], .c false [.con (.fn 75 [(100, 0), (164, 0)])], [(100, .var 27 [.row Kiiiiiii_, .row Ksi_, .row Ksiii_, .row Kisi_, .row Ksi_]), (164, .var 63 [.row KLi_])]⟩
def sim_cycles_a : Ann := .d
noncomputable def sim_cycles_c (n : Nat) : Ctr Tryz.prog := .of Tryz.func59 n [] sim_cycles_a sim_cycles_s (fun d => sim_cycles n d.1 d.2.1 d.2.2.1 d.2.2.2.1 d.2.2.2.2.1 d.2.2.2.2.2.1) fun d => by kernel_rfl
noncomputable def sim_States_y (n : Nat) (x1 : List Int) (x2 : List Int) (x3 : Int) : Option (Bool × Int × List (List Int) × Unit) :=
 ask (x3 = 0) ((slices_Clone_int_int n x1).bind (fun r4 => ask (True ∧ (([r4.1] : List (List Int))).length * 24 ≤ 140737488355328) (some (true, 0, ([r4.1] : List (List Int)), ()))))
def sim_States_y_s : Sig := ⟨[.c false [.con (.yld 0 [])], .c false [.row i_], .c false [.row i_]], [(0, .lop 32000 [(5, .c false [.con (.ptr 1 0)])]), (1, .var 63 [.con .nilsl])], .c false [.bool], [(0, .lop 32000 [(5, .c false [.con (.ptr 1 0)])]), (1, .var 63 [.con (.own 356 1)]), (356, .row 46 KLi_)]⟩
def sim_States_y_a : Ann := .s .d .d
noncomputable def sim_States_y_c (n : Nat) : Ctr Tryz.prog := .ofY 32000 n [slices_Clone_int_int_c n] sim_States_y_a sim_States_y_s (fun d => sim_States_y n d.1 d.2.1 d.2.2.1) fun d => by kernel_rfl
noncomputable def sim_States_y_i2 (n : Nat) (x1 : List Int) (x2 : List Int) (x3 : Int) (x4 : List (List Int)) : Option (Bool × Int × List (List Int) × Unit) :=
 ask (x3 = 0) ((slices_Clone_int_int n x1).bind (fun r5 => ask (True ∧ (x4.length + (([r5.1] : List (List Int))).length) * 24 ≤ 140737488355328) (some (true, 0, x4 ++ ([r5.1] : List (List Int)), ()))))
def sim_States_y_i2_s : Sig := ⟨[.c false [.con (.yld 0 [])], .c false [.row i_], .c false [.row i_]], [(0, .lop 32000 [(5, .c false [.con (.ptr 1 0)])]), (1, .var 63 [.con (.own 2 1)]), (2, .row 46 KLi_)], .c false [.bool], [(0, .lop 32000 [(5, .c false [.con (.ptr 1 0)])]), (1, .var 63 [.con (.own 356 1)]), (356, .row 46 KLi_)]⟩
def sim_States_y_i2_a : Ann := .s .d .d
noncomputable def sim_States_y_i2_c (n : Nat) : Ctr Tryz.prog := .ofY 32000 n [slices_Clone_int_int_c n] sim_States_y_i2_a sim_States_y_i2_s (fun d => sim_States_y_i2 n d.1 d.2.1 d.2.2.1 d.2.2.2.1) fun d => by kernel_rfl
noncomputable def sim_cycles_1__sim_States_o_l1b (n : Nat) (x2 : List Kiiiiiii) (x3 : List Ksi) (x4 : List Ksiii) (x5 : List Kisi) (x6 : List Ksi) (x7 : List (List Int)) (self : List Int × Int × Int × List (List Int) × Unit → Option ((Int × List (List Int) × Unit) ⊕ (Int × List (List Int) × Unit))) (d12 : List Int × Int × Int × List (List Int) × Unit) : Option ((Int × List (List Int) × Unit) ⊕ (Int × List (List Int) × Unit)) :=
 cond (decide (d12.2.1 < (x7.length : Int)))
 (ask (0 ≤ d12.2.1 ∧ d12.2.1 < (x7.length : Int)) ((net_Eval n x2 x3 x4 x5 x6 d12.1 (KLi_at x7 d12.2.1)).bind (fun r13 => (sim_States_y_i2 n d12.1 r13.1 d12.2.2.1 d12.2.2.2.1).bind (fun r14 => cond (!r14.1)
 (some (.inl (r14.2.1, r14.2.2.1, ())))
 ((net_After n x2 x3 x4 x5 x6 d12.1 (KLi_at x7 d12.2.1)).bind (fun r15 => self (r15.1, IntKind.wrap .i64 (d12.2.1 + 1), r14.2.1, r14.2.2.1, ())))))))
 (some (.inr (d12.2.2.1, d12.2.2.2.1, ())))
noncomputable def sim_cycles_1__sim_States_o_l1 (n : Nat) (x2 : List Kiiiiiii) (x3 : List Ksi) (x4 : List Ksiii) (x5 : List Kisi) (x6 : List Ksi) (x7 : List (List Int)) : List Int × Int × Int × List (List Int) × Unit → Option ((Int × List (List Int) × Unit) ⊕ (Int × List (List Int) × Unit)) := iter (sim_cycles_1__sim_States_o_l1b n x2 x3 x4 x5 x6 x7) n
noncomputable def sim_cycles_1__sim_States_o (n : Nat) (x1 : Int) (x2 : List Kiiiiiii) (x3 : List Ksi) (x4 : List Ksiii) (x5 : List Kisi) (x6 : List Ksi) (x7 : List (List Int)) : Option (Int × List Kiiiiiii × List Ksi × List Ksiii × List Kisi × List Ksi × List (List Int) × List (List Int) × Unit) :=
 (net_First n x2 x3 x4 x5 x6).bind (fun r8 => (sim_cycles_1__sim_States_o_l1 n x2 x3 x4 x5 x6 x7 (r8.1, 0, x1, ([] : List (List Int)), ())).bind (Sum.elim (fun d16 => some (d16.1, x2, x3, x4, x5, x6, x7, d16.2.1, ())) (fun d17 => some (d17.1, x2, x3, x4, x5, x6, x7, d17.2.1, ()))))
def sim_cycles_1__sim_States_o_s : Sig := ⟨[.c false [.con (.yld 0 [])], .c false [.con (.ptr 1 0)], .c false [.con (.ptr 2 0)]], [(0, .lop 32000 [(5, .c false [.con (.ptr 3 0)])]), (1, .var 27 [.row Kiiiiiii_, .row Ksi_, .row Ksiii_, .row Kisi_, .row Ksi_]), (2, .var 63 [.row KLi_]), (3, .var 63 [.con .nilsl])], .t [], [(0, .lop 32000 [(5, .c false [.con (.ptr 3 0)])]), (1, .var 27 [.row Kiiiiiii_, .row Ksi_, .row Ksiii_, .row Kisi_, .row Ksi_]), (2, .var 63 [.row KLi_]), (3, .var 63 [.con (.own 100385 1)]), (100385, .row 46 KLi_)]⟩
def sim_cycles_1__sim_States_o_a : Ann := .s .d (.s .d (.b (.l [0, 4, 6, 11, 12, 13, 14, 15, 16, 17, 18, 19, 20, 21, 22, 23, 24, 25, 26, 27] [0, 3] ⟨[(0, .c false [.con (.yld 0 [])]), (4, .c false [.row i_]), (11, .c false [.int .i64])], [(0, .lop 32000 [(5, .c false [.con (.ptr 3 0)])]), (3, .var 63 [.con (.own 100000 1)]), (100000, .row 46 KLi_)]⟩ [(.ret, ⟨[], [(0, .lop 32000 [(5, .c false [.con (.ptr 3 0)])]), (3, .var 63 [.con (.own 100385 1)]), (100385, .row 46 KLi_)]⟩), (.exit 0, ⟨[], [(0, .lop 32000 [(5, .c false [.con (.ptr 3 0)])]), (3, .var 63 [.con (.own 100000 1)]), (100000, .row 46 KLi_)]⟩)] .d)))
noncomputable def sim_cycles_1__sim_States_o_c (n : Nat) : Ctr Tryz.prog := .of Tryz.func75 n [net_First_c n, net_Eval_c n, sim_States_y_c n, net_After_c n, sim_States_y_i2_c n] sim_cycles_1__sim_States_o_a sim_cycles_1__sim_States_o_s (fun d => sim_cycles_1__sim_States_o n d.1 d.2.1 d.2.2.1 d.2.2.2.1 d.2.2.2.2.1 d.2.2.2.2.2.1 d.2.2.2.2.2.2.1) fun d => by kernel_rfl
noncomputable def sim_States_j1 (n : Nat) (r7 : List Int × Unit) (r9 : Int × List Kiiiiiii × List Ksi × List Ksiii × List Kisi × List Ksi × List (List Int) × List (List Int) × Unit) (x1 : List Kiiiiiii) (x2 : List Ksi) (x3 : List Ksiii) (x4 : List Kisi) (x5 : List Ksi) (x6 : List (List Int)) : Option ((List Int × Unit)) :=
 cond (decide ((0 : Int) < (x6.length : Int)))
 (ask (0 ≤ (IntKind.wrap .i64 ((x6.length : Int) - 1)) ∧ IntKind.wrap .i64 ((x6.length : Int) - 1) < (r9.2.2.2.2.2.2.2.1.length : Int)) (ask (0 ≤ (IntKind.wrap .i64 ((x6.length : Int) - 1)) ∧ IntKind.wrap .i64 ((x6.length : Int) - 1) < (x6.length : Int)) ((net_After n x1 x2 x3 x4 x5 (KLi_at r9.2.2.2.2.2.2.2.1 (IntKind.wrap .i64 ((x6.length : Int) - 1))) (KLi_at x6 (IntKind.wrap .i64 ((x6.length : Int) - 1)))).bind (fun r10 => some (r10.1, ())))))
 (some (r7.1, ()))
noncomputable def sim_States (n : Nat) (x1 : List Kiiiiiii) (x2 : List Ksi) (x3 : List Ksiii) (x4 : List Kisi) (x5 : List Ksi) (x6 : List (List Int)) : Option (List (List Int) × Unit) :=
 (net_First n x1 x2 x3 x4 x5).bind (fun r7 => (sim_cycles n x1 x2 x3 x4 x5 x6).bind (fun r8 => (sim_cycles_1__sim_States_o n 0 r8.1 r8.2.1 r8.2.2.1 r8.2.2.2.1 r8.2.2.2.2.1 r8.2.2.2.2.2.1).bind (fun r9 => ask (0 ≤ r9.1) (cond (decide (r9.1 = 0))
 ((sim_States_j1 n r7 r9 x1 x2 x3 x4 x5 x6).bind (fun d11 => ask (True ∧ (r9.2.2.2.2.2.2.2.1.length + (([d11.1] : List (List Int))).length) * 24 ≤ 140737488355328) (some (r9.2.2.2.2.2.2.2.1 ++ ([d11.1] : List (List Int)), ()))))
 (none)))))
def sim_States_s : Sig := ⟨[.c true [.row Kiiiiiii_, .row Ksi_, .row Ksiii_, .row Kisi_, .row Ksi_], .c false [.row KLi_]], [], .c false [.row KLi_], []⟩
def sim_States_a : Ann := .s .d (.s .d (.s .d (.s (.s .d (.b (.r 32000 [5] [] [.normal]))) (.j [6, 8, 21, 22, 23, 24, 25, 26, 27, 28, 29, 30, 31, 32, 33, 34, 35, 36] [] [(.normal, ⟨[(6, .c false [.row i_])], []⟩)] .d .d))))
noncomputable def sim_States_c (n : Nat) : Ctr Tryz.prog := .of Tryz.func32 n [net_First_c n, sim_cycles_c n, sim_cycles_1__sim_States_o_c n, net_After_c n] sim_States_a sim_States_s (fun d => sim_States n d.1 d.2.1 d.2.2.1 d.2.2.2.1 d.2.2.2.2.1 d.2.2.2.2.2.1) fun d => by kernel_rfl
noncomputable def sim_props_l1b (n : Nat) (x4 : List Kisi) (x6 : List Int) (self : Int × List Bool × Unit → Option ((List Bool × Unit))) (d9 : Int × List Bool × Unit) : Option ((List Bool × Unit)) :=
 cond (decide (d9.1 < (x4.length : Int)))
 (ask (0 ≤ d9.1 ∧ d9.1 < (x4.length : Int)) (ask (0 ≤ (((Kisi_at x4 d9.1).2).2) ∧ ((Kisi_at x4 d9.1).2).2 < (x6.length : Int)) (ask (0 ≤ d9.1 ∧ d9.1 < (d9.2.1.length : Int)) (self (IntKind.wrap .i64 (d9.1 + 1), d9.2.1.set d9.1.toNat (decide ((Ki_at x6 (((Kisi_at x4 d9.1).2).2)) = 1)), ())))))
 (some (d9.2.1, ()))
noncomputable def sim_props_l1 (n : Nat) (x4 : List Kisi) (x6 : List Int) : Int × List Bool × Unit → Option ((List Bool × Unit)) := iter (sim_props_l1b n x4 x6) n
noncomputable def sim_props (n : Nat) (x1 : List Kiiiiiii) (x2 : List Ksi) (x3 : List Ksiii) (x4 : List Kisi) (x5 : List Ksi) (x6 : List Int) : Option (List Bool × Unit) :=
 ask ((0 ≤ (x4.length : Int) ∧ (x4.length : Int) ≤ (x4.length : Int)) ∧ (1 : Int) * (x4.length : Int) ≤ 281474976710656 ∧ (x4.length : Int) ≤ 281474976710656) ((sim_props_l1 n x4 x6 (0, List.replicate (x4.length : Int).toNat false, ())).bind (fun d10 => some (d10.1, ())))
def sim_props_s : Sig := ⟨[.c true [.row Kiiiiiii_, .row Ksi_, .row Ksiii_, .row Kisi_, .row Ksi_], .c false [.row i_]], [], .c false [.row b_], []⟩
def sim_props_a : Ann := .s .d (.s .d (.s (.s .d (.b (.l [5, 6, 7, 11, 15, 16, 17, 18, 19, 20, 21, 22, 23, 24, 25, 26, 27, 28, 29] [293] ⟨[(5, .c false [.con (.own 293 1)]), (15, .c false [.int .i64])], [(293, .row 4 b_)]⟩ [(.exit 0, ⟨[(5, .c false [.con (.own 293 1)])], [(293, .row 4 b_)]⟩)] .d))) .d))
noncomputable def sim_props_c (n : Nat) : Ctr Tryz.prog := .of Tryz.func61 n [] sim_props_a sim_props_s (fun d => sim_props n d.1 d.2.1 d.2.2.1 d.2.2.2.1 d.2.2.2.2.1 d.2.2.2.2.2.1) fun d => by kernel_rfl
noncomputable def sim_Run_y (n : Nat) (x1 : List Int) (x2 : List Int) (x3 : Int) (x4 : List Kiiiiiii) (x5 : List Ksi) (x6 : List Ksiii) (x7 : List Kisi) (x8 : List Ksi) : Option (Bool × Int × List Kiiiiiii × List Ksi × List Ksiii × List Kisi × List Ksi × List (List Bool) × Unit) :=
 ask (x3 = 0) ((sim_props n x4 x5 x6 x7 x8 x2).bind (fun r9 => ask (True ∧ (([r9.1] : List (List Bool))).length * 24 ≤ 140737488355328) (some (true, 0, x4, x5, x6, x7, x8, ([r9.1] : List (List Bool)), ()))))
def sim_Run_y_s : Sig := ⟨[.c false [.con (.yld 0 [])], .c false [.row i_], .c false [.row i_]], [(0, .lop 33000 [(2, .c false [.con (.ptr 1 0)]), (5, .c false [.con (.ptr 2 0)])]), (1, .var 27 [.row Kiiiiiii_, .row Ksi_, .row Ksiii_, .row Kisi_, .row Ksi_]), (2, .var 66 [.con .nilsl])], .c false [.bool], [(0, .lop 33000 [(2, .c false [.con (.ptr 1 0)]), (5, .c false [.con (.ptr 2 0)])]), (1, .var 27 [.row Kiiiiiii_, .row Ksi_, .row Ksiii_, .row Kisi_, .row Ksi_]), (2, .var 66 [.con (.own 420 1)]), (420, .row 36 KLb_)]⟩
def sim_Run_y_a : Ann := .s .d .d
noncomputable def sim_Run_y_c (n : Nat) : Ctr Tryz.prog := .ofY 33000 n [sim_props_c n] sim_Run_y_a sim_Run_y_s (fun d => sim_Run_y n d.1 d.2.1 d.2.2.1 d.2.2.2.1 d.2.2.2.2.1 d.2.2.2.2.2.1 d.2.2.2.2.2.2.1 d.2.2.2.2.2.2.2.1) fun d => by kernel_rfl
noncomputable def sim_Run_y_i2 (n : Nat) (x1 : List Int) (x2 : List Int) (x3 : Int) (x4 : List Kiiiiiii) (x5 : List Ksi) (x6 : List Ksiii) (x7 : List Kisi) (x8 : List Ksi) (x9 : List (List Bool)) : Option (Bool × Int × List Kiiiiiii × List Ksi × List Ksiii × List Kisi × List Ksi × List (List Bool) × Unit) :=
 ask (x3 = 0) ((sim_props n x4 x5 x6 x7 x8 x2).bind (fun r10 => ask (True ∧ (x9.length + (([r10.1] : List (List Bool))).length) * 24 ≤ 140737488355328) (some (true, 0, x4, x5, x6, x7, x8, x9 ++ ([r10.1] : List (List Bool)), ()))))
def sim_Run_y_i2_s : Sig := ⟨[.c false [.con (.yld 0 [])], .c false [.row i_], .c false [.row i_]], [(0, .lop 33000 [(2, .c false [.con (.ptr 1 0)]), (5, .c false [.con (.ptr 2 0)])]), (1, .var 27 [.row Kiiiiiii_, .row Ksi_, .row Ksiii_, .row Kisi_, .row Ksi_]), (2, .var 66 [.con (.own 3 1)]), (3, .row 36 KLb_)], .c false [.bool], [(0, .lop 33000 [(2, .c false [.con (.ptr 1 0)]), (5, .c false [.con (.ptr 2 0)])]), (1, .var 27 [.row Kiiiiiii_, .row Ksi_, .row Ksiii_, .row Kisi_, .row Ksi_]), (2, .var 66 [.con (.own 420 1)]), (420, .row 36 KLb_)]⟩
def sim_Run_y_i2_a : Ann := .s .d .d
noncomputable def sim_Run_y_i2_c (n : Nat) : Ctr Tryz.prog := .ofY 33000 n [sim_props_c n] sim_Run_y_i2_a sim_Run_y_i2_s (fun d => sim_Run_y_i2 n d.1 d.2.1 d.2.2.1 d.2.2.2.1 d.2.2.2.2.1 d.2.2.2.2.2.1 d.2.2.2.2.2.2.1 d.2.2.2.2.2.2.2.1 d.2.2.2.2.2.2.2.2.1) fun d => by kernel_rfl
noncomputable def sim_cycles_1__sim_Run_o_l1b (n : Nat) (x2 : List Kiiiiiii) (x3 : List Ksi) (x4 : List Ksiii) (x5 : List Kisi) (x6 : List Ksi) (x7 : List (List Int)) (self : List Int × Int × Int × List Kiiiiiii × List Ksi × List Ksiii × List Kisi × List Ksi × List (List Bool) × Unit → Option ((Int × List Kiiiiiii × List Ksi × List Ksiii × List Kisi × List Ksi × List (List Bool) × Unit) ⊕ (Int × List Kiiiiiii × List Ksi × List Ksiii × List Kisi × List Ksi × List (List Bool) × Unit))) (d17 : List Int × Int × Int × List Kiiiiiii × List Ksi × List Ksiii × List Kisi × List Ksi × List (List Bool) × Unit) : Option ((Int × List Kiiiiiii × List Ksi × List Ksiii × List Kisi × List Ksi × List (List Bool) × Unit) ⊕ (Int × List Kiiiiiii × List Ksi × List Ksiii × List Kisi × List Ksi × List (List Bool) × Unit)) :=
 cond (decide (d17.2.1 < (x7.length : Int)))
 (ask (0 ≤ d17.2.1 ∧ d17.2.1 < (x7.length : Int)) ((net_Eval n x2 x3 x4 x5 x6 d17.1 (KLi_at x7 d17.2.1)).bind (fun r18 => (sim_Run_y_i2 n d17.1 r18.1 d17.2.2.1 d17.2.2.2.1 d17.2.2.2.2.1 d17.2.2.2.2.2.1 d17.2.2.2.2.2.2.1 d17.2.2.2.2.2.2.2.1 d17.2.2.2.2.2.2.2.2.1).bind (fun r19 => cond (!r19.1)
 (some (.inl (r19.2.1, r19.2.2.1, r19.2.2.2.1, r19.2.2.2.2.1, r19.2.2.2.2.2.1, r19.2.2.2.2.2.2.1, r19.2.2.2.2.2.2.2.1, ())))
 ((net_After n x2 x3 x4 x5 x6 d17.1 (KLi_at x7 d17.2.1)).bind (fun r20 => self (r20.1, IntKind.wrap .i64 (d17.2.1 + 1), r19.2.1, r19.2.2.1, r19.2.2.2.1, r19.2.2.2.2.1, r19.2.2.2.2.2.1, r19.2.2.2.2.2.2.1, r19.2.2.2.2.2.2.2.1, ())))))))
 (some (.inr (d17.2.2.1, d17.2.2.2.1, d17.2.2.2.2.1, d17.2.2.2.2.2.1, d17.2.2.2.2.2.2.1, d17.2.2.2.2.2.2.2.1, d17.2.2.2.2.2.2.2.2.1, ())))
noncomputable def sim_cycles_1__sim_Run_o_l1 (n : Nat) (x2 : List Kiiiiiii) (x3 : List Ksi) (x4 : List Ksiii) (x5 : List Kisi) (x6 : List Ksi) (x7 : List (List Int)) : List Int × Int × Int × List Kiiiiiii × List Ksi × List Ksiii × List Kisi × List Ksi × List (List Bool) × Unit → Option ((Int × List Kiiiiiii × List Ksi × List Ksiii × List Kisi × List Ksi × List (List Bool) × Unit) ⊕ (Int × List Kiiiiiii × List Ksi × List Ksiii × List Kisi × List Ksi × List (List Bool) × Unit)) := iter (sim_cycles_1__sim_Run_o_l1b n x2 x3 x4 x5 x6 x7) n
noncomputable def sim_cycles_1__sim_Run_o (n : Nat) (x1 : Int) (x2 : List Kiiiiiii) (x3 : List Ksi) (x4 : List Ksiii) (x5 : List Kisi) (x6 : List Ksi) (x7 : List (List Int)) (x8 : List Kiiiiiii) (x9 : List Ksi) (x10 : List Ksiii) (x11 : List Kisi) (x12 : List Ksi) : Option (Int × List Kiiiiiii × List Ksi × List Ksiii × List Kisi × List Ksi × List (List Int) × List Kiiiiiii × List Ksi × List Ksiii × List Kisi × List Ksi × List (List Bool) × Unit) :=
 (net_First n x2 x3 x4 x5 x6).bind (fun r13 => (sim_cycles_1__sim_Run_o_l1 n x2 x3 x4 x5 x6 x7 (r13.1, 0, x1, x8, x9, x10, x11, x12, ([] : List (List Bool)), ())).bind (Sum.elim (fun d21 => some (d21.1, x2, x3, x4, x5, x6, x7, d21.2.1, d21.2.2.1, d21.2.2.2.1, d21.2.2.2.2.1, d21.2.2.2.2.2.1, d21.2.2.2.2.2.2.1, ())) (fun d22 => some (d22.1, x2, x3, x4, x5, x6, x7, d22.2.1, d22.2.2.1, d22.2.2.2.1, d22.2.2.2.2.1, d22.2.2.2.2.2.1, d22.2.2.2.2.2.2.1, ()))))
def sim_cycles_1__sim_Run_o_s : Sig := ⟨[.c false [.con (.yld 0 [])], .c false [.con (.ptr 1 0)], .c false [.con (.ptr 2 0)]], [(0, .lop 33000 [(2, .c false [.con (.ptr 3 0)]), (5, .c false [.con (.ptr 4 0)])]), (1, .var 27 [.row Kiiiiiii_, .row Ksi_, .row Ksiii_, .row Kisi_, .row Ksi_]), (2, .var 63 [.row KLi_]), (3, .var 27 [.row Kiiiiiii_, .row Ksi_, .row Ksiii_, .row Kisi_, .row Ksi_]), (4, .var 66 [.con .nilsl])], .t [], [(0, .lop 33000 [(2, .c false [.con (.ptr 3 0)]), (5, .c false [.con (.ptr 4 0)])]), (1, .var 27 [.row Kiiiiiii_, .row Ksi_, .row Ksiii_, .row Kisi_, .row Ksi_]), (2, .var 63 [.row KLi_]), (3, .var 27 [.row Kiiiiiii_, .row Ksi_, .row Ksiii_, .row Kisi_, .row Ksi_]), (4, .var 66 [.con (.own 100385 1)]), (100385, .row 36 KLb_)]⟩
def sim_cycles_1__sim_Run_o_a : Ann := .s .d (.s .d (.b (.l [0, 4, 6, 11, 12, 13, 14, 15, 16, 17, 18, 19, 20, 21, 22, 23, 24, 25, 26, 27] [0, 3, 4] ⟨[(0, .c false [.con (.yld 0 [])]), (4, .c false [.row i_]), (11, .c false [.int .i64])], [(0, .lop 33000 [(2, .c false [.con (.ptr 3 0)]), (5, .c false [.con (.ptr 4 0)])]), (3, .var 27 [.row Kiiiiiii_, .row Ksi_, .row Ksiii_, .row Kisi_, .row Ksi_]), (4, .var 66 [.con (.own 100000 1)]), (100000, .row 36 KLb_)]⟩ [(.ret, ⟨[], [(0, .lop 33000 [(2, .c false [.con (.ptr 3 0)]), (5, .c false [.con (.ptr 4 0)])]), (3, .var 27 [.row Kiiiiiii_, .row Ksi_, .row Ksiii_, .row Kisi_, .row Ksi_]), (4, .var 66 [.con (.own 100385 1)]), (100385, .row 36 KLb_)]⟩), (.exit 0, ⟨[], [(0, .lop 33000 [(2, .c false [.con (.ptr 3 0)]), (5, .c false [.con (.ptr 4 0)])]), (3, .var 27 [.row Kiiiiiii_, .row Ksi_, .row Ksiii_, .row Kisi_, .row Ksi_]), (4, .var 66 [.con (.own 100000 1)]), (100000, .row 36 KLb_)]⟩)] .d)))
noncomputable def sim_cycles_1__sim_Run_o_c (n : Nat) : Ctr Tryz.prog := .of Tryz.func75 n [net_First_c n, net_Eval_c n, sim_Run_y_c n, net_After_c n, sim_Run_y_i2_c n] sim_cycles_1__sim_Run_o_a sim_cycles_1__sim_Run_o_s (fun d => sim_cycles_1__sim_Run_o n d.1 d.2.1 d.2.2.1 d.2.2.2.1 d.2.2.2.2.1 d.2.2.2.2.2.1 d.2.2.2.2.2.2.1 d.2.2.2.2.2.2.2.1 d.2.2.2.2.2.2.2.2.1 d.2.2.2.2.2.2.2.2.2.1 d.2.2.2.2.2.2.2.2.2.2.1 d.2.2.2.2.2.2.2.2.2.2.2.1) fun d => by kernel_rfl
noncomputable def sim_Run (n : Nat) (x1 : List Kiiiiiii) (x2 : List Ksi) (x3 : List Ksiii) (x4 : List Kisi) (x5 : List Ksi) (x6 : List (List Int)) : Option (List (List Bool) × Unit) :=
 (sim_cycles n x1 x2 x3 x4 x5 x6).bind (fun r7 => (sim_cycles_1__sim_Run_o n 0 r7.1 r7.2.1 r7.2.2.1 r7.2.2.2.1 r7.2.2.2.2.1 r7.2.2.2.2.2.1 x1 x2 x3 x4 x5).bind (fun r8 => ask (0 ≤ r8.1) (cond (decide (r8.1 = 0))
 (some (r8.2.2.2.2.2.2.2.2.2.2.2.2.1, ()))
 (none))))
def sim_Run_s : Sig := ⟨[.c true [.row Kiiiiiii_, .row Ksi_, .row Ksiii_, .row Kisi_, .row Ksi_], .c false [.row KLi_]], [], .c false [.row KLb_], []⟩
def sim_Run_a : Ann := .s .d (.s .d (.s (.s .d (.b (.r 33000 [2, 5] [] [.normal]))) .d))
noncomputable def sim_Run_c (n : Nat) : Ctr Tryz.prog := .of Tryz.func33 n [sim_cycles_c n, sim_cycles_1__sim_Run_o_c n] sim_Run_a sim_Run_s (fun d => sim_Run n d.1 d.2.1 d.2.2.1 d.2.2.2.1 d.2.2.2.2.1 d.2.2.2.2.2.1) fun d => by kernel_rfl
noncomputable def law15_CircRuns_l1b (n : Nat) (r11 : Int × List Kii × List Kiii × List Kiibii × List Kiii × Unit) (r13 : List (List Int) × Unit) (r14 : List (List Int) × Unit) (r15 : List (List Bool) × Unit) (x3 : List Ksiii) (self : List Bool × Int × Unit → Option ((Bool × Unit) ⊕ (List Bool × Unit))) (d18 : List Bool × Int × Unit) : Option ((Bool × Unit) ⊕ (List Bool × Unit)) :=
 cond (decide (d18.2.1 < (r13.1.length : Int)))
 (cond (decide ((d18.1.length : Int) ≠ (r11.2.2.2.1.length : Int)))
 (some (.inl (false, ())))
 (ask (0 ≤ d18.2.1 ∧ d18.2.1 < (r14.1.length : Int)) (cond (decide (((KLi_at r14.1 d18.2.1).length : Int) ≠ (x3.length : Int)))
 (some (.inl (false, ())))
 (ask (0 ≤ d18.2.1 ∧ d18.2.1 < (r14.1.length : Int)) ((ref15_State n r11.1 r11.2.1 r11.2.2.1 r11.2.2.2.1 r11.2.2.2.2.1 (KLi_at r14.1 d18.2.1)).bind (fun r19 => (ref08_Same n d18.1 r19.1).bind (fun r20 => cond (!r20.1)
 (some (.inl (false, ())))
 (ask (0 ≤ d18.2.1 ∧ d18.2.1 < (r13.1.length : Int)) ((circ_Ins n r11.1 r11.2.1 r11.2.2.1 r11.2.2.2.1 r11.2.2.2.2.1 (KLi_at r13.1 d18.2.1)).bind (fun r21 => (circ_Step n r11.1 r11.2.1 r11.2.2.1 r11.2.2.2.1 r11.2.2.2.2.1 d18.1 r21.1).bind (fun r22 => ask (0 ≤ d18.2.1 ∧ d18.2.1 < (r15.1.length : Int)) ((ref08_Same n r22.2.1 (KLb_at r15.1 d18.2.1)).bind (fun r23 => cond (!r23.1)
 (some (.inl (false, ())))
 (self (r22.1, IntKind.wrap .i64 (d18.2.1 + 1), ())))))))))))))))
 (some (.inr (d18.1, ())))
noncomputable def law15_CircRuns_l1 (n : Nat) (r11 : Int × List Kii × List Kiii × List Kiibii × List Kiii × Unit) (r13 : List (List Int) × Unit) (r14 : List (List Int) × Unit) (r15 : List (List Bool) × Unit) (x3 : List Ksiii) : List Bool × Int × Unit → Option ((Bool × Unit) ⊕ (List Bool × Unit)) := iter (law15_CircRuns_l1b n r11 r13 r14 r15 x3) n
noncomputable def law15_CircRuns (n : Nat) (x1 : List Kiiiiiii) (x2 : List Ksi) (x3 : List Ksiii) (x4 : List Kisi) (x5 : List Ksi) (x6 : List (List Int)) : Option (Bool × Unit) :=
 (law15_head n).bind (fun r7 => (law09_Great n x1 x2 x3 x4 x5).bind (fun r8 => cond r8.1
 (some (r7.1, ()))
 ((ref09_Right n x1 x2 x3 x4 x5).bind (fun r9 => cond (!r9.1)
 (some (r7.1, ()))
 ((ref15_Weight n x1 x2 x3 x4 x5).bind (fun r10 => cond (decide ((6000 : Int) < r10.1))
 (some (r7.1, ()))
 (cond (decide ((64 : Int) < (x6.length : Int)))
 (some (r7.1, ()))
 ((circ_Compile n x1 x2 x3 x4 x5).bind (fun r11 => (law15_Fits n x1 x2 x3 x4 x5 r11.1 r11.2.1 r11.2.2.1 r11.2.2.2.1 r11.2.2.2.2.1).bind (fun r12 => cond (!r12.1)
 (some (false, ()))
 ((law11_Trace n x1 x2 x3 x4 x5 x6).bind (fun r13 => (sim_States n x1 x2 x3 x4 x5 r13.1).bind (fun r14 => (sim_Run n x1 x2 x3 x4 x5 r13.1).bind (fun r15 => cond (decide ((r14.1.length : Int) ≠ (IntKind.wrap .i64 ((r13.1.length : Int) + 1))))
 (some (false, ()))
 (cond (decide ((r15.1.length : Int) ≠ (r13.1.length : Int)))
 (some (false, ()))
 ((circ_First n r11.1 r11.2.1 r11.2.2.1 r11.2.2.2.1 r11.2.2.2.2.1).bind (fun r16 => (law15_CircRuns_l1 n r11 r13 r14 r15 x3 (r16.1, 0, ())).bind (Sum.elim (fun d24 => some (d24.1, ())) (fun d25 => cond r7.1
 (ask (0 ≤ (r13.1.length : Int) ∧ (r13.1.length : Int) < (r14.1.length : Int)) (cond (decide (((KLi_at r14.1 (r13.1.length : Int)).length : Int) = (x3.length : Int)))
 (ask (0 ≤ (r13.1.length : Int) ∧ (r13.1.length : Int) < (r14.1.length : Int)) ((ref15_State n r11.1 r11.2.1 r11.2.2.1 r11.2.2.2.1 r11.2.2.2.2.1 (KLi_at r14.1 (r13.1.length : Int))).bind (fun r26 => (ref08_Same n d25.1 r26.1).bind (fun r27 => some (r27.1, ())))))
 (some (false, ()))))
 (some (false, ())))))))))))))))))))))
def law15_CircRuns_s : Sig := ⟨[.c true [.row Kiiiiiii_, .row Ksi_, .row Ksiii_, .row Kisi_, .row Ksi_], .c false [.row KLw_]], [], .c false [.bool], []⟩
def law15_CircRuns_a : Ann := .s .d (.s .d (.s .d (.s .d (.s .d (.s .d (.s .d (.s .d (.s .d (.s .d (.s (.s .d (.b (.l [4, 10, 11, 12, 13, 63, 64, 65, 66, 67, 68, 69, 70, 71, 72, 73, 74, 75, 76, 77, 78, 79, 80, 81, 82, 83, 84, 85, 86, 87, 88, 89, 90, 91, 92, 93, 94, 95, 96, 97, 98, 99, 100, 101, 102, 103, 104, 105, 106, 107, 108, 109, 110, 111, 112, 113, 114, 115, 116] [] ⟨[(10, .c false [.row b_]), (11, .c false [.int .i64])], []⟩ [(.ret, ⟨[(4, .c false [.bool])], []⟩), (.exit 0, ⟨[(10, .c false [.row b_])], []⟩)] .d))) .d))))))))))
noncomputable def law15_CircRuns_c (n : Nat) : Ctr Tryz.prog := .of Tryz.func5 n [law15_head_c n, law09_Great_c n, ref09_Right_c n, ref15_Weight_c n, circ_Compile_c n, law15_Fits_c n, law11_Trace_c n, sim_States_c n, sim_Run_c n, circ_First_c n, ref15_State_c n, ref08_Same_c n, circ_Ins_c n, circ_Step_c n] law15_CircRuns_a law15_CircRuns_s (fun d => law15_CircRuns n d.1 d.2.1 d.2.2.1 d.2.2.2.1 d.2.2.2.2.1 d.2.2.2.2.2.1) fun d => by kernel_rfl
end Go.Proofs.YtnjoiokbeknopaaGreat.Am
