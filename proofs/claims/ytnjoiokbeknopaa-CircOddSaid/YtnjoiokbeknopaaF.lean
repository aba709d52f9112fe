/- Functions, executed. -/
import Derived.Test.YtnjoiokbeknopaaF1
namespace Go.Proofs.Ytnjoiokbeknopaa.Am
set_option linter.unusedVariables false
set_option maxRecDepth 100000
noncomputable def law15_CircBits_l1b (n : Nat) (d14 : Int × Int × Unit) (r10 : Int × List Kii × List Kiii × List Kiibii × List Kiii × Unit) (x1 : List Kiiiiiii) (x2 : List Ksi) (self : Int × Int × Unit → Option ((Bool × Unit) ⊕ (Int × Unit))) (d16 : Int × Int × Unit) : Option ((Bool × Unit) ⊕ (Int × Unit)) :=
 ask (0 ≤ d14.2.1 ∧ d14.2.1 < (x2.length : Int)) (ask (0 ≤ ((Ksi_at x2 d14.2.1).2) ∧ (Ksi_at x2 d14.2.1).2 < (x1.length : Int)) (cond (decide (d16.2.1 < (((Kiiiiiii_at x1 ((Ksi_at x2 d14.2.1).2)).2).1)))
 (ask (0 ≤ d16.1 ∧ d16.1 < (r10.2.2.1.length : Int)) (cond (!((((Kiii_at r10.2.2.1 d16.1).1) == IntKind.wrap .i64 (d16.1 + 1)) && (((((Kiii_at r10.2.2.1 d16.1).2).1) == d14.2.1) && ((((Kiii_at r10.2.2.1 d16.1).2).2) == d16.2.1))))
 (some (.inl (false, ())))
 (self (IntKind.wrap .i64 (d16.1 + 1), IntKind.wrap .i64 (d16.2.1 + 1), ()))))
 (some (.inr (d16.1, ())))))
noncomputable def law15_CircBits_l1 (n : Nat) (d14 : Int × Int × Unit) (r10 : Int × List Kii × List Kiii × List Kiibii × List Kiii × Unit) (x1 : List Kiiiiiii) (x2 : List Ksi) : Int × Int × Unit → Option ((Bool × Unit) ⊕ (Int × Unit)) := iter (law15_CircBits_l1b n d14 r10 x1 x2) n
noncomputable def law15_CircBits_l2b (n : Nat) (r10 : Int × List Kii × List Kiii × List Kiibii × List Kiii × Unit) (x1 : List Kiiiiiii) (x2 : List Ksi) (self : Int × Int × Unit → Option ((Bool × Unit) ⊕ (Unit))) (d14 : Int × Int × Unit) : Option ((Bool × Unit) ⊕ (Unit)) :=
 cond (decide (d14.2.1 < (x2.length : Int)))
 ((law15_CircBits_l1 n d14 r10 x1 x2 (d14.1, 0, ())).bind (Sum.elim (fun d17 => some (.inl (d17.1, ()))) (fun d18 => self (d18.1, IntKind.wrap .i64 (d14.2.1 + 1), ()))))
 (some (.inr ()))
noncomputable def law15_CircBits_l2 (n : Nat) (r10 : Int × List Kii × List Kiii × List Kiibii × List Kiii × Unit) (x1 : List Kiiiiiii) (x2 : List Ksi) : Int × Int × Unit → Option ((Bool × Unit) ⊕ (Unit)) := iter (law15_CircBits_l2b n r10 x1 x2) n
noncomputable def law15_CircBits_l3b (n : Nat) (d22 : Int × Int × Unit) (r10 : Int × List Kii × List Kiii × List Kiibii × List Kiii × Unit) (x1 : List Kiiiiiii) (x3 : List Ksiii) (self : Int × Int × Unit → Option ((Bool × Unit) ⊕ (Int × Unit))) (d24 : Int × Int × Unit) : Option ((Bool × Unit) ⊕ (Int × Unit)) :=
 ask (0 ≤ d22.2.1 ∧ d22.2.1 < (x3.length : Int)) (ask (0 ≤ (((Ksiii_at x3 d22.2.1).2).1) ∧ ((Ksiii_at x3 d22.2.1).2).1 < (x1.length : Int)) (cond (decide (d24.2.1 < (((Kiiiiiii_at x1 (((Ksiii_at x3 d22.2.1).2).1)).2).1)))
 (ask (0 ≤ d24.1 ∧ d24.1 < (r10.2.2.2.1.length : Int)) (cond (decide ((((((Kiibii_at r10.2.2.2.1 d24.1).2).2).2).1) ≠ d22.2.1))
 (some (.inl (false, ())))
 (cond (decide ((((((Kiibii_at r10.2.2.2.1 d24.1).2).2).2).2) ≠ d24.2.1))
 (some (.inl (false, ())))
 (ask (0 ≤ d22.2.1 ∧ d22.2.1 < (x3.length : Int)) (ask (0 ≤ d24.2.1) (cond ((((Kiibii_at r10.2.2.2.1 d24.1).2).2).1 != decide ((bits .and .i64 (shrI .i64 ((((Ksiii_at x3 d22.2.1).2).2).2) d24.2.1) 1) = 1))
 (some (.inl (false, ())))
 (cond (decide (((Kiibii_at r10.2.2.2.1 d24.1).1) ≠ (IntKind.wrap .i64 ((IntKind.wrap .i64 ((r10.2.2.1.length : Int) + d24.1)) + 1))))
 (some (.inl (false, ())))
 (self (IntKind.wrap .i64 (d24.1 + 1), IntKind.wrap .i64 (d24.2.1 + 1), ())))))))))
 (some (.inr (d24.1, ())))))
noncomputable def law15_CircBits_l3 (n : Nat) (d22 : Int × Int × Unit) (r10 : Int × List Kii × List Kiii × List Kiibii × List Kiii × Unit) (x1 : List Kiiiiiii) (x3 : List Ksiii) : Int × Int × Unit → Option ((Bool × Unit) ⊕ (Int × Unit)) := iter (law15_CircBits_l3b n d22 r10 x1 x3) n
noncomputable def law15_CircBits_l4b (n : Nat) (r10 : Int × List Kii × List Kiii × List Kiibii × List Kiii × Unit) (x1 : List Kiiiiiii) (x3 : List Ksiii) (self : Int × Int × Unit → Option ((Bool × Unit) ⊕ (Unit))) (d22 : Int × Int × Unit) : Option ((Bool × Unit) ⊕ (Unit)) :=
 cond (decide (d22.2.1 < (x3.length : Int)))
 ((law15_CircBits_l3 n d22 r10 x1 x3 (d22.1, 0, ())).bind (Sum.elim (fun d25 => some (.inl (d25.1, ()))) (fun d26 => self (d26.1, IntKind.wrap .i64 (d22.2.1 + 1), ()))))
 (some (.inr ()))
noncomputable def law15_CircBits_l4 (n : Nat) (r10 : Int × List Kii × List Kiii × List Kiibii × List Kiii × Unit) (x1 : List Kiiiiiii) (x3 : List Ksiii) : Int × Int × Unit → Option ((Bool × Unit) ⊕ (Unit)) := iter (law15_CircBits_l4b n r10 x1 x3) n
noncomputable def law15_CircBits_l5b (n : Nat) (r10 : Int × List Kii × List Kiii × List Kiibii × List Kiii × Unit) (x4 : List Kisi) (self : Int × Unit → Option ((Bool × Unit) ⊕ (Unit))) (d30 : Int × Unit) : Option ((Bool × Unit) ⊕ (Unit)) :=
 cond (decide (d30.1 < (x4.length : Int)))
 (ask (0 ≤ d30.1 ∧ d30.1 < (r10.2.2.2.2.1.length : Int)) (ask (0 ≤ d30.1 ∧ d30.1 < (x4.length : Int)) (cond (decide (((Kiii_at r10.2.2.2.2.1 d30.1).1) ≠ ((Kisi_at x4 d30.1).1)))
 (some (.inl (false, ())))
 (ask (0 ≤ d30.1 ∧ d30.1 < (r10.2.2.2.2.1.length : Int)) (cond (decide ((((Kiii_at r10.2.2.2.2.1 d30.1).2).2) ≠ d30.1))
 (some (.inl (false, ())))
 (self (IntKind.wrap .i64 (d30.1 + 1), ())))))))
 (some (.inr ()))
noncomputable def law15_CircBits_l5 (n : Nat) (r10 : Int × List Kii × List Kiii × List Kiibii × List Kiii × Unit) (x4 : List Kisi) : Int × Unit → Option ((Bool × Unit) ⊕ (Unit)) := iter (law15_CircBits_l5b n r10 x4) n
noncomputable def law15_CircBits (n : Nat) (x1 : List Kiiiiiii) (x2 : List Ksi) (x3 : List Ksiii) (x4 : List Kisi) (x5 : List Ksi) : Option (Bool × Unit) :=
 (law15_head n).bind (fun r6 => (law09_Great n x1 x2 x3 x4 x5).bind (fun r7 => cond r7.1
 (some (r6.1, ()))
 ((ref09_Right n x1 x2 x3 x4 x5).bind (fun r8 => cond (!r8.1)
 (some (r6.1, ()))
 ((ref15_Weight n x1 x2 x3 x4 x5).bind (fun r9 => cond (decide ((6000 : Int) < r9.1))
 (some (r6.1, ()))
 ((circ_Compile n x1 x2 x3 x4 x5).bind (fun r10 => (circ_Right n r10.1 r10.2.1 r10.2.2.1 r10.2.2.2.1 r10.2.2.2.2.1).bind (fun r11 => cond (!r11.1)
 (some (false, ()))
 ((law15_Fits n x1 x2 x3 x4 x5 r10.1 r10.2.1 r10.2.2.1 r10.2.2.2.1 r10.2.2.2.2.1).bind (fun r12 => cond (!r12.1)
 (some (false, ()))
 ((law15_CircBits_l2 n r10 x1 x2 (0, 0, ())).bind (Sum.elim (fun d19 => some (d19.1, ())) (fun d20 => (law15_CircBits_l4 n r10 x1 x3 (0, 0, ())).bind (Sum.elim (fun d27 => some (d27.1, ())) (fun d28 => (law15_CircBits_l5 n r10 x4 (0, ())).bind (Sum.elim (fun d31 => some (d31.1, ())) (fun d32 => some (r6.1, ())))))))))))))))))))
def law15_CircBits_s : Sig := ⟨[.c true [.row Kiiiiiii_, .row Ksi_, .row Ksiii_, .row Kisi_, .row Ksi_]], [], .c false [.bool], []⟩
def law15_CircBits_a : Ann := .s .d (.s .d (.s .d (.s .d (.s .d (.s .d (.s (.s .d (.b (.l [2, 5, 6, 7, 37, 38, 39, 40, 41, 42, 43, 44, 45, 46, 47, 48, 49, 50, 51, 52, 53, 54, 55, 56, 57, 58, 59, 60, 61, 62, 63, 64, 65, 66, 67, 68, 69, 70, 71] [] ⟨[(5, .c false [.int .i64]), (6, .c false [.int .i64])], []⟩ [(.ret, ⟨[(2, .c false [.bool])], []⟩), (.exit 0, ⟨[], []⟩)] (.s .d (.s (.b (.s .d (.b (.l [2, 5, 7, 44, 45, 46, 47, 48, 49, 50, 51, 52, 53, 54, 55, 56, 57, 58, 59, 60, 61, 62, 63, 64, 65, 66, 67, 68, 69, 70, 71] [] ⟨[(5, .c false [.int .i64]), (7, .c false [.int .i64])], []⟩ [(.ret, ⟨[(2, .c false [.bool])], []⟩), (.exit 2, ⟨[(5, .c false [.int .i64])], []⟩)] .d)))) .d))))) (.s .d (.s (.s .d (.b (.l [2, 5, 8, 9, 10, 72, 73, 74, 75, 76, 77, 78, 79, 80, 81, 82, 83, 84, 85, 86, 87, 88, 89, 90, 91, 92, 93, 94, 95, 96, 97, 98, 99, 100, 101, 102, 103, 104, 105, 106, 107, 108, 109, 110, 111, 112, 113, 114, 115, 116, 117, 118, 119, 120, 121, 122, 123, 124, 125, 126, 127, 128, 129, 130, 131, 132, 133, 134, 135, 136] [] ⟨[(5, .c false [.int .i64]), (8, .c false [.int .i64])], []⟩ [(.ret, ⟨[(2, .c false [.bool])], []⟩), (.exit 4, ⟨[], []⟩)] (.s .d (.s (.b (.s .d (.b (.l [2, 5, 9, 10, 79, 80, 81, 82, 83, 84, 85, 86, 87, 88, 89, 90, 91, 92, 93, 94, 95, 96, 97, 98, 99, 100, 101, 102, 103, 104, 105, 106, 107, 108, 109, 110, 111, 112, 113, 114, 115, 116, 117, 118, 119, 120, 121, 122, 123, 124, 125, 126, 127, 128, 129, 130, 131, 132, 133, 134, 135, 136] [] ⟨[(5, .c false [.int .i64]), (9, .c false [.int .i64])], []⟩ [(.ret, ⟨[(2, .c false [.bool])], []⟩), (.exit 6, ⟨[(5, .c false [.int .i64])], []⟩)] .d)))) .d))))) (.s (.s .d (.b (.l [2, 11, 137, 138, 139, 140, 141, 142, 143, 144, 145, 146, 147, 148, 149, 150, 151, 152, 153, 154, 155, 156, 157, 158, 159, 160, 161, 162, 163, 164, 165, 166] [] ⟨[(11, .c false [.int .i64])], []⟩ [(.ret, ⟨[(2, .c false [.bool])], []⟩), (.exit 8, ⟨[], []⟩)] .d))) .d)))))))))
noncomputable def law15_CircBits_c (n : Nat) : Ctr Try.prog := .of Try.func3 n [law15_head_c n, law09_Great_c n, ref09_Right_c n, ref15_Weight_c n, circ_Compile_c n, circ_Right_c n, law15_Fits_c n] law15_CircBits_a law15_CircBits_s (fun d => law15_CircBits n d.1 d.2.1 d.2.2.1 d.2.2.2.1 d.2.2.2.2.1) fun d => by kernel_rfl
noncomputable def law09_Rows_j1 (n : Nat) (d9 : Int × List Int × Unit) (x1 : List Kiiiiiii) (x3 : List Ksiii) (x6 : List Int) : Option ((Int × Unit)) :=
 cond (decide (d9.1 < (x6.length : Int)))
 (ask (0 ≤ d9.1 ∧ d9.1 < (x6.length : Int)) (ask (0 ≤ d9.1 ∧ d9.1 < (x3.length : Int)) (ask (0 ≤ (((Ksiii_at x3 d9.1).2).1) ∧ ((Ksiii_at x3 d9.1).2).1 < (x1.length : Int)) ((ref08_Mask n (((Kiiiiiii_at x1 (((Ksiii_at x3 d9.1).2).1)).2).1)).bind (fun r10 => some (bits .and .i64 (IntKind.wrap .i64 (Kw_at x6 d9.1)) r10.1, ()))))))
 (some (0, ()))
noncomputable def law09_Rows_l2b (n : Nat) (x1 : List Kiiiiiii) (x3 : List Ksiii) (x6 : List Int) (self : Int × List Int × Unit → Option ((List Int × Unit))) (d9 : Int × List Int × Unit) : Option ((List Int × Unit)) :=
 cond (decide (d9.1 < (x3.length : Int)))
 ((law09_Rows_j1 n d9 x1 x3 x6).bind (fun d11 => ask (True ∧ (d9.2.1.length + (([d11.1] : List Int)).length) * 8 ≤ 140737488355328) (self (IntKind.wrap .i64 (d9.1 + 1), d9.2.1 ++ ([d11.1] : List Int), ()))))
 (some (d9.2.1, ()))
noncomputable def law09_Rows_l2 (n : Nat) (x1 : List Kiiiiiii) (x3 : List Ksiii) (x6 : List Int) : Int × List Int × Unit → Option ((List Int × Unit)) := iter (law09_Rows_l2b n x1 x3 x6) n
noncomputable def law09_Rows_j3 (n : Nat) (d14 : Int × List Int × Unit) (x1 : List Kiiiiiii) (x2 : List Ksi) (x7 : List Int) : Option ((Int × Unit)) :=
 cond (decide (d14.1 < (x7.length : Int)))
 (ask (0 ≤ d14.1 ∧ d14.1 < (x7.length : Int)) (ask (0 ≤ d14.1 ∧ d14.1 < (x2.length : Int)) (ask (0 ≤ ((Ksi_at x2 d14.1).2) ∧ (Ksi_at x2 d14.1).2 < (x1.length : Int)) ((ref08_Mask n (((Kiiiiiii_at x1 ((Ksi_at x2 d14.1).2)).2).1)).bind (fun r15 => some (bits .and .i64 (IntKind.wrap .i64 (Kw_at x7 d14.1)) r15.1, ()))))))
 (some (0, ()))
noncomputable def law09_Rows_l4b (n : Nat) (x1 : List Kiiiiiii) (x2 : List Ksi) (x7 : List Int) (self : Int × List Int × Unit → Option ((List Int × Unit))) (d14 : Int × List Int × Unit) : Option ((List Int × Unit)) :=
 cond (decide (d14.1 < (x2.length : Int)))
 ((law09_Rows_j3 n d14 x1 x2 x7).bind (fun d16 => ask (True ∧ (d14.2.1.length + (([d16.1] : List Int)).length) * 8 ≤ 140737488355328) (self (IntKind.wrap .i64 (d14.1 + 1), d14.2.1 ++ ([d16.1] : List Int), ()))))
 (some (d14.2.1, ()))
noncomputable def law09_Rows_l4 (n : Nat) (x1 : List Kiiiiiii) (x2 : List Ksi) (x7 : List Int) : Int × List Int × Unit → Option ((List Int × Unit)) := iter (law09_Rows_l4b n x1 x2 x7) n
noncomputable def law09_Rows (n : Nat) (x1 : List Kiiiiiii) (x2 : List Ksi) (x3 : List Ksiii) (x4 : List Kisi) (x5 : List Ksi) (x6 : List Int) (x7 : List Int) : Option (List Int × List Int × Unit) :=
 (law09_Rows_l2 n x1 x3 x6 (0, ([] : List Int), ())).bind (fun d12 => (law09_Rows_l4 n x1 x2 x7 (0, ([] : List Int), ())).bind (fun d17 => some (d12.1, d17.1, ())))
def law09_Rows_s : Sig := ⟨[.c true [.row Kiiiiiii_, .row Ksi_, .row Ksiii_, .row Kisi_, .row Ksi_], .c false [.row u16_], .c false [.row u16_]], [], .t [(false, [.row i_]), (false, [.row i_])], []⟩
def law09_Rows_a : Ann := .s .d (.s .d (.s .d (.s (.s .d (.b (.l [8, 10, 11, 14, 15, 16, 17, 18, 19, 20, 21, 22, 23, 24, 25, 26, 27, 28, 29, 30, 31, 32, 33, 34, 35, 36, 37, 38, 39, 40, 41, 42, 43, 44, 45, 46] [] ⟨[(8, .c false [.con (.own 100000 1)]), (10, .c false [.int .i64])], [(100000, .row 3 i_)]⟩ [(.exit 0, ⟨[(8, .c false [.con (.own 100000 1)])], [(100000, .row 3 i_)]⟩)] (.s .d (.s (.b (.s .d (.j [11, 21, 22, 23, 24, 25, 26, 27, 28, 29, 30, 31, 32, 33, 34, 35, 36, 37, 38, 39, 40, 41, 42] [] [(.normal, ⟨[(11, .c false [.int .i64])], []⟩)] .d .d))) .d))))) (.s (.s .d (.b (.l [9, 12, 13, 47, 48, 49, 50, 51, 52, 53, 54, 55, 56, 57, 58, 59, 60, 61, 62, 63, 64, 65, 66, 67, 68, 69, 70, 71, 72, 73, 74, 75, 76, 77, 78, 79] [] ⟨[(9, .c false [.con (.own 200000 1)]), (12, .c false [.int .i64])], [(200000, .row 3 i_)]⟩ [(.exit 2, ⟨[(9, .c false [.con (.own 200000 1)])], [(200000, .row 3 i_)]⟩)] (.s .d (.s (.b (.s .d (.j [13, 54, 55, 56, 57, 58, 59, 60, 61, 62, 63, 64, 65, 66, 67, 68, 69, 70, 71, 72, 73, 74, 75] [] [(.normal, ⟨[(13, .c false [.int .i64])], []⟩)] .d .d))) .d))))) .d))))
noncomputable def law09_Rows_c (n : Nat) : Ctr Try.prog := .of Try.func14 n [ref08_Mask_c n] law09_Rows_a law09_Rows_s (fun d => law09_Rows n d.1 d.2.1 d.2.2.1 d.2.2.2.1 d.2.2.2.2.1 d.2.2.2.2.2.1 d.2.2.2.2.2.2.1) fun d => by kernel_rfl
noncomputable def law15_Bits_l1b (n : Nat) (x1 : List Bool) (x2 : Int) (self : Int × List Bool × Unit → Option ((List Bool × Unit))) (d4 : Int × List Bool × Unit) : Option ((List Bool × Unit)) :=
 cond (decide (d4.1 < x2))
 (cond (decide (d4.1 < (x1.length : Int)))
 (ask (0 ≤ d4.1 ∧ d4.1 < (x1.length : Int)) (ask (True ∧ (d4.2.1.length + (([Kb_at x1 d4.1] : List Bool)).length) * 1 ≤ 140737488355328) (self (IntKind.wrap .i64 (d4.1 + 1), d4.2.1 ++ ([Kb_at x1 d4.1] : List Bool), ()))))
 (ask (True ∧ (d4.2.1.length + (([false] : List Bool)).length) * 1 ≤ 140737488355328) (self (IntKind.wrap .i64 (d4.1 + 1), d4.2.1 ++ ([false] : List Bool), ()))))
 (some (d4.2.1, ()))
noncomputable def law15_Bits_l1 (n : Nat) (x1 : List Bool) (x2 : Int) : Int × List Bool × Unit → Option ((List Bool × Unit)) := iter (law15_Bits_l1b n x1 x2) n
noncomputable def law15_Bits (n : Nat) (x1 : List Bool) (x2 : Int) : Option (List Bool × Unit) :=
 (law15_Bits_l1 n x1 x2 (0, ([] : List Bool), ())).bind (fun d5 => some (d5.1, ()))
def law15_Bits_s : Sig := ⟨[.c false [.row b_], .c false [.int .i64]], [], .c false [.row b_], []⟩
def law15_Bits_a : Ann := .s .d (.s .d (.s (.s .d (.b (.l [5, 6, 7, 8, 9, 10, 11, 12, 13, 14, 15, 16, 17, 18, 19, 20, 21, 22, 23, 24] [] ⟨[(5, .c false [.con (.own 100000 1)]), (6, .c false [.int .i64])], [(100000, .row 4 b_)]⟩ [(.exit 0, ⟨[(5, .c false [.con (.own 100000 1)])], [(100000, .row 4 b_)]⟩)] .d))) .d))
noncomputable def law15_Bits_c (n : Nat) : Ctr Try.prog := .of Try.func15 n [] law15_Bits_a law15_Bits_s (fun d => law15_Bits n d.1 d.2.1) fun d => by kernel_rfl
noncomputable def law15_CircRows (n : Nat) (x1 : List Kiiiiiii) (x2 : List Ksi) (x3 : List Ksiii) (x4 : List Kisi) (x5 : List Ksi) (x6 : List Int) (x7 : List Bool) : Option (Bool × Unit) :=
 (law15_head n).bind (fun r8 => (law09_Great n x1 x2 x3 x4 x5).bind (fun r9 => cond r9.1
 (some (r8.1, ()))
 ((ref09_Right n x1 x2 x3 x4 x5).bind (fun r10 => cond (!r10.1)
 (some (r8.1, ()))
 ((ref15_Weight n x1 x2 x3 x4 x5).bind (fun r11 => cond (decide ((6000 : Int) < r11.1))
 (some (r8.1, ()))
 ((circ_Compile n x1 x2 x3 x4 x5).bind (fun r12 => (law15_Fits n x1 x2 x3 x4 x5 r12.1 r12.2.1 r12.2.2.1 r12.2.2.2.1 r12.2.2.2.2.1).bind (fun r13 => cond (!r13.1)
 (some (false, ()))
 ((law09_Rows n x1 x2 x3 x4 x5 ([] : List Int) x6).bind (fun r14 => (law15_Bits n x7 (r12.2.2.1.length : Int)).bind (fun r15 => (circ_Row n r12.1 r12.2.1 r12.2.2.1 r12.2.2.2.1 r12.2.2.2.2.1 (x2.length : Int) r15.1).bind (fun r16 => cond r8.1
 ((circ_Ins n r12.1 r12.2.1 r12.2.2.1 r12.2.2.2.1 r12.2.2.2.2.1 r14.2.1).bind (fun r17 => (circ_Row n r12.1 r12.2.1 r12.2.2.1 r12.2.2.2.1 r12.2.2.2.2.1 (x2.length : Int) r17.1).bind (fun r18 => (ref04_SameInts n r18.1 r14.2.1).bind (fun r19 => cond r19.1
 (cond (decide ((r16.1.length : Int) = (x2.length : Int)))
 ((circ_Ins n r12.1 r12.2.1 r12.2.2.1 r12.2.2.2.1 r12.2.2.2.2.1 r16.1).bind (fun r20 => (ref08_Same n r20.1 r15.1).bind (fun r21 => some (r21.1, ()))))
 (some (false, ())))
 (some (false, ()))))))
 (some (false, ())))))))))))))))
def law15_CircRows_s : Sig := ⟨[.c true [.row Kiiiiiii_, .row Ksi_, .row Ksiii_, .row Kisi_, .row Ksi_], .c false [.row u16_], .c false [.row b_]], [], .c false [.bool], []⟩
def law15_CircRows_a : Ann := .d
noncomputable def law15_CircRows_c (n : Nat) : Ctr Try.prog := .of Try.func4 n [law15_head_c n, law09_Great_c n, ref09_Right_c n, ref15_Weight_c n, circ_Compile_c n, law15_Fits_c n, law09_Rows_c n, law15_Bits_c n, circ_Row_c n, circ_Ins_c n, ref04_SameInts_c n, ref08_Same_c n] law15_CircRows_a law15_CircRows_s (fun d => law15_CircRows n d.1 d.2.1 d.2.2.1 d.2.2.2.1 d.2.2.2.2.1 d.2.2.2.2.2.1 d.2.2.2.2.2.2.1) fun d => by kernel_rfl
noncomputable def ref15_wide_l1b (n : Nat) (x1 : List Kiiiiiii) (x6 : Int) (self : Int × Int × Unit → Option ((Int × Unit))) (d8 : Int × Int × Unit) : Option ((Int × Unit)) :=
 cond (decide (d8.2.1 < (x1.length : Int)))
 (ask (0 ≤ d8.2.1 ∧ d8.2.1 < (x1.length : Int)) (cond (decide (((Kiiiiiii_at x1 d8.2.1).1) = x6))
 (ask (0 ≤ d8.2.1 ∧ d8.2.1 < (x1.length : Int)) (self (IntKind.wrap .i64 (d8.1 + (((Kiiiiiii_at x1 d8.2.1).2).1)), IntKind.wrap .i64 (d8.2.1 + 1), ())))
 (self (d8.1, IntKind.wrap .i64 (d8.2.1 + 1), ()))))
 (some (d8.1, ()))
noncomputable def ref15_wide_l1 (n : Nat) (x1 : List Kiiiiiii) (x6 : Int) : Int × Int × Unit → Option ((Int × Unit)) := iter (ref15_wide_l1b n x1 x6) n
noncomputable def ref15_wide (n : Nat) (x1 : List Kiiiiiii) (x2 : List Ksi) (x3 : List Ksiii) (x4 : List Kisi) (x5 : List Ksi) (x6 : Int) : Option (Int × Unit) :=
 (ref15_wide_l1 n x1 x6 (0, 0, ())).bind (fun d9 => some (d9.1, ()))
def ref15_wide_s : Sig := ⟨[.c true [.row Kiiiiiii_, .row Ksi_, .row Ksiii_, .row Kisi_, .row Ksi_], .c false [.int .i64]], [], .c false [.int .i64], []⟩
def ref15_wide_a : Ann := .s .d (.s .d (.s (.s .d (.b (.l [5, 6, 7, 8, 9, 10, 11, 12, 13, 14, 15, 16, 17, 18, 19, 20, 21, 22, 23, 24, 25, 26, 27, 28, 29] [] ⟨[(5, .c false [.int .i64]), (6, .c false [.int .i64])], []⟩ [(.exit 0, ⟨[(5, .c false [.int .i64])], []⟩)] .d))) .d))
noncomputable def ref15_wide_c (n : Nat) : Ctr Try.prog := .of Try.func54 n [] ref15_wide_a ref15_wide_s (fun d => ref15_wide n d.1 d.2.1 d.2.2.1 d.2.2.2.1 d.2.2.2.2.1 d.2.2.2.2.2.1) fun d => by kernel_rfl
noncomputable def ref13_New (n : Nat) (x1 : Int) : Option (Int × Unit) :=
 some (x1, ())
def ref13_New_s : Sig := ⟨[.c false [.int .i64]], [], .c true [.int .i64, .con .nilsl], []⟩
def ref13_New_a : Ann := .d
noncomputable def ref13_New_c (n : Nat) : Ctr Try.prog := .of Try.func55 n [] ref13_New_a ref13_New_s (fun d => ref13_New n d.1) fun d => by kernel_rfl
noncomputable def ref15_bits_l1b (n : Nat) (x1 : Int) (x2 : Int) (self : Int × List Int × Unit → Option ((List Int × Unit))) (d4 : Int × List Int × Unit) : Option ((List Int × Unit)) :=
 cond (decide (d4.1 < x2))
 (ask (True ∧ (d4.2.1.length + (([IntKind.wrap .i64 ((2 : Int) * (IntKind.wrap .i64 (x1 + d4.1)))] : List Int)).length) * 8 ≤ 140737488355328) (self (IntKind.wrap .i64 (d4.1 + 1), d4.2.1 ++ ([IntKind.wrap .i64 ((2 : Int) * (IntKind.wrap .i64 (x1 + d4.1)))] : List Int), ())))
 (some (d4.2.1, ()))
noncomputable def ref15_bits_l1 (n : Nat) (x1 : Int) (x2 : Int) : Int × List Int × Unit → Option ((List Int × Unit)) := iter (ref15_bits_l1b n x1 x2) n
noncomputable def ref15_bits (n : Nat) (x1 : Int) (x2 : Int) : Option (List Int × Unit) :=
 (ref15_bits_l1 n x1 x2 (0, ([] : List Int), ())).bind (fun d5 => some (d5.1, ()))
def ref15_bits_s : Sig := ⟨[.c false [.int .i64], .c false [.int .i64]], [], .c false [.row i_], []⟩
def ref15_bits_a : Ann := .s .d (.s .d (.s (.s .d (.b (.l [5, 6, 7, 8, 9, 10, 11, 12, 13, 14, 15, 16, 17, 18] [] ⟨[(5, .c false [.con (.own 100000 1)]), (6, .c false [.int .i64])], [(100000, .row 3 i_)]⟩ [(.exit 0, ⟨[(5, .c false [.con (.own 100000 1)])], [(100000, .row 3 i_)]⟩)] .d))) .d))
noncomputable def ref15_bits_c (n : Nat) : Ctr Try.prog := .of Try.func56 n [] ref15_bits_a ref15_bits_s (fun d => ref15_bits n d.1 d.2.1) fun d => by kernel_rfl
noncomputable def ref14_lit_l1b (n : Nat) (x1 : Int) (x2 : Int) (self : Int × List Int × Unit → Option ((List Int × Unit))) (d4 : Int × List Int × Unit) : Option ((List Int × Unit)) :=
 cond (decide (d4.1 < x2))
 (ask (0 ≤ d4.1) (ask (True ∧ (d4.2.1.length + (([bits .and .i64 (shrI .i64 x1 d4.1) 1] : List Int)).length) * 8 ≤ 140737488355328) (self (IntKind.wrap .i64 (d4.1 + 1), d4.2.1 ++ ([bits .and .i64 (shrI .i64 x1 d4.1) 1] : List Int), ()))))
 (some (d4.2.1, ()))
noncomputable def ref14_lit_l1 (n : Nat) (x1 : Int) (x2 : Int) : Int × List Int × Unit → Option ((List Int × Unit)) := iter (ref14_lit_l1b n x1 x2) n
noncomputable def ref14_lit (n : Nat) (x1 : Int) (x2 : Int) : Option (List Int × Unit) :=
 (ref14_lit_l1 n x1 x2 (0, ([] : List Int), ())).bind (fun d5 => some (d5.1, ()))
def ref14_lit_s : Sig := ⟨[.c false [.int .i64], .c false [.int .i64]], [], .c false [.row i_], []⟩
def ref14_lit_a : Ann := .s .d (.s .d (.s (.s .d (.b (.l [5, 6, 7, 8, 9, 10, 11, 12, 13, 14, 15, 16, 17, 18] [] ⟨[(5, .c false [.con (.own 100000 1)]), (6, .c false [.int .i64])], [(100000, .row 3 i_)]⟩ [(.exit 0, ⟨[(5, .c false [.con (.own 100000 1)])], [(100000, .row 3 i_)]⟩)] .d))) .d))
noncomputable def ref14_lit_c (n : Nat) : Ctr Try.prog := .of Try.func61 n [] ref14_lit_a ref14_lit_s (fun d => ref14_lit n d.1 d.2.1) fun d => by kernel_rfl
noncomputable def ref14_turned_l1b (n : Nat) (x1 : List Int) (self : Int × List Int × Unit → Option ((List Int × Unit))) (d3 : Int × List Int × Unit) : Option ((List Int × Unit)) :=
 cond (decide (d3.1 < (x1.length : Int)))
 (ask (0 ≤ d3.1 ∧ d3.1 < (x1.length : Int)) (ask (True ∧ (d3.2.1.length + (([bits .xor .i64 (Ki_at x1 d3.1) 1] : List Int)).length) * 8 ≤ 140737488355328) (self (IntKind.wrap .i64 (d3.1 + 1), d3.2.1 ++ ([bits .xor .i64 (Ki_at x1 d3.1) 1] : List Int), ()))))
 (some (d3.2.1, ()))
noncomputable def ref14_turned_l1 (n : Nat) (x1 : List Int) : Int × List Int × Unit → Option ((List Int × Unit)) := iter (ref14_turned_l1b n x1) n
noncomputable def ref14_turned (n : Nat) (x1 : List Int) : Option (List Int × Unit) :=
 (ref14_turned_l1 n x1 (0, ([] : List Int), ())).bind (fun d4 => some (d4.1, ()))
def ref14_turned_s : Sig := ⟨[.c false [.row i_]], [], .c false [.row i_], []⟩
def ref14_turned_a : Ann := .s .d (.s .d (.s (.s .d (.b (.l [3, 4, 5, 6, 7, 8, 9, 10, 11, 12, 13, 14, 15, 16, 17, 18] [] ⟨[(3, .c false [.con (.own 100000 1)]), (4, .c false [.int .i64])], [(100000, .row 3 i_)]⟩ [(.exit 0, ⟨[(3, .c false [.con (.own 100000 1)])], [(100000, .row 3 i_)]⟩)] .d))) .d))
noncomputable def ref14_turned_c (n : Nat) : Ctr Try.prog := .of Try.func62 n [] ref14_turned_a ref14_turned_s (fun d => ref14_turned n d.1) fun d => by kernel_rfl
noncomputable def ref13_And_j1 (n : Nat) (d5 : Int × Int × Unit) (r7 : Int × Unit) (x1 : Int) (x2 : List Kii) : Option ((Int × Int × List Kii × Unit)) :=
 cond (decide (r7.1 < 0))
 (ask (True ∧ ((([] : List Kii)).length + x2.length) * 16 ≤ 140737488355328) (ask (True ∧ ((([] : List Kii) ++ x2).length + (([(d5.1, d5.2.1)] : List Kii)).length) * 16 ≤ 140737488355328) (some ((x2.length : Int), x1, (([] : List Kii) ++ x2) ++ ([(d5.1, d5.2.1)] : List Kii), ()))))
 (some (r7.1, x1, x2, ()))
noncomputable def ref13_And_j2 (n : Nat) (d5 : Int × Int × Unit) (r10 : Int × Unit) (x1 : Int) (x2 : List Kii) : Option ((Int × Int × List Kii × Unit)) :=
 cond (decide (r10.1 < 0))
 (ask (True ∧ ((([] : List Kii)).length + x2.length) * 16 ≤ 140737488355328) (ask (True ∧ ((([] : List Kii) ++ x2).length + (([(d5.1, d5.2.1)] : List Kii)).length) * 16 ≤ 140737488355328) (some ((x2.length : Int), x1, (([] : List Kii) ++ x2) ++ ([(d5.1, d5.2.1)] : List Kii), ()))))
 (some (r10.1, x1, x2, ()))
noncomputable def ref13_And (n : Nat) (x1 : Int) (x2 : List Kii) (x3 : Int) (x4 : Int) : Option (Int × List Kii × Int × Unit) :=
 ((cond (decide (x4 < x3))
 (some (x4, x3, ()))
 (some (x3, x4, ()))) : Option ((Int × Int × Unit))).bind (fun d5 => cond (decide (d5.1 = 0))
 (some (x1, x2, 0, ()))
 (ask ((2 : Int) ≠ 0) (ask ((2 : Int) ≠ 0) (cond (decide ((IntKind.wrap .i64 (Int.tdiv d5.1 2)) = (IntKind.wrap .i64 (Int.tdiv d5.2.1 2))))
 (cond (decide (d5.1 ≠ d5.2.1))
 (some (x1, x2, 0, ()))
 (((cond (decide (d5.1 = 1))
 (some (true, ()))
 (some (decide (d5.1 = d5.2.1), ()))) : Option ((Bool × Unit))).bind (fun d6 => cond d6.1
 (some (x1, x2, d5.2.1, ()))
 ((ref13_find n x1 x2 d5.1 d5.2.1 (x2.length : Int)).bind (fun r7 => (ref13_And_j1 n d5 r7 x1 x2).bind (fun d8 => some (d8.2.1, d8.2.2.1, IntKind.wrap .i64 ((2 : Int) * (IntKind.wrap .i64 ((IntKind.wrap .i64 (d8.2.1 + 1)) + d8.1))), ())))))))
 (((cond (decide (d5.1 = 1))
 (some (true, ()))
 (some (decide (d5.1 = d5.2.1), ()))) : Option ((Bool × Unit))).bind (fun d9 => cond d9.1
 (some (x1, x2, d5.2.1, ()))
 ((ref13_find n x1 x2 d5.1 d5.2.1 (x2.length : Int)).bind (fun r10 => (ref13_And_j2 n d5 r10 x1 x2).bind (fun d11 => some (d11.2.1, d11.2.2.1, IntKind.wrap .i64 ((2 : Int) * (IntKind.wrap .i64 ((IntKind.wrap .i64 (d11.2.1 + 1)) + d11.1))), ()))))))))))
def ref13_And_s : Sig := ⟨[.c true [.int .i64, .row Kii_], .c false [.int .i64], .c false [.int .i64]], [], .t [(true, [.int .i64, .row Kii_]), (false, [.int .i64])], []⟩
def ref13_And_a : Ann := .s .d (.j [1, 2, 9, 10, 11, 12, 13] [] [(.normal, ⟨[(1, .c false [.int .i64]), (2, .c false [.int .i64])], []⟩)] .d (.s .d (.s (.j [29, 30, 31, 32, 33, 34, 35] [] [(.normal, ⟨[(35, .c false [.bool])], []⟩)] .d .d) (.s .d (.j [3, 8, 41, 45, 46, 47, 48, 49, 50, 51, 52, 53, 54, 55, 56, 57, 58, 59] [100] [(.normal, ⟨[(3, .c false [.con (.ptr 100 0)]), (8, .c false [.int .i64])], [(100, .var 33 [.int .i64, .row Kii_])]⟩)] .d .d)))))
noncomputable def ref13_And_c (n : Nat) : Ctr Try.prog := .of Try.func90 n [ref13_find_c n] ref13_And_a ref13_And_s (fun d => ref13_And n d.1 d.2.1 d.2.2.1 d.2.2.2.1) fun d => by kernel_rfl
noncomputable def ref13_turn (n : Nat) (x1 : Int) : Option (Int × Unit) :=
 some (bits .xor .i64 x1 1, ())
def ref13_turn_s : Sig := ⟨[.c false [.int .i64]], [], .c false [.int .i64], []⟩
def ref13_turn_a : Ann := .d
noncomputable def ref13_turn_c (n : Nat) : Ctr Try.prog := .of Try.func93 n [] ref13_turn_a ref13_turn_s (fun d => ref13_turn n d.1) fun d => by kernel_rfl
noncomputable def ref13_Or (n : Nat) (x1 : Int) (x2 : List Kii) (x3 : Int) (x4 : Int) : Option (Int × List Kii × Int × Unit) :=
 (ref13_turn n x3).bind (fun r5 => (ref13_turn n x4).bind (fun r6 => (ref13_And n x1 x2 r5.1 r6.1).bind (fun r7 => (ref13_turn n r7.2.2.1).bind (fun r8 => some (r7.1, r7.2.1, r8.1, ())))))
def ref13_Or_s : Sig := ⟨[.c true [.int .i64, .row Kii_], .c false [.int .i64], .c false [.int .i64]], [], .t [(true, [.int .i64, .row Kii_]), (false, [.int .i64])], []⟩
def ref13_Or_a : Ann := .d
noncomputable def ref13_Or_c (n : Nat) : Ctr Try.prog := .of Try.func91 n [ref13_turn_c n, ref13_And_c n] ref13_Or_a ref13_Or_s (fun d => ref13_Or n d.1 d.2.1 d.2.2.1 d.2.2.2.1) fun d => by kernel_rfl
noncomputable def ref13_Mux (n : Nat) (x1 : Int) (x2 : List Kii) (x3 : Int) (x4 : Int) (x5 : Int) : Option (Int × List Kii × Int × Unit) :=
 (ref13_And n x1 x2 x3 x4).bind (fun r6 => (ref13_turn n x3).bind (fun r7 => (ref13_And n r6.1 r6.2.1 r7.1 x5).bind (fun r8 => (ref13_Or n r8.1 r8.2.1 r6.2.2.1 r8.2.2.1).bind (fun r9 => some (r9.1, r9.2.1, r9.2.2.1, ())))))
def ref13_Mux_s : Sig := ⟨[.c true [.int .i64, .row Kii_], .c false [.int .i64], .c false [.int .i64], .c false [.int .i64]], [], .t [(true, [.int .i64, .row Kii_]), (false, [.int .i64])], []⟩
def ref13_Mux_a : Ann := .d
noncomputable def ref13_Mux_c (n : Nat) : Ctr Try.prog := .of Try.func66 n [ref13_And_c n, ref13_turn_c n, ref13_Or_c n] ref13_Mux_a ref13_Mux_s (fun d => ref13_Mux n d.1 d.2.1 d.2.2.1 d.2.2.2.1 d.2.2.2.2.1) fun d => by kernel_rfl
noncomputable def ref13_Xor (n : Nat) (x1 : Int) (x2 : List Kii) (x3 : Int) (x4 : Int) : Option (Int × List Kii × Int × Unit) :=
 (ref13_turn n x4).bind (fun r5 => (ref13_Mux n x1 x2 x3 r5.1 x4).bind (fun r6 => some (r6.1, r6.2.1, r6.2.2.1, ())))
def ref13_Xor_s : Sig := ⟨[.c true [.int .i64, .row Kii_], .c false [.int .i64], .c false [.int .i64]], [], .t [(true, [.int .i64, .row Kii_]), (false, [.int .i64])], []⟩
def ref13_Xor_a : Ann := .d
noncomputable def ref13_Xor_c (n : Nat) : Ctr Try.prog := .of Try.func92 n [ref13_turn_c n, ref13_Mux_c n] ref13_Xor_a ref13_Xor_s (fun d => ref13_Xor n d.1 d.2.1 d.2.2.1 d.2.2.2.1) fun d => by kernel_rfl
noncomputable def ref14_each_j1 (n : Nat) (d9 : Int × Int × List Kii × List Int × Unit) (x3 : Int) (x4 : List Int) (x5 : List Int) : Option ((Int × Int × List Kii × Unit)) :=
 cond (decide (x3 = 6))
 (ask (0 ≤ d9.1 ∧ d9.1 < (x4.length : Int)) (ask (0 ≤ d9.1 ∧ d9.1 < (x5.length : Int)) ((ref13_And n d9.2.1 d9.2.2.1 (Ki_at x4 d9.1) (Ki_at x5 d9.1)).bind (fun r10 => some (r10.2.2.1, r10.1, r10.2.1, ())))))
 (cond (decide (x3 = 7))
 (ask (0 ≤ d9.1 ∧ d9.1 < (x4.length : Int)) (ask (0 ≤ d9.1 ∧ d9.1 < (x5.length : Int)) ((ref13_Or n d9.2.1 d9.2.2.1 (Ki_at x4 d9.1) (Ki_at x5 d9.1)).bind (fun r11 => some (r11.2.2.1, r11.1, r11.2.1, ())))))
 (ask (0 ≤ d9.1 ∧ d9.1 < (x4.length : Int)) (ask (0 ≤ d9.1 ∧ d9.1 < (x5.length : Int)) ((ref13_Xor n d9.2.1 d9.2.2.1 (Ki_at x4 d9.1) (Ki_at x5 d9.1)).bind (fun r12 => some (r12.2.2.1, r12.1, r12.2.1, ()))))))
noncomputable def ref14_each_l2b (n : Nat) (x3 : Int) (x4 : List Int) (x5 : List Int) (self : Int × Int × List Kii × List Int × Unit → Option ((Int × List Kii × List Int × Unit))) (d9 : Int × Int × List Kii × List Int × Unit) : Option ((Int × List Kii × List Int × Unit)) :=
 cond (decide (d9.1 < (x4.length : Int)))
 ((ref14_each_j1 n d9 x3 x4 x5).bind (fun d13 => ask (True ∧ (d9.2.2.2.1.length + (([d13.1] : List Int)).length) * 8 ≤ 140737488355328) (self (IntKind.wrap .i64 (d9.1 + 1), d13.2.1, d13.2.2.1, d9.2.2.2.1 ++ ([d13.1] : List Int), ()))))
 (some (d9.2.1, d9.2.2.1, d9.2.2.2.1, ()))
noncomputable def ref14_each_l2 (n : Nat) (x3 : Int) (x4 : List Int) (x5 : List Int) : Int × Int × List Kii × List Int × Unit → Option ((Int × List Kii × List Int × Unit)) := iter (ref14_each_l2b n x3 x4 x5) n
noncomputable def ref14_each (n : Nat) (x1 : Int) (x2 : List Kii) (x3 : Int) (x4 : List Int) (x5 : List Int) : Option (Int × List Kii × List Int × Unit) :=
 (ref14_each_l2 n x3 x4 x5 (0, x1, x2, ([] : List Int), ())).bind (fun d14 => some (d14.1, d14.2.1, d14.2.2.1, ()))
def ref14_each_s : Sig := ⟨[.c true [.int .i64, .row Kii_], .c false [.int .i64], .c false [.row i_], .c false [.row i_]], [], .t [(true, [.int .i64, .row Kii_]), (false, [.row i_])], []⟩
def ref14_each_a : Ann := .s .d (.s .d (.s (.s .d (.b (.l [4, 10, 11, 12, 13, 14, 15, 16, 17, 18, 19, 20, 21, 22, 23, 24, 25, 26, 27, 28, 29, 30, 31, 32, 33, 34, 35, 36, 37, 38, 39, 40, 41, 42, 43, 44, 45, 46, 47, 48, 49, 50, 51, 52, 53, 54, 55, 56, 57, 58, 59, 60, 61, 62, 63, 64, 65, 66, 67, 68, 69] [100] ⟨[(4, .c false [.con (.ptr 100 0)]), (10, .c false [.con (.own 100000 1)]), (11, .c false [.int .i64])], [(100, .var 33 [.int .i64, .row Kii_]), (100000, .row 3 i_)]⟩ [(.exit 0, ⟨[(4, .c false [.con (.ptr 100 0)]), (10, .c false [.con (.own 100000 1)])], [(100, .var 33 [.int .i64, .row Kii_]), (100000, .row 3 i_)]⟩)] (.s .d (.s (.b (.s .d (.s .d (.j [12, 13, 21, 22, 23, 24, 25, 26, 27, 28, 29, 30, 31, 32, 33, 34, 35, 36, 37, 38, 39, 40, 41, 42, 43, 44, 45, 46, 47, 48, 49, 50, 51, 52, 53, 54, 55, 56, 57, 58, 59, 60, 61, 62, 63, 64] [100065] [(.normal, ⟨[(12, .c false [.int .i64]), (13, .c false [.con (.ptr 100065 0)])], [(100065, .var 33 [.int .i64, .row Kii_])]⟩)] .d .d)))) .d))))) .d))
noncomputable def ref14_each_c (n : Nat) : Ctr Try.prog := .of Try.func63 n [ref13_And_c n, ref13_Or_c n, ref13_Xor_c n] ref14_each_a ref14_each_s (fun d => ref14_each n d.1 d.2.1 d.2.2.1 d.2.2.2.1 d.2.2.2.2.1) fun d => by kernel_rfl
noncomputable def ref14_sum_l1b (n : Nat) (x3 : List Int) (x4 : List Int) (self : Int × Int × Int × List Kii × List Int × Unit → Option ((Int × List Kii × List Int × Unit))) (d9 : Int × Int × Int × List Kii × List Int × Unit) : Option ((Int × List Kii × List Int × Unit)) :=
 cond (decide (d9.2.1 < (x3.length : Int)))
 (ask (0 ≤ d9.2.1 ∧ d9.2.1 < (x3.length : Int)) (ask (0 ≤ d9.2.1 ∧ d9.2.1 < (x4.length : Int)) ((ref13_Xor n d9.2.2.1 d9.2.2.2.1 (Ki_at x3 d9.2.1) (Ki_at x4 d9.2.1)).bind (fun r10 => (ref13_Xor n r10.1 r10.2.1 r10.2.2.1 d9.1).bind (fun r11 => ask (0 ≤ d9.2.1 ∧ d9.2.1 < (x3.length : Int)) (ask (0 ≤ d9.2.1 ∧ d9.2.1 < (x4.length : Int)) ((ref13_And n r11.1 r11.2.1 (Ki_at x3 d9.2.1) (Ki_at x4 d9.2.1)).bind (fun r12 => (ref13_And n r12.1 r12.2.1 r10.2.2.1 d9.1).bind (fun r13 => (ref13_Or n r13.1 r13.2.1 r12.2.2.1 r13.2.2.1).bind (fun r14 => ask (True ∧ (d9.2.2.2.2.1.length + (([r11.2.2.1] : List Int)).length) * 8 ≤ 140737488355328) (self (r14.2.2.1, IntKind.wrap .i64 (d9.2.1 + 1), r14.1, r14.2.1, d9.2.2.2.2.1 ++ ([r11.2.2.1] : List Int), ()))))))))))))
 (some (d9.2.2.1, d9.2.2.2.1, d9.2.2.2.2.1, ()))
noncomputable def ref14_sum_l1 (n : Nat) (x3 : List Int) (x4 : List Int) : Int × Int × Int × List Kii × List Int × Unit → Option ((Int × List Kii × List Int × Unit)) := iter (ref14_sum_l1b n x3 x4) n
noncomputable def ref14_sum (n : Nat) (x1 : Int) (x2 : List Kii) (x3 : List Int) (x4 : List Int) (x5 : Int) : Option (Int × List Kii × List Int × Unit) :=
 (ref14_sum_l1 n x3 x4 (x5, 0, x1, x2, ([] : List Int), ())).bind (fun d15 => some (d15.1, d15.2.1, d15.2.2.1, ()))
def ref14_sum_s : Sig := ⟨[.c true [.int .i64, .row Kii_], .c false [.row i_], .c false [.row i_], .c false [.int .i64]], [], .t [(true, [.int .i64, .row Kii_]), (false, [.row i_])], []⟩
def ref14_sum_a : Ann := .s .d (.s .d (.s (.s .d (.b (.l [3, 4, 10, 11, 12, 13, 14, 15, 16, 17, 18, 19, 20, 21, 22, 23, 24, 25, 26, 27, 28, 29, 30, 31, 32, 33, 34, 35, 36, 37, 38, 39, 40, 41, 42, 43, 44, 45, 46, 47, 48, 49, 50, 51, 52, 53, 54, 55, 56, 57, 58, 59, 60, 61, 62, 63, 64, 65, 66, 67, 68, 69, 70, 71, 72, 73, 74, 75, 76, 77, 78, 79, 80] [100] ⟨[(3, .c false [.int .i64]), (4, .c false [.con (.ptr 100 0)]), (10, .c false [.con (.own 100000 1)]), (11, .c false [.int .i64])], [(100, .var 33 [.int .i64, .row Kii_]), (100000, .row 3 i_)]⟩ [(.exit 0, ⟨[(4, .c false [.con (.ptr 100 0)]), (10, .c false [.con (.own 100000 1)])], [(100, .var 33 [.int .i64, .row Kii_]), (100000, .row 3 i_)]⟩)] .d))) .d))
noncomputable def ref14_sum_c (n : Nat) : Ctr Try.prog := .of Try.func64 n [ref13_Xor_c n, ref13_And_c n, ref13_Or_c n] ref14_sum_a ref14_sum_s (fun d => ref14_sum n d.1 d.2.1 d.2.2.1 d.2.2.2.1 d.2.2.2.2.1) fun d => by kernel_rfl
noncomputable def ref14_sum_o_l1b (n : Nat) (x3 : List Int) (x4 : List Int) (self : Int × Int × Int × List Kii × List Int × Unit → Option ((Int × List Kii × List Int × Unit))) (d9 : Int × Int × Int × List Kii × List Int × Unit) : Option ((Int × List Kii × List Int × Unit)) :=
 cond (decide (d9.2.1 < (x3.length : Int)))
 (ask (0 ≤ d9.2.1 ∧ d9.2.1 < (x3.length : Int)) (ask (0 ≤ d9.2.1 ∧ d9.2.1 < (x4.length : Int)) ((ref13_Xor n d9.2.2.1 d9.2.2.2.1 (Ki_at x3 d9.2.1) (Ki_at x4 d9.2.1)).bind (fun r10 => (ref13_Xor n r10.1 r10.2.1 r10.2.2.1 d9.1).bind (fun r11 => ask (0 ≤ d9.2.1 ∧ d9.2.1 < (x3.length : Int)) (ask (0 ≤ d9.2.1 ∧ d9.2.1 < (x4.length : Int)) ((ref13_And n r11.1 r11.2.1 (Ki_at x3 d9.2.1) (Ki_at x4 d9.2.1)).bind (fun r12 => (ref13_And n r12.1 r12.2.1 r10.2.2.1 d9.1).bind (fun r13 => (ref13_Or n r13.1 r13.2.1 r12.2.2.1 r13.2.2.1).bind (fun r14 => ask (True ∧ (d9.2.2.2.2.1.length + (([r11.2.2.1] : List Int)).length) * 8 ≤ 140737488355328) (self (r14.2.2.1, IntKind.wrap .i64 (d9.2.1 + 1), r14.1, r14.2.1, d9.2.2.2.2.1 ++ ([r11.2.2.1] : List Int), ()))))))))))))
 (some (d9.2.2.1, d9.2.2.2.1, d9.2.2.2.2.1, ()))
noncomputable def ref14_sum_o_l1 (n : Nat) (x3 : List Int) (x4 : List Int) : Int × Int × Int × List Kii × List Int × Unit → Option ((Int × List Kii × List Int × Unit)) := iter (ref14_sum_o_l1b n x3 x4) n
noncomputable def ref14_sum_o (n : Nat) (x1 : Int) (x2 : List Kii) (x3 : List Int) (x4 : List Int) (x5 : Int) : Option (Int × List Kii × List Int × Unit) :=
 (ref14_sum_o_l1 n x3 x4 (x5, 0, x1, x2, ([] : List Int), ())).bind (fun d15 => some (d15.1, d15.2.1, d15.2.2.1, ()))
def ref14_sum_o_s : Sig := ⟨[.c true [.int .i64, .row Kii_], .c false [.row i_], .c false [.row i_], .c false [.int .i64]], [], .t [(true, [.int .i64, .row Kii_]), (false, [.con (.own 100000 1)])], [(100000, .row 3 i_)]⟩
def ref14_sum_o_a : Ann := .s .d (.s .d (.s (.s .d (.b (.l [3, 4, 10, 11, 12, 13, 14, 15, 16, 17, 18, 19, 20, 21, 22, 23, 24, 25, 26, 27, 28, 29, 30, 31, 32, 33, 34, 35, 36, 37, 38, 39, 40, 41, 42, 43, 44, 45, 46, 47, 48, 49, 50, 51, 52, 53, 54, 55, 56, 57, 58, 59, 60, 61, 62, 63, 64, 65, 66, 67, 68, 69, 70, 71, 72, 73, 74, 75, 76, 77, 78, 79, 80] [100] ⟨[(3, .c false [.int .i64]), (4, .c false [.con (.ptr 100 0)]), (10, .c false [.con (.own 100000 1)]), (11, .c false [.int .i64])], [(100, .var 33 [.int .i64, .row Kii_]), (100000, .row 3 i_)]⟩ [(.exit 0, ⟨[(4, .c false [.con (.ptr 100 0)]), (10, .c false [.con (.own 100000 1)])], [(100, .var 33 [.int .i64, .row Kii_]), (100000, .row 3 i_)]⟩)] .d))) .d))
noncomputable def ref14_sum_o_c (n : Nat) : Ctr Try.prog := .of Try.func64 n [ref13_Xor_c n, ref13_And_c n, ref13_Or_c n] ref14_sum_o_a ref14_sum_o_s (fun d => ref14_sum_o n d.1 d.2.1 d.2.2.1 d.2.2.2.1 d.2.2.2.2.1) fun d => by kernel_rfl
noncomputable def ref14_times_j1 (n : Nat) (d8 : Int × Int × List Kii × List Int × Unit) (d12 : Int × Int × List Kii × List Int × Unit) (x3 : List Int) (x4 : List Int) : Option ((Int × Int × List Kii × Unit)) :=
 cond (decide (d8.1 ≤ d12.1))
 (ask (0 ≤ (IntKind.wrap .i64 (d12.1 - d8.1)) ∧ IntKind.wrap .i64 (d12.1 - d8.1) < (x3.length : Int)) (ask (0 ≤ d8.1 ∧ d8.1 < (x4.length : Int)) ((ref13_And n d12.2.1 d12.2.2.1 (Ki_at x3 (IntKind.wrap .i64 (d12.1 - d8.1))) (Ki_at x4 d8.1)).bind (fun r13 => some (r13.2.2.1, r13.1, r13.2.1, ())))))
 (some (0, d12.2.1, d12.2.2.1, ()))
noncomputable def ref14_times_l2b (n : Nat) (d8 : Int × Int × List Kii × List Int × Unit) (x3 : List Int) (x4 : List Int) (self : Int × Int × List Kii × List Int × Unit → Option ((Int × List Kii × List Int × Unit))) (d12 : Int × Int × List Kii × List Int × Unit) : Option ((Int × List Kii × List Int × Unit)) :=
 cond (decide (d12.1 < (x3.length : Int)))
 ((ref14_times_j1 n d8 d12 x3 x4).bind (fun d14 => ask (True ∧ (d12.2.2.2.1.length + (([d14.1] : List Int)).length) * 8 ≤ 140737488355328) (self (IntKind.wrap .i64 (d12.1 + 1), d14.2.1, d14.2.2.1, d12.2.2.2.1 ++ ([d14.1] : List Int), ()))))
 (some (d12.2.1, d12.2.2.1, d12.2.2.2.1, ()))
noncomputable def ref14_times_l2 (n : Nat) (d8 : Int × Int × List Kii × List Int × Unit) (x3 : List Int) (x4 : List Int) : Int × Int × List Kii × List Int × Unit → Option ((Int × List Kii × List Int × Unit)) := iter (ref14_times_l2b n d8 x3 x4) n
noncomputable def ref14_times_l3b (n : Nat) (x3 : List Int) (x4 : List Int) (self : Int × Int × List Kii × List Int × Unit → Option ((Int × List Kii × List Int × Unit))) (d8 : Int × Int × List Kii × List Int × Unit) : Option ((Int × List Kii × List Int × Unit)) :=
 cond (decide (d8.1 < (x4.length : Int)))
 ((ref14_times_l2 n d8 x3 x4 (0, d8.2.1, d8.2.2.1, ([] : List Int), ())).bind (fun d15 => (ref14_sum_o n d15.1 d15.2.1 d8.2.2.2.1 d15.2.2.1 0).bind (fun r16 => ask (True ∧ ((([] : List Int)).length + r16.2.2.1.length) * 8 ≤ 140737488355328) (self (IntKind.wrap .i64 (d8.1 + 1), r16.1, r16.2.1, ([] : List Int) ++ r16.2.2.1, ())))))
 (some (d8.2.1, d8.2.2.1, d8.2.2.2.1, ()))
noncomputable def ref14_times_l3 (n : Nat) (x3 : List Int) (x4 : List Int) : Int × Int × List Kii × List Int × Unit → Option ((Int × List Kii × List Int × Unit)) := iter (ref14_times_l3b n x3 x4) n
noncomputable def ref14_times (n : Nat) (x1 : Int) (x2 : List Kii) (x3 : List Int) (x4 : List Int) : Option (Int × List Kii × List Int × Unit) :=
 ask ((0 ≤ (x3.length : Int) ∧ (x3.length : Int) ≤ (x3.length : Int)) ∧ (8 : Int) * (x3.length : Int) ≤ 281474976710656 ∧ (x3.length : Int) ≤ 281474976710656) ((ref14_times_l3 n x3 x4 (0, x1, x2, List.replicate (x3.length : Int).toNat (0 : Int), ())).bind (fun d17 => some (d17.1, d17.2.1, d17.2.2.1, ())))
def ref14_times_s : Sig := ⟨[.c true [.int .i64, .row Kii_], .c false [.row i_], .c false [.row i_]], [], .t [(true, [.int .i64, .row Kii_]), (false, [.row i_])], []⟩
def ref14_times_a : Ann := .s .d (.s .d (.s (.s .d (.b (.l [3, 8, 9, 10, 11, 12, 13, 14, 15, 16, 19, 20, 21, 22, 23, 24, 25, 26, 27, 28, 29, 30, 31, 32, 33, 34, 35, 36, 37, 38, 39, 40, 41, 42, 43, 44, 45, 46, 47, 48, 49, 50, 51, 52, 53, 54, 55, 56, 57, 58, 59, 60, 61, 62, 63, 64, 65, 66] [100, 293] ⟨[(3, .c false [.con (.ptr 100 0)]), (8, .c false [.con (.own 293 1)]), (9, .c false [.int .i64])], [(100, .var 33 [.int .i64, .row Kii_]), (293, .row 3 i_)]⟩ [(.exit 0, ⟨[(3, .c false [.con (.ptr 100 0)]), (8, .c false [.con (.own 293 1)])], [(100, .var 33 [.int .i64, .row Kii_]), (293, .row 3 i_)]⟩)] (.s .d (.s (.b (.s .d (.s (.s .d (.b (.l [3, 10, 11, 12, 13, 14, 26, 27, 28, 29, 30, 31, 32, 33, 34, 35, 36, 37, 38, 39, 40, 41, 42, 43, 44, 45, 46, 47, 48, 49, 50, 51, 52, 53, 54, 55] [100] ⟨[(3, .c false [.con (.ptr 100 0)]), (10, .c false [.con (.own 100000 1)]), (11, .c false [.int .i64])], [(100, .var 33 [.int .i64, .row Kii_]), (100000, .row 3 i_)]⟩ [(.exit 2, ⟨[(3, .c false [.con (.ptr 100 0)]), (10, .c false [.con (.own 100000 1)])], [(100, .var 33 [.int .i64, .row Kii_]), (100000, .row 3 i_)]⟩)] (.s .d (.s (.b (.s .d (.j [3, 12, 13, 14, 32, 33, 34, 35, 36, 37, 38, 39, 40, 41, 42, 43, 44, 45, 46, 47, 48, 49, 50, 51] [100] [(.normal, ⟨[(3, .c false [.con (.ptr 100 0)]), (12, .c false [.int .i64])], [(100, .var 33 [.int .i64, .row Kii_])]⟩)] .d .d))) .d))))) (.s (.z [293, 100000]) .d)))) .d))))) .d))
noncomputable def ref14_times_c (n : Nat) : Ctr Try.prog := .of Try.func65 n [ref13_And_c n, ref14_sum_o_c n] ref14_times_a ref14_times_s (fun d => ref14_times n d.1 d.2.1 d.2.2.1 d.2.2.2.1) fun d => by kernel_rfl
noncomputable def ref14_all_l1b (n : Nat) (x3 : List Int) (self : Int × Int × Int × List Kii × Unit → Option ((Int × Int × List Kii × Unit))) (d6 : Int × Int × Int × List Kii × Unit) : Option ((Int × Int × List Kii × Unit)) :=
 cond (decide (d6.2.1 < (x3.length : Int)))
 (ask (0 ≤ d6.2.1 ∧ d6.2.1 < (x3.length : Int)) ((ref13_And n d6.2.2.1 d6.2.2.2.1 d6.1 (Ki_at x3 d6.2.1)).bind (fun r7 => self (r7.2.2.1, IntKind.wrap .i64 (d6.2.1 + 1), r7.1, r7.2.1, ()))))
 (some (d6.1, d6.2.2.1, d6.2.2.2.1, ()))
noncomputable def ref14_all_l1 (n : Nat) (x3 : List Int) : Int × Int × Int × List Kii × Unit → Option ((Int × Int × List Kii × Unit)) := iter (ref14_all_l1b n x3) n
noncomputable def ref14_all (n : Nat) (x1 : Int) (x2 : List Kii) (x3 : List Int) : Option (Int × List Kii × Int × Unit) :=
 (ref14_all_l1 n x3 (1, 0, x1, x2, ())).bind (fun d8 => some (d8.2.1, d8.2.2.1, d8.1, ()))
def ref14_all_s : Sig := ⟨[.c true [.int .i64, .row Kii_], .c false [.row i_]], [], .t [(true, [.int .i64, .row Kii_]), (false, [.int .i64])], []⟩
def ref14_all_a : Ann := .s .d (.s .d (.s (.s .d (.b (.l [2, 6, 7, 8, 9, 10, 11, 12, 13, 14, 15, 16, 17, 18, 19, 20, 21, 22, 23, 24, 25, 26, 27] [100] ⟨[(2, .c false [.con (.ptr 100 0)]), (6, .c false [.int .i64]), (7, .c false [.int .i64])], [(100, .var 33 [.int .i64, .row Kii_])]⟩ [(.exit 0, ⟨[(2, .c false [.con (.ptr 100 0)]), (6, .c false [.int .i64])], [(100, .var 33 [.int .i64, .row Kii_])]⟩)] .d))) .d))
noncomputable def ref14_all_c (n : Nat) : Ctr Try.prog := .of Try.func94 n [ref13_And_c n] ref14_all_a ref14_all_s (fun d => ref14_all n d.1 d.2.1 d.2.2.1) fun d => by kernel_rfl
noncomputable def ref14_less_l1b (n : Nat) (x3 : List Int) (x4 : List Int) (self : Int × Int × Int × List Kii × Unit → Option ((Int × Int × List Kii × Unit))) (d8 : Int × Int × Int × List Kii × Unit) : Option ((Int × Int × List Kii × Unit)) :=
 cond (decide (d8.2.1 < (x3.length : Int)))
 (ask (0 ≤ d8.2.1 ∧ d8.2.1 < (x3.length : Int)) (ask (0 ≤ d8.2.1 ∧ d8.2.1 < (x4.length : Int)) ((ref13_Xor n d8.2.2.1 d8.2.2.2.1 (Ki_at x3 d8.2.1) (Ki_at x4 d8.2.1)).bind (fun r9 => ask (0 ≤ d8.2.1 ∧ d8.2.1 < (x4.length : Int)) ((ref13_Mux n r9.1 r9.2.1 r9.2.2.1 (Ki_at x4 d8.2.1) d8.1).bind (fun r10 => self (r10.2.2.1, IntKind.wrap .i64 (d8.2.1 + 1), r10.1, r10.2.1, ())))))))
 (some (d8.1, d8.2.2.1, d8.2.2.2.1, ()))
noncomputable def ref14_less_l1 (n : Nat) (x3 : List Int) (x4 : List Int) : Int × Int × Int × List Kii × Unit → Option ((Int × Int × List Kii × Unit)) := iter (ref14_less_l1b n x3 x4) n
noncomputable def ref14_less (n : Nat) (x1 : Int) (x2 : List Kii) (x3 : List Int) (x4 : List Int) (x5 : Int) : Option (Int × List Kii × Int × Unit) :=
 (ref14_less_l1 n x3 x4 (x5, 0, x1, x2, ())).bind (fun d11 => some (d11.2.1, d11.2.2.1, d11.1, ()))
def ref14_less_s : Sig := ⟨[.c true [.int .i64, .row Kii_], .c false [.row i_], .c false [.row i_], .c false [.int .i64]], [], .t [(true, [.int .i64, .row Kii_]), (false, [.int .i64])], []⟩
def ref14_less_a : Ann := .s .d (.s (.s .d (.b (.l [3, 4, 10, 11, 12, 13, 14, 15, 16, 17, 18, 19, 20, 21, 22, 23, 24, 25, 26, 27, 28, 29, 30, 31, 32, 33, 34, 35, 36, 37, 38, 39, 40, 41, 42, 43, 44, 45, 46] [100] ⟨[(3, .c false [.int .i64]), (4, .c false [.con (.ptr 100 0)]), (10, .c false [.int .i64])], [(100, .var 33 [.int .i64, .row Kii_])]⟩ [(.exit 0, ⟨[(3, .c false [.int .i64]), (4, .c false [.con (.ptr 100 0)])], [(100, .var 33 [.int .i64, .row Kii_])]⟩)] .d))) .d)
noncomputable def ref14_less_c (n : Nat) : Ctr Try.prog := .of Try.func95 n [ref13_Xor_c n, ref13_Mux_c n] ref14_less_a ref14_less_s (fun d => ref14_less n d.1 d.2.1 d.2.2.1 d.2.2.2.1 d.2.2.2.2.1) fun d => by kernel_rfl
noncomputable def ref14_asked (n : Nat) (x1 : Int) (x2 : List Kii) (x3 : Int) (x4 : Int) (x5 : Int) (x6 : Int) (x7 : Int) (x8 : Int) (x9 : Int) (x10 : List Int) (x11 : List Int) : Option (Int × List Kii × Int × Unit) :=
 cond (decide (x3 = 5))
 ((ref14_all n x1 x2 x10).bind (fun r12 => some (r12.1, r12.2.1, r12.2.2.1, ())))
 (cond (decide (x3 = 4))
 ((ref14_turned n x10).bind (fun r13 => (ref14_all n x1 x2 r13.1).bind (fun r14 => some (r14.1, r14.2.1, bits .xor .i64 r14.2.2.1 1, ()))))
 (cond (decide (x3 = 14))
 ((ref14_less n x1 x2 x10 x11 0).bind (fun r15 => some (r15.1, r15.2.1, r15.2.2.1, ())))
 (cond (decide (x3 = 15))
 ((ref14_less n x1 x2 x10 x11 1).bind (fun r16 => some (r16.1, r16.2.1, r16.2.2.1, ())))
 ((ref14_each n x1 x2 8 x10 x11).bind (fun r17 => (ref14_turned n r17.2.2.1).bind (fun r18 => (ref14_all n r17.1 r17.2.1 r18.1).bind (fun r19 => cond (decide (x3 = 13))
 (some (r19.1, r19.2.1, bits .xor .i64 r19.2.2.1 1, ()))
 (some (r19.1, r19.2.1, r19.2.2.1, ())))))))))
def ref14_asked_s : Sig := ⟨[.c true [.int .i64, .row Kii_], .c true [.int .i64, .int .i64, .int .i64, .int .i64, .int .i64, .int .i64, .int .i64], .c false [.row i_], .c false [.row i_]], [], .t [(true, [.int .i64, .row Kii_]), (false, [.int .i64])], []⟩
def ref14_asked_a : Ann := .d
noncomputable def ref14_asked_c (n : Nat) : Ctr Try.prog := .of Try.func67 n [ref14_all_c n, ref14_turned_c n, ref14_less_c n, ref14_each_c n] ref14_asked_a ref14_asked_s (fun d => ref14_asked n d.1 d.2.1 d.2.2.1 d.2.2.2.1 d.2.2.2.2.1 d.2.2.2.2.2.1 d.2.2.2.2.2.2.1 d.2.2.2.2.2.2.2.1 d.2.2.2.2.2.2.2.2.1 d.2.2.2.2.2.2.2.2.2.1 d.2.2.2.2.2.2.2.2.2.2.1) fun d => by kernel_rfl
noncomputable def ref14_Do_l1b (n : Nat) (x10 : List Int) (x11 : List Int) (x12 : List Int) (self : Int × Int × List Kii × List Int × Unit → Option ((Int × List Kii × List Int × Unit))) (d24 : Int × Int × List Kii × List Int × Unit) : Option ((Int × List Kii × List Int × Unit)) :=
 cond (decide (d24.1 < (x11.length : Int)))
 (ask (0 ≤ (0 : Int) ∧ 0 < (x10.length : Int)) (ask (0 ≤ d24.1 ∧ d24.1 < (x11.length : Int)) (ask (0 ≤ d24.1 ∧ d24.1 < (x12.length : Int)) ((ref13_Mux n d24.2.1 d24.2.2.1 (Ki_at x10 0) (Ki_at x11 d24.1) (Ki_at x12 d24.1)).bind (fun r25 => ask (True ∧ (d24.2.2.2.1.length + (([r25.2.2.1] : List Int)).length) * 8 ≤ 140737488355328) (self (IntKind.wrap .i64 (d24.1 + 1), r25.1, r25.2.1, d24.2.2.2.1 ++ ([r25.2.2.1] : List Int), ())))))))
 (some (d24.2.1, d24.2.2.1, d24.2.2.2.1, ()))
noncomputable def ref14_Do_l1 (n : Nat) (x10 : List Int) (x11 : List Int) (x12 : List Int) : Int × Int × List Kii × List Int × Unit → Option ((Int × List Kii × List Int × Unit)) := iter (ref14_Do_l1b n x10 x11 x12) n
noncomputable def ref14_Do (n : Nat) (x1 : Int) (x2 : List Kii) (x3 : Int) (x4 : Int) (x5 : Int) (x6 : Int) (x7 : Int) (x8 : Int) (x9 : Int) (x10 : List Int) (x11 : List Int) (x12 : List Int) : Option (Int × List Kii × List Int × Unit) :=
 cond (decide (x3 = 1))
 ((ref14_lit n x8 x4).bind (fun r13 => some (x1, x2, r13.1, ())))
 (cond (decide (x3 = 3))
 ((ref14_turned n x10).bind (fun r14 => some (x1, x2, r14.1, ())))
 (((cond (decide (x3 = 6))
 (some (decide (x3 = 6), ()))
 (cond (decide (x3 = 7))
 (some (decide (x3 = 7), ()))
 (some (decide (x3 = 8), ())))) : Option ((Bool × Unit))).bind (fun d15 => cond d15.1
 ((ref14_each n x1 x2 x3 x10 x11).bind (fun r16 => some (r16.1, r16.2.1, r16.2.2.1, ())))
 (cond (decide (x3 = 9))
 ((ref14_sum n x1 x2 x10 x11 0).bind (fun r17 => some (r17.1, r17.2.1, r17.2.2.1, ())))
 (cond (decide (x3 = 10))
 ((ref14_turned n x11).bind (fun r18 => (ref14_sum n x1 x2 x10 r18.1 1).bind (fun r19 => some (r19.1, r19.2.1, r19.2.2.1, ()))))
 (cond (decide (x3 = 11))
 ((ref14_times n x1 x2 x10 x11).bind (fun r20 => some (r20.1, r20.2.1, r20.2.2.1, ())))
 (cond (decide (x3 = 17))
 (ask (True ∧ ((([] : List Int)).length + x11.length) * 8 ≤ 140737488355328) (ask (True ∧ ((([] : List Int) ++ x11).length + x10.length) * 8 ≤ 140737488355328) (some (x1, x2, (([] : List Int) ++ x11) ++ x10, ()))))
 (cond (decide (x3 = 18))
 (ask (0 ≤ x9 ∧ x9 ≤ IntKind.wrap .i64 (x8 + 1) ∧ IntKind.wrap .i64 (x8 + 1) ≤ (x10.length : Int)) (ask (True ∧ ((([] : List Int)).length + ((x10.take (IntKind.wrap .i64 (x8 + 1)).toNat).drop x9.toNat).length) * 8 ≤ 140737488355328) (some (x1, x2, ([] : List Int) ++ ((x10.take (IntKind.wrap .i64 (x8 + 1)).toNat).drop x9.toNat), ()))))
 (cond (decide (x3 = 16))
 ((ref14_Do_l1 n x10 x11 x12 (0, x1, x2, ([] : List Int), ())).bind (fun d26 => some (d26.1, d26.2.1, d26.2.2.1, ())))
 ((ref14_asked n x1 x2 x3 x4 x5 x6 x7 x8 x9 x10 x11).bind (fun r27 => some (r27.1, r27.2.1, ([r27.2.2.1] : List Int), ()))))))))))))
def ref14_Do_s : Sig := ⟨[.c true [.int .i64, .row Kii_], .c true [.int .i64, .int .i64, .int .i64, .int .i64, .int .i64, .int .i64, .int .i64], .c false [.row i_], .c false [.row i_], .c false [.row i_]], [], .t [(true, [.int .i64, .row Kii_]), (false, [.row i_])], []⟩
def ref14_Do_a : Ann := .s .d (.s (.s .d (.b (.s .d (.s .d (.s .d (.s .d (.j [41, 42, 43, 44] [] [(.normal, ⟨[(41, .c false [.bool])], []⟩)] .d (.s .d (.s .d (.s .d (.s .d (.s .d (.s .d (.s .d (.s .d (.s .d (.s .d (.s .d (.s .d (.s (.s .d (.s (.s .d (.b (.l [5, 20, 21, 22, 23, 112, 113, 114, 115, 116, 117, 118, 119, 120, 121, 122, 123, 124, 125, 126, 127, 128, 129, 130, 131, 132, 133, 134, 135, 136, 137, 138] [100] ⟨[(5, .c false [.con (.ptr 100 0)]), (20, .c false [.con (.own 100000 1)]), (21, .c false [.int .i64])], [(100, .var 33 [.int .i64, .row Kii_]), (100000, .row 3 i_)]⟩ [(.exit 1, ⟨[(5, .c false [.con (.ptr 100 0)]), (20, .c false [.con (.own 100000 1)])], [(100, .var 33 [.int .i64, .row Kii_]), (100000, .row 3 i_)]⟩)] .d))) .d)) .d)))))))))))))))))))) .d)
noncomputable def ref14_Do_c (n : Nat) : Ctr Try.prog := .of Try.func57 n [ref14_lit_c n, ref14_turned_c n, ref14_each_c n, ref14_sum_c n, ref14_times_c n, ref13_Mux_c n, ref14_asked_c n] ref14_Do_a ref14_Do_s (fun d => ref14_Do n d.1 d.2.1 d.2.2.1 d.2.2.2.1 d.2.2.2.2.1 d.2.2.2.2.2.1 d.2.2.2.2.2.2.1 d.2.2.2.2.2.2.2.1 d.2.2.2.2.2.2.2.2.1 d.2.2.2.2.2.2.2.2.2.1 d.2.2.2.2.2.2.2.2.2.2.1 d.2.2.2.2.2.2.2.2.2.2.2.1) fun d => by kernel_rfl
noncomputable def ref15_made_l1b (n : Nat) (x1 : List Kiiiiiii) (self : Int × Int × Int × Int × List Kii × List (List Int) × Unit → Option ((Int × List Kii × List (List Int) × Unit))) (d12 : Int × Int × Int × Int × List Kii × List (List Int) × Unit) : Option ((Int × List Kii × List (List Int) × Unit)) :=
 cond (decide (d12.2.2.1 < (x1.length : Int)))
 (ask (0 ≤ d12.2.2.1 ∧ d12.2.2.1 < (x1.length : Int)) (cond (decide (((Kiiiiiii_at x1 d12.2.2.1).1) = 21))
 ((ref15_bits n d12.1 (((Kiiiiiii_at x1 d12.2.2.1).2).1)).bind (fun r13 => ask (True ∧ (d12.2.2.2.2.2.1.length + (([r13.1] : List (List Int))).length) * 24 ≤ 140737488355328) (self (IntKind.wrap .i64 (d12.1 + (((Kiiiiiii_at x1 d12.2.2.1).2).1)), d12.2.1, IntKind.wrap .i64 (d12.2.2.1 + 1), d12.2.2.2.1, d12.2.2.2.2.1, d12.2.2.2.2.2.1 ++ ([r13.1] : List (List Int)), ()))))
 (cond (decide (((Kiiiiiii_at x1 d12.2.2.1).1) = 22))
 ((ref15_bits n d12.2.1 (((Kiiiiiii_at x1 d12.2.2.1).2).1)).bind (fun r14 => ask (True ∧ (d12.2.2.2.2.2.1.length + (([r14.1] : List (List Int))).length) * 24 ≤ 140737488355328) (self (d12.1, IntKind.wrap .i64 (d12.2.1 + (((Kiiiiiii_at x1 d12.2.2.1).2).1)), IntKind.wrap .i64 (d12.2.2.1 + 1), d12.2.2.2.1, d12.2.2.2.2.1, d12.2.2.2.2.2.1 ++ ([r14.1] : List (List Int)), ()))))
 (cond (decide (((Kiiiiiii_at x1 d12.2.2.1).1) = 1))
 ((ref14_Do n d12.2.2.2.1 d12.2.2.2.2.1 ((Kiiiiiii_at x1 d12.2.2.1).1) (((Kiiiiiii_at x1 d12.2.2.1).2).1) ((((Kiiiiiii_at x1 d12.2.2.1).2).2).1) (((((Kiiiiiii_at x1 d12.2.2.1).2).2).2).1) ((((((Kiiiiiii_at x1 d12.2.2.1).2).2).2).2).1) (((((((Kiiiiiii_at x1 d12.2.2.1).2).2).2).2).2).1) (((((((Kiiiiiii_at x1 d12.2.2.1).2).2).2).2).2).2) ([] : List Int) ([] : List Int) ([] : List Int)).bind (fun r15 => ask (True ∧ (d12.2.2.2.2.2.1.length + (([r15.2.2.1] : List (List Int))).length) * 24 ≤ 140737488355328) (self (d12.1, d12.2.1, IntKind.wrap .i64 (d12.2.2.1 + 1), r15.1, r15.2.1, d12.2.2.2.2.2.1 ++ ([r15.2.2.1] : List (List Int)), ()))))
 (ask (0 ≤ ((((Kiiiiiii_at x1 d12.2.2.1).2).2).1) ∧ (((Kiiiiiii_at x1 d12.2.2.1).2).2).1 < (d12.2.2.2.2.2.1.length : Int)) (ask (0 ≤ (((((Kiiiiiii_at x1 d12.2.2.1).2).2).2).1) ∧ ((((Kiiiiiii_at x1 d12.2.2.1).2).2).2).1 < (d12.2.2.2.2.2.1.length : Int)) (ask (0 ≤ ((((((Kiiiiiii_at x1 d12.2.2.1).2).2).2).2).1) ∧ (((((Kiiiiiii_at x1 d12.2.2.1).2).2).2).2).1 < (d12.2.2.2.2.2.1.length : Int)) ((ref14_Do n d12.2.2.2.1 d12.2.2.2.2.1 ((Kiiiiiii_at x1 d12.2.2.1).1) (((Kiiiiiii_at x1 d12.2.2.1).2).1) ((((Kiiiiiii_at x1 d12.2.2.1).2).2).1) (((((Kiiiiiii_at x1 d12.2.2.1).2).2).2).1) ((((((Kiiiiiii_at x1 d12.2.2.1).2).2).2).2).1) (((((((Kiiiiiii_at x1 d12.2.2.1).2).2).2).2).2).1) (((((((Kiiiiiii_at x1 d12.2.2.1).2).2).2).2).2).2) (KLi_at d12.2.2.2.2.2.1 ((((Kiiiiiii_at x1 d12.2.2.1).2).2).1)) (KLi_at d12.2.2.2.2.2.1 (((((Kiiiiiii_at x1 d12.2.2.1).2).2).2).1)) (KLi_at d12.2.2.2.2.2.1 ((((((Kiiiiiii_at x1 d12.2.2.1).2).2).2).2).1))).bind (fun r16 => ask (True ∧ (d12.2.2.2.2.2.1.length + (([r16.2.2.1] : List (List Int))).length) * 24 ≤ 140737488355328) (self (d12.1, d12.2.1, IntKind.wrap .i64 (d12.2.2.1 + 1), r16.1, r16.2.1, d12.2.2.2.2.2.1 ++ ([r16.2.2.1] : List (List Int)), ())))))))))))
 (some (d12.2.2.2.1, d12.2.2.2.2.1, d12.2.2.2.2.2.1, ()))
noncomputable def ref15_made_l1 (n : Nat) (x1 : List Kiiiiiii) : Int × Int × Int × Int × List Kii × List (List Int) × Unit → Option ((Int × List Kii × List (List Int) × Unit)) := iter (ref15_made_l1b n x1) n
noncomputable def ref15_made (n : Nat) (x1 : List Kiiiiiii) (x2 : List Ksi) (x3 : List Ksiii) (x4 : List Kisi) (x5 : List Ksi) : Option (Int × List Kii × List (List Int) × Unit) :=
 (ref15_wide n x1 x2 x3 x4 x5 21).bind (fun r6 => (ref15_wide n x1 x2 x3 x4 x5 22).bind (fun r7 => (ref13_New n (IntKind.wrap .i64 (r6.1 + r7.1))).bind (fun r8 => (ref15_made_l1 n x1 (1, IntKind.wrap .i64 ((1 : Int) + r6.1), 0, r8.1, ([] : List Kii), ([] : List (List Int)), ())).bind (fun d17 => some (d17.1, d17.2.1, d17.2.2.1, ())))))
def ref15_made_s : Sig := ⟨[.c true [.row Kiiiiiii_, .row Ksi_, .row Ksiii_, .row Kisi_, .row Ksi_]], [], .t [(true, [.int .i64, .row Kii_]), (false, [.row KLi_])], []⟩
def ref15_made_a : Ann := .s .d (.s .d (.s .d (.s .d (.s .d (.s .d (.s (.s .d (.b (.l [5, 6, 7, 8, 9, 10, 11, 12, 13, 14, 24, 25, 26, 27, 28, 29, 30, 31, 32, 33, 34, 35, 36, 37, 38, 39, 40, 41, 42, 43, 44, 45, 46, 47, 48, 49, 50, 51, 52, 53, 54, 55, 56, 57, 58, 59, 60, 61, 62, 63, 64, 65, 66, 67, 68, 69, 70, 71, 72, 73, 74, 75, 76, 77, 78, 79, 80, 81, 82, 83, 84, 85, 86, 87, 88, 89, 90, 91, 92, 93, 94, 95, 96, 97, 98, 99, 100, 101, 102] [485] ⟨[(5, .c false [.con (.ptr 485 0)]), (6, .c false [.con (.own 100000 1)]), (7, .c false [.int .i64]), (8, .c false [.int .i64]), (9, .c false [.int .i64])], [(485, .var 33 [.int .i64, .row Kii_]), (100000, .row 57 KLi_)]⟩ [(.exit 0, ⟨[(5, .c false [.con (.ptr 485 0)]), (6, .c false [.con (.own 100000 1)])], [(485, .var 33 [.int .i64, .row Kii_]), (100000, .row 57 KLi_)]⟩)] .d))) .d))))))
noncomputable def ref15_made_c (n : Nat) : Ctr Try.prog := .of Try.func41 n [ref15_wide_c n, ref13_New_c n, ref15_bits_c n, ref14_Do_c n] ref15_made_a ref15_made_s (fun d => ref15_made n d.1 d.2.1 d.2.2.1 d.2.2.2.1 d.2.2.2.2.1) fun d => by kernel_rfl
noncomputable def ref15_Compile_l1b (n : Nat) (d10 : Int × Int × List Kii × List Kiii × Unit) (x1 : List Kiiiiiii) (x2 : List Ksi) (self : Int × Int × List Kii × List Kiii × Unit → Option ((Int × List Kii × List Kiii × Unit))) (d13 : Int × Int × List Kii × List Kiii × Unit) : Option ((Int × List Kii × List Kiii × Unit)) :=
 ask (0 ≤ d10.1 ∧ d10.1 < (x2.length : Int)) (ask (0 ≤ ((Ksi_at x2 d10.1).2) ∧ (Ksi_at x2 d10.1).2 < (x1.length : Int)) (cond (decide (d13.1 < (((Kiiiiiii_at x1 ((Ksi_at x2 d10.1).2)).2).1)))
 (ask (True ∧ (d13.2.2.2.1.length + (([(IntKind.wrap .i64 ((d13.2.2.2.1.length : Int) + 1), d10.1, d13.1)] : List Kiii)).length) * 24 ≤ 140737488355328) (self (IntKind.wrap .i64 (d13.1 + 1), d13.2.1, d13.2.2.1, d13.2.2.2.1 ++ ([(IntKind.wrap .i64 ((d13.2.2.2.1.length : Int) + 1), d10.1, d13.1)] : List Kiii), ())))
 (some (d13.2.1, d13.2.2.1, d13.2.2.2.1, ()))))
noncomputable def ref15_Compile_l1 (n : Nat) (d10 : Int × Int × List Kii × List Kiii × Unit) (x1 : List Kiiiiiii) (x2 : List Ksi) : Int × Int × List Kii × List Kiii × Unit → Option ((Int × List Kii × List Kiii × Unit)) := iter (ref15_Compile_l1b n d10 x1 x2) n
noncomputable def ref15_Compile_l2b (n : Nat) (x1 : List Kiiiiiii) (x2 : List Ksi) (self : Int × Int × List Kii × List Kiii × Unit → Option ((Int × List Kii × List Kiii × Unit))) (d10 : Int × Int × List Kii × List Kiii × Unit) : Option ((Int × List Kii × List Kiii × Unit)) :=
 cond (decide (d10.1 < (x2.length : Int)))
 ((ref15_Compile_l1 n d10 x1 x2 (0, d10.2.1, d10.2.2.1, d10.2.2.2.1, ())).bind (fun d14 => self (IntKind.wrap .i64 (d10.1 + 1), d14.1, d14.2.1, d14.2.2.1, ())))
 (some (d10.2.1, d10.2.2.1, d10.2.2.2.1, ()))
noncomputable def ref15_Compile_l2 (n : Nat) (x1 : List Kiiiiiii) (x2 : List Ksi) : Int × Int × List Kii × List Kiii × Unit → Option ((Int × List Kii × List Kiii × Unit)) := iter (ref15_Compile_l2b n x1 x2) n
noncomputable def ref15_Compile_l3b (n : Nat) (d15 : Int × List Kii × List Kiii × Unit) (d19 : Int × Int × List Kii × List Kiibii × Unit) (r6 : Int × List Kii × List (List Int) × Unit) (x1 : List Kiiiiiii) (x3 : List Ksiii) (self : Int × Int × List Kii × List Kiibii × Unit → Option ((Int × List Kii × List Kiibii × Unit))) (d22 : Int × Int × List Kii × List Kiibii × Unit) : Option ((Int × List Kii × List Kiibii × Unit)) :=
 ask (0 ≤ (((Ksiii_at x3 d19.1).2).1) ∧ ((Ksiii_at x3 d19.1).2).1 < (x1.length : Int)) (cond (decide (d22.1 < (((Kiiiiiii_at x1 (((Ksiii_at x3 d19.1).2).1)).2).1)))
 (ask (0 ≤ ((((Ksiii_at x3 d19.1).2).2).1) ∧ (((Ksiii_at x3 d19.1).2).2).1 < (r6.2.2.1.length : Int)) (ask (0 ≤ d22.1 ∧ d22.1 < ((KLi_at r6.2.2.1 ((((Ksiii_at x3 d19.1).2).2).1)).length : Int)) (ask (0 ≤ d22.1) (ask (True ∧ (d22.2.2.2.1.length + (([(IntKind.wrap .i64 ((IntKind.wrap .i64 ((d15.2.2.1.length : Int) + (d22.2.2.2.1.length : Int))) + 1), Ki_at (KLi_at r6.2.2.1 ((((Ksiii_at x3 d19.1).2).2).1)) d22.1, decide ((bits .and .i64 (shrI .i64 ((((Ksiii_at x3 d19.1).2).2).2) d22.1) 1) = 1), d19.1, d22.1)] : List Kiibii)).length) * 40 ≤ 140737488355328) (self (IntKind.wrap .i64 (d22.1 + 1), d22.2.1, d22.2.2.1, d22.2.2.2.1 ++ ([(IntKind.wrap .i64 ((IntKind.wrap .i64 ((d15.2.2.1.length : Int) + (d22.2.2.2.1.length : Int))) + 1), Ki_at (KLi_at r6.2.2.1 ((((Ksiii_at x3 d19.1).2).2).1)) d22.1, decide ((bits .and .i64 (shrI .i64 ((((Ksiii_at x3 d19.1).2).2).2) d22.1) 1) = 1), d19.1, d22.1)] : List Kiibii), ()))))))
 (some (d22.2.1, d22.2.2.1, d22.2.2.2.1, ())))
noncomputable def ref15_Compile_l3 (n : Nat) (d15 : Int × List Kii × List Kiii × Unit) (d19 : Int × Int × List Kii × List Kiibii × Unit) (r6 : Int × List Kii × List (List Int) × Unit) (x1 : List Kiiiiiii) (x3 : List Ksiii) : Int × Int × List Kii × List Kiibii × Unit → Option ((Int × List Kii × List Kiibii × Unit)) := iter (ref15_Compile_l3b n d15 d19 r6 x1 x3) n
noncomputable def ref15_Compile_l4b (n : Nat) (d15 : Int × List Kii × List Kiii × Unit) (r6 : Int × List Kii × List (List Int) × Unit) (x1 : List Kiiiiiii) (x3 : List Ksiii) (self : Int × Int × List Kii × List Kiibii × Unit → Option ((Int × List Kii × List Kiibii × Unit))) (d19 : Int × Int × List Kii × List Kiibii × Unit) : Option ((Int × List Kii × List Kiibii × Unit)) :=
 cond (decide (d19.1 < (x3.length : Int)))
 (ask (0 ≤ d19.1 ∧ d19.1 < (x3.length : Int)) ((ref15_Compile_l3 n d15 d19 r6 x1 x3 (0, d19.2.1, d19.2.2.1, d19.2.2.2.1, ())).bind (fun d23 => self (IntKind.wrap .i64 (d19.1 + 1), d23.1, d23.2.1, d23.2.2.1, ()))))
 (some (d19.2.1, d19.2.2.1, d19.2.2.2.1, ()))
noncomputable def ref15_Compile_l4 (n : Nat) (d15 : Int × List Kii × List Kiii × Unit) (r6 : Int × List Kii × List (List Int) × Unit) (x1 : List Kiiiiiii) (x3 : List Ksiii) : Int × Int × List Kii × List Kiibii × Unit → Option ((Int × List Kii × List Kiibii × Unit)) := iter (ref15_Compile_l4b n d15 r6 x1 x3) n
noncomputable def ref15_Compile_l5b (n : Nat) (r6 : Int × List Kii × List (List Int) × Unit) (x4 : List Kisi) (self : Int × Int × List Kii × List Kiii × Unit → Option ((Int × List Kii × List Kiii × Unit))) (d28 : Int × Int × List Kii × List Kiii × Unit) : Option ((Int × List Kii × List Kiii × Unit)) :=
 cond (decide (d28.1 < (x4.length : Int)))
 (ask (0 ≤ d28.1 ∧ d28.1 < (x4.length : Int)) (ask (0 ≤ d28.1 ∧ d28.1 < (x4.length : Int)) (ask (0 ≤ (((Kisi_at x4 d28.1).2).2) ∧ ((Kisi_at x4 d28.1).2).2 < (r6.2.2.1.length : Int)) (ask (0 ≤ (0 : Int) ∧ 0 < ((KLi_at r6.2.2.1 (((Kisi_at x4 d28.1).2).2)).length : Int)) (ask (True ∧ (d28.2.2.2.1.length + (([((Kisi_at x4 d28.1).1, Ki_at (KLi_at r6.2.2.1 (((Kisi_at x4 d28.1).2).2)) 0, d28.1)] : List Kiii)).length) * 24 ≤ 140737488355328) (self (IntKind.wrap .i64 (d28.1 + 1), d28.2.1, d28.2.2.1, d28.2.2.2.1 ++ ([((Kisi_at x4 d28.1).1, Ki_at (KLi_at r6.2.2.1 (((Kisi_at x4 d28.1).2).2)) 0, d28.1)] : List Kiii), ())))))))
 (some (d28.2.1, d28.2.2.1, d28.2.2.2.1, ()))
noncomputable def ref15_Compile_l5 (n : Nat) (r6 : Int × List Kii × List (List Int) × Unit) (x4 : List Kisi) : Int × Int × List Kii × List Kiii × Unit → Option ((Int × List Kii × List Kiii × Unit)) := iter (ref15_Compile_l5b n r6 x4) n
noncomputable def ref15_Compile (n : Nat) (x1 : List Kiiiiiii) (x2 : List Ksi) (x3 : List Ksiii) (x4 : List Kisi) (x5 : List Ksi) : Option (Int × List Kii × List Kiii × List Kiibii × List Kiii × Unit) :=
 (ref15_made n x1 x2 x3 x4 x5).bind (fun r6 => (ref15_Compile_l2 n x1 x2 (0, r6.1, r6.2.1, ([] : List Kiii), ())).bind (fun d15 => (ref15_Compile_l4 n d15 r6 x1 x3 (0, d15.1, d15.2.1, ([] : List Kiibii), ())).bind (fun d24 => (ref15_Compile_l5 n r6 x4 (0, d24.1, d24.2.1, ([] : List Kiii), ())).bind (fun d29 => some (d29.1, d29.2.1, d15.2.2.1, d24.2.2.1, d29.2.2.1, ())))))
def ref15_Compile_s : Sig := ⟨[.c true [.row Kiiiiiii_, .row Ksi_, .row Ksiii_, .row Kisi_, .row Ksi_]], [], .c true [.int .i64, .row Kii_, .row Kiii_, .row Kiibii_, .row Kiii_], []⟩
def ref15_Compile_a : Ann := .s .d (.s .d (.s .d (.s (.s .d (.b (.l [5, 6, 7, 19, 20, 21, 22, 23, 24, 25, 26, 27, 28, 29, 30, 31, 32, 33, 34, 35, 36, 37, 38, 39, 40, 41, 42, 43, 44, 45, 46, 47, 48, 49, 50, 51, 52] [614] ⟨[(5, .c false [.con (.ptr 614 0)]), (6, .c false [.int .i64])], [(614, .var 38 [.int .i64, .row Kii_, .con (.own 100000 3), .con .nilsl, .con .nilsl]), (100000, .row 46 Kiii_)]⟩ [(.exit 0, ⟨[(5, .c false [.con (.ptr 614 0)])], [(614, .var 38 [.int .i64, .row Kii_, .con (.own 100000 3), .con .nilsl, .con .nilsl]), (100000, .row 46 Kiii_)]⟩)] (.s .d (.s (.b (.s .d (.b (.l [5, 7, 26, 27, 28, 29, 30, 31, 32, 33, 34, 35, 36, 37, 38, 39, 40, 41, 42, 43, 44, 45, 46, 47, 48, 49, 50, 51, 52] [614, 100000] ⟨[(5, .c false [.con (.ptr 614 0)]), (7, .c false [.int .i64])], [(614, .var 38 [.int .i64, .row Kii_, .con (.own 100000 3), .con .nilsl, .con .nilsl]), (100000, .row 46 Kiii_)]⟩ [(.exit 2, ⟨[(5, .c false [.con (.ptr 614 0)])], [(614, .var 38 [.int .i64, .row Kii_, .con (.own 100000 3), .con .nilsl, .con .nilsl]), (100000, .row 46 Kiii_)]⟩)] .d)))) .d))))) (.s (.s .d (.b (.l [5, 8, 9, 10, 53, 54, 55, 56, 57, 58, 59, 60, 61, 62, 63, 64, 65, 66, 67, 68, 69, 70, 71, 72, 73, 74, 75, 76, 77, 78, 79, 80, 81, 82, 83, 84, 85, 86, 87, 88, 89, 90, 91, 92, 93, 94, 95, 96, 97, 98, 99, 100, 101, 102, 103, 104, 105] [614] ⟨[(5, .c false [.con (.ptr 614 0)]), (8, .c false [.int .i64])], [(614, .var 38 [.int .i64, .row Kii_, .con (.own 100000 3), .con (.own 200000 5), .con .nilsl]), (200000, .row 50 Kiibii_)]⟩ [(.exit 4, ⟨[(5, .c false [.con (.ptr 614 0)])], [(614, .var 38 [.int .i64, .row Kii_, .con (.own 100000 3), .con (.own 200000 5), .con .nilsl]), (200000, .row 50 Kiibii_)]⟩)] (.s .d (.s (.b (.s .d (.s .d (.b (.l [5, 10, 65, 66, 67, 68, 69, 70, 71, 72, 73, 74, 75, 76, 77, 78, 79, 80, 81, 82, 83, 84, 85, 86, 87, 88, 89, 90, 91, 92, 93, 94, 95, 96, 97, 98, 99, 100, 101, 102, 103, 104, 105] [614, 200000] ⟨[(5, .c false [.con (.ptr 614 0)]), (10, .c false [.int .i64])], [(614, .var 38 [.int .i64, .row Kii_, .con (.own 100000 3), .con (.own 200000 5), .con .nilsl]), (200000, .row 50 Kiibii_)]⟩ [(.exit 6, ⟨[(5, .c false [.con (.ptr 614 0)])], [(614, .var 38 [.int .i64, .row Kii_, .con (.own 100000 3), .con (.own 200000 5), .con .nilsl]), (200000, .row 50 Kiibii_)]⟩)] .d))))) .d))))) (.s (.s .d (.b (.l [5, 11, 106, 107, 108, 109, 110, 111, 112, 113, 114, 115, 116, 117, 118, 119, 120, 121, 122, 123, 124, 125, 126, 127, 128, 129, 130, 131, 132, 133, 134, 135, 136] [614] ⟨[(5, .c false [.con (.ptr 614 0)]), (11, .c false [.int .i64])], [(614, .var 38 [.int .i64, .row Kii_, .con (.own 100000 3), .con (.own 200000 5), .con (.own 300000 3)]), (300000, .row 52 Kiii_)]⟩ [(.exit 8, ⟨[(5, .c false [.con (.ptr 614 0)])], [(614, .var 38 [.int .i64, .row Kii_, .con (.own 100000 3), .con (.own 200000 5), .con (.own 300000 3)]), (300000, .row 52 Kiii_)]⟩)] .d))) .d)))))
noncomputable def ref15_Compile_c (n : Nat) : Ctr Try.prog := .of Try.func20 n [ref15_made_c n] ref15_Compile_a ref15_Compile_s (fun d => ref15_Compile n d.1 d.2.1 d.2.2.1 d.2.2.2.1 d.2.2.2.2.1) fun d => by kernel_rfl
noncomputable def law15_CircOdd_j1 (n : Nat) (r12 : Int × List Kii × List Kiii × List Kiibii × List Kiii × Unit) : Option ((Bool × Unit)) :=
 cond (decide ((r12.2.2.2.1.length : Int) = 0))
 (some (true, ()))
 (cond (decide ((r12.2.2.1.length : Int) = 0))
 (some (true, ()))
 (some (decide ((r12.2.2.2.2.1.length : Int) = 0), ())))
noncomputable def law15_CircOdd_j2 (n : Nat) (r12 : Int × List Kii × List Kiii × List Kiibii × List Kiii × Unit) (x6 : Int) (x7 : Int) : Option ((Int × List Kii × List Kiibii × List Kiii × List Kiii × Unit)) :=
 ask ((6 : Int) ≠ 0) (cond (decide ((Int.tmod x7 6) = 0))
 (ask (0 ≤ (Int.tmod (IntKind.wrap .i64 x6) (r12.2.2.2.1.length : Int)) ∧ Int.tmod (IntKind.wrap .i64 x6) (r12.2.2.2.1.length : Int) < ((([] : List Kiibii) ++ r12.2.2.2.1).length : Int)) (ask (0 ≤ (Int.tmod (IntKind.wrap .i64 x6) (r12.2.2.2.1.length : Int)) ∧ Int.tmod (IntKind.wrap .i64 x6) (r12.2.2.2.1.length : Int) < ((([] : List Kiibii) ++ r12.2.2.2.1).length : Int)) (some (r12.1, r12.2.1, (([] : List Kiibii) ++ r12.2.2.2.1).set (Int.tmod (IntKind.wrap .i64 x6) (r12.2.2.2.1.length : Int)).toNat (IntKind.wrap .i64 (((Kiibii_at (([] : List Kiibii) ++ r12.2.2.2.1) (Int.tmod (IntKind.wrap .i64 x6) (r12.2.2.2.1.length : Int))).1) + 1), ((Kiibii_at (([] : List Kiibii) ++ r12.2.2.2.1) (Int.tmod (IntKind.wrap .i64 x6) (r12.2.2.2.1.length : Int))).2).1, (((Kiibii_at (([] : List Kiibii) ++ r12.2.2.2.1) (Int.tmod (IntKind.wrap .i64 x6) (r12.2.2.2.1.length : Int))).2).2).1, ((((Kiibii_at (([] : List Kiibii) ++ r12.2.2.2.1) (Int.tmod (IntKind.wrap .i64 x6) (r12.2.2.2.1.length : Int))).2).2).2).1, ((((Kiibii_at (([] : List Kiibii) ++ r12.2.2.2.1) (Int.tmod (IntKind.wrap .i64 x6) (r12.2.2.2.1.length : Int))).2).2).2).2), ([] : List Kiii) ++ r12.2.2.1, ([] : List Kiii) ++ r12.2.2.2.2.1, ()))))
 (cond (decide ((Int.tmod x7 6) = 1))
 (ask (0 ≤ (Int.tmod (IntKind.wrap .i64 x6) (r12.2.2.2.1.length : Int)) ∧ Int.tmod (IntKind.wrap .i64 x6) (r12.2.2.2.1.length : Int) < ((([] : List Kiibii) ++ r12.2.2.2.1).length : Int)) (some (r12.1, r12.2.1, (([] : List Kiibii) ++ r12.2.2.2.1).set (Int.tmod (IntKind.wrap .i64 x6) (r12.2.2.2.1.length : Int)).toNat ((Kiibii_at (([] : List Kiibii) ++ r12.2.2.2.1) (Int.tmod (IntKind.wrap .i64 x6) (r12.2.2.2.1.length : Int))).1, IntKind.wrap .i64 ((2 : Int) * (IntKind.wrap .i64 ((IntKind.wrap .i64 (r12.1 + (r12.2.1.length : Int))) + 1))), (((Kiibii_at (([] : List Kiibii) ++ r12.2.2.2.1) (Int.tmod (IntKind.wrap .i64 x6) (r12.2.2.2.1.length : Int))).2).2).1, ((((Kiibii_at (([] : List Kiibii) ++ r12.2.2.2.1) (Int.tmod (IntKind.wrap .i64 x6) (r12.2.2.2.1.length : Int))).2).2).2).1, ((((Kiibii_at (([] : List Kiibii) ++ r12.2.2.2.1) (Int.tmod (IntKind.wrap .i64 x6) (r12.2.2.2.1.length : Int))).2).2).2).2), ([] : List Kiii) ++ r12.2.2.1, ([] : List Kiii) ++ r12.2.2.2.2.1, ())))
 (cond (decide ((Int.tmod x7 6) = 2))
 (ask (0 ≤ (1 : Int) ∧ 1 ≤ ((([] : List Kiibii) ++ r12.2.2.2.1).length : Int)) (some (r12.1, r12.2.1, ((([] : List Kiibii) ++ r12.2.2.2.1).drop ((1 : Int).toNat)).take ((([] : List Kiibii) ++ r12.2.2.2.1).length - (1 : Int).toNat), ([] : List Kiii) ++ r12.2.2.1, ([] : List Kiii) ++ r12.2.2.2.2.1, ())))
 (cond (decide ((Int.tmod x7 6) = 3))
 (ask (0 ≤ (0 : Int) ∧ 0 < ((([] : List Kiii) ++ r12.2.2.1).length : Int)) (ask (0 < 3) (some (r12.1, r12.2.1, ([] : List Kiibii) ++ r12.2.2.2.1, (([] : List Kiii) ++ r12.2.2.1).set (0 : Int).toNat (0, ((Kiii_at (([] : List Kiii) ++ r12.2.2.1) 0).2).1, ((Kiii_at (([] : List Kiii) ++ r12.2.2.1) 0).2).2), ([] : List Kiii) ++ r12.2.2.2.2.1, ()))))
 (cond (decide ((Int.tmod x7 6) = 4))
 (ask (0 ≤ (0 : Int) ∧ 0 < ((([] : List Kiii) ++ r12.2.2.2.2.1).length : Int)) (some (r12.1, r12.2.1, ([] : List Kiibii) ++ r12.2.2.2.1, ([] : List Kiii) ++ r12.2.2.1, (([] : List Kiii) ++ r12.2.2.2.2.1).set (0 : Int).toNat ((Kiii_at (([] : List Kiii) ++ r12.2.2.2.2.1) 0).1, (-1), ((Kiii_at (([] : List Kiii) ++ r12.2.2.2.2.1) 0).2).2), ())))
 (cond (decide ((Int.tmod x7 6) = 5))
 (ask (0 ≤ (0 : Int) ∧ 0 < ((([] : List Kiii) ++ r12.2.2.2.2.1).length : Int)) (some (r12.1, r12.2.1, ([] : List Kiibii) ++ r12.2.2.2.1, ([] : List Kiii) ++ r12.2.2.1, (([] : List Kiii) ++ r12.2.2.2.2.1).set (0 : Int).toNat (7, ((Kiii_at (([] : List Kiii) ++ r12.2.2.2.2.1) 0).2).1, ((Kiii_at (([] : List Kiii) ++ r12.2.2.2.2.1) 0).2).2), ())))
 (some (r12.1, r12.2.1, ([] : List Kiibii) ++ r12.2.2.2.1, ([] : List Kiii) ++ r12.2.2.1, ([] : List Kiii) ++ r12.2.2.2.2.1, ()))))))))
noncomputable def law15_CircOdd (n : Nat) (x1 : List Kiiiiiii) (x2 : List Ksi) (x3 : List Ksiii) (x4 : List Kisi) (x5 : List Ksi) (x6 : Int) (x7 : Int) : Option (Bool × Unit) :=
 (law15_head n).bind (fun r8 => (law09_Great n x1 x2 x3 x4 x5).bind (fun r9 => cond r9.1
 (some (r8.1, ()))
 ((ref09_Right n x1 x2 x3 x4 x5).bind (fun r10 => cond (!r10.1)
 (some (r8.1, ()))
 ((ref15_Weight n x1 x2 x3 x4 x5).bind (fun r11 => cond (decide ((6000 : Int) < r11.1))
 (some (r8.1, ()))
 ((ref15_Compile n x1 x2 x3 x4 x5).bind (fun r12 => ask (True ∧ ((([] : List Kiibii)).length + r12.2.2.2.1.length) * 40 ≤ 140737488355328) (ask (True ∧ ((([] : List Kiii)).length + r12.2.2.1.length) * 24 ≤ 140737488355328) (ask (True ∧ ((([] : List Kiii)).length + r12.2.2.2.2.1.length) * 24 ≤ 140737488355328) ((law15_CircOdd_j1 n r12).bind (fun d13 => cond d13.1
 (cond r8.1
 ((circ_Right n r12.1 r12.2.1 r12.2.2.1 r12.2.2.2.1 r12.2.2.2.2.1).bind (fun r14 => some (r14.1, ())))
 (some (false, ())))
 (ask ((r12.2.2.2.1.length : Int) ≠ 0) ((law15_CircOdd_j2 n r12 x6 x7).bind (fun d15 => cond r8.1
 ((circ_Right n r12.1 r12.2.1 r12.2.2.1 r12.2.2.2.1 r12.2.2.2.2.1).bind (fun r16 => cond r16.1
 ((circ_Right n d15.1 d15.2.1 d15.2.2.2.1 d15.2.2.1 d15.2.2.2.2.1).bind (fun r17 => some (!r17.1, ())))
 (some (false, ()))))
 (some (false, ())))))))))))))))))
def law15_CircOdd_s : Sig := ⟨[.c true [.row Kiiiiiii_, .row Ksi_, .row Ksiii_, .row Kisi_, .row Ksi_], .c false [.int .u8], .c false [.int .u8]], [], .c false [.bool], []⟩
def law15_CircOdd_a : Ann := .s .d (.s .d (.s .d (.s .d (.s .d (.s .d (.s .d (.s .d (.s (.j [43, 44, 45, 46, 47, 48, 49, 50, 51, 52, 53, 54, 55, 56, 57, 58] [] [(.normal, ⟨[(58, .c false [.bool])], []⟩)] .d .d) (.s .d (.j [9, 31, 32, 36, 37, 41, 42, 70, 71, 72, 73, 74, 75, 76, 77, 78, 79, 80, 81, 82, 83, 84, 85, 86, 87, 88, 89, 90, 91, 92, 93, 94, 95, 96, 97, 98, 99, 100, 101, 102, 103, 104, 105, 106, 107, 108, 109, 110, 111, 112, 113, 114, 115, 116, 117, 118, 119, 120, 121, 122, 123] [294, 487, 680, 873] [(.normal, ⟨[(9, .c false [.con (.ptr 294 0)])], [(294, .var 38 [.int .i64, .row Kii_, .con (.own 680 3), .row Kiibii_, .con (.own 873 3)]), (680, .row 46 Kiii_), (873, .row 52 Kiii_)]⟩)] .d .d))))))))))
noncomputable def law15_CircOdd_c (n : Nat) : Ctr Try.prog := .of Try.func5 n [law15_head_c n, law09_Great_c n, ref09_Right_c n, ref15_Weight_c n, ref15_Compile_c n, circ_Right_c n] law15_CircOdd_a law15_CircOdd_s (fun d => law15_CircOdd n d.1 d.2.1 d.2.2.1 d.2.2.2.1 d.2.2.2.2.1 d.2.2.2.2.2.1 d.2.2.2.2.2.2.1) fun d => by kernel_rfl
noncomputable def ref15_State_l1b (n : Nat) (x4 : List Kiibii) (x6 : List Int) (self : Int × List Bool × Unit → Option ((List Bool × Unit))) (d8 : Int × List Bool × Unit) : Option ((List Bool × Unit)) :=
 cond (decide (d8.1 < (x4.length : Int)))
 (ask (0 ≤ d8.1 ∧ d8.1 < (x4.length : Int)) (cond (decide ((((((Kiibii_at x4 d8.1).2).2).2).1) < (x6.length : Int)))
 (cond (decide ((((((Kiibii_at x4 d8.1).2).2).2).2) < 16))
 (ask (0 ≤ (((((Kiibii_at x4 d8.1).2).2).2).1) ∧ ((((Kiibii_at x4 d8.1).2).2).2).1 < (x6.length : Int)) (ask (0 ≤ (((((Kiibii_at x4 d8.1).2).2).2).2)) (ask (True ∧ (d8.2.1.length + (([decide ((bits .and .i64 (shrI .i64 (Ki_at x6 (((((Kiibii_at x4 d8.1).2).2).2).1)) (((((Kiibii_at x4 d8.1).2).2).2).2)) 1) = 1)] : List Bool)).length) * 1 ≤ 140737488355328) (self (IntKind.wrap .i64 (d8.1 + 1), d8.2.1 ++ ([decide ((bits .and .i64 (shrI .i64 (Ki_at x6 (((((Kiibii_at x4 d8.1).2).2).2).1)) (((((Kiibii_at x4 d8.1).2).2).2).2)) 1) = 1)] : List Bool), ())))))
 (ask (True ∧ (d8.2.1.length + (([false] : List Bool)).length) * 1 ≤ 140737488355328) (self (IntKind.wrap .i64 (d8.1 + 1), d8.2.1 ++ ([false] : List Bool), ()))))
 (ask (True ∧ (d8.2.1.length + (([false] : List Bool)).length) * 1 ≤ 140737488355328) (self (IntKind.wrap .i64 (d8.1 + 1), d8.2.1 ++ ([false] : List Bool), ())))))
 (some (d8.2.1, ()))
noncomputable def ref15_State_l1 (n : Nat) (x4 : List Kiibii) (x6 : List Int) : Int × List Bool × Unit → Option ((List Bool × Unit)) := iter (ref15_State_l1b n x4 x6) n
noncomputable def ref15_State (n : Nat) (x1 : Int) (x2 : List Kii) (x3 : List Kiii) (x4 : List Kiibii) (x5 : List Kiii) (x6 : List Int) : Option (List Bool × Unit) :=
 (ref15_State_l1 n x4 x6 (0, ([] : List Bool), ())).bind (fun d9 => some (d9.1, ()))
def ref15_State_s : Sig := ⟨[.c true [.int .i64, .row Kii_, .row Kiii_, .row Kiibii_, .row Kiii_], .c false [.row i_]], [], .c false [.row b_], []⟩
def ref15_State_a : Ann := .s .d (.s .d (.s (.s .d (.b (.l [5, 6, 7, 8, 9, 10, 11, 12, 13, 14, 15, 16, 17, 18, 19, 20, 21, 22, 23, 24, 25, 26, 27, 28, 29, 30, 31, 32, 33, 34, 35, 36, 37, 38, 39, 40, 41, 42, 43, 44] [] ⟨[(5, .c false [.con (.own 100000 1)]), (6, .c false [.int .i64])], [(100000, .row 4 b_)]⟩ [(.exit 0, ⟨[(5, .c false [.con (.own 100000 1)])], [(100000, .row 4 b_)]⟩)] .d))) .d))
noncomputable def ref15_State_c (n : Nat) : Ctr Try.prog := .of Try.func23 n [] ref15_State_a ref15_State_s (fun d => ref15_State n d.1 d.2.1 d.2.2.1 d.2.2.2.1 d.2.2.2.2.1 d.2.2.2.2.2.1) fun d => by kernel_rfl
noncomputable def law15_CircFirst (n : Nat) (x1 : List Kiiiiiii) (x2 : List Ksi) (x3 : List Ksiii) (x4 : List Kisi) (x5 : List Ksi) : Option (Bool × Unit) :=
 (law15_head n).bind (fun r6 => (law09_Great n x1 x2 x3 x4 x5).bind (fun r7 => cond r7.1
 (some (r6.1, ()))
 ((ref09_Right n x1 x2 x3 x4 x5).bind (fun r8 => cond (!r8.1)
 (some (r6.1, ()))
 ((ref15_Weight n x1 x2 x3 x4 x5).bind (fun r9 => cond (decide ((6000 : Int) < r9.1))
 (some (r6.1, ()))
 ((circ_Compile n x1 x2 x3 x4 x5).bind (fun r10 => (net_First n x1 x2 x3 x4 x5).bind (fun r11 => cond r6.1
 ((law15_Fits n x1 x2 x3 x4 x5 r10.1 r10.2.1 r10.2.2.1 r10.2.2.2.1 r10.2.2.2.2.1).bind (fun r12 => cond r12.1
 (cond (decide ((r11.1.length : Int) = (x3.length : Int)))
 ((circ_First n r10.1 r10.2.1 r10.2.2.1 r10.2.2.2.1 r10.2.2.2.2.1).bind (fun r13 => (ref15_State n r10.1 r10.2.1 r10.2.2.1 r10.2.2.2.1 r10.2.2.2.2.1 r11.1).bind (fun r14 => (ref08_Same n r13.1 r14.1).bind (fun r15 => some (r15.1, ())))))
 (some (false, ())))
 (some (false, ()))))
 (some (false, ())))))))))))
def law15_CircFirst_s : Sig := ⟨[.c true [.row Kiiiiiii_, .row Ksi_, .row Ksiii_, .row Kisi_, .row Ksi_]], [], .c false [.bool], []⟩
def law15_CircFirst_a : Ann := .d
noncomputable def law15_CircFirst_c (n : Nat) : Ctr Try.prog := .of Try.func6 n [law15_head_c n, law09_Great_c n, ref09_Right_c n, ref15_Weight_c n, circ_Compile_c n, net_First_c n, law15_Fits_c n, circ_First_c n, ref15_State_c n, ref08_Same_c n] law15_CircFirst_a law15_CircFirst_s (fun d => law15_CircFirst n d.1 d.2.1 d.2.2.1 d.2.2.2.1 d.2.2.2.2.1) fun d => by kernel_rfl
end Go.Proofs.Ytnjoiokbeknopaa.Am
