/- Functions, executed. -/
import Derived.Test.YtfjdhdmbbfeigaaF1
namespace Go.Proofs.Ytfjdhdmbbfeigaa.Am
set_option linter.unusedVariables false
set_option maxRecDepth 100000
noncomputable def law16_ins_l1b (n : Nat) (d12 : Int × List Int × Unit) (x3 : List Kiii) (x8 : List Kiii) (self : Int × Int × Unit → Option ((Int × Unit))) (d14 : Int × Int × Unit) : Option ((Int × Unit)) :=
 cond (decide (d14.2.1 < (x3.length : Int)))
 (ask (0 ≤ d14.2.1 ∧ d14.2.1 < (x3.length : Int)) (ask (1 < 3) (ask (0 ≤ d12.1 ∧ d12.1 < (x8.length : Int)) (ask (1 < 3) (cond (decide ((((Kiii_at x3 d14.2.1).2).1) = (((Kiii_at x8 d12.1).2).1)))
 (ask (0 ≤ d14.2.1 ∧ d14.2.1 < (x3.length : Int)) (ask (2 < 3) (ask (0 ≤ d12.1 ∧ d12.1 < (x8.length : Int)) (ask (2 < 3) (cond (decide ((((Kiii_at x3 d14.2.1).2).2) = (((Kiii_at x8 d12.1).2).2)))
 (self (d14.2.1, IntKind.wrap .i64 (d14.2.1 + 1), ()))
 (self (d14.1, IntKind.wrap .i64 (d14.2.1 + 1), ())))))))
 (self (d14.1, IntKind.wrap .i64 (d14.2.1 + 1), ())))))))
 (some (d14.1, ()))
noncomputable def law16_ins_l1 (n : Nat) (d12 : Int × List Int × Unit) (x3 : List Kiii) (x8 : List Kiii) : Int × Int × Unit → Option ((Int × Unit)) := iter (law16_ins_l1b n d12 x3 x8) n
noncomputable def law16_ins_l2b (n : Nat) (x3 : List Kiii) (x8 : List Kiii) (self : Int × List Int × Unit → Option ((List Int × Unit))) (d12 : Int × List Int × Unit) : Option ((List Int × Unit)) :=
 cond (decide (d12.1 < (x8.length : Int)))
 ((law16_ins_l1 n d12 x3 x8 ((-1), 0, ())).bind (fun d15 => ask (True ∧ (d12.2.1.length + (([d15.1] : List Int)).length) * 8 ≤ 140737488355328) (self (IntKind.wrap .i64 (d12.1 + 1), d12.2.1 ++ ([d15.1] : List Int), ()))))
 (some (d12.2.1, ()))
noncomputable def law16_ins_l2 (n : Nat) (x3 : List Kiii) (x8 : List Kiii) : Int × List Int × Unit → Option ((List Int × Unit)) := iter (law16_ins_l2b n x3 x8) n
noncomputable def law16_ins (n : Nat) (x1 : Int) (x2 : List Kii) (x3 : List Kiii) (x4 : List Kiibii) (x5 : List Kiii) (x6 : Int) (x7 : List Kii) (x8 : List Kiii) (x9 : List Kiibii) (x10 : List Kiii) : Option (List Int × Unit) :=
 (law16_ins_l2 n x3 x8 (0, ([] : List Int), ())).bind (fun d16 => some (d16.1, ()))
def law16_ins_s : Sig := ⟨[.c true [.int .i64, .row Kii_, .row Kiii_, .row Kiibii_, .row Kiii_], .c true [.int .i64, .row Kii_, .row Kiii_, .row Kiibii_, .row Kiii_]], [], .c false [.row i_], []⟩
def law16_ins_a : Ann := .s .d (.s .d (.s (.s .d (.b (.l [5, 6, 7, 8, 9, 10, 11, 12, 13, 14, 15, 16, 17, 18, 19, 20, 21, 22, 23, 24, 25, 26, 27, 28, 29, 30, 31, 32, 33, 34, 35, 36, 37, 38, 39, 40, 41, 42, 43, 44, 45, 46, 47, 48, 49, 50, 51, 52, 53, 54, 55] [] ⟨[(5, .c false [.con (.own 100000 1)]), (6, .c false [.int .i64])], [(100000, .row 3 i_)]⟩ [(.exit 0, ⟨[(5, .c false [.con (.own 100000 1)])], [(100000, .row 3 i_)]⟩)] (.s .d (.s (.b (.s .d (.s (.s .d (.b (.l [7, 8, 16, 17, 18, 19, 20, 21, 22, 23, 24, 25, 26, 27, 28, 29, 30, 31, 32, 33, 34, 35, 36, 37, 38, 39, 40, 41, 42, 43, 44, 45, 46, 47, 48, 49, 50, 51] [] ⟨[(7, .c false [.int .i64]), (8, .c false [.int .i64])], []⟩ [(.exit 2, ⟨[(7, .c false [.int .i64])], []⟩)] .d))) .d))) .d))))) .d))
noncomputable def law16_ins_c (n : Nat) : Ctr Try.prog := .of Try.func29 n [] law16_ins_a law16_ins_s (fun d => law16_ins n d.1 d.2.1 d.2.2.1 d.2.2.2.1 d.2.2.2.2.1 d.2.2.2.2.2.1 d.2.2.2.2.2.2.1 d.2.2.2.2.2.2.2.1 d.2.2.2.2.2.2.2.2.1 d.2.2.2.2.2.2.2.2.2.1) fun d => by kernel_rfl
noncomputable def law16_ConeAlone_j1 (n : Nat) (r11 : Int × List Kii × List Kiii × List Kiibii × List Kiii × Unit) : Option ((Bool × Unit)) :=
 (ref15_Right n r11.1 r11.2.1 r11.2.2.1 r11.2.2.2.1 r11.2.2.2.2.1).bind (fun r12 => cond (!r12.1)
 (some (true, ()))
 (some (decide ((r11.2.2.2.2.1.length : Int) = 0), ())))
noncomputable def law16_ConeAlone_l2b (n : Nat) (r16 : Int × List Kii × List Kiii × List Kiibii × List Kiii × List Int × Unit) (r21 : List Bool × List Bool × Unit) (r25 : List Bool × List Bool × Unit) (self : Int × Unit → Option ((Bool × Unit) ⊕ (Unit))) (d29 : Int × Unit) : Option ((Bool × Unit) ⊕ (Unit)) :=
 cond (decide (d29.1 < (r16.2.2.2.2.1.length : Int)))
 (ask (0 ≤ d29.1 ∧ d29.1 < (r16.2.2.2.2.1.length : Int)) (ask (0 ≤ d29.1 ∧ d29.1 < (r16.2.2.2.2.1.length : Int)) (cond (decide (((Kiii_at r16.2.2.2.2.1 d29.1).1) ≠ 9))
 (some (.inl (false, ())))
 (cond (decide ((((Kiii_at r16.2.2.2.2.1 d29.1).2).2) < 0))
 (some (.inl (false, ())))
 (cond (decide ((r21.2.1.length : Int) ≤ (((Kiii_at r16.2.2.2.2.1 d29.1).2).2)))
 (some (.inl (false, ())))
 (ask (0 ≤ d29.1 ∧ d29.1 < (r25.2.1.length : Int)) (ask (0 ≤ (((Kiii_at r16.2.2.2.2.1 d29.1).2).2) ∧ ((Kiii_at r16.2.2.2.2.1 d29.1).2).2 < (r21.2.1.length : Int)) (cond (Kb_at r25.2.1 d29.1 != Kb_at r21.2.1 (((Kiii_at r16.2.2.2.2.1 d29.1).2).2))
 (some (.inl (false, ())))
 (self (IntKind.wrap .i64 (d29.1 + 1), ()))))))))))
 (some (.inr ()))
noncomputable def law16_ConeAlone_l2 (n : Nat) (r16 : Int × List Kii × List Kiii × List Kiibii × List Kiii × List Int × Unit) (r21 : List Bool × List Bool × Unit) (r25 : List Bool × List Bool × Unit) : Int × Unit → Option ((Bool × Unit) ⊕ (Unit)) := iter (law16_ConeAlone_l2b n r16 r21 r25) n
noncomputable def law16_ConeAlone (n : Nat) (x1 : List Kiiiiiii) (x2 : List Ksi) (x3 : List Ksiii) (x4 : List Kisi) (x5 : List Ksi) (x6 : Int) (x7 : List Bool) (x8 : List Bool) : Option (Bool × Unit) :=
 (law16_head n).bind (fun r9 => (law16_Great n x1 x2 x3 x4 x5).bind (fun r10 => cond r10.1
 (some (r9.1, ()))
 ((circ_Compile n x1 x2 x3 x4 x5).bind (fun r11 => (law16_ConeAlone_j1 n r11).bind (fun d13 => cond d13.1
 (cond r9.1
 ((ref15_Right n r11.1 r11.2.1 r11.2.2.1 r11.2.2.2.1 r11.2.2.2.2.1).bind (fun r14 => some (r14.1, ())))
 (some (false, ())))
 ((law16_place n x6 (r11.2.2.2.2.1.length : Int)).bind (fun r15 => (cone_Cone n r11.1 r11.2.1 r11.2.2.1 r11.2.2.2.1 r11.2.2.2.2.1 r15.1).bind (fun r16 => (circ_Right n r16.1 r16.2.1 r16.2.2.1 r16.2.2.2.1 r16.2.2.2.2.1).bind (fun r17 => cond (!r17.1)
 (some (false, ()))
 ((ref15_Right n r16.1 r16.2.1 r16.2.2.1 r16.2.2.2.1 r16.2.2.2.2.1).bind (fun r18 => cond (!r18.1)
 (some (false, ()))
 (cond (decide ((r16.2.2.2.1.length : Int) ≠ (r16.2.2.2.2.2.1.length : Int)))
 (some (false, ()))
 (cond (decide ((r16.2.2.2.2.1.length : Int) < 1))
 (some (false, ()))
 ((law16_bits n x7 (r11.2.2.2.1.length : Int)).bind (fun r19 => (law16_bits n x8 (r11.2.2.1.length : Int)).bind (fun r20 => (circ_Step n r11.1 r11.2.1 r11.2.2.1 r11.2.2.2.1 r11.2.2.2.2.1 r19.1 r20.1).bind (fun r21 => (law16_pick n r19.1 r16.2.2.2.2.2.1).bind (fun r22 => (law16_ins n r11.1 r11.2.1 r11.2.2.1 r11.2.2.2.1 r11.2.2.2.2.1 r16.1 r16.2.1 r16.2.2.1 r16.2.2.2.1 r16.2.2.2.2.1).bind (fun r23 => (law16_pick n r20.1 r23.1).bind (fun r24 => (circ_Step n r16.1 r16.2.1 r16.2.2.1 r16.2.2.2.1 r16.2.2.2.2.1 r22.1 r24.1).bind (fun r25 => cond (decide ((r21.1.length : Int) ≠ (r11.2.2.2.1.length : Int)))
 (some (false, ()))
 (cond (decide ((r21.2.1.length : Int) ≠ (r11.2.2.2.2.1.length : Int)))
 (some (false, ()))
 (cond (decide ((r25.2.1.length : Int) ≠ (r16.2.2.2.2.1.length : Int)))
 (some (false, ()))
 ((law16_pick n r21.1 r16.2.2.2.2.2.1).bind (fun r26 => (ref08_Same n r25.1 r26.1).bind (fun r27 => cond (!r27.1)
 (some (false, ()))
 (ask (0 ≤ (0 : Int) ∧ 0 < (r25.2.1.length : Int)) (ask (0 ≤ r15.1 ∧ r15.1 < (r21.2.1.length : Int)) (cond (Kb_at r25.2.1 0 != Kb_at r21.2.1 r15.1)
 (some (false, ()))
 ((law16_ConeAlone_l2 n r16 r21 r25 (1, ())).bind (Sum.elim (fun d30 => some (d30.1, ())) (fun d31 => (cone_Cone n r16.1 r16.2.1 r16.2.2.1 r16.2.2.2.1 r16.2.2.2.2.1 0).bind (fun r32 => cond r9.1
 ((ref16_Same n r16.1 r16.2.1 r16.2.2.1 r16.2.2.2.1 r16.2.2.2.2.1 r32.1 r32.2.1 r32.2.2.1 r32.2.2.2.1 r32.2.2.2.2.1).bind (fun r33 => cond r33.1
 (some (decide ((r32.2.2.2.2.2.1.length : Int) = (r16.2.2.2.1.length : Int)), ()))
 (some (false, ()))))
 (some (false, ())))))))))))))))))))))))))))))))))))
def law16_ConeAlone_s : Sig := ⟨[.c true [.row Kiiiiiii_, .row Ksi_, .row Ksiii_, .row Kisi_, .row Ksi_], .c false [.int .u8], .c false [.row b_], .c false [.row b_]], [], .c false [.bool], []⟩
def law16_ConeAlone_a : Ann := .s .d (.s .d (.s .d (.s .d (.s (.j [30, 31, 32, 33, 34, 35, 36, 37, 38] [] [(.normal, ⟨[(38, .c false [.bool])], []⟩)] .d .d) (.s .d (.s .d (.s .d (.s .d (.s .d (.s .d (.s .d (.s .d (.s (.s .d (.b (.l [8, 20, 21, 147, 148, 149, 150, 151, 152, 153, 154, 155, 156, 157, 158, 159, 160, 161, 162, 163, 164, 165, 166, 167, 168, 169, 170, 171, 172, 173, 174, 175, 176, 177, 178, 179, 180, 181, 182, 183, 184, 185, 186, 187] [] ⟨[(20, .c false [.int .i64])], []⟩ [(.ret, ⟨[(8, .c false [.bool])], []⟩), (.exit 0, ⟨[], []⟩)] .d))) .d)))))))))))))
noncomputable def law16_ConeAlone_c (n : Nat) : Ctr Try.prog := .of Try.func7 n [law16_head_c n, law16_Great_c n, circ_Compile_c n, ref15_Right_c n, law16_place_c n, cone_Cone_c n, circ_Right_c n, law16_bits_c n, circ_Step_c n, law16_pick_c n, law16_ins_c n, ref08_Same_c n, ref16_Same_c n] law16_ConeAlone_a law16_ConeAlone_s (fun d => law16_ConeAlone n d.1 d.2.1 d.2.2.1 d.2.2.2.1 d.2.2.2.2.1 d.2.2.2.2.2.1 d.2.2.2.2.2.2.1 d.2.2.2.2.2.2.2.1) fun d => by kernel_rfl
end Go.Proofs.Ytfjdhdmbbfeigaa.Am
