/- Functions, executed. -/
import Derived.Test.YtlnjefcfbncegaaAm2
import Derived.Test.YtlnjefcfbncegaaProg
namespace Go.Proofs.Ytlnjefcfbncegaa.Am
set_option linter.unusedVariables false
set_option maxRecDepth 100000
abbrev i_ : Ty := .int .i64
abbrev i32_ : Ty := .int .i32
abbrev i16_ : Ty := .int .i16
abbrev i8_ : Ty := .int .i8
abbrev u_ : Ty := .int .u64
abbrev u32_ : Ty := .int .u32
abbrev u16_ : Ty := .int .u16
abbrev u8_ : Ty := .int .u8
abbrev b_ : Ty := .bool
abbrev s_ : Ty := .str
abbrev Kww_ : Ty := .pr u16_ u16_
abbrev Kww := Int × Int
abbrev Kwww_ : Ty := .pr u16_ Kww_
abbrev Kwww := Int × Int × Int
abbrev Kcwww_ : Ty := .pr u8_ Kwww_
abbrev Kcwww := Int × Int × Int × Int
abbrev Kii_ : Ty := .pr i_ i_
abbrev Kii := Int × Int
def Kii_at (l : List Kii) (i : Int) : Kii := at_ Kii_ l i
def Kb_at (l : List Bool) (i : Int) : Bool := at_ b_ l i
def Mii_b_put (l : List (Kii × Bool)) (k : Kii) (v : Bool) : List (Kii × Bool) := mput (kt := Kii_) (vt := b_) l k v
def Mii_b_get (l : List (Kii × Bool)) (k : Kii) (z : Bool) : Bool := mget (kt := Kii_) (vt := b_) l k z
def Mii_b_has (l : List (Kii × Bool)) (k : Kii) : Bool := mhas (kt := Kii_) (vt := b_) l k
def Kcwww_at (l : List Kcwww) (i : Int) : Kcwww := at_ Kcwww_ l i
abbrev KLPiiE_ : Ty := .sl Kii_
abbrev KiLPiiE_ : Ty := .pr i_ KLPiiE_
abbrev KiLPiiE := Int × (List Kii)
def KiLPiiE_at (l : List KiLPiiE) (i : Int) : KiLPiiE := at_ KiLPiiE_ l i
noncomputable def aig_New (n : Nat) (x1 : Int) : Option (Int × Unit) :=
 some (x1, ())
def aig_New_s : Sig := ⟨[.c false [.int .i64]], [], .c true [.int .i64, .con .nilsl], []⟩
def aig_New_a : Ann := .d
noncomputable def aig_New_c (n : Nat) : Ctr Try.prog := .of Try.func31 n [] aig_New_a aig_New_s (fun d => aig_New n d.1) fun d => by kernel_rfl
noncomputable def aig_of (n : Nat) (x1 : Int) (x2 : Int) : Option (Int × Int × Unit) :=
 ask (True) (ask (True) (some ((if x2 < x1 then x2 else x1), (if x2 > x1 then x2 else x1), ())))
def aig_of_s : Sig := ⟨[.c false [.int .i64], .c false [.int .i64]], [], .c true [.int .i64, .int .i64], []⟩
def aig_of_a : Ann := .d
noncomputable def aig_of_c (n : Nat) : Ctr Try.prog := .of Try.func33 n [] aig_of_a aig_of_s (fun d => aig_of n d.1 d.2.1) fun d => by kernel_rfl
noncomputable def aig_rules (n : Nat) : Option (Unit) :=
 some ()
def aig_rules_s : Sig := ⟨[], [], .c false [.con (.sub 484 2 0 3)], [(484, .var 67 [.con (.fn 42 []), .con (.fn 40 []), .con (.fn 43 []), .con (.fn 40 []), .con (.fn 44 []), .con (.fn 41 [])])]⟩
def aig_rules_a : Ann := .d
noncomputable def aig_rules_c (n : Nat) : Ctr Try.prog := .of Try.func39 n [] aig_rules_a aig_rules_s (fun d => aig_rules n) fun d => by kernel_rfl
noncomputable def aig_rules_3 (n : Nat) (x1 : Int) (x2 : Int) : Option (Bool × Unit) :=
 ask (0 < 2) (some (decide (x1 = 0), ()))
def aig_rules_3_s : Sig := ⟨[.c true [.int .i64, .int .i64]], [], .c false [.bool], []⟩
def aig_rules_3_a : Ann := .d
noncomputable def aig_rules_3_c (n : Nat) : Ctr Try.prog := .of Try.func42 n [] aig_rules_3_a aig_rules_3_s (fun d => aig_rules_3 n d.1 d.2.1) fun d => by kernel_rfl
noncomputable def aig_rules_1 (n : Nat) (x1 : Int) (x2 : Int) : Option (Int × Unit) :=
 some (0, ())
def aig_rules_1_s : Sig := ⟨[.c true [.int .i64, .int .i64]], [], .c false [.int .i64], []⟩
def aig_rules_1_a : Ann := .d
noncomputable def aig_rules_1_c (n : Nat) : Ctr Try.prog := .of Try.func40 n [] aig_rules_1_a aig_rules_1_s (fun d => aig_rules_1 n d.1 d.2.1) fun d => by kernel_rfl
noncomputable def aig_rules_4 (n : Nat) (x1 : Int) (x2 : Int) : Option (Bool × Unit) :=
 ask (0 < 2) (ask (1 < 2) (some (decide ((bits .xor .i64 x1 1) = x2), ())))
def aig_rules_4_s : Sig := ⟨[.c true [.int .i64, .int .i64]], [], .c false [.bool], []⟩
def aig_rules_4_a : Ann := .d
noncomputable def aig_rules_4_c (n : Nat) : Ctr Try.prog := .of Try.func43 n [] aig_rules_4_a aig_rules_4_s (fun d => aig_rules_4 n d.1 d.2.1) fun d => by kernel_rfl
noncomputable def aig_rules_5 (n : Nat) (x1 : Int) (x2 : Int) : Option (Bool × Unit) :=
 ask (0 < 2) (cond (decide (x1 = 1))
 (some (true, ()))
 (ask (0 < 2) (ask (1 < 2) (some (decide (x1 = x2), ())))))
def aig_rules_5_s : Sig := ⟨[.c true [.int .i64, .int .i64]], [], .c false [.bool], []⟩
def aig_rules_5_a : Ann := .d
noncomputable def aig_rules_5_c (n : Nat) : Ctr Try.prog := .of Try.func44 n [] aig_rules_5_a aig_rules_5_s (fun d => aig_rules_5 n d.1 d.2.1) fun d => by kernel_rfl
noncomputable def aig_rules_2 (n : Nat) (x1 : Int) (x2 : Int) : Option (Int × Unit) :=
 ask (1 < 2) (some (x2, ()))
def aig_rules_2_s : Sig := ⟨[.c true [.int .i64, .int .i64]], [], .c false [.int .i64], []⟩
def aig_rules_2_a : Ann := .d
noncomputable def aig_rules_2_c (n : Nat) : Ctr Try.prog := .of Try.func41 n [] aig_rules_2_a aig_rules_2_s (fun d => aig_rules_2 n d.1 d.2.1) fun d => by kernel_rfl
noncomputable def aig_plain (n : Nat) (x1 : Int) (x2 : Int) : Option (Int × Bool × Unit) :=
 (aig_rules n).bind (fun r3 => ask (0 < 3) ((aig_rules_3 n x1 x2).bind (fun r5 => cond r5.1
 ((aig_rules_1 n x1 x2).bind (fun r6 => some (r6.1, true, ())))
 (ask (1 < 3) ((aig_rules_4 n x1 x2).bind (fun r7 => cond r7.1
 ((aig_rules_1 n x1 x2).bind (fun r8 => some (r8.1, true, ())))
 (ask (2 < 3) ((aig_rules_5 n x1 x2).bind (fun r9 => cond r9.1
 ((aig_rules_2 n x1 x2).bind (fun r10 => some (r10.1, true, ())))
 (some (0, false, ())))))))))))
def aig_plain_s : Sig := ⟨[.c true [.int .i64, .int .i64]], [], .t [(false, [.int .i64]), (false, [.bool])], []⟩
def aig_plain_a : Ann := .s .d (.s (.s .d (.b (.u [.d, .d, .d, .d]))) .d)
noncomputable def aig_plain_c (n : Nat) : Ctr Try.prog := .of Try.func34 n [aig_rules_c n, aig_rules_3_c n, aig_rules_1_c n, aig_rules_4_c n, aig_rules_5_c n, aig_rules_2_c n] aig_plain_a aig_plain_s (fun d => aig_plain n d.1 d.2.1) fun d => by kernel_rfl
noncomputable def slices_Index_2_int_2_int_l1b (n : Nat) (x1 : List Kii) (x2 : Int) (x3 : Int) (self : Int × Unit → Option ((Int × Unit) ⊕ (Unit))) (d5 : Int × Unit) : Option ((Int × Unit) ⊕ (Unit)) :=
 cond (decide (d5.1 < (x1.length : Int)))
 (ask (0 ≤ d5.1 ∧ d5.1 < (x1.length : Int)) (cond ((x2 == (Kii_at x1 d5.1).1) && (x3 == (Kii_at x1 d5.1).2))
 (some (.inl (d5.1, ())))
 (self (IntKind.wrap .i64 (d5.1 + 1), ()))))
 (some (.inr ()))
noncomputable def slices_Index_2_int_2_int_l1 (n : Nat) (x1 : List Kii) (x2 : Int) (x3 : Int) : Int × Unit → Option ((Int × Unit) ⊕ (Unit)) := iter (slices_Index_2_int_2_int_l1b n x1 x2 x3) n
noncomputable def slices_Index_2_int_2_int (n : Nat) (x1 : List Kii) (x2 : Int) (x3 : Int) : Option (Int × Unit) :=
 (slices_Index_2_int_2_int_l1 n x1 x2 x3 (0, ())).bind (Sum.elim (fun d6 => some (d6.1, ())) (fun d7 => some ((-1), ())))
def slices_Index_2_int_2_int_s : Sig := ⟨[.c false [.row Kii_], .c true [.int .i64, .int .i64]], [], .c false [.int .i64], []⟩
def slices_Index_2_int_2_int_a : Ann := .s .d (.s (.s .d (.b (.l [4, 5, 8, 9, 10, 11, 12, 13, 14, 15, 16, 17, 18] [] ⟨[(8, .c false [.int .i64])], []⟩ [(.ret, ⟨[(4, .c false [.int .i64])], []⟩), (.exit 0, ⟨[], []⟩)] .d))) .d)
noncomputable def slices_Index_2_int_2_int_c (n : Nat) : Ctr Try.prog := .of Try.func36 n [] slices_Index_2_int_2_int_a slices_Index_2_int_2_int_s (fun d => slices_Index_2_int_2_int n d.1 d.2.1 d.2.2.1) fun d => by kernel_rfl
noncomputable def slices_Clone_2_int_2_int (n : Nat) (l : List Kii) : Option (List Kii × Unit) :=
 ask (True ∧ ((([] : List Kii)).length + l.length) * 16 ≤ 140737488355328) (some (l, ()))
def slices_Clone_2_int_2_int_s : Sig := cloneS Kii_ (.c false [.row Kii_]) []
noncomputable def slices_Clone_2_int_2_int_c (n : Nat) : Ctr Try.prog := ⟨.fn 37, slices_Clone_2_int_2_int_s, fun d => slices_Clone_2_int_2_int n d.1, fun d r h => Spec.clone (P := Try.prog) (f := 37) (fn := Try.f37) (t := Kii_) (T := 22) (E' := 50) (o := (.c false [.row Kii_])) (ob := []) (c := fun l : List Kii => True ∧ ((([] : List Kii)).length + l.length) * 16 ≤ 140737488355328) (g := fun l : List Kii => (l, ())) (d := d) (r := r) rfl Try.func37 rfl rfl rfl rfl rfl rfl rfl rfl (by kernel_rfl) (by kernel_rfl) (by kernel_rfl) (by kernel_rfl) (fun l => by kernel_rfl) (fun l => by kernel_rfl) (fun l => by kernel_rfl) (fun l => by kernel_rfl) h⟩
noncomputable def slices_Clone_2_int_2_int_o (n : Nat) (l : List Kii) : Option (List Kii × Unit) :=
 ask (True ∧ ((([] : List Kii)).length + l.length) * 16 ≤ 140737488355328) (some (l, ()))
def slices_Clone_2_int_2_int_o_s : Sig := cloneS Kii_ (.c false [.con (.own 228 2)]) [(228, .row 50 Kii_)]
noncomputable def slices_Clone_2_int_2_int_o_c (n : Nat) : Ctr Try.prog := ⟨.fn 37, slices_Clone_2_int_2_int_o_s, fun d => slices_Clone_2_int_2_int_o n d.1, fun d r h => Spec.clone (P := Try.prog) (f := 37) (fn := Try.f37) (t := Kii_) (T := 22) (E' := 50) (o := (.c false [.con (.own 228 2)])) (ob := [(228, .row 50 Kii_)]) (c := fun l : List Kii => True ∧ ((([] : List Kii)).length + l.length) * 16 ≤ 140737488355328) (g := fun l : List Kii => (l, ())) (d := d) (r := r) rfl Try.func37 rfl rfl rfl rfl rfl rfl rfl rfl (by kernel_rfl) (by kernel_rfl) (by kernel_rfl) (by kernel_rfl) (fun l => by kernel_rfl) (fun l => by kernel_rfl) (fun l => by kernel_rfl) (fun l => by kernel_rfl) h⟩
noncomputable def aig_And_j1 (n : Nat) (r5 : Int × Int × Unit) (r7 : Int × Unit) (x1 : Int) (x2 : List Kii) : Option ((Int × Int × List Kii × Unit)) :=
 cond (decide (r7.1 < 0))
 ((slices_Clone_2_int_2_int_o n x2).bind (fun r8 => ask (True ∧ (r8.1.length + (([(r5.1, r5.2.1)] : List Kii)).length) * 16 ≤ 140737488355328) (some ((x2.length : Int), x1, r8.1 ++ ([(r5.1, r5.2.1)] : List Kii), ()))))
 (some (r7.1, x1, x2, ()))
noncomputable def aig_And (n : Nat) (x1 : Int) (x2 : List Kii) (x3 : Int) (x4 : Int) : Option (Int × List Kii × Int × Unit) :=
 (aig_of n x3 x4).bind (fun r5 => (aig_plain n r5.1 r5.2.1).bind (fun r6 => cond r6.2.1
 (some (x1, x2, r6.1, ()))
 ((slices_Index_2_int_2_int n x2 r5.1 r5.2.1).bind (fun r7 => (aig_And_j1 n r5 r7 x1 x2).bind (fun d9 => ask (0 ≤ (1 : Int)) (some (d9.2.1, d9.2.2.1, shlI .i64 (IntKind.wrap .i64 ((IntKind.wrap .i64 (d9.2.1 + 1)) + d9.1)) 1, ())))))))
def aig_And_s : Sig := ⟨[.c true [.int .i64, .row Kii_], .c false [.int .i64], .c false [.int .i64]], [], .t [(true, [.int .i64, .row Kii_]), (false, [.int .i64])], []⟩
def aig_And_a : Ann := .s .d (.s .d (.s .d (.s .d (.j [3, 11, 23, 27, 28, 29, 30, 31, 32, 33, 34, 35, 36, 37, 38] [100] [(.normal, ⟨[(3, .c false [.con (.ptr 100 0)]), (11, .c false [.int .i64])], [(100, .var 24 [.int .i64, .row Kii_])]⟩)] .d .d))))
noncomputable def aig_And_c (n : Nat) : Ctr Try.prog := .of Try.func16 n [aig_of_c n, aig_plain_c n, slices_Index_2_int_2_int_c n, slices_Clone_2_int_2_int_o_c n] aig_And_a aig_And_s (fun d => aig_And n d.1 d.2.1 d.2.2.1 d.2.2.2.1) fun d => by kernel_rfl
noncomputable def aig_Or (n : Nat) (x1 : Int) (x2 : List Kii) (x3 : Int) (x4 : Int) : Option (Int × List Kii × Int × Unit) :=
 (aig_And n x1 x2 (bits .xor .i64 x3 1) (bits .xor .i64 x4 1)).bind (fun r5 => some (r5.1, r5.2.1, bits .xor .i64 r5.2.2.1 1, ()))
def aig_Or_s : Sig := ⟨[.c true [.int .i64, .row Kii_], .c false [.int .i64], .c false [.int .i64]], [], .t [(true, [.int .i64, .row Kii_]), (false, [.int .i64])], []⟩
def aig_Or_a : Ann := .d
noncomputable def aig_Or_c (n : Nat) : Ctr Try.prog := .of Try.func19 n [aig_And_c n] aig_Or_a aig_Or_s (fun d => aig_Or n d.1 d.2.1 d.2.2.1 d.2.2.2.1) fun d => by kernel_rfl
noncomputable def aig_Mux (n : Nat) (x1 : Int) (x2 : List Kii) (x3 : Int) (x4 : Int) (x5 : Int) : Option (Int × List Kii × Int × Unit) :=
 (aig_And n x1 x2 x3 x4).bind (fun r6 => (aig_And n r6.1 r6.2.1 (bits .xor .i64 x3 1) x5).bind (fun r7 => (aig_Or n r7.1 r7.2.1 r6.2.2.1 r7.2.2.1).bind (fun r8 => some (r8.1, r8.2.1, r8.2.2.1, ()))))
def aig_Mux_s : Sig := ⟨[.c true [.int .i64, .row Kii_], .c false [.int .i64], .c false [.int .i64], .c false [.int .i64]], [], .t [(true, [.int .i64, .row Kii_]), (false, [.int .i64])], []⟩
def aig_Mux_a : Ann := .d
noncomputable def aig_Mux_c (n : Nat) : Ctr Try.prog := .of Try.func23 n [aig_And_c n, aig_Or_c n] aig_Mux_a aig_Mux_s (fun d => aig_Mux n d.1 d.2.1 d.2.2.1 d.2.2.2.1 d.2.2.2.2.1) fun d => by kernel_rfl
noncomputable def aig_Xor (n : Nat) (x1 : Int) (x2 : List Kii) (x3 : Int) (x4 : Int) : Option (Int × List Kii × Int × Unit) :=
 (aig_Mux n x1 x2 x3 (bits .xor .i64 x4 1) x4).bind (fun r5 => some (r5.1, r5.2.1, r5.2.2.1, ()))
def aig_Xor_s : Sig := ⟨[.c true [.int .i64, .row Kii_], .c false [.int .i64], .c false [.int .i64]], [], .t [(true, [.int .i64, .row Kii_]), (false, [.int .i64])], []⟩
def aig_Xor_a : Ann := .d
noncomputable def aig_Xor_c (n : Nat) : Ctr Try.prog := .of Try.func21 n [aig_Mux_c n] aig_Xor_a aig_Xor_s (fun d => aig_Xor n d.1 d.2.1 d.2.2.1 d.2.2.2.1) fun d => by kernel_rfl
noncomputable def aig_Lit (n : Nat) (x1 : List Bool) (x2 : Int) : Option (Bool × Unit) :=
 ask (0 ≤ (1 : Int)) (ask (0 ≤ (shrI .i64 x2 1) ∧ shrI .i64 x2 1 < (x1.length : Int)) (some ((Kb_at x1 (shrI .i64 x2 1) != decide ((bits .and .i64 x2 1) = 1)), ())))
def aig_Lit_s : Sig := ⟨[.c false [.row b_], .c false [.int .i64]], [], .c false [.bool], []⟩
def aig_Lit_a : Ann := .d
noncomputable def aig_Lit_c (n : Nat) : Ctr Try.prog := .of Try.func29 n [] aig_Lit_a aig_Lit_s (fun d => aig_Lit n d.1 d.2.1) fun d => by kernel_rfl
noncomputable def aig_Eval_l1b (n : Nat) (x2 : List Kii) (self : Int × List Bool × Unit → Option ((List Bool × Unit))) (d6 : Int × List Bool × Unit) : Option ((List Bool × Unit)) :=
 cond (decide (d6.1 < (x2.length : Int)))
 (ask (0 ≤ d6.1 ∧ d6.1 < (x2.length : Int)) (ask (0 < 2) ((aig_Lit n d6.2.1 ((Kii_at x2 d6.1).1)).bind (fun r7 => cond r7.1
 (ask (1 < 2) ((aig_Lit n d6.2.1 ((Kii_at x2 d6.1).2)).bind (fun r8 => ask (True ∧ (d6.2.1.length + (([r8.1] : List Bool)).length) * 1 ≤ 140737488355328) (self (IntKind.wrap .i64 (d6.1 + 1), d6.2.1 ++ ([r8.1] : List Bool), ())))))
 (ask (True ∧ (d6.2.1.length + (([false] : List Bool)).length) * 1 ≤ 140737488355328) (self (IntKind.wrap .i64 (d6.1 + 1), d6.2.1 ++ ([false] : List Bool), ())))))))
 (some (d6.2.1, ()))
noncomputable def aig_Eval_l1 (n : Nat) (x2 : List Kii) : Int × List Bool × Unit → Option ((List Bool × Unit)) := iter (aig_Eval_l1b n x2) n
noncomputable def aig_Eval (n : Nat) (x1 : Int) (x2 : List Kii) (x3 : List Bool) : Option (List Bool × Unit) :=
 ask ((0 ≤ (IntKind.wrap .i64 ((1 : Int) + x1)) ∧ IntKind.wrap .i64 ((1 : Int) + x1) ≤ IntKind.wrap .i64 ((IntKind.wrap .i64 ((1 : Int) + x1)) + (x2.length : Int))) ∧ (1 : Int) * (IntKind.wrap .i64 ((IntKind.wrap .i64 ((1 : Int) + x1)) + (x2.length : Int))) ≤ 281474976710656 ∧ IntKind.wrap .i64 ((IntKind.wrap .i64 ((1 : Int) + x1)) + (x2.length : Int)) ≤ 281474976710656) (ask (0 ≤ (1 : Int) ∧ 1 ≤ ((List.replicate (IntKind.wrap .i64 ((1 : Int) + x1)).toNat false).length : Int)) (ask (True) ((aig_Eval_l1 n x2 (0, cpy (List.replicate (IntKind.wrap .i64 ((1 : Int) + x1)).toNat false) ((1 : Int).toNat) ((List.replicate (IntKind.wrap .i64 ((1 : Int) + x1)).toNat false).length - (1 : Int).toNat) x3, ())).bind (fun d9 => some (d9.1, ())))))
def aig_Eval_s : Sig := ⟨[.c true [.int .i64, .row Kii_], .c false [.row b_]], [], .c false [.row b_], []⟩
def aig_Eval_a : Ann := .s .d (.s .d (.s .d (.s (.s .d (.b (.l [5, 7, 18, 19, 20, 26, 27, 28, 29, 30, 31, 32, 33, 34, 35, 36, 37, 38, 39, 40, 41, 42, 43] [741] ⟨[(5, .c false [.con (.own 741 1)]), (26, .c false [.int .i64])], [(741, .row 4 b_)]⟩ [(.exit 0, ⟨[(5, .c false [.con (.own 741 1)])], [(741, .row 4 b_)]⟩)] .d))) .d)))
noncomputable def aig_Eval_c (n : Nat) : Ctr Try.prog := .of Try.func25 n [aig_Lit_c n] aig_Eval_a aig_Eval_s (fun d => aig_Eval n d.1 d.2.1 d.2.2.1) fun d => by kernel_rfl
noncomputable def aig_Eval_o_l1b (n : Nat) (x2 : List Kii) (self : Int × List Bool × Unit → Option ((List Bool × Unit))) (d6 : Int × List Bool × Unit) : Option ((List Bool × Unit)) :=
 cond (decide (d6.1 < (x2.length : Int)))
 (ask (0 ≤ d6.1 ∧ d6.1 < (x2.length : Int)) (ask (0 < 2) ((aig_Lit n d6.2.1 ((Kii_at x2 d6.1).1)).bind (fun r7 => cond r7.1
 (ask (1 < 2) ((aig_Lit n d6.2.1 ((Kii_at x2 d6.1).2)).bind (fun r8 => ask (True ∧ (d6.2.1.length + (([r8.1] : List Bool)).length) * 1 ≤ 140737488355328) (self (IntKind.wrap .i64 (d6.1 + 1), d6.2.1 ++ ([r8.1] : List Bool), ())))))
 (ask (True ∧ (d6.2.1.length + (([false] : List Bool)).length) * 1 ≤ 140737488355328) (self (IntKind.wrap .i64 (d6.1 + 1), d6.2.1 ++ ([false] : List Bool), ())))))))
 (some (d6.2.1, ()))
noncomputable def aig_Eval_o_l1 (n : Nat) (x2 : List Kii) : Int × List Bool × Unit → Option ((List Bool × Unit)) := iter (aig_Eval_o_l1b n x2) n
noncomputable def aig_Eval_o (n : Nat) (x1 : Int) (x2 : List Kii) (x3 : List Bool) : Option (List Bool × Unit) :=
 ask ((0 ≤ (IntKind.wrap .i64 ((1 : Int) + x1)) ∧ IntKind.wrap .i64 ((1 : Int) + x1) ≤ IntKind.wrap .i64 ((IntKind.wrap .i64 ((1 : Int) + x1)) + (x2.length : Int))) ∧ (1 : Int) * (IntKind.wrap .i64 ((IntKind.wrap .i64 ((1 : Int) + x1)) + (x2.length : Int))) ≤ 281474976710656 ∧ IntKind.wrap .i64 ((IntKind.wrap .i64 ((1 : Int) + x1)) + (x2.length : Int)) ≤ 281474976710656) (ask (0 ≤ (1 : Int) ∧ 1 ≤ ((List.replicate (IntKind.wrap .i64 ((1 : Int) + x1)).toNat false).length : Int)) (ask (True) ((aig_Eval_o_l1 n x2 (0, cpy (List.replicate (IntKind.wrap .i64 ((1 : Int) + x1)).toNat false) ((1 : Int).toNat) ((List.replicate (IntKind.wrap .i64 ((1 : Int) + x1)).toNat false).length - (1 : Int).toNat) x3, ())).bind (fun d9 => some (d9.1, ())))))
def aig_Eval_o_s : Sig := ⟨[.c true [.int .i64, .row Kii_], .c false [.row b_]], [], .c false [.con (.own 741 1)], [(741, .row 4 b_)]⟩
def aig_Eval_o_a : Ann := .s .d (.s .d (.s .d (.s (.s .d (.b (.l [5, 7, 18, 19, 20, 26, 27, 28, 29, 30, 31, 32, 33, 34, 35, 36, 37, 38, 39, 40, 41, 42, 43] [741] ⟨[(5, .c false [.con (.own 741 1)]), (26, .c false [.int .i64])], [(741, .row 4 b_)]⟩ [(.exit 0, ⟨[(5, .c false [.con (.own 741 1)])], [(741, .row 4 b_)]⟩)] .d))) .d)))
noncomputable def aig_Eval_o_c (n : Nat) : Ctr Try.prog := .of Try.func25 n [aig_Lit_c n] aig_Eval_o_a aig_Eval_o_s (fun d => aig_Eval_o n d.1 d.2.1 d.2.2.1) fun d => by kernel_rfl
noncomputable def aig_Right_l1b (n : Nat) (x1 : Int) (x2 : List Kii) (self : Int × List (Kii × Bool) × Unit → Option ((Bool × Unit) ⊕ (Unit))) (d5 : Int × List (Kii × Bool) × Unit) : Option ((Bool × Unit) ⊕ (Unit)) :=
 cond (decide (d5.1 < (x2.length : Int)))
 (ask (0 ≤ d5.1 ∧ d5.1 < (x2.length : Int)) (ask (0 < 2) (ask (1 < 2) ((aig_of n ((Kii_at x2 d5.1).1) ((Kii_at x2 d5.1).2)).bind (fun r6 => (aig_plain n r6.1 r6.2.1).bind (fun r7 => cond r7.2.1
 (some (.inl (false, ())))
 (cond (!((r6.1 == (Kii_at x2 d5.1).1) && (r6.2.1 == (Kii_at x2 d5.1).2)))
 (some (.inl (false, ())))
 (ask (0 < 2) (cond (decide (r6.1 < 2))
 (some (.inl (false, ())))
 (ask (1 < 2) (ask (0 ≤ (1 : Int)) (cond (decide ((IntKind.wrap .i64 (x1 + d5.1)) < (shrI .i64 r6.2.1 1)))
 (some (.inl (false, ())))
 (ask (True) (cond (Mii_b_get d5.2.1 (r6.1, r6.2.1) false)
 (some (.inl (false, ())))
 (self (IntKind.wrap .i64 (d5.1 + 1), Mii_b_put d5.2.1 (r6.1, r6.2.1) true, ()))))))))))))))))
 (some (.inr ()))
noncomputable def aig_Right_l1 (n : Nat) (x1 : Int) (x2 : List Kii) : Int × List (Kii × Bool) × Unit → Option ((Bool × Unit) ⊕ (Unit)) := iter (aig_Right_l1b n x1 x2) n
noncomputable def aig_Right (n : Nat) (x1 : Int) (x2 : List Kii) : Option (Bool × Unit) :=
 cond (decide (x1 < 0))
 (some (false, ()))
 (cond (decide ((1048576 : Int) < x1))
 (some (false, ()))
 (cond (decide ((IntKind.wrap .i64 ((1048576 : Int) - x1)) < (x2.length : Int)))
 (some (false, ()))
 ((aig_Right_l1 n x1 x2 (0, ([] : List (Kii × Bool)), ())).bind (Sum.elim (fun d8 => some (d8.1, ())) (fun d9 => some (true, ()))))))
def aig_Right_s : Sig := ⟨[.c true [.int .i64, .row Kii_]], [], .c false [.bool], []⟩
def aig_Right_a : Ann := .s .d (.s .d (.s .d (.s (.s .d (.b (.l [2, 3, 4, 5, 6, 7, 8, 26, 30, 31, 32, 33, 34, 35, 36, 37, 38, 39, 40, 41, 42, 43, 44, 45, 46, 47, 48, 49, 50, 51, 52, 53, 54, 55, 56, 57, 58, 59, 60, 61, 62, 63, 64, 65, 66, 67, 68, 69, 70, 71, 72, 73] [101] ⟨[(3, .c false [.con (.map 101)]), (30, .c false [.int .i64])], [(101, .map true Kii_ false b_)]⟩ [(.ret, ⟨[(2, .c false [.bool])], []⟩), (.exit 0, ⟨[], []⟩)] .d))) .d)))
noncomputable def aig_Right_c (n : Nat) : Ctr Try.prog := .of Try.func12 n [aig_of_c n, aig_plain_c n] aig_Right_a aig_Right_s (fun d => aig_Right n d.1 d.2.1) fun d => by kernel_rfl
noncomputable def ref08_Same_l1b (n : Nat) (x1 : List Bool) (x2 : List Bool) (self : Int × Unit → Option ((Bool × Unit) ⊕ (Unit))) (d4 : Int × Unit) : Option ((Bool × Unit) ⊕ (Unit)) :=
 cond (decide (d4.1 < (x1.length : Int)))
 (ask (0 ≤ d4.1 ∧ d4.1 < (x1.length : Int)) (ask (0 ≤ d4.1 ∧ d4.1 < (x2.length : Int)) (cond (Kb_at x1 d4.1 != Kb_at x2 d4.1)
 (some (.inl (false, ())))
 (self (IntKind.wrap .i64 (d4.1 + 1), ())))))
 (some (.inr ()))
noncomputable def ref08_Same_l1 (n : Nat) (x1 : List Bool) (x2 : List Bool) : Int × Unit → Option ((Bool × Unit) ⊕ (Unit)) := iter (ref08_Same_l1b n x1 x2) n
noncomputable def ref08_Same (n : Nat) (x1 : List Bool) (x2 : List Bool) : Option (Bool × Unit) :=
 cond (decide ((x1.length : Int) ≠ (x2.length : Int)))
 (some (false, ()))
 ((ref08_Same_l1 n x1 x2 (0, ())).bind (Sum.elim (fun d5 => some (d5.1, ())) (fun d6 => some (true, ()))))
def ref08_Same_s : Sig := ⟨[.c false [.row b_], .c false [.row b_]], [], .c false [.bool], []⟩
def ref08_Same_a : Ann := .s .d (.s .d (.s (.s .d (.b (.l [4, 5, 11, 12, 13, 14, 15, 16, 17, 18, 19, 20, 21, 22, 23, 24, 25] [] ⟨[(5, .c false [.int .i64])], []⟩ [(.ret, ⟨[(4, .c false [.bool])], []⟩), (.exit 0, ⟨[], []⟩)] .d))) .d))
noncomputable def ref08_Same_c (n : Nat) : Ctr Try.prog := .of Try.func28 n [] ref08_Same_a ref08_Same_s (fun d => ref08_Same n d.1 d.2.1) fun d => by kernel_rfl
noncomputable def law13_head (n : Nat) : Option (Bool × Unit) :=
 (aig_New n 2).bind (fun r1 => (aig_And n r1.1 ([] : List Kii) 4 2).bind (fun r2 => (aig_And n r2.1 r2.2.1 2 3).bind (fun r3 => (aig_And n r2.1 r2.2.1 2 4).bind (fun r4 => (aig_Xor n r2.1 r2.2.1 2 4).bind (fun r5 => (aig_Eval_o n r2.1 r2.2.1 ([true, true] : List Bool)).bind (fun r6 => (aig_Right n r1.1 ([] : List Kii)).bind (fun r7 => cond r7.1
 ((aig_Right n r2.1 r2.2.1).bind (fun r8 => cond r8.1
 ((aig_Right n (-1) ([] : List Kii)).bind (fun r9 => cond (!r9.1)
 (cond (decide ((r2.2.1.length : Int) = 1))
 (ask (0 ≤ (0 : Int) ∧ 0 < (r2.2.1.length : Int)) (cond ((((Kii_at r2.2.1 0).1) == 2) && (((Kii_at r2.2.1 0).2) == 4))
 (cond (decide (r2.2.2.1 = 6))
 (cond (decide (r3.2.2.1 = 0))
 (cond (decide (r4.2.2.1 = 6))
 (cond (decide ((r5.2.1.length : Int) = 4))
 (cond (decide (r5.2.2.1 = 13))
 ((ref08_Same n r6.1 ([false, true, true, true] : List Bool)).bind (fun r10 => cond r10.1
 ((aig_Lit n r6.1 7).bind (fun r11 => cond (!r11.1)
 ((aig_Lit n r6.1 1).bind (fun r12 => some (r12.1, ())))
 (some (false, ()))))
 (some (false, ()))))
 (some (false, ())))
 (some (false, ())))
 (some (false, ())))
 (some (false, ())))
 (some (false, ())))
 (some (false, ()))))
 (some (false, ())))
 (some (false, ()))))
 (some (false, ()))))
 (some (false, ())))))))))
def law13_head_s : Sig := ⟨[], [], .c false [.bool], []⟩
def law13_head_a : Ann := .d
noncomputable def law13_head_c (n : Nat) : Ctr Try.prog := .of Try.func10 n [aig_New_c n, aig_And_c n, aig_Xor_c n, aig_Eval_o_c n, aig_Right_c n, ref08_Same_c n, aig_Lit_c n] law13_head_a law13_head_s (fun d => law13_head n) fun d => by kernel_rfl
noncomputable def law13_Great (n : Nat) (x1 : List Kcwww) : Option (Bool × Unit) :=
 some (decide ((120 : Int) < (x1.length : Int)), ())
def law13_Great_s : Sig := ⟨[.c false [.row Kcwww_]], [], .c false [.bool], []⟩
def law13_Great_a : Ann := .d
noncomputable def law13_Great_c (n : Nat) : Ctr Try.prog := .of Try.func11 n [] law13_Great_a law13_Great_s (fun d => law13_Great n d.1) fun d => by kernel_rfl
noncomputable def ref13_New (n : Nat) (x1 : Int) : Option (Int × Unit) :=
 some (x1, ())
def ref13_New_s : Sig := ⟨[.c false [.int .i64]], [], .c true [.int .i64, .con .nilsl], []⟩
def ref13_New_a : Ann := .d
noncomputable def ref13_New_c (n : Nat) : Ctr Try.prog := .of Try.func32 n [] ref13_New_a ref13_New_s (fun d => ref13_New n d.1) fun d => by kernel_rfl
noncomputable def law13_literal (n : Nat) (x1 : Int) (x2 : List Kii) (x3 : Int) : Option (Int × Unit) :=
 ask ((IntKind.wrap .i64 ((2 : Int) * (IntKind.wrap .i64 ((IntKind.wrap .i64 (x1 + (x2.length : Int))) + 1)))) ≠ 0) (some (Int.tmod (IntKind.wrap .i64 x3) (IntKind.wrap .i64 ((2 : Int) * (IntKind.wrap .i64 ((IntKind.wrap .i64 (x1 + (x2.length : Int))) + 1)))), ()))
def law13_literal_s : Sig := ⟨[.c true [.int .i64, .row Kii_], .c false [.int .u16]], [], .c false [.int .i64], []⟩
def law13_literal_a : Ann := .d
noncomputable def law13_literal_c (n : Nat) : Ctr Try.prog := .of Try.func15 n [] law13_literal_a law13_literal_s (fun d => law13_literal n d.1 d.2.1 d.2.2.1) fun d => by kernel_rfl
noncomputable def ref13_find_l1b (n : Nat) (x2 : List Kii) (x3 : Int) (x4 : Int) (x5 : Int) (self : Int × Unit → Option ((Int × Unit) ⊕ (Unit))) (d7 : Int × Unit) : Option ((Int × Unit) ⊕ (Unit)) :=
 cond (decide (d7.1 < x5))
 (ask (0 ≤ d7.1 ∧ d7.1 < (x2.length : Int)) (ask (0 < 2) (cond (decide (((Kii_at x2 d7.1).1) = x3))
 (ask (0 ≤ d7.1 ∧ d7.1 < (x2.length : Int)) (ask (1 < 2) (cond (decide (((Kii_at x2 d7.1).2) = x4))
 (some (.inl (d7.1, ())))
 (self (IntKind.wrap .i64 (d7.1 + 1), ())))))
 (self (IntKind.wrap .i64 (d7.1 + 1), ())))))
 (some (.inr ()))
noncomputable def ref13_find_l1 (n : Nat) (x2 : List Kii) (x3 : Int) (x4 : Int) (x5 : Int) : Int × Unit → Option ((Int × Unit) ⊕ (Unit)) := iter (ref13_find_l1b n x2 x3 x4 x5) n
noncomputable def ref13_find (n : Nat) (x1 : Int) (x2 : List Kii) (x3 : Int) (x4 : Int) (x5 : Int) : Option (Int × Unit) :=
 (ref13_find_l1 n x2 x3 x4 x5 (0, ())).bind (Sum.elim (fun d8 => some (d8.1, ())) (fun d9 => some ((-1), ())))
def ref13_find_s : Sig := ⟨[.c true [.int .i64, .row Kii_], .c false [.int .i64], .c false [.int .i64], .c false [.int .i64]], [], .c false [.int .i64], []⟩
def ref13_find_a : Ann := .s .d (.s (.s .d (.b (.l [8, 9, 10, 11, 12, 13, 14, 15, 16, 17, 18, 19, 20, 21, 22, 23, 24, 25, 26, 27, 28, 29, 30, 31, 32, 33] [] ⟨[(9, .c false [.int .i64])], []⟩ [(.ret, ⟨[(8, .c false [.int .i64])], []⟩), (.exit 0, ⟨[], []⟩)] .d))) .d)
noncomputable def ref13_find_c (n : Nat) : Ctr Try.prog := .of Try.func35 n [] ref13_find_a ref13_find_s (fun d => ref13_find n d.1 d.2.1 d.2.2.1 d.2.2.2.1 d.2.2.2.2.1) fun d => by kernel_rfl
noncomputable def ref13_And_j1 (n : Nat) (d5 : Int × Int × Unit) (r7 : Int × Unit) (x1 : Int) (x2 : List Kii) : Option ((Int × Int × List Kii × Unit)) :=
 cond (decide (r7.1 < 0))
 (ask (True ∧ ((([] : List Kii)).length + x2.length) * 16 ≤ 140737488355328) (ask (True ∧ ((([] : List Kii) ++ x2).length + (([(d5.1, d5.2.1)] : List Kii)).length) * 16 ≤ 140737488355328) (some ((x2.length : Int), x1, (([] : List Kii) ++ x2) ++ ([(d5.1, d5.2.1)] : List Kii), ()))))
 (some (r7.1, x1, x2, ()))
noncomputable def ref13_And_j2 (n : Nat) (d5 : Int × Int × Unit) (r10 : Int × Unit) (x1 : Int) (x2 : List Kii) : Option ((Int × Int × List Kii × Unit)) :=
 cond (decide (r10.1 < 0))
 (ask (True ∧ ((([] : List Kii)).length + x2.length) * 16 ≤ 140737488355328) (ask (True ∧ ((([] : List Kii) ++ x2).length + (([(d5.1, d5.2.1)] : List Kii)).length) * 16 ≤ 140737488355328) (some ((x2.length : Int), x1, (([] : List Kii) ++ x2) ++ ([(d5.1, d5.2.1)] : List Kii), ()))))
 (some (r10.1, x1, x2, ()))
noncomputable def ref13_And (n : Nat) (x1 : Int) (x2 : List Kii) (x3 : Int) (x4 : Int) : Option (Int × List Kii × Int × Unit) :=
 ((cond (decide (x4 < x3))
 (some (x4, x3, ()))
 (some (x3, x4, ()))) : Option ((Int × Int × Unit))).bind (fun d5 => cond (decide (d5.1 = 0))
 (some (x1, x2, 0, ()))
 (ask ((2 : Int) ≠ 0) (ask ((2 : Int) ≠ 0) (cond (decide ((IntKind.wrap .i64 (Int.tdiv d5.1 2)) = (IntKind.wrap .i64 (Int.tdiv d5.2.1 2))))
 (cond (decide (d5.1 ≠ d5.2.1))
 (some (x1, x2, 0, ()))
 (((cond (decide (d5.1 = 1))
 (some (true, ()))
 (some (decide (d5.1 = d5.2.1), ()))) : Option ((Bool × Unit))).bind (fun d6 => cond d6.1
 (some (x1, x2, d5.2.1, ()))
 ((ref13_find n x1 x2 d5.1 d5.2.1 (x2.length : Int)).bind (fun r7 => (ref13_And_j1 n d5 r7 x1 x2).bind (fun d8 => some (d8.2.1, d8.2.2.1, IntKind.wrap .i64 ((2 : Int) * (IntKind.wrap .i64 ((IntKind.wrap .i64 (d8.2.1 + 1)) + d8.1))), ())))))))
 (((cond (decide (d5.1 = 1))
 (some (true, ()))
 (some (decide (d5.1 = d5.2.1), ()))) : Option ((Bool × Unit))).bind (fun d9 => cond d9.1
 (some (x1, x2, d5.2.1, ()))
 ((ref13_find n x1 x2 d5.1 d5.2.1 (x2.length : Int)).bind (fun r10 => (ref13_And_j2 n d5 r10 x1 x2).bind (fun d11 => some (d11.2.1, d11.2.2.1, IntKind.wrap .i64 ((2 : Int) * (IntKind.wrap .i64 ((IntKind.wrap .i64 (d11.2.1 + 1)) + d11.1))), ()))))))))))
def ref13_And_s : Sig := ⟨[.c true [.int .i64, .row Kii_], .c false [.int .i64], .c false [.int .i64]], [], .t [(true, [.int .i64, .row Kii_]), (false, [.int .i64])], []⟩
def ref13_And_a : Ann := .s .d (.j [1, 2, 9, 10, 11, 12, 13] [] [(.normal, ⟨[(1, .c false [.int .i64]), (2, .c false [.int .i64])], []⟩)] .d (.s .d (.s (.j [29, 30, 31, 32, 33, 34, 35] [] [(.normal, ⟨[(35, .c false [.bool])], []⟩)] .d .d) (.s .d (.j [3, 8, 41, 45, 46, 47, 48, 49, 50, 51, 52, 53, 54, 55, 56, 57, 58, 59] [100] [(.normal, ⟨[(3, .c false [.con (.ptr 100 0)]), (8, .c false [.int .i64])], [(100, .var 24 [.int .i64, .row Kii_])]⟩)] .d .d)))))
noncomputable def ref13_And_c (n : Nat) : Ctr Try.prog := .of Try.func17 n [ref13_find_c n] ref13_And_a ref13_And_s (fun d => ref13_And n d.1 d.2.1 d.2.2.1 d.2.2.2.1) fun d => by kernel_rfl
noncomputable def ref13_turn (n : Nat) (x1 : Int) : Option (Int × Unit) :=
 some (bits .xor .i64 x1 1, ())
def ref13_turn_s : Sig := ⟨[.c false [.int .i64]], [], .c false [.int .i64], []⟩
def ref13_turn_a : Ann := .d
noncomputable def ref13_turn_c (n : Nat) : Ctr Try.prog := .of Try.func38 n [] ref13_turn_a ref13_turn_s (fun d => ref13_turn n d.1) fun d => by kernel_rfl
noncomputable def ref13_Or (n : Nat) (x1 : Int) (x2 : List Kii) (x3 : Int) (x4 : Int) : Option (Int × List Kii × Int × Unit) :=
 (ref13_turn n x3).bind (fun r5 => (ref13_turn n x4).bind (fun r6 => (ref13_And n x1 x2 r5.1 r6.1).bind (fun r7 => (ref13_turn n r7.2.2.1).bind (fun r8 => some (r7.1, r7.2.1, r8.1, ())))))
def ref13_Or_s : Sig := ⟨[.c true [.int .i64, .row Kii_], .c false [.int .i64], .c false [.int .i64]], [], .t [(true, [.int .i64, .row Kii_]), (false, [.int .i64])], []⟩
def ref13_Or_a : Ann := .d
noncomputable def ref13_Or_c (n : Nat) : Ctr Try.prog := .of Try.func20 n [ref13_turn_c n, ref13_And_c n] ref13_Or_a ref13_Or_s (fun d => ref13_Or n d.1 d.2.1 d.2.2.1 d.2.2.2.1) fun d => by kernel_rfl
noncomputable def ref13_Mux (n : Nat) (x1 : Int) (x2 : List Kii) (x3 : Int) (x4 : Int) (x5 : Int) : Option (Int × List Kii × Int × Unit) :=
 (ref13_And n x1 x2 x3 x4).bind (fun r6 => (ref13_turn n x3).bind (fun r7 => (ref13_And n r6.1 r6.2.1 r7.1 x5).bind (fun r8 => (ref13_Or n r8.1 r8.2.1 r6.2.2.1 r8.2.2.1).bind (fun r9 => some (r9.1, r9.2.1, r9.2.2.1, ())))))
def ref13_Mux_s : Sig := ⟨[.c true [.int .i64, .row Kii_], .c false [.int .i64], .c false [.int .i64], .c false [.int .i64]], [], .t [(true, [.int .i64, .row Kii_]), (false, [.int .i64])], []⟩
def ref13_Mux_a : Ann := .d
noncomputable def ref13_Mux_c (n : Nat) : Ctr Try.prog := .of Try.func24 n [ref13_And_c n, ref13_turn_c n, ref13_Or_c n] ref13_Mux_a ref13_Mux_s (fun d => ref13_Mux n d.1 d.2.1 d.2.2.1 d.2.2.2.1 d.2.2.2.2.1) fun d => by kernel_rfl
noncomputable def ref13_Xor (n : Nat) (x1 : Int) (x2 : List Kii) (x3 : Int) (x4 : Int) : Option (Int × List Kii × Int × Unit) :=
 (ref13_turn n x4).bind (fun r5 => (ref13_Mux n x1 x2 x3 r5.1 x4).bind (fun r6 => some (r6.1, r6.2.1, r6.2.2.1, ())))
def ref13_Xor_s : Sig := ⟨[.c true [.int .i64, .row Kii_], .c false [.int .i64], .c false [.int .i64]], [], .t [(true, [.int .i64, .row Kii_]), (false, [.int .i64])], []⟩
def ref13_Xor_a : Ann := .d
noncomputable def ref13_Xor_c (n : Nat) : Ctr Try.prog := .of Try.func22 n [ref13_turn_c n, ref13_Mux_c n] ref13_Xor_a ref13_Xor_s (fun d => ref13_Xor n d.1 d.2.1 d.2.2.1 d.2.2.2.1) fun d => by kernel_rfl
noncomputable def law13_Made_j1 (n : Nat) (d7 : Int × Int × List Kii × List Int × Unit) (r8 : Int × Unit) (r9 : Int × Unit) (r10 : Int × Unit) (x2 : List Kcwww) : Option ((Int × Int × List Kii × Unit)) :=
 ask (0 ≤ d7.1 ∧ d7.1 < (x2.length : Int)) (ask ((4 : Int) ≠ 0) (cond (decide ((Int.tmod ((Kcwww_at x2 d7.1).1) 4) = 0))
 ((ref13_And n d7.2.1 d7.2.2.1 r8.1 r9.1).bind (fun r11 => some (r11.2.2.1, r11.1, r11.2.1, ())))
 (cond (decide ((Int.tmod ((Kcwww_at x2 d7.1).1) 4) = 1))
 ((ref13_Or n d7.2.1 d7.2.2.1 r8.1 r9.1).bind (fun r12 => some (r12.2.2.1, r12.1, r12.2.1, ())))
 (cond (decide ((Int.tmod ((Kcwww_at x2 d7.1).1) 4) = 2))
 ((ref13_Xor n d7.2.1 d7.2.2.1 r8.1 r9.1).bind (fun r13 => some (r13.2.2.1, r13.1, r13.2.1, ())))
 (cond (decide ((Int.tmod ((Kcwww_at x2 d7.1).1) 4) = 3))
 ((ref13_Mux n d7.2.1 d7.2.2.1 r8.1 r9.1 r10.1).bind (fun r14 => some (r14.2.2.1, r14.1, r14.2.1, ())))
 (some (0, d7.2.1, d7.2.2.1, ())))))))
noncomputable def law13_Made_l2b (n : Nat) (x2 : List Kcwww) (self : Int × Int × List Kii × List Int × Unit → Option ((Int × List Kii × List Int × Unit))) (d7 : Int × Int × List Kii × List Int × Unit) : Option ((Int × List Kii × List Int × Unit)) :=
 cond (decide (d7.1 < (x2.length : Int)))
 (ask (0 ≤ d7.1 ∧ d7.1 < (x2.length : Int)) ((law13_literal n d7.2.1 d7.2.2.1 (((Kcwww_at x2 d7.1).2).1)).bind (fun r8 => ask (0 ≤ d7.1 ∧ d7.1 < (x2.length : Int)) ((law13_literal n d7.2.1 d7.2.2.1 ((((Kcwww_at x2 d7.1).2).2).1)).bind (fun r9 => ask (0 ≤ d7.1 ∧ d7.1 < (x2.length : Int)) ((law13_literal n d7.2.1 d7.2.2.1 ((((Kcwww_at x2 d7.1).2).2).2)).bind (fun r10 => (law13_Made_j1 n d7 r8 r9 r10 x2).bind (fun d15 => ask (True ∧ (d7.2.2.2.1.length + (([d15.1] : List Int)).length) * 8 ≤ 140737488355328) (self (IntKind.wrap .i64 (d7.1 + 1), d15.2.1, d15.2.2.1, d7.2.2.2.1 ++ ([d15.1] : List Int), ()))))))))))
 (some (d7.2.1, d7.2.2.1, d7.2.2.2.1, ()))
noncomputable def law13_Made_l2 (n : Nat) (x2 : List Kcwww) : Int × Int × List Kii × List Int × Unit → Option ((Int × List Kii × List Int × Unit)) := iter (law13_Made_l2b n x2) n
noncomputable def law13_Made (n : Nat) (x1 : Int) (x2 : List Kcwww) : Option (Int × List Kii × List Int × Unit) :=
 ask ((9 : Int) ≠ 0) ((ref13_New n (Int.tmod (IntKind.wrap .i64 x1) 9)).bind (fun r3 => (law13_Made_l2 n x2 (0, r3.1, ([] : List Kii), ([] : List Int), ())).bind (fun d16 => some (d16.1, d16.2.1, d16.2.2.1, ()))))
def law13_Made_s : Sig := ⟨[.c false [.int .u8], .c false [.row Kcwww_]], [], .t [(true, [.int .i64, .row Kii_]), (false, [.row i_])], []⟩
def law13_Made_a : Ann := .s .d (.s .d (.s .d (.s (.s .d (.b (.l [6, 7, 8, 9, 10, 11, 12, 17, 18, 19, 20, 21, 22, 23, 24, 25, 26, 27, 28, 29, 30, 31, 32, 33, 34, 35, 36, 37, 38, 39, 40, 41, 42, 43, 44, 45, 46, 47, 48, 49, 50, 51, 52, 53, 54, 55, 56, 57, 58, 59, 60, 61, 62, 63, 64, 65, 66, 67, 68, 69, 70, 71, 72, 73, 74, 75, 76, 77, 78, 79, 80, 81, 82, 83, 84, 85, 86, 87, 88, 89, 90] [357] ⟨[(6, .c false [.con (.ptr 357 0)]), (7, .c false [.con (.own 100000 1)]), (8, .c false [.int .i64])], [(357, .var 24 [.int .i64, .row Kii_]), (100000, .row 3 i_)]⟩ [(.exit 0, ⟨[(6, .c false [.con (.ptr 357 0)]), (7, .c false [.con (.own 100000 1)])], [(357, .var 24 [.int .i64, .row Kii_]), (100000, .row 3 i_)]⟩)] (.s .d (.s (.b (.s .d (.s .d (.s .d (.s .d (.j [6, 12, 44, 45, 46, 47, 48, 49, 50, 51, 52, 53, 54, 55, 56, 57, 58, 59, 60, 61, 62, 63, 64, 65, 66, 67, 68, 69, 70, 71, 72, 73, 74, 75, 76, 77, 78, 79, 80, 81, 82, 83, 84, 85, 86] [357] [(.normal, ⟨[(6, .c false [.con (.ptr 357 0)]), (12, .c false [.int .i64])], [(357, .var 24 [.int .i64, .row Kii_])]⟩)] .d .d)))))) .d))))) .d)))
noncomputable def law13_Made_c (n : Nat) : Ctr Try.prog := .of Try.func14 n [ref13_New_c n, law13_literal_c n, ref13_And_c n, ref13_Or_c n, ref13_Xor_c n, ref13_Mux_c n] law13_Made_a law13_Made_s (fun d => law13_Made n d.1 d.2.1) fun d => by kernel_rfl
noncomputable def ref13_Same_l1b (n : Nat) (x2 : List Kii) (x4 : List Kii) (self : Int × Unit → Option ((Bool × Unit) ⊕ (Unit))) (d6 : Int × Unit) : Option ((Bool × Unit) ⊕ (Unit)) :=
 cond (decide (d6.1 < (x2.length : Int)))
 (ask (0 ≤ d6.1 ∧ d6.1 < (x2.length : Int)) (ask (0 ≤ d6.1 ∧ d6.1 < (x4.length : Int)) (cond (!((((Kii_at x2 d6.1).1) == (Kii_at x4 d6.1).1) && (((Kii_at x2 d6.1).2) == (Kii_at x4 d6.1).2)))
 (some (.inl (false, ())))
 (self (IntKind.wrap .i64 (d6.1 + 1), ())))))
 (some (.inr ()))
noncomputable def ref13_Same_l1 (n : Nat) (x2 : List Kii) (x4 : List Kii) : Int × Unit → Option ((Bool × Unit) ⊕ (Unit)) := iter (ref13_Same_l1b n x2 x4) n
noncomputable def ref13_Same (n : Nat) (x1 : Int) (x2 : List Kii) (x3 : Int) (x4 : List Kii) : Option (Bool × Unit) :=
 cond (decide (x1 ≠ x3))
 (some (false, ()))
 (cond (decide ((x2.length : Int) ≠ (x4.length : Int)))
 (some (false, ()))
 ((ref13_Same_l1 n x2 x4 (0, ())).bind (Sum.elim (fun d7 => some (d7.1, ())) (fun d8 => some (true, ())))))
def ref13_Same_s : Sig := ⟨[.c true [.int .i64, .row Kii_], .c true [.int .i64, .row Kii_]], [], .c false [.bool], []⟩
def ref13_Same_a : Ann := .s .d (.s .d (.s (.s .d (.b (.l [4, 5, 20, 21, 22, 23, 24, 25, 26, 27, 28, 29, 30, 31, 32, 33, 34, 35, 36, 37] [] ⟨[(5, .c false [.int .i64])], []⟩ [(.ret, ⟨[(4, .c false [.bool])], []⟩), (.exit 0, ⟨[], []⟩)] .d))) .d))
noncomputable def ref13_Same_c (n : Nat) : Ctr Try.prog := .of Try.func18 n [] ref13_Same_a ref13_Same_s (fun d => ref13_Same n d.1 d.2.1 d.2.2.1 d.2.2.2.1) fun d => by kernel_rfl
noncomputable def law13_AigRight_l1b (n : Nat) (r9 : Int × List Kii × List Int × Unit) (r13 : Int × List Kii × Int × Unit) (r14 : Int × List Kii × Int × Unit) (r15 : Int × List Kii × Int × Unit) (r16 : Int × List Kii × Int × Unit) (self : Int × Unit → Option ((Bool × Unit) ⊕ (Unit))) (d18 : Int × Unit) : Option ((Bool × Unit) ⊕ (Unit)) :=
 cond (decide (d18.1 < 4))
 (ask (0 ≤ d18.1 ∧ d18.1 < ((([(r13.1, r13.2.1), (r14.1, r14.2.1), (r15.1, r15.2.1), (r16.1, r16.2.1)] : List KiLPiiE)).length : Int)) (((cond (decide ((1 : Int) < d18.1))
 (some (3, ()))
 (some (1, ()))) : Option ((Int × Unit))).bind (fun d19 => (aig_Right n ((KiLPiiE_at ([(r13.1, r13.2.1), (r14.1, r14.2.1), (r15.1, r15.2.1), (r16.1, r16.2.1)] : List KiLPiiE) d18.1).1) ((KiLPiiE_at ([(r13.1, r13.2.1), (r14.1, r14.2.1), (r15.1, r15.2.1), (r16.1, r16.2.1)] : List KiLPiiE) d18.1).2)).bind (fun r20 => cond (!r20.1)
 (some (.inl (false, ())))
 (cond (decide (((KiLPiiE_at ([(r13.1, r13.2.1), (r14.1, r14.2.1), (r15.1, r15.2.1), (r16.1, r16.2.1)] : List KiLPiiE) d18.1).1) ≠ r9.1))
 (some (.inl (false, ())))
 (cond (decide ((((KiLPiiE_at ([(r13.1, r13.2.1), (r14.1, r14.2.1), (r15.1, r15.2.1), (r16.1, r16.2.1)] : List KiLPiiE) d18.1).2).length : Int) < (r9.2.1.length : Int)))
 (some (.inl (false, ())))
 (cond (decide ((IntKind.wrap .i64 ((r9.2.1.length : Int) + d19.1)) < (((KiLPiiE_at ([(r13.1, r13.2.1), (r14.1, r14.2.1), (r15.1, r15.2.1), (r16.1, r16.2.1)] : List KiLPiiE) d18.1).2).length : Int)))
 (some (.inl (false, ())))
 (ask (0 ≤ (r9.2.1.length : Int) ∧ (r9.2.1.length : Int) ≤ (((KiLPiiE_at ([(r13.1, r13.2.1), (r14.1, r14.2.1), (r15.1, r15.2.1), (r16.1, r16.2.1)] : List KiLPiiE) d18.1).2).length : Int)) ((ref13_Same n ((KiLPiiE_at ([(r13.1, r13.2.1), (r14.1, r14.2.1), (r15.1, r15.2.1), (r16.1, r16.2.1)] : List KiLPiiE) d18.1).1) (((KiLPiiE_at ([(r13.1, r13.2.1), (r14.1, r14.2.1), (r15.1, r15.2.1), (r16.1, r16.2.1)] : List KiLPiiE) d18.1).2).take (r9.2.1.length : Int).toNat) r9.1 r9.2.1).bind (fun r21 => cond (!r21.1)
 (some (.inl (false, ())))
 (self (IntKind.wrap .i64 (d18.1 + 1), ()))))))))))))
 (some (.inr ()))
noncomputable def law13_AigRight_l1 (n : Nat) (r9 : Int × List Kii × List Int × Unit) (r13 : Int × List Kii × Int × Unit) (r14 : Int × List Kii × Int × Unit) (r15 : Int × List Kii × Int × Unit) (r16 : Int × List Kii × Int × Unit) : Int × Unit → Option ((Bool × Unit) ⊕ (Unit)) := iter (law13_AigRight_l1b n r9 r13 r14 r15 r16) n
noncomputable def law13_AigRight (n : Nat) (x1 : Int) (x2 : List Kcwww) (x3 : Int) (x4 : Int) (x5 : Int) (x6 : Int) : Option (Bool × Unit) :=
 (law13_head n).bind (fun r7 => (law13_Great n x2).bind (fun r8 => cond r8.1
 (some (r7.1, ()))
 ((law13_Made n x1 x2).bind (fun r9 => (law13_literal n r9.1 r9.2.1 x4).bind (fun r10 => (law13_literal n r9.1 r9.2.1 x5).bind (fun r11 => (law13_literal n r9.1 r9.2.1 x6).bind (fun r12 => (aig_And n r9.1 r9.2.1 r10.1 r11.1).bind (fun r13 => (aig_Or n r9.1 r9.2.1 r10.1 r11.1).bind (fun r14 => (aig_Xor n r9.1 r9.2.1 r10.1 r11.1).bind (fun r15 => (aig_Mux n r9.1 r9.2.1 r10.1 r11.1 r12.1).bind (fun r16 => (law13_AigRight_l1 n r9 r13 r14 r15 r16 (0, ())).bind (Sum.elim (fun d22 => some (d22.1, ())) (fun d23 => cond r7.1
 ((aig_Right n r9.1 r9.2.1).bind (fun r24 => some (r24.1, ())))
 (some (false, ())))))))))))))))
def law13_AigRight_s : Sig := ⟨[.c false [.int .u8], .c false [.row Kcwww_], .c true [.int .u8, .int .u16, .int .u16, .int .u16]], [], .c false [.bool], []⟩
def law13_AigRight_a : Ann := .s .d (.s .d (.s .d (.s .d (.s .d (.s .d (.s .d (.s .d (.s .d (.s .d (.s .d (.s .d (.s (.s .d (.b (.l [6, 22, 23, 24, 81, 82, 83, 84, 85, 86, 87, 88, 89, 90, 91, 92, 93, 94, 95, 96, 97, 98, 99, 100, 101, 102, 103, 104, 105, 106, 107, 108, 109, 110, 111, 112, 113, 114, 115, 116, 117, 118, 119, 120, 121, 122, 123, 124, 125, 126, 127, 128, 129, 130, 131, 132, 133, 134] [] ⟨[(22, .c false [.int .i64])], []⟩ [(.ret, ⟨[(6, .c false [.bool])], []⟩), (.exit 0, ⟨[], []⟩)] (.s .d (.s (.b (.s .d (.s .d (.j [24, 89, 90] [] [(.normal, ⟨[(24, .c false [.int .i64])], []⟩)] .d .d)))) .d))))) .d))))))))))))
noncomputable def law13_AigRight_c (n : Nat) : Ctr Try.prog := .of Try.func5 n [law13_head_c n, law13_Great_c n, law13_Made_c n, law13_literal_c n, aig_And_c n, aig_Or_c n, aig_Xor_c n, aig_Mux_c n, aig_Right_c n, ref13_Same_c n] law13_AigRight_a law13_AigRight_s (fun d => law13_AigRight n d.1 d.2.1 d.2.2.1 d.2.2.2.1 d.2.2.2.2.1 d.2.2.2.2.2.1) fun d => by kernel_rfl
end Go.Proofs.Ytlnjefcfbncegaa.Am
