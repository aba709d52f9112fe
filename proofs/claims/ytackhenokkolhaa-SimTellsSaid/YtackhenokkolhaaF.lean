/- Functions, executed. -/
import Derived.Test.YtackhenokkolhaaAm2
import Derived.Test.YtackhenokkolhaaProg
namespace Go.Proofs.Ytackhenokkolhaa.Am
set_option linter.unusedVariables false
set_option maxRecDepth 100000
abbrev i_ : Ty := .int .i64
abbrev i32_ : Ty := .int .i32
abbrev i16_ : Ty := .int .i16
abbrev i8_ : Ty := .int .i8
abbrev u_ : Ty := .int .u64
abbrev u32_ : Ty := .int .u32
abbrev u16_ : Ty := .int .u16
abbrev u8_ : Ty := .int .u8
abbrev b_ : Ty := .bool
abbrev s_ : Ty := .str
abbrev Kii_ : Ty := .pr i_ i_
abbrev Kii := Int × Int
abbrev Kiii_ : Ty := .pr i_ Kii_
abbrev Kiii := Int × Int × Int
abbrev Kiiii_ : Ty := .pr i_ Kiii_
abbrev Kiiii := Int × Int × Int × Int
abbrev Kiiiii_ : Ty := .pr i_ Kiiii_
abbrev Kiiiii := Int × Int × Int × Int × Int
abbrev Kiiiiii_ : Ty := .pr i_ Kiiiii_
abbrev Kiiiiii := Int × Int × Int × Int × Int × Int
abbrev Kiiiiiii_ : Ty := .pr i_ Kiiiiii_
abbrev Kiiiiiii := Int × Int × Int × Int × Int × Int × Int
abbrev Ksi_ : Ty := .pr s_ i_
abbrev Ksi := ByteArray × Int
abbrev Ksiii_ : Ty := .pr s_ Kiii_
abbrev Ksiii := ByteArray × Int × Int × Int
abbrev Kisi_ : Ty := .pr i_ Ksi_
abbrev Kisi := Int × ByteArray × Int
def Ksiii_at (l : List Ksiii) (i : Int) : Ksiii := at_ Ksiii_ l i
def Ki_at (l : List Int) (i : Int) : Int := at_ i_ l i
abbrev KLi_ : Ty := .sl i_
def KLi_at (l : List (List Int)) (i : Int) : List Int := at_ KLi_ l i
def Ksi_at (l : List Ksi) (i : Int) : Ksi := at_ Ksi_ l i
def Kiiiiiii_at (l : List Kiiiiiii) (i : Int) : Kiiiiiii := at_ Kiiiiiii_ l i
def Kisi_at (l : List Kisi) (i : Int) : Kisi := at_ Kisi_ l i
def Kb_at (l : List Bool) (i : Int) : Bool := at_ b_ l i
abbrev KLb_ : Ty := .sl b_
abbrev KLPiiiiiiiE_ : Ty := .sl Kiiiiiii_
abbrev KLPsiE_ : Ty := .sl Ksi_
abbrev KLPsiiiE_ : Ty := .sl Ksiii_
abbrev KLPisiE_ : Ty := .sl Kisi_
abbrev KLPisiELPsiE_ : Ty := .pr KLPisiE_ KLPsiE_
abbrev KLPisiELPsiE := (List Kisi) × (List Ksi)
abbrev KLPsiiiELPisiELPsiE_ : Ty := .pr KLPsiiiE_ KLPisiELPsiE_
abbrev KLPsiiiELPisiELPsiE := (List Ksiii) × (List Kisi) × (List Ksi)
abbrev KLPsiELPsiiiELPisiELPsiE_ : Ty := .pr KLPsiE_ KLPsiiiELPisiELPsiE_
abbrev KLPsiELPsiiiELPisiELPsiE := (List Ksi) × (List Ksiii) × (List Kisi) × (List Ksi)
abbrev KLPiiiiiiiELPsiELPsiiiELPisiELPsiE_ : Ty := .pr KLPiiiiiiiE_ KLPsiELPsiiiELPisiELPsiE_
abbrev KLPiiiiiiiELPsiELPsiiiELPisiELPsiE := (List Kiiiiiii) × (List Ksi) × (List Ksiii) × (List Kisi) × (List Ksi)
def KLPiiiiiiiELPsiELPsiiiELPisiELPsiE_at (l : List KLPiiiiiiiELPsiELPsiiiELPisiELPsiE) (i : Int) : KLPiiiiiiiELPsiELPsiiiELPisiELPsiE := at_ KLPiiiiiiiELPsiELPsiiiELPisiELPsiE_ l i
def KLb_at (l : List (List Bool)) (i : Int) : List Bool := at_ KLb_ l i
abbrev KLw_ : Ty := .sl u16_
def KLw_at (l : List (List Int)) (i : Int) : List Int := at_ KLw_ l i
def Kw_at (l : List Int) (i : Int) : Int := at_ u16_ l i
noncomputable def law09_Base (n : Nat) : Option (List Kiiiiiii × List Ksi × List Ksiii × List Kisi × List Ksi × Unit) :=
 some (([(21, 1, 0, 0, 0, 0, 0), (22, 4, 0, 0, 0, 0, 0), (1, 4, 0, 0, 0, 1, 0), (9, 4, 1, 2, 0, 0, 0), (1, 4, 0, 0, 0, 11, 0), (14, 1, 1, 4, 0, 0, 4), (1, 4, 0, 0, 0, 0, 0), (16, 4, 5, 3, 6, 0, 0), (16, 4, 0, 7, 1, 0, 0), (1, 4, 0, 0, 0, 12, 0), (13, 1, 1, 9, 0, 0, 4), (12, 1, 1, 4, 0, 0, 4)] : List Kiiiiiii), ([((⟨#[103, 111]⟩ : ByteArray), 0)] : List Ksi), ([((⟨#[110]⟩ : ByteArray), 1, 8, 0)] : List Ksiii), ([(8, (⟨#[108, 111, 119]⟩ : ByteArray), 10), (10, (⟨#[116, 111, 112]⟩ : ByteArray), 11)] : List Kisi), ([((⟨#[110]⟩ : ByteArray), 1)] : List Ksi), ())
def law09_Base_s : Sig := ⟨[], [], .c true [.row Kiiiiiii_, .row Ksi_, .row Ksiii_, .row Kisi_, .row Ksi_], []⟩
def law09_Base_a : Ann := .d
noncomputable def law09_Base_c (n : Nat) : Ctr Try.prog := .of Try.func28 n [] law09_Base_a law09_Base_s (fun d => law09_Base n) fun d => by kernel_rfl
noncomputable def net_First_l1b (n : Nat) (x3 : List Ksiii) (self : Int × List Int × Unit → Option ((List Int × Unit))) (d8 : Int × List Int × Unit) : Option ((List Int × Unit)) :=
 cond (decide (d8.1 < (x3.length : Int)))
 (ask (0 ≤ d8.1 ∧ d8.1 < (x3.length : Int)) (ask (0 ≤ d8.1 ∧ d8.1 < (d8.2.1.length : Int)) (self (IntKind.wrap .i64 (d8.1 + 1), d8.2.1.set d8.1.toNat ((((Ksiii_at x3 d8.1).2).2).2), ()))))
 (some (d8.2.1, ()))
noncomputable def net_First_l1 (n : Nat) (x3 : List Ksiii) : Int × List Int × Unit → Option ((List Int × Unit)) := iter (net_First_l1b n x3) n
noncomputable def net_First (n : Nat) (x1 : List Kiiiiiii) (x2 : List Ksi) (x3 : List Ksiii) (x4 : List Kisi) (x5 : List Ksi) : Option (List Int × Unit) :=
 ask ((0 ≤ (x3.length : Int) ∧ (x3.length : Int) ≤ (x3.length : Int)) ∧ (8 : Int) * (x3.length : Int) ≤ 281474976710656 ∧ (x3.length : Int) ≤ 281474976710656) ((net_First_l1 n x3 (0, List.replicate (x3.length : Int).toNat 0, ())).bind (fun d9 => some (d9.1, ())))
def net_First_s : Sig := ⟨[.c true [.row Kiiiiiii_, .row Ksi_, .row Ksiii_, .row Kisi_, .row Ksi_]], [], .c false [.row i_], []⟩
def net_First_a : Ann := .s .d (.s .d (.s (.s .d (.b (.l [3, 4, 5, 9, 13, 14, 15, 16, 17, 18, 19, 20, 21, 22, 23] [293] ⟨[(3, .c false [.con (.own 293 1)]), (13, .c false [.int .i64])], [(293, .row 3 i_)]⟩ [(.exit 0, ⟨[(3, .c false [.con (.own 293 1)])], [(293, .row 3 i_)]⟩)] .d))) .d))
noncomputable def net_First_c (n : Nat) : Ctr Try.prog := .of Try.func24 n [] net_First_a net_First_s (fun d => net_First n d.1 d.2.1 d.2.2.1 d.2.2.2.1 d.2.2.2.2.1) fun d => by kernel_rfl
noncomputable def sim_cycles (n : Nat) (x1 : List Kiiiiiii) (x2 : List Ksi) (x3 : List Ksiii) (x4 : List Kisi) (x5 : List Ksi) (x6 : List (List Int)) : Option (List Kiiiiiii × List Ksi × List Ksiii × List Kisi × List Ksi × List (List Int) × Unit) :=
 some (x1, x2, x3, x4, x5, x6, ())
def sim_cycles_s : Sig := ⟨[.c true [.row Kiiiiiii_, .row Ksi_, .row Ksiii_, .row Kisi_, .row Ksi_], .c false [.row KLi_]], [], .c false [.con (.fn 47 [(100, 0), (164, 0)])], [(100, .var 27 [.row Kiiiiiii_, .row Ksi_, .row Ksiii_, .row Kisi_, .row Ksi_]), (164, .var 28 [.row KLi_])]⟩
def sim_cycles_a : Ann := .d
noncomputable def sim_cycles_c (n : Nat) : Ctr Try.prog := .of Try.func33 n [] sim_cycles_a sim_cycles_s (fun d => sim_cycles n d.1 d.2.1 d.2.2.1 d.2.2.2.1 d.2.2.2.2.1 d.2.2.2.2.2.1) fun d => by kernel_rfl
noncomputable def vec_two__vec_works_2 (n : Nat) : Option (Unit) :=
 some ()
def vec_two__vec_works_2_s : Sig := ⟨[.c false [.con (.fn 54 [])]], [], .c false [.con (.fn 73 [(100, 0)])], [(100, .var 82 [.con (.fn 54 [])])]⟩
def vec_two__vec_works_2_a : Ann := .d
noncomputable def vec_two__vec_works_2_c (n : Nat) : Ctr Try.prog := .of Try.func53 n [] vec_two__vec_works_2_a vec_two__vec_works_2_s (fun d => vec_two__vec_works_2 n) fun d => by kernel_rfl
noncomputable def vec_asked__vec_works_3 (n : Nat) : Option (Unit) :=
 some ()
def vec_asked__vec_works_3_s : Sig := ⟨[.c false [.con (.fn 56 [])]], [], .c false [.con (.fn 74 [(100, 0)])], [(100, .var 84 [.con (.fn 56 [])])]⟩
def vec_asked__vec_works_3_a : Ann := .d
noncomputable def vec_asked__vec_works_3_c (n : Nat) : Ctr Try.prog := .of Try.func55 n [] vec_asked__vec_works_3_a vec_asked__vec_works_3_s (fun d => vec_asked__vec_works_3 n) fun d => by kernel_rfl
noncomputable def vec_two__vec_works_5 (n : Nat) : Option (Unit) :=
 some ()
def vec_two__vec_works_5_s : Sig := ⟨[.c false [.con (.fn 60 [])]], [], .c false [.con (.fn 73 [(100, 0)])], [(100, .var 82 [.con (.fn 60 [])])]⟩
def vec_two__vec_works_5_a : Ann := .d
noncomputable def vec_two__vec_works_5_c (n : Nat) : Ctr Try.prog := .of Try.func53 n [] vec_two__vec_works_5_a vec_two__vec_works_5_s (fun d => vec_two__vec_works_5 n) fun d => by kernel_rfl
noncomputable def vec_two__vec_works_6 (n : Nat) : Option (Unit) :=
 some ()
def vec_two__vec_works_6_s : Sig := ⟨[.c false [.con (.fn 61 [])]], [], .c false [.con (.fn 73 [(100, 0)])], [(100, .var 82 [.con (.fn 61 [])])]⟩
def vec_two__vec_works_6_a : Ann := .d
noncomputable def vec_two__vec_works_6_c (n : Nat) : Ctr Try.prog := .of Try.func53 n [] vec_two__vec_works_6_a vec_two__vec_works_6_s (fun d => vec_two__vec_works_6 n) fun d => by kernel_rfl
noncomputable def vec_two__vec_works_7 (n : Nat) : Option (Unit) :=
 some ()
def vec_two__vec_works_7_s : Sig := ⟨[.c false [.con (.fn 62 [])]], [], .c false [.con (.fn 73 [(100, 0)])], [(100, .var 82 [.con (.fn 62 [])])]⟩
def vec_two__vec_works_7_a : Ann := .d
noncomputable def vec_two__vec_works_7_c (n : Nat) : Ctr Try.prog := .of Try.func53 n [] vec_two__vec_works_7_a vec_two__vec_works_7_s (fun d => vec_two__vec_works_7 n) fun d => by kernel_rfl
noncomputable def vec_two__vec_works_8 (n : Nat) : Option (Unit) :=
 some ()
def vec_two__vec_works_8_s : Sig := ⟨[.c false [.con (.fn 63 [])]], [], .c false [.con (.fn 73 [(100, 0)])], [(100, .var 82 [.con (.fn 63 [])])]⟩
def vec_two__vec_works_8_a : Ann := .d
noncomputable def vec_two__vec_works_8_c (n : Nat) : Ctr Try.prog := .of Try.func53 n [] vec_two__vec_works_8_a vec_two__vec_works_8_s (fun d => vec_two__vec_works_8 n) fun d => by kernel_rfl
noncomputable def vec_two__vec_works_9 (n : Nat) : Option (Unit) :=
 some ()
def vec_two__vec_works_9_s : Sig := ⟨[.c false [.con (.fn 64 [])]], [], .c false [.con (.fn 73 [(100, 0)])], [(100, .var 82 [.con (.fn 64 [])])]⟩
def vec_two__vec_works_9_a : Ann := .d
noncomputable def vec_two__vec_works_9_c (n : Nat) : Ctr Try.prog := .of Try.func53 n [] vec_two__vec_works_9_a vec_two__vec_works_9_s (fun d => vec_two__vec_works_9 n) fun d => by kernel_rfl
noncomputable def vec_two__vec_works_10 (n : Nat) : Option (Unit) :=
 some ()
def vec_two__vec_works_10_s : Sig := ⟨[.c false [.con (.fn 65 [])]], [], .c false [.con (.fn 73 [(100, 0)])], [(100, .var 82 [.con (.fn 65 [])])]⟩
def vec_two__vec_works_10_a : Ann := .d
noncomputable def vec_two__vec_works_10_c (n : Nat) : Ctr Try.prog := .of Try.func53 n [] vec_two__vec_works_10_a vec_two__vec_works_10_s (fun d => vec_two__vec_works_10 n) fun d => by kernel_rfl
noncomputable def vec_asked__vec_works_11 (n : Nat) : Option (Unit) :=
 some ()
def vec_asked__vec_works_11_s : Sig := ⟨[.c false [.con (.fn 66 [])]], [], .c false [.con (.fn 74 [(100, 0)])], [(100, .var 84 [.con (.fn 66 [])])]⟩
def vec_asked__vec_works_11_a : Ann := .d
noncomputable def vec_asked__vec_works_11_c (n : Nat) : Ctr Try.prog := .of Try.func55 n [] vec_asked__vec_works_11_a vec_asked__vec_works_11_s (fun d => vec_asked__vec_works_11 n) fun d => by kernel_rfl
noncomputable def vec_asked__vec_works_12 (n : Nat) : Option (Unit) :=
 some ()
def vec_asked__vec_works_12_s : Sig := ⟨[.c false [.con (.fn 67 [])]], [], .c false [.con (.fn 74 [(100, 0)])], [(100, .var 84 [.con (.fn 67 [])])]⟩
def vec_asked__vec_works_12_a : Ann := .d
noncomputable def vec_asked__vec_works_12_c (n : Nat) : Ctr Try.prog := .of Try.func55 n [] vec_asked__vec_works_12_a vec_asked__vec_works_12_s (fun d => vec_asked__vec_works_12 n) fun d => by kernel_rfl
noncomputable def vec_asked__vec_works_13 (n : Nat) : Option (Unit) :=
 some ()
def vec_asked__vec_works_13_s : Sig := ⟨[.c false [.con (.fn 68 [])]], [], .c false [.con (.fn 74 [(100, 0)])], [(100, .var 84 [.con (.fn 68 [])])]⟩
def vec_asked__vec_works_13_a : Ann := .d
noncomputable def vec_asked__vec_works_13_c (n : Nat) : Ctr Try.prog := .of Try.func55 n [] vec_asked__vec_works_13_a vec_asked__vec_works_13_s (fun d => vec_asked__vec_works_13 n) fun d => by kernel_rfl
noncomputable def vec_asked__vec_works_14 (n : Nat) : Option (Unit) :=
 some ()
def vec_asked__vec_works_14_s : Sig := ⟨[.c false [.con (.fn 69 [])]], [], .c false [.con (.fn 74 [(100, 0)])], [(100, .var 84 [.con (.fn 69 [])])]⟩
def vec_asked__vec_works_14_a : Ann := .d
noncomputable def vec_asked__vec_works_14_c (n : Nat) : Ctr Try.prog := .of Try.func55 n [] vec_asked__vec_works_14_a vec_asked__vec_works_14_s (fun d => vec_asked__vec_works_14 n) fun d => by kernel_rfl
noncomputable def vec_works (n : Nat) : Option (Unit) :=
 (vec_two__vec_works_2 n).bind (fun r1 => (vec_asked__vec_works_3 n).bind (fun r2 => (vec_two__vec_works_5 n).bind (fun r3 => (vec_two__vec_works_6 n).bind (fun r4 => (vec_two__vec_works_7 n).bind (fun r5 => (vec_two__vec_works_8 n).bind (fun r6 => (vec_two__vec_works_9 n).bind (fun r7 => (vec_two__vec_works_10 n).bind (fun r8 => (vec_asked__vec_works_11 n).bind (fun r9 => (vec_asked__vec_works_12 n).bind (fun r10 => (vec_asked__vec_works_13 n).bind (fun r11 => (vec_asked__vec_works_14 n).bind (fun r12 => some ()))))))))))))
def vec_works_s : Sig := ⟨[], [], .c false [.con (.map 100)], [(100, .tab [(.i64, 1), (.i64, 3), (.i64, 4), (.i64, 5), (.i64, 6), (.i64, 7), (.i64, 8), (.i64, 9), (.i64, 10), (.i64, 11), (.i64, 12), (.i64, 13), (.i64, 14), (.i64, 15), (.i64, 16), (.i64, 17), (.i64, 18)] [(false, [.con (.fn 52 [])]), (false, [.con (.fn 73 [(228, 0)])]), (false, [.con (.fn 74 [(356, 0)])]), (false, [.con (.fn 57 [])]), (false, [.con (.fn 73 [(548, 0)])]), (false, [.con (.fn 73 [(676, 0)])]), (false, [.con (.fn 73 [(804, 0)])]), (false, [.con (.fn 73 [(932, 0)])]), (false, [.con (.fn 73 [(1060, 0)])]), (false, [.con (.fn 73 [(1188, 0)])]), (false, [.con (.fn 74 [(1316, 0)])]), (false, [.con (.fn 74 [(1444, 0)])]), (false, [.con (.fn 74 [(1572, 0)])]), (false, [.con (.fn 74 [(1700, 0)])]), (false, [.con (.fn 70 [])]), (false, [.con (.fn 71 [])]), (false, [.con (.fn 72 [])])]), (228, .var 82 [.con (.fn 54 [])]), (356, .var 84 [.con (.fn 56 [])]), (548, .var 82 [.con (.fn 60 [])]), (676, .var 82 [.con (.fn 61 [])]), (804, .var 82 [.con (.fn 62 [])]), (932, .var 82 [.con (.fn 63 [])]), (1060, .var 82 [.con (.fn 64 [])]), (1188, .var 82 [.con (.fn 65 [])]), (1316, .var 84 [.con (.fn 66 [])]), (1444, .var 84 [.con (.fn 67 [])]), (1572, .var 84 [.con (.fn 68 [])]), (1700, .var 84 [.con (.fn 69 [])])]⟩
def vec_works_a : Ann := .d
noncomputable def vec_works_c (n : Nat) : Ctr Try.prog := .of Try.func49 n [vec_two__vec_works_2_c n, vec_asked__vec_works_3_c n, vec_two__vec_works_5_c n, vec_two__vec_works_6_c n, vec_two__vec_works_7_c n, vec_two__vec_works_8_c n, vec_two__vec_works_9_c n, vec_two__vec_works_10_c n, vec_asked__vec_works_11_c n, vec_asked__vec_works_12_c n, vec_asked__vec_works_13_c n, vec_asked__vec_works_14_c n] vec_works_a vec_works_s (fun d => vec_works n) fun d => by kernel_rfl
noncomputable def vec_works_1 (n : Nat) (x1 : Int) (x2 : Int) (x3 : Int) (x4 : Int) (x5 : Int) (x6 : Int) (x7 : Int) (x8 : Int) (x9 : Int) (x10 : Int) (x11 : Int) : Option (Int × Unit) :=
 some (x6, ())
def vec_works_1_s : Sig := ⟨[.c true [.int .i64, .int .i64, .int .i64, .int .i64, .int .i64, .int .i64, .int .i64], .c false [.int .i64], .c false [.int .i64], .c false [.int .i64], .c false [.int .i64]], [], .c false [.int .i64], []⟩
def vec_works_1_a : Ann := .d
noncomputable def vec_works_1_c (n : Nat) : Ctr Try.prog := .of Try.func52 n [] vec_works_1_a vec_works_1_s (fun d => vec_works_1 n d.1 d.2.1 d.2.2.1 d.2.2.2.1 d.2.2.2.2.1 d.2.2.2.2.2.1 d.2.2.2.2.2.2.1 d.2.2.2.2.2.2.2.1 d.2.2.2.2.2.2.2.2.1 d.2.2.2.2.2.2.2.2.2.1 d.2.2.2.2.2.2.2.2.2.2.1) fun d => by kernel_rfl
noncomputable def vec_works_2 (n : Nat) (x1 : Int) (x2 : Int) : Option (Int × Unit) :=
 some (bits .xor .i64 (-1) x1, ())
def vec_works_2_s : Sig := ⟨[.c false [.int .i64], .c false [.int .i64]], [], .c false [.int .i64], []⟩
def vec_works_2_a : Ann := .d
noncomputable def vec_works_2_c (n : Nat) : Ctr Try.prog := .of Try.func54 n [] vec_works_2_a vec_works_2_s (fun d => vec_works_2 n d.1 d.2.1) fun d => by kernel_rfl
noncomputable def vec_Mask (n : Nat) (x1 : Int) : Option (Int × Unit) :=
 ask (0 ≤ x1) (some (IntKind.wrap .i64 ((shlI .i64 1 x1) - 1), ()))
def vec_Mask_s : Sig := ⟨[.c false [.int .i64]], [], .c false [.int .i64], []⟩
def vec_Mask_a : Ann := .d
noncomputable def vec_Mask_c (n : Nat) : Ctr Try.prog := .of Try.func59 n [] vec_Mask_a vec_Mask_s (fun d => vec_Mask n d.1) fun d => by kernel_rfl
noncomputable def vec_two_1__vec_works_2 (n : Nat) (x1 : Int) (x2 : Int) (x3 : Int) (x4 : Int) (x5 : Int) (x6 : Int) (x7 : Int) (x8 : Int) (x9 : Int) (x10 : Int) (x11 : Int) : Option (Int × Unit) :=
 (vec_works_2 n x8 x9).bind (fun r12 => (vec_Mask n x2).bind (fun r13 => some (bits .and .i64 r12.1 r13.1, ())))
def vec_two_1__vec_works_2_s : Sig := ⟨[.c true [.int .i64, .int .i64, .int .i64, .int .i64, .int .i64, .int .i64, .int .i64], .c false [.int .i64], .c false [.int .i64], .c false [.int .i64], .c false [.int .i64], .c false [.con (.ptr 0 0)]], [(0, .var 82 [.con (.fn 54 [])])], .c false [.int .i64], [(0, .var 82 [.con (.fn 54 [])])]⟩
def vec_two_1__vec_works_2_a : Ann := .d
noncomputable def vec_two_1__vec_works_2_c (n : Nat) : Ctr Try.prog := .of Try.func73 n [vec_works_2_c n, vec_Mask_c n] vec_two_1__vec_works_2_a vec_two_1__vec_works_2_s (fun d => vec_two_1__vec_works_2 n d.1 d.2.1 d.2.2.1 d.2.2.2.1 d.2.2.2.2.1 d.2.2.2.2.2.1 d.2.2.2.2.2.2.1 d.2.2.2.2.2.2.2.1 d.2.2.2.2.2.2.2.2.1 d.2.2.2.2.2.2.2.2.2.1 d.2.2.2.2.2.2.2.2.2.2.1) fun d => by kernel_rfl
noncomputable def vec_works_3 (n : Nat) (x1 : Int) (x2 : Int) : Option (Bool × Unit) :=
 some (decide (x1 ≠ 0), ())
def vec_works_3_s : Sig := ⟨[.c false [.int .i64], .c false [.int .i64]], [], .c false [.bool], []⟩
def vec_works_3_a : Ann := .d
noncomputable def vec_works_3_c (n : Nat) : Ctr Try.prog := .of Try.func56 n [] vec_works_3_a vec_works_3_s (fun d => vec_works_3 n d.1 d.2.1) fun d => by kernel_rfl
noncomputable def vec_flag (n : Nat) (x1 : Bool) : Option (Int × Unit) :=
 cond x1
 (some (1, ()))
 (some (0, ()))
def vec_flag_s : Sig := ⟨[.c false [.bool]], [], .c false [.int .i64], []⟩
def vec_flag_a : Ann := .d
noncomputable def vec_flag_c (n : Nat) : Ctr Try.prog := .of Try.func58 n [] vec_flag_a vec_flag_s (fun d => vec_flag n d.1) fun d => by kernel_rfl
noncomputable def vec_asked_1__vec_works_3 (n : Nat) (x1 : Int) (x2 : Int) (x3 : Int) (x4 : Int) (x5 : Int) (x6 : Int) (x7 : Int) (x8 : Int) (x9 : Int) (x10 : Int) (x11 : Int) : Option (Int × Unit) :=
 (vec_works_3 n x8 x9).bind (fun r12 => (vec_flag n r12.1).bind (fun r13 => some (r13.1, ())))
def vec_asked_1__vec_works_3_s : Sig := ⟨[.c true [.int .i64, .int .i64, .int .i64, .int .i64, .int .i64, .int .i64, .int .i64], .c false [.int .i64], .c false [.int .i64], .c false [.int .i64], .c false [.int .i64], .c false [.con (.ptr 0 0)]], [(0, .var 84 [.con (.fn 56 [])])], .c false [.int .i64], [(0, .var 84 [.con (.fn 56 [])])]⟩
def vec_asked_1__vec_works_3_a : Ann := .d
noncomputable def vec_asked_1__vec_works_3_c (n : Nat) : Ctr Try.prog := .of Try.func74 n [vec_works_3_c n, vec_flag_c n] vec_asked_1__vec_works_3_a vec_asked_1__vec_works_3_s (fun d => vec_asked_1__vec_works_3 n d.1 d.2.1 d.2.2.1 d.2.2.2.1 d.2.2.2.2.1 d.2.2.2.2.2.1 d.2.2.2.2.2.2.1 d.2.2.2.2.2.2.2.1 d.2.2.2.2.2.2.2.2.1 d.2.2.2.2.2.2.2.2.2.1 d.2.2.2.2.2.2.2.2.2.2.1) fun d => by kernel_rfl
noncomputable def vec_works_4 (n : Nat) (x1 : Int) (x2 : Int) (x3 : Int) (x4 : Int) (x5 : Int) (x6 : Int) (x7 : Int) (x8 : Int) (x9 : Int) (x10 : Int) (x11 : Int) : Option (Int × Unit) :=
 (vec_Mask n x7).bind (fun r12 => (vec_flag n (decide (x8 = r12.1))).bind (fun r13 => some (r13.1, ())))
def vec_works_4_s : Sig := ⟨[.c true [.int .i64, .int .i64, .int .i64, .int .i64, .int .i64, .int .i64, .int .i64], .c false [.int .i64], .c false [.int .i64], .c false [.int .i64], .c false [.int .i64]], [], .c false [.int .i64], []⟩
def vec_works_4_a : Ann := .d
noncomputable def vec_works_4_c (n : Nat) : Ctr Try.prog := .of Try.func57 n [vec_Mask_c n, vec_flag_c n] vec_works_4_a vec_works_4_s (fun d => vec_works_4 n d.1 d.2.1 d.2.2.1 d.2.2.2.1 d.2.2.2.2.1 d.2.2.2.2.2.1 d.2.2.2.2.2.2.1 d.2.2.2.2.2.2.2.1 d.2.2.2.2.2.2.2.2.1 d.2.2.2.2.2.2.2.2.2.1 d.2.2.2.2.2.2.2.2.2.2.1) fun d => by kernel_rfl
noncomputable def vec_works_5 (n : Nat) (x1 : Int) (x2 : Int) : Option (Int × Unit) :=
 some (bits .and .i64 x1 x2, ())
def vec_works_5_s : Sig := ⟨[.c false [.int .i64], .c false [.int .i64]], [], .c false [.int .i64], []⟩
def vec_works_5_a : Ann := .d
noncomputable def vec_works_5_c (n : Nat) : Ctr Try.prog := .of Try.func60 n [] vec_works_5_a vec_works_5_s (fun d => vec_works_5 n d.1 d.2.1) fun d => by kernel_rfl
noncomputable def vec_two_1__vec_works_5 (n : Nat) (x1 : Int) (x2 : Int) (x3 : Int) (x4 : Int) (x5 : Int) (x6 : Int) (x7 : Int) (x8 : Int) (x9 : Int) (x10 : Int) (x11 : Int) : Option (Int × Unit) :=
 (vec_works_5 n x8 x9).bind (fun r12 => (vec_Mask n x2).bind (fun r13 => some (bits .and .i64 r12.1 r13.1, ())))
def vec_two_1__vec_works_5_s : Sig := ⟨[.c true [.int .i64, .int .i64, .int .i64, .int .i64, .int .i64, .int .i64, .int .i64], .c false [.int .i64], .c false [.int .i64], .c false [.int .i64], .c false [.int .i64], .c false [.con (.ptr 0 0)]], [(0, .var 82 [.con (.fn 60 [])])], .c false [.int .i64], [(0, .var 82 [.con (.fn 60 [])])]⟩
def vec_two_1__vec_works_5_a : Ann := .d
noncomputable def vec_two_1__vec_works_5_c (n : Nat) : Ctr Try.prog := .of Try.func73 n [vec_works_5_c n, vec_Mask_c n] vec_two_1__vec_works_5_a vec_two_1__vec_works_5_s (fun d => vec_two_1__vec_works_5 n d.1 d.2.1 d.2.2.1 d.2.2.2.1 d.2.2.2.2.1 d.2.2.2.2.2.1 d.2.2.2.2.2.2.1 d.2.2.2.2.2.2.2.1 d.2.2.2.2.2.2.2.2.1 d.2.2.2.2.2.2.2.2.2.1 d.2.2.2.2.2.2.2.2.2.2.1) fun d => by kernel_rfl
noncomputable def vec_works_6 (n : Nat) (x1 : Int) (x2 : Int) : Option (Int × Unit) :=
 some (bits .or .i64 x1 x2, ())
def vec_works_6_s : Sig := ⟨[.c false [.int .i64], .c false [.int .i64]], [], .c false [.int .i64], []⟩
def vec_works_6_a : Ann := .d
noncomputable def vec_works_6_c (n : Nat) : Ctr Try.prog := .of Try.func61 n [] vec_works_6_a vec_works_6_s (fun d => vec_works_6 n d.1 d.2.1) fun d => by kernel_rfl
noncomputable def vec_two_1__vec_works_6 (n : Nat) (x1 : Int) (x2 : Int) (x3 : Int) (x4 : Int) (x5 : Int) (x6 : Int) (x7 : Int) (x8 : Int) (x9 : Int) (x10 : Int) (x11 : Int) : Option (Int × Unit) :=
 (vec_works_6 n x8 x9).bind (fun r12 => (vec_Mask n x2).bind (fun r13 => some (bits .and .i64 r12.1 r13.1, ())))
def vec_two_1__vec_works_6_s : Sig := ⟨[.c true [.int .i64, .int .i64, .int .i64, .int .i64, .int .i64, .int .i64, .int .i64], .c false [.int .i64], .c false [.int .i64], .c false [.int .i64], .c false [.int .i64], .c false [.con (.ptr 0 0)]], [(0, .var 82 [.con (.fn 61 [])])], .c false [.int .i64], [(0, .var 82 [.con (.fn 61 [])])]⟩
def vec_two_1__vec_works_6_a : Ann := .d
noncomputable def vec_two_1__vec_works_6_c (n : Nat) : Ctr Try.prog := .of Try.func73 n [vec_works_6_c n, vec_Mask_c n] vec_two_1__vec_works_6_a vec_two_1__vec_works_6_s (fun d => vec_two_1__vec_works_6 n d.1 d.2.1 d.2.2.1 d.2.2.2.1 d.2.2.2.2.1 d.2.2.2.2.2.1 d.2.2.2.2.2.2.1 d.2.2.2.2.2.2.2.1 d.2.2.2.2.2.2.2.2.1 d.2.2.2.2.2.2.2.2.2.1 d.2.2.2.2.2.2.2.2.2.2.1) fun d => by kernel_rfl
noncomputable def vec_works_7 (n : Nat) (x1 : Int) (x2 : Int) : Option (Int × Unit) :=
 some (bits .xor .i64 x1 x2, ())
def vec_works_7_s : Sig := ⟨[.c false [.int .i64], .c false [.int .i64]], [], .c false [.int .i64], []⟩
def vec_works_7_a : Ann := .d
noncomputable def vec_works_7_c (n : Nat) : Ctr Try.prog := .of Try.func62 n [] vec_works_7_a vec_works_7_s (fun d => vec_works_7 n d.1 d.2.1) fun d => by kernel_rfl
noncomputable def vec_two_1__vec_works_7 (n : Nat) (x1 : Int) (x2 : Int) (x3 : Int) (x4 : Int) (x5 : Int) (x6 : Int) (x7 : Int) (x8 : Int) (x9 : Int) (x10 : Int) (x11 : Int) : Option (Int × Unit) :=
 (vec_works_7 n x8 x9).bind (fun r12 => (vec_Mask n x2).bind (fun r13 => some (bits .and .i64 r12.1 r13.1, ())))
def vec_two_1__vec_works_7_s : Sig := ⟨[.c true [.int .i64, .int .i64, .int .i64, .int .i64, .int .i64, .int .i64, .int .i64], .c false [.int .i64], .c false [.int .i64], .c false [.int .i64], .c false [.int .i64], .c false [.con (.ptr 0 0)]], [(0, .var 82 [.con (.fn 62 [])])], .c false [.int .i64], [(0, .var 82 [.con (.fn 62 [])])]⟩
def vec_two_1__vec_works_7_a : Ann := .d
noncomputable def vec_two_1__vec_works_7_c (n : Nat) : Ctr Try.prog := .of Try.func73 n [vec_works_7_c n, vec_Mask_c n] vec_two_1__vec_works_7_a vec_two_1__vec_works_7_s (fun d => vec_two_1__vec_works_7 n d.1 d.2.1 d.2.2.1 d.2.2.2.1 d.2.2.2.2.1 d.2.2.2.2.2.1 d.2.2.2.2.2.2.1 d.2.2.2.2.2.2.2.1 d.2.2.2.2.2.2.2.2.1 d.2.2.2.2.2.2.2.2.2.1 d.2.2.2.2.2.2.2.2.2.2.1) fun d => by kernel_rfl
noncomputable def vec_works_8 (n : Nat) (x1 : Int) (x2 : Int) : Option (Int × Unit) :=
 some (IntKind.wrap .i64 (x1 + x2), ())
def vec_works_8_s : Sig := ⟨[.c false [.int .i64], .c false [.int .i64]], [], .c false [.int .i64], []⟩
def vec_works_8_a : Ann := .d
noncomputable def vec_works_8_c (n : Nat) : Ctr Try.prog := .of Try.func63 n [] vec_works_8_a vec_works_8_s (fun d => vec_works_8 n d.1 d.2.1) fun d => by kernel_rfl
noncomputable def vec_two_1__vec_works_8 (n : Nat) (x1 : Int) (x2 : Int) (x3 : Int) (x4 : Int) (x5 : Int) (x6 : Int) (x7 : Int) (x8 : Int) (x9 : Int) (x10 : Int) (x11 : Int) : Option (Int × Unit) :=
 (vec_works_8 n x8 x9).bind (fun r12 => (vec_Mask n x2).bind (fun r13 => some (bits .and .i64 r12.1 r13.1, ())))
def vec_two_1__vec_works_8_s : Sig := ⟨[.c true [.int .i64, .int .i64, .int .i64, .int .i64, .int .i64, .int .i64, .int .i64], .c false [.int .i64], .c false [.int .i64], .c false [.int .i64], .c false [.int .i64], .c false [.con (.ptr 0 0)]], [(0, .var 82 [.con (.fn 63 [])])], .c false [.int .i64], [(0, .var 82 [.con (.fn 63 [])])]⟩
def vec_two_1__vec_works_8_a : Ann := .d
noncomputable def vec_two_1__vec_works_8_c (n : Nat) : Ctr Try.prog := .of Try.func73 n [vec_works_8_c n, vec_Mask_c n] vec_two_1__vec_works_8_a vec_two_1__vec_works_8_s (fun d => vec_two_1__vec_works_8 n d.1 d.2.1 d.2.2.1 d.2.2.2.1 d.2.2.2.2.1 d.2.2.2.2.2.1 d.2.2.2.2.2.2.1 d.2.2.2.2.2.2.2.1 d.2.2.2.2.2.2.2.2.1 d.2.2.2.2.2.2.2.2.2.1 d.2.2.2.2.2.2.2.2.2.2.1) fun d => by kernel_rfl
noncomputable def vec_works_9 (n : Nat) (x1 : Int) (x2 : Int) : Option (Int × Unit) :=
 some (IntKind.wrap .i64 (x1 - x2), ())
def vec_works_9_s : Sig := ⟨[.c false [.int .i64], .c false [.int .i64]], [], .c false [.int .i64], []⟩
def vec_works_9_a : Ann := .d
noncomputable def vec_works_9_c (n : Nat) : Ctr Try.prog := .of Try.func64 n [] vec_works_9_a vec_works_9_s (fun d => vec_works_9 n d.1 d.2.1) fun d => by kernel_rfl
noncomputable def vec_two_1__vec_works_9 (n : Nat) (x1 : Int) (x2 : Int) (x3 : Int) (x4 : Int) (x5 : Int) (x6 : Int) (x7 : Int) (x8 : Int) (x9 : Int) (x10 : Int) (x11 : Int) : Option (Int × Unit) :=
 (vec_works_9 n x8 x9).bind (fun r12 => (vec_Mask n x2).bind (fun r13 => some (bits .and .i64 r12.1 r13.1, ())))
def vec_two_1__vec_works_9_s : Sig := ⟨[.c true [.int .i64, .int .i64, .int .i64, .int .i64, .int .i64, .int .i64, .int .i64], .c false [.int .i64], .c false [.int .i64], .c false [.int .i64], .c false [.int .i64], .c false [.con (.ptr 0 0)]], [(0, .var 82 [.con (.fn 64 [])])], .c false [.int .i64], [(0, .var 82 [.con (.fn 64 [])])]⟩
def vec_two_1__vec_works_9_a : Ann := .d
noncomputable def vec_two_1__vec_works_9_c (n : Nat) : Ctr Try.prog := .of Try.func73 n [vec_works_9_c n, vec_Mask_c n] vec_two_1__vec_works_9_a vec_two_1__vec_works_9_s (fun d => vec_two_1__vec_works_9 n d.1 d.2.1 d.2.2.1 d.2.2.2.1 d.2.2.2.2.1 d.2.2.2.2.2.1 d.2.2.2.2.2.2.1 d.2.2.2.2.2.2.2.1 d.2.2.2.2.2.2.2.2.1 d.2.2.2.2.2.2.2.2.2.1 d.2.2.2.2.2.2.2.2.2.2.1) fun d => by kernel_rfl
noncomputable def vec_works_10 (n : Nat) (x1 : Int) (x2 : Int) : Option (Int × Unit) :=
 some (IntKind.wrap .i64 (x1 * x2), ())
def vec_works_10_s : Sig := ⟨[.c false [.int .i64], .c false [.int .i64]], [], .c false [.int .i64], []⟩
def vec_works_10_a : Ann := .d
noncomputable def vec_works_10_c (n : Nat) : Ctr Try.prog := .of Try.func65 n [] vec_works_10_a vec_works_10_s (fun d => vec_works_10 n d.1 d.2.1) fun d => by kernel_rfl
noncomputable def vec_two_1__vec_works_10 (n : Nat) (x1 : Int) (x2 : Int) (x3 : Int) (x4 : Int) (x5 : Int) (x6 : Int) (x7 : Int) (x8 : Int) (x9 : Int) (x10 : Int) (x11 : Int) : Option (Int × Unit) :=
 (vec_works_10 n x8 x9).bind (fun r12 => (vec_Mask n x2).bind (fun r13 => some (bits .and .i64 r12.1 r13.1, ())))
def vec_two_1__vec_works_10_s : Sig := ⟨[.c true [.int .i64, .int .i64, .int .i64, .int .i64, .int .i64, .int .i64, .int .i64], .c false [.int .i64], .c false [.int .i64], .c false [.int .i64], .c false [.int .i64], .c false [.con (.ptr 0 0)]], [(0, .var 82 [.con (.fn 65 [])])], .c false [.int .i64], [(0, .var 82 [.con (.fn 65 [])])]⟩
def vec_two_1__vec_works_10_a : Ann := .d
noncomputable def vec_two_1__vec_works_10_c (n : Nat) : Ctr Try.prog := .of Try.func73 n [vec_works_10_c n, vec_Mask_c n] vec_two_1__vec_works_10_a vec_two_1__vec_works_10_s (fun d => vec_two_1__vec_works_10 n d.1 d.2.1 d.2.2.1 d.2.2.2.1 d.2.2.2.2.1 d.2.2.2.2.2.1 d.2.2.2.2.2.2.1 d.2.2.2.2.2.2.2.1 d.2.2.2.2.2.2.2.2.1 d.2.2.2.2.2.2.2.2.2.1 d.2.2.2.2.2.2.2.2.2.2.1) fun d => by kernel_rfl
noncomputable def vec_works_11 (n : Nat) (x1 : Int) (x2 : Int) : Option (Bool × Unit) :=
 some (decide (x1 = x2), ())
def vec_works_11_s : Sig := ⟨[.c false [.int .i64], .c false [.int .i64]], [], .c false [.bool], []⟩
def vec_works_11_a : Ann := .d
noncomputable def vec_works_11_c (n : Nat) : Ctr Try.prog := .of Try.func66 n [] vec_works_11_a vec_works_11_s (fun d => vec_works_11 n d.1 d.2.1) fun d => by kernel_rfl
noncomputable def vec_asked_1__vec_works_11 (n : Nat) (x1 : Int) (x2 : Int) (x3 : Int) (x4 : Int) (x5 : Int) (x6 : Int) (x7 : Int) (x8 : Int) (x9 : Int) (x10 : Int) (x11 : Int) : Option (Int × Unit) :=
 (vec_works_11 n x8 x9).bind (fun r12 => (vec_flag n r12.1).bind (fun r13 => some (r13.1, ())))
def vec_asked_1__vec_works_11_s : Sig := ⟨[.c true [.int .i64, .int .i64, .int .i64, .int .i64, .int .i64, .int .i64, .int .i64], .c false [.int .i64], .c false [.int .i64], .c false [.int .i64], .c false [.int .i64], .c false [.con (.ptr 0 0)]], [(0, .var 84 [.con (.fn 66 [])])], .c false [.int .i64], [(0, .var 84 [.con (.fn 66 [])])]⟩
def vec_asked_1__vec_works_11_a : Ann := .d
noncomputable def vec_asked_1__vec_works_11_c (n : Nat) : Ctr Try.prog := .of Try.func74 n [vec_works_11_c n, vec_flag_c n] vec_asked_1__vec_works_11_a vec_asked_1__vec_works_11_s (fun d => vec_asked_1__vec_works_11 n d.1 d.2.1 d.2.2.1 d.2.2.2.1 d.2.2.2.2.1 d.2.2.2.2.2.1 d.2.2.2.2.2.2.1 d.2.2.2.2.2.2.2.1 d.2.2.2.2.2.2.2.2.1 d.2.2.2.2.2.2.2.2.2.1 d.2.2.2.2.2.2.2.2.2.2.1) fun d => by kernel_rfl
noncomputable def vec_works_12 (n : Nat) (x1 : Int) (x2 : Int) : Option (Bool × Unit) :=
 some (decide (x1 ≠ x2), ())
def vec_works_12_s : Sig := ⟨[.c false [.int .i64], .c false [.int .i64]], [], .c false [.bool], []⟩
def vec_works_12_a : Ann := .d
noncomputable def vec_works_12_c (n : Nat) : Ctr Try.prog := .of Try.func67 n [] vec_works_12_a vec_works_12_s (fun d => vec_works_12 n d.1 d.2.1) fun d => by kernel_rfl
noncomputable def vec_asked_1__vec_works_12 (n : Nat) (x1 : Int) (x2 : Int) (x3 : Int) (x4 : Int) (x5 : Int) (x6 : Int) (x7 : Int) (x8 : Int) (x9 : Int) (x10 : Int) (x11 : Int) : Option (Int × Unit) :=
 (vec_works_12 n x8 x9).bind (fun r12 => (vec_flag n r12.1).bind (fun r13 => some (r13.1, ())))
def vec_asked_1__vec_works_12_s : Sig := ⟨[.c true [.int .i64, .int .i64, .int .i64, .int .i64, .int .i64, .int .i64, .int .i64], .c false [.int .i64], .c false [.int .i64], .c false [.int .i64], .c false [.int .i64], .c false [.con (.ptr 0 0)]], [(0, .var 84 [.con (.fn 67 [])])], .c false [.int .i64], [(0, .var 84 [.con (.fn 67 [])])]⟩
def vec_asked_1__vec_works_12_a : Ann := .d
noncomputable def vec_asked_1__vec_works_12_c (n : Nat) : Ctr Try.prog := .of Try.func74 n [vec_works_12_c n, vec_flag_c n] vec_asked_1__vec_works_12_a vec_asked_1__vec_works_12_s (fun d => vec_asked_1__vec_works_12 n d.1 d.2.1 d.2.2.1 d.2.2.2.1 d.2.2.2.2.1 d.2.2.2.2.2.1 d.2.2.2.2.2.2.1 d.2.2.2.2.2.2.2.1 d.2.2.2.2.2.2.2.2.1 d.2.2.2.2.2.2.2.2.2.1 d.2.2.2.2.2.2.2.2.2.2.1) fun d => by kernel_rfl
noncomputable def vec_works_13 (n : Nat) (x1 : Int) (x2 : Int) : Option (Bool × Unit) :=
 some (decide (x1 < x2), ())
def vec_works_13_s : Sig := ⟨[.c false [.int .i64], .c false [.int .i64]], [], .c false [.bool], []⟩
def vec_works_13_a : Ann := .d
noncomputable def vec_works_13_c (n : Nat) : Ctr Try.prog := .of Try.func68 n [] vec_works_13_a vec_works_13_s (fun d => vec_works_13 n d.1 d.2.1) fun d => by kernel_rfl
noncomputable def vec_asked_1__vec_works_13 (n : Nat) (x1 : Int) (x2 : Int) (x3 : Int) (x4 : Int) (x5 : Int) (x6 : Int) (x7 : Int) (x8 : Int) (x9 : Int) (x10 : Int) (x11 : Int) : Option (Int × Unit) :=
 (vec_works_13 n x8 x9).bind (fun r12 => (vec_flag n r12.1).bind (fun r13 => some (r13.1, ())))
def vec_asked_1__vec_works_13_s : Sig := ⟨[.c true [.int .i64, .int .i64, .int .i64, .int .i64, .int .i64, .int .i64, .int .i64], .c false [.int .i64], .c false [.int .i64], .c false [.int .i64], .c false [.int .i64], .c false [.con (.ptr 0 0)]], [(0, .var 84 [.con (.fn 68 [])])], .c false [.int .i64], [(0, .var 84 [.con (.fn 68 [])])]⟩
def vec_asked_1__vec_works_13_a : Ann := .d
noncomputable def vec_asked_1__vec_works_13_c (n : Nat) : Ctr Try.prog := .of Try.func74 n [vec_works_13_c n, vec_flag_c n] vec_asked_1__vec_works_13_a vec_asked_1__vec_works_13_s (fun d => vec_asked_1__vec_works_13 n d.1 d.2.1 d.2.2.1 d.2.2.2.1 d.2.2.2.2.1 d.2.2.2.2.2.1 d.2.2.2.2.2.2.1 d.2.2.2.2.2.2.2.1 d.2.2.2.2.2.2.2.2.1 d.2.2.2.2.2.2.2.2.2.1 d.2.2.2.2.2.2.2.2.2.2.1) fun d => by kernel_rfl
noncomputable def vec_works_14 (n : Nat) (x1 : Int) (x2 : Int) : Option (Bool × Unit) :=
 some (decide (x1 ≤ x2), ())
def vec_works_14_s : Sig := ⟨[.c false [.int .i64], .c false [.int .i64]], [], .c false [.bool], []⟩
def vec_works_14_a : Ann := .d
noncomputable def vec_works_14_c (n : Nat) : Ctr Try.prog := .of Try.func69 n [] vec_works_14_a vec_works_14_s (fun d => vec_works_14 n d.1 d.2.1) fun d => by kernel_rfl
noncomputable def vec_asked_1__vec_works_14 (n : Nat) (x1 : Int) (x2 : Int) (x3 : Int) (x4 : Int) (x5 : Int) (x6 : Int) (x7 : Int) (x8 : Int) (x9 : Int) (x10 : Int) (x11 : Int) : Option (Int × Unit) :=
 (vec_works_14 n x8 x9).bind (fun r12 => (vec_flag n r12.1).bind (fun r13 => some (r13.1, ())))
def vec_asked_1__vec_works_14_s : Sig := ⟨[.c true [.int .i64, .int .i64, .int .i64, .int .i64, .int .i64, .int .i64, .int .i64], .c false [.int .i64], .c false [.int .i64], .c false [.int .i64], .c false [.int .i64], .c false [.con (.ptr 0 0)]], [(0, .var 84 [.con (.fn 69 [])])], .c false [.int .i64], [(0, .var 84 [.con (.fn 69 [])])]⟩
def vec_asked_1__vec_works_14_a : Ann := .d
noncomputable def vec_asked_1__vec_works_14_c (n : Nat) : Ctr Try.prog := .of Try.func74 n [vec_works_14_c n, vec_flag_c n] vec_asked_1__vec_works_14_a vec_asked_1__vec_works_14_s (fun d => vec_asked_1__vec_works_14 n d.1 d.2.1 d.2.2.1 d.2.2.2.1 d.2.2.2.2.1 d.2.2.2.2.2.1 d.2.2.2.2.2.2.1 d.2.2.2.2.2.2.2.1 d.2.2.2.2.2.2.2.2.1 d.2.2.2.2.2.2.2.2.2.1 d.2.2.2.2.2.2.2.2.2.2.1) fun d => by kernel_rfl
noncomputable def vec_works_15 (n : Nat) (x1 : Int) (x2 : Int) (x3 : Int) (x4 : Int) (x5 : Int) (x6 : Int) (x7 : Int) (x8 : Int) (x9 : Int) (x10 : Int) (x11 : Int) : Option (Int × Unit) :=
 cond (decide (x8 = 1))
 (some (x9, ()))
 (some (x10, ()))
def vec_works_15_s : Sig := ⟨[.c true [.int .i64, .int .i64, .int .i64, .int .i64, .int .i64, .int .i64, .int .i64], .c false [.int .i64], .c false [.int .i64], .c false [.int .i64], .c false [.int .i64]], [], .c false [.int .i64], []⟩
def vec_works_15_a : Ann := .d
noncomputable def vec_works_15_c (n : Nat) : Ctr Try.prog := .of Try.func70 n [] vec_works_15_a vec_works_15_s (fun d => vec_works_15 n d.1 d.2.1 d.2.2.1 d.2.2.2.1 d.2.2.2.2.1 d.2.2.2.2.2.1 d.2.2.2.2.2.2.1 d.2.2.2.2.2.2.2.1 d.2.2.2.2.2.2.2.2.1 d.2.2.2.2.2.2.2.2.2.1 d.2.2.2.2.2.2.2.2.2.2.1) fun d => by kernel_rfl
noncomputable def vec_works_16 (n : Nat) (x1 : Int) (x2 : Int) (x3 : Int) (x4 : Int) (x5 : Int) (x6 : Int) (x7 : Int) (x8 : Int) (x9 : Int) (x10 : Int) (x11 : Int) : Option (Int × Unit) :=
 ask (0 ≤ x11) (some (bits .or .i64 (shlI .i64 x8 x11) x9, ()))
def vec_works_16_s : Sig := ⟨[.c true [.int .i64, .int .i64, .int .i64, .int .i64, .int .i64, .int .i64, .int .i64], .c false [.int .i64], .c false [.int .i64], .c false [.int .i64], .c false [.int .i64]], [], .c false [.int .i64], []⟩
def vec_works_16_a : Ann := .d
noncomputable def vec_works_16_c (n : Nat) : Ctr Try.prog := .of Try.func71 n [] vec_works_16_a vec_works_16_s (fun d => vec_works_16 n d.1 d.2.1 d.2.2.1 d.2.2.2.1 d.2.2.2.2.1 d.2.2.2.2.2.1 d.2.2.2.2.2.2.1 d.2.2.2.2.2.2.2.1 d.2.2.2.2.2.2.2.2.1 d.2.2.2.2.2.2.2.2.2.1 d.2.2.2.2.2.2.2.2.2.2.1) fun d => by kernel_rfl
noncomputable def vec_works_17 (n : Nat) (x1 : Int) (x2 : Int) (x3 : Int) (x4 : Int) (x5 : Int) (x6 : Int) (x7 : Int) (x8 : Int) (x9 : Int) (x10 : Int) (x11 : Int) : Option (Int × Unit) :=
 ask (0 ≤ x7) ((vec_Mask n (IntKind.wrap .i64 ((IntKind.wrap .i64 (x6 - x7)) + 1))).bind (fun r12 => some (bits .and .i64 (shrI .i64 x8 x7) r12.1, ())))
def vec_works_17_s : Sig := ⟨[.c true [.int .i64, .int .i64, .int .i64, .int .i64, .int .i64, .int .i64, .int .i64], .c false [.int .i64], .c false [.int .i64], .c false [.int .i64], .c false [.int .i64]], [], .c false [.int .i64], []⟩
def vec_works_17_a : Ann := .d
noncomputable def vec_works_17_c (n : Nat) : Ctr Try.prog := .of Try.func72 n [vec_Mask_c n] vec_works_17_a vec_works_17_s (fun d => vec_works_17 n d.1 d.2.1 d.2.2.1 d.2.2.2.1 d.2.2.2.2.1 d.2.2.2.2.2.1 d.2.2.2.2.2.2.1 d.2.2.2.2.2.2.2.1 d.2.2.2.2.2.2.2.2.1 d.2.2.2.2.2.2.2.2.2.1 d.2.2.2.2.2.2.2.2.2.2.1) fun d => by kernel_rfl
noncomputable def vec_Do (n : Nat) (x1 : Int) (x2 : Int) (x3 : Int) (x4 : Int) (x5 : Int) (x6 : Int) (x7 : Int) (x8 : Int) (x9 : Int) (x10 : Int) (x11 : Int) : Option (Int × Unit) :=
 (vec_works n).bind (fun r12 => cond (decide (x1 = 1))
 ((vec_works_1 n x1 x2 x3 x4 x5 x6 x7 x8 x9 x10 x11).bind (fun r13 => some (r13.1, ())))
 (cond (decide (x1 = 3))
 ((vec_two_1__vec_works_2 n x1 x2 x3 x4 x5 x6 x7 x8 x9 x10 x11).bind (fun r14 => some (r14.1, ())))
 (cond (decide (x1 = 4))
 ((vec_asked_1__vec_works_3 n x1 x2 x3 x4 x5 x6 x7 x8 x9 x10 x11).bind (fun r15 => some (r15.1, ())))
 (cond (decide (x1 = 5))
 ((vec_works_4 n x1 x2 x3 x4 x5 x6 x7 x8 x9 x10 x11).bind (fun r16 => some (r16.1, ())))
 (cond (decide (x1 = 6))
 ((vec_two_1__vec_works_5 n x1 x2 x3 x4 x5 x6 x7 x8 x9 x10 x11).bind (fun r17 => some (r17.1, ())))
 (cond (decide (x1 = 7))
 ((vec_two_1__vec_works_6 n x1 x2 x3 x4 x5 x6 x7 x8 x9 x10 x11).bind (fun r18 => some (r18.1, ())))
 (cond (decide (x1 = 8))
 ((vec_two_1__vec_works_7 n x1 x2 x3 x4 x5 x6 x7 x8 x9 x10 x11).bind (fun r19 => some (r19.1, ())))
 (cond (decide (x1 = 9))
 ((vec_two_1__vec_works_8 n x1 x2 x3 x4 x5 x6 x7 x8 x9 x10 x11).bind (fun r20 => some (r20.1, ())))
 (cond (decide (x1 = 10))
 ((vec_two_1__vec_works_9 n x1 x2 x3 x4 x5 x6 x7 x8 x9 x10 x11).bind (fun r21 => some (r21.1, ())))
 (cond (decide (x1 = 11))
 ((vec_two_1__vec_works_10 n x1 x2 x3 x4 x5 x6 x7 x8 x9 x10 x11).bind (fun r22 => some (r22.1, ())))
 (cond (decide (x1 = 12))
 ((vec_asked_1__vec_works_11 n x1 x2 x3 x4 x5 x6 x7 x8 x9 x10 x11).bind (fun r23 => some (r23.1, ())))
 (cond (decide (x1 = 13))
 ((vec_asked_1__vec_works_12 n x1 x2 x3 x4 x5 x6 x7 x8 x9 x10 x11).bind (fun r24 => some (r24.1, ())))
 (cond (decide (x1 = 14))
 ((vec_asked_1__vec_works_13 n x1 x2 x3 x4 x5 x6 x7 x8 x9 x10 x11).bind (fun r25 => some (r25.1, ())))
 (cond (decide (x1 = 15))
 ((vec_asked_1__vec_works_14 n x1 x2 x3 x4 x5 x6 x7 x8 x9 x10 x11).bind (fun r26 => some (r26.1, ())))
 (cond (decide (x1 = 16))
 ((vec_works_15 n x1 x2 x3 x4 x5 x6 x7 x8 x9 x10 x11).bind (fun r27 => some (r27.1, ())))
 (cond (decide (x1 = 17))
 ((vec_works_16 n x1 x2 x3 x4 x5 x6 x7 x8 x9 x10 x11).bind (fun r28 => some (r28.1, ())))
 (cond (decide (x1 = 18))
 ((vec_works_17 n x1 x2 x3 x4 x5 x6 x7 x8 x9 x10 x11).bind (fun r29 => some (r29.1, ())))
 (some (0, ())))))))))))))))))))
def vec_Do_s : Sig := ⟨[.c true [.int .i64, .int .i64, .int .i64, .int .i64, .int .i64, .int .i64, .int .i64], .c false [.int .i64], .c false [.int .i64], .c false [.int .i64], .c false [.int .i64]], [], .c false [.int .i64], []⟩
def vec_Do_a : Ann := .d
noncomputable def vec_Do_c (n : Nat) : Ctr Try.prog := .of Try.func43 n [vec_works_c n, vec_works_1_c n, vec_two_1__vec_works_2_c n, vec_asked_1__vec_works_3_c n, vec_works_4_c n, vec_two_1__vec_works_5_c n, vec_two_1__vec_works_6_c n, vec_two_1__vec_works_7_c n, vec_two_1__vec_works_8_c n, vec_two_1__vec_works_9_c n, vec_two_1__vec_works_10_c n, vec_asked_1__vec_works_11_c n, vec_asked_1__vec_works_12_c n, vec_asked_1__vec_works_13_c n, vec_asked_1__vec_works_14_c n, vec_works_15_c n, vec_works_16_c n, vec_works_17_c n] vec_Do_a vec_Do_s (fun d => vec_Do n d.1 d.2.1 d.2.2.1 d.2.2.2.1 d.2.2.2.2.1 d.2.2.2.2.2.1 d.2.2.2.2.2.2.1 d.2.2.2.2.2.2.2.1 d.2.2.2.2.2.2.2.2.1 d.2.2.2.2.2.2.2.2.2.1 d.2.2.2.2.2.2.2.2.2.2.1) fun d => by kernel_rfl
noncomputable def net_Eval_l1b (n : Nat) (x2 : List Ksi) (x7 : List Int) (self : Int × List Int × Unit → Option ((List Int × Unit))) (d10 : Int × List Int × Unit) : Option ((List Int × Unit)) :=
 cond (decide (d10.1 < (x2.length : Int)))
 (ask (0 ≤ d10.1 ∧ d10.1 < (x2.length : Int)) (ask (0 ≤ d10.1 ∧ d10.1 < (x7.length : Int)) (ask (0 ≤ ((Ksi_at x2 d10.1).2) ∧ (Ksi_at x2 d10.1).2 < (d10.2.1.length : Int)) (self (IntKind.wrap .i64 (d10.1 + 1), d10.2.1.set ((Ksi_at x2 d10.1).2).toNat (Ki_at x7 d10.1), ())))))
 (some (d10.2.1, ()))
noncomputable def net_Eval_l1 (n : Nat) (x2 : List Ksi) (x7 : List Int) : Int × List Int × Unit → Option ((List Int × Unit)) := iter (net_Eval_l1b n x2 x7) n
noncomputable def net_Eval_l2b (n : Nat) (x3 : List Ksiii) (x6 : List Int) (self : Int × List Int × Unit → Option ((List Int × Unit))) (d14 : Int × List Int × Unit) : Option ((List Int × Unit)) :=
 cond (decide (d14.1 < (x3.length : Int)))
 (ask (0 ≤ d14.1 ∧ d14.1 < (x3.length : Int)) (ask (0 ≤ d14.1 ∧ d14.1 < (x6.length : Int)) (ask (0 ≤ (((Ksiii_at x3 d14.1).2).1) ∧ ((Ksiii_at x3 d14.1).2).1 < (d14.2.1.length : Int)) (self (IntKind.wrap .i64 (d14.1 + 1), d14.2.1.set (((Ksiii_at x3 d14.1).2).1).toNat (Ki_at x6 d14.1), ())))))
 (some (d14.2.1, ()))
noncomputable def net_Eval_l2 (n : Nat) (x3 : List Ksiii) (x6 : List Int) : Int × List Int × Unit → Option ((List Int × Unit)) := iter (net_Eval_l2b n x3 x6) n
noncomputable def net_Eval_l3b (n : Nat) (x1 : List Kiiiiiii) (self : Int × List Int × Unit → Option ((List Int × Unit))) (d18 : Int × List Int × Unit) : Option ((List Int × Unit)) :=
 cond (decide (d18.1 < (x1.length : Int)))
 (ask (0 ≤ d18.1 ∧ d18.1 < (x1.length : Int)) (((cond (decide (((Kiiiiiii_at x1 d18.1).1) ≠ 21))
 (some (decide (((Kiiiiiii_at x1 d18.1).1) ≠ 22), ()))
 (some (false, ()))) : Option ((Bool × Unit))).bind (fun d19 => cond d19.1
 (ask (0 ≤ ((((Kiiiiiii_at x1 d18.1).2).2).1) ∧ (((Kiiiiiii_at x1 d18.1).2).2).1 < (d18.2.1.length : Int)) (ask (0 ≤ (((((Kiiiiiii_at x1 d18.1).2).2).2).1) ∧ ((((Kiiiiiii_at x1 d18.1).2).2).2).1 < (d18.2.1.length : Int)) (ask (0 ≤ ((((((Kiiiiiii_at x1 d18.1).2).2).2).2).1) ∧ (((((Kiiiiiii_at x1 d18.1).2).2).2).2).1 < (d18.2.1.length : Int)) (ask (0 ≤ (((((Kiiiiiii_at x1 d18.1).2).2).2).1) ∧ ((((Kiiiiiii_at x1 d18.1).2).2).2).1 < (x1.length : Int)) ((vec_Do n ((Kiiiiiii_at x1 d18.1).1) (((Kiiiiiii_at x1 d18.1).2).1) ((((Kiiiiiii_at x1 d18.1).2).2).1) (((((Kiiiiiii_at x1 d18.1).2).2).2).1) ((((((Kiiiiiii_at x1 d18.1).2).2).2).2).1) (((((((Kiiiiiii_at x1 d18.1).2).2).2).2).2).1) (((((((Kiiiiiii_at x1 d18.1).2).2).2).2).2).2) (Ki_at d18.2.1 ((((Kiiiiiii_at x1 d18.1).2).2).1)) (Ki_at d18.2.1 (((((Kiiiiiii_at x1 d18.1).2).2).2).1)) (Ki_at d18.2.1 ((((((Kiiiiiii_at x1 d18.1).2).2).2).2).1)) (((Kiiiiiii_at x1 (((((Kiiiiiii_at x1 d18.1).2).2).2).1)).2).1)).bind (fun r20 => ask (0 ≤ d18.1 ∧ d18.1 < (d18.2.1.length : Int)) (self (IntKind.wrap .i64 (d18.1 + 1), d18.2.1.set d18.1.toNat r20.1, ()))))))))
 (self (IntKind.wrap .i64 (d18.1 + 1), d18.2.1, ())))))
 (some (d18.2.1, ()))
noncomputable def net_Eval_l3 (n : Nat) (x1 : List Kiiiiiii) : Int × List Int × Unit → Option ((List Int × Unit)) := iter (net_Eval_l3b n x1) n
noncomputable def net_Eval (n : Nat) (x1 : List Kiiiiiii) (x2 : List Ksi) (x3 : List Ksiii) (x4 : List Kisi) (x5 : List Ksi) (x6 : List Int) (x7 : List Int) : Option (List Int × Unit) :=
 ask ((0 ≤ (x1.length : Int) ∧ (x1.length : Int) ≤ (x1.length : Int)) ∧ (8 : Int) * (x1.length : Int) ≤ 281474976710656 ∧ (x1.length : Int) ≤ 281474976710656) ((net_Eval_l1 n x2 x7 (0, List.replicate (x1.length : Int).toNat 0, ())).bind (fun d11 => (net_Eval_l2 n x3 x6 (0, d11.1, ())).bind (fun d15 => (net_Eval_l3 n x1 (0, d15.1, ())).bind (fun d21 => some (d21.1, ())))))
def net_Eval_s : Sig := ⟨[.c true [.row Kiiiiiii_, .row Ksi_, .row Ksiii_, .row Kisi_, .row Ksi_], .c false [.row i_], .c false [.row i_]], [], .c false [.row i_], []⟩
def net_Eval_a : Ann := .s .d (.s .d (.s (.s .d (.b (.l [7, 8, 9, 17, 21, 22, 23, 24, 25, 26, 27, 28, 29, 30, 31, 32, 33, 34] [293] ⟨[(7, .c false [.con (.own 293 1)]), (21, .c false [.int .i64])], [(293, .row 3 i_)]⟩ [(.exit 0, ⟨[(7, .c false [.con (.own 293 1)])], [(293, .row 3 i_)]⟩)] .d))) (.s (.s .d (.b (.l [7, 10, 11, 38, 39, 40, 41, 42, 43, 44, 45, 46, 47, 48, 49, 50, 51] [293] ⟨[(7, .c false [.con (.own 293 1)]), (38, .c false [.int .i64])], [(293, .row 3 i_)]⟩ [(.exit 2, ⟨[(7, .c false [.con (.own 293 1)])], [(293, .row 3 i_)]⟩)] .d))) (.s (.s .d (.b (.l [7, 12, 13, 55, 56, 57, 58, 59, 60, 61, 62, 63, 64, 65, 66, 67, 68, 69, 70, 71, 72, 73, 74, 75, 76, 77, 78, 79, 80, 81, 82, 83, 84, 85, 86, 87, 88, 89, 90, 91, 92, 93, 94, 95] [293] ⟨[(7, .c false [.con (.own 293 1)]), (55, .c false [.int .i64])], [(293, .row 3 i_)]⟩ [(.exit 4, ⟨[(7, .c false [.con (.own 293 1)])], [(293, .row 3 i_)]⟩)] (.s .d (.s .d (.s (.b (.s .d (.j [60, 61, 62, 63, 64, 65, 66, 67] [] [(.normal, ⟨[(67, .c false [.bool])], []⟩)] .d .d))) .d)))))) .d))))
noncomputable def net_Eval_c (n : Nat) : Ctr Try.prog := .of Try.func26 n [vec_Do_c n] net_Eval_a net_Eval_s (fun d => net_Eval n d.1 d.2.1 d.2.2.1 d.2.2.2.1 d.2.2.2.2.1 d.2.2.2.2.2.1 d.2.2.2.2.2.2.1) fun d => by kernel_rfl
noncomputable def slices_Clone_int_int (n : Nat) (l : List Int) : Option (List Int × Unit) :=
 ask (True ∧ ((([] : List Int)).length + l.length) * 8 ≤ 140737488355328) (some (l, ()))
def slices_Clone_int_int_s : Sig := cloneS i_
noncomputable def slices_Clone_int_int_c (n : Nat) : Ctr Try.prog := ⟨.fn 36, slices_Clone_int_int_s, fun d => slices_Clone_int_int n d.1, fun d r h => Spec.clone (P := Try.prog) (f := 36) (fn := Try.f36) (t := i_) (T := 42) (E' := 3) (c := fun l : List Int => True ∧ ((([] : List Int)).length + l.length) * 8 ≤ 140737488355328) (d := d) (r := r) Try.func36 rfl rfl rfl rfl rfl rfl rfl rfl (by kernel_rfl) (by kernel_rfl) (by kernel_rfl) (by kernel_rfl) (fun l => by kernel_rfl) (fun l => by kernel_rfl) (fun l => by kernel_rfl) (fun l => by kernel_rfl) h⟩
noncomputable def sim_States_y (n : Nat) (x1 : List Int) (x2 : List Int) (x3 : Int) : Option (Bool × Int × List (List Int) × Unit) :=
 ask (x3 = 0) ((slices_Clone_int_int n x1).bind (fun r4 => ask (True ∧ (([r4.1] : List (List Int))).length * 24 ≤ 140737488355328) (some (true, 0, ([r4.1] : List (List Int)), ()))))
def sim_States_y_s : Sig := ⟨[.c false [.con (.yld 0 [])], .c false [.row i_], .c false [.row i_]], [(0, .lop 19000 [(5, .c false [.con (.ptr 1 0)])]), (1, .var 28 [.con .nilsl])], .c false [.bool], [(0, .lop 19000 [(5, .c false [.con (.ptr 1 0)])]), (1, .var 28 [.con (.own 356 1)]), (356, .row 42 KLi_)]⟩
def sim_States_y_a : Ann := .s .d .d
noncomputable def sim_States_y_c (n : Nat) : Ctr Try.prog := .ofY 19000 n [slices_Clone_int_int_c n] sim_States_y_a sim_States_y_s (fun d => sim_States_y n d.1 d.2.1 d.2.2.1) fun d => by kernel_rfl
noncomputable def net_After_l1b (n : Nat) (r8 : List Int × Unit) (x3 : List Ksiii) (self : Int × List Int × Unit → Option ((List Int × Unit))) (d11 : Int × List Int × Unit) : Option ((List Int × Unit)) :=
 cond (decide (d11.1 < (x3.length : Int)))
 (ask (0 ≤ d11.1 ∧ d11.1 < (x3.length : Int)) (ask (0 ≤ ((((Ksiii_at x3 d11.1).2).2).1) ∧ (((Ksiii_at x3 d11.1).2).2).1 < (r8.1.length : Int)) (ask (0 ≤ d11.1 ∧ d11.1 < (d11.2.1.length : Int)) (self (IntKind.wrap .i64 (d11.1 + 1), d11.2.1.set d11.1.toNat (Ki_at r8.1 ((((Ksiii_at x3 d11.1).2).2).1)), ())))))
 (some (d11.2.1, ()))
noncomputable def net_After_l1 (n : Nat) (r8 : List Int × Unit) (x3 : List Ksiii) : Int × List Int × Unit → Option ((List Int × Unit)) := iter (net_After_l1b n r8 x3) n
noncomputable def net_After (n : Nat) (x1 : List Kiiiiiii) (x2 : List Ksi) (x3 : List Ksiii) (x4 : List Kisi) (x5 : List Ksi) (x6 : List Int) (x7 : List Int) : Option (List Int × Unit) :=
 (net_Eval n x1 x2 x3 x4 x5 x6 x7).bind (fun r8 => ask ((0 ≤ (x3.length : Int) ∧ (x3.length : Int) ≤ (x3.length : Int)) ∧ (8 : Int) * (x3.length : Int) ≤ 281474976710656 ∧ (x3.length : Int) ≤ 281474976710656) ((net_After_l1 n r8 x3 (0, List.replicate (x3.length : Int).toNat 0, ())).bind (fun d12 => some (d12.1, ()))))
def net_After_s : Sig := ⟨[.c true [.row Kiiiiiii_, .row Ksi_, .row Ksiii_, .row Kisi_, .row Ksi_], .c false [.row i_], .c false [.row i_]], [], .c false [.row i_], []⟩
def net_After_a : Ann := .s .d (.s .d (.s .d (.s (.s .d (.b (.l [8, 9, 10, 18, 22, 23, 24, 25, 26, 27, 28, 29, 30, 31, 32, 33, 34, 35] [293] ⟨[(8, .c false [.con (.own 293 1)]), (22, .c false [.int .i64])], [(293, .row 3 i_)]⟩ [(.exit 0, ⟨[(8, .c false [.con (.own 293 1)])], [(293, .row 3 i_)]⟩)] .d))) .d)))
noncomputable def net_After_c (n : Nat) : Ctr Try.prog := .of Try.func25 n [net_Eval_c n] net_After_a net_After_s (fun d => net_After n d.1 d.2.1 d.2.2.1 d.2.2.2.1 d.2.2.2.2.1 d.2.2.2.2.2.1 d.2.2.2.2.2.2.1) fun d => by kernel_rfl
noncomputable def sim_States_y_i2 (n : Nat) (x1 : List Int) (x2 : List Int) (x3 : Int) (x4 : List (List Int)) : Option (Bool × Int × List (List Int) × Unit) :=
 ask (x3 = 0) ((slices_Clone_int_int n x1).bind (fun r5 => ask (True ∧ (x4.length + (([r5.1] : List (List Int))).length) * 24 ≤ 140737488355328) (some (true, 0, x4 ++ ([r5.1] : List (List Int)), ()))))
def sim_States_y_i2_s : Sig := ⟨[.c false [.con (.yld 0 [])], .c false [.row i_], .c false [.row i_]], [(0, .lop 19000 [(5, .c false [.con (.ptr 1 0)])]), (1, .var 28 [.con (.own 2 1)]), (2, .row 42 KLi_)], .c false [.bool], [(0, .lop 19000 [(5, .c false [.con (.ptr 1 0)])]), (1, .var 28 [.con (.own 356 1)]), (356, .row 42 KLi_)]⟩
def sim_States_y_i2_a : Ann := .s .d .d
noncomputable def sim_States_y_i2_c (n : Nat) : Ctr Try.prog := .ofY 19000 n [slices_Clone_int_int_c n] sim_States_y_i2_a sim_States_y_i2_s (fun d => sim_States_y_i2 n d.1 d.2.1 d.2.2.1 d.2.2.2.1) fun d => by kernel_rfl
noncomputable def sim_cycles_1__sim_States_o_l1b (n : Nat) (x2 : List Kiiiiiii) (x3 : List Ksi) (x4 : List Ksiii) (x5 : List Kisi) (x6 : List Ksi) (x7 : List (List Int)) (self : List Int × Int × Int × List (List Int) × Unit → Option ((Int × List (List Int) × Unit) ⊕ (Int × List (List Int) × Unit))) (d12 : List Int × Int × Int × List (List Int) × Unit) : Option ((Int × List (List Int) × Unit) ⊕ (Int × List (List Int) × Unit)) :=
 cond (decide (d12.2.1 < (x7.length : Int)))
 (ask (0 ≤ d12.2.1 ∧ d12.2.1 < (x7.length : Int)) ((net_Eval n x2 x3 x4 x5 x6 d12.1 (KLi_at x7 d12.2.1)).bind (fun r13 => (sim_States_y_i2 n d12.1 r13.1 d12.2.2.1 d12.2.2.2.1).bind (fun r14 => cond (!r14.1)
 (some (.inl (r14.2.1, r14.2.2.1, ())))
 ((net_After n x2 x3 x4 x5 x6 d12.1 (KLi_at x7 d12.2.1)).bind (fun r15 => self (r15.1, IntKind.wrap .i64 (d12.2.1 + 1), r14.2.1, r14.2.2.1, ())))))))
 (some (.inr (d12.2.2.1, d12.2.2.2.1, ())))
noncomputable def sim_cycles_1__sim_States_o_l1 (n : Nat) (x2 : List Kiiiiiii) (x3 : List Ksi) (x4 : List Ksiii) (x5 : List Kisi) (x6 : List Ksi) (x7 : List (List Int)) : List Int × Int × Int × List (List Int) × Unit → Option ((Int × List (List Int) × Unit) ⊕ (Int × List (List Int) × Unit)) := iter (sim_cycles_1__sim_States_o_l1b n x2 x3 x4 x5 x6 x7) n
noncomputable def sim_cycles_1__sim_States_o (n : Nat) (x1 : Int) (x2 : List Kiiiiiii) (x3 : List Ksi) (x4 : List Ksiii) (x5 : List Kisi) (x6 : List Ksi) (x7 : List (List Int)) : Option (Int × List Kiiiiiii × List Ksi × List Ksiii × List Kisi × List Ksi × List (List Int) × List (List Int) × Unit) :=
 (net_First n x2 x3 x4 x5 x6).bind (fun r8 => (sim_cycles_1__sim_States_o_l1 n x2 x3 x4 x5 x6 x7 (r8.1, 0, x1, ([] : List (List Int)), ())).bind (Sum.elim (fun d16 => some (d16.1, x2, x3, x4, x5, x6, x7, d16.2.1, ())) (fun d17 => some (d17.1, x2, x3, x4, x5, x6, x7, d17.2.1, ()))))
def sim_cycles_1__sim_States_o_s : Sig := ⟨[.c false [.con (.yld 0 [])], .c false [.con (.ptr 1 0)], .c false [.con (.ptr 2 0)]], [(0, .lop 19000 [(5, .c false [.con (.ptr 3 0)])]), (1, .var 27 [.row Kiiiiiii_, .row Ksi_, .row Ksiii_, .row Kisi_, .row Ksi_]), (2, .var 28 [.row KLi_]), (3, .var 28 [.con .nilsl])], .t [], [(0, .lop 19000 [(5, .c false [.con (.ptr 3 0)])]), (1, .var 27 [.row Kiiiiiii_, .row Ksi_, .row Ksiii_, .row Kisi_, .row Ksi_]), (2, .var 28 [.row KLi_]), (3, .var 28 [.con (.own 100385 1)]), (100385, .row 42 KLi_)]⟩
def sim_cycles_1__sim_States_o_a : Ann := .s .d (.s .d (.b (.l [0, 4, 6, 11, 12, 13, 14, 15, 16, 17, 18, 19, 20, 21, 22, 23, 24, 25, 26, 27] [0, 3] ⟨[(0, .c false [.con (.yld 0 [])]), (4, .c false [.row i_]), (11, .c false [.int .i64])], [(0, .lop 19000 [(5, .c false [.con (.ptr 3 0)])]), (3, .var 28 [.con (.own 100000 1)]), (100000, .row 42 KLi_)]⟩ [(.ret, ⟨[], [(0, .lop 19000 [(5, .c false [.con (.ptr 3 0)])]), (3, .var 28 [.con (.own 100385 1)]), (100385, .row 42 KLi_)]⟩), (.exit 0, ⟨[], [(0, .lop 19000 [(5, .c false [.con (.ptr 3 0)])]), (3, .var 28 [.con (.own 100000 1)]), (100000, .row 42 KLi_)]⟩)] .d)))
noncomputable def sim_cycles_1__sim_States_o_c (n : Nat) : Ctr Try.prog := .of Try.func47 n [net_First_c n, net_Eval_c n, sim_States_y_c n, net_After_c n, sim_States_y_i2_c n] sim_cycles_1__sim_States_o_a sim_cycles_1__sim_States_o_s (fun d => sim_cycles_1__sim_States_o n d.1 d.2.1 d.2.2.1 d.2.2.2.1 d.2.2.2.2.1 d.2.2.2.2.2.1 d.2.2.2.2.2.2.1) fun d => by kernel_rfl
noncomputable def sim_States_j1 (n : Nat) (r7 : List Int × Unit) (r9 : Int × List Kiiiiiii × List Ksi × List Ksiii × List Kisi × List Ksi × List (List Int) × List (List Int) × Unit) (x1 : List Kiiiiiii) (x2 : List Ksi) (x3 : List Ksiii) (x4 : List Kisi) (x5 : List Ksi) (x6 : List (List Int)) : Option ((List Int × Unit)) :=
 cond (decide ((0 : Int) < (x6.length : Int)))
 (ask (0 ≤ (IntKind.wrap .i64 ((x6.length : Int) - 1)) ∧ IntKind.wrap .i64 ((x6.length : Int) - 1) < (r9.2.2.2.2.2.2.2.1.length : Int)) (ask (0 ≤ (IntKind.wrap .i64 ((x6.length : Int) - 1)) ∧ IntKind.wrap .i64 ((x6.length : Int) - 1) < (x6.length : Int)) ((net_After n x1 x2 x3 x4 x5 (KLi_at r9.2.2.2.2.2.2.2.1 (IntKind.wrap .i64 ((x6.length : Int) - 1))) (KLi_at x6 (IntKind.wrap .i64 ((x6.length : Int) - 1)))).bind (fun r10 => some (r10.1, ())))))
 (some (r7.1, ()))
noncomputable def sim_States (n : Nat) (x1 : List Kiiiiiii) (x2 : List Ksi) (x3 : List Ksiii) (x4 : List Kisi) (x5 : List Ksi) (x6 : List (List Int)) : Option (List (List Int) × Unit) :=
 (net_First n x1 x2 x3 x4 x5).bind (fun r7 => (sim_cycles n x1 x2 x3 x4 x5 x6).bind (fun r8 => (sim_cycles_1__sim_States_o n 0 r8.1 r8.2.1 r8.2.2.1 r8.2.2.2.1 r8.2.2.2.2.1 r8.2.2.2.2.2.1).bind (fun r9 => ask (0 ≤ r9.1) (cond (decide (r9.1 = 0))
 ((sim_States_j1 n r7 r9 x1 x2 x3 x4 x5 x6).bind (fun d11 => ask (True ∧ (r9.2.2.2.2.2.2.2.1.length + (([d11.1] : List (List Int))).length) * 24 ≤ 140737488355328) (some (r9.2.2.2.2.2.2.2.1 ++ ([d11.1] : List (List Int)), ()))))
 (none)))))
def sim_States_s : Sig := ⟨[.c true [.row Kiiiiiii_, .row Ksi_, .row Ksiii_, .row Kisi_, .row Ksi_], .c false [.row KLi_]], [], .c false [.row KLi_], []⟩
def sim_States_a : Ann := .s .d (.s .d (.s .d (.s (.s .d (.b (.r 19000 [5] [] [.normal]))) (.j [6, 8, 21, 22, 23, 24, 25, 26, 27, 28, 29, 30, 31, 32, 33, 34, 35, 36] [] [(.normal, ⟨[(6, .c false [.row i_])], []⟩)] .d .d))))
noncomputable def sim_States_c (n : Nat) : Ctr Try.prog := .of Try.func19 n [net_First_c n, sim_cycles_c n, sim_cycles_1__sim_States_o_c n, net_After_c n] sim_States_a sim_States_s (fun d => sim_States n d.1 d.2.1 d.2.2.1 d.2.2.2.1 d.2.2.2.2.1 d.2.2.2.2.2.1) fun d => by kernel_rfl
noncomputable def sim_props_l1b (n : Nat) (x4 : List Kisi) (x6 : List Int) (self : Int × List Bool × Unit → Option ((List Bool × Unit))) (d9 : Int × List Bool × Unit) : Option ((List Bool × Unit)) :=
 cond (decide (d9.1 < (x4.length : Int)))
 (ask (0 ≤ d9.1 ∧ d9.1 < (x4.length : Int)) (ask (0 ≤ (((Kisi_at x4 d9.1).2).2) ∧ ((Kisi_at x4 d9.1).2).2 < (x6.length : Int)) (ask (0 ≤ d9.1 ∧ d9.1 < (d9.2.1.length : Int)) (self (IntKind.wrap .i64 (d9.1 + 1), d9.2.1.set d9.1.toNat (decide ((Ki_at x6 (((Kisi_at x4 d9.1).2).2)) = 1)), ())))))
 (some (d9.2.1, ()))
noncomputable def sim_props_l1 (n : Nat) (x4 : List Kisi) (x6 : List Int) : Int × List Bool × Unit → Option ((List Bool × Unit)) := iter (sim_props_l1b n x4 x6) n
noncomputable def sim_props (n : Nat) (x1 : List Kiiiiiii) (x2 : List Ksi) (x3 : List Ksiii) (x4 : List Kisi) (x5 : List Ksi) (x6 : List Int) : Option (List Bool × Unit) :=
 ask ((0 ≤ (x4.length : Int) ∧ (x4.length : Int) ≤ (x4.length : Int)) ∧ (1 : Int) * (x4.length : Int) ≤ 281474976710656 ∧ (x4.length : Int) ≤ 281474976710656) ((sim_props_l1 n x4 x6 (0, List.replicate (x4.length : Int).toNat false, ())).bind (fun d10 => some (d10.1, ())))
def sim_props_s : Sig := ⟨[.c true [.row Kiiiiiii_, .row Ksi_, .row Ksiii_, .row Kisi_, .row Ksi_], .c false [.row i_]], [], .c false [.row b_], []⟩
def sim_props_a : Ann := .s .d (.s .d (.s (.s .d (.b (.l [5, 6, 7, 11, 15, 16, 17, 18, 19, 20, 21, 22, 23, 24, 25, 26, 27, 28, 29] [293] ⟨[(5, .c false [.con (.own 293 1)]), (15, .c false [.int .i64])], [(293, .row 4 b_)]⟩ [(.exit 0, ⟨[(5, .c false [.con (.own 293 1)])], [(293, .row 4 b_)]⟩)] .d))) .d))
noncomputable def sim_props_c (n : Nat) : Ctr Try.prog := .of Try.func40 n [] sim_props_a sim_props_s (fun d => sim_props n d.1 d.2.1 d.2.2.1 d.2.2.2.1 d.2.2.2.2.1 d.2.2.2.2.2.1) fun d => by kernel_rfl
noncomputable def sim_Run_y (n : Nat) (x1 : List Int) (x2 : List Int) (x3 : Int) (x4 : List Kiiiiiii) (x5 : List Ksi) (x6 : List Ksiii) (x7 : List Kisi) (x8 : List Ksi) : Option (Bool × Int × List Kiiiiiii × List Ksi × List Ksiii × List Kisi × List Ksi × List (List Bool) × Unit) :=
 ask (x3 = 0) ((sim_props n x4 x5 x6 x7 x8 x2).bind (fun r9 => ask (True ∧ (([r9.1] : List (List Bool))).length * 24 ≤ 140737488355328) (some (true, 0, x4, x5, x6, x7, x8, ([r9.1] : List (List Bool)), ()))))
def sim_Run_y_s : Sig := ⟨[.c false [.con (.yld 0 [])], .c false [.row i_], .c false [.row i_]], [(0, .lop 22000 [(2, .c false [.con (.ptr 1 0)]), (5, .c false [.con (.ptr 2 0)])]), (1, .var 27 [.row Kiiiiiii_, .row Ksi_, .row Ksiii_, .row Kisi_, .row Ksi_]), (2, .var 39 [.con .nilsl])], .c false [.bool], [(0, .lop 22000 [(2, .c false [.con (.ptr 1 0)]), (5, .c false [.con (.ptr 2 0)])]), (1, .var 27 [.row Kiiiiiii_, .row Ksi_, .row Ksiii_, .row Kisi_, .row Ksi_]), (2, .var 39 [.con (.own 420 1)]), (420, .row 44 KLb_)]⟩
def sim_Run_y_a : Ann := .s .d .d
noncomputable def sim_Run_y_c (n : Nat) : Ctr Try.prog := .ofY 22000 n [sim_props_c n] sim_Run_y_a sim_Run_y_s (fun d => sim_Run_y n d.1 d.2.1 d.2.2.1 d.2.2.2.1 d.2.2.2.2.1 d.2.2.2.2.2.1 d.2.2.2.2.2.2.1 d.2.2.2.2.2.2.2.1) fun d => by kernel_rfl
noncomputable def sim_Run_y_i2 (n : Nat) (x1 : List Int) (x2 : List Int) (x3 : Int) (x4 : List Kiiiiiii) (x5 : List Ksi) (x6 : List Ksiii) (x7 : List Kisi) (x8 : List Ksi) (x9 : List (List Bool)) : Option (Bool × Int × List Kiiiiiii × List Ksi × List Ksiii × List Kisi × List Ksi × List (List Bool) × Unit) :=
 ask (x3 = 0) ((sim_props n x4 x5 x6 x7 x8 x2).bind (fun r10 => ask (True ∧ (x9.length + (([r10.1] : List (List Bool))).length) * 24 ≤ 140737488355328) (some (true, 0, x4, x5, x6, x7, x8, x9 ++ ([r10.1] : List (List Bool)), ()))))
def sim_Run_y_i2_s : Sig := ⟨[.c false [.con (.yld 0 [])], .c false [.row i_], .c false [.row i_]], [(0, .lop 22000 [(2, .c false [.con (.ptr 1 0)]), (5, .c false [.con (.ptr 2 0)])]), (1, .var 27 [.row Kiiiiiii_, .row Ksi_, .row Ksiii_, .row Kisi_, .row Ksi_]), (2, .var 39 [.con (.own 3 1)]), (3, .row 44 KLb_)], .c false [.bool], [(0, .lop 22000 [(2, .c false [.con (.ptr 1 0)]), (5, .c false [.con (.ptr 2 0)])]), (1, .var 27 [.row Kiiiiiii_, .row Ksi_, .row Ksiii_, .row Kisi_, .row Ksi_]), (2, .var 39 [.con (.own 420 1)]), (420, .row 44 KLb_)]⟩
def sim_Run_y_i2_a : Ann := .s .d .d
noncomputable def sim_Run_y_i2_c (n : Nat) : Ctr Try.prog := .ofY 22000 n [sim_props_c n] sim_Run_y_i2_a sim_Run_y_i2_s (fun d => sim_Run_y_i2 n d.1 d.2.1 d.2.2.1 d.2.2.2.1 d.2.2.2.2.1 d.2.2.2.2.2.1 d.2.2.2.2.2.2.1 d.2.2.2.2.2.2.2.1 d.2.2.2.2.2.2.2.2.1) fun d => by kernel_rfl
noncomputable def sim_cycles_1__sim_Run_o_l1b (n : Nat) (x2 : List Kiiiiiii) (x3 : List Ksi) (x4 : List Ksiii) (x5 : List Kisi) (x6 : List Ksi) (x7 : List (List Int)) (self : List Int × Int × Int × List Kiiiiiii × List Ksi × List Ksiii × List Kisi × List Ksi × List (List Bool) × Unit → Option ((Int × List Kiiiiiii × List Ksi × List Ksiii × List Kisi × List Ksi × List (List Bool) × Unit) ⊕ (Int × List Kiiiiiii × List Ksi × List Ksiii × List Kisi × List Ksi × List (List Bool) × Unit))) (d17 : List Int × Int × Int × List Kiiiiiii × List Ksi × List Ksiii × List Kisi × List Ksi × List (List Bool) × Unit) : Option ((Int × List Kiiiiiii × List Ksi × List Ksiii × List Kisi × List Ksi × List (List Bool) × Unit) ⊕ (Int × List Kiiiiiii × List Ksi × List Ksiii × List Kisi × List Ksi × List (List Bool) × Unit)) :=
 cond (decide (d17.2.1 < (x7.length : Int)))
 (ask (0 ≤ d17.2.1 ∧ d17.2.1 < (x7.length : Int)) ((net_Eval n x2 x3 x4 x5 x6 d17.1 (KLi_at x7 d17.2.1)).bind (fun r18 => (sim_Run_y_i2 n d17.1 r18.1 d17.2.2.1 d17.2.2.2.1 d17.2.2.2.2.1 d17.2.2.2.2.2.1 d17.2.2.2.2.2.2.1 d17.2.2.2.2.2.2.2.1 d17.2.2.2.2.2.2.2.2.1).bind (fun r19 => cond (!r19.1)
 (some (.inl (r19.2.1, r19.2.2.1, r19.2.2.2.1, r19.2.2.2.2.1, r19.2.2.2.2.2.1, r19.2.2.2.2.2.2.1, r19.2.2.2.2.2.2.2.1, ())))
 ((net_After n x2 x3 x4 x5 x6 d17.1 (KLi_at x7 d17.2.1)).bind (fun r20 => self (r20.1, IntKind.wrap .i64 (d17.2.1 + 1), r19.2.1, r19.2.2.1, r19.2.2.2.1, r19.2.2.2.2.1, r19.2.2.2.2.2.1, r19.2.2.2.2.2.2.1, r19.2.2.2.2.2.2.2.1, ())))))))
 (some (.inr (d17.2.2.1, d17.2.2.2.1, d17.2.2.2.2.1, d17.2.2.2.2.2.1, d17.2.2.2.2.2.2.1, d17.2.2.2.2.2.2.2.1, d17.2.2.2.2.2.2.2.2.1, ())))
noncomputable def sim_cycles_1__sim_Run_o_l1 (n : Nat) (x2 : List Kiiiiiii) (x3 : List Ksi) (x4 : List Ksiii) (x5 : List Kisi) (x6 : List Ksi) (x7 : List (List Int)) : List Int × Int × Int × List Kiiiiiii × List Ksi × List Ksiii × List Kisi × List Ksi × List (List Bool) × Unit → Option ((Int × List Kiiiiiii × List Ksi × List Ksiii × List Kisi × List Ksi × List (List Bool) × Unit) ⊕ (Int × List Kiiiiiii × List Ksi × List Ksiii × List Kisi × List Ksi × List (List Bool) × Unit)) := iter (sim_cycles_1__sim_Run_o_l1b n x2 x3 x4 x5 x6 x7) n
noncomputable def sim_cycles_1__sim_Run_o (n : Nat) (x1 : Int) (x2 : List Kiiiiiii) (x3 : List Ksi) (x4 : List Ksiii) (x5 : List Kisi) (x6 : List Ksi) (x7 : List (List Int)) (x8 : List Kiiiiiii) (x9 : List Ksi) (x10 : List Ksiii) (x11 : List Kisi) (x12 : List Ksi) : Option (Int × List Kiiiiiii × List Ksi × List Ksiii × List Kisi × List Ksi × List (List Int) × List Kiiiiiii × List Ksi × List Ksiii × List Kisi × List Ksi × List (List Bool) × Unit) :=
 (net_First n x2 x3 x4 x5 x6).bind (fun r13 => (sim_cycles_1__sim_Run_o_l1 n x2 x3 x4 x5 x6 x7 (r13.1, 0, x1, x8, x9, x10, x11, x12, ([] : List (List Bool)), ())).bind (Sum.elim (fun d21 => some (d21.1, x2, x3, x4, x5, x6, x7, d21.2.1, d21.2.2.1, d21.2.2.2.1, d21.2.2.2.2.1, d21.2.2.2.2.2.1, d21.2.2.2.2.2.2.1, ())) (fun d22 => some (d22.1, x2, x3, x4, x5, x6, x7, d22.2.1, d22.2.2.1, d22.2.2.2.1, d22.2.2.2.2.1, d22.2.2.2.2.2.1, d22.2.2.2.2.2.2.1, ()))))
def sim_cycles_1__sim_Run_o_s : Sig := ⟨[.c false [.con (.yld 0 [])], .c false [.con (.ptr 1 0)], .c false [.con (.ptr 2 0)]], [(0, .lop 22000 [(2, .c false [.con (.ptr 3 0)]), (5, .c false [.con (.ptr 4 0)])]), (1, .var 27 [.row Kiiiiiii_, .row Ksi_, .row Ksiii_, .row Kisi_, .row Ksi_]), (2, .var 28 [.row KLi_]), (3, .var 27 [.row Kiiiiiii_, .row Ksi_, .row Ksiii_, .row Kisi_, .row Ksi_]), (4, .var 39 [.con .nilsl])], .t [], [(0, .lop 22000 [(2, .c false [.con (.ptr 3 0)]), (5, .c false [.con (.ptr 4 0)])]), (1, .var 27 [.row Kiiiiiii_, .row Ksi_, .row Ksiii_, .row Kisi_, .row Ksi_]), (2, .var 28 [.row KLi_]), (3, .var 27 [.row Kiiiiiii_, .row Ksi_, .row Ksiii_, .row Kisi_, .row Ksi_]), (4, .var 39 [.con (.own 100385 1)]), (100385, .row 44 KLb_)]⟩
def sim_cycles_1__sim_Run_o_a : Ann := .s .d (.s .d (.b (.l [0, 4, 6, 11, 12, 13, 14, 15, 16, 17, 18, 19, 20, 21, 22, 23, 24, 25, 26, 27] [0, 3, 4] ⟨[(0, .c false [.con (.yld 0 [])]), (4, .c false [.row i_]), (11, .c false [.int .i64])], [(0, .lop 22000 [(2, .c false [.con (.ptr 3 0)]), (5, .c false [.con (.ptr 4 0)])]), (3, .var 27 [.row Kiiiiiii_, .row Ksi_, .row Ksiii_, .row Kisi_, .row Ksi_]), (4, .var 39 [.con (.own 100000 1)]), (100000, .row 44 KLb_)]⟩ [(.ret, ⟨[], [(0, .lop 22000 [(2, .c false [.con (.ptr 3 0)]), (5, .c false [.con (.ptr 4 0)])]), (3, .var 27 [.row Kiiiiiii_, .row Ksi_, .row Ksiii_, .row Kisi_, .row Ksi_]), (4, .var 39 [.con (.own 100385 1)]), (100385, .row 44 KLb_)]⟩), (.exit 0, ⟨[], [(0, .lop 22000 [(2, .c false [.con (.ptr 3 0)]), (5, .c false [.con (.ptr 4 0)])]), (3, .var 27 [.row Kiiiiiii_, .row Ksi_, .row Ksiii_, .row Kisi_, .row Ksi_]), (4, .var 39 [.con (.own 100000 1)]), (100000, .row 44 KLb_)]⟩)] .d)))
noncomputable def sim_cycles_1__sim_Run_o_c (n : Nat) : Ctr Try.prog := .of Try.func47 n [net_First_c n, net_Eval_c n, sim_Run_y_c n, net_After_c n, sim_Run_y_i2_c n] sim_cycles_1__sim_Run_o_a sim_cycles_1__sim_Run_o_s (fun d => sim_cycles_1__sim_Run_o n d.1 d.2.1 d.2.2.1 d.2.2.2.1 d.2.2.2.2.1 d.2.2.2.2.2.1 d.2.2.2.2.2.2.1 d.2.2.2.2.2.2.2.1 d.2.2.2.2.2.2.2.2.1 d.2.2.2.2.2.2.2.2.2.1 d.2.2.2.2.2.2.2.2.2.2.1 d.2.2.2.2.2.2.2.2.2.2.2.1) fun d => by kernel_rfl
noncomputable def sim_Run (n : Nat) (x1 : List Kiiiiiii) (x2 : List Ksi) (x3 : List Ksiii) (x4 : List Kisi) (x5 : List Ksi) (x6 : List (List Int)) : Option (List (List Bool) × Unit) :=
 (sim_cycles n x1 x2 x3 x4 x5 x6).bind (fun r7 => (sim_cycles_1__sim_Run_o n 0 r7.1 r7.2.1 r7.2.2.1 r7.2.2.2.1 r7.2.2.2.2.1 r7.2.2.2.2.2.1 x1 x2 x3 x4 x5).bind (fun r8 => ask (0 ≤ r8.1) (cond (decide (r8.1 = 0))
 (some (r8.2.2.2.2.2.2.2.2.2.2.2.2.1, ()))
 (none))))
def sim_Run_s : Sig := ⟨[.c true [.row Kiiiiiii_, .row Ksi_, .row Ksiii_, .row Kisi_, .row Ksi_], .c false [.row KLi_]], [], .c false [.row KLb_], []⟩
def sim_Run_a : Ann := .s .d (.s .d (.s (.s .d (.b (.r 22000 [2, 5] [] [.normal]))) .d))
noncomputable def sim_Run_c (n : Nat) : Ctr Try.prog := .of Try.func22 n [sim_cycles_c n, sim_cycles_1__sim_Run_o_c n] sim_Run_a sim_Run_s (fun d => sim_Run n d.1 d.2.1 d.2.2.1 d.2.2.2.1 d.2.2.2.2.1 d.2.2.2.2.2.1) fun d => by kernel_rfl
noncomputable def sim_Hit_y_l1b (n : Nat) (x2 : List Int) (x7 : List Kisi) (self : Int × Unit → Option ((Unit) ⊕ (Unit))) (d15 : Int × Unit) : Option ((Unit) ⊕ (Unit)) :=
 cond (decide (d15.1 < (x7.length : Int)))
 (ask (0 ≤ d15.1 ∧ d15.1 < (x7.length : Int)) (cond (decide (((Kisi_at x7 d15.1).1) = 9))
 (ask (0 ≤ (((Kisi_at x7 d15.1).2).2) ∧ ((Kisi_at x7 d15.1).2).2 < (x2.length : Int)) (cond (decide ((Ki_at x2 (((Kisi_at x7 d15.1).2).2)) = 0))
 (some (.inl ()))
 (self (IntKind.wrap .i64 (d15.1 + 1), ()))))
 (self (IntKind.wrap .i64 (d15.1 + 1), ()))))
 (some (.inr ()))
noncomputable def sim_Hit_y_l1 (n : Nat) (x2 : List Int) (x7 : List Kisi) : Int × Unit → Option ((Unit) ⊕ (Unit)) := iter (sim_Hit_y_l1b n x2 x7) n
noncomputable def sim_Hit_y (n : Nat) (x1 : List Int) (x2 : List Int) (x3 : Int) (x4 : List Kiiiiiii) (x5 : List Ksi) (x6 : List Ksiii) (x7 : List Kisi) (x8 : List Ksi) (x9 : Int) (x10 : Int) (x11 : Bool) (x12 : Bool) (x13 : Int) : Option (Bool × Int × List Kiiiiiii × List Ksi × List Ksiii × List Kisi × List Ksi × Int × Int × Bool × Bool × Int × Unit) :=
 ask (x3 = 0) ((sim_Hit_y_l1 n x2 x7 (0, ())).bind (Sum.elim (fun d16 => some (false, 2, x4, x5, x6, x7, x8, x9, x10, x11, x12, x13, ())) (fun d17 => ask (0 ≤ x9 ∧ x9 < (x7.length : Int)) (ask (0 ≤ (((Kisi_at x7 x9).2).2) ∧ ((Kisi_at x7 x9).2).2 < (x2.length : Int)) (cond (decide ((Ki_at x2 (((Kisi_at x7 x9).2).2)) = 1) == x12)
 (some (false, 1, x4, x5, x6, x7, x8, x9, x13, true, x12, x13, ()))
 (some (true, 0, x4, x5, x6, x7, x8, x9, x10, x11, x12, IntKind.wrap .i64 (x13 + 1), ())))))))
def sim_Hit_y_s : Sig := ⟨[.c false [.con (.yld 0 [])], .c false [.row i_], .c false [.row i_]], [(0, .lop 16000 [(3, .c false [.con (.ptr 1 0)]), (4, .c false [.con (.ptr 2 0)]), (6, .c false [.con (.ptr 3 0)]), (7, .c false [.con (.ptr 4 0)]), (8, .c false [.con (.ptr 5 0)]), (9, .c false [.con (.ptr 6 0)])]), (1, .var 27 [.row Kiiiiiii_, .row Ksi_, .row Ksiii_, .row Kisi_, .row Ksi_]), (2, .var 3 [.int .i64]), (3, .var 3 [.int .i64]), (4, .var 4 [.bool]), (5, .var 4 [.bool]), (6, .var 3 [.int .i64])], .c false [.bool], [(0, .lop 16000 [(3, .c false [.con (.ptr 1 0)]), (4, .c false [.con (.ptr 2 0)]), (6, .c false [.con (.ptr 3 0)]), (7, .c false [.con (.ptr 4 0)]), (8, .c false [.con (.ptr 5 0)]), (9, .c false [.con (.ptr 6 0)])]), (1, .var 27 [.row Kiiiiiii_, .row Ksi_, .row Ksiii_, .row Kisi_, .row Ksi_]), (2, .var 3 [.int .i64]), (3, .var 3 [.int .i64]), (4, .var 4 [.bool]), (5, .var 4 [.bool]), (6, .var 3 [.int .i64])]⟩
def sim_Hit_y_a : Ann := .s .d (.b (.s (.s .d (.b (.l [13, 47, 48, 49, 50, 51, 52, 53, 54, 55, 56, 57, 58, 59, 60, 61, 62] [] ⟨[(47, .c false [.int .i64])], []⟩ [(.exit 0, ⟨[], []⟩), (.exit 2, ⟨[], []⟩)] .d))) .d))
noncomputable def sim_Hit_y_c (n : Nat) : Ctr Try.prog := .ofY 16000 n [] sim_Hit_y_a sim_Hit_y_s (fun d => sim_Hit_y n d.1 d.2.1 d.2.2.1 d.2.2.2.1 d.2.2.2.2.1 d.2.2.2.2.2.1 d.2.2.2.2.2.2.1 d.2.2.2.2.2.2.2.1 d.2.2.2.2.2.2.2.2.1 d.2.2.2.2.2.2.2.2.2.1 d.2.2.2.2.2.2.2.2.2.2.1 d.2.2.2.2.2.2.2.2.2.2.2.1 d.2.2.2.2.2.2.2.2.2.2.2.2.1) fun d => by kernel_rfl
noncomputable def sim_cycles_1__sim_Hit_o_l1b (n : Nat) (x2 : List Kiiiiiii) (x3 : List Ksi) (x4 : List Ksiii) (x5 : List Kisi) (x6 : List Ksi) (x7 : List (List Int)) (self : List Int × Int × Int × List Kiiiiiii × List Ksi × List Ksiii × List Kisi × List Ksi × Int × Int × Bool × Bool × Int × Unit → Option ((Int × List Kiiiiiii × List Ksi × List Ksiii × List Kisi × List Ksi × Int × Int × Bool × Bool × Int × Unit) ⊕ (Int × List Kiiiiiii × List Ksi × List Ksiii × List Kisi × List Ksi × Int × Int × Bool × Bool × Int × Unit))) (d21 : List Int × Int × Int × List Kiiiiiii × List Ksi × List Ksiii × List Kisi × List Ksi × Int × Int × Bool × Bool × Int × Unit) : Option ((Int × List Kiiiiiii × List Ksi × List Ksiii × List Kisi × List Ksi × Int × Int × Bool × Bool × Int × Unit) ⊕ (Int × List Kiiiiiii × List Ksi × List Ksiii × List Kisi × List Ksi × Int × Int × Bool × Bool × Int × Unit)) :=
 cond (decide (d21.2.1 < (x7.length : Int)))
 (ask (0 ≤ d21.2.1 ∧ d21.2.1 < (x7.length : Int)) ((net_Eval n x2 x3 x4 x5 x6 d21.1 (KLi_at x7 d21.2.1)).bind (fun r22 => (sim_Hit_y n d21.1 r22.1 d21.2.2.1 d21.2.2.2.1 d21.2.2.2.2.1 d21.2.2.2.2.2.1 d21.2.2.2.2.2.2.1 d21.2.2.2.2.2.2.2.1 d21.2.2.2.2.2.2.2.2.1 d21.2.2.2.2.2.2.2.2.2.1 d21.2.2.2.2.2.2.2.2.2.2.1 d21.2.2.2.2.2.2.2.2.2.2.2.1 d21.2.2.2.2.2.2.2.2.2.2.2.2.1).bind (fun r23 => cond (!r23.1)
 (some (.inl (r23.2.1, r23.2.2.1, r23.2.2.2.1, r23.2.2.2.2.1, r23.2.2.2.2.2.1, r23.2.2.2.2.2.2.1, r23.2.2.2.2.2.2.2.1, r23.2.2.2.2.2.2.2.2.1, r23.2.2.2.2.2.2.2.2.2.1, r23.2.2.2.2.2.2.2.2.2.2.1, r23.2.2.2.2.2.2.2.2.2.2.2.1, ())))
 ((net_After n x2 x3 x4 x5 x6 d21.1 (KLi_at x7 d21.2.1)).bind (fun r24 => self (r24.1, IntKind.wrap .i64 (d21.2.1 + 1), r23.2.1, r23.2.2.1, r23.2.2.2.1, r23.2.2.2.2.1, r23.2.2.2.2.2.1, r23.2.2.2.2.2.2.1, r23.2.2.2.2.2.2.2.1, r23.2.2.2.2.2.2.2.2.1, r23.2.2.2.2.2.2.2.2.2.1, r23.2.2.2.2.2.2.2.2.2.2.1, r23.2.2.2.2.2.2.2.2.2.2.2.1, ())))))))
 (some (.inr (d21.2.2.1, d21.2.2.2.1, d21.2.2.2.2.1, d21.2.2.2.2.2.1, d21.2.2.2.2.2.2.1, d21.2.2.2.2.2.2.2.1, d21.2.2.2.2.2.2.2.2.1, d21.2.2.2.2.2.2.2.2.2.1, d21.2.2.2.2.2.2.2.2.2.2.1, d21.2.2.2.2.2.2.2.2.2.2.2.1, d21.2.2.2.2.2.2.2.2.2.2.2.2.1, ())))
noncomputable def sim_cycles_1__sim_Hit_o_l1 (n : Nat) (x2 : List Kiiiiiii) (x3 : List Ksi) (x4 : List Ksiii) (x5 : List Kisi) (x6 : List Ksi) (x7 : List (List Int)) : List Int × Int × Int × List Kiiiiiii × List Ksi × List Ksiii × List Kisi × List Ksi × Int × Int × Bool × Bool × Int × Unit → Option ((Int × List Kiiiiiii × List Ksi × List Ksiii × List Kisi × List Ksi × Int × Int × Bool × Bool × Int × Unit) ⊕ (Int × List Kiiiiiii × List Ksi × List Ksiii × List Kisi × List Ksi × Int × Int × Bool × Bool × Int × Unit)) := iter (sim_cycles_1__sim_Hit_o_l1b n x2 x3 x4 x5 x6 x7) n
noncomputable def sim_cycles_1__sim_Hit_o (n : Nat) (x1 : Int) (x2 : List Kiiiiiii) (x3 : List Ksi) (x4 : List Ksiii) (x5 : List Kisi) (x6 : List Ksi) (x7 : List (List Int)) (x8 : List Kiiiiiii) (x9 : List Ksi) (x10 : List Ksiii) (x11 : List Kisi) (x12 : List Ksi) (x13 : Int) (x14 : Int) (x15 : Bool) (x16 : Bool) (x17 : Int) : Option (Int × List Kiiiiiii × List Ksi × List Ksiii × List Kisi × List Ksi × List (List Int) × List Kiiiiiii × List Ksi × List Ksiii × List Kisi × List Ksi × Int × Int × Bool × Bool × Int × Unit) :=
 (net_First n x2 x3 x4 x5 x6).bind (fun r18 => (sim_cycles_1__sim_Hit_o_l1 n x2 x3 x4 x5 x6 x7 (r18.1, 0, x1, x8, x9, x10, x11, x12, x13, x14, x15, x16, x17, ())).bind (Sum.elim (fun d25 => some (d25.1, x2, x3, x4, x5, x6, x7, d25.2.1, d25.2.2.1, d25.2.2.2.1, d25.2.2.2.2.1, d25.2.2.2.2.2.1, d25.2.2.2.2.2.2.1, d25.2.2.2.2.2.2.2.1, d25.2.2.2.2.2.2.2.2.1, d25.2.2.2.2.2.2.2.2.2.1, d25.2.2.2.2.2.2.2.2.2.2.1, ())) (fun d26 => some (d26.1, x2, x3, x4, x5, x6, x7, d26.2.1, d26.2.2.1, d26.2.2.2.1, d26.2.2.2.2.1, d26.2.2.2.2.2.1, d26.2.2.2.2.2.2.1, d26.2.2.2.2.2.2.2.1, d26.2.2.2.2.2.2.2.2.1, d26.2.2.2.2.2.2.2.2.2.1, d26.2.2.2.2.2.2.2.2.2.2.1, ()))))
def sim_cycles_1__sim_Hit_o_s : Sig := ⟨[.c false [.con (.yld 0 [])], .c false [.con (.ptr 1 0)], .c false [.con (.ptr 2 0)]], [(0, .lop 16000 [(3, .c false [.con (.ptr 3 0)]), (4, .c false [.con (.ptr 4 0)]), (6, .c false [.con (.ptr 5 0)]), (7, .c false [.con (.ptr 6 0)]), (8, .c false [.con (.ptr 7 0)]), (9, .c false [.con (.ptr 8 0)])]), (1, .var 27 [.row Kiiiiiii_, .row Ksi_, .row Ksiii_, .row Kisi_, .row Ksi_]), (2, .var 28 [.row KLi_]), (3, .var 27 [.row Kiiiiiii_, .row Ksi_, .row Ksiii_, .row Kisi_, .row Ksi_]), (4, .var 3 [.int .i64]), (5, .var 3 [.int .i64]), (6, .var 4 [.bool]), (7, .var 4 [.bool]), (8, .var 3 [.int .i64])], .t [], [(0, .lop 16000 [(3, .c false [.con (.ptr 3 0)]), (4, .c false [.con (.ptr 4 0)]), (6, .c false [.con (.ptr 5 0)]), (7, .c false [.con (.ptr 6 0)]), (8, .c false [.con (.ptr 7 0)]), (9, .c false [.con (.ptr 8 0)])]), (1, .var 27 [.row Kiiiiiii_, .row Ksi_, .row Ksiii_, .row Kisi_, .row Ksi_]), (2, .var 28 [.row KLi_]), (3, .var 27 [.row Kiiiiiii_, .row Ksi_, .row Ksiii_, .row Kisi_, .row Ksi_]), (4, .var 3 [.int .i64]), (5, .var 3 [.int .i64]), (6, .var 4 [.bool]), (7, .var 4 [.bool]), (8, .var 3 [.int .i64])]⟩
def sim_cycles_1__sim_Hit_o_a : Ann := .s .d (.s .d (.b (.l [0, 4, 6, 11, 12, 13, 14, 15, 16, 17, 18, 19, 20, 21, 22, 23, 24, 25, 26, 27] [0, 3, 4, 5, 6, 7, 8] ⟨[(0, .c false [.con (.yld 0 [])]), (4, .c false [.row i_]), (11, .c false [.int .i64])], [(0, .lop 16000 [(3, .c false [.con (.ptr 3 0)]), (4, .c false [.con (.ptr 4 0)]), (6, .c false [.con (.ptr 5 0)]), (7, .c false [.con (.ptr 6 0)]), (8, .c false [.con (.ptr 7 0)]), (9, .c false [.con (.ptr 8 0)])]), (3, .var 27 [.row Kiiiiiii_, .row Ksi_, .row Ksiii_, .row Kisi_, .row Ksi_]), (4, .var 3 [.int .i64]), (5, .var 3 [.int .i64]), (6, .var 4 [.bool]), (7, .var 4 [.bool]), (8, .var 3 [.int .i64])]⟩ [(.ret, ⟨[], [(0, .lop 16000 [(3, .c false [.con (.ptr 3 0)]), (4, .c false [.con (.ptr 4 0)]), (6, .c false [.con (.ptr 5 0)]), (7, .c false [.con (.ptr 6 0)]), (8, .c false [.con (.ptr 7 0)]), (9, .c false [.con (.ptr 8 0)])]), (3, .var 27 [.row Kiiiiiii_, .row Ksi_, .row Ksiii_, .row Kisi_, .row Ksi_]), (4, .var 3 [.int .i64]), (5, .var 3 [.int .i64]), (6, .var 4 [.bool]), (7, .var 4 [.bool]), (8, .var 3 [.int .i64])]⟩), (.exit 0, ⟨[], [(0, .lop 16000 [(3, .c false [.con (.ptr 3 0)]), (4, .c false [.con (.ptr 4 0)]), (6, .c false [.con (.ptr 5 0)]), (7, .c false [.con (.ptr 6 0)]), (8, .c false [.con (.ptr 7 0)]), (9, .c false [.con (.ptr 8 0)])]), (3, .var 27 [.row Kiiiiiii_, .row Ksi_, .row Ksiii_, .row Kisi_, .row Ksi_]), (4, .var 3 [.int .i64]), (5, .var 3 [.int .i64]), (6, .var 4 [.bool]), (7, .var 4 [.bool]), (8, .var 3 [.int .i64])]⟩)] .d)))
noncomputable def sim_cycles_1__sim_Hit_o_c (n : Nat) : Ctr Try.prog := .of Try.func47 n [net_First_c n, net_Eval_c n, sim_Hit_y_c n, net_After_c n] sim_cycles_1__sim_Hit_o_a sim_cycles_1__sim_Hit_o_s (fun d => sim_cycles_1__sim_Hit_o n d.1 d.2.1 d.2.2.1 d.2.2.2.1 d.2.2.2.2.1 d.2.2.2.2.2.1 d.2.2.2.2.2.2.1 d.2.2.2.2.2.2.2.1 d.2.2.2.2.2.2.2.2.1 d.2.2.2.2.2.2.2.2.2.1 d.2.2.2.2.2.2.2.2.2.2.1 d.2.2.2.2.2.2.2.2.2.2.2.1 d.2.2.2.2.2.2.2.2.2.2.2.2.1 d.2.2.2.2.2.2.2.2.2.2.2.2.2.1 d.2.2.2.2.2.2.2.2.2.2.2.2.2.2.1 d.2.2.2.2.2.2.2.2.2.2.2.2.2.2.2.1 d.2.2.2.2.2.2.2.2.2.2.2.2.2.2.2.2.1) fun d => by kernel_rfl
noncomputable def sim_Hit (n : Nat) (x1 : List Kiiiiiii) (x2 : List Ksi) (x3 : List Ksiii) (x4 : List Kisi) (x5 : List Ksi) (x6 : Int) (x7 : List (List Int)) : Option (Int × Bool × Unit) :=
 cond (decide (x6 < 0))
 (some (0, false, ()))
 (cond (decide ((x4.length : Int) ≤ x6))
 (some (0, false, ()))
 (ask (0 ≤ x6 ∧ x6 < (x4.length : Int)) (cond (decide (((Kisi_at x4 x6).1) = 9))
 (some (0, false, ()))
 (ask (0 ≤ x6 ∧ x6 < (x4.length : Int)) ((sim_cycles n x1 x2 x3 x4 x5 x7).bind (fun r8 => (sim_cycles_1__sim_Hit_o n 0 r8.1 r8.2.1 r8.2.2.1 r8.2.2.2.1 r8.2.2.2.2.1 r8.2.2.2.2.2.1 x1 x2 x3 x4 x5 x6 0 false (decide (((Kisi_at x4 x6).1) = 10)) 0).bind (fun r9 => ask (0 ≤ r9.1) (cond (decide (r9.1 = 0))
 (some (0, false, ()))
 (cond (decide (r9.1 = 1))
 (some (r9.2.2.2.2.2.2.2.2.2.2.2.2.2.1, r9.2.2.2.2.2.2.2.2.2.2.2.2.2.2.1, ()))
 (cond (decide (r9.1 = 2))
 (some (0, false, ()))
 (none)))))))))))
def sim_Hit_s : Sig := ⟨[.c true [.row Kiiiiiii_, .row Ksi_, .row Ksiii_, .row Kisi_, .row Ksi_], .c false [.int .i64], .c false [.row KLi_]], [], .t [(false, [.int .i64]), (false, [.bool])], []⟩
def sim_Hit_a : Ann := .s .d (.b (.s .d (.s .d (.s .d (.s .d (.s (.s .d (.b (.r 16000 [3, 4, 6, 7, 8, 9] [] [.normal, .ret, .exit 0]))) .d))))))
noncomputable def sim_Hit_c (n : Nat) : Ctr Try.prog := .of Try.func16 n [sim_cycles_c n, sim_cycles_1__sim_Hit_o_c n] sim_Hit_a sim_Hit_s (fun d => sim_Hit n d.1 d.2.1 d.2.2.1 d.2.2.2.1 d.2.2.2.2.1 d.2.2.2.2.2.1 d.2.2.2.2.2.2.1) fun d => by kernel_rfl
noncomputable def sim_Right_1 (n : Nat) (x1 : Int) (x2 : ByteArray) (x3 : Int) (x4 : List KLPiiiiiiiELPsiELPsiiiELPisiELPsiE) (x5 : Int) : Option (Bool × Unit) :=
 cond (decide (x1 < 0))
 (some (true, ()))
 (ask (0 ≤ x3 ∧ x3 < (((KLPiiiiiiiELPsiELPsiiiELPisiELPsiE_at x4 x5).1).length : Int)) (ask (0 ≤ (((Kiiiiiii_at ((KLPiiiiiiiELPsiELPsiiiELPisiELPsiE_at x4 x5).1) x3).2).1)) (some (decide ((shrI .i64 x1 (((Kiiiiiii_at ((KLPiiiiiiiELPsiELPsiiiELPisiELPsiE_at x4 x5).1) x3).2).1)) ≠ 0), ()))))
def sim_Right_1_s : Sig := ⟨[.c false [.int .i64], .c true [.str, .int .i64], .c false [.rp KLPiiiiiiiELPsiELPsiiiELPisiELPsiE_ 0]], [], .c false [.bool], []⟩
def sim_Right_1_a : Ann := .d
noncomputable def sim_Right_1_c (n : Nat) : Ctr Try.prog := .of Try.func32 n [] sim_Right_1_a sim_Right_1_s (fun d => sim_Right_1 n d.1 d.2.1 d.2.2.1 d.2.2.2.1 d.2.2.2.2.1) fun d => by kernel_rfl
noncomputable def sim_Right_l1b (n : Nat) (d8 : Int × Unit) (x1 : List Kiiiiiii) (x2 : List Ksi) (x3 : List Ksiii) (x4 : List Kisi) (x5 : List Ksi) (x6 : List (List Int)) (self : Int × Unit → Option ((Bool × Unit) ⊕ (Unit))) (d10 : Int × Unit) : Option ((Bool × Unit) ⊕ (Unit)) :=
 cond (decide (d10.1 < ((KLi_at x6 d8.1).length : Int)))
 (ask (0 ≤ d10.1 ∧ d10.1 < ((KLi_at x6 d8.1).length : Int)) (ask (0 ≤ d10.1 ∧ d10.1 < (x2.length : Int)) ((sim_Right_1 n (Ki_at (KLi_at x6 d8.1) d10.1) ((Ksi_at x2 d10.1).1) ((Ksi_at x2 d10.1).2) ([(x1, x2, x3, x4, x5)] : List KLPiiiiiiiELPsiELPsiiiELPisiELPsiE) 0).bind (fun r11 => cond r11.1
 (some (.inl (false, ())))
 (self (IntKind.wrap .i64 (d10.1 + 1), ()))))))
 (some (.inr ()))
noncomputable def sim_Right_l1 (n : Nat) (d8 : Int × Unit) (x1 : List Kiiiiiii) (x2 : List Ksi) (x3 : List Ksiii) (x4 : List Kisi) (x5 : List Ksi) (x6 : List (List Int)) : Int × Unit → Option ((Bool × Unit) ⊕ (Unit)) := iter (sim_Right_l1b n d8 x1 x2 x3 x4 x5 x6) n
noncomputable def sim_Right_l2b (n : Nat) (x1 : List Kiiiiiii) (x2 : List Ksi) (x3 : List Ksiii) (x4 : List Kisi) (x5 : List Ksi) (x6 : List (List Int)) (self : Int × Unit → Option ((Bool × Unit) ⊕ (Unit))) (d8 : Int × Unit) : Option ((Bool × Unit) ⊕ (Unit)) :=
 cond (decide (d8.1 < (x6.length : Int)))
 (ask (0 ≤ d8.1 ∧ d8.1 < (x6.length : Int)) (cond (decide (((KLi_at x6 d8.1).length : Int) ≠ (x2.length : Int)))
 (some (.inl (false, ())))
 ((sim_Right_l1 n d8 x1 x2 x3 x4 x5 x6 (0, ())).bind (Sum.elim (fun d12 => some (.inl (d12.1, ()))) (fun d13 => self (IntKind.wrap .i64 (d8.1 + 1), ()))))))
 (some (.inr ()))
noncomputable def sim_Right_l2 (n : Nat) (x1 : List Kiiiiiii) (x2 : List Ksi) (x3 : List Ksiii) (x4 : List Kisi) (x5 : List Ksi) (x6 : List (List Int)) : Int × Unit → Option ((Bool × Unit) ⊕ (Unit)) := iter (sim_Right_l2b n x1 x2 x3 x4 x5 x6) n
noncomputable def sim_Right (n : Nat) (x1 : List Kiiiiiii) (x2 : List Ksi) (x3 : List Ksiii) (x4 : List Kisi) (x5 : List Ksi) (x6 : List (List Int)) : Option (Bool × Unit) :=
 (sim_Right_l2 n x1 x2 x3 x4 x5 x6 (0, ())).bind (Sum.elim (fun d14 => some (d14.1, ())) (fun d15 => some (decide ((x6.length : Int) ≤ 64), ())))
def sim_Right_s : Sig := ⟨[.c true [.row Kiiiiiii_, .row Ksi_, .row Ksiii_, .row Kisi_, .row Ksi_], .c false [.row KLi_]], [], .c false [.bool], []⟩
def sim_Right_a : Ann := .s .d (.s .d (.s (.s .d (.b (.l [4, 7, 8, 9, 13, 14, 15, 16, 17, 18, 19, 20, 21, 22, 23, 24, 25, 26, 27, 28, 29, 30, 31, 32, 33, 34, 35, 36, 37, 38, 39] [] ⟨[(13, .c false [.int .i64])], []⟩ [(.ret, ⟨[(4, .c false [.bool])], []⟩), (.exit 0, ⟨[], []⟩)] (.s .d (.s .d (.s (.b (.s .d (.s .d (.s .d (.b (.l [4, 8, 9, 25, 26, 27, 28, 29, 30, 31, 32, 33, 34, 35, 36, 37, 38] [] ⟨[(25, .c false [.int .i64])], []⟩ [(.ret, ⟨[(4, .c false [.bool])], []⟩), (.exit 2, ⟨[], []⟩)] .d)))))) .d)))))) .d))
noncomputable def sim_Right_c (n : Nat) : Ctr Try.prog := .of Try.func13 n [sim_Right_1_c n] sim_Right_a sim_Right_s (fun d => sim_Right n d.1 d.2.1 d.2.2.1 d.2.2.2.1 d.2.2.2.2.1 d.2.2.2.2.2.1) fun d => by kernel_rfl
noncomputable def law11_head_l1b (n : Nat) (self : Int × List (List Int) × Unit → Option ((List (List Int) × Unit))) (d3 : Int × List (List Int) × Unit) : Option ((List (List Int) × Unit)) :=
 cond (decide (d3.1 < 13))
 (ask (True ∧ (d3.2.1.length + (([([1] : List Int)] : List (List Int))).length) * 24 ≤ 140737488355328) (self (IntKind.wrap .i64 (d3.1 + 1), d3.2.1 ++ ([([1] : List Int)] : List (List Int)), ())))
 (some (d3.2.1, ()))
noncomputable def law11_head_l1 (n : Nat) : Int × List (List Int) × Unit → Option ((List (List Int) × Unit)) := iter (law11_head_l1b n) n
noncomputable def law11_head (n : Nat) : Option (Bool × Unit) :=
 (law09_Base n).bind (fun r1 => (law11_head_l1 n (0, ([] : List (List Int)), ())).bind (fun d4 => (sim_States n r1.1 r1.2.1 r1.2.2.1 r1.2.2.2.1 r1.2.2.2.2.1 d4.1).bind (fun r5 => (sim_Run n r1.1 r1.2.1 r1.2.2.1 r1.2.2.2.1 r1.2.2.2.2.1 d4.1).bind (fun r6 => (sim_Hit n r1.1 r1.2.1 r1.2.2.1 r1.2.2.2.1 r1.2.2.2.2.1 1 d4.1).bind (fun r7 => (sim_Hit n r1.1 r1.2.1 r1.2.2.1 r1.2.2.2.1 r1.2.2.2.2.1 0 d4.1).bind (fun r8 => (sim_Hit n r1.1 r1.2.1 r1.2.2.1 r1.2.2.2.1 r1.2.2.2.2.1 2 d4.1).bind (fun r9 => (sim_Right n r1.1 r1.2.1 r1.2.2.1 r1.2.2.2.1 r1.2.2.2.2.1 d4.1).bind (fun r10 => cond r10.1
 ((sim_Right n r1.1 r1.2.1 r1.2.2.1 r1.2.2.2.1 r1.2.2.2.2.1 ([([2] : List Int)] : List (List Int))).bind (fun r11 => cond (!r11.1)
 ((sim_Right n r1.1 r1.2.1 r1.2.2.1 r1.2.2.2.1 r1.2.2.2.2.1 ([([] : List Int)] : List (List Int))).bind (fun r12 => cond (!r12.1)
 (cond (decide ((r5.1.length : Int) = 14))
 (cond (decide ((r6.1.length : Int) = 13))
 (ask (0 ≤ (11 : Int) ∧ 11 < (r5.1.length : Int)) (ask (0 ≤ (0 : Int) ∧ 0 < ((KLi_at r5.1 11).length : Int)) (cond (decide ((Ki_at (KLi_at r5.1 11) 0) = 11))
 (ask (0 ≤ (12 : Int) ∧ 12 < (r5.1.length : Int)) (ask (0 ≤ (0 : Int) ∧ 0 < ((KLi_at r5.1 12).length : Int)) (cond (decide ((Ki_at (KLi_at r5.1 12) 0) = 0))
 (ask (0 ≤ (13 : Int) ∧ 13 < (r5.1.length : Int)) (ask (0 ≤ (0 : Int) ∧ 0 < ((KLi_at r5.1 13).length : Int)) (cond (decide ((Ki_at (KLi_at r5.1 13) 0) = 1))
 (ask (0 ≤ (11 : Int) ∧ 11 < (r6.1.length : Int)) (cond (decide (((KLb_at r6.1 11).length : Int) = 2))
 (ask (0 ≤ (11 : Int) ∧ 11 < (r6.1.length : Int)) (ask (0 ≤ (0 : Int) ∧ 0 < ((KLb_at r6.1 11).length : Int)) (cond (Kb_at (KLb_at r6.1 11) 0)
 (ask (0 ≤ (11 : Int) ∧ 11 < (r6.1.length : Int)) (ask (0 ≤ (1 : Int) ∧ 1 < ((KLb_at r6.1 11).length : Int)) (cond (Kb_at (KLb_at r6.1 11) 1)
 (ask (0 ≤ (12 : Int) ∧ 12 < (r6.1.length : Int)) (ask (0 ≤ (1 : Int) ∧ 1 < ((KLb_at r6.1 12).length : Int)) (cond (!(Kb_at (KLb_at r6.1 12) 1))
 (cond (decide (r7.1 = 11))
 (cond r7.2.1
 (cond (!r8.2.1)
 (some (!r9.2.1, ()))
 (some (false, ())))
 (some (false, ())))
 (some (false, ())))
 (some (false, ())))))
 (some (false, ())))))
 (some (false, ())))))
 (some (false, ()))))
 (some (false, ())))))
 (some (false, ())))))
 (some (false, ())))))
 (some (false, ())))
 (some (false, ())))
 (some (false, ()))))
 (some (false, ()))))
 (some (false, ()))))))))))
def law11_head_s : Sig := ⟨[], [], .c false [.bool], []⟩
def law11_head_a : Ann := .s .d (.s .d (.s .d (.s (.s .d (.b (.l [2, 3, 13, 14, 15, 16, 17, 18, 19, 20] [] ⟨[(2, .c false [.con (.own 100000 1)]), (3, .c false [.int .i64])], [(100000, .row 42 KLi_)]⟩ [(.exit 0, ⟨[(2, .c false [.con (.own 100000 1)])], [(100000, .row 42 KLi_)]⟩)] .d))) (.s (.z [100000]) .d))))
noncomputable def law11_head_c (n : Nat) : Ctr Try.prog := .of Try.func10 n [law09_Base_c n, sim_States_c n, sim_Run_c n, sim_Hit_c n, sim_Right_c n] law11_head_a law11_head_s (fun d => law11_head n) fun d => by kernel_rfl
noncomputable def law09_Great (n : Nat) (x1 : List Kiiiiiii) (x2 : List Ksi) (x3 : List Ksiii) (x4 : List Kisi) (x5 : List Ksi) : Option (Bool × Unit) :=
 cond (decide ((300 : Int) < (x1.length : Int)))
 (some (true, ()))
 (cond (decide ((100 : Int) < (x2.length : Int)))
 (some (true, ()))
 (cond (decide ((300 : Int) < (x3.length : Int)))
 (some (true, ()))
 (cond (decide ((40 : Int) < (x4.length : Int)))
 (some (true, ()))
 (some (decide ((300 : Int) < (x5.length : Int)), ())))))
def law09_Great_s : Sig := ⟨[.c true [.row Kiiiiiii_, .row Ksi_, .row Ksiii_, .row Kisi_, .row Ksi_]], [], .c false [.bool], []⟩
def law09_Great_a : Ann := .d
noncomputable def law09_Great_c (n : Nat) : Ctr Try.prog := .of Try.func11 n [] law09_Great_a law09_Great_s (fun d => law09_Great n d.1 d.2.1 d.2.2.1 d.2.2.2.1 d.2.2.2.2.1) fun d => by kernel_rfl
noncomputable def ref09_operands (n : Nat) (x1 : Int) : Option (Int × Unit) :=
 cond (decide (x1 = 1))
 (cond (decide (x1 = 1))
 (some (0, ()))
 (cond (decide (x1 = 3))
 (cond (decide (x1 = 3))
 (some (1, ()))
 (cond (decide (x1 = 6))
 (cond (decide (x1 = 6))
 (some (2, ()))
 (cond (decide (x1 = 16))
 (some (3, ()))
 (some ((-1), ()))))
 (cond (decide (x1 = 7))
 (cond (decide (x1 = 7))
 (some (2, ()))
 (cond (decide (x1 = 16))
 (some (3, ()))
 (some ((-1), ()))))
 (cond (decide (x1 = 8))
 (cond (decide (x1 = 8))
 (some (2, ()))
 (cond (decide (x1 = 16))
 (some (3, ()))
 (some ((-1), ()))))
 (cond (decide (x1 = 9))
 (cond (decide (x1 = 9))
 (some (2, ()))
 (cond (decide (x1 = 16))
 (some (3, ()))
 (some ((-1), ()))))
 (cond (decide (x1 = 10))
 (cond (decide (x1 = 10))
 (some (2, ()))
 (cond (decide (x1 = 16))
 (some (3, ()))
 (some ((-1), ()))))
 (cond (decide (x1 = 11))
 (cond (decide (x1 = 11))
 (some (2, ()))
 (cond (decide (x1 = 16))
 (some (3, ()))
 (some ((-1), ()))))
 (cond (decide (x1 = 12))
 (cond (decide (x1 = 12))
 (some (2, ()))
 (cond (decide (x1 = 16))
 (some (3, ()))
 (some ((-1), ()))))
 (cond (decide (x1 = 13))
 (cond (decide (x1 = 13))
 (some (2, ()))
 (cond (decide (x1 = 16))
 (some (3, ()))
 (some ((-1), ()))))
 (cond (decide (x1 = 14))
 (cond (decide (x1 = 14))
 (some (2, ()))
 (cond (decide (x1 = 16))
 (some (3, ()))
 (some ((-1), ()))))
 (cond (decide (x1 = 15))
 (cond (decide (x1 = 15))
 (some (2, ()))
 (cond (decide (x1 = 16))
 (some (3, ()))
 (some ((-1), ()))))
 (cond (decide (x1 = 17))
 (some (2, ()))
 (cond (decide (x1 = 16))
 (some (3, ()))
 (some ((-1), ())))))))))))))))
 (cond (decide (x1 = 4))
 (cond (decide (x1 = 4))
 (some (1, ()))
 (cond (decide (x1 = 6))
 (cond (decide (x1 = 6))
 (some (2, ()))
 (cond (decide (x1 = 16))
 (some (3, ()))
 (some ((-1), ()))))
 (cond (decide (x1 = 7))
 (cond (decide (x1 = 7))
 (some (2, ()))
 (cond (decide (x1 = 16))
 (some (3, ()))
 (some ((-1), ()))))
 (cond (decide (x1 = 8))
 (cond (decide (x1 = 8))
 (some (2, ()))
 (cond (decide (x1 = 16))
 (some (3, ()))
 (some ((-1), ()))))
 (cond (decide (x1 = 9))
 (cond (decide (x1 = 9))
 (some (2, ()))
 (cond (decide (x1 = 16))
 (some (3, ()))
 (some ((-1), ()))))
 (cond (decide (x1 = 10))
 (cond (decide (x1 = 10))
 (some (2, ()))
 (cond (decide (x1 = 16))
 (some (3, ()))
 (some ((-1), ()))))
 (cond (decide (x1 = 11))
 (cond (decide (x1 = 11))
 (some (2, ()))
 (cond (decide (x1 = 16))
 (some (3, ()))
 (some ((-1), ()))))
 (cond (decide (x1 = 12))
 (cond (decide (x1 = 12))
 (some (2, ()))
 (cond (decide (x1 = 16))
 (some (3, ()))
 (some ((-1), ()))))
 (cond (decide (x1 = 13))
 (cond (decide (x1 = 13))
 (some (2, ()))
 (cond (decide (x1 = 16))
 (some (3, ()))
 (some ((-1), ()))))
 (cond (decide (x1 = 14))
 (cond (decide (x1 = 14))
 (some (2, ()))
 (cond (decide (x1 = 16))
 (some (3, ()))
 (some ((-1), ()))))
 (cond (decide (x1 = 15))
 (cond (decide (x1 = 15))
 (some (2, ()))
 (cond (decide (x1 = 16))
 (some (3, ()))
 (some ((-1), ()))))
 (cond (decide (x1 = 17))
 (some (2, ()))
 (cond (decide (x1 = 16))
 (some (3, ()))
 (some ((-1), ())))))))))))))))
 (cond (decide (x1 = 5))
 (cond (decide (x1 = 5))
 (some (1, ()))
 (cond (decide (x1 = 6))
 (cond (decide (x1 = 6))
 (some (2, ()))
 (cond (decide (x1 = 16))
 (some (3, ()))
 (some ((-1), ()))))
 (cond (decide (x1 = 7))
 (cond (decide (x1 = 7))
 (some (2, ()))
 (cond (decide (x1 = 16))
 (some (3, ()))
 (some ((-1), ()))))
 (cond (decide (x1 = 8))
 (cond (decide (x1 = 8))
 (some (2, ()))
 (cond (decide (x1 = 16))
 (some (3, ()))
 (some ((-1), ()))))
 (cond (decide (x1 = 9))
 (cond (decide (x1 = 9))
 (some (2, ()))
 (cond (decide (x1 = 16))
 (some (3, ()))
 (some ((-1), ()))))
 (cond (decide (x1 = 10))
 (cond (decide (x1 = 10))
 (some (2, ()))
 (cond (decide (x1 = 16))
 (some (3, ()))
 (some ((-1), ()))))
 (cond (decide (x1 = 11))
 (cond (decide (x1 = 11))
 (some (2, ()))
 (cond (decide (x1 = 16))
 (some (3, ()))
 (some ((-1), ()))))
 (cond (decide (x1 = 12))
 (cond (decide (x1 = 12))
 (some (2, ()))
 (cond (decide (x1 = 16))
 (some (3, ()))
 (some ((-1), ()))))
 (cond (decide (x1 = 13))
 (cond (decide (x1 = 13))
 (some (2, ()))
 (cond (decide (x1 = 16))
 (some (3, ()))
 (some ((-1), ()))))
 (cond (decide (x1 = 14))
 (cond (decide (x1 = 14))
 (some (2, ()))
 (cond (decide (x1 = 16))
 (some (3, ()))
 (some ((-1), ()))))
 (cond (decide (x1 = 15))
 (cond (decide (x1 = 15))
 (some (2, ()))
 (cond (decide (x1 = 16))
 (some (3, ()))
 (some ((-1), ()))))
 (cond (decide (x1 = 17))
 (some (2, ()))
 (cond (decide (x1 = 16))
 (some (3, ()))
 (some ((-1), ())))))))))))))))
 (cond (decide (x1 = 18))
 (some (1, ()))
 (cond (decide (x1 = 6))
 (cond (decide (x1 = 6))
 (some (2, ()))
 (cond (decide (x1 = 16))
 (some (3, ()))
 (some ((-1), ()))))
 (cond (decide (x1 = 7))
 (cond (decide (x1 = 7))
 (some (2, ()))
 (cond (decide (x1 = 16))
 (some (3, ()))
 (some ((-1), ()))))
 (cond (decide (x1 = 8))
 (cond (decide (x1 = 8))
 (some (2, ()))
 (cond (decide (x1 = 16))
 (some (3, ()))
 (some ((-1), ()))))
 (cond (decide (x1 = 9))
 (cond (decide (x1 = 9))
 (some (2, ()))
 (cond (decide (x1 = 16))
 (some (3, ()))
 (some ((-1), ()))))
 (cond (decide (x1 = 10))
 (cond (decide (x1 = 10))
 (some (2, ()))
 (cond (decide (x1 = 16))
 (some (3, ()))
 (some ((-1), ()))))
 (cond (decide (x1 = 11))
 (cond (decide (x1 = 11))
 (some (2, ()))
 (cond (decide (x1 = 16))
 (some (3, ()))
 (some ((-1), ()))))
 (cond (decide (x1 = 12))
 (cond (decide (x1 = 12))
 (some (2, ()))
 (cond (decide (x1 = 16))
 (some (3, ()))
 (some ((-1), ()))))
 (cond (decide (x1 = 13))
 (cond (decide (x1 = 13))
 (some (2, ()))
 (cond (decide (x1 = 16))
 (some (3, ()))
 (some ((-1), ()))))
 (cond (decide (x1 = 14))
 (cond (decide (x1 = 14))
 (some (2, ()))
 (cond (decide (x1 = 16))
 (some (3, ()))
 (some ((-1), ()))))
 (cond (decide (x1 = 15))
 (cond (decide (x1 = 15))
 (some (2, ()))
 (cond (decide (x1 = 16))
 (some (3, ()))
 (some ((-1), ()))))
 (cond (decide (x1 = 17))
 (some (2, ()))
 (cond (decide (x1 = 16))
 (some (3, ()))
 (some ((-1), ())))))))))))))))))))
 (cond (decide (x1 = 21))
 (cond (decide (x1 = 21))
 (some (0, ()))
 (cond (decide (x1 = 3))
 (cond (decide (x1 = 3))
 (some (1, ()))
 (cond (decide (x1 = 6))
 (cond (decide (x1 = 6))
 (some (2, ()))
 (cond (decide (x1 = 16))
 (some (3, ()))
 (some ((-1), ()))))
 (cond (decide (x1 = 7))
 (cond (decide (x1 = 7))
 (some (2, ()))
 (cond (decide (x1 = 16))
 (some (3, ()))
 (some ((-1), ()))))
 (cond (decide (x1 = 8))
 (cond (decide (x1 = 8))
 (some (2, ()))
 (cond (decide (x1 = 16))
 (some (3, ()))
 (some ((-1), ()))))
 (cond (decide (x1 = 9))
 (cond (decide (x1 = 9))
 (some (2, ()))
 (cond (decide (x1 = 16))
 (some (3, ()))
 (some ((-1), ()))))
 (cond (decide (x1 = 10))
 (cond (decide (x1 = 10))
 (some (2, ()))
 (cond (decide (x1 = 16))
 (some (3, ()))
 (some ((-1), ()))))
 (cond (decide (x1 = 11))
 (cond (decide (x1 = 11))
 (some (2, ()))
 (cond (decide (x1 = 16))
 (some (3, ()))
 (some ((-1), ()))))
 (cond (decide (x1 = 12))
 (cond (decide (x1 = 12))
 (some (2, ()))
 (cond (decide (x1 = 16))
 (some (3, ()))
 (some ((-1), ()))))
 (cond (decide (x1 = 13))
 (cond (decide (x1 = 13))
 (some (2, ()))
 (cond (decide (x1 = 16))
 (some (3, ()))
 (some ((-1), ()))))
 (cond (decide (x1 = 14))
 (cond (decide (x1 = 14))
 (some (2, ()))
 (cond (decide (x1 = 16))
 (some (3, ()))
 (some ((-1), ()))))
 (cond (decide (x1 = 15))
 (cond (decide (x1 = 15))
 (some (2, ()))
 (cond (decide (x1 = 16))
 (some (3, ()))
 (some ((-1), ()))))
 (cond (decide (x1 = 17))
 (some (2, ()))
 (cond (decide (x1 = 16))
 (some (3, ()))
 (some ((-1), ())))))))))))))))
 (cond (decide (x1 = 4))
 (cond (decide (x1 = 4))
 (some (1, ()))
 (cond (decide (x1 = 6))
 (cond (decide (x1 = 6))
 (some (2, ()))
 (cond (decide (x1 = 16))
 (some (3, ()))
 (some ((-1), ()))))
 (cond (decide (x1 = 7))
 (cond (decide (x1 = 7))
 (some (2, ()))
 (cond (decide (x1 = 16))
 (some (3, ()))
 (some ((-1), ()))))
 (cond (decide (x1 = 8))
 (cond (decide (x1 = 8))
 (some (2, ()))
 (cond (decide (x1 = 16))
 (some (3, ()))
 (some ((-1), ()))))
 (cond (decide (x1 = 9))
 (cond (decide (x1 = 9))
 (some (2, ()))
 (cond (decide (x1 = 16))
 (some (3, ()))
 (some ((-1), ()))))
 (cond (decide (x1 = 10))
 (cond (decide (x1 = 10))
 (some (2, ()))
 (cond (decide (x1 = 16))
 (some (3, ()))
 (some ((-1), ()))))
 (cond (decide (x1 = 11))
 (cond (decide (x1 = 11))
 (some (2, ()))
 (cond (decide (x1 = 16))
 (some (3, ()))
 (some ((-1), ()))))
 (cond (decide (x1 = 12))
 (cond (decide (x1 = 12))
 (some (2, ()))
 (cond (decide (x1 = 16))
 (some (3, ()))
 (some ((-1), ()))))
 (cond (decide (x1 = 13))
 (cond (decide (x1 = 13))
 (some (2, ()))
 (cond (decide (x1 = 16))
 (some (3, ()))
 (some ((-1), ()))))
 (cond (decide (x1 = 14))
 (cond (decide (x1 = 14))
 (some (2, ()))
 (cond (decide (x1 = 16))
 (some (3, ()))
 (some ((-1), ()))))
 (cond (decide (x1 = 15))
 (cond (decide (x1 = 15))
 (some (2, ()))
 (cond (decide (x1 = 16))
 (some (3, ()))
 (some ((-1), ()))))
 (cond (decide (x1 = 17))
 (some (2, ()))
 (cond (decide (x1 = 16))
 (some (3, ()))
 (some ((-1), ())))))))))))))))
 (cond (decide (x1 = 5))
 (cond (decide (x1 = 5))
 (some (1, ()))
 (cond (decide (x1 = 6))
 (cond (decide (x1 = 6))
 (some (2, ()))
 (cond (decide (x1 = 16))
 (some (3, ()))
 (some ((-1), ()))))
 (cond (decide (x1 = 7))
 (cond (decide (x1 = 7))
 (some (2, ()))
 (cond (decide (x1 = 16))
 (some (3, ()))
 (some ((-1), ()))))
 (cond (decide (x1 = 8))
 (cond (decide (x1 = 8))
 (some (2, ()))
 (cond (decide (x1 = 16))
 (some (3, ()))
 (some ((-1), ()))))
 (cond (decide (x1 = 9))
 (cond (decide (x1 = 9))
 (some (2, ()))
 (cond (decide (x1 = 16))
 (some (3, ()))
 (some ((-1), ()))))
 (cond (decide (x1 = 10))
 (cond (decide (x1 = 10))
 (some (2, ()))
 (cond (decide (x1 = 16))
 (some (3, ()))
 (some ((-1), ()))))
 (cond (decide (x1 = 11))
 (cond (decide (x1 = 11))
 (some (2, ()))
 (cond (decide (x1 = 16))
 (some (3, ()))
 (some ((-1), ()))))
 (cond (decide (x1 = 12))
 (cond (decide (x1 = 12))
 (some (2, ()))
 (cond (decide (x1 = 16))
 (some (3, ()))
 (some ((-1), ()))))
 (cond (decide (x1 = 13))
 (cond (decide (x1 = 13))
 (some (2, ()))
 (cond (decide (x1 = 16))
 (some (3, ()))
 (some ((-1), ()))))
 (cond (decide (x1 = 14))
 (cond (decide (x1 = 14))
 (some (2, ()))
 (cond (decide (x1 = 16))
 (some (3, ()))
 (some ((-1), ()))))
 (cond (decide (x1 = 15))
 (cond (decide (x1 = 15))
 (some (2, ()))
 (cond (decide (x1 = 16))
 (some (3, ()))
 (some ((-1), ()))))
 (cond (decide (x1 = 17))
 (some (2, ()))
 (cond (decide (x1 = 16))
 (some (3, ()))
 (some ((-1), ())))))))))))))))
 (cond (decide (x1 = 18))
 (some (1, ()))
 (cond (decide (x1 = 6))
 (cond (decide (x1 = 6))
 (some (2, ()))
 (cond (decide (x1 = 16))
 (some (3, ()))
 (some ((-1), ()))))
 (cond (decide (x1 = 7))
 (cond (decide (x1 = 7))
 (some (2, ()))
 (cond (decide (x1 = 16))
 (some (3, ()))
 (some ((-1), ()))))
 (cond (decide (x1 = 8))
 (cond (decide (x1 = 8))
 (some (2, ()))
 (cond (decide (x1 = 16))
 (some (3, ()))
 (some ((-1), ()))))
 (cond (decide (x1 = 9))
 (cond (decide (x1 = 9))
 (some (2, ()))
 (cond (decide (x1 = 16))
 (some (3, ()))
 (some ((-1), ()))))
 (cond (decide (x1 = 10))
 (cond (decide (x1 = 10))
 (some (2, ()))
 (cond (decide (x1 = 16))
 (some (3, ()))
 (some ((-1), ()))))
 (cond (decide (x1 = 11))
 (cond (decide (x1 = 11))
 (some (2, ()))
 (cond (decide (x1 = 16))
 (some (3, ()))
 (some ((-1), ()))))
 (cond (decide (x1 = 12))
 (cond (decide (x1 = 12))
 (some (2, ()))
 (cond (decide (x1 = 16))
 (some (3, ()))
 (some ((-1), ()))))
 (cond (decide (x1 = 13))
 (cond (decide (x1 = 13))
 (some (2, ()))
 (cond (decide (x1 = 16))
 (some (3, ()))
 (some ((-1), ()))))
 (cond (decide (x1 = 14))
 (cond (decide (x1 = 14))
 (some (2, ()))
 (cond (decide (x1 = 16))
 (some (3, ()))
 (some ((-1), ()))))
 (cond (decide (x1 = 15))
 (cond (decide (x1 = 15))
 (some (2, ()))
 (cond (decide (x1 = 16))
 (some (3, ()))
 (some ((-1), ()))))
 (cond (decide (x1 = 17))
 (some (2, ()))
 (cond (decide (x1 = 16))
 (some (3, ()))
 (some ((-1), ())))))))))))))))))))
 (cond (decide (x1 = 22))
 (some (0, ()))
 (cond (decide (x1 = 3))
 (cond (decide (x1 = 3))
 (some (1, ()))
 (cond (decide (x1 = 6))
 (cond (decide (x1 = 6))
 (some (2, ()))
 (cond (decide (x1 = 16))
 (some (3, ()))
 (some ((-1), ()))))
 (cond (decide (x1 = 7))
 (cond (decide (x1 = 7))
 (some (2, ()))
 (cond (decide (x1 = 16))
 (some (3, ()))
 (some ((-1), ()))))
 (cond (decide (x1 = 8))
 (cond (decide (x1 = 8))
 (some (2, ()))
 (cond (decide (x1 = 16))
 (some (3, ()))
 (some ((-1), ()))))
 (cond (decide (x1 = 9))
 (cond (decide (x1 = 9))
 (some (2, ()))
 (cond (decide (x1 = 16))
 (some (3, ()))
 (some ((-1), ()))))
 (cond (decide (x1 = 10))
 (cond (decide (x1 = 10))
 (some (2, ()))
 (cond (decide (x1 = 16))
 (some (3, ()))
 (some ((-1), ()))))
 (cond (decide (x1 = 11))
 (cond (decide (x1 = 11))
 (some (2, ()))
 (cond (decide (x1 = 16))
 (some (3, ()))
 (some ((-1), ()))))
 (cond (decide (x1 = 12))
 (cond (decide (x1 = 12))
 (some (2, ()))
 (cond (decide (x1 = 16))
 (some (3, ()))
 (some ((-1), ()))))
 (cond (decide (x1 = 13))
 (cond (decide (x1 = 13))
 (some (2, ()))
 (cond (decide (x1 = 16))
 (some (3, ()))
 (some ((-1), ()))))
 (cond (decide (x1 = 14))
 (cond (decide (x1 = 14))
 (some (2, ()))
 (cond (decide (x1 = 16))
 (some (3, ()))
 (some ((-1), ()))))
 (cond (decide (x1 = 15))
 (cond (decide (x1 = 15))
 (some (2, ()))
 (cond (decide (x1 = 16))
 (some (3, ()))
 (some ((-1), ()))))
 (cond (decide (x1 = 17))
 (some (2, ()))
 (cond (decide (x1 = 16))
 (some (3, ()))
 (some ((-1), ())))))))))))))))
 (cond (decide (x1 = 4))
 (cond (decide (x1 = 4))
 (some (1, ()))
 (cond (decide (x1 = 6))
 (cond (decide (x1 = 6))
 (some (2, ()))
 (cond (decide (x1 = 16))
 (some (3, ()))
 (some ((-1), ()))))
 (cond (decide (x1 = 7))
 (cond (decide (x1 = 7))
 (some (2, ()))
 (cond (decide (x1 = 16))
 (some (3, ()))
 (some ((-1), ()))))
 (cond (decide (x1 = 8))
 (cond (decide (x1 = 8))
 (some (2, ()))
 (cond (decide (x1 = 16))
 (some (3, ()))
 (some ((-1), ()))))
 (cond (decide (x1 = 9))
 (cond (decide (x1 = 9))
 (some (2, ()))
 (cond (decide (x1 = 16))
 (some (3, ()))
 (some ((-1), ()))))
 (cond (decide (x1 = 10))
 (cond (decide (x1 = 10))
 (some (2, ()))
 (cond (decide (x1 = 16))
 (some (3, ()))
 (some ((-1), ()))))
 (cond (decide (x1 = 11))
 (cond (decide (x1 = 11))
 (some (2, ()))
 (cond (decide (x1 = 16))
 (some (3, ()))
 (some ((-1), ()))))
 (cond (decide (x1 = 12))
 (cond (decide (x1 = 12))
 (some (2, ()))
 (cond (decide (x1 = 16))
 (some (3, ()))
 (some ((-1), ()))))
 (cond (decide (x1 = 13))
 (cond (decide (x1 = 13))
 (some (2, ()))
 (cond (decide (x1 = 16))
 (some (3, ()))
 (some ((-1), ()))))
 (cond (decide (x1 = 14))
 (cond (decide (x1 = 14))
 (some (2, ()))
 (cond (decide (x1 = 16))
 (some (3, ()))
 (some ((-1), ()))))
 (cond (decide (x1 = 15))
 (cond (decide (x1 = 15))
 (some (2, ()))
 (cond (decide (x1 = 16))
 (some (3, ()))
 (some ((-1), ()))))
 (cond (decide (x1 = 17))
 (some (2, ()))
 (cond (decide (x1 = 16))
 (some (3, ()))
 (some ((-1), ())))))))))))))))
 (cond (decide (x1 = 5))
 (cond (decide (x1 = 5))
 (some (1, ()))
 (cond (decide (x1 = 6))
 (cond (decide (x1 = 6))
 (some (2, ()))
 (cond (decide (x1 = 16))
 (some (3, ()))
 (some ((-1), ()))))
 (cond (decide (x1 = 7))
 (cond (decide (x1 = 7))
 (some (2, ()))
 (cond (decide (x1 = 16))
 (some (3, ()))
 (some ((-1), ()))))
 (cond (decide (x1 = 8))
 (cond (decide (x1 = 8))
 (some (2, ()))
 (cond (decide (x1 = 16))
 (some (3, ()))
 (some ((-1), ()))))
 (cond (decide (x1 = 9))
 (cond (decide (x1 = 9))
 (some (2, ()))
 (cond (decide (x1 = 16))
 (some (3, ()))
 (some ((-1), ()))))
 (cond (decide (x1 = 10))
 (cond (decide (x1 = 10))
 (some (2, ()))
 (cond (decide (x1 = 16))
 (some (3, ()))
 (some ((-1), ()))))
 (cond (decide (x1 = 11))
 (cond (decide (x1 = 11))
 (some (2, ()))
 (cond (decide (x1 = 16))
 (some (3, ()))
 (some ((-1), ()))))
 (cond (decide (x1 = 12))
 (cond (decide (x1 = 12))
 (some (2, ()))
 (cond (decide (x1 = 16))
 (some (3, ()))
 (some ((-1), ()))))
 (cond (decide (x1 = 13))
 (cond (decide (x1 = 13))
 (some (2, ()))
 (cond (decide (x1 = 16))
 (some (3, ()))
 (some ((-1), ()))))
 (cond (decide (x1 = 14))
 (cond (decide (x1 = 14))
 (some (2, ()))
 (cond (decide (x1 = 16))
 (some (3, ()))
 (some ((-1), ()))))
 (cond (decide (x1 = 15))
 (cond (decide (x1 = 15))
 (some (2, ()))
 (cond (decide (x1 = 16))
 (some (3, ()))
 (some ((-1), ()))))
 (cond (decide (x1 = 17))
 (some (2, ()))
 (cond (decide (x1 = 16))
 (some (3, ()))
 (some ((-1), ())))))))))))))))
 (cond (decide (x1 = 18))
 (some (1, ()))
 (cond (decide (x1 = 6))
 (cond (decide (x1 = 6))
 (some (2, ()))
 (cond (decide (x1 = 16))
 (some (3, ()))
 (some ((-1), ()))))
 (cond (decide (x1 = 7))
 (cond (decide (x1 = 7))
 (some (2, ()))
 (cond (decide (x1 = 16))
 (some (3, ()))
 (some ((-1), ()))))
 (cond (decide (x1 = 8))
 (cond (decide (x1 = 8))
 (some (2, ()))
 (cond (decide (x1 = 16))
 (some (3, ()))
 (some ((-1), ()))))
 (cond (decide (x1 = 9))
 (cond (decide (x1 = 9))
 (some (2, ()))
 (cond (decide (x1 = 16))
 (some (3, ()))
 (some ((-1), ()))))
 (cond (decide (x1 = 10))
 (cond (decide (x1 = 10))
 (some (2, ()))
 (cond (decide (x1 = 16))
 (some (3, ()))
 (some ((-1), ()))))
 (cond (decide (x1 = 11))
 (cond (decide (x1 = 11))
 (some (2, ()))
 (cond (decide (x1 = 16))
 (some (3, ()))
 (some ((-1), ()))))
 (cond (decide (x1 = 12))
 (cond (decide (x1 = 12))
 (some (2, ()))
 (cond (decide (x1 = 16))
 (some (3, ()))
 (some ((-1), ()))))
 (cond (decide (x1 = 13))
 (cond (decide (x1 = 13))
 (some (2, ()))
 (cond (decide (x1 = 16))
 (some (3, ()))
 (some ((-1), ()))))
 (cond (decide (x1 = 14))
 (cond (decide (x1 = 14))
 (some (2, ()))
 (cond (decide (x1 = 16))
 (some (3, ()))
 (some ((-1), ()))))
 (cond (decide (x1 = 15))
 (cond (decide (x1 = 15))
 (some (2, ()))
 (cond (decide (x1 = 16))
 (some (3, ()))
 (some ((-1), ()))))
 (cond (decide (x1 = 17))
 (some (2, ()))
 (cond (decide (x1 = 16))
 (some (3, ()))
 (some ((-1), ()))))))))))))))))))))
def ref09_operands_s : Sig := ⟨[.c false [.int .i64]], [], .c false [.int .i64], []⟩
def ref09_operands_a : Ann := .d
noncomputable def ref09_operands_c (n : Nat) : Ctr Try.prog := .of Try.func44 n [] ref09_operands_a ref09_operands_s (fun d => ref09_operands n d.1) fun d => by kernel_rfl
noncomputable def ref09_wide (n : Nat) (x1 : List Kiiiiiii) (x2 : List Ksi) (x3 : List Ksiii) (x4 : List Kisi) (x5 : List Ksi) (x6 : Int) (x7 : Int) : Option (Int × Unit) :=
 cond (decide (x6 < 0))
 (some (0, ()))
 (cond (decide (x7 ≤ x6))
 (some (0, ()))
 (ask (0 ≤ x6 ∧ x6 < (x1.length : Int)) (some (((Kiiiiiii_at x1 x6).2).1, ()))))
def ref09_wide_s : Sig := ⟨[.c true [.row Kiiiiiii_, .row Ksi_, .row Ksiii_, .row Kisi_, .row Ksi_], .c false [.int .i64], .c false [.int .i64]], [], .c false [.int .i64], []⟩
def ref09_wide_a : Ann := .d
noncomputable def ref09_wide_c (n : Nat) : Ctr Try.prog := .of Try.func46 n [] ref09_wide_a ref09_wide_s (fun d => ref09_wide n d.1 d.2.1 d.2.2.1 d.2.2.2.1 d.2.2.2.2.1 d.2.2.2.2.2.1 d.2.2.2.2.2.2.1) fun d => by kernel_rfl
noncomputable def ref08_Mask (n : Nat) (x1 : Int) : Option (Int × Unit) :=
 ask (0 ≤ x1) (some (IntKind.wrap .i64 ((shlI .i64 1 x1) - 1), ()))
def ref08_Mask_s : Sig := ⟨[.c false [.int .i64]], [], .c false [.int .i64], []⟩
def ref08_Mask_a : Ann := .d
noncomputable def ref08_Mask_c (n : Nat) : Ctr Try.prog := .of Try.func27 n [] ref08_Mask_a ref08_Mask_s (fun d => ref08_Mask n d.1) fun d => by kernel_rfl
noncomputable def ref09_fits_j1 (n : Nat) (x1 : List Kiiiiiii) (x6 : Int) : Option ((Bool × Unit)) :=
 cond (decide ((((((((Kiiiiiii_at x1 x6).2).2).2).2).2).1) = 0))
 (some (decide ((((((((Kiiiiiii_at x1 x6).2).2).2).2).2).2) = 0), ()))
 (some (false, ()))
noncomputable def ref09_fits_j2 (n : Nat) (x1 : List Kiiiiiii) (x6 : Int) : Option ((Bool × Unit)) :=
 cond (decide (((Kiiiiiii_at x1 x6).1) = 6))
 (some (decide (((Kiiiiiii_at x1 x6).1) = 6), ()))
 (cond (decide (((Kiiiiiii_at x1 x6).1) = 7))
 (some (decide (((Kiiiiiii_at x1 x6).1) = 7), ()))
 (cond (decide (((Kiiiiiii_at x1 x6).1) = 8))
 (some (decide (((Kiiiiiii_at x1 x6).1) = 8), ()))
 (cond (decide (((Kiiiiiii_at x1 x6).1) = 9))
 (some (decide (((Kiiiiiii_at x1 x6).1) = 9), ()))
 (cond (decide (((Kiiiiiii_at x1 x6).1) = 10))
 (some (decide (((Kiiiiiii_at x1 x6).1) = 10), ()))
 (some (decide (((Kiiiiiii_at x1 x6).1) = 11), ()))))))
noncomputable def ref09_fits_j3 (n : Nat) (x1 : List Kiiiiiii) (x6 : Int) : Option ((Bool × Unit)) :=
 cond (decide (((Kiiiiiii_at x1 x6).1) = 12))
 (some (decide (((Kiiiiiii_at x1 x6).1) = 12), ()))
 (cond (decide (((Kiiiiiii_at x1 x6).1) = 13))
 (some (decide (((Kiiiiiii_at x1 x6).1) = 13), ()))
 (cond (decide (((Kiiiiiii_at x1 x6).1) = 14))
 (some (decide (((Kiiiiiii_at x1 x6).1) = 14), ()))
 (some (decide (((Kiiiiiii_at x1 x6).1) = 15), ()))))
noncomputable def ref09_fits (n : Nat) (x1 : List Kiiiiiii) (x2 : List Ksi) (x3 : List Ksiii) (x4 : List Kisi) (x5 : List Ksi) (x6 : Int) : Option (Bool × Unit) :=
 ask (0 ≤ x6 ∧ x6 < (x1.length : Int)) ((ref09_wide n x1 x2 x3 x4 x5 ((((Kiiiiiii_at x1 x6).2).2).1) x6).bind (fun r7 => (ref09_wide n x1 x2 x3 x4 x5 (((((Kiiiiiii_at x1 x6).2).2).2).1) x6).bind (fun r8 => (ref09_wide n x1 x2 x3 x4 x5 ((((((Kiiiiiii_at x1 x6).2).2).2).2).1) x6).bind (fun r9 => (ref09_fits_j1 n x1 x6).bind (fun d10 => cond (decide (((Kiiiiiii_at x1 x6).1) = 1))
 (cond (decide ((0 : Int) ≤ (((((((Kiiiiiii_at x1 x6).2).2).2).2).2).1)))
 ((ref08_Mask n (((Kiiiiiii_at x1 x6).2).1)).bind (fun r11 => cond (decide ((((((((Kiiiiiii_at x1 x6).2).2).2).2).2).1) ≤ r11.1))
 (some (decide ((((((((Kiiiiiii_at x1 x6).2).2).2).2).2).2) = 0), ()))
 (some (false, ()))))
 (some (false, ())))
 (((cond (decide (((Kiiiiiii_at x1 x6).1) = 21))
 (some (decide (((Kiiiiiii_at x1 x6).1) = 21), ()))
 (some (decide (((Kiiiiiii_at x1 x6).1) = 22), ()))) : Option ((Bool × Unit))).bind (fun d12 => cond d12.1
 (some (d10.1, ()))
 (cond (decide (((Kiiiiiii_at x1 x6).1) = 3))
 (cond d10.1
 (some (decide (r7.1 = (((Kiiiiiii_at x1 x6).2).1)), ()))
 (some (false, ())))
 (((cond (decide (((Kiiiiiii_at x1 x6).1) = 4))
 (some (decide (((Kiiiiiii_at x1 x6).1) = 4), ()))
 (some (decide (((Kiiiiiii_at x1 x6).1) = 5), ()))) : Option ((Bool × Unit))).bind (fun d13 => cond d13.1
 (cond (decide ((((((((Kiiiiiii_at x1 x6).2).2).2).2).2).1) = 0))
 (cond (decide ((((Kiiiiiii_at x1 x6).2).1) = 1))
 (cond (decide (r7.1 = (((((((Kiiiiiii_at x1 x6).2).2).2).2).2).2)))
 (some (decide ((0 : Int) < r7.1), ()))
 (some (false, ())))
 (some (false, ())))
 (some (false, ())))
 ((ref09_fits_j2 n x1 x6).bind (fun d14 => cond d14.1
 (cond d10.1
 (cond (decide (r7.1 = (((Kiiiiiii_at x1 x6).2).1)))
 (some (decide (r8.1 = (((Kiiiiiii_at x1 x6).2).1)), ()))
 (some (false, ())))
 (some (false, ())))
 ((ref09_fits_j3 n x1 x6).bind (fun d15 => cond d15.1
 (cond (decide ((((((((Kiiiiiii_at x1 x6).2).2).2).2).2).1) = 0))
 (cond (decide ((((Kiiiiiii_at x1 x6).2).1) = 1))
 (cond (decide (r7.1 = (((((((Kiiiiiii_at x1 x6).2).2).2).2).2).2)))
 (cond (decide (r8.1 = (((((((Kiiiiiii_at x1 x6).2).2).2).2).2).2)))
 (some (decide ((0 : Int) < r7.1), ()))
 (some (false, ())))
 (some (false, ())))
 (some (false, ())))
 (some (false, ())))
 (cond (decide (((Kiiiiiii_at x1 x6).1) = 16))
 (cond d10.1
 (cond (decide (r7.1 = 1))
 (cond (decide (r8.1 = (((Kiiiiiii_at x1 x6).2).1)))
 (some (decide (r9.1 = (((Kiiiiiii_at x1 x6).2).1)), ()))
 (some (false, ())))
 (some (false, ())))
 (some (false, ())))
 (cond (decide (((Kiiiiiii_at x1 x6).1) = 17))
 (cond d10.1
 (cond (decide ((0 : Int) < r7.1))
 (cond (decide ((0 : Int) < r8.1))
 (some (decide ((IntKind.wrap .i64 (r7.1 + r8.1)) = (((Kiiiiiii_at x1 x6).2).1)), ()))
 (some (false, ())))
 (some (false, ())))
 (some (false, ())))
 (cond (decide ((0 : Int) ≤ (((((((Kiiiiiii_at x1 x6).2).2).2).2).2).2)))
 (cond (decide ((((((((Kiiiiiii_at x1 x6).2).2).2).2).2).2) ≤ (((((((Kiiiiiii_at x1 x6).2).2).2).2).2).1)))
 (cond (decide ((((((((Kiiiiiii_at x1 x6).2).2).2).2).2).1) < r7.1))
 (some (decide ((((Kiiiiiii_at x1 x6).2).1) = (IntKind.wrap .i64 ((IntKind.wrap .i64 ((((((((Kiiiiiii_at x1 x6).2).2).2).2).2).1) - (((((((Kiiiiiii_at x1 x6).2).2).2).2).2).2))) + 1))), ()))
 (some (false, ())))
 (some (false, ())))
 (some (false, ())))))))))))))))))))
def ref09_fits_s : Sig := ⟨[.c true [.row Kiiiiiii_, .row Ksi_, .row Ksiii_, .row Kisi_, .row Ksi_], .c false [.int .i64]], [], .c false [.bool], []⟩
def ref09_fits_a : Ann := .s .d (.s .d (.s .d (.s .d (.s .d (.j [9, 30, 31, 32, 33, 34, 35, 36, 37] [] [(.normal, ⟨[(9, .c false [.bool])], []⟩)] .d (.s (.s .d (.b (.s .d (.s .d (.j [58, 59, 60] [] [(.normal, ⟨[(58, .c false [.bool])], []⟩)] .d (.s .d (.s .d (.s .d (.j [71, 72, 73] [] [(.normal, ⟨[(71, .c false [.bool])], []⟩)] .d (.s .d (.j [92, 93, 94, 95, 96, 97, 98] [] [(.normal, ⟨[(92, .c false [.bool])], []⟩)] .d (.s .d (.j [112, 113, 114, 115, 116] [] [(.normal, ⟨[(112, .c false [.bool])], []⟩)] .d .d))))))))))))) .d))))))
noncomputable def ref09_fits_c (n : Nat) : Ctr Try.prog := .of Try.func45 n [ref09_wide_c n, ref08_Mask_c n] ref09_fits_a ref09_fits_s (fun d => ref09_fits n d.1 d.2.1 d.2.2.1 d.2.2.2.1 d.2.2.2.2.1 d.2.2.2.2.2.1) fun d => by kernel_rfl
noncomputable def ref09_node (n : Nat) (x1 : List Kiiiiiii) (x2 : List Ksi) (x3 : List Ksiii) (x4 : List Kisi) (x5 : List Ksi) (x6 : Int) : Option (Bool × Unit) :=
 ask (0 ≤ x6 ∧ x6 < (x1.length : Int)) ((ref09_operands n ((Kiiiiiii_at x1 x6).1)).bind (fun r7 => cond (decide ((((Kiiiiiii_at x1 x6).2).1) < 1))
 (some (false, ()))
 (cond (decide ((16 : Int) < (((Kiiiiiii_at x1 x6).2).1)))
 (some (false, ()))
 (cond (decide (r7.1 < 0))
 (some (false, ()))
 (cond (decide (r7.1 < 1))
 (cond (decide (((((Kiiiiiii_at x1 x6).2).2).1) ≠ 0))
 (some (false, ()))
 (cond (decide (r7.1 < 2))
 (cond (decide ((((((Kiiiiiii_at x1 x6).2).2).2).1) ≠ 0))
 (some (false, ()))
 (cond (decide (r7.1 < 3))
 (cond (decide (((((((Kiiiiiii_at x1 x6).2).2).2).2).1) ≠ 0))
 (some (false, ()))
 ((ref09_fits n x1 x2 x3 x4 x5 x6).bind (fun r8 => some (r8.1, ()))))
 ((ref09_fits n x1 x2 x3 x4 x5 x6).bind (fun r9 => some (r9.1, ())))))
 (cond (decide (r7.1 < 3))
 (cond (decide (((((((Kiiiiiii_at x1 x6).2).2).2).2).1) ≠ 0))
 (some (false, ()))
 ((ref09_fits n x1 x2 x3 x4 x5 x6).bind (fun r10 => some (r10.1, ()))))
 ((ref09_fits n x1 x2 x3 x4 x5 x6).bind (fun r11 => some (r11.1, ()))))))
 (cond (decide (r7.1 < 2))
 (cond (decide ((((((Kiiiiiii_at x1 x6).2).2).2).1) ≠ 0))
 (some (false, ()))
 (cond (decide (r7.1 < 3))
 (cond (decide (((((((Kiiiiiii_at x1 x6).2).2).2).2).1) ≠ 0))
 (some (false, ()))
 ((ref09_fits n x1 x2 x3 x4 x5 x6).bind (fun r12 => some (r12.1, ()))))
 ((ref09_fits n x1 x2 x3 x4 x5 x6).bind (fun r13 => some (r13.1, ())))))
 (cond (decide (r7.1 < 3))
 (cond (decide (((((((Kiiiiiii_at x1 x6).2).2).2).2).1) ≠ 0))
 (some (false, ()))
 ((ref09_fits n x1 x2 x3 x4 x5 x6).bind (fun r14 => some (r14.1, ()))))
 ((ref09_fits n x1 x2 x3 x4 x5 x6).bind (fun r15 => some (r15.1, ()))))))))))
def ref09_node_s : Sig := ⟨[.c true [.row Kiiiiiii_, .row Ksi_, .row Ksiii_, .row Kisi_, .row Ksi_], .c false [.int .i64]], [], .c false [.bool], []⟩
def ref09_node_a : Ann := .d
noncomputable def ref09_node_c (n : Nat) : Ctr Try.prog := .of Try.func29 n [ref09_operands_c n, ref09_fits_c n] ref09_node_a ref09_node_s (fun d => ref09_node n d.1 d.2.1 d.2.2.1 d.2.2.2.1 d.2.2.2.2.1 d.2.2.2.2.2.1) fun d => by kernel_rfl
noncomputable def ref09_pins_j1 (n : Nat) (d7 : Int × Int × Int × Unit) (x1 : List Kiiiiiii) (x2 : List Ksi) : Option ((Bool × Unit) ⊕ (Int × Unit)) :=
 ask (0 ≤ d7.2.2.1 ∧ d7.2.2.1 < (x1.length : Int)) (cond (decide (((Kiiiiiii_at x1 d7.2.2.1).1) = 21))
 (cond (decide ((x2.length : Int) ≤ d7.1))
 (some (.inl (false, ())))
 (ask (0 ≤ d7.1 ∧ d7.1 < (x2.length : Int)) (cond (decide (((Ksi_at x2 d7.1).2) ≠ d7.2.2.1))
 (some (.inl (false, ())))
 (some (.inr (IntKind.wrap .i64 (d7.1 + 1), ()))))))
 (some (.inr (d7.1, ()))))
noncomputable def ref09_pins_l2b (n : Nat) (x1 : List Kiiiiiii) (x2 : List Ksi) (x3 : List Ksiii) (self : Int × Int × Int × Unit → Option ((Bool × Unit) ⊕ (Int × Int × Unit))) (d7 : Int × Int × Int × Unit) : Option ((Bool × Unit) ⊕ (Int × Int × Unit)) :=
 cond (decide (d7.2.2.1 < (x1.length : Int)))
 ((ref09_pins_j1 n d7 x1 x2).bind (Sum.elim (fun d8 => some (.inl (d8.1, ()))) (fun d9 => ask (0 ≤ d7.2.2.1 ∧ d7.2.2.1 < (x1.length : Int)) (cond (decide (((Kiiiiiii_at x1 d7.2.2.1).1) = 22))
 (cond (decide ((x3.length : Int) ≤ d7.2.1))
 (some (.inl (false, ())))
 (ask (0 ≤ d7.2.1 ∧ d7.2.1 < (x3.length : Int)) (cond (decide ((((Ksiii_at x3 d7.2.1).2).1) ≠ d7.2.2.1))
 (some (.inl (false, ())))
 (self (d9.1, IntKind.wrap .i64 (d7.2.1 + 1), IntKind.wrap .i64 (d7.2.2.1 + 1), ())))))
 (self (d9.1, d7.2.1, IntKind.wrap .i64 (d7.2.2.1 + 1), ()))))))
 (some (.inr (d7.1, d7.2.1, ())))
noncomputable def ref09_pins_l2 (n : Nat) (x1 : List Kiiiiiii) (x2 : List Ksi) (x3 : List Ksiii) : Int × Int × Int × Unit → Option ((Bool × Unit) ⊕ (Int × Int × Unit)) := iter (ref09_pins_l2b n x1 x2 x3) n
noncomputable def ref09_pins (n : Nat) (x1 : List Kiiiiiii) (x2 : List Ksi) (x3 : List Ksiii) (x4 : List Kisi) (x5 : List Ksi) : Option (Bool × Unit) :=
 (ref09_pins_l2 n x1 x2 x3 (0, 0, 0, ())).bind (Sum.elim (fun d10 => some (d10.1, ())) (fun d11 => cond (decide (d11.1 = (x2.length : Int)))
 (some (decide (d11.2.1 = (x3.length : Int)), ()))
 (some (false, ()))))
def ref09_pins_s : Sig := ⟨[.c true [.row Kiiiiiii_, .row Ksi_, .row Ksiii_, .row Kisi_, .row Ksi_]], [], .c false [.bool], []⟩
def ref09_pins_a : Ann := .s .d (.s .d (.s .d (.s (.s .d (.b (.l [2, 3, 4, 5, 6, 7, 8, 9, 10, 11, 12, 13, 14, 15, 16, 17, 18, 19, 20, 21, 22, 23, 24, 25, 26, 27, 28, 29, 30, 31, 32, 33, 34, 35, 36, 37, 38, 39, 40, 41, 42, 43, 44, 45, 46, 47, 48, 49, 50, 51, 52, 53, 54, 55, 56, 57, 58, 59, 60] [] ⟨[(3, .c false [.int .i64]), (4, .c false [.int .i64]), (5, .c false [.int .i64])], []⟩ [(.ret, ⟨[(2, .c false [.bool])], []⟩), (.exit 0, ⟨[(3, .c false [.int .i64]), (4, .c false [.int .i64])], []⟩)] (.s .d (.s (.b (.j [2, 3, 13, 14, 15, 16, 17, 18, 19, 20, 21, 22, 23, 24, 25, 26, 27, 28, 29, 30, 31, 32, 33, 34, 35, 36] [] [(.ret, ⟨[(2, .c false [.bool])], []⟩), (.normal, ⟨[(3, .c false [.int .i64])], []⟩)] .d .d)) .d))))) .d)))
noncomputable def ref09_pins_c (n : Nat) : Ctr Try.prog := .of Try.func30 n [] ref09_pins_a ref09_pins_s (fun d => ref09_pins n d.1 d.2.1 d.2.2.1 d.2.2.2.1 d.2.2.2.2.1) fun d => by kernel_rfl
noncomputable def ref09_there (n : Nat) (x1 : List Kiiiiiii) (x2 : List Ksi) (x3 : List Ksiii) (x4 : List Kisi) (x5 : List Ksi) (x6 : Int) : Option (Int × Unit) :=
 (ref09_wide n x1 x2 x3 x4 x5 x6 (x1.length : Int)).bind (fun r7 => some (r7.1, ()))
def ref09_there_s : Sig := ⟨[.c true [.row Kiiiiiii_, .row Ksi_, .row Ksiii_, .row Kisi_, .row Ksi_], .c false [.int .i64]], [], .c false [.int .i64], []⟩
def ref09_there_a : Ann := .d
noncomputable def ref09_there_c (n : Nat) : Ctr Try.prog := .of Try.func31 n [ref09_wide_c n] ref09_there_a ref09_there_s (fun d => ref09_there n d.1 d.2.1 d.2.2.1 d.2.2.2.1 d.2.2.2.2.1 d.2.2.2.2.2.1) fun d => by kernel_rfl
noncomputable def ref09_Right_l1b (n : Nat) (x1 : List Kiiiiiii) (x2 : List Ksi) (x3 : List Ksiii) (x4 : List Kisi) (x5 : List Ksi) (self : Int × Unit → Option ((Bool × Unit) ⊕ (Unit))) (d7 : Int × Unit) : Option ((Bool × Unit) ⊕ (Unit)) :=
 cond (decide (d7.1 < (x1.length : Int)))
 ((ref09_node n x1 x2 x3 x4 x5 d7.1).bind (fun r8 => cond (!r8.1)
 (some (.inl (false, ())))
 (self (IntKind.wrap .i64 (d7.1 + 1), ()))))
 (some (.inr ()))
noncomputable def ref09_Right_l1 (n : Nat) (x1 : List Kiiiiiii) (x2 : List Ksi) (x3 : List Ksiii) (x4 : List Kisi) (x5 : List Ksi) : Int × Unit → Option ((Bool × Unit) ⊕ (Unit)) := iter (ref09_Right_l1b n x1 x2 x3 x4 x5) n
noncomputable def ref09_Right_l2b (n : Nat) (x1 : List Kiiiiiii) (x2 : List Ksi) (x3 : List Ksiii) (x4 : List Kisi) (x5 : List Ksi) (self : Int × Int × Unit → Option ((Bool × Unit) ⊕ (Int × Unit))) (d13 : Int × Int × Unit) : Option ((Bool × Unit) ⊕ (Int × Unit)) :=
 cond (decide (d13.2.1 < (x3.length : Int)))
 (ask (0 ≤ d13.2.1 ∧ d13.2.1 < (x3.length : Int)) (ask (0 ≤ (((Ksiii_at x3 d13.2.1).2).1) ∧ ((Ksiii_at x3 d13.2.1).2).1 < (x1.length : Int)) ((ref09_there n x1 x2 x3 x4 x5 ((((Ksiii_at x3 d13.2.1).2).2).1)).bind (fun r14 => cond (decide (r14.1 ≠ (((Kiiiiiii_at x1 (((Ksiii_at x3 d13.2.1).2).1)).2).1)))
 (some (.inl (false, ())))
 (cond (decide (((((Ksiii_at x3 d13.2.1).2).2).2) < 0))
 (some (.inl (false, ())))
 ((ref08_Mask n (((Kiiiiiii_at x1 (((Ksiii_at x3 d13.2.1).2).1)).2).1)).bind (fun r15 => cond (decide (r15.1 < ((((Ksiii_at x3 d13.2.1).2).2).2)))
 (some (.inl (false, ())))
 (self (IntKind.wrap .i64 (d13.1 + (((Kiiiiiii_at x1 (((Ksiii_at x3 d13.2.1).2).1)).2).1)), IntKind.wrap .i64 (d13.2.1 + 1), ())))))))))
 (some (.inr (d13.1, ())))
noncomputable def ref09_Right_l2 (n : Nat) (x1 : List Kiiiiiii) (x2 : List Ksi) (x3 : List Ksiii) (x4 : List Kisi) (x5 : List Ksi) : Int × Int × Unit → Option ((Bool × Unit) ⊕ (Int × Unit)) := iter (ref09_Right_l2b n x1 x2 x3 x4 x5) n
noncomputable def ref09_Right_l3b (n : Nat) (x1 : List Kiiiiiii) (x2 : List Ksi) (x3 : List Ksiii) (x4 : List Kisi) (x5 : List Ksi) (self : Int × Unit → Option ((Bool × Unit) ⊕ (Unit))) (d19 : Int × Unit) : Option ((Bool × Unit) ⊕ (Unit)) :=
 cond (decide (d19.1 < (x4.length : Int)))
 (ask (0 ≤ d19.1 ∧ d19.1 < (x4.length : Int)) (cond (decide (((Kisi_at x4 d19.1).1) < 8))
 (some (.inl (false, ())))
 (cond (decide ((10 : Int) < ((Kisi_at x4 d19.1).1)))
 (some (.inl (false, ())))
 ((ref09_there n x1 x2 x3 x4 x5 (((Kisi_at x4 d19.1).2).2)).bind (fun r20 => cond (decide (r20.1 ≠ 1))
 (some (.inl (false, ())))
 (self (IntKind.wrap .i64 (d19.1 + 1), ())))))))
 (some (.inr ()))
noncomputable def ref09_Right_l3 (n : Nat) (x1 : List Kiiiiiii) (x2 : List Ksi) (x3 : List Ksiii) (x4 : List Kisi) (x5 : List Ksi) : Int × Unit → Option ((Bool × Unit) ⊕ (Unit)) := iter (ref09_Right_l3b n x1 x2 x3 x4 x5) n
noncomputable def ref09_Right_l4b (n : Nat) (x1 : List Kiiiiiii) (x2 : List Ksi) (x3 : List Ksiii) (x4 : List Kisi) (x5 : List Ksi) (self : Int × Unit → Option ((Bool × Unit) ⊕ (Unit))) (d24 : Int × Unit) : Option ((Bool × Unit) ⊕ (Unit)) :=
 cond (decide (d24.1 < (x5.length : Int)))
 (ask (0 ≤ d24.1 ∧ d24.1 < (x5.length : Int)) ((ref09_there n x1 x2 x3 x4 x5 ((Ksi_at x5 d24.1).2)).bind (fun r25 => cond (decide (r25.1 = 0))
 (some (.inl (false, ())))
 (self (IntKind.wrap .i64 (d24.1 + 1), ())))))
 (some (.inr ()))
noncomputable def ref09_Right_l4 (n : Nat) (x1 : List Kiiiiiii) (x2 : List Ksi) (x3 : List Ksiii) (x4 : List Kisi) (x5 : List Ksi) : Int × Unit → Option ((Bool × Unit) ⊕ (Unit)) := iter (ref09_Right_l4b n x1 x2 x3 x4 x5) n
noncomputable def ref09_Right (n : Nat) (x1 : List Kiiiiiii) (x2 : List Ksi) (x3 : List Ksiii) (x4 : List Kisi) (x5 : List Ksi) : Option (Bool × Unit) :=
 cond (decide ((4000 : Int) < (x1.length : Int)))
 (some (false, ()))
 (cond (decide ((64 : Int) < (x2.length : Int)))
 (some (false, ()))
 (cond (decide ((256 : Int) < (x3.length : Int)))
 (some (false, ()))
 (cond (decide ((16 : Int) < (x4.length : Int)))
 (some (false, ()))
 ((ref09_Right_l1 n x1 x2 x3 x4 x5 (0, ())).bind (Sum.elim (fun d9 => some (d9.1, ())) (fun d10 => (ref09_pins n x1 x2 x3 x4 x5).bind (fun r11 => cond (!r11.1)
 (some (false, ()))
 ((ref09_Right_l2 n x1 x2 x3 x4 x5 (0, 0, ())).bind (Sum.elim (fun d16 => some (d16.1, ())) (fun d17 => (ref09_Right_l3 n x1 x2 x3 x4 x5 (0, ())).bind (Sum.elim (fun d21 => some (d21.1, ())) (fun d22 => (ref09_Right_l4 n x1 x2 x3 x4 x5 (0, ())).bind (Sum.elim (fun d26 => some (d26.1, ())) (fun d27 => some (decide (d17.1 ≤ 256), ())))))))))))))))
def ref09_Right_s : Sig := ⟨[.c true [.row Kiiiiiii_, .row Ksi_, .row Ksiii_, .row Kisi_, .row Ksi_]], [], .c false [.bool], []⟩
def ref09_Right_a : Ann := .s .d (.s .d (.s (.s .d (.b (.l [2, 3, 33, 34, 35, 36, 37, 38, 39, 40, 41, 42, 43] [] ⟨[(3, .c false [.int .i64])], []⟩ [(.ret, ⟨[(2, .c false [.bool])], []⟩), (.exit 0, ⟨[], []⟩)] .d))) (.s .d (.s .d (.s (.s .d (.b (.l [2, 4, 5, 6, 7, 47, 48, 49, 50, 51, 52, 53, 54, 55, 56, 57, 58, 59, 60, 61, 62, 63, 64, 65, 66, 67, 68, 69, 70, 71, 72, 73, 74, 75, 76, 77, 78, 79, 80, 81, 82, 83, 84, 85, 86] [] ⟨[(4, .c false [.int .i64]), (5, .c false [.int .i64])], []⟩ [(.ret, ⟨[(2, .c false [.bool])], []⟩), (.exit 2, ⟨[(4, .c false [.int .i64])], []⟩)] .d))) (.s (.s .d (.b (.l [2, 8, 9, 87, 88, 89, 90, 91, 92, 93, 94, 95, 96, 97, 98, 99, 100, 101, 102, 103, 104, 105, 106, 107, 108, 109, 110, 111, 112, 113] [] ⟨[(8, .c false [.int .i64])], []⟩ [(.ret, ⟨[(2, .c false [.bool])], []⟩), (.exit 4, ⟨[], []⟩)] .d))) (.s (.s .d (.b (.l [2, 10, 114, 115, 116, 117, 118, 119, 120, 121, 122, 123, 124, 125, 126, 127, 128, 129] [] ⟨[(10, .c false [.int .i64])], []⟩ [(.ret, ⟨[(2, .c false [.bool])], []⟩), (.exit 6, ⟨[], []⟩)] .d))) .d)))))))
noncomputable def ref09_Right_c (n : Nat) : Ctr Try.prog := .of Try.func12 n [ref09_node_c n, ref09_pins_c n, ref09_there_c n, ref08_Mask_c n] ref09_Right_a ref09_Right_s (fun d => ref09_Right n d.1 d.2.1 d.2.2.1 d.2.2.2.1 d.2.2.2.2.1) fun d => by kernel_rfl
noncomputable def ref11_Right_l1b (n : Nat) (d8 : Int × Unit) (x1 : List Kiiiiiii) (x2 : List Ksi) (x6 : List (List Int)) (self : Int × Unit → Option ((Bool × Unit) ⊕ (Unit))) (d10 : Int × Unit) : Option ((Bool × Unit) ⊕ (Unit)) :=
 cond (decide (d10.1 < (x2.length : Int)))
 (ask (0 ≤ d8.1 ∧ d8.1 < (x6.length : Int)) (ask (0 ≤ d10.1 ∧ d10.1 < ((KLi_at x6 d8.1).length : Int)) (cond (decide ((Ki_at (KLi_at x6 d8.1) d10.1) < 0))
 (some (.inl (false, ())))
 (ask (0 ≤ d10.1 ∧ d10.1 < (x2.length : Int)) (ask (0 ≤ ((Ksi_at x2 d10.1).2) ∧ (Ksi_at x2 d10.1).2 < (x1.length : Int)) ((ref08_Mask n (((Kiiiiiii_at x1 ((Ksi_at x2 d10.1).2)).2).1)).bind (fun r11 => cond (decide (r11.1 < (Ki_at (KLi_at x6 d8.1) d10.1)))
 (some (.inl (false, ())))
 (self (IntKind.wrap .i64 (d10.1 + 1), ())))))))))
 (some (.inr ()))
noncomputable def ref11_Right_l1 (n : Nat) (d8 : Int × Unit) (x1 : List Kiiiiiii) (x2 : List Ksi) (x6 : List (List Int)) : Int × Unit → Option ((Bool × Unit) ⊕ (Unit)) := iter (ref11_Right_l1b n d8 x1 x2 x6) n
noncomputable def ref11_Right_l2b (n : Nat) (x1 : List Kiiiiiii) (x2 : List Ksi) (x6 : List (List Int)) (self : Int × Unit → Option ((Bool × Unit) ⊕ (Unit))) (d8 : Int × Unit) : Option ((Bool × Unit) ⊕ (Unit)) :=
 cond (decide (d8.1 < (x6.length : Int)))
 (ask (0 ≤ d8.1 ∧ d8.1 < (x6.length : Int)) (cond (decide (((KLi_at x6 d8.1).length : Int) ≠ (x2.length : Int)))
 (some (.inl (false, ())))
 ((ref11_Right_l1 n d8 x1 x2 x6 (0, ())).bind (Sum.elim (fun d12 => some (.inl (d12.1, ()))) (fun d13 => self (IntKind.wrap .i64 (d8.1 + 1), ()))))))
 (some (.inr ()))
noncomputable def ref11_Right_l2 (n : Nat) (x1 : List Kiiiiiii) (x2 : List Ksi) (x6 : List (List Int)) : Int × Unit → Option ((Bool × Unit) ⊕ (Unit)) := iter (ref11_Right_l2b n x1 x2 x6) n
noncomputable def ref11_Right (n : Nat) (x1 : List Kiiiiiii) (x2 : List Ksi) (x3 : List Ksiii) (x4 : List Kisi) (x5 : List Ksi) (x6 : List (List Int)) : Option (Bool × Unit) :=
 cond (decide ((64 : Int) < (x6.length : Int)))
 (some (false, ()))
 ((ref11_Right_l2 n x1 x2 x6 (0, ())).bind (Sum.elim (fun d14 => some (d14.1, ())) (fun d15 => some (true, ()))))
def ref11_Right_s : Sig := ⟨[.c true [.row Kiiiiiii_, .row Ksi_, .row Ksiii_, .row Kisi_, .row Ksi_], .c false [.row KLi_]], [], .c false [.bool], []⟩
def ref11_Right_a : Ann := .s .d (.s .d (.s (.s .d (.b (.l [4, 5, 6, 7, 11, 12, 13, 14, 15, 16, 17, 18, 19, 20, 21, 22, 23, 24, 25, 26, 27, 28, 29, 30, 31, 32, 33, 34, 35, 36, 37, 38, 39, 40, 41, 42, 43, 44, 45, 46, 47, 48, 49, 50, 51, 52, 53, 54, 55, 56, 57] [] ⟨[(5, .c false [.int .i64])], []⟩ [(.ret, ⟨[(4, .c false [.bool])], []⟩), (.exit 0, ⟨[], []⟩)] (.s .d (.s (.b (.s .d (.s .d (.b (.l [4, 6, 7, 26, 27, 28, 29, 30, 31, 32, 33, 34, 35, 36, 37, 38, 39, 40, 41, 42, 43, 44, 45, 46, 47, 48, 49, 50, 51, 52, 53, 54, 55, 56, 57] [] ⟨[(6, .c false [.int .i64])], []⟩ [(.ret, ⟨[(4, .c false [.bool])], []⟩), (.exit 2, ⟨[], []⟩)] .d))))) .d))))) .d))
noncomputable def ref11_Right_c (n : Nat) : Ctr Try.prog := .of Try.func14 n [ref08_Mask_c n] ref11_Right_a ref11_Right_s (fun d => ref11_Right n d.1 d.2.1 d.2.2.1 d.2.2.2.1 d.2.2.2.2.1 d.2.2.2.2.2.1) fun d => by kernel_rfl
noncomputable def law11_Trace_j1 (n : Nat) (d8 : Int × List (List Int) × Unit) (d10 : Int × List Int × Unit) (x1 : List Kiiiiiii) (x2 : List Ksi) (x6 : List (List Int)) : Option ((Int × Unit)) :=
 ask (0 ≤ d8.1 ∧ d8.1 < (x6.length : Int)) (cond (decide (d10.1 < ((KLw_at x6 d8.1).length : Int)))
 (ask (0 ≤ d8.1 ∧ d8.1 < (x6.length : Int)) (ask (0 ≤ d10.1 ∧ d10.1 < ((KLw_at x6 d8.1).length : Int)) (ask (0 ≤ d10.1 ∧ d10.1 < (x2.length : Int)) (ask (0 ≤ ((Ksi_at x2 d10.1).2) ∧ (Ksi_at x2 d10.1).2 < (x1.length : Int)) ((ref08_Mask n (((Kiiiiiii_at x1 ((Ksi_at x2 d10.1).2)).2).1)).bind (fun r11 => some (bits .and .i64 (IntKind.wrap .i64 (Kw_at (KLw_at x6 d8.1) d10.1)) r11.1, ())))))))
 (some (0, ())))
noncomputable def law11_Trace_l2b (n : Nat) (d8 : Int × List (List Int) × Unit) (x1 : List Kiiiiiii) (x2 : List Ksi) (x6 : List (List Int)) (self : Int × List Int × Unit → Option ((List Int × Unit))) (d10 : Int × List Int × Unit) : Option ((List Int × Unit)) :=
 cond (decide (d10.1 < (x2.length : Int)))
 ((law11_Trace_j1 n d8 d10 x1 x2 x6).bind (fun d12 => ask (True ∧ (d10.2.1.length + (([d12.1] : List Int)).length) * 8 ≤ 140737488355328) (self (IntKind.wrap .i64 (d10.1 + 1), d10.2.1 ++ ([d12.1] : List Int), ()))))
 (some (d10.2.1, ()))
noncomputable def law11_Trace_l2 (n : Nat) (d8 : Int × List (List Int) × Unit) (x1 : List Kiiiiiii) (x2 : List Ksi) (x6 : List (List Int)) : Int × List Int × Unit → Option ((List Int × Unit)) := iter (law11_Trace_l2b n d8 x1 x2 x6) n
noncomputable def law11_Trace_l3b (n : Nat) (x1 : List Kiiiiiii) (x2 : List Ksi) (x6 : List (List Int)) (self : Int × List (List Int) × Unit → Option ((List (List Int) × Unit))) (d8 : Int × List (List Int) × Unit) : Option ((List (List Int) × Unit)) :=
 cond (decide (d8.1 < (x6.length : Int)))
 (cond (decide (d8.1 < 64))
 ((law11_Trace_l2 n d8 x1 x2 x6 (0, ([] : List Int), ())).bind (fun d13 => ask (True ∧ (d8.2.1.length + (([d13.1] : List (List Int))).length) * 24 ≤ 140737488355328) (self (IntKind.wrap .i64 (d8.1 + 1), d8.2.1 ++ ([d13.1] : List (List Int)), ()))))
 (some (d8.2.1, ())))
 (some (d8.2.1, ()))
noncomputable def law11_Trace_l3 (n : Nat) (x1 : List Kiiiiiii) (x2 : List Ksi) (x6 : List (List Int)) : Int × List (List Int) × Unit → Option ((List (List Int) × Unit)) := iter (law11_Trace_l3b n x1 x2 x6) n
noncomputable def law11_Trace (n : Nat) (x1 : List Kiiiiiii) (x2 : List Ksi) (x3 : List Ksiii) (x4 : List Kisi) (x5 : List Ksi) (x6 : List (List Int)) : Option (List (List Int) × Unit) :=
 (law11_Trace_l3 n x1 x2 x6 (0, ([] : List (List Int)), ())).bind (fun d14 => some (d14.1, ()))
def law11_Trace_s : Sig := ⟨[.c true [.row Kiiiiiii_, .row Ksi_, .row Ksiii_, .row Kisi_, .row Ksi_], .c false [.row KLw_]], [], .c false [.row KLi_], []⟩
def law11_Trace_a : Ann := .s .d (.s .d (.s (.s .d (.b (.l [5, 6, 7, 8, 9, 10, 11, 12, 13, 14, 15, 16, 17, 18, 19, 20, 21, 22, 23, 24, 25, 26, 27, 28, 29, 30, 31, 32, 33, 34, 35, 36, 37, 38, 39, 40, 41, 42, 43, 44, 45, 46, 47, 48, 49, 50, 51, 52, 53, 54, 55, 56, 57, 58, 59, 60, 61, 62] [] ⟨[(5, .c false [.con (.own 100000 1)]), (6, .c false [.int .i64])], [(100000, .row 42 KLi_)]⟩ [(.exit 0, ⟨[(5, .c false [.con (.own 100000 1)])], [(100000, .row 42 KLi_)]⟩)] (.s .d (.s (.b (.s .d (.s (.s .d (.b (.l [7, 8, 9, 20, 21, 22, 23, 24, 25, 26, 27, 28, 29, 30, 31, 32, 33, 34, 35, 36, 37, 38, 39, 40, 41, 42, 43, 44, 45, 46, 47, 48, 49, 50, 51, 52, 53, 54, 55, 56, 57, 58] [] ⟨[(7, .c false [.con (.own 200000 1)]), (8, .c false [.int .i64])], [(200000, .row 3 i_)]⟩ [(.exit 2, ⟨[(7, .c false [.con (.own 200000 1)])], [(200000, .row 3 i_)]⟩)] (.s .d (.s (.b (.s .d (.j [9, 27, 28, 29, 30, 31, 32, 33, 34, 35, 36, 37, 38, 39, 40, 41, 42, 43, 44, 45, 46, 47, 48, 49, 50, 51, 52, 53, 54] [] [(.normal, ⟨[(9, .c false [.int .i64])], []⟩)] .d .d))) .d))))) .d))) .d))))) .d))
noncomputable def law11_Trace_c (n : Nat) : Ctr Try.prog := .of Try.func15 n [ref08_Mask_c n] law11_Trace_a law11_Trace_s (fun d => law11_Trace n d.1 d.2.1 d.2.2.1 d.2.2.2.1 d.2.2.2.2.1 d.2.2.2.2.2.1) fun d => by kernel_rfl
noncomputable def ref09_First_l1b (n : Nat) (x3 : List Ksiii) (self : Int × List Int × Unit → Option ((List Int × Unit))) (d7 : Int × List Int × Unit) : Option ((List Int × Unit)) :=
 cond (decide (d7.1 < (x3.length : Int)))
 (ask (0 ≤ d7.1 ∧ d7.1 < (x3.length : Int)) (ask (True ∧ (d7.2.1.length + (([(((Ksiii_at x3 d7.1).2).2).2] : List Int)).length) * 8 ≤ 140737488355328) (self (IntKind.wrap .i64 (d7.1 + 1), d7.2.1 ++ ([(((Ksiii_at x3 d7.1).2).2).2] : List Int), ()))))
 (some (d7.2.1, ()))
noncomputable def ref09_First_l1 (n : Nat) (x3 : List Ksiii) : Int × List Int × Unit → Option ((List Int × Unit)) := iter (ref09_First_l1b n x3) n
noncomputable def ref09_First (n : Nat) (x1 : List Kiiiiiii) (x2 : List Ksi) (x3 : List Ksiii) (x4 : List Kisi) (x5 : List Ksi) : Option (List Int × Unit) :=
 (ref09_First_l1 n x3 (0, ([] : List Int), ())).bind (fun d8 => some (d8.1, ()))
def ref09_First_s : Sig := ⟨[.c true [.row Kiiiiiii_, .row Ksi_, .row Ksiii_, .row Kisi_, .row Ksi_]], [], .c false [.row i_], []⟩
def ref09_First_a : Ann := .s .d (.s .d (.s (.s .d (.b (.l [3, 4, 5, 6, 7, 8, 9, 10, 11, 12, 13, 14, 15, 16, 17, 18, 19, 20] [] ⟨[(3, .c false [.con (.own 100000 1)]), (4, .c false [.int .i64])], [(100000, .row 3 i_)]⟩ [(.exit 0, ⟨[(3, .c false [.con (.own 100000 1)])], [(100000, .row 3 i_)]⟩)] .d))) .d))
noncomputable def ref09_First_c (n : Nat) : Ctr Try.prog := .of Try.func37 n [] ref09_First_a ref09_First_s (fun d => ref09_First n d.1 d.2.1 d.2.2.1 d.2.2.2.1 d.2.2.2.2.1) fun d => by kernel_rfl
noncomputable def ref08_one (n : Nat) (x1 : Bool) : Option (Int × Unit) :=
 cond x1
 (some (1, ()))
 (some (0, ()))
def ref08_one_s : Sig := ⟨[.c false [.bool]], [], .c false [.int .i64], []⟩
def ref08_one_a : Ann := .d
noncomputable def ref08_one_c (n : Nat) : Ctr Try.prog := .of Try.func50 n [] ref08_one_a ref08_one_s (fun d => ref08_one n d.1) fun d => by kernel_rfl
noncomputable def ref08_more (n : Nat) (x1 : Int) (x2 : Int) (x3 : Int) (x4 : Int) (x5 : Int) (x6 : Int) (x7 : Int) (x8 : Int) (x9 : Int) (x10 : Int) (x11 : Int) : Option (Int × Unit) :=
 cond (decide (x1 = 12))
 ((ref08_one n (decide (x8 = x9))).bind (fun r12 => some (r12.1, ())))
 (cond (decide (x1 = 13))
 ((ref08_one n (decide (x8 ≠ x9))).bind (fun r13 => some (r13.1, ())))
 (cond (decide (x1 = 14))
 ((ref08_one n (decide (x8 < x9))).bind (fun r14 => some (r14.1, ())))
 (cond (decide (x1 = 15))
 ((ref08_one n (decide (x8 ≤ x9))).bind (fun r15 => some (r15.1, ())))
 (cond (decide (x1 = 16))
 (cond (decide (x8 = 1))
 (some (x9, ()))
 (some (x10, ())))
 (cond (decide (x1 = 17))
 (ask (0 ≤ x11) (some (IntKind.wrap .i64 ((shlI .i64 x8 x11) + x9), ())))
 (cond (decide (x1 = 18))
 (ask (0 ≤ x7) ((ref08_Mask n (IntKind.wrap .i64 ((IntKind.wrap .i64 (x6 - x7)) + 1))).bind (fun r16 => some (bits .and .i64 (shrI .i64 x8 x7) r16.1, ()))))
 (some (0, ()))))))))
def ref08_more_s : Sig := ⟨[.c true [.int .i64, .int .i64, .int .i64, .int .i64, .int .i64, .int .i64, .int .i64], .c false [.int .i64], .c false [.int .i64], .c false [.int .i64], .c false [.int .i64]], [], .c false [.int .i64], []⟩
def ref08_more_a : Ann := .d
noncomputable def ref08_more_c (n : Nat) : Ctr Try.prog := .of Try.func51 n [ref08_one_c n, ref08_Mask_c n] ref08_more_a ref08_more_s (fun d => ref08_more n d.1 d.2.1 d.2.2.1 d.2.2.2.1 d.2.2.2.2.1 d.2.2.2.2.2.1 d.2.2.2.2.2.2.1 d.2.2.2.2.2.2.2.1 d.2.2.2.2.2.2.2.2.1 d.2.2.2.2.2.2.2.2.2.1 d.2.2.2.2.2.2.2.2.2.2.1) fun d => by kernel_rfl
noncomputable def ref08_Do (n : Nat) (x1 : Int) (x2 : Int) (x3 : Int) (x4 : Int) (x5 : Int) (x6 : Int) (x7 : Int) (x8 : Int) (x9 : Int) (x10 : Int) (x11 : Int) : Option (Int × Unit) :=
 cond (decide (x1 = 1))
 (some (x6, ()))
 (cond (decide (x1 = 3))
 ((ref08_Mask n x2).bind (fun r12 => some (IntKind.wrap .i64 (r12.1 - x8), ())))
 (cond (decide (x1 = 4))
 ((ref08_one n (decide (x8 ≠ 0))).bind (fun r13 => some (r13.1, ())))
 (cond (decide (x1 = 5))
 ((ref08_Mask n x7).bind (fun r14 => (ref08_one n (decide (x8 = r14.1))).bind (fun r15 => some (r15.1, ()))))
 (cond (decide (x1 = 6))
 (some (bits .and .i64 x8 x9, ()))
 (cond (decide (x1 = 7))
 (some (bits .or .i64 x8 x9, ()))
 (cond (decide (x1 = 8))
 (some (bits .xor .i64 x8 x9, ()))
 (cond (decide (x1 = 9))
 ((ref08_Mask n x2).bind (fun r16 => some (bits .and .i64 (IntKind.wrap .i64 (x8 + x9)) r16.1, ())))
 (cond (decide (x1 = 10))
 ((ref08_Mask n x2).bind (fun r17 => some (bits .and .i64 (IntKind.wrap .i64 (x8 - x9)) r17.1, ())))
 (cond (decide (x1 = 11))
 ((ref08_Mask n x2).bind (fun r18 => some (bits .and .i64 (IntKind.wrap .i64 (x8 * x9)) r18.1, ())))
 ((ref08_more n x1 x2 x3 x4 x5 x6 x7 x8 x9 x10 x11).bind (fun r19 => some (r19.1, ()))))))))))))
def ref08_Do_s : Sig := ⟨[.c true [.int .i64, .int .i64, .int .i64, .int .i64, .int .i64, .int .i64, .int .i64], .c false [.int .i64], .c false [.int .i64], .c false [.int .i64], .c false [.int .i64]], [], .c false [.int .i64], []⟩
def ref08_Do_a : Ann := .d
noncomputable def ref08_Do_c (n : Nat) : Ctr Try.prog := .of Try.func48 n [ref08_Mask_c n, ref08_one_c n, ref08_more_c n] ref08_Do_a ref08_Do_s (fun d => ref08_Do n d.1 d.2.1 d.2.2.1 d.2.2.2.1 d.2.2.2.2.1 d.2.2.2.2.2.1 d.2.2.2.2.2.2.1 d.2.2.2.2.2.2.2.1 d.2.2.2.2.2.2.2.2.1 d.2.2.2.2.2.2.2.2.2.1 d.2.2.2.2.2.2.2.2.2.2.1) fun d => by kernel_rfl
noncomputable def ref09_Eval_l1b (n : Nat) (x1 : List Kiiiiiii) (x6 : List Int) (x7 : List Int) (self : Int × Int × Int × List Int × Unit → Option ((List Int × Unit))) (d9 : Int × Int × Int × List Int × Unit) : Option ((List Int × Unit)) :=
 cond (decide (d9.2.2.1 < (x1.length : Int)))
 (ask (0 ≤ d9.2.2.1 ∧ d9.2.2.1 < (x1.length : Int)) (cond (decide (((Kiiiiiii_at x1 d9.2.2.1).1) = 21))
 (ask (0 ≤ d9.1 ∧ d9.1 < (x7.length : Int)) (ask (True ∧ (d9.2.2.2.1.length + (([Ki_at x7 d9.1] : List Int)).length) * 8 ≤ 140737488355328) (self (IntKind.wrap .i64 (d9.1 + 1), d9.2.1, IntKind.wrap .i64 (d9.2.2.1 + 1), d9.2.2.2.1 ++ ([Ki_at x7 d9.1] : List Int), ()))))
 (cond (decide (((Kiiiiiii_at x1 d9.2.2.1).1) = 22))
 (ask (0 ≤ d9.2.1 ∧ d9.2.1 < (x6.length : Int)) (ask (True ∧ (d9.2.2.2.1.length + (([Ki_at x6 d9.2.1] : List Int)).length) * 8 ≤ 140737488355328) (self (d9.1, IntKind.wrap .i64 (d9.2.1 + 1), IntKind.wrap .i64 (d9.2.2.1 + 1), d9.2.2.2.1 ++ ([Ki_at x6 d9.2.1] : List Int), ()))))
 (cond (decide (((Kiiiiiii_at x1 d9.2.2.1).1) = 1))
 (ask (True ∧ (d9.2.2.2.1.length + (([((((((Kiiiiiii_at x1 d9.2.2.1).2).2).2).2).2).1] : List Int)).length) * 8 ≤ 140737488355328) (self (d9.1, d9.2.1, IntKind.wrap .i64 (d9.2.2.1 + 1), d9.2.2.2.1 ++ ([((((((Kiiiiiii_at x1 d9.2.2.1).2).2).2).2).2).1] : List Int), ())))
 (ask (0 ≤ ((((Kiiiiiii_at x1 d9.2.2.1).2).2).1) ∧ (((Kiiiiiii_at x1 d9.2.2.1).2).2).1 < (d9.2.2.2.1.length : Int)) (ask (0 ≤ (((((Kiiiiiii_at x1 d9.2.2.1).2).2).2).1) ∧ ((((Kiiiiiii_at x1 d9.2.2.1).2).2).2).1 < (d9.2.2.2.1.length : Int)) (ask (0 ≤ ((((((Kiiiiiii_at x1 d9.2.2.1).2).2).2).2).1) ∧ (((((Kiiiiiii_at x1 d9.2.2.1).2).2).2).2).1 < (d9.2.2.2.1.length : Int)) (ask (0 ≤ (((((Kiiiiiii_at x1 d9.2.2.1).2).2).2).1) ∧ ((((Kiiiiiii_at x1 d9.2.2.1).2).2).2).1 < (x1.length : Int)) ((ref08_Do n ((Kiiiiiii_at x1 d9.2.2.1).1) (((Kiiiiiii_at x1 d9.2.2.1).2).1) ((((Kiiiiiii_at x1 d9.2.2.1).2).2).1) (((((Kiiiiiii_at x1 d9.2.2.1).2).2).2).1) ((((((Kiiiiiii_at x1 d9.2.2.1).2).2).2).2).1) (((((((Kiiiiiii_at x1 d9.2.2.1).2).2).2).2).2).1) (((((((Kiiiiiii_at x1 d9.2.2.1).2).2).2).2).2).2) (Ki_at d9.2.2.2.1 ((((Kiiiiiii_at x1 d9.2.2.1).2).2).1)) (Ki_at d9.2.2.2.1 (((((Kiiiiiii_at x1 d9.2.2.1).2).2).2).1)) (Ki_at d9.2.2.2.1 ((((((Kiiiiiii_at x1 d9.2.2.1).2).2).2).2).1)) (((Kiiiiiii_at x1 (((((Kiiiiiii_at x1 d9.2.2.1).2).2).2).1)).2).1)).bind (fun r10 => ask (True ∧ (d9.2.2.2.1.length + (([r10.1] : List Int)).length) * 8 ≤ 140737488355328) (self (d9.1, d9.2.1, IntKind.wrap .i64 (d9.2.2.1 + 1), d9.2.2.2.1 ++ ([r10.1] : List Int), ()))))))))))))
 (some (d9.2.2.2.1, ()))
noncomputable def ref09_Eval_l1 (n : Nat) (x1 : List Kiiiiiii) (x6 : List Int) (x7 : List Int) : Int × Int × Int × List Int × Unit → Option ((List Int × Unit)) := iter (ref09_Eval_l1b n x1 x6 x7) n
noncomputable def ref09_Eval (n : Nat) (x1 : List Kiiiiiii) (x2 : List Ksi) (x3 : List Ksiii) (x4 : List Kisi) (x5 : List Ksi) (x6 : List Int) (x7 : List Int) : Option (List Int × Unit) :=
 (ref09_Eval_l1 n x1 x6 x7 (0, 0, 0, ([] : List Int), ())).bind (fun d11 => some (d11.1, ()))
def ref09_Eval_s : Sig := ⟨[.c true [.row Kiiiiiii_, .row Ksi_, .row Ksiii_, .row Kisi_, .row Ksi_], .c false [.row i_], .c false [.row i_]], [], .c false [.row i_], []⟩
def ref09_Eval_a : Ann := .s .d (.s .d (.s .d (.s .d (.s (.s .d (.b (.l [7, 8, 9, 10, 11, 12, 13, 14, 15, 16, 17, 18, 19, 20, 21, 22, 23, 24, 25, 26, 27, 28, 29, 30, 31, 32, 33, 34, 35, 36, 37, 38, 39, 40, 41, 42, 43, 44, 45, 46, 47, 48, 49, 50, 51, 52, 53, 54, 55, 56, 57, 58, 59, 60, 61, 62, 63, 64, 65, 66, 67, 68, 69, 70, 71, 72, 73, 74, 75, 76, 77, 78, 79, 80, 81] [] ⟨[(7, .c false [.con (.own 100000 1)]), (8, .c false [.int .i64]), (9, .c false [.int .i64]), (10, .c false [.int .i64])], [(100000, .row 3 i_)]⟩ [(.exit 0, ⟨[(7, .c false [.con (.own 100000 1)])], [(100000, .row 3 i_)]⟩)] .d))) .d))))
noncomputable def ref09_Eval_c (n : Nat) : Ctr Try.prog := .of Try.func42 n [ref08_Do_c n] ref09_Eval_a ref09_Eval_s (fun d => ref09_Eval n d.1 d.2.1 d.2.2.1 d.2.2.2.1 d.2.2.2.2.1 d.2.2.2.2.2.1 d.2.2.2.2.2.2.1) fun d => by kernel_rfl
noncomputable def ref09_After_l1b (n : Nat) (r8 : List Int × Unit) (x3 : List Ksiii) (self : Int × List Int × Unit → Option ((List Int × Unit))) (d10 : Int × List Int × Unit) : Option ((List Int × Unit)) :=
 cond (decide (d10.1 < (x3.length : Int)))
 (ask (0 ≤ d10.1 ∧ d10.1 < (x3.length : Int)) (ask (0 ≤ ((((Ksiii_at x3 d10.1).2).2).1) ∧ (((Ksiii_at x3 d10.1).2).2).1 < (r8.1.length : Int)) (ask (True ∧ (d10.2.1.length + (([Ki_at r8.1 ((((Ksiii_at x3 d10.1).2).2).1)] : List Int)).length) * 8 ≤ 140737488355328) (self (IntKind.wrap .i64 (d10.1 + 1), d10.2.1 ++ ([Ki_at r8.1 ((((Ksiii_at x3 d10.1).2).2).1)] : List Int), ())))))
 (some (d10.2.1, ()))
noncomputable def ref09_After_l1 (n : Nat) (r8 : List Int × Unit) (x3 : List Ksiii) : Int × List Int × Unit → Option ((List Int × Unit)) := iter (ref09_After_l1b n r8 x3) n
noncomputable def ref09_After (n : Nat) (x1 : List Kiiiiiii) (x2 : List Ksi) (x3 : List Ksiii) (x4 : List Kisi) (x5 : List Ksi) (x6 : List Int) (x7 : List Int) : Option (List Int × Unit) :=
 (ref09_Eval n x1 x2 x3 x4 x5 x6 x7).bind (fun r8 => (ref09_After_l1 n r8 x3 (0, ([] : List Int), ())).bind (fun d11 => some (d11.1, ())))
def ref09_After_s : Sig := ⟨[.c true [.row Kiiiiiii_, .row Ksi_, .row Ksiii_, .row Kisi_, .row Ksi_], .c false [.row i_], .c false [.row i_]], [], .c false [.row i_], []⟩
def ref09_After_a : Ann := .s .d (.s .d (.s .d (.s (.s .d (.b (.l [8, 9, 14, 15, 16, 17, 18, 19, 20, 21, 22, 23, 24, 25, 26, 27, 28, 29, 30, 31, 32] [] ⟨[(8, .c false [.con (.own 100000 1)]), (9, .c false [.int .i64])], [(100000, .row 3 i_)]⟩ [(.exit 0, ⟨[(8, .c false [.con (.own 100000 1)])], [(100000, .row 3 i_)]⟩)] .d))) .d)))
noncomputable def ref09_After_c (n : Nat) : Ctr Try.prog := .of Try.func38 n [ref09_Eval_c n] ref09_After_a ref09_After_s (fun d => ref09_After n d.1 d.2.1 d.2.2.1 d.2.2.2.1 d.2.2.2.2.1 d.2.2.2.2.2.1 d.2.2.2.2.2.2.1) fun d => by kernel_rfl
noncomputable def ref11_States_l1b (n : Nat) (x1 : List Kiiiiiii) (x2 : List Ksi) (x3 : List Ksiii) (x4 : List Kisi) (x5 : List Ksi) (x6 : List (List Int)) (self : List Int × Int × List (List Int) × Unit → Option ((List (List Int) × Unit))) (d10 : List Int × Int × List (List Int) × Unit) : Option ((List (List Int) × Unit)) :=
 cond (decide (d10.2.1 < (x6.length : Int)))
 (ask (0 ≤ d10.2.1 ∧ d10.2.1 < (x6.length : Int)) ((ref09_After n x1 x2 x3 x4 x5 d10.1 (KLi_at x6 d10.2.1)).bind (fun r11 => ask (True ∧ (d10.2.2.1.length + (([r11.1] : List (List Int))).length) * 24 ≤ 140737488355328) (self (r11.1, IntKind.wrap .i64 (d10.2.1 + 1), d10.2.2.1 ++ ([r11.1] : List (List Int)), ())))))
 (some (d10.2.2.1, ()))
noncomputable def ref11_States_l1 (n : Nat) (x1 : List Kiiiiiii) (x2 : List Ksi) (x3 : List Ksiii) (x4 : List Kisi) (x5 : List Ksi) (x6 : List (List Int)) : List Int × Int × List (List Int) × Unit → Option ((List (List Int) × Unit)) := iter (ref11_States_l1b n x1 x2 x3 x4 x5 x6) n
noncomputable def ref11_States (n : Nat) (x1 : List Kiiiiiii) (x2 : List Ksi) (x3 : List Ksiii) (x4 : List Kisi) (x5 : List Ksi) (x6 : List (List Int)) : Option (List (List Int) × Unit) :=
 (ref09_First n x1 x2 x3 x4 x5).bind (fun r7 => (ref11_States_l1 n x1 x2 x3 x4 x5 x6 (r7.1, 0, ([r7.1] : List (List Int)), ())).bind (fun d12 => some (d12.1, ())))
def ref11_States_s : Sig := ⟨[.c true [.row Kiiiiiii_, .row Ksi_, .row Ksiii_, .row Kisi_, .row Ksi_], .c false [.row KLi_]], [], .c false [.row KLi_], []⟩
def ref11_States_a : Ann := .s .d (.s .d (.s .d (.s (.s .d (.b (.l [5, 6, 7, 11, 12, 13, 14, 15, 16, 17, 18, 19, 20, 21, 22, 23, 24, 25, 26, 27, 28] [165] ⟨[(5, .c false [.row i_]), (6, .c false [.con (.own 165 1)]), (7, .c false [.int .i64])], [(165, .row 42 KLi_)]⟩ [(.exit 0, ⟨[(6, .c false [.con (.own 165 1)])], [(165, .row 42 KLi_)]⟩)] .d))) .d)))
noncomputable def ref11_States_c (n : Nat) : Ctr Try.prog := .of Try.func20 n [ref09_First_c n, ref09_After_c n] ref11_States_a ref11_States_s (fun d => ref11_States n d.1 d.2.1 d.2.2.1 d.2.2.2.1 d.2.2.2.2.1 d.2.2.2.2.2.1) fun d => by kernel_rfl
noncomputable def ref11_Props_l1b (n : Nat) (x4 : List Kisi) (x6 : List Int) (self : Int × List Bool × Unit → Option ((List Bool × Unit))) (d8 : Int × List Bool × Unit) : Option ((List Bool × Unit)) :=
 cond (decide (d8.1 < (x4.length : Int)))
 (ask (0 ≤ d8.1 ∧ d8.1 < (x4.length : Int)) (ask (0 ≤ (((Kisi_at x4 d8.1).2).2) ∧ ((Kisi_at x4 d8.1).2).2 < (x6.length : Int)) (ask (True ∧ (d8.2.1.length + (([decide ((Ki_at x6 (((Kisi_at x4 d8.1).2).2)) = 1)] : List Bool)).length) * 1 ≤ 140737488355328) (self (IntKind.wrap .i64 (d8.1 + 1), d8.2.1 ++ ([decide ((Ki_at x6 (((Kisi_at x4 d8.1).2).2)) = 1)] : List Bool), ())))))
 (some (d8.2.1, ()))
noncomputable def ref11_Props_l1 (n : Nat) (x4 : List Kisi) (x6 : List Int) : Int × List Bool × Unit → Option ((List Bool × Unit)) := iter (ref11_Props_l1b n x4 x6) n
noncomputable def ref11_Props (n : Nat) (x1 : List Kiiiiiii) (x2 : List Ksi) (x3 : List Ksiii) (x4 : List Kisi) (x5 : List Ksi) (x6 : List Int) : Option (List Bool × Unit) :=
 (ref11_Props_l1 n x4 x6 (0, ([] : List Bool), ())).bind (fun d9 => some (d9.1, ()))
def ref11_Props_s : Sig := ⟨[.c true [.row Kiiiiiii_, .row Ksi_, .row Ksiii_, .row Kisi_, .row Ksi_], .c false [.row i_]], [], .c false [.row b_], []⟩
def ref11_Props_a : Ann := .s .d (.s .d (.s (.s .d (.b (.l [5, 6, 7, 8, 9, 10, 11, 12, 13, 14, 15, 16, 17, 18, 19, 20, 21, 22, 23, 24, 25, 26] [] ⟨[(5, .c false [.con (.own 100000 1)]), (6, .c false [.int .i64])], [(100000, .row 4 b_)]⟩ [(.exit 0, ⟨[(5, .c false [.con (.own 100000 1)])], [(100000, .row 4 b_)]⟩)] .d))) .d))
noncomputable def ref11_Props_c (n : Nat) : Ctr Try.prog := .of Try.func41 n [] ref11_Props_a ref11_Props_s (fun d => ref11_Props n d.1 d.2.1 d.2.2.1 d.2.2.2.1 d.2.2.2.2.1 d.2.2.2.2.2.1) fun d => by kernel_rfl
noncomputable def ref11_Run_l1b (n : Nat) (r7 : List (List Int) × Unit) (x1 : List Kiiiiiii) (x2 : List Ksi) (x3 : List Ksiii) (x4 : List Kisi) (x5 : List Ksi) (x6 : List (List Int)) (self : Int × List (List Bool) × Unit → Option ((List (List Bool) × Unit))) (d9 : Int × List (List Bool) × Unit) : Option ((List (List Bool) × Unit)) :=
 cond (decide (d9.1 < (x6.length : Int)))
 (ask (0 ≤ d9.1 ∧ d9.1 < (r7.1.length : Int)) (ask (0 ≤ d9.1 ∧ d9.1 < (x6.length : Int)) ((ref09_Eval n x1 x2 x3 x4 x5 (KLi_at r7.1 d9.1) (KLi_at x6 d9.1)).bind (fun r10 => (ref11_Props n x1 x2 x3 x4 x5 r10.1).bind (fun r11 => ask (True ∧ (d9.2.1.length + (([r11.1] : List (List Bool))).length) * 24 ≤ 140737488355328) (self (IntKind.wrap .i64 (d9.1 + 1), d9.2.1 ++ ([r11.1] : List (List Bool)), ())))))))
 (some (d9.2.1, ()))
noncomputable def ref11_Run_l1 (n : Nat) (r7 : List (List Int) × Unit) (x1 : List Kiiiiiii) (x2 : List Ksi) (x3 : List Ksiii) (x4 : List Kisi) (x5 : List Ksi) (x6 : List (List Int)) : Int × List (List Bool) × Unit → Option ((List (List Bool) × Unit)) := iter (ref11_Run_l1b n r7 x1 x2 x3 x4 x5 x6) n
noncomputable def ref11_Run (n : Nat) (x1 : List Kiiiiiii) (x2 : List Ksi) (x3 : List Ksiii) (x4 : List Kisi) (x5 : List Ksi) (x6 : List (List Int)) : Option (List (List Bool) × Unit) :=
 (ref11_States n x1 x2 x3 x4 x5 x6).bind (fun r7 => (ref11_Run_l1 n r7 x1 x2 x3 x4 x5 x6 (0, ([] : List (List Bool)), ())).bind (fun d12 => some (d12.1, ())))
def ref11_Run_s : Sig := ⟨[.c true [.row Kiiiiiii_, .row Ksi_, .row Ksiii_, .row Kisi_, .row Ksi_], .c false [.row KLi_]], [], .c false [.row KLb_], []⟩
def ref11_Run_a : Ann := .s .d (.s .d (.s .d (.s (.s .d (.b (.l [6, 7, 11, 12, 13, 14, 15, 16, 17, 18, 19, 20, 21, 22, 23, 24, 25, 26, 27, 28, 29, 30, 31] [] ⟨[(6, .c false [.con (.own 100000 1)]), (7, .c false [.int .i64])], [(100000, .row 44 KLb_)]⟩ [(.exit 0, ⟨[(6, .c false [.con (.own 100000 1)])], [(100000, .row 44 KLb_)]⟩)] .d))) .d)))
noncomputable def ref11_Run_c (n : Nat) : Ctr Try.prog := .of Try.func23 n [ref11_States_c n, ref09_Eval_c n, ref11_Props_c n] ref11_Run_a ref11_Run_s (fun d => ref11_Run n d.1 d.2.1 d.2.2.1 d.2.2.2.1 d.2.2.2.2.1 d.2.2.2.2.2.1) fun d => by kernel_rfl
noncomputable def ref11_Legal_l1b (n : Nat) (x4 : List Kisi) (x6 : List Bool) (self : Int × Unit → Option ((Bool × Unit) ⊕ (Unit))) (d8 : Int × Unit) : Option ((Bool × Unit) ⊕ (Unit)) :=
 cond (decide (d8.1 < (x4.length : Int)))
 (ask (0 ≤ d8.1 ∧ d8.1 < (x4.length : Int)) (cond (decide (((Kisi_at x4 d8.1).1) = 9))
 (ask (0 ≤ d8.1 ∧ d8.1 < (x6.length : Int)) (cond (!(Kb_at x6 d8.1))
 (some (.inl (false, ())))
 (self (IntKind.wrap .i64 (d8.1 + 1), ()))))
 (self (IntKind.wrap .i64 (d8.1 + 1), ()))))
 (some (.inr ()))
noncomputable def ref11_Legal_l1 (n : Nat) (x4 : List Kisi) (x6 : List Bool) : Int × Unit → Option ((Bool × Unit) ⊕ (Unit)) := iter (ref11_Legal_l1b n x4 x6) n
noncomputable def ref11_Legal (n : Nat) (x1 : List Kiiiiiii) (x2 : List Ksi) (x3 : List Ksiii) (x4 : List Kisi) (x5 : List Ksi) (x6 : List Bool) : Option (Bool × Unit) :=
 (ref11_Legal_l1 n x4 x6 (0, ())).bind (Sum.elim (fun d9 => some (d9.1, ())) (fun d10 => some (true, ())))
def ref11_Legal_s : Sig := ⟨[.c true [.row Kiiiiiii_, .row Ksi_, .row Ksiii_, .row Kisi_, .row Ksi_], .c false [.row b_]], [], .c false [.bool], []⟩
def ref11_Legal_a : Ann := .s .d (.s (.s .d (.b (.l [4, 5, 6, 7, 8, 9, 10, 11, 12, 13, 14, 15, 16, 17, 18, 19, 20, 21, 22, 23, 24, 25, 26] [] ⟨[(5, .c false [.int .i64])], []⟩ [(.ret, ⟨[(4, .c false [.bool])], []⟩), (.exit 0, ⟨[], []⟩)] .d))) .d)
noncomputable def ref11_Legal_c (n : Nat) : Ctr Try.prog := .of Try.func34 n [] ref11_Legal_a ref11_Legal_s (fun d => ref11_Legal n d.1 d.2.1 d.2.2.1 d.2.2.2.1 d.2.2.2.2.1 d.2.2.2.2.2.1) fun d => by kernel_rfl
noncomputable def ref11_Hits (n : Nat) (x1 : List Kiiiiiii) (x2 : List Ksi) (x3 : List Ksiii) (x4 : List Kisi) (x5 : List Ksi) (x6 : Int) (x7 : List Bool) : Option (Bool × Unit) :=
 ask (0 ≤ x6 ∧ x6 < (x4.length : Int)) (cond (decide (((Kisi_at x4 x6).1) = 8))
 (ask (0 ≤ x6 ∧ x6 < (x7.length : Int)) (some (!(Kb_at x7 x6), ())))
 (ask (0 ≤ x6 ∧ x6 < (x4.length : Int)) (cond (decide (((Kisi_at x4 x6).1) = 10))
 (ask (0 ≤ x6 ∧ x6 < (x7.length : Int)) (some (Kb_at x7 x6, ())))
 (some (false, ())))))
def ref11_Hits_s : Sig := ⟨[.c true [.row Kiiiiiii_, .row Ksi_, .row Ksiii_, .row Kisi_, .row Ksi_], .c false [.int .i64], .c false [.row b_]], [], .c false [.bool], []⟩
def ref11_Hits_a : Ann := .d
noncomputable def ref11_Hits_c (n : Nat) : Ctr Try.prog := .of Try.func35 n [] ref11_Hits_a ref11_Hits_s (fun d => ref11_Hits n d.1 d.2.1 d.2.2.1 d.2.2.2.1 d.2.2.2.2.1 d.2.2.2.2.2.1 d.2.2.2.2.2.2.1) fun d => by kernel_rfl
noncomputable def ref11_Hit_l1b (n : Nat) (r8 : List (List Bool) × Unit) (x1 : List Kiiiiiii) (x2 : List Ksi) (x3 : List Ksiii) (x4 : List Kisi) (x5 : List Ksi) (x6 : Int) (self : Int × Unit → Option ((Int × Bool × Unit) ⊕ (Unit))) (d10 : Int × Unit) : Option ((Int × Bool × Unit) ⊕ (Unit)) :=
 cond (decide (d10.1 < (r8.1.length : Int)))
 (ask (0 ≤ d10.1 ∧ d10.1 < (r8.1.length : Int)) ((ref11_Legal n x1 x2 x3 x4 x5 (KLb_at r8.1 d10.1)).bind (fun r11 => cond (!r11.1)
 (some (.inl (0, false, ())))
 (ask (0 ≤ d10.1 ∧ d10.1 < (r8.1.length : Int)) ((ref11_Hits n x1 x2 x3 x4 x5 x6 (KLb_at r8.1 d10.1)).bind (fun r12 => cond r12.1
 (some (.inl (d10.1, true, ())))
 (self (IntKind.wrap .i64 (d10.1 + 1), ()))))))))
 (some (.inr ()))
noncomputable def ref11_Hit_l1 (n : Nat) (r8 : List (List Bool) × Unit) (x1 : List Kiiiiiii) (x2 : List Ksi) (x3 : List Ksiii) (x4 : List Kisi) (x5 : List Ksi) (x6 : Int) : Int × Unit → Option ((Int × Bool × Unit) ⊕ (Unit)) := iter (ref11_Hit_l1b n r8 x1 x2 x3 x4 x5 x6) n
noncomputable def ref11_Hit (n : Nat) (x1 : List Kiiiiiii) (x2 : List Ksi) (x3 : List Ksiii) (x4 : List Kisi) (x5 : List Ksi) (x6 : Int) (x7 : List (List Int)) : Option (Int × Bool × Unit) :=
 cond (decide (x6 < 0))
 (some (0, false, ()))
 (cond (decide ((x4.length : Int) ≤ x6))
 (some (0, false, ()))
 ((ref11_Run n x1 x2 x3 x4 x5 x7).bind (fun r8 => (ref11_Hit_l1 n r8 x1 x2 x3 x4 x5 x6 (0, ())).bind (Sum.elim (fun d13 => some (d13.1, d13.2.1, ())) (fun d14 => some (0, false, ()))))))
def ref11_Hit_s : Sig := ⟨[.c true [.row Kiiiiiii_, .row Ksi_, .row Ksiii_, .row Kisi_, .row Ksi_], .c false [.int .i64], .c false [.row KLi_]], [], .t [(false, [.int .i64]), (false, [.bool])], []⟩
def ref11_Hit_a : Ann := .s .d (.s .d (.s .d (.s (.s .d (.b (.l [6, 7, 9, 22, 23, 24, 25, 26, 27, 28, 29, 30, 31, 32, 33, 34, 35, 36, 37, 38, 39, 40, 41, 42] [] ⟨[(9, .c false [.int .i64])], []⟩ [(.ret, ⟨[(6, .c false [.int .i64]), (7, .c false [.bool])], []⟩), (.exit 0, ⟨[], []⟩)] .d))) .d)))
noncomputable def ref11_Hit_c (n : Nat) : Ctr Try.prog := .of Try.func17 n [ref11_Run_c n, ref11_Legal_c n, ref11_Hits_c n] ref11_Hit_a ref11_Hit_s (fun d => ref11_Hit n d.1 d.2.1 d.2.2.1 d.2.2.2.1 d.2.2.2.2.1 d.2.2.2.2.2.1 d.2.2.2.2.2.2.1) fun d => by kernel_rfl
noncomputable def ref11_SameRows_l1b (n : Nat) (d4 : Int × Unit) (x1 : List (List Int)) (x2 : List (List Int)) (self : Int × Unit → Option ((Bool × Unit) ⊕ (Unit))) (d6 : Int × Unit) : Option ((Bool × Unit) ⊕ (Unit)) :=
 ask (0 ≤ d4.1 ∧ d4.1 < (x1.length : Int)) (cond (decide (d6.1 < ((KLi_at x1 d4.1).length : Int)))
 (ask (0 ≤ d4.1 ∧ d4.1 < (x1.length : Int)) (ask (0 ≤ d6.1 ∧ d6.1 < ((KLi_at x1 d4.1).length : Int)) (ask (0 ≤ d4.1 ∧ d4.1 < (x2.length : Int)) (ask (0 ≤ d6.1 ∧ d6.1 < ((KLi_at x2 d4.1).length : Int)) (cond (decide ((Ki_at (KLi_at x1 d4.1) d6.1) ≠ (Ki_at (KLi_at x2 d4.1) d6.1)))
 (some (.inl (false, ())))
 (self (IntKind.wrap .i64 (d6.1 + 1), ())))))))
 (some (.inr ())))
noncomputable def ref11_SameRows_l1 (n : Nat) (d4 : Int × Unit) (x1 : List (List Int)) (x2 : List (List Int)) : Int × Unit → Option ((Bool × Unit) ⊕ (Unit)) := iter (ref11_SameRows_l1b n d4 x1 x2) n
noncomputable def ref11_SameRows_l2b (n : Nat) (x1 : List (List Int)) (x2 : List (List Int)) (self : Int × Unit → Option ((Bool × Unit) ⊕ (Unit))) (d4 : Int × Unit) : Option ((Bool × Unit) ⊕ (Unit)) :=
 cond (decide (d4.1 < (x1.length : Int)))
 (ask (0 ≤ d4.1 ∧ d4.1 < (x1.length : Int)) (ask (0 ≤ d4.1 ∧ d4.1 < (x2.length : Int)) (cond (decide (((KLi_at x1 d4.1).length : Int) ≠ ((KLi_at x2 d4.1).length : Int)))
 (some (.inl (false, ())))
 ((ref11_SameRows_l1 n d4 x1 x2 (0, ())).bind (Sum.elim (fun d7 => some (.inl (d7.1, ()))) (fun d8 => self (IntKind.wrap .i64 (d4.1 + 1), ())))))))
 (some (.inr ()))
noncomputable def ref11_SameRows_l2 (n : Nat) (x1 : List (List Int)) (x2 : List (List Int)) : Int × Unit → Option ((Bool × Unit) ⊕ (Unit)) := iter (ref11_SameRows_l2b n x1 x2) n
noncomputable def ref11_SameRows (n : Nat) (x1 : List (List Int)) (x2 : List (List Int)) : Option (Bool × Unit) :=
 cond (decide ((x1.length : Int) ≠ (x2.length : Int)))
 (some (false, ()))
 ((ref11_SameRows_l2 n x1 x2 (0, ())).bind (Sum.elim (fun d9 => some (d9.1, ())) (fun d10 => some (true, ()))))
def ref11_SameRows_s : Sig := ⟨[.c false [.row KLi_], .c false [.row KLi_]], [], .c false [.bool], []⟩
def ref11_SameRows_a : Ann := .s .d (.s .d (.s (.s .d (.b (.l [4, 5, 6, 12, 13, 14, 15, 16, 17, 18, 19, 20, 21, 22, 23, 24, 25, 26, 27, 28, 29, 30, 31, 32, 33, 34, 35, 36, 37, 38, 39, 40, 41, 42, 43, 44, 45, 46, 47, 48, 49, 50, 51, 52] [] ⟨[(5, .c false [.int .i64])], []⟩ [(.ret, ⟨[(4, .c false [.bool])], []⟩), (.exit 0, ⟨[], []⟩)] (.s .d (.s (.b (.s .d (.s .d (.b (.l [4, 6, 29, 30, 31, 32, 33, 34, 35, 36, 37, 38, 39, 40, 41, 42, 43, 44, 45, 46, 47, 48, 49, 50, 51, 52] [] ⟨[(6, .c false [.int .i64])], []⟩ [(.ret, ⟨[(4, .c false [.bool])], []⟩), (.exit 2, ⟨[], []⟩)] .d))))) .d))))) .d))
noncomputable def ref11_SameRows_c (n : Nat) : Ctr Try.prog := .of Try.func18 n [] ref11_SameRows_a ref11_SameRows_s (fun d => ref11_SameRows n d.1 d.2.1) fun d => by kernel_rfl
noncomputable def ref08_Same_l1b (n : Nat) (x1 : List Bool) (x2 : List Bool) (self : Int × Unit → Option ((Bool × Unit) ⊕ (Unit))) (d4 : Int × Unit) : Option ((Bool × Unit) ⊕ (Unit)) :=
 cond (decide (d4.1 < (x1.length : Int)))
 (ask (0 ≤ d4.1 ∧ d4.1 < (x1.length : Int)) (ask (0 ≤ d4.1 ∧ d4.1 < (x2.length : Int)) (cond (Kb_at x1 d4.1 != Kb_at x2 d4.1)
 (some (.inl (false, ())))
 (self (IntKind.wrap .i64 (d4.1 + 1), ())))))
 (some (.inr ()))
noncomputable def ref08_Same_l1 (n : Nat) (x1 : List Bool) (x2 : List Bool) : Int × Unit → Option ((Bool × Unit) ⊕ (Unit)) := iter (ref08_Same_l1b n x1 x2) n
noncomputable def ref08_Same (n : Nat) (x1 : List Bool) (x2 : List Bool) : Option (Bool × Unit) :=
 cond (decide ((x1.length : Int) ≠ (x2.length : Int)))
 (some (false, ()))
 ((ref08_Same_l1 n x1 x2 (0, ())).bind (Sum.elim (fun d5 => some (d5.1, ())) (fun d6 => some (true, ()))))
def ref08_Same_s : Sig := ⟨[.c false [.row b_], .c false [.row b_]], [], .c false [.bool], []⟩
def ref08_Same_a : Ann := .s .d (.s .d (.s (.s .d (.b (.l [4, 5, 11, 12, 13, 14, 15, 16, 17, 18, 19, 20, 21, 22, 23, 24, 25] [] ⟨[(5, .c false [.int .i64])], []⟩ [(.ret, ⟨[(4, .c false [.bool])], []⟩), (.exit 0, ⟨[], []⟩)] .d))) .d))
noncomputable def ref08_Same_c (n : Nat) : Ctr Try.prog := .of Try.func39 n [] ref08_Same_a ref08_Same_s (fun d => ref08_Same n d.1 d.2.1) fun d => by kernel_rfl
noncomputable def ref11_SameBits_l1b (n : Nat) (x1 : List (List Bool)) (x2 : List (List Bool)) (self : Int × Unit → Option ((Bool × Unit) ⊕ (Unit))) (d4 : Int × Unit) : Option ((Bool × Unit) ⊕ (Unit)) :=
 cond (decide (d4.1 < (x1.length : Int)))
 (ask (0 ≤ d4.1 ∧ d4.1 < (x1.length : Int)) (ask (0 ≤ d4.1 ∧ d4.1 < (x2.length : Int)) ((ref08_Same n (KLb_at x1 d4.1) (KLb_at x2 d4.1)).bind (fun r5 => cond (!r5.1)
 (some (.inl (false, ())))
 (self (IntKind.wrap .i64 (d4.1 + 1), ()))))))
 (some (.inr ()))
noncomputable def ref11_SameBits_l1 (n : Nat) (x1 : List (List Bool)) (x2 : List (List Bool)) : Int × Unit → Option ((Bool × Unit) ⊕ (Unit)) := iter (ref11_SameBits_l1b n x1 x2) n
noncomputable def ref11_SameBits (n : Nat) (x1 : List (List Bool)) (x2 : List (List Bool)) : Option (Bool × Unit) :=
 cond (decide ((x1.length : Int) ≠ (x2.length : Int)))
 (some (false, ()))
 ((ref11_SameBits_l1 n x1 x2 (0, ())).bind (Sum.elim (fun d6 => some (d6.1, ())) (fun d7 => some (true, ()))))
def ref11_SameBits_s : Sig := ⟨[.c false [.row KLb_], .c false [.row KLb_]], [], .c false [.bool], []⟩
def ref11_SameBits_a : Ann := .s .d (.s .d (.s (.s .d (.b (.l [4, 5, 11, 12, 13, 14, 15, 16, 17, 18, 19, 20, 21, 22, 23, 24, 25, 26] [] ⟨[(5, .c false [.int .i64])], []⟩ [(.ret, ⟨[(4, .c false [.bool])], []⟩), (.exit 0, ⟨[], []⟩)] .d))) .d))
noncomputable def ref11_SameBits_c (n : Nat) : Ctr Try.prog := .of Try.func21 n [ref08_Same_c n] ref11_SameBits_a ref11_SameBits_s (fun d => ref11_SameBits n d.1 d.2.1) fun d => by kernel_rfl
noncomputable def law11_SimTells (n : Nat) (x1 : List Kiiiiiii) (x2 : List Ksi) (x3 : List Ksiii) (x4 : List Kisi) (x5 : List Ksi) (x6 : List (List Int)) (x7 : List (List Int)) (x8 : Int) : Option (Bool × Unit) :=
 (law11_head n).bind (fun r9 => (law09_Great n x1 x2 x3 x4 x5).bind (fun r10 => cond r10.1
 (some (r9.1, ()))
 ((ref09_Right n x1 x2 x3 x4 x5).bind (fun r11 => cond (!r11.1)
 (some (r9.1, ()))
 (cond (decide ((100 : Int) < (x6.length : Int)))
 (some (r9.1, ()))
 ((sim_Right n x1 x2 x3 x4 x5 x6).bind (fun r12 => (ref11_Right n x1 x2 x3 x4 x5 x6).bind (fun r13 => cond (r12.1 != r13.1)
 (some (false, ()))
 ((law11_Trace n x1 x2 x3 x4 x5 x7).bind (fun r14 => (((ref11_Right n x1 x2 x3 x4 x5 x6).bind (fun r15 => cond r15.1
 (some (x6, ()))
 (some (r14.1, ())))) : Option ((List (List Int) × Unit))).bind (fun d16 => (sim_Hit n x1 x2 x3 x4 x5 x8 d16.1).bind (fun r17 => (ref11_Hit n x1 x2 x3 x4 x5 x8 d16.1).bind (fun r18 => cond r9.1
 ((sim_States n x1 x2 x3 x4 x5 d16.1).bind (fun r19 => (ref11_States n x1 x2 x3 x4 x5 d16.1).bind (fun r20 => (ref11_SameRows n r19.1 r20.1).bind (fun r21 => cond r21.1
 ((sim_Run n x1 x2 x3 x4 x5 d16.1).bind (fun r22 => (ref11_Run n x1 x2 x3 x4 x5 d16.1).bind (fun r23 => (ref11_SameBits n r22.1 r23.1).bind (fun r24 => cond r24.1
 (cond (decide (r17.1 = r18.1))
 (some ((r17.2.1 == r18.2.1), ()))
 (some (false, ())))
 (some (false, ()))))))
 (some (false, ()))))))
 (some (false, ())))))))))))))))
def law11_SimTells_s : Sig := ⟨[.c true [.row Kiiiiiii_, .row Ksi_, .row Ksiii_, .row Kisi_, .row Ksi_], .c false [.row KLi_], .c false [.row KLw_], .c false [.int .i64]], [], .c false [.bool], []⟩
def law11_SimTells_a : Ann := .s .d (.s .d (.s .d (.s .d (.s .d (.j [10, 39, 40, 41, 42] [] [(.normal, ⟨[(10, .c false [.row KLi_])], []⟩)] .d .d)))))
noncomputable def law11_SimTells_c (n : Nat) : Ctr Try.prog := .of Try.func3 n [law11_head_c n, law09_Great_c n, ref09_Right_c n, sim_Right_c n, ref11_Right_c n, law11_Trace_c n, sim_Hit_c n, ref11_Hit_c n, sim_States_c n, ref11_States_c n, ref11_SameRows_c n, sim_Run_c n, ref11_Run_c n, ref11_SameBits_c n] law11_SimTells_a law11_SimTells_s (fun d => law11_SimTells n d.1 d.2.1 d.2.2.1 d.2.2.2.1 d.2.2.2.2.1 d.2.2.2.2.2.1 d.2.2.2.2.2.2.1 d.2.2.2.2.2.2.2.1) fun d => by kernel_rfl
noncomputable def law11_SimSteps_l1b (n : Nat) (r11 : List (List Int) × Unit) (r13 : List Int × Unit) (self : Int × Unit → Option ((Bool × Unit) ⊕ (Unit))) (d15 : Int × Unit) : Option ((Bool × Unit) ⊕ (Unit)) :=
 cond (decide (d15.1 < (r13.1.length : Int)))
 (ask (0 ≤ (0 : Int) ∧ 0 < (r11.1.length : Int)) (ask (0 ≤ d15.1 ∧ d15.1 < ((KLi_at r11.1 0).length : Int)) (ask (0 ≤ d15.1 ∧ d15.1 < (r13.1.length : Int)) (cond (decide ((Ki_at (KLi_at r11.1 0) d15.1) ≠ (Ki_at r13.1 d15.1)))
 (some (.inl (false, ())))
 (self (IntKind.wrap .i64 (d15.1 + 1), ()))))))
 (some (.inr ()))
noncomputable def law11_SimSteps_l1 (n : Nat) (r11 : List (List Int) × Unit) (r13 : List Int × Unit) : Int × Unit → Option ((Bool × Unit) ⊕ (Unit)) := iter (law11_SimSteps_l1b n r11 r13) n
noncomputable def law11_SimSteps_l2b (n : Nat) (d19 : Int × Unit) (r12 : List (List Bool) × Unit) (r22 : List Int × Unit) (x1 : List Kiiiiiii) (x4 : List Kisi) (self : Int × Unit → Option ((Bool × Unit) ⊕ (Unit))) (d24 : Int × Unit) : Option ((Bool × Unit) ⊕ (Unit)) :=
 cond (decide (d24.1 < (x4.length : Int)))
 (cond (decide ((r22.1.length : Int) ≠ (x1.length : Int)))
 (some (.inl (false, ())))
 (ask (0 ≤ d19.1 ∧ d19.1 < (r12.1.length : Int)) (ask (0 ≤ d24.1 ∧ d24.1 < ((KLb_at r12.1 d19.1).length : Int)) (ask (0 ≤ d24.1 ∧ d24.1 < (x4.length : Int)) (ask (0 ≤ (((Kisi_at x4 d24.1).2).2) ∧ ((Kisi_at x4 d24.1).2).2 < (r22.1.length : Int)) (cond (Kb_at (KLb_at r12.1 d19.1) d24.1 != decide ((Ki_at r22.1 (((Kisi_at x4 d24.1).2).2)) = 1))
 (some (.inl (false, ())))
 (self (IntKind.wrap .i64 (d24.1 + 1), ()))))))))
 (some (.inr ()))
noncomputable def law11_SimSteps_l2 (n : Nat) (d19 : Int × Unit) (r12 : List (List Bool) × Unit) (r22 : List Int × Unit) (x1 : List Kiiiiiii) (x4 : List Kisi) : Int × Unit → Option ((Bool × Unit) ⊕ (Unit)) := iter (law11_SimSteps_l2b n d19 r12 r22 x1 x4) n
noncomputable def law11_SimSteps_l3b (n : Nat) (r10 : List (List Int) × Unit) (r11 : List (List Int) × Unit) (r12 : List (List Bool) × Unit) (x1 : List Kiiiiiii) (x2 : List Ksi) (x3 : List Ksiii) (x4 : List Kisi) (x5 : List Ksi) (self : Int × Unit → Option ((Bool × Unit) ⊕ (Unit))) (d19 : Int × Unit) : Option ((Bool × Unit) ⊕ (Unit)) :=
 cond (decide (d19.1 < (r10.1.length : Int)))
 (ask (0 ≤ d19.1 ∧ d19.1 < (r11.1.length : Int)) (cond (decide (((KLi_at r11.1 d19.1).length : Int) ≠ (x3.length : Int)))
 (some (.inl (false, ())))
 (ask (0 ≤ d19.1 ∧ d19.1 < (r12.1.length : Int)) (cond (decide (((KLb_at r12.1 d19.1).length : Int) ≠ (x4.length : Int)))
 (some (.inl (false, ())))
 (ask (0 ≤ (IntKind.wrap .i64 (d19.1 + 1)) ∧ IntKind.wrap .i64 (d19.1 + 1) < (r11.1.length : Int)) (ask (0 ≤ d19.1 ∧ d19.1 < (r11.1.length : Int)) (ask (0 ≤ d19.1 ∧ d19.1 < (r10.1.length : Int)) ((net_After n x1 x2 x3 x4 x5 (KLi_at r11.1 d19.1) (KLi_at r10.1 d19.1)).bind (fun r20 => (ref11_SameRows n ([KLi_at r11.1 (IntKind.wrap .i64 (d19.1 + 1))] : List (List Int)) ([r20.1] : List (List Int))).bind (fun r21 => cond (!r21.1)
 (some (.inl (false, ())))
 (ask (0 ≤ d19.1 ∧ d19.1 < (r11.1.length : Int)) (ask (0 ≤ d19.1 ∧ d19.1 < (r10.1.length : Int)) ((net_Eval n x1 x2 x3 x4 x5 (KLi_at r11.1 d19.1) (KLi_at r10.1 d19.1)).bind (fun r22 => (law11_SimSteps_l2 n d19 r12 r22 x1 x4 (0, ())).bind (Sum.elim (fun d25 => some (.inl (d25.1, ()))) (fun d26 => self (IntKind.wrap .i64 (d19.1 + 1), ())))))))))))))))))
 (some (.inr ()))
noncomputable def law11_SimSteps_l3 (n : Nat) (r10 : List (List Int) × Unit) (r11 : List (List Int) × Unit) (r12 : List (List Bool) × Unit) (x1 : List Kiiiiiii) (x2 : List Ksi) (x3 : List Ksiii) (x4 : List Kisi) (x5 : List Ksi) : Int × Unit → Option ((Bool × Unit) ⊕ (Unit)) := iter (law11_SimSteps_l3b n r10 r11 r12 x1 x2 x3 x4 x5) n
noncomputable def law11_SimSteps (n : Nat) (x1 : List Kiiiiiii) (x2 : List Ksi) (x3 : List Ksiii) (x4 : List Kisi) (x5 : List Ksi) (x6 : List (List Int)) : Option (Bool × Unit) :=
 (law11_head n).bind (fun r7 => (law09_Great n x1 x2 x3 x4 x5).bind (fun r8 => cond r8.1
 (some (r7.1, ()))
 ((ref09_Right n x1 x2 x3 x4 x5).bind (fun r9 => cond (!r9.1)
 (some (r7.1, ()))
 ((law11_Trace n x1 x2 x3 x4 x5 x6).bind (fun r10 => (sim_States n x1 x2 x3 x4 x5 r10.1).bind (fun r11 => (sim_Run n x1 x2 x3 x4 x5 r10.1).bind (fun r12 => cond (decide ((r11.1.length : Int) ≠ (IntKind.wrap .i64 ((r10.1.length : Int) + 1))))
 (some (false, ()))
 (cond (decide ((r12.1.length : Int) ≠ (r10.1.length : Int)))
 (some (false, ()))
 (ask (0 ≤ (0 : Int) ∧ 0 < (r11.1.length : Int)) (cond (decide (((KLi_at r11.1 0).length : Int) ≠ (x3.length : Int)))
 (some (false, ()))
 ((net_First n x1 x2 x3 x4 x5).bind (fun r13 => (law11_SimSteps_l1 n r11 r13 (0, ())).bind (Sum.elim (fun d16 => some (d16.1, ())) (fun d17 => (law11_SimSteps_l3 n r10 r11 r12 x1 x2 x3 x4 x5 (0, ())).bind (Sum.elim (fun d27 => some (d27.1, ())) (fun d28 => some (r7.1, ()))))))))))))))))))
def law11_SimSteps_s : Sig := ⟨[.c true [.row Kiiiiiii_, .row Ksi_, .row Ksiii_, .row Kisi_, .row Ksi_], .c false [.row KLw_]], [], .c false [.bool], []⟩
def law11_SimSteps_a : Ann := .s .d (.s .d (.s .d (.s .d (.s .d (.s .d (.s .d (.s .d (.s (.s .d (.b (.l [4, 10, 57, 58, 59, 60, 61, 62, 63, 64, 65, 66, 67, 68, 69, 70, 71, 72, 73] [] ⟨[(10, .c false [.int .i64])], []⟩ [(.ret, ⟨[(4, .c false [.bool])], []⟩), (.exit 0, ⟨[], []⟩)] .d))) (.s (.s .d (.b (.l [4, 11, 12, 13, 74, 75, 76, 77, 78, 79, 80, 81, 82, 83, 84, 85, 86, 87, 88, 89, 90, 91, 92, 93, 94, 95, 96, 97, 98, 99, 100, 101, 102, 103, 104, 105, 106, 107, 108, 109, 110, 111, 112, 113, 114, 115, 116, 117, 118, 119, 120, 121, 122, 123, 124, 125, 126, 127, 128, 129, 130, 131, 132, 133, 134, 135, 136, 137, 138, 139, 140, 141, 142, 143, 144, 145, 146, 147, 148, 149, 150, 151, 152, 153, 154, 155, 156, 157, 158, 159, 160, 161] [] ⟨[(11, .c false [.int .i64])], []⟩ [(.ret, ⟨[(4, .c false [.bool])], []⟩), (.exit 2, ⟨[], []⟩)] (.s .d (.s (.b (.s .d (.s .d (.s .d (.s .d (.b (.l [4, 13, 129, 130, 131, 132, 133, 134, 135, 136, 137, 138, 139, 140, 141, 142, 143, 144, 145, 146, 147, 148, 149, 150, 151, 152, 153, 154, 155, 156, 157, 158, 159, 160, 161] [] ⟨[(13, .c false [.int .i64])], []⟩ [(.ret, ⟨[(4, .c false [.bool])], []⟩), (.exit 4, ⟨[], []⟩)] .d))))))) .d))))) .d)))))))))
noncomputable def law11_SimSteps_c (n : Nat) : Ctr Try.prog := .of Try.func4 n [law11_head_c n, law09_Great_c n, ref09_Right_c n, law11_Trace_c n, sim_States_c n, sim_Run_c n, net_First_c n, net_After_c n, ref11_SameRows_c n, net_Eval_c n] law11_SimSteps_a law11_SimSteps_s (fun d => law11_SimSteps n d.1 d.2.1 d.2.2.1 d.2.2.2.1 d.2.2.2.2.1 d.2.2.2.2.2.1) fun d => by kernel_rfl
noncomputable def law11_SimParts (n : Nat) (x1 : List Kiiiiiii) (x2 : List Ksi) (x3 : List Ksiii) (x4 : List Kisi) (x5 : List Ksi) (x6 : List (List Int)) (x7 : Int) : Option (Bool × Unit) :=
 (law11_head n).bind (fun r8 => (law09_Great n x1 x2 x3 x4 x5).bind (fun r9 => cond r9.1
 (some (r8.1, ()))
 ((ref09_Right n x1 x2 x3 x4 x5).bind (fun r10 => cond (!r10.1)
 (some (r8.1, ()))
 ((law11_Trace n x1 x2 x3 x4 x5 x6).bind (fun r11 => ask ((IntKind.wrap .i64 ((r11.1.length : Int) + 1)) ≠ 0) ((sim_States n x1 x2 x3 x4 x5 r11.1).bind (fun r12 => (sim_Run n x1 x2 x3 x4 x5 r11.1).bind (fun r13 => cond (decide ((r12.1.length : Int) ≠ (IntKind.wrap .i64 ((r11.1.length : Int) + 1))))
 (some (false, ()))
 (cond (decide ((r13.1.length : Int) ≠ (r11.1.length : Int)))
 (some (false, ()))
 (cond r8.1
 (ask (0 ≤ (Int.tmod (IntKind.wrap .i64 x7) (IntKind.wrap .i64 ((r11.1.length : Int) + 1))) ∧ Int.tmod (IntKind.wrap .i64 x7) (IntKind.wrap .i64 ((r11.1.length : Int) + 1)) ≤ (r11.1.length : Int)) ((sim_Right n x1 x2 x3 x4 x5 (r11.1.take (Int.tmod (IntKind.wrap .i64 x7) (IntKind.wrap .i64 ((r11.1.length : Int) + 1))).toNat)).bind (fun r14 => cond r14.1
 (ask (0 ≤ (Int.tmod (IntKind.wrap .i64 x7) (IntKind.wrap .i64 ((r11.1.length : Int) + 1))) ∧ Int.tmod (IntKind.wrap .i64 x7) (IntKind.wrap .i64 ((r11.1.length : Int) + 1)) ≤ (r11.1.length : Int)) ((sim_States n x1 x2 x3 x4 x5 (r11.1.take (Int.tmod (IntKind.wrap .i64 x7) (IntKind.wrap .i64 ((r11.1.length : Int) + 1))).toNat)).bind (fun r15 => ask (0 ≤ (IntKind.wrap .i64 ((Int.tmod (IntKind.wrap .i64 x7) (IntKind.wrap .i64 ((r11.1.length : Int) + 1))) + 1)) ∧ IntKind.wrap .i64 ((Int.tmod (IntKind.wrap .i64 x7) (IntKind.wrap .i64 ((r11.1.length : Int) + 1))) + 1) ≤ (r12.1.length : Int)) ((ref11_SameRows n r15.1 (r12.1.take (IntKind.wrap .i64 ((Int.tmod (IntKind.wrap .i64 x7) (IntKind.wrap .i64 ((r11.1.length : Int) + 1))) + 1)).toNat)).bind (fun r16 => cond r16.1
 (ask (0 ≤ (Int.tmod (IntKind.wrap .i64 x7) (IntKind.wrap .i64 ((r11.1.length : Int) + 1))) ∧ Int.tmod (IntKind.wrap .i64 x7) (IntKind.wrap .i64 ((r11.1.length : Int) + 1)) ≤ (r11.1.length : Int)) ((sim_Run n x1 x2 x3 x4 x5 (r11.1.take (Int.tmod (IntKind.wrap .i64 x7) (IntKind.wrap .i64 ((r11.1.length : Int) + 1))).toNat)).bind (fun r17 => ask (0 ≤ (Int.tmod (IntKind.wrap .i64 x7) (IntKind.wrap .i64 ((r11.1.length : Int) + 1))) ∧ Int.tmod (IntKind.wrap .i64 x7) (IntKind.wrap .i64 ((r11.1.length : Int) + 1)) ≤ (r13.1.length : Int)) ((ref11_SameBits n r17.1 (r13.1.take (Int.tmod (IntKind.wrap .i64 x7) (IntKind.wrap .i64 ((r11.1.length : Int) + 1))).toNat)).bind (fun r18 => some (r18.1, ()))))))
 (some (false, ())))))))
 (some (false, ())))))
 (some (false, ())))))))))))))
def law11_SimParts_s : Sig := ⟨[.c true [.row Kiiiiiii_, .row Ksi_, .row Ksiii_, .row Kisi_, .row Ksi_], .c false [.row KLw_], .c false [.int .u8]], [], .c false [.bool], []⟩
def law11_SimParts_a : Ann := .d
noncomputable def law11_SimParts_c (n : Nat) : Ctr Try.prog := .of Try.func5 n [law11_head_c n, law09_Great_c n, ref09_Right_c n, law11_Trace_c n, sim_States_c n, sim_Run_c n, sim_Right_c n, ref11_SameRows_c n, ref11_SameBits_c n] law11_SimParts_a law11_SimParts_s (fun d => law11_SimParts n d.1 d.2.1 d.2.2.1 d.2.2.2.1 d.2.2.2.2.1 d.2.2.2.2.2.1 d.2.2.2.2.2.2.1) fun d => by kernel_rfl
noncomputable def law11_SimCut_j1 (n : Nat) (r12 : List (List Int) × Unit) (r13 : Int × Bool × Unit) (r16 : List (List Int) × Unit) : Option ((List (List Int) × Unit)) :=
 cond (decide ((64 : Int) < (((([] : List (List Int)) ++ (r12.1.take (IntKind.wrap .i64 (r13.1 + 1)).toNat)) ++ r16.1).length : Int)))
 (ask (0 ≤ (64 : Int) ∧ 64 ≤ (((([] : List (List Int)) ++ (r12.1.take (IntKind.wrap .i64 (r13.1 + 1)).toNat)) ++ r16.1).length : Int)) (some ((((([] : List (List Int)) ++ (r12.1.take (IntKind.wrap .i64 (r13.1 + 1)).toNat)) ++ r16.1).drop 0).take ((64 : Int).toNat), ())))
 (some ((([] : List (List Int)) ++ (r12.1.take (IntKind.wrap .i64 (r13.1 + 1)).toNat)) ++ r16.1, ()))
noncomputable def law11_SimCut (n : Nat) (x1 : List Kiiiiiii) (x2 : List Ksi) (x3 : List Ksiii) (x4 : List Kisi) (x5 : List Ksi) (x6 : List (List Int)) (x7 : Int) (x8 : List (List Int)) : Option (Bool × Unit) :=
 (law11_head n).bind (fun r9 => (law09_Great n x1 x2 x3 x4 x5).bind (fun r10 => cond r10.1
 (some (r9.1, ()))
 ((ref09_Right n x1 x2 x3 x4 x5).bind (fun r11 => cond (!r11.1)
 (some (r9.1, ()))
 (cond (decide ((x4.length : Int) = 0))
 (some (r9.1, ()))
 ((law11_Trace n x1 x2 x3 x4 x5 x6).bind (fun r12 => ask ((x4.length : Int) ≠ 0) ((sim_Hit n x1 x2 x3 x4 x5 (Int.tmod (IntKind.wrap .i64 x7) (x4.length : Int)) r12.1).bind (fun r13 => cond (!r13.2.1)
 (cond r9.1
 (some (decide (r13.1 = 0), ()))
 (some (false, ())))
 (cond (decide (r13.1 < 0))
 (some (false, ()))
 (cond (decide ((r12.1.length : Int) ≤ r13.1))
 (some (false, ()))
 (ask (0 ≤ (IntKind.wrap .i64 (r13.1 + 1)) ∧ IntKind.wrap .i64 (r13.1 + 1) ≤ (r12.1.length : Int)) ((sim_Hit n x1 x2 x3 x4 x5 (Int.tmod (IntKind.wrap .i64 x7) (x4.length : Int)) (r12.1.take (IntKind.wrap .i64 (r13.1 + 1)).toNat)).bind (fun r14 => ask (0 ≤ r13.1 ∧ r13.1 ≤ (r12.1.length : Int)) ((sim_Hit n x1 x2 x3 x4 x5 (Int.tmod (IntKind.wrap .i64 x7) (x4.length : Int)) (r12.1.take r13.1.toNat)).bind (fun r15 => ask (0 ≤ (IntKind.wrap .i64 (r13.1 + 1)) ∧ IntKind.wrap .i64 (r13.1 + 1) ≤ (r12.1.length : Int)) (ask (True ∧ ((([] : List (List Int))).length + (r12.1.take (IntKind.wrap .i64 (r13.1 + 1)).toNat).length) * 24 ≤ 140737488355328) ((law11_Trace n x1 x2 x3 x4 x5 x8).bind (fun r16 => ask (True ∧ ((([] : List (List Int)) ++ (r12.1.take (IntKind.wrap .i64 (r13.1 + 1)).toNat)).length + r16.1.length) * 24 ≤ 140737488355328) ((law11_SimCut_j1 n r12 r13 r16).bind (fun d17 => (sim_Hit n x1 x2 x3 x4 x5 (Int.tmod (IntKind.wrap .i64 x7) (x4.length : Int)) d17.1).bind (fun r18 => cond r9.1
 (cond (decide (r14.1 = r13.1))
 (cond r14.2.1
 (cond (!r15.2.1)
 (cond (decide (r18.1 = r13.1))
 (some (r18.2.1, ()))
 (some (false, ())))
 (some (false, ())))
 (some (false, ())))
 (some (false, ())))
 (some (false, ()))))))))))))))))))))))))
def law11_SimCut_s : Sig := ⟨[.c true [.row Kiiiiiii_, .row Ksi_, .row Ksiii_, .row Kisi_, .row Ksi_], .c false [.row KLw_], .c false [.int .u8], .c false [.row KLw_]], [], .c false [.bool], []⟩
def law11_SimCut_a : Ann := .s .d (.s .d (.s .d (.s .d (.s .d (.s .d (.s .d (.s .d (.s .d (.s .d (.s .d (.j [18, 95, 96, 97, 98, 99, 100] [677] [(.normal, ⟨[(18, .c false [.row KLi_])], []⟩)] .d .d)))))))))))
noncomputable def law11_SimCut_c (n : Nat) : Ctr Try.prog := .of Try.func6 n [law11_head_c n, law09_Great_c n, ref09_Right_c n, law11_Trace_c n, sim_Hit_c n] law11_SimCut_a law11_SimCut_s (fun d => law11_SimCut n d.1 d.2.1 d.2.2.1 d.2.2.2.1 d.2.2.2.2.1 d.2.2.2.2.2.1 d.2.2.2.2.2.2.1 d.2.2.2.2.2.2.2.1) fun d => by kernel_rfl
noncomputable def law11_SimHits_l1b (n : Nat) (d15 : Int × Unit) (r13 : List (List Bool) × Unit) (x4 : List Kisi) (self : Bool × Int × Unit → Option ((Bool × Unit))) (d17 : Bool × Int × Unit) : Option ((Bool × Unit)) :=
 cond (decide (d17.2.1 < (x4.length : Int)))
 (cond d17.1
 (ask (0 ≤ d17.2.1 ∧ d17.2.1 < (x4.length : Int)) (cond (decide (((Kisi_at x4 d17.2.1).1) ≠ 9))
 (self (true, IntKind.wrap .i64 (d17.2.1 + 1), ()))
 (ask (0 ≤ d15.1 ∧ d15.1 < (r13.1.length : Int)) (ask (0 ≤ d17.2.1 ∧ d17.2.1 < ((KLb_at r13.1 d15.1).length : Int)) (self (Kb_at (KLb_at r13.1 d15.1) d17.2.1, IntKind.wrap .i64 (d17.2.1 + 1), ()))))))
 (self (false, IntKind.wrap .i64 (d17.2.1 + 1), ())))
 (some (d17.1, ()))
noncomputable def law11_SimHits_l1 (n : Nat) (d15 : Int × Unit) (r13 : List (List Bool) × Unit) (x4 : List Kisi) : Bool × Int × Unit → Option ((Bool × Unit)) := iter (law11_SimHits_l1b n d15 r13 x4) n
noncomputable def law11_SimHits_j2 (n : Nat) (d15 : Int × Unit) (d18 : Bool × Unit) (r13 : List (List Bool) × Unit) (x4 : List Kisi) (x7 : Int) : Option ((Bool × Unit)) :=
 cond d18.1
 (ask (0 ≤ (Int.tmod (IntKind.wrap .i64 x7) (x4.length : Int)) ∧ Int.tmod (IntKind.wrap .i64 x7) (x4.length : Int) < (x4.length : Int)) (cond (decide (((Kisi_at x4 (Int.tmod (IntKind.wrap .i64 x7) (x4.length : Int))).1) = 8))
 (ask (0 ≤ d15.1 ∧ d15.1 < (r13.1.length : Int)) (ask (0 ≤ (Int.tmod (IntKind.wrap .i64 x7) (x4.length : Int)) ∧ Int.tmod (IntKind.wrap .i64 x7) (x4.length : Int) < ((KLb_at r13.1 d15.1).length : Int)) (cond (!(Kb_at (KLb_at r13.1 d15.1) (Int.tmod (IntKind.wrap .i64 x7) (x4.length : Int))))
 (some (true, ()))
 (ask (0 ≤ (Int.tmod (IntKind.wrap .i64 x7) (x4.length : Int)) ∧ Int.tmod (IntKind.wrap .i64 x7) (x4.length : Int) < (x4.length : Int)) (cond (decide (((Kisi_at x4 (Int.tmod (IntKind.wrap .i64 x7) (x4.length : Int))).1) = 10))
 (ask (0 ≤ d15.1 ∧ d15.1 < (r13.1.length : Int)) (ask (0 ≤ (Int.tmod (IntKind.wrap .i64 x7) (x4.length : Int)) ∧ Int.tmod (IntKind.wrap .i64 x7) (x4.length : Int) < ((KLb_at r13.1 d15.1).length : Int)) (some (Kb_at (KLb_at r13.1 d15.1) (Int.tmod (IntKind.wrap .i64 x7) (x4.length : Int)), ()))))
 (some (false, ())))))))
 (ask (0 ≤ (Int.tmod (IntKind.wrap .i64 x7) (x4.length : Int)) ∧ Int.tmod (IntKind.wrap .i64 x7) (x4.length : Int) < (x4.length : Int)) (cond (decide (((Kisi_at x4 (Int.tmod (IntKind.wrap .i64 x7) (x4.length : Int))).1) = 10))
 (ask (0 ≤ d15.1 ∧ d15.1 < (r13.1.length : Int)) (ask (0 ≤ (Int.tmod (IntKind.wrap .i64 x7) (x4.length : Int)) ∧ Int.tmod (IntKind.wrap .i64 x7) (x4.length : Int) < ((KLb_at r13.1 d15.1).length : Int)) (some (Kb_at (KLb_at r13.1 d15.1) (Int.tmod (IntKind.wrap .i64 x7) (x4.length : Int)), ()))))
 (some (false, ()))))))
 (some (false, ()))
noncomputable def law11_SimHits_l3b (n : Nat) (r8 : Bool × Unit) (r12 : Int × Bool × Unit) (r13 : List (List Bool) × Unit) (x4 : List Kisi) (x7 : Int) (self : Int × Unit → Option ((Bool × Unit) ⊕ (Unit))) (d15 : Int × Unit) : Option ((Bool × Unit) ⊕ (Unit)) :=
 cond (decide (d15.1 < (r13.1.length : Int)))
 (ask (0 ≤ d15.1 ∧ d15.1 < (r13.1.length : Int)) (cond (decide (((KLb_at r13.1 d15.1).length : Int) ≠ (x4.length : Int)))
 (some (.inl (false, ())))
 ((law11_SimHits_l1 n d15 r13 x4 (true, 0, ())).bind (fun d18 => (law11_SimHits_j2 n d15 d18 r13 x4 x7).bind (fun d19 => cond d19.1
 (cond r8.1
 (cond r12.2.1
 (some (.inl (decide (r12.1 = d15.1), ())))
 (some (.inl (false, ()))))
 (some (.inl (false, ()))))
 (cond (!d18.1)
 (cond r8.1
 (some (.inl (!r12.2.1, ())))
 (some (.inl (false, ()))))
 (self (IntKind.wrap .i64 (d15.1 + 1), ()))))))))
 (some (.inr ()))
noncomputable def law11_SimHits_l3 (n : Nat) (r8 : Bool × Unit) (r12 : Int × Bool × Unit) (r13 : List (List Bool) × Unit) (x4 : List Kisi) (x7 : Int) : Int × Unit → Option ((Bool × Unit) ⊕ (Unit)) := iter (law11_SimHits_l3b n r8 r12 r13 x4 x7) n
noncomputable def law11_SimHits (n : Nat) (x1 : List Kiiiiiii) (x2 : List Ksi) (x3 : List Ksiii) (x4 : List Kisi) (x5 : List Ksi) (x6 : List (List Int)) (x7 : Int) : Option (Bool × Unit) :=
 (law11_head n).bind (fun r8 => (law09_Great n x1 x2 x3 x4 x5).bind (fun r9 => cond r9.1
 (some (r8.1, ()))
 ((ref09_Right n x1 x2 x3 x4 x5).bind (fun r10 => cond (!r10.1)
 (some (r8.1, ()))
 (cond (decide ((x4.length : Int) = 0))
 (some (r8.1, ()))
 ((law11_Trace n x1 x2 x3 x4 x5 x6).bind (fun r11 => ask ((x4.length : Int) ≠ 0) ((sim_Hit n x1 x2 x3 x4 x5 (Int.tmod (IntKind.wrap .i64 x7) (x4.length : Int)) r11.1).bind (fun r12 => (sim_Run n x1 x2 x3 x4 x5 r11.1).bind (fun r13 => cond (decide ((r13.1.length : Int) ≠ (r11.1.length : Int)))
 (some (false, ()))
 ((law11_SimHits_l3 n r8 r12 r13 x4 x7 (0, ())).bind (Sum.elim (fun d20 => some (d20.1, ())) (fun d21 => cond r8.1
 (some (!r12.2.1, ()))
 (some (false, ())))))))))))))))
def law11_SimHits_s : Sig := ⟨[.c true [.row Kiiiiiii_, .row Ksi_, .row Ksiii_, .row Kisi_, .row Ksi_], .c false [.row KLw_], .c false [.int .u8]], [], .c false [.bool], []⟩
def law11_SimHits_a : Ann := .s .d (.s .d (.s .d (.s .d (.s .d (.s .d (.s .d (.s .d (.s (.s .d (.b (.l [6, 13, 14, 15, 16, 56, 57, 58, 59, 60, 61, 62, 63, 64, 65, 66, 67, 68, 69, 70, 71, 72, 73, 74, 75, 76, 77, 78, 79, 80, 81, 82, 83, 84, 85, 86, 87, 88, 89, 90, 91, 92, 93, 94, 95, 96, 97, 98, 99, 100, 101, 102, 103, 104, 105, 106, 107, 108, 109, 110, 111, 112, 113, 114, 115, 116, 117, 118, 119, 120, 121, 122, 123, 124, 125, 126, 127, 128, 129, 130, 131, 132, 133, 134, 135, 136, 137, 138, 139, 140, 141, 142, 143, 144, 145, 146, 147, 148, 149, 150, 151] [] ⟨[(13, .c false [.int .i64])], []⟩ [(.ret, ⟨[(6, .c false [.bool])], []⟩), (.exit 0, ⟨[], []⟩)] (.s .d (.s (.b (.s .d (.s .d (.s (.s .d (.b (.l [14, 15, 71, 72, 73, 74, 75, 76, 77, 78, 79, 80, 81, 82, 83, 84, 85, 86, 87, 88, 89, 90, 91, 92, 93, 94, 95, 96] [] ⟨[(14, .c false [.bool]), (15, .c false [.int .i64])], []⟩ [(.exit 2, ⟨[(14, .c false [.bool])], []⟩)] .d))) (.j [16, 97, 98, 99, 100, 101, 102, 103, 104, 105, 106, 107, 108, 109, 110, 111, 112, 113, 114, 115, 116, 117, 118, 119, 120, 121, 122, 123, 124, 125, 126, 127, 128, 129, 130, 131, 132, 133, 134] [] [(.normal, ⟨[(16, .c false [.bool])], []⟩)] .d .d))))) .d))))) .d))))))))
noncomputable def law11_SimHits_c (n : Nat) : Ctr Try.prog := .of Try.func7 n [law11_head_c n, law09_Great_c n, ref09_Right_c n, law11_Trace_c n, sim_Hit_c n, sim_Run_c n] law11_SimHits_a law11_SimHits_s (fun d => law11_SimHits n d.1 d.2.1 d.2.2.1 d.2.2.2.1 d.2.2.2.2.1 d.2.2.2.2.2.1 d.2.2.2.2.2.2.1) fun d => by kernel_rfl
noncomputable def law11_SimOdd_l1b (n : Nat) (r12 : List (List Int) × Unit) (x7 : Int) (self : Int × List (List Int) × Unit → Option ((List (List Int) × Unit))) (d16 : Int × List (List Int) × Unit) : Option ((List (List Int) × Unit)) :=
 cond (decide (d16.1 < 65))
 (ask (0 ≤ (Int.tmod (IntKind.wrap .i64 x7) (r12.1.length : Int)) ∧ Int.tmod (IntKind.wrap .i64 x7) (r12.1.length : Int) < (r12.1.length : Int)) (ask (True ∧ (d16.2.1.length + (([KLi_at r12.1 (Int.tmod (IntKind.wrap .i64 x7) (r12.1.length : Int))] : List (List Int))).length) * 24 ≤ 140737488355328) (self (IntKind.wrap .i64 (d16.1 + 1), d16.2.1 ++ ([KLi_at r12.1 (Int.tmod (IntKind.wrap .i64 x7) (r12.1.length : Int))] : List (List Int)), ()))))
 (some (d16.2.1, ()))
noncomputable def law11_SimOdd_l1 (n : Nat) (r12 : List (List Int) × Unit) (x7 : Int) : Int × List (List Int) × Unit → Option ((List (List Int) × Unit)) := iter (law11_SimOdd_l1b n r12 x7) n
noncomputable def law11_SimOdd (n : Nat) (x1 : List Kiiiiiii) (x2 : List Ksi) (x3 : List Ksiii) (x4 : List Kisi) (x5 : List Ksi) (x6 : List (List Int)) (x7 : Int) (x8 : Int) : Option (Bool × Unit) :=
 (law11_head n).bind (fun r9 => (law09_Great n x1 x2 x3 x4 x5).bind (fun r10 => cond r10.1
 (some (r9.1, ()))
 ((ref09_Right n x1 x2 x3 x4 x5).bind (fun r11 => cond (!r11.1)
 (some (r9.1, ()))
 ((law11_Trace n x1 x2 x3 x4 x5 x6).bind (fun r12 => ((cond (decide ((r12.1.length : Int) = 0))
 (some (true, ()))
 ((sim_Right n x1 x2 x3 x4 x5 r12.1).bind (fun r13 => some (!r13.1, ())))) : Option ((Bool × Unit))).bind (fun d14 => cond d14.1
 (cond r9.1
 (some (decide ((r12.1.length : Int) = 0), ()))
 (some (false, ())))
 (ask ((r12.1.length : Int) ≠ 0) (ask (True ∧ ((([] : List (List Int))).length + r12.1.length) * 24 ≤ 140737488355328) (ask (0 ≤ (Int.tmod (IntKind.wrap .i64 x7) (r12.1.length : Int)) ∧ Int.tmod (IntKind.wrap .i64 x7) (r12.1.length : Int) < (r12.1.length : Int)) (ask (True ∧ ((([] : List Int)).length + (KLi_at r12.1 (Int.tmod (IntKind.wrap .i64 x7) (r12.1.length : Int))).length) * 8 ≤ 140737488355328) (ask (True ∧ ((([] : List Int) ++ (KLi_at r12.1 (Int.tmod (IntKind.wrap .i64 x7) (r12.1.length : Int)))).length + (([0] : List Int)).length) * 8 ≤ 140737488355328) (ask (0 ≤ (Int.tmod (IntKind.wrap .i64 x7) (r12.1.length : Int)) ∧ Int.tmod (IntKind.wrap .i64 x7) (r12.1.length : Int) < ((([] : List (List Int)) ++ r12.1).length : Int)) ((law11_SimOdd_l1 n r12 x7 (0, ([] : List (List Int)), ())).bind (fun d17 => (sim_Right n x1 x2 x3 x4 x5 ((([] : List (List Int)) ++ r12.1).set (Int.tmod (IntKind.wrap .i64 x7) (r12.1.length : Int)).toNat ((([] : List Int) ++ (KLi_at r12.1 (Int.tmod (IntKind.wrap .i64 x7) (r12.1.length : Int)))) ++ ([0] : List Int)))).bind (fun r18 => cond r18.1
 (some (false, ()))
 ((sim_Right n x1 x2 x3 x4 x5 d17.1).bind (fun r19 => cond r19.1
 (some (false, ()))
 (cond (decide ((x2.length : Int) = 0))
 (some (r9.1, ()))
 (ask (0 ≤ (Int.tmod (IntKind.wrap .i64 x7) (r12.1.length : Int)) ∧ Int.tmod (IntKind.wrap .i64 x7) (r12.1.length : Int) < (r12.1.length : Int)) (ask (True ∧ ((([] : List Int)).length + (KLi_at r12.1 (Int.tmod (IntKind.wrap .i64 x7) (r12.1.length : Int))).length) * 8 ≤ 140737488355328) (ask (((([] : List Int) ++ (KLi_at r12.1 (Int.tmod (IntKind.wrap .i64 x7) (r12.1.length : Int)))).length : Int) ≠ 0) (ask (0 ≤ (Int.tmod (IntKind.wrap .i64 x8) ((([] : List Int) ++ (KLi_at r12.1 (Int.tmod (IntKind.wrap .i64 x7) (r12.1.length : Int)))).length : Int)) ∧ Int.tmod (IntKind.wrap .i64 x8) ((([] : List Int) ++ (KLi_at r12.1 (Int.tmod (IntKind.wrap .i64 x7) (r12.1.length : Int)))).length : Int) < ((([] : List Int) ++ (KLi_at r12.1 (Int.tmod (IntKind.wrap .i64 x7) (r12.1.length : Int)))).length : Int)) (ask (0 ≤ (Int.tmod (IntKind.wrap .i64 x8) ((([] : List Int) ++ (KLi_at r12.1 (Int.tmod (IntKind.wrap .i64 x7) (r12.1.length : Int)))).length : Int)) ∧ Int.tmod (IntKind.wrap .i64 x8) ((([] : List Int) ++ (KLi_at r12.1 (Int.tmod (IntKind.wrap .i64 x7) (r12.1.length : Int)))).length : Int) < (x2.length : Int)) (ask (0 ≤ ((Ksi_at x2 (Int.tmod (IntKind.wrap .i64 x8) ((([] : List Int) ++ (KLi_at r12.1 (Int.tmod (IntKind.wrap .i64 x7) (r12.1.length : Int)))).length : Int))).2) ∧ (Ksi_at x2 (Int.tmod (IntKind.wrap .i64 x8) ((([] : List Int) ++ (KLi_at r12.1 (Int.tmod (IntKind.wrap .i64 x7) (r12.1.length : Int)))).length : Int))).2 < (x1.length : Int)) ((ref08_Mask n (((Kiiiiiii_at x1 ((Ksi_at x2 (Int.tmod (IntKind.wrap .i64 x8) ((([] : List Int) ++ (KLi_at r12.1 (Int.tmod (IntKind.wrap .i64 x7) (r12.1.length : Int)))).length : Int))).2)).2).1)).bind (fun r20 => ask (0 ≤ (Int.tmod (IntKind.wrap .i64 x8) ((([] : List Int) ++ (KLi_at r12.1 (Int.tmod (IntKind.wrap .i64 x7) (r12.1.length : Int)))).length : Int)) ∧ Int.tmod (IntKind.wrap .i64 x8) ((([] : List Int) ++ (KLi_at r12.1 (Int.tmod (IntKind.wrap .i64 x7) (r12.1.length : Int)))).length : Int) < ((([] : List Int) ++ (KLi_at r12.1 (Int.tmod (IntKind.wrap .i64 x7) (r12.1.length : Int)))).length : Int)) (ask (0 ≤ (Int.tmod (IntKind.wrap .i64 x7) (r12.1.length : Int)) ∧ Int.tmod (IntKind.wrap .i64 x7) (r12.1.length : Int) < (((([] : List (List Int)) ++ r12.1).set (Int.tmod (IntKind.wrap .i64 x7) (r12.1.length : Int)).toNat ((([] : List Int) ++ (KLi_at r12.1 (Int.tmod (IntKind.wrap .i64 x7) (r12.1.length : Int)))) ++ ([0] : List Int))).length : Int)) (cond r9.1
 ((sim_Right n x1 x2 x3 x4 x5 (((([] : List (List Int)) ++ r12.1).set (Int.tmod (IntKind.wrap .i64 x7) (r12.1.length : Int)).toNat ((([] : List Int) ++ (KLi_at r12.1 (Int.tmod (IntKind.wrap .i64 x7) (r12.1.length : Int)))) ++ ([0] : List Int))).set (Int.tmod (IntKind.wrap .i64 x7) (r12.1.length : Int)).toNat ((([] : List Int) ++ (KLi_at r12.1 (Int.tmod (IntKind.wrap .i64 x7) (r12.1.length : Int)))).set (Int.tmod (IntKind.wrap .i64 x8) ((([] : List Int) ++ (KLi_at r12.1 (Int.tmod (IntKind.wrap .i64 x7) (r12.1.length : Int)))).length : Int)).toNat (IntKind.wrap .i64 ((IntKind.wrap .i64 ((Ki_at (([] : List Int) ++ (KLi_at r12.1 (Int.tmod (IntKind.wrap .i64 x7) (r12.1.length : Int)))) (Int.tmod (IntKind.wrap .i64 x8) ((([] : List Int) ++ (KLi_at r12.1 (Int.tmod (IntKind.wrap .i64 x7) (r12.1.length : Int)))).length : Int))) + 1)) + r20.1))))).bind (fun r21 => some (!r21.1, ())))
 (some (false, ())))))))))))))))))))))))))))))))
def law11_SimOdd_s : Sig := ⟨[.c true [.row Kiiiiiii_, .row Ksi_, .row Ksiii_, .row Kisi_, .row Ksi_], .c false [.row KLw_], .c false [.int .u8], .c false [.int .u8]], [], .c false [.bool], []⟩
def law11_SimOdd_a : Ann := .s .d (.s .d (.s .d (.s .d (.s (.j [29, 30, 31, 32, 33, 34, 35, 36, 37] [] [(.normal, ⟨[(37, .c false [.bool])], []⟩)] .d .d) (.s .d (.s .d (.s .d (.s .d (.s (.s .d (.b (.l [13, 14, 63, 64, 65, 66, 67, 68, 69, 70, 71, 72, 73] [] ⟨[(13, .c false [.con (.own 100000 1)]), (14, .c false [.int .i64])], [(100000, .row 42 KLi_)]⟩ [(.exit 0, ⟨[(13, .c false [.con (.own 100000 1)])], [(100000, .row 42 KLi_)]⟩)] .d))) .d)))))))))
noncomputable def law11_SimOdd_c (n : Nat) : Ctr Try.prog := .of Try.func8 n [law11_head_c n, law09_Great_c n, ref09_Right_c n, law11_Trace_c n, sim_Right_c n, ref08_Mask_c n] law11_SimOdd_a law11_SimOdd_s (fun d => law11_SimOdd n d.1 d.2.1 d.2.2.1 d.2.2.2.1 d.2.2.2.2.1 d.2.2.2.2.2.1 d.2.2.2.2.2.2.1 d.2.2.2.2.2.2.2.1) fun d => by kernel_rfl
noncomputable def law11_SimLess_l1b (n : Nat) (self : Int × List Kiiiiiii × List Ksi × List Ksiii × List Ksi × List Kisi × Unit → Option ((List Kiiiiiii × List Ksi × List Ksiii × List Ksi × List Kisi × Unit))) (d15 : Int × List Kiiiiiii × List Ksi × List Ksiii × List Ksi × List Kisi × Unit) : Option ((List Kiiiiiii × List Ksi × List Ksiii × List Ksi × List Kisi × Unit)) :=
 cond (decide (d15.1 < (d15.2.2.2.2.2.1.length : Int)))
 (ask (0 ≤ d15.1 ∧ d15.1 < (d15.2.2.2.2.2.1.length : Int)) (cond (decide (((Kisi_at d15.2.2.2.2.2.1 d15.1).1) = 9))
 (ask (0 ≤ d15.1 ∧ d15.1 < (d15.2.2.2.2.2.1.length : Int)) (self (IntKind.wrap .i64 (d15.1 + 1), d15.2.1, d15.2.2.1, d15.2.2.2.1, d15.2.2.2.2.1, d15.2.2.2.2.2.1.set d15.1.toNat (10, ((Kisi_at d15.2.2.2.2.2.1 d15.1).2).1, ((Kisi_at d15.2.2.2.2.2.1 d15.1).2).2), ())))
 (self (IntKind.wrap .i64 (d15.1 + 1), d15.2.1, d15.2.2.1, d15.2.2.2.1, d15.2.2.2.2.1, d15.2.2.2.2.2.1, ()))))
 (some (d15.2.1, d15.2.2.1, d15.2.2.2.1, d15.2.2.2.2.1, d15.2.2.2.2.2.1, ()))
noncomputable def law11_SimLess_l1 (n : Nat) : Int × List Kiiiiiii × List Ksi × List Ksiii × List Ksi × List Kisi × Unit → Option ((List Kiiiiiii × List Ksi × List Ksiii × List Ksi × List Kisi × Unit)) := iter (law11_SimLess_l1b n) n
noncomputable def law11_SimLess_j2 (n : Nat) (d16 : List Kiiiiiii × List Ksi × List Ksiii × List Ksi × List Kisi × Unit) (r11 : List (List Int) × Unit) (r12 : Int × Bool × Unit) (x4 : List Kisi) (x7 : Int) : Option ((Bool × Unit) ⊕ (Unit)) :=
 ask (0 ≤ (Int.tmod (IntKind.wrap .i64 x7) (x4.length : Int)) ∧ Int.tmod (IntKind.wrap .i64 x7) (x4.length : Int) < (x4.length : Int)) (cond (decide (((Kisi_at x4 (Int.tmod (IntKind.wrap .i64 x7) (x4.length : Int))).1) ≠ 9))
 ((sim_Hit n d16.1 d16.2.1 d16.2.2.1 d16.2.2.2.2.1 d16.2.2.2.1 (Int.tmod (IntKind.wrap .i64 x7) (x4.length : Int)) r11.1).bind (fun r17 => cond r12.2.1
 (cond (!r17.2.1)
 (some (.inl (false, ())))
 (cond (decide (r12.1 < r17.1))
 (some (.inl (false, ())))
 (some (.inr ()))))
 (some (.inr ()))))
 (some (.inr ())))
noncomputable def law11_SimLess (n : Nat) (x1 : List Kiiiiiii) (x2 : List Ksi) (x3 : List Ksiii) (x4 : List Kisi) (x5 : List Ksi) (x6 : List (List Int)) (x7 : Int) : Option (Bool × Unit) :=
 (law11_head n).bind (fun r8 => (law09_Great n x1 x2 x3 x4 x5).bind (fun r9 => cond r9.1
 (some (r8.1, ()))
 ((ref09_Right n x1 x2 x3 x4 x5).bind (fun r10 => cond (!r10.1)
 (some (r8.1, ()))
 (cond (decide ((x4.length : Int) = 0))
 (some (r8.1, ()))
 (cond (decide ((16 : Int) ≤ (x4.length : Int)))
 (some (r8.1, ()))
 ((law11_Trace n x1 x2 x3 x4 x5 x6).bind (fun r11 => ask ((x4.length : Int) ≠ 0) ((sim_Hit n x1 x2 x3 x4 x5 (Int.tmod (IntKind.wrap .i64 x7) (x4.length : Int)) r11.1).bind (fun r12 => ask (True ∧ ((([] : List Kisi)).length + x4.length) * 32 ≤ 140737488355328) ((law11_SimLess_l1 n (0, x1, x2, x3, x5, ([] : List Kisi) ++ x4, ())).bind (fun d16 => (law11_SimLess_j2 n d16 r11 r12 x4 x7).bind (Sum.elim (fun d18 => some (d18.1, ())) (fun d19 => ask (True ∧ ((([] : List Kiiiiiii)).length + x1.length) * 56 ≤ 140737488355328) (ask (True ∧ ((([] : List Kiiiiiii) ++ x1).length + (([(1, 1, 0, 0, 0, 0, 0)] : List Kiiiiiii)).length) * 56 ≤ 140737488355328) (ask (True ∧ ((([] : List Kisi)).length + x4.length) * 32 ≤ 140737488355328) (ask (True ∧ ((([] : List Kisi) ++ x4).length + (([(9, ByteArray.empty, (x1.length : Int))] : List Kisi)).length) * 32 ≤ 140737488355328) ((sim_Hit n ((([] : List Kiiiiiii) ++ x1) ++ ([(1, 1, 0, 0, 0, 0, 0)] : List Kiiiiiii)) x2 x3 ((([] : List Kisi) ++ x4) ++ ([(9, ByteArray.empty, (x1.length : Int))] : List Kisi)) x5 (Int.tmod (IntKind.wrap .i64 x7) (x4.length : Int)) r11.1).bind (fun r20 => cond r8.1
 (some (!r20.2.1, ()))
 (some (false, ())))))))))))))))))))))
def law11_SimLess_s : Sig := ⟨[.c true [.row Kiiiiiii_, .row Ksi_, .row Ksiii_, .row Kisi_, .row Ksi_], .c false [.row KLw_], .c false [.int .u8]], [], .c false [.bool], []⟩
def law11_SimLess_a : Ann := .s .d (.s .d (.s .d (.s .d (.s .d (.s .d (.s .d (.s .d (.s (.s .d (.b (.l [12, 13, 60, 61, 62, 63, 64, 65, 66, 67, 68, 69, 70, 71, 72, 73, 74, 75, 76, 77, 78, 79, 80] [165, 358] ⟨[(12, .c false [.con (.ptr 165 0)]), (13, .c false [.int .i64])], [(165, .var 27 [.row Kiiiiiii_, .row Ksi_, .row Ksiii_, .con (.own 358 3), .row Ksi_]), (358, .row 47 Kisi_)]⟩ [(.exit 0, ⟨[(12, .c false [.con (.ptr 165 0)])], [(165, .var 27 [.row Kiiiiiii_, .row Ksi_, .row Ksiii_, .con (.own 358 3), .row Ksi_]), (358, .row 47 Kisi_)]⟩)] .d))) (.j [6, 14, 15, 81, 82, 83, 84, 85, 86, 87, 88, 89, 90, 91, 92, 93, 94, 95, 96, 97, 98, 99, 100, 101, 102, 103, 104] [] [(.ret, ⟨[(6, .c false [.bool])], []⟩), (.normal, ⟨[], []⟩)] .d .d)))))))))
noncomputable def law11_SimLess_c (n : Nat) : Ctr Try.prog := .of Try.func9 n [law11_head_c n, law09_Great_c n, ref09_Right_c n, law11_Trace_c n, sim_Hit_c n] law11_SimLess_a law11_SimLess_s (fun d => law11_SimLess n d.1 d.2.1 d.2.2.1 d.2.2.2.1 d.2.2.2.2.1 d.2.2.2.2.2.1 d.2.2.2.2.2.2.1) fun d => by kernel_rfl
end Go.Proofs.Ytackhenokkolhaa.Am
