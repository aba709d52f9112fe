/- Functions, executed. -/
import Derived.Test.YteblbknmikieoaaAmW
import Derived.Test.YteblbknmikieoaaProg
namespace Go.Proofs.Yteblbknmikieoaa.Am
set_option linter.unusedVariables false
set_option maxRecDepth 100000
abbrev i_ : Ty := .int .i64
abbrev i32_ : Ty := .int .i32
abbrev i16_ : Ty := .int .i16
abbrev i8_ : Ty := .int .i8
abbrev u_ : Ty := .int .u64
abbrev u32_ : Ty := .int .u32
abbrev u16_ : Ty := .int .u16
abbrev u8_ : Ty := .int .u8
abbrev b_ : Ty := .bool
abbrev s_ : Ty := .str
abbrev Kii_ : Ty := .pr i_ i_
abbrev Kii := Int × Int
abbrev Kiii_ : Ty := .pr i_ Kii_
abbrev Kiii := Int × Int × Int
abbrev Kiiii_ : Ty := .pr i_ Kiii_
abbrev Kiiii := Int × Int × Int × Int
abbrev Kiiiii_ : Ty := .pr i_ Kiiii_
abbrev Kiiiii := Int × Int × Int × Int × Int
abbrev Kiiiiii_ : Ty := .pr i_ Kiiiii_
abbrev Kiiiiii := Int × Int × Int × Int × Int × Int
abbrev Kiiiiiii_ : Ty := .pr i_ Kiiiiii_
abbrev Kiiiiiii := Int × Int × Int × Int × Int × Int × Int
abbrev Ksi_ : Ty := .pr s_ i_
abbrev Ksi := ByteArray × Int
abbrev Ksiii_ : Ty := .pr s_ Kiii_
abbrev Ksiii := ByteArray × Int × Int × Int
abbrev Kisi_ : Ty := .pr i_ Ksi_
abbrev Kisi := Int × ByteArray × Int
def Ksi_at (l : List Ksi) (i : Int) : Ksi := at_ Ksi_ l i
def Ki_at (l : List Int) (i : Int) : Int := at_ i_ l i
def Ksiii_at (l : List Ksiii) (i : Int) : Ksiii := at_ Ksiii_ l i
def Kiiiiiii_at (l : List Kiiiiiii) (i : Int) : Kiiiiiii := at_ Kiiiiiii_ l i
def Kisi_at (l : List Kisi) (i : Int) : Kisi := at_ Kisi_ l i
abbrev KLPiiiiiiiE_ : Ty := .sl Kiiiiiii_
abbrev KLPsiE_ : Ty := .sl Ksi_
abbrev KLPsiiiE_ : Ty := .sl Ksiii_
abbrev KLPisiE_ : Ty := .sl Kisi_
abbrev KLPisiELPsiE_ : Ty := .pr KLPisiE_ KLPsiE_
abbrev KLPisiELPsiE := (List Kisi) × (List Ksi)
abbrev KLPsiiiELPisiELPsiE_ : Ty := .pr KLPsiiiE_ KLPisiELPsiE_
abbrev KLPsiiiELPisiELPsiE := (List Ksiii) × (List Kisi) × (List Ksi)
abbrev KLPsiELPsiiiELPisiELPsiE_ : Ty := .pr KLPsiE_ KLPsiiiELPisiELPsiE_
abbrev KLPsiELPsiiiELPisiELPsiE := (List Ksi) × (List Ksiii) × (List Kisi) × (List Ksi)
abbrev KLPiiiiiiiELPsiELPsiiiELPisiELPsiE_ : Ty := .pr KLPiiiiiiiE_ KLPsiELPsiiiELPisiELPsiE_
abbrev KLPiiiiiiiELPsiELPsiiiELPisiELPsiE := (List Kiiiiiii) × (List Ksi) × (List Ksiii) × (List Kisi) × (List Ksi)
def KLPiiiiiiiELPsiELPsiiiELPisiELPsiE_at (l : List KLPiiiiiiiELPsiELPsiiiELPisiELPsiE) (i : Int) : KLPiiiiiiiELPsiELPsiiiELPisiELPsiE := at_ KLPiiiiiiiELPsiELPsiiiELPisiELPsiE_ l i
def Kw_at (l : List Int) (i : Int) : Int := at_ u16_ l i
def Kb_at (l : List Bool) (i : Int) : Bool := at_ b_ l i
noncomputable def law09_Base (n : Nat) : Option (List Kiiiiiii × List Ksi × List Ksiii × List Kisi × List Ksi × Unit) :=
 some (([(21, 1, 0, 0, 0, 0, 0), (22, 4, 0, 0, 0, 0, 0), (1, 4, 0, 0, 0, 1, 0), (9, 4, 1, 2, 0, 0, 0), (1, 4, 0, 0, 0, 11, 0), (14, 1, 1, 4, 0, 0, 4), (1, 4, 0, 0, 0, 0, 0), (16, 4, 5, 3, 6, 0, 0), (16, 4, 0, 7, 1, 0, 0), (1, 4, 0, 0, 0, 12, 0), (13, 1, 1, 9, 0, 0, 4), (12, 1, 1, 4, 0, 0, 4)] : List Kiiiiiii), ([((⟨#[103, 111]⟩ : ByteArray), 0)] : List Ksi), ([((⟨#[110]⟩ : ByteArray), 1, 8, 0)] : List Ksiii), ([(8, (⟨#[108, 111, 119]⟩ : ByteArray), 10), (10, (⟨#[116, 111, 112]⟩ : ByteArray), 11)] : List Kisi), ([((⟨#[110]⟩ : ByteArray), 1)] : List Ksi), ())
def law09_Base_s : Sig := ⟨[], [], .c true [.row Kiiiiiii_, .row Ksi_, .row Ksiii_, .row Kisi_, .row Ksi_], []⟩
def law09_Base_a : Ann := .d
noncomputable def law09_Base_c (n : Nat) : Ctr Try.prog := .of Try.func26 n [] law09_Base_a law09_Base_s (fun d => law09_Base n) fun d => by kernel_rfl
noncomputable def vec_two__vec_works_2 (n : Nat) : Option (Unit) :=
 some ()
def vec_two__vec_works_2_s : Sig := ⟨[.c false [.con (.fn 69 [])]], [], .c false [.con (.fn 87 [(100, 0)])], [(100, .var 90 [.con (.fn 69 [])])]⟩
def vec_two__vec_works_2_a : Ann := .d
noncomputable def vec_two__vec_works_2_c (n : Nat) : Ctr Try.prog := .of Try.func68 n [] vec_two__vec_works_2_a vec_two__vec_works_2_s (fun d => vec_two__vec_works_2 n) fun d => by kernel_rfl
noncomputable def vec_asked__vec_works_3 (n : Nat) : Option (Unit) :=
 some ()
def vec_asked__vec_works_3_s : Sig := ⟨[.c false [.con (.fn 71 [])]], [], .c false [.con (.fn 88 [(100, 0)])], [(100, .var 92 [.con (.fn 71 [])])]⟩
def vec_asked__vec_works_3_a : Ann := .d
noncomputable def vec_asked__vec_works_3_c (n : Nat) : Ctr Try.prog := .of Try.func70 n [] vec_asked__vec_works_3_a vec_asked__vec_works_3_s (fun d => vec_asked__vec_works_3 n) fun d => by kernel_rfl
noncomputable def vec_two__vec_works_5 (n : Nat) : Option (Unit) :=
 some ()
def vec_two__vec_works_5_s : Sig := ⟨[.c false [.con (.fn 74 [])]], [], .c false [.con (.fn 87 [(100, 0)])], [(100, .var 90 [.con (.fn 74 [])])]⟩
def vec_two__vec_works_5_a : Ann := .d
noncomputable def vec_two__vec_works_5_c (n : Nat) : Ctr Try.prog := .of Try.func68 n [] vec_two__vec_works_5_a vec_two__vec_works_5_s (fun d => vec_two__vec_works_5 n) fun d => by kernel_rfl
noncomputable def vec_two__vec_works_6 (n : Nat) : Option (Unit) :=
 some ()
def vec_two__vec_works_6_s : Sig := ⟨[.c false [.con (.fn 75 [])]], [], .c false [.con (.fn 87 [(100, 0)])], [(100, .var 90 [.con (.fn 75 [])])]⟩
def vec_two__vec_works_6_a : Ann := .d
noncomputable def vec_two__vec_works_6_c (n : Nat) : Ctr Try.prog := .of Try.func68 n [] vec_two__vec_works_6_a vec_two__vec_works_6_s (fun d => vec_two__vec_works_6 n) fun d => by kernel_rfl
noncomputable def vec_two__vec_works_7 (n : Nat) : Option (Unit) :=
 some ()
def vec_two__vec_works_7_s : Sig := ⟨[.c false [.con (.fn 76 [])]], [], .c false [.con (.fn 87 [(100, 0)])], [(100, .var 90 [.con (.fn 76 [])])]⟩
def vec_two__vec_works_7_a : Ann := .d
noncomputable def vec_two__vec_works_7_c (n : Nat) : Ctr Try.prog := .of Try.func68 n [] vec_two__vec_works_7_a vec_two__vec_works_7_s (fun d => vec_two__vec_works_7 n) fun d => by kernel_rfl
noncomputable def vec_two__vec_works_8 (n : Nat) : Option (Unit) :=
 some ()
def vec_two__vec_works_8_s : Sig := ⟨[.c false [.con (.fn 77 [])]], [], .c false [.con (.fn 87 [(100, 0)])], [(100, .var 90 [.con (.fn 77 [])])]⟩
def vec_two__vec_works_8_a : Ann := .d
noncomputable def vec_two__vec_works_8_c (n : Nat) : Ctr Try.prog := .of Try.func68 n [] vec_two__vec_works_8_a vec_two__vec_works_8_s (fun d => vec_two__vec_works_8 n) fun d => by kernel_rfl
noncomputable def vec_two__vec_works_9 (n : Nat) : Option (Unit) :=
 some ()
def vec_two__vec_works_9_s : Sig := ⟨[.c false [.con (.fn 78 [])]], [], .c false [.con (.fn 87 [(100, 0)])], [(100, .var 90 [.con (.fn 78 [])])]⟩
def vec_two__vec_works_9_a : Ann := .d
noncomputable def vec_two__vec_works_9_c (n : Nat) : Ctr Try.prog := .of Try.func68 n [] vec_two__vec_works_9_a vec_two__vec_works_9_s (fun d => vec_two__vec_works_9 n) fun d => by kernel_rfl
noncomputable def vec_two__vec_works_10 (n : Nat) : Option (Unit) :=
 some ()
def vec_two__vec_works_10_s : Sig := ⟨[.c false [.con (.fn 79 [])]], [], .c false [.con (.fn 87 [(100, 0)])], [(100, .var 90 [.con (.fn 79 [])])]⟩
def vec_two__vec_works_10_a : Ann := .d
noncomputable def vec_two__vec_works_10_c (n : Nat) : Ctr Try.prog := .of Try.func68 n [] vec_two__vec_works_10_a vec_two__vec_works_10_s (fun d => vec_two__vec_works_10 n) fun d => by kernel_rfl
noncomputable def vec_asked__vec_works_11 (n : Nat) : Option (Unit) :=
 some ()
def vec_asked__vec_works_11_s : Sig := ⟨[.c false [.con (.fn 80 [])]], [], .c false [.con (.fn 88 [(100, 0)])], [(100, .var 92 [.con (.fn 80 [])])]⟩
def vec_asked__vec_works_11_a : Ann := .d
noncomputable def vec_asked__vec_works_11_c (n : Nat) : Ctr Try.prog := .of Try.func70 n [] vec_asked__vec_works_11_a vec_asked__vec_works_11_s (fun d => vec_asked__vec_works_11 n) fun d => by kernel_rfl
noncomputable def vec_asked__vec_works_12 (n : Nat) : Option (Unit) :=
 some ()
def vec_asked__vec_works_12_s : Sig := ⟨[.c false [.con (.fn 81 [])]], [], .c false [.con (.fn 88 [(100, 0)])], [(100, .var 92 [.con (.fn 81 [])])]⟩
def vec_asked__vec_works_12_a : Ann := .d
noncomputable def vec_asked__vec_works_12_c (n : Nat) : Ctr Try.prog := .of Try.func70 n [] vec_asked__vec_works_12_a vec_asked__vec_works_12_s (fun d => vec_asked__vec_works_12 n) fun d => by kernel_rfl
noncomputable def vec_asked__vec_works_13 (n : Nat) : Option (Unit) :=
 some ()
def vec_asked__vec_works_13_s : Sig := ⟨[.c false [.con (.fn 82 [])]], [], .c false [.con (.fn 88 [(100, 0)])], [(100, .var 92 [.con (.fn 82 [])])]⟩
def vec_asked__vec_works_13_a : Ann := .d
noncomputable def vec_asked__vec_works_13_c (n : Nat) : Ctr Try.prog := .of Try.func70 n [] vec_asked__vec_works_13_a vec_asked__vec_works_13_s (fun d => vec_asked__vec_works_13 n) fun d => by kernel_rfl
noncomputable def vec_asked__vec_works_14 (n : Nat) : Option (Unit) :=
 some ()
def vec_asked__vec_works_14_s : Sig := ⟨[.c false [.con (.fn 83 [])]], [], .c false [.con (.fn 88 [(100, 0)])], [(100, .var 92 [.con (.fn 83 [])])]⟩
def vec_asked__vec_works_14_a : Ann := .d
noncomputable def vec_asked__vec_works_14_c (n : Nat) : Ctr Try.prog := .of Try.func70 n [] vec_asked__vec_works_14_a vec_asked__vec_works_14_s (fun d => vec_asked__vec_works_14 n) fun d => by kernel_rfl
noncomputable def vec_works (n : Nat) : Option (Unit) :=
 (vec_two__vec_works_2 n).bind (fun r1 => (vec_asked__vec_works_3 n).bind (fun r2 => (vec_two__vec_works_5 n).bind (fun r3 => (vec_two__vec_works_6 n).bind (fun r4 => (vec_two__vec_works_7 n).bind (fun r5 => (vec_two__vec_works_8 n).bind (fun r6 => (vec_two__vec_works_9 n).bind (fun r7 => (vec_two__vec_works_10 n).bind (fun r8 => (vec_asked__vec_works_11 n).bind (fun r9 => (vec_asked__vec_works_12 n).bind (fun r10 => (vec_asked__vec_works_13 n).bind (fun r11 => (vec_asked__vec_works_14 n).bind (fun r12 => some ()))))))))))))
def vec_works_s : Sig := ⟨[], [], .c false [.con (.map 100)], [(100, .tab [(.i64, 1), (.i64, 3), (.i64, 4), (.i64, 5), (.i64, 6), (.i64, 7), (.i64, 8), (.i64, 9), (.i64, 10), (.i64, 11), (.i64, 12), (.i64, 13), (.i64, 14), (.i64, 15), (.i64, 16), (.i64, 17), (.i64, 18)] [(false, [.con (.fn 67 [])]), (false, [.con (.fn 87 [(228, 0)])]), (false, [.con (.fn 88 [(356, 0)])]), (false, [.con (.fn 72 [])]), (false, [.con (.fn 87 [(548, 0)])]), (false, [.con (.fn 87 [(676, 0)])]), (false, [.con (.fn 87 [(804, 0)])]), (false, [.con (.fn 87 [(932, 0)])]), (false, [.con (.fn 87 [(1060, 0)])]), (false, [.con (.fn 87 [(1188, 0)])]), (false, [.con (.fn 88 [(1316, 0)])]), (false, [.con (.fn 88 [(1444, 0)])]), (false, [.con (.fn 88 [(1572, 0)])]), (false, [.con (.fn 88 [(1700, 0)])]), (false, [.con (.fn 84 [])]), (false, [.con (.fn 85 [])]), (false, [.con (.fn 86 [])])]), (228, .var 90 [.con (.fn 69 [])]), (356, .var 92 [.con (.fn 71 [])]), (548, .var 90 [.con (.fn 74 [])]), (676, .var 90 [.con (.fn 75 [])]), (804, .var 90 [.con (.fn 76 [])]), (932, .var 90 [.con (.fn 77 [])]), (1060, .var 90 [.con (.fn 78 [])]), (1188, .var 90 [.con (.fn 79 [])]), (1316, .var 92 [.con (.fn 80 [])]), (1444, .var 92 [.con (.fn 81 [])]), (1572, .var 92 [.con (.fn 82 [])]), (1700, .var 92 [.con (.fn 83 [])])]⟩
def vec_works_a : Ann := .d
noncomputable def vec_works_c (n : Nat) : Ctr Try.prog := .of Try.func54 n [vec_two__vec_works_2_c n, vec_asked__vec_works_3_c n, vec_two__vec_works_5_c n, vec_two__vec_works_6_c n, vec_two__vec_works_7_c n, vec_two__vec_works_8_c n, vec_two__vec_works_9_c n, vec_two__vec_works_10_c n, vec_asked__vec_works_11_c n, vec_asked__vec_works_12_c n, vec_asked__vec_works_13_c n, vec_asked__vec_works_14_c n] vec_works_a vec_works_s (fun d => vec_works n) fun d => by kernel_rfl
noncomputable def vec_works_1 (n : Nat) (x1 : Int) (x2 : Int) (x3 : Int) (x4 : Int) (x5 : Int) (x6 : Int) (x7 : Int) (x8 : Int) (x9 : Int) (x10 : Int) (x11 : Int) : Option (Int × Unit) :=
 some (x6, ())
def vec_works_1_s : Sig := ⟨[.c true [.int .i64, .int .i64, .int .i64, .int .i64, .int .i64, .int .i64, .int .i64], .c false [.int .i64], .c false [.int .i64], .c false [.int .i64], .c false [.int .i64]], [], .c false [.int .i64], []⟩
def vec_works_1_a : Ann := .d
noncomputable def vec_works_1_c (n : Nat) : Ctr Try.prog := .of Try.func67 n [] vec_works_1_a vec_works_1_s (fun d => vec_works_1 n d.1 d.2.1 d.2.2.1 d.2.2.2.1 d.2.2.2.2.1 d.2.2.2.2.2.1 d.2.2.2.2.2.2.1 d.2.2.2.2.2.2.2.1 d.2.2.2.2.2.2.2.2.1 d.2.2.2.2.2.2.2.2.2.1 d.2.2.2.2.2.2.2.2.2.2.1) fun d => by kernel_rfl
noncomputable def vec_works_2 (n : Nat) (x1 : Int) (x2 : Int) : Option (Int × Unit) :=
 some (bits .xor .i64 (-1) x1, ())
def vec_works_2_s : Sig := ⟨[.c false [.int .i64], .c false [.int .i64]], [], .c false [.int .i64], []⟩
def vec_works_2_a : Ann := .d
noncomputable def vec_works_2_c (n : Nat) : Ctr Try.prog := .of Try.func69 n [] vec_works_2_a vec_works_2_s (fun d => vec_works_2 n d.1 d.2.1) fun d => by kernel_rfl
noncomputable def vec_Mask (n : Nat) (x1 : Int) : Option (Int × Unit) :=
 ask (0 ≤ x1) (some (IntKind.wrap .i64 ((shlI .i64 1 x1) - 1), ()))
def vec_Mask_s : Sig := ⟨[.c false [.int .i64]], [], .c false [.int .i64], []⟩
def vec_Mask_a : Ann := .d
noncomputable def vec_Mask_c (n : Nat) : Ctr Try.prog := .of Try.func49 n [] vec_Mask_a vec_Mask_s (fun d => vec_Mask n d.1) fun d => by kernel_rfl
noncomputable def vec_two_1__vec_works_2 (n : Nat) (x1 : Int) (x2 : Int) (x3 : Int) (x4 : Int) (x5 : Int) (x6 : Int) (x7 : Int) (x8 : Int) (x9 : Int) (x10 : Int) (x11 : Int) : Option (Int × Unit) :=
 (vec_works_2 n x8 x9).bind (fun r12 => (vec_Mask n x2).bind (fun r13 => some (bits .and .i64 r12.1 r13.1, ())))
def vec_two_1__vec_works_2_s : Sig := ⟨[.c true [.int .i64, .int .i64, .int .i64, .int .i64, .int .i64, .int .i64, .int .i64], .c false [.int .i64], .c false [.int .i64], .c false [.int .i64], .c false [.int .i64], .c false [.con (.ptr 0 0)]], [(0, .var 90 [.con (.fn 69 [])])], .c false [.int .i64], [(0, .var 90 [.con (.fn 69 [])])]⟩
def vec_two_1__vec_works_2_a : Ann := .d
noncomputable def vec_two_1__vec_works_2_c (n : Nat) : Ctr Try.prog := .of Try.func87 n [vec_works_2_c n, vec_Mask_c n] vec_two_1__vec_works_2_a vec_two_1__vec_works_2_s (fun d => vec_two_1__vec_works_2 n d.1 d.2.1 d.2.2.1 d.2.2.2.1 d.2.2.2.2.1 d.2.2.2.2.2.1 d.2.2.2.2.2.2.1 d.2.2.2.2.2.2.2.1 d.2.2.2.2.2.2.2.2.1 d.2.2.2.2.2.2.2.2.2.1 d.2.2.2.2.2.2.2.2.2.2.1) fun d => by kernel_rfl
noncomputable def vec_works_3 (n : Nat) (x1 : Int) (x2 : Int) : Option (Bool × Unit) :=
 some (decide (x1 ≠ 0), ())
def vec_works_3_s : Sig := ⟨[.c false [.int .i64], .c false [.int .i64]], [], .c false [.bool], []⟩
def vec_works_3_a : Ann := .d
noncomputable def vec_works_3_c (n : Nat) : Ctr Try.prog := .of Try.func71 n [] vec_works_3_a vec_works_3_s (fun d => vec_works_3 n d.1 d.2.1) fun d => by kernel_rfl
noncomputable def vec_flag (n : Nat) (x1 : Bool) : Option (Int × Unit) :=
 cond x1
 (some (1, ()))
 (some (0, ()))
def vec_flag_s : Sig := ⟨[.c false [.bool]], [], .c false [.int .i64], []⟩
def vec_flag_a : Ann := .d
noncomputable def vec_flag_c (n : Nat) : Ctr Try.prog := .of Try.func73 n [] vec_flag_a vec_flag_s (fun d => vec_flag n d.1) fun d => by kernel_rfl
noncomputable def vec_asked_1__vec_works_3 (n : Nat) (x1 : Int) (x2 : Int) (x3 : Int) (x4 : Int) (x5 : Int) (x6 : Int) (x7 : Int) (x8 : Int) (x9 : Int) (x10 : Int) (x11 : Int) : Option (Int × Unit) :=
 (vec_works_3 n x8 x9).bind (fun r12 => (vec_flag n r12.1).bind (fun r13 => some (r13.1, ())))
def vec_asked_1__vec_works_3_s : Sig := ⟨[.c true [.int .i64, .int .i64, .int .i64, .int .i64, .int .i64, .int .i64, .int .i64], .c false [.int .i64], .c false [.int .i64], .c false [.int .i64], .c false [.int .i64], .c false [.con (.ptr 0 0)]], [(0, .var 92 [.con (.fn 71 [])])], .c false [.int .i64], [(0, .var 92 [.con (.fn 71 [])])]⟩
def vec_asked_1__vec_works_3_a : Ann := .d
noncomputable def vec_asked_1__vec_works_3_c (n : Nat) : Ctr Try.prog := .of Try.func88 n [vec_works_3_c n, vec_flag_c n] vec_asked_1__vec_works_3_a vec_asked_1__vec_works_3_s (fun d => vec_asked_1__vec_works_3 n d.1 d.2.1 d.2.2.1 d.2.2.2.1 d.2.2.2.2.1 d.2.2.2.2.2.1 d.2.2.2.2.2.2.1 d.2.2.2.2.2.2.2.1 d.2.2.2.2.2.2.2.2.1 d.2.2.2.2.2.2.2.2.2.1 d.2.2.2.2.2.2.2.2.2.2.1) fun d => by kernel_rfl
noncomputable def vec_works_4 (n : Nat) (x1 : Int) (x2 : Int) (x3 : Int) (x4 : Int) (x5 : Int) (x6 : Int) (x7 : Int) (x8 : Int) (x9 : Int) (x10 : Int) (x11 : Int) : Option (Int × Unit) :=
 (vec_Mask n x7).bind (fun r12 => (vec_flag n (decide (x8 = r12.1))).bind (fun r13 => some (r13.1, ())))
def vec_works_4_s : Sig := ⟨[.c true [.int .i64, .int .i64, .int .i64, .int .i64, .int .i64, .int .i64, .int .i64], .c false [.int .i64], .c false [.int .i64], .c false [.int .i64], .c false [.int .i64]], [], .c false [.int .i64], []⟩
def vec_works_4_a : Ann := .d
noncomputable def vec_works_4_c (n : Nat) : Ctr Try.prog := .of Try.func72 n [vec_Mask_c n, vec_flag_c n] vec_works_4_a vec_works_4_s (fun d => vec_works_4 n d.1 d.2.1 d.2.2.1 d.2.2.2.1 d.2.2.2.2.1 d.2.2.2.2.2.1 d.2.2.2.2.2.2.1 d.2.2.2.2.2.2.2.1 d.2.2.2.2.2.2.2.2.1 d.2.2.2.2.2.2.2.2.2.1 d.2.2.2.2.2.2.2.2.2.2.1) fun d => by kernel_rfl
noncomputable def vec_works_5 (n : Nat) (x1 : Int) (x2 : Int) : Option (Int × Unit) :=
 some (bits .and .i64 x1 x2, ())
def vec_works_5_s : Sig := ⟨[.c false [.int .i64], .c false [.int .i64]], [], .c false [.int .i64], []⟩
def vec_works_5_a : Ann := .d
noncomputable def vec_works_5_c (n : Nat) : Ctr Try.prog := .of Try.func74 n [] vec_works_5_a vec_works_5_s (fun d => vec_works_5 n d.1 d.2.1) fun d => by kernel_rfl
noncomputable def vec_two_1__vec_works_5 (n : Nat) (x1 : Int) (x2 : Int) (x3 : Int) (x4 : Int) (x5 : Int) (x6 : Int) (x7 : Int) (x8 : Int) (x9 : Int) (x10 : Int) (x11 : Int) : Option (Int × Unit) :=
 (vec_works_5 n x8 x9).bind (fun r12 => (vec_Mask n x2).bind (fun r13 => some (bits .and .i64 r12.1 r13.1, ())))
def vec_two_1__vec_works_5_s : Sig := ⟨[.c true [.int .i64, .int .i64, .int .i64, .int .i64, .int .i64, .int .i64, .int .i64], .c false [.int .i64], .c false [.int .i64], .c false [.int .i64], .c false [.int .i64], .c false [.con (.ptr 0 0)]], [(0, .var 90 [.con (.fn 74 [])])], .c false [.int .i64], [(0, .var 90 [.con (.fn 74 [])])]⟩
def vec_two_1__vec_works_5_a : Ann := .d
noncomputable def vec_two_1__vec_works_5_c (n : Nat) : Ctr Try.prog := .of Try.func87 n [vec_works_5_c n, vec_Mask_c n] vec_two_1__vec_works_5_a vec_two_1__vec_works_5_s (fun d => vec_two_1__vec_works_5 n d.1 d.2.1 d.2.2.1 d.2.2.2.1 d.2.2.2.2.1 d.2.2.2.2.2.1 d.2.2.2.2.2.2.1 d.2.2.2.2.2.2.2.1 d.2.2.2.2.2.2.2.2.1 d.2.2.2.2.2.2.2.2.2.1 d.2.2.2.2.2.2.2.2.2.2.1) fun d => by kernel_rfl
noncomputable def vec_works_6 (n : Nat) (x1 : Int) (x2 : Int) : Option (Int × Unit) :=
 some (bits .or .i64 x1 x2, ())
def vec_works_6_s : Sig := ⟨[.c false [.int .i64], .c false [.int .i64]], [], .c false [.int .i64], []⟩
def vec_works_6_a : Ann := .d
noncomputable def vec_works_6_c (n : Nat) : Ctr Try.prog := .of Try.func75 n [] vec_works_6_a vec_works_6_s (fun d => vec_works_6 n d.1 d.2.1) fun d => by kernel_rfl
noncomputable def vec_two_1__vec_works_6 (n : Nat) (x1 : Int) (x2 : Int) (x3 : Int) (x4 : Int) (x5 : Int) (x6 : Int) (x7 : Int) (x8 : Int) (x9 : Int) (x10 : Int) (x11 : Int) : Option (Int × Unit) :=
 (vec_works_6 n x8 x9).bind (fun r12 => (vec_Mask n x2).bind (fun r13 => some (bits .and .i64 r12.1 r13.1, ())))
def vec_two_1__vec_works_6_s : Sig := ⟨[.c true [.int .i64, .int .i64, .int .i64, .int .i64, .int .i64, .int .i64, .int .i64], .c false [.int .i64], .c false [.int .i64], .c false [.int .i64], .c false [.int .i64], .c false [.con (.ptr 0 0)]], [(0, .var 90 [.con (.fn 75 [])])], .c false [.int .i64], [(0, .var 90 [.con (.fn 75 [])])]⟩
def vec_two_1__vec_works_6_a : Ann := .d
noncomputable def vec_two_1__vec_works_6_c (n : Nat) : Ctr Try.prog := .of Try.func87 n [vec_works_6_c n, vec_Mask_c n] vec_two_1__vec_works_6_a vec_two_1__vec_works_6_s (fun d => vec_two_1__vec_works_6 n d.1 d.2.1 d.2.2.1 d.2.2.2.1 d.2.2.2.2.1 d.2.2.2.2.2.1 d.2.2.2.2.2.2.1 d.2.2.2.2.2.2.2.1 d.2.2.2.2.2.2.2.2.1 d.2.2.2.2.2.2.2.2.2.1 d.2.2.2.2.2.2.2.2.2.2.1) fun d => by kernel_rfl
noncomputable def vec_works_7 (n : Nat) (x1 : Int) (x2 : Int) : Option (Int × Unit) :=
 some (bits .xor .i64 x1 x2, ())
def vec_works_7_s : Sig := ⟨[.c false [.int .i64], .c false [.int .i64]], [], .c false [.int .i64], []⟩
def vec_works_7_a : Ann := .d
noncomputable def vec_works_7_c (n : Nat) : Ctr Try.prog := .of Try.func76 n [] vec_works_7_a vec_works_7_s (fun d => vec_works_7 n d.1 d.2.1) fun d => by kernel_rfl
noncomputable def vec_two_1__vec_works_7 (n : Nat) (x1 : Int) (x2 : Int) (x3 : Int) (x4 : Int) (x5 : Int) (x6 : Int) (x7 : Int) (x8 : Int) (x9 : Int) (x10 : Int) (x11 : Int) : Option (Int × Unit) :=
 (vec_works_7 n x8 x9).bind (fun r12 => (vec_Mask n x2).bind (fun r13 => some (bits .and .i64 r12.1 r13.1, ())))
def vec_two_1__vec_works_7_s : Sig := ⟨[.c true [.int .i64, .int .i64, .int .i64, .int .i64, .int .i64, .int .i64, .int .i64], .c false [.int .i64], .c false [.int .i64], .c false [.int .i64], .c false [.int .i64], .c false [.con (.ptr 0 0)]], [(0, .var 90 [.con (.fn 76 [])])], .c false [.int .i64], [(0, .var 90 [.con (.fn 76 [])])]⟩
def vec_two_1__vec_works_7_a : Ann := .d
noncomputable def vec_two_1__vec_works_7_c (n : Nat) : Ctr Try.prog := .of Try.func87 n [vec_works_7_c n, vec_Mask_c n] vec_two_1__vec_works_7_a vec_two_1__vec_works_7_s (fun d => vec_two_1__vec_works_7 n d.1 d.2.1 d.2.2.1 d.2.2.2.1 d.2.2.2.2.1 d.2.2.2.2.2.1 d.2.2.2.2.2.2.1 d.2.2.2.2.2.2.2.1 d.2.2.2.2.2.2.2.2.1 d.2.2.2.2.2.2.2.2.2.1 d.2.2.2.2.2.2.2.2.2.2.1) fun d => by kernel_rfl
noncomputable def vec_works_8 (n : Nat) (x1 : Int) (x2 : Int) : Option (Int × Unit) :=
 some (IntKind.wrap .i64 (x1 + x2), ())
def vec_works_8_s : Sig := ⟨[.c false [.int .i64], .c false [.int .i64]], [], .c false [.int .i64], []⟩
def vec_works_8_a : Ann := .d
noncomputable def vec_works_8_c (n : Nat) : Ctr Try.prog := .of Try.func77 n [] vec_works_8_a vec_works_8_s (fun d => vec_works_8 n d.1 d.2.1) fun d => by kernel_rfl
noncomputable def vec_two_1__vec_works_8 (n : Nat) (x1 : Int) (x2 : Int) (x3 : Int) (x4 : Int) (x5 : Int) (x6 : Int) (x7 : Int) (x8 : Int) (x9 : Int) (x10 : Int) (x11 : Int) : Option (Int × Unit) :=
 (vec_works_8 n x8 x9).bind (fun r12 => (vec_Mask n x2).bind (fun r13 => some (bits .and .i64 r12.1 r13.1, ())))
def vec_two_1__vec_works_8_s : Sig := ⟨[.c true [.int .i64, .int .i64, .int .i64, .int .i64, .int .i64, .int .i64, .int .i64], .c false [.int .i64], .c false [.int .i64], .c false [.int .i64], .c false [.int .i64], .c false [.con (.ptr 0 0)]], [(0, .var 90 [.con (.fn 77 [])])], .c false [.int .i64], [(0, .var 90 [.con (.fn 77 [])])]⟩
def vec_two_1__vec_works_8_a : Ann := .d
noncomputable def vec_two_1__vec_works_8_c (n : Nat) : Ctr Try.prog := .of Try.func87 n [vec_works_8_c n, vec_Mask_c n] vec_two_1__vec_works_8_a vec_two_1__vec_works_8_s (fun d => vec_two_1__vec_works_8 n d.1 d.2.1 d.2.2.1 d.2.2.2.1 d.2.2.2.2.1 d.2.2.2.2.2.1 d.2.2.2.2.2.2.1 d.2.2.2.2.2.2.2.1 d.2.2.2.2.2.2.2.2.1 d.2.2.2.2.2.2.2.2.2.1 d.2.2.2.2.2.2.2.2.2.2.1) fun d => by kernel_rfl
noncomputable def vec_works_9 (n : Nat) (x1 : Int) (x2 : Int) : Option (Int × Unit) :=
 some (IntKind.wrap .i64 (x1 - x2), ())
def vec_works_9_s : Sig := ⟨[.c false [.int .i64], .c false [.int .i64]], [], .c false [.int .i64], []⟩
def vec_works_9_a : Ann := .d
noncomputable def vec_works_9_c (n : Nat) : Ctr Try.prog := .of Try.func78 n [] vec_works_9_a vec_works_9_s (fun d => vec_works_9 n d.1 d.2.1) fun d => by kernel_rfl
noncomputable def vec_two_1__vec_works_9 (n : Nat) (x1 : Int) (x2 : Int) (x3 : Int) (x4 : Int) (x5 : Int) (x6 : Int) (x7 : Int) (x8 : Int) (x9 : Int) (x10 : Int) (x11 : Int) : Option (Int × Unit) :=
 (vec_works_9 n x8 x9).bind (fun r12 => (vec_Mask n x2).bind (fun r13 => some (bits .and .i64 r12.1 r13.1, ())))
def vec_two_1__vec_works_9_s : Sig := ⟨[.c true [.int .i64, .int .i64, .int .i64, .int .i64, .int .i64, .int .i64, .int .i64], .c false [.int .i64], .c false [.int .i64], .c false [.int .i64], .c false [.int .i64], .c false [.con (.ptr 0 0)]], [(0, .var 90 [.con (.fn 78 [])])], .c false [.int .i64], [(0, .var 90 [.con (.fn 78 [])])]⟩
def vec_two_1__vec_works_9_a : Ann := .d
noncomputable def vec_two_1__vec_works_9_c (n : Nat) : Ctr Try.prog := .of Try.func87 n [vec_works_9_c n, vec_Mask_c n] vec_two_1__vec_works_9_a vec_two_1__vec_works_9_s (fun d => vec_two_1__vec_works_9 n d.1 d.2.1 d.2.2.1 d.2.2.2.1 d.2.2.2.2.1 d.2.2.2.2.2.1 d.2.2.2.2.2.2.1 d.2.2.2.2.2.2.2.1 d.2.2.2.2.2.2.2.2.1 d.2.2.2.2.2.2.2.2.2.1 d.2.2.2.2.2.2.2.2.2.2.1) fun d => by kernel_rfl
noncomputable def vec_works_10 (n : Nat) (x1 : Int) (x2 : Int) : Option (Int × Unit) :=
 some (IntKind.wrap .i64 (x1 * x2), ())
def vec_works_10_s : Sig := ⟨[.c false [.int .i64], .c false [.int .i64]], [], .c false [.int .i64], []⟩
def vec_works_10_a : Ann := .d
noncomputable def vec_works_10_c (n : Nat) : Ctr Try.prog := .of Try.func79 n [] vec_works_10_a vec_works_10_s (fun d => vec_works_10 n d.1 d.2.1) fun d => by kernel_rfl
noncomputable def vec_two_1__vec_works_10 (n : Nat) (x1 : Int) (x2 : Int) (x3 : Int) (x4 : Int) (x5 : Int) (x6 : Int) (x7 : Int) (x8 : Int) (x9 : Int) (x10 : Int) (x11 : Int) : Option (Int × Unit) :=
 (vec_works_10 n x8 x9).bind (fun r12 => (vec_Mask n x2).bind (fun r13 => some (bits .and .i64 r12.1 r13.1, ())))
def vec_two_1__vec_works_10_s : Sig := ⟨[.c true [.int .i64, .int .i64, .int .i64, .int .i64, .int .i64, .int .i64, .int .i64], .c false [.int .i64], .c false [.int .i64], .c false [.int .i64], .c false [.int .i64], .c false [.con (.ptr 0 0)]], [(0, .var 90 [.con (.fn 79 [])])], .c false [.int .i64], [(0, .var 90 [.con (.fn 79 [])])]⟩
def vec_two_1__vec_works_10_a : Ann := .d
noncomputable def vec_two_1__vec_works_10_c (n : Nat) : Ctr Try.prog := .of Try.func87 n [vec_works_10_c n, vec_Mask_c n] vec_two_1__vec_works_10_a vec_two_1__vec_works_10_s (fun d => vec_two_1__vec_works_10 n d.1 d.2.1 d.2.2.1 d.2.2.2.1 d.2.2.2.2.1 d.2.2.2.2.2.1 d.2.2.2.2.2.2.1 d.2.2.2.2.2.2.2.1 d.2.2.2.2.2.2.2.2.1 d.2.2.2.2.2.2.2.2.2.1 d.2.2.2.2.2.2.2.2.2.2.1) fun d => by kernel_rfl
noncomputable def vec_works_11 (n : Nat) (x1 : Int) (x2 : Int) : Option (Bool × Unit) :=
 some (decide (x1 = x2), ())
def vec_works_11_s : Sig := ⟨[.c false [.int .i64], .c false [.int .i64]], [], .c false [.bool], []⟩
def vec_works_11_a : Ann := .d
noncomputable def vec_works_11_c (n : Nat) : Ctr Try.prog := .of Try.func80 n [] vec_works_11_a vec_works_11_s (fun d => vec_works_11 n d.1 d.2.1) fun d => by kernel_rfl
noncomputable def vec_asked_1__vec_works_11 (n : Nat) (x1 : Int) (x2 : Int) (x3 : Int) (x4 : Int) (x5 : Int) (x6 : Int) (x7 : Int) (x8 : Int) (x9 : Int) (x10 : Int) (x11 : Int) : Option (Int × Unit) :=
 (vec_works_11 n x8 x9).bind (fun r12 => (vec_flag n r12.1).bind (fun r13 => some (r13.1, ())))
def vec_asked_1__vec_works_11_s : Sig := ⟨[.c true [.int .i64, .int .i64, .int .i64, .int .i64, .int .i64, .int .i64, .int .i64], .c false [.int .i64], .c false [.int .i64], .c false [.int .i64], .c false [.int .i64], .c false [.con (.ptr 0 0)]], [(0, .var 92 [.con (.fn 80 [])])], .c false [.int .i64], [(0, .var 92 [.con (.fn 80 [])])]⟩
def vec_asked_1__vec_works_11_a : Ann := .d
noncomputable def vec_asked_1__vec_works_11_c (n : Nat) : Ctr Try.prog := .of Try.func88 n [vec_works_11_c n, vec_flag_c n] vec_asked_1__vec_works_11_a vec_asked_1__vec_works_11_s (fun d => vec_asked_1__vec_works_11 n d.1 d.2.1 d.2.2.1 d.2.2.2.1 d.2.2.2.2.1 d.2.2.2.2.2.1 d.2.2.2.2.2.2.1 d.2.2.2.2.2.2.2.1 d.2.2.2.2.2.2.2.2.1 d.2.2.2.2.2.2.2.2.2.1 d.2.2.2.2.2.2.2.2.2.2.1) fun d => by kernel_rfl
noncomputable def vec_works_12 (n : Nat) (x1 : Int) (x2 : Int) : Option (Bool × Unit) :=
 some (decide (x1 ≠ x2), ())
def vec_works_12_s : Sig := ⟨[.c false [.int .i64], .c false [.int .i64]], [], .c false [.bool], []⟩
def vec_works_12_a : Ann := .d
noncomputable def vec_works_12_c (n : Nat) : Ctr Try.prog := .of Try.func81 n [] vec_works_12_a vec_works_12_s (fun d => vec_works_12 n d.1 d.2.1) fun d => by kernel_rfl
noncomputable def vec_asked_1__vec_works_12 (n : Nat) (x1 : Int) (x2 : Int) (x3 : Int) (x4 : Int) (x5 : Int) (x6 : Int) (x7 : Int) (x8 : Int) (x9 : Int) (x10 : Int) (x11 : Int) : Option (Int × Unit) :=
 (vec_works_12 n x8 x9).bind (fun r12 => (vec_flag n r12.1).bind (fun r13 => some (r13.1, ())))
def vec_asked_1__vec_works_12_s : Sig := ⟨[.c true [.int .i64, .int .i64, .int .i64, .int .i64, .int .i64, .int .i64, .int .i64], .c false [.int .i64], .c false [.int .i64], .c false [.int .i64], .c false [.int .i64], .c false [.con (.ptr 0 0)]], [(0, .var 92 [.con (.fn 81 [])])], .c false [.int .i64], [(0, .var 92 [.con (.fn 81 [])])]⟩
def vec_asked_1__vec_works_12_a : Ann := .d
noncomputable def vec_asked_1__vec_works_12_c (n : Nat) : Ctr Try.prog := .of Try.func88 n [vec_works_12_c n, vec_flag_c n] vec_asked_1__vec_works_12_a vec_asked_1__vec_works_12_s (fun d => vec_asked_1__vec_works_12 n d.1 d.2.1 d.2.2.1 d.2.2.2.1 d.2.2.2.2.1 d.2.2.2.2.2.1 d.2.2.2.2.2.2.1 d.2.2.2.2.2.2.2.1 d.2.2.2.2.2.2.2.2.1 d.2.2.2.2.2.2.2.2.2.1 d.2.2.2.2.2.2.2.2.2.2.1) fun d => by kernel_rfl
noncomputable def vec_works_13 (n : Nat) (x1 : Int) (x2 : Int) : Option (Bool × Unit) :=
 some (decide (x1 < x2), ())
def vec_works_13_s : Sig := ⟨[.c false [.int .i64], .c false [.int .i64]], [], .c false [.bool], []⟩
def vec_works_13_a : Ann := .d
noncomputable def vec_works_13_c (n : Nat) : Ctr Try.prog := .of Try.func82 n [] vec_works_13_a vec_works_13_s (fun d => vec_works_13 n d.1 d.2.1) fun d => by kernel_rfl
noncomputable def vec_asked_1__vec_works_13 (n : Nat) (x1 : Int) (x2 : Int) (x3 : Int) (x4 : Int) (x5 : Int) (x6 : Int) (x7 : Int) (x8 : Int) (x9 : Int) (x10 : Int) (x11 : Int) : Option (Int × Unit) :=
 (vec_works_13 n x8 x9).bind (fun r12 => (vec_flag n r12.1).bind (fun r13 => some (r13.1, ())))
def vec_asked_1__vec_works_13_s : Sig := ⟨[.c true [.int .i64, .int .i64, .int .i64, .int .i64, .int .i64, .int .i64, .int .i64], .c false [.int .i64], .c false [.int .i64], .c false [.int .i64], .c false [.int .i64], .c false [.con (.ptr 0 0)]], [(0, .var 92 [.con (.fn 82 [])])], .c false [.int .i64], [(0, .var 92 [.con (.fn 82 [])])]⟩
def vec_asked_1__vec_works_13_a : Ann := .d
noncomputable def vec_asked_1__vec_works_13_c (n : Nat) : Ctr Try.prog := .of Try.func88 n [vec_works_13_c n, vec_flag_c n] vec_asked_1__vec_works_13_a vec_asked_1__vec_works_13_s (fun d => vec_asked_1__vec_works_13 n d.1 d.2.1 d.2.2.1 d.2.2.2.1 d.2.2.2.2.1 d.2.2.2.2.2.1 d.2.2.2.2.2.2.1 d.2.2.2.2.2.2.2.1 d.2.2.2.2.2.2.2.2.1 d.2.2.2.2.2.2.2.2.2.1 d.2.2.2.2.2.2.2.2.2.2.1) fun d => by kernel_rfl
noncomputable def vec_works_14 (n : Nat) (x1 : Int) (x2 : Int) : Option (Bool × Unit) :=
 some (decide (x1 ≤ x2), ())
def vec_works_14_s : Sig := ⟨[.c false [.int .i64], .c false [.int .i64]], [], .c false [.bool], []⟩
def vec_works_14_a : Ann := .d
noncomputable def vec_works_14_c (n : Nat) : Ctr Try.prog := .of Try.func83 n [] vec_works_14_a vec_works_14_s (fun d => vec_works_14 n d.1 d.2.1) fun d => by kernel_rfl
noncomputable def vec_asked_1__vec_works_14 (n : Nat) (x1 : Int) (x2 : Int) (x3 : Int) (x4 : Int) (x5 : Int) (x6 : Int) (x7 : Int) (x8 : Int) (x9 : Int) (x10 : Int) (x11 : Int) : Option (Int × Unit) :=
 (vec_works_14 n x8 x9).bind (fun r12 => (vec_flag n r12.1).bind (fun r13 => some (r13.1, ())))
def vec_asked_1__vec_works_14_s : Sig := ⟨[.c true [.int .i64, .int .i64, .int .i64, .int .i64, .int .i64, .int .i64, .int .i64], .c false [.int .i64], .c false [.int .i64], .c false [.int .i64], .c false [.int .i64], .c false [.con (.ptr 0 0)]], [(0, .var 92 [.con (.fn 83 [])])], .c false [.int .i64], [(0, .var 92 [.con (.fn 83 [])])]⟩
def vec_asked_1__vec_works_14_a : Ann := .d
noncomputable def vec_asked_1__vec_works_14_c (n : Nat) : Ctr Try.prog := .of Try.func88 n [vec_works_14_c n, vec_flag_c n] vec_asked_1__vec_works_14_a vec_asked_1__vec_works_14_s (fun d => vec_asked_1__vec_works_14 n d.1 d.2.1 d.2.2.1 d.2.2.2.1 d.2.2.2.2.1 d.2.2.2.2.2.1 d.2.2.2.2.2.2.1 d.2.2.2.2.2.2.2.1 d.2.2.2.2.2.2.2.2.1 d.2.2.2.2.2.2.2.2.2.1 d.2.2.2.2.2.2.2.2.2.2.1) fun d => by kernel_rfl
noncomputable def vec_works_15 (n : Nat) (x1 : Int) (x2 : Int) (x3 : Int) (x4 : Int) (x5 : Int) (x6 : Int) (x7 : Int) (x8 : Int) (x9 : Int) (x10 : Int) (x11 : Int) : Option (Int × Unit) :=
 cond (decide (x8 = 1))
 (some (x9, ()))
 (some (x10, ()))
def vec_works_15_s : Sig := ⟨[.c true [.int .i64, .int .i64, .int .i64, .int .i64, .int .i64, .int .i64, .int .i64], .c false [.int .i64], .c false [.int .i64], .c false [.int .i64], .c false [.int .i64]], [], .c false [.int .i64], []⟩
def vec_works_15_a : Ann := .d
noncomputable def vec_works_15_c (n : Nat) : Ctr Try.prog := .of Try.func84 n [] vec_works_15_a vec_works_15_s (fun d => vec_works_15 n d.1 d.2.1 d.2.2.1 d.2.2.2.1 d.2.2.2.2.1 d.2.2.2.2.2.1 d.2.2.2.2.2.2.1 d.2.2.2.2.2.2.2.1 d.2.2.2.2.2.2.2.2.1 d.2.2.2.2.2.2.2.2.2.1 d.2.2.2.2.2.2.2.2.2.2.1) fun d => by kernel_rfl
noncomputable def vec_works_16 (n : Nat) (x1 : Int) (x2 : Int) (x3 : Int) (x4 : Int) (x5 : Int) (x6 : Int) (x7 : Int) (x8 : Int) (x9 : Int) (x10 : Int) (x11 : Int) : Option (Int × Unit) :=
 ask (0 ≤ x11) (some (bits .or .i64 (shlI .i64 x8 x11) x9, ()))
def vec_works_16_s : Sig := ⟨[.c true [.int .i64, .int .i64, .int .i64, .int .i64, .int .i64, .int .i64, .int .i64], .c false [.int .i64], .c false [.int .i64], .c false [.int .i64], .c false [.int .i64]], [], .c false [.int .i64], []⟩
def vec_works_16_a : Ann := .d
noncomputable def vec_works_16_c (n : Nat) : Ctr Try.prog := .of Try.func85 n [] vec_works_16_a vec_works_16_s (fun d => vec_works_16 n d.1 d.2.1 d.2.2.1 d.2.2.2.1 d.2.2.2.2.1 d.2.2.2.2.2.1 d.2.2.2.2.2.2.1 d.2.2.2.2.2.2.2.1 d.2.2.2.2.2.2.2.2.1 d.2.2.2.2.2.2.2.2.2.1 d.2.2.2.2.2.2.2.2.2.2.1) fun d => by kernel_rfl
noncomputable def vec_works_17 (n : Nat) (x1 : Int) (x2 : Int) (x3 : Int) (x4 : Int) (x5 : Int) (x6 : Int) (x7 : Int) (x8 : Int) (x9 : Int) (x10 : Int) (x11 : Int) : Option (Int × Unit) :=
 ask (0 ≤ x7) ((vec_Mask n (IntKind.wrap .i64 ((IntKind.wrap .i64 (x6 - x7)) + 1))).bind (fun r12 => some (bits .and .i64 (shrI .i64 x8 x7) r12.1, ())))
def vec_works_17_s : Sig := ⟨[.c true [.int .i64, .int .i64, .int .i64, .int .i64, .int .i64, .int .i64, .int .i64], .c false [.int .i64], .c false [.int .i64], .c false [.int .i64], .c false [.int .i64]], [], .c false [.int .i64], []⟩
def vec_works_17_a : Ann := .d
noncomputable def vec_works_17_c (n : Nat) : Ctr Try.prog := .of Try.func86 n [vec_Mask_c n] vec_works_17_a vec_works_17_s (fun d => vec_works_17 n d.1 d.2.1 d.2.2.1 d.2.2.2.1 d.2.2.2.2.1 d.2.2.2.2.2.1 d.2.2.2.2.2.2.1 d.2.2.2.2.2.2.2.1 d.2.2.2.2.2.2.2.2.1 d.2.2.2.2.2.2.2.2.2.1 d.2.2.2.2.2.2.2.2.2.2.1) fun d => by kernel_rfl
noncomputable def vec_Do (n : Nat) (x1 : Int) (x2 : Int) (x3 : Int) (x4 : Int) (x5 : Int) (x6 : Int) (x7 : Int) (x8 : Int) (x9 : Int) (x10 : Int) (x11 : Int) : Option (Int × Unit) :=
 (vec_works n).bind (fun r12 => cond (decide (x1 = 1))
 ((vec_works_1 n x1 x2 x3 x4 x5 x6 x7 x8 x9 x10 x11).bind (fun r13 => some (r13.1, ())))
 (cond (decide (x1 = 3))
 ((vec_two_1__vec_works_2 n x1 x2 x3 x4 x5 x6 x7 x8 x9 x10 x11).bind (fun r14 => some (r14.1, ())))
 (cond (decide (x1 = 4))
 ((vec_asked_1__vec_works_3 n x1 x2 x3 x4 x5 x6 x7 x8 x9 x10 x11).bind (fun r15 => some (r15.1, ())))
 (cond (decide (x1 = 5))
 ((vec_works_4 n x1 x2 x3 x4 x5 x6 x7 x8 x9 x10 x11).bind (fun r16 => some (r16.1, ())))
 (cond (decide (x1 = 6))
 ((vec_two_1__vec_works_5 n x1 x2 x3 x4 x5 x6 x7 x8 x9 x10 x11).bind (fun r17 => some (r17.1, ())))
 (cond (decide (x1 = 7))
 ((vec_two_1__vec_works_6 n x1 x2 x3 x4 x5 x6 x7 x8 x9 x10 x11).bind (fun r18 => some (r18.1, ())))
 (cond (decide (x1 = 8))
 ((vec_two_1__vec_works_7 n x1 x2 x3 x4 x5 x6 x7 x8 x9 x10 x11).bind (fun r19 => some (r19.1, ())))
 (cond (decide (x1 = 9))
 ((vec_two_1__vec_works_8 n x1 x2 x3 x4 x5 x6 x7 x8 x9 x10 x11).bind (fun r20 => some (r20.1, ())))
 (cond (decide (x1 = 10))
 ((vec_two_1__vec_works_9 n x1 x2 x3 x4 x5 x6 x7 x8 x9 x10 x11).bind (fun r21 => some (r21.1, ())))
 (cond (decide (x1 = 11))
 ((vec_two_1__vec_works_10 n x1 x2 x3 x4 x5 x6 x7 x8 x9 x10 x11).bind (fun r22 => some (r22.1, ())))
 (cond (decide (x1 = 12))
 ((vec_asked_1__vec_works_11 n x1 x2 x3 x4 x5 x6 x7 x8 x9 x10 x11).bind (fun r23 => some (r23.1, ())))
 (cond (decide (x1 = 13))
 ((vec_asked_1__vec_works_12 n x1 x2 x3 x4 x5 x6 x7 x8 x9 x10 x11).bind (fun r24 => some (r24.1, ())))
 (cond (decide (x1 = 14))
 ((vec_asked_1__vec_works_13 n x1 x2 x3 x4 x5 x6 x7 x8 x9 x10 x11).bind (fun r25 => some (r25.1, ())))
 (cond (decide (x1 = 15))
 ((vec_asked_1__vec_works_14 n x1 x2 x3 x4 x5 x6 x7 x8 x9 x10 x11).bind (fun r26 => some (r26.1, ())))
 (cond (decide (x1 = 16))
 ((vec_works_15 n x1 x2 x3 x4 x5 x6 x7 x8 x9 x10 x11).bind (fun r27 => some (r27.1, ())))
 (cond (decide (x1 = 17))
 ((vec_works_16 n x1 x2 x3 x4 x5 x6 x7 x8 x9 x10 x11).bind (fun r28 => some (r28.1, ())))
 (cond (decide (x1 = 18))
 ((vec_works_17 n x1 x2 x3 x4 x5 x6 x7 x8 x9 x10 x11).bind (fun r29 => some (r29.1, ())))
 (some (0, ())))))))))))))))))))
def vec_Do_s : Sig := ⟨[.c true [.int .i64, .int .i64, .int .i64, .int .i64, .int .i64, .int .i64, .int .i64], .c false [.int .i64], .c false [.int .i64], .c false [.int .i64], .c false [.int .i64]], [], .c false [.int .i64], []⟩
def vec_Do_a : Ann := .d
noncomputable def vec_Do_c (n : Nat) : Ctr Try.prog := .of Try.func44 n [vec_works_c n, vec_works_1_c n, vec_two_1__vec_works_2_c n, vec_asked_1__vec_works_3_c n, vec_works_4_c n, vec_two_1__vec_works_5_c n, vec_two_1__vec_works_6_c n, vec_two_1__vec_works_7_c n, vec_two_1__vec_works_8_c n, vec_two_1__vec_works_9_c n, vec_two_1__vec_works_10_c n, vec_asked_1__vec_works_11_c n, vec_asked_1__vec_works_12_c n, vec_asked_1__vec_works_13_c n, vec_asked_1__vec_works_14_c n, vec_works_15_c n, vec_works_16_c n, vec_works_17_c n] vec_Do_a vec_Do_s (fun d => vec_Do n d.1 d.2.1 d.2.2.1 d.2.2.2.1 d.2.2.2.2.1 d.2.2.2.2.2.1 d.2.2.2.2.2.2.1 d.2.2.2.2.2.2.2.1 d.2.2.2.2.2.2.2.2.1 d.2.2.2.2.2.2.2.2.2.1 d.2.2.2.2.2.2.2.2.2.2.1) fun d => by kernel_rfl
noncomputable def net_Eval_l1b (n : Nat) (x2 : List Ksi) (x7 : List Int) (self : Int × List Int × Unit → Option ((List Int × Unit))) (d10 : Int × List Int × Unit) : Option ((List Int × Unit)) :=
 cond (decide (d10.1 < (x2.length : Int)))
 (ask (0 ≤ d10.1 ∧ d10.1 < (x2.length : Int)) (ask (0 ≤ d10.1 ∧ d10.1 < (x7.length : Int)) (ask (0 ≤ ((Ksi_at x2 d10.1).2) ∧ (Ksi_at x2 d10.1).2 < (d10.2.1.length : Int)) (self (IntKind.wrap .i64 (d10.1 + 1), d10.2.1.set ((Ksi_at x2 d10.1).2).toNat (Ki_at x7 d10.1), ())))))
 (some (d10.2.1, ()))
noncomputable def net_Eval_l1 (n : Nat) (x2 : List Ksi) (x7 : List Int) : Int × List Int × Unit → Option ((List Int × Unit)) := iter (net_Eval_l1b n x2 x7) n
noncomputable def net_Eval_l2b (n : Nat) (x3 : List Ksiii) (x6 : List Int) (self : Int × List Int × Unit → Option ((List Int × Unit))) (d14 : Int × List Int × Unit) : Option ((List Int × Unit)) :=
 cond (decide (d14.1 < (x3.length : Int)))
 (ask (0 ≤ d14.1 ∧ d14.1 < (x3.length : Int)) (ask (0 ≤ d14.1 ∧ d14.1 < (x6.length : Int)) (ask (0 ≤ (((Ksiii_at x3 d14.1).2).1) ∧ ((Ksiii_at x3 d14.1).2).1 < (d14.2.1.length : Int)) (self (IntKind.wrap .i64 (d14.1 + 1), d14.2.1.set (((Ksiii_at x3 d14.1).2).1).toNat (Ki_at x6 d14.1), ())))))
 (some (d14.2.1, ()))
noncomputable def net_Eval_l2 (n : Nat) (x3 : List Ksiii) (x6 : List Int) : Int × List Int × Unit → Option ((List Int × Unit)) := iter (net_Eval_l2b n x3 x6) n
noncomputable def net_Eval_l3b (n : Nat) (x1 : List Kiiiiiii) (self : Int × List Int × Unit → Option ((List Int × Unit))) (d18 : Int × List Int × Unit) : Option ((List Int × Unit)) :=
 cond (decide (d18.1 < (x1.length : Int)))
 (ask (0 ≤ d18.1 ∧ d18.1 < (x1.length : Int)) (((cond (decide (((Kiiiiiii_at x1 d18.1).1) ≠ 21))
 (some (decide (((Kiiiiiii_at x1 d18.1).1) ≠ 22), ()))
 (some (false, ()))) : Option ((Bool × Unit))).bind (fun d19 => cond d19.1
 (ask (0 ≤ ((((Kiiiiiii_at x1 d18.1).2).2).1) ∧ (((Kiiiiiii_at x1 d18.1).2).2).1 < (d18.2.1.length : Int)) (ask (0 ≤ (((((Kiiiiiii_at x1 d18.1).2).2).2).1) ∧ ((((Kiiiiiii_at x1 d18.1).2).2).2).1 < (d18.2.1.length : Int)) (ask (0 ≤ ((((((Kiiiiiii_at x1 d18.1).2).2).2).2).1) ∧ (((((Kiiiiiii_at x1 d18.1).2).2).2).2).1 < (d18.2.1.length : Int)) (ask (0 ≤ (((((Kiiiiiii_at x1 d18.1).2).2).2).1) ∧ ((((Kiiiiiii_at x1 d18.1).2).2).2).1 < (x1.length : Int)) ((vec_Do n ((Kiiiiiii_at x1 d18.1).1) (((Kiiiiiii_at x1 d18.1).2).1) ((((Kiiiiiii_at x1 d18.1).2).2).1) (((((Kiiiiiii_at x1 d18.1).2).2).2).1) ((((((Kiiiiiii_at x1 d18.1).2).2).2).2).1) (((((((Kiiiiiii_at x1 d18.1).2).2).2).2).2).1) (((((((Kiiiiiii_at x1 d18.1).2).2).2).2).2).2) (Ki_at d18.2.1 ((((Kiiiiiii_at x1 d18.1).2).2).1)) (Ki_at d18.2.1 (((((Kiiiiiii_at x1 d18.1).2).2).2).1)) (Ki_at d18.2.1 ((((((Kiiiiiii_at x1 d18.1).2).2).2).2).1)) (((Kiiiiiii_at x1 (((((Kiiiiiii_at x1 d18.1).2).2).2).1)).2).1)).bind (fun r20 => ask (0 ≤ d18.1 ∧ d18.1 < (d18.2.1.length : Int)) (self (IntKind.wrap .i64 (d18.1 + 1), d18.2.1.set d18.1.toNat r20.1, ()))))))))
 (self (IntKind.wrap .i64 (d18.1 + 1), d18.2.1, ())))))
 (some (d18.2.1, ()))
noncomputable def net_Eval_l3 (n : Nat) (x1 : List Kiiiiiii) : Int × List Int × Unit → Option ((List Int × Unit)) := iter (net_Eval_l3b n x1) n
noncomputable def net_Eval (n : Nat) (x1 : List Kiiiiiii) (x2 : List Ksi) (x3 : List Ksiii) (x4 : List Kisi) (x5 : List Ksi) (x6 : List Int) (x7 : List Int) : Option (List Int × Unit) :=
 ask ((0 ≤ (x1.length : Int) ∧ (x1.length : Int) ≤ (x1.length : Int)) ∧ (8 : Int) * (x1.length : Int) ≤ 281474976710656 ∧ (x1.length : Int) ≤ 281474976710656) ((net_Eval_l1 n x2 x7 (0, List.replicate (x1.length : Int).toNat 0, ())).bind (fun d11 => (net_Eval_l2 n x3 x6 (0, d11.1, ())).bind (fun d15 => (net_Eval_l3 n x1 (0, d15.1, ())).bind (fun d21 => some (d21.1, ())))))
def net_Eval_s : Sig := ⟨[.c true [.row Kiiiiiii_, .row Ksi_, .row Ksiii_, .row Kisi_, .row Ksi_], .c false [.row i_], .c false [.row i_]], [], .c false [.row i_], []⟩
def net_Eval_a : Ann := .s .d (.s .d (.s (.s .d (.b (.l [7, 8, 9, 17, 21, 22, 23, 24, 25, 26, 27, 28, 29, 30, 31, 32, 33, 34] [293] ⟨[(7, .c false [.con (.own 293 1)]), (21, .c false [.int .i64])], [(293, .row 3 i_)]⟩ [(.exit 0, ⟨[(7, .c false [.con (.own 293 1)])], [(293, .row 3 i_)]⟩)] .d))) (.s (.s .d (.b (.l [7, 10, 11, 38, 39, 40, 41, 42, 43, 44, 45, 46, 47, 48, 49, 50, 51] [293] ⟨[(7, .c false [.con (.own 293 1)]), (38, .c false [.int .i64])], [(293, .row 3 i_)]⟩ [(.exit 2, ⟨[(7, .c false [.con (.own 293 1)])], [(293, .row 3 i_)]⟩)] .d))) (.s (.s .d (.b (.l [7, 12, 13, 55, 56, 57, 58, 59, 60, 61, 62, 63, 64, 65, 66, 67, 68, 69, 70, 71, 72, 73, 74, 75, 76, 77, 78, 79, 80, 81, 82, 83, 84, 85, 86, 87, 88, 89, 90, 91, 92, 93, 94, 95] [293] ⟨[(7, .c false [.con (.own 293 1)]), (55, .c false [.int .i64])], [(293, .row 3 i_)]⟩ [(.exit 4, ⟨[(7, .c false [.con (.own 293 1)])], [(293, .row 3 i_)]⟩)] (.s .d (.s .d (.s (.b (.s .d (.j [60, 61, 62, 63, 64, 65, 66, 67] [] [(.normal, ⟨[(67, .c false [.bool])], []⟩)] .d .d))) .d)))))) .d))))
noncomputable def net_Eval_c (n : Nat) : Ctr Try.prog := .of Try.func20 n [vec_Do_c n] net_Eval_a net_Eval_s (fun d => net_Eval n d.1 d.2.1 d.2.2.1 d.2.2.2.1 d.2.2.2.2.1 d.2.2.2.2.2.1 d.2.2.2.2.2.2.1) fun d => by kernel_rfl
noncomputable def net_Eval_o_l1b (n : Nat) (x2 : List Ksi) (x7 : List Int) (self : Int × List Int × Unit → Option ((List Int × Unit))) (d10 : Int × List Int × Unit) : Option ((List Int × Unit)) :=
 cond (decide (d10.1 < (x2.length : Int)))
 (ask (0 ≤ d10.1 ∧ d10.1 < (x2.length : Int)) (ask (0 ≤ d10.1 ∧ d10.1 < (x7.length : Int)) (ask (0 ≤ ((Ksi_at x2 d10.1).2) ∧ (Ksi_at x2 d10.1).2 < (d10.2.1.length : Int)) (self (IntKind.wrap .i64 (d10.1 + 1), d10.2.1.set ((Ksi_at x2 d10.1).2).toNat (Ki_at x7 d10.1), ())))))
 (some (d10.2.1, ()))
noncomputable def net_Eval_o_l1 (n : Nat) (x2 : List Ksi) (x7 : List Int) : Int × List Int × Unit → Option ((List Int × Unit)) := iter (net_Eval_o_l1b n x2 x7) n
noncomputable def net_Eval_o_l2b (n : Nat) (x3 : List Ksiii) (x6 : List Int) (self : Int × List Int × Unit → Option ((List Int × Unit))) (d14 : Int × List Int × Unit) : Option ((List Int × Unit)) :=
 cond (decide (d14.1 < (x3.length : Int)))
 (ask (0 ≤ d14.1 ∧ d14.1 < (x3.length : Int)) (ask (0 ≤ d14.1 ∧ d14.1 < (x6.length : Int)) (ask (0 ≤ (((Ksiii_at x3 d14.1).2).1) ∧ ((Ksiii_at x3 d14.1).2).1 < (d14.2.1.length : Int)) (self (IntKind.wrap .i64 (d14.1 + 1), d14.2.1.set (((Ksiii_at x3 d14.1).2).1).toNat (Ki_at x6 d14.1), ())))))
 (some (d14.2.1, ()))
noncomputable def net_Eval_o_l2 (n : Nat) (x3 : List Ksiii) (x6 : List Int) : Int × List Int × Unit → Option ((List Int × Unit)) := iter (net_Eval_o_l2b n x3 x6) n
noncomputable def net_Eval_o_l3b (n : Nat) (x1 : List Kiiiiiii) (self : Int × List Int × Unit → Option ((List Int × Unit))) (d18 : Int × List Int × Unit) : Option ((List Int × Unit)) :=
 cond (decide (d18.1 < (x1.length : Int)))
 (ask (0 ≤ d18.1 ∧ d18.1 < (x1.length : Int)) (((cond (decide (((Kiiiiiii_at x1 d18.1).1) ≠ 21))
 (some (decide (((Kiiiiiii_at x1 d18.1).1) ≠ 22), ()))
 (some (false, ()))) : Option ((Bool × Unit))).bind (fun d19 => cond d19.1
 (ask (0 ≤ ((((Kiiiiiii_at x1 d18.1).2).2).1) ∧ (((Kiiiiiii_at x1 d18.1).2).2).1 < (d18.2.1.length : Int)) (ask (0 ≤ (((((Kiiiiiii_at x1 d18.1).2).2).2).1) ∧ ((((Kiiiiiii_at x1 d18.1).2).2).2).1 < (d18.2.1.length : Int)) (ask (0 ≤ ((((((Kiiiiiii_at x1 d18.1).2).2).2).2).1) ∧ (((((Kiiiiiii_at x1 d18.1).2).2).2).2).1 < (d18.2.1.length : Int)) (ask (0 ≤ (((((Kiiiiiii_at x1 d18.1).2).2).2).1) ∧ ((((Kiiiiiii_at x1 d18.1).2).2).2).1 < (x1.length : Int)) ((vec_Do n ((Kiiiiiii_at x1 d18.1).1) (((Kiiiiiii_at x1 d18.1).2).1) ((((Kiiiiiii_at x1 d18.1).2).2).1) (((((Kiiiiiii_at x1 d18.1).2).2).2).1) ((((((Kiiiiiii_at x1 d18.1).2).2).2).2).1) (((((((Kiiiiiii_at x1 d18.1).2).2).2).2).2).1) (((((((Kiiiiiii_at x1 d18.1).2).2).2).2).2).2) (Ki_at d18.2.1 ((((Kiiiiiii_at x1 d18.1).2).2).1)) (Ki_at d18.2.1 (((((Kiiiiiii_at x1 d18.1).2).2).2).1)) (Ki_at d18.2.1 ((((((Kiiiiiii_at x1 d18.1).2).2).2).2).1)) (((Kiiiiiii_at x1 (((((Kiiiiiii_at x1 d18.1).2).2).2).1)).2).1)).bind (fun r20 => ask (0 ≤ d18.1 ∧ d18.1 < (d18.2.1.length : Int)) (self (IntKind.wrap .i64 (d18.1 + 1), d18.2.1.set d18.1.toNat r20.1, ()))))))))
 (self (IntKind.wrap .i64 (d18.1 + 1), d18.2.1, ())))))
 (some (d18.2.1, ()))
noncomputable def net_Eval_o_l3 (n : Nat) (x1 : List Kiiiiiii) : Int × List Int × Unit → Option ((List Int × Unit)) := iter (net_Eval_o_l3b n x1) n
noncomputable def net_Eval_o (n : Nat) (x1 : List Kiiiiiii) (x2 : List Ksi) (x3 : List Ksiii) (x4 : List Kisi) (x5 : List Ksi) (x6 : List Int) (x7 : List Int) : Option (List Int × Unit) :=
 ask ((0 ≤ (x1.length : Int) ∧ (x1.length : Int) ≤ (x1.length : Int)) ∧ (8 : Int) * (x1.length : Int) ≤ 281474976710656 ∧ (x1.length : Int) ≤ 281474976710656) ((net_Eval_o_l1 n x2 x7 (0, List.replicate (x1.length : Int).toNat 0, ())).bind (fun d11 => (net_Eval_o_l2 n x3 x6 (0, d11.1, ())).bind (fun d15 => (net_Eval_o_l3 n x1 (0, d15.1, ())).bind (fun d21 => some (d21.1, ())))))
def net_Eval_o_s : Sig := ⟨[.c true [.row Kiiiiiii_, .row Ksi_, .row Ksiii_, .row Kisi_, .row Ksi_], .c false [.row i_], .c false [.row i_]], [], .c false [.con (.own 293 1)], [(293, .row 3 i_)]⟩
def net_Eval_o_a : Ann := .s .d (.s .d (.s (.s .d (.b (.l [7, 8, 9, 17, 21, 22, 23, 24, 25, 26, 27, 28, 29, 30, 31, 32, 33, 34] [293] ⟨[(7, .c false [.con (.own 293 1)]), (21, .c false [.int .i64])], [(293, .row 3 i_)]⟩ [(.exit 0, ⟨[(7, .c false [.con (.own 293 1)])], [(293, .row 3 i_)]⟩)] .d))) (.s (.s .d (.b (.l [7, 10, 11, 38, 39, 40, 41, 42, 43, 44, 45, 46, 47, 48, 49, 50, 51] [293] ⟨[(7, .c false [.con (.own 293 1)]), (38, .c false [.int .i64])], [(293, .row 3 i_)]⟩ [(.exit 2, ⟨[(7, .c false [.con (.own 293 1)])], [(293, .row 3 i_)]⟩)] .d))) (.s (.s .d (.b (.l [7, 12, 13, 55, 56, 57, 58, 59, 60, 61, 62, 63, 64, 65, 66, 67, 68, 69, 70, 71, 72, 73, 74, 75, 76, 77, 78, 79, 80, 81, 82, 83, 84, 85, 86, 87, 88, 89, 90, 91, 92, 93, 94, 95] [293] ⟨[(7, .c false [.con (.own 293 1)]), (55, .c false [.int .i64])], [(293, .row 3 i_)]⟩ [(.exit 4, ⟨[(7, .c false [.con (.own 293 1)])], [(293, .row 3 i_)]⟩)] (.s .d (.s .d (.s (.b (.s .d (.j [60, 61, 62, 63, 64, 65, 66, 67] [] [(.normal, ⟨[(67, .c false [.bool])], []⟩)] .d .d))) .d)))))) .d))))
noncomputable def net_Eval_o_c (n : Nat) : Ctr Try.prog := .of Try.func20 n [vec_Do_c n] net_Eval_o_a net_Eval_o_s (fun d => net_Eval_o n d.1 d.2.1 d.2.2.1 d.2.2.2.1 d.2.2.2.2.1 d.2.2.2.2.2.1 d.2.2.2.2.2.2.1) fun d => by kernel_rfl
noncomputable def net_rules (n : Nat) : Option (Int × Int × Int × Int × Int × Int × Int × Int × Int × Int × Int × Int × Int × Int × Int × Int × Int × Int × Int × Unit) :=
 some (0, 0, 0, 1, 1, 1, 1, 2, 2, 2, 2, 2, 2, 2, 2, 2, 2, 2, 3, ())
def net_rules_s : Sig := ⟨[], [], .c false [.con (.map 293)], [(293, .tab [(.i64, 1), (.i64, 21), (.i64, 22), (.i64, 3), (.i64, 4), (.i64, 5), (.i64, 18), (.i64, 6), (.i64, 7), (.i64, 8), (.i64, 9), (.i64, 10), (.i64, 11), (.i64, 12), (.i64, 13), (.i64, 14), (.i64, 15), (.i64, 17), (.i64, 16)] [(true, [.int .i64, .con (.fn 59 [])]), (true, [.int .i64, .con (.fn 60 [])]), (true, [.int .i64, .con (.fn 60 [])]), (true, [.int .i64, .con (.fn 61 [])]), (true, [.int .i64, .con (.fn 62 [])]), (true, [.int .i64, .con (.fn 62 [])]), (true, [.int .i64, .con (.fn 63 [])]), (true, [.int .i64, .con (.fn 57 [])]), (true, [.int .i64, .con (.fn 57 [])]), (true, [.int .i64, .con (.fn 57 [])]), (true, [.int .i64, .con (.fn 57 [])]), (true, [.int .i64, .con (.fn 57 [])]), (true, [.int .i64, .con (.fn 57 [])]), (true, [.int .i64, .con (.fn 58 [])]), (true, [.int .i64, .con (.fn 58 [])]), (true, [.int .i64, .con (.fn 58 [])]), (true, [.int .i64, .con (.fn 58 [])]), (true, [.int .i64, .con (.fn 64 [])]), (true, [.int .i64, .con (.fn 65 [])])])]⟩
def net_rules_a : Ann := .d
noncomputable def net_rules_c (n : Nat) : Ctr Try.prog := .of Try.func46 n [] net_rules_a net_rules_s (fun d => net_rules n) fun d => by kernel_rfl
noncomputable def net_nodes_1 (n : Nat) (x1 : Int) : Option (Bool × Unit) :=
 some (decide (x1 ≠ 0), ())
def net_nodes_1_s : Sig := ⟨[.c false [.int .i64]], [], .c false [.bool], []⟩
def net_nodes_1_a : Ann := .d
noncomputable def net_nodes_1_c (n : Nat) : Ctr Try.prog := .of Try.func48 n [] net_nodes_1_a net_nodes_1_s (fun d => net_nodes_1 n d.1) fun d => by kernel_rfl
noncomputable def slices_IndexFunc_int_int__net_nodes_1_l1b (n : Nat) (x1 : List Int) (self : Int × Unit → Option ((Int × Unit) ⊕ (Unit))) (d3 : Int × Unit) : Option ((Int × Unit) ⊕ (Unit)) :=
 cond (decide (d3.1 < (x1.length : Int)))
 (ask (0 ≤ d3.1 ∧ d3.1 < (x1.length : Int)) ((net_nodes_1 n (Ki_at x1 d3.1)).bind (fun r4 => cond r4.1
 (some (.inl (d3.1, ())))
 (self (IntKind.wrap .i64 (d3.1 + 1), ())))))
 (some (.inr ()))
noncomputable def slices_IndexFunc_int_int__net_nodes_1_l1 (n : Nat) (x1 : List Int) : Int × Unit → Option ((Int × Unit) ⊕ (Unit)) := iter (slices_IndexFunc_int_int__net_nodes_1_l1b n x1) n
noncomputable def slices_IndexFunc_int_int__net_nodes_1 (n : Nat) (x1 : List Int) : Option (Int × Unit) :=
 (slices_IndexFunc_int_int__net_nodes_1_l1 n x1 (0, ())).bind (Sum.elim (fun d5 => some (d5.1, ())) (fun d6 => some ((-1), ())))
def slices_IndexFunc_int_int__net_nodes_1_s : Sig := ⟨[.c false [.row i_], .c false [.con (.fn 48 [])]], [], .c false [.int .i64], []⟩
def slices_IndexFunc_int_int__net_nodes_1_a : Ann := .s .d (.s (.s .d (.b (.l [4, 5, 8, 9, 10, 11, 12, 13, 14, 15, 16, 17, 18] [] ⟨[(8, .c false [.int .i64])], []⟩ [(.ret, ⟨[(4, .c false [.int .i64])], []⟩), (.exit 0, ⟨[], []⟩)] .d))) .d)
noncomputable def slices_IndexFunc_int_int__net_nodes_1_c (n : Nat) : Ctr Try.prog := .of Try.func66 n [net_nodes_1_c n] slices_IndexFunc_int_int__net_nodes_1_a slices_IndexFunc_int_int__net_nodes_1_s (fun d => slices_IndexFunc_int_int__net_nodes_1 n d.1) fun d => by kernel_rfl
noncomputable def slices_ContainsFunc_int_int__net_nodes_1 (n : Nat) (x1 : List Int) : Option (Bool × Unit) :=
 (slices_IndexFunc_int_int__net_nodes_1 n x1).bind (fun r2 => some (decide ((0 : Int) ≤ r2.1), ()))
def slices_ContainsFunc_int_int__net_nodes_1_s : Sig := ⟨[.c false [.row i_], .c false [.con (.fn 48 [])]], [], .c false [.bool], []⟩
def slices_ContainsFunc_int_int__net_nodes_1_a : Ann := .d
noncomputable def slices_ContainsFunc_int_int__net_nodes_1_c (n : Nat) : Ctr Try.prog := .of Try.func47 n [slices_IndexFunc_int_int__net_nodes_1_c n] slices_ContainsFunc_int_int__net_nodes_1_a slices_ContainsFunc_int_int__net_nodes_1_s (fun d => slices_ContainsFunc_int_int__net_nodes_1 n d.1) fun d => by kernel_rfl
noncomputable def net_width (n : Nat) (x1 : List Kiiiiiii) (x2 : List Ksi) (x3 : List Ksiii) (x4 : List Kisi) (x5 : List Ksi) (x6 : Int) (x7 : Int) : Option (Int × Unit) :=
 cond (decide (x6 < 0))
 (some (0, ()))
 (cond (decide (x7 ≤ x6))
 (some (0, ()))
 (ask (0 ≤ x6 ∧ x6 < (x1.length : Int)) (some (((Kiiiiiii_at x1 x6).2).1, ()))))
def net_width_s : Sig := ⟨[.c true [.row Kiiiiiii_, .row Ksi_, .row Ksiii_, .row Kisi_, .row Ksi_], .c false [.int .i64], .c false [.int .i64]], [], .c false [.int .i64], []⟩
def net_width_a : Ann := .d
noncomputable def net_width_c (n : Nat) : Ctr Try.prog := .of Try.func34 n [] net_width_a net_width_s (fun d => net_width n d.1 d.2.1 d.2.2.1 d.2.2.2.1 d.2.2.2.2.1 d.2.2.2.2.2.1 d.2.2.2.2.2.2.1) fun d => by kernel_rfl
noncomputable def net_seen_lit (n : Nat) (x1 : Int) (x2 : Int) (x3 : Int) (x4 : Int) (x5 : Int) (x6 : Int) (x7 : Int) (x8 : Int) (x9 : Int) (x10 : Int) : Option (Bool × Unit) :=
 cond (decide ((0 : Int) ≤ x6))
 ((vec_Mask n x2).bind (fun r11 => cond (decide (x6 ≤ r11.1))
 (some (decide (x7 = 0), ()))
 (some (false, ()))))
 (some (false, ()))
def net_seen_lit_s : Sig := ⟨[.c true [.int .i64, .int .i64, .int .i64, .int .i64, .int .i64, .int .i64, .int .i64, .int .i64, .int .i64, .int .i64]], [], .c false [.bool], []⟩
def net_seen_lit_a : Ann := .d
noncomputable def net_seen_lit_c (n : Nat) : Ctr Try.prog := .of Try.func59 n [vec_Mask_c n] net_seen_lit_a net_seen_lit_s (fun d => net_seen_lit n d.1 d.2.1 d.2.2.1 d.2.2.2.1 d.2.2.2.2.1 d.2.2.2.2.2.1 d.2.2.2.2.2.2.1 d.2.2.2.2.2.2.2.1 d.2.2.2.2.2.2.2.2.1 d.2.2.2.2.2.2.2.2.2.1) fun d => by kernel_rfl
noncomputable def net_seen_bare (n : Nat) (x1 : Int) (x2 : Int) (x3 : Int) (x4 : Int) (x5 : Int) (x6 : Int) (x7 : Int) (x8 : Int) (x9 : Int) (x10 : Int) : Option (Bool × Unit) :=
 cond (decide (x6 = 0))
 (some (decide (x7 = 0), ()))
 (some (false, ()))
def net_seen_bare_s : Sig := ⟨[.c true [.int .i64, .int .i64, .int .i64, .int .i64, .int .i64, .int .i64, .int .i64, .int .i64, .int .i64, .int .i64]], [], .c false [.bool], []⟩
def net_seen_bare_a : Ann := .d
noncomputable def net_seen_bare_c (n : Nat) : Ctr Try.prog := .of Try.func60 n [] net_seen_bare_a net_seen_bare_s (fun d => net_seen_bare n d.1 d.2.1 d.2.2.1 d.2.2.2.1 d.2.2.2.2.1 d.2.2.2.2.2.1 d.2.2.2.2.2.2.1 d.2.2.2.2.2.2.2.1 d.2.2.2.2.2.2.2.2.1 d.2.2.2.2.2.2.2.2.2.1) fun d => by kernel_rfl
noncomputable def net_seen_one (n : Nat) (x1 : Int) (x2 : Int) (x3 : Int) (x4 : Int) (x5 : Int) (x6 : Int) (x7 : Int) (x8 : Int) (x9 : Int) (x10 : Int) : Option (Bool × Unit) :=
 (net_seen_bare n x1 x2 x3 x4 x5 x6 x7 x8 x9 x10).bind (fun r11 => cond r11.1
 (some (decide (x8 = x2), ()))
 (some (false, ())))
def net_seen_one_s : Sig := ⟨[.c true [.int .i64, .int .i64, .int .i64, .int .i64, .int .i64, .int .i64, .int .i64, .int .i64, .int .i64, .int .i64]], [], .c false [.bool], []⟩
def net_seen_one_a : Ann := .d
noncomputable def net_seen_one_c (n : Nat) : Ctr Try.prog := .of Try.func61 n [net_seen_bare_c n] net_seen_one_a net_seen_one_s (fun d => net_seen_one n d.1 d.2.1 d.2.2.1 d.2.2.2.1 d.2.2.2.2.1 d.2.2.2.2.2.1 d.2.2.2.2.2.2.1 d.2.2.2.2.2.2.2.1 d.2.2.2.2.2.2.2.2.1 d.2.2.2.2.2.2.2.2.2.1) fun d => by kernel_rfl
noncomputable def net_seen_red (n : Nat) (x1 : Int) (x2 : Int) (x3 : Int) (x4 : Int) (x5 : Int) (x6 : Int) (x7 : Int) (x8 : Int) (x9 : Int) (x10 : Int) : Option (Bool × Unit) :=
 cond (decide (x6 = 0))
 (cond (decide (x2 = 1))
 (cond (decide ((0 : Int) < x8))
 (some (decide (x8 = x7), ()))
 (some (false, ())))
 (some (false, ())))
 (some (false, ()))
def net_seen_red_s : Sig := ⟨[.c true [.int .i64, .int .i64, .int .i64, .int .i64, .int .i64, .int .i64, .int .i64, .int .i64, .int .i64, .int .i64]], [], .c false [.bool], []⟩
def net_seen_red_a : Ann := .d
noncomputable def net_seen_red_c (n : Nat) : Ctr Try.prog := .of Try.func62 n [] net_seen_red_a net_seen_red_s (fun d => net_seen_red n d.1 d.2.1 d.2.2.1 d.2.2.2.1 d.2.2.2.2.1 d.2.2.2.2.2.1 d.2.2.2.2.2.2.1 d.2.2.2.2.2.2.2.1 d.2.2.2.2.2.2.2.2.1 d.2.2.2.2.2.2.2.2.2.1) fun d => by kernel_rfl
noncomputable def net_seen_slice (n : Nat) (x1 : Int) (x2 : Int) (x3 : Int) (x4 : Int) (x5 : Int) (x6 : Int) (x7 : Int) (x8 : Int) (x9 : Int) (x10 : Int) : Option (Bool × Unit) :=
 cond (decide ((0 : Int) ≤ x7))
 (cond (decide (x7 ≤ x6))
 (cond (decide (x6 < x8))
 (some (decide (x2 = (IntKind.wrap .i64 ((IntKind.wrap .i64 (x6 - x7)) + 1))), ()))
 (some (false, ())))
 (some (false, ())))
 (some (false, ()))
def net_seen_slice_s : Sig := ⟨[.c true [.int .i64, .int .i64, .int .i64, .int .i64, .int .i64, .int .i64, .int .i64, .int .i64, .int .i64, .int .i64]], [], .c false [.bool], []⟩
def net_seen_slice_a : Ann := .d
noncomputable def net_seen_slice_c (n : Nat) : Ctr Try.prog := .of Try.func63 n [] net_seen_slice_a net_seen_slice_s (fun d => net_seen_slice n d.1 d.2.1 d.2.2.1 d.2.2.2.1 d.2.2.2.2.1 d.2.2.2.2.2.1 d.2.2.2.2.2.2.1 d.2.2.2.2.2.2.2.1 d.2.2.2.2.2.2.2.2.1 d.2.2.2.2.2.2.2.2.2.1) fun d => by kernel_rfl
noncomputable def net_seen_two (n : Nat) (x1 : Int) (x2 : Int) (x3 : Int) (x4 : Int) (x5 : Int) (x6 : Int) (x7 : Int) (x8 : Int) (x9 : Int) (x10 : Int) : Option (Bool × Unit) :=
 (net_seen_one n x1 x2 x3 x4 x5 x6 x7 x8 x9 x10).bind (fun r11 => cond r11.1
 (some (decide (x9 = x2), ()))
 (some (false, ())))
def net_seen_two_s : Sig := ⟨[.c true [.int .i64, .int .i64, .int .i64, .int .i64, .int .i64, .int .i64, .int .i64, .int .i64, .int .i64, .int .i64]], [], .c false [.bool], []⟩
def net_seen_two_a : Ann := .d
noncomputable def net_seen_two_c (n : Nat) : Ctr Try.prog := .of Try.func57 n [net_seen_one_c n] net_seen_two_a net_seen_two_s (fun d => net_seen_two n d.1 d.2.1 d.2.2.1 d.2.2.2.1 d.2.2.2.2.1 d.2.2.2.2.2.1 d.2.2.2.2.2.2.1 d.2.2.2.2.2.2.2.1 d.2.2.2.2.2.2.2.2.1 d.2.2.2.2.2.2.2.2.2.1) fun d => by kernel_rfl
noncomputable def net_seen_asked (n : Nat) (x1 : Int) (x2 : Int) (x3 : Int) (x4 : Int) (x5 : Int) (x6 : Int) (x7 : Int) (x8 : Int) (x9 : Int) (x10 : Int) : Option (Bool × Unit) :=
 (net_seen_red n x1 x2 x3 x4 x5 x6 x7 x8 x9 x10).bind (fun r11 => cond r11.1
 (some (decide (x9 = x7), ()))
 (some (false, ())))
def net_seen_asked_s : Sig := ⟨[.c true [.int .i64, .int .i64, .int .i64, .int .i64, .int .i64, .int .i64, .int .i64, .int .i64, .int .i64, .int .i64]], [], .c false [.bool], []⟩
def net_seen_asked_a : Ann := .d
noncomputable def net_seen_asked_c (n : Nat) : Ctr Try.prog := .of Try.func58 n [net_seen_red_c n] net_seen_asked_a net_seen_asked_s (fun d => net_seen_asked n d.1 d.2.1 d.2.2.1 d.2.2.2.1 d.2.2.2.2.1 d.2.2.2.2.2.1 d.2.2.2.2.2.2.1 d.2.2.2.2.2.2.2.1 d.2.2.2.2.2.2.2.2.1 d.2.2.2.2.2.2.2.2.2.1) fun d => by kernel_rfl
noncomputable def net_seen_cat (n : Nat) (x1 : Int) (x2 : Int) (x3 : Int) (x4 : Int) (x5 : Int) (x6 : Int) (x7 : Int) (x8 : Int) (x9 : Int) (x10 : Int) : Option (Bool × Unit) :=
 (net_seen_bare n x1 x2 x3 x4 x5 x6 x7 x8 x9 x10).bind (fun r11 => cond r11.1
 (cond (decide ((0 : Int) < x8))
 (cond (decide ((0 : Int) < x9))
 (some (decide ((IntKind.wrap .i64 (x8 + x9)) = x2), ()))
 (some (false, ())))
 (some (false, ())))
 (some (false, ())))
def net_seen_cat_s : Sig := ⟨[.c true [.int .i64, .int .i64, .int .i64, .int .i64, .int .i64, .int .i64, .int .i64, .int .i64, .int .i64, .int .i64]], [], .c false [.bool], []⟩
def net_seen_cat_a : Ann := .d
noncomputable def net_seen_cat_c (n : Nat) : Ctr Try.prog := .of Try.func64 n [net_seen_bare_c n] net_seen_cat_a net_seen_cat_s (fun d => net_seen_cat n d.1 d.2.1 d.2.2.1 d.2.2.2.1 d.2.2.2.2.1 d.2.2.2.2.2.1 d.2.2.2.2.2.2.1 d.2.2.2.2.2.2.2.1 d.2.2.2.2.2.2.2.2.1 d.2.2.2.2.2.2.2.2.2.1) fun d => by kernel_rfl
noncomputable def net_seen_mux (n : Nat) (x1 : Int) (x2 : Int) (x3 : Int) (x4 : Int) (x5 : Int) (x6 : Int) (x7 : Int) (x8 : Int) (x9 : Int) (x10 : Int) : Option (Bool × Unit) :=
 (net_seen_bare n x1 x2 x3 x4 x5 x6 x7 x8 x9 x10).bind (fun r11 => cond r11.1
 (cond (decide (x8 = 1))
 (cond (decide (x9 = x2))
 (some (decide (x10 = x2), ()))
 (some (false, ())))
 (some (false, ())))
 (some (false, ())))
def net_seen_mux_s : Sig := ⟨[.c true [.int .i64, .int .i64, .int .i64, .int .i64, .int .i64, .int .i64, .int .i64, .int .i64, .int .i64, .int .i64]], [], .c false [.bool], []⟩
def net_seen_mux_a : Ann := .d
noncomputable def net_seen_mux_c (n : Nat) : Ctr Try.prog := .of Try.func65 n [net_seen_bare_c n] net_seen_mux_a net_seen_mux_s (fun d => net_seen_mux n d.1 d.2.1 d.2.2.1 d.2.2.2.1 d.2.2.2.2.1 d.2.2.2.2.2.1 d.2.2.2.2.2.2.1 d.2.2.2.2.2.2.2.1 d.2.2.2.2.2.2.2.2.1 d.2.2.2.2.2.2.2.2.2.1) fun d => by kernel_rfl
noncomputable def net_nodes_l1b (n : Nat) (r6 : Int × Int × Int × Int × Int × Int × Int × Int × Int × Int × Int × Int × Int × Int × Int × Int × Int × Int × Int × Unit) (x1 : List Kiiiiiii) (x2 : List Ksi) (x3 : List Ksiii) (x4 : List Kisi) (x5 : List Ksi) (self : Int × Unit → Option ((Bool × Unit) ⊕ (Unit))) (d8 : Int × Unit) : Option ((Bool × Unit) ⊕ (Unit)) :=
 cond (decide (d8.1 < (x1.length : Int)))
 (ask (0 ≤ d8.1 ∧ d8.1 < (x1.length : Int)) (cond (decide (((Kiiiiiii_at x1 d8.1).1) = 1))
 (cond (decide ((((Kiiiiiii_at x1 d8.1).2).1) < 1))
 (some (.inl (false, ())))
 (cond (decide ((16 : Int) < (((Kiiiiiii_at x1 d8.1).2).1)))
 (some (.inl (false, ())))
 (ask (0 ≤ r6.1 ∧ r6.1 ≤ ((([(((Kiiiiiii_at x1 d8.1).2).2).1, ((((Kiiiiiii_at x1 d8.1).2).2).2).1, (((((Kiiiiiii_at x1 d8.1).2).2).2).2).1] : List Int)).length : Int)) ((slices_ContainsFunc_int_int__net_nodes_1 n ((([(((Kiiiiiii_at x1 d8.1).2).2).1, ((((Kiiiiiii_at x1 d8.1).2).2).2).1, (((((Kiiiiiii_at x1 d8.1).2).2).2).2).1] : List Int).drop r6.1.toNat).take ((([(((Kiiiiiii_at x1 d8.1).2).2).1, ((((Kiiiiiii_at x1 d8.1).2).2).2).1, (((((Kiiiiiii_at x1 d8.1).2).2).2).2).1] : List Int)).length - r6.1.toNat))).bind (fun r9 => cond r9.1
 (some (.inl (false, ())))
 ((net_width n x1 x2 x3 x4 x5 ((((Kiiiiiii_at x1 d8.1).2).2).1) d8.1).bind (fun r10 => (net_width n x1 x2 x3 x4 x5 (((((Kiiiiiii_at x1 d8.1).2).2).2).1) d8.1).bind (fun r11 => (net_width n x1 x2 x3 x4 x5 ((((((Kiiiiiii_at x1 d8.1).2).2).2).2).1) d8.1).bind (fun r12 => (net_seen_lit n ((Kiiiiiii_at x1 d8.1).1) (((Kiiiiiii_at x1 d8.1).2).1) ((((Kiiiiiii_at x1 d8.1).2).2).1) (((((Kiiiiiii_at x1 d8.1).2).2).2).1) ((((((Kiiiiiii_at x1 d8.1).2).2).2).2).1) (((((((Kiiiiiii_at x1 d8.1).2).2).2).2).2).1) (((((((Kiiiiiii_at x1 d8.1).2).2).2).2).2).2) r10.1 r11.1 r12.1).bind (fun r13 => cond (!r13.1)
 (some (.inl (false, ())))
 (self (IntKind.wrap .i64 (d8.1 + 1), ()))))))))))))
 (cond (decide (((Kiiiiiii_at x1 d8.1).1) = 21))
 (cond (decide ((((Kiiiiiii_at x1 d8.1).2).1) < 1))
 (some (.inl (false, ())))
 (cond (decide ((16 : Int) < (((Kiiiiiii_at x1 d8.1).2).1)))
 (some (.inl (false, ())))
 (ask (0 ≤ r6.2.1 ∧ r6.2.1 ≤ ((([(((Kiiiiiii_at x1 d8.1).2).2).1, ((((Kiiiiiii_at x1 d8.1).2).2).2).1, (((((Kiiiiiii_at x1 d8.1).2).2).2).2).1] : List Int)).length : Int)) ((slices_ContainsFunc_int_int__net_nodes_1 n ((([(((Kiiiiiii_at x1 d8.1).2).2).1, ((((Kiiiiiii_at x1 d8.1).2).2).2).1, (((((Kiiiiiii_at x1 d8.1).2).2).2).2).1] : List Int).drop r6.2.1.toNat).take ((([(((Kiiiiiii_at x1 d8.1).2).2).1, ((((Kiiiiiii_at x1 d8.1).2).2).2).1, (((((Kiiiiiii_at x1 d8.1).2).2).2).2).1] : List Int)).length - r6.2.1.toNat))).bind (fun r14 => cond r14.1
 (some (.inl (false, ())))
 ((net_width n x1 x2 x3 x4 x5 ((((Kiiiiiii_at x1 d8.1).2).2).1) d8.1).bind (fun r15 => (net_width n x1 x2 x3 x4 x5 (((((Kiiiiiii_at x1 d8.1).2).2).2).1) d8.1).bind (fun r16 => (net_width n x1 x2 x3 x4 x5 ((((((Kiiiiiii_at x1 d8.1).2).2).2).2).1) d8.1).bind (fun r17 => (net_seen_bare n ((Kiiiiiii_at x1 d8.1).1) (((Kiiiiiii_at x1 d8.1).2).1) ((((Kiiiiiii_at x1 d8.1).2).2).1) (((((Kiiiiiii_at x1 d8.1).2).2).2).1) ((((((Kiiiiiii_at x1 d8.1).2).2).2).2).1) (((((((Kiiiiiii_at x1 d8.1).2).2).2).2).2).1) (((((((Kiiiiiii_at x1 d8.1).2).2).2).2).2).2) r15.1 r16.1 r17.1).bind (fun r18 => cond (!r18.1)
 (some (.inl (false, ())))
 (self (IntKind.wrap .i64 (d8.1 + 1), ()))))))))))))
 (cond (decide (((Kiiiiiii_at x1 d8.1).1) = 22))
 (cond (decide ((((Kiiiiiii_at x1 d8.1).2).1) < 1))
 (some (.inl (false, ())))
 (cond (decide ((16 : Int) < (((Kiiiiiii_at x1 d8.1).2).1)))
 (some (.inl (false, ())))
 (ask (0 ≤ r6.2.2.1 ∧ r6.2.2.1 ≤ ((([(((Kiiiiiii_at x1 d8.1).2).2).1, ((((Kiiiiiii_at x1 d8.1).2).2).2).1, (((((Kiiiiiii_at x1 d8.1).2).2).2).2).1] : List Int)).length : Int)) ((slices_ContainsFunc_int_int__net_nodes_1 n ((([(((Kiiiiiii_at x1 d8.1).2).2).1, ((((Kiiiiiii_at x1 d8.1).2).2).2).1, (((((Kiiiiiii_at x1 d8.1).2).2).2).2).1] : List Int).drop r6.2.2.1.toNat).take ((([(((Kiiiiiii_at x1 d8.1).2).2).1, ((((Kiiiiiii_at x1 d8.1).2).2).2).1, (((((Kiiiiiii_at x1 d8.1).2).2).2).2).1] : List Int)).length - r6.2.2.1.toNat))).bind (fun r19 => cond r19.1
 (some (.inl (false, ())))
 ((net_width n x1 x2 x3 x4 x5 ((((Kiiiiiii_at x1 d8.1).2).2).1) d8.1).bind (fun r20 => (net_width n x1 x2 x3 x4 x5 (((((Kiiiiiii_at x1 d8.1).2).2).2).1) d8.1).bind (fun r21 => (net_width n x1 x2 x3 x4 x5 ((((((Kiiiiiii_at x1 d8.1).2).2).2).2).1) d8.1).bind (fun r22 => (net_seen_bare n ((Kiiiiiii_at x1 d8.1).1) (((Kiiiiiii_at x1 d8.1).2).1) ((((Kiiiiiii_at x1 d8.1).2).2).1) (((((Kiiiiiii_at x1 d8.1).2).2).2).1) ((((((Kiiiiiii_at x1 d8.1).2).2).2).2).1) (((((((Kiiiiiii_at x1 d8.1).2).2).2).2).2).1) (((((((Kiiiiiii_at x1 d8.1).2).2).2).2).2).2) r20.1 r21.1 r22.1).bind (fun r23 => cond (!r23.1)
 (some (.inl (false, ())))
 (self (IntKind.wrap .i64 (d8.1 + 1), ()))))))))))))
 (cond (decide (((Kiiiiiii_at x1 d8.1).1) = 3))
 (cond (decide ((((Kiiiiiii_at x1 d8.1).2).1) < 1))
 (some (.inl (false, ())))
 (cond (decide ((16 : Int) < (((Kiiiiiii_at x1 d8.1).2).1)))
 (some (.inl (false, ())))
 (ask (0 ≤ r6.2.2.2.1 ∧ r6.2.2.2.1 ≤ ((([(((Kiiiiiii_at x1 d8.1).2).2).1, ((((Kiiiiiii_at x1 d8.1).2).2).2).1, (((((Kiiiiiii_at x1 d8.1).2).2).2).2).1] : List Int)).length : Int)) ((slices_ContainsFunc_int_int__net_nodes_1 n ((([(((Kiiiiiii_at x1 d8.1).2).2).1, ((((Kiiiiiii_at x1 d8.1).2).2).2).1, (((((Kiiiiiii_at x1 d8.1).2).2).2).2).1] : List Int).drop r6.2.2.2.1.toNat).take ((([(((Kiiiiiii_at x1 d8.1).2).2).1, ((((Kiiiiiii_at x1 d8.1).2).2).2).1, (((((Kiiiiiii_at x1 d8.1).2).2).2).2).1] : List Int)).length - r6.2.2.2.1.toNat))).bind (fun r24 => cond r24.1
 (some (.inl (false, ())))
 ((net_width n x1 x2 x3 x4 x5 ((((Kiiiiiii_at x1 d8.1).2).2).1) d8.1).bind (fun r25 => (net_width n x1 x2 x3 x4 x5 (((((Kiiiiiii_at x1 d8.1).2).2).2).1) d8.1).bind (fun r26 => (net_width n x1 x2 x3 x4 x5 ((((((Kiiiiiii_at x1 d8.1).2).2).2).2).1) d8.1).bind (fun r27 => (net_seen_one n ((Kiiiiiii_at x1 d8.1).1) (((Kiiiiiii_at x1 d8.1).2).1) ((((Kiiiiiii_at x1 d8.1).2).2).1) (((((Kiiiiiii_at x1 d8.1).2).2).2).1) ((((((Kiiiiiii_at x1 d8.1).2).2).2).2).1) (((((((Kiiiiiii_at x1 d8.1).2).2).2).2).2).1) (((((((Kiiiiiii_at x1 d8.1).2).2).2).2).2).2) r25.1 r26.1 r27.1).bind (fun r28 => cond (!r28.1)
 (some (.inl (false, ())))
 (self (IntKind.wrap .i64 (d8.1 + 1), ()))))))))))))
 (cond (decide (((Kiiiiiii_at x1 d8.1).1) = 4))
 (cond (decide ((((Kiiiiiii_at x1 d8.1).2).1) < 1))
 (some (.inl (false, ())))
 (cond (decide ((16 : Int) < (((Kiiiiiii_at x1 d8.1).2).1)))
 (some (.inl (false, ())))
 (ask (0 ≤ r6.2.2.2.2.1 ∧ r6.2.2.2.2.1 ≤ ((([(((Kiiiiiii_at x1 d8.1).2).2).1, ((((Kiiiiiii_at x1 d8.1).2).2).2).1, (((((Kiiiiiii_at x1 d8.1).2).2).2).2).1] : List Int)).length : Int)) ((slices_ContainsFunc_int_int__net_nodes_1 n ((([(((Kiiiiiii_at x1 d8.1).2).2).1, ((((Kiiiiiii_at x1 d8.1).2).2).2).1, (((((Kiiiiiii_at x1 d8.1).2).2).2).2).1] : List Int).drop r6.2.2.2.2.1.toNat).take ((([(((Kiiiiiii_at x1 d8.1).2).2).1, ((((Kiiiiiii_at x1 d8.1).2).2).2).1, (((((Kiiiiiii_at x1 d8.1).2).2).2).2).1] : List Int)).length - r6.2.2.2.2.1.toNat))).bind (fun r29 => cond r29.1
 (some (.inl (false, ())))
 ((net_width n x1 x2 x3 x4 x5 ((((Kiiiiiii_at x1 d8.1).2).2).1) d8.1).bind (fun r30 => (net_width n x1 x2 x3 x4 x5 (((((Kiiiiiii_at x1 d8.1).2).2).2).1) d8.1).bind (fun r31 => (net_width n x1 x2 x3 x4 x5 ((((((Kiiiiiii_at x1 d8.1).2).2).2).2).1) d8.1).bind (fun r32 => (net_seen_red n ((Kiiiiiii_at x1 d8.1).1) (((Kiiiiiii_at x1 d8.1).2).1) ((((Kiiiiiii_at x1 d8.1).2).2).1) (((((Kiiiiiii_at x1 d8.1).2).2).2).1) ((((((Kiiiiiii_at x1 d8.1).2).2).2).2).1) (((((((Kiiiiiii_at x1 d8.1).2).2).2).2).2).1) (((((((Kiiiiiii_at x1 d8.1).2).2).2).2).2).2) r30.1 r31.1 r32.1).bind (fun r33 => cond (!r33.1)
 (some (.inl (false, ())))
 (self (IntKind.wrap .i64 (d8.1 + 1), ()))))))))))))
 (cond (decide (((Kiiiiiii_at x1 d8.1).1) = 5))
 (cond (decide ((((Kiiiiiii_at x1 d8.1).2).1) < 1))
 (some (.inl (false, ())))
 (cond (decide ((16 : Int) < (((Kiiiiiii_at x1 d8.1).2).1)))
 (some (.inl (false, ())))
 (ask (0 ≤ r6.2.2.2.2.2.1 ∧ r6.2.2.2.2.2.1 ≤ ((([(((Kiiiiiii_at x1 d8.1).2).2).1, ((((Kiiiiiii_at x1 d8.1).2).2).2).1, (((((Kiiiiiii_at x1 d8.1).2).2).2).2).1] : List Int)).length : Int)) ((slices_ContainsFunc_int_int__net_nodes_1 n ((([(((Kiiiiiii_at x1 d8.1).2).2).1, ((((Kiiiiiii_at x1 d8.1).2).2).2).1, (((((Kiiiiiii_at x1 d8.1).2).2).2).2).1] : List Int).drop r6.2.2.2.2.2.1.toNat).take ((([(((Kiiiiiii_at x1 d8.1).2).2).1, ((((Kiiiiiii_at x1 d8.1).2).2).2).1, (((((Kiiiiiii_at x1 d8.1).2).2).2).2).1] : List Int)).length - r6.2.2.2.2.2.1.toNat))).bind (fun r34 => cond r34.1
 (some (.inl (false, ())))
 ((net_width n x1 x2 x3 x4 x5 ((((Kiiiiiii_at x1 d8.1).2).2).1) d8.1).bind (fun r35 => (net_width n x1 x2 x3 x4 x5 (((((Kiiiiiii_at x1 d8.1).2).2).2).1) d8.1).bind (fun r36 => (net_width n x1 x2 x3 x4 x5 ((((((Kiiiiiii_at x1 d8.1).2).2).2).2).1) d8.1).bind (fun r37 => (net_seen_red n ((Kiiiiiii_at x1 d8.1).1) (((Kiiiiiii_at x1 d8.1).2).1) ((((Kiiiiiii_at x1 d8.1).2).2).1) (((((Kiiiiiii_at x1 d8.1).2).2).2).1) ((((((Kiiiiiii_at x1 d8.1).2).2).2).2).1) (((((((Kiiiiiii_at x1 d8.1).2).2).2).2).2).1) (((((((Kiiiiiii_at x1 d8.1).2).2).2).2).2).2) r35.1 r36.1 r37.1).bind (fun r38 => cond (!r38.1)
 (some (.inl (false, ())))
 (self (IntKind.wrap .i64 (d8.1 + 1), ()))))))))))))
 (cond (decide (((Kiiiiiii_at x1 d8.1).1) = 18))
 (cond (decide ((((Kiiiiiii_at x1 d8.1).2).1) < 1))
 (some (.inl (false, ())))
 (cond (decide ((16 : Int) < (((Kiiiiiii_at x1 d8.1).2).1)))
 (some (.inl (false, ())))
 (ask (0 ≤ r6.2.2.2.2.2.2.1 ∧ r6.2.2.2.2.2.2.1 ≤ ((([(((Kiiiiiii_at x1 d8.1).2).2).1, ((((Kiiiiiii_at x1 d8.1).2).2).2).1, (((((Kiiiiiii_at x1 d8.1).2).2).2).2).1] : List Int)).length : Int)) ((slices_ContainsFunc_int_int__net_nodes_1 n ((([(((Kiiiiiii_at x1 d8.1).2).2).1, ((((Kiiiiiii_at x1 d8.1).2).2).2).1, (((((Kiiiiiii_at x1 d8.1).2).2).2).2).1] : List Int).drop r6.2.2.2.2.2.2.1.toNat).take ((([(((Kiiiiiii_at x1 d8.1).2).2).1, ((((Kiiiiiii_at x1 d8.1).2).2).2).1, (((((Kiiiiiii_at x1 d8.1).2).2).2).2).1] : List Int)).length - r6.2.2.2.2.2.2.1.toNat))).bind (fun r39 => cond r39.1
 (some (.inl (false, ())))
 ((net_width n x1 x2 x3 x4 x5 ((((Kiiiiiii_at x1 d8.1).2).2).1) d8.1).bind (fun r40 => (net_width n x1 x2 x3 x4 x5 (((((Kiiiiiii_at x1 d8.1).2).2).2).1) d8.1).bind (fun r41 => (net_width n x1 x2 x3 x4 x5 ((((((Kiiiiiii_at x1 d8.1).2).2).2).2).1) d8.1).bind (fun r42 => (net_seen_slice n ((Kiiiiiii_at x1 d8.1).1) (((Kiiiiiii_at x1 d8.1).2).1) ((((Kiiiiiii_at x1 d8.1).2).2).1) (((((Kiiiiiii_at x1 d8.1).2).2).2).1) ((((((Kiiiiiii_at x1 d8.1).2).2).2).2).1) (((((((Kiiiiiii_at x1 d8.1).2).2).2).2).2).1) (((((((Kiiiiiii_at x1 d8.1).2).2).2).2).2).2) r40.1 r41.1 r42.1).bind (fun r43 => cond (!r43.1)
 (some (.inl (false, ())))
 (self (IntKind.wrap .i64 (d8.1 + 1), ()))))))))))))
 (cond (decide (((Kiiiiiii_at x1 d8.1).1) = 6))
 (cond (decide ((((Kiiiiiii_at x1 d8.1).2).1) < 1))
 (some (.inl (false, ())))
 (cond (decide ((16 : Int) < (((Kiiiiiii_at x1 d8.1).2).1)))
 (some (.inl (false, ())))
 (ask (0 ≤ r6.2.2.2.2.2.2.2.1 ∧ r6.2.2.2.2.2.2.2.1 ≤ ((([(((Kiiiiiii_at x1 d8.1).2).2).1, ((((Kiiiiiii_at x1 d8.1).2).2).2).1, (((((Kiiiiiii_at x1 d8.1).2).2).2).2).1] : List Int)).length : Int)) ((slices_ContainsFunc_int_int__net_nodes_1 n ((([(((Kiiiiiii_at x1 d8.1).2).2).1, ((((Kiiiiiii_at x1 d8.1).2).2).2).1, (((((Kiiiiiii_at x1 d8.1).2).2).2).2).1] : List Int).drop r6.2.2.2.2.2.2.2.1.toNat).take ((([(((Kiiiiiii_at x1 d8.1).2).2).1, ((((Kiiiiiii_at x1 d8.1).2).2).2).1, (((((Kiiiiiii_at x1 d8.1).2).2).2).2).1] : List Int)).length - r6.2.2.2.2.2.2.2.1.toNat))).bind (fun r44 => cond r44.1
 (some (.inl (false, ())))
 ((net_width n x1 x2 x3 x4 x5 ((((Kiiiiiii_at x1 d8.1).2).2).1) d8.1).bind (fun r45 => (net_width n x1 x2 x3 x4 x5 (((((Kiiiiiii_at x1 d8.1).2).2).2).1) d8.1).bind (fun r46 => (net_width n x1 x2 x3 x4 x5 ((((((Kiiiiiii_at x1 d8.1).2).2).2).2).1) d8.1).bind (fun r47 => (net_seen_two n ((Kiiiiiii_at x1 d8.1).1) (((Kiiiiiii_at x1 d8.1).2).1) ((((Kiiiiiii_at x1 d8.1).2).2).1) (((((Kiiiiiii_at x1 d8.1).2).2).2).1) ((((((Kiiiiiii_at x1 d8.1).2).2).2).2).1) (((((((Kiiiiiii_at x1 d8.1).2).2).2).2).2).1) (((((((Kiiiiiii_at x1 d8.1).2).2).2).2).2).2) r45.1 r46.1 r47.1).bind (fun r48 => cond (!r48.1)
 (some (.inl (false, ())))
 (self (IntKind.wrap .i64 (d8.1 + 1), ()))))))))))))
 (cond (decide (((Kiiiiiii_at x1 d8.1).1) = 7))
 (cond (decide ((((Kiiiiiii_at x1 d8.1).2).1) < 1))
 (some (.inl (false, ())))
 (cond (decide ((16 : Int) < (((Kiiiiiii_at x1 d8.1).2).1)))
 (some (.inl (false, ())))
 (ask (0 ≤ r6.2.2.2.2.2.2.2.2.1 ∧ r6.2.2.2.2.2.2.2.2.1 ≤ ((([(((Kiiiiiii_at x1 d8.1).2).2).1, ((((Kiiiiiii_at x1 d8.1).2).2).2).1, (((((Kiiiiiii_at x1 d8.1).2).2).2).2).1] : List Int)).length : Int)) ((slices_ContainsFunc_int_int__net_nodes_1 n ((([(((Kiiiiiii_at x1 d8.1).2).2).1, ((((Kiiiiiii_at x1 d8.1).2).2).2).1, (((((Kiiiiiii_at x1 d8.1).2).2).2).2).1] : List Int).drop r6.2.2.2.2.2.2.2.2.1.toNat).take ((([(((Kiiiiiii_at x1 d8.1).2).2).1, ((((Kiiiiiii_at x1 d8.1).2).2).2).1, (((((Kiiiiiii_at x1 d8.1).2).2).2).2).1] : List Int)).length - r6.2.2.2.2.2.2.2.2.1.toNat))).bind (fun r49 => cond r49.1
 (some (.inl (false, ())))
 ((net_width n x1 x2 x3 x4 x5 ((((Kiiiiiii_at x1 d8.1).2).2).1) d8.1).bind (fun r50 => (net_width n x1 x2 x3 x4 x5 (((((Kiiiiiii_at x1 d8.1).2).2).2).1) d8.1).bind (fun r51 => (net_width n x1 x2 x3 x4 x5 ((((((Kiiiiiii_at x1 d8.1).2).2).2).2).1) d8.1).bind (fun r52 => (net_seen_two n ((Kiiiiiii_at x1 d8.1).1) (((Kiiiiiii_at x1 d8.1).2).1) ((((Kiiiiiii_at x1 d8.1).2).2).1) (((((Kiiiiiii_at x1 d8.1).2).2).2).1) ((((((Kiiiiiii_at x1 d8.1).2).2).2).2).1) (((((((Kiiiiiii_at x1 d8.1).2).2).2).2).2).1) (((((((Kiiiiiii_at x1 d8.1).2).2).2).2).2).2) r50.1 r51.1 r52.1).bind (fun r53 => cond (!r53.1)
 (some (.inl (false, ())))
 (self (IntKind.wrap .i64 (d8.1 + 1), ()))))))))))))
 (cond (decide (((Kiiiiiii_at x1 d8.1).1) = 8))
 (cond (decide ((((Kiiiiiii_at x1 d8.1).2).1) < 1))
 (some (.inl (false, ())))
 (cond (decide ((16 : Int) < (((Kiiiiiii_at x1 d8.1).2).1)))
 (some (.inl (false, ())))
 (ask (0 ≤ r6.2.2.2.2.2.2.2.2.2.1 ∧ r6.2.2.2.2.2.2.2.2.2.1 ≤ ((([(((Kiiiiiii_at x1 d8.1).2).2).1, ((((Kiiiiiii_at x1 d8.1).2).2).2).1, (((((Kiiiiiii_at x1 d8.1).2).2).2).2).1] : List Int)).length : Int)) ((slices_ContainsFunc_int_int__net_nodes_1 n ((([(((Kiiiiiii_at x1 d8.1).2).2).1, ((((Kiiiiiii_at x1 d8.1).2).2).2).1, (((((Kiiiiiii_at x1 d8.1).2).2).2).2).1] : List Int).drop r6.2.2.2.2.2.2.2.2.2.1.toNat).take ((([(((Kiiiiiii_at x1 d8.1).2).2).1, ((((Kiiiiiii_at x1 d8.1).2).2).2).1, (((((Kiiiiiii_at x1 d8.1).2).2).2).2).1] : List Int)).length - r6.2.2.2.2.2.2.2.2.2.1.toNat))).bind (fun r54 => cond r54.1
 (some (.inl (false, ())))
 ((net_width n x1 x2 x3 x4 x5 ((((Kiiiiiii_at x1 d8.1).2).2).1) d8.1).bind (fun r55 => (net_width n x1 x2 x3 x4 x5 (((((Kiiiiiii_at x1 d8.1).2).2).2).1) d8.1).bind (fun r56 => (net_width n x1 x2 x3 x4 x5 ((((((Kiiiiiii_at x1 d8.1).2).2).2).2).1) d8.1).bind (fun r57 => (net_seen_two n ((Kiiiiiii_at x1 d8.1).1) (((Kiiiiiii_at x1 d8.1).2).1) ((((Kiiiiiii_at x1 d8.1).2).2).1) (((((Kiiiiiii_at x1 d8.1).2).2).2).1) ((((((Kiiiiiii_at x1 d8.1).2).2).2).2).1) (((((((Kiiiiiii_at x1 d8.1).2).2).2).2).2).1) (((((((Kiiiiiii_at x1 d8.1).2).2).2).2).2).2) r55.1 r56.1 r57.1).bind (fun r58 => cond (!r58.1)
 (some (.inl (false, ())))
 (self (IntKind.wrap .i64 (d8.1 + 1), ()))))))))))))
 (cond (decide (((Kiiiiiii_at x1 d8.1).1) = 9))
 (cond (decide ((((Kiiiiiii_at x1 d8.1).2).1) < 1))
 (some (.inl (false, ())))
 (cond (decide ((16 : Int) < (((Kiiiiiii_at x1 d8.1).2).1)))
 (some (.inl (false, ())))
 (ask (0 ≤ r6.2.2.2.2.2.2.2.2.2.2.1 ∧ r6.2.2.2.2.2.2.2.2.2.2.1 ≤ ((([(((Kiiiiiii_at x1 d8.1).2).2).1, ((((Kiiiiiii_at x1 d8.1).2).2).2).1, (((((Kiiiiiii_at x1 d8.1).2).2).2).2).1] : List Int)).length : Int)) ((slices_ContainsFunc_int_int__net_nodes_1 n ((([(((Kiiiiiii_at x1 d8.1).2).2).1, ((((Kiiiiiii_at x1 d8.1).2).2).2).1, (((((Kiiiiiii_at x1 d8.1).2).2).2).2).1] : List Int).drop r6.2.2.2.2.2.2.2.2.2.2.1.toNat).take ((([(((Kiiiiiii_at x1 d8.1).2).2).1, ((((Kiiiiiii_at x1 d8.1).2).2).2).1, (((((Kiiiiiii_at x1 d8.1).2).2).2).2).1] : List Int)).length - r6.2.2.2.2.2.2.2.2.2.2.1.toNat))).bind (fun r59 => cond r59.1
 (some (.inl (false, ())))
 ((net_width n x1 x2 x3 x4 x5 ((((Kiiiiiii_at x1 d8.1).2).2).1) d8.1).bind (fun r60 => (net_width n x1 x2 x3 x4 x5 (((((Kiiiiiii_at x1 d8.1).2).2).2).1) d8.1).bind (fun r61 => (net_width n x1 x2 x3 x4 x5 ((((((Kiiiiiii_at x1 d8.1).2).2).2).2).1) d8.1).bind (fun r62 => (net_seen_two n ((Kiiiiiii_at x1 d8.1).1) (((Kiiiiiii_at x1 d8.1).2).1) ((((Kiiiiiii_at x1 d8.1).2).2).1) (((((Kiiiiiii_at x1 d8.1).2).2).2).1) ((((((Kiiiiiii_at x1 d8.1).2).2).2).2).1) (((((((Kiiiiiii_at x1 d8.1).2).2).2).2).2).1) (((((((Kiiiiiii_at x1 d8.1).2).2).2).2).2).2) r60.1 r61.1 r62.1).bind (fun r63 => cond (!r63.1)
 (some (.inl (false, ())))
 (self (IntKind.wrap .i64 (d8.1 + 1), ()))))))))))))
 (cond (decide (((Kiiiiiii_at x1 d8.1).1) = 10))
 (cond (decide ((((Kiiiiiii_at x1 d8.1).2).1) < 1))
 (some (.inl (false, ())))
 (cond (decide ((16 : Int) < (((Kiiiiiii_at x1 d8.1).2).1)))
 (some (.inl (false, ())))
 (ask (0 ≤ r6.2.2.2.2.2.2.2.2.2.2.2.1 ∧ r6.2.2.2.2.2.2.2.2.2.2.2.1 ≤ ((([(((Kiiiiiii_at x1 d8.1).2).2).1, ((((Kiiiiiii_at x1 d8.1).2).2).2).1, (((((Kiiiiiii_at x1 d8.1).2).2).2).2).1] : List Int)).length : Int)) ((slices_ContainsFunc_int_int__net_nodes_1 n ((([(((Kiiiiiii_at x1 d8.1).2).2).1, ((((Kiiiiiii_at x1 d8.1).2).2).2).1, (((((Kiiiiiii_at x1 d8.1).2).2).2).2).1] : List Int).drop r6.2.2.2.2.2.2.2.2.2.2.2.1.toNat).take ((([(((Kiiiiiii_at x1 d8.1).2).2).1, ((((Kiiiiiii_at x1 d8.1).2).2).2).1, (((((Kiiiiiii_at x1 d8.1).2).2).2).2).1] : List Int)).length - r6.2.2.2.2.2.2.2.2.2.2.2.1.toNat))).bind (fun r64 => cond r64.1
 (some (.inl (false, ())))
 ((net_width n x1 x2 x3 x4 x5 ((((Kiiiiiii_at x1 d8.1).2).2).1) d8.1).bind (fun r65 => (net_width n x1 x2 x3 x4 x5 (((((Kiiiiiii_at x1 d8.1).2).2).2).1) d8.1).bind (fun r66 => (net_width n x1 x2 x3 x4 x5 ((((((Kiiiiiii_at x1 d8.1).2).2).2).2).1) d8.1).bind (fun r67 => (net_seen_two n ((Kiiiiiii_at x1 d8.1).1) (((Kiiiiiii_at x1 d8.1).2).1) ((((Kiiiiiii_at x1 d8.1).2).2).1) (((((Kiiiiiii_at x1 d8.1).2).2).2).1) ((((((Kiiiiiii_at x1 d8.1).2).2).2).2).1) (((((((Kiiiiiii_at x1 d8.1).2).2).2).2).2).1) (((((((Kiiiiiii_at x1 d8.1).2).2).2).2).2).2) r65.1 r66.1 r67.1).bind (fun r68 => cond (!r68.1)
 (some (.inl (false, ())))
 (self (IntKind.wrap .i64 (d8.1 + 1), ()))))))))))))
 (cond (decide (((Kiiiiiii_at x1 d8.1).1) = 11))
 (cond (decide ((((Kiiiiiii_at x1 d8.1).2).1) < 1))
 (some (.inl (false, ())))
 (cond (decide ((16 : Int) < (((Kiiiiiii_at x1 d8.1).2).1)))
 (some (.inl (false, ())))
 (ask (0 ≤ r6.2.2.2.2.2.2.2.2.2.2.2.2.1 ∧ r6.2.2.2.2.2.2.2.2.2.2.2.2.1 ≤ ((([(((Kiiiiiii_at x1 d8.1).2).2).1, ((((Kiiiiiii_at x1 d8.1).2).2).2).1, (((((Kiiiiiii_at x1 d8.1).2).2).2).2).1] : List Int)).length : Int)) ((slices_ContainsFunc_int_int__net_nodes_1 n ((([(((Kiiiiiii_at x1 d8.1).2).2).1, ((((Kiiiiiii_at x1 d8.1).2).2).2).1, (((((Kiiiiiii_at x1 d8.1).2).2).2).2).1] : List Int).drop r6.2.2.2.2.2.2.2.2.2.2.2.2.1.toNat).take ((([(((Kiiiiiii_at x1 d8.1).2).2).1, ((((Kiiiiiii_at x1 d8.1).2).2).2).1, (((((Kiiiiiii_at x1 d8.1).2).2).2).2).1] : List Int)).length - r6.2.2.2.2.2.2.2.2.2.2.2.2.1.toNat))).bind (fun r69 => cond r69.1
 (some (.inl (false, ())))
 ((net_width n x1 x2 x3 x4 x5 ((((Kiiiiiii_at x1 d8.1).2).2).1) d8.1).bind (fun r70 => (net_width n x1 x2 x3 x4 x5 (((((Kiiiiiii_at x1 d8.1).2).2).2).1) d8.1).bind (fun r71 => (net_width n x1 x2 x3 x4 x5 ((((((Kiiiiiii_at x1 d8.1).2).2).2).2).1) d8.1).bind (fun r72 => (net_seen_two n ((Kiiiiiii_at x1 d8.1).1) (((Kiiiiiii_at x1 d8.1).2).1) ((((Kiiiiiii_at x1 d8.1).2).2).1) (((((Kiiiiiii_at x1 d8.1).2).2).2).1) ((((((Kiiiiiii_at x1 d8.1).2).2).2).2).1) (((((((Kiiiiiii_at x1 d8.1).2).2).2).2).2).1) (((((((Kiiiiiii_at x1 d8.1).2).2).2).2).2).2) r70.1 r71.1 r72.1).bind (fun r73 => cond (!r73.1)
 (some (.inl (false, ())))
 (self (IntKind.wrap .i64 (d8.1 + 1), ()))))))))))))
 (cond (decide (((Kiiiiiii_at x1 d8.1).1) = 12))
 (cond (decide ((((Kiiiiiii_at x1 d8.1).2).1) < 1))
 (some (.inl (false, ())))
 (cond (decide ((16 : Int) < (((Kiiiiiii_at x1 d8.1).2).1)))
 (some (.inl (false, ())))
 (ask (0 ≤ r6.2.2.2.2.2.2.2.2.2.2.2.2.2.1 ∧ r6.2.2.2.2.2.2.2.2.2.2.2.2.2.1 ≤ ((([(((Kiiiiiii_at x1 d8.1).2).2).1, ((((Kiiiiiii_at x1 d8.1).2).2).2).1, (((((Kiiiiiii_at x1 d8.1).2).2).2).2).1] : List Int)).length : Int)) ((slices_ContainsFunc_int_int__net_nodes_1 n ((([(((Kiiiiiii_at x1 d8.1).2).2).1, ((((Kiiiiiii_at x1 d8.1).2).2).2).1, (((((Kiiiiiii_at x1 d8.1).2).2).2).2).1] : List Int).drop r6.2.2.2.2.2.2.2.2.2.2.2.2.2.1.toNat).take ((([(((Kiiiiiii_at x1 d8.1).2).2).1, ((((Kiiiiiii_at x1 d8.1).2).2).2).1, (((((Kiiiiiii_at x1 d8.1).2).2).2).2).1] : List Int)).length - r6.2.2.2.2.2.2.2.2.2.2.2.2.2.1.toNat))).bind (fun r74 => cond r74.1
 (some (.inl (false, ())))
 ((net_width n x1 x2 x3 x4 x5 ((((Kiiiiiii_at x1 d8.1).2).2).1) d8.1).bind (fun r75 => (net_width n x1 x2 x3 x4 x5 (((((Kiiiiiii_at x1 d8.1).2).2).2).1) d8.1).bind (fun r76 => (net_width n x1 x2 x3 x4 x5 ((((((Kiiiiiii_at x1 d8.1).2).2).2).2).1) d8.1).bind (fun r77 => (net_seen_asked n ((Kiiiiiii_at x1 d8.1).1) (((Kiiiiiii_at x1 d8.1).2).1) ((((Kiiiiiii_at x1 d8.1).2).2).1) (((((Kiiiiiii_at x1 d8.1).2).2).2).1) ((((((Kiiiiiii_at x1 d8.1).2).2).2).2).1) (((((((Kiiiiiii_at x1 d8.1).2).2).2).2).2).1) (((((((Kiiiiiii_at x1 d8.1).2).2).2).2).2).2) r75.1 r76.1 r77.1).bind (fun r78 => cond (!r78.1)
 (some (.inl (false, ())))
 (self (IntKind.wrap .i64 (d8.1 + 1), ()))))))))))))
 (cond (decide (((Kiiiiiii_at x1 d8.1).1) = 13))
 (cond (decide ((((Kiiiiiii_at x1 d8.1).2).1) < 1))
 (some (.inl (false, ())))
 (cond (decide ((16 : Int) < (((Kiiiiiii_at x1 d8.1).2).1)))
 (some (.inl (false, ())))
 (ask (0 ≤ r6.2.2.2.2.2.2.2.2.2.2.2.2.2.2.1 ∧ r6.2.2.2.2.2.2.2.2.2.2.2.2.2.2.1 ≤ ((([(((Kiiiiiii_at x1 d8.1).2).2).1, ((((Kiiiiiii_at x1 d8.1).2).2).2).1, (((((Kiiiiiii_at x1 d8.1).2).2).2).2).1] : List Int)).length : Int)) ((slices_ContainsFunc_int_int__net_nodes_1 n ((([(((Kiiiiiii_at x1 d8.1).2).2).1, ((((Kiiiiiii_at x1 d8.1).2).2).2).1, (((((Kiiiiiii_at x1 d8.1).2).2).2).2).1] : List Int).drop r6.2.2.2.2.2.2.2.2.2.2.2.2.2.2.1.toNat).take ((([(((Kiiiiiii_at x1 d8.1).2).2).1, ((((Kiiiiiii_at x1 d8.1).2).2).2).1, (((((Kiiiiiii_at x1 d8.1).2).2).2).2).1] : List Int)).length - r6.2.2.2.2.2.2.2.2.2.2.2.2.2.2.1.toNat))).bind (fun r79 => cond r79.1
 (some (.inl (false, ())))
 ((net_width n x1 x2 x3 x4 x5 ((((Kiiiiiii_at x1 d8.1).2).2).1) d8.1).bind (fun r80 => (net_width n x1 x2 x3 x4 x5 (((((Kiiiiiii_at x1 d8.1).2).2).2).1) d8.1).bind (fun r81 => (net_width n x1 x2 x3 x4 x5 ((((((Kiiiiiii_at x1 d8.1).2).2).2).2).1) d8.1).bind (fun r82 => (net_seen_asked n ((Kiiiiiii_at x1 d8.1).1) (((Kiiiiiii_at x1 d8.1).2).1) ((((Kiiiiiii_at x1 d8.1).2).2).1) (((((Kiiiiiii_at x1 d8.1).2).2).2).1) ((((((Kiiiiiii_at x1 d8.1).2).2).2).2).1) (((((((Kiiiiiii_at x1 d8.1).2).2).2).2).2).1) (((((((Kiiiiiii_at x1 d8.1).2).2).2).2).2).2) r80.1 r81.1 r82.1).bind (fun r83 => cond (!r83.1)
 (some (.inl (false, ())))
 (self (IntKind.wrap .i64 (d8.1 + 1), ()))))))))))))
 (cond (decide (((Kiiiiiii_at x1 d8.1).1) = 14))
 (cond (decide ((((Kiiiiiii_at x1 d8.1).2).1) < 1))
 (some (.inl (false, ())))
 (cond (decide ((16 : Int) < (((Kiiiiiii_at x1 d8.1).2).1)))
 (some (.inl (false, ())))
 (ask (0 ≤ r6.2.2.2.2.2.2.2.2.2.2.2.2.2.2.2.1 ∧ r6.2.2.2.2.2.2.2.2.2.2.2.2.2.2.2.1 ≤ ((([(((Kiiiiiii_at x1 d8.1).2).2).1, ((((Kiiiiiii_at x1 d8.1).2).2).2).1, (((((Kiiiiiii_at x1 d8.1).2).2).2).2).1] : List Int)).length : Int)) ((slices_ContainsFunc_int_int__net_nodes_1 n ((([(((Kiiiiiii_at x1 d8.1).2).2).1, ((((Kiiiiiii_at x1 d8.1).2).2).2).1, (((((Kiiiiiii_at x1 d8.1).2).2).2).2).1] : List Int).drop r6.2.2.2.2.2.2.2.2.2.2.2.2.2.2.2.1.toNat).take ((([(((Kiiiiiii_at x1 d8.1).2).2).1, ((((Kiiiiiii_at x1 d8.1).2).2).2).1, (((((Kiiiiiii_at x1 d8.1).2).2).2).2).1] : List Int)).length - r6.2.2.2.2.2.2.2.2.2.2.2.2.2.2.2.1.toNat))).bind (fun r84 => cond r84.1
 (some (.inl (false, ())))
 ((net_width n x1 x2 x3 x4 x5 ((((Kiiiiiii_at x1 d8.1).2).2).1) d8.1).bind (fun r85 => (net_width n x1 x2 x3 x4 x5 (((((Kiiiiiii_at x1 d8.1).2).2).2).1) d8.1).bind (fun r86 => (net_width n x1 x2 x3 x4 x5 ((((((Kiiiiiii_at x1 d8.1).2).2).2).2).1) d8.1).bind (fun r87 => (net_seen_asked n ((Kiiiiiii_at x1 d8.1).1) (((Kiiiiiii_at x1 d8.1).2).1) ((((Kiiiiiii_at x1 d8.1).2).2).1) (((((Kiiiiiii_at x1 d8.1).2).2).2).1) ((((((Kiiiiiii_at x1 d8.1).2).2).2).2).1) (((((((Kiiiiiii_at x1 d8.1).2).2).2).2).2).1) (((((((Kiiiiiii_at x1 d8.1).2).2).2).2).2).2) r85.1 r86.1 r87.1).bind (fun r88 => cond (!r88.1)
 (some (.inl (false, ())))
 (self (IntKind.wrap .i64 (d8.1 + 1), ()))))))))))))
 (cond (decide (((Kiiiiiii_at x1 d8.1).1) = 15))
 (cond (decide ((((Kiiiiiii_at x1 d8.1).2).1) < 1))
 (some (.inl (false, ())))
 (cond (decide ((16 : Int) < (((Kiiiiiii_at x1 d8.1).2).1)))
 (some (.inl (false, ())))
 (ask (0 ≤ r6.2.2.2.2.2.2.2.2.2.2.2.2.2.2.2.2.1 ∧ r6.2.2.2.2.2.2.2.2.2.2.2.2.2.2.2.2.1 ≤ ((([(((Kiiiiiii_at x1 d8.1).2).2).1, ((((Kiiiiiii_at x1 d8.1).2).2).2).1, (((((Kiiiiiii_at x1 d8.1).2).2).2).2).1] : List Int)).length : Int)) ((slices_ContainsFunc_int_int__net_nodes_1 n ((([(((Kiiiiiii_at x1 d8.1).2).2).1, ((((Kiiiiiii_at x1 d8.1).2).2).2).1, (((((Kiiiiiii_at x1 d8.1).2).2).2).2).1] : List Int).drop r6.2.2.2.2.2.2.2.2.2.2.2.2.2.2.2.2.1.toNat).take ((([(((Kiiiiiii_at x1 d8.1).2).2).1, ((((Kiiiiiii_at x1 d8.1).2).2).2).1, (((((Kiiiiiii_at x1 d8.1).2).2).2).2).1] : List Int)).length - r6.2.2.2.2.2.2.2.2.2.2.2.2.2.2.2.2.1.toNat))).bind (fun r89 => cond r89.1
 (some (.inl (false, ())))
 ((net_width n x1 x2 x3 x4 x5 ((((Kiiiiiii_at x1 d8.1).2).2).1) d8.1).bind (fun r90 => (net_width n x1 x2 x3 x4 x5 (((((Kiiiiiii_at x1 d8.1).2).2).2).1) d8.1).bind (fun r91 => (net_width n x1 x2 x3 x4 x5 ((((((Kiiiiiii_at x1 d8.1).2).2).2).2).1) d8.1).bind (fun r92 => (net_seen_asked n ((Kiiiiiii_at x1 d8.1).1) (((Kiiiiiii_at x1 d8.1).2).1) ((((Kiiiiiii_at x1 d8.1).2).2).1) (((((Kiiiiiii_at x1 d8.1).2).2).2).1) ((((((Kiiiiiii_at x1 d8.1).2).2).2).2).1) (((((((Kiiiiiii_at x1 d8.1).2).2).2).2).2).1) (((((((Kiiiiiii_at x1 d8.1).2).2).2).2).2).2) r90.1 r91.1 r92.1).bind (fun r93 => cond (!r93.1)
 (some (.inl (false, ())))
 (self (IntKind.wrap .i64 (d8.1 + 1), ()))))))))))))
 (cond (decide (((Kiiiiiii_at x1 d8.1).1) = 17))
 (cond (decide ((((Kiiiiiii_at x1 d8.1).2).1) < 1))
 (some (.inl (false, ())))
 (cond (decide ((16 : Int) < (((Kiiiiiii_at x1 d8.1).2).1)))
 (some (.inl (false, ())))
 (ask (0 ≤ r6.2.2.2.2.2.2.2.2.2.2.2.2.2.2.2.2.2.1 ∧ r6.2.2.2.2.2.2.2.2.2.2.2.2.2.2.2.2.2.1 ≤ ((([(((Kiiiiiii_at x1 d8.1).2).2).1, ((((Kiiiiiii_at x1 d8.1).2).2).2).1, (((((Kiiiiiii_at x1 d8.1).2).2).2).2).1] : List Int)).length : Int)) ((slices_ContainsFunc_int_int__net_nodes_1 n ((([(((Kiiiiiii_at x1 d8.1).2).2).1, ((((Kiiiiiii_at x1 d8.1).2).2).2).1, (((((Kiiiiiii_at x1 d8.1).2).2).2).2).1] : List Int).drop r6.2.2.2.2.2.2.2.2.2.2.2.2.2.2.2.2.2.1.toNat).take ((([(((Kiiiiiii_at x1 d8.1).2).2).1, ((((Kiiiiiii_at x1 d8.1).2).2).2).1, (((((Kiiiiiii_at x1 d8.1).2).2).2).2).1] : List Int)).length - r6.2.2.2.2.2.2.2.2.2.2.2.2.2.2.2.2.2.1.toNat))).bind (fun r94 => cond r94.1
 (some (.inl (false, ())))
 ((net_width n x1 x2 x3 x4 x5 ((((Kiiiiiii_at x1 d8.1).2).2).1) d8.1).bind (fun r95 => (net_width n x1 x2 x3 x4 x5 (((((Kiiiiiii_at x1 d8.1).2).2).2).1) d8.1).bind (fun r96 => (net_width n x1 x2 x3 x4 x5 ((((((Kiiiiiii_at x1 d8.1).2).2).2).2).1) d8.1).bind (fun r97 => (net_seen_cat n ((Kiiiiiii_at x1 d8.1).1) (((Kiiiiiii_at x1 d8.1).2).1) ((((Kiiiiiii_at x1 d8.1).2).2).1) (((((Kiiiiiii_at x1 d8.1).2).2).2).1) ((((((Kiiiiiii_at x1 d8.1).2).2).2).2).1) (((((((Kiiiiiii_at x1 d8.1).2).2).2).2).2).1) (((((((Kiiiiiii_at x1 d8.1).2).2).2).2).2).2) r95.1 r96.1 r97.1).bind (fun r98 => cond (!r98.1)
 (some (.inl (false, ())))
 (self (IntKind.wrap .i64 (d8.1 + 1), ()))))))))))))
 (cond (decide (((Kiiiiiii_at x1 d8.1).1) = 16))
 (cond (decide ((((Kiiiiiii_at x1 d8.1).2).1) < 1))
 (some (.inl (false, ())))
 (cond (decide ((16 : Int) < (((Kiiiiiii_at x1 d8.1).2).1)))
 (some (.inl (false, ())))
 (ask (0 ≤ r6.2.2.2.2.2.2.2.2.2.2.2.2.2.2.2.2.2.2.1 ∧ r6.2.2.2.2.2.2.2.2.2.2.2.2.2.2.2.2.2.2.1 ≤ ((([(((Kiiiiiii_at x1 d8.1).2).2).1, ((((Kiiiiiii_at x1 d8.1).2).2).2).1, (((((Kiiiiiii_at x1 d8.1).2).2).2).2).1] : List Int)).length : Int)) ((slices_ContainsFunc_int_int__net_nodes_1 n ((([(((Kiiiiiii_at x1 d8.1).2).2).1, ((((Kiiiiiii_at x1 d8.1).2).2).2).1, (((((Kiiiiiii_at x1 d8.1).2).2).2).2).1] : List Int).drop r6.2.2.2.2.2.2.2.2.2.2.2.2.2.2.2.2.2.2.1.toNat).take ((([(((Kiiiiiii_at x1 d8.1).2).2).1, ((((Kiiiiiii_at x1 d8.1).2).2).2).1, (((((Kiiiiiii_at x1 d8.1).2).2).2).2).1] : List Int)).length - r6.2.2.2.2.2.2.2.2.2.2.2.2.2.2.2.2.2.2.1.toNat))).bind (fun r99 => cond r99.1
 (some (.inl (false, ())))
 ((net_width n x1 x2 x3 x4 x5 ((((Kiiiiiii_at x1 d8.1).2).2).1) d8.1).bind (fun r100 => (net_width n x1 x2 x3 x4 x5 (((((Kiiiiiii_at x1 d8.1).2).2).2).1) d8.1).bind (fun r101 => (net_width n x1 x2 x3 x4 x5 ((((((Kiiiiiii_at x1 d8.1).2).2).2).2).1) d8.1).bind (fun r102 => (net_seen_mux n ((Kiiiiiii_at x1 d8.1).1) (((Kiiiiiii_at x1 d8.1).2).1) ((((Kiiiiiii_at x1 d8.1).2).2).1) (((((Kiiiiiii_at x1 d8.1).2).2).2).1) ((((((Kiiiiiii_at x1 d8.1).2).2).2).2).1) (((((((Kiiiiiii_at x1 d8.1).2).2).2).2).2).1) (((((((Kiiiiiii_at x1 d8.1).2).2).2).2).2).2) r100.1 r101.1 r102.1).bind (fun r103 => cond (!r103.1)
 (some (.inl (false, ())))
 (self (IntKind.wrap .i64 (d8.1 + 1), ()))))))))))))
 (some (.inl (false, ())))))))))))))))))))))))
 (some (.inr ()))
noncomputable def net_nodes_l1 (n : Nat) (r6 : Int × Int × Int × Int × Int × Int × Int × Int × Int × Int × Int × Int × Int × Int × Int × Int × Int × Int × Int × Unit) (x1 : List Kiiiiiii) (x2 : List Ksi) (x3 : List Ksiii) (x4 : List Kisi) (x5 : List Ksi) : Int × Unit → Option ((Bool × Unit) ⊕ (Unit)) := iter (net_nodes_l1b n r6 x1 x2 x3 x4 x5) n
noncomputable def net_nodes (n : Nat) (x1 : List Kiiiiiii) (x2 : List Ksi) (x3 : List Ksiii) (x4 : List Kisi) (x5 : List Ksi) : Option (Bool × Unit) :=
 (net_rules n).bind (fun r6 => (net_nodes_l1 n r6 x1 x2 x3 x4 x5 (0, ())).bind (Sum.elim (fun d104 => some (d104.1, ())) (fun d105 => some (true, ()))))
def net_nodes_s : Sig := ⟨[.c true [.row Kiiiiiii_, .row Ksi_, .row Ksiii_, .row Kisi_, .row Ksi_]], [], .c false [.bool], []⟩
def net_nodes_a : Ann := .s .d (.s .d (.s (.s .d (.b (.l [2, 4, 5, 6, 7, 8, 13, 14, 15, 16, 17, 18, 19, 20, 21, 22, 23, 24, 25, 26, 27, 28, 29, 30, 31, 32, 33, 34, 35, 36, 37, 38, 39, 40, 41, 42, 43, 44, 45, 46, 47, 48, 49, 50, 51, 52, 53, 54, 55, 56, 57, 58, 59, 60, 61, 62, 63, 64, 65, 66, 67, 68, 69, 70, 71, 72] [] ⟨[(13, .c false [.int .i64])], []⟩ [(.ret, ⟨[(2, .c false [.bool])], []⟩), (.exit 0, ⟨[], []⟩)] .d))) .d))
noncomputable def net_nodes_c (n : Nat) : Ctr Try.prog := .of Try.func27 n [net_rules_c n, slices_ContainsFunc_int_int__net_nodes_1_c n, net_width_c n, net_seen_lit_c n, net_seen_bare_c n, net_seen_one_c n, net_seen_red_c n, net_seen_slice_c n, net_seen_two_c n, net_seen_asked_c n, net_seen_cat_c n, net_seen_mux_c n] net_nodes_a net_nodes_s (fun d => net_nodes n d.1 d.2.1 d.2.2.1 d.2.2.2.1 d.2.2.2.2.1) fun d => by kernel_rfl
noncomputable def net_places_l1b (n : Nat) (x1 : List Kiiiiiii) (x6 : Int) (self : Int × List Int × Unit → Option ((List Int × Unit))) (d8 : Int × List Int × Unit) : Option ((List Int × Unit)) :=
 cond (decide (d8.1 < (x1.length : Int)))
 (ask (0 ≤ d8.1 ∧ d8.1 < (x1.length : Int)) (cond (decide (((Kiiiiiii_at x1 d8.1).1) = x6))
 (ask (True ∧ (d8.2.1.length + (([d8.1] : List Int)).length) * 8 ≤ 140737488355328) (self (IntKind.wrap .i64 (d8.1 + 1), d8.2.1 ++ ([d8.1] : List Int), ())))
 (self (IntKind.wrap .i64 (d8.1 + 1), d8.2.1, ()))))
 (some (d8.2.1, ()))
noncomputable def net_places_l1 (n : Nat) (x1 : List Kiiiiiii) (x6 : Int) : Int × List Int × Unit → Option ((List Int × Unit)) := iter (net_places_l1b n x1 x6) n
noncomputable def net_places (n : Nat) (x1 : List Kiiiiiii) (x2 : List Ksi) (x3 : List Ksiii) (x4 : List Kisi) (x5 : List Ksi) (x6 : Int) : Option (List Int × Unit) :=
 (net_places_l1 n x1 x6 (0, ([] : List Int), ())).bind (fun d9 => some (d9.1, ()))
def net_places_s : Sig := ⟨[.c true [.row Kiiiiiii_, .row Ksi_, .row Ksiii_, .row Kisi_, .row Ksi_], .c false [.int .i64]], [], .c false [.row i_], []⟩
def net_places_a : Ann := .s .d (.s .d (.s (.s .d (.b (.l [5, 6, 7, 11, 12, 13, 14, 15, 16, 17, 18, 19, 20, 21, 22, 23, 24] [] ⟨[(5, .c false [.con (.own 100000 1)]), (11, .c false [.int .i64])], [(100000, .row 3 i_)]⟩ [(.exit 0, ⟨[(5, .c false [.con (.own 100000 1)])], [(100000, .row 3 i_)]⟩)] .d))) .d))
noncomputable def net_places_c (n : Nat) : Ctr Try.prog := .of Try.func31 n [] net_places_a net_places_s (fun d => net_places n d.1 d.2.1 d.2.2.1 d.2.2.2.1 d.2.2.2.2.1 d.2.2.2.2.2.1) fun d => by kernel_rfl
noncomputable def net_Right_1 (n : Nat) (x1 : ByteArray) (x2 : Int) (x3 : Int) : Option (Bool × Unit) :=
 some (decide (x2 = x3), ())
def net_Right_1_s : Sig := ⟨[.c true [.str, .int .i64], .c false [.int .i64]], [], .c false [.bool], []⟩
def net_Right_1_a : Ann := .d
noncomputable def net_Right_1_c (n : Nat) : Ctr Try.prog := .of Try.func28 n [] net_Right_1_a net_Right_1_s (fun d => net_Right_1 n d.1 d.2.1 d.2.2.1) fun d => by kernel_rfl
noncomputable def slices_EqualFunc_api_Pin_int_api_Pin_int__net_Right_1_l1b (n : Nat) (x1 : List Ksi) (x2 : List Int) (self : Int × Unit → Option ((Bool × Unit) ⊕ (Unit))) (d4 : Int × Unit) : Option ((Bool × Unit) ⊕ (Unit)) :=
 cond (decide (d4.1 < (x1.length : Int)))
 (ask (0 ≤ d4.1 ∧ d4.1 < (x1.length : Int)) (ask (0 ≤ d4.1 ∧ d4.1 < (x2.length : Int)) ((net_Right_1 n ((Ksi_at x1 d4.1).1) ((Ksi_at x1 d4.1).2) (Ki_at x2 d4.1)).bind (fun r5 => cond (!r5.1)
 (some (.inl (false, ())))
 (self (IntKind.wrap .i64 (d4.1 + 1), ()))))))
 (some (.inr ()))
noncomputable def slices_EqualFunc_api_Pin_int_api_Pin_int__net_Right_1_l1 (n : Nat) (x1 : List Ksi) (x2 : List Int) : Int × Unit → Option ((Bool × Unit) ⊕ (Unit)) := iter (slices_EqualFunc_api_Pin_int_api_Pin_int__net_Right_1_l1b n x1 x2) n
noncomputable def slices_EqualFunc_api_Pin_int_api_Pin_int__net_Right_1 (n : Nat) (x1 : List Ksi) (x2 : List Int) : Option (Bool × Unit) :=
 cond (decide ((x1.length : Int) ≠ (x2.length : Int)))
 (some (false, ()))
 ((slices_EqualFunc_api_Pin_int_api_Pin_int__net_Right_1_l1 n x1 x2 (0, ())).bind (Sum.elim (fun d6 => some (d6.1, ())) (fun d7 => some (true, ()))))
def slices_EqualFunc_api_Pin_int_api_Pin_int__net_Right_1_s : Sig := ⟨[.c false [.row Ksi_], .c false [.row i_], .c false [.con (.fn 28 [])]], [], .c false [.bool], []⟩
def slices_EqualFunc_api_Pin_int_api_Pin_int__net_Right_1_a : Ann := .s .d (.s .d (.s (.s .d (.b (.l [6, 7, 8, 9, 17, 18, 19, 20, 21, 22, 23, 24, 25, 26, 27, 28, 29, 30, 31] [] ⟨[(17, .c false [.int .i64])], []⟩ [(.ret, ⟨[(6, .c false [.bool])], []⟩), (.exit 0, ⟨[], []⟩)] .d))) .d))
noncomputable def slices_EqualFunc_api_Pin_int_api_Pin_int__net_Right_1_c (n : Nat) : Ctr Try.prog := .of Try.func30 n [net_Right_1_c n] slices_EqualFunc_api_Pin_int_api_Pin_int__net_Right_1_a slices_EqualFunc_api_Pin_int_api_Pin_int__net_Right_1_s (fun d => slices_EqualFunc_api_Pin_int_api_Pin_int__net_Right_1 n d.1 d.2.1) fun d => by kernel_rfl
noncomputable def net_Right_2 (n : Nat) (x1 : ByteArray) (x2 : Int) (x3 : Int) (x4 : Int) (x5 : Int) : Option (Bool × Unit) :=
 some (decide (x2 = x5), ())
def net_Right_2_s : Sig := ⟨[.c true [.str, .int .i64, .int .i64, .int .i64], .c false [.int .i64]], [], .c false [.bool], []⟩
def net_Right_2_a : Ann := .d
noncomputable def net_Right_2_c (n : Nat) : Ctr Try.prog := .of Try.func29 n [] net_Right_2_a net_Right_2_s (fun d => net_Right_2 n d.1 d.2.1 d.2.2.1 d.2.2.2.1 d.2.2.2.2.1) fun d => by kernel_rfl
noncomputable def slices_EqualFunc_api_Cell_int_api_Cell_int__net_Right_2_l1b (n : Nat) (x1 : List Ksiii) (x2 : List Int) (self : Int × Unit → Option ((Bool × Unit) ⊕ (Unit))) (d4 : Int × Unit) : Option ((Bool × Unit) ⊕ (Unit)) :=
 cond (decide (d4.1 < (x1.length : Int)))
 (ask (0 ≤ d4.1 ∧ d4.1 < (x1.length : Int)) (ask (0 ≤ d4.1 ∧ d4.1 < (x2.length : Int)) ((net_Right_2 n ((Ksiii_at x1 d4.1).1) (((Ksiii_at x1 d4.1).2).1) ((((Ksiii_at x1 d4.1).2).2).1) ((((Ksiii_at x1 d4.1).2).2).2) (Ki_at x2 d4.1)).bind (fun r5 => cond (!r5.1)
 (some (.inl (false, ())))
 (self (IntKind.wrap .i64 (d4.1 + 1), ()))))))
 (some (.inr ()))
noncomputable def slices_EqualFunc_api_Cell_int_api_Cell_int__net_Right_2_l1 (n : Nat) (x1 : List Ksiii) (x2 : List Int) : Int × Unit → Option ((Bool × Unit) ⊕ (Unit)) := iter (slices_EqualFunc_api_Cell_int_api_Cell_int__net_Right_2_l1b n x1 x2) n
noncomputable def slices_EqualFunc_api_Cell_int_api_Cell_int__net_Right_2 (n : Nat) (x1 : List Ksiii) (x2 : List Int) : Option (Bool × Unit) :=
 cond (decide ((x1.length : Int) ≠ (x2.length : Int)))
 (some (false, ()))
 ((slices_EqualFunc_api_Cell_int_api_Cell_int__net_Right_2_l1 n x1 x2 (0, ())).bind (Sum.elim (fun d6 => some (d6.1, ())) (fun d7 => some (true, ()))))
def slices_EqualFunc_api_Cell_int_api_Cell_int__net_Right_2_s : Sig := ⟨[.c false [.row Ksiii_], .c false [.row i_], .c false [.con (.fn 29 [])]], [], .c false [.bool], []⟩
def slices_EqualFunc_api_Cell_int_api_Cell_int__net_Right_2_a : Ann := .s .d (.s .d (.s (.s .d (.b (.l [6, 7, 8, 9, 17, 18, 19, 20, 21, 22, 23, 24, 25, 26, 27, 28, 29, 30, 31] [] ⟨[(17, .c false [.int .i64])], []⟩ [(.ret, ⟨[(6, .c false [.bool])], []⟩), (.exit 0, ⟨[], []⟩)] .d))) .d))
noncomputable def slices_EqualFunc_api_Cell_int_api_Cell_int__net_Right_2_c (n : Nat) : Ctr Try.prog := .of Try.func32 n [net_Right_2_c n] slices_EqualFunc_api_Cell_int_api_Cell_int__net_Right_2_a slices_EqualFunc_api_Cell_int_api_Cell_int__net_Right_2_s (fun d => slices_EqualFunc_api_Cell_int_api_Cell_int__net_Right_2 n d.1 d.2.1) fun d => by kernel_rfl
noncomputable def net_cells_l1b (n : Nat) (x1 : List Kiiiiiii) (x2 : List Ksi) (x3 : List Ksiii) (x4 : List Kisi) (x5 : List Ksi) (self : Int × Int × Unit → Option ((Bool × Unit) ⊕ (Int × Unit))) (d7 : Int × Int × Unit) : Option ((Bool × Unit) ⊕ (Int × Unit)) :=
 cond (decide (d7.2.1 < (x3.length : Int)))
 (ask (0 ≤ d7.2.1 ∧ d7.2.1 < (x3.length : Int)) (ask (0 ≤ (((Ksiii_at x3 d7.2.1).2).1) ∧ ((Ksiii_at x3 d7.2.1).2).1 < (x1.length : Int)) ((net_width n x1 x2 x3 x4 x5 ((((Ksiii_at x3 d7.2.1).2).2).1) (x1.length : Int)).bind (fun r8 => cond (decide (r8.1 ≠ (((Kiiiiiii_at x1 (((Ksiii_at x3 d7.2.1).2).1)).2).1)))
 (some (.inl (false, ())))
 (cond (decide (((((Ksiii_at x3 d7.2.1).2).2).2) < 0))
 (some (.inl (false, ())))
 ((vec_Mask n (((Kiiiiiii_at x1 (((Ksiii_at x3 d7.2.1).2).1)).2).1)).bind (fun r9 => cond (decide (r9.1 < ((((Ksiii_at x3 d7.2.1).2).2).2)))
 (some (.inl (false, ())))
 (self (IntKind.wrap .i64 (d7.1 + (((Kiiiiiii_at x1 (((Ksiii_at x3 d7.2.1).2).1)).2).1)), IntKind.wrap .i64 (d7.2.1 + 1), ())))))))))
 (some (.inr (d7.1, ())))
noncomputable def net_cells_l1 (n : Nat) (x1 : List Kiiiiiii) (x2 : List Ksi) (x3 : List Ksiii) (x4 : List Kisi) (x5 : List Ksi) : Int × Int × Unit → Option ((Bool × Unit) ⊕ (Int × Unit)) := iter (net_cells_l1b n x1 x2 x3 x4 x5) n
noncomputable def net_cells (n : Nat) (x1 : List Kiiiiiii) (x2 : List Ksi) (x3 : List Ksiii) (x4 : List Kisi) (x5 : List Ksi) : Option (Bool × Unit) :=
 (net_cells_l1 n x1 x2 x3 x4 x5 (0, 0, ())).bind (Sum.elim (fun d10 => some (d10.1, ())) (fun d11 => some (decide (d11.1 ≤ 256), ())))
def net_cells_s : Sig := ⟨[.c true [.row Kiiiiiii_, .row Ksi_, .row Ksiii_, .row Kisi_, .row Ksi_]], [], .c false [.bool], []⟩
def net_cells_a : Ann := .s .d (.s .d (.s (.s .d (.b (.l [2, 3, 5, 6, 10, 11, 12, 13, 14, 15, 16, 17, 18, 19, 20, 21, 22, 23, 24, 25, 26, 27, 28, 29, 30, 31, 32, 33, 34, 35, 36, 37, 38, 39, 40, 41, 42, 43, 44, 45] [] ⟨[(3, .c false [.int .i64]), (10, .c false [.int .i64])], []⟩ [(.ret, ⟨[(2, .c false [.bool])], []⟩), (.exit 0, ⟨[(3, .c false [.int .i64])], []⟩)] .d))) .d))
noncomputable def net_cells_c (n : Nat) : Ctr Try.prog := .of Try.func33 n [net_width_c n, vec_Mask_c n] net_cells_a net_cells_s (fun d => net_cells n d.1 d.2.1 d.2.2.1 d.2.2.2.1 d.2.2.2.2.1) fun d => by kernel_rfl
noncomputable def net_Right_3 (n : Nat) (x1 : ByteArray) (x2 : Int) (x3 : List KLPiiiiiiiELPsiELPsiiiELPisiELPsiE) (x4 : Int) : Option (Bool × Unit) :=
 (net_width n ((KLPiiiiiiiELPsiELPsiiiELPisiELPsiE_at x3 x4).1) (((KLPiiiiiiiELPsiELPsiiiELPisiELPsiE_at x3 x4).2).1) ((((KLPiiiiiiiELPsiELPsiiiELPisiELPsiE_at x3 x4).2).2).1) (((((KLPiiiiiiiELPsiELPsiiiELPisiELPsiE_at x3 x4).2).2).2).1) (((((KLPiiiiiiiELPsiELPsiiiELPisiELPsiE_at x3 x4).2).2).2).2) x2 (((KLPiiiiiiiELPsiELPsiiiELPisiELPsiE_at x3 x4).1).length : Int)).bind (fun r5 => some (decide (r5.1 = 0), ()))
def net_Right_3_s : Sig := ⟨[.c true [.str, .int .i64], .c false [.rp KLPiiiiiiiELPsiELPsiiiELPisiELPsiE_ 0]], [], .c false [.bool], []⟩
def net_Right_3_a : Ann := .d
noncomputable def net_Right_3_c (n : Nat) : Ctr Try.prog := .of Try.func36 n [net_width_c n] net_Right_3_a net_Right_3_s (fun d => net_Right_3 n d.1 d.2.1 d.2.2.1 d.2.2.2.1) fun d => by kernel_rfl
noncomputable def slices_IndexFunc_api_Pin_api_Pin__net_Right_3_l1b (n : Nat) (x1 : List Ksi) (x2 : List Kiiiiiii) (x3 : List Ksi) (x4 : List Ksiii) (x5 : List Kisi) (x6 : List Ksi) (self : Int × Unit → Option ((Int × Unit) ⊕ (Unit))) (d8 : Int × Unit) : Option ((Int × Unit) ⊕ (Unit)) :=
 cond (decide (d8.1 < (x1.length : Int)))
 (ask (0 ≤ d8.1 ∧ d8.1 < (x1.length : Int)) ((net_Right_3 n ((Ksi_at x1 d8.1).1) ((Ksi_at x1 d8.1).2) ([(x2, x3, x4, x5, x6)] : List KLPiiiiiiiELPsiELPsiiiELPisiELPsiE) 0).bind (fun r9 => cond r9.1
 (some (.inl (d8.1, ())))
 (self (IntKind.wrap .i64 (d8.1 + 1), ())))))
 (some (.inr ()))
noncomputable def slices_IndexFunc_api_Pin_api_Pin__net_Right_3_l1 (n : Nat) (x1 : List Ksi) (x2 : List Kiiiiiii) (x3 : List Ksi) (x4 : List Ksiii) (x5 : List Kisi) (x6 : List Ksi) : Int × Unit → Option ((Int × Unit) ⊕ (Unit)) := iter (slices_IndexFunc_api_Pin_api_Pin__net_Right_3_l1b n x1 x2 x3 x4 x5 x6) n
noncomputable def slices_IndexFunc_api_Pin_api_Pin__net_Right_3 (n : Nat) (x1 : List Ksi) (x2 : List Kiiiiiii) (x3 : List Ksi) (x4 : List Ksiii) (x5 : List Kisi) (x6 : List Ksi) : Option (Int × List Kiiiiiii × List Ksi × List Ksiii × List Kisi × List Ksi × Unit) :=
 (slices_IndexFunc_api_Pin_api_Pin__net_Right_3_l1 n x1 x2 x3 x4 x5 x6 (0, ())).bind (Sum.elim (fun d10 => some (d10.1, x2, x3, x4, x5, x6, ())) (fun d11 => some ((-1), x2, x3, x4, x5, x6, ())))
def slices_IndexFunc_api_Pin_api_Pin__net_Right_3_s : Sig := ⟨[.c false [.row Ksi_], .c false [.con (.fn 36 [(0, 0)])]], [(0, .var 27 [.row Kiiiiiii_, .row Ksi_, .row Ksiii_, .row Kisi_, .row Ksi_])], .c false [.int .i64], [(0, .var 27 [.row Kiiiiiii_, .row Ksi_, .row Ksiii_, .row Kisi_, .row Ksi_])]⟩
def slices_IndexFunc_api_Pin_api_Pin__net_Right_3_a : Ann := .s .d (.s (.s .d (.b (.l [4, 5, 8, 9, 10, 11, 12, 13, 14, 15, 16, 17, 18] [] ⟨[(8, .c false [.int .i64])], []⟩ [(.ret, ⟨[(4, .c false [.int .i64])], []⟩), (.exit 0, ⟨[], []⟩)] .d))) .d)
noncomputable def slices_IndexFunc_api_Pin_api_Pin__net_Right_3_c (n : Nat) : Ctr Try.prog := .of Try.func50 n [net_Right_3_c n] slices_IndexFunc_api_Pin_api_Pin__net_Right_3_a slices_IndexFunc_api_Pin_api_Pin__net_Right_3_s (fun d => slices_IndexFunc_api_Pin_api_Pin__net_Right_3 n d.1 d.2.1 d.2.2.1 d.2.2.2.1 d.2.2.2.2.1 d.2.2.2.2.2.1) fun d => by kernel_rfl
noncomputable def slices_ContainsFunc_api_Pin_api_Pin__net_Right_3 (n : Nat) (x1 : List Ksi) (x2 : List Kiiiiiii) (x3 : List Ksi) (x4 : List Ksiii) (x5 : List Kisi) (x6 : List Ksi) : Option (Bool × List Kiiiiiii × List Ksi × List Ksiii × List Kisi × List Ksi × Unit) :=
 (slices_IndexFunc_api_Pin_api_Pin__net_Right_3 n x1 x2 x3 x4 x5 x6).bind (fun r7 => some (decide ((0 : Int) ≤ r7.1), r7.2.1, r7.2.2.1, r7.2.2.2.1, r7.2.2.2.2.1, r7.2.2.2.2.2.1, ()))
def slices_ContainsFunc_api_Pin_api_Pin__net_Right_3_s : Sig := ⟨[.c false [.row Ksi_], .c false [.con (.fn 36 [(0, 0)])]], [(0, .var 27 [.row Kiiiiiii_, .row Ksi_, .row Ksiii_, .row Kisi_, .row Ksi_])], .c false [.bool], [(0, .var 27 [.row Kiiiiiii_, .row Ksi_, .row Ksiii_, .row Kisi_, .row Ksi_])]⟩
def slices_ContainsFunc_api_Pin_api_Pin__net_Right_3_a : Ann := .d
noncomputable def slices_ContainsFunc_api_Pin_api_Pin__net_Right_3_c (n : Nat) : Ctr Try.prog := .of Try.func35 n [slices_IndexFunc_api_Pin_api_Pin__net_Right_3_c n] slices_ContainsFunc_api_Pin_api_Pin__net_Right_3_a slices_ContainsFunc_api_Pin_api_Pin__net_Right_3_s (fun d => slices_ContainsFunc_api_Pin_api_Pin__net_Right_3 n d.1 d.2.1 d.2.2.1 d.2.2.2.1 d.2.2.2.2.1 d.2.2.2.2.2.1) fun d => by kernel_rfl
noncomputable def net_Right_l1b (n : Nat) (x1 : List Kiiiiiii) (x2 : List Ksi) (x3 : List Ksiii) (x4 : List Kisi) (x5 : List Ksi) (self : Int × Unit → Option ((Bool × Unit) ⊕ (Unit))) (d13 : Int × Unit) : Option ((Bool × Unit) ⊕ (Unit)) :=
 cond (decide (d13.1 < (x4.length : Int)))
 (ask (0 ≤ d13.1 ∧ d13.1 < (x4.length : Int)) (cond (decide (((Kisi_at x4 d13.1).1) < 8))
 (some (.inl (false, ())))
 (cond (decide ((10 : Int) < ((Kisi_at x4 d13.1).1)))
 (some (.inl (false, ())))
 ((net_width n x1 x2 x3 x4 x5 (((Kisi_at x4 d13.1).2).2) (x1.length : Int)).bind (fun r14 => cond (decide (r14.1 ≠ 1))
 (some (.inl (false, ())))
 (self (IntKind.wrap .i64 (d13.1 + 1), ())))))))
 (some (.inr ()))
noncomputable def net_Right_l1 (n : Nat) (x1 : List Kiiiiiii) (x2 : List Ksi) (x3 : List Ksiii) (x4 : List Kisi) (x5 : List Ksi) : Int × Unit → Option ((Bool × Unit) ⊕ (Unit)) := iter (net_Right_l1b n x1 x2 x3 x4 x5) n
noncomputable def net_Right (n : Nat) (x1 : List Kiiiiiii) (x2 : List Ksi) (x3 : List Ksiii) (x4 : List Kisi) (x5 : List Ksi) : Option (Bool × Unit) :=
 cond (decide ((4000 : Int) < (x1.length : Int)))
 (some (false, ()))
 (cond (decide ((64 : Int) < (x2.length : Int)))
 (some (false, ()))
 (cond (decide ((256 : Int) < (x3.length : Int)))
 (some (false, ()))
 (cond (decide ((16 : Int) < (x4.length : Int)))
 (some (false, ()))
 ((net_nodes n x1 x2 x3 x4 x5).bind (fun r6 => cond (!r6.1)
 (some (false, ()))
 ((net_places n x1 x2 x3 x4 x5 21).bind (fun r7 => (slices_EqualFunc_api_Pin_int_api_Pin_int__net_Right_1 n x2 r7.1).bind (fun r8 => cond (!r8.1)
 (some (false, ()))
 ((net_places n x1 x2 x3 x4 x5 22).bind (fun r9 => (slices_EqualFunc_api_Cell_int_api_Cell_int__net_Right_2 n x3 r9.1).bind (fun r10 => cond (!r10.1)
 (some (false, ()))
 ((net_cells n x1 x2 x3 x4 x5).bind (fun r11 => cond (!r11.1)
 (some (false, ()))
 ((net_Right_l1 n x1 x2 x3 x4 x5 (0, ())).bind (Sum.elim (fun d15 => some (d15.1, ())) (fun d16 => (slices_ContainsFunc_api_Pin_api_Pin__net_Right_3 n x5 x1 x2 x3 x4 x5).bind (fun r17 => some (!r17.1, ()))))))))))))))))))
def net_Right_s : Sig := ⟨[.c true [.row Kiiiiiii_, .row Ksi_, .row Ksiii_, .row Kisi_, .row Ksi_]], [], .c false [.bool], []⟩
def net_Right_a : Ann := .s .d (.s .d (.s .d (.s .d (.s .d (.s (.s .d (.b (.l [2, 6, 58, 59, 60, 61, 62, 63, 64, 65, 66, 67, 68, 69, 70, 71, 72, 73, 74, 75, 76, 77, 78, 79, 80] [] ⟨[(58, .c false [.int .i64])], []⟩ [(.ret, ⟨[(2, .c false [.bool])], []⟩), (.exit 0, ⟨[], []⟩)] .d))) .d)))))
noncomputable def net_Right_c (n : Nat) : Ctr Try.prog := .of Try.func12 n [net_nodes_c n, net_places_c n, slices_EqualFunc_api_Pin_int_api_Pin_int__net_Right_1_c n, slices_EqualFunc_api_Cell_int_api_Cell_int__net_Right_2_c n, net_cells_c n, net_width_c n, slices_ContainsFunc_api_Pin_api_Pin__net_Right_3_c n] net_Right_a net_Right_s (fun d => net_Right n d.1 d.2.1 d.2.2.1 d.2.2.2.1 d.2.2.2.2.1) fun d => by kernel_rfl
noncomputable def slices_Equal_api_Node_api_Node_l1b (n : Nat) (x1 : List Kiiiiiii) (x2 : List Kiiiiiii) (self : Int × Unit → Option ((Bool × Unit) ⊕ (Unit))) (d4 : Int × Unit) : Option ((Bool × Unit) ⊕ (Unit)) :=
 cond (decide (d4.1 < (x1.length : Int)))
 (ask (0 ≤ d4.1 ∧ d4.1 < (x1.length : Int)) (ask (0 ≤ d4.1 ∧ d4.1 < (x2.length : Int)) (cond (!((((Kiiiiiii_at x1 d4.1).1) == (Kiiiiiii_at x2 d4.1).1) && (((((Kiiiiiii_at x1 d4.1).2).1) == ((Kiiiiiii_at x2 d4.1).2).1) && ((((((Kiiiiiii_at x1 d4.1).2).2).1) == (((Kiiiiiii_at x2 d4.1).2).2).1) && (((((((Kiiiiiii_at x1 d4.1).2).2).2).1) == ((((Kiiiiiii_at x2 d4.1).2).2).2).1) && ((((((((Kiiiiiii_at x1 d4.1).2).2).2).2).1) == (((((Kiiiiiii_at x2 d4.1).2).2).2).2).1) && (((((((((Kiiiiiii_at x1 d4.1).2).2).2).2).2).1) == ((((((Kiiiiiii_at x2 d4.1).2).2).2).2).2).1) && ((((((((Kiiiiiii_at x1 d4.1).2).2).2).2).2).2) == ((((((Kiiiiiii_at x2 d4.1).2).2).2).2).2).2))))))))
 (some (.inl (false, ())))
 (self (IntKind.wrap .i64 (d4.1 + 1), ())))))
 (some (.inr ()))
noncomputable def slices_Equal_api_Node_api_Node_l1 (n : Nat) (x1 : List Kiiiiiii) (x2 : List Kiiiiiii) : Int × Unit → Option ((Bool × Unit) ⊕ (Unit)) := iter (slices_Equal_api_Node_api_Node_l1b n x1 x2) n
noncomputable def slices_Equal_api_Node_api_Node (n : Nat) (x1 : List Kiiiiiii) (x2 : List Kiiiiiii) : Option (Bool × Unit) :=
 cond (decide ((x1.length : Int) ≠ (x2.length : Int)))
 (some (false, ()))
 ((slices_Equal_api_Node_api_Node_l1 n x1 x2 (0, ())).bind (Sum.elim (fun d5 => some (d5.1, ())) (fun d6 => some (true, ()))))
def slices_Equal_api_Node_api_Node_s : Sig := ⟨[.c false [.row Kiiiiiii_], .c false [.row Kiiiiiii_]], [], .c false [.bool], []⟩
def slices_Equal_api_Node_api_Node_a : Ann := .s .d (.s .d (.s (.s .d (.b (.l [4, 5, 13, 14, 15, 16, 17, 18, 19, 20, 21, 22, 23, 24, 25] [] ⟨[(13, .c false [.int .i64])], []⟩ [(.ret, ⟨[(4, .c false [.bool])], []⟩), (.exit 0, ⟨[], []⟩)] .d))) .d))
noncomputable def slices_Equal_api_Node_api_Node_c (n : Nat) : Ctr Try.prog := .of Try.func40 n [] slices_Equal_api_Node_api_Node_a slices_Equal_api_Node_api_Node_s (fun d => slices_Equal_api_Node_api_Node n d.1 d.2.1) fun d => by kernel_rfl
noncomputable def slices_Equal_api_Pin_api_Pin_l1b (n : Nat) (x1 : List Ksi) (x2 : List Ksi) (self : Int × Unit → Option ((Bool × Unit) ⊕ (Unit))) (d4 : Int × Unit) : Option ((Bool × Unit) ⊕ (Unit)) :=
 cond (decide (d4.1 < (x1.length : Int)))
 (ask (0 ≤ d4.1 ∧ d4.1 < (x1.length : Int)) (ask (0 ≤ d4.1 ∧ d4.1 < (x2.length : Int)) (cond (!((((Ksi_at x1 d4.1).1).toList == ((Ksi_at x2 d4.1).1).toList) && (((Ksi_at x1 d4.1).2) == (Ksi_at x2 d4.1).2)))
 (some (.inl (false, ())))
 (self (IntKind.wrap .i64 (d4.1 + 1), ())))))
 (some (.inr ()))
noncomputable def slices_Equal_api_Pin_api_Pin_l1 (n : Nat) (x1 : List Ksi) (x2 : List Ksi) : Int × Unit → Option ((Bool × Unit) ⊕ (Unit)) := iter (slices_Equal_api_Pin_api_Pin_l1b n x1 x2) n
noncomputable def slices_Equal_api_Pin_api_Pin (n : Nat) (x1 : List Ksi) (x2 : List Ksi) : Option (Bool × Unit) :=
 cond (decide ((x1.length : Int) ≠ (x2.length : Int)))
 (some (false, ()))
 ((slices_Equal_api_Pin_api_Pin_l1 n x1 x2 (0, ())).bind (Sum.elim (fun d5 => some (d5.1, ())) (fun d6 => some (true, ()))))
def slices_Equal_api_Pin_api_Pin_s : Sig := ⟨[.c false [.row Ksi_], .c false [.row Ksi_]], [], .c false [.bool], []⟩
def slices_Equal_api_Pin_api_Pin_a : Ann := .s .d (.s .d (.s (.s .d (.b (.l [4, 5, 13, 14, 15, 16, 17, 18, 19, 20, 21, 22, 23, 24, 25] [] ⟨[(13, .c false [.int .i64])], []⟩ [(.ret, ⟨[(4, .c false [.bool])], []⟩), (.exit 0, ⟨[], []⟩)] .d))) .d))
noncomputable def slices_Equal_api_Pin_api_Pin_c (n : Nat) : Ctr Try.prog := .of Try.func41 n [] slices_Equal_api_Pin_api_Pin_a slices_Equal_api_Pin_api_Pin_s (fun d => slices_Equal_api_Pin_api_Pin n d.1 d.2.1) fun d => by kernel_rfl
noncomputable def slices_Equal_api_Cell_api_Cell_l1b (n : Nat) (x1 : List Ksiii) (x2 : List Ksiii) (self : Int × Unit → Option ((Bool × Unit) ⊕ (Unit))) (d4 : Int × Unit) : Option ((Bool × Unit) ⊕ (Unit)) :=
 cond (decide (d4.1 < (x1.length : Int)))
 (ask (0 ≤ d4.1 ∧ d4.1 < (x1.length : Int)) (ask (0 ≤ d4.1 ∧ d4.1 < (x2.length : Int)) (cond (!((((Ksiii_at x1 d4.1).1).toList == ((Ksiii_at x2 d4.1).1).toList) && (((((Ksiii_at x1 d4.1).2).1) == ((Ksiii_at x2 d4.1).2).1) && ((((((Ksiii_at x1 d4.1).2).2).1) == (((Ksiii_at x2 d4.1).2).2).1) && (((((Ksiii_at x1 d4.1).2).2).2) == (((Ksiii_at x2 d4.1).2).2).2)))))
 (some (.inl (false, ())))
 (self (IntKind.wrap .i64 (d4.1 + 1), ())))))
 (some (.inr ()))
noncomputable def slices_Equal_api_Cell_api_Cell_l1 (n : Nat) (x1 : List Ksiii) (x2 : List Ksiii) : Int × Unit → Option ((Bool × Unit) ⊕ (Unit)) := iter (slices_Equal_api_Cell_api_Cell_l1b n x1 x2) n
noncomputable def slices_Equal_api_Cell_api_Cell (n : Nat) (x1 : List Ksiii) (x2 : List Ksiii) : Option (Bool × Unit) :=
 cond (decide ((x1.length : Int) ≠ (x2.length : Int)))
 (some (false, ()))
 ((slices_Equal_api_Cell_api_Cell_l1 n x1 x2 (0, ())).bind (Sum.elim (fun d5 => some (d5.1, ())) (fun d6 => some (true, ()))))
def slices_Equal_api_Cell_api_Cell_s : Sig := ⟨[.c false [.row Ksiii_], .c false [.row Ksiii_]], [], .c false [.bool], []⟩
def slices_Equal_api_Cell_api_Cell_a : Ann := .s .d (.s .d (.s (.s .d (.b (.l [4, 5, 13, 14, 15, 16, 17, 18, 19, 20, 21, 22, 23, 24, 25] [] ⟨[(13, .c false [.int .i64])], []⟩ [(.ret, ⟨[(4, .c false [.bool])], []⟩), (.exit 0, ⟨[], []⟩)] .d))) .d))
noncomputable def slices_Equal_api_Cell_api_Cell_c (n : Nat) : Ctr Try.prog := .of Try.func42 n [] slices_Equal_api_Cell_api_Cell_a slices_Equal_api_Cell_api_Cell_s (fun d => slices_Equal_api_Cell_api_Cell n d.1 d.2.1) fun d => by kernel_rfl
noncomputable def slices_Equal_api_Prop_api_Prop_l1b (n : Nat) (x1 : List Kisi) (x2 : List Kisi) (self : Int × Unit → Option ((Bool × Unit) ⊕ (Unit))) (d4 : Int × Unit) : Option ((Bool × Unit) ⊕ (Unit)) :=
 cond (decide (d4.1 < (x1.length : Int)))
 (ask (0 ≤ d4.1 ∧ d4.1 < (x1.length : Int)) (ask (0 ≤ d4.1 ∧ d4.1 < (x2.length : Int)) (cond (!((((Kisi_at x1 d4.1).1) == (Kisi_at x2 d4.1).1) && (((((Kisi_at x1 d4.1).2).1).toList == (((Kisi_at x2 d4.1).2).1).toList) && ((((Kisi_at x1 d4.1).2).2) == ((Kisi_at x2 d4.1).2).2))))
 (some (.inl (false, ())))
 (self (IntKind.wrap .i64 (d4.1 + 1), ())))))
 (some (.inr ()))
noncomputable def slices_Equal_api_Prop_api_Prop_l1 (n : Nat) (x1 : List Kisi) (x2 : List Kisi) : Int × Unit → Option ((Bool × Unit) ⊕ (Unit)) := iter (slices_Equal_api_Prop_api_Prop_l1b n x1 x2) n
noncomputable def slices_Equal_api_Prop_api_Prop (n : Nat) (x1 : List Kisi) (x2 : List Kisi) : Option (Bool × Unit) :=
 cond (decide ((x1.length : Int) ≠ (x2.length : Int)))
 (some (false, ()))
 ((slices_Equal_api_Prop_api_Prop_l1 n x1 x2 (0, ())).bind (Sum.elim (fun d5 => some (d5.1, ())) (fun d6 => some (true, ()))))
def slices_Equal_api_Prop_api_Prop_s : Sig := ⟨[.c false [.row Kisi_], .c false [.row Kisi_]], [], .c false [.bool], []⟩
def slices_Equal_api_Prop_api_Prop_a : Ann := .s .d (.s .d (.s (.s .d (.b (.l [4, 5, 13, 14, 15, 16, 17, 18, 19, 20, 21, 22, 23, 24, 25] [] ⟨[(13, .c false [.int .i64])], []⟩ [(.ret, ⟨[(4, .c false [.bool])], []⟩), (.exit 0, ⟨[], []⟩)] .d))) .d))
noncomputable def slices_Equal_api_Prop_api_Prop_c (n : Nat) : Ctr Try.prog := .of Try.func43 n [] slices_Equal_api_Prop_api_Prop_a slices_Equal_api_Prop_api_Prop_s (fun d => slices_Equal_api_Prop_api_Prop n d.1 d.2.1) fun d => by kernel_rfl
noncomputable def net_Same (n : Nat) (x1 : List Kiiiiiii) (x2 : List Ksi) (x3 : List Ksiii) (x4 : List Kisi) (x5 : List Ksi) (x6 : List Kiiiiiii) (x7 : List Ksi) (x8 : List Ksiii) (x9 : List Kisi) (x10 : List Ksi) : Option (Bool × Unit) :=
 (slices_Equal_api_Node_api_Node n x1 x6).bind (fun r11 => cond r11.1
 ((slices_Equal_api_Pin_api_Pin n x2 x7).bind (fun r12 => cond r12.1
 ((slices_Equal_api_Cell_api_Cell n x3 x8).bind (fun r13 => cond r13.1
 ((slices_Equal_api_Prop_api_Prop n x4 x9).bind (fun r14 => cond r14.1
 ((slices_Equal_api_Pin_api_Pin n x5 x10).bind (fun r15 => some (r15.1, ())))
 (some (false, ()))))
 (some (false, ()))))
 (some (false, ()))))
 (some (false, ())))
def net_Same_s : Sig := ⟨[.c true [.row Kiiiiiii_, .row Ksi_, .row Ksiii_, .row Kisi_, .row Ksi_], .c true [.row Kiiiiiii_, .row Ksi_, .row Ksiii_, .row Kisi_, .row Ksi_]], [], .c false [.bool], []⟩
def net_Same_a : Ann := .d
noncomputable def net_Same_c (n : Nat) : Ctr Try.prog := .of Try.func14 n [slices_Equal_api_Node_api_Node_c n, slices_Equal_api_Pin_api_Pin_c n, slices_Equal_api_Cell_api_Cell_c n, slices_Equal_api_Prop_api_Prop_c n] net_Same_a net_Same_s (fun d => net_Same n d.1 d.2.1 d.2.2.1 d.2.2.2.1 d.2.2.2.2.1 d.2.2.2.2.2.1 d.2.2.2.2.2.2.1 d.2.2.2.2.2.2.2.1 d.2.2.2.2.2.2.2.2.1 d.2.2.2.2.2.2.2.2.2.1) fun d => by kernel_rfl
noncomputable def net_First_l1b (n : Nat) (x3 : List Ksiii) (self : Int × List Int × Unit → Option ((List Int × Unit))) (d8 : Int × List Int × Unit) : Option ((List Int × Unit)) :=
 cond (decide (d8.1 < (x3.length : Int)))
 (ask (0 ≤ d8.1 ∧ d8.1 < (x3.length : Int)) (ask (0 ≤ d8.1 ∧ d8.1 < (d8.2.1.length : Int)) (self (IntKind.wrap .i64 (d8.1 + 1), d8.2.1.set d8.1.toNat ((((Ksiii_at x3 d8.1).2).2).2), ()))))
 (some (d8.2.1, ()))
noncomputable def net_First_l1 (n : Nat) (x3 : List Ksiii) : Int × List Int × Unit → Option ((List Int × Unit)) := iter (net_First_l1b n x3) n
noncomputable def net_First (n : Nat) (x1 : List Kiiiiiii) (x2 : List Ksi) (x3 : List Ksiii) (x4 : List Kisi) (x5 : List Ksi) : Option (List Int × Unit) :=
 ask ((0 ≤ (x3.length : Int) ∧ (x3.length : Int) ≤ (x3.length : Int)) ∧ (8 : Int) * (x3.length : Int) ≤ 281474976710656 ∧ (x3.length : Int) ≤ 281474976710656) ((net_First_l1 n x3 (0, List.replicate (x3.length : Int).toNat 0, ())).bind (fun d9 => some (d9.1, ())))
def net_First_s : Sig := ⟨[.c true [.row Kiiiiiii_, .row Ksi_, .row Ksiii_, .row Kisi_, .row Ksi_]], [], .c false [.row i_], []⟩
def net_First_a : Ann := .s .d (.s .d (.s (.s .d (.b (.l [3, 4, 5, 9, 13, 14, 15, 16, 17, 18, 19, 20, 21, 22, 23] [293] ⟨[(3, .c false [.con (.own 293 1)]), (13, .c false [.int .i64])], [(293, .row 3 i_)]⟩ [(.exit 0, ⟨[(3, .c false [.con (.own 293 1)])], [(293, .row 3 i_)]⟩)] .d))) .d))
noncomputable def net_First_c (n : Nat) : Ctr Try.prog := .of Try.func18 n [] net_First_a net_First_s (fun d => net_First n d.1 d.2.1 d.2.2.1 d.2.2.2.1 d.2.2.2.2.1) fun d => by kernel_rfl
noncomputable def ref04_SameInts_l1b (n : Nat) (x1 : List Int) (x2 : List Int) (self : Int × Unit → Option ((Bool × Unit) ⊕ (Unit))) (d4 : Int × Unit) : Option ((Bool × Unit) ⊕ (Unit)) :=
 cond (decide (d4.1 < (x1.length : Int)))
 (ask (0 ≤ d4.1 ∧ d4.1 < (x1.length : Int)) (ask (0 ≤ d4.1 ∧ d4.1 < (x2.length : Int)) (cond (decide ((Ki_at x1 d4.1) ≠ (Ki_at x2 d4.1)))
 (some (.inl (false, ())))
 (self (IntKind.wrap .i64 (d4.1 + 1), ())))))
 (some (.inr ()))
noncomputable def ref04_SameInts_l1 (n : Nat) (x1 : List Int) (x2 : List Int) : Int × Unit → Option ((Bool × Unit) ⊕ (Unit)) := iter (ref04_SameInts_l1b n x1 x2) n
noncomputable def ref04_SameInts (n : Nat) (x1 : List Int) (x2 : List Int) : Option (Bool × Unit) :=
 cond (decide ((x1.length : Int) ≠ (x2.length : Int)))
 (some (false, ()))
 ((ref04_SameInts_l1 n x1 x2 (0, ())).bind (Sum.elim (fun d5 => some (d5.1, ())) (fun d6 => some (true, ()))))
def ref04_SameInts_s : Sig := ⟨[.c false [.row i_], .c false [.row i_]], [], .c false [.bool], []⟩
def ref04_SameInts_a : Ann := .s .d (.s .d (.s (.s .d (.b (.l [4, 5, 11, 12, 13, 14, 15, 16, 17, 18, 19, 20, 21, 22, 23, 24, 25] [] ⟨[(5, .c false [.int .i64])], []⟩ [(.ret, ⟨[(4, .c false [.bool])], []⟩), (.exit 0, ⟨[], []⟩)] .d))) .d))
noncomputable def ref04_SameInts_c (n : Nat) : Ctr Try.prog := .of Try.func17 n [] ref04_SameInts_a ref04_SameInts_s (fun d => ref04_SameInts n d.1 d.2.1) fun d => by kernel_rfl
noncomputable def net_After_l1b (n : Nat) (r8 : List Int × Unit) (x3 : List Ksiii) (self : Int × List Int × Unit → Option ((List Int × Unit))) (d11 : Int × List Int × Unit) : Option ((List Int × Unit)) :=
 cond (decide (d11.1 < (x3.length : Int)))
 (ask (0 ≤ d11.1 ∧ d11.1 < (x3.length : Int)) (ask (0 ≤ ((((Ksiii_at x3 d11.1).2).2).1) ∧ (((Ksiii_at x3 d11.1).2).2).1 < (r8.1.length : Int)) (ask (0 ≤ d11.1 ∧ d11.1 < (d11.2.1.length : Int)) (self (IntKind.wrap .i64 (d11.1 + 1), d11.2.1.set d11.1.toNat (Ki_at r8.1 ((((Ksiii_at x3 d11.1).2).2).1)), ())))))
 (some (d11.2.1, ()))
noncomputable def net_After_l1 (n : Nat) (r8 : List Int × Unit) (x3 : List Ksiii) : Int × List Int × Unit → Option ((List Int × Unit)) := iter (net_After_l1b n r8 x3) n
noncomputable def net_After (n : Nat) (x1 : List Kiiiiiii) (x2 : List Ksi) (x3 : List Ksiii) (x4 : List Kisi) (x5 : List Ksi) (x6 : List Int) (x7 : List Int) : Option (List Int × Unit) :=
 (net_Eval n x1 x2 x3 x4 x5 x6 x7).bind (fun r8 => ask ((0 ≤ (x3.length : Int) ∧ (x3.length : Int) ≤ (x3.length : Int)) ∧ (8 : Int) * (x3.length : Int) ≤ 281474976710656 ∧ (x3.length : Int) ≤ 281474976710656) ((net_After_l1 n r8 x3 (0, List.replicate (x3.length : Int).toNat 0, ())).bind (fun d12 => some (d12.1, ()))))
def net_After_s : Sig := ⟨[.c true [.row Kiiiiiii_, .row Ksi_, .row Ksiii_, .row Kisi_, .row Ksi_], .c false [.row i_], .c false [.row i_]], [], .c false [.row i_], []⟩
def net_After_a : Ann := .s .d (.s .d (.s .d (.s (.s .d (.b (.l [8, 9, 10, 18, 22, 23, 24, 25, 26, 27, 28, 29, 30, 31, 32, 33, 34, 35] [293] ⟨[(8, .c false [.con (.own 293 1)]), (22, .c false [.int .i64])], [(293, .row 3 i_)]⟩ [(.exit 0, ⟨[(8, .c false [.con (.own 293 1)])], [(293, .row 3 i_)]⟩)] .d))) .d)))
noncomputable def net_After_c (n : Nat) : Ctr Try.prog := .of Try.func22 n [net_Eval_c n] net_After_a net_After_s (fun d => net_After n d.1 d.2.1 d.2.2.1 d.2.2.2.1 d.2.2.2.2.1 d.2.2.2.2.2.1 d.2.2.2.2.2.2.1) fun d => by kernel_rfl
noncomputable def net_After_o_l1b (n : Nat) (r8 : List Int × Unit) (x3 : List Ksiii) (self : Int × List Int × Unit → Option ((List Int × Unit))) (d11 : Int × List Int × Unit) : Option ((List Int × Unit)) :=
 cond (decide (d11.1 < (x3.length : Int)))
 (ask (0 ≤ d11.1 ∧ d11.1 < (x3.length : Int)) (ask (0 ≤ ((((Ksiii_at x3 d11.1).2).2).1) ∧ (((Ksiii_at x3 d11.1).2).2).1 < (r8.1.length : Int)) (ask (0 ≤ d11.1 ∧ d11.1 < (d11.2.1.length : Int)) (self (IntKind.wrap .i64 (d11.1 + 1), d11.2.1.set d11.1.toNat (Ki_at r8.1 ((((Ksiii_at x3 d11.1).2).2).1)), ())))))
 (some (d11.2.1, ()))
noncomputable def net_After_o_l1 (n : Nat) (r8 : List Int × Unit) (x3 : List Ksiii) : Int × List Int × Unit → Option ((List Int × Unit)) := iter (net_After_o_l1b n r8 x3) n
noncomputable def net_After_o (n : Nat) (x1 : List Kiiiiiii) (x2 : List Ksi) (x3 : List Ksiii) (x4 : List Kisi) (x5 : List Ksi) (x6 : List Int) (x7 : List Int) : Option (List Int × Unit) :=
 (net_Eval n x1 x2 x3 x4 x5 x6 x7).bind (fun r8 => ask ((0 ≤ (x3.length : Int) ∧ (x3.length : Int) ≤ (x3.length : Int)) ∧ (8 : Int) * (x3.length : Int) ≤ 281474976710656 ∧ (x3.length : Int) ≤ 281474976710656) ((net_After_o_l1 n r8 x3 (0, List.replicate (x3.length : Int).toNat 0, ())).bind (fun d12 => some (d12.1, ()))))
def net_After_o_s : Sig := ⟨[.c true [.row Kiiiiiii_, .row Ksi_, .row Ksiii_, .row Kisi_, .row Ksi_], .c false [.row i_], .c false [.row i_]], [], .c false [.con (.own 293 1)], [(293, .row 3 i_)]⟩
def net_After_o_a : Ann := .s .d (.s .d (.s .d (.s (.s .d (.b (.l [8, 9, 10, 18, 22, 23, 24, 25, 26, 27, 28, 29, 30, 31, 32, 33, 34, 35] [293] ⟨[(8, .c false [.con (.own 293 1)]), (22, .c false [.int .i64])], [(293, .row 3 i_)]⟩ [(.exit 0, ⟨[(8, .c false [.con (.own 293 1)])], [(293, .row 3 i_)]⟩)] .d))) .d)))
noncomputable def net_After_o_c (n : Nat) : Ctr Try.prog := .of Try.func22 n [net_Eval_c n] net_After_o_a net_After_o_s (fun d => net_After_o n d.1 d.2.1 d.2.2.1 d.2.2.2.1 d.2.2.2.2.1 d.2.2.2.2.2.1 d.2.2.2.2.2.2.1) fun d => by kernel_rfl
noncomputable def law09_head (n : Nat) : Option (Bool × Unit) :=
 (law09_Base n).bind (fun r1 => (law09_Base n).bind (fun r2 => (net_Eval_o n r1.1 r1.2.1 r1.2.2.1 r1.2.2.2.1 r1.2.2.2.2.1 ([11] : List Int) ([1] : List Int)).bind (fun r3 => (net_Right n r1.1 r1.2.1 r1.2.2.1 r1.2.2.2.1 r1.2.2.2.2.1).bind (fun r4 => cond r4.1
 ((net_Right n r2.1 r2.2.1 ([((⟨#[110]⟩ : ByteArray), 1, 0, 0)] : List Ksiii) r2.2.2.2.1 r2.2.2.2.2.1).bind (fun r5 => cond (!r5.1)
 ((net_Right n ([] : List Kiiiiiii) ([] : List Ksi) ([] : List Ksiii) ([] : List Kisi) ([] : List Ksi)).bind (fun r6 => cond r6.1
 ((net_Same n r1.1 r1.2.1 r1.2.2.1 r1.2.2.2.1 r1.2.2.2.2.1 r1.1 r1.2.1 r1.2.2.1 r1.2.2.2.1 r1.2.2.2.2.1).bind (fun r7 => cond r7.1
 ((net_Same n r1.1 r1.2.1 r1.2.2.1 r1.2.2.2.1 r1.2.2.2.2.1 r2.1 r2.2.1 ([((⟨#[110]⟩ : ByteArray), 1, 0, 0)] : List Ksiii) r2.2.2.2.1 r2.2.2.2.2.1).bind (fun r8 => cond (!r8.1)
 ((net_First n r1.1 r1.2.1 r1.2.2.1 r1.2.2.2.1 r1.2.2.2.2.1).bind (fun r9 => (ref04_SameInts n r9.1 ([0] : List Int)).bind (fun r10 => cond r10.1
 ((net_After_o n r1.1 r1.2.1 r1.2.2.1 r1.2.2.2.1 r1.2.2.2.2.1 ([3] : List Int) ([1] : List Int)).bind (fun r11 => (ref04_SameInts n r11.1 ([4] : List Int)).bind (fun r12 => cond r12.1
 ((net_After_o n r1.1 r1.2.1 r1.2.2.1 r1.2.2.2.1 r1.2.2.2.2.1 ([11] : List Int) ([1] : List Int)).bind (fun r13 => (ref04_SameInts n r13.1 ([0] : List Int)).bind (fun r14 => cond r14.1
 ((net_After_o n r1.1 r1.2.1 r1.2.2.1 r1.2.2.2.1 r1.2.2.2.2.1 ([7] : List Int) ([0] : List Int)).bind (fun r15 => (ref04_SameInts n r15.1 ([7] : List Int)).bind (fun r16 => cond r16.1
 (cond (decide ((r3.1.length : Int) = 12))
 (ask (0 ≤ (3 : Int) ∧ 3 < (r3.1.length : Int)) (cond (decide ((Ki_at r3.1 3) = 12))
 (ask (0 ≤ (10 : Int) ∧ 10 < (r3.1.length : Int)) (cond (decide ((Ki_at r3.1 10) = 1))
 (ask (0 ≤ (11 : Int) ∧ 11 < (r3.1.length : Int)) (some (decide ((Ki_at r3.1 11) = 1), ())))
 (some (false, ()))))
 (some (false, ()))))
 (some (false, ())))
 (some (false, ())))))
 (some (false, ())))))
 (some (false, ())))))
 (some (false, ())))))
 (some (false, ()))))
 (some (false, ()))))
 (some (false, ()))))
 (some (false, ()))))
 (some (false, ()))))))
def law09_head_s : Sig := ⟨[], [], .c false [.bool], []⟩
def law09_head_a : Ann := .d
noncomputable def law09_head_c (n : Nat) : Ctr Try.prog := .of Try.func10 n [law09_Base_c n, net_Eval_o_c n, net_Right_c n, net_Same_c n, net_First_c n, ref04_SameInts_c n, net_After_o_c n] law09_head_a law09_head_s (fun d => law09_head n) fun d => by kernel_rfl
noncomputable def law09_Great (n : Nat) (x1 : List Kiiiiiii) (x2 : List Ksi) (x3 : List Ksiii) (x4 : List Kisi) (x5 : List Ksi) : Option (Bool × Unit) :=
 cond (decide ((300 : Int) < (x1.length : Int)))
 (some (true, ()))
 (cond (decide ((100 : Int) < (x2.length : Int)))
 (some (true, ()))
 (cond (decide ((300 : Int) < (x3.length : Int)))
 (some (true, ()))
 (cond (decide ((40 : Int) < (x4.length : Int)))
 (some (true, ()))
 (some (decide ((300 : Int) < (x5.length : Int)), ())))))
def law09_Great_s : Sig := ⟨[.c true [.row Kiiiiiii_, .row Ksi_, .row Ksiii_, .row Kisi_, .row Ksi_]], [], .c false [.bool], []⟩
def law09_Great_a : Ann := .d
noncomputable def law09_Great_c (n : Nat) : Ctr Try.prog := .of Try.func11 n [] law09_Great_a law09_Great_s (fun d => law09_Great n d.1 d.2.1 d.2.2.1 d.2.2.2.1 d.2.2.2.2.1) fun d => by kernel_rfl
noncomputable def ref09_operands (n : Nat) (x1 : Int) : Option (Int × Unit) :=
 cond (decide (x1 = 1))
 (cond (decide (x1 = 1))
 (some (0, ()))
 (cond (decide (x1 = 3))
 (cond (decide (x1 = 3))
 (some (1, ()))
 (cond (decide (x1 = 6))
 (cond (decide (x1 = 6))
 (some (2, ()))
 (cond (decide (x1 = 16))
 (some (3, ()))
 (some ((-1), ()))))
 (cond (decide (x1 = 7))
 (cond (decide (x1 = 7))
 (some (2, ()))
 (cond (decide (x1 = 16))
 (some (3, ()))
 (some ((-1), ()))))
 (cond (decide (x1 = 8))
 (cond (decide (x1 = 8))
 (some (2, ()))
 (cond (decide (x1 = 16))
 (some (3, ()))
 (some ((-1), ()))))
 (cond (decide (x1 = 9))
 (cond (decide (x1 = 9))
 (some (2, ()))
 (cond (decide (x1 = 16))
 (some (3, ()))
 (some ((-1), ()))))
 (cond (decide (x1 = 10))
 (cond (decide (x1 = 10))
 (some (2, ()))
 (cond (decide (x1 = 16))
 (some (3, ()))
 (some ((-1), ()))))
 (cond (decide (x1 = 11))
 (cond (decide (x1 = 11))
 (some (2, ()))
 (cond (decide (x1 = 16))
 (some (3, ()))
 (some ((-1), ()))))
 (cond (decide (x1 = 12))
 (cond (decide (x1 = 12))
 (some (2, ()))
 (cond (decide (x1 = 16))
 (some (3, ()))
 (some ((-1), ()))))
 (cond (decide (x1 = 13))
 (cond (decide (x1 = 13))
 (some (2, ()))
 (cond (decide (x1 = 16))
 (some (3, ()))
 (some ((-1), ()))))
 (cond (decide (x1 = 14))
 (cond (decide (x1 = 14))
 (some (2, ()))
 (cond (decide (x1 = 16))
 (some (3, ()))
 (some ((-1), ()))))
 (cond (decide (x1 = 15))
 (cond (decide (x1 = 15))
 (some (2, ()))
 (cond (decide (x1 = 16))
 (some (3, ()))
 (some ((-1), ()))))
 (cond (decide (x1 = 17))
 (some (2, ()))
 (cond (decide (x1 = 16))
 (some (3, ()))
 (some ((-1), ())))))))))))))))
 (cond (decide (x1 = 4))
 (cond (decide (x1 = 4))
 (some (1, ()))
 (cond (decide (x1 = 6))
 (cond (decide (x1 = 6))
 (some (2, ()))
 (cond (decide (x1 = 16))
 (some (3, ()))
 (some ((-1), ()))))
 (cond (decide (x1 = 7))
 (cond (decide (x1 = 7))
 (some (2, ()))
 (cond (decide (x1 = 16))
 (some (3, ()))
 (some ((-1), ()))))
 (cond (decide (x1 = 8))
 (cond (decide (x1 = 8))
 (some (2, ()))
 (cond (decide (x1 = 16))
 (some (3, ()))
 (some ((-1), ()))))
 (cond (decide (x1 = 9))
 (cond (decide (x1 = 9))
 (some (2, ()))
 (cond (decide (x1 = 16))
 (some (3, ()))
 (some ((-1), ()))))
 (cond (decide (x1 = 10))
 (cond (decide (x1 = 10))
 (some (2, ()))
 (cond (decide (x1 = 16))
 (some (3, ()))
 (some ((-1), ()))))
 (cond (decide (x1 = 11))
 (cond (decide (x1 = 11))
 (some (2, ()))
 (cond (decide (x1 = 16))
 (some (3, ()))
 (some ((-1), ()))))
 (cond (decide (x1 = 12))
 (cond (decide (x1 = 12))
 (some (2, ()))
 (cond (decide (x1 = 16))
 (some (3, ()))
 (some ((-1), ()))))
 (cond (decide (x1 = 13))
 (cond (decide (x1 = 13))
 (some (2, ()))
 (cond (decide (x1 = 16))
 (some (3, ()))
 (some ((-1), ()))))
 (cond (decide (x1 = 14))
 (cond (decide (x1 = 14))
 (some (2, ()))
 (cond (decide (x1 = 16))
 (some (3, ()))
 (some ((-1), ()))))
 (cond (decide (x1 = 15))
 (cond (decide (x1 = 15))
 (some (2, ()))
 (cond (decide (x1 = 16))
 (some (3, ()))
 (some ((-1), ()))))
 (cond (decide (x1 = 17))
 (some (2, ()))
 (cond (decide (x1 = 16))
 (some (3, ()))
 (some ((-1), ())))))))))))))))
 (cond (decide (x1 = 5))
 (cond (decide (x1 = 5))
 (some (1, ()))
 (cond (decide (x1 = 6))
 (cond (decide (x1 = 6))
 (some (2, ()))
 (cond (decide (x1 = 16))
 (some (3, ()))
 (some ((-1), ()))))
 (cond (decide (x1 = 7))
 (cond (decide (x1 = 7))
 (some (2, ()))
 (cond (decide (x1 = 16))
 (some (3, ()))
 (some ((-1), ()))))
 (cond (decide (x1 = 8))
 (cond (decide (x1 = 8))
 (some (2, ()))
 (cond (decide (x1 = 16))
 (some (3, ()))
 (some ((-1), ()))))
 (cond (decide (x1 = 9))
 (cond (decide (x1 = 9))
 (some (2, ()))
 (cond (decide (x1 = 16))
 (some (3, ()))
 (some ((-1), ()))))
 (cond (decide (x1 = 10))
 (cond (decide (x1 = 10))
 (some (2, ()))
 (cond (decide (x1 = 16))
 (some (3, ()))
 (some ((-1), ()))))
 (cond (decide (x1 = 11))
 (cond (decide (x1 = 11))
 (some (2, ()))
 (cond (decide (x1 = 16))
 (some (3, ()))
 (some ((-1), ()))))
 (cond (decide (x1 = 12))
 (cond (decide (x1 = 12))
 (some (2, ()))
 (cond (decide (x1 = 16))
 (some (3, ()))
 (some ((-1), ()))))
 (cond (decide (x1 = 13))
 (cond (decide (x1 = 13))
 (some (2, ()))
 (cond (decide (x1 = 16))
 (some (3, ()))
 (some ((-1), ()))))
 (cond (decide (x1 = 14))
 (cond (decide (x1 = 14))
 (some (2, ()))
 (cond (decide (x1 = 16))
 (some (3, ()))
 (some ((-1), ()))))
 (cond (decide (x1 = 15))
 (cond (decide (x1 = 15))
 (some (2, ()))
 (cond (decide (x1 = 16))
 (some (3, ()))
 (some ((-1), ()))))
 (cond (decide (x1 = 17))
 (some (2, ()))
 (cond (decide (x1 = 16))
 (some (3, ()))
 (some ((-1), ())))))))))))))))
 (cond (decide (x1 = 18))
 (some (1, ()))
 (cond (decide (x1 = 6))
 (cond (decide (x1 = 6))
 (some (2, ()))
 (cond (decide (x1 = 16))
 (some (3, ()))
 (some ((-1), ()))))
 (cond (decide (x1 = 7))
 (cond (decide (x1 = 7))
 (some (2, ()))
 (cond (decide (x1 = 16))
 (some (3, ()))
 (some ((-1), ()))))
 (cond (decide (x1 = 8))
 (cond (decide (x1 = 8))
 (some (2, ()))
 (cond (decide (x1 = 16))
 (some (3, ()))
 (some ((-1), ()))))
 (cond (decide (x1 = 9))
 (cond (decide (x1 = 9))
 (some (2, ()))
 (cond (decide (x1 = 16))
 (some (3, ()))
 (some ((-1), ()))))
 (cond (decide (x1 = 10))
 (cond (decide (x1 = 10))
 (some (2, ()))
 (cond (decide (x1 = 16))
 (some (3, ()))
 (some ((-1), ()))))
 (cond (decide (x1 = 11))
 (cond (decide (x1 = 11))
 (some (2, ()))
 (cond (decide (x1 = 16))
 (some (3, ()))
 (some ((-1), ()))))
 (cond (decide (x1 = 12))
 (cond (decide (x1 = 12))
 (some (2, ()))
 (cond (decide (x1 = 16))
 (some (3, ()))
 (some ((-1), ()))))
 (cond (decide (x1 = 13))
 (cond (decide (x1 = 13))
 (some (2, ()))
 (cond (decide (x1 = 16))
 (some (3, ()))
 (some ((-1), ()))))
 (cond (decide (x1 = 14))
 (cond (decide (x1 = 14))
 (some (2, ()))
 (cond (decide (x1 = 16))
 (some (3, ()))
 (some ((-1), ()))))
 (cond (decide (x1 = 15))
 (cond (decide (x1 = 15))
 (some (2, ()))
 (cond (decide (x1 = 16))
 (some (3, ()))
 (some ((-1), ()))))
 (cond (decide (x1 = 17))
 (some (2, ()))
 (cond (decide (x1 = 16))
 (some (3, ()))
 (some ((-1), ())))))))))))))))))))
 (cond (decide (x1 = 21))
 (cond (decide (x1 = 21))
 (some (0, ()))
 (cond (decide (x1 = 3))
 (cond (decide (x1 = 3))
 (some (1, ()))
 (cond (decide (x1 = 6))
 (cond (decide (x1 = 6))
 (some (2, ()))
 (cond (decide (x1 = 16))
 (some (3, ()))
 (some ((-1), ()))))
 (cond (decide (x1 = 7))
 (cond (decide (x1 = 7))
 (some (2, ()))
 (cond (decide (x1 = 16))
 (some (3, ()))
 (some ((-1), ()))))
 (cond (decide (x1 = 8))
 (cond (decide (x1 = 8))
 (some (2, ()))
 (cond (decide (x1 = 16))
 (some (3, ()))
 (some ((-1), ()))))
 (cond (decide (x1 = 9))
 (cond (decide (x1 = 9))
 (some (2, ()))
 (cond (decide (x1 = 16))
 (some (3, ()))
 (some ((-1), ()))))
 (cond (decide (x1 = 10))
 (cond (decide (x1 = 10))
 (some (2, ()))
 (cond (decide (x1 = 16))
 (some (3, ()))
 (some ((-1), ()))))
 (cond (decide (x1 = 11))
 (cond (decide (x1 = 11))
 (some (2, ()))
 (cond (decide (x1 = 16))
 (some (3, ()))
 (some ((-1), ()))))
 (cond (decide (x1 = 12))
 (cond (decide (x1 = 12))
 (some (2, ()))
 (cond (decide (x1 = 16))
 (some (3, ()))
 (some ((-1), ()))))
 (cond (decide (x1 = 13))
 (cond (decide (x1 = 13))
 (some (2, ()))
 (cond (decide (x1 = 16))
 (some (3, ()))
 (some ((-1), ()))))
 (cond (decide (x1 = 14))
 (cond (decide (x1 = 14))
 (some (2, ()))
 (cond (decide (x1 = 16))
 (some (3, ()))
 (some ((-1), ()))))
 (cond (decide (x1 = 15))
 (cond (decide (x1 = 15))
 (some (2, ()))
 (cond (decide (x1 = 16))
 (some (3, ()))
 (some ((-1), ()))))
 (cond (decide (x1 = 17))
 (some (2, ()))
 (cond (decide (x1 = 16))
 (some (3, ()))
 (some ((-1), ())))))))))))))))
 (cond (decide (x1 = 4))
 (cond (decide (x1 = 4))
 (some (1, ()))
 (cond (decide (x1 = 6))
 (cond (decide (x1 = 6))
 (some (2, ()))
 (cond (decide (x1 = 16))
 (some (3, ()))
 (some ((-1), ()))))
 (cond (decide (x1 = 7))
 (cond (decide (x1 = 7))
 (some (2, ()))
 (cond (decide (x1 = 16))
 (some (3, ()))
 (some ((-1), ()))))
 (cond (decide (x1 = 8))
 (cond (decide (x1 = 8))
 (some (2, ()))
 (cond (decide (x1 = 16))
 (some (3, ()))
 (some ((-1), ()))))
 (cond (decide (x1 = 9))
 (cond (decide (x1 = 9))
 (some (2, ()))
 (cond (decide (x1 = 16))
 (some (3, ()))
 (some ((-1), ()))))
 (cond (decide (x1 = 10))
 (cond (decide (x1 = 10))
 (some (2, ()))
 (cond (decide (x1 = 16))
 (some (3, ()))
 (some ((-1), ()))))
 (cond (decide (x1 = 11))
 (cond (decide (x1 = 11))
 (some (2, ()))
 (cond (decide (x1 = 16))
 (some (3, ()))
 (some ((-1), ()))))
 (cond (decide (x1 = 12))
 (cond (decide (x1 = 12))
 (some (2, ()))
 (cond (decide (x1 = 16))
 (some (3, ()))
 (some ((-1), ()))))
 (cond (decide (x1 = 13))
 (cond (decide (x1 = 13))
 (some (2, ()))
 (cond (decide (x1 = 16))
 (some (3, ()))
 (some ((-1), ()))))
 (cond (decide (x1 = 14))
 (cond (decide (x1 = 14))
 (some (2, ()))
 (cond (decide (x1 = 16))
 (some (3, ()))
 (some ((-1), ()))))
 (cond (decide (x1 = 15))
 (cond (decide (x1 = 15))
 (some (2, ()))
 (cond (decide (x1 = 16))
 (some (3, ()))
 (some ((-1), ()))))
 (cond (decide (x1 = 17))
 (some (2, ()))
 (cond (decide (x1 = 16))
 (some (3, ()))
 (some ((-1), ())))))))))))))))
 (cond (decide (x1 = 5))
 (cond (decide (x1 = 5))
 (some (1, ()))
 (cond (decide (x1 = 6))
 (cond (decide (x1 = 6))
 (some (2, ()))
 (cond (decide (x1 = 16))
 (some (3, ()))
 (some ((-1), ()))))
 (cond (decide (x1 = 7))
 (cond (decide (x1 = 7))
 (some (2, ()))
 (cond (decide (x1 = 16))
 (some (3, ()))
 (some ((-1), ()))))
 (cond (decide (x1 = 8))
 (cond (decide (x1 = 8))
 (some (2, ()))
 (cond (decide (x1 = 16))
 (some (3, ()))
 (some ((-1), ()))))
 (cond (decide (x1 = 9))
 (cond (decide (x1 = 9))
 (some (2, ()))
 (cond (decide (x1 = 16))
 (some (3, ()))
 (some ((-1), ()))))
 (cond (decide (x1 = 10))
 (cond (decide (x1 = 10))
 (some (2, ()))
 (cond (decide (x1 = 16))
 (some (3, ()))
 (some ((-1), ()))))
 (cond (decide (x1 = 11))
 (cond (decide (x1 = 11))
 (some (2, ()))
 (cond (decide (x1 = 16))
 (some (3, ()))
 (some ((-1), ()))))
 (cond (decide (x1 = 12))
 (cond (decide (x1 = 12))
 (some (2, ()))
 (cond (decide (x1 = 16))
 (some (3, ()))
 (some ((-1), ()))))
 (cond (decide (x1 = 13))
 (cond (decide (x1 = 13))
 (some (2, ()))
 (cond (decide (x1 = 16))
 (some (3, ()))
 (some ((-1), ()))))
 (cond (decide (x1 = 14))
 (cond (decide (x1 = 14))
 (some (2, ()))
 (cond (decide (x1 = 16))
 (some (3, ()))
 (some ((-1), ()))))
 (cond (decide (x1 = 15))
 (cond (decide (x1 = 15))
 (some (2, ()))
 (cond (decide (x1 = 16))
 (some (3, ()))
 (some ((-1), ()))))
 (cond (decide (x1 = 17))
 (some (2, ()))
 (cond (decide (x1 = 16))
 (some (3, ()))
 (some ((-1), ())))))))))))))))
 (cond (decide (x1 = 18))
 (some (1, ()))
 (cond (decide (x1 = 6))
 (cond (decide (x1 = 6))
 (some (2, ()))
 (cond (decide (x1 = 16))
 (some (3, ()))
 (some ((-1), ()))))
 (cond (decide (x1 = 7))
 (cond (decide (x1 = 7))
 (some (2, ()))
 (cond (decide (x1 = 16))
 (some (3, ()))
 (some ((-1), ()))))
 (cond (decide (x1 = 8))
 (cond (decide (x1 = 8))
 (some (2, ()))
 (cond (decide (x1 = 16))
 (some (3, ()))
 (some ((-1), ()))))
 (cond (decide (x1 = 9))
 (cond (decide (x1 = 9))
 (some (2, ()))
 (cond (decide (x1 = 16))
 (some (3, ()))
 (some ((-1), ()))))
 (cond (decide (x1 = 10))
 (cond (decide (x1 = 10))
 (some (2, ()))
 (cond (decide (x1 = 16))
 (some (3, ()))
 (some ((-1), ()))))
 (cond (decide (x1 = 11))
 (cond (decide (x1 = 11))
 (some (2, ()))
 (cond (decide (x1 = 16))
 (some (3, ()))
 (some ((-1), ()))))
 (cond (decide (x1 = 12))
 (cond (decide (x1 = 12))
 (some (2, ()))
 (cond (decide (x1 = 16))
 (some (3, ()))
 (some ((-1), ()))))
 (cond (decide (x1 = 13))
 (cond (decide (x1 = 13))
 (some (2, ()))
 (cond (decide (x1 = 16))
 (some (3, ()))
 (some ((-1), ()))))
 (cond (decide (x1 = 14))
 (cond (decide (x1 = 14))
 (some (2, ()))
 (cond (decide (x1 = 16))
 (some (3, ()))
 (some ((-1), ()))))
 (cond (decide (x1 = 15))
 (cond (decide (x1 = 15))
 (some (2, ()))
 (cond (decide (x1 = 16))
 (some (3, ()))
 (some ((-1), ()))))
 (cond (decide (x1 = 17))
 (some (2, ()))
 (cond (decide (x1 = 16))
 (some (3, ()))
 (some ((-1), ())))))))))))))))))))
 (cond (decide (x1 = 22))
 (some (0, ()))
 (cond (decide (x1 = 3))
 (cond (decide (x1 = 3))
 (some (1, ()))
 (cond (decide (x1 = 6))
 (cond (decide (x1 = 6))
 (some (2, ()))
 (cond (decide (x1 = 16))
 (some (3, ()))
 (some ((-1), ()))))
 (cond (decide (x1 = 7))
 (cond (decide (x1 = 7))
 (some (2, ()))
 (cond (decide (x1 = 16))
 (some (3, ()))
 (some ((-1), ()))))
 (cond (decide (x1 = 8))
 (cond (decide (x1 = 8))
 (some (2, ()))
 (cond (decide (x1 = 16))
 (some (3, ()))
 (some ((-1), ()))))
 (cond (decide (x1 = 9))
 (cond (decide (x1 = 9))
 (some (2, ()))
 (cond (decide (x1 = 16))
 (some (3, ()))
 (some ((-1), ()))))
 (cond (decide (x1 = 10))
 (cond (decide (x1 = 10))
 (some (2, ()))
 (cond (decide (x1 = 16))
 (some (3, ()))
 (some ((-1), ()))))
 (cond (decide (x1 = 11))
 (cond (decide (x1 = 11))
 (some (2, ()))
 (cond (decide (x1 = 16))
 (some (3, ()))
 (some ((-1), ()))))
 (cond (decide (x1 = 12))
 (cond (decide (x1 = 12))
 (some (2, ()))
 (cond (decide (x1 = 16))
 (some (3, ()))
 (some ((-1), ()))))
 (cond (decide (x1 = 13))
 (cond (decide (x1 = 13))
 (some (2, ()))
 (cond (decide (x1 = 16))
 (some (3, ()))
 (some ((-1), ()))))
 (cond (decide (x1 = 14))
 (cond (decide (x1 = 14))
 (some (2, ()))
 (cond (decide (x1 = 16))
 (some (3, ()))
 (some ((-1), ()))))
 (cond (decide (x1 = 15))
 (cond (decide (x1 = 15))
 (some (2, ()))
 (cond (decide (x1 = 16))
 (some (3, ()))
 (some ((-1), ()))))
 (cond (decide (x1 = 17))
 (some (2, ()))
 (cond (decide (x1 = 16))
 (some (3, ()))
 (some ((-1), ())))))))))))))))
 (cond (decide (x1 = 4))
 (cond (decide (x1 = 4))
 (some (1, ()))
 (cond (decide (x1 = 6))
 (cond (decide (x1 = 6))
 (some (2, ()))
 (cond (decide (x1 = 16))
 (some (3, ()))
 (some ((-1), ()))))
 (cond (decide (x1 = 7))
 (cond (decide (x1 = 7))
 (some (2, ()))
 (cond (decide (x1 = 16))
 (some (3, ()))
 (some ((-1), ()))))
 (cond (decide (x1 = 8))
 (cond (decide (x1 = 8))
 (some (2, ()))
 (cond (decide (x1 = 16))
 (some (3, ()))
 (some ((-1), ()))))
 (cond (decide (x1 = 9))
 (cond (decide (x1 = 9))
 (some (2, ()))
 (cond (decide (x1 = 16))
 (some (3, ()))
 (some ((-1), ()))))
 (cond (decide (x1 = 10))
 (cond (decide (x1 = 10))
 (some (2, ()))
 (cond (decide (x1 = 16))
 (some (3, ()))
 (some ((-1), ()))))
 (cond (decide (x1 = 11))
 (cond (decide (x1 = 11))
 (some (2, ()))
 (cond (decide (x1 = 16))
 (some (3, ()))
 (some ((-1), ()))))
 (cond (decide (x1 = 12))
 (cond (decide (x1 = 12))
 (some (2, ()))
 (cond (decide (x1 = 16))
 (some (3, ()))
 (some ((-1), ()))))
 (cond (decide (x1 = 13))
 (cond (decide (x1 = 13))
 (some (2, ()))
 (cond (decide (x1 = 16))
 (some (3, ()))
 (some ((-1), ()))))
 (cond (decide (x1 = 14))
 (cond (decide (x1 = 14))
 (some (2, ()))
 (cond (decide (x1 = 16))
 (some (3, ()))
 (some ((-1), ()))))
 (cond (decide (x1 = 15))
 (cond (decide (x1 = 15))
 (some (2, ()))
 (cond (decide (x1 = 16))
 (some (3, ()))
 (some ((-1), ()))))
 (cond (decide (x1 = 17))
 (some (2, ()))
 (cond (decide (x1 = 16))
 (some (3, ()))
 (some ((-1), ())))))))))))))))
 (cond (decide (x1 = 5))
 (cond (decide (x1 = 5))
 (some (1, ()))
 (cond (decide (x1 = 6))
 (cond (decide (x1 = 6))
 (some (2, ()))
 (cond (decide (x1 = 16))
 (some (3, ()))
 (some ((-1), ()))))
 (cond (decide (x1 = 7))
 (cond (decide (x1 = 7))
 (some (2, ()))
 (cond (decide (x1 = 16))
 (some (3, ()))
 (some ((-1), ()))))
 (cond (decide (x1 = 8))
 (cond (decide (x1 = 8))
 (some (2, ()))
 (cond (decide (x1 = 16))
 (some (3, ()))
 (some ((-1), ()))))
 (cond (decide (x1 = 9))
 (cond (decide (x1 = 9))
 (some (2, ()))
 (cond (decide (x1 = 16))
 (some (3, ()))
 (some ((-1), ()))))
 (cond (decide (x1 = 10))
 (cond (decide (x1 = 10))
 (some (2, ()))
 (cond (decide (x1 = 16))
 (some (3, ()))
 (some ((-1), ()))))
 (cond (decide (x1 = 11))
 (cond (decide (x1 = 11))
 (some (2, ()))
 (cond (decide (x1 = 16))
 (some (3, ()))
 (some ((-1), ()))))
 (cond (decide (x1 = 12))
 (cond (decide (x1 = 12))
 (some (2, ()))
 (cond (decide (x1 = 16))
 (some (3, ()))
 (some ((-1), ()))))
 (cond (decide (x1 = 13))
 (cond (decide (x1 = 13))
 (some (2, ()))
 (cond (decide (x1 = 16))
 (some (3, ()))
 (some ((-1), ()))))
 (cond (decide (x1 = 14))
 (cond (decide (x1 = 14))
 (some (2, ()))
 (cond (decide (x1 = 16))
 (some (3, ()))
 (some ((-1), ()))))
 (cond (decide (x1 = 15))
 (cond (decide (x1 = 15))
 (some (2, ()))
 (cond (decide (x1 = 16))
 (some (3, ()))
 (some ((-1), ()))))
 (cond (decide (x1 = 17))
 (some (2, ()))
 (cond (decide (x1 = 16))
 (some (3, ()))
 (some ((-1), ())))))))))))))))
 (cond (decide (x1 = 18))
 (some (1, ()))
 (cond (decide (x1 = 6))
 (cond (decide (x1 = 6))
 (some (2, ()))
 (cond (decide (x1 = 16))
 (some (3, ()))
 (some ((-1), ()))))
 (cond (decide (x1 = 7))
 (cond (decide (x1 = 7))
 (some (2, ()))
 (cond (decide (x1 = 16))
 (some (3, ()))
 (some ((-1), ()))))
 (cond (decide (x1 = 8))
 (cond (decide (x1 = 8))
 (some (2, ()))
 (cond (decide (x1 = 16))
 (some (3, ()))
 (some ((-1), ()))))
 (cond (decide (x1 = 9))
 (cond (decide (x1 = 9))
 (some (2, ()))
 (cond (decide (x1 = 16))
 (some (3, ()))
 (some ((-1), ()))))
 (cond (decide (x1 = 10))
 (cond (decide (x1 = 10))
 (some (2, ()))
 (cond (decide (x1 = 16))
 (some (3, ()))
 (some ((-1), ()))))
 (cond (decide (x1 = 11))
 (cond (decide (x1 = 11))
 (some (2, ()))
 (cond (decide (x1 = 16))
 (some (3, ()))
 (some ((-1), ()))))
 (cond (decide (x1 = 12))
 (cond (decide (x1 = 12))
 (some (2, ()))
 (cond (decide (x1 = 16))
 (some (3, ()))
 (some ((-1), ()))))
 (cond (decide (x1 = 13))
 (cond (decide (x1 = 13))
 (some (2, ()))
 (cond (decide (x1 = 16))
 (some (3, ()))
 (some ((-1), ()))))
 (cond (decide (x1 = 14))
 (cond (decide (x1 = 14))
 (some (2, ()))
 (cond (decide (x1 = 16))
 (some (3, ()))
 (some ((-1), ()))))
 (cond (decide (x1 = 15))
 (cond (decide (x1 = 15))
 (some (2, ()))
 (cond (decide (x1 = 16))
 (some (3, ()))
 (some ((-1), ()))))
 (cond (decide (x1 = 17))
 (some (2, ()))
 (cond (decide (x1 = 16))
 (some (3, ()))
 (some ((-1), ()))))))))))))))))))))
def ref09_operands_s : Sig := ⟨[.c false [.int .i64]], [], .c false [.int .i64], []⟩
def ref09_operands_a : Ann := .d
noncomputable def ref09_operands_c (n : Nat) : Ctr Try.prog := .of Try.func51 n [] ref09_operands_a ref09_operands_s (fun d => ref09_operands n d.1) fun d => by kernel_rfl
noncomputable def ref09_wide (n : Nat) (x1 : List Kiiiiiii) (x2 : List Ksi) (x3 : List Ksiii) (x4 : List Kisi) (x5 : List Ksi) (x6 : Int) (x7 : Int) : Option (Int × Unit) :=
 cond (decide (x6 < 0))
 (some (0, ()))
 (cond (decide (x7 ≤ x6))
 (some (0, ()))
 (ask (0 ≤ x6 ∧ x6 < (x1.length : Int)) (some (((Kiiiiiii_at x1 x6).2).1, ()))))
def ref09_wide_s : Sig := ⟨[.c true [.row Kiiiiiii_, .row Ksi_, .row Ksiii_, .row Kisi_, .row Ksi_], .c false [.int .i64], .c false [.int .i64]], [], .c false [.int .i64], []⟩
def ref09_wide_a : Ann := .d
noncomputable def ref09_wide_c (n : Nat) : Ctr Try.prog := .of Try.func53 n [] ref09_wide_a ref09_wide_s (fun d => ref09_wide n d.1 d.2.1 d.2.2.1 d.2.2.2.1 d.2.2.2.2.1 d.2.2.2.2.2.1 d.2.2.2.2.2.2.1) fun d => by kernel_rfl
noncomputable def ref08_Mask (n : Nat) (x1 : Int) : Option (Int × Unit) :=
 ask (0 ≤ x1) (some (IntKind.wrap .i64 ((shlI .i64 1 x1) - 1), ()))
def ref08_Mask_s : Sig := ⟨[.c false [.int .i64]], [], .c false [.int .i64], []⟩
def ref08_Mask_a : Ann := .d
noncomputable def ref08_Mask_c (n : Nat) : Ctr Try.prog := .of Try.func24 n [] ref08_Mask_a ref08_Mask_s (fun d => ref08_Mask n d.1) fun d => by kernel_rfl
noncomputable def ref09_fits_j1 (n : Nat) (x1 : List Kiiiiiii) (x6 : Int) : Option ((Bool × Unit)) :=
 cond (decide ((((((((Kiiiiiii_at x1 x6).2).2).2).2).2).1) = 0))
 (some (decide ((((((((Kiiiiiii_at x1 x6).2).2).2).2).2).2) = 0), ()))
 (some (false, ()))
noncomputable def ref09_fits_j2 (n : Nat) (x1 : List Kiiiiiii) (x6 : Int) : Option ((Bool × Unit)) :=
 cond (decide (((Kiiiiiii_at x1 x6).1) = 6))
 (some (decide (((Kiiiiiii_at x1 x6).1) = 6), ()))
 (cond (decide (((Kiiiiiii_at x1 x6).1) = 7))
 (some (decide (((Kiiiiiii_at x1 x6).1) = 7), ()))
 (cond (decide (((Kiiiiiii_at x1 x6).1) = 8))
 (some (decide (((Kiiiiiii_at x1 x6).1) = 8), ()))
 (cond (decide (((Kiiiiiii_at x1 x6).1) = 9))
 (some (decide (((Kiiiiiii_at x1 x6).1) = 9), ()))
 (cond (decide (((Kiiiiiii_at x1 x6).1) = 10))
 (some (decide (((Kiiiiiii_at x1 x6).1) = 10), ()))
 (some (decide (((Kiiiiiii_at x1 x6).1) = 11), ()))))))
noncomputable def ref09_fits_j3 (n : Nat) (x1 : List Kiiiiiii) (x6 : Int) : Option ((Bool × Unit)) :=
 cond (decide (((Kiiiiiii_at x1 x6).1) = 12))
 (some (decide (((Kiiiiiii_at x1 x6).1) = 12), ()))
 (cond (decide (((Kiiiiiii_at x1 x6).1) = 13))
 (some (decide (((Kiiiiiii_at x1 x6).1) = 13), ()))
 (cond (decide (((Kiiiiiii_at x1 x6).1) = 14))
 (some (decide (((Kiiiiiii_at x1 x6).1) = 14), ()))
 (some (decide (((Kiiiiiii_at x1 x6).1) = 15), ()))))
noncomputable def ref09_fits (n : Nat) (x1 : List Kiiiiiii) (x2 : List Ksi) (x3 : List Ksiii) (x4 : List Kisi) (x5 : List Ksi) (x6 : Int) : Option (Bool × Unit) :=
 ask (0 ≤ x6 ∧ x6 < (x1.length : Int)) ((ref09_wide n x1 x2 x3 x4 x5 ((((Kiiiiiii_at x1 x6).2).2).1) x6).bind (fun r7 => (ref09_wide n x1 x2 x3 x4 x5 (((((Kiiiiiii_at x1 x6).2).2).2).1) x6).bind (fun r8 => (ref09_wide n x1 x2 x3 x4 x5 ((((((Kiiiiiii_at x1 x6).2).2).2).2).1) x6).bind (fun r9 => (ref09_fits_j1 n x1 x6).bind (fun d10 => cond (decide (((Kiiiiiii_at x1 x6).1) = 1))
 (cond (decide ((0 : Int) ≤ (((((((Kiiiiiii_at x1 x6).2).2).2).2).2).1)))
 ((ref08_Mask n (((Kiiiiiii_at x1 x6).2).1)).bind (fun r11 => cond (decide ((((((((Kiiiiiii_at x1 x6).2).2).2).2).2).1) ≤ r11.1))
 (some (decide ((((((((Kiiiiiii_at x1 x6).2).2).2).2).2).2) = 0), ()))
 (some (false, ()))))
 (some (false, ())))
 (((cond (decide (((Kiiiiiii_at x1 x6).1) = 21))
 (some (decide (((Kiiiiiii_at x1 x6).1) = 21), ()))
 (some (decide (((Kiiiiiii_at x1 x6).1) = 22), ()))) : Option ((Bool × Unit))).bind (fun d12 => cond d12.1
 (some (d10.1, ()))
 (cond (decide (((Kiiiiiii_at x1 x6).1) = 3))
 (cond d10.1
 (some (decide (r7.1 = (((Kiiiiiii_at x1 x6).2).1)), ()))
 (some (false, ())))
 (((cond (decide (((Kiiiiiii_at x1 x6).1) = 4))
 (some (decide (((Kiiiiiii_at x1 x6).1) = 4), ()))
 (some (decide (((Kiiiiiii_at x1 x6).1) = 5), ()))) : Option ((Bool × Unit))).bind (fun d13 => cond d13.1
 (cond (decide ((((((((Kiiiiiii_at x1 x6).2).2).2).2).2).1) = 0))
 (cond (decide ((((Kiiiiiii_at x1 x6).2).1) = 1))
 (cond (decide (r7.1 = (((((((Kiiiiiii_at x1 x6).2).2).2).2).2).2)))
 (some (decide ((0 : Int) < r7.1), ()))
 (some (false, ())))
 (some (false, ())))
 (some (false, ())))
 ((ref09_fits_j2 n x1 x6).bind (fun d14 => cond d14.1
 (cond d10.1
 (cond (decide (r7.1 = (((Kiiiiiii_at x1 x6).2).1)))
 (some (decide (r8.1 = (((Kiiiiiii_at x1 x6).2).1)), ()))
 (some (false, ())))
 (some (false, ())))
 ((ref09_fits_j3 n x1 x6).bind (fun d15 => cond d15.1
 (cond (decide ((((((((Kiiiiiii_at x1 x6).2).2).2).2).2).1) = 0))
 (cond (decide ((((Kiiiiiii_at x1 x6).2).1) = 1))
 (cond (decide (r7.1 = (((((((Kiiiiiii_at x1 x6).2).2).2).2).2).2)))
 (cond (decide (r8.1 = (((((((Kiiiiiii_at x1 x6).2).2).2).2).2).2)))
 (some (decide ((0 : Int) < r7.1), ()))
 (some (false, ())))
 (some (false, ())))
 (some (false, ())))
 (some (false, ())))
 (cond (decide (((Kiiiiiii_at x1 x6).1) = 16))
 (cond d10.1
 (cond (decide (r7.1 = 1))
 (cond (decide (r8.1 = (((Kiiiiiii_at x1 x6).2).1)))
 (some (decide (r9.1 = (((Kiiiiiii_at x1 x6).2).1)), ()))
 (some (false, ())))
 (some (false, ())))
 (some (false, ())))
 (cond (decide (((Kiiiiiii_at x1 x6).1) = 17))
 (cond d10.1
 (cond (decide ((0 : Int) < r7.1))
 (cond (decide ((0 : Int) < r8.1))
 (some (decide ((IntKind.wrap .i64 (r7.1 + r8.1)) = (((Kiiiiiii_at x1 x6).2).1)), ()))
 (some (false, ())))
 (some (false, ())))
 (some (false, ())))
 (cond (decide ((0 : Int) ≤ (((((((Kiiiiiii_at x1 x6).2).2).2).2).2).2)))
 (cond (decide ((((((((Kiiiiiii_at x1 x6).2).2).2).2).2).2) ≤ (((((((Kiiiiiii_at x1 x6).2).2).2).2).2).1)))
 (cond (decide ((((((((Kiiiiiii_at x1 x6).2).2).2).2).2).1) < r7.1))
 (some (decide ((((Kiiiiiii_at x1 x6).2).1) = (IntKind.wrap .i64 ((IntKind.wrap .i64 ((((((((Kiiiiiii_at x1 x6).2).2).2).2).2).1) - (((((((Kiiiiiii_at x1 x6).2).2).2).2).2).2))) + 1))), ()))
 (some (false, ())))
 (some (false, ())))
 (some (false, ())))))))))))))))))))
def ref09_fits_s : Sig := ⟨[.c true [.row Kiiiiiii_, .row Ksi_, .row Ksiii_, .row Kisi_, .row Ksi_], .c false [.int .i64]], [], .c false [.bool], []⟩
def ref09_fits_a : Ann := .s .d (.s .d (.s .d (.s .d (.s .d (.j [9, 30, 31, 32, 33, 34, 35, 36, 37] [] [(.normal, ⟨[(9, .c false [.bool])], []⟩)] .d (.s (.s .d (.b (.s .d (.s .d (.j [58, 59, 60] [] [(.normal, ⟨[(58, .c false [.bool])], []⟩)] .d (.s .d (.s .d (.s .d (.j [71, 72, 73] [] [(.normal, ⟨[(71, .c false [.bool])], []⟩)] .d (.s .d (.j [92, 93, 94, 95, 96, 97, 98] [] [(.normal, ⟨[(92, .c false [.bool])], []⟩)] .d (.s .d (.j [112, 113, 114, 115, 116] [] [(.normal, ⟨[(112, .c false [.bool])], []⟩)] .d .d))))))))))))) .d))))))
noncomputable def ref09_fits_c (n : Nat) : Ctr Try.prog := .of Try.func52 n [ref09_wide_c n, ref08_Mask_c n] ref09_fits_a ref09_fits_s (fun d => ref09_fits n d.1 d.2.1 d.2.2.1 d.2.2.2.1 d.2.2.2.2.1 d.2.2.2.2.2.1) fun d => by kernel_rfl
noncomputable def ref09_node (n : Nat) (x1 : List Kiiiiiii) (x2 : List Ksi) (x3 : List Ksiii) (x4 : List Kisi) (x5 : List Ksi) (x6 : Int) : Option (Bool × Unit) :=
 ask (0 ≤ x6 ∧ x6 < (x1.length : Int)) ((ref09_operands n ((Kiiiiiii_at x1 x6).1)).bind (fun r7 => cond (decide ((((Kiiiiiii_at x1 x6).2).1) < 1))
 (some (false, ()))
 (cond (decide ((16 : Int) < (((Kiiiiiii_at x1 x6).2).1)))
 (some (false, ()))
 (cond (decide (r7.1 < 0))
 (some (false, ()))
 (cond (decide (r7.1 < 1))
 (cond (decide (((((Kiiiiiii_at x1 x6).2).2).1) ≠ 0))
 (some (false, ()))
 (cond (decide (r7.1 < 2))
 (cond (decide ((((((Kiiiiiii_at x1 x6).2).2).2).1) ≠ 0))
 (some (false, ()))
 (cond (decide (r7.1 < 3))
 (cond (decide (((((((Kiiiiiii_at x1 x6).2).2).2).2).1) ≠ 0))
 (some (false, ()))
 ((ref09_fits n x1 x2 x3 x4 x5 x6).bind (fun r8 => some (r8.1, ()))))
 ((ref09_fits n x1 x2 x3 x4 x5 x6).bind (fun r9 => some (r9.1, ())))))
 (cond (decide (r7.1 < 3))
 (cond (decide (((((((Kiiiiiii_at x1 x6).2).2).2).2).1) ≠ 0))
 (some (false, ()))
 ((ref09_fits n x1 x2 x3 x4 x5 x6).bind (fun r10 => some (r10.1, ()))))
 ((ref09_fits n x1 x2 x3 x4 x5 x6).bind (fun r11 => some (r11.1, ()))))))
 (cond (decide (r7.1 < 2))
 (cond (decide ((((((Kiiiiiii_at x1 x6).2).2).2).1) ≠ 0))
 (some (false, ()))
 (cond (decide (r7.1 < 3))
 (cond (decide (((((((Kiiiiiii_at x1 x6).2).2).2).2).1) ≠ 0))
 (some (false, ()))
 ((ref09_fits n x1 x2 x3 x4 x5 x6).bind (fun r12 => some (r12.1, ()))))
 ((ref09_fits n x1 x2 x3 x4 x5 x6).bind (fun r13 => some (r13.1, ())))))
 (cond (decide (r7.1 < 3))
 (cond (decide (((((((Kiiiiiii_at x1 x6).2).2).2).2).1) ≠ 0))
 (some (false, ()))
 ((ref09_fits n x1 x2 x3 x4 x5 x6).bind (fun r14 => some (r14.1, ()))))
 ((ref09_fits n x1 x2 x3 x4 x5 x6).bind (fun r15 => some (r15.1, ()))))))))))
def ref09_node_s : Sig := ⟨[.c true [.row Kiiiiiii_, .row Ksi_, .row Ksiii_, .row Kisi_, .row Ksi_], .c false [.int .i64]], [], .c false [.bool], []⟩
def ref09_node_a : Ann := .d
noncomputable def ref09_node_c (n : Nat) : Ctr Try.prog := .of Try.func37 n [ref09_operands_c n, ref09_fits_c n] ref09_node_a ref09_node_s (fun d => ref09_node n d.1 d.2.1 d.2.2.1 d.2.2.2.1 d.2.2.2.2.1 d.2.2.2.2.2.1) fun d => by kernel_rfl
noncomputable def ref09_pins_j1 (n : Nat) (d7 : Int × Int × Int × Unit) (x1 : List Kiiiiiii) (x2 : List Ksi) : Option ((Bool × Unit) ⊕ (Int × Unit)) :=
 ask (0 ≤ d7.2.2.1 ∧ d7.2.2.1 < (x1.length : Int)) (cond (decide (((Kiiiiiii_at x1 d7.2.2.1).1) = 21))
 (cond (decide ((x2.length : Int) ≤ d7.1))
 (some (.inl (false, ())))
 (ask (0 ≤ d7.1 ∧ d7.1 < (x2.length : Int)) (cond (decide (((Ksi_at x2 d7.1).2) ≠ d7.2.2.1))
 (some (.inl (false, ())))
 (some (.inr (IntKind.wrap .i64 (d7.1 + 1), ()))))))
 (some (.inr (d7.1, ()))))
noncomputable def ref09_pins_l2b (n : Nat) (x1 : List Kiiiiiii) (x2 : List Ksi) (x3 : List Ksiii) (self : Int × Int × Int × Unit → Option ((Bool × Unit) ⊕ (Int × Int × Unit))) (d7 : Int × Int × Int × Unit) : Option ((Bool × Unit) ⊕ (Int × Int × Unit)) :=
 cond (decide (d7.2.2.1 < (x1.length : Int)))
 ((ref09_pins_j1 n d7 x1 x2).bind (Sum.elim (fun d8 => some (.inl (d8.1, ()))) (fun d9 => ask (0 ≤ d7.2.2.1 ∧ d7.2.2.1 < (x1.length : Int)) (cond (decide (((Kiiiiiii_at x1 d7.2.2.1).1) = 22))
 (cond (decide ((x3.length : Int) ≤ d7.2.1))
 (some (.inl (false, ())))
 (ask (0 ≤ d7.2.1 ∧ d7.2.1 < (x3.length : Int)) (cond (decide ((((Ksiii_at x3 d7.2.1).2).1) ≠ d7.2.2.1))
 (some (.inl (false, ())))
 (self (d9.1, IntKind.wrap .i64 (d7.2.1 + 1), IntKind.wrap .i64 (d7.2.2.1 + 1), ())))))
 (self (d9.1, d7.2.1, IntKind.wrap .i64 (d7.2.2.1 + 1), ()))))))
 (some (.inr (d7.1, d7.2.1, ())))
noncomputable def ref09_pins_l2 (n : Nat) (x1 : List Kiiiiiii) (x2 : List Ksi) (x3 : List Ksiii) : Int × Int × Int × Unit → Option ((Bool × Unit) ⊕ (Int × Int × Unit)) := iter (ref09_pins_l2b n x1 x2 x3) n
noncomputable def ref09_pins (n : Nat) (x1 : List Kiiiiiii) (x2 : List Ksi) (x3 : List Ksiii) (x4 : List Kisi) (x5 : List Ksi) : Option (Bool × Unit) :=
 (ref09_pins_l2 n x1 x2 x3 (0, 0, 0, ())).bind (Sum.elim (fun d10 => some (d10.1, ())) (fun d11 => cond (decide (d11.1 = (x2.length : Int)))
 (some (decide (d11.2.1 = (x3.length : Int)), ()))
 (some (false, ()))))
def ref09_pins_s : Sig := ⟨[.c true [.row Kiiiiiii_, .row Ksi_, .row Ksiii_, .row Kisi_, .row Ksi_]], [], .c false [.bool], []⟩
def ref09_pins_a : Ann := .s .d (.s .d (.s .d (.s (.s .d (.b (.l [2, 3, 4, 5, 6, 7, 8, 9, 10, 11, 12, 13, 14, 15, 16, 17, 18, 19, 20, 21, 22, 23, 24, 25, 26, 27, 28, 29, 30, 31, 32, 33, 34, 35, 36, 37, 38, 39, 40, 41, 42, 43, 44, 45, 46, 47, 48, 49, 50, 51, 52, 53, 54, 55, 56, 57, 58, 59, 60] [] ⟨[(3, .c false [.int .i64]), (4, .c false [.int .i64]), (5, .c false [.int .i64])], []⟩ [(.ret, ⟨[(2, .c false [.bool])], []⟩), (.exit 0, ⟨[(3, .c false [.int .i64]), (4, .c false [.int .i64])], []⟩)] (.s .d (.s (.b (.j [2, 3, 13, 14, 15, 16, 17, 18, 19, 20, 21, 22, 23, 24, 25, 26, 27, 28, 29, 30, 31, 32, 33, 34, 35, 36] [] [(.ret, ⟨[(2, .c false [.bool])], []⟩), (.normal, ⟨[(3, .c false [.int .i64])], []⟩)] .d .d)) .d))))) .d)))
noncomputable def ref09_pins_c (n : Nat) : Ctr Try.prog := .of Try.func38 n [] ref09_pins_a ref09_pins_s (fun d => ref09_pins n d.1 d.2.1 d.2.2.1 d.2.2.2.1 d.2.2.2.2.1) fun d => by kernel_rfl
noncomputable def ref09_there (n : Nat) (x1 : List Kiiiiiii) (x2 : List Ksi) (x3 : List Ksiii) (x4 : List Kisi) (x5 : List Ksi) (x6 : Int) : Option (Int × Unit) :=
 (ref09_wide n x1 x2 x3 x4 x5 x6 (x1.length : Int)).bind (fun r7 => some (r7.1, ()))
def ref09_there_s : Sig := ⟨[.c true [.row Kiiiiiii_, .row Ksi_, .row Ksiii_, .row Kisi_, .row Ksi_], .c false [.int .i64]], [], .c false [.int .i64], []⟩
def ref09_there_a : Ann := .d
noncomputable def ref09_there_c (n : Nat) : Ctr Try.prog := .of Try.func39 n [ref09_wide_c n] ref09_there_a ref09_there_s (fun d => ref09_there n d.1 d.2.1 d.2.2.1 d.2.2.2.1 d.2.2.2.2.1 d.2.2.2.2.2.1) fun d => by kernel_rfl
noncomputable def ref09_Right_l1b (n : Nat) (x1 : List Kiiiiiii) (x2 : List Ksi) (x3 : List Ksiii) (x4 : List Kisi) (x5 : List Ksi) (self : Int × Unit → Option ((Bool × Unit) ⊕ (Unit))) (d7 : Int × Unit) : Option ((Bool × Unit) ⊕ (Unit)) :=
 cond (decide (d7.1 < (x1.length : Int)))
 ((ref09_node n x1 x2 x3 x4 x5 d7.1).bind (fun r8 => cond (!r8.1)
 (some (.inl (false, ())))
 (self (IntKind.wrap .i64 (d7.1 + 1), ()))))
 (some (.inr ()))
noncomputable def ref09_Right_l1 (n : Nat) (x1 : List Kiiiiiii) (x2 : List Ksi) (x3 : List Ksiii) (x4 : List Kisi) (x5 : List Ksi) : Int × Unit → Option ((Bool × Unit) ⊕ (Unit)) := iter (ref09_Right_l1b n x1 x2 x3 x4 x5) n
noncomputable def ref09_Right_l2b (n : Nat) (x1 : List Kiiiiiii) (x2 : List Ksi) (x3 : List Ksiii) (x4 : List Kisi) (x5 : List Ksi) (self : Int × Int × Unit → Option ((Bool × Unit) ⊕ (Int × Unit))) (d13 : Int × Int × Unit) : Option ((Bool × Unit) ⊕ (Int × Unit)) :=
 cond (decide (d13.2.1 < (x3.length : Int)))
 (ask (0 ≤ d13.2.1 ∧ d13.2.1 < (x3.length : Int)) (ask (0 ≤ (((Ksiii_at x3 d13.2.1).2).1) ∧ ((Ksiii_at x3 d13.2.1).2).1 < (x1.length : Int)) ((ref09_there n x1 x2 x3 x4 x5 ((((Ksiii_at x3 d13.2.1).2).2).1)).bind (fun r14 => cond (decide (r14.1 ≠ (((Kiiiiiii_at x1 (((Ksiii_at x3 d13.2.1).2).1)).2).1)))
 (some (.inl (false, ())))
 (cond (decide (((((Ksiii_at x3 d13.2.1).2).2).2) < 0))
 (some (.inl (false, ())))
 ((ref08_Mask n (((Kiiiiiii_at x1 (((Ksiii_at x3 d13.2.1).2).1)).2).1)).bind (fun r15 => cond (decide (r15.1 < ((((Ksiii_at x3 d13.2.1).2).2).2)))
 (some (.inl (false, ())))
 (self (IntKind.wrap .i64 (d13.1 + (((Kiiiiiii_at x1 (((Ksiii_at x3 d13.2.1).2).1)).2).1)), IntKind.wrap .i64 (d13.2.1 + 1), ())))))))))
 (some (.inr (d13.1, ())))
noncomputable def ref09_Right_l2 (n : Nat) (x1 : List Kiiiiiii) (x2 : List Ksi) (x3 : List Ksiii) (x4 : List Kisi) (x5 : List Ksi) : Int × Int × Unit → Option ((Bool × Unit) ⊕ (Int × Unit)) := iter (ref09_Right_l2b n x1 x2 x3 x4 x5) n
noncomputable def ref09_Right_l3b (n : Nat) (x1 : List Kiiiiiii) (x2 : List Ksi) (x3 : List Ksiii) (x4 : List Kisi) (x5 : List Ksi) (self : Int × Unit → Option ((Bool × Unit) ⊕ (Unit))) (d19 : Int × Unit) : Option ((Bool × Unit) ⊕ (Unit)) :=
 cond (decide (d19.1 < (x4.length : Int)))
 (ask (0 ≤ d19.1 ∧ d19.1 < (x4.length : Int)) (cond (decide (((Kisi_at x4 d19.1).1) < 8))
 (some (.inl (false, ())))
 (cond (decide ((10 : Int) < ((Kisi_at x4 d19.1).1)))
 (some (.inl (false, ())))
 ((ref09_there n x1 x2 x3 x4 x5 (((Kisi_at x4 d19.1).2).2)).bind (fun r20 => cond (decide (r20.1 ≠ 1))
 (some (.inl (false, ())))
 (self (IntKind.wrap .i64 (d19.1 + 1), ())))))))
 (some (.inr ()))
noncomputable def ref09_Right_l3 (n : Nat) (x1 : List Kiiiiiii) (x2 : List Ksi) (x3 : List Ksiii) (x4 : List Kisi) (x5 : List Ksi) : Int × Unit → Option ((Bool × Unit) ⊕ (Unit)) := iter (ref09_Right_l3b n x1 x2 x3 x4 x5) n
noncomputable def ref09_Right_l4b (n : Nat) (x1 : List Kiiiiiii) (x2 : List Ksi) (x3 : List Ksiii) (x4 : List Kisi) (x5 : List Ksi) (self : Int × Unit → Option ((Bool × Unit) ⊕ (Unit))) (d24 : Int × Unit) : Option ((Bool × Unit) ⊕ (Unit)) :=
 cond (decide (d24.1 < (x5.length : Int)))
 (ask (0 ≤ d24.1 ∧ d24.1 < (x5.length : Int)) ((ref09_there n x1 x2 x3 x4 x5 ((Ksi_at x5 d24.1).2)).bind (fun r25 => cond (decide (r25.1 = 0))
 (some (.inl (false, ())))
 (self (IntKind.wrap .i64 (d24.1 + 1), ())))))
 (some (.inr ()))
noncomputable def ref09_Right_l4 (n : Nat) (x1 : List Kiiiiiii) (x2 : List Ksi) (x3 : List Ksiii) (x4 : List Kisi) (x5 : List Ksi) : Int × Unit → Option ((Bool × Unit) ⊕ (Unit)) := iter (ref09_Right_l4b n x1 x2 x3 x4 x5) n
noncomputable def ref09_Right (n : Nat) (x1 : List Kiiiiiii) (x2 : List Ksi) (x3 : List Ksiii) (x4 : List Kisi) (x5 : List Ksi) : Option (Bool × Unit) :=
 cond (decide ((4000 : Int) < (x1.length : Int)))
 (some (false, ()))
 (cond (decide ((64 : Int) < (x2.length : Int)))
 (some (false, ()))
 (cond (decide ((256 : Int) < (x3.length : Int)))
 (some (false, ()))
 (cond (decide ((16 : Int) < (x4.length : Int)))
 (some (false, ()))
 ((ref09_Right_l1 n x1 x2 x3 x4 x5 (0, ())).bind (Sum.elim (fun d9 => some (d9.1, ())) (fun d10 => (ref09_pins n x1 x2 x3 x4 x5).bind (fun r11 => cond (!r11.1)
 (some (false, ()))
 ((ref09_Right_l2 n x1 x2 x3 x4 x5 (0, 0, ())).bind (Sum.elim (fun d16 => some (d16.1, ())) (fun d17 => (ref09_Right_l3 n x1 x2 x3 x4 x5 (0, ())).bind (Sum.elim (fun d21 => some (d21.1, ())) (fun d22 => (ref09_Right_l4 n x1 x2 x3 x4 x5 (0, ())).bind (Sum.elim (fun d26 => some (d26.1, ())) (fun d27 => some (decide (d17.1 ≤ 256), ())))))))))))))))
def ref09_Right_s : Sig := ⟨[.c true [.row Kiiiiiii_, .row Ksi_, .row Ksiii_, .row Kisi_, .row Ksi_]], [], .c false [.bool], []⟩
def ref09_Right_a : Ann := .s .d (.s .d (.s (.s .d (.b (.l [2, 3, 33, 34, 35, 36, 37, 38, 39, 40, 41, 42, 43] [] ⟨[(3, .c false [.int .i64])], []⟩ [(.ret, ⟨[(2, .c false [.bool])], []⟩), (.exit 0, ⟨[], []⟩)] .d))) (.s .d (.s .d (.s (.s .d (.b (.l [2, 4, 5, 6, 7, 47, 48, 49, 50, 51, 52, 53, 54, 55, 56, 57, 58, 59, 60, 61, 62, 63, 64, 65, 66, 67, 68, 69, 70, 71, 72, 73, 74, 75, 76, 77, 78, 79, 80, 81, 82, 83, 84, 85, 86] [] ⟨[(4, .c false [.int .i64]), (5, .c false [.int .i64])], []⟩ [(.ret, ⟨[(2, .c false [.bool])], []⟩), (.exit 2, ⟨[(4, .c false [.int .i64])], []⟩)] .d))) (.s (.s .d (.b (.l [2, 8, 9, 87, 88, 89, 90, 91, 92, 93, 94, 95, 96, 97, 98, 99, 100, 101, 102, 103, 104, 105, 106, 107, 108, 109, 110, 111, 112, 113] [] ⟨[(8, .c false [.int .i64])], []⟩ [(.ret, ⟨[(2, .c false [.bool])], []⟩), (.exit 4, ⟨[], []⟩)] .d))) (.s (.s .d (.b (.l [2, 10, 114, 115, 116, 117, 118, 119, 120, 121, 122, 123, 124, 125, 126, 127, 128, 129] [] ⟨[(10, .c false [.int .i64])], []⟩ [(.ret, ⟨[(2, .c false [.bool])], []⟩), (.exit 6, ⟨[], []⟩)] .d))) .d)))))))
noncomputable def ref09_Right_c (n : Nat) : Ctr Try.prog := .of Try.func13 n [ref09_node_c n, ref09_pins_c n, ref09_there_c n, ref08_Mask_c n] ref09_Right_a ref09_Right_s (fun d => ref09_Right n d.1 d.2.1 d.2.2.1 d.2.2.2.1 d.2.2.2.2.1) fun d => by kernel_rfl
noncomputable def law09_Rows_j1 (n : Nat) (d9 : Int × List Int × Unit) (x1 : List Kiiiiiii) (x3 : List Ksiii) (x6 : List Int) : Option ((Int × Unit)) :=
 cond (decide (d9.1 < (x6.length : Int)))
 (ask (0 ≤ d9.1 ∧ d9.1 < (x6.length : Int)) (ask (0 ≤ d9.1 ∧ d9.1 < (x3.length : Int)) (ask (0 ≤ (((Ksiii_at x3 d9.1).2).1) ∧ ((Ksiii_at x3 d9.1).2).1 < (x1.length : Int)) ((ref08_Mask n (((Kiiiiiii_at x1 (((Ksiii_at x3 d9.1).2).1)).2).1)).bind (fun r10 => some (bits .and .i64 (IntKind.wrap .i64 (Kw_at x6 d9.1)) r10.1, ()))))))
 (some (0, ()))
noncomputable def law09_Rows_l2b (n : Nat) (x1 : List Kiiiiiii) (x3 : List Ksiii) (x6 : List Int) (self : Int × List Int × Unit → Option ((List Int × Unit))) (d9 : Int × List Int × Unit) : Option ((List Int × Unit)) :=
 cond (decide (d9.1 < (x3.length : Int)))
 ((law09_Rows_j1 n d9 x1 x3 x6).bind (fun d11 => ask (True ∧ (d9.2.1.length + (([d11.1] : List Int)).length) * 8 ≤ 140737488355328) (self (IntKind.wrap .i64 (d9.1 + 1), d9.2.1 ++ ([d11.1] : List Int), ()))))
 (some (d9.2.1, ()))
noncomputable def law09_Rows_l2 (n : Nat) (x1 : List Kiiiiiii) (x3 : List Ksiii) (x6 : List Int) : Int × List Int × Unit → Option ((List Int × Unit)) := iter (law09_Rows_l2b n x1 x3 x6) n
noncomputable def law09_Rows_j3 (n : Nat) (d14 : Int × List Int × Unit) (x1 : List Kiiiiiii) (x2 : List Ksi) (x7 : List Int) : Option ((Int × Unit)) :=
 cond (decide (d14.1 < (x7.length : Int)))
 (ask (0 ≤ d14.1 ∧ d14.1 < (x7.length : Int)) (ask (0 ≤ d14.1 ∧ d14.1 < (x2.length : Int)) (ask (0 ≤ ((Ksi_at x2 d14.1).2) ∧ (Ksi_at x2 d14.1).2 < (x1.length : Int)) ((ref08_Mask n (((Kiiiiiii_at x1 ((Ksi_at x2 d14.1).2)).2).1)).bind (fun r15 => some (bits .and .i64 (IntKind.wrap .i64 (Kw_at x7 d14.1)) r15.1, ()))))))
 (some (0, ()))
noncomputable def law09_Rows_l4b (n : Nat) (x1 : List Kiiiiiii) (x2 : List Ksi) (x7 : List Int) (self : Int × List Int × Unit → Option ((List Int × Unit))) (d14 : Int × List Int × Unit) : Option ((List Int × Unit)) :=
 cond (decide (d14.1 < (x2.length : Int)))
 ((law09_Rows_j3 n d14 x1 x2 x7).bind (fun d16 => ask (True ∧ (d14.2.1.length + (([d16.1] : List Int)).length) * 8 ≤ 140737488355328) (self (IntKind.wrap .i64 (d14.1 + 1), d14.2.1 ++ ([d16.1] : List Int), ()))))
 (some (d14.2.1, ()))
noncomputable def law09_Rows_l4 (n : Nat) (x1 : List Kiiiiiii) (x2 : List Ksi) (x7 : List Int) : Int × List Int × Unit → Option ((List Int × Unit)) := iter (law09_Rows_l4b n x1 x2 x7) n
noncomputable def law09_Rows (n : Nat) (x1 : List Kiiiiiii) (x2 : List Ksi) (x3 : List Ksiii) (x4 : List Kisi) (x5 : List Ksi) (x6 : List Int) (x7 : List Int) : Option (List Int × List Int × Unit) :=
 (law09_Rows_l2 n x1 x3 x6 (0, ([] : List Int), ())).bind (fun d12 => (law09_Rows_l4 n x1 x2 x7 (0, ([] : List Int), ())).bind (fun d17 => some (d12.1, d17.1, ())))
def law09_Rows_s : Sig := ⟨[.c true [.row Kiiiiiii_, .row Ksi_, .row Ksiii_, .row Kisi_, .row Ksi_], .c false [.row u16_], .c false [.row u16_]], [], .t [(false, [.row i_]), (false, [.row i_])], []⟩
def law09_Rows_a : Ann := .s .d (.s .d (.s .d (.s (.s .d (.b (.l [8, 10, 11, 14, 15, 16, 17, 18, 19, 20, 21, 22, 23, 24, 25, 26, 27, 28, 29, 30, 31, 32, 33, 34, 35, 36, 37, 38, 39, 40, 41, 42, 43, 44, 45, 46] [] ⟨[(8, .c false [.con (.own 100000 1)]), (10, .c false [.int .i64])], [(100000, .row 3 i_)]⟩ [(.exit 0, ⟨[(8, .c false [.con (.own 100000 1)])], [(100000, .row 3 i_)]⟩)] (.s .d (.s (.b (.s .d (.j [11, 21, 22, 23, 24, 25, 26, 27, 28, 29, 30, 31, 32, 33, 34, 35, 36, 37, 38, 39, 40, 41, 42] [] [(.normal, ⟨[(11, .c false [.int .i64])], []⟩)] .d .d))) .d))))) (.s (.s .d (.b (.l [9, 12, 13, 47, 48, 49, 50, 51, 52, 53, 54, 55, 56, 57, 58, 59, 60, 61, 62, 63, 64, 65, 66, 67, 68, 69, 70, 71, 72, 73, 74, 75, 76, 77, 78, 79] [] ⟨[(9, .c false [.con (.own 200000 1)]), (12, .c false [.int .i64])], [(200000, .row 3 i_)]⟩ [(.exit 2, ⟨[(9, .c false [.con (.own 200000 1)])], [(200000, .row 3 i_)]⟩)] (.s .d (.s (.b (.s .d (.j [13, 54, 55, 56, 57, 58, 59, 60, 61, 62, 63, 64, 65, 66, 67, 68, 69, 70, 71, 72, 73, 74, 75] [] [(.normal, ⟨[(13, .c false [.int .i64])], []⟩)] .d .d))) .d))))) .d))))
noncomputable def law09_Rows_c (n : Nat) : Ctr Try.prog := .of Try.func16 n [ref08_Mask_c n] law09_Rows_a law09_Rows_s (fun d => law09_Rows n d.1 d.2.1 d.2.2.1 d.2.2.2.1 d.2.2.2.2.1 d.2.2.2.2.2.1 d.2.2.2.2.2.2.1) fun d => by kernel_rfl
noncomputable def law09_reaches_j1 (n : Nat) (d9 : Int × List Bool × Unit) (x1 : List Kiiiiiii) : Option ((Int × Unit)) :=
 cond (decide (((Kiiiiiii_at x1 d9.1).1) = 1))
 (cond (decide (((Kiiiiiii_at x1 d9.1).1) = 1))
 (some (0, ()))
 (cond (decide (((Kiiiiiii_at x1 d9.1).1) = 3))
 (cond (decide (((Kiiiiiii_at x1 d9.1).1) = 3))
 (some (1, ()))
 (cond (decide (((Kiiiiiii_at x1 d9.1).1) = 16))
 (some (3, ()))
 (some (2, ()))))
 (cond (decide (((Kiiiiiii_at x1 d9.1).1) = 4))
 (cond (decide (((Kiiiiiii_at x1 d9.1).1) = 4))
 (some (1, ()))
 (cond (decide (((Kiiiiiii_at x1 d9.1).1) = 16))
 (some (3, ()))
 (some (2, ()))))
 (cond (decide (((Kiiiiiii_at x1 d9.1).1) = 5))
 (cond (decide (((Kiiiiiii_at x1 d9.1).1) = 5))
 (some (1, ()))
 (cond (decide (((Kiiiiiii_at x1 d9.1).1) = 16))
 (some (3, ()))
 (some (2, ()))))
 (cond (decide (((Kiiiiiii_at x1 d9.1).1) = 18))
 (some (1, ()))
 (cond (decide (((Kiiiiiii_at x1 d9.1).1) = 16))
 (some (3, ()))
 (some (2, ()))))))))
 (cond (decide (((Kiiiiiii_at x1 d9.1).1) = 21))
 (cond (decide (((Kiiiiiii_at x1 d9.1).1) = 21))
 (some (0, ()))
 (cond (decide (((Kiiiiiii_at x1 d9.1).1) = 3))
 (cond (decide (((Kiiiiiii_at x1 d9.1).1) = 3))
 (some (1, ()))
 (cond (decide (((Kiiiiiii_at x1 d9.1).1) = 16))
 (some (3, ()))
 (some (2, ()))))
 (cond (decide (((Kiiiiiii_at x1 d9.1).1) = 4))
 (cond (decide (((Kiiiiiii_at x1 d9.1).1) = 4))
 (some (1, ()))
 (cond (decide (((Kiiiiiii_at x1 d9.1).1) = 16))
 (some (3, ()))
 (some (2, ()))))
 (cond (decide (((Kiiiiiii_at x1 d9.1).1) = 5))
 (cond (decide (((Kiiiiiii_at x1 d9.1).1) = 5))
 (some (1, ()))
 (cond (decide (((Kiiiiiii_at x1 d9.1).1) = 16))
 (some (3, ()))
 (some (2, ()))))
 (cond (decide (((Kiiiiiii_at x1 d9.1).1) = 18))
 (some (1, ()))
 (cond (decide (((Kiiiiiii_at x1 d9.1).1) = 16))
 (some (3, ()))
 (some (2, ()))))))))
 (cond (decide (((Kiiiiiii_at x1 d9.1).1) = 22))
 (some (0, ()))
 (cond (decide (((Kiiiiiii_at x1 d9.1).1) = 3))
 (cond (decide (((Kiiiiiii_at x1 d9.1).1) = 3))
 (some (1, ()))
 (cond (decide (((Kiiiiiii_at x1 d9.1).1) = 16))
 (some (3, ()))
 (some (2, ()))))
 (cond (decide (((Kiiiiiii_at x1 d9.1).1) = 4))
 (cond (decide (((Kiiiiiii_at x1 d9.1).1) = 4))
 (some (1, ()))
 (cond (decide (((Kiiiiiii_at x1 d9.1).1) = 16))
 (some (3, ()))
 (some (2, ()))))
 (cond (decide (((Kiiiiiii_at x1 d9.1).1) = 5))
 (cond (decide (((Kiiiiiii_at x1 d9.1).1) = 5))
 (some (1, ()))
 (cond (decide (((Kiiiiiii_at x1 d9.1).1) = 16))
 (some (3, ()))
 (some (2, ()))))
 (cond (decide (((Kiiiiiii_at x1 d9.1).1) = 18))
 (some (1, ()))
 (cond (decide (((Kiiiiiii_at x1 d9.1).1) = 16))
 (some (3, ()))
 (some (2, ())))))))))
noncomputable def law09_reaches_l2b (n : Nat) (x1 : List Kiiiiiii) (x6 : Int) (self : Int × List Bool × Unit → Option ((List Bool × Unit))) (d9 : Int × List Bool × Unit) : Option ((List Bool × Unit)) :=
 cond (decide (d9.1 < (x1.length : Int)))
 (ask (0 ≤ d9.1 ∧ d9.1 < (x1.length : Int)) ((law09_reaches_j1 n d9 x1).bind (fun d10 => cond (decide (d9.1 = x6))
 (ask (0 ≤ d9.1 ∧ d9.1 < (d9.2.1.length : Int)) (self (IntKind.wrap .i64 (d9.1 + 1), d9.2.1.set d9.1.toNat true, ())))
 (cond (decide ((0 : Int) < d10.1))
 (ask (0 ≤ ((((Kiiiiiii_at x1 d9.1).2).2).1) ∧ (((Kiiiiiii_at x1 d9.1).2).2).1 < (d9.2.1.length : Int)) (cond (Kb_at d9.2.1 ((((Kiiiiiii_at x1 d9.1).2).2).1))
 (ask (0 ≤ d9.1 ∧ d9.1 < (d9.2.1.length : Int)) (self (IntKind.wrap .i64 (d9.1 + 1), d9.2.1.set d9.1.toNat true, ())))
 (cond (decide ((1 : Int) < d10.1))
 (ask (0 ≤ (((((Kiiiiiii_at x1 d9.1).2).2).2).1) ∧ ((((Kiiiiiii_at x1 d9.1).2).2).2).1 < (d9.2.1.length : Int)) (cond (Kb_at d9.2.1 (((((Kiiiiiii_at x1 d9.1).2).2).2).1))
 (ask (0 ≤ d9.1 ∧ d9.1 < (d9.2.1.length : Int)) (self (IntKind.wrap .i64 (d9.1 + 1), d9.2.1.set d9.1.toNat true, ())))
 (cond (decide ((2 : Int) < d10.1))
 (ask (0 ≤ ((((((Kiiiiiii_at x1 d9.1).2).2).2).2).1) ∧ (((((Kiiiiiii_at x1 d9.1).2).2).2).2).1 < (d9.2.1.length : Int)) (ask (0 ≤ d9.1 ∧ d9.1 < (d9.2.1.length : Int)) (self (IntKind.wrap .i64 (d9.1 + 1), d9.2.1.set d9.1.toNat (Kb_at d9.2.1 ((((((Kiiiiiii_at x1 d9.1).2).2).2).2).1)), ()))))
 (ask (0 ≤ d9.1 ∧ d9.1 < (d9.2.1.length : Int)) (self (IntKind.wrap .i64 (d9.1 + 1), d9.2.1.set d9.1.toNat false, ()))))))
 (cond (decide ((2 : Int) < d10.1))
 (ask (0 ≤ ((((((Kiiiiiii_at x1 d9.1).2).2).2).2).1) ∧ (((((Kiiiiiii_at x1 d9.1).2).2).2).2).1 < (d9.2.1.length : Int)) (ask (0 ≤ d9.1 ∧ d9.1 < (d9.2.1.length : Int)) (self (IntKind.wrap .i64 (d9.1 + 1), d9.2.1.set d9.1.toNat (Kb_at d9.2.1 ((((((Kiiiiiii_at x1 d9.1).2).2).2).2).1)), ()))))
 (ask (0 ≤ d9.1 ∧ d9.1 < (d9.2.1.length : Int)) (self (IntKind.wrap .i64 (d9.1 + 1), d9.2.1.set d9.1.toNat false, ())))))))
 (cond (decide ((1 : Int) < d10.1))
 (ask (0 ≤ (((((Kiiiiiii_at x1 d9.1).2).2).2).1) ∧ ((((Kiiiiiii_at x1 d9.1).2).2).2).1 < (d9.2.1.length : Int)) (cond (Kb_at d9.2.1 (((((Kiiiiiii_at x1 d9.1).2).2).2).1))
 (ask (0 ≤ d9.1 ∧ d9.1 < (d9.2.1.length : Int)) (self (IntKind.wrap .i64 (d9.1 + 1), d9.2.1.set d9.1.toNat true, ())))
 (cond (decide ((2 : Int) < d10.1))
 (ask (0 ≤ ((((((Kiiiiiii_at x1 d9.1).2).2).2).2).1) ∧ (((((Kiiiiiii_at x1 d9.1).2).2).2).2).1 < (d9.2.1.length : Int)) (ask (0 ≤ d9.1 ∧ d9.1 < (d9.2.1.length : Int)) (self (IntKind.wrap .i64 (d9.1 + 1), d9.2.1.set d9.1.toNat (Kb_at d9.2.1 ((((((Kiiiiiii_at x1 d9.1).2).2).2).2).1)), ()))))
 (ask (0 ≤ d9.1 ∧ d9.1 < (d9.2.1.length : Int)) (self (IntKind.wrap .i64 (d9.1 + 1), d9.2.1.set d9.1.toNat false, ()))))))
 (cond (decide ((2 : Int) < d10.1))
 (ask (0 ≤ ((((((Kiiiiiii_at x1 d9.1).2).2).2).2).1) ∧ (((((Kiiiiiii_at x1 d9.1).2).2).2).2).1 < (d9.2.1.length : Int)) (ask (0 ≤ d9.1 ∧ d9.1 < (d9.2.1.length : Int)) (self (IntKind.wrap .i64 (d9.1 + 1), d9.2.1.set d9.1.toNat (Kb_at d9.2.1 ((((((Kiiiiiii_at x1 d9.1).2).2).2).2).1)), ()))))
 (ask (0 ≤ d9.1 ∧ d9.1 < (d9.2.1.length : Int)) (self (IntKind.wrap .i64 (d9.1 + 1), d9.2.1.set d9.1.toNat false, ())))))))))
 (some (d9.2.1, ()))
noncomputable def law09_reaches_l2 (n : Nat) (x1 : List Kiiiiiii) (x6 : Int) : Int × List Bool × Unit → Option ((List Bool × Unit)) := iter (law09_reaches_l2b n x1 x6) n
noncomputable def law09_reaches (n : Nat) (x1 : List Kiiiiiii) (x2 : List Ksi) (x3 : List Ksiii) (x4 : List Kisi) (x5 : List Ksi) (x6 : Int) : Option (List Bool × Unit) :=
 ask ((0 ≤ (x1.length : Int) ∧ (x1.length : Int) ≤ (x1.length : Int)) ∧ (1 : Int) * (x1.length : Int) ≤ 281474976710656 ∧ (x1.length : Int) ≤ 281474976710656) ((law09_reaches_l2 n x1 x6 (0, List.replicate (x1.length : Int).toNat false, ())).bind (fun d11 => some (d11.1, ())))
def law09_reaches_s : Sig := ⟨[.c true [.row Kiiiiiii_, .row Ksi_, .row Ksiii_, .row Kisi_, .row Ksi_], .c false [.int .i64]], [], .c false [.row b_], []⟩
def law09_reaches_a : Ann := .s .d (.s .d (.s (.s .d (.b (.l [5, 6, 7, 8, 12, 13, 14, 15, 16, 17, 18, 19, 20, 21, 22, 23, 24, 25, 26, 27, 28, 29, 30, 31, 32, 33, 34, 35, 36, 37, 38, 39, 40, 41, 42, 43, 44, 45, 46, 47, 48, 49, 50, 51, 52, 53, 54, 55, 56, 57, 58, 59, 60, 61, 62, 63, 64, 65, 66, 67, 68, 69, 70, 71, 72, 73, 74, 75, 76] [293] ⟨[(5, .c false [.con (.own 293 1)]), (6, .c false [.int .i64])], [(293, .row 4 b_)]⟩ [(.exit 0, ⟨[(5, .c false [.con (.own 293 1)])], [(293, .row 4 b_)]⟩)] (.s .d (.s (.b (.s .d (.s .d (.j [8, 25, 26, 27, 28, 29, 30, 31, 32, 33, 34, 35, 36, 37] [] [(.normal, ⟨[(8, .c false [.int .i64])], []⟩)] .d .d)))) .d))))) .d))
noncomputable def law09_reaches_c (n : Nat) : Ctr Try.prog := .of Try.func25 n [] law09_reaches_a law09_reaches_s (fun d => law09_reaches n d.1 d.2.1 d.2.2.1 d.2.2.2.1 d.2.2.2.2.1 d.2.2.2.2.2.1) fun d => by kernel_rfl
noncomputable def law09_NetHangs_j1 (n : Nat) (r13 : List Int × List Int × Unit) (x1 : List Kiiiiiii) (x2 : List Ksi) (x3 : List Ksiii) (x6 : Int) (x9 : Int) : Option ((Int × List Int × List Int × Unit)) :=
 cond (decide ((Int.tmod (IntKind.wrap .i64 x6) (IntKind.wrap .i64 ((x2.length : Int) + (x3.length : Int)))) < (x2.length : Int)))
 (ask (0 ≤ (Int.tmod (IntKind.wrap .i64 x6) (IntKind.wrap .i64 ((x2.length : Int) + (x3.length : Int)))) ∧ Int.tmod (IntKind.wrap .i64 x6) (IntKind.wrap .i64 ((x2.length : Int) + (x3.length : Int))) < (x2.length : Int)) (ask (0 ≤ ((Ksi_at x2 (Int.tmod (IntKind.wrap .i64 x6) (IntKind.wrap .i64 ((x2.length : Int) + (x3.length : Int))))).2) ∧ (Ksi_at x2 (Int.tmod (IntKind.wrap .i64 x6) (IntKind.wrap .i64 ((x2.length : Int) + (x3.length : Int))))).2 < (x1.length : Int)) ((ref08_Mask n (((Kiiiiiii_at x1 ((Ksi_at x2 (Int.tmod (IntKind.wrap .i64 x6) (IntKind.wrap .i64 ((x2.length : Int) + (x3.length : Int))))).2)).2).1)).bind (fun r14 => ask (0 ≤ (Int.tmod (IntKind.wrap .i64 x6) (IntKind.wrap .i64 ((x2.length : Int) + (x3.length : Int)))) ∧ Int.tmod (IntKind.wrap .i64 x6) (IntKind.wrap .i64 ((x2.length : Int) + (x3.length : Int))) < ((([] : List Int) ++ r13.2.1).length : Int)) (some ((Ksi_at x2 (Int.tmod (IntKind.wrap .i64 x6) (IntKind.wrap .i64 ((x2.length : Int) + (x3.length : Int))))).2, ([] : List Int) ++ r13.1, (([] : List Int) ++ r13.2.1).set (Int.tmod (IntKind.wrap .i64 x6) (IntKind.wrap .i64 ((x2.length : Int) + (x3.length : Int)))).toNat (bits .and .i64 (IntKind.wrap .i64 x9) r14.1), ()))))))
 (ask (0 ≤ (IntKind.wrap .i64 ((Int.tmod (IntKind.wrap .i64 x6) (IntKind.wrap .i64 ((x2.length : Int) + (x3.length : Int)))) - (x2.length : Int))) ∧ IntKind.wrap .i64 ((Int.tmod (IntKind.wrap .i64 x6) (IntKind.wrap .i64 ((x2.length : Int) + (x3.length : Int)))) - (x2.length : Int)) < (x3.length : Int)) (ask (0 ≤ (((Ksiii_at x3 (IntKind.wrap .i64 ((Int.tmod (IntKind.wrap .i64 x6) (IntKind.wrap .i64 ((x2.length : Int) + (x3.length : Int)))) - (x2.length : Int)))).2).1) ∧ ((Ksiii_at x3 (IntKind.wrap .i64 ((Int.tmod (IntKind.wrap .i64 x6) (IntKind.wrap .i64 ((x2.length : Int) + (x3.length : Int)))) - (x2.length : Int)))).2).1 < (x1.length : Int)) ((ref08_Mask n (((Kiiiiiii_at x1 (((Ksiii_at x3 (IntKind.wrap .i64 ((Int.tmod (IntKind.wrap .i64 x6) (IntKind.wrap .i64 ((x2.length : Int) + (x3.length : Int)))) - (x2.length : Int)))).2).1)).2).1)).bind (fun r15 => ask (0 ≤ (IntKind.wrap .i64 ((Int.tmod (IntKind.wrap .i64 x6) (IntKind.wrap .i64 ((x2.length : Int) + (x3.length : Int)))) - (x2.length : Int))) ∧ IntKind.wrap .i64 ((Int.tmod (IntKind.wrap .i64 x6) (IntKind.wrap .i64 ((x2.length : Int) + (x3.length : Int)))) - (x2.length : Int)) < ((([] : List Int) ++ r13.1).length : Int)) (some (((Ksiii_at x3 (IntKind.wrap .i64 ((Int.tmod (IntKind.wrap .i64 x6) (IntKind.wrap .i64 ((x2.length : Int) + (x3.length : Int)))) - (x2.length : Int)))).2).1, (([] : List Int) ++ r13.1).set (IntKind.wrap .i64 ((Int.tmod (IntKind.wrap .i64 x6) (IntKind.wrap .i64 ((x2.length : Int) + (x3.length : Int)))) - (x2.length : Int))).toNat (bits .and .i64 (IntKind.wrap .i64 x9) r15.1), ([] : List Int) ++ r13.2.1, ()))))))
noncomputable def law09_NetHangs_l2b (n : Nat) (r17 : List Int × Unit) (r18 : List Int × Unit) (r19 : List Bool × Unit) (self : Int × Unit → Option ((Bool × Unit) ⊕ (Unit))) (d21 : Int × Unit) : Option ((Bool × Unit) ⊕ (Unit)) :=
 cond (decide (d21.1 < (r19.1.length : Int)))
 (ask (0 ≤ d21.1 ∧ d21.1 < (r17.1.length : Int)) (ask (0 ≤ d21.1 ∧ d21.1 < (r18.1.length : Int)) (cond (decide ((Ki_at r17.1 d21.1) ≠ (Ki_at r18.1 d21.1)))
 (ask (0 ≤ d21.1 ∧ d21.1 < (r19.1.length : Int)) (cond (!(Kb_at r19.1 d21.1))
 (some (.inl (false, ())))
 (self (IntKind.wrap .i64 (d21.1 + 1), ()))))
 (self (IntKind.wrap .i64 (d21.1 + 1), ())))))
 (some (.inr ()))
noncomputable def law09_NetHangs_l2 (n : Nat) (r17 : List Int × Unit) (r18 : List Int × Unit) (r19 : List Bool × Unit) : Int × Unit → Option ((Bool × Unit) ⊕ (Unit)) := iter (law09_NetHangs_l2b n r17 r18 r19) n
noncomputable def law09_NetHangs (n : Nat) (x1 : List Kiiiiiii) (x2 : List Ksi) (x3 : List Ksiii) (x4 : List Kisi) (x5 : List Ksi) (x6 : Int) (x7 : List Int) (x8 : List Int) (x9 : Int) : Option (Bool × Unit) :=
 (law09_head n).bind (fun r10 => (law09_Great n x1 x2 x3 x4 x5).bind (fun r11 => cond r11.1
 (some (r10.1, ()))
 ((ref09_Right n x1 x2 x3 x4 x5).bind (fun r12 => cond (!r12.1)
 (some (r10.1, ()))
 (cond (decide ((IntKind.wrap .i64 ((x2.length : Int) + (x3.length : Int))) = 0))
 (some (r10.1, ()))
 ((law09_Rows n x1 x2 x3 x4 x5 x7 x8).bind (fun r13 => ask (True ∧ ((([] : List Int)).length + r13.1.length) * 8 ≤ 140737488355328) (ask (True ∧ ((([] : List Int)).length + r13.2.1.length) * 8 ≤ 140737488355328) (ask ((IntKind.wrap .i64 ((x2.length : Int) + (x3.length : Int))) ≠ 0) ((law09_NetHangs_j1 n r13 x1 x2 x3 x6 x9).bind (fun d16 => (net_Eval_o n x1 x2 x3 x4 x5 r13.1 r13.2.1).bind (fun r17 => (net_Eval_o n x1 x2 x3 x4 x5 d16.2.1 d16.2.2.1).bind (fun r18 => (law09_reaches n x1 x2 x3 x4 x5 d16.1).bind (fun r19 => cond (decide ((r17.1.length : Int) ≠ (r19.1.length : Int)))
 (some (false, ()))
 (cond (decide ((r18.1.length : Int) ≠ (r19.1.length : Int)))
 (some (false, ()))
 ((law09_NetHangs_l2 n r17 r18 r19 (0, ())).bind (Sum.elim (fun d22 => some (d22.1, ())) (fun d23 => some (r10.1, ())))))))))))))))))))
def law09_NetHangs_s : Sig := ⟨[.c true [.row Kiiiiiii_, .row Ksi_, .row Ksiii_, .row Kisi_, .row Ksi_], .c false [.int .u16], .c false [.row u16_], .c false [.row u16_], .c false [.int .u16]], [], .c false [.bool], []⟩
def law09_NetHangs_a : Ann := .s .d (.s .d (.s .d (.s .d (.s .d (.s .d (.s .d (.s .d (.j [14, 15, 17, 50, 53, 64, 65, 66, 67, 68, 69, 70, 71, 72, 73, 74, 75, 76, 77, 78, 79, 80, 81, 82, 83, 84, 85, 86, 87, 88, 89, 90, 91, 92, 93, 94, 95, 96, 97, 98, 99, 100, 101, 102, 103, 104, 105, 106, 107, 108, 109, 110, 111, 112, 113, 114] [229, 358] [(.normal, ⟨[(14, .c false [.con (.own 229 1)]), (15, .c false [.con (.own 358 1)]), (17, .c false [.int .i64])], [(229, .row 3 i_), (358, .row 3 i_)]⟩)] .d (.s .d (.s .d (.s .d (.s .d (.s (.s .d (.b (.l [10, 21, 138, 139, 140, 141, 142, 143, 144, 145, 146, 147, 148, 149, 150, 151, 152, 153, 154, 155, 156, 157, 158, 159] [] ⟨[(21, .c false [.int .i64])], []⟩ [(.ret, ⟨[(10, .c false [.bool])], []⟩), (.exit 0, ⟨[], []⟩)] .d))) .d)))))))))))))
noncomputable def law09_NetHangs_c (n : Nat) : Ctr Try.prog := .of Try.func6 n [law09_head_c n, law09_Great_c n, ref09_Right_c n, law09_Rows_c n, ref08_Mask_c n, net_Eval_o_c n, law09_reaches_c n] law09_NetHangs_a law09_NetHangs_s (fun d => law09_NetHangs n d.1 d.2.1 d.2.2.1 d.2.2.2.1 d.2.2.2.2.1 d.2.2.2.2.2.1 d.2.2.2.2.2.2.1 d.2.2.2.2.2.2.2.1 d.2.2.2.2.2.2.2.2.1) fun d => by kernel_rfl
end Go.Proofs.Yteblbknmikieoaa.Am
