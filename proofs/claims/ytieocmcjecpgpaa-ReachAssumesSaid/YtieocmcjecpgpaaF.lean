/- Functions, executed. -/
import Derived.Test.YtieocmcjecpgpaaAm5
import Derived.Test.YtieocmcjecpgpaaProg
namespace Go.Proofs.Ytieocmcjecpgpaa.Am
set_option linter.unusedVariables false
set_option maxRecDepth 100000
abbrev i_ : Ty := .int .i64
abbrev i32_ : Ty := .int .i32
abbrev i16_ : Ty := .int .i16
abbrev i8_ : Ty := .int .i8
abbrev u_ : Ty := .int .u64
abbrev u32_ : Ty := .int .u32
abbrev u16_ : Ty := .int .u16
abbrev u8_ : Ty := .int .u8
abbrev b_ : Ty := .bool
abbrev s_ : Ty := .str
abbrev Kii_ : Ty := .pr i_ i_
abbrev Kii := Int × Int
abbrev Kiii_ : Ty := .pr i_ Kii_
abbrev Kiii := Int × Int × Int
abbrev Kiiii_ : Ty := .pr i_ Kiii_
abbrev Kiiii := Int × Int × Int × Int
abbrev Kiiiii_ : Ty := .pr i_ Kiiii_
abbrev Kiiiii := Int × Int × Int × Int × Int
abbrev Kiiiiii_ : Ty := .pr i_ Kiiiii_
abbrev Kiiiiii := Int × Int × Int × Int × Int × Int
abbrev Kiiiiiii_ : Ty := .pr i_ Kiiiiii_
abbrev Kiiiiiii := Int × Int × Int × Int × Int × Int × Int
abbrev Ksi_ : Ty := .pr s_ i_
abbrev Ksi := ByteArray × Int
abbrev Ksiii_ : Ty := .pr s_ Kiii_
abbrev Ksiii := ByteArray × Int × Int × Int
abbrev Kisi_ : Ty := .pr i_ Ksi_
abbrev Kisi := Int × ByteArray × Int
def Kisi_at (l : List Kisi) (i : Int) : Kisi := at_ Kisi_ l i
def Kiiiiiii_at (l : List Kiiiiiii) (i : Int) : Kiiiiiii := at_ Kiiiiiii_ l i
abbrev Kiiiiiiii_ : Ty := .pr i_ Kiiiiiii_
abbrev Kiiiiiiii := Int × Int × Int × Int × Int × Int × Int × Int
abbrev Kiiiiiiiii_ : Ty := .pr i_ Kiiiiiiii_
abbrev Kiiiiiiiii := Int × Int × Int × Int × Int × Int × Int × Int × Int
abbrev Kiiiiiiiiii_ : Ty := .pr i_ Kiiiiiiiii_
abbrev Kiiiiiiiiii := Int × Int × Int × Int × Int × Int × Int × Int × Int × Int
abbrev Kiiiiiiiiiii_ : Ty := .pr i_ Kiiiiiiiiii_
abbrev Kiiiiiiiiiii := Int × Int × Int × Int × Int × Int × Int × Int × Int × Int × Int
abbrev Kiiiiiiiiiiii_ : Ty := .pr i_ Kiiiiiiiiiii_
abbrev Kiiiiiiiiiiii := Int × Int × Int × Int × Int × Int × Int × Int × Int × Int × Int × Int
def Ksiii_at (l : List Ksiii) (i : Int) : Ksiii := at_ Ksiii_ l i
def Ki_at (l : List Int) (i : Int) : Int := at_ i_ l i
def Miiiiiiiiiiii_b_put (l : List (Kiiiiiiiiiiii × Bool)) (k : Kiiiiiiiiiiii) (v : Bool) : List (Kiiiiiiiiiiii × Bool) := mput (kt := Kiiiiiiiiiiii_) (vt := b_) l k v
def Miiiiiiiiiiii_b_get (l : List (Kiiiiiiiiiiii × Bool)) (k : Kiiiiiiiiiiii) (z : Bool) : Bool := mget (kt := Kiiiiiiiiiiii_) (vt := b_) l k z
def Miiiiiiiiiiii_b_has (l : List (Kiiiiiiiiiiii × Bool)) (k : Kiiiiiiiiiiii) : Bool := mhas (kt := Kiiiiiiiiiiii_) (vt := b_) l k
abbrev KLi_ : Ty := .sl i_
abbrev KLii_ : Ty := .pr KLi_ i_
abbrev KLii := (List Int) × Int
abbrev KiLii_ : Ty := .pr i_ KLii_
abbrev KiLii := Int × (List Int) × Int
abbrev KLiiLii_ : Ty := .pr KLi_ KiLii_
abbrev KLiiLii := (List Int) × Int × (List Int) × Int
def KLiiLii_at (l : List KLiiLii) (i : Int) : KLiiLii := at_ KLiiLii_ l i
def Ksi_at (l : List Ksi) (i : Int) : Ksi := at_ Ksi_ l i
def KLi_at (l : List (List Int)) (i : Int) : List Int := at_ KLi_ l i
abbrev KLPiiiiiiiE_ : Ty := .sl Kiiiiiii_
abbrev KLPsiE_ : Ty := .sl Ksi_
abbrev KLPsiiiE_ : Ty := .sl Ksiii_
abbrev KLPisiE_ : Ty := .sl Kisi_
abbrev KLPisiELPsiE_ : Ty := .pr KLPisiE_ KLPsiE_
abbrev KLPisiELPsiE := (List Kisi) × (List Ksi)
abbrev KLPsiiiELPisiELPsiE_ : Ty := .pr KLPsiiiE_ KLPisiELPsiE_
abbrev KLPsiiiELPisiELPsiE := (List Ksiii) × (List Kisi) × (List Ksi)
abbrev KLPsiELPsiiiELPisiELPsiE_ : Ty := .pr KLPsiE_ KLPsiiiELPisiELPsiE_
abbrev KLPsiELPsiiiELPisiELPsiE := (List Ksi) × (List Ksiii) × (List Kisi) × (List Ksi)
abbrev KLPiiiiiiiELPsiELPsiiiELPisiELPsiE_ : Ty := .pr KLPiiiiiiiE_ KLPsiELPsiiiELPisiELPsiE_
abbrev KLPiiiiiiiELPsiELPsiiiELPisiELPsiE := (List Kiiiiiii) × (List Ksi) × (List Ksiii) × (List Kisi) × (List Ksi)
def KLPiiiiiiiELPsiELPsiiiELPisiELPsiE_at (l : List KLPiiiiiiiELPsiELPsiiiELPisiELPsiE) (i : Int) : KLPiiiiiiiELPsiELPsiiiELPisiELPsiE := at_ KLPiiiiiiiELPsiELPsiiiELPisiELPsiE_ l i
abbrev KLLi_ : Ty := .sl KLi_
abbrev KLiLLi_ : Ty := .pr KLi_ KLLi_
abbrev KLiLLi := (List Int) × (List (List Int))
def KLiLLi_at (l : List KLiLLi) (i : Int) : KLiLLi := at_ KLiLLi_ l i
def Kb_at (l : List Bool) (i : Int) : Bool := at_ b_ l i
abbrev KLw_ : Ty := .sl u16_
def KLw_at (l : List (List Int)) (i : Int) : List Int := at_ KLw_ l i
def Kw_at (l : List Int) (i : Int) : Int := at_ u16_ l i
abbrev KLb_ : Ty := .sl b_
def KLb_at (l : List (List Bool)) (i : Int) : List Bool := at_ KLb_ l i
noncomputable def law09_Base (n : Nat) : Option (List Kiiiiiii × List Ksi × List Ksiii × List Kisi × List Ksi × Unit) :=
 some (([(21, 1, 0, 0, 0, 0, 0), (22, 4, 0, 0, 0, 0, 0), (1, 4, 0, 0, 0, 1, 0), (9, 4, 1, 2, 0, 0, 0), (1, 4, 0, 0, 0, 11, 0), (14, 1, 1, 4, 0, 0, 4), (1, 4, 0, 0, 0, 0, 0), (16, 4, 5, 3, 6, 0, 0), (16, 4, 0, 7, 1, 0, 0), (1, 4, 0, 0, 0, 12, 0), (13, 1, 1, 9, 0, 0, 4), (12, 1, 1, 4, 0, 0, 4)] : List Kiiiiiii), ([((⟨#[103, 111]⟩ : ByteArray), 0)] : List Ksi), ([((⟨#[110]⟩ : ByteArray), 1, 8, 0)] : List Ksiii), ([(8, (⟨#[108, 111, 119]⟩ : ByteArray), 10), (10, (⟨#[116, 111, 112]⟩ : ByteArray), 11)] : List Kisi), ([((⟨#[110]⟩ : ByteArray), 1)] : List Ksi), ())
def law09_Base_s : Sig := ⟨[], [], .c true [.row Kiiiiiii_, .row Ksi_, .row Ksiii_, .row Kisi_, .row Ksi_], []⟩
def law09_Base_a : Ann := .d
noncomputable def law09_Base_c (n : Nat) : Ctr Try.prog := .of Try.func26 n [] law09_Base_a law09_Base_s (fun d => law09_Base n) fun d => by kernel_rfl
noncomputable def reach_wide_l1b (n : Nat) (x1 : List Kiiiiiii) (x6 : Int) (self : Int × Int × Unit → Option ((Int × Unit))) (d8 : Int × Int × Unit) : Option ((Int × Unit)) :=
 cond (decide (d8.2.1 < (x1.length : Int)))
 (ask (0 ≤ d8.2.1 ∧ d8.2.1 < (x1.length : Int)) (cond (decide (((Kiiiiiii_at x1 d8.2.1).1) = x6))
 (self (IntKind.wrap .i64 (d8.1 + (((Kiiiiiii_at x1 d8.2.1).2).1)), IntKind.wrap .i64 (d8.2.1 + 1), ()))
 (self (d8.1, IntKind.wrap .i64 (d8.2.1 + 1), ()))))
 (some (d8.1, ()))
noncomputable def reach_wide_l1 (n : Nat) (x1 : List Kiiiiiii) (x6 : Int) : Int × Int × Unit → Option ((Int × Unit)) := iter (reach_wide_l1b n x1 x6) n
noncomputable def reach_wide (n : Nat) (x1 : List Kiiiiiii) (x2 : List Ksi) (x3 : List Ksiii) (x4 : List Kisi) (x5 : List Ksi) (x6 : Int) : Option (Int × Unit) :=
 (reach_wide_l1 n x1 x6 (0, 0, ())).bind (fun d9 => some (d9.1, ()))
def reach_wide_s : Sig := ⟨[.c true [.row Kiiiiiii_, .row Ksi_, .row Ksiii_, .row Kisi_, .row Ksi_], .c false [.int .i64]], [], .c false [.int .i64], []⟩
def reach_wide_a : Ann := .s .d (.s .d (.s (.s .d (.b (.l [5, 7, 11, 12, 13, 14, 15, 16, 17, 18, 19, 20, 21, 22, 23] [] ⟨[(5, .c false [.int .i64]), (11, .c false [.int .i64])], []⟩ [(.exit 0, ⟨[(5, .c false [.int .i64])], []⟩)] .d))) .d))
noncomputable def reach_wide_c (n : Nat) : Ctr Try.prog := .of Try.func37 n [] reach_wide_a reach_wide_s (fun d => reach_wide n d.1 d.2.1 d.2.2.1 d.2.2.2.1 d.2.2.2.2.1 d.2.2.2.2.2.1) fun d => by kernel_rfl
noncomputable def reach_Small (n : Nat) (x1 : List Kiiiiiii) (x2 : List Ksi) (x3 : List Ksiii) (x4 : List Kisi) (x5 : List Ksi) : Option (Bool × Unit) :=
 (reach_wide n x1 x2 x3 x4 x5 22).bind (fun r6 => cond (decide (r6.1 ≤ 12))
 ((reach_wide n x1 x2 x3 x4 x5 21).bind (fun r7 => some (decide (r7.1 ≤ 8), ())))
 (some (false, ())))
def reach_Small_s : Sig := ⟨[.c true [.row Kiiiiiii_, .row Ksi_, .row Ksiii_, .row Kisi_, .row Ksi_]], [], .c false [.bool], []⟩
def reach_Small_a : Ann := .d
noncomputable def reach_Small_c (n : Nat) : Ctr Try.prog := .of Try.func15 n [reach_wide_c n] reach_Small_a reach_Small_s (fun d => reach_Small n d.1 d.2.1 d.2.2.1 d.2.2.2.1 d.2.2.2.2.1) fun d => by kernel_rfl
noncomputable def net_First_l1b (n : Nat) (x3 : List Ksiii) (self : Int × List Int × Unit → Option ((List Int × Unit))) (d8 : Int × List Int × Unit) : Option ((List Int × Unit)) :=
 cond (decide (d8.1 < (x3.length : Int)))
 (ask (0 ≤ d8.1 ∧ d8.1 < (x3.length : Int)) (ask (0 ≤ d8.1 ∧ d8.1 < (d8.2.1.length : Int)) (self (IntKind.wrap .i64 (d8.1 + 1), d8.2.1.set d8.1.toNat ((((Ksiii_at x3 d8.1).2).2).2), ()))))
 (some (d8.2.1, ()))
noncomputable def net_First_l1 (n : Nat) (x3 : List Ksiii) : Int × List Int × Unit → Option ((List Int × Unit)) := iter (net_First_l1b n x3) n
noncomputable def net_First (n : Nat) (x1 : List Kiiiiiii) (x2 : List Ksi) (x3 : List Ksiii) (x4 : List Kisi) (x5 : List Ksi) : Option (List Int × Unit) :=
 ask ((0 ≤ (x3.length : Int) ∧ (x3.length : Int) ≤ (x3.length : Int)) ∧ (8 : Int) * (x3.length : Int) ≤ 281474976710656 ∧ (x3.length : Int) ≤ 281474976710656) ((net_First_l1 n x3 (0, List.replicate (x3.length : Int).toNat (0 : Int), ())).bind (fun d9 => some (d9.1, ())))
def net_First_s : Sig := ⟨[.c true [.row Kiiiiiii_, .row Ksi_, .row Ksiii_, .row Kisi_, .row Ksi_]], [], .c false [.row i_], []⟩
def net_First_a : Ann := .s .d (.s .d (.s (.s .d (.b (.l [3, 4, 5, 9, 13, 14, 15, 16, 17, 18, 19, 20, 21, 22, 23] [293] ⟨[(3, .c false [.con (.own 293 1)]), (13, .c false [.int .i64])], [(293, .row 3 i_)]⟩ [(.exit 0, ⟨[(3, .c false [.con (.own 293 1)])], [(293, .row 3 i_)]⟩)] .d))) .d))
noncomputable def net_First_c (n : Nat) : Ctr Try.prog := .of Try.func43 n [] net_First_a net_First_s (fun d => net_First n d.1 d.2.1 d.2.2.1 d.2.2.2.1 d.2.2.2.2.1) fun d => by kernel_rfl
def kat (l : List Int) (j : Nat) : Int := if j < l.length then at_ (.int .i64) l (j : Int) else 0
noncomputable def reach_keyOf (n : Nat) (l : List Int) : Option (Int × Int × Int × Int × Int × Int × Int × Int × Int × Int × Int × Int × Unit) :=
 some ((kat l 0), (kat l 1), (kat l 2), (kat l 3), (kat l 4), (kat l 5), (kat l 6), (kat l 7), (kat l 8), (kat l 9), (kat l 10), (kat l 11), ())
def reach_keyOf_s : Sig := keyS .i64 (.c true [.int .i64, .int .i64, .int .i64, .int .i64, .int .i64, .int .i64, .int .i64, .int .i64, .int .i64, .int .i64, .int .i64, .int .i64])
noncomputable def reach_keyOf_c (n : Nat) : Ctr Try.prog := ⟨.fn 63, reach_keyOf_s, fun d => reach_keyOf n d.1, fun d r h => Spec.keyof (P := Try.prog) (f := 63) (fn := Try.f63) (o := (.c true [.int .i64, .int .i64, .int .i64, .int .i64, .int .i64, .int .i64, .int .i64, .int .i64, .int .i64, .int .i64, .int .i64, .int .i64])) (s0 := fun l => ⟨[(2, V (.ptr 100 0)), (0, V (.row i_ l))], [(100, some (.var 107 [.int .i64 0, .int .i64 0, .int .i64 0, .int .i64 0, .int .i64 0, .int .i64 0, .int .i64 0, .int .i64 0, .int .i64 0, .int .i64 0, .int .i64 0, .int .i64 0]))]⟩) (s1 := fun l => ⟨[(3, V (.ptr 101 0)), (2, V (.ptr 100 0)), (0, V (.row i_ l))], [(101, some (.var 107 [.int .i64 0, .int .i64 0, .int .i64 0, .int .i64 0, .int .i64 0, .int .i64 0, .int .i64 0, .int .i64 0, .int .i64 0, .int .i64 0, .int .i64 0, .int .i64 0])), (100, some (.var 107 [.int .i64 0, .int .i64 0, .int .i64 0, .int .i64 0, .int .i64 0, .int .i64 0, .int .i64 0, .int .i64 0, .int .i64 0, .int .i64 0, .int .i64 0, .int .i64 0]))]⟩) (g := fun l : List Int => ((kat l 0), (kat l 1), (kat l 2), (kat l 3), (kat l 4), (kat l 5), (kat l 6), (kat l 7), (kat l 8), (kat l 9), (kat l 10), (kat l 11), ())) (k := .i64) (x := 0) (p := 3) (d1 := 4) (d2 := 5) (d3 := 6) (b := 101) (n := 12) (T := 107) (dT := 59) (sT := 59) (e := 3) (ty := 107) (cs := [.int .i64 0, .int .i64 0, .int .i64 0, .int .i64 0, .int .i64 0, .int .i64 0, .int .i64 0, .int .i64 0, .int .i64 0, .int .i64 0, .int .i64 0, .int .i64 0]) (d := d) (r := r) Try.func63 rfl rfl rfl rfl rfl rfl rfl rfl rfl rfl rfl (by decide) (by decide) (by decide) (by decide) (by decide) rfl rfl (by kernel_rfl) (by kernel_rfl) (by kernel_rfl) (by kernel_rfl) (by kernel_rfl) (by kernel_rfl) (fun l => by kernel_rfl) (fun l => by kernel_rfl) (fun l => rfl) (fun l => rfl) (fun l => rfl) (fun l => by kernel_rfl) h⟩
noncomputable def reach_rows (n : Nat) (x1 : List Kiiiiiii) (x2 : List Ksi) (x3 : List Ksiii) (x4 : List Kisi) (x5 : List Ksi) : Option (List Kiiiiiii × List Ksi × List Ksiii × List Kisi × List Ksi × Unit) :=
 some (x1, x2, x3, x4, x5, ())
def reach_rows_s : Sig := ⟨[.c true [.row Kiiiiiii_, .row Ksi_, .row Ksiii_, .row Kisi_, .row Ksi_]], [], .c false [.con (.fn 64 [(100, 0)])], [(100, .var 27 [.row Kiiiiiii_, .row Ksi_, .row Ksiii_, .row Kisi_, .row Ksi_])]⟩
def reach_rows_a : Ann := .d
noncomputable def reach_rows_c (n : Nat) : Ctr Try.prog := .of Try.func51 n [] reach_rows_a reach_rows_s (fun d => reach_rows n d.1 d.2.1 d.2.2.1 d.2.2.2.1 d.2.2.2.2.1) fun d => by kernel_rfl
noncomputable def slices_Clone_int_int (n : Nat) (l : List Int) : Option (List Int × Unit) :=
 ask (True ∧ ((([] : List Int)).length + l.length) * 8 ≤ 140737488355328) (some (l, ()))
def slices_Clone_int_int_s : Sig := cloneS i_ (.c false [.row i_]) []
noncomputable def slices_Clone_int_int_c (n : Nat) : Ctr Try.prog := ⟨.fn 44, slices_Clone_int_int_s, fun d => slices_Clone_int_int n d.1, fun d r h => Spec.clone (P := Try.prog) (f := 44) (fn := Try.f44) (t := i_) (T := 59) (E' := 3) (o := (.c false [.row i_])) (ob := []) (c := fun l : List Int => True ∧ ((([] : List Int)).length + l.length) * 8 ≤ 140737488355328) (g := fun l : List Int => (l, ())) (d := d) (r := r) rfl Try.func44 rfl rfl rfl rfl rfl rfl rfl rfl (by kernel_rfl) (by kernel_rfl) (by kernel_rfl) (by kernel_rfl) (fun l => by kernel_rfl) (fun l => by kernel_rfl) (fun l => by kernel_rfl) (fun l => by kernel_rfl) h⟩
noncomputable def slices_Clone_int_int_o (n : Nat) (l : List Int) : Option (List Int × Unit) :=
 ask (True ∧ ((([] : List Int)).length + l.length) * 8 ≤ 140737488355328) (some (l, ()))
def slices_Clone_int_int_o_s : Sig := cloneS i_ (.c false [.con (.own 228 1)]) [(228, .row 3 i_)]
noncomputable def slices_Clone_int_int_o_c (n : Nat) : Ctr Try.prog := ⟨.fn 44, slices_Clone_int_int_o_s, fun d => slices_Clone_int_int_o n d.1, fun d r h => Spec.clone (P := Try.prog) (f := 44) (fn := Try.f44) (t := i_) (T := 59) (E' := 3) (o := (.c false [.con (.own 228 1)])) (ob := [(228, .row 3 i_)]) (c := fun l : List Int => True ∧ ((([] : List Int)).length + l.length) * 8 ≤ 140737488355328) (g := fun l : List Int => (l, ())) (d := d) (r := r) rfl Try.func44 rfl rfl rfl rfl rfl rfl rfl rfl (by kernel_rfl) (by kernel_rfl) (by kernel_rfl) (by kernel_rfl) (fun l => by kernel_rfl) (fun l => by kernel_rfl) (fun l => by kernel_rfl) (fun l => by kernel_rfl) h⟩
noncomputable def vec_two__vec_works_2 (n : Nat) : Option (Unit) :=
 some ()
def vec_two__vec_works_2_s : Sig := ⟨[.c false [.con (.fn 72 [])]], [], .c false [.con (.fn 91 [(100, 0)])], [(100, .var 116 [.con (.fn 72 [])])]⟩
def vec_two__vec_works_2_a : Ann := .d
noncomputable def vec_two__vec_works_2_c (n : Nat) : Ctr Try.prog := .of Try.func71 n [] vec_two__vec_works_2_a vec_two__vec_works_2_s (fun d => vec_two__vec_works_2 n) fun d => by kernel_rfl
noncomputable def vec_asked__vec_works_3 (n : Nat) : Option (Unit) :=
 some ()
def vec_asked__vec_works_3_s : Sig := ⟨[.c false [.con (.fn 74 [])]], [], .c false [.con (.fn 92 [(100, 0)])], [(100, .var 118 [.con (.fn 74 [])])]⟩
def vec_asked__vec_works_3_a : Ann := .d
noncomputable def vec_asked__vec_works_3_c (n : Nat) : Ctr Try.prog := .of Try.func73 n [] vec_asked__vec_works_3_a vec_asked__vec_works_3_s (fun d => vec_asked__vec_works_3 n) fun d => by kernel_rfl
noncomputable def vec_two__vec_works_5 (n : Nat) : Option (Unit) :=
 some ()
def vec_two__vec_works_5_s : Sig := ⟨[.c false [.con (.fn 78 [])]], [], .c false [.con (.fn 91 [(100, 0)])], [(100, .var 116 [.con (.fn 78 [])])]⟩
def vec_two__vec_works_5_a : Ann := .d
noncomputable def vec_two__vec_works_5_c (n : Nat) : Ctr Try.prog := .of Try.func71 n [] vec_two__vec_works_5_a vec_two__vec_works_5_s (fun d => vec_two__vec_works_5 n) fun d => by kernel_rfl
noncomputable def vec_two__vec_works_6 (n : Nat) : Option (Unit) :=
 some ()
def vec_two__vec_works_6_s : Sig := ⟨[.c false [.con (.fn 79 [])]], [], .c false [.con (.fn 91 [(100, 0)])], [(100, .var 116 [.con (.fn 79 [])])]⟩
def vec_two__vec_works_6_a : Ann := .d
noncomputable def vec_two__vec_works_6_c (n : Nat) : Ctr Try.prog := .of Try.func71 n [] vec_two__vec_works_6_a vec_two__vec_works_6_s (fun d => vec_two__vec_works_6 n) fun d => by kernel_rfl
noncomputable def vec_two__vec_works_7 (n : Nat) : Option (Unit) :=
 some ()
def vec_two__vec_works_7_s : Sig := ⟨[.c false [.con (.fn 80 [])]], [], .c false [.con (.fn 91 [(100, 0)])], [(100, .var 116 [.con (.fn 80 [])])]⟩
def vec_two__vec_works_7_a : Ann := .d
noncomputable def vec_two__vec_works_7_c (n : Nat) : Ctr Try.prog := .of Try.func71 n [] vec_two__vec_works_7_a vec_two__vec_works_7_s (fun d => vec_two__vec_works_7 n) fun d => by kernel_rfl
noncomputable def vec_two__vec_works_8 (n : Nat) : Option (Unit) :=
 some ()
def vec_two__vec_works_8_s : Sig := ⟨[.c false [.con (.fn 81 [])]], [], .c false [.con (.fn 91 [(100, 0)])], [(100, .var 116 [.con (.fn 81 [])])]⟩
def vec_two__vec_works_8_a : Ann := .d
noncomputable def vec_two__vec_works_8_c (n : Nat) : Ctr Try.prog := .of Try.func71 n [] vec_two__vec_works_8_a vec_two__vec_works_8_s (fun d => vec_two__vec_works_8 n) fun d => by kernel_rfl
noncomputable def vec_two__vec_works_9 (n : Nat) : Option (Unit) :=
 some ()
def vec_two__vec_works_9_s : Sig := ⟨[.c false [.con (.fn 82 [])]], [], .c false [.con (.fn 91 [(100, 0)])], [(100, .var 116 [.con (.fn 82 [])])]⟩
def vec_two__vec_works_9_a : Ann := .d
noncomputable def vec_two__vec_works_9_c (n : Nat) : Ctr Try.prog := .of Try.func71 n [] vec_two__vec_works_9_a vec_two__vec_works_9_s (fun d => vec_two__vec_works_9 n) fun d => by kernel_rfl
noncomputable def vec_two__vec_works_10 (n : Nat) : Option (Unit) :=
 some ()
def vec_two__vec_works_10_s : Sig := ⟨[.c false [.con (.fn 83 [])]], [], .c false [.con (.fn 91 [(100, 0)])], [(100, .var 116 [.con (.fn 83 [])])]⟩
def vec_two__vec_works_10_a : Ann := .d
noncomputable def vec_two__vec_works_10_c (n : Nat) : Ctr Try.prog := .of Try.func71 n [] vec_two__vec_works_10_a vec_two__vec_works_10_s (fun d => vec_two__vec_works_10 n) fun d => by kernel_rfl
noncomputable def vec_asked__vec_works_11 (n : Nat) : Option (Unit) :=
 some ()
def vec_asked__vec_works_11_s : Sig := ⟨[.c false [.con (.fn 84 [])]], [], .c false [.con (.fn 92 [(100, 0)])], [(100, .var 118 [.con (.fn 84 [])])]⟩
def vec_asked__vec_works_11_a : Ann := .d
noncomputable def vec_asked__vec_works_11_c (n : Nat) : Ctr Try.prog := .of Try.func73 n [] vec_asked__vec_works_11_a vec_asked__vec_works_11_s (fun d => vec_asked__vec_works_11 n) fun d => by kernel_rfl
noncomputable def vec_asked__vec_works_12 (n : Nat) : Option (Unit) :=
 some ()
def vec_asked__vec_works_12_s : Sig := ⟨[.c false [.con (.fn 85 [])]], [], .c false [.con (.fn 92 [(100, 0)])], [(100, .var 118 [.con (.fn 85 [])])]⟩
def vec_asked__vec_works_12_a : Ann := .d
noncomputable def vec_asked__vec_works_12_c (n : Nat) : Ctr Try.prog := .of Try.func73 n [] vec_asked__vec_works_12_a vec_asked__vec_works_12_s (fun d => vec_asked__vec_works_12 n) fun d => by kernel_rfl
noncomputable def vec_asked__vec_works_13 (n : Nat) : Option (Unit) :=
 some ()
def vec_asked__vec_works_13_s : Sig := ⟨[.c false [.con (.fn 86 [])]], [], .c false [.con (.fn 92 [(100, 0)])], [(100, .var 118 [.con (.fn 86 [])])]⟩
def vec_asked__vec_works_13_a : Ann := .d
noncomputable def vec_asked__vec_works_13_c (n : Nat) : Ctr Try.prog := .of Try.func73 n [] vec_asked__vec_works_13_a vec_asked__vec_works_13_s (fun d => vec_asked__vec_works_13 n) fun d => by kernel_rfl
noncomputable def vec_asked__vec_works_14 (n : Nat) : Option (Unit) :=
 some ()
def vec_asked__vec_works_14_s : Sig := ⟨[.c false [.con (.fn 87 [])]], [], .c false [.con (.fn 92 [(100, 0)])], [(100, .var 118 [.con (.fn 87 [])])]⟩
def vec_asked__vec_works_14_a : Ann := .d
noncomputable def vec_asked__vec_works_14_c (n : Nat) : Ctr Try.prog := .of Try.func73 n [] vec_asked__vec_works_14_a vec_asked__vec_works_14_s (fun d => vec_asked__vec_works_14 n) fun d => by kernel_rfl
noncomputable def vec_works (n : Nat) : Option (Unit) :=
 (vec_two__vec_works_2 n).bind (fun r1 => (vec_asked__vec_works_3 n).bind (fun r2 => (vec_two__vec_works_5 n).bind (fun r3 => (vec_two__vec_works_6 n).bind (fun r4 => (vec_two__vec_works_7 n).bind (fun r5 => (vec_two__vec_works_8 n).bind (fun r6 => (vec_two__vec_works_9 n).bind (fun r7 => (vec_two__vec_works_10 n).bind (fun r8 => (vec_asked__vec_works_11 n).bind (fun r9 => (vec_asked__vec_works_12 n).bind (fun r10 => (vec_asked__vec_works_13 n).bind (fun r11 => (vec_asked__vec_works_14 n).bind (fun r12 => some ()))))))))))))
def vec_works_s : Sig := ⟨[], [], .c false [.con (.map 100)], [(100, .tab [(.i64, 1), (.i64, 3), (.i64, 4), (.i64, 5), (.i64, 6), (.i64, 7), (.i64, 8), (.i64, 9), (.i64, 10), (.i64, 11), (.i64, 12), (.i64, 13), (.i64, 14), (.i64, 15), (.i64, 16), (.i64, 17), (.i64, 18)] [(false, [.con (.fn 70 [])]), (false, [.con (.fn 91 [(228, 0)])]), (false, [.con (.fn 92 [(356, 0)])]), (false, [.con (.fn 75 [])]), (false, [.con (.fn 91 [(548, 0)])]), (false, [.con (.fn 91 [(676, 0)])]), (false, [.con (.fn 91 [(804, 0)])]), (false, [.con (.fn 91 [(932, 0)])]), (false, [.con (.fn 91 [(1060, 0)])]), (false, [.con (.fn 91 [(1188, 0)])]), (false, [.con (.fn 92 [(1316, 0)])]), (false, [.con (.fn 92 [(1444, 0)])]), (false, [.con (.fn 92 [(1572, 0)])]), (false, [.con (.fn 92 [(1700, 0)])]), (false, [.con (.fn 88 [])]), (false, [.con (.fn 89 [])]), (false, [.con (.fn 90 [])])]), (228, .var 116 [.con (.fn 72 [])]), (356, .var 118 [.con (.fn 74 [])]), (548, .var 116 [.con (.fn 78 [])]), (676, .var 116 [.con (.fn 79 [])]), (804, .var 116 [.con (.fn 80 [])]), (932, .var 116 [.con (.fn 81 [])]), (1060, .var 116 [.con (.fn 82 [])]), (1188, .var 116 [.con (.fn 83 [])]), (1316, .var 118 [.con (.fn 84 [])]), (1444, .var 118 [.con (.fn 85 [])]), (1572, .var 118 [.con (.fn 86 [])]), (1700, .var 118 [.con (.fn 87 [])])]⟩
def vec_works_a : Ann := .d
noncomputable def vec_works_c (n : Nat) : Ctr Try.prog := .of Try.func69 n [vec_two__vec_works_2_c n, vec_asked__vec_works_3_c n, vec_two__vec_works_5_c n, vec_two__vec_works_6_c n, vec_two__vec_works_7_c n, vec_two__vec_works_8_c n, vec_two__vec_works_9_c n, vec_two__vec_works_10_c n, vec_asked__vec_works_11_c n, vec_asked__vec_works_12_c n, vec_asked__vec_works_13_c n, vec_asked__vec_works_14_c n] vec_works_a vec_works_s (fun d => vec_works n) fun d => by kernel_rfl
noncomputable def vec_works_1 (n : Nat) (x1 : Int) (x2 : Int) (x3 : Int) (x4 : Int) (x5 : Int) (x6 : Int) (x7 : Int) (x8 : Int) (x9 : Int) (x10 : Int) (x11 : Int) : Option (Int × Unit) :=
 some (x6, ())
def vec_works_1_s : Sig := ⟨[.c true [.int .i64, .int .i64, .int .i64, .int .i64, .int .i64, .int .i64, .int .i64], .c false [.int .i64], .c false [.int .i64], .c false [.int .i64], .c false [.int .i64]], [], .c false [.int .i64], []⟩
def vec_works_1_a : Ann := .d
noncomputable def vec_works_1_c (n : Nat) : Ctr Try.prog := .of Try.func70 n [] vec_works_1_a vec_works_1_s (fun d => vec_works_1 n d.1 d.2.1 d.2.2.1 d.2.2.2.1 d.2.2.2.2.1 d.2.2.2.2.2.1 d.2.2.2.2.2.2.1 d.2.2.2.2.2.2.2.1 d.2.2.2.2.2.2.2.2.1 d.2.2.2.2.2.2.2.2.2.1 d.2.2.2.2.2.2.2.2.2.2.1) fun d => by kernel_rfl
noncomputable def vec_works_2 (n : Nat) (x1 : Int) (x2 : Int) : Option (Int × Unit) :=
 some (bits .xor .i64 (-1) x1, ())
def vec_works_2_s : Sig := ⟨[.c false [.int .i64], .c false [.int .i64]], [], .c false [.int .i64], []⟩
def vec_works_2_a : Ann := .d
noncomputable def vec_works_2_c (n : Nat) : Ctr Try.prog := .of Try.func72 n [] vec_works_2_a vec_works_2_s (fun d => vec_works_2 n d.1 d.2.1) fun d => by kernel_rfl
noncomputable def vec_Mask (n : Nat) (x1 : Int) : Option (Int × Unit) :=
 ask (0 ≤ x1) (some (IntKind.wrap .i64 ((shlI .i64 1 x1) - 1), ()))
def vec_Mask_s : Sig := ⟨[.c false [.int .i64]], [], .c false [.int .i64], []⟩
def vec_Mask_a : Ann := .d
noncomputable def vec_Mask_c (n : Nat) : Ctr Try.prog := .of Try.func77 n [] vec_Mask_a vec_Mask_s (fun d => vec_Mask n d.1) fun d => by kernel_rfl
noncomputable def vec_two_1__vec_works_2 (n : Nat) (x1 : Int) (x2 : Int) (x3 : Int) (x4 : Int) (x5 : Int) (x6 : Int) (x7 : Int) (x8 : Int) (x9 : Int) (x10 : Int) (x11 : Int) : Option (Int × Unit) :=
 (vec_works_2 n x8 x9).bind (fun r12 => (vec_Mask n x2).bind (fun r13 => some (bits .and .i64 r12.1 r13.1, ())))
def vec_two_1__vec_works_2_s : Sig := ⟨[.c true [.int .i64, .int .i64, .int .i64, .int .i64, .int .i64, .int .i64, .int .i64], .c false [.int .i64], .c false [.int .i64], .c false [.int .i64], .c false [.int .i64], .c false [.con (.ptr 0 0)]], [(0, .var 116 [.con (.fn 72 [])])], .c false [.int .i64], [(0, .var 116 [.con (.fn 72 [])])]⟩
def vec_two_1__vec_works_2_a : Ann := .d
noncomputable def vec_two_1__vec_works_2_c (n : Nat) : Ctr Try.prog := .of Try.func91 n [vec_works_2_c n, vec_Mask_c n] vec_two_1__vec_works_2_a vec_two_1__vec_works_2_s (fun d => vec_two_1__vec_works_2 n d.1 d.2.1 d.2.2.1 d.2.2.2.1 d.2.2.2.2.1 d.2.2.2.2.2.1 d.2.2.2.2.2.2.1 d.2.2.2.2.2.2.2.1 d.2.2.2.2.2.2.2.2.1 d.2.2.2.2.2.2.2.2.2.1 d.2.2.2.2.2.2.2.2.2.2.1) fun d => by kernel_rfl
noncomputable def vec_works_3 (n : Nat) (x1 : Int) (x2 : Int) : Option (Bool × Unit) :=
 some (decide (x1 ≠ 0), ())
def vec_works_3_s : Sig := ⟨[.c false [.int .i64], .c false [.int .i64]], [], .c false [.bool], []⟩
def vec_works_3_a : Ann := .d
noncomputable def vec_works_3_c (n : Nat) : Ctr Try.prog := .of Try.func74 n [] vec_works_3_a vec_works_3_s (fun d => vec_works_3 n d.1 d.2.1) fun d => by kernel_rfl
noncomputable def vec_flag (n : Nat) (x1 : Bool) : Option (Int × Unit) :=
 cond x1
 (some (1, ()))
 (some (0, ()))
def vec_flag_s : Sig := ⟨[.c false [.bool]], [], .c false [.int .i64], []⟩
def vec_flag_a : Ann := .d
noncomputable def vec_flag_c (n : Nat) : Ctr Try.prog := .of Try.func76 n [] vec_flag_a vec_flag_s (fun d => vec_flag n d.1) fun d => by kernel_rfl
noncomputable def vec_asked_1__vec_works_3 (n : Nat) (x1 : Int) (x2 : Int) (x3 : Int) (x4 : Int) (x5 : Int) (x6 : Int) (x7 : Int) (x8 : Int) (x9 : Int) (x10 : Int) (x11 : Int) : Option (Int × Unit) :=
 (vec_works_3 n x8 x9).bind (fun r12 => (vec_flag n r12.1).bind (fun r13 => some (r13.1, ())))
def vec_asked_1__vec_works_3_s : Sig := ⟨[.c true [.int .i64, .int .i64, .int .i64, .int .i64, .int .i64, .int .i64, .int .i64], .c false [.int .i64], .c false [.int .i64], .c false [.int .i64], .c false [.int .i64], .c false [.con (.ptr 0 0)]], [(0, .var 118 [.con (.fn 74 [])])], .c false [.int .i64], [(0, .var 118 [.con (.fn 74 [])])]⟩
def vec_asked_1__vec_works_3_a : Ann := .d
noncomputable def vec_asked_1__vec_works_3_c (n : Nat) : Ctr Try.prog := .of Try.func92 n [vec_works_3_c n, vec_flag_c n] vec_asked_1__vec_works_3_a vec_asked_1__vec_works_3_s (fun d => vec_asked_1__vec_works_3 n d.1 d.2.1 d.2.2.1 d.2.2.2.1 d.2.2.2.2.1 d.2.2.2.2.2.1 d.2.2.2.2.2.2.1 d.2.2.2.2.2.2.2.1 d.2.2.2.2.2.2.2.2.1 d.2.2.2.2.2.2.2.2.2.1 d.2.2.2.2.2.2.2.2.2.2.1) fun d => by kernel_rfl
noncomputable def vec_works_4 (n : Nat) (x1 : Int) (x2 : Int) (x3 : Int) (x4 : Int) (x5 : Int) (x6 : Int) (x7 : Int) (x8 : Int) (x9 : Int) (x10 : Int) (x11 : Int) : Option (Int × Unit) :=
 (vec_Mask n x7).bind (fun r12 => (vec_flag n (decide (x8 = r12.1))).bind (fun r13 => some (r13.1, ())))
def vec_works_4_s : Sig := ⟨[.c true [.int .i64, .int .i64, .int .i64, .int .i64, .int .i64, .int .i64, .int .i64], .c false [.int .i64], .c false [.int .i64], .c false [.int .i64], .c false [.int .i64]], [], .c false [.int .i64], []⟩
def vec_works_4_a : Ann := .d
noncomputable def vec_works_4_c (n : Nat) : Ctr Try.prog := .of Try.func75 n [vec_Mask_c n, vec_flag_c n] vec_works_4_a vec_works_4_s (fun d => vec_works_4 n d.1 d.2.1 d.2.2.1 d.2.2.2.1 d.2.2.2.2.1 d.2.2.2.2.2.1 d.2.2.2.2.2.2.1 d.2.2.2.2.2.2.2.1 d.2.2.2.2.2.2.2.2.1 d.2.2.2.2.2.2.2.2.2.1 d.2.2.2.2.2.2.2.2.2.2.1) fun d => by kernel_rfl
noncomputable def vec_works_5 (n : Nat) (x1 : Int) (x2 : Int) : Option (Int × Unit) :=
 some (bits .and .i64 x1 x2, ())
def vec_works_5_s : Sig := ⟨[.c false [.int .i64], .c false [.int .i64]], [], .c false [.int .i64], []⟩
def vec_works_5_a : Ann := .d
noncomputable def vec_works_5_c (n : Nat) : Ctr Try.prog := .of Try.func78 n [] vec_works_5_a vec_works_5_s (fun d => vec_works_5 n d.1 d.2.1) fun d => by kernel_rfl
noncomputable def vec_two_1__vec_works_5 (n : Nat) (x1 : Int) (x2 : Int) (x3 : Int) (x4 : Int) (x5 : Int) (x6 : Int) (x7 : Int) (x8 : Int) (x9 : Int) (x10 : Int) (x11 : Int) : Option (Int × Unit) :=
 (vec_works_5 n x8 x9).bind (fun r12 => (vec_Mask n x2).bind (fun r13 => some (bits .and .i64 r12.1 r13.1, ())))
def vec_two_1__vec_works_5_s : Sig := ⟨[.c true [.int .i64, .int .i64, .int .i64, .int .i64, .int .i64, .int .i64, .int .i64], .c false [.int .i64], .c false [.int .i64], .c false [.int .i64], .c false [.int .i64], .c false [.con (.ptr 0 0)]], [(0, .var 116 [.con (.fn 78 [])])], .c false [.int .i64], [(0, .var 116 [.con (.fn 78 [])])]⟩
def vec_two_1__vec_works_5_a : Ann := .d
noncomputable def vec_two_1__vec_works_5_c (n : Nat) : Ctr Try.prog := .of Try.func91 n [vec_works_5_c n, vec_Mask_c n] vec_two_1__vec_works_5_a vec_two_1__vec_works_5_s (fun d => vec_two_1__vec_works_5 n d.1 d.2.1 d.2.2.1 d.2.2.2.1 d.2.2.2.2.1 d.2.2.2.2.2.1 d.2.2.2.2.2.2.1 d.2.2.2.2.2.2.2.1 d.2.2.2.2.2.2.2.2.1 d.2.2.2.2.2.2.2.2.2.1 d.2.2.2.2.2.2.2.2.2.2.1) fun d => by kernel_rfl
noncomputable def vec_works_6 (n : Nat) (x1 : Int) (x2 : Int) : Option (Int × Unit) :=
 some (bits .or .i64 x1 x2, ())
def vec_works_6_s : Sig := ⟨[.c false [.int .i64], .c false [.int .i64]], [], .c false [.int .i64], []⟩
def vec_works_6_a : Ann := .d
noncomputable def vec_works_6_c (n : Nat) : Ctr Try.prog := .of Try.func79 n [] vec_works_6_a vec_works_6_s (fun d => vec_works_6 n d.1 d.2.1) fun d => by kernel_rfl
noncomputable def vec_two_1__vec_works_6 (n : Nat) (x1 : Int) (x2 : Int) (x3 : Int) (x4 : Int) (x5 : Int) (x6 : Int) (x7 : Int) (x8 : Int) (x9 : Int) (x10 : Int) (x11 : Int) : Option (Int × Unit) :=
 (vec_works_6 n x8 x9).bind (fun r12 => (vec_Mask n x2).bind (fun r13 => some (bits .and .i64 r12.1 r13.1, ())))
def vec_two_1__vec_works_6_s : Sig := ⟨[.c true [.int .i64, .int .i64, .int .i64, .int .i64, .int .i64, .int .i64, .int .i64], .c false [.int .i64], .c false [.int .i64], .c false [.int .i64], .c false [.int .i64], .c false [.con (.ptr 0 0)]], [(0, .var 116 [.con (.fn 79 [])])], .c false [.int .i64], [(0, .var 116 [.con (.fn 79 [])])]⟩
def vec_two_1__vec_works_6_a : Ann := .d
noncomputable def vec_two_1__vec_works_6_c (n : Nat) : Ctr Try.prog := .of Try.func91 n [vec_works_6_c n, vec_Mask_c n] vec_two_1__vec_works_6_a vec_two_1__vec_works_6_s (fun d => vec_two_1__vec_works_6 n d.1 d.2.1 d.2.2.1 d.2.2.2.1 d.2.2.2.2.1 d.2.2.2.2.2.1 d.2.2.2.2.2.2.1 d.2.2.2.2.2.2.2.1 d.2.2.2.2.2.2.2.2.1 d.2.2.2.2.2.2.2.2.2.1 d.2.2.2.2.2.2.2.2.2.2.1) fun d => by kernel_rfl
noncomputable def vec_works_7 (n : Nat) (x1 : Int) (x2 : Int) : Option (Int × Unit) :=
 some (bits .xor .i64 x1 x2, ())
def vec_works_7_s : Sig := ⟨[.c false [.int .i64], .c false [.int .i64]], [], .c false [.int .i64], []⟩
def vec_works_7_a : Ann := .d
noncomputable def vec_works_7_c (n : Nat) : Ctr Try.prog := .of Try.func80 n [] vec_works_7_a vec_works_7_s (fun d => vec_works_7 n d.1 d.2.1) fun d => by kernel_rfl
noncomputable def vec_two_1__vec_works_7 (n : Nat) (x1 : Int) (x2 : Int) (x3 : Int) (x4 : Int) (x5 : Int) (x6 : Int) (x7 : Int) (x8 : Int) (x9 : Int) (x10 : Int) (x11 : Int) : Option (Int × Unit) :=
 (vec_works_7 n x8 x9).bind (fun r12 => (vec_Mask n x2).bind (fun r13 => some (bits .and .i64 r12.1 r13.1, ())))
def vec_two_1__vec_works_7_s : Sig := ⟨[.c true [.int .i64, .int .i64, .int .i64, .int .i64, .int .i64, .int .i64, .int .i64], .c false [.int .i64], .c false [.int .i64], .c false [.int .i64], .c false [.int .i64], .c false [.con (.ptr 0 0)]], [(0, .var 116 [.con (.fn 80 [])])], .c false [.int .i64], [(0, .var 116 [.con (.fn 80 [])])]⟩
def vec_two_1__vec_works_7_a : Ann := .d
noncomputable def vec_two_1__vec_works_7_c (n : Nat) : Ctr Try.prog := .of Try.func91 n [vec_works_7_c n, vec_Mask_c n] vec_two_1__vec_works_7_a vec_two_1__vec_works_7_s (fun d => vec_two_1__vec_works_7 n d.1 d.2.1 d.2.2.1 d.2.2.2.1 d.2.2.2.2.1 d.2.2.2.2.2.1 d.2.2.2.2.2.2.1 d.2.2.2.2.2.2.2.1 d.2.2.2.2.2.2.2.2.1 d.2.2.2.2.2.2.2.2.2.1 d.2.2.2.2.2.2.2.2.2.2.1) fun d => by kernel_rfl
noncomputable def vec_works_8 (n : Nat) (x1 : Int) (x2 : Int) : Option (Int × Unit) :=
 some (IntKind.wrap .i64 (x1 + x2), ())
def vec_works_8_s : Sig := ⟨[.c false [.int .i64], .c false [.int .i64]], [], .c false [.int .i64], []⟩
def vec_works_8_a : Ann := .d
noncomputable def vec_works_8_c (n : Nat) : Ctr Try.prog := .of Try.func81 n [] vec_works_8_a vec_works_8_s (fun d => vec_works_8 n d.1 d.2.1) fun d => by kernel_rfl
noncomputable def vec_two_1__vec_works_8 (n : Nat) (x1 : Int) (x2 : Int) (x3 : Int) (x4 : Int) (x5 : Int) (x6 : Int) (x7 : Int) (x8 : Int) (x9 : Int) (x10 : Int) (x11 : Int) : Option (Int × Unit) :=
 (vec_works_8 n x8 x9).bind (fun r12 => (vec_Mask n x2).bind (fun r13 => some (bits .and .i64 r12.1 r13.1, ())))
def vec_two_1__vec_works_8_s : Sig := ⟨[.c true [.int .i64, .int .i64, .int .i64, .int .i64, .int .i64, .int .i64, .int .i64], .c false [.int .i64], .c false [.int .i64], .c false [.int .i64], .c false [.int .i64], .c false [.con (.ptr 0 0)]], [(0, .var 116 [.con (.fn 81 [])])], .c false [.int .i64], [(0, .var 116 [.con (.fn 81 [])])]⟩
def vec_two_1__vec_works_8_a : Ann := .d
noncomputable def vec_two_1__vec_works_8_c (n : Nat) : Ctr Try.prog := .of Try.func91 n [vec_works_8_c n, vec_Mask_c n] vec_two_1__vec_works_8_a vec_two_1__vec_works_8_s (fun d => vec_two_1__vec_works_8 n d.1 d.2.1 d.2.2.1 d.2.2.2.1 d.2.2.2.2.1 d.2.2.2.2.2.1 d.2.2.2.2.2.2.1 d.2.2.2.2.2.2.2.1 d.2.2.2.2.2.2.2.2.1 d.2.2.2.2.2.2.2.2.2.1 d.2.2.2.2.2.2.2.2.2.2.1) fun d => by kernel_rfl
noncomputable def vec_works_9 (n : Nat) (x1 : Int) (x2 : Int) : Option (Int × Unit) :=
 some (IntKind.wrap .i64 (x1 - x2), ())
def vec_works_9_s : Sig := ⟨[.c false [.int .i64], .c false [.int .i64]], [], .c false [.int .i64], []⟩
def vec_works_9_a : Ann := .d
noncomputable def vec_works_9_c (n : Nat) : Ctr Try.prog := .of Try.func82 n [] vec_works_9_a vec_works_9_s (fun d => vec_works_9 n d.1 d.2.1) fun d => by kernel_rfl
noncomputable def vec_two_1__vec_works_9 (n : Nat) (x1 : Int) (x2 : Int) (x3 : Int) (x4 : Int) (x5 : Int) (x6 : Int) (x7 : Int) (x8 : Int) (x9 : Int) (x10 : Int) (x11 : Int) : Option (Int × Unit) :=
 (vec_works_9 n x8 x9).bind (fun r12 => (vec_Mask n x2).bind (fun r13 => some (bits .and .i64 r12.1 r13.1, ())))
def vec_two_1__vec_works_9_s : Sig := ⟨[.c true [.int .i64, .int .i64, .int .i64, .int .i64, .int .i64, .int .i64, .int .i64], .c false [.int .i64], .c false [.int .i64], .c false [.int .i64], .c false [.int .i64], .c false [.con (.ptr 0 0)]], [(0, .var 116 [.con (.fn 82 [])])], .c false [.int .i64], [(0, .var 116 [.con (.fn 82 [])])]⟩
def vec_two_1__vec_works_9_a : Ann := .d
noncomputable def vec_two_1__vec_works_9_c (n : Nat) : Ctr Try.prog := .of Try.func91 n [vec_works_9_c n, vec_Mask_c n] vec_two_1__vec_works_9_a vec_two_1__vec_works_9_s (fun d => vec_two_1__vec_works_9 n d.1 d.2.1 d.2.2.1 d.2.2.2.1 d.2.2.2.2.1 d.2.2.2.2.2.1 d.2.2.2.2.2.2.1 d.2.2.2.2.2.2.2.1 d.2.2.2.2.2.2.2.2.1 d.2.2.2.2.2.2.2.2.2.1 d.2.2.2.2.2.2.2.2.2.2.1) fun d => by kernel_rfl
noncomputable def vec_works_10 (n : Nat) (x1 : Int) (x2 : Int) : Option (Int × Unit) :=
 some (IntKind.wrap .i64 (x1 * x2), ())
def vec_works_10_s : Sig := ⟨[.c false [.int .i64], .c false [.int .i64]], [], .c false [.int .i64], []⟩
def vec_works_10_a : Ann := .d
noncomputable def vec_works_10_c (n : Nat) : Ctr Try.prog := .of Try.func83 n [] vec_works_10_a vec_works_10_s (fun d => vec_works_10 n d.1 d.2.1) fun d => by kernel_rfl
noncomputable def vec_two_1__vec_works_10 (n : Nat) (x1 : Int) (x2 : Int) (x3 : Int) (x4 : Int) (x5 : Int) (x6 : Int) (x7 : Int) (x8 : Int) (x9 : Int) (x10 : Int) (x11 : Int) : Option (Int × Unit) :=
 (vec_works_10 n x8 x9).bind (fun r12 => (vec_Mask n x2).bind (fun r13 => some (bits .and .i64 r12.1 r13.1, ())))
def vec_two_1__vec_works_10_s : Sig := ⟨[.c true [.int .i64, .int .i64, .int .i64, .int .i64, .int .i64, .int .i64, .int .i64], .c false [.int .i64], .c false [.int .i64], .c false [.int .i64], .c false [.int .i64], .c false [.con (.ptr 0 0)]], [(0, .var 116 [.con (.fn 83 [])])], .c false [.int .i64], [(0, .var 116 [.con (.fn 83 [])])]⟩
def vec_two_1__vec_works_10_a : Ann := .d
noncomputable def vec_two_1__vec_works_10_c (n : Nat) : Ctr Try.prog := .of Try.func91 n [vec_works_10_c n, vec_Mask_c n] vec_two_1__vec_works_10_a vec_two_1__vec_works_10_s (fun d => vec_two_1__vec_works_10 n d.1 d.2.1 d.2.2.1 d.2.2.2.1 d.2.2.2.2.1 d.2.2.2.2.2.1 d.2.2.2.2.2.2.1 d.2.2.2.2.2.2.2.1 d.2.2.2.2.2.2.2.2.1 d.2.2.2.2.2.2.2.2.2.1 d.2.2.2.2.2.2.2.2.2.2.1) fun d => by kernel_rfl
noncomputable def vec_works_11 (n : Nat) (x1 : Int) (x2 : Int) : Option (Bool × Unit) :=
 some (decide (x1 = x2), ())
def vec_works_11_s : Sig := ⟨[.c false [.int .i64], .c false [.int .i64]], [], .c false [.bool], []⟩
def vec_works_11_a : Ann := .d
noncomputable def vec_works_11_c (n : Nat) : Ctr Try.prog := .of Try.func84 n [] vec_works_11_a vec_works_11_s (fun d => vec_works_11 n d.1 d.2.1) fun d => by kernel_rfl
noncomputable def vec_asked_1__vec_works_11 (n : Nat) (x1 : Int) (x2 : Int) (x3 : Int) (x4 : Int) (x5 : Int) (x6 : Int) (x7 : Int) (x8 : Int) (x9 : Int) (x10 : Int) (x11 : Int) : Option (Int × Unit) :=
 (vec_works_11 n x8 x9).bind (fun r12 => (vec_flag n r12.1).bind (fun r13 => some (r13.1, ())))
def vec_asked_1__vec_works_11_s : Sig := ⟨[.c true [.int .i64, .int .i64, .int .i64, .int .i64, .int .i64, .int .i64, .int .i64], .c false [.int .i64], .c false [.int .i64], .c false [.int .i64], .c false [.int .i64], .c false [.con (.ptr 0 0)]], [(0, .var 118 [.con (.fn 84 [])])], .c false [.int .i64], [(0, .var 118 [.con (.fn 84 [])])]⟩
def vec_asked_1__vec_works_11_a : Ann := .d
noncomputable def vec_asked_1__vec_works_11_c (n : Nat) : Ctr Try.prog := .of Try.func92 n [vec_works_11_c n, vec_flag_c n] vec_asked_1__vec_works_11_a vec_asked_1__vec_works_11_s (fun d => vec_asked_1__vec_works_11 n d.1 d.2.1 d.2.2.1 d.2.2.2.1 d.2.2.2.2.1 d.2.2.2.2.2.1 d.2.2.2.2.2.2.1 d.2.2.2.2.2.2.2.1 d.2.2.2.2.2.2.2.2.1 d.2.2.2.2.2.2.2.2.2.1 d.2.2.2.2.2.2.2.2.2.2.1) fun d => by kernel_rfl
noncomputable def vec_works_12 (n : Nat) (x1 : Int) (x2 : Int) : Option (Bool × Unit) :=
 some (decide (x1 ≠ x2), ())
def vec_works_12_s : Sig := ⟨[.c false [.int .i64], .c false [.int .i64]], [], .c false [.bool], []⟩
def vec_works_12_a : Ann := .d
noncomputable def vec_works_12_c (n : Nat) : Ctr Try.prog := .of Try.func85 n [] vec_works_12_a vec_works_12_s (fun d => vec_works_12 n d.1 d.2.1) fun d => by kernel_rfl
noncomputable def vec_asked_1__vec_works_12 (n : Nat) (x1 : Int) (x2 : Int) (x3 : Int) (x4 : Int) (x5 : Int) (x6 : Int) (x7 : Int) (x8 : Int) (x9 : Int) (x10 : Int) (x11 : Int) : Option (Int × Unit) :=
 (vec_works_12 n x8 x9).bind (fun r12 => (vec_flag n r12.1).bind (fun r13 => some (r13.1, ())))
def vec_asked_1__vec_works_12_s : Sig := ⟨[.c true [.int .i64, .int .i64, .int .i64, .int .i64, .int .i64, .int .i64, .int .i64], .c false [.int .i64], .c false [.int .i64], .c false [.int .i64], .c false [.int .i64], .c false [.con (.ptr 0 0)]], [(0, .var 118 [.con (.fn 85 [])])], .c false [.int .i64], [(0, .var 118 [.con (.fn 85 [])])]⟩
def vec_asked_1__vec_works_12_a : Ann := .d
noncomputable def vec_asked_1__vec_works_12_c (n : Nat) : Ctr Try.prog := .of Try.func92 n [vec_works_12_c n, vec_flag_c n] vec_asked_1__vec_works_12_a vec_asked_1__vec_works_12_s (fun d => vec_asked_1__vec_works_12 n d.1 d.2.1 d.2.2.1 d.2.2.2.1 d.2.2.2.2.1 d.2.2.2.2.2.1 d.2.2.2.2.2.2.1 d.2.2.2.2.2.2.2.1 d.2.2.2.2.2.2.2.2.1 d.2.2.2.2.2.2.2.2.2.1 d.2.2.2.2.2.2.2.2.2.2.1) fun d => by kernel_rfl
noncomputable def vec_works_13 (n : Nat) (x1 : Int) (x2 : Int) : Option (Bool × Unit) :=
 some (decide (x1 < x2), ())
def vec_works_13_s : Sig := ⟨[.c false [.int .i64], .c false [.int .i64]], [], .c false [.bool], []⟩
def vec_works_13_a : Ann := .d
noncomputable def vec_works_13_c (n : Nat) : Ctr Try.prog := .of Try.func86 n [] vec_works_13_a vec_works_13_s (fun d => vec_works_13 n d.1 d.2.1) fun d => by kernel_rfl
noncomputable def vec_asked_1__vec_works_13 (n : Nat) (x1 : Int) (x2 : Int) (x3 : Int) (x4 : Int) (x5 : Int) (x6 : Int) (x7 : Int) (x8 : Int) (x9 : Int) (x10 : Int) (x11 : Int) : Option (Int × Unit) :=
 (vec_works_13 n x8 x9).bind (fun r12 => (vec_flag n r12.1).bind (fun r13 => some (r13.1, ())))
def vec_asked_1__vec_works_13_s : Sig := ⟨[.c true [.int .i64, .int .i64, .int .i64, .int .i64, .int .i64, .int .i64, .int .i64], .c false [.int .i64], .c false [.int .i64], .c false [.int .i64], .c false [.int .i64], .c false [.con (.ptr 0 0)]], [(0, .var 118 [.con (.fn 86 [])])], .c false [.int .i64], [(0, .var 118 [.con (.fn 86 [])])]⟩
def vec_asked_1__vec_works_13_a : Ann := .d
noncomputable def vec_asked_1__vec_works_13_c (n : Nat) : Ctr Try.prog := .of Try.func92 n [vec_works_13_c n, vec_flag_c n] vec_asked_1__vec_works_13_a vec_asked_1__vec_works_13_s (fun d => vec_asked_1__vec_works_13 n d.1 d.2.1 d.2.2.1 d.2.2.2.1 d.2.2.2.2.1 d.2.2.2.2.2.1 d.2.2.2.2.2.2.1 d.2.2.2.2.2.2.2.1 d.2.2.2.2.2.2.2.2.1 d.2.2.2.2.2.2.2.2.2.1 d.2.2.2.2.2.2.2.2.2.2.1) fun d => by kernel_rfl
noncomputable def vec_works_14 (n : Nat) (x1 : Int) (x2 : Int) : Option (Bool × Unit) :=
 some (decide (x1 ≤ x2), ())
def vec_works_14_s : Sig := ⟨[.c false [.int .i64], .c false [.int .i64]], [], .c false [.bool], []⟩
def vec_works_14_a : Ann := .d
noncomputable def vec_works_14_c (n : Nat) : Ctr Try.prog := .of Try.func87 n [] vec_works_14_a vec_works_14_s (fun d => vec_works_14 n d.1 d.2.1) fun d => by kernel_rfl
noncomputable def vec_asked_1__vec_works_14 (n : Nat) (x1 : Int) (x2 : Int) (x3 : Int) (x4 : Int) (x5 : Int) (x6 : Int) (x7 : Int) (x8 : Int) (x9 : Int) (x10 : Int) (x11 : Int) : Option (Int × Unit) :=
 (vec_works_14 n x8 x9).bind (fun r12 => (vec_flag n r12.1).bind (fun r13 => some (r13.1, ())))
def vec_asked_1__vec_works_14_s : Sig := ⟨[.c true [.int .i64, .int .i64, .int .i64, .int .i64, .int .i64, .int .i64, .int .i64], .c false [.int .i64], .c false [.int .i64], .c false [.int .i64], .c false [.int .i64], .c false [.con (.ptr 0 0)]], [(0, .var 118 [.con (.fn 87 [])])], .c false [.int .i64], [(0, .var 118 [.con (.fn 87 [])])]⟩
def vec_asked_1__vec_works_14_a : Ann := .d
noncomputable def vec_asked_1__vec_works_14_c (n : Nat) : Ctr Try.prog := .of Try.func92 n [vec_works_14_c n, vec_flag_c n] vec_asked_1__vec_works_14_a vec_asked_1__vec_works_14_s (fun d => vec_asked_1__vec_works_14 n d.1 d.2.1 d.2.2.1 d.2.2.2.1 d.2.2.2.2.1 d.2.2.2.2.2.1 d.2.2.2.2.2.2.1 d.2.2.2.2.2.2.2.1 d.2.2.2.2.2.2.2.2.1 d.2.2.2.2.2.2.2.2.2.1 d.2.2.2.2.2.2.2.2.2.2.1) fun d => by kernel_rfl
noncomputable def vec_works_15 (n : Nat) (x1 : Int) (x2 : Int) (x3 : Int) (x4 : Int) (x5 : Int) (x6 : Int) (x7 : Int) (x8 : Int) (x9 : Int) (x10 : Int) (x11 : Int) : Option (Int × Unit) :=
 cond (decide (x8 = 1))
 (some (x9, ()))
 (some (x10, ()))
def vec_works_15_s : Sig := ⟨[.c true [.int .i64, .int .i64, .int .i64, .int .i64, .int .i64, .int .i64, .int .i64], .c false [.int .i64], .c false [.int .i64], .c false [.int .i64], .c false [.int .i64]], [], .c false [.int .i64], []⟩
def vec_works_15_a : Ann := .d
noncomputable def vec_works_15_c (n : Nat) : Ctr Try.prog := .of Try.func88 n [] vec_works_15_a vec_works_15_s (fun d => vec_works_15 n d.1 d.2.1 d.2.2.1 d.2.2.2.1 d.2.2.2.2.1 d.2.2.2.2.2.1 d.2.2.2.2.2.2.1 d.2.2.2.2.2.2.2.1 d.2.2.2.2.2.2.2.2.1 d.2.2.2.2.2.2.2.2.2.1 d.2.2.2.2.2.2.2.2.2.2.1) fun d => by kernel_rfl
noncomputable def vec_works_16 (n : Nat) (x1 : Int) (x2 : Int) (x3 : Int) (x4 : Int) (x5 : Int) (x6 : Int) (x7 : Int) (x8 : Int) (x9 : Int) (x10 : Int) (x11 : Int) : Option (Int × Unit) :=
 ask (0 ≤ x11) (some (bits .or .i64 (shlI .i64 x8 x11) x9, ()))
def vec_works_16_s : Sig := ⟨[.c true [.int .i64, .int .i64, .int .i64, .int .i64, .int .i64, .int .i64, .int .i64], .c false [.int .i64], .c false [.int .i64], .c false [.int .i64], .c false [.int .i64]], [], .c false [.int .i64], []⟩
def vec_works_16_a : Ann := .d
noncomputable def vec_works_16_c (n : Nat) : Ctr Try.prog := .of Try.func89 n [] vec_works_16_a vec_works_16_s (fun d => vec_works_16 n d.1 d.2.1 d.2.2.1 d.2.2.2.1 d.2.2.2.2.1 d.2.2.2.2.2.1 d.2.2.2.2.2.2.1 d.2.2.2.2.2.2.2.1 d.2.2.2.2.2.2.2.2.1 d.2.2.2.2.2.2.2.2.2.1 d.2.2.2.2.2.2.2.2.2.2.1) fun d => by kernel_rfl
noncomputable def vec_works_17 (n : Nat) (x1 : Int) (x2 : Int) (x3 : Int) (x4 : Int) (x5 : Int) (x6 : Int) (x7 : Int) (x8 : Int) (x9 : Int) (x10 : Int) (x11 : Int) : Option (Int × Unit) :=
 ask (0 ≤ x7) ((vec_Mask n (IntKind.wrap .i64 ((IntKind.wrap .i64 (x6 - x7)) + 1))).bind (fun r12 => some (bits .and .i64 (shrI .i64 x8 x7) r12.1, ())))
def vec_works_17_s : Sig := ⟨[.c true [.int .i64, .int .i64, .int .i64, .int .i64, .int .i64, .int .i64, .int .i64], .c false [.int .i64], .c false [.int .i64], .c false [.int .i64], .c false [.int .i64]], [], .c false [.int .i64], []⟩
def vec_works_17_a : Ann := .d
noncomputable def vec_works_17_c (n : Nat) : Ctr Try.prog := .of Try.func90 n [vec_Mask_c n] vec_works_17_a vec_works_17_s (fun d => vec_works_17 n d.1 d.2.1 d.2.2.1 d.2.2.2.1 d.2.2.2.2.1 d.2.2.2.2.2.1 d.2.2.2.2.2.2.1 d.2.2.2.2.2.2.2.1 d.2.2.2.2.2.2.2.2.1 d.2.2.2.2.2.2.2.2.2.1 d.2.2.2.2.2.2.2.2.2.2.1) fun d => by kernel_rfl
noncomputable def vec_Do (n : Nat) (x1 : Int) (x2 : Int) (x3 : Int) (x4 : Int) (x5 : Int) (x6 : Int) (x7 : Int) (x8 : Int) (x9 : Int) (x10 : Int) (x11 : Int) : Option (Int × Unit) :=
 (vec_works n).bind (fun r12 => cond (decide (x1 = 1))
 ((vec_works_1 n x1 x2 x3 x4 x5 x6 x7 x8 x9 x10 x11).bind (fun r13 => some (r13.1, ())))
 (cond (decide (x1 = 3))
 ((vec_two_1__vec_works_2 n x1 x2 x3 x4 x5 x6 x7 x8 x9 x10 x11).bind (fun r14 => some (r14.1, ())))
 (cond (decide (x1 = 4))
 ((vec_asked_1__vec_works_3 n x1 x2 x3 x4 x5 x6 x7 x8 x9 x10 x11).bind (fun r15 => some (r15.1, ())))
 (cond (decide (x1 = 5))
 ((vec_works_4 n x1 x2 x3 x4 x5 x6 x7 x8 x9 x10 x11).bind (fun r16 => some (r16.1, ())))
 (cond (decide (x1 = 6))
 ((vec_two_1__vec_works_5 n x1 x2 x3 x4 x5 x6 x7 x8 x9 x10 x11).bind (fun r17 => some (r17.1, ())))
 (cond (decide (x1 = 7))
 ((vec_two_1__vec_works_6 n x1 x2 x3 x4 x5 x6 x7 x8 x9 x10 x11).bind (fun r18 => some (r18.1, ())))
 (cond (decide (x1 = 8))
 ((vec_two_1__vec_works_7 n x1 x2 x3 x4 x5 x6 x7 x8 x9 x10 x11).bind (fun r19 => some (r19.1, ())))
 (cond (decide (x1 = 9))
 ((vec_two_1__vec_works_8 n x1 x2 x3 x4 x5 x6 x7 x8 x9 x10 x11).bind (fun r20 => some (r20.1, ())))
 (cond (decide (x1 = 10))
 ((vec_two_1__vec_works_9 n x1 x2 x3 x4 x5 x6 x7 x8 x9 x10 x11).bind (fun r21 => some (r21.1, ())))
 (cond (decide (x1 = 11))
 ((vec_two_1__vec_works_10 n x1 x2 x3 x4 x5 x6 x7 x8 x9 x10 x11).bind (fun r22 => some (r22.1, ())))
 (cond (decide (x1 = 12))
 ((vec_asked_1__vec_works_11 n x1 x2 x3 x4 x5 x6 x7 x8 x9 x10 x11).bind (fun r23 => some (r23.1, ())))
 (cond (decide (x1 = 13))
 ((vec_asked_1__vec_works_12 n x1 x2 x3 x4 x5 x6 x7 x8 x9 x10 x11).bind (fun r24 => some (r24.1, ())))
 (cond (decide (x1 = 14))
 ((vec_asked_1__vec_works_13 n x1 x2 x3 x4 x5 x6 x7 x8 x9 x10 x11).bind (fun r25 => some (r25.1, ())))
 (cond (decide (x1 = 15))
 ((vec_asked_1__vec_works_14 n x1 x2 x3 x4 x5 x6 x7 x8 x9 x10 x11).bind (fun r26 => some (r26.1, ())))
 (cond (decide (x1 = 16))
 ((vec_works_15 n x1 x2 x3 x4 x5 x6 x7 x8 x9 x10 x11).bind (fun r27 => some (r27.1, ())))
 (cond (decide (x1 = 17))
 ((vec_works_16 n x1 x2 x3 x4 x5 x6 x7 x8 x9 x10 x11).bind (fun r28 => some (r28.1, ())))
 (cond (decide (x1 = 18))
 ((vec_works_17 n x1 x2 x3 x4 x5 x6 x7 x8 x9 x10 x11).bind (fun r29 => some (r29.1, ())))
 (some (0, ())))))))))))))))))))
def vec_Do_s : Sig := ⟨[.c true [.int .i64, .int .i64, .int .i64, .int .i64, .int .i64, .int .i64, .int .i64], .c false [.int .i64], .c false [.int .i64], .c false [.int .i64], .c false [.int .i64]], [], .c false [.int .i64], []⟩
def vec_Do_a : Ann := .d
noncomputable def vec_Do_c (n : Nat) : Ctr Try.prog := .of Try.func68 n [vec_works_c n, vec_works_1_c n, vec_two_1__vec_works_2_c n, vec_asked_1__vec_works_3_c n, vec_works_4_c n, vec_two_1__vec_works_5_c n, vec_two_1__vec_works_6_c n, vec_two_1__vec_works_7_c n, vec_two_1__vec_works_8_c n, vec_two_1__vec_works_9_c n, vec_two_1__vec_works_10_c n, vec_asked_1__vec_works_11_c n, vec_asked_1__vec_works_12_c n, vec_asked_1__vec_works_13_c n, vec_asked_1__vec_works_14_c n, vec_works_15_c n, vec_works_16_c n, vec_works_17_c n] vec_Do_a vec_Do_s (fun d => vec_Do n d.1 d.2.1 d.2.2.1 d.2.2.2.1 d.2.2.2.2.1 d.2.2.2.2.2.1 d.2.2.2.2.2.2.1 d.2.2.2.2.2.2.2.1 d.2.2.2.2.2.2.2.2.1 d.2.2.2.2.2.2.2.2.2.1 d.2.2.2.2.2.2.2.2.2.2.1) fun d => by kernel_rfl
noncomputable def net_Eval_l1b (n : Nat) (x2 : List Ksi) (x7 : List Int) (self : Int × List Int × Unit → Option ((List Int × Unit))) (d10 : Int × List Int × Unit) : Option ((List Int × Unit)) :=
 cond (decide (d10.1 < (x2.length : Int)))
 (ask (0 ≤ d10.1 ∧ d10.1 < (x2.length : Int)) (ask (0 ≤ d10.1 ∧ d10.1 < (x7.length : Int)) (ask (0 ≤ ((Ksi_at x2 d10.1).2) ∧ (Ksi_at x2 d10.1).2 < (d10.2.1.length : Int)) (self (IntKind.wrap .i64 (d10.1 + 1), d10.2.1.set ((Ksi_at x2 d10.1).2).toNat (Ki_at x7 d10.1), ())))))
 (some (d10.2.1, ()))
noncomputable def net_Eval_l1 (n : Nat) (x2 : List Ksi) (x7 : List Int) : Int × List Int × Unit → Option ((List Int × Unit)) := iter (net_Eval_l1b n x2 x7) n
noncomputable def net_Eval_l2b (n : Nat) (x3 : List Ksiii) (x6 : List Int) (self : Int × List Int × Unit → Option ((List Int × Unit))) (d14 : Int × List Int × Unit) : Option ((List Int × Unit)) :=
 cond (decide (d14.1 < (x3.length : Int)))
 (ask (0 ≤ d14.1 ∧ d14.1 < (x3.length : Int)) (ask (0 ≤ d14.1 ∧ d14.1 < (x6.length : Int)) (ask (0 ≤ (((Ksiii_at x3 d14.1).2).1) ∧ ((Ksiii_at x3 d14.1).2).1 < (d14.2.1.length : Int)) (self (IntKind.wrap .i64 (d14.1 + 1), d14.2.1.set (((Ksiii_at x3 d14.1).2).1).toNat (Ki_at x6 d14.1), ())))))
 (some (d14.2.1, ()))
noncomputable def net_Eval_l2 (n : Nat) (x3 : List Ksiii) (x6 : List Int) : Int × List Int × Unit → Option ((List Int × Unit)) := iter (net_Eval_l2b n x3 x6) n
noncomputable def net_Eval_l3b (n : Nat) (x1 : List Kiiiiiii) (self : Int × List Int × Unit → Option ((List Int × Unit))) (d18 : Int × List Int × Unit) : Option ((List Int × Unit)) :=
 cond (decide (d18.1 < (x1.length : Int)))
 (ask (0 ≤ d18.1 ∧ d18.1 < (x1.length : Int)) (((cond (decide (((Kiiiiiii_at x1 d18.1).1) ≠ 21))
 (some (decide (((Kiiiiiii_at x1 d18.1).1) ≠ 22), ()))
 (some (false, ()))) : Option ((Bool × Unit))).bind (fun d19 => cond d19.1
 (ask (0 ≤ ((((Kiiiiiii_at x1 d18.1).2).2).1) ∧ (((Kiiiiiii_at x1 d18.1).2).2).1 < (d18.2.1.length : Int)) (ask (0 ≤ (((((Kiiiiiii_at x1 d18.1).2).2).2).1) ∧ ((((Kiiiiiii_at x1 d18.1).2).2).2).1 < (d18.2.1.length : Int)) (ask (0 ≤ ((((((Kiiiiiii_at x1 d18.1).2).2).2).2).1) ∧ (((((Kiiiiiii_at x1 d18.1).2).2).2).2).1 < (d18.2.1.length : Int)) (ask (0 ≤ (((((Kiiiiiii_at x1 d18.1).2).2).2).1) ∧ ((((Kiiiiiii_at x1 d18.1).2).2).2).1 < (x1.length : Int)) ((vec_Do n ((Kiiiiiii_at x1 d18.1).1) (((Kiiiiiii_at x1 d18.1).2).1) ((((Kiiiiiii_at x1 d18.1).2).2).1) (((((Kiiiiiii_at x1 d18.1).2).2).2).1) ((((((Kiiiiiii_at x1 d18.1).2).2).2).2).1) (((((((Kiiiiiii_at x1 d18.1).2).2).2).2).2).1) (((((((Kiiiiiii_at x1 d18.1).2).2).2).2).2).2) (Ki_at d18.2.1 ((((Kiiiiiii_at x1 d18.1).2).2).1)) (Ki_at d18.2.1 (((((Kiiiiiii_at x1 d18.1).2).2).2).1)) (Ki_at d18.2.1 ((((((Kiiiiiii_at x1 d18.1).2).2).2).2).1)) (((Kiiiiiii_at x1 (((((Kiiiiiii_at x1 d18.1).2).2).2).1)).2).1)).bind (fun r20 => ask (0 ≤ d18.1 ∧ d18.1 < (d18.2.1.length : Int)) (self (IntKind.wrap .i64 (d18.1 + 1), d18.2.1.set d18.1.toNat r20.1, ()))))))))
 (self (IntKind.wrap .i64 (d18.1 + 1), d18.2.1, ())))))
 (some (d18.2.1, ()))
noncomputable def net_Eval_l3 (n : Nat) (x1 : List Kiiiiiii) : Int × List Int × Unit → Option ((List Int × Unit)) := iter (net_Eval_l3b n x1) n
noncomputable def net_Eval (n : Nat) (x1 : List Kiiiiiii) (x2 : List Ksi) (x3 : List Ksiii) (x4 : List Kisi) (x5 : List Ksi) (x6 : List Int) (x7 : List Int) : Option (List Int × Unit) :=
 ask ((0 ≤ (x1.length : Int) ∧ (x1.length : Int) ≤ (x1.length : Int)) ∧ (8 : Int) * (x1.length : Int) ≤ 281474976710656 ∧ (x1.length : Int) ≤ 281474976710656) ((net_Eval_l1 n x2 x7 (0, List.replicate (x1.length : Int).toNat (0 : Int), ())).bind (fun d11 => (net_Eval_l2 n x3 x6 (0, d11.1, ())).bind (fun d15 => (net_Eval_l3 n x1 (0, d15.1, ())).bind (fun d21 => some (d21.1, ())))))
def net_Eval_s : Sig := ⟨[.c true [.row Kiiiiiii_, .row Ksi_, .row Ksiii_, .row Kisi_, .row Ksi_], .c false [.row i_], .c false [.row i_]], [], .c false [.row i_], []⟩
def net_Eval_a : Ann := .s .d (.s .d (.s (.s .d (.b (.l [7, 8, 9, 17, 21, 22, 23, 24, 25, 26, 27, 28, 29, 30, 31, 32, 33, 34] [293] ⟨[(7, .c false [.con (.own 293 1)]), (21, .c false [.int .i64])], [(293, .row 3 i_)]⟩ [(.exit 0, ⟨[(7, .c false [.con (.own 293 1)])], [(293, .row 3 i_)]⟩)] .d))) (.s (.s .d (.b (.l [7, 10, 11, 38, 39, 40, 41, 42, 43, 44, 45, 46, 47, 48, 49, 50, 51] [293] ⟨[(7, .c false [.con (.own 293 1)]), (38, .c false [.int .i64])], [(293, .row 3 i_)]⟩ [(.exit 2, ⟨[(7, .c false [.con (.own 293 1)])], [(293, .row 3 i_)]⟩)] .d))) (.s (.s .d (.b (.l [7, 12, 13, 55, 56, 57, 58, 59, 60, 61, 62, 63, 64, 65, 66, 67, 68, 69, 70, 71, 72, 73, 74, 75, 76, 77, 78, 79, 80, 81, 82, 83, 84, 85, 86, 87, 88, 89, 90, 91, 92, 93, 94, 95] [293] ⟨[(7, .c false [.con (.own 293 1)]), (55, .c false [.int .i64])], [(293, .row 3 i_)]⟩ [(.exit 4, ⟨[(7, .c false [.con (.own 293 1)])], [(293, .row 3 i_)]⟩)] (.s .d (.s .d (.s (.b (.s .d (.j [60, 61, 62, 63, 64, 65, 66, 67] [] [(.normal, ⟨[(67, .c false [.bool])], []⟩)] .d .d))) .d)))))) .d))))
noncomputable def net_Eval_c (n : Nat) : Ctr Try.prog := .of Try.func59 n [vec_Do_c n] net_Eval_a net_Eval_s (fun d => net_Eval n d.1 d.2.1 d.2.2.1 d.2.2.2.1 d.2.2.2.2.1 d.2.2.2.2.2.1 d.2.2.2.2.2.2.1) fun d => by kernel_rfl
noncomputable def net_After_l1b (n : Nat) (r8 : List Int × Unit) (x3 : List Ksiii) (self : Int × List Int × Unit → Option ((List Int × Unit))) (d11 : Int × List Int × Unit) : Option ((List Int × Unit)) :=
 cond (decide (d11.1 < (x3.length : Int)))
 (ask (0 ≤ d11.1 ∧ d11.1 < (x3.length : Int)) (ask (0 ≤ ((((Ksiii_at x3 d11.1).2).2).1) ∧ (((Ksiii_at x3 d11.1).2).2).1 < (r8.1.length : Int)) (ask (0 ≤ d11.1 ∧ d11.1 < (d11.2.1.length : Int)) (self (IntKind.wrap .i64 (d11.1 + 1), d11.2.1.set d11.1.toNat (Ki_at r8.1 ((((Ksiii_at x3 d11.1).2).2).1)), ())))))
 (some (d11.2.1, ()))
noncomputable def net_After_l1 (n : Nat) (r8 : List Int × Unit) (x3 : List Ksiii) : Int × List Int × Unit → Option ((List Int × Unit)) := iter (net_After_l1b n r8 x3) n
noncomputable def net_After (n : Nat) (x1 : List Kiiiiiii) (x2 : List Ksi) (x3 : List Ksiii) (x4 : List Kisi) (x5 : List Ksi) (x6 : List Int) (x7 : List Int) : Option (List Int × Unit) :=
 (net_Eval n x1 x2 x3 x4 x5 x6 x7).bind (fun r8 => ask ((0 ≤ (x3.length : Int) ∧ (x3.length : Int) ≤ (x3.length : Int)) ∧ (8 : Int) * (x3.length : Int) ≤ 281474976710656 ∧ (x3.length : Int) ≤ 281474976710656) ((net_After_l1 n r8 x3 (0, List.replicate (x3.length : Int).toNat (0 : Int), ())).bind (fun d12 => some (d12.1, ()))))
def net_After_s : Sig := ⟨[.c true [.row Kiiiiiii_, .row Ksi_, .row Ksiii_, .row Kisi_, .row Ksi_], .c false [.row i_], .c false [.row i_]], [], .c false [.row i_], []⟩
def net_After_a : Ann := .s .d (.s .d (.s .d (.s (.s .d (.b (.l [8, 9, 10, 18, 22, 23, 24, 25, 26, 27, 28, 29, 30, 31, 32, 33, 34, 35] [293] ⟨[(8, .c false [.con (.own 293 1)]), (22, .c false [.int .i64])], [(293, .row 3 i_)]⟩ [(.exit 0, ⟨[(8, .c false [.con (.own 293 1)])], [(293, .row 3 i_)]⟩)] .d))) .d)))
noncomputable def net_After_c (n : Nat) : Ctr Try.prog := .of Try.func45 n [net_Eval_c n] net_After_a net_After_s (fun d => net_After n d.1 d.2.1 d.2.2.1 d.2.2.2.1 d.2.2.2.2.1 d.2.2.2.2.2.1 d.2.2.2.2.2.2.1) fun d => by kernel_rfl
noncomputable def net_Eval_o_l1b (n : Nat) (x2 : List Ksi) (x7 : List Int) (self : Int × List Int × Unit → Option ((List Int × Unit))) (d10 : Int × List Int × Unit) : Option ((List Int × Unit)) :=
 cond (decide (d10.1 < (x2.length : Int)))
 (ask (0 ≤ d10.1 ∧ d10.1 < (x2.length : Int)) (ask (0 ≤ d10.1 ∧ d10.1 < (x7.length : Int)) (ask (0 ≤ ((Ksi_at x2 d10.1).2) ∧ (Ksi_at x2 d10.1).2 < (d10.2.1.length : Int)) (self (IntKind.wrap .i64 (d10.1 + 1), d10.2.1.set ((Ksi_at x2 d10.1).2).toNat (Ki_at x7 d10.1), ())))))
 (some (d10.2.1, ()))
noncomputable def net_Eval_o_l1 (n : Nat) (x2 : List Ksi) (x7 : List Int) : Int × List Int × Unit → Option ((List Int × Unit)) := iter (net_Eval_o_l1b n x2 x7) n
noncomputable def net_Eval_o_l2b (n : Nat) (x3 : List Ksiii) (x6 : List Int) (self : Int × List Int × Unit → Option ((List Int × Unit))) (d14 : Int × List Int × Unit) : Option ((List Int × Unit)) :=
 cond (decide (d14.1 < (x3.length : Int)))
 (ask (0 ≤ d14.1 ∧ d14.1 < (x3.length : Int)) (ask (0 ≤ d14.1 ∧ d14.1 < (x6.length : Int)) (ask (0 ≤ (((Ksiii_at x3 d14.1).2).1) ∧ ((Ksiii_at x3 d14.1).2).1 < (d14.2.1.length : Int)) (self (IntKind.wrap .i64 (d14.1 + 1), d14.2.1.set (((Ksiii_at x3 d14.1).2).1).toNat (Ki_at x6 d14.1), ())))))
 (some (d14.2.1, ()))
noncomputable def net_Eval_o_l2 (n : Nat) (x3 : List Ksiii) (x6 : List Int) : Int × List Int × Unit → Option ((List Int × Unit)) := iter (net_Eval_o_l2b n x3 x6) n
noncomputable def net_Eval_o_l3b (n : Nat) (x1 : List Kiiiiiii) (self : Int × List Int × Unit → Option ((List Int × Unit))) (d18 : Int × List Int × Unit) : Option ((List Int × Unit)) :=
 cond (decide (d18.1 < (x1.length : Int)))
 (ask (0 ≤ d18.1 ∧ d18.1 < (x1.length : Int)) (((cond (decide (((Kiiiiiii_at x1 d18.1).1) ≠ 21))
 (some (decide (((Kiiiiiii_at x1 d18.1).1) ≠ 22), ()))
 (some (false, ()))) : Option ((Bool × Unit))).bind (fun d19 => cond d19.1
 (ask (0 ≤ ((((Kiiiiiii_at x1 d18.1).2).2).1) ∧ (((Kiiiiiii_at x1 d18.1).2).2).1 < (d18.2.1.length : Int)) (ask (0 ≤ (((((Kiiiiiii_at x1 d18.1).2).2).2).1) ∧ ((((Kiiiiiii_at x1 d18.1).2).2).2).1 < (d18.2.1.length : Int)) (ask (0 ≤ ((((((Kiiiiiii_at x1 d18.1).2).2).2).2).1) ∧ (((((Kiiiiiii_at x1 d18.1).2).2).2).2).1 < (d18.2.1.length : Int)) (ask (0 ≤ (((((Kiiiiiii_at x1 d18.1).2).2).2).1) ∧ ((((Kiiiiiii_at x1 d18.1).2).2).2).1 < (x1.length : Int)) ((vec_Do n ((Kiiiiiii_at x1 d18.1).1) (((Kiiiiiii_at x1 d18.1).2).1) ((((Kiiiiiii_at x1 d18.1).2).2).1) (((((Kiiiiiii_at x1 d18.1).2).2).2).1) ((((((Kiiiiiii_at x1 d18.1).2).2).2).2).1) (((((((Kiiiiiii_at x1 d18.1).2).2).2).2).2).1) (((((((Kiiiiiii_at x1 d18.1).2).2).2).2).2).2) (Ki_at d18.2.1 ((((Kiiiiiii_at x1 d18.1).2).2).1)) (Ki_at d18.2.1 (((((Kiiiiiii_at x1 d18.1).2).2).2).1)) (Ki_at d18.2.1 ((((((Kiiiiiii_at x1 d18.1).2).2).2).2).1)) (((Kiiiiiii_at x1 (((((Kiiiiiii_at x1 d18.1).2).2).2).1)).2).1)).bind (fun r20 => ask (0 ≤ d18.1 ∧ d18.1 < (d18.2.1.length : Int)) (self (IntKind.wrap .i64 (d18.1 + 1), d18.2.1.set d18.1.toNat r20.1, ()))))))))
 (self (IntKind.wrap .i64 (d18.1 + 1), d18.2.1, ())))))
 (some (d18.2.1, ()))
noncomputable def net_Eval_o_l3 (n : Nat) (x1 : List Kiiiiiii) : Int × List Int × Unit → Option ((List Int × Unit)) := iter (net_Eval_o_l3b n x1) n
noncomputable def net_Eval_o (n : Nat) (x1 : List Kiiiiiii) (x2 : List Ksi) (x3 : List Ksiii) (x4 : List Kisi) (x5 : List Ksi) (x6 : List Int) (x7 : List Int) : Option (List Int × Unit) :=
 ask ((0 ≤ (x1.length : Int) ∧ (x1.length : Int) ≤ (x1.length : Int)) ∧ (8 : Int) * (x1.length : Int) ≤ 281474976710656 ∧ (x1.length : Int) ≤ 281474976710656) ((net_Eval_o_l1 n x2 x7 (0, List.replicate (x1.length : Int).toNat (0 : Int), ())).bind (fun d11 => (net_Eval_o_l2 n x3 x6 (0, d11.1, ())).bind (fun d15 => (net_Eval_o_l3 n x1 (0, d15.1, ())).bind (fun d21 => some (d21.1, ())))))
def net_Eval_o_s : Sig := ⟨[.c true [.row Kiiiiiii_, .row Ksi_, .row Ksiii_, .row Kisi_, .row Ksi_], .c false [.row i_], .c false [.row i_]], [], .c false [.con (.own 293 1)], [(293, .row 3 i_)]⟩
def net_Eval_o_a : Ann := .s .d (.s .d (.s (.s .d (.b (.l [7, 8, 9, 17, 21, 22, 23, 24, 25, 26, 27, 28, 29, 30, 31, 32, 33, 34] [293] ⟨[(7, .c false [.con (.own 293 1)]), (21, .c false [.int .i64])], [(293, .row 3 i_)]⟩ [(.exit 0, ⟨[(7, .c false [.con (.own 293 1)])], [(293, .row 3 i_)]⟩)] .d))) (.s (.s .d (.b (.l [7, 10, 11, 38, 39, 40, 41, 42, 43, 44, 45, 46, 47, 48, 49, 50, 51] [293] ⟨[(7, .c false [.con (.own 293 1)]), (38, .c false [.int .i64])], [(293, .row 3 i_)]⟩ [(.exit 2, ⟨[(7, .c false [.con (.own 293 1)])], [(293, .row 3 i_)]⟩)] .d))) (.s (.s .d (.b (.l [7, 12, 13, 55, 56, 57, 58, 59, 60, 61, 62, 63, 64, 65, 66, 67, 68, 69, 70, 71, 72, 73, 74, 75, 76, 77, 78, 79, 80, 81, 82, 83, 84, 85, 86, 87, 88, 89, 90, 91, 92, 93, 94, 95] [293] ⟨[(7, .c false [.con (.own 293 1)]), (55, .c false [.int .i64])], [(293, .row 3 i_)]⟩ [(.exit 4, ⟨[(7, .c false [.con (.own 293 1)])], [(293, .row 3 i_)]⟩)] (.s .d (.s .d (.s (.b (.s .d (.j [60, 61, 62, 63, 64, 65, 66, 67] [] [(.normal, ⟨[(67, .c false [.bool])], []⟩)] .d .d))) .d)))))) .d))))
noncomputable def net_Eval_o_c (n : Nat) : Ctr Try.prog := .of Try.func59 n [vec_Do_c n] net_Eval_o_a net_Eval_o_s (fun d => net_Eval_o n d.1 d.2.1 d.2.2.1 d.2.2.2.1 d.2.2.2.2.1 d.2.2.2.2.2.1 d.2.2.2.2.2.2.1) fun d => by kernel_rfl
noncomputable def net_After_o_l1b (n : Nat) (r8 : List Int × Unit) (x3 : List Ksiii) (self : Int × List Int × Unit → Option ((List Int × Unit))) (d11 : Int × List Int × Unit) : Option ((List Int × Unit)) :=
 cond (decide (d11.1 < (x3.length : Int)))
 (ask (0 ≤ d11.1 ∧ d11.1 < (x3.length : Int)) (ask (0 ≤ ((((Ksiii_at x3 d11.1).2).2).1) ∧ (((Ksiii_at x3 d11.1).2).2).1 < (r8.1.length : Int)) (ask (0 ≤ d11.1 ∧ d11.1 < (d11.2.1.length : Int)) (self (IntKind.wrap .i64 (d11.1 + 1), d11.2.1.set d11.1.toNat (Ki_at r8.1 ((((Ksiii_at x3 d11.1).2).2).1)), ())))))
 (some (d11.2.1, ()))
noncomputable def net_After_o_l1 (n : Nat) (r8 : List Int × Unit) (x3 : List Ksiii) : Int × List Int × Unit → Option ((List Int × Unit)) := iter (net_After_o_l1b n r8 x3) n
noncomputable def net_After_o (n : Nat) (x1 : List Kiiiiiii) (x2 : List Ksi) (x3 : List Ksiii) (x4 : List Kisi) (x5 : List Ksi) (x6 : List Int) (x7 : List Int) : Option (List Int × Unit) :=
 (net_Eval n x1 x2 x3 x4 x5 x6 x7).bind (fun r8 => ask ((0 ≤ (x3.length : Int) ∧ (x3.length : Int) ≤ (x3.length : Int)) ∧ (8 : Int) * (x3.length : Int) ≤ 281474976710656 ∧ (x3.length : Int) ≤ 281474976710656) ((net_After_o_l1 n r8 x3 (0, List.replicate (x3.length : Int).toNat (0 : Int), ())).bind (fun d12 => some (d12.1, ()))))
def net_After_o_s : Sig := ⟨[.c true [.row Kiiiiiii_, .row Ksi_, .row Ksiii_, .row Kisi_, .row Ksi_], .c false [.row i_], .c false [.row i_]], [], .c false [.con (.own 293 1)], [(293, .row 3 i_)]⟩
def net_After_o_a : Ann := .s .d (.s .d (.s .d (.s (.s .d (.b (.l [8, 9, 10, 18, 22, 23, 24, 25, 26, 27, 28, 29, 30, 31, 32, 33, 34, 35] [293] ⟨[(8, .c false [.con (.own 293 1)]), (22, .c false [.int .i64])], [(293, .row 3 i_)]⟩ [(.exit 0, ⟨[(8, .c false [.con (.own 293 1)])], [(293, .row 3 i_)]⟩)] .d))) .d)))
noncomputable def net_After_o_c (n : Nat) : Ctr Try.prog := .of Try.func45 n [net_Eval_c n] net_After_o_a net_After_o_s (fun d => net_After_o n d.1 d.2.1 d.2.2.1 d.2.2.2.1 d.2.2.2.2.1 d.2.2.2.2.2.1 d.2.2.2.2.2.2.1) fun d => by kernel_rfl
noncomputable def reach_search_add_o (n : Nat) (x1 : List Int) (x2 : Int) (x3 : List Int) (x4 : Int) (x5 : List Kiiiiiii) (x6 : List Ksi) (x7 : List Ksiii) (x8 : List Kisi) (x9 : List Ksi) (x10 : List (Kiiiiiiiiiiii × Bool)) : Option (List Kiiiiiii × List Ksi × List Ksiii × List Kisi × List Ksi × List (Kiiiiiiiiiiii × Bool) × List KLiiLii × Unit) :=
 (reach_keyOf n x1).bind (fun r11 => ask (True) (cond (!(Miiiiiiiiiiii_b_get x10 (r11.1, r11.2.1, r11.2.2.1, r11.2.2.2.1, r11.2.2.2.2.1, r11.2.2.2.2.2.1, r11.2.2.2.2.2.2.1, r11.2.2.2.2.2.2.2.1, r11.2.2.2.2.2.2.2.2.1, r11.2.2.2.2.2.2.2.2.2.1, r11.2.2.2.2.2.2.2.2.2.2.1, r11.2.2.2.2.2.2.2.2.2.2.2.1) false))
 (ask (True ∧ (([(x1, x2, x3, x4)] : List KLiiLii)).length * 64 ≤ 140737488355328) (some (x5, x6, x7, x8, x9, Miiiiiiiiiiii_b_put x10 (r11.1, r11.2.1, r11.2.2.1, r11.2.2.2.1, r11.2.2.2.2.1, r11.2.2.2.2.2.1, r11.2.2.2.2.2.2.1, r11.2.2.2.2.2.2.2.1, r11.2.2.2.2.2.2.2.2.1, r11.2.2.2.2.2.2.2.2.2.1, r11.2.2.2.2.2.2.2.2.2.2.1, r11.2.2.2.2.2.2.2.2.2.2.2.1) true, ([(x1, x2, x3, x4)] : List KLiiLii), ())))
 (some (x5, x6, x7, x8, x9, x10, ([] : List KLiiLii), ()))))
def reach_search_add_o_s : Sig := ⟨[.c false [.con (.ptr 0 0)], .c false [.row i_], .c false [.int .i64], .c false [.row i_], .c false [.int .i64]], [(0, .var 66 [.row Kiiiiiii_, .row Ksi_, .row Ksiii_, .row Kisi_, .row Ksi_, .con .nilsl, .con (.map 1)]), (1, .map true Kiiiiiiiiiiii_ false b_)], .t [], [(0, .var 66 [.row Kiiiiiii_, .row Ksi_, .row Ksiii_, .row Kisi_, .row Ksi_, .con (.own 933 4), .con (.map 1)]), (1, .map true Kiiiiiiiiiiii_ false b_), (933, .row 71 KLiiLii_)]⟩
def reach_search_add_o_a : Ann := .d
noncomputable def reach_search_add_o_c (n : Nat) : Ctr Try.prog := .of Try.func50 n [reach_keyOf_c n] reach_search_add_o_a reach_search_add_o_s (fun d => reach_search_add_o n d.1 d.2.1 d.2.2.1 d.2.2.2.1 d.2.2.2.2.1 d.2.2.2.2.2.1 d.2.2.2.2.2.2.1 d.2.2.2.2.2.2.2.1 d.2.2.2.2.2.2.2.2.1 d.2.2.2.2.2.2.2.2.2.1) fun d => by kernel_rfl
noncomputable def reach_begin_o (n : Nat) (x1 : List Kiiiiiii) (x2 : List Ksi) (x3 : List Ksiii) (x4 : List Kisi) (x5 : List Ksi) : Option (List Kiiiiiii × List Ksi × List Ksiii × List Kisi × List Ksi × List KLiiLii × List (Kiiiiiiiiiiii × Bool) × Unit) :=
 (net_First n x1 x2 x3 x4 x5).bind (fun r6 => (reach_search_add_o n r6.1 (-1) ([] : List Int) 0 x1 x2 x3 x4 x5 ([] : List (Kiiiiiiiiiiii × Bool))).bind (fun r7 => some (r7.1, r7.2.1, r7.2.2.1, r7.2.2.2.1, r7.2.2.2.2.1, r7.2.2.2.2.2.2.1, r7.2.2.2.2.2.1, ())))
def reach_begin_o_s : Sig := ⟨[.c true [.row Kiiiiiii_, .row Ksi_, .row Ksiii_, .row Kisi_, .row Ksi_]], [], .c false [.con (.ptr 293 0)], [(293, .var 66 [.row Kiiiiiii_, .row Ksi_, .row Ksiii_, .row Kisi_, .row Ksi_, .con (.own 486 4), .con (.map 165)]), (486, .row 71 KLiiLii_), (165, .map true Kiiiiiiiiiiii_ false b_)]⟩
def reach_begin_o_a : Ann := .d
noncomputable def reach_begin_o_c (n : Nat) : Ctr Try.prog := .of Try.func29 n [net_First_c n, reach_search_add_o_c n] reach_begin_o_a reach_begin_o_s (fun d => reach_begin_o n d.1 d.2.1 d.2.2.1 d.2.2.2.1 d.2.2.2.2.1) fun d => by kernel_rfl
noncomputable def reach_search_cycle_i5_l1b (n : Nat) (r11 : List Int × Unit) (x6 : List Kisi) (self : Int × Unit → Option ((Bool × Bool × Unit) ⊕ (Unit))) (d13 : Int × Unit) : Option ((Bool × Bool × Unit) ⊕ (Unit)) :=
 cond (decide (d13.1 < (x6.length : Int)))
 (ask (0 ≤ d13.1 ∧ d13.1 < (x6.length : Int)) (cond (decide (((Kisi_at x6 d13.1).1) = 9))
 (ask (0 ≤ (((Kisi_at x6 d13.1).2).2) ∧ ((Kisi_at x6 d13.1).2).2 < (r11.1.length : Int)) (cond (decide ((Ki_at r11.1 (((Kisi_at x6 d13.1).2).2)) = 0))
 (some (.inl (false, false, ())))
 (self (IntKind.wrap .i64 (d13.1 + 1), ()))))
 (self (IntKind.wrap .i64 (d13.1 + 1), ()))))
 (some (.inr ()))
noncomputable def reach_search_cycle_i5_l1 (n : Nat) (r11 : List Int × Unit) (x6 : List Kisi) : Int × Unit → Option ((Bool × Bool × Unit) ⊕ (Unit)) := iter (reach_search_cycle_i5_l1b n r11 x6) n
noncomputable def reach_search_cycle_i5 (n : Nat) (x1 : List Int) (x2 : Int) (x3 : List Kiiiiiii) (x4 : List Ksi) (x5 : List Ksiii) (x6 : List Kisi) (x7 : List Ksi) (x8 : List Int) (x9 : List KLiiLii) (x10 : List (Kiiiiiiiiiiii × Bool)) : Option (Bool × Bool × List Kiiiiiii × List Ksi × List Ksiii × List Kisi × List Ksi × List Int × List KLiiLii × List (Kiiiiiiiiiiii × Bool) × Unit) :=
 (net_Eval_o n x3 x4 x5 x6 x7 x1 x8).bind (fun r11 => (reach_search_cycle_i5_l1 n r11 x6 (0, ())).bind (Sum.elim (fun d14 => some (d14.1, d14.2.1, x3, x4, x5, x6, x7, x8, x9, x10, ())) (fun d15 => cond (decide (x2 < 0))
 (some (true, false, x3, x4, x5, x6, x7, x8, x9, x10, ()))
 (ask (0 ≤ x2 ∧ x2 < (x6.length : Int)) (ask (0 ≤ (((Kisi_at x6 x2).2).2) ∧ ((Kisi_at x6 x2).2).2 < (r11.1.length : Int)) (some (true, (decide ((Ki_at r11.1 (((Kisi_at x6 x2).2).2)) = 1) == decide (((Kisi_at x6 x2).1) = 10)), x3, x4, x5, x6, x7, x8, x9, x10, ())))))))
def reach_search_cycle_i5_s : Sig := ⟨[.c false [.con (.ptr 0 0)], .c false [.row i_], .c false [.con (.own 1 1)], .c false [.int .i64]], [(0, .var 66 [.row Kiiiiiii_, .row Ksi_, .row Ksiii_, .row Kisi_, .row Ksi_, .con (.own 2 4), .con (.map 3)]), (1, .row 3 i_), (2, .row 71 KLiiLii_), (3, .map true Kiiiiiiiiiiii_ false b_)], .t [(false, [.bool]), (false, [.bool])], [(0, .var 66 [.row Kiiiiiii_, .row Ksi_, .row Ksiii_, .row Kisi_, .row Ksi_, .con (.own 2 4), .con (.map 3)]), (1, .row 3 i_), (2, .row 71 KLiiLii_), (3, .map true Kiiiiiiiiiiii_ false b_)]⟩
def reach_search_cycle_i5_a : Ann := .s .d (.s .d (.s (.s .d (.b (.l [8, 9, 12, 27, 28, 29, 30, 31, 32, 33, 34, 35, 36, 37, 38, 39, 40, 41, 42] [] ⟨[(27, .c false [.int .i64])], []⟩ [(.ret, ⟨[(8, .c false [.bool]), (9, .c false [.bool])], []⟩), (.exit 0, ⟨[], []⟩)] .d))) .d))
noncomputable def reach_search_cycle_i5_c (n : Nat) : Ctr Try.prog := .of Try.func52 n [net_Eval_o_c n] reach_search_cycle_i5_a reach_search_cycle_i5_s (fun d => reach_search_cycle_i5 n d.1 d.2.1 d.2.2.1 d.2.2.2.1 d.2.2.2.2.1 d.2.2.2.2.2.1 d.2.2.2.2.2.2.1 d.2.2.2.2.2.2.2.1 d.2.2.2.2.2.2.2.2.1 d.2.2.2.2.2.2.2.2.2.1) fun d => by kernel_rfl
noncomputable def reach_search_add_o_i3 (n : Nat) (x1 : Int) (x2 : Int) (x3 : List Kiiiiiii) (x4 : List Ksi) (x5 : List Ksiii) (x6 : List Kisi) (x7 : List Ksi) (x8 : List Int) (x9 : List Int) (x10 : List KLiiLii) (x11 : List (Kiiiiiiiiiiii × Bool)) : Option (List Kiiiiiii × List Ksi × List Ksiii × List Kisi × List Ksi × List (Kiiiiiiiiiiii × Bool) × List KLiiLii × Unit) :=
 (reach_keyOf n x8).bind (fun r12 => ask (True) (cond (!(Miiiiiiiiiiii_b_get x11 (r12.1, r12.2.1, r12.2.2.1, r12.2.2.2.1, r12.2.2.2.2.1, r12.2.2.2.2.2.1, r12.2.2.2.2.2.2.1, r12.2.2.2.2.2.2.2.1, r12.2.2.2.2.2.2.2.2.1, r12.2.2.2.2.2.2.2.2.2.1, r12.2.2.2.2.2.2.2.2.2.2.1, r12.2.2.2.2.2.2.2.2.2.2.2.1) false))
 (ask (True ∧ (x10.length + (([(x8, x1, x9, x2)] : List KLiiLii)).length) * 64 ≤ 140737488355328) (some (x3, x4, x5, x6, x7, Miiiiiiiiiiii_b_put x11 (r12.1, r12.2.1, r12.2.2.1, r12.2.2.2.1, r12.2.2.2.2.1, r12.2.2.2.2.2.1, r12.2.2.2.2.2.2.1, r12.2.2.2.2.2.2.2.1, r12.2.2.2.2.2.2.2.2.1, r12.2.2.2.2.2.2.2.2.2.1, r12.2.2.2.2.2.2.2.2.2.2.1, r12.2.2.2.2.2.2.2.2.2.2.2.1) true, x10 ++ ([(x8, x1, x9, x2)] : List KLiiLii), ())))
 (some (x3, x4, x5, x6, x7, x11, x10, ()))))
def reach_search_add_o_i3_s : Sig := ⟨[.c false [.con (.ptr 0 0)], .c false [.con (.own 1 1)], .c false [.int .i64], .c false [.con (.own 2 1)], .c false [.int .i64]], [(0, .var 66 [.row Kiiiiiii_, .row Ksi_, .row Ksiii_, .row Kisi_, .row Ksi_, .con (.own 3 4), .con (.map 4)]), (1, .row 3 i_), (2, .row 3 i_), (3, .row 71 KLiiLii_), (4, .map true Kiiiiiiiiiiii_ false b_)], .t [], [(0, .var 66 [.row Kiiiiiii_, .row Ksi_, .row Ksiii_, .row Kisi_, .row Ksi_, .con (.own 933 4), .con (.map 4)]), (4, .map true Kiiiiiiiiiiii_ false b_), (933, .row 71 KLiiLii_)]⟩
def reach_search_add_o_i3_a : Ann := .d
noncomputable def reach_search_add_o_i3_c (n : Nat) : Ctr Try.prog := .of Try.func50 n [reach_keyOf_c n] reach_search_add_o_i3_a reach_search_add_o_i3_s (fun d => reach_search_add_o_i3 n d.1 d.2.1 d.2.2.1 d.2.2.2.1 d.2.2.2.2.1 d.2.2.2.2.2.1 d.2.2.2.2.2.2.1 d.2.2.2.2.2.2.2.1 d.2.2.2.2.2.2.2.2.1 d.2.2.2.2.2.2.2.2.2.1 d.2.2.2.2.2.2.2.2.2.2.1) fun d => by kernel_rfl
noncomputable def reach_search_step_y_i25 (n : Nat) (x1 : Int) (x2 : List Int) (x3 : Int) (x4 : Int) (x5 : Bool) (x6 : List Int) (x7 : Int) (x8 : List Int) (x9 : Int) (x10 : List Kiiiiiii) (x11 : List Ksi) (x12 : List Ksiii) (x13 : List Kisi) (x14 : List Ksi) (x15 : List Int) (x16 : List KLiiLii) (x17 : List (Kiiiiiiiiiiii × Bool)) : Option (Bool × Int × Int × Int × Bool × List Int × Int × List Int × Int × List Kiiiiiii × List Ksi × List Ksiii × List Kisi × List Ksi × List (Kiiiiiiiiiiii × Bool) × List Int × List KLiiLii × Unit) :=
 ask (x1 = 0) ((reach_search_cycle_i5 n x6 x4 x10 x11 x12 x13 x14 x2 x16 x17).bind (fun r18 => cond r18.2.1
 (some (false, 1, x3, x4, true, x6, x7, x8, x9, r18.2.2.1, r18.2.2.2.1, r18.2.2.2.2.1, r18.2.2.2.2.2.1, r18.2.2.2.2.2.2.1, r18.2.2.2.2.2.2.2.2.2.1, r18.2.2.2.2.2.2.2.1, r18.2.2.2.2.2.2.2.2.1, ()))
 (cond r18.1
 ((net_After_o n r18.2.2.1 r18.2.2.2.1 r18.2.2.2.2.1 r18.2.2.2.2.2.1 r18.2.2.2.2.2.2.1 x6 r18.2.2.2.2.2.2.2.1).bind (fun r19 => (reach_search_add_o_i3 n x3 (IntKind.wrap .i64 (x9 + 1)) r18.2.2.1 r18.2.2.2.1 r18.2.2.2.2.1 r18.2.2.2.2.2.1 r18.2.2.2.2.2.2.1 r19.1 r18.2.2.2.2.2.2.2.1 r18.2.2.2.2.2.2.2.2.1 r18.2.2.2.2.2.2.2.2.2.1).bind (fun r20 => some (true, 0, x3, x4, x5, x6, x7, x8, x9, r20.1, r20.2.1, r20.2.2.1, r20.2.2.2.1, r20.2.2.2.2.1, r20.2.2.2.2.2.1, x15, r20.2.2.2.2.2.2.1, ()))))
 (some (true, 0, x3, x4, x5, x6, x7, x8, x9, r18.2.2.1, r18.2.2.2.1, r18.2.2.2.2.1, r18.2.2.2.2.2.1, r18.2.2.2.2.2.2.1, r18.2.2.2.2.2.2.2.2.2.1, x15, r18.2.2.2.2.2.2.2.2.1, ())))))
def reach_search_step_y_i25_s : Sig := ⟨[.c false [.con (.yld 0 [])], .c false [.con (.own 1 1)]], [(0, .lop 30000 [(3, .c false [.con (.ptr 2 0)]), (4, .c false [.con (.ptr 3 0)]), (5, .c false [.con (.ptr 4 0)]), (6, .c false [.con (.ptr 5 0)]), (7, .c false [.con (.ptr 6 0)]), (8, .c false [.con (.ptr 7 0)])]), (1, .row 3 i_), (2, .var 61 [.con (.ptr 8 0)]), (3, .var 3 [.int .i64]), (4, .var 3 [.int .i64]), (5, .var 59 [.con (.own 9 1)]), (6, .var 4 [.bool]), (7, .var 71 [.row i_, .int .i64, .row i_, .int .i64]), (8, .var 66 [.row Kiiiiiii_, .row Ksi_, .row Ksiii_, .row Kisi_, .row Ksi_, .con (.own 10 4), .con (.map 11)]), (9, .row 3 i_), (10, .row 71 KLiiLii_), (11, .map true Kiiiiiiiiiiii_ false b_)], .c false [.bool], [(0, .lop 30000 [(3, .c false [.con (.ptr 2 0)]), (4, .c false [.con (.ptr 3 0)]), (5, .c false [.con (.ptr 4 0)]), (6, .c false [.con (.ptr 5 0)]), (7, .c false [.con (.ptr 6 0)]), (8, .c false [.con (.ptr 7 0)])]), (2, .var 61 [.con (.ptr 8 0)]), (3, .var 3 [.int .i64]), (4, .var 3 [.int .i64]), (5, .var 59 [.con (.own 100000 1)]), (6, .var 4 [.bool]), (7, .var 71 [.row i_, .int .i64, .row i_, .int .i64]), (8, .var 66 [.row Kiiiiiii_, .row Ksi_, .row Ksiii_, .row Kisi_, .row Ksi_, .con (.own 200000 4), .con (.map 11)]), (11, .map true Kiiiiiiiiiiii_ false b_), (100000, .row 3 i_), (200000, .row 71 KLiiLii_)]⟩
def reach_search_step_y_i25_a : Ann := .s .d .d
noncomputable def reach_search_step_y_i25_c (n : Nat) : Ctr Try.prog := .ofY 30000 n [reach_search_cycle_i5_c n, net_After_o_c n, reach_search_add_o_i3_c n] reach_search_step_y_i25_a reach_search_step_y_i25_s (fun d => reach_search_step_y_i25 n d.1 d.2.1 d.2.2.1 d.2.2.2.1 d.2.2.2.2.1 d.2.2.2.2.2.1 d.2.2.2.2.2.2.1 d.2.2.2.2.2.2.2.1 d.2.2.2.2.2.2.2.2.1 d.2.2.2.2.2.2.2.2.2.1 d.2.2.2.2.2.2.2.2.2.2.1 d.2.2.2.2.2.2.2.2.2.2.2.1 d.2.2.2.2.2.2.2.2.2.2.2.2.1 d.2.2.2.2.2.2.2.2.2.2.2.2.2.1 d.2.2.2.2.2.2.2.2.2.2.2.2.2.2.1 d.2.2.2.2.2.2.2.2.2.2.2.2.2.2.2.1 d.2.2.2.2.2.2.2.2.2.2.2.2.2.2.2.2.1) fun d => by kernel_rfl
noncomputable def reach_rows_1__reach_search_step_o_l1b (n : Nat) (x2 : List Kiiiiiii) (x3 : List Ksi) (self : Int × List Int × Unit → Option ((Int × List Int × Unit))) (d30 : Int × List Int × Unit) : Option ((Int × List Int × Unit)) :=
 cond (decide ((0 : Int) ≤ d30.1))
 (ask (0 ≤ d30.1 ∧ d30.1 < (d30.2.1.length : Int)) (ask (0 ≤ d30.1 ∧ d30.1 < (d30.2.1.length : Int)) (ask (0 ≤ d30.1 ∧ d30.1 < ((d30.2.1.set d30.1.toNat (IntKind.wrap .i64 ((Ki_at d30.2.1 d30.1) + 1))).length : Int)) (ask (0 ≤ d30.1 ∧ d30.1 < (x3.length : Int)) (ask (0 ≤ ((Ksi_at x3 d30.1).2) ∧ (Ksi_at x3 d30.1).2 < (x2.length : Int)) (ask (0 ≤ (((Kiiiiiii_at x2 ((Ksi_at x3 d30.1).2)).2).1)) (cond (decide ((Ki_at (d30.2.1.set d30.1.toNat (IntKind.wrap .i64 ((Ki_at d30.2.1 d30.1) + 1))) d30.1) < (shlI .i64 1 (((Kiiiiiii_at x2 ((Ksi_at x3 d30.1).2)).2).1))))
 (some (d30.1, d30.2.1.set d30.1.toNat (IntKind.wrap .i64 ((Ki_at d30.2.1 d30.1) + 1)), ()))
 (ask (0 ≤ d30.1 ∧ d30.1 < ((d30.2.1.set d30.1.toNat (IntKind.wrap .i64 ((Ki_at d30.2.1 d30.1) + 1))).length : Int)) (self (IntKind.wrap .i64 (d30.1 - 1), (d30.2.1.set d30.1.toNat (IntKind.wrap .i64 ((Ki_at d30.2.1 d30.1) + 1))).set d30.1.toNat 0, ()))))))))))
 (some (d30.1, d30.2.1, ()))
noncomputable def reach_rows_1__reach_search_step_o_l1 (n : Nat) (x2 : List Kiiiiiii) (x3 : List Ksi) : Int × List Int × Unit → Option ((Int × List Int × Unit)) := iter (reach_rows_1__reach_search_step_o_l1b n x2 x3) n
noncomputable def reach_rows_1__reach_search_step_o_l2b (n : Nat) (x2 : List Kiiiiiii) (x3 : List Ksi) (self : Int × Int × Int × Bool × List Int × Int × List Int × Int × List Kiiiiiii × List Ksi × List Ksiii × List Kisi × List Ksi × List (Kiiiiiiiiiiii × Bool) × List Int × List Int × List KLiiLii × Unit → Option ((Int × Int × Int × Bool × List Int × Int × List Int × Int × List Kiiiiiii × List Ksi × List Ksiii × List Kisi × List Ksi × List (Kiiiiiiiiiiii × Bool) × List Int × List KLiiLii × Unit))) (d25 : Int × Int × Int × Bool × List Int × Int × List Int × Int × List Kiiiiiii × List Ksi × List Ksiii × List Kisi × List Ksi × List (Kiiiiiiiiiiii × Bool) × List Int × List Int × List KLiiLii × Unit) : Option ((Int × Int × Int × Bool × List Int × Int × List Int × Int × List Kiiiiiii × List Ksi × List Ksiii × List Kisi × List Ksi × List (Kiiiiiiiiiiii × Bool) × List Int × List KLiiLii × Unit)) :=
 (slices_Clone_int_int_o n d25.2.2.2.2.2.2.2.2.2.2.2.2.2.2.1).bind (fun r26 => (reach_search_step_y_i25 n d25.1 r26.1 d25.2.1 d25.2.2.1 d25.2.2.2.1 d25.2.2.2.2.1 d25.2.2.2.2.2.1 d25.2.2.2.2.2.2.1 d25.2.2.2.2.2.2.2.1 d25.2.2.2.2.2.2.2.2.1 d25.2.2.2.2.2.2.2.2.2.1 d25.2.2.2.2.2.2.2.2.2.2.1 d25.2.2.2.2.2.2.2.2.2.2.2.1 d25.2.2.2.2.2.2.2.2.2.2.2.2.1 d25.2.2.2.2.2.2.2.2.2.2.2.2.2.2.2.1 d25.2.2.2.2.2.2.2.2.2.2.2.2.2.2.2.2.1 d25.2.2.2.2.2.2.2.2.2.2.2.2.2.1).bind (fun r27 => cond (!r27.1)
 (some (r27.2.1, r27.2.2.1, r27.2.2.2.1, r27.2.2.2.2.1, r27.2.2.2.2.2.1, r27.2.2.2.2.2.2.1, r27.2.2.2.2.2.2.2.1, r27.2.2.2.2.2.2.2.2.1, r27.2.2.2.2.2.2.2.2.2.1, r27.2.2.2.2.2.2.2.2.2.2.1, r27.2.2.2.2.2.2.2.2.2.2.2.1, r27.2.2.2.2.2.2.2.2.2.2.2.2.1, r27.2.2.2.2.2.2.2.2.2.2.2.2.2.1, r27.2.2.2.2.2.2.2.2.2.2.2.2.2.2.1, r27.2.2.2.2.2.2.2.2.2.2.2.2.2.2.2.1, r27.2.2.2.2.2.2.2.2.2.2.2.2.2.2.2.2.1, ()))
 ((reach_rows_1__reach_search_step_o_l1 n x2 x3 (IntKind.wrap .i64 ((d25.2.2.2.2.2.2.2.2.2.2.2.2.2.2.1.length : Int) - 1), d25.2.2.2.2.2.2.2.2.2.2.2.2.2.2.1, ())).bind (fun d31 => cond (decide (d31.1 < 0))
 (some (r27.2.1, r27.2.2.1, r27.2.2.2.1, r27.2.2.2.2.1, r27.2.2.2.2.2.1, r27.2.2.2.2.2.2.1, r27.2.2.2.2.2.2.2.1, r27.2.2.2.2.2.2.2.2.1, r27.2.2.2.2.2.2.2.2.2.1, r27.2.2.2.2.2.2.2.2.2.2.1, r27.2.2.2.2.2.2.2.2.2.2.2.1, r27.2.2.2.2.2.2.2.2.2.2.2.2.1, r27.2.2.2.2.2.2.2.2.2.2.2.2.2.1, r27.2.2.2.2.2.2.2.2.2.2.2.2.2.2.1, r27.2.2.2.2.2.2.2.2.2.2.2.2.2.2.2.1, r27.2.2.2.2.2.2.2.2.2.2.2.2.2.2.2.2.1, ()))
 (self (r27.2.1, r27.2.2.1, r27.2.2.2.1, r27.2.2.2.2.1, r27.2.2.2.2.2.1, r27.2.2.2.2.2.2.1, r27.2.2.2.2.2.2.2.1, r27.2.2.2.2.2.2.2.2.1, r27.2.2.2.2.2.2.2.2.2.1, r27.2.2.2.2.2.2.2.2.2.2.1, r27.2.2.2.2.2.2.2.2.2.2.2.1, r27.2.2.2.2.2.2.2.2.2.2.2.2.1, r27.2.2.2.2.2.2.2.2.2.2.2.2.2.1, r27.2.2.2.2.2.2.2.2.2.2.2.2.2.2.1, d31.2.1, r27.2.2.2.2.2.2.2.2.2.2.2.2.2.2.2.1, r27.2.2.2.2.2.2.2.2.2.2.2.2.2.2.2.2.1, ()))))))
noncomputable def reach_rows_1__reach_search_step_o_l2 (n : Nat) (x2 : List Kiiiiiii) (x3 : List Ksi) : Int × Int × Int × Bool × List Int × Int × List Int × Int × List Kiiiiiii × List Ksi × List Ksiii × List Kisi × List Ksi × List (Kiiiiiiiiiiii × Bool) × List Int × List Int × List KLiiLii × Unit → Option ((Int × Int × Int × Bool × List Int × Int × List Int × Int × List Kiiiiiii × List Ksi × List Ksiii × List Kisi × List Ksi × List (Kiiiiiiiiiiii × Bool) × List Int × List KLiiLii × Unit)) := iter (reach_rows_1__reach_search_step_o_l2b n x2 x3) n
noncomputable def reach_rows_1__reach_search_step_o (n : Nat) (x1 : Int) (x2 : List Kiiiiiii) (x3 : List Ksi) (x4 : List Ksiii) (x5 : List Kisi) (x6 : List Ksi) (x7 : Int) (x8 : Int) (x9 : Bool) (x10 : List Int) (x11 : Int) (x12 : List Int) (x13 : Int) (x14 : List Kiiiiiii) (x15 : List Ksi) (x16 : List Ksiii) (x17 : List Kisi) (x18 : List Ksi) (x19 : List KLiiLii) (x20 : List (Kiiiiiiiiiiii × Bool)) : Option (Int × List Kiiiiiii × List Ksi × List Ksiii × List Kisi × List Ksi × Int × Int × Bool × List Int × Int × List Int × Int × List Kiiiiiii × List Ksi × List Ksiii × List Kisi × List Ksi × List (Kiiiiiiiiiiii × Bool) × List Int × List KLiiLii × Unit) :=
 ask ((0 ≤ (x3.length : Int) ∧ (x3.length : Int) ≤ (x3.length : Int)) ∧ (8 : Int) * (x3.length : Int) ≤ 281474976710656 ∧ (x3.length : Int) ≤ 281474976710656) ((reach_rows_1__reach_search_step_o_l2 n x2 x3 (x1, x7, x8, x9, x10, x11, x12, x13, x14, x15, x16, x17, x18, x20, List.replicate (x3.length : Int).toNat (0 : Int), ([] : List Int), x19, ())).bind (fun d32 => some (d32.1, x2, x3, x4, x5, x6, d32.2.1, d32.2.2.1, d32.2.2.2.1, d32.2.2.2.2.1, d32.2.2.2.2.2.1, d32.2.2.2.2.2.2.1, d32.2.2.2.2.2.2.2.1, d32.2.2.2.2.2.2.2.2.1, d32.2.2.2.2.2.2.2.2.2.1, d32.2.2.2.2.2.2.2.2.2.2.1, d32.2.2.2.2.2.2.2.2.2.2.2.1, d32.2.2.2.2.2.2.2.2.2.2.2.2.1, d32.2.2.2.2.2.2.2.2.2.2.2.2.2.1, d32.2.2.2.2.2.2.2.2.2.2.2.2.2.2.1, d32.2.2.2.2.2.2.2.2.2.2.2.2.2.2.2.1, ())))
def reach_rows_1__reach_search_step_o_s : Sig := ⟨[.c false [.con (.yld 0 [])], .c false [.con (.ptr 1 0)]], [(0, .lop 30000 [(3, .c false [.con (.ptr 2 0)]), (4, .c false [.con (.ptr 3 0)]), (5, .c false [.con (.ptr 4 0)]), (6, .c false [.con (.ptr 5 0)]), (7, .c false [.con (.ptr 6 0)]), (8, .c false [.con (.ptr 7 0)])]), (1, .var 27 [.row Kiiiiiii_, .row Ksi_, .row Ksiii_, .row Kisi_, .row Ksi_]), (2, .var 61 [.con (.ptr 8 0)]), (3, .var 3 [.int .i64]), (4, .var 3 [.int .i64]), (5, .var 59 [.con .nilsl]), (6, .var 4 [.bool]), (7, .var 71 [.row i_, .int .i64, .row i_, .int .i64]), (8, .var 66 [.row Kiiiiiii_, .row Ksi_, .row Ksiii_, .row Kisi_, .row Ksi_, .con (.own 9 4), .con (.map 10)]), (9, .row 71 KLiiLii_), (10, .map true Kiiiiiiiiiiii_ false b_)], .t [], [(0, .lop 30000 [(3, .c false [.con (.ptr 2 0)]), (4, .c false [.con (.ptr 3 0)]), (5, .c false [.con (.ptr 4 0)]), (6, .c false [.con (.ptr 5 0)]), (7, .c false [.con (.ptr 6 0)]), (8, .c false [.con (.ptr 7 0)])]), (1, .var 27 [.row Kiiiiiii_, .row Ksi_, .row Ksiii_, .row Kisi_, .row Ksi_]), (2, .var 61 [.con (.ptr 8 0)]), (3, .var 3 [.int .i64]), (4, .var 3 [.int .i64]), (5, .var 59 [.con (.own 200193 1)]), (6, .var 4 [.bool]), (7, .var 71 [.row i_, .int .i64, .row i_, .int .i64]), (8, .var 66 [.row Kiiiiiii_, .row Ksi_, .row Ksiii_, .row Kisi_, .row Ksi_, .con (.own 200194 4), .con (.map 10)]), (10, .map true Kiiiiiiiiiiii_ false b_), (200193, .row 3 i_), (200194, .row 71 KLiiLii_)]⟩
def reach_rows_1__reach_search_step_o_a : Ann := .s .d (.b (.l [0, 3, 4, 8, 9, 10, 11, 12, 13, 14, 15, 16, 17, 18, 19, 20, 21, 22, 23, 24, 25, 26, 27, 28, 29, 30, 31, 32, 33, 34, 35, 36, 37, 38, 39, 40, 41, 42, 43, 44, 45, 46, 47, 48] [0, 2, 3, 4, 5, 6, 7, 8, 9, 10, 292] ⟨[(0, .c false [.con (.yld 0 [])]), (3, .c false [.con (.own 292 1)])], [(0, .lop 30000 [(3, .c false [.con (.ptr 2 0)]), (4, .c false [.con (.ptr 3 0)]), (5, .c false [.con (.ptr 4 0)]), (6, .c false [.con (.ptr 5 0)]), (7, .c false [.con (.ptr 6 0)]), (8, .c false [.con (.ptr 7 0)])]), (2, .var 61 [.con (.ptr 8 0)]), (3, .var 3 [.int .i64]), (4, .var 3 [.int .i64]), (5, .var 59 [.con (.own 100000 1)]), (6, .var 4 [.bool]), (7, .var 71 [.row i_, .int .i64, .row i_, .int .i64]), (8, .var 66 [.row Kiiiiiii_, .row Ksi_, .row Ksiii_, .row Kisi_, .row Ksi_, .con (.own 200000 4), .con (.map 10)]), (10, .map true Kiiiiiiiiiiii_ false b_), (292, .row 3 i_), (100000, .row 3 i_), (200000, .row 71 KLiiLii_)]⟩ [(.ret, ⟨[], [(0, .lop 30000 [(3, .c false [.con (.ptr 2 0)]), (4, .c false [.con (.ptr 3 0)]), (5, .c false [.con (.ptr 4 0)]), (6, .c false [.con (.ptr 5 0)]), (7, .c false [.con (.ptr 6 0)]), (8, .c false [.con (.ptr 7 0)])]), (2, .var 61 [.con (.ptr 8 0)]), (3, .var 3 [.int .i64]), (4, .var 3 [.int .i64]), (5, .var 59 [.con (.own 200193 1)]), (6, .var 4 [.bool]), (7, .var 71 [.row i_, .int .i64, .row i_, .int .i64]), (8, .var 66 [.row Kiiiiiii_, .row Ksi_, .row Ksiii_, .row Kisi_, .row Ksi_, .con (.own 200194 4), .con (.map 10)]), (10, .map true Kiiiiiiiiiiii_ false b_), (200193, .row 3 i_), (200194, .row 71 KLiiLii_)]⟩)] (.b (.s .d (.s .d (.s (.b (.l [3, 4, 10, 14, 17, 18, 19, 20, 21, 22, 23, 24, 25, 26, 27, 28, 29, 30, 31, 32, 33, 34, 35, 36, 37, 38, 39, 40, 41, 42, 43, 44, 45, 46] [292] ⟨[(3, .c false [.con (.own 292 1)]), (4, .c false [.int .i64])], [(292, .row 3 i_)]⟩ [(.exit 2, ⟨[(3, .c false [.con (.own 292 1)]), (4, .c false [.int .i64])], [(292, .row 3 i_)]⟩)] .d)) .d))))))
noncomputable def reach_rows_1__reach_search_step_o_c (n : Nat) : Ctr Try.prog := .of Try.func64 n [slices_Clone_int_int_o_c n, reach_search_step_y_i25_c n] reach_rows_1__reach_search_step_o_a reach_rows_1__reach_search_step_o_s (fun d => reach_rows_1__reach_search_step_o n d.1 d.2.1 d.2.2.1 d.2.2.2.1 d.2.2.2.2.1 d.2.2.2.2.2.1 d.2.2.2.2.2.2.1 d.2.2.2.2.2.2.2.1 d.2.2.2.2.2.2.2.2.1 d.2.2.2.2.2.2.2.2.2.1 d.2.2.2.2.2.2.2.2.2.2.1 d.2.2.2.2.2.2.2.2.2.2.2.1 d.2.2.2.2.2.2.2.2.2.2.2.2.1 d.2.2.2.2.2.2.2.2.2.2.2.2.2.1 d.2.2.2.2.2.2.2.2.2.2.2.2.2.2.1 d.2.2.2.2.2.2.2.2.2.2.2.2.2.2.2.1 d.2.2.2.2.2.2.2.2.2.2.2.2.2.2.2.2.1 d.2.2.2.2.2.2.2.2.2.2.2.2.2.2.2.2.2.1 d.2.2.2.2.2.2.2.2.2.2.2.2.2.2.2.2.2.2.1 d.2.2.2.2.2.2.2.2.2.2.2.2.2.2.2.2.2.2.2.1) fun d => by kernel_rfl
noncomputable def slices_Reverse_int_int_l1b (n : Nat) (self : Int × Int × List (List Int) × Unit → Option ((List (List Int) × Unit))) (d4 : Int × Int × List (List Int) × Unit) : Option ((List (List Int) × Unit)) :=
 cond (decide (d4.1 < d4.2.1))
 (ask (0 ≤ d4.2.1 ∧ d4.2.1 < (d4.2.2.1.length : Int)) (ask (0 ≤ d4.1 ∧ d4.1 < (d4.2.2.1.length : Int)) (ask (0 ≤ d4.1 ∧ d4.1 < (d4.2.2.1.length : Int)) (ask (0 ≤ d4.2.1 ∧ d4.2.1 < ((d4.2.2.1.set d4.1.toNat (KLi_at d4.2.2.1 d4.2.1)).length : Int)) (self (IntKind.wrap .i64 (d4.1 + 1), IntKind.wrap .i64 (d4.2.1 - 1), (d4.2.2.1.set d4.1.toNat (KLi_at d4.2.2.1 d4.2.1)).set d4.2.1.toNat (KLi_at d4.2.2.1 d4.1), ()))))))
 (some (d4.2.2.1, ()))
noncomputable def slices_Reverse_int_int_l1 (n : Nat) : Int × Int × List (List Int) × Unit → Option ((List (List Int) × Unit)) := iter (slices_Reverse_int_int_l1b n) n
noncomputable def slices_Reverse_int_int (n : Nat) (x1 : List (List Int)) : Option (List (List Int) × Unit) :=
 (slices_Reverse_int_int_l1 n (0, IntKind.wrap .i64 ((x1.length : Int) - 1), x1, ())).bind (fun d5 => some (d5.1, ()))
def slices_Reverse_int_int_s : Sig := ⟨[.c false [.con (.own 0 1)]], [(0, .row 59 KLi_)], .t [], [(0, .row 59 KLi_)]⟩
def slices_Reverse_int_int_a : Ann := .s .d (.b (.l [0, 2, 3, 4, 7, 8, 9, 10, 11, 12, 13, 14, 15, 16, 17, 18, 19, 20, 21, 22, 23, 24, 25, 26, 27] [0] ⟨[(0, .c false [.con (.own 0 1)]), (2, .c false [.int .i64]), (3, .c false [.int .i64])], [(0, .row 59 KLi_)]⟩ [(.exit 0, ⟨[], [(0, .row 59 KLi_)]⟩)] .d))
noncomputable def slices_Reverse_int_int_c (n : Nat) : Ctr Try.prog := .of Try.func53 n [] slices_Reverse_int_int_a slices_Reverse_int_int_s (fun d => slices_Reverse_int_int n d.1) fun d => by kernel_rfl
noncomputable def sim_Right_1 (n : Nat) (x1 : Int) (x2 : ByteArray) (x3 : Int) (x4 : List KLPiiiiiiiELPsiELPsiiiELPisiELPsiE) (x5 : Int) : Option (Bool × Unit) :=
 cond (decide (x1 < 0))
 (some (true, ()))
 (ask (0 ≤ x3 ∧ x3 < (((KLPiiiiiiiELPsiELPsiiiELPisiELPsiE_at x4 x5).1).length : Int)) (ask (0 ≤ (((Kiiiiiii_at ((KLPiiiiiiiELPsiELPsiiiELPisiELPsiE_at x4 x5).1) x3).2).1)) (some (decide ((shrI .i64 x1 (((Kiiiiiii_at ((KLPiiiiiiiELPsiELPsiiiELPisiELPsiE_at x4 x5).1) x3).2).1)) ≠ 0), ()))))
def sim_Right_1_s : Sig := ⟨[.c false [.int .i64], .c true [.str, .int .i64], .c false [.rp KLPiiiiiiiELPsiELPsiiiELPisiELPsiE_ 0]], [], .c false [.bool], []⟩
def sim_Right_1_a : Ann := .d
noncomputable def sim_Right_1_c (n : Nat) : Ctr Try.prog := .of Try.func40 n [] sim_Right_1_a sim_Right_1_s (fun d => sim_Right_1 n d.1 d.2.1 d.2.2.1 d.2.2.2.1 d.2.2.2.2.1) fun d => by kernel_rfl
noncomputable def sim_Right_l1b (n : Nat) (d8 : Int × Unit) (x1 : List Kiiiiiii) (x2 : List Ksi) (x3 : List Ksiii) (x4 : List Kisi) (x5 : List Ksi) (x6 : List (List Int)) (self : Int × Unit → Option ((Bool × Unit) ⊕ (Unit))) (d10 : Int × Unit) : Option ((Bool × Unit) ⊕ (Unit)) :=
 cond (decide (d10.1 < ((KLi_at x6 d8.1).length : Int)))
 (ask (0 ≤ d10.1 ∧ d10.1 < ((KLi_at x6 d8.1).length : Int)) (ask (0 ≤ d10.1 ∧ d10.1 < (x2.length : Int)) ((sim_Right_1 n (Ki_at (KLi_at x6 d8.1) d10.1) ((Ksi_at x2 d10.1).1) ((Ksi_at x2 d10.1).2) ([(x1, x2, x3, x4, x5)] : List KLPiiiiiiiELPsiELPsiiiELPisiELPsiE) 0).bind (fun r11 => cond r11.1
 (some (.inl (false, ())))
 (self (IntKind.wrap .i64 (d10.1 + 1), ()))))))
 (some (.inr ()))
noncomputable def sim_Right_l1 (n : Nat) (d8 : Int × Unit) (x1 : List Kiiiiiii) (x2 : List Ksi) (x3 : List Ksiii) (x4 : List Kisi) (x5 : List Ksi) (x6 : List (List Int)) : Int × Unit → Option ((Bool × Unit) ⊕ (Unit)) := iter (sim_Right_l1b n d8 x1 x2 x3 x4 x5 x6) n
noncomputable def sim_Right_l2b (n : Nat) (x1 : List Kiiiiiii) (x2 : List Ksi) (x3 : List Ksiii) (x4 : List Kisi) (x5 : List Ksi) (x6 : List (List Int)) (self : Int × Unit → Option ((Bool × Unit) ⊕ (Unit))) (d8 : Int × Unit) : Option ((Bool × Unit) ⊕ (Unit)) :=
 cond (decide (d8.1 < (x6.length : Int)))
 (ask (0 ≤ d8.1 ∧ d8.1 < (x6.length : Int)) (cond (decide (((KLi_at x6 d8.1).length : Int) ≠ (x2.length : Int)))
 (some (.inl (false, ())))
 ((sim_Right_l1 n d8 x1 x2 x3 x4 x5 x6 (0, ())).bind (Sum.elim (fun d12 => some (.inl (d12.1, ()))) (fun d13 => self (IntKind.wrap .i64 (d8.1 + 1), ()))))))
 (some (.inr ()))
noncomputable def sim_Right_l2 (n : Nat) (x1 : List Kiiiiiii) (x2 : List Ksi) (x3 : List Ksiii) (x4 : List Kisi) (x5 : List Ksi) (x6 : List (List Int)) : Int × Unit → Option ((Bool × Unit) ⊕ (Unit)) := iter (sim_Right_l2b n x1 x2 x3 x4 x5 x6) n
noncomputable def sim_Right (n : Nat) (x1 : List Kiiiiiii) (x2 : List Ksi) (x3 : List Ksiii) (x4 : List Kisi) (x5 : List Ksi) (x6 : List (List Int)) : Option (Bool × Unit) :=
 (sim_Right_l2 n x1 x2 x3 x4 x5 x6 (0, ())).bind (Sum.elim (fun d14 => some (d14.1, ())) (fun d15 => some (decide ((x6.length : Int) ≤ 64), ())))
def sim_Right_s : Sig := ⟨[.c true [.row Kiiiiiii_, .row Ksi_, .row Ksiii_, .row Kisi_, .row Ksi_], .c false [.row KLi_]], [], .c false [.bool], []⟩
def sim_Right_a : Ann := .s .d (.s .d (.s (.s .d (.b (.l [4, 7, 8, 9, 13, 14, 15, 16, 17, 18, 19, 20, 21, 22, 23, 24, 25, 26, 27, 28, 29, 30, 31, 32, 33, 34, 35, 36, 37, 38, 39] [] ⟨[(13, .c false [.int .i64])], []⟩ [(.ret, ⟨[(4, .c false [.bool])], []⟩), (.exit 0, ⟨[], []⟩)] (.s .d (.s .d (.s (.b (.s .d (.s .d (.s .d (.b (.l [4, 8, 9, 25, 26, 27, 28, 29, 30, 31, 32, 33, 34, 35, 36, 37, 38] [] ⟨[(25, .c false [.int .i64])], []⟩ [(.ret, ⟨[(4, .c false [.bool])], []⟩), (.exit 2, ⟨[], []⟩)] .d)))))) .d)))))) .d))
noncomputable def sim_Right_c (n : Nat) : Ctr Try.prog := .of Try.func18 n [sim_Right_1_c n] sim_Right_a sim_Right_s (fun d => sim_Right n d.1 d.2.1 d.2.2.1 d.2.2.2.1 d.2.2.2.2.1 d.2.2.2.2.2.1) fun d => by kernel_rfl
noncomputable def reach_search_step_o_i2 (n : Nat) (x1 : Int) (x2 : Int) (x3 : List Kiiiiiii) (x4 : List Ksi) (x5 : List Ksiii) (x6 : List Kisi) (x7 : List Ksi) (x8 : List KLiiLii) (x9 : List (Kiiiiiiiiiiii × Bool)) : Option (Bool × List Kiiiiiii × List Ksi × List Ksiii × List Kisi × List Ksi × List (Kiiiiiiiiiiii × Bool) × List Int × List KLiiLii × Unit) :=
 ask (0 ≤ x1 ∧ x1 < (x8.length : Int)) ((reach_rows n x3 x4 x5 x6 x7).bind (fun r10 => (reach_rows_1__reach_search_step_o n 0 r10.1 r10.2.1 r10.2.2.1 r10.2.2.2.1 r10.2.2.2.2.1 x1 x2 false ((KLiiLii_at x8 x1).1) (((KLiiLii_at x8 x1).2).1) ((((KLiiLii_at x8 x1).2).2).1) ((((KLiiLii_at x8 x1).2).2).2) x3 x4 x5 x6 x7 x8 x9).bind (fun r11 => ask (0 ≤ r11.1) (cond (decide (r11.1 = 0))
 (some (false, r11.2.2.2.2.2.2.2.2.2.2.2.2.2.1, r11.2.2.2.2.2.2.2.2.2.2.2.2.2.2.1, r11.2.2.2.2.2.2.2.2.2.2.2.2.2.2.2.1, r11.2.2.2.2.2.2.2.2.2.2.2.2.2.2.2.2.1, r11.2.2.2.2.2.2.2.2.2.2.2.2.2.2.2.2.2.1, r11.2.2.2.2.2.2.2.2.2.2.2.2.2.2.2.2.2.2.1, ([] : List Int), r11.2.2.2.2.2.2.2.2.2.2.2.2.2.2.2.2.2.2.2.2.1, ()))
 (cond (decide (r11.1 = 1))
 (some (r11.2.2.2.2.2.2.2.2.1, r11.2.2.2.2.2.2.2.2.2.2.2.2.2.1, r11.2.2.2.2.2.2.2.2.2.2.2.2.2.2.1, r11.2.2.2.2.2.2.2.2.2.2.2.2.2.2.2.1, r11.2.2.2.2.2.2.2.2.2.2.2.2.2.2.2.2.1, r11.2.2.2.2.2.2.2.2.2.2.2.2.2.2.2.2.2.1, r11.2.2.2.2.2.2.2.2.2.2.2.2.2.2.2.2.2.2.1, r11.2.2.2.2.2.2.2.2.2.2.2.2.2.2.2.2.2.2.2.1, r11.2.2.2.2.2.2.2.2.2.2.2.2.2.2.2.2.2.2.2.2.1, ()))
 (none))))))
def reach_search_step_o_i2_s : Sig := ⟨[.c false [.con (.ptr 0 0)], .c false [.int .i64], .c false [.int .i64]], [(0, .var 66 [.row Kiiiiiii_, .row Ksi_, .row Ksiii_, .row Kisi_, .row Ksi_, .con (.own 1 4), .con (.map 2)]), (1, .row 71 KLiiLii_), (2, .map true Kiiiiiiiiiiii_ false b_)], .t [(false, [.con (.own 100000 1)]), (false, [.bool])], [(0, .var 66 [.row Kiiiiiii_, .row Ksi_, .row Ksiii_, .row Kisi_, .row Ksi_, .con (.own 1065 4), .con (.map 2)]), (2, .map true Kiiiiiiiiiiii_ false b_), (100000, .row 3 i_), (1065, .row 71 KLiiLii_)]⟩
def reach_search_step_o_i2_a : Ann := .s .d (.s .d (.s (.s .d (.b (.r 30000 [3, 4, 5, 6, 7, 8] [] [.normal, .ret]))) .d))
noncomputable def reach_search_step_o_i2_c (n : Nat) : Ctr Try.prog := .of Try.func30 n [reach_rows_c n, reach_rows_1__reach_search_step_o_c n] reach_search_step_o_i2_a reach_search_step_o_i2_s (fun d => reach_search_step_o_i2 n d.1 d.2.1 d.2.2.1 d.2.2.2.1 d.2.2.2.2.1 d.2.2.2.2.2.1 d.2.2.2.2.2.2.1 d.2.2.2.2.2.2.2.1 d.2.2.2.2.2.2.2.2.1) fun d => by kernel_rfl
noncomputable def reach_search_trace_i4_l1b (n : Nat) (x8 : List KLiiLii) (self : Int × List (List Int) × Unit → Option ((List (List Int) × Unit))) (d12 : Int × List (List Int) × Unit) : Option ((List (List Int) × Unit)) :=
 ask (0 ≤ d12.1 ∧ d12.1 < (x8.length : Int)) (cond (decide ((0 : Int) ≤ (((KLiiLii_at x8 d12.1).2).1)))
 (ask (0 ≤ d12.1 ∧ d12.1 < (x8.length : Int)) (ask (True ∧ (d12.2.1.length + (([(((KLiiLii_at x8 d12.1).2).2).1] : List (List Int))).length) * 24 ≤ 140737488355328) (ask (0 ≤ d12.1 ∧ d12.1 < (x8.length : Int)) (self (((KLiiLii_at x8 d12.1).2).1, d12.2.1 ++ ([(((KLiiLii_at x8 d12.1).2).2).1] : List (List Int)), ())))))
 (some (d12.2.1, ())))
noncomputable def reach_search_trace_i4_l1 (n : Nat) (x8 : List KLiiLii) : Int × List (List Int) × Unit → Option ((List (List Int) × Unit)) := iter (reach_search_trace_i4_l1b n x8) n
noncomputable def reach_search_trace_i4 (n : Nat) (x1 : Int) (x2 : List Int) (x3 : List Kiiiiiii) (x4 : List Ksi) (x5 : List Ksiii) (x6 : List Kisi) (x7 : List Ksi) (x8 : List KLiiLii) (x9 : List (Kiiiiiiiiiiii × Bool)) : Option (List (List Int) × List Kiiiiiii × List Ksi × List Ksiii × List Kisi × List Ksi × List KLiiLii × List (Kiiiiiiiiiiii × Bool) × Unit) :=
 (reach_search_trace_i4_l1 n x8 (x1, ([x2] : List (List Int)), ())).bind (fun d13 => (slices_Reverse_int_int n d13.1).bind (fun r14 => some (r14.1, x3, x4, x5, x6, x7, x8, x9, ())))
def reach_search_trace_i4_s : Sig := ⟨[.c false [.con (.ptr 0 0)], .c false [.int .i64], .c false [.row i_]], [(0, .var 66 [.row Kiiiiiii_, .row Ksi_, .row Ksiii_, .row Kisi_, .row Ksi_, .row KLiiLii_, .con (.map 1)]), (1, .map true Kiiiiiiiiiiii_ false b_)], .c false [.row KLi_], [(0, .var 66 [.row Kiiiiiii_, .row Ksi_, .row Ksiii_, .row Kisi_, .row Ksi_, .row KLiiLii_, .con (.map 1)]), (1, .map true Kiiiiiiiiiiii_ false b_)]⟩
def reach_search_trace_i4_a : Ann := .s .d (.s .d (.s (.b (.l [1, 7, 9, 10, 11, 12, 13, 14, 15, 16, 17, 18, 19, 20, 21, 22, 23, 24, 25, 26, 27, 28, 29, 30, 31, 32, 33, 34, 35, 36, 37] [164] ⟨[(1, .c false [.int .i64]), (7, .c false [.con (.own 164 1)])], [(164, .row 59 KLi_)]⟩ [(.exit 0, ⟨[(7, .c false [.con (.own 164 1)])], [(164, .row 59 KLi_)]⟩)] .d)) .d))
noncomputable def reach_search_trace_i4_c (n : Nat) : Ctr Try.prog := .of Try.func31 n [slices_Reverse_int_int_c n] reach_search_trace_i4_a reach_search_trace_i4_s (fun d => reach_search_trace_i4 n d.1 d.2.1 d.2.2.1 d.2.2.2.1 d.2.2.2.2.1 d.2.2.2.2.2.1 d.2.2.2.2.2.2.1 d.2.2.2.2.2.2.2.1 d.2.2.2.2.2.2.2.2.1) fun d => by kernel_rfl
noncomputable def reach_Tell_j1 (n : Nat) (x4 : List Kisi) (x6 : Int) : Option ((Bool × Unit)) :=
 cond (decide (x6 < 0))
 (some (true, ()))
 (cond (decide ((x4.length : Int) ≤ x6))
 (some (true, ()))
 (ask (0 ≤ x6 ∧ x6 < (x4.length : Int)) (some (decide (((Kisi_at x4 x6).1) = 9), ()))))
noncomputable def reach_Tell_l2b (n : Nat) (x1 : List Kiiiiiii) (x2 : List Ksi) (x3 : List Ksiii) (x4 : List Kisi) (x5 : List Ksi) (x6 : Int) (self : Int × Int × Int × List Kiiiiiii × List Ksi × List Ksiii × List Kisi × List Ksi × List KLiiLii × List (Kiiiiiiiiiiii × Bool) × Unit → Option ((Int × Int × Int × List (List Int) × Unit) ⊕ (Int × Int × List Kiiiiiii × List Ksi × List Ksiii × List Kisi × List Ksi × List KLiiLii × List (Kiiiiiiiiiiii × Bool) × Unit))) (d12 : Int × Int × Int × List Kiiiiiii × List Ksi × List Ksiii × List Kisi × List Ksi × List KLiiLii × List (Kiiiiiiiiiiii × Bool) × Unit) : Option ((Int × Int × Int × List (List Int) × Unit) ⊕ (Int × Int × List Kiiiiiii × List Ksi × List Ksiii × List Kisi × List Ksi × List KLiiLii × List (Kiiiiiiiiiiii × Bool) × Unit)) :=
 cond (decide (d12.1 < (d12.2.2.2.2.2.2.2.2.1.length : Int)))
 ((reach_search_step_o_i2 n d12.1 x6 d12.2.2.2.1 d12.2.2.2.2.1 d12.2.2.2.2.2.1 d12.2.2.2.2.2.2.1 d12.2.2.2.2.2.2.2.1 d12.2.2.2.2.2.2.2.2.1 d12.2.2.2.2.2.2.2.2.2.1).bind (fun r13 => cond (!r13.1)
 (self (IntKind.wrap .i64 (d12.1 + 1), d12.2.1, d12.2.2.1, r13.2.1, r13.2.2.1, r13.2.2.2.1, r13.2.2.2.2.1, r13.2.2.2.2.2.1, r13.2.2.2.2.2.2.2.2.1, r13.2.2.2.2.2.2.1, ()))
 ((reach_search_trace_i4 n d12.1 r13.2.2.2.2.2.2.2.1 r13.2.1 r13.2.2.1 r13.2.2.2.1 r13.2.2.2.2.1 r13.2.2.2.2.2.1 r13.2.2.2.2.2.2.2.2.1 r13.2.2.2.2.2.2.1).bind (fun r14 => (sim_Right n x1 x2 x3 x4 x5 r14.1).bind (fun r15 => cond (!r15.1)
 (some (.inl (0, 3, 64, ([] : List (List Int)), ())))
 (some (.inl (0, 1, (r14.1.length : Int), r14.1, ()))))))))
 (some (.inr (d12.2.1, d12.2.2.1, d12.2.2.2.1, d12.2.2.2.2.1, d12.2.2.2.2.2.1, d12.2.2.2.2.2.2.1, d12.2.2.2.2.2.2.2.1, d12.2.2.2.2.2.2.2.2.1, d12.2.2.2.2.2.2.2.2.2.1, ())))
noncomputable def reach_Tell_l2 (n : Nat) (x1 : List Kiiiiiii) (x2 : List Ksi) (x3 : List Ksiii) (x4 : List Kisi) (x5 : List Ksi) (x6 : Int) : Int × Int × Int × List Kiiiiiii × List Ksi × List Ksiii × List Kisi × List Ksi × List KLiiLii × List (Kiiiiiiiiiiii × Bool) × Unit → Option ((Int × Int × Int × List (List Int) × Unit) ⊕ (Int × Int × List Kiiiiiii × List Ksi × List Ksiii × List Kisi × List Ksi × List KLiiLii × List (Kiiiiiiiiiiii × Bool) × Unit)) := iter (reach_Tell_l2b n x1 x2 x3 x4 x5 x6) n
noncomputable def reach_Tell (n : Nat) (x1 : List Kiiiiiii) (x2 : List Ksi) (x3 : List Ksiii) (x4 : List Kisi) (x5 : List Ksi) (x6 : Int) : Option (Int × Int × List (List Int) × Int × Unit) :=
 (reach_Tell_j1 n x4 x6).bind (fun d7 => cond d7.1
 (some (0, 0, ([] : List (List Int)), 1, ()))
 ((reach_Small n x1 x2 x3 x4 x5).bind (fun r8 => cond (!r8.1)
 (some (0, 0, ([] : List (List Int)), 2, ()))
 ((reach_begin_o n x1 x2 x3 x4 x5).bind (fun r9 => (reach_Tell_l2 n x1 x2 x3 x4 x5 x6 (0, 0, 0, r9.1, r9.2.1, r9.2.2.1, r9.2.2.2.1, r9.2.2.2.2.1, r9.2.2.2.2.2.1, r9.2.2.2.2.2.2.1, ())).bind (Sum.elim (fun d16 => some (d16.2.1, d16.2.2.1, d16.2.2.2.1, d16.1, ())) (fun d17 => ask (0 ≤ (IntKind.wrap .i64 ((d17.2.2.2.2.2.2.2.1.length : Int) - 1)) ∧ IntKind.wrap .i64 ((d17.2.2.2.2.2.2.2.1.length : Int) - 1) < (d17.2.2.2.2.2.2.2.1.length : Int)) (some (2, (((KLiiLii_at d17.2.2.2.2.2.2.2.1 (IntKind.wrap .i64 ((d17.2.2.2.2.2.2.2.1.length : Int) - 1))).2).2).2, ([] : List (List Int)), 0, ())))))))))
def reach_Tell_s : Sig := ⟨[.c true [.row Kiiiiiii_, .row Ksi_, .row Ksiii_, .row Kisi_, .row Ksi_], .c false [.int .i64]], [], .t [(true, [.int .i64, .int .i64, .row KLi_, .con .nilsl]), (false, [.int .i64])], []⟩
def reach_Tell_a : Ann := .s .d (.s (.b (.j [11, 12, 13, 14, 15, 16, 17, 18, 19, 20, 21, 22, 23, 24, 25, 26, 27, 28, 29] [] [(.normal, ⟨[(11, .c false [.bool])], []⟩)] .d .d)) (.s .d (.s (.s .d (.b (.l [4, 5, 6, 7, 8, 9, 10, 37, 38, 39, 40, 41, 42, 43, 44, 45, 46, 47, 48, 49, 50, 51, 52, 53, 54, 55, 56, 57, 58, 59, 60, 61, 62, 63, 64, 65, 66, 67, 68] [164, 229, 230, 231] ⟨[(4, .c false [.con (.ptr 164 0)]), (6, .c false [.con (.ptr 229 0)]), (7, .c false [.int .i64])], [(164, .var 32 [.int .i64, .int .i64, .con .nilsl, .con .nilsl]), (229, .var 66 [.row Kiiiiiii_, .row Ksi_, .row Ksiii_, .row Kisi_, .row Ksi_, .con (.own 230 4), .con (.map 231)]), (230, .row 71 KLiiLii_), (231, .map true Kiiiiiiiiiiii_ false b_)]⟩ [(.ret, ⟨[(4, .c false [.con (.ptr 164 0)]), (5, .c false [.int .i64])], [(164, .var 32 [.int .i64, .int .i64, .row KLi_, .con .nilsl])]⟩), (.exit 1, ⟨[(4, .c false [.con (.ptr 164 0)]), (6, .c false [.con (.ptr 229 0)])], [(164, .var 32 [.int .i64, .int .i64, .con .nilsl, .con .nilsl]), (229, .var 66 [.row Kiiiiiii_, .row Ksi_, .row Ksiii_, .row Kisi_, .row Ksi_, .con (.own 230 4), .con (.map 231)]), (230, .row 71 KLiiLii_), (231, .map true Kiiiiiiiiiiii_ false b_)]⟩)] (.s .d (.s (.b (.s .d (.s .d (.s (.z [424, 425]) .d)))) .d))))) .d)))
noncomputable def reach_Tell_c (n : Nat) : Ctr Try.prog := .of Try.func11 n [reach_Small_c n, reach_begin_o_c n, sim_Right_c n, reach_search_step_o_i2_c n, reach_search_trace_i4_c n] reach_Tell_a reach_Tell_s (fun d => reach_Tell n d.1 d.2.1 d.2.2.1 d.2.2.2.1 d.2.2.2.2.1 d.2.2.2.2.2.1) fun d => by kernel_rfl
noncomputable def reach_search_step_o_i4 (n : Nat) (x1 : Int) (x2 : Int) (x3 : List Kiiiiiii) (x4 : List Ksi) (x5 : List Ksiii) (x6 : List Kisi) (x7 : List Ksi) (x8 : List KLiiLii) (x9 : List (Kiiiiiiiiiiii × Bool)) : Option (Bool × List Kiiiiiii × List Ksi × List Ksiii × List Kisi × List Ksi × List (Kiiiiiiiiiiii × Bool) × List Int × List KLiiLii × Unit) :=
 ask (0 ≤ x1 ∧ x1 < (x8.length : Int)) ((reach_rows n x3 x4 x5 x6 x7).bind (fun r10 => (reach_rows_1__reach_search_step_o n 0 r10.1 r10.2.1 r10.2.2.1 r10.2.2.2.1 r10.2.2.2.2.1 x1 x2 false ((KLiiLii_at x8 x1).1) (((KLiiLii_at x8 x1).2).1) ((((KLiiLii_at x8 x1).2).2).1) ((((KLiiLii_at x8 x1).2).2).2) x3 x4 x5 x6 x7 x8 x9).bind (fun r11 => ask (0 ≤ r11.1) (cond (decide (r11.1 = 0))
 (some (false, r11.2.2.2.2.2.2.2.2.2.2.2.2.2.1, r11.2.2.2.2.2.2.2.2.2.2.2.2.2.2.1, r11.2.2.2.2.2.2.2.2.2.2.2.2.2.2.2.1, r11.2.2.2.2.2.2.2.2.2.2.2.2.2.2.2.2.1, r11.2.2.2.2.2.2.2.2.2.2.2.2.2.2.2.2.2.1, r11.2.2.2.2.2.2.2.2.2.2.2.2.2.2.2.2.2.2.1, ([] : List Int), r11.2.2.2.2.2.2.2.2.2.2.2.2.2.2.2.2.2.2.2.2.1, ()))
 (cond (decide (r11.1 = 1))
 (some (r11.2.2.2.2.2.2.2.2.1, r11.2.2.2.2.2.2.2.2.2.2.2.2.2.1, r11.2.2.2.2.2.2.2.2.2.2.2.2.2.2.1, r11.2.2.2.2.2.2.2.2.2.2.2.2.2.2.2.1, r11.2.2.2.2.2.2.2.2.2.2.2.2.2.2.2.2.1, r11.2.2.2.2.2.2.2.2.2.2.2.2.2.2.2.2.2.1, r11.2.2.2.2.2.2.2.2.2.2.2.2.2.2.2.2.2.2.1, r11.2.2.2.2.2.2.2.2.2.2.2.2.2.2.2.2.2.2.2.1, r11.2.2.2.2.2.2.2.2.2.2.2.2.2.2.2.2.2.2.2.2.1, ()))
 (none))))))
def reach_search_step_o_i4_s : Sig := ⟨[.c false [.con (.ptr 0 0)], .c false [.int .i64], .c false [.int .i64]], [(0, .var 66 [.row Kiiiiiii_, .row Ksi_, .row Ksiii_, .row Kisi_, .row Ksi_, .con (.own 1 4), .con (.map 2)]), (1, .row 71 KLiiLii_), (2, .map true Kiiiiiiiiiiii_ false b_)], .t [(false, [.con (.own 100000 1)]), (false, [.bool])], [(0, .var 66 [.row Kiiiiiii_, .row Ksi_, .row Ksiii_, .row Kisi_, .row Ksi_, .con (.own 1065 4), .con (.map 2)]), (2, .map true Kiiiiiiiiiiii_ false b_), (100000, .row 3 i_), (1065, .row 71 KLiiLii_)]⟩
def reach_search_step_o_i4_a : Ann := .s .d (.s .d (.s (.s .d (.b (.r 30000 [3, 4, 5, 6, 7, 8] [] [.normal, .ret]))) .d))
noncomputable def reach_search_step_o_i4_c (n : Nat) : Ctr Try.prog := .of Try.func30 n [reach_rows_c n, reach_rows_1__reach_search_step_o_c n] reach_search_step_o_i4_a reach_search_step_o_i4_s (fun d => reach_search_step_o_i4 n d.1 d.2.1 d.2.2.1 d.2.2.2.1 d.2.2.2.2.1 d.2.2.2.2.2.1 d.2.2.2.2.2.2.1 d.2.2.2.2.2.2.2.1 d.2.2.2.2.2.2.2.2.1) fun d => by kernel_rfl
noncomputable def reach_Many_l1b (n : Nat) (self : Int × List Kiiiiiii × List Ksi × List Ksiii × List Kisi × List Ksi × List KLiiLii × List (Kiiiiiiiiiiii × Bool) × Unit → Option ((List Kiiiiiii × List Ksi × List Ksiii × List Kisi × List Ksi × List KLiiLii × List (Kiiiiiiiiiiii × Bool) × Unit))) (d10 : Int × List Kiiiiiii × List Ksi × List Ksiii × List Kisi × List Ksi × List KLiiLii × List (Kiiiiiiiiiiii × Bool) × Unit) : Option ((List Kiiiiiii × List Ksi × List Ksiii × List Kisi × List Ksi × List KLiiLii × List (Kiiiiiiiiiiii × Bool) × Unit)) :=
 cond (decide (d10.1 < (d10.2.2.2.2.2.2.1.length : Int)))
 ((reach_search_step_o_i4 n d10.1 (-1) d10.2.1 d10.2.2.1 d10.2.2.2.1 d10.2.2.2.2.1 d10.2.2.2.2.2.1 d10.2.2.2.2.2.2.1 d10.2.2.2.2.2.2.2.1).bind (fun r11 => self (IntKind.wrap .i64 (d10.1 + 1), r11.2.1, r11.2.2.1, r11.2.2.2.1, r11.2.2.2.2.1, r11.2.2.2.2.2.1, r11.2.2.2.2.2.2.2.2.1, r11.2.2.2.2.2.2.1, ())))
 (some (d10.2.1, d10.2.2.1, d10.2.2.2.1, d10.2.2.2.2.1, d10.2.2.2.2.2.1, d10.2.2.2.2.2.2.1, d10.2.2.2.2.2.2.2.1, ()))
noncomputable def reach_Many_l1 (n : Nat) : Int × List Kiiiiiii × List Ksi × List Ksiii × List Kisi × List Ksi × List KLiiLii × List (Kiiiiiiiiiiii × Bool) × Unit → Option ((List Kiiiiiii × List Ksi × List Ksiii × List Kisi × List Ksi × List KLiiLii × List (Kiiiiiiiiiiii × Bool) × Unit)) := iter (reach_Many_l1b n) n
noncomputable def reach_Many (n : Nat) (x1 : List Kiiiiiii) (x2 : List Ksi) (x3 : List Ksiii) (x4 : List Kisi) (x5 : List Ksi) : Option (Int × Int × Unit) :=
 (reach_Small n x1 x2 x3 x4 x5).bind (fun r6 => cond (!r6.1)
 (some (0, 2, ()))
 ((reach_begin_o n x1 x2 x3 x4 x5).bind (fun r7 => (reach_Many_l1 n (0, r7.1, r7.2.1, r7.2.2.1, r7.2.2.2.1, r7.2.2.2.2.1, r7.2.2.2.2.2.1, r7.2.2.2.2.2.2.1, ())).bind (fun d12 => some ((d12.2.2.2.2.2.1.length : Int), 0, ())))))
def reach_Many_s : Sig := ⟨[.c true [.row Kiiiiiii_, .row Ksi_, .row Ksiii_, .row Kisi_, .row Ksi_]], [], .t [(false, [.int .i64]), (false, [.int .i64])], []⟩
def reach_Many_a : Ann := .s .d (.s .d (.s .d (.s (.s .d (.b (.l [4, 5, 10, 11, 12, 13, 14, 15, 16, 17, 18, 19, 20, 21, 22] [165, 166, 167] ⟨[(4, .c false [.con (.ptr 165 0)]), (5, .c false [.int .i64])], [(165, .var 66 [.row Kiiiiiii_, .row Ksi_, .row Ksiii_, .row Kisi_, .row Ksi_, .con (.own 166 4), .con (.map 167)]), (166, .row 71 KLiiLii_), (167, .map true Kiiiiiiiiiiii_ false b_)]⟩ [(.exit 0, ⟨[(4, .c false [.con (.ptr 165 0)])], [(165, .var 66 [.row Kiiiiiii_, .row Ksi_, .row Ksiii_, .row Kisi_, .row Ksi_, .con (.own 166 4), .con (.map 167)]), (166, .row 71 KLiiLii_), (167, .map true Kiiiiiiiiiiii_ false b_)]⟩)] .d))) .d)))
noncomputable def reach_Many_c (n : Nat) : Ctr Try.prog := .of Try.func13 n [reach_Small_c n, reach_begin_o_c n, reach_search_step_o_i4_c n] reach_Many_a reach_Many_s (fun d => reach_Many n d.1 d.2.1 d.2.2.1 d.2.2.2.1 d.2.2.2.2.1) fun d => by kernel_rfl
noncomputable def ref11_SameRows_l1b (n : Nat) (d4 : Int × Unit) (x1 : List (List Int)) (x2 : List (List Int)) (self : Int × Unit → Option ((Bool × Unit) ⊕ (Unit))) (d6 : Int × Unit) : Option ((Bool × Unit) ⊕ (Unit)) :=
 ask (0 ≤ d4.1 ∧ d4.1 < (x1.length : Int)) (cond (decide (d6.1 < ((KLi_at x1 d4.1).length : Int)))
 (ask (0 ≤ d4.1 ∧ d4.1 < (x1.length : Int)) (ask (0 ≤ d6.1 ∧ d6.1 < ((KLi_at x1 d4.1).length : Int)) (ask (0 ≤ d4.1 ∧ d4.1 < (x2.length : Int)) (ask (0 ≤ d6.1 ∧ d6.1 < ((KLi_at x2 d4.1).length : Int)) (cond (decide ((Ki_at (KLi_at x1 d4.1) d6.1) ≠ (Ki_at (KLi_at x2 d4.1) d6.1)))
 (some (.inl (false, ())))
 (self (IntKind.wrap .i64 (d6.1 + 1), ())))))))
 (some (.inr ())))
noncomputable def ref11_SameRows_l1 (n : Nat) (d4 : Int × Unit) (x1 : List (List Int)) (x2 : List (List Int)) : Int × Unit → Option ((Bool × Unit) ⊕ (Unit)) := iter (ref11_SameRows_l1b n d4 x1 x2) n
noncomputable def ref11_SameRows_l2b (n : Nat) (x1 : List (List Int)) (x2 : List (List Int)) (self : Int × Unit → Option ((Bool × Unit) ⊕ (Unit))) (d4 : Int × Unit) : Option ((Bool × Unit) ⊕ (Unit)) :=
 cond (decide (d4.1 < (x1.length : Int)))
 (ask (0 ≤ d4.1 ∧ d4.1 < (x1.length : Int)) (ask (0 ≤ d4.1 ∧ d4.1 < (x2.length : Int)) (cond (decide (((KLi_at x1 d4.1).length : Int) ≠ ((KLi_at x2 d4.1).length : Int)))
 (some (.inl (false, ())))
 ((ref11_SameRows_l1 n d4 x1 x2 (0, ())).bind (Sum.elim (fun d7 => some (.inl (d7.1, ()))) (fun d8 => self (IntKind.wrap .i64 (d4.1 + 1), ())))))))
 (some (.inr ()))
noncomputable def ref11_SameRows_l2 (n : Nat) (x1 : List (List Int)) (x2 : List (List Int)) : Int × Unit → Option ((Bool × Unit) ⊕ (Unit)) := iter (ref11_SameRows_l2b n x1 x2) n
noncomputable def ref11_SameRows (n : Nat) (x1 : List (List Int)) (x2 : List (List Int)) : Option (Bool × Unit) :=
 cond (decide ((x1.length : Int) ≠ (x2.length : Int)))
 (some (false, ()))
 ((ref11_SameRows_l2 n x1 x2 (0, ())).bind (Sum.elim (fun d9 => some (d9.1, ())) (fun d10 => some (true, ()))))
def ref11_SameRows_s : Sig := ⟨[.c false [.row KLi_], .c false [.row KLi_]], [], .c false [.bool], []⟩
def ref11_SameRows_a : Ann := .s .d (.s .d (.s (.s .d (.b (.l [4, 5, 6, 12, 13, 14, 15, 16, 17, 18, 19, 20, 21, 22, 23, 24, 25, 26, 27, 28, 29, 30, 31, 32, 33, 34, 35, 36, 37, 38, 39, 40, 41, 42, 43, 44, 45, 46, 47, 48, 49, 50, 51, 52] [] ⟨[(5, .c false [.int .i64])], []⟩ [(.ret, ⟨[(4, .c false [.bool])], []⟩), (.exit 0, ⟨[], []⟩)] (.s .d (.s (.b (.s .d (.s .d (.b (.l [4, 6, 29, 30, 31, 32, 33, 34, 35, 36, 37, 38, 39, 40, 41, 42, 43, 44, 45, 46, 47, 48, 49, 50, 51, 52] [] ⟨[(6, .c false [.int .i64])], []⟩ [(.ret, ⟨[(4, .c false [.bool])], []⟩), (.exit 2, ⟨[], []⟩)] .d))))) .d))))) .d))
noncomputable def ref11_SameRows_c (n : Nat) : Ctr Try.prog := .of Try.func39 n [] ref11_SameRows_a ref11_SameRows_s (fun d => ref11_SameRows n d.1 d.2.1) fun d => by kernel_rfl
noncomputable def ref12_Same (n : Nat) (x1 : Int) (x2 : Int) (x3 : List (List Int)) (x4 : List (List Int)) (x5 : Int) (x6 : Int) (x7 : List (List Int)) (x8 : List (List Int)) : Option (Bool × Unit) :=
 cond (decide (x1 = x5))
 (cond (decide (x2 = x6))
 ((ref11_SameRows n x3 x7).bind (fun r9 => cond r9.1
 ((ref11_SameRows n x4 x8).bind (fun r10 => some (r10.1, ())))
 (some (false, ()))))
 (some (false, ())))
 (some (false, ()))
def ref12_Same_s : Sig := ⟨[.c true [.int .i64, .int .i64, .row KLi_, .row KLi_], .c true [.int .i64, .int .i64, .row KLi_, .row KLi_]], [], .c false [.bool], []⟩
def ref12_Same_a : Ann := .d
noncomputable def ref12_Same_c (n : Nat) : Ctr Try.prog := .of Try.func17 n [ref11_SameRows_c n] ref12_Same_a ref12_Same_s (fun d => ref12_Same n d.1 d.2.1 d.2.2.1 d.2.2.2.1 d.2.2.2.2.1 d.2.2.2.2.2.1 d.2.2.2.2.2.2.1 d.2.2.2.2.2.2.2.1) fun d => by kernel_rfl
noncomputable def law12_head_l1b (n : Nat) (self : Int × List (List Int) × Unit → Option ((List (List Int) × Unit))) (d7 : Int × List (List Int) × Unit) : Option ((List (List Int) × Unit)) :=
 cond (decide (d7.1 < 11))
 (ask (True ∧ (d7.2.1.length + (([([1] : List Int)] : List (List Int))).length) * 24 ≤ 140737488355328) (self (IntKind.wrap .i64 (d7.1 + 1), d7.2.1 ++ ([([1] : List Int)] : List (List Int)), ())))
 (some (d7.2.1, ()))
noncomputable def law12_head_l1 (n : Nat) : Int × List (List Int) × Unit → Option ((List (List Int) × Unit)) := iter (law12_head_l1b n) n
noncomputable def law12_head (n : Nat) : Option (Bool × Unit) :=
 (law09_Base n).bind (fun r1 => (reach_Tell n r1.1 r1.2.1 r1.2.2.1 r1.2.2.2.1 r1.2.2.2.2.1 0).bind (fun r2 => (reach_Tell n r1.1 r1.2.1 r1.2.2.1 r1.2.2.2.1 r1.2.2.2.2.1 1).bind (fun r3 => (reach_Many n r1.1 r1.2.1 r1.2.2.1 r1.2.2.2.1 r1.2.2.2.2.1).bind (fun r4 => (reach_Tell n r1.1 r1.2.1 r1.2.2.1 r1.2.2.2.1 r1.2.2.2.2.1 2).bind (fun r5 => (law12_head_l1 n (0, ([] : List (List Int)), ())).bind (fun d8 => ask (True ∧ (d8.1.length + (([([0] : List Int)] : List (List Int))).length) * 24 ≤ 140737488355328) ((reach_Small n r1.1 r1.2.1 r1.2.2.1 r1.2.2.2.1 r1.2.2.2.2.1).bind (fun r9 => cond r9.1
 (cond (decide (r2.2.2.2.1 = 0))
 ((ref12_Same n r2.1 r2.2.1 r2.2.2.1 ([] : List (List Int)) 2 11 ([] : List (List Int)) ([] : List (List Int))).bind (fun r10 => cond r10.1
 (cond (decide (r3.2.2.2.1 = 0))
 ((ref12_Same n r3.1 r3.2.1 r3.2.2.1 ([] : List (List Int)) 1 12 (d8.1 ++ ([([0] : List Int)] : List (List Int))) ([] : List (List Int))).bind (fun r11 => cond r11.1
 (cond (decide (r4.2.1 = 0))
 (cond (decide (r4.1 = 12))
 (some (decide (r5.2.2.2.1 = 1), ()))
 (some (false, ())))
 (some (false, ())))
 (some (false, ()))))
 (some (false, ())))
 (some (false, ()))))
 (some (false, ())))
 (some (false, ()))))))))))
def law12_head_s : Sig := ⟨[], [], .c false [.bool], []⟩
def law12_head_a : Ann := .s .d (.s .d (.s .d (.s .d (.s .d (.s .d (.s .d (.s (.s .d (.b (.l [10, 11, 33, 34, 35, 36, 37, 38, 39, 40] [] ⟨[(10, .c false [.con (.own 100000 1)]), (11, .c false [.int .i64])], [(100000, .row 59 KLi_)]⟩ [(.exit 0, ⟨[(10, .c false [.con (.own 100000 1)])], [(100000, .row 59 KLi_)]⟩)] .d))) .d)))))))
noncomputable def law12_head_c (n : Nat) : Ctr Try.prog := .of Try.func9 n [law09_Base_c n, reach_Tell_c n, reach_Many_c n, reach_Small_c n, ref12_Same_c n] law12_head_a law12_head_s (fun d => law12_head n) fun d => by kernel_rfl
noncomputable def law09_Great (n : Nat) (x1 : List Kiiiiiii) (x2 : List Ksi) (x3 : List Ksiii) (x4 : List Kisi) (x5 : List Ksi) : Option (Bool × Unit) :=
 cond (decide ((300 : Int) < (x1.length : Int)))
 (some (true, ()))
 (cond (decide ((100 : Int) < (x2.length : Int)))
 (some (true, ()))
 (cond (decide ((300 : Int) < (x3.length : Int)))
 (some (true, ()))
 (cond (decide ((40 : Int) < (x4.length : Int)))
 (some (true, ()))
 (some (decide ((300 : Int) < (x5.length : Int)), ())))))
def law09_Great_s : Sig := ⟨[.c true [.row Kiiiiiii_, .row Ksi_, .row Ksiii_, .row Kisi_, .row Ksi_]], [], .c false [.bool], []⟩
def law09_Great_a : Ann := .d
noncomputable def law09_Great_c (n : Nat) : Ctr Try.prog := .of Try.func27 n [] law09_Great_a law09_Great_s (fun d => law09_Great n d.1 d.2.1 d.2.2.1 d.2.2.2.1 d.2.2.2.2.1) fun d => by kernel_rfl
noncomputable def ref09_operands (n : Nat) (x1 : Int) : Option (Int × Unit) :=
 cond (decide (x1 = 1))
 (cond (decide (x1 = 1))
 (some (0, ()))
 (cond (decide (x1 = 3))
 (cond (decide (x1 = 3))
 (some (1, ()))
 (cond (decide (x1 = 6))
 (cond (decide (x1 = 6))
 (some (2, ()))
 (cond (decide (x1 = 16))
 (some (3, ()))
 (some ((-1), ()))))
 (cond (decide (x1 = 7))
 (cond (decide (x1 = 7))
 (some (2, ()))
 (cond (decide (x1 = 16))
 (some (3, ()))
 (some ((-1), ()))))
 (cond (decide (x1 = 8))
 (cond (decide (x1 = 8))
 (some (2, ()))
 (cond (decide (x1 = 16))
 (some (3, ()))
 (some ((-1), ()))))
 (cond (decide (x1 = 9))
 (cond (decide (x1 = 9))
 (some (2, ()))
 (cond (decide (x1 = 16))
 (some (3, ()))
 (some ((-1), ()))))
 (cond (decide (x1 = 10))
 (cond (decide (x1 = 10))
 (some (2, ()))
 (cond (decide (x1 = 16))
 (some (3, ()))
 (some ((-1), ()))))
 (cond (decide (x1 = 11))
 (cond (decide (x1 = 11))
 (some (2, ()))
 (cond (decide (x1 = 16))
 (some (3, ()))
 (some ((-1), ()))))
 (cond (decide (x1 = 12))
 (cond (decide (x1 = 12))
 (some (2, ()))
 (cond (decide (x1 = 16))
 (some (3, ()))
 (some ((-1), ()))))
 (cond (decide (x1 = 13))
 (cond (decide (x1 = 13))
 (some (2, ()))
 (cond (decide (x1 = 16))
 (some (3, ()))
 (some ((-1), ()))))
 (cond (decide (x1 = 14))
 (cond (decide (x1 = 14))
 (some (2, ()))
 (cond (decide (x1 = 16))
 (some (3, ()))
 (some ((-1), ()))))
 (cond (decide (x1 = 15))
 (cond (decide (x1 = 15))
 (some (2, ()))
 (cond (decide (x1 = 16))
 (some (3, ()))
 (some ((-1), ()))))
 (cond (decide (x1 = 17))
 (some (2, ()))
 (cond (decide (x1 = 16))
 (some (3, ()))
 (some ((-1), ())))))))))))))))
 (cond (decide (x1 = 4))
 (cond (decide (x1 = 4))
 (some (1, ()))
 (cond (decide (x1 = 6))
 (cond (decide (x1 = 6))
 (some (2, ()))
 (cond (decide (x1 = 16))
 (some (3, ()))
 (some ((-1), ()))))
 (cond (decide (x1 = 7))
 (cond (decide (x1 = 7))
 (some (2, ()))
 (cond (decide (x1 = 16))
 (some (3, ()))
 (some ((-1), ()))))
 (cond (decide (x1 = 8))
 (cond (decide (x1 = 8))
 (some (2, ()))
 (cond (decide (x1 = 16))
 (some (3, ()))
 (some ((-1), ()))))
 (cond (decide (x1 = 9))
 (cond (decide (x1 = 9))
 (some (2, ()))
 (cond (decide (x1 = 16))
 (some (3, ()))
 (some ((-1), ()))))
 (cond (decide (x1 = 10))
 (cond (decide (x1 = 10))
 (some (2, ()))
 (cond (decide (x1 = 16))
 (some (3, ()))
 (some ((-1), ()))))
 (cond (decide (x1 = 11))
 (cond (decide (x1 = 11))
 (some (2, ()))
 (cond (decide (x1 = 16))
 (some (3, ()))
 (some ((-1), ()))))
 (cond (decide (x1 = 12))
 (cond (decide (x1 = 12))
 (some (2, ()))
 (cond (decide (x1 = 16))
 (some (3, ()))
 (some ((-1), ()))))
 (cond (decide (x1 = 13))
 (cond (decide (x1 = 13))
 (some (2, ()))
 (cond (decide (x1 = 16))
 (some (3, ()))
 (some ((-1), ()))))
 (cond (decide (x1 = 14))
 (cond (decide (x1 = 14))
 (some (2, ()))
 (cond (decide (x1 = 16))
 (some (3, ()))
 (some ((-1), ()))))
 (cond (decide (x1 = 15))
 (cond (decide (x1 = 15))
 (some (2, ()))
 (cond (decide (x1 = 16))
 (some (3, ()))
 (some ((-1), ()))))
 (cond (decide (x1 = 17))
 (some (2, ()))
 (cond (decide (x1 = 16))
 (some (3, ()))
 (some ((-1), ())))))))))))))))
 (cond (decide (x1 = 5))
 (cond (decide (x1 = 5))
 (some (1, ()))
 (cond (decide (x1 = 6))
 (cond (decide (x1 = 6))
 (some (2, ()))
 (cond (decide (x1 = 16))
 (some (3, ()))
 (some ((-1), ()))))
 (cond (decide (x1 = 7))
 (cond (decide (x1 = 7))
 (some (2, ()))
 (cond (decide (x1 = 16))
 (some (3, ()))
 (some ((-1), ()))))
 (cond (decide (x1 = 8))
 (cond (decide (x1 = 8))
 (some (2, ()))
 (cond (decide (x1 = 16))
 (some (3, ()))
 (some ((-1), ()))))
 (cond (decide (x1 = 9))
 (cond (decide (x1 = 9))
 (some (2, ()))
 (cond (decide (x1 = 16))
 (some (3, ()))
 (some ((-1), ()))))
 (cond (decide (x1 = 10))
 (cond (decide (x1 = 10))
 (some (2, ()))
 (cond (decide (x1 = 16))
 (some (3, ()))
 (some ((-1), ()))))
 (cond (decide (x1 = 11))
 (cond (decide (x1 = 11))
 (some (2, ()))
 (cond (decide (x1 = 16))
 (some (3, ()))
 (some ((-1), ()))))
 (cond (decide (x1 = 12))
 (cond (decide (x1 = 12))
 (some (2, ()))
 (cond (decide (x1 = 16))
 (some (3, ()))
 (some ((-1), ()))))
 (cond (decide (x1 = 13))
 (cond (decide (x1 = 13))
 (some (2, ()))
 (cond (decide (x1 = 16))
 (some (3, ()))
 (some ((-1), ()))))
 (cond (decide (x1 = 14))
 (cond (decide (x1 = 14))
 (some (2, ()))
 (cond (decide (x1 = 16))
 (some (3, ()))
 (some ((-1), ()))))
 (cond (decide (x1 = 15))
 (cond (decide (x1 = 15))
 (some (2, ()))
 (cond (decide (x1 = 16))
 (some (3, ()))
 (some ((-1), ()))))
 (cond (decide (x1 = 17))
 (some (2, ()))
 (cond (decide (x1 = 16))
 (some (3, ()))
 (some ((-1), ())))))))))))))))
 (cond (decide (x1 = 18))
 (some (1, ()))
 (cond (decide (x1 = 6))
 (cond (decide (x1 = 6))
 (some (2, ()))
 (cond (decide (x1 = 16))
 (some (3, ()))
 (some ((-1), ()))))
 (cond (decide (x1 = 7))
 (cond (decide (x1 = 7))
 (some (2, ()))
 (cond (decide (x1 = 16))
 (some (3, ()))
 (some ((-1), ()))))
 (cond (decide (x1 = 8))
 (cond (decide (x1 = 8))
 (some (2, ()))
 (cond (decide (x1 = 16))
 (some (3, ()))
 (some ((-1), ()))))
 (cond (decide (x1 = 9))
 (cond (decide (x1 = 9))
 (some (2, ()))
 (cond (decide (x1 = 16))
 (some (3, ()))
 (some ((-1), ()))))
 (cond (decide (x1 = 10))
 (cond (decide (x1 = 10))
 (some (2, ()))
 (cond (decide (x1 = 16))
 (some (3, ()))
 (some ((-1), ()))))
 (cond (decide (x1 = 11))
 (cond (decide (x1 = 11))
 (some (2, ()))
 (cond (decide (x1 = 16))
 (some (3, ()))
 (some ((-1), ()))))
 (cond (decide (x1 = 12))
 (cond (decide (x1 = 12))
 (some (2, ()))
 (cond (decide (x1 = 16))
 (some (3, ()))
 (some ((-1), ()))))
 (cond (decide (x1 = 13))
 (cond (decide (x1 = 13))
 (some (2, ()))
 (cond (decide (x1 = 16))
 (some (3, ()))
 (some ((-1), ()))))
 (cond (decide (x1 = 14))
 (cond (decide (x1 = 14))
 (some (2, ()))
 (cond (decide (x1 = 16))
 (some (3, ()))
 (some ((-1), ()))))
 (cond (decide (x1 = 15))
 (cond (decide (x1 = 15))
 (some (2, ()))
 (cond (decide (x1 = 16))
 (some (3, ()))
 (some ((-1), ()))))
 (cond (decide (x1 = 17))
 (some (2, ()))
 (cond (decide (x1 = 16))
 (some (3, ()))
 (some ((-1), ())))))))))))))))))))
 (cond (decide (x1 = 21))
 (cond (decide (x1 = 21))
 (some (0, ()))
 (cond (decide (x1 = 3))
 (cond (decide (x1 = 3))
 (some (1, ()))
 (cond (decide (x1 = 6))
 (cond (decide (x1 = 6))
 (some (2, ()))
 (cond (decide (x1 = 16))
 (some (3, ()))
 (some ((-1), ()))))
 (cond (decide (x1 = 7))
 (cond (decide (x1 = 7))
 (some (2, ()))
 (cond (decide (x1 = 16))
 (some (3, ()))
 (some ((-1), ()))))
 (cond (decide (x1 = 8))
 (cond (decide (x1 = 8))
 (some (2, ()))
 (cond (decide (x1 = 16))
 (some (3, ()))
 (some ((-1), ()))))
 (cond (decide (x1 = 9))
 (cond (decide (x1 = 9))
 (some (2, ()))
 (cond (decide (x1 = 16))
 (some (3, ()))
 (some ((-1), ()))))
 (cond (decide (x1 = 10))
 (cond (decide (x1 = 10))
 (some (2, ()))
 (cond (decide (x1 = 16))
 (some (3, ()))
 (some ((-1), ()))))
 (cond (decide (x1 = 11))
 (cond (decide (x1 = 11))
 (some (2, ()))
 (cond (decide (x1 = 16))
 (some (3, ()))
 (some ((-1), ()))))
 (cond (decide (x1 = 12))
 (cond (decide (x1 = 12))
 (some (2, ()))
 (cond (decide (x1 = 16))
 (some (3, ()))
 (some ((-1), ()))))
 (cond (decide (x1 = 13))
 (cond (decide (x1 = 13))
 (some (2, ()))
 (cond (decide (x1 = 16))
 (some (3, ()))
 (some ((-1), ()))))
 (cond (decide (x1 = 14))
 (cond (decide (x1 = 14))
 (some (2, ()))
 (cond (decide (x1 = 16))
 (some (3, ()))
 (some ((-1), ()))))
 (cond (decide (x1 = 15))
 (cond (decide (x1 = 15))
 (some (2, ()))
 (cond (decide (x1 = 16))
 (some (3, ()))
 (some ((-1), ()))))
 (cond (decide (x1 = 17))
 (some (2, ()))
 (cond (decide (x1 = 16))
 (some (3, ()))
 (some ((-1), ())))))))))))))))
 (cond (decide (x1 = 4))
 (cond (decide (x1 = 4))
 (some (1, ()))
 (cond (decide (x1 = 6))
 (cond (decide (x1 = 6))
 (some (2, ()))
 (cond (decide (x1 = 16))
 (some (3, ()))
 (some ((-1), ()))))
 (cond (decide (x1 = 7))
 (cond (decide (x1 = 7))
 (some (2, ()))
 (cond (decide (x1 = 16))
 (some (3, ()))
 (some ((-1), ()))))
 (cond (decide (x1 = 8))
 (cond (decide (x1 = 8))
 (some (2, ()))
 (cond (decide (x1 = 16))
 (some (3, ()))
 (some ((-1), ()))))
 (cond (decide (x1 = 9))
 (cond (decide (x1 = 9))
 (some (2, ()))
 (cond (decide (x1 = 16))
 (some (3, ()))
 (some ((-1), ()))))
 (cond (decide (x1 = 10))
 (cond (decide (x1 = 10))
 (some (2, ()))
 (cond (decide (x1 = 16))
 (some (3, ()))
 (some ((-1), ()))))
 (cond (decide (x1 = 11))
 (cond (decide (x1 = 11))
 (some (2, ()))
 (cond (decide (x1 = 16))
 (some (3, ()))
 (some ((-1), ()))))
 (cond (decide (x1 = 12))
 (cond (decide (x1 = 12))
 (some (2, ()))
 (cond (decide (x1 = 16))
 (some (3, ()))
 (some ((-1), ()))))
 (cond (decide (x1 = 13))
 (cond (decide (x1 = 13))
 (some (2, ()))
 (cond (decide (x1 = 16))
 (some (3, ()))
 (some ((-1), ()))))
 (cond (decide (x1 = 14))
 (cond (decide (x1 = 14))
 (some (2, ()))
 (cond (decide (x1 = 16))
 (some (3, ()))
 (some ((-1), ()))))
 (cond (decide (x1 = 15))
 (cond (decide (x1 = 15))
 (some (2, ()))
 (cond (decide (x1 = 16))
 (some (3, ()))
 (some ((-1), ()))))
 (cond (decide (x1 = 17))
 (some (2, ()))
 (cond (decide (x1 = 16))
 (some (3, ()))
 (some ((-1), ())))))))))))))))
 (cond (decide (x1 = 5))
 (cond (decide (x1 = 5))
 (some (1, ()))
 (cond (decide (x1 = 6))
 (cond (decide (x1 = 6))
 (some (2, ()))
 (cond (decide (x1 = 16))
 (some (3, ()))
 (some ((-1), ()))))
 (cond (decide (x1 = 7))
 (cond (decide (x1 = 7))
 (some (2, ()))
 (cond (decide (x1 = 16))
 (some (3, ()))
 (some ((-1), ()))))
 (cond (decide (x1 = 8))
 (cond (decide (x1 = 8))
 (some (2, ()))
 (cond (decide (x1 = 16))
 (some (3, ()))
 (some ((-1), ()))))
 (cond (decide (x1 = 9))
 (cond (decide (x1 = 9))
 (some (2, ()))
 (cond (decide (x1 = 16))
 (some (3, ()))
 (some ((-1), ()))))
 (cond (decide (x1 = 10))
 (cond (decide (x1 = 10))
 (some (2, ()))
 (cond (decide (x1 = 16))
 (some (3, ()))
 (some ((-1), ()))))
 (cond (decide (x1 = 11))
 (cond (decide (x1 = 11))
 (some (2, ()))
 (cond (decide (x1 = 16))
 (some (3, ()))
 (some ((-1), ()))))
 (cond (decide (x1 = 12))
 (cond (decide (x1 = 12))
 (some (2, ()))
 (cond (decide (x1 = 16))
 (some (3, ()))
 (some ((-1), ()))))
 (cond (decide (x1 = 13))
 (cond (decide (x1 = 13))
 (some (2, ()))
 (cond (decide (x1 = 16))
 (some (3, ()))
 (some ((-1), ()))))
 (cond (decide (x1 = 14))
 (cond (decide (x1 = 14))
 (some (2, ()))
 (cond (decide (x1 = 16))
 (some (3, ()))
 (some ((-1), ()))))
 (cond (decide (x1 = 15))
 (cond (decide (x1 = 15))
 (some (2, ()))
 (cond (decide (x1 = 16))
 (some (3, ()))
 (some ((-1), ()))))
 (cond (decide (x1 = 17))
 (some (2, ()))
 (cond (decide (x1 = 16))
 (some (3, ()))
 (some ((-1), ())))))))))))))))
 (cond (decide (x1 = 18))
 (some (1, ()))
 (cond (decide (x1 = 6))
 (cond (decide (x1 = 6))
 (some (2, ()))
 (cond (decide (x1 = 16))
 (some (3, ()))
 (some ((-1), ()))))
 (cond (decide (x1 = 7))
 (cond (decide (x1 = 7))
 (some (2, ()))
 (cond (decide (x1 = 16))
 (some (3, ()))
 (some ((-1), ()))))
 (cond (decide (x1 = 8))
 (cond (decide (x1 = 8))
 (some (2, ()))
 (cond (decide (x1 = 16))
 (some (3, ()))
 (some ((-1), ()))))
 (cond (decide (x1 = 9))
 (cond (decide (x1 = 9))
 (some (2, ()))
 (cond (decide (x1 = 16))
 (some (3, ()))
 (some ((-1), ()))))
 (cond (decide (x1 = 10))
 (cond (decide (x1 = 10))
 (some (2, ()))
 (cond (decide (x1 = 16))
 (some (3, ()))
 (some ((-1), ()))))
 (cond (decide (x1 = 11))
 (cond (decide (x1 = 11))
 (some (2, ()))
 (cond (decide (x1 = 16))
 (some (3, ()))
 (some ((-1), ()))))
 (cond (decide (x1 = 12))
 (cond (decide (x1 = 12))
 (some (2, ()))
 (cond (decide (x1 = 16))
 (some (3, ()))
 (some ((-1), ()))))
 (cond (decide (x1 = 13))
 (cond (decide (x1 = 13))
 (some (2, ()))
 (cond (decide (x1 = 16))
 (some (3, ()))
 (some ((-1), ()))))
 (cond (decide (x1 = 14))
 (cond (decide (x1 = 14))
 (some (2, ()))
 (cond (decide (x1 = 16))
 (some (3, ()))
 (some ((-1), ()))))
 (cond (decide (x1 = 15))
 (cond (decide (x1 = 15))
 (some (2, ()))
 (cond (decide (x1 = 16))
 (some (3, ()))
 (some ((-1), ()))))
 (cond (decide (x1 = 17))
 (some (2, ()))
 (cond (decide (x1 = 16))
 (some (3, ()))
 (some ((-1), ())))))))))))))))))))
 (cond (decide (x1 = 22))
 (some (0, ()))
 (cond (decide (x1 = 3))
 (cond (decide (x1 = 3))
 (some (1, ()))
 (cond (decide (x1 = 6))
 (cond (decide (x1 = 6))
 (some (2, ()))
 (cond (decide (x1 = 16))
 (some (3, ()))
 (some ((-1), ()))))
 (cond (decide (x1 = 7))
 (cond (decide (x1 = 7))
 (some (2, ()))
 (cond (decide (x1 = 16))
 (some (3, ()))
 (some ((-1), ()))))
 (cond (decide (x1 = 8))
 (cond (decide (x1 = 8))
 (some (2, ()))
 (cond (decide (x1 = 16))
 (some (3, ()))
 (some ((-1), ()))))
 (cond (decide (x1 = 9))
 (cond (decide (x1 = 9))
 (some (2, ()))
 (cond (decide (x1 = 16))
 (some (3, ()))
 (some ((-1), ()))))
 (cond (decide (x1 = 10))
 (cond (decide (x1 = 10))
 (some (2, ()))
 (cond (decide (x1 = 16))
 (some (3, ()))
 (some ((-1), ()))))
 (cond (decide (x1 = 11))
 (cond (decide (x1 = 11))
 (some (2, ()))
 (cond (decide (x1 = 16))
 (some (3, ()))
 (some ((-1), ()))))
 (cond (decide (x1 = 12))
 (cond (decide (x1 = 12))
 (some (2, ()))
 (cond (decide (x1 = 16))
 (some (3, ()))
 (some ((-1), ()))))
 (cond (decide (x1 = 13))
 (cond (decide (x1 = 13))
 (some (2, ()))
 (cond (decide (x1 = 16))
 (some (3, ()))
 (some ((-1), ()))))
 (cond (decide (x1 = 14))
 (cond (decide (x1 = 14))
 (some (2, ()))
 (cond (decide (x1 = 16))
 (some (3, ()))
 (some ((-1), ()))))
 (cond (decide (x1 = 15))
 (cond (decide (x1 = 15))
 (some (2, ()))
 (cond (decide (x1 = 16))
 (some (3, ()))
 (some ((-1), ()))))
 (cond (decide (x1 = 17))
 (some (2, ()))
 (cond (decide (x1 = 16))
 (some (3, ()))
 (some ((-1), ())))))))))))))))
 (cond (decide (x1 = 4))
 (cond (decide (x1 = 4))
 (some (1, ()))
 (cond (decide (x1 = 6))
 (cond (decide (x1 = 6))
 (some (2, ()))
 (cond (decide (x1 = 16))
 (some (3, ()))
 (some ((-1), ()))))
 (cond (decide (x1 = 7))
 (cond (decide (x1 = 7))
 (some (2, ()))
 (cond (decide (x1 = 16))
 (some (3, ()))
 (some ((-1), ()))))
 (cond (decide (x1 = 8))
 (cond (decide (x1 = 8))
 (some (2, ()))
 (cond (decide (x1 = 16))
 (some (3, ()))
 (some ((-1), ()))))
 (cond (decide (x1 = 9))
 (cond (decide (x1 = 9))
 (some (2, ()))
 (cond (decide (x1 = 16))
 (some (3, ()))
 (some ((-1), ()))))
 (cond (decide (x1 = 10))
 (cond (decide (x1 = 10))
 (some (2, ()))
 (cond (decide (x1 = 16))
 (some (3, ()))
 (some ((-1), ()))))
 (cond (decide (x1 = 11))
 (cond (decide (x1 = 11))
 (some (2, ()))
 (cond (decide (x1 = 16))
 (some (3, ()))
 (some ((-1), ()))))
 (cond (decide (x1 = 12))
 (cond (decide (x1 = 12))
 (some (2, ()))
 (cond (decide (x1 = 16))
 (some (3, ()))
 (some ((-1), ()))))
 (cond (decide (x1 = 13))
 (cond (decide (x1 = 13))
 (some (2, ()))
 (cond (decide (x1 = 16))
 (some (3, ()))
 (some ((-1), ()))))
 (cond (decide (x1 = 14))
 (cond (decide (x1 = 14))
 (some (2, ()))
 (cond (decide (x1 = 16))
 (some (3, ()))
 (some ((-1), ()))))
 (cond (decide (x1 = 15))
 (cond (decide (x1 = 15))
 (some (2, ()))
 (cond (decide (x1 = 16))
 (some (3, ()))
 (some ((-1), ()))))
 (cond (decide (x1 = 17))
 (some (2, ()))
 (cond (decide (x1 = 16))
 (some (3, ()))
 (some ((-1), ())))))))))))))))
 (cond (decide (x1 = 5))
 (cond (decide (x1 = 5))
 (some (1, ()))
 (cond (decide (x1 = 6))
 (cond (decide (x1 = 6))
 (some (2, ()))
 (cond (decide (x1 = 16))
 (some (3, ()))
 (some ((-1), ()))))
 (cond (decide (x1 = 7))
 (cond (decide (x1 = 7))
 (some (2, ()))
 (cond (decide (x1 = 16))
 (some (3, ()))
 (some ((-1), ()))))
 (cond (decide (x1 = 8))
 (cond (decide (x1 = 8))
 (some (2, ()))
 (cond (decide (x1 = 16))
 (some (3, ()))
 (some ((-1), ()))))
 (cond (decide (x1 = 9))
 (cond (decide (x1 = 9))
 (some (2, ()))
 (cond (decide (x1 = 16))
 (some (3, ()))
 (some ((-1), ()))))
 (cond (decide (x1 = 10))
 (cond (decide (x1 = 10))
 (some (2, ()))
 (cond (decide (x1 = 16))
 (some (3, ()))
 (some ((-1), ()))))
 (cond (decide (x1 = 11))
 (cond (decide (x1 = 11))
 (some (2, ()))
 (cond (decide (x1 = 16))
 (some (3, ()))
 (some ((-1), ()))))
 (cond (decide (x1 = 12))
 (cond (decide (x1 = 12))
 (some (2, ()))
 (cond (decide (x1 = 16))
 (some (3, ()))
 (some ((-1), ()))))
 (cond (decide (x1 = 13))
 (cond (decide (x1 = 13))
 (some (2, ()))
 (cond (decide (x1 = 16))
 (some (3, ()))
 (some ((-1), ()))))
 (cond (decide (x1 = 14))
 (cond (decide (x1 = 14))
 (some (2, ()))
 (cond (decide (x1 = 16))
 (some (3, ()))
 (some ((-1), ()))))
 (cond (decide (x1 = 15))
 (cond (decide (x1 = 15))
 (some (2, ()))
 (cond (decide (x1 = 16))
 (some (3, ()))
 (some ((-1), ()))))
 (cond (decide (x1 = 17))
 (some (2, ()))
 (cond (decide (x1 = 16))
 (some (3, ()))
 (some ((-1), ())))))))))))))))
 (cond (decide (x1 = 18))
 (some (1, ()))
 (cond (decide (x1 = 6))
 (cond (decide (x1 = 6))
 (some (2, ()))
 (cond (decide (x1 = 16))
 (some (3, ()))
 (some ((-1), ()))))
 (cond (decide (x1 = 7))
 (cond (decide (x1 = 7))
 (some (2, ()))
 (cond (decide (x1 = 16))
 (some (3, ()))
 (some ((-1), ()))))
 (cond (decide (x1 = 8))
 (cond (decide (x1 = 8))
 (some (2, ()))
 (cond (decide (x1 = 16))
 (some (3, ()))
 (some ((-1), ()))))
 (cond (decide (x1 = 9))
 (cond (decide (x1 = 9))
 (some (2, ()))
 (cond (decide (x1 = 16))
 (some (3, ()))
 (some ((-1), ()))))
 (cond (decide (x1 = 10))
 (cond (decide (x1 = 10))
 (some (2, ()))
 (cond (decide (x1 = 16))
 (some (3, ()))
 (some ((-1), ()))))
 (cond (decide (x1 = 11))
 (cond (decide (x1 = 11))
 (some (2, ()))
 (cond (decide (x1 = 16))
 (some (3, ()))
 (some ((-1), ()))))
 (cond (decide (x1 = 12))
 (cond (decide (x1 = 12))
 (some (2, ()))
 (cond (decide (x1 = 16))
 (some (3, ()))
 (some ((-1), ()))))
 (cond (decide (x1 = 13))
 (cond (decide (x1 = 13))
 (some (2, ()))
 (cond (decide (x1 = 16))
 (some (3, ()))
 (some ((-1), ()))))
 (cond (decide (x1 = 14))
 (cond (decide (x1 = 14))
 (some (2, ()))
 (cond (decide (x1 = 16))
 (some (3, ()))
 (some ((-1), ()))))
 (cond (decide (x1 = 15))
 (cond (decide (x1 = 15))
 (some (2, ()))
 (cond (decide (x1 = 16))
 (some (3, ()))
 (some ((-1), ()))))
 (cond (decide (x1 = 17))
 (some (2, ()))
 (cond (decide (x1 = 16))
 (some (3, ()))
 (some ((-1), ()))))))))))))))))))))
def ref09_operands_s : Sig := ⟨[.c false [.int .i64]], [], .c false [.int .i64], []⟩
def ref09_operands_a : Ann := .d
noncomputable def ref09_operands_c (n : Nat) : Ctr Try.prog := .of Try.func60 n [] ref09_operands_a ref09_operands_s (fun d => ref09_operands n d.1) fun d => by kernel_rfl
noncomputable def ref09_wide (n : Nat) (x1 : List Kiiiiiii) (x2 : List Ksi) (x3 : List Ksiii) (x4 : List Kisi) (x5 : List Ksi) (x6 : Int) (x7 : Int) : Option (Int × Unit) :=
 cond (decide (x6 < 0))
 (some (0, ()))
 (cond (decide (x7 ≤ x6))
 (some (0, ()))
 (ask (0 ≤ x6 ∧ x6 < (x1.length : Int)) (some (((Kiiiiiii_at x1 x6).2).1, ()))))
def ref09_wide_s : Sig := ⟨[.c true [.row Kiiiiiii_, .row Ksi_, .row Ksiii_, .row Kisi_, .row Ksi_], .c false [.int .i64], .c false [.int .i64]], [], .c false [.int .i64], []⟩
def ref09_wide_a : Ann := .d
noncomputable def ref09_wide_c (n : Nat) : Ctr Try.prog := .of Try.func62 n [] ref09_wide_a ref09_wide_s (fun d => ref09_wide n d.1 d.2.1 d.2.2.1 d.2.2.2.1 d.2.2.2.2.1 d.2.2.2.2.2.1 d.2.2.2.2.2.2.1) fun d => by kernel_rfl
noncomputable def ref08_Mask (n : Nat) (x1 : Int) : Option (Int × Unit) :=
 ask (0 ≤ x1) (some (IntKind.wrap .i64 ((shlI .i64 1 x1) - 1), ()))
def ref08_Mask_s : Sig := ⟨[.c false [.int .i64]], [], .c false [.int .i64], []⟩
def ref08_Mask_a : Ann := .d
noncomputable def ref08_Mask_c (n : Nat) : Ctr Try.prog := .of Try.func42 n [] ref08_Mask_a ref08_Mask_s (fun d => ref08_Mask n d.1) fun d => by kernel_rfl
noncomputable def ref09_fits_j1 (n : Nat) (x1 : List Kiiiiiii) (x6 : Int) : Option ((Bool × Unit)) :=
 cond (decide ((((((((Kiiiiiii_at x1 x6).2).2).2).2).2).1) = 0))
 (some (decide ((((((((Kiiiiiii_at x1 x6).2).2).2).2).2).2) = 0), ()))
 (some (false, ()))
noncomputable def ref09_fits_j2 (n : Nat) (x1 : List Kiiiiiii) (x6 : Int) : Option ((Bool × Unit)) :=
 cond (decide (((Kiiiiiii_at x1 x6).1) = 6))
 (some (decide (((Kiiiiiii_at x1 x6).1) = 6), ()))
 (cond (decide (((Kiiiiiii_at x1 x6).1) = 7))
 (some (decide (((Kiiiiiii_at x1 x6).1) = 7), ()))
 (cond (decide (((Kiiiiiii_at x1 x6).1) = 8))
 (some (decide (((Kiiiiiii_at x1 x6).1) = 8), ()))
 (cond (decide (((Kiiiiiii_at x1 x6).1) = 9))
 (some (decide (((Kiiiiiii_at x1 x6).1) = 9), ()))
 (cond (decide (((Kiiiiiii_at x1 x6).1) = 10))
 (some (decide (((Kiiiiiii_at x1 x6).1) = 10), ()))
 (some (decide (((Kiiiiiii_at x1 x6).1) = 11), ()))))))
noncomputable def ref09_fits_j3 (n : Nat) (x1 : List Kiiiiiii) (x6 : Int) : Option ((Bool × Unit)) :=
 cond (decide (((Kiiiiiii_at x1 x6).1) = 12))
 (some (decide (((Kiiiiiii_at x1 x6).1) = 12), ()))
 (cond (decide (((Kiiiiiii_at x1 x6).1) = 13))
 (some (decide (((Kiiiiiii_at x1 x6).1) = 13), ()))
 (cond (decide (((Kiiiiiii_at x1 x6).1) = 14))
 (some (decide (((Kiiiiiii_at x1 x6).1) = 14), ()))
 (some (decide (((Kiiiiiii_at x1 x6).1) = 15), ()))))
noncomputable def ref09_fits (n : Nat) (x1 : List Kiiiiiii) (x2 : List Ksi) (x3 : List Ksiii) (x4 : List Kisi) (x5 : List Ksi) (x6 : Int) : Option (Bool × Unit) :=
 ask (0 ≤ x6 ∧ x6 < (x1.length : Int)) ((ref09_wide n x1 x2 x3 x4 x5 ((((Kiiiiiii_at x1 x6).2).2).1) x6).bind (fun r7 => (ref09_wide n x1 x2 x3 x4 x5 (((((Kiiiiiii_at x1 x6).2).2).2).1) x6).bind (fun r8 => (ref09_wide n x1 x2 x3 x4 x5 ((((((Kiiiiiii_at x1 x6).2).2).2).2).1) x6).bind (fun r9 => (ref09_fits_j1 n x1 x6).bind (fun d10 => cond (decide (((Kiiiiiii_at x1 x6).1) = 1))
 (cond (decide ((0 : Int) ≤ (((((((Kiiiiiii_at x1 x6).2).2).2).2).2).1)))
 ((ref08_Mask n (((Kiiiiiii_at x1 x6).2).1)).bind (fun r11 => cond (decide ((((((((Kiiiiiii_at x1 x6).2).2).2).2).2).1) ≤ r11.1))
 (some (decide ((((((((Kiiiiiii_at x1 x6).2).2).2).2).2).2) = 0), ()))
 (some (false, ()))))
 (some (false, ())))
 (((cond (decide (((Kiiiiiii_at x1 x6).1) = 21))
 (some (decide (((Kiiiiiii_at x1 x6).1) = 21), ()))
 (some (decide (((Kiiiiiii_at x1 x6).1) = 22), ()))) : Option ((Bool × Unit))).bind (fun d12 => cond d12.1
 (some (d10.1, ()))
 (cond (decide (((Kiiiiiii_at x1 x6).1) = 3))
 (cond d10.1
 (some (decide (r7.1 = (((Kiiiiiii_at x1 x6).2).1)), ()))
 (some (false, ())))
 (((cond (decide (((Kiiiiiii_at x1 x6).1) = 4))
 (some (decide (((Kiiiiiii_at x1 x6).1) = 4), ()))
 (some (decide (((Kiiiiiii_at x1 x6).1) = 5), ()))) : Option ((Bool × Unit))).bind (fun d13 => cond d13.1
 (cond (decide ((((((((Kiiiiiii_at x1 x6).2).2).2).2).2).1) = 0))
 (cond (decide ((((Kiiiiiii_at x1 x6).2).1) = 1))
 (cond (decide (r7.1 = (((((((Kiiiiiii_at x1 x6).2).2).2).2).2).2)))
 (some (decide ((0 : Int) < r7.1), ()))
 (some (false, ())))
 (some (false, ())))
 (some (false, ())))
 ((ref09_fits_j2 n x1 x6).bind (fun d14 => cond d14.1
 (cond d10.1
 (cond (decide (r7.1 = (((Kiiiiiii_at x1 x6).2).1)))
 (some (decide (r8.1 = (((Kiiiiiii_at x1 x6).2).1)), ()))
 (some (false, ())))
 (some (false, ())))
 ((ref09_fits_j3 n x1 x6).bind (fun d15 => cond d15.1
 (cond (decide ((((((((Kiiiiiii_at x1 x6).2).2).2).2).2).1) = 0))
 (cond (decide ((((Kiiiiiii_at x1 x6).2).1) = 1))
 (cond (decide (r7.1 = (((((((Kiiiiiii_at x1 x6).2).2).2).2).2).2)))
 (cond (decide (r8.1 = (((((((Kiiiiiii_at x1 x6).2).2).2).2).2).2)))
 (some (decide ((0 : Int) < r7.1), ()))
 (some (false, ())))
 (some (false, ())))
 (some (false, ())))
 (some (false, ())))
 (cond (decide (((Kiiiiiii_at x1 x6).1) = 16))
 (cond d10.1
 (cond (decide (r7.1 = 1))
 (cond (decide (r8.1 = (((Kiiiiiii_at x1 x6).2).1)))
 (some (decide (r9.1 = (((Kiiiiiii_at x1 x6).2).1)), ()))
 (some (false, ())))
 (some (false, ())))
 (some (false, ())))
 (cond (decide (((Kiiiiiii_at x1 x6).1) = 17))
 (cond d10.1
 (cond (decide ((0 : Int) < r7.1))
 (cond (decide ((0 : Int) < r8.1))
 (some (decide ((IntKind.wrap .i64 (r7.1 + r8.1)) = (((Kiiiiiii_at x1 x6).2).1)), ()))
 (some (false, ())))
 (some (false, ())))
 (some (false, ())))
 (cond (decide ((0 : Int) ≤ (((((((Kiiiiiii_at x1 x6).2).2).2).2).2).2)))
 (cond (decide ((((((((Kiiiiiii_at x1 x6).2).2).2).2).2).2) ≤ (((((((Kiiiiiii_at x1 x6).2).2).2).2).2).1)))
 (cond (decide ((((((((Kiiiiiii_at x1 x6).2).2).2).2).2).1) < r7.1))
 (some (decide ((((Kiiiiiii_at x1 x6).2).1) = (IntKind.wrap .i64 ((IntKind.wrap .i64 ((((((((Kiiiiiii_at x1 x6).2).2).2).2).2).1) - (((((((Kiiiiiii_at x1 x6).2).2).2).2).2).2))) + 1))), ()))
 (some (false, ())))
 (some (false, ())))
 (some (false, ())))))))))))))))))))
def ref09_fits_s : Sig := ⟨[.c true [.row Kiiiiiii_, .row Ksi_, .row Ksiii_, .row Kisi_, .row Ksi_], .c false [.int .i64]], [], .c false [.bool], []⟩
def ref09_fits_a : Ann := .s .d (.s .d (.s .d (.s .d (.s .d (.j [9, 30, 31, 32, 33, 34, 35, 36, 37] [] [(.normal, ⟨[(9, .c false [.bool])], []⟩)] .d (.s (.s .d (.b (.s .d (.s .d (.j [58, 59, 60] [] [(.normal, ⟨[(58, .c false [.bool])], []⟩)] .d (.s .d (.s .d (.s .d (.j [71, 72, 73] [] [(.normal, ⟨[(71, .c false [.bool])], []⟩)] .d (.s .d (.j [92, 93, 94, 95, 96, 97, 98] [] [(.normal, ⟨[(92, .c false [.bool])], []⟩)] .d (.s .d (.j [112, 113, 114, 115, 116] [] [(.normal, ⟨[(112, .c false [.bool])], []⟩)] .d .d))))))))))))) .d))))))
noncomputable def ref09_fits_c (n : Nat) : Ctr Try.prog := .of Try.func61 n [ref09_wide_c n, ref08_Mask_c n] ref09_fits_a ref09_fits_s (fun d => ref09_fits n d.1 d.2.1 d.2.2.1 d.2.2.2.1 d.2.2.2.2.1 d.2.2.2.2.2.1) fun d => by kernel_rfl
noncomputable def ref09_node (n : Nat) (x1 : List Kiiiiiii) (x2 : List Ksi) (x3 : List Ksiii) (x4 : List Kisi) (x5 : List Ksi) (x6 : Int) : Option (Bool × Unit) :=
 ask (0 ≤ x6 ∧ x6 < (x1.length : Int)) ((ref09_operands n ((Kiiiiiii_at x1 x6).1)).bind (fun r7 => cond (decide ((((Kiiiiiii_at x1 x6).2).1) < 1))
 (some (false, ()))
 (cond (decide ((16 : Int) < (((Kiiiiiii_at x1 x6).2).1)))
 (some (false, ()))
 (cond (decide (r7.1 < 0))
 (some (false, ()))
 (cond (decide (r7.1 < 1))
 (cond (decide (((((Kiiiiiii_at x1 x6).2).2).1) ≠ 0))
 (some (false, ()))
 (cond (decide (r7.1 < 2))
 (cond (decide ((((((Kiiiiiii_at x1 x6).2).2).2).1) ≠ 0))
 (some (false, ()))
 (cond (decide (r7.1 < 3))
 (cond (decide (((((((Kiiiiiii_at x1 x6).2).2).2).2).1) ≠ 0))
 (some (false, ()))
 ((ref09_fits n x1 x2 x3 x4 x5 x6).bind (fun r8 => some (r8.1, ()))))
 ((ref09_fits n x1 x2 x3 x4 x5 x6).bind (fun r9 => some (r9.1, ())))))
 (cond (decide (r7.1 < 3))
 (cond (decide (((((((Kiiiiiii_at x1 x6).2).2).2).2).1) ≠ 0))
 (some (false, ()))
 ((ref09_fits n x1 x2 x3 x4 x5 x6).bind (fun r10 => some (r10.1, ()))))
 ((ref09_fits n x1 x2 x3 x4 x5 x6).bind (fun r11 => some (r11.1, ()))))))
 (cond (decide (r7.1 < 2))
 (cond (decide ((((((Kiiiiiii_at x1 x6).2).2).2).1) ≠ 0))
 (some (false, ()))
 (cond (decide (r7.1 < 3))
 (cond (decide (((((((Kiiiiiii_at x1 x6).2).2).2).2).1) ≠ 0))
 (some (false, ()))
 ((ref09_fits n x1 x2 x3 x4 x5 x6).bind (fun r12 => some (r12.1, ()))))
 ((ref09_fits n x1 x2 x3 x4 x5 x6).bind (fun r13 => some (r13.1, ())))))
 (cond (decide (r7.1 < 3))
 (cond (decide (((((((Kiiiiiii_at x1 x6).2).2).2).2).1) ≠ 0))
 (some (false, ()))
 ((ref09_fits n x1 x2 x3 x4 x5 x6).bind (fun r14 => some (r14.1, ()))))
 ((ref09_fits n x1 x2 x3 x4 x5 x6).bind (fun r15 => some (r15.1, ()))))))))))
def ref09_node_s : Sig := ⟨[.c true [.row Kiiiiiii_, .row Ksi_, .row Ksiii_, .row Kisi_, .row Ksi_], .c false [.int .i64]], [], .c false [.bool], []⟩
def ref09_node_a : Ann := .d
noncomputable def ref09_node_c (n : Nat) : Ctr Try.prog := .of Try.func47 n [ref09_operands_c n, ref09_fits_c n] ref09_node_a ref09_node_s (fun d => ref09_node n d.1 d.2.1 d.2.2.1 d.2.2.2.1 d.2.2.2.2.1 d.2.2.2.2.2.1) fun d => by kernel_rfl
noncomputable def ref09_pins_j1 (n : Nat) (d7 : Int × Int × Int × Unit) (x1 : List Kiiiiiii) (x2 : List Ksi) : Option ((Bool × Unit) ⊕ (Int × Unit)) :=
 ask (0 ≤ d7.2.2.1 ∧ d7.2.2.1 < (x1.length : Int)) (cond (decide (((Kiiiiiii_at x1 d7.2.2.1).1) = 21))
 (cond (decide ((x2.length : Int) ≤ d7.1))
 (some (.inl (false, ())))
 (ask (0 ≤ d7.1 ∧ d7.1 < (x2.length : Int)) (cond (decide (((Ksi_at x2 d7.1).2) ≠ d7.2.2.1))
 (some (.inl (false, ())))
 (some (.inr (IntKind.wrap .i64 (d7.1 + 1), ()))))))
 (some (.inr (d7.1, ()))))
noncomputable def ref09_pins_l2b (n : Nat) (x1 : List Kiiiiiii) (x2 : List Ksi) (x3 : List Ksiii) (self : Int × Int × Int × Unit → Option ((Bool × Unit) ⊕ (Int × Int × Unit))) (d7 : Int × Int × Int × Unit) : Option ((Bool × Unit) ⊕ (Int × Int × Unit)) :=
 cond (decide (d7.2.2.1 < (x1.length : Int)))
 ((ref09_pins_j1 n d7 x1 x2).bind (Sum.elim (fun d8 => some (.inl (d8.1, ()))) (fun d9 => ask (0 ≤ d7.2.2.1 ∧ d7.2.2.1 < (x1.length : Int)) (cond (decide (((Kiiiiiii_at x1 d7.2.2.1).1) = 22))
 (cond (decide ((x3.length : Int) ≤ d7.2.1))
 (some (.inl (false, ())))
 (ask (0 ≤ d7.2.1 ∧ d7.2.1 < (x3.length : Int)) (cond (decide ((((Ksiii_at x3 d7.2.1).2).1) ≠ d7.2.2.1))
 (some (.inl (false, ())))
 (self (d9.1, IntKind.wrap .i64 (d7.2.1 + 1), IntKind.wrap .i64 (d7.2.2.1 + 1), ())))))
 (self (d9.1, d7.2.1, IntKind.wrap .i64 (d7.2.2.1 + 1), ()))))))
 (some (.inr (d7.1, d7.2.1, ())))
noncomputable def ref09_pins_l2 (n : Nat) (x1 : List Kiiiiiii) (x2 : List Ksi) (x3 : List Ksiii) : Int × Int × Int × Unit → Option ((Bool × Unit) ⊕ (Int × Int × Unit)) := iter (ref09_pins_l2b n x1 x2 x3) n
noncomputable def ref09_pins (n : Nat) (x1 : List Kiiiiiii) (x2 : List Ksi) (x3 : List Ksiii) (x4 : List Kisi) (x5 : List Ksi) : Option (Bool × Unit) :=
 (ref09_pins_l2 n x1 x2 x3 (0, 0, 0, ())).bind (Sum.elim (fun d10 => some (d10.1, ())) (fun d11 => cond (decide (d11.1 = (x2.length : Int)))
 (some (decide (d11.2.1 = (x3.length : Int)), ()))
 (some (false, ()))))
def ref09_pins_s : Sig := ⟨[.c true [.row Kiiiiiii_, .row Ksi_, .row Ksiii_, .row Kisi_, .row Ksi_]], [], .c false [.bool], []⟩
def ref09_pins_a : Ann := .s .d (.s .d (.s .d (.s (.s .d (.b (.l [2, 3, 4, 5, 6, 7, 8, 9, 10, 11, 12, 13, 14, 15, 16, 17, 18, 19, 20, 21, 22, 23, 24, 25, 26, 27, 28, 29, 30, 31, 32, 33, 34, 35, 36, 37, 38, 39, 40, 41, 42, 43, 44, 45, 46, 47, 48, 49, 50, 51, 52, 53, 54, 55, 56, 57, 58, 59, 60] [] ⟨[(3, .c false [.int .i64]), (4, .c false [.int .i64]), (5, .c false [.int .i64])], []⟩ [(.ret, ⟨[(2, .c false [.bool])], []⟩), (.exit 0, ⟨[(3, .c false [.int .i64]), (4, .c false [.int .i64])], []⟩)] (.s .d (.s (.b (.j [2, 3, 13, 14, 15, 16, 17, 18, 19, 20, 21, 22, 23, 24, 25, 26, 27, 28, 29, 30, 31, 32, 33, 34, 35, 36] [] [(.ret, ⟨[(2, .c false [.bool])], []⟩), (.normal, ⟨[(3, .c false [.int .i64])], []⟩)] .d .d)) .d))))) .d)))
noncomputable def ref09_pins_c (n : Nat) : Ctr Try.prog := .of Try.func48 n [] ref09_pins_a ref09_pins_s (fun d => ref09_pins n d.1 d.2.1 d.2.2.1 d.2.2.2.1 d.2.2.2.2.1) fun d => by kernel_rfl
noncomputable def ref09_there (n : Nat) (x1 : List Kiiiiiii) (x2 : List Ksi) (x3 : List Ksiii) (x4 : List Kisi) (x5 : List Ksi) (x6 : Int) : Option (Int × Unit) :=
 (ref09_wide n x1 x2 x3 x4 x5 x6 (x1.length : Int)).bind (fun r7 => some (r7.1, ()))
def ref09_there_s : Sig := ⟨[.c true [.row Kiiiiiii_, .row Ksi_, .row Ksiii_, .row Kisi_, .row Ksi_], .c false [.int .i64]], [], .c false [.int .i64], []⟩
def ref09_there_a : Ann := .d
noncomputable def ref09_there_c (n : Nat) : Ctr Try.prog := .of Try.func49 n [ref09_wide_c n] ref09_there_a ref09_there_s (fun d => ref09_there n d.1 d.2.1 d.2.2.1 d.2.2.2.1 d.2.2.2.2.1 d.2.2.2.2.2.1) fun d => by kernel_rfl
noncomputable def ref09_Right_l1b (n : Nat) (x1 : List Kiiiiiii) (x2 : List Ksi) (x3 : List Ksiii) (x4 : List Kisi) (x5 : List Ksi) (self : Int × Unit → Option ((Bool × Unit) ⊕ (Unit))) (d7 : Int × Unit) : Option ((Bool × Unit) ⊕ (Unit)) :=
 cond (decide (d7.1 < (x1.length : Int)))
 ((ref09_node n x1 x2 x3 x4 x5 d7.1).bind (fun r8 => cond (!r8.1)
 (some (.inl (false, ())))
 (self (IntKind.wrap .i64 (d7.1 + 1), ()))))
 (some (.inr ()))
noncomputable def ref09_Right_l1 (n : Nat) (x1 : List Kiiiiiii) (x2 : List Ksi) (x3 : List Ksiii) (x4 : List Kisi) (x5 : List Ksi) : Int × Unit → Option ((Bool × Unit) ⊕ (Unit)) := iter (ref09_Right_l1b n x1 x2 x3 x4 x5) n
noncomputable def ref09_Right_l2b (n : Nat) (x1 : List Kiiiiiii) (x2 : List Ksi) (x3 : List Ksiii) (x4 : List Kisi) (x5 : List Ksi) (self : Int × Int × Unit → Option ((Bool × Unit) ⊕ (Int × Unit))) (d13 : Int × Int × Unit) : Option ((Bool × Unit) ⊕ (Int × Unit)) :=
 cond (decide (d13.2.1 < (x3.length : Int)))
 (ask (0 ≤ d13.2.1 ∧ d13.2.1 < (x3.length : Int)) (ask (0 ≤ (((Ksiii_at x3 d13.2.1).2).1) ∧ ((Ksiii_at x3 d13.2.1).2).1 < (x1.length : Int)) ((ref09_there n x1 x2 x3 x4 x5 ((((Ksiii_at x3 d13.2.1).2).2).1)).bind (fun r14 => cond (decide (r14.1 ≠ (((Kiiiiiii_at x1 (((Ksiii_at x3 d13.2.1).2).1)).2).1)))
 (some (.inl (false, ())))
 (cond (decide (((((Ksiii_at x3 d13.2.1).2).2).2) < 0))
 (some (.inl (false, ())))
 ((ref08_Mask n (((Kiiiiiii_at x1 (((Ksiii_at x3 d13.2.1).2).1)).2).1)).bind (fun r15 => cond (decide (r15.1 < ((((Ksiii_at x3 d13.2.1).2).2).2)))
 (some (.inl (false, ())))
 (self (IntKind.wrap .i64 (d13.1 + (((Kiiiiiii_at x1 (((Ksiii_at x3 d13.2.1).2).1)).2).1)), IntKind.wrap .i64 (d13.2.1 + 1), ())))))))))
 (some (.inr (d13.1, ())))
noncomputable def ref09_Right_l2 (n : Nat) (x1 : List Kiiiiiii) (x2 : List Ksi) (x3 : List Ksiii) (x4 : List Kisi) (x5 : List Ksi) : Int × Int × Unit → Option ((Bool × Unit) ⊕ (Int × Unit)) := iter (ref09_Right_l2b n x1 x2 x3 x4 x5) n
noncomputable def ref09_Right_l3b (n : Nat) (x1 : List Kiiiiiii) (x2 : List Ksi) (x3 : List Ksiii) (x4 : List Kisi) (x5 : List Ksi) (self : Int × Unit → Option ((Bool × Unit) ⊕ (Unit))) (d19 : Int × Unit) : Option ((Bool × Unit) ⊕ (Unit)) :=
 cond (decide (d19.1 < (x4.length : Int)))
 (ask (0 ≤ d19.1 ∧ d19.1 < (x4.length : Int)) (cond (decide (((Kisi_at x4 d19.1).1) < 8))
 (some (.inl (false, ())))
 (cond (decide ((10 : Int) < ((Kisi_at x4 d19.1).1)))
 (some (.inl (false, ())))
 ((ref09_there n x1 x2 x3 x4 x5 (((Kisi_at x4 d19.1).2).2)).bind (fun r20 => cond (decide (r20.1 ≠ 1))
 (some (.inl (false, ())))
 (self (IntKind.wrap .i64 (d19.1 + 1), ())))))))
 (some (.inr ()))
noncomputable def ref09_Right_l3 (n : Nat) (x1 : List Kiiiiiii) (x2 : List Ksi) (x3 : List Ksiii) (x4 : List Kisi) (x5 : List Ksi) : Int × Unit → Option ((Bool × Unit) ⊕ (Unit)) := iter (ref09_Right_l3b n x1 x2 x3 x4 x5) n
noncomputable def ref09_Right_l4b (n : Nat) (x1 : List Kiiiiiii) (x2 : List Ksi) (x3 : List Ksiii) (x4 : List Kisi) (x5 : List Ksi) (self : Int × Unit → Option ((Bool × Unit) ⊕ (Unit))) (d24 : Int × Unit) : Option ((Bool × Unit) ⊕ (Unit)) :=
 cond (decide (d24.1 < (x5.length : Int)))
 (ask (0 ≤ d24.1 ∧ d24.1 < (x5.length : Int)) ((ref09_there n x1 x2 x3 x4 x5 ((Ksi_at x5 d24.1).2)).bind (fun r25 => cond (decide (r25.1 = 0))
 (some (.inl (false, ())))
 (self (IntKind.wrap .i64 (d24.1 + 1), ())))))
 (some (.inr ()))
noncomputable def ref09_Right_l4 (n : Nat) (x1 : List Kiiiiiii) (x2 : List Ksi) (x3 : List Ksiii) (x4 : List Kisi) (x5 : List Ksi) : Int × Unit → Option ((Bool × Unit) ⊕ (Unit)) := iter (ref09_Right_l4b n x1 x2 x3 x4 x5) n
noncomputable def ref09_Right (n : Nat) (x1 : List Kiiiiiii) (x2 : List Ksi) (x3 : List Ksiii) (x4 : List Kisi) (x5 : List Ksi) : Option (Bool × Unit) :=
 cond (decide ((4000 : Int) < (x1.length : Int)))
 (some (false, ()))
 (cond (decide ((64 : Int) < (x2.length : Int)))
 (some (false, ()))
 (cond (decide ((256 : Int) < (x3.length : Int)))
 (some (false, ()))
 (cond (decide ((16 : Int) < (x4.length : Int)))
 (some (false, ()))
 ((ref09_Right_l1 n x1 x2 x3 x4 x5 (0, ())).bind (Sum.elim (fun d9 => some (d9.1, ())) (fun d10 => (ref09_pins n x1 x2 x3 x4 x5).bind (fun r11 => cond (!r11.1)
 (some (false, ()))
 ((ref09_Right_l2 n x1 x2 x3 x4 x5 (0, 0, ())).bind (Sum.elim (fun d16 => some (d16.1, ())) (fun d17 => (ref09_Right_l3 n x1 x2 x3 x4 x5 (0, ())).bind (Sum.elim (fun d21 => some (d21.1, ())) (fun d22 => (ref09_Right_l4 n x1 x2 x3 x4 x5 (0, ())).bind (Sum.elim (fun d26 => some (d26.1, ())) (fun d27 => some (decide (d17.1 ≤ 256), ())))))))))))))))
def ref09_Right_s : Sig := ⟨[.c true [.row Kiiiiiii_, .row Ksi_, .row Ksiii_, .row Kisi_, .row Ksi_]], [], .c false [.bool], []⟩
def ref09_Right_a : Ann := .s .d (.s .d (.s (.s .d (.b (.l [2, 3, 33, 34, 35, 36, 37, 38, 39, 40, 41, 42, 43] [] ⟨[(3, .c false [.int .i64])], []⟩ [(.ret, ⟨[(2, .c false [.bool])], []⟩), (.exit 0, ⟨[], []⟩)] .d))) (.s .d (.s .d (.s (.s .d (.b (.l [2, 4, 5, 6, 7, 47, 48, 49, 50, 51, 52, 53, 54, 55, 56, 57, 58, 59, 60, 61, 62, 63, 64, 65, 66, 67, 68, 69, 70, 71, 72, 73, 74, 75, 76, 77, 78, 79, 80, 81, 82, 83, 84, 85, 86] [] ⟨[(4, .c false [.int .i64]), (5, .c false [.int .i64])], []⟩ [(.ret, ⟨[(2, .c false [.bool])], []⟩), (.exit 2, ⟨[(4, .c false [.int .i64])], []⟩)] .d))) (.s (.s .d (.b (.l [2, 8, 9, 87, 88, 89, 90, 91, 92, 93, 94, 95, 96, 97, 98, 99, 100, 101, 102, 103, 104, 105, 106, 107, 108, 109, 110, 111, 112, 113] [] ⟨[(8, .c false [.int .i64])], []⟩ [(.ret, ⟨[(2, .c false [.bool])], []⟩), (.exit 4, ⟨[], []⟩)] .d))) (.s (.s .d (.b (.l [2, 10, 114, 115, 116, 117, 118, 119, 120, 121, 122, 123, 124, 125, 126, 127, 128, 129] [] ⟨[(10, .c false [.int .i64])], []⟩ [(.ret, ⟨[(2, .c false [.bool])], []⟩), (.exit 6, ⟨[], []⟩)] .d))) .d)))))))
noncomputable def ref09_Right_c (n : Nat) : Ctr Try.prog := .of Try.func28 n [ref09_node_c n, ref09_pins_c n, ref09_there_c n, ref08_Mask_c n] ref09_Right_a ref09_Right_s (fun d => ref09_Right n d.1 d.2.1 d.2.2.1 d.2.2.2.1 d.2.2.2.2.1) fun d => by kernel_rfl
noncomputable def ref12_wide_l1b (n : Nat) (x1 : List Kiiiiiii) (x6 : Int) (self : Int × Int × Unit → Option ((Int × Unit))) (d8 : Int × Int × Unit) : Option ((Int × Unit)) :=
 cond (decide (d8.2.1 < (x1.length : Int)))
 (ask (0 ≤ d8.2.1 ∧ d8.2.1 < (x1.length : Int)) (cond (decide (((Kiiiiiii_at x1 d8.2.1).1) = x6))
 (ask (0 ≤ d8.2.1 ∧ d8.2.1 < (x1.length : Int)) (self (IntKind.wrap .i64 (d8.1 + (((Kiiiiiii_at x1 d8.2.1).2).1)), IntKind.wrap .i64 (d8.2.1 + 1), ())))
 (self (d8.1, IntKind.wrap .i64 (d8.2.1 + 1), ()))))
 (some (d8.1, ()))
noncomputable def ref12_wide_l1 (n : Nat) (x1 : List Kiiiiiii) (x6 : Int) : Int × Int × Unit → Option ((Int × Unit)) := iter (ref12_wide_l1b n x1 x6) n
noncomputable def ref12_wide (n : Nat) (x1 : List Kiiiiiii) (x2 : List Ksi) (x3 : List Ksiii) (x4 : List Kisi) (x5 : List Ksi) (x6 : Int) : Option (Int × Unit) :=
 (ref12_wide_l1 n x1 x6 (0, 0, ())).bind (fun d9 => some (d9.1, ()))
def ref12_wide_s : Sig := ⟨[.c true [.row Kiiiiiii_, .row Ksi_, .row Ksiii_, .row Kisi_, .row Ksi_], .c false [.int .i64]], [], .c false [.int .i64], []⟩
def ref12_wide_a : Ann := .s .d (.s .d (.s (.s .d (.b (.l [5, 6, 7, 8, 9, 10, 11, 12, 13, 14, 15, 16, 17, 18, 19, 20, 21, 22, 23, 24, 25, 26, 27, 28, 29] [] ⟨[(5, .c false [.int .i64]), (6, .c false [.int .i64])], []⟩ [(.exit 0, ⟨[(5, .c false [.int .i64])], []⟩)] .d))) .d))
noncomputable def ref12_wide_c (n : Nat) : Ctr Try.prog := .of Try.func38 n [] ref12_wide_a ref12_wide_s (fun d => ref12_wide n d.1 d.2.1 d.2.2.1 d.2.2.2.1 d.2.2.2.2.1 d.2.2.2.2.2.1) fun d => by kernel_rfl
noncomputable def ref12_Small (n : Nat) (x1 : List Kiiiiiii) (x2 : List Ksi) (x3 : List Ksiii) (x4 : List Kisi) (x5 : List Ksi) : Option (Bool × Unit) :=
 (ref12_wide n x1 x2 x3 x4 x5 22).bind (fun r6 => cond (decide (r6.1 ≤ 12))
 ((ref12_wide n x1 x2 x3 x4 x5 21).bind (fun r7 => some (decide (r7.1 ≤ 8), ())))
 (some (false, ())))
def ref12_Small_s : Sig := ⟨[.c true [.row Kiiiiiii_, .row Ksi_, .row Ksiii_, .row Kisi_, .row Ksi_]], [], .c false [.bool], []⟩
def ref12_Small_a : Ann := .d
noncomputable def ref12_Small_c (n : Nat) : Ctr Try.prog := .of Try.func16 n [ref12_wide_c n] ref12_Small_a ref12_Small_s (fun d => ref12_Small n d.1 d.2.1 d.2.2.1 d.2.2.2.1 d.2.2.2.2.1) fun d => by kernel_rfl
noncomputable def law12_Great_j1 (n : Nat) (d9 : Int × Int × Unit) (x1 : List Kiiiiiii) : Option ((Bool × Unit)) :=
 ask (0 ≤ d9.2.1 ∧ d9.2.1 < (x1.length : Int)) (cond (decide (((Kiiiiiii_at x1 d9.2.1).1) = 21))
 (some (true, ()))
 (ask (0 ≤ d9.2.1 ∧ d9.2.1 < (x1.length : Int)) (some (decide (((Kiiiiiii_at x1 d9.2.1).1) = 22), ()))))
noncomputable def law12_Great_l2b (n : Nat) (x1 : List Kiiiiiii) (self : Int × Int × Unit → Option ((Int × Unit))) (d9 : Int × Int × Unit) : Option ((Int × Unit)) :=
 cond (decide (d9.2.1 < (x1.length : Int)))
 ((law12_Great_j1 n d9 x1).bind (fun d10 => cond d10.1
 (ask (0 ≤ d9.2.1 ∧ d9.2.1 < (x1.length : Int)) (self (IntKind.wrap .i64 (d9.1 + (((Kiiiiiii_at x1 d9.2.1).2).1)), IntKind.wrap .i64 (d9.2.1 + 1), ())))
 (self (d9.1, IntKind.wrap .i64 (d9.2.1 + 1), ()))))
 (some (d9.1, ()))
noncomputable def law12_Great_l2 (n : Nat) (x1 : List Kiiiiiii) : Int × Int × Unit → Option ((Int × Unit)) := iter (law12_Great_l2b n x1) n
noncomputable def law12_Great (n : Nat) (x1 : List Kiiiiiii) (x2 : List Ksi) (x3 : List Ksiii) (x4 : List Kisi) (x5 : List Ksi) : Option (Bool × Unit) :=
 (law09_Great n x1 x2 x3 x4 x5).bind (fun r6 => cond r6.1
 (some (true, ()))
 ((ref09_Right n x1 x2 x3 x4 x5).bind (fun r7 => cond (!r7.1)
 (some (true, ()))
 (cond (decide ((60 : Int) < (x1.length : Int)))
 (some (true, ()))
 ((law12_Great_l2 n x1 (0, 0, ())).bind (fun d11 => cond (decide ((11 : Int) < d11.1))
 ((ref12_Small n x1 x2 x3 x4 x5).bind (fun r12 => some (r12.1, ())))
 (some (false, ()))))))))
def law12_Great_s : Sig := ⟨[.c true [.row Kiiiiiii_, .row Ksi_, .row Ksiii_, .row Kisi_, .row Ksi_]], [], .c false [.bool], []⟩
def law12_Great_a : Ann := .s .d (.s .d (.s .d (.s (.s .d (.b (.l [3, 4, 18, 19, 20, 21, 22, 23, 24, 25, 26, 27, 28, 29, 30, 31, 32, 33, 34, 35, 36, 37, 38, 39, 40, 41, 42, 43, 44, 45, 46, 47, 48] [] ⟨[(3, .c false [.int .i64]), (4, .c false [.int .i64])], []⟩ [(.exit 0, ⟨[(3, .c false [.int .i64])], []⟩)] (.s .d (.s (.b (.j [25, 26, 27, 28, 29, 30, 31, 32, 33, 34, 35, 36, 37, 38, 39, 40] [] [(.normal, ⟨[(40, .c false [.bool])], []⟩)] .d .d)) .d))))) .d)))
noncomputable def law12_Great_c (n : Nat) : Ctr Try.prog := .of Try.func10 n [law09_Great_c n, ref09_Right_c n, ref12_Small_c n] law12_Great_a law12_Great_s (fun d => law12_Great n d.1 d.2.1 d.2.2.1 d.2.2.2.1 d.2.2.2.2.1) fun d => by kernel_rfl
noncomputable def ref09_First_l1b (n : Nat) (x3 : List Ksiii) (self : Int × List Int × Unit → Option ((List Int × Unit))) (d7 : Int × List Int × Unit) : Option ((List Int × Unit)) :=
 cond (decide (d7.1 < (x3.length : Int)))
 (ask (0 ≤ d7.1 ∧ d7.1 < (x3.length : Int)) (ask (True ∧ (d7.2.1.length + (([(((Ksiii_at x3 d7.1).2).2).2] : List Int)).length) * 8 ≤ 140737488355328) (self (IntKind.wrap .i64 (d7.1 + 1), d7.2.1 ++ ([(((Ksiii_at x3 d7.1).2).2).2] : List Int), ()))))
 (some (d7.2.1, ()))
noncomputable def ref09_First_l1 (n : Nat) (x3 : List Ksiii) : Int × List Int × Unit → Option ((List Int × Unit)) := iter (ref09_First_l1b n x3) n
noncomputable def ref09_First (n : Nat) (x1 : List Kiiiiiii) (x2 : List Ksi) (x3 : List Ksiii) (x4 : List Kisi) (x5 : List Ksi) : Option (List Int × Unit) :=
 (ref09_First_l1 n x3 (0, ([] : List Int), ())).bind (fun d8 => some (d8.1, ()))
def ref09_First_s : Sig := ⟨[.c true [.row Kiiiiiii_, .row Ksi_, .row Ksiii_, .row Kisi_, .row Ksi_]], [], .c false [.row i_], []⟩
def ref09_First_a : Ann := .s .d (.s .d (.s (.s .d (.b (.l [3, 4, 5, 6, 7, 8, 9, 10, 11, 12, 13, 14, 15, 16, 17, 18, 19, 20] [] ⟨[(3, .c false [.con (.own 100000 1)]), (4, .c false [.int .i64])], [(100000, .row 3 i_)]⟩ [(.exit 0, ⟨[(3, .c false [.con (.own 100000 1)])], [(100000, .row 3 i_)]⟩)] .d))) .d))
noncomputable def ref09_First_c (n : Nat) : Ctr Try.prog := .of Try.func54 n [] ref09_First_a ref09_First_s (fun d => ref09_First n d.1 d.2.1 d.2.2.1 d.2.2.2.1 d.2.2.2.2.1) fun d => by kernel_rfl
noncomputable def ref12_Rows_l1b (n : Nat) (d8 : Int × List (List Int) × Unit) (d10 : Int × List (List Int) × Unit) (x1 : List Kiiiiiii) (x2 : List Ksi) (self : Int × List (List Int) × Unit → Option ((List (List Int) × Unit))) (d13 : Int × List (List Int) × Unit) : Option ((List (List Int) × Unit)) :=
 ask (0 ≤ d8.1 ∧ d8.1 < (x2.length : Int)) (ask (0 ≤ ((Ksi_at x2 d8.1).2) ∧ (Ksi_at x2 d8.1).2 < (x1.length : Int)) ((ref08_Mask n (((Kiiiiiii_at x1 ((Ksi_at x2 d8.1).2)).2).1)).bind (fun r14 => cond (decide (d13.1 ≤ r14.1))
 (ask (0 ≤ d10.1 ∧ d10.1 < (d8.2.1.length : Int)) (ask (True ∧ ((([] : List Int)).length + (KLi_at d8.2.1 d10.1).length) * 8 ≤ 140737488355328) (ask (True ∧ ((([] : List Int) ++ (KLi_at d8.2.1 d10.1)).length + (([d13.1] : List Int)).length) * 8 ≤ 140737488355328) (ask (True ∧ (d13.2.1.length + (([(([] : List Int) ++ (KLi_at d8.2.1 d10.1)) ++ ([d13.1] : List Int)] : List (List Int))).length) * 24 ≤ 140737488355328) (self (IntKind.wrap .i64 (d13.1 + 1), d13.2.1 ++ ([(([] : List Int) ++ (KLi_at d8.2.1 d10.1)) ++ ([d13.1] : List Int)] : List (List Int)), ()))))))
 (some (d13.2.1, ())))))
noncomputable def ref12_Rows_l1 (n : Nat) (d8 : Int × List (List Int) × Unit) (d10 : Int × List (List Int) × Unit) (x1 : List Kiiiiiii) (x2 : List Ksi) : Int × List (List Int) × Unit → Option ((List (List Int) × Unit)) := iter (ref12_Rows_l1b n d8 d10 x1 x2) n
noncomputable def ref12_Rows_l2b (n : Nat) (d8 : Int × List (List Int) × Unit) (x1 : List Kiiiiiii) (x2 : List Ksi) (self : Int × List (List Int) × Unit → Option ((List (List Int) × Unit))) (d10 : Int × List (List Int) × Unit) : Option ((List (List Int) × Unit)) :=
 cond (decide (d10.1 < (d8.2.1.length : Int)))
 ((ref12_Rows_l1 n d8 d10 x1 x2 (0, d10.2.1, ())).bind (fun d15 => self (IntKind.wrap .i64 (d10.1 + 1), d15.1, ())))
 (some (d10.2.1, ()))
noncomputable def ref12_Rows_l2 (n : Nat) (d8 : Int × List (List Int) × Unit) (x1 : List Kiiiiiii) (x2 : List Ksi) : Int × List (List Int) × Unit → Option ((List (List Int) × Unit)) := iter (ref12_Rows_l2b n d8 x1 x2) n
noncomputable def ref12_Rows_l3b (n : Nat) (x1 : List Kiiiiiii) (x2 : List Ksi) (self : Int × List (List Int) × Unit → Option ((List (List Int) × Unit))) (d8 : Int × List (List Int) × Unit) : Option ((List (List Int) × Unit)) :=
 cond (decide (d8.1 < (x2.length : Int)))
 ((ref12_Rows_l2 n d8 x1 x2 (0, ([] : List (List Int)), ())).bind (fun d16 => self (IntKind.wrap .i64 (d8.1 + 1), d16.1, ())))
 (some (d8.2.1, ()))
noncomputable def ref12_Rows_l3 (n : Nat) (x1 : List Kiiiiiii) (x2 : List Ksi) : Int × List (List Int) × Unit → Option ((List (List Int) × Unit)) := iter (ref12_Rows_l3b n x1 x2) n
noncomputable def ref12_Rows (n : Nat) (x1 : List Kiiiiiii) (x2 : List Ksi) (x3 : List Ksiii) (x4 : List Kisi) (x5 : List Ksi) : Option (List (List Int) × Unit) :=
 (ref12_Rows_l3 n x1 x2 (0, ([([] : List Int)] : List (List Int)), ())).bind (fun d17 => some (d17.1, ()))
def ref12_Rows_s : Sig := ⟨[.c true [.row Kiiiiiii_, .row Ksi_, .row Ksiii_, .row Kisi_, .row Ksi_]], [], .c false [.row KLi_], []⟩
def ref12_Rows_a : Ann := .s .d (.s .d (.s (.s .d (.b (.l [3, 4, 5, 6, 7, 8, 9, 10, 11, 12, 13, 14, 15, 16, 17, 18, 19, 20, 21, 22, 23, 24, 25, 26, 27, 28, 29, 30, 31, 32, 33, 34, 35, 36, 37, 38, 39, 40, 41, 42, 43, 44, 45, 46, 47, 48, 49, 50] [101] ⟨[(3, .c false [.con (.own 101 1)]), (4, .c false [.int .i64])], [(101, .row 59 KLi_)]⟩ [(.exit 0, ⟨[(3, .c false [.con (.own 101 1)])], [(101, .row 59 KLi_)]⟩)] (.s .d (.s (.b (.s .d (.s (.s .d (.b (.l [5, 6, 7, 16, 17, 18, 19, 20, 21, 22, 23, 24, 25, 26, 27, 28, 29, 30, 31, 32, 33, 34, 35, 36, 37, 38, 39, 40, 41, 42, 43, 44, 45, 46, 47, 48, 49] [] ⟨[(5, .c false [.con (.own 100000 1)]), (6, .c false [.int .i64])], [(100000, .row 59 KLi_)]⟩ [(.exit 2, ⟨[(5, .c false [.con (.own 100000 1)])], [(100000, .row 59 KLi_)]⟩)] (.s .d (.s (.b (.s .d (.b (.l [5, 7, 22, 23, 24, 25, 26, 27, 28, 29, 30, 31, 32, 33, 34, 35, 36, 37, 38, 39, 40, 41, 42, 43, 44, 45, 46, 47, 48, 49] [100000] ⟨[(5, .c false [.con (.own 100000 1)]), (7, .c false [.int .i64])], [(100000, .row 59 KLi_)]⟩ [(.exit 4, ⟨[(5, .c false [.con (.own 100000 1)])], [(100000, .row 59 KLi_)]⟩)] .d)))) .d))))) .d))) .d))))) .d))
noncomputable def ref12_Rows_c (n : Nat) : Ctr Try.prog := .of Try.func33 n [ref08_Mask_c n] ref12_Rows_a ref12_Rows_s (fun d => ref12_Rows n d.1 d.2.1 d.2.2.1 d.2.2.2.1 d.2.2.2.2.1) fun d => by kernel_rfl
noncomputable def ref08_one (n : Nat) (x1 : Bool) : Option (Int × Unit) :=
 cond x1
 (some (1, ()))
 (some (0, ()))
def ref08_one_s : Sig := ⟨[.c false [.bool]], [], .c false [.int .i64], []⟩
def ref08_one_a : Ann := .d
noncomputable def ref08_one_c (n : Nat) : Ctr Try.prog := .of Try.func66 n [] ref08_one_a ref08_one_s (fun d => ref08_one n d.1) fun d => by kernel_rfl
noncomputable def ref08_more (n : Nat) (x1 : Int) (x2 : Int) (x3 : Int) (x4 : Int) (x5 : Int) (x6 : Int) (x7 : Int) (x8 : Int) (x9 : Int) (x10 : Int) (x11 : Int) : Option (Int × Unit) :=
 cond (decide (x1 = 12))
 ((ref08_one n (decide (x8 = x9))).bind (fun r12 => some (r12.1, ())))
 (cond (decide (x1 = 13))
 ((ref08_one n (decide (x8 ≠ x9))).bind (fun r13 => some (r13.1, ())))
 (cond (decide (x1 = 14))
 ((ref08_one n (decide (x8 < x9))).bind (fun r14 => some (r14.1, ())))
 (cond (decide (x1 = 15))
 ((ref08_one n (decide (x8 ≤ x9))).bind (fun r15 => some (r15.1, ())))
 (cond (decide (x1 = 16))
 (cond (decide (x8 = 1))
 (some (x9, ()))
 (some (x10, ())))
 (cond (decide (x1 = 17))
 (ask (0 ≤ x11) (some (IntKind.wrap .i64 ((shlI .i64 x8 x11) + x9), ())))
 (cond (decide (x1 = 18))
 (ask (0 ≤ x7) ((ref08_Mask n (IntKind.wrap .i64 ((IntKind.wrap .i64 (x6 - x7)) + 1))).bind (fun r16 => some (bits .and .i64 (shrI .i64 x8 x7) r16.1, ()))))
 (some (0, ()))))))))
def ref08_more_s : Sig := ⟨[.c true [.int .i64, .int .i64, .int .i64, .int .i64, .int .i64, .int .i64, .int .i64], .c false [.int .i64], .c false [.int .i64], .c false [.int .i64], .c false [.int .i64]], [], .c false [.int .i64], []⟩
def ref08_more_a : Ann := .d
noncomputable def ref08_more_c (n : Nat) : Ctr Try.prog := .of Try.func67 n [ref08_one_c n, ref08_Mask_c n] ref08_more_a ref08_more_s (fun d => ref08_more n d.1 d.2.1 d.2.2.1 d.2.2.2.1 d.2.2.2.2.1 d.2.2.2.2.2.1 d.2.2.2.2.2.2.1 d.2.2.2.2.2.2.2.1 d.2.2.2.2.2.2.2.2.1 d.2.2.2.2.2.2.2.2.2.1 d.2.2.2.2.2.2.2.2.2.2.1) fun d => by kernel_rfl
noncomputable def ref08_Do (n : Nat) (x1 : Int) (x2 : Int) (x3 : Int) (x4 : Int) (x5 : Int) (x6 : Int) (x7 : Int) (x8 : Int) (x9 : Int) (x10 : Int) (x11 : Int) : Option (Int × Unit) :=
 cond (decide (x1 = 1))
 (some (x6, ()))
 (cond (decide (x1 = 3))
 ((ref08_Mask n x2).bind (fun r12 => some (IntKind.wrap .i64 (r12.1 - x8), ())))
 (cond (decide (x1 = 4))
 ((ref08_one n (decide (x8 ≠ 0))).bind (fun r13 => some (r13.1, ())))
 (cond (decide (x1 = 5))
 ((ref08_Mask n x7).bind (fun r14 => (ref08_one n (decide (x8 = r14.1))).bind (fun r15 => some (r15.1, ()))))
 (cond (decide (x1 = 6))
 (some (bits .and .i64 x8 x9, ()))
 (cond (decide (x1 = 7))
 (some (bits .or .i64 x8 x9, ()))
 (cond (decide (x1 = 8))
 (some (bits .xor .i64 x8 x9, ()))
 (cond (decide (x1 = 9))
 ((ref08_Mask n x2).bind (fun r16 => some (bits .and .i64 (IntKind.wrap .i64 (x8 + x9)) r16.1, ())))
 (cond (decide (x1 = 10))
 ((ref08_Mask n x2).bind (fun r17 => some (bits .and .i64 (IntKind.wrap .i64 (x8 - x9)) r17.1, ())))
 (cond (decide (x1 = 11))
 ((ref08_Mask n x2).bind (fun r18 => some (bits .and .i64 (IntKind.wrap .i64 (x8 * x9)) r18.1, ())))
 ((ref08_more n x1 x2 x3 x4 x5 x6 x7 x8 x9 x10 x11).bind (fun r19 => some (r19.1, ()))))))))))))
def ref08_Do_s : Sig := ⟨[.c true [.int .i64, .int .i64, .int .i64, .int .i64, .int .i64, .int .i64, .int .i64], .c false [.int .i64], .c false [.int .i64], .c false [.int .i64], .c false [.int .i64]], [], .c false [.int .i64], []⟩
def ref08_Do_a : Ann := .d
noncomputable def ref08_Do_c (n : Nat) : Ctr Try.prog := .of Try.func57 n [ref08_Mask_c n, ref08_one_c n, ref08_more_c n] ref08_Do_a ref08_Do_s (fun d => ref08_Do n d.1 d.2.1 d.2.2.1 d.2.2.2.1 d.2.2.2.2.1 d.2.2.2.2.2.1 d.2.2.2.2.2.2.1 d.2.2.2.2.2.2.2.1 d.2.2.2.2.2.2.2.2.1 d.2.2.2.2.2.2.2.2.2.1 d.2.2.2.2.2.2.2.2.2.2.1) fun d => by kernel_rfl
noncomputable def ref09_Eval_l1b (n : Nat) (x1 : List Kiiiiiii) (x6 : List Int) (x7 : List Int) (self : Int × Int × Int × List Int × Unit → Option ((List Int × Unit))) (d9 : Int × Int × Int × List Int × Unit) : Option ((List Int × Unit)) :=
 cond (decide (d9.2.2.1 < (x1.length : Int)))
 (ask (0 ≤ d9.2.2.1 ∧ d9.2.2.1 < (x1.length : Int)) (cond (decide (((Kiiiiiii_at x1 d9.2.2.1).1) = 21))
 (ask (0 ≤ d9.1 ∧ d9.1 < (x7.length : Int)) (ask (True ∧ (d9.2.2.2.1.length + (([Ki_at x7 d9.1] : List Int)).length) * 8 ≤ 140737488355328) (self (IntKind.wrap .i64 (d9.1 + 1), d9.2.1, IntKind.wrap .i64 (d9.2.2.1 + 1), d9.2.2.2.1 ++ ([Ki_at x7 d9.1] : List Int), ()))))
 (cond (decide (((Kiiiiiii_at x1 d9.2.2.1).1) = 22))
 (ask (0 ≤ d9.2.1 ∧ d9.2.1 < (x6.length : Int)) (ask (True ∧ (d9.2.2.2.1.length + (([Ki_at x6 d9.2.1] : List Int)).length) * 8 ≤ 140737488355328) (self (d9.1, IntKind.wrap .i64 (d9.2.1 + 1), IntKind.wrap .i64 (d9.2.2.1 + 1), d9.2.2.2.1 ++ ([Ki_at x6 d9.2.1] : List Int), ()))))
 (cond (decide (((Kiiiiiii_at x1 d9.2.2.1).1) = 1))
 (ask (True ∧ (d9.2.2.2.1.length + (([((((((Kiiiiiii_at x1 d9.2.2.1).2).2).2).2).2).1] : List Int)).length) * 8 ≤ 140737488355328) (self (d9.1, d9.2.1, IntKind.wrap .i64 (d9.2.2.1 + 1), d9.2.2.2.1 ++ ([((((((Kiiiiiii_at x1 d9.2.2.1).2).2).2).2).2).1] : List Int), ())))
 (ask (0 ≤ ((((Kiiiiiii_at x1 d9.2.2.1).2).2).1) ∧ (((Kiiiiiii_at x1 d9.2.2.1).2).2).1 < (d9.2.2.2.1.length : Int)) (ask (0 ≤ (((((Kiiiiiii_at x1 d9.2.2.1).2).2).2).1) ∧ ((((Kiiiiiii_at x1 d9.2.2.1).2).2).2).1 < (d9.2.2.2.1.length : Int)) (ask (0 ≤ ((((((Kiiiiiii_at x1 d9.2.2.1).2).2).2).2).1) ∧ (((((Kiiiiiii_at x1 d9.2.2.1).2).2).2).2).1 < (d9.2.2.2.1.length : Int)) (ask (0 ≤ (((((Kiiiiiii_at x1 d9.2.2.1).2).2).2).1) ∧ ((((Kiiiiiii_at x1 d9.2.2.1).2).2).2).1 < (x1.length : Int)) ((ref08_Do n ((Kiiiiiii_at x1 d9.2.2.1).1) (((Kiiiiiii_at x1 d9.2.2.1).2).1) ((((Kiiiiiii_at x1 d9.2.2.1).2).2).1) (((((Kiiiiiii_at x1 d9.2.2.1).2).2).2).1) ((((((Kiiiiiii_at x1 d9.2.2.1).2).2).2).2).1) (((((((Kiiiiiii_at x1 d9.2.2.1).2).2).2).2).2).1) (((((((Kiiiiiii_at x1 d9.2.2.1).2).2).2).2).2).2) (Ki_at d9.2.2.2.1 ((((Kiiiiiii_at x1 d9.2.2.1).2).2).1)) (Ki_at d9.2.2.2.1 (((((Kiiiiiii_at x1 d9.2.2.1).2).2).2).1)) (Ki_at d9.2.2.2.1 ((((((Kiiiiiii_at x1 d9.2.2.1).2).2).2).2).1)) (((Kiiiiiii_at x1 (((((Kiiiiiii_at x1 d9.2.2.1).2).2).2).1)).2).1)).bind (fun r10 => ask (True ∧ (d9.2.2.2.1.length + (([r10.1] : List Int)).length) * 8 ≤ 140737488355328) (self (d9.1, d9.2.1, IntKind.wrap .i64 (d9.2.2.1 + 1), d9.2.2.2.1 ++ ([r10.1] : List Int), ()))))))))))))
 (some (d9.2.2.2.1, ()))
noncomputable def ref09_Eval_l1 (n : Nat) (x1 : List Kiiiiiii) (x6 : List Int) (x7 : List Int) : Int × Int × Int × List Int × Unit → Option ((List Int × Unit)) := iter (ref09_Eval_l1b n x1 x6 x7) n
noncomputable def ref09_Eval (n : Nat) (x1 : List Kiiiiiii) (x2 : List Ksi) (x3 : List Ksiii) (x4 : List Kisi) (x5 : List Ksi) (x6 : List Int) (x7 : List Int) : Option (List Int × Unit) :=
 (ref09_Eval_l1 n x1 x6 x7 (0, 0, 0, ([] : List Int), ())).bind (fun d11 => some (d11.1, ()))
def ref09_Eval_s : Sig := ⟨[.c true [.row Kiiiiiii_, .row Ksi_, .row Ksiii_, .row Kisi_, .row Ksi_], .c false [.row i_], .c false [.row i_]], [], .c false [.row i_], []⟩
def ref09_Eval_a : Ann := .s .d (.s .d (.s .d (.s .d (.s (.s .d (.b (.l [7, 8, 9, 10, 11, 12, 13, 14, 15, 16, 17, 18, 19, 20, 21, 22, 23, 24, 25, 26, 27, 28, 29, 30, 31, 32, 33, 34, 35, 36, 37, 38, 39, 40, 41, 42, 43, 44, 45, 46, 47, 48, 49, 50, 51, 52, 53, 54, 55, 56, 57, 58, 59, 60, 61, 62, 63, 64, 65, 66, 67, 68, 69, 70, 71, 72, 73, 74, 75, 76, 77, 78, 79, 80, 81] [] ⟨[(7, .c false [.con (.own 100000 1)]), (8, .c false [.int .i64]), (9, .c false [.int .i64]), (10, .c false [.int .i64])], [(100000, .row 3 i_)]⟩ [(.exit 0, ⟨[(7, .c false [.con (.own 100000 1)])], [(100000, .row 3 i_)]⟩)] .d))) .d))))
noncomputable def ref09_Eval_c (n : Nat) : Ctr Try.prog := .of Try.func35 n [ref08_Do_c n] ref09_Eval_a ref09_Eval_s (fun d => ref09_Eval n d.1 d.2.1 d.2.2.1 d.2.2.2.1 d.2.2.2.2.1 d.2.2.2.2.2.1 d.2.2.2.2.2.2.1) fun d => by kernel_rfl
noncomputable def ref09_After_l1b (n : Nat) (r8 : List Int × Unit) (x3 : List Ksiii) (self : Int × List Int × Unit → Option ((List Int × Unit))) (d10 : Int × List Int × Unit) : Option ((List Int × Unit)) :=
 cond (decide (d10.1 < (x3.length : Int)))
 (ask (0 ≤ d10.1 ∧ d10.1 < (x3.length : Int)) (ask (0 ≤ ((((Ksiii_at x3 d10.1).2).2).1) ∧ (((Ksiii_at x3 d10.1).2).2).1 < (r8.1.length : Int)) (ask (True ∧ (d10.2.1.length + (([Ki_at r8.1 ((((Ksiii_at x3 d10.1).2).2).1)] : List Int)).length) * 8 ≤ 140737488355328) (self (IntKind.wrap .i64 (d10.1 + 1), d10.2.1 ++ ([Ki_at r8.1 ((((Ksiii_at x3 d10.1).2).2).1)] : List Int), ())))))
 (some (d10.2.1, ()))
noncomputable def ref09_After_l1 (n : Nat) (r8 : List Int × Unit) (x3 : List Ksiii) : Int × List Int × Unit → Option ((List Int × Unit)) := iter (ref09_After_l1b n r8 x3) n
noncomputable def ref09_After (n : Nat) (x1 : List Kiiiiiii) (x2 : List Ksi) (x3 : List Ksiii) (x4 : List Kisi) (x5 : List Ksi) (x6 : List Int) (x7 : List Int) : Option (List Int × Unit) :=
 (ref09_Eval n x1 x2 x3 x4 x5 x6 x7).bind (fun r8 => (ref09_After_l1 n r8 x3 (0, ([] : List Int), ())).bind (fun d11 => some (d11.1, ())))
def ref09_After_s : Sig := ⟨[.c true [.row Kiiiiiii_, .row Ksi_, .row Ksiii_, .row Kisi_, .row Ksi_], .c false [.row i_], .c false [.row i_]], [], .c false [.row i_], []⟩
def ref09_After_a : Ann := .s .d (.s .d (.s .d (.s (.s .d (.b (.l [8, 9, 14, 15, 16, 17, 18, 19, 20, 21, 22, 23, 24, 25, 26, 27, 28, 29, 30, 31, 32] [] ⟨[(8, .c false [.con (.own 100000 1)]), (9, .c false [.int .i64])], [(100000, .row 3 i_)]⟩ [(.exit 0, ⟨[(8, .c false [.con (.own 100000 1)])], [(100000, .row 3 i_)]⟩)] .d))) .d)))
noncomputable def ref09_After_c (n : Nat) : Ctr Try.prog := .of Try.func55 n [ref09_Eval_c n] ref09_After_a ref09_After_s (fun d => ref09_After n d.1 d.2.1 d.2.2.1 d.2.2.2.1 d.2.2.2.2.1 d.2.2.2.2.2.1 d.2.2.2.2.2.2.1) fun d => by kernel_rfl
noncomputable def ref11_Props_l1b (n : Nat) (x4 : List Kisi) (x6 : List Int) (self : Int × List Bool × Unit → Option ((List Bool × Unit))) (d8 : Int × List Bool × Unit) : Option ((List Bool × Unit)) :=
 cond (decide (d8.1 < (x4.length : Int)))
 (ask (0 ≤ d8.1 ∧ d8.1 < (x4.length : Int)) (ask (0 ≤ (((Kisi_at x4 d8.1).2).2) ∧ ((Kisi_at x4 d8.1).2).2 < (x6.length : Int)) (ask (True ∧ (d8.2.1.length + (([decide ((Ki_at x6 (((Kisi_at x4 d8.1).2).2)) = 1)] : List Bool)).length) * 1 ≤ 140737488355328) (self (IntKind.wrap .i64 (d8.1 + 1), d8.2.1 ++ ([decide ((Ki_at x6 (((Kisi_at x4 d8.1).2).2)) = 1)] : List Bool), ())))))
 (some (d8.2.1, ()))
noncomputable def ref11_Props_l1 (n : Nat) (x4 : List Kisi) (x6 : List Int) : Int × List Bool × Unit → Option ((List Bool × Unit)) := iter (ref11_Props_l1b n x4 x6) n
noncomputable def ref11_Props (n : Nat) (x1 : List Kiiiiiii) (x2 : List Ksi) (x3 : List Ksiii) (x4 : List Kisi) (x5 : List Ksi) (x6 : List Int) : Option (List Bool × Unit) :=
 (ref11_Props_l1 n x4 x6 (0, ([] : List Bool), ())).bind (fun d9 => some (d9.1, ()))
def ref11_Props_s : Sig := ⟨[.c true [.row Kiiiiiii_, .row Ksi_, .row Ksiii_, .row Kisi_, .row Ksi_], .c false [.row i_]], [], .c false [.row b_], []⟩
def ref11_Props_a : Ann := .s .d (.s .d (.s (.s .d (.b (.l [5, 6, 7, 8, 9, 10, 11, 12, 13, 14, 15, 16, 17, 18, 19, 20, 21, 22, 23, 24, 25, 26] [] ⟨[(5, .c false [.con (.own 100000 1)]), (6, .c false [.int .i64])], [(100000, .row 4 b_)]⟩ [(.exit 0, ⟨[(5, .c false [.con (.own 100000 1)])], [(100000, .row 4 b_)]⟩)] .d))) .d))
noncomputable def ref11_Props_c (n : Nat) : Ctr Try.prog := .of Try.func34 n [] ref11_Props_a ref11_Props_s (fun d => ref11_Props n d.1 d.2.1 d.2.2.1 d.2.2.2.1 d.2.2.2.2.1 d.2.2.2.2.2.1) fun d => by kernel_rfl
noncomputable def ref11_Legal_l1b (n : Nat) (x4 : List Kisi) (x6 : List Bool) (self : Int × Unit → Option ((Bool × Unit) ⊕ (Unit))) (d8 : Int × Unit) : Option ((Bool × Unit) ⊕ (Unit)) :=
 cond (decide (d8.1 < (x4.length : Int)))
 (ask (0 ≤ d8.1 ∧ d8.1 < (x4.length : Int)) (cond (decide (((Kisi_at x4 d8.1).1) = 9))
 (ask (0 ≤ d8.1 ∧ d8.1 < (x6.length : Int)) (cond (!(Kb_at x6 d8.1))
 (some (.inl (false, ())))
 (self (IntKind.wrap .i64 (d8.1 + 1), ()))))
 (self (IntKind.wrap .i64 (d8.1 + 1), ()))))
 (some (.inr ()))
noncomputable def ref11_Legal_l1 (n : Nat) (x4 : List Kisi) (x6 : List Bool) : Int × Unit → Option ((Bool × Unit) ⊕ (Unit)) := iter (ref11_Legal_l1b n x4 x6) n
noncomputable def ref11_Legal (n : Nat) (x1 : List Kiiiiiii) (x2 : List Ksi) (x3 : List Ksiii) (x4 : List Kisi) (x5 : List Ksi) (x6 : List Bool) : Option (Bool × Unit) :=
 (ref11_Legal_l1 n x4 x6 (0, ())).bind (Sum.elim (fun d9 => some (d9.1, ())) (fun d10 => some (true, ())))
def ref11_Legal_s : Sig := ⟨[.c true [.row Kiiiiiii_, .row Ksi_, .row Ksiii_, .row Kisi_, .row Ksi_], .c false [.row b_]], [], .c false [.bool], []⟩
def ref11_Legal_a : Ann := .s .d (.s (.s .d (.b (.l [4, 5, 6, 7, 8, 9, 10, 11, 12, 13, 14, 15, 16, 17, 18, 19, 20, 21, 22, 23, 24, 25, 26] [] ⟨[(5, .c false [.int .i64])], []⟩ [(.ret, ⟨[(4, .c false [.bool])], []⟩), (.exit 0, ⟨[], []⟩)] .d))) .d)
noncomputable def ref11_Legal_c (n : Nat) : Ctr Try.prog := .of Try.func24 n [] ref11_Legal_a ref11_Legal_s (fun d => ref11_Legal n d.1 d.2.1 d.2.2.1 d.2.2.2.1 d.2.2.2.2.1 d.2.2.2.2.2.1) fun d => by kernel_rfl
noncomputable def ref12_same_l1b (n : Nat) (x1 : List Int) (x2 : List Int) (self : Int × Unit → Option ((Bool × Unit) ⊕ (Unit))) (d4 : Int × Unit) : Option ((Bool × Unit) ⊕ (Unit)) :=
 cond (decide (d4.1 < (x1.length : Int)))
 (ask (0 ≤ d4.1 ∧ d4.1 < (x1.length : Int)) (ask (0 ≤ d4.1 ∧ d4.1 < (x2.length : Int)) (cond (decide ((Ki_at x1 d4.1) ≠ (Ki_at x2 d4.1)))
 (some (.inl (false, ())))
 (self (IntKind.wrap .i64 (d4.1 + 1), ())))))
 (some (.inr ()))
noncomputable def ref12_same_l1 (n : Nat) (x1 : List Int) (x2 : List Int) : Int × Unit → Option ((Bool × Unit) ⊕ (Unit)) := iter (ref12_same_l1b n x1 x2) n
noncomputable def ref12_same (n : Nat) (x1 : List Int) (x2 : List Int) : Option (Bool × Unit) :=
 (ref12_same_l1 n x1 x2 (0, ())).bind (Sum.elim (fun d5 => some (d5.1, ())) (fun d6 => some (decide ((x1.length : Int) = (x2.length : Int)), ())))
def ref12_same_s : Sig := ⟨[.c false [.row i_], .c false [.row i_]], [], .c false [.bool], []⟩
def ref12_same_a : Ann := .s .d (.s (.s .d (.b (.l [4, 5, 6, 7, 8, 9, 10, 11, 12, 13, 14, 15, 16, 17, 18, 19, 20] [] ⟨[(5, .c false [.int .i64])], []⟩ [(.ret, ⟨[(4, .c false [.bool])], []⟩), (.exit 0, ⟨[], []⟩)] .d))) .d)
noncomputable def ref12_same_c (n : Nat) : Ctr Try.prog := .of Try.func65 n [] ref12_same_a ref12_same_s (fun d => ref12_same n d.1 d.2.1) fun d => by kernel_rfl
noncomputable def ref12_find_l1b (n : Nat) (x1 : List KLiLLi) (x2 : List Int) (self : Int × Unit → Option ((Int × Unit) ⊕ (Unit))) (d4 : Int × Unit) : Option ((Int × Unit) ⊕ (Unit)) :=
 cond (decide (d4.1 < (x1.length : Int)))
 (ask (0 ≤ d4.1 ∧ d4.1 < (x1.length : Int)) ((ref12_same n ((KLiLLi_at x1 d4.1).1) x2).bind (fun r5 => cond r5.1
 (some (.inl (d4.1, ())))
 (self (IntKind.wrap .i64 (d4.1 + 1), ())))))
 (some (.inr ()))
noncomputable def ref12_find_l1 (n : Nat) (x1 : List KLiLLi) (x2 : List Int) : Int × Unit → Option ((Int × Unit) ⊕ (Unit)) := iter (ref12_find_l1b n x1 x2) n
noncomputable def ref12_find (n : Nat) (x1 : List KLiLLi) (x2 : List Int) : Option (Int × Unit) :=
 (ref12_find_l1 n x1 x2 (0, ())).bind (Sum.elim (fun d6 => some (d6.1, ())) (fun d7 => some ((-1), ())))
def ref12_find_s : Sig := ⟨[.c false [.row KLiLLi_], .c false [.row i_]], [], .c false [.int .i64], []⟩
def ref12_find_a : Ann := .s .d (.s (.s .d (.b (.l [4, 5, 6, 7, 8, 9, 10, 11, 12, 13, 14, 15, 16, 17, 18, 19] [] ⟨[(5, .c false [.int .i64])], []⟩ [(.ret, ⟨[(4, .c false [.int .i64])], []⟩), (.exit 0, ⟨[], []⟩)] .d))) .d)
noncomputable def ref12_find_c (n : Nat) : Ctr Try.prog := .of Try.func56 n [ref12_same_c n] ref12_find_a ref12_find_s (fun d => ref12_find n d.1 d.2.1) fun d => by kernel_rfl
noncomputable def ref12_Reached_j1 (n : Nat) (d13 : Int × List KLiLLi × Unit) (r14 : List Int × Unit) (r15 : List Int × Unit) (x1 : List Kiiiiiii) (x2 : List Ksi) (x3 : List Ksiii) (x4 : List Kisi) (x5 : List Ksi) : Option ((Bool × Unit)) :=
 (ref11_Props n x1 x2 x3 x4 x5 r14.1).bind (fun r16 => (ref11_Legal n x1 x2 x3 x4 x5 r16.1).bind (fun r17 => cond r17.1
 ((ref12_find n d13.2.1 r15.1).bind (fun r18 => some (decide (r18.1 < 0), ())))
 (some (false, ()))))
noncomputable def ref12_Reached_l2b (n : Nat) (d10 : Int × List KLiLLi × Unit) (r7 : List (List Int) × Unit) (x1 : List Kiiiiiii) (x2 : List Ksi) (x3 : List Ksiii) (x4 : List Kisi) (x5 : List Ksi) (self : Int × List KLiLLi × Unit → Option ((List KLiLLi × Unit))) (d13 : Int × List KLiLLi × Unit) : Option ((List KLiLLi × Unit)) :=
 cond (decide (d13.1 < (r7.1.length : Int)))
 (ask (0 ≤ d10.1 ∧ d10.1 < (d13.2.1.length : Int)) (ask (0 ≤ d13.1 ∧ d13.1 < (r7.1.length : Int)) ((ref09_Eval n x1 x2 x3 x4 x5 ((KLiLLi_at d13.2.1 d10.1).1) (KLi_at r7.1 d13.1)).bind (fun r14 => ask (0 ≤ d10.1 ∧ d10.1 < (d13.2.1.length : Int)) (ask (0 ≤ d13.1 ∧ d13.1 < (r7.1.length : Int)) ((ref09_After n x1 x2 x3 x4 x5 ((KLiLLi_at d13.2.1 d10.1).1) (KLi_at r7.1 d13.1)).bind (fun r15 => (ref12_Reached_j1 n d13 r14 r15 x1 x2 x3 x4 x5).bind (fun d19 => cond d19.1
 (ask (0 ≤ d10.1 ∧ d10.1 < (d13.2.1.length : Int)) (ask (True ∧ ((([] : List (List Int))).length + ((KLiLLi_at d13.2.1 d10.1).2).length) * 24 ≤ 140737488355328) (ask (0 ≤ d13.1 ∧ d13.1 < (r7.1.length : Int)) (ask (True ∧ ((([] : List (List Int)) ++ ((KLiLLi_at d13.2.1 d10.1).2)).length + (([KLi_at r7.1 d13.1] : List (List Int))).length) * 24 ≤ 140737488355328) (ask (True ∧ (d13.2.1.length + (([(r15.1, (([] : List (List Int)) ++ ((KLiLLi_at d13.2.1 d10.1).2)) ++ ([KLi_at r7.1 d13.1] : List (List Int)))] : List KLiLLi)).length) * 48 ≤ 140737488355328) (self (IntKind.wrap .i64 (d13.1 + 1), d13.2.1 ++ ([(r15.1, (([] : List (List Int)) ++ ((KLiLLi_at d13.2.1 d10.1).2)) ++ ([KLi_at r7.1 d13.1] : List (List Int)))] : List KLiLLi), ())))))))
 (self (IntKind.wrap .i64 (d13.1 + 1), d13.2.1, ()))))))))))
 (some (d13.2.1, ()))
noncomputable def ref12_Reached_l2 (n : Nat) (d10 : Int × List KLiLLi × Unit) (r7 : List (List Int) × Unit) (x1 : List Kiiiiiii) (x2 : List Ksi) (x3 : List Ksiii) (x4 : List Kisi) (x5 : List Ksi) : Int × List KLiLLi × Unit → Option ((List KLiLLi × Unit)) := iter (ref12_Reached_l2b n d10 r7 x1 x2 x3 x4 x5) n
noncomputable def ref12_Reached_l3b (n : Nat) (r7 : List (List Int) × Unit) (x1 : List Kiiiiiii) (x2 : List Ksi) (x3 : List Ksiii) (x4 : List Kisi) (x5 : List Ksi) (self : Int × List KLiLLi × Unit → Option ((List KLiLLi × Unit))) (d10 : Int × List KLiLLi × Unit) : Option ((List KLiLLi × Unit)) :=
 cond (decide (d10.1 < (d10.2.1.length : Int)))
 ((ref12_Reached_l2 n d10 r7 x1 x2 x3 x4 x5 (0, d10.2.1, ())).bind (fun d20 => self (IntKind.wrap .i64 (d10.1 + 1), d20.1, ())))
 (some (d10.2.1, ()))
noncomputable def ref12_Reached_l3 (n : Nat) (r7 : List (List Int) × Unit) (x1 : List Kiiiiiii) (x2 : List Ksi) (x3 : List Ksiii) (x4 : List Kisi) (x5 : List Ksi) : Int × List KLiLLi × Unit → Option ((List KLiLLi × Unit)) := iter (ref12_Reached_l3b n r7 x1 x2 x3 x4 x5) n
noncomputable def ref12_Reached (n : Nat) (x1 : List Kiiiiiii) (x2 : List Ksi) (x3 : List Ksiii) (x4 : List Kisi) (x5 : List Ksi) : Option (List KLiLLi × Unit) :=
 (ref09_First n x1 x2 x3 x4 x5).bind (fun r6 => (ref12_Rows n x1 x2 x3 x4 x5).bind (fun r7 => (ref12_Reached_l3 n r7 x1 x2 x3 x4 x5 (0, ([(r6.1, ([] : List (List Int)))] : List KLiLLi), ())).bind (fun d21 => some (d21.1, ()))))
def ref12_Reached_s : Sig := ⟨[.c true [.row Kiiiiiii_, .row Ksi_, .row Ksiii_, .row Kisi_, .row Ksi_]], [], .c false [.row KLiLLi_], []⟩
def ref12_Reached_a : Ann := .s .d (.s .d (.s .d (.s (.s .d (.b (.l [3, 5, 6, 7, 8, 12, 15, 16, 17, 18, 19, 20, 21, 22, 23, 24, 25, 26, 27, 28, 29, 30, 31, 32, 33, 34, 35, 36, 37, 38, 39, 40, 41, 42, 43, 44, 45, 46, 47, 48, 49, 50, 51, 52, 53, 54, 55, 56, 57, 58, 59, 60, 61, 62, 63, 64, 65, 66, 67, 68, 69, 70, 71, 72, 73, 74, 75, 76, 77] [293] ⟨[(3, .c false [.con (.own 293 2)]), (5, .c false [.int .i64])], [(293, .row 78 KLiLLi_)]⟩ [(.exit 0, ⟨[(3, .c false [.con (.own 293 2)])], [(293, .row 78 KLiLLi_)]⟩)] (.s .d (.s (.b (.s .d (.b (.l [3, 6, 7, 8, 16, 21, 22, 23, 24, 25, 26, 27, 28, 29, 30, 31, 32, 33, 34, 35, 36, 37, 38, 39, 40, 41, 42, 43, 44, 45, 46, 47, 48, 49, 50, 51, 52, 53, 54, 55, 56, 57, 58, 59, 60, 61, 62, 63, 64, 65, 66, 67, 68, 69, 70, 71, 72, 73, 74, 75, 76, 77] [293] ⟨[(3, .c false [.con (.own 293 2)]), (6, .c false [.int .i64])], [(293, .row 78 KLiLLi_)]⟩ [(.exit 2, ⟨[(3, .c false [.con (.own 293 2)])], [(293, .row 78 KLiLLi_)]⟩)] (.s .d (.s (.b (.s .d (.s .d (.j [49, 50, 51, 52, 53, 54, 55, 56, 57, 58, 59] [] [(.normal, ⟨[(59, .c false [.bool])], []⟩)] .d .d)))) .d)))))) .d))))) .d)))
noncomputable def ref12_Reached_c (n : Nat) : Ctr Try.prog := .of Try.func32 n [ref09_First_c n, ref12_Rows_c n, ref09_Eval_c n, ref09_After_c n, ref11_Props_c n, ref11_Legal_c n, ref12_find_c n] ref12_Reached_a ref12_Reached_s (fun d => ref12_Reached n d.1 d.2.1 d.2.2.1 d.2.2.2.1 d.2.2.2.2.1) fun d => by kernel_rfl
noncomputable def ref11_Hits (n : Nat) (x1 : List Kiiiiiii) (x2 : List Ksi) (x3 : List Ksiii) (x4 : List Kisi) (x5 : List Ksi) (x6 : Int) (x7 : List Bool) : Option (Bool × Unit) :=
 ask (0 ≤ x6 ∧ x6 < (x4.length : Int)) (cond (decide (((Kisi_at x4 x6).1) = 8))
 (ask (0 ≤ x6 ∧ x6 < (x7.length : Int)) (some (!(Kb_at x7 x6), ())))
 (ask (0 ≤ x6 ∧ x6 < (x4.length : Int)) (cond (decide (((Kisi_at x4 x6).1) = 10))
 (ask (0 ≤ x6 ∧ x6 < (x7.length : Int)) (some (Kb_at x7 x6, ())))
 (some (false, ())))))
def ref11_Hits_s : Sig := ⟨[.c true [.row Kiiiiiii_, .row Ksi_, .row Ksiii_, .row Kisi_, .row Ksi_], .c false [.int .i64], .c false [.row b_]], [], .c false [.bool], []⟩
def ref11_Hits_a : Ann := .d
noncomputable def ref11_Hits_c (n : Nat) : Ctr Try.prog := .of Try.func36 n [] ref11_Hits_a ref11_Hits_s (fun d => ref11_Hits n d.1 d.2.1 d.2.2.1 d.2.2.2.1 d.2.2.2.2.1 d.2.2.2.2.2.1 d.2.2.2.2.2.2.1) fun d => by kernel_rfl
noncomputable def ref12_Tell_l1b (n : Nat) (d12 : Int × Int × Int × Unit) (r8 : List KLiLLi × Unit) (r9 : List (List Int) × Unit) (x1 : List Kiiiiiii) (x2 : List Ksi) (x3 : List Ksiii) (x4 : List Kisi) (x5 : List Ksi) (x6 : Int) (self : Int × Int × Int × Unit → Option ((Int × Int × Int × List (List Int) × Unit) ⊕ (Int × Int × Unit))) (d15 : Int × Int × Int × Unit) : Option ((Int × Int × Int × List (List Int) × Unit) ⊕ (Int × Int × Unit)) :=
 cond (decide (d15.1 < (r9.1.length : Int)))
 (ask (0 ≤ d12.1 ∧ d12.1 < (r8.1.length : Int)) (ask (0 ≤ d15.1 ∧ d15.1 < (r9.1.length : Int)) ((ref09_Eval n x1 x2 x3 x4 x5 ((KLiLLi_at r8.1 d12.1).1) (KLi_at r9.1 d15.1)).bind (fun r16 => (ref11_Props n x1 x2 x3 x4 x5 r16.1).bind (fun r17 => (ref11_Legal n x1 x2 x3 x4 x5 r17.1).bind (fun r18 => cond (!r18.1)
 (self (IntKind.wrap .i64 (d15.1 + 1), d15.2.1, d15.2.2.1, ()))
 ((ref11_Hits n x1 x2 x3 x4 x5 x6 r17.1).bind (fun r19 => cond (!r19.1)
 (self (IntKind.wrap .i64 (d15.1 + 1), d15.2.1, d15.2.2.1, ()))
 (ask (0 ≤ d12.1 ∧ d12.1 < (r8.1.length : Int)) (ask (True ∧ ((([] : List (List Int))).length + ((KLiLLi_at r8.1 d12.1).2).length) * 24 ≤ 140737488355328) (ask (0 ≤ d15.1 ∧ d15.1 < (r9.1.length : Int)) (ask (True ∧ ((([] : List (List Int)) ++ ((KLiLLi_at r8.1 d12.1).2)).length + (([KLi_at r9.1 d15.1] : List (List Int))).length) * 24 ≤ 140737488355328) (cond (decide ((64 : Int) < (((([] : List (List Int)) ++ ((KLiLLi_at r8.1 d12.1).2)) ++ ([KLi_at r9.1 d15.1] : List (List Int))).length : Int)))
 (some (.inl (0, 3, 64, ([] : List (List Int)), ())))
 (some (.inl (0, 1, (((([] : List (List Int)) ++ ((KLiLLi_at r8.1 d12.1).2)) ++ ([KLi_at r9.1 d15.1] : List (List Int))).length : Int), (([] : List (List Int)) ++ ((KLiLLi_at r8.1 d12.1).2)) ++ ([KLi_at r9.1 d15.1] : List (List Int)), ()))))))))))))))))
 (some (.inr (d15.2.1, d15.2.2.1, ())))
noncomputable def ref12_Tell_l1 (n : Nat) (d12 : Int × Int × Int × Unit) (r8 : List KLiLLi × Unit) (r9 : List (List Int) × Unit) (x1 : List Kiiiiiii) (x2 : List Ksi) (x3 : List Ksiii) (x4 : List Kisi) (x5 : List Ksi) (x6 : Int) : Int × Int × Int × Unit → Option ((Int × Int × Int × List (List Int) × Unit) ⊕ (Int × Int × Unit)) := iter (ref12_Tell_l1b n d12 r8 r9 x1 x2 x3 x4 x5 x6) n
noncomputable def ref12_Tell_l2b (n : Nat) (r8 : List KLiLLi × Unit) (r9 : List (List Int) × Unit) (x1 : List Kiiiiiii) (x2 : List Ksi) (x3 : List Ksiii) (x4 : List Kisi) (x5 : List Ksi) (x6 : Int) (self : Int × Int × Int × Unit → Option ((Int × Int × Int × List (List Int) × Unit) ⊕ (Int × Int × Unit))) (d12 : Int × Int × Int × Unit) : Option ((Int × Int × Int × List (List Int) × Unit) ⊕ (Int × Int × Unit)) :=
 cond (decide (d12.1 < (r8.1.length : Int)))
 ((ref12_Tell_l1 n d12 r8 r9 x1 x2 x3 x4 x5 x6 (0, d12.2.1, d12.2.2.1, ())).bind (Sum.elim (fun d20 => some (.inl (d20.1, d20.2.1, d20.2.2.1, d20.2.2.2.1, ()))) (fun d21 => self (IntKind.wrap .i64 (d12.1 + 1), d21.1, d21.2.1, ()))))
 (some (.inr (d12.2.1, d12.2.2.1, ())))
noncomputable def ref12_Tell_l2 (n : Nat) (r8 : List KLiLLi × Unit) (r9 : List (List Int) × Unit) (x1 : List Kiiiiiii) (x2 : List Ksi) (x3 : List Ksiii) (x4 : List Kisi) (x5 : List Ksi) (x6 : Int) : Int × Int × Int × Unit → Option ((Int × Int × Int × List (List Int) × Unit) ⊕ (Int × Int × Unit)) := iter (ref12_Tell_l2b n r8 r9 x1 x2 x3 x4 x5 x6) n
noncomputable def ref12_Tell (n : Nat) (x1 : List Kiiiiiii) (x2 : List Ksi) (x3 : List Ksiii) (x4 : List Kisi) (x5 : List Ksi) (x6 : Int) : Option (Int × Int × List (List Int) × Int × Unit) :=
 cond (decide (x6 < 0))
 (some (0, 0, ([] : List (List Int)), 1, ()))
 (cond (decide ((x4.length : Int) ≤ x6))
 (some (0, 0, ([] : List (List Int)), 1, ()))
 (ask (0 ≤ x6 ∧ x6 < (x4.length : Int)) (cond (decide (((Kisi_at x4 x6).1) = 9))
 (some (0, 0, ([] : List (List Int)), 1, ()))
 ((ref12_Small n x1 x2 x3 x4 x5).bind (fun r7 => cond (!r7.1)
 (some (0, 0, ([] : List (List Int)), 2, ()))
 ((ref12_Reached n x1 x2 x3 x4 x5).bind (fun r8 => (ref12_Rows n x1 x2 x3 x4 x5).bind (fun r9 => (ref12_Tell_l2 n r8 r9 x1 x2 x3 x4 x5 x6 (0, 0, 0, ())).bind (Sum.elim (fun d22 => some (d22.2.1, d22.2.2.1, d22.2.2.2.1, d22.1, ())) (fun d23 => ask (0 ≤ (IntKind.wrap .i64 ((r8.1.length : Int) - 1)) ∧ IntKind.wrap .i64 ((r8.1.length : Int) - 1) < (r8.1.length : Int)) (some (2, (((KLiLLi_at r8.1 (IntKind.wrap .i64 ((r8.1.length : Int) - 1))).2).length : Int), ([] : List (List Int)), 0, ()))))))))))))
def ref12_Tell_s : Sig := ⟨[.c true [.row Kiiiiiii_, .row Ksi_, .row Ksiii_, .row Kisi_, .row Ksi_], .c false [.int .i64]], [], .t [(true, [.int .i64, .int .i64, .row KLi_, .con .nilsl]), (false, [.int .i64])], []⟩
def ref12_Tell_a : Ann := .s .d (.s .d (.s .d (.s .d (.s .d (.s (.s .d (.b (.l [4, 5, 8, 9, 10, 11, 39, 40, 41, 42, 43, 44, 45, 46, 47, 48, 49, 50, 51, 52, 53, 54, 55, 56, 57, 58, 59, 60, 61, 62, 63, 64, 65, 66, 67, 68, 69, 70, 71, 72, 73, 74, 75, 76, 77, 78, 79, 80, 81, 82, 83, 84, 85, 86, 87, 88, 89, 90, 91, 92, 93, 94, 95] [164] ⟨[(4, .c false [.con (.ptr 164 0)]), (8, .c false [.int .i64])], [(164, .var 32 [.int .i64, .int .i64, .con .nilsl, .con .nilsl])]⟩ [(.ret, ⟨[(4, .c false [.con (.ptr 164 0)]), (5, .c false [.int .i64])], [(164, .var 32 [.int .i64, .int .i64, .con (.own 100000 1), .con .nilsl]), (100000, .row 59 KLi_)]⟩), (.exit 0, ⟨[(4, .c false [.con (.ptr 164 0)])], [(164, .var 32 [.int .i64, .int .i64, .con .nilsl, .con .nilsl])]⟩)] (.s .d (.s (.b (.s .d (.b (.l [4, 5, 9, 10, 11, 45, 46, 47, 48, 49, 50, 51, 52, 53, 54, 55, 56, 57, 58, 59, 60, 61, 62, 63, 64, 65, 66, 67, 68, 69, 70, 71, 72, 73, 74, 75, 76, 77, 78, 79, 80, 81, 82, 83, 84, 85, 86, 87, 88, 89, 90, 91, 92, 93, 94, 95] [164] ⟨[(4, .c false [.con (.ptr 164 0)]), (9, .c false [.int .i64])], [(164, .var 32 [.int .i64, .int .i64, .con .nilsl, .con .nilsl])]⟩ [(.ret, ⟨[(4, .c false [.con (.ptr 164 0)]), (5, .c false [.int .i64])], [(164, .var 32 [.int .i64, .int .i64, .con (.own 100000 1), .con .nilsl]), (100000, .row 59 KLi_)]⟩), (.exit 2, ⟨[(4, .c false [.con (.ptr 164 0)])], [(164, .var 32 [.int .i64, .int .i64, .con .nilsl, .con .nilsl])]⟩)] .d)))) .d))))) .d)))))
noncomputable def ref12_Tell_c (n : Nat) : Ctr Try.prog := .of Try.func12 n [ref12_Small_c n, ref12_Reached_c n, ref12_Rows_c n, ref09_Eval_c n, ref11_Props_c n, ref11_Legal_c n, ref11_Hits_c n] ref12_Tell_a ref12_Tell_s (fun d => ref12_Tell n d.1 d.2.1 d.2.2.1 d.2.2.2.1 d.2.2.2.2.1 d.2.2.2.2.2.1) fun d => by kernel_rfl
noncomputable def ref12_Many (n : Nat) (x1 : List Kiiiiiii) (x2 : List Ksi) (x3 : List Ksiii) (x4 : List Kisi) (x5 : List Ksi) : Option (Int × Int × Unit) :=
 (ref12_Small n x1 x2 x3 x4 x5).bind (fun r6 => cond (!r6.1)
 (some (0, 2, ()))
 ((ref12_Reached n x1 x2 x3 x4 x5).bind (fun r7 => some ((r7.1.length : Int), 0, ()))))
def ref12_Many_s : Sig := ⟨[.c true [.row Kiiiiiii_, .row Ksi_, .row Ksiii_, .row Kisi_, .row Ksi_]], [], .t [(false, [.int .i64]), (false, [.int .i64])], []⟩
def ref12_Many_a : Ann := .d
noncomputable def ref12_Many_c (n : Nat) : Ctr Try.prog := .of Try.func14 n [ref12_Small_c n, ref12_Reached_c n] ref12_Many_a ref12_Many_s (fun d => ref12_Many n d.1 d.2.1 d.2.2.1 d.2.2.2.1 d.2.2.2.2.1) fun d => by kernel_rfl
noncomputable def law12_ReachTells (n : Nat) (x1 : List Kiiiiiii) (x2 : List Ksi) (x3 : List Ksiii) (x4 : List Kisi) (x5 : List Ksi) (x6 : Int) : Option (Bool × Unit) :=
 (law12_head n).bind (fun r7 => (law12_Great n x1 x2 x3 x4 x5).bind (fun r8 => cond r8.1
 (some (r7.1, ()))
 ((reach_Tell n x1 x2 x3 x4 x5 x6).bind (fun r9 => (ref12_Tell n x1 x2 x3 x4 x5 x6).bind (fun r10 => (reach_Many n x1 x2 x3 x4 x5).bind (fun r11 => (ref12_Many n x1 x2 x3 x4 x5).bind (fun r12 => cond r7.1
 ((reach_Small n x1 x2 x3 x4 x5).bind (fun r13 => (ref12_Small n x1 x2 x3 x4 x5).bind (fun r14 => cond (r13.1 == r14.1)
 (cond (decide (r9.2.2.2.1 = r10.2.2.2.1))
 ((ref12_Same n r9.1 r9.2.1 r9.2.2.1 ([] : List (List Int)) r10.1 r10.2.1 r10.2.2.1 ([] : List (List Int))).bind (fun r15 => cond r15.1
 (cond (decide (r11.2.1 = r12.2.1))
 (some (decide (r11.1 = r12.1), ()))
 (some (false, ())))
 (some (false, ()))))
 (some (false, ())))
 (some (false, ())))))
 (some (false, ())))))))))
def law12_ReachTells_s : Sig := ⟨[.c true [.row Kiiiiiii_, .row Ksi_, .row Ksiii_, .row Kisi_, .row Ksi_], .c false [.int .i64]], [], .c false [.bool], []⟩
def law12_ReachTells_a : Ann := .d
noncomputable def law12_ReachTells_c (n : Nat) : Ctr Try.prog := .of Try.func3 n [law12_head_c n, law12_Great_c n, reach_Tell_c n, ref12_Tell_c n, reach_Many_c n, ref12_Many_c n, reach_Small_c n, ref12_Small_c n, ref12_Same_c n] law12_ReachTells_a law12_ReachTells_s (fun d => law12_ReachTells n d.1 d.2.1 d.2.2.1 d.2.2.2.1 d.2.2.2.2.1 d.2.2.2.2.2.1) fun d => by kernel_rfl
noncomputable def law12_ReachTurned (n : Nat) (x1 : List Kiiiiiii) (x2 : List Ksi) (x3 : List Ksiii) (x4 : List Kisi) (x5 : List Ksi) (x6 : Int) : Option (Bool × Unit) :=
 (law12_head n).bind (fun r7 => (law12_Great n x1 x2 x3 x4 x5).bind (fun r8 => cond r8.1
 (some (r7.1, ()))
 (cond (decide ((x4.length : Int) = 0))
 (some (r7.1, ()))
 (cond (decide ((60 : Int) ≤ (x1.length : Int)))
 (some (r7.1, ()))
 (ask ((x4.length : Int) ≠ 0) (ask (True ∧ ((([] : List Kiiiiiii)).length + x1.length) * 56 ≤ 140737488355328) (ask (0 ≤ (Int.tmod (IntKind.wrap .i64 x6) (x4.length : Int)) ∧ Int.tmod (IntKind.wrap .i64 x6) (x4.length : Int) < (x4.length : Int)) (ask (True ∧ ((([] : List Kiiiiiii) ++ x1).length + (([(3, 1, ((Kisi_at x4 (Int.tmod (IntKind.wrap .i64 x6) (x4.length : Int))).2).2, 0, 0, 0, 0)] : List Kiiiiiii)).length) * 56 ≤ 140737488355328) (ask (True ∧ ((([] : List Kisi)).length + x4.length) * 32 ≤ 140737488355328) (ask (0 ≤ (Int.tmod (IntKind.wrap .i64 x6) (x4.length : Int)) ∧ Int.tmod (IntKind.wrap .i64 x6) (x4.length : Int) < (x4.length : Int)) (cond (decide (((Kisi_at x4 (Int.tmod (IntKind.wrap .i64 x6) (x4.length : Int))).1) = 9))
 (some (r7.1, ()))
 (ask (0 ≤ (Int.tmod (IntKind.wrap .i64 x6) (x4.length : Int)) ∧ Int.tmod (IntKind.wrap .i64 x6) (x4.length : Int) < ((([] : List Kisi) ++ x4).length : Int)) ((reach_Tell n x1 x2 x3 x4 x5 (Int.tmod (IntKind.wrap .i64 x6) (x4.length : Int))).bind (fun r9 => (reach_Tell n ((([] : List Kiiiiiii) ++ x1) ++ ([(3, 1, ((Kisi_at x4 (Int.tmod (IntKind.wrap .i64 x6) (x4.length : Int))).2).2, 0, 0, 0, 0)] : List Kiiiiiii)) x2 x3 ((([] : List Kisi) ++ x4).set (Int.tmod (IntKind.wrap .i64 x6) (x4.length : Int)).toNat (IntKind.wrap .i64 ((18 : Int) - ((Kisi_at x4 (Int.tmod (IntKind.wrap .i64 x6) (x4.length : Int))).1)), ByteArray.empty, (x1.length : Int))) x5 (Int.tmod (IntKind.wrap .i64 x6) (x4.length : Int))).bind (fun r10 => cond r7.1
 (cond (decide (r9.2.2.2.1 = r10.2.2.2.1))
 ((ref12_Same n r9.1 r9.2.1 r9.2.2.1 ([] : List (List Int)) r10.1 r10.2.1 r10.2.2.1 ([] : List (List Int))).bind (fun r11 => some (r11.1, ())))
 (some (false, ())))
 (some (false, ())))))))))))))))))
def law12_ReachTurned_s : Sig := ⟨[.c true [.row Kiiiiiii_, .row Ksi_, .row Ksiii_, .row Kisi_, .row Ksi_], .c false [.int .u8]], [], .c false [.bool], []⟩
def law12_ReachTurned_a : Ann := .s .d (.s .d (.s .d (.s .d (.s .d (.s .d (.s .d (.s .d (.s .d (.s .d (.s .d (.s (.z [934, 1127]) .d)))))))))))
noncomputable def law12_ReachTurned_c (n : Nat) : Ctr Try.prog := .of Try.func4 n [law12_head_c n, law12_Great_c n, reach_Tell_c n, ref12_Same_c n] law12_ReachTurned_a law12_ReachTurned_s (fun d => law12_ReachTurned n d.1 d.2.1 d.2.2.1 d.2.2.2.1 d.2.2.2.2.1 d.2.2.2.2.2.1) fun d => by kernel_rfl
noncomputable def law12_ReachAssumes_j1 (n : Nat) (x1 : List Kiiiiiii) (x4 : List Kisi) (x6 : Int) (x7 : Int) : Option ((Int × Unit)) :=
 ask (0 ≤ (Int.tmod (IntKind.wrap .i64 x7) (x1.length : Int)) ∧ Int.tmod (IntKind.wrap .i64 x7) (x1.length : Int) < (x1.length : Int)) (cond (decide ((((Kiiiiiii_at x1 (Int.tmod (IntKind.wrap .i64 x7) (x1.length : Int))).2).1) ≠ 1))
 (ask (0 ≤ (Int.tmod (IntKind.wrap .i64 x6) (x4.length : Int)) ∧ Int.tmod (IntKind.wrap .i64 x6) (x4.length : Int) < (x4.length : Int)) (some (((Kisi_at x4 (Int.tmod (IntKind.wrap .i64 x6) (x4.length : Int))).2).2, ())))
 (some (Int.tmod (IntKind.wrap .i64 x7) (x1.length : Int), ())))
noncomputable def law12_ReachAssumes (n : Nat) (x1 : List Kiiiiiii) (x2 : List Ksi) (x3 : List Ksiii) (x4 : List Kisi) (x5 : List Ksi) (x6 : Int) (x7 : Int) : Option (Bool × Unit) :=
 (law12_head n).bind (fun r8 => (law12_Great n x1 x2 x3 x4 x5).bind (fun r9 => cond r9.1
 (some (r8.1, ()))
 (cond (decide ((x4.length : Int) = 0))
 (some (r8.1, ()))
 (cond (decide ((16 : Int) ≤ (x4.length : Int)))
 (some (r8.1, ()))
 (cond (decide ((60 : Int) ≤ (x1.length : Int)))
 (some (r8.1, ()))
 (ask ((x4.length : Int) ≠ 0) (ask ((x1.length : Int) ≠ 0) ((law12_ReachAssumes_j1 n x1 x4 x6 x7).bind (fun d10 => ask (True ∧ ((([] : List Kisi)).length + x4.length) * 32 ≤ 140737488355328) (ask (True ∧ ((([] : List Kisi) ++ x4).length + (([(9, ByteArray.empty, d10.1)] : List Kisi)).length) * 32 ≤ 140737488355328) ((reach_Tell n x1 x2 x3 x4 x5 (Int.tmod (IntKind.wrap .i64 x6) (x4.length : Int))).bind (fun r11 => (reach_Tell n x1 x2 x3 ((([] : List Kisi) ++ x4) ++ ([(9, ByteArray.empty, d10.1)] : List Kisi)) x5 (Int.tmod (IntKind.wrap .i64 x6) (x4.length : Int))).bind (fun r12 => (reach_Many n x1 x2 x3 x4 x5).bind (fun r13 => (reach_Many n x1 x2 x3 ((([] : List Kisi) ++ x4) ++ ([(9, ByteArray.empty, d10.1)] : List Kisi)) x5).bind (fun r14 => cond (decide (r11.2.2.2.1 ≠ r12.2.2.2.1))
 (some (false, ()))
 (cond (decide (r13.2.1 ≠ r14.2.1))
 (some (false, ()))
 (cond (decide (r13.1 < r14.1))
 (some (false, ()))
 (cond (decide (r11.2.2.2.1 ≠ 0))
 (some (r8.1, ()))
 (cond (decide (r12.1 = 1))
 (cond (decide (r11.1 ≠ 1))
 (some (false, ()))
 (cond (decide (r12.2.1 < r11.2.1))
 (some (false, ()))
 (cond (decide (r11.1 = 2))
 (cond (decide (r12.1 ≠ 2))
 (some (false, ()))
 (ask (True ∧ ((([] : List Kiiiiiii)).length + x1.length) * 56 ≤ 140737488355328) (ask (True ∧ ((([] : List Kiiiiiii) ++ x1).length + (([(1, 1, 0, 0, 0, 0, 0)] : List Kiiiiiii)).length) * 56 ≤ 140737488355328) (ask (True ∧ ((([] : List Kisi)).length + x4.length) * 32 ≤ 140737488355328) (ask (True ∧ ((([] : List Kisi) ++ x4).length + (([(9, ByteArray.empty, (x1.length : Int))] : List Kisi)).length) * 32 ≤ 140737488355328) ((reach_Tell n ((([] : List Kiiiiiii) ++ x1) ++ ([(1, 1, 0, 0, 0, 0, 0)] : List Kiiiiiii)) x2 x3 ((([] : List Kisi) ++ x4) ++ ([(9, ByteArray.empty, (x1.length : Int))] : List Kisi)) x5 (Int.tmod (IntKind.wrap .i64 x6) (x4.length : Int))).bind (fun r15 => (reach_Many n ((([] : List Kiiiiiii) ++ x1) ++ ([(1, 1, 0, 0, 0, 0, 0)] : List Kiiiiiii)) x2 x3 ((([] : List Kisi) ++ x4) ++ ([(9, ByteArray.empty, (x1.length : Int))] : List Kisi)) x5).bind (fun r16 => cond r8.1
 (cond (decide (r15.2.2.2.1 = 0))
 ((ref12_Same n r15.1 r15.2.1 r15.2.2.1 ([] : List (List Int)) 2 0 ([] : List (List Int)) ([] : List (List Int))).bind (fun r17 => cond r17.1
 (cond (decide (r16.2.1 = 0))
 (some (decide (r16.1 = 1), ()))
 (some (false, ())))
 (some (false, ()))))
 (some (false, ())))
 (some (false, ()))))))))))
 (ask (True ∧ ((([] : List Kiiiiiii)).length + x1.length) * 56 ≤ 140737488355328) (ask (True ∧ ((([] : List Kiiiiiii) ++ x1).length + (([(1, 1, 0, 0, 0, 0, 0)] : List Kiiiiiii)).length) * 56 ≤ 140737488355328) (ask (True ∧ ((([] : List Kisi)).length + x4.length) * 32 ≤ 140737488355328) (ask (True ∧ ((([] : List Kisi) ++ x4).length + (([(9, ByteArray.empty, (x1.length : Int))] : List Kisi)).length) * 32 ≤ 140737488355328) ((reach_Tell n ((([] : List Kiiiiiii) ++ x1) ++ ([(1, 1, 0, 0, 0, 0, 0)] : List Kiiiiiii)) x2 x3 ((([] : List Kisi) ++ x4) ++ ([(9, ByteArray.empty, (x1.length : Int))] : List Kisi)) x5 (Int.tmod (IntKind.wrap .i64 x6) (x4.length : Int))).bind (fun r18 => (reach_Many n ((([] : List Kiiiiiii) ++ x1) ++ ([(1, 1, 0, 0, 0, 0, 0)] : List Kiiiiiii)) x2 x3 ((([] : List Kisi) ++ x4) ++ ([(9, ByteArray.empty, (x1.length : Int))] : List Kisi)) x5).bind (fun r19 => cond r8.1
 (cond (decide (r18.2.2.2.1 = 0))
 ((ref12_Same n r18.1 r18.2.1 r18.2.2.1 ([] : List (List Int)) 2 0 ([] : List (List Int)) ([] : List (List Int))).bind (fun r20 => cond r20.1
 (cond (decide (r19.2.1 = 0))
 (some (decide (r19.1 = 1), ()))
 (some (false, ())))
 (some (false, ()))))
 (some (false, ())))
 (some (false, ()))))))))))))
 (cond (decide (r11.1 = 2))
 (cond (decide (r12.1 ≠ 2))
 (some (false, ()))
 (ask (True ∧ ((([] : List Kiiiiiii)).length + x1.length) * 56 ≤ 140737488355328) (ask (True ∧ ((([] : List Kiiiiiii) ++ x1).length + (([(1, 1, 0, 0, 0, 0, 0)] : List Kiiiiiii)).length) * 56 ≤ 140737488355328) (ask (True ∧ ((([] : List Kisi)).length + x4.length) * 32 ≤ 140737488355328) (ask (True ∧ ((([] : List Kisi) ++ x4).length + (([(9, ByteArray.empty, (x1.length : Int))] : List Kisi)).length) * 32 ≤ 140737488355328) ((reach_Tell n ((([] : List Kiiiiiii) ++ x1) ++ ([(1, 1, 0, 0, 0, 0, 0)] : List Kiiiiiii)) x2 x3 ((([] : List Kisi) ++ x4) ++ ([(9, ByteArray.empty, (x1.length : Int))] : List Kisi)) x5 (Int.tmod (IntKind.wrap .i64 x6) (x4.length : Int))).bind (fun r21 => (reach_Many n ((([] : List Kiiiiiii) ++ x1) ++ ([(1, 1, 0, 0, 0, 0, 0)] : List Kiiiiiii)) x2 x3 ((([] : List Kisi) ++ x4) ++ ([(9, ByteArray.empty, (x1.length : Int))] : List Kisi)) x5).bind (fun r22 => cond r8.1
 (cond (decide (r21.2.2.2.1 = 0))
 ((ref12_Same n r21.1 r21.2.1 r21.2.2.1 ([] : List (List Int)) 2 0 ([] : List (List Int)) ([] : List (List Int))).bind (fun r23 => cond r23.1
 (cond (decide (r22.2.1 = 0))
 (some (decide (r22.1 = 1), ()))
 (some (false, ())))
 (some (false, ()))))
 (some (false, ())))
 (some (false, ()))))))))))
 (ask (True ∧ ((([] : List Kiiiiiii)).length + x1.length) * 56 ≤ 140737488355328) (ask (True ∧ ((([] : List Kiiiiiii) ++ x1).length + (([(1, 1, 0, 0, 0, 0, 0)] : List Kiiiiiii)).length) * 56 ≤ 140737488355328) (ask (True ∧ ((([] : List Kisi)).length + x4.length) * 32 ≤ 140737488355328) (ask (True ∧ ((([] : List Kisi) ++ x4).length + (([(9, ByteArray.empty, (x1.length : Int))] : List Kisi)).length) * 32 ≤ 140737488355328) ((reach_Tell n ((([] : List Kiiiiiii) ++ x1) ++ ([(1, 1, 0, 0, 0, 0, 0)] : List Kiiiiiii)) x2 x3 ((([] : List Kisi) ++ x4) ++ ([(9, ByteArray.empty, (x1.length : Int))] : List Kisi)) x5 (Int.tmod (IntKind.wrap .i64 x6) (x4.length : Int))).bind (fun r24 => (reach_Many n ((([] : List Kiiiiiii) ++ x1) ++ ([(1, 1, 0, 0, 0, 0, 0)] : List Kiiiiiii)) x2 x3 ((([] : List Kisi) ++ x4) ++ ([(9, ByteArray.empty, (x1.length : Int))] : List Kisi)) x5).bind (fun r25 => cond r8.1
 (cond (decide (r24.2.2.2.1 = 0))
 ((ref12_Same n r24.1 r24.2.1 r24.2.2.1 ([] : List (List Int)) 2 0 ([] : List (List Int)) ([] : List (List Int))).bind (fun r26 => cond r26.1
 (cond (decide (r25.2.1 = 0))
 (some (decide (r25.1 = 1), ()))
 (some (false, ())))
 (some (false, ()))))
 (some (false, ())))
 (some (false, ())))))))))))))))))))))))))))))
def law12_ReachAssumes_s : Sig := ⟨[.c true [.row Kiiiiiii_, .row Ksi_, .row Ksiii_, .row Kisi_, .row Ksi_], .c false [.int .u8], .c false [.int .u8]], [], .c false [.bool], []⟩
def law12_ReachAssumes_a : Ann := .s .d (.s .d (.s .d (.s .d (.s .d (.j [9, 58, 59, 60, 61, 62, 63, 64, 65, 66, 67, 68, 69, 70] [] [(.normal, ⟨[(9, .c false [.int .i64])], []⟩)] .d (.s .d (.s .d (.s .d (.s (.z [614]) (.s .d (.s .d (.s .d (.s .d (.s .d (.s .d (.s .d (.s .d (.s (.z [1834, 2411]) .d))))))))))))))))))
noncomputable def law12_ReachAssumes_c (n : Nat) : Ctr Try.prog := .of Try.func5 n [law12_head_c n, law12_Great_c n, reach_Tell_c n, reach_Many_c n, ref12_Same_c n] law12_ReachAssumes_a law12_ReachAssumes_s (fun d => law12_ReachAssumes n d.1 d.2.1 d.2.2.1 d.2.2.2.1 d.2.2.2.2.1 d.2.2.2.2.2.1 d.2.2.2.2.2.2.1) fun d => by kernel_rfl
noncomputable def sim_cycles (n : Nat) (x1 : List Kiiiiiii) (x2 : List Ksi) (x3 : List Ksiii) (x4 : List Kisi) (x5 : List Ksi) (x6 : List (List Int)) : Option (List Kiiiiiii × List Ksi × List Ksiii × List Kisi × List Ksi × List (List Int) × Unit) :=
 some (x1, x2, x3, x4, x5, x6, ())
def sim_cycles_s : Sig := ⟨[.c true [.row Kiiiiiii_, .row Ksi_, .row Ksiii_, .row Kisi_, .row Ksi_], .c false [.row KLi_]], [], .c false [.con (.fn 58 [(100, 0), (164, 0)])], [(100, .var 27 [.row Kiiiiiii_, .row Ksi_, .row Ksiii_, .row Kisi_, .row Ksi_]), (164, .var 30 [.row KLi_])]⟩
def sim_cycles_a : Ann := .d
noncomputable def sim_cycles_c (n : Nat) : Ctr Try.prog := .of Try.func41 n [] sim_cycles_a sim_cycles_s (fun d => sim_cycles n d.1 d.2.1 d.2.2.1 d.2.2.2.1 d.2.2.2.2.1 d.2.2.2.2.2.1) fun d => by kernel_rfl
noncomputable def sim_Hit_y_l1b (n : Nat) (x2 : List Int) (x7 : List Kisi) (self : Int × Unit → Option ((Unit) ⊕ (Unit))) (d15 : Int × Unit) : Option ((Unit) ⊕ (Unit)) :=
 cond (decide (d15.1 < (x7.length : Int)))
 (ask (0 ≤ d15.1 ∧ d15.1 < (x7.length : Int)) (cond (decide (((Kisi_at x7 d15.1).1) = 9))
 (ask (0 ≤ (((Kisi_at x7 d15.1).2).2) ∧ ((Kisi_at x7 d15.1).2).2 < (x2.length : Int)) (cond (decide ((Ki_at x2 (((Kisi_at x7 d15.1).2).2)) = 0))
 (some (.inl ()))
 (self (IntKind.wrap .i64 (d15.1 + 1), ()))))
 (self (IntKind.wrap .i64 (d15.1 + 1), ()))))
 (some (.inr ()))
noncomputable def sim_Hit_y_l1 (n : Nat) (x2 : List Int) (x7 : List Kisi) : Int × Unit → Option ((Unit) ⊕ (Unit)) := iter (sim_Hit_y_l1b n x2 x7) n
noncomputable def sim_Hit_y (n : Nat) (x1 : List Int) (x2 : List Int) (x3 : Int) (x4 : List Kiiiiiii) (x5 : List Ksi) (x6 : List Ksiii) (x7 : List Kisi) (x8 : List Ksi) (x9 : Int) (x10 : Int) (x11 : Bool) (x12 : Bool) (x13 : Int) : Option (Bool × Int × List Kiiiiiii × List Ksi × List Ksiii × List Kisi × List Ksi × Int × Int × Bool × Bool × Int × Unit) :=
 ask (x3 = 0) ((sim_Hit_y_l1 n x2 x7 (0, ())).bind (Sum.elim (fun d16 => some (false, 2, x4, x5, x6, x7, x8, x9, x10, x11, x12, x13, ())) (fun d17 => ask (0 ≤ x9 ∧ x9 < (x7.length : Int)) (ask (0 ≤ (((Kisi_at x7 x9).2).2) ∧ ((Kisi_at x7 x9).2).2 < (x2.length : Int)) (cond (decide ((Ki_at x2 (((Kisi_at x7 x9).2).2)) = 1) == x12)
 (some (false, 1, x4, x5, x6, x7, x8, x9, x13, true, x12, x13, ()))
 (some (true, 0, x4, x5, x6, x7, x8, x9, x10, x11, x12, IntKind.wrap .i64 (x13 + 1), ())))))))
def sim_Hit_y_s : Sig := ⟨[.c false [.con (.yld 0 [])], .c false [.row i_], .c false [.row i_]], [(0, .lop 19000 [(3, .c false [.con (.ptr 1 0)]), (4, .c false [.con (.ptr 2 0)]), (6, .c false [.con (.ptr 3 0)]), (7, .c false [.con (.ptr 4 0)]), (8, .c false [.con (.ptr 5 0)]), (9, .c false [.con (.ptr 6 0)])]), (1, .var 27 [.row Kiiiiiii_, .row Ksi_, .row Ksiii_, .row Kisi_, .row Ksi_]), (2, .var 3 [.int .i64]), (3, .var 3 [.int .i64]), (4, .var 4 [.bool]), (5, .var 4 [.bool]), (6, .var 3 [.int .i64])], .c false [.bool], [(0, .lop 19000 [(3, .c false [.con (.ptr 1 0)]), (4, .c false [.con (.ptr 2 0)]), (6, .c false [.con (.ptr 3 0)]), (7, .c false [.con (.ptr 4 0)]), (8, .c false [.con (.ptr 5 0)]), (9, .c false [.con (.ptr 6 0)])]), (1, .var 27 [.row Kiiiiiii_, .row Ksi_, .row Ksiii_, .row Kisi_, .row Ksi_]), (2, .var 3 [.int .i64]), (3, .var 3 [.int .i64]), (4, .var 4 [.bool]), (5, .var 4 [.bool]), (6, .var 3 [.int .i64])]⟩
def sim_Hit_y_a : Ann := .s .d (.b (.s (.s .d (.b (.l [13, 47, 48, 49, 50, 51, 52, 53, 54, 55, 56, 57, 58, 59, 60, 61, 62] [] ⟨[(47, .c false [.int .i64])], []⟩ [(.exit 0, ⟨[], []⟩), (.exit 2, ⟨[], []⟩)] .d))) .d))
noncomputable def sim_Hit_y_c (n : Nat) : Ctr Try.prog := .ofY 19000 n [] sim_Hit_y_a sim_Hit_y_s (fun d => sim_Hit_y n d.1 d.2.1 d.2.2.1 d.2.2.2.1 d.2.2.2.2.1 d.2.2.2.2.2.1 d.2.2.2.2.2.2.1 d.2.2.2.2.2.2.2.1 d.2.2.2.2.2.2.2.2.1 d.2.2.2.2.2.2.2.2.2.1 d.2.2.2.2.2.2.2.2.2.2.1 d.2.2.2.2.2.2.2.2.2.2.2.1 d.2.2.2.2.2.2.2.2.2.2.2.2.1) fun d => by kernel_rfl
noncomputable def sim_cycles_1__sim_Hit_o_l1b (n : Nat) (x2 : List Kiiiiiii) (x3 : List Ksi) (x4 : List Ksiii) (x5 : List Kisi) (x6 : List Ksi) (x7 : List (List Int)) (self : List Int × Int × Int × List Kiiiiiii × List Ksi × List Ksiii × List Kisi × List Ksi × Int × Int × Bool × Bool × Int × Unit → Option ((Int × List Kiiiiiii × List Ksi × List Ksiii × List Kisi × List Ksi × Int × Int × Bool × Bool × Int × Unit) ⊕ (Int × List Kiiiiiii × List Ksi × List Ksiii × List Kisi × List Ksi × Int × Int × Bool × Bool × Int × Unit))) (d21 : List Int × Int × Int × List Kiiiiiii × List Ksi × List Ksiii × List Kisi × List Ksi × Int × Int × Bool × Bool × Int × Unit) : Option ((Int × List Kiiiiiii × List Ksi × List Ksiii × List Kisi × List Ksi × Int × Int × Bool × Bool × Int × Unit) ⊕ (Int × List Kiiiiiii × List Ksi × List Ksiii × List Kisi × List Ksi × Int × Int × Bool × Bool × Int × Unit)) :=
 cond (decide (d21.2.1 < (x7.length : Int)))
 (ask (0 ≤ d21.2.1 ∧ d21.2.1 < (x7.length : Int)) ((net_Eval n x2 x3 x4 x5 x6 d21.1 (KLi_at x7 d21.2.1)).bind (fun r22 => (sim_Hit_y n d21.1 r22.1 d21.2.2.1 d21.2.2.2.1 d21.2.2.2.2.1 d21.2.2.2.2.2.1 d21.2.2.2.2.2.2.1 d21.2.2.2.2.2.2.2.1 d21.2.2.2.2.2.2.2.2.1 d21.2.2.2.2.2.2.2.2.2.1 d21.2.2.2.2.2.2.2.2.2.2.1 d21.2.2.2.2.2.2.2.2.2.2.2.1 d21.2.2.2.2.2.2.2.2.2.2.2.2.1).bind (fun r23 => cond (!r23.1)
 (some (.inl (r23.2.1, r23.2.2.1, r23.2.2.2.1, r23.2.2.2.2.1, r23.2.2.2.2.2.1, r23.2.2.2.2.2.2.1, r23.2.2.2.2.2.2.2.1, r23.2.2.2.2.2.2.2.2.1, r23.2.2.2.2.2.2.2.2.2.1, r23.2.2.2.2.2.2.2.2.2.2.1, r23.2.2.2.2.2.2.2.2.2.2.2.1, ())))
 ((net_After n x2 x3 x4 x5 x6 d21.1 (KLi_at x7 d21.2.1)).bind (fun r24 => self (r24.1, IntKind.wrap .i64 (d21.2.1 + 1), r23.2.1, r23.2.2.1, r23.2.2.2.1, r23.2.2.2.2.1, r23.2.2.2.2.2.1, r23.2.2.2.2.2.2.1, r23.2.2.2.2.2.2.2.1, r23.2.2.2.2.2.2.2.2.1, r23.2.2.2.2.2.2.2.2.2.1, r23.2.2.2.2.2.2.2.2.2.2.1, r23.2.2.2.2.2.2.2.2.2.2.2.1, ())))))))
 (some (.inr (d21.2.2.1, d21.2.2.2.1, d21.2.2.2.2.1, d21.2.2.2.2.2.1, d21.2.2.2.2.2.2.1, d21.2.2.2.2.2.2.2.1, d21.2.2.2.2.2.2.2.2.1, d21.2.2.2.2.2.2.2.2.2.1, d21.2.2.2.2.2.2.2.2.2.2.1, d21.2.2.2.2.2.2.2.2.2.2.2.1, d21.2.2.2.2.2.2.2.2.2.2.2.2.1, ())))
noncomputable def sim_cycles_1__sim_Hit_o_l1 (n : Nat) (x2 : List Kiiiiiii) (x3 : List Ksi) (x4 : List Ksiii) (x5 : List Kisi) (x6 : List Ksi) (x7 : List (List Int)) : List Int × Int × Int × List Kiiiiiii × List Ksi × List Ksiii × List Kisi × List Ksi × Int × Int × Bool × Bool × Int × Unit → Option ((Int × List Kiiiiiii × List Ksi × List Ksiii × List Kisi × List Ksi × Int × Int × Bool × Bool × Int × Unit) ⊕ (Int × List Kiiiiiii × List Ksi × List Ksiii × List Kisi × List Ksi × Int × Int × Bool × Bool × Int × Unit)) := iter (sim_cycles_1__sim_Hit_o_l1b n x2 x3 x4 x5 x6 x7) n
noncomputable def sim_cycles_1__sim_Hit_o (n : Nat) (x1 : Int) (x2 : List Kiiiiiii) (x3 : List Ksi) (x4 : List Ksiii) (x5 : List Kisi) (x6 : List Ksi) (x7 : List (List Int)) (x8 : List Kiiiiiii) (x9 : List Ksi) (x10 : List Ksiii) (x11 : List Kisi) (x12 : List Ksi) (x13 : Int) (x14 : Int) (x15 : Bool) (x16 : Bool) (x17 : Int) : Option (Int × List Kiiiiiii × List Ksi × List Ksiii × List Kisi × List Ksi × List (List Int) × List Kiiiiiii × List Ksi × List Ksiii × List Kisi × List Ksi × Int × Int × Bool × Bool × Int × Unit) :=
 (net_First n x2 x3 x4 x5 x6).bind (fun r18 => (sim_cycles_1__sim_Hit_o_l1 n x2 x3 x4 x5 x6 x7 (r18.1, 0, x1, x8, x9, x10, x11, x12, x13, x14, x15, x16, x17, ())).bind (Sum.elim (fun d25 => some (d25.1, x2, x3, x4, x5, x6, x7, d25.2.1, d25.2.2.1, d25.2.2.2.1, d25.2.2.2.2.1, d25.2.2.2.2.2.1, d25.2.2.2.2.2.2.1, d25.2.2.2.2.2.2.2.1, d25.2.2.2.2.2.2.2.2.1, d25.2.2.2.2.2.2.2.2.2.1, d25.2.2.2.2.2.2.2.2.2.2.1, ())) (fun d26 => some (d26.1, x2, x3, x4, x5, x6, x7, d26.2.1, d26.2.2.1, d26.2.2.2.1, d26.2.2.2.2.1, d26.2.2.2.2.2.1, d26.2.2.2.2.2.2.1, d26.2.2.2.2.2.2.2.1, d26.2.2.2.2.2.2.2.2.1, d26.2.2.2.2.2.2.2.2.2.1, d26.2.2.2.2.2.2.2.2.2.2.1, ()))))
def sim_cycles_1__sim_Hit_o_s : Sig := ⟨[.c false [.con (.yld 0 [])], .c false [.con (.ptr 1 0)], .c false [.con (.ptr 2 0)]], [(0, .lop 19000 [(3, .c false [.con (.ptr 3 0)]), (4, .c false [.con (.ptr 4 0)]), (6, .c false [.con (.ptr 5 0)]), (7, .c false [.con (.ptr 6 0)]), (8, .c false [.con (.ptr 7 0)]), (9, .c false [.con (.ptr 8 0)])]), (1, .var 27 [.row Kiiiiiii_, .row Ksi_, .row Ksiii_, .row Kisi_, .row Ksi_]), (2, .var 30 [.row KLi_]), (3, .var 27 [.row Kiiiiiii_, .row Ksi_, .row Ksiii_, .row Kisi_, .row Ksi_]), (4, .var 3 [.int .i64]), (5, .var 3 [.int .i64]), (6, .var 4 [.bool]), (7, .var 4 [.bool]), (8, .var 3 [.int .i64])], .t [], [(0, .lop 19000 [(3, .c false [.con (.ptr 3 0)]), (4, .c false [.con (.ptr 4 0)]), (6, .c false [.con (.ptr 5 0)]), (7, .c false [.con (.ptr 6 0)]), (8, .c false [.con (.ptr 7 0)]), (9, .c false [.con (.ptr 8 0)])]), (1, .var 27 [.row Kiiiiiii_, .row Ksi_, .row Ksiii_, .row Kisi_, .row Ksi_]), (2, .var 30 [.row KLi_]), (3, .var 27 [.row Kiiiiiii_, .row Ksi_, .row Ksiii_, .row Kisi_, .row Ksi_]), (4, .var 3 [.int .i64]), (5, .var 3 [.int .i64]), (6, .var 4 [.bool]), (7, .var 4 [.bool]), (8, .var 3 [.int .i64])]⟩
def sim_cycles_1__sim_Hit_o_a : Ann := .s .d (.s .d (.b (.l [0, 4, 6, 11, 12, 13, 14, 15, 16, 17, 18, 19, 20, 21, 22, 23, 24, 25, 26, 27] [0, 3, 4, 5, 6, 7, 8] ⟨[(0, .c false [.con (.yld 0 [])]), (4, .c false [.row i_]), (11, .c false [.int .i64])], [(0, .lop 19000 [(3, .c false [.con (.ptr 3 0)]), (4, .c false [.con (.ptr 4 0)]), (6, .c false [.con (.ptr 5 0)]), (7, .c false [.con (.ptr 6 0)]), (8, .c false [.con (.ptr 7 0)]), (9, .c false [.con (.ptr 8 0)])]), (3, .var 27 [.row Kiiiiiii_, .row Ksi_, .row Ksiii_, .row Kisi_, .row Ksi_]), (4, .var 3 [.int .i64]), (5, .var 3 [.int .i64]), (6, .var 4 [.bool]), (7, .var 4 [.bool]), (8, .var 3 [.int .i64])]⟩ [(.ret, ⟨[], [(0, .lop 19000 [(3, .c false [.con (.ptr 3 0)]), (4, .c false [.con (.ptr 4 0)]), (6, .c false [.con (.ptr 5 0)]), (7, .c false [.con (.ptr 6 0)]), (8, .c false [.con (.ptr 7 0)]), (9, .c false [.con (.ptr 8 0)])]), (3, .var 27 [.row Kiiiiiii_, .row Ksi_, .row Ksiii_, .row Kisi_, .row Ksi_]), (4, .var 3 [.int .i64]), (5, .var 3 [.int .i64]), (6, .var 4 [.bool]), (7, .var 4 [.bool]), (8, .var 3 [.int .i64])]⟩), (.exit 0, ⟨[], [(0, .lop 19000 [(3, .c false [.con (.ptr 3 0)]), (4, .c false [.con (.ptr 4 0)]), (6, .c false [.con (.ptr 5 0)]), (7, .c false [.con (.ptr 6 0)]), (8, .c false [.con (.ptr 7 0)]), (9, .c false [.con (.ptr 8 0)])]), (3, .var 27 [.row Kiiiiiii_, .row Ksi_, .row Ksiii_, .row Kisi_, .row Ksi_]), (4, .var 3 [.int .i64]), (5, .var 3 [.int .i64]), (6, .var 4 [.bool]), (7, .var 4 [.bool]), (8, .var 3 [.int .i64])]⟩)] .d)))
noncomputable def sim_cycles_1__sim_Hit_o_c (n : Nat) : Ctr Try.prog := .of Try.func58 n [net_First_c n, net_Eval_c n, sim_Hit_y_c n, net_After_c n] sim_cycles_1__sim_Hit_o_a sim_cycles_1__sim_Hit_o_s (fun d => sim_cycles_1__sim_Hit_o n d.1 d.2.1 d.2.2.1 d.2.2.2.1 d.2.2.2.2.1 d.2.2.2.2.2.1 d.2.2.2.2.2.2.1 d.2.2.2.2.2.2.2.1 d.2.2.2.2.2.2.2.2.1 d.2.2.2.2.2.2.2.2.2.1 d.2.2.2.2.2.2.2.2.2.2.1 d.2.2.2.2.2.2.2.2.2.2.2.1 d.2.2.2.2.2.2.2.2.2.2.2.2.1 d.2.2.2.2.2.2.2.2.2.2.2.2.2.1 d.2.2.2.2.2.2.2.2.2.2.2.2.2.2.1 d.2.2.2.2.2.2.2.2.2.2.2.2.2.2.2.1 d.2.2.2.2.2.2.2.2.2.2.2.2.2.2.2.2.1) fun d => by kernel_rfl
noncomputable def sim_Hit (n : Nat) (x1 : List Kiiiiiii) (x2 : List Ksi) (x3 : List Ksiii) (x4 : List Kisi) (x5 : List Ksi) (x6 : Int) (x7 : List (List Int)) : Option (Int × Bool × Unit) :=
 cond (decide (x6 < 0))
 (some (0, false, ()))
 (cond (decide ((x4.length : Int) ≤ x6))
 (some (0, false, ()))
 (ask (0 ≤ x6 ∧ x6 < (x4.length : Int)) (cond (decide (((Kisi_at x4 x6).1) = 9))
 (some (0, false, ()))
 (ask (0 ≤ x6 ∧ x6 < (x4.length : Int)) ((sim_cycles n x1 x2 x3 x4 x5 x7).bind (fun r8 => (sim_cycles_1__sim_Hit_o n 0 r8.1 r8.2.1 r8.2.2.1 r8.2.2.2.1 r8.2.2.2.2.1 r8.2.2.2.2.2.1 x1 x2 x3 x4 x5 x6 0 false (decide (((Kisi_at x4 x6).1) = 10)) 0).bind (fun r9 => ask (0 ≤ r9.1) (cond (decide (r9.1 = 0))
 (some (0, false, ()))
 (cond (decide (r9.1 = 1))
 (some (r9.2.2.2.2.2.2.2.2.2.2.2.2.2.1, r9.2.2.2.2.2.2.2.2.2.2.2.2.2.2.1, ()))
 (cond (decide (r9.1 = 2))
 (some (0, false, ()))
 (none)))))))))))
def sim_Hit_s : Sig := ⟨[.c true [.row Kiiiiiii_, .row Ksi_, .row Ksiii_, .row Kisi_, .row Ksi_], .c false [.int .i64], .c false [.row KLi_]], [], .t [(false, [.int .i64]), (false, [.bool])], []⟩
def sim_Hit_a : Ann := .s .d (.b (.s .d (.s .d (.s .d (.s .d (.s (.s .d (.b (.r 19000 [3, 4, 6, 7, 8, 9] [] [.normal, .ret, .exit 0]))) .d))))))
noncomputable def sim_Hit_c (n : Nat) : Ctr Try.prog := .of Try.func19 n [sim_cycles_c n, sim_cycles_1__sim_Hit_o_c n] sim_Hit_a sim_Hit_s (fun d => sim_Hit n d.1 d.2.1 d.2.2.1 d.2.2.2.1 d.2.2.2.2.1 d.2.2.2.2.2.1 d.2.2.2.2.2.2.1) fun d => by kernel_rfl
noncomputable def law11_Trace_j1 (n : Nat) (d8 : Int × List (List Int) × Unit) (d10 : Int × List Int × Unit) (x1 : List Kiiiiiii) (x2 : List Ksi) (x6 : List (List Int)) : Option ((Int × Unit)) :=
 ask (0 ≤ d8.1 ∧ d8.1 < (x6.length : Int)) (cond (decide (d10.1 < ((KLw_at x6 d8.1).length : Int)))
 (ask (0 ≤ d8.1 ∧ d8.1 < (x6.length : Int)) (ask (0 ≤ d10.1 ∧ d10.1 < ((KLw_at x6 d8.1).length : Int)) (ask (0 ≤ d10.1 ∧ d10.1 < (x2.length : Int)) (ask (0 ≤ ((Ksi_at x2 d10.1).2) ∧ (Ksi_at x2 d10.1).2 < (x1.length : Int)) ((ref08_Mask n (((Kiiiiiii_at x1 ((Ksi_at x2 d10.1).2)).2).1)).bind (fun r11 => some (bits .and .i64 (IntKind.wrap .i64 (Kw_at (KLw_at x6 d8.1) d10.1)) r11.1, ())))))))
 (some (0, ())))
noncomputable def law11_Trace_l2b (n : Nat) (d8 : Int × List (List Int) × Unit) (x1 : List Kiiiiiii) (x2 : List Ksi) (x6 : List (List Int)) (self : Int × List Int × Unit → Option ((List Int × Unit))) (d10 : Int × List Int × Unit) : Option ((List Int × Unit)) :=
 cond (decide (d10.1 < (x2.length : Int)))
 ((law11_Trace_j1 n d8 d10 x1 x2 x6).bind (fun d12 => ask (True ∧ (d10.2.1.length + (([d12.1] : List Int)).length) * 8 ≤ 140737488355328) (self (IntKind.wrap .i64 (d10.1 + 1), d10.2.1 ++ ([d12.1] : List Int), ()))))
 (some (d10.2.1, ()))
noncomputable def law11_Trace_l2 (n : Nat) (d8 : Int × List (List Int) × Unit) (x1 : List Kiiiiiii) (x2 : List Ksi) (x6 : List (List Int)) : Int × List Int × Unit → Option ((List Int × Unit)) := iter (law11_Trace_l2b n d8 x1 x2 x6) n
noncomputable def law11_Trace_l3b (n : Nat) (x1 : List Kiiiiiii) (x2 : List Ksi) (x6 : List (List Int)) (self : Int × List (List Int) × Unit → Option ((List (List Int) × Unit))) (d8 : Int × List (List Int) × Unit) : Option ((List (List Int) × Unit)) :=
 cond (decide (d8.1 < (x6.length : Int)))
 (cond (decide (d8.1 < 64))
 ((law11_Trace_l2 n d8 x1 x2 x6 (0, ([] : List Int), ())).bind (fun d13 => ask (True ∧ (d8.2.1.length + (([d13.1] : List (List Int))).length) * 24 ≤ 140737488355328) (self (IntKind.wrap .i64 (d8.1 + 1), d8.2.1 ++ ([d13.1] : List (List Int)), ()))))
 (some (d8.2.1, ())))
 (some (d8.2.1, ()))
noncomputable def law11_Trace_l3 (n : Nat) (x1 : List Kiiiiiii) (x2 : List Ksi) (x6 : List (List Int)) : Int × List (List Int) × Unit → Option ((List (List Int) × Unit)) := iter (law11_Trace_l3b n x1 x2 x6) n
noncomputable def law11_Trace (n : Nat) (x1 : List Kiiiiiii) (x2 : List Ksi) (x3 : List Ksiii) (x4 : List Kisi) (x5 : List Ksi) (x6 : List (List Int)) : Option (List (List Int) × Unit) :=
 (law11_Trace_l3 n x1 x2 x6 (0, ([] : List (List Int)), ())).bind (fun d14 => some (d14.1, ()))
def law11_Trace_s : Sig := ⟨[.c true [.row Kiiiiiii_, .row Ksi_, .row Ksiii_, .row Kisi_, .row Ksi_], .c false [.row KLw_]], [], .c false [.row KLi_], []⟩
def law11_Trace_a : Ann := .s .d (.s .d (.s (.s .d (.b (.l [5, 6, 7, 8, 9, 10, 11, 12, 13, 14, 15, 16, 17, 18, 19, 20, 21, 22, 23, 24, 25, 26, 27, 28, 29, 30, 31, 32, 33, 34, 35, 36, 37, 38, 39, 40, 41, 42, 43, 44, 45, 46, 47, 48, 49, 50, 51, 52, 53, 54, 55, 56, 57, 58, 59, 60, 61, 62] [] ⟨[(5, .c false [.con (.own 100000 1)]), (6, .c false [.int .i64])], [(100000, .row 59 KLi_)]⟩ [(.exit 0, ⟨[(5, .c false [.con (.own 100000 1)])], [(100000, .row 59 KLi_)]⟩)] (.s .d (.s (.b (.s .d (.s (.s .d (.b (.l [7, 8, 9, 20, 21, 22, 23, 24, 25, 26, 27, 28, 29, 30, 31, 32, 33, 34, 35, 36, 37, 38, 39, 40, 41, 42, 43, 44, 45, 46, 47, 48, 49, 50, 51, 52, 53, 54, 55, 56, 57, 58] [] ⟨[(7, .c false [.con (.own 200000 1)]), (8, .c false [.int .i64])], [(200000, .row 3 i_)]⟩ [(.exit 2, ⟨[(7, .c false [.con (.own 200000 1)])], [(200000, .row 3 i_)]⟩)] (.s .d (.s (.b (.s .d (.j [9, 27, 28, 29, 30, 31, 32, 33, 34, 35, 36, 37, 38, 39, 40, 41, 42, 43, 44, 45, 46, 47, 48, 49, 50, 51, 52, 53, 54] [] [(.normal, ⟨[(9, .c false [.int .i64])], []⟩)] .d .d))) .d))))) .d))) .d))))) .d))
noncomputable def law11_Trace_c (n : Nat) : Ctr Try.prog := .of Try.func20 n [ref08_Mask_c n] law11_Trace_a law11_Trace_s (fun d => law11_Trace n d.1 d.2.1 d.2.2.1 d.2.2.2.1 d.2.2.2.2.1 d.2.2.2.2.2.1) fun d => by kernel_rfl
noncomputable def law12_ahead_l1b (n : Nat) (d5 : Int × Unit) (x1 : List (List Int)) (x2 : List (List Int)) (self : Int × Unit → Option ((Bool × Unit) ⊕ (Unit))) (d7 : Int × Unit) : Option ((Bool × Unit) ⊕ (Unit)) :=
 ask (0 ≤ d5.1 ∧ d5.1 < (x1.length : Int)) (cond (decide (d7.1 < ((KLi_at x1 d5.1).length : Int)))
 (ask (0 ≤ d5.1 ∧ d5.1 < (x2.length : Int)) (cond (decide (d7.1 < ((KLi_at x2 d5.1).length : Int)))
 (ask (0 ≤ d5.1 ∧ d5.1 < (x1.length : Int)) (ask (0 ≤ d7.1 ∧ d7.1 < ((KLi_at x1 d5.1).length : Int)) (ask (0 ≤ d5.1 ∧ d5.1 < (x2.length : Int)) (ask (0 ≤ d7.1 ∧ d7.1 < ((KLi_at x2 d5.1).length : Int)) (cond (decide ((Ki_at (KLi_at x1 d5.1) d7.1) ≠ (Ki_at (KLi_at x2 d5.1) d7.1)))
 (ask (0 ≤ d5.1 ∧ d5.1 < (x1.length : Int)) (ask (0 ≤ d7.1 ∧ d7.1 < ((KLi_at x1 d5.1).length : Int)) (ask (0 ≤ d5.1 ∧ d5.1 < (x2.length : Int)) (ask (0 ≤ d7.1 ∧ d7.1 < ((KLi_at x2 d5.1).length : Int)) (some (.inl (decide ((Ki_at (KLi_at x1 d5.1) d7.1) < (Ki_at (KLi_at x2 d5.1) d7.1)), ())))))))
 (self (IntKind.wrap .i64 (d7.1 + 1), ())))))))
 (some (.inr ()))))
 (some (.inr ())))
noncomputable def law12_ahead_l1 (n : Nat) (d5 : Int × Unit) (x1 : List (List Int)) (x2 : List (List Int)) : Int × Unit → Option ((Bool × Unit) ⊕ (Unit)) := iter (law12_ahead_l1b n d5 x1 x2) n
noncomputable def law12_ahead_l2b (n : Nat) (x1 : List (List Int)) (x2 : List (List Int)) (x3 : Int) (self : Int × Unit → Option ((Bool × Unit) ⊕ (Unit))) (d5 : Int × Unit) : Option ((Bool × Unit) ⊕ (Unit)) :=
 cond (decide (d5.1 ≤ x3))
 (cond (decide (d5.1 < (x1.length : Int)))
 (cond (decide (d5.1 < (x2.length : Int)))
 ((law12_ahead_l1 n d5 x1 x2 (0, ())).bind (Sum.elim (fun d8 => some (.inl (d8.1, ()))) (fun d9 => self (IntKind.wrap .i64 (d5.1 + 1), ()))))
 (some (.inr ())))
 (some (.inr ())))
 (some (.inr ()))
noncomputable def law12_ahead_l2 (n : Nat) (x1 : List (List Int)) (x2 : List (List Int)) (x3 : Int) : Int × Unit → Option ((Bool × Unit) ⊕ (Unit)) := iter (law12_ahead_l2b n x1 x2 x3) n
noncomputable def law12_ahead (n : Nat) (x1 : List (List Int)) (x2 : List (List Int)) (x3 : Int) : Option (Bool × Unit) :=
 (law12_ahead_l2 n x1 x2 x3 (0, ())).bind (Sum.elim (fun d10 => some (d10.1, ())) (fun d11 => some (false, ())))
def law12_ahead_s : Sig := ⟨[.c false [.row KLi_], .c false [.row KLi_], .c false [.int .i64]], [], .c false [.bool], []⟩
def law12_ahead_a : Ann := .s .d (.s (.s .d (.b (.l [6, 7, 8, 9, 10, 11, 12, 13, 14, 15, 16, 17, 18, 19, 20, 21, 22, 23, 24, 25, 26, 27, 28, 29, 30, 31, 32, 33, 34, 35, 36, 37, 38, 39, 40, 41, 42, 43, 44, 45, 46, 47, 48, 49, 50, 51, 52, 53, 54, 55, 56, 57, 58, 59, 60, 61, 62, 63, 64, 65, 66, 67, 68, 69, 70, 71, 72, 73] [] ⟨[(7, .c false [.int .i64])], []⟩ [(.ret, ⟨[(6, .c false [.bool])], []⟩), (.exit 0, ⟨[], []⟩)] (.s .d (.s (.b (.s .d (.b (.l [6, 8, 26, 27, 28, 29, 30, 31, 32, 33, 34, 35, 36, 37, 38, 39, 40, 41, 42, 43, 44, 45, 46, 47, 48, 49, 50, 51, 52, 53, 54, 55, 56, 57, 58, 59, 60, 61, 62, 63, 64, 65, 66, 67, 68, 69, 70, 71, 72, 73] [] ⟨[(8, .c false [.int .i64])], []⟩ [(.ret, ⟨[(6, .c false [.bool])], []⟩), (.exit 2, ⟨[], []⟩)] .d)))) .d))))) .d)
noncomputable def law12_ahead_c (n : Nat) : Ctr Try.prog := .of Try.func21 n [] law12_ahead_a law12_ahead_s (fun d => law12_ahead n d.1 d.2.1 d.2.2.1) fun d => by kernel_rfl
noncomputable def law12_ReachTrace (n : Nat) (x1 : List Kiiiiiii) (x2 : List Ksi) (x3 : List Ksiii) (x4 : List Kisi) (x5 : List Ksi) (x6 : Int) (x7 : List (List Int)) : Option (Bool × Unit) :=
 (law12_head n).bind (fun r8 => (law12_Great n x1 x2 x3 x4 x5).bind (fun r9 => cond r9.1
 (some (r8.1, ()))
 (cond (decide ((x4.length : Int) = 0))
 (some (r8.1, ()))
 (ask ((x4.length : Int) ≠ 0) ((reach_Tell n x1 x2 x3 x4 x5 (Int.tmod (IntKind.wrap .i64 x6) (x4.length : Int))).bind (fun r10 => ((cond (decide (r10.2.2.2.1 ≠ 0))
 (some (true, ()))
 (some (decide (r10.1 ≠ 1), ()))) : Option ((Bool × Unit))).bind (fun d11 => cond d11.1
 (cond r8.1
 (some (decide ((r10.2.2.1.length : Int) = 0), ()))
 (some (false, ())))
 (cond (decide (r10.2.1 ≠ (r10.2.2.1.length : Int)))
 (some (false, ()))
 (cond (decide (r10.2.1 < 1))
 (some (false, ()))
 ((sim_Right n x1 x2 x3 x4 x5 r10.2.2.1).bind (fun r12 => cond (!r12.1)
 (some (false, ()))
 ((sim_Hit n x1 x2 x3 x4 x5 (Int.tmod (IntKind.wrap .i64 x6) (x4.length : Int)) r10.2.2.1).bind (fun r13 => cond (!r13.2.1)
 (some (false, ()))
 (cond (decide (r13.1 ≠ (IntKind.wrap .i64 (r10.2.1 - 1))))
 (some (false, ()))
 ((law11_Trace n x1 x2 x3 x4 x5 x7).bind (fun r14 => (sim_Hit n x1 x2 x3 x4 x5 (Int.tmod (IntKind.wrap .i64 x6) (x4.length : Int)) r14.1).bind (fun r15 => cond (!r15.2.1)
 (some (r8.1, ()))
 (cond (decide (r15.1 < r13.1))
 (some (false, ()))
 (cond (decide ((r14.1.length : Int) ≤ r15.1))
 (some (false, ()))
 (cond (decide (r13.1 < r15.1))
 (some (r8.1, ()))
 (cond r8.1
 ((law12_ahead n r14.1 r10.2.2.1 r13.1).bind (fun r16 => some (!r16.1, ())))
 (some (false, ())))))))))))))))))))))))
def law12_ReachTrace_s : Sig := ⟨[.c true [.row Kiiiiiii_, .row Ksi_, .row Ksiii_, .row Kisi_, .row Ksi_], .c false [.int .u8], .c false [.row KLw_]], [], .c false [.bool], []⟩
def law12_ReachTrace_a : Ann := .s .d (.s .d (.s .d (.s .d (.s .d (.s (.j [38, 39, 40, 41, 42, 43, 44] [] [(.normal, ⟨[(44, .c false [.bool])], []⟩)] .d .d) .d)))))
noncomputable def law12_ReachTrace_c (n : Nat) : Ctr Try.prog := .of Try.func6 n [law12_head_c n, law12_Great_c n, reach_Tell_c n, sim_Right_c n, sim_Hit_c n, law11_Trace_c n, law12_ahead_c n] law12_ReachTrace_a law12_ReachTrace_s (fun d => law12_ReachTrace n d.1 d.2.1 d.2.2.1 d.2.2.2.1 d.2.2.2.2.1 d.2.2.2.2.2.1 d.2.2.2.2.2.2.1) fun d => by kernel_rfl
noncomputable def law12_ReachNever (n : Nat) (x1 : List Kiiiiiii) (x2 : List Ksi) (x3 : List Ksiii) (x4 : List Kisi) (x5 : List Ksi) (x6 : Int) (x7 : List (List Int)) : Option (Bool × Unit) :=
 (law12_head n).bind (fun r8 => (law12_Great n x1 x2 x3 x4 x5).bind (fun r9 => cond r9.1
 (some (r8.1, ()))
 (cond (decide ((x4.length : Int) = 0))
 (some (r8.1, ()))
 (ask ((x4.length : Int) ≠ 0) ((reach_Tell n x1 x2 x3 x4 x5 (Int.tmod (IntKind.wrap .i64 x6) (x4.length : Int))).bind (fun r10 => cond (decide (r10.2.2.2.1 ≠ 0))
 (some (r8.1, ()))
 (cond (decide (r10.1 = 1))
 (some (r8.1, ()))
 ((law11_Trace n x1 x2 x3 x4 x5 x7).bind (fun r11 => (sim_Hit n x1 x2 x3 x4 x5 (Int.tmod (IntKind.wrap .i64 x6) (x4.length : Int)) r11.1).bind (fun r12 => cond r8.1
 (cond (!r12.2.1)
 (cond (decide (r10.1 = 2))
 (cond (decide ((0 : Int) ≤ r10.2.1))
 (cond (decide ((r10.2.2.1.length : Int) = 0))
 (some (true, ()))
 (some (false, ())))
 (some (false, ())))
 (cond (decide (r10.1 = 3))
 (cond (decide (r10.2.1 = 64))
 (cond (decide ((0 : Int) ≤ r10.2.1))
 (cond (decide ((r10.2.2.1.length : Int) = 0))
 (some (true, ()))
 (some (false, ())))
 (some (false, ())))
 (some (false, ())))
 (some (false, ()))))
 (some (false, ())))
 (some (false, ()))))))))))))
def law12_ReachNever_s : Sig := ⟨[.c true [.row Kiiiiiii_, .row Ksi_, .row Ksiii_, .row Kisi_, .row Ksi_], .c false [.int .u8], .c false [.row KLw_]], [], .c false [.bool], []⟩
def law12_ReachNever_a : Ann := .d
noncomputable def law12_ReachNever_c (n : Nat) : Ctr Try.prog := .of Try.func7 n [law12_head_c n, law12_Great_c n, reach_Tell_c n, law11_Trace_c n, sim_Hit_c n] law12_ReachNever_a law12_ReachNever_s (fun d => law12_ReachNever n d.1 d.2.1 d.2.2.1 d.2.2.2.1 d.2.2.2.2.1 d.2.2.2.2.2.1 d.2.2.2.2.2.2.1) fun d => by kernel_rfl
noncomputable def sim_States_y_i2 (n : Nat) (x1 : List Int) (x2 : List Int) (x3 : Int) (x4 : List (List Int)) : Option (Bool × Int × List (List Int) × Unit) :=
 ask (x3 = 0) ((slices_Clone_int_int n x1).bind (fun r5 => ask (True ∧ (x4.length + (([r5.1] : List (List Int))).length) * 24 ≤ 140737488355328) (some (true, 0, x4 ++ ([r5.1] : List (List Int)), ()))))
def sim_States_y_i2_s : Sig := ⟨[.c false [.con (.yld 0 [])], .c false [.row i_], .c false [.row i_]], [(0, .lop 22000 [(5, .c false [.con (.ptr 1 0)])]), (1, .var 30 [.con (.own 2 1)]), (2, .row 59 KLi_)], .c false [.bool], [(0, .lop 22000 [(5, .c false [.con (.ptr 1 0)])]), (1, .var 30 [.con (.own 356 1)]), (356, .row 59 KLi_)]⟩
def sim_States_y_i2_a : Ann := .s .d .d
noncomputable def sim_States_y_i2_c (n : Nat) : Ctr Try.prog := .ofY 22000 n [slices_Clone_int_int_c n] sim_States_y_i2_a sim_States_y_i2_s (fun d => sim_States_y_i2 n d.1 d.2.1 d.2.2.1 d.2.2.2.1) fun d => by kernel_rfl
noncomputable def sim_cycles_1__sim_States_o_l1b (n : Nat) (x2 : List Kiiiiiii) (x3 : List Ksi) (x4 : List Ksiii) (x5 : List Kisi) (x6 : List Ksi) (x7 : List (List Int)) (self : List Int × Int × Int × List (List Int) × Unit → Option ((Int × List (List Int) × Unit) ⊕ (Int × List (List Int) × Unit))) (d12 : List Int × Int × Int × List (List Int) × Unit) : Option ((Int × List (List Int) × Unit) ⊕ (Int × List (List Int) × Unit)) :=
 cond (decide (d12.2.1 < (x7.length : Int)))
 (ask (0 ≤ d12.2.1 ∧ d12.2.1 < (x7.length : Int)) ((net_Eval n x2 x3 x4 x5 x6 d12.1 (KLi_at x7 d12.2.1)).bind (fun r13 => (sim_States_y_i2 n d12.1 r13.1 d12.2.2.1 d12.2.2.2.1).bind (fun r14 => cond (!r14.1)
 (some (.inl (r14.2.1, r14.2.2.1, ())))
 ((net_After n x2 x3 x4 x5 x6 d12.1 (KLi_at x7 d12.2.1)).bind (fun r15 => self (r15.1, IntKind.wrap .i64 (d12.2.1 + 1), r14.2.1, r14.2.2.1, ())))))))
 (some (.inr (d12.2.2.1, d12.2.2.2.1, ())))
noncomputable def sim_cycles_1__sim_States_o_l1 (n : Nat) (x2 : List Kiiiiiii) (x3 : List Ksi) (x4 : List Ksiii) (x5 : List Kisi) (x6 : List Ksi) (x7 : List (List Int)) : List Int × Int × Int × List (List Int) × Unit → Option ((Int × List (List Int) × Unit) ⊕ (Int × List (List Int) × Unit)) := iter (sim_cycles_1__sim_States_o_l1b n x2 x3 x4 x5 x6 x7) n
noncomputable def sim_cycles_1__sim_States_o (n : Nat) (x1 : Int) (x2 : List Kiiiiiii) (x3 : List Ksi) (x4 : List Ksiii) (x5 : List Kisi) (x6 : List Ksi) (x7 : List (List Int)) : Option (Int × List Kiiiiiii × List Ksi × List Ksiii × List Kisi × List Ksi × List (List Int) × List (List Int) × Unit) :=
 (net_First n x2 x3 x4 x5 x6).bind (fun r8 => (sim_cycles_1__sim_States_o_l1 n x2 x3 x4 x5 x6 x7 (r8.1, 0, x1, ([] : List (List Int)), ())).bind (Sum.elim (fun d16 => some (d16.1, x2, x3, x4, x5, x6, x7, d16.2.1, ())) (fun d17 => some (d17.1, x2, x3, x4, x5, x6, x7, d17.2.1, ()))))
def sim_cycles_1__sim_States_o_s : Sig := ⟨[.c false [.con (.yld 0 [])], .c false [.con (.ptr 1 0)], .c false [.con (.ptr 2 0)]], [(0, .lop 22000 [(5, .c false [.con (.ptr 3 0)])]), (1, .var 27 [.row Kiiiiiii_, .row Ksi_, .row Ksiii_, .row Kisi_, .row Ksi_]), (2, .var 30 [.row KLi_]), (3, .var 30 [.con .nilsl])], .t [], [(0, .lop 22000 [(5, .c false [.con (.ptr 3 0)])]), (1, .var 27 [.row Kiiiiiii_, .row Ksi_, .row Ksiii_, .row Kisi_, .row Ksi_]), (2, .var 30 [.row KLi_]), (3, .var 30 [.con (.own 100385 1)]), (100385, .row 59 KLi_)]⟩
def sim_cycles_1__sim_States_o_a : Ann := .s .d (.s .d (.b (.l [0, 4, 6, 11, 12, 13, 14, 15, 16, 17, 18, 19, 20, 21, 22, 23, 24, 25, 26, 27] [0, 3] ⟨[(0, .c false [.con (.yld 0 [])]), (4, .c false [.row i_]), (11, .c false [.int .i64])], [(0, .lop 22000 [(5, .c false [.con (.ptr 3 0)])]), (3, .var 30 [.con (.own 100000 1)]), (100000, .row 59 KLi_)]⟩ [(.ret, ⟨[], [(0, .lop 22000 [(5, .c false [.con (.ptr 3 0)])]), (3, .var 30 [.con (.own 100385 1)]), (100385, .row 59 KLi_)]⟩), (.exit 0, ⟨[], [(0, .lop 22000 [(5, .c false [.con (.ptr 3 0)])]), (3, .var 30 [.con (.own 100000 1)]), (100000, .row 59 KLi_)]⟩)] .d)))
noncomputable def sim_cycles_1__sim_States_o_c (n : Nat) : Ctr Try.prog := .of Try.func58 n [net_First_c n, net_Eval_c n, net_After_c n, sim_States_y_i2_c n] sim_cycles_1__sim_States_o_a sim_cycles_1__sim_States_o_s (fun d => sim_cycles_1__sim_States_o n d.1 d.2.1 d.2.2.1 d.2.2.2.1 d.2.2.2.2.1 d.2.2.2.2.2.1 d.2.2.2.2.2.2.1) fun d => by kernel_rfl
noncomputable def sim_States_j1 (n : Nat) (r7 : List Int × Unit) (r9 : Int × List Kiiiiiii × List Ksi × List Ksiii × List Kisi × List Ksi × List (List Int) × List (List Int) × Unit) (x1 : List Kiiiiiii) (x2 : List Ksi) (x3 : List Ksiii) (x4 : List Kisi) (x5 : List Ksi) (x6 : List (List Int)) : Option ((List Int × Unit)) :=
 cond (decide ((0 : Int) < (x6.length : Int)))
 (ask (0 ≤ (IntKind.wrap .i64 ((x6.length : Int) - 1)) ∧ IntKind.wrap .i64 ((x6.length : Int) - 1) < (r9.2.2.2.2.2.2.2.1.length : Int)) (ask (0 ≤ (IntKind.wrap .i64 ((x6.length : Int) - 1)) ∧ IntKind.wrap .i64 ((x6.length : Int) - 1) < (x6.length : Int)) ((net_After n x1 x2 x3 x4 x5 (KLi_at r9.2.2.2.2.2.2.2.1 (IntKind.wrap .i64 ((x6.length : Int) - 1))) (KLi_at x6 (IntKind.wrap .i64 ((x6.length : Int) - 1)))).bind (fun r10 => some (r10.1, ())))))
 (some (r7.1, ()))
noncomputable def sim_States (n : Nat) (x1 : List Kiiiiiii) (x2 : List Ksi) (x3 : List Ksiii) (x4 : List Kisi) (x5 : List Ksi) (x6 : List (List Int)) : Option (List (List Int) × Unit) :=
 (net_First n x1 x2 x3 x4 x5).bind (fun r7 => (sim_cycles n x1 x2 x3 x4 x5 x6).bind (fun r8 => (sim_cycles_1__sim_States_o n 0 r8.1 r8.2.1 r8.2.2.1 r8.2.2.2.1 r8.2.2.2.2.1 r8.2.2.2.2.2.1).bind (fun r9 => ask (0 ≤ r9.1) (cond (decide (r9.1 = 0))
 ((sim_States_j1 n r7 r9 x1 x2 x3 x4 x5 x6).bind (fun d11 => ask (True ∧ (r9.2.2.2.2.2.2.2.1.length + (([d11.1] : List (List Int))).length) * 24 ≤ 140737488355328) (some (r9.2.2.2.2.2.2.2.1 ++ ([d11.1] : List (List Int)), ()))))
 (none)))))
def sim_States_s : Sig := ⟨[.c true [.row Kiiiiiii_, .row Ksi_, .row Ksiii_, .row Kisi_, .row Ksi_], .c false [.row KLi_]], [], .c false [.row KLi_], []⟩
def sim_States_a : Ann := .s .d (.s .d (.s .d (.s (.s .d (.b (.r 22000 [5] [] [.normal]))) (.j [6, 8, 21, 22, 23, 24, 25, 26, 27, 28, 29, 30, 31, 32, 33, 34, 35, 36] [] [(.normal, ⟨[(6, .c false [.row i_])], []⟩)] .d .d))))
noncomputable def sim_States_c (n : Nat) : Ctr Try.prog := .of Try.func22 n [net_First_c n, sim_cycles_c n, sim_cycles_1__sim_States_o_c n, net_After_c n] sim_States_a sim_States_s (fun d => sim_States n d.1 d.2.1 d.2.2.1 d.2.2.2.1 d.2.2.2.2.1 d.2.2.2.2.2.1) fun d => by kernel_rfl
noncomputable def sim_props_l1b (n : Nat) (x4 : List Kisi) (x6 : List Int) (self : Int × List Bool × Unit → Option ((List Bool × Unit))) (d9 : Int × List Bool × Unit) : Option ((List Bool × Unit)) :=
 cond (decide (d9.1 < (x4.length : Int)))
 (ask (0 ≤ d9.1 ∧ d9.1 < (x4.length : Int)) (ask (0 ≤ (((Kisi_at x4 d9.1).2).2) ∧ ((Kisi_at x4 d9.1).2).2 < (x6.length : Int)) (ask (0 ≤ d9.1 ∧ d9.1 < (d9.2.1.length : Int)) (self (IntKind.wrap .i64 (d9.1 + 1), d9.2.1.set d9.1.toNat (decide ((Ki_at x6 (((Kisi_at x4 d9.1).2).2)) = 1)), ())))))
 (some (d9.2.1, ()))
noncomputable def sim_props_l1 (n : Nat) (x4 : List Kisi) (x6 : List Int) : Int × List Bool × Unit → Option ((List Bool × Unit)) := iter (sim_props_l1b n x4 x6) n
noncomputable def sim_props (n : Nat) (x1 : List Kiiiiiii) (x2 : List Ksi) (x3 : List Ksiii) (x4 : List Kisi) (x5 : List Ksi) (x6 : List Int) : Option (List Bool × Unit) :=
 ask ((0 ≤ (x4.length : Int) ∧ (x4.length : Int) ≤ (x4.length : Int)) ∧ (1 : Int) * (x4.length : Int) ≤ 281474976710656 ∧ (x4.length : Int) ≤ 281474976710656) ((sim_props_l1 n x4 x6 (0, List.replicate (x4.length : Int).toNat false, ())).bind (fun d10 => some (d10.1, ())))
def sim_props_s : Sig := ⟨[.c true [.row Kiiiiiii_, .row Ksi_, .row Ksiii_, .row Kisi_, .row Ksi_], .c false [.row i_]], [], .c false [.row b_], []⟩
def sim_props_a : Ann := .s .d (.s .d (.s (.s .d (.b (.l [5, 6, 7, 11, 15, 16, 17, 18, 19, 20, 21, 22, 23, 24, 25, 26, 27, 28, 29] [293] ⟨[(5, .c false [.con (.own 293 1)]), (15, .c false [.int .i64])], [(293, .row 4 b_)]⟩ [(.exit 0, ⟨[(5, .c false [.con (.own 293 1)])], [(293, .row 4 b_)]⟩)] .d))) .d))
noncomputable def sim_props_c (n : Nat) : Ctr Try.prog := .of Try.func46 n [] sim_props_a sim_props_s (fun d => sim_props n d.1 d.2.1 d.2.2.1 d.2.2.2.1 d.2.2.2.2.1 d.2.2.2.2.2.1) fun d => by kernel_rfl
noncomputable def sim_Run_y_i2 (n : Nat) (x1 : List Int) (x2 : List Int) (x3 : Int) (x4 : List Kiiiiiii) (x5 : List Ksi) (x6 : List Ksiii) (x7 : List Kisi) (x8 : List Ksi) (x9 : List (List Bool)) : Option (Bool × Int × List Kiiiiiii × List Ksi × List Ksiii × List Kisi × List Ksi × List (List Bool) × Unit) :=
 ask (x3 = 0) ((sim_props n x4 x5 x6 x7 x8 x2).bind (fun r10 => ask (True ∧ (x9.length + (([r10.1] : List (List Bool))).length) * 24 ≤ 140737488355328) (some (true, 0, x4, x5, x6, x7, x8, x9 ++ ([r10.1] : List (List Bool)), ()))))
def sim_Run_y_i2_s : Sig := ⟨[.c false [.con (.yld 0 [])], .c false [.row i_], .c false [.row i_]], [(0, .lop 23000 [(2, .c false [.con (.ptr 1 0)]), (5, .c false [.con (.ptr 2 0)])]), (1, .var 27 [.row Kiiiiiii_, .row Ksi_, .row Ksiii_, .row Kisi_, .row Ksi_]), (2, .var 54 [.con (.own 3 1)]), (3, .row 56 KLb_)], .c false [.bool], [(0, .lop 23000 [(2, .c false [.con (.ptr 1 0)]), (5, .c false [.con (.ptr 2 0)])]), (1, .var 27 [.row Kiiiiiii_, .row Ksi_, .row Ksiii_, .row Kisi_, .row Ksi_]), (2, .var 54 [.con (.own 420 1)]), (420, .row 56 KLb_)]⟩
def sim_Run_y_i2_a : Ann := .s .d .d
noncomputable def sim_Run_y_i2_c (n : Nat) : Ctr Try.prog := .ofY 23000 n [sim_props_c n] sim_Run_y_i2_a sim_Run_y_i2_s (fun d => sim_Run_y_i2 n d.1 d.2.1 d.2.2.1 d.2.2.2.1 d.2.2.2.2.1 d.2.2.2.2.2.1 d.2.2.2.2.2.2.1 d.2.2.2.2.2.2.2.1 d.2.2.2.2.2.2.2.2.1) fun d => by kernel_rfl
noncomputable def sim_cycles_1__sim_Run_o_l1b (n : Nat) (x2 : List Kiiiiiii) (x3 : List Ksi) (x4 : List Ksiii) (x5 : List Kisi) (x6 : List Ksi) (x7 : List (List Int)) (self : List Int × Int × Int × List Kiiiiiii × List Ksi × List Ksiii × List Kisi × List Ksi × List (List Bool) × Unit → Option ((Int × List Kiiiiiii × List Ksi × List Ksiii × List Kisi × List Ksi × List (List Bool) × Unit) ⊕ (Int × List Kiiiiiii × List Ksi × List Ksiii × List Kisi × List Ksi × List (List Bool) × Unit))) (d17 : List Int × Int × Int × List Kiiiiiii × List Ksi × List Ksiii × List Kisi × List Ksi × List (List Bool) × Unit) : Option ((Int × List Kiiiiiii × List Ksi × List Ksiii × List Kisi × List Ksi × List (List Bool) × Unit) ⊕ (Int × List Kiiiiiii × List Ksi × List Ksiii × List Kisi × List Ksi × List (List Bool) × Unit)) :=
 cond (decide (d17.2.1 < (x7.length : Int)))
 (ask (0 ≤ d17.2.1 ∧ d17.2.1 < (x7.length : Int)) ((net_Eval n x2 x3 x4 x5 x6 d17.1 (KLi_at x7 d17.2.1)).bind (fun r18 => (sim_Run_y_i2 n d17.1 r18.1 d17.2.2.1 d17.2.2.2.1 d17.2.2.2.2.1 d17.2.2.2.2.2.1 d17.2.2.2.2.2.2.1 d17.2.2.2.2.2.2.2.1 d17.2.2.2.2.2.2.2.2.1).bind (fun r19 => cond (!r19.1)
 (some (.inl (r19.2.1, r19.2.2.1, r19.2.2.2.1, r19.2.2.2.2.1, r19.2.2.2.2.2.1, r19.2.2.2.2.2.2.1, r19.2.2.2.2.2.2.2.1, ())))
 ((net_After n x2 x3 x4 x5 x6 d17.1 (KLi_at x7 d17.2.1)).bind (fun r20 => self (r20.1, IntKind.wrap .i64 (d17.2.1 + 1), r19.2.1, r19.2.2.1, r19.2.2.2.1, r19.2.2.2.2.1, r19.2.2.2.2.2.1, r19.2.2.2.2.2.2.1, r19.2.2.2.2.2.2.2.1, ())))))))
 (some (.inr (d17.2.2.1, d17.2.2.2.1, d17.2.2.2.2.1, d17.2.2.2.2.2.1, d17.2.2.2.2.2.2.1, d17.2.2.2.2.2.2.2.1, d17.2.2.2.2.2.2.2.2.1, ())))
noncomputable def sim_cycles_1__sim_Run_o_l1 (n : Nat) (x2 : List Kiiiiiii) (x3 : List Ksi) (x4 : List Ksiii) (x5 : List Kisi) (x6 : List Ksi) (x7 : List (List Int)) : List Int × Int × Int × List Kiiiiiii × List Ksi × List Ksiii × List Kisi × List Ksi × List (List Bool) × Unit → Option ((Int × List Kiiiiiii × List Ksi × List Ksiii × List Kisi × List Ksi × List (List Bool) × Unit) ⊕ (Int × List Kiiiiiii × List Ksi × List Ksiii × List Kisi × List Ksi × List (List Bool) × Unit)) := iter (sim_cycles_1__sim_Run_o_l1b n x2 x3 x4 x5 x6 x7) n
noncomputable def sim_cycles_1__sim_Run_o (n : Nat) (x1 : Int) (x2 : List Kiiiiiii) (x3 : List Ksi) (x4 : List Ksiii) (x5 : List Kisi) (x6 : List Ksi) (x7 : List (List Int)) (x8 : List Kiiiiiii) (x9 : List Ksi) (x10 : List Ksiii) (x11 : List Kisi) (x12 : List Ksi) : Option (Int × List Kiiiiiii × List Ksi × List Ksiii × List Kisi × List Ksi × List (List Int) × List Kiiiiiii × List Ksi × List Ksiii × List Kisi × List Ksi × List (List Bool) × Unit) :=
 (net_First n x2 x3 x4 x5 x6).bind (fun r13 => (sim_cycles_1__sim_Run_o_l1 n x2 x3 x4 x5 x6 x7 (r13.1, 0, x1, x8, x9, x10, x11, x12, ([] : List (List Bool)), ())).bind (Sum.elim (fun d21 => some (d21.1, x2, x3, x4, x5, x6, x7, d21.2.1, d21.2.2.1, d21.2.2.2.1, d21.2.2.2.2.1, d21.2.2.2.2.2.1, d21.2.2.2.2.2.2.1, ())) (fun d22 => some (d22.1, x2, x3, x4, x5, x6, x7, d22.2.1, d22.2.2.1, d22.2.2.2.1, d22.2.2.2.2.1, d22.2.2.2.2.2.1, d22.2.2.2.2.2.2.1, ()))))
def sim_cycles_1__sim_Run_o_s : Sig := ⟨[.c false [.con (.yld 0 [])], .c false [.con (.ptr 1 0)], .c false [.con (.ptr 2 0)]], [(0, .lop 23000 [(2, .c false [.con (.ptr 3 0)]), (5, .c false [.con (.ptr 4 0)])]), (1, .var 27 [.row Kiiiiiii_, .row Ksi_, .row Ksiii_, .row Kisi_, .row Ksi_]), (2, .var 30 [.row KLi_]), (3, .var 27 [.row Kiiiiiii_, .row Ksi_, .row Ksiii_, .row Kisi_, .row Ksi_]), (4, .var 54 [.con .nilsl])], .t [], [(0, .lop 23000 [(2, .c false [.con (.ptr 3 0)]), (5, .c false [.con (.ptr 4 0)])]), (1, .var 27 [.row Kiiiiiii_, .row Ksi_, .row Ksiii_, .row Kisi_, .row Ksi_]), (2, .var 30 [.row KLi_]), (3, .var 27 [.row Kiiiiiii_, .row Ksi_, .row Ksiii_, .row Kisi_, .row Ksi_]), (4, .var 54 [.con (.own 100385 1)]), (100385, .row 56 KLb_)]⟩
def sim_cycles_1__sim_Run_o_a : Ann := .s .d (.s .d (.b (.l [0, 4, 6, 11, 12, 13, 14, 15, 16, 17, 18, 19, 20, 21, 22, 23, 24, 25, 26, 27] [0, 3, 4] ⟨[(0, .c false [.con (.yld 0 [])]), (4, .c false [.row i_]), (11, .c false [.int .i64])], [(0, .lop 23000 [(2, .c false [.con (.ptr 3 0)]), (5, .c false [.con (.ptr 4 0)])]), (3, .var 27 [.row Kiiiiiii_, .row Ksi_, .row Ksiii_, .row Kisi_, .row Ksi_]), (4, .var 54 [.con (.own 100000 1)]), (100000, .row 56 KLb_)]⟩ [(.ret, ⟨[], [(0, .lop 23000 [(2, .c false [.con (.ptr 3 0)]), (5, .c false [.con (.ptr 4 0)])]), (3, .var 27 [.row Kiiiiiii_, .row Ksi_, .row Ksiii_, .row Kisi_, .row Ksi_]), (4, .var 54 [.con (.own 100385 1)]), (100385, .row 56 KLb_)]⟩), (.exit 0, ⟨[], [(0, .lop 23000 [(2, .c false [.con (.ptr 3 0)]), (5, .c false [.con (.ptr 4 0)])]), (3, .var 27 [.row Kiiiiiii_, .row Ksi_, .row Ksiii_, .row Kisi_, .row Ksi_]), (4, .var 54 [.con (.own 100000 1)]), (100000, .row 56 KLb_)]⟩)] .d)))
noncomputable def sim_cycles_1__sim_Run_o_c (n : Nat) : Ctr Try.prog := .of Try.func58 n [net_First_c n, net_Eval_c n, net_After_c n, sim_Run_y_i2_c n] sim_cycles_1__sim_Run_o_a sim_cycles_1__sim_Run_o_s (fun d => sim_cycles_1__sim_Run_o n d.1 d.2.1 d.2.2.1 d.2.2.2.1 d.2.2.2.2.1 d.2.2.2.2.2.1 d.2.2.2.2.2.2.1 d.2.2.2.2.2.2.2.1 d.2.2.2.2.2.2.2.2.1 d.2.2.2.2.2.2.2.2.2.1 d.2.2.2.2.2.2.2.2.2.2.1 d.2.2.2.2.2.2.2.2.2.2.2.1) fun d => by kernel_rfl
noncomputable def sim_Run (n : Nat) (x1 : List Kiiiiiii) (x2 : List Ksi) (x3 : List Ksiii) (x4 : List Kisi) (x5 : List Ksi) (x6 : List (List Int)) : Option (List (List Bool) × Unit) :=
 (sim_cycles n x1 x2 x3 x4 x5 x6).bind (fun r7 => (sim_cycles_1__sim_Run_o n 0 r7.1 r7.2.1 r7.2.2.1 r7.2.2.2.1 r7.2.2.2.2.1 r7.2.2.2.2.2.1 x1 x2 x3 x4 x5).bind (fun r8 => ask (0 ≤ r8.1) (cond (decide (r8.1 = 0))
 (some (r8.2.2.2.2.2.2.2.2.2.2.2.2.1, ()))
 (none))))
def sim_Run_s : Sig := ⟨[.c true [.row Kiiiiiii_, .row Ksi_, .row Ksiii_, .row Kisi_, .row Ksi_], .c false [.row KLi_]], [], .c false [.row KLb_], []⟩
def sim_Run_a : Ann := .s .d (.s .d (.s (.s .d (.b (.r 23000 [2, 5] [] [.normal]))) .d))
noncomputable def sim_Run_c (n : Nat) : Ctr Try.prog := .of Try.func23 n [sim_cycles_c n, sim_cycles_1__sim_Run_o_c n] sim_Run_a sim_Run_s (fun d => sim_Run n d.1 d.2.1 d.2.2.1 d.2.2.2.1 d.2.2.2.2.1 d.2.2.2.2.2.1) fun d => by kernel_rfl
noncomputable def law12_in_l1b (n : Nat) (x1 : List (List Int)) (x2 : List Int) (self : Int × Unit → Option ((Bool × Unit) ⊕ (Unit))) (d4 : Int × Unit) : Option ((Bool × Unit) ⊕ (Unit)) :=
 cond (decide (d4.1 < (x1.length : Int)))
 (ask (0 ≤ d4.1 ∧ d4.1 < (x1.length : Int)) ((ref11_SameRows n ([KLi_at x1 d4.1] : List (List Int)) ([x2] : List (List Int))).bind (fun r5 => cond r5.1
 (some (.inl (true, ())))
 (self (IntKind.wrap .i64 (d4.1 + 1), ())))))
 (some (.inr ()))
noncomputable def law12_in_l1 (n : Nat) (x1 : List (List Int)) (x2 : List Int) : Int × Unit → Option ((Bool × Unit) ⊕ (Unit)) := iter (law12_in_l1b n x1 x2) n
noncomputable def law12_in (n : Nat) (x1 : List (List Int)) (x2 : List Int) : Option (Bool × Unit) :=
 (law12_in_l1 n x1 x2 (0, ())).bind (Sum.elim (fun d6 => some (d6.1, ())) (fun d7 => some (false, ())))
def law12_in_s : Sig := ⟨[.c false [.row KLi_], .c false [.row i_]], [], .c false [.bool], []⟩
def law12_in_a : Ann := .s .d (.s (.s .d (.b (.l [4, 5, 6, 7, 8, 9, 10, 11, 12, 13, 14, 15, 16, 17, 18, 19] [] ⟨[(5, .c false [.int .i64])], []⟩ [(.ret, ⟨[(4, .c false [.bool])], []⟩), (.exit 0, ⟨[], []⟩)] .d))) .d)
noncomputable def law12_in_c (n : Nat) : Ctr Try.prog := .of Try.func25 n [ref11_SameRows_c n] law12_in_a law12_in_s (fun d => law12_in n d.1 d.2.1) fun d => by kernel_rfl
noncomputable def law12_ReachMany_l1b (n : Nat) (r12 : List (List Int) × Unit) (r13 : List (List Bool) × Unit) (x1 : List Kiiiiiii) (x2 : List Ksi) (x3 : List Ksiii) (x4 : List Kisi) (x5 : List Ksi) (self : Int × List (List Int) × Unit → Option ((List (List Int) × Unit))) (d15 : Int × List (List Int) × Unit) : Option ((List (List Int) × Unit)) :=
 cond (decide (d15.1 < (r12.1.length : Int)))
 (cond (decide ((0 : Int) < d15.1))
 (ask (0 ≤ (IntKind.wrap .i64 (d15.1 - 1)) ∧ IntKind.wrap .i64 (d15.1 - 1) < (r13.1.length : Int)) (cond (decide (((KLb_at r13.1 (IntKind.wrap .i64 (d15.1 - 1))).length : Int) ≠ (x4.length : Int)))
 (some (d15.2.1, ()))
 (ask (0 ≤ (IntKind.wrap .i64 (d15.1 - 1)) ∧ IntKind.wrap .i64 (d15.1 - 1) < (r13.1.length : Int)) ((ref11_Legal n x1 x2 x3 x4 x5 (KLb_at r13.1 (IntKind.wrap .i64 (d15.1 - 1)))).bind (fun r16 => cond (!r16.1)
 (some (d15.2.1, ()))
 (ask (0 ≤ d15.1 ∧ d15.1 < (r12.1.length : Int)) ((law12_in n d15.2.1 (KLi_at r12.1 d15.1)).bind (fun r17 => cond (!r17.1)
 (ask (0 ≤ d15.1 ∧ d15.1 < (r12.1.length : Int)) (ask (True ∧ (d15.2.1.length + (([KLi_at r12.1 d15.1] : List (List Int))).length) * 24 ≤ 140737488355328) (self (IntKind.wrap .i64 (d15.1 + 1), d15.2.1 ++ ([KLi_at r12.1 d15.1] : List (List Int)), ()))))
 (self (IntKind.wrap .i64 (d15.1 + 1), d15.2.1, ()))))))))))
 (ask (0 ≤ d15.1 ∧ d15.1 < (r12.1.length : Int)) ((law12_in n d15.2.1 (KLi_at r12.1 d15.1)).bind (fun r18 => cond (!r18.1)
 (ask (0 ≤ d15.1 ∧ d15.1 < (r12.1.length : Int)) (ask (True ∧ (d15.2.1.length + (([KLi_at r12.1 d15.1] : List (List Int))).length) * 24 ≤ 140737488355328) (self (IntKind.wrap .i64 (d15.1 + 1), d15.2.1 ++ ([KLi_at r12.1 d15.1] : List (List Int)), ()))))
 (self (IntKind.wrap .i64 (d15.1 + 1), d15.2.1, ()))))))
 (some (d15.2.1, ()))
noncomputable def law12_ReachMany_l1 (n : Nat) (r12 : List (List Int) × Unit) (r13 : List (List Bool) × Unit) (x1 : List Kiiiiiii) (x2 : List Ksi) (x3 : List Ksiii) (x4 : List Kisi) (x5 : List Ksi) : Int × List (List Int) × Unit → Option ((List (List Int) × Unit)) := iter (law12_ReachMany_l1b n r12 r13 x1 x2 x3 x4 x5) n
noncomputable def law12_ReachMany (n : Nat) (x1 : List Kiiiiiii) (x2 : List Ksi) (x3 : List Ksiii) (x4 : List Kisi) (x5 : List Ksi) (x6 : Int) (x7 : List (List Int)) : Option (Bool × Unit) :=
 (law12_head n).bind (fun r8 => (law12_Great n x1 x2 x3 x4 x5).bind (fun r9 => cond r9.1
 (some (r8.1, ()))
 (cond (decide ((x4.length : Int) = 0))
 (some (r8.1, ()))
 ((reach_Many n x1 x2 x3 x4 x5).bind (fun r10 => cond (decide (r10.2.1 ≠ 0))
 (cond r8.1
 (some (decide (r10.1 = 0), ()))
 (some (false, ())))
 ((law11_Trace n x1 x2 x3 x4 x5 x7).bind (fun r11 => (sim_States n x1 x2 x3 x4 x5 r11.1).bind (fun r12 => (sim_Run n x1 x2 x3 x4 x5 r11.1).bind (fun r13 => cond (decide ((r12.1.length : Int) ≠ (IntKind.wrap .i64 ((r11.1.length : Int) + 1))))
 (some (false, ()))
 (cond (decide ((r13.1.length : Int) ≠ (r11.1.length : Int)))
 (some (false, ()))
 ((law12_ReachMany_l1 n r12 r13 x1 x2 x3 x4 x5 (0, ([] : List (List Int)), ())).bind (fun d19 => ask ((x4.length : Int) ≠ 0) ((reach_Tell n x1 x2 x3 x4 x5 (Int.tmod (IntKind.wrap .i64 x6) (x4.length : Int))).bind (fun r20 => cond (decide (r20.2.2.2.1 = 0))
 (cond (decide (r20.1 = 2))
 (cond (decide (r10.1 ≤ r20.2.1))
 (some (false, ()))
 (cond (decide (r20.2.1 < 0))
 (some (false, ()))
 (cond r8.1
 (cond (decide ((1 : Int) ≤ r10.1))
 (some (decide ((d19.1.length : Int) ≤ r10.1), ()))
 (some (false, ())))
 (some (false, ())))))
 (cond r8.1
 (cond (decide ((1 : Int) ≤ r10.1))
 (some (decide ((d19.1.length : Int) ≤ r10.1), ()))
 (some (false, ())))
 (some (false, ()))))
 (cond r8.1
 (cond (decide ((1 : Int) ≤ r10.1))
 (some (decide ((d19.1.length : Int) ≤ r10.1), ()))
 (some (false, ())))
 (some (false, ())))))))))))))))))
def law12_ReachMany_s : Sig := ⟨[.c true [.row Kiiiiiii_, .row Ksi_, .row Ksiii_, .row Kisi_, .row Ksi_], .c false [.int .u8], .c false [.row KLw_]], [], .c false [.bool], []⟩
def law12_ReachMany_a : Ann := .s .d (.s .d (.s .d (.s .d (.s .d (.s .d (.s .d (.s .d (.s .d (.s .d (.s (.s .d (.b (.l [13, 14, 61, 62, 63, 64, 65, 66, 67, 68, 69, 70, 71, 72, 73, 74, 75, 76, 77, 78, 79, 80, 81, 82, 83, 84, 85, 86, 87, 88, 89, 90, 91, 92, 93, 94, 95, 96, 97, 98, 99, 100, 101, 102, 103, 104] [] ⟨[(13, .c false [.con (.own 100000 1)]), (14, .c false [.int .i64])], [(100000, .row 59 KLi_)]⟩ [(.exit 0, ⟨[(13, .c false [.con (.own 100000 1)])], [(100000, .row 59 KLi_)]⟩)] .d))) .d))))))))))
noncomputable def law12_ReachMany_c (n : Nat) : Ctr Try.prog := .of Try.func8 n [law12_head_c n, law12_Great_c n, reach_Many_c n, law11_Trace_c n, sim_States_c n, sim_Run_c n, ref11_Legal_c n, law12_in_c n, reach_Tell_c n] law12_ReachMany_a law12_ReachMany_s (fun d => law12_ReachMany n d.1 d.2.1 d.2.2.1 d.2.2.2.1 d.2.2.2.2.1 d.2.2.2.2.2.1 d.2.2.2.2.2.2.1) fun d => by kernel_rfl
end Go.Proofs.Ytieocmcjecpgpaa.Am
