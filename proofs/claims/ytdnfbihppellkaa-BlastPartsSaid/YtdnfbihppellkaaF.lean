/- Functions, executed. -/
import Derived.Test.YtdnfbihppellkaaAm2
import Derived.Test.YtdnfbihppellkaaProg
namespace Go.Proofs.Ytdnfbihppellkaa.Am
set_option linter.unusedVariables false
set_option maxRecDepth 100000
abbrev i_ : Ty := .int .i64
abbrev i32_ : Ty := .int .i32
abbrev i16_ : Ty := .int .i16
abbrev i8_ : Ty := .int .i8
abbrev u_ : Ty := .int .u64
abbrev u32_ : Ty := .int .u32
abbrev u16_ : Ty := .int .u16
abbrev u8_ : Ty := .int .u8
abbrev b_ : Ty := .bool
abbrev s_ : Ty := .str
abbrev Kww_ : Ty := .pr u16_ u16_
abbrev Kww := Int × Int
abbrev Kwww_ : Ty := .pr u16_ Kww_
abbrev Kwww := Int × Int × Int
abbrev Kcwww_ : Ty := .pr u8_ Kwww_
abbrev Kcwww := Int × Int × Int × Int
abbrev Kii_ : Ty := .pr i_ i_
abbrev Kii := Int × Int
abbrev KLPiiE_ : Ty := .sl Kii_
abbrev KLi_ : Ty := .sl i_
abbrev KLiLi_ : Ty := .pr KLi_ KLi_
abbrev KLiLi := (List Int) × (List Int)
abbrev KLiLiLi_ : Ty := .pr KLi_ KLiLi_
abbrev KLiLiLi := (List Int) × (List Int) × (List Int)
abbrev KiLiLiLi_ : Ty := .pr i_ KLiLiLi_
abbrev KiLiLiLi := Int × (List Int) × (List Int) × (List Int)
abbrev KiiLiLiLi_ : Ty := .pr i_ KiLiLiLi_
abbrev KiiLiLiLi := Int × Int × (List Int) × (List Int) × (List Int)
abbrev KiiiLiLiLi_ : Ty := .pr i_ KiiLiLiLi_
abbrev KiiiLiLiLi := Int × Int × Int × (List Int) × (List Int) × (List Int)
abbrev KiiiiLiLiLi_ : Ty := .pr i_ KiiiLiLiLi_
abbrev KiiiiLiLiLi := Int × Int × Int × Int × (List Int) × (List Int) × (List Int)
abbrev KiiiiiLiLiLi_ : Ty := .pr i_ KiiiiLiLiLi_
abbrev KiiiiiLiLiLi := Int × Int × Int × Int × Int × (List Int) × (List Int) × (List Int)
abbrev KiiiiiiLiLiLi_ : Ty := .pr i_ KiiiiiLiLiLi_
abbrev KiiiiiiLiLiLi := Int × Int × Int × Int × Int × Int × (List Int) × (List Int) × (List Int)
abbrev KiiiiiiiLiLiLi_ : Ty := .pr i_ KiiiiiiLiLiLi_
abbrev KiiiiiiiLiLiLi := Int × Int × Int × Int × Int × Int × Int × (List Int) × (List Int) × (List Int)
abbrev KLPiiEiiiiiiiLiLiLi_ : Ty := .pr KLPiiE_ KiiiiiiiLiLiLi_
abbrev KLPiiEiiiiiiiLiLiLi := (List Kii) × Int × Int × Int × Int × Int × Int × Int × (List Int) × (List Int) × (List Int)
abbrev KiLPiiEiiiiiiiLiLiLi_ : Ty := .pr i_ KLPiiEiiiiiiiLiLiLi_
abbrev KiLPiiEiiiiiiiLiLiLi := Int × (List Kii) × Int × Int × Int × Int × Int × Int × Int × (List Int) × (List Int) × (List Int)
def KiLPiiEiiiiiiiLiLiLi_at (l : List KiLPiiEiiiiiiiLiLiLi) (i : Int) : KiLPiiEiiiiiiiLiLiLi := at_ KiLPiiEiiiiiiiLiLiLi_ l i
def Ki_at (l : List Int) (i : Int) : Int := at_ i_ l i
def Kii_at (l : List Kii) (i : Int) : Kii := at_ Kii_ l i
def KLi_at (l : List (List Int)) (i : Int) : List Int := at_ KLi_ l i
def Mii_b_put (l : List (Kii × Bool)) (k : Kii) (v : Bool) : List (Kii × Bool) := mput (kt := Kii_) (vt := b_) l k v
def Mii_b_get (l : List (Kii × Bool)) (k : Kii) (z : Bool) : Bool := mget (kt := Kii_) (vt := b_) l k z
def Mii_b_has (l : List (Kii × Bool)) (k : Kii) : Bool := mhas (kt := Kii_) (vt := b_) l k
def Kb_at (l : List Bool) (i : Int) : Bool := at_ b_ l i
def Kcwww_at (l : List Kcwww) (i : Int) : Kcwww := at_ Kcwww_ l i
def Kw_at (l : List Int) (i : Int) : Int := at_ u16_ l i
noncomputable def aig_New (n : Nat) (x1 : Int) : Option (Int × Unit) :=
 some (x1, ())
def aig_New_s : Sig := ⟨[.c false [.int .i64]], [], .c true [.int .i64, .con .nilsl], []⟩
def aig_New_a : Ann := .d
noncomputable def aig_New_c (n : Nat) : Ctr Try.prog := .of Try.func20 n [] aig_New_a aig_New_s (fun d => aig_New n d.1) fun d => by kernel_rfl
noncomputable def blast_works (n : Nat) : Option (Unit) :=
 some ()
def blast_works_s : Sig := ⟨[], [], .c false [.con (.map 100)], [(100, .tab [(.i64, 1), (.i64, 3), (.i64, 4), (.i64, 5), (.i64, 6), (.i64, 7), (.i64, 8), (.i64, 9), (.i64, 10), (.i64, 11), (.i64, 12), (.i64, 13), (.i64, 14), (.i64, 15), (.i64, 16), (.i64, 17), (.i64, 18)] [(false, [.con (.fn 44 [])]), (false, [.con (.fn 45 [])]), (false, [.con (.fn 46 [])]), (false, [.con (.fn 47 [])]), (false, [.con (.fn 48 [])]), (false, [.con (.fn 49 [])]), (false, [.con (.fn 50 [])]), (false, [.con (.fn 51 [])]), (false, [.con (.fn 52 [])]), (false, [.con (.fn 53 [])]), (false, [.con (.fn 54 [])]), (false, [.con (.fn 55 [])]), (false, [.con (.fn 56 [])]), (false, [.con (.fn 57 [])]), (false, [.con (.fn 58 [])]), (false, [.con (.fn 59 [])]), (false, [.con (.fn 60 [])])])]⟩
def blast_works_a : Ann := .d
noncomputable def blast_works_c (n : Nat) : Ctr Try.prog := .of Try.func34 n [] blast_works_a blast_works_s (fun d => blast_works n) fun d => by kernel_rfl
noncomputable def blast_maker_doLit_l1b (n : Nat) (x1 : List KiLPiiEiiiiiiiLiLiLi) (x2 : Int) (self : Int × List Int × Unit → Option ((List Int × Unit))) (d5 : Int × List Int × Unit) : Option ((List Int × Unit)) :=
 cond (decide (d5.1 < ((List.replicate (((((KiLPiiEiiiiiiiLiLiLi_at x1 x2).2).2).2).1).toNat (0 : Int)).length : Int)))
 (ask (0 ≤ d5.1) (ask (0 ≤ d5.1 ∧ d5.1 < (d5.2.1.length : Int)) (self (IntKind.wrap .i64 (d5.1 + 1), d5.2.1.set d5.1.toNat (bits .and .i64 (shrI .i64 (((((((((KiLPiiEiiiiiiiLiLiLi_at x1 x2).2).2).2).2).2).2).2).1) d5.1) 1), ()))))
 (some (d5.2.1, ()))
noncomputable def blast_maker_doLit_l1 (n : Nat) (x1 : List KiLPiiEiiiiiiiLiLiLi) (x2 : Int) : Int × List Int × Unit → Option ((List Int × Unit)) := iter (blast_maker_doLit_l1b n x1 x2) n
noncomputable def blast_maker_doLit (n : Nat) (x1 : List KiLPiiEiiiiiiiLiLiLi) (x2 : Int) : Option (List Int × Unit) :=
 ask ((0 ≤ (((((KiLPiiEiiiiiiiLiLiLi_at x1 x2).2).2).2).1) ∧ ((((KiLPiiEiiiiiiiLiLiLi_at x1 x2).2).2).2).1 ≤ ((((KiLPiiEiiiiiiiLiLiLi_at x1 x2).2).2).2).1) ∧ (8 : Int) * (((((KiLPiiEiiiiiiiLiLiLi_at x1 x2).2).2).2).1) ≤ 281474976710656 ∧ ((((KiLPiiEiiiiiiiLiLiLi_at x1 x2).2).2).2).1 ≤ 281474976710656) ((blast_maker_doLit_l1 n x1 x2 (0, List.replicate (((((KiLPiiEiiiiiiiLiLiLi_at x1 x2).2).2).2).1).toNat (0 : Int), ())).bind (fun d6 => some (d6.1, ())))
def blast_maker_doLit_s : Sig := ⟨[.c false [.rp KiLPiiEiiiiiiiLiLiLi_ 0]], [], .c false [.row i_], []⟩
def blast_maker_doLit_a : Ann := .s .d (.s .d (.s (.s .d (.b (.l [3, 4, 10, 11, 13, 14, 15, 16, 17, 18, 19, 20, 21, 22, 23, 24, 25, 26, 27] [420] ⟨[(3, .c false [.con (.own 420 1)]), (13, .c false [.int .i64])], [(420, .row 3 i_)]⟩ [(.exit 0, ⟨[(3, .c false [.con (.own 420 1)])], [(420, .row 3 i_)]⟩)] .d))) .d))
noncomputable def blast_maker_doLit_c (n : Nat) : Ctr Try.prog := .of Try.func44 n [] blast_maker_doLit_a blast_maker_doLit_s (fun d => blast_maker_doLit n d.1 d.2.1) fun d => by kernel_rfl
noncomputable def blast_maker_doLit_o_l1b (n : Nat) (x1 : List KiLPiiEiiiiiiiLiLiLi) (x2 : Int) (self : Int × List Int × Unit → Option ((List Int × Unit))) (d5 : Int × List Int × Unit) : Option ((List Int × Unit)) :=
 cond (decide (d5.1 < ((List.replicate (((((KiLPiiEiiiiiiiLiLiLi_at x1 x2).2).2).2).1).toNat (0 : Int)).length : Int)))
 (ask (0 ≤ d5.1) (ask (0 ≤ d5.1 ∧ d5.1 < (d5.2.1.length : Int)) (self (IntKind.wrap .i64 (d5.1 + 1), d5.2.1.set d5.1.toNat (bits .and .i64 (shrI .i64 (((((((((KiLPiiEiiiiiiiLiLiLi_at x1 x2).2).2).2).2).2).2).2).1) d5.1) 1), ()))))
 (some (d5.2.1, ()))
noncomputable def blast_maker_doLit_o_l1 (n : Nat) (x1 : List KiLPiiEiiiiiiiLiLiLi) (x2 : Int) : Int × List Int × Unit → Option ((List Int × Unit)) := iter (blast_maker_doLit_o_l1b n x1 x2) n
noncomputable def blast_maker_doLit_o (n : Nat) (x1 : List KiLPiiEiiiiiiiLiLiLi) (x2 : Int) : Option (List Int × Unit) :=
 ask ((0 ≤ (((((KiLPiiEiiiiiiiLiLiLi_at x1 x2).2).2).2).1) ∧ ((((KiLPiiEiiiiiiiLiLiLi_at x1 x2).2).2).2).1 ≤ ((((KiLPiiEiiiiiiiLiLiLi_at x1 x2).2).2).2).1) ∧ (8 : Int) * (((((KiLPiiEiiiiiiiLiLiLi_at x1 x2).2).2).2).1) ≤ 281474976710656 ∧ ((((KiLPiiEiiiiiiiLiLiLi_at x1 x2).2).2).2).1 ≤ 281474976710656) ((blast_maker_doLit_o_l1 n x1 x2 (0, List.replicate (((((KiLPiiEiiiiiiiLiLiLi_at x1 x2).2).2).2).1).toNat (0 : Int), ())).bind (fun d6 => some (d6.1, ())))
def blast_maker_doLit_o_s : Sig := ⟨[.c false [.rp KiLPiiEiiiiiiiLiLiLi_ 0]], [], .c false [.con (.own 420 1)], [(420, .row 3 i_)]⟩
def blast_maker_doLit_o_a : Ann := .s .d (.s .d (.s (.s .d (.b (.l [3, 4, 10, 11, 13, 14, 15, 16, 17, 18, 19, 20, 21, 22, 23, 24, 25, 26, 27] [420] ⟨[(3, .c false [.con (.own 420 1)]), (13, .c false [.int .i64])], [(420, .row 3 i_)]⟩ [(.exit 0, ⟨[(3, .c false [.con (.own 420 1)])], [(420, .row 3 i_)]⟩)] .d))) .d))
noncomputable def blast_maker_doLit_o_c (n : Nat) : Ctr Try.prog := .of Try.func44 n [] blast_maker_doLit_o_a blast_maker_doLit_o_s (fun d => blast_maker_doLit_o n d.1 d.2.1) fun d => by kernel_rfl
noncomputable def slices_Clone_int_int (n : Nat) (l : List Int) : Option (List Int × Unit) :=
 ask (True ∧ ((([] : List Int)).length + l.length) * 8 ≤ 140737488355328) (some (l, ()))
def slices_Clone_int_int_s : Sig := cloneS i_ (.c false [.row i_]) []
noncomputable def slices_Clone_int_int_c (n : Nat) : Ctr Try.prog := ⟨.fn 93, slices_Clone_int_int_s, fun d => slices_Clone_int_int n d.1, fun d r h => Spec.clone (P := Try.prog) (f := 93) (fn := Try.f93) (t := i_) (T := 32) (E' := 3) (o := (.c false [.row i_])) (ob := []) (c := fun l : List Int => True ∧ ((([] : List Int)).length + l.length) * 8 ≤ 140737488355328) (g := fun l : List Int => (l, ())) (d := d) (r := r) rfl Try.func93 rfl rfl rfl rfl rfl rfl rfl rfl (by kernel_rfl) (by kernel_rfl) (by kernel_rfl) (by kernel_rfl) (fun l => by kernel_rfl) (fun l => by kernel_rfl) (fun l => by kernel_rfl) (fun l => by kernel_rfl) h⟩
noncomputable def slices_Clone_int_int_o (n : Nat) (l : List Int) : Option (List Int × Unit) :=
 ask (True ∧ ((([] : List Int)).length + l.length) * 8 ≤ 140737488355328) (some (l, ()))
def slices_Clone_int_int_o_s : Sig := cloneS i_ (.c false [.con (.own 228 1)]) [(228, .row 3 i_)]
noncomputable def slices_Clone_int_int_o_c (n : Nat) : Ctr Try.prog := ⟨.fn 93, slices_Clone_int_int_o_s, fun d => slices_Clone_int_int_o n d.1, fun d r h => Spec.clone (P := Try.prog) (f := 93) (fn := Try.f93) (t := i_) (T := 32) (E' := 3) (o := (.c false [.con (.own 228 1)])) (ob := [(228, .row 3 i_)]) (c := fun l : List Int => True ∧ ((([] : List Int)).length + l.length) * 8 ≤ 140737488355328) (g := fun l : List Int => (l, ())) (d := d) (r := r) rfl Try.func93 rfl rfl rfl rfl rfl rfl rfl rfl (by kernel_rfl) (by kernel_rfl) (by kernel_rfl) (by kernel_rfl) (fun l => by kernel_rfl) (fun l => by kernel_rfl) (fun l => by kernel_rfl) (fun l => by kernel_rfl) h⟩
noncomputable def blast_turned_l1b (n : Nat) (r2 : List Int × Unit) (self : Int × List Int × Unit → Option ((List Int × Unit))) (d5 : Int × List Int × Unit) : Option ((List Int × Unit)) :=
 cond (decide (d5.1 < (r2.1.length : Int)))
 (ask (0 ≤ d5.1 ∧ d5.1 < (d5.2.1.length : Int)) (ask (0 ≤ d5.1 ∧ d5.1 < (d5.2.1.length : Int)) (self (IntKind.wrap .i64 (d5.1 + 1), d5.2.1.set d5.1.toNat (bits .xor .i64 (Ki_at d5.2.1 d5.1) 1), ()))))
 (some (d5.2.1, ()))
noncomputable def blast_turned_l1 (n : Nat) (r2 : List Int × Unit) : Int × List Int × Unit → Option ((List Int × Unit)) := iter (blast_turned_l1b n r2) n
noncomputable def blast_turned (n : Nat) (x1 : List Int) : Option (List Int × Unit) :=
 (slices_Clone_int_int_o n x1).bind (fun r2 => (blast_turned_l1 n r2 (0, r2.1, ())).bind (fun d6 => some (d6.1, ())))
def blast_turned_s : Sig := ⟨[.c false [.row i_]], [], .c false [.row i_], []⟩
def blast_turned_a : Ann := .s .d (.s .d (.s (.s .d (.b (.l [3, 4, 6, 7, 9, 10, 11, 12, 13, 14, 15, 16, 17, 18] [164] ⟨[(3, .c false [.con (.own 164 1)]), (9, .c false [.int .i64])], [(164, .row 3 i_)]⟩ [(.exit 0, ⟨[(3, .c false [.con (.own 164 1)])], [(164, .row 3 i_)]⟩)] .d))) .d))
noncomputable def blast_turned_c (n : Nat) : Ctr Try.prog := .of Try.func83 n [slices_Clone_int_int_o_c n] blast_turned_a blast_turned_s (fun d => blast_turned n d.1) fun d => by kernel_rfl
noncomputable def blast_maker_doInv (n : Nat) (x1 : List KiLPiiEiiiiiiiLiLiLi) (x2 : Int) : Option (List Int × Unit) :=
 (blast_turned n (((((((((((KiLPiiEiiiiiiiLiLiLi_at x1 x2).2).2).2).2).2).2).2).2).2).1)).bind (fun r3 => some (r3.1, ()))
def blast_maker_doInv_s : Sig := ⟨[.c false [.rp KiLPiiEiiiiiiiLiLiLi_ 0]], [], .c false [.row i_], []⟩
def blast_maker_doInv_a : Ann := .d
noncomputable def blast_maker_doInv_c (n : Nat) : Ctr Try.prog := .of Try.func45 n [blast_turned_c n] blast_maker_doInv_a blast_maker_doInv_s (fun d => blast_maker_doInv n d.1 d.2.1) fun d => by kernel_rfl
noncomputable def blast_maker_doInv_o (n : Nat) (x1 : List KiLPiiEiiiiiiiLiLiLi) (x2 : Int) : Option (List Int × Unit) :=
 (blast_turned n (((((((((((KiLPiiEiiiiiiiLiLiLi_at x1 x2).2).2).2).2).2).2).2).2).2).1)).bind (fun r3 => some (r3.1, ()))
def blast_maker_doInv_o_s : Sig := ⟨[.c false [.rp KiLPiiEiiiiiiiLiLiLi_ 0]], [], .c false [.row i_], []⟩
def blast_maker_doInv_o_a : Ann := .d
noncomputable def blast_maker_doInv_o_c (n : Nat) : Ctr Try.prog := .of Try.func45 n [blast_turned_c n] blast_maker_doInv_o_a blast_maker_doInv_o_s (fun d => blast_maker_doInv_o n d.1 d.2.1) fun d => by kernel_rfl
noncomputable def blast_maker_doInv_i2 (n : Nat) (x1 : Int) (x2 : List Kii) (x3 : Int) (x4 : Int) (x5 : Int) (x6 : Int) (x7 : Int) (x8 : Int) (x9 : Int) (x10 : List Int) (x11 : List Int) (x12 : List Int) : Option (List Int × Int × List Kii × Int × Int × Int × Int × Int × Int × Int × List Int × List Int × List Int × Unit) :=
 (blast_turned n x10).bind (fun r13 => some (r13.1, x1, x2, x3, x4, x5, x6, x7, x8, x9, x10, x11, x12, ()))
def blast_maker_doInv_i2_s : Sig := ⟨[.c false [.con (.ptr 0 0)]], [(0, .var 69 [.int .i64, .row Kii_, .int .i64, .int .i64, .int .i64, .int .i64, .int .i64, .int .i64, .int .i64, .row i_, .row i_, .row i_])], .c false [.row i_], [(0, .var 69 [.int .i64, .row Kii_, .int .i64, .int .i64, .int .i64, .int .i64, .int .i64, .int .i64, .int .i64, .row i_, .row i_, .row i_])]⟩
def blast_maker_doInv_i2_a : Ann := .d
noncomputable def blast_maker_doInv_i2_c (n : Nat) : Ctr Try.prog := .of Try.func45 n [blast_turned_c n] blast_maker_doInv_i2_a blast_maker_doInv_i2_s (fun d => blast_maker_doInv_i2 n d.1 d.2.1 d.2.2.1 d.2.2.2.1 d.2.2.2.2.1 d.2.2.2.2.2.1 d.2.2.2.2.2.2.1 d.2.2.2.2.2.2.2.1 d.2.2.2.2.2.2.2.2.1 d.2.2.2.2.2.2.2.2.2.1 d.2.2.2.2.2.2.2.2.2.2.1 d.2.2.2.2.2.2.2.2.2.2.2.1) fun d => by kernel_rfl
noncomputable def aig_of (n : Nat) (x1 : Int) (x2 : Int) : Option (Int × Int × Unit) :=
 ask (True) (ask (True) (some ((if x2 < x1 then x2 else x1), (if x2 > x1 then x2 else x1), ())))
def aig_of_s : Sig := ⟨[.c false [.int .i64], .c false [.int .i64]], [], .c true [.int .i64, .int .i64], []⟩
def aig_of_a : Ann := .d
noncomputable def aig_of_c (n : Nat) : Ctr Try.prog := .of Try.func35 n [] aig_of_a aig_of_s (fun d => aig_of n d.1 d.2.1) fun d => by kernel_rfl
noncomputable def aig_rules (n : Nat) : Option (Unit) :=
 some ()
def aig_rules_s : Sig := ⟨[], [], .c false [.con (.sub 484 2 0 3)], [(484, .var 94 [.con (.fn 96 []), .con (.fn 94 []), .con (.fn 97 []), .con (.fn 94 []), .con (.fn 98 []), .con (.fn 95 [])])]⟩
def aig_rules_a : Ann := .d
noncomputable def aig_rules_c (n : Nat) : Ctr Try.prog := .of Try.func61 n [] aig_rules_a aig_rules_s (fun d => aig_rules n) fun d => by kernel_rfl
noncomputable def aig_rules_3 (n : Nat) (x1 : Int) (x2 : Int) : Option (Bool × Unit) :=
 ask (0 < 2) (some (decide (x1 = 0), ()))
def aig_rules_3_s : Sig := ⟨[.c true [.int .i64, .int .i64]], [], .c false [.bool], []⟩
def aig_rules_3_a : Ann := .d
noncomputable def aig_rules_3_c (n : Nat) : Ctr Try.prog := .of Try.func96 n [] aig_rules_3_a aig_rules_3_s (fun d => aig_rules_3 n d.1 d.2.1) fun d => by kernel_rfl
noncomputable def aig_rules_1 (n : Nat) (x1 : Int) (x2 : Int) : Option (Int × Unit) :=
 some (0, ())
def aig_rules_1_s : Sig := ⟨[.c true [.int .i64, .int .i64]], [], .c false [.int .i64], []⟩
def aig_rules_1_a : Ann := .d
noncomputable def aig_rules_1_c (n : Nat) : Ctr Try.prog := .of Try.func94 n [] aig_rules_1_a aig_rules_1_s (fun d => aig_rules_1 n d.1 d.2.1) fun d => by kernel_rfl
noncomputable def aig_rules_4 (n : Nat) (x1 : Int) (x2 : Int) : Option (Bool × Unit) :=
 ask (0 < 2) (ask (1 < 2) (some (decide ((bits .xor .i64 x1 1) = x2), ())))
def aig_rules_4_s : Sig := ⟨[.c true [.int .i64, .int .i64]], [], .c false [.bool], []⟩
def aig_rules_4_a : Ann := .d
noncomputable def aig_rules_4_c (n : Nat) : Ctr Try.prog := .of Try.func97 n [] aig_rules_4_a aig_rules_4_s (fun d => aig_rules_4 n d.1 d.2.1) fun d => by kernel_rfl
noncomputable def aig_rules_5 (n : Nat) (x1 : Int) (x2 : Int) : Option (Bool × Unit) :=
 ask (0 < 2) (cond (decide (x1 = 1))
 (some (true, ()))
 (ask (0 < 2) (ask (1 < 2) (some (decide (x1 = x2), ())))))
def aig_rules_5_s : Sig := ⟨[.c true [.int .i64, .int .i64]], [], .c false [.bool], []⟩
def aig_rules_5_a : Ann := .d
noncomputable def aig_rules_5_c (n : Nat) : Ctr Try.prog := .of Try.func98 n [] aig_rules_5_a aig_rules_5_s (fun d => aig_rules_5 n d.1 d.2.1) fun d => by kernel_rfl
noncomputable def aig_rules_2 (n : Nat) (x1 : Int) (x2 : Int) : Option (Int × Unit) :=
 ask (1 < 2) (some (x2, ()))
def aig_rules_2_s : Sig := ⟨[.c true [.int .i64, .int .i64]], [], .c false [.int .i64], []⟩
def aig_rules_2_a : Ann := .d
noncomputable def aig_rules_2_c (n : Nat) : Ctr Try.prog := .of Try.func95 n [] aig_rules_2_a aig_rules_2_s (fun d => aig_rules_2 n d.1 d.2.1) fun d => by kernel_rfl
noncomputable def aig_plain (n : Nat) (x1 : Int) (x2 : Int) : Option (Int × Bool × Unit) :=
 (aig_rules n).bind (fun r3 => ask (0 < 3) ((aig_rules_3 n x1 x2).bind (fun r5 => cond r5.1
 ((aig_rules_1 n x1 x2).bind (fun r6 => some (r6.1, true, ())))
 (ask (1 < 3) ((aig_rules_4 n x1 x2).bind (fun r7 => cond r7.1
 ((aig_rules_1 n x1 x2).bind (fun r8 => some (r8.1, true, ())))
 (ask (2 < 3) ((aig_rules_5 n x1 x2).bind (fun r9 => cond r9.1
 ((aig_rules_2 n x1 x2).bind (fun r10 => some (r10.1, true, ())))
 (some (0, false, ())))))))))))
def aig_plain_s : Sig := ⟨[.c true [.int .i64, .int .i64]], [], .t [(false, [.int .i64]), (false, [.bool])], []⟩
def aig_plain_a : Ann := .s .d (.s (.s .d (.b (.u [.d, .d, .d, .d]))) .d)
noncomputable def aig_plain_c (n : Nat) : Ctr Try.prog := .of Try.func36 n [aig_rules_c n, aig_rules_3_c n, aig_rules_1_c n, aig_rules_4_c n, aig_rules_5_c n, aig_rules_2_c n] aig_plain_a aig_plain_s (fun d => aig_plain n d.1 d.2.1) fun d => by kernel_rfl
noncomputable def slices_Index_2_int_2_int_l1b (n : Nat) (x1 : List Kii) (x2 : Int) (x3 : Int) (self : Int × Unit → Option ((Int × Unit) ⊕ (Unit))) (d5 : Int × Unit) : Option ((Int × Unit) ⊕ (Unit)) :=
 cond (decide (d5.1 < (x1.length : Int)))
 (ask (0 ≤ d5.1 ∧ d5.1 < (x1.length : Int)) (cond ((x2 == (Kii_at x1 d5.1).1) && (x3 == (Kii_at x1 d5.1).2))
 (some (.inl (d5.1, ())))
 (self (IntKind.wrap .i64 (d5.1 + 1), ()))))
 (some (.inr ()))
noncomputable def slices_Index_2_int_2_int_l1 (n : Nat) (x1 : List Kii) (x2 : Int) (x3 : Int) : Int × Unit → Option ((Int × Unit) ⊕ (Unit)) := iter (slices_Index_2_int_2_int_l1b n x1 x2 x3) n
noncomputable def slices_Index_2_int_2_int (n : Nat) (x1 : List Kii) (x2 : Int) (x3 : Int) : Option (Int × Unit) :=
 (slices_Index_2_int_2_int_l1 n x1 x2 x3 (0, ())).bind (Sum.elim (fun d6 => some (d6.1, ())) (fun d7 => some ((-1), ())))
def slices_Index_2_int_2_int_s : Sig := ⟨[.c false [.row Kii_], .c true [.int .i64, .int .i64]], [], .c false [.int .i64], []⟩
def slices_Index_2_int_2_int_a : Ann := .s .d (.s (.s .d (.b (.l [4, 5, 8, 9, 10, 11, 12, 13, 14, 15, 16, 17, 18] [] ⟨[(8, .c false [.int .i64])], []⟩ [(.ret, ⟨[(4, .c false [.int .i64])], []⟩), (.exit 0, ⟨[], []⟩)] .d))) .d)
noncomputable def slices_Index_2_int_2_int_c (n : Nat) : Ctr Try.prog := .of Try.func103 n [] slices_Index_2_int_2_int_a slices_Index_2_int_2_int_s (fun d => slices_Index_2_int_2_int n d.1 d.2.1 d.2.2.1) fun d => by kernel_rfl
noncomputable def slices_Clone_2_int_2_int (n : Nat) (l : List Kii) : Option (List Kii × Unit) :=
 ask (True ∧ ((([] : List Kii)).length + l.length) * 16 ≤ 140737488355328) (some (l, ()))
def slices_Clone_2_int_2_int_s : Sig := cloneS Kii_ (.c false [.row Kii_]) []
noncomputable def slices_Clone_2_int_2_int_c (n : Nat) : Ctr Try.prog := ⟨.fn 104, slices_Clone_2_int_2_int_s, fun d => slices_Clone_2_int_2_int n d.1, fun d r h => Spec.clone (P := Try.prog) (f := 104) (fn := Try.f104) (t := Kii_) (T := 29) (E' := 75) (o := (.c false [.row Kii_])) (ob := []) (c := fun l : List Kii => True ∧ ((([] : List Kii)).length + l.length) * 16 ≤ 140737488355328) (g := fun l : List Kii => (l, ())) (d := d) (r := r) rfl Try.func104 rfl rfl rfl rfl rfl rfl rfl rfl (by kernel_rfl) (by kernel_rfl) (by kernel_rfl) (by kernel_rfl) (fun l => by kernel_rfl) (fun l => by kernel_rfl) (fun l => by kernel_rfl) (fun l => by kernel_rfl) h⟩
noncomputable def slices_Clone_2_int_2_int_o (n : Nat) (l : List Kii) : Option (List Kii × Unit) :=
 ask (True ∧ ((([] : List Kii)).length + l.length) * 16 ≤ 140737488355328) (some (l, ()))
def slices_Clone_2_int_2_int_o_s : Sig := cloneS Kii_ (.c false [.con (.own 228 2)]) [(228, .row 75 Kii_)]
noncomputable def slices_Clone_2_int_2_int_o_c (n : Nat) : Ctr Try.prog := ⟨.fn 104, slices_Clone_2_int_2_int_o_s, fun d => slices_Clone_2_int_2_int_o n d.1, fun d r h => Spec.clone (P := Try.prog) (f := 104) (fn := Try.f104) (t := Kii_) (T := 29) (E' := 75) (o := (.c false [.con (.own 228 2)])) (ob := [(228, .row 75 Kii_)]) (c := fun l : List Kii => True ∧ ((([] : List Kii)).length + l.length) * 16 ≤ 140737488355328) (g := fun l : List Kii => (l, ())) (d := d) (r := r) rfl Try.func104 rfl rfl rfl rfl rfl rfl rfl rfl (by kernel_rfl) (by kernel_rfl) (by kernel_rfl) (by kernel_rfl) (fun l => by kernel_rfl) (fun l => by kernel_rfl) (fun l => by kernel_rfl) (fun l => by kernel_rfl) h⟩
noncomputable def aig_And_j1 (n : Nat) (r5 : Int × Int × Unit) (r7 : Int × Unit) (x1 : Int) (x2 : List Kii) : Option ((Int × Int × List Kii × Unit)) :=
 cond (decide (r7.1 < 0))
 ((slices_Clone_2_int_2_int_o n x2).bind (fun r8 => ask (True ∧ (r8.1.length + (([(r5.1, r5.2.1)] : List Kii)).length) * 16 ≤ 140737488355328) (some ((x2.length : Int), x1, r8.1 ++ ([(r5.1, r5.2.1)] : List Kii), ()))))
 (some (r7.1, x1, x2, ()))
noncomputable def aig_And (n : Nat) (x1 : Int) (x2 : List Kii) (x3 : Int) (x4 : Int) : Option (Int × List Kii × Int × Unit) :=
 (aig_of n x3 x4).bind (fun r5 => (aig_plain n r5.1 r5.2.1).bind (fun r6 => cond r6.2.1
 (some (x1, x2, r6.1, ()))
 ((slices_Index_2_int_2_int n x2 r5.1 r5.2.1).bind (fun r7 => (aig_And_j1 n r5 r7 x1 x2).bind (fun d9 => ask (0 ≤ (1 : Int)) (some (d9.2.1, d9.2.2.1, shlI .i64 (IntKind.wrap .i64 ((IntKind.wrap .i64 (d9.2.1 + 1)) + d9.1)) 1, ())))))))
def aig_And_s : Sig := ⟨[.c true [.int .i64, .row Kii_], .c false [.int .i64], .c false [.int .i64]], [], .t [(true, [.int .i64, .row Kii_]), (false, [.int .i64])], []⟩
def aig_And_a : Ann := .s .d (.s .d (.s .d (.s .d (.j [3, 11, 23, 27, 28, 29, 30, 31, 32, 33, 34, 35, 36, 37, 38] [100] [(.normal, ⟨[(3, .c false [.con (.ptr 100 0)]), (11, .c false [.int .i64])], [(100, .var 31 [.int .i64, .row Kii_])]⟩)] .d .d))))
noncomputable def aig_And_c (n : Nat) : Ctr Try.prog := .of Try.func101 n [aig_of_c n, aig_plain_c n, slices_Index_2_int_2_int_c n, slices_Clone_2_int_2_int_o_c n] aig_And_a aig_And_s (fun d => aig_And n d.1 d.2.1 d.2.2.1 d.2.2.2.1) fun d => by kernel_rfl
noncomputable def blast_maker_and (n : Nat) (x1 : Int) (x2 : Int) (x3 : Int) (x4 : List Kii) (x5 : Int) (x6 : Int) (x7 : Int) (x8 : Int) (x9 : Int) (x10 : Int) (x11 : Int) (x12 : List Int) (x13 : List Int) (x14 : List Int) : Option (Int × Int × List Kii × Int × Int × Int × Int × Int × Int × Int × List Int × List Int × List Int × Unit) :=
 (aig_And n x3 x4 x1 x2).bind (fun r15 => some (r15.2.2.1, r15.1, r15.2.1, x5, x6, x7, x8, x9, x10, x11, x12, x13, x14, ()))
def blast_maker_and_s : Sig := ⟨[.c false [.con (.ptr 0 0)], .c false [.int .i64], .c false [.int .i64]], [(0, .var 69 [.int .i64, .row Kii_, .int .i64, .int .i64, .int .i64, .int .i64, .int .i64, .int .i64, .int .i64, .row i_, .row i_, .row i_])], .c false [.int .i64], [(0, .var 69 [.int .i64, .row Kii_, .int .i64, .int .i64, .int .i64, .int .i64, .int .i64, .int .i64, .int .i64, .row i_, .row i_, .row i_])]⟩
def blast_maker_and_a : Ann := .d
noncomputable def blast_maker_and_c (n : Nat) : Ctr Try.prog := .of Try.func86 n [aig_And_c n] blast_maker_and_a blast_maker_and_s (fun d => blast_maker_and n d.1 d.2.1 d.2.2.1 d.2.2.2.1 d.2.2.2.2.1 d.2.2.2.2.2.1 d.2.2.2.2.2.2.1 d.2.2.2.2.2.2.2.1 d.2.2.2.2.2.2.2.2.1 d.2.2.2.2.2.2.2.2.2.1 d.2.2.2.2.2.2.2.2.2.2.1 d.2.2.2.2.2.2.2.2.2.2.2.1 d.2.2.2.2.2.2.2.2.2.2.2.2.1 d.2.2.2.2.2.2.2.2.2.2.2.2.2.1) fun d => by kernel_rfl
noncomputable def blast_maker_or (n : Nat) (x1 : Int) (x2 : Int) (x3 : Int) (x4 : List Kii) (x5 : Int) (x6 : Int) (x7 : Int) (x8 : Int) (x9 : Int) (x10 : Int) (x11 : Int) (x12 : List Int) (x13 : List Int) (x14 : List Int) : Option (Int × Int × List Kii × Int × Int × Int × Int × Int × Int × Int × List Int × List Int × List Int × Unit) :=
 (blast_maker_and n (bits .xor .i64 x1 1) (bits .xor .i64 x2 1) x3 x4 x5 x6 x7 x8 x9 x10 x11 x12 x13 x14).bind (fun r15 => some (bits .xor .i64 r15.1 1, r15.2.1, r15.2.2.1, r15.2.2.2.1, r15.2.2.2.2.1, r15.2.2.2.2.2.1, r15.2.2.2.2.2.2.1, r15.2.2.2.2.2.2.2.1, r15.2.2.2.2.2.2.2.2.1, r15.2.2.2.2.2.2.2.2.2.1, r15.2.2.2.2.2.2.2.2.2.2.1, r15.2.2.2.2.2.2.2.2.2.2.2.1, r15.2.2.2.2.2.2.2.2.2.2.2.2.1, ()))
def blast_maker_or_s : Sig := ⟨[.c false [.con (.ptr 0 0)], .c false [.int .i64], .c false [.int .i64]], [(0, .var 69 [.int .i64, .row Kii_, .int .i64, .int .i64, .int .i64, .int .i64, .int .i64, .int .i64, .int .i64, .row i_, .row i_, .row i_])], .c false [.int .i64], [(0, .var 69 [.int .i64, .row Kii_, .int .i64, .int .i64, .int .i64, .int .i64, .int .i64, .int .i64, .int .i64, .row i_, .row i_, .row i_])]⟩
def blast_maker_or_a : Ann := .d
noncomputable def blast_maker_or_c (n : Nat) : Ctr Try.prog := .of Try.func87 n [blast_maker_and_c n] blast_maker_or_a blast_maker_or_s (fun d => blast_maker_or n d.1 d.2.1 d.2.2.1 d.2.2.2.1 d.2.2.2.2.1 d.2.2.2.2.2.1 d.2.2.2.2.2.2.1 d.2.2.2.2.2.2.2.1 d.2.2.2.2.2.2.2.2.1 d.2.2.2.2.2.2.2.2.2.1 d.2.2.2.2.2.2.2.2.2.2.1 d.2.2.2.2.2.2.2.2.2.2.2.1 d.2.2.2.2.2.2.2.2.2.2.2.2.1 d.2.2.2.2.2.2.2.2.2.2.2.2.2.1) fun d => by kernel_rfl
noncomputable def blast_maker_any_l1b (n : Nat) (x1 : List Int) (self : Int × Int × Int × List Kii × Int × Int × Int × Int × Int × Int × Int × List Int × List Int × List Int × Unit → Option ((Int × Int × List Kii × Int × Int × Int × Int × Int × Int × Int × List Int × List Int × List Int × Unit))) (d16 : Int × Int × Int × List Kii × Int × Int × Int × Int × Int × Int × Int × List Int × List Int × List Int × Unit) : Option ((Int × Int × List Kii × Int × Int × Int × Int × Int × Int × Int × List Int × List Int × List Int × Unit)) :=
 cond (decide (d16.2.1 < (x1.length : Int)))
 (ask (0 ≤ d16.2.1 ∧ d16.2.1 < (x1.length : Int)) ((blast_maker_or n d16.1 (Ki_at x1 d16.2.1) d16.2.2.1 d16.2.2.2.1 d16.2.2.2.2.1 d16.2.2.2.2.2.1 d16.2.2.2.2.2.2.1 d16.2.2.2.2.2.2.2.1 d16.2.2.2.2.2.2.2.2.1 d16.2.2.2.2.2.2.2.2.2.1 d16.2.2.2.2.2.2.2.2.2.2.1 d16.2.2.2.2.2.2.2.2.2.2.2.1 d16.2.2.2.2.2.2.2.2.2.2.2.2.1 d16.2.2.2.2.2.2.2.2.2.2.2.2.2.1).bind (fun r17 => self (r17.1, IntKind.wrap .i64 (d16.2.1 + 1), r17.2.1, r17.2.2.1, r17.2.2.2.1, r17.2.2.2.2.1, r17.2.2.2.2.2.1, r17.2.2.2.2.2.2.1, r17.2.2.2.2.2.2.2.1, r17.2.2.2.2.2.2.2.2.1, r17.2.2.2.2.2.2.2.2.2.1, r17.2.2.2.2.2.2.2.2.2.2.1, r17.2.2.2.2.2.2.2.2.2.2.2.1, r17.2.2.2.2.2.2.2.2.2.2.2.2.1, ()))))
 (some (d16.1, d16.2.2.1, d16.2.2.2.1, d16.2.2.2.2.1, d16.2.2.2.2.2.1, d16.2.2.2.2.2.2.1, d16.2.2.2.2.2.2.2.1, d16.2.2.2.2.2.2.2.2.1, d16.2.2.2.2.2.2.2.2.2.1, d16.2.2.2.2.2.2.2.2.2.2.1, d16.2.2.2.2.2.2.2.2.2.2.2.1, d16.2.2.2.2.2.2.2.2.2.2.2.2.1, d16.2.2.2.2.2.2.2.2.2.2.2.2.2.1, ()))
noncomputable def blast_maker_any_l1 (n : Nat) (x1 : List Int) : Int × Int × Int × List Kii × Int × Int × Int × Int × Int × Int × Int × List Int × List Int × List Int × Unit → Option ((Int × Int × List Kii × Int × Int × Int × Int × Int × Int × Int × List Int × List Int × List Int × Unit)) := iter (blast_maker_any_l1b n x1) n
noncomputable def blast_maker_any (n : Nat) (x1 : List Int) (x2 : Int) (x3 : List Kii) (x4 : Int) (x5 : Int) (x6 : Int) (x7 : Int) (x8 : Int) (x9 : Int) (x10 : Int) (x11 : List Int) (x12 : List Int) (x13 : List Int) : Option (Int × Int × List Kii × Int × Int × Int × Int × Int × Int × Int × List Int × List Int × List Int × Unit) :=
 (blast_maker_any_l1 n x1 (0, 0, x2, x3, x4, x5, x6, x7, x8, x9, x10, x11, x12, x13, ())).bind (fun d18 => some (d18.1, d18.2.1, d18.2.2.1, d18.2.2.2.1, d18.2.2.2.2.1, d18.2.2.2.2.2.1, d18.2.2.2.2.2.2.1, d18.2.2.2.2.2.2.2.1, d18.2.2.2.2.2.2.2.2.1, d18.2.2.2.2.2.2.2.2.2.1, d18.2.2.2.2.2.2.2.2.2.2.1, d18.2.2.2.2.2.2.2.2.2.2.2.1, d18.2.2.2.2.2.2.2.2.2.2.2.2.1, ()))
def blast_maker_any_s : Sig := ⟨[.c false [.con (.ptr 0 0)], .c false [.row i_]], [(0, .var 69 [.int .i64, .row Kii_, .int .i64, .int .i64, .int .i64, .int .i64, .int .i64, .int .i64, .int .i64, .row i_, .row i_, .row i_])], .c false [.int .i64], [(0, .var 69 [.int .i64, .row Kii_, .int .i64, .int .i64, .int .i64, .int .i64, .int .i64, .int .i64, .int .i64, .row i_, .row i_, .row i_])]⟩
def blast_maker_any_a : Ann := .s .d (.s .d (.s (.s .d (.b (.l [0, 5, 7, 10, 11, 12, 13, 14, 15, 16, 17, 18] [0] ⟨[(0, .c false [.con (.ptr 0 0)]), (5, .c false [.int .i64]), (10, .c false [.int .i64])], [(0, .var 69 [.int .i64, .row Kii_, .int .i64, .int .i64, .int .i64, .int .i64, .int .i64, .int .i64, .int .i64, .row i_, .row i_, .row i_])]⟩ [(.exit 0, ⟨[(5, .c false [.int .i64])], [(0, .var 69 [.int .i64, .row Kii_, .int .i64, .int .i64, .int .i64, .int .i64, .int .i64, .int .i64, .int .i64, .row i_, .row i_, .row i_])]⟩)] .d))) .d))
noncomputable def blast_maker_any_c (n : Nat) : Ctr Try.prog := .of Try.func84 n [blast_maker_or_c n] blast_maker_any_a blast_maker_any_s (fun d => blast_maker_any n d.1 d.2.1 d.2.2.1 d.2.2.2.1 d.2.2.2.2.1 d.2.2.2.2.2.1 d.2.2.2.2.2.2.1 d.2.2.2.2.2.2.2.1 d.2.2.2.2.2.2.2.2.1 d.2.2.2.2.2.2.2.2.2.1 d.2.2.2.2.2.2.2.2.2.2.1 d.2.2.2.2.2.2.2.2.2.2.2.1 d.2.2.2.2.2.2.2.2.2.2.2.2.1) fun d => by kernel_rfl
noncomputable def blast_maker_doRedOr (n : Nat) (x1 : Int) (x2 : List Kii) (x3 : Int) (x4 : Int) (x5 : Int) (x6 : Int) (x7 : Int) (x8 : Int) (x9 : Int) (x10 : List Int) (x11 : List Int) (x12 : List Int) : Option (List Int × Int × List Kii × Int × Int × Int × Int × Int × Int × Int × List Int × List Int × List Int × Unit) :=
 (blast_maker_any n x10 x1 x2 x3 x4 x5 x6 x7 x8 x9 x10 x11 x12).bind (fun r13 => some (([r13.1] : List Int), r13.2.1, r13.2.2.1, r13.2.2.2.1, r13.2.2.2.2.1, r13.2.2.2.2.2.1, r13.2.2.2.2.2.2.1, r13.2.2.2.2.2.2.2.1, r13.2.2.2.2.2.2.2.2.1, r13.2.2.2.2.2.2.2.2.2.1, r13.2.2.2.2.2.2.2.2.2.2.1, r13.2.2.2.2.2.2.2.2.2.2.2.1, r13.2.2.2.2.2.2.2.2.2.2.2.2.1, ()))
def blast_maker_doRedOr_s : Sig := ⟨[.c false [.con (.ptr 0 0)]], [(0, .var 69 [.int .i64, .row Kii_, .int .i64, .int .i64, .int .i64, .int .i64, .int .i64, .int .i64, .int .i64, .row i_, .row i_, .row i_])], .c false [.row i_], [(0, .var 69 [.int .i64, .row Kii_, .int .i64, .int .i64, .int .i64, .int .i64, .int .i64, .int .i64, .int .i64, .row i_, .row i_, .row i_])]⟩
def blast_maker_doRedOr_a : Ann := .d
noncomputable def blast_maker_doRedOr_c (n : Nat) : Ctr Try.prog := .of Try.func46 n [blast_maker_any_c n] blast_maker_doRedOr_a blast_maker_doRedOr_s (fun d => blast_maker_doRedOr n d.1 d.2.1 d.2.2.1 d.2.2.2.1 d.2.2.2.2.1 d.2.2.2.2.2.1 d.2.2.2.2.2.2.1 d.2.2.2.2.2.2.2.1 d.2.2.2.2.2.2.2.2.1 d.2.2.2.2.2.2.2.2.2.1 d.2.2.2.2.2.2.2.2.2.2.1 d.2.2.2.2.2.2.2.2.2.2.2.1) fun d => by kernel_rfl
noncomputable def blast_maker_doRedAnd (n : Nat) (x1 : Int) (x2 : List Kii) (x3 : Int) (x4 : Int) (x5 : Int) (x6 : Int) (x7 : Int) (x8 : Int) (x9 : Int) (x10 : List Int) (x11 : List Int) (x12 : List Int) : Option (List Int × Int × List Kii × Int × Int × Int × Int × Int × Int × Int × List Int × List Int × List Int × Unit) :=
 (blast_turned n x10).bind (fun r13 => (blast_maker_any n r13.1 x1 x2 x3 x4 x5 x6 x7 x8 x9 x10 x11 x12).bind (fun r14 => some (([bits .xor .i64 r14.1 1] : List Int), r14.2.1, r14.2.2.1, r14.2.2.2.1, r14.2.2.2.2.1, r14.2.2.2.2.2.1, r14.2.2.2.2.2.2.1, r14.2.2.2.2.2.2.2.1, r14.2.2.2.2.2.2.2.2.1, r14.2.2.2.2.2.2.2.2.2.1, r14.2.2.2.2.2.2.2.2.2.2.1, r14.2.2.2.2.2.2.2.2.2.2.2.1, r14.2.2.2.2.2.2.2.2.2.2.2.2.1, ())))
def blast_maker_doRedAnd_s : Sig := ⟨[.c false [.con (.ptr 0 0)]], [(0, .var 69 [.int .i64, .row Kii_, .int .i64, .int .i64, .int .i64, .int .i64, .int .i64, .int .i64, .int .i64, .row i_, .row i_, .row i_])], .c false [.row i_], [(0, .var 69 [.int .i64, .row Kii_, .int .i64, .int .i64, .int .i64, .int .i64, .int .i64, .int .i64, .int .i64, .row i_, .row i_, .row i_])]⟩
def blast_maker_doRedAnd_a : Ann := .d
noncomputable def blast_maker_doRedAnd_c (n : Nat) : Ctr Try.prog := .of Try.func47 n [blast_turned_c n, blast_maker_any_c n] blast_maker_doRedAnd_a blast_maker_doRedAnd_s (fun d => blast_maker_doRedAnd n d.1 d.2.1 d.2.2.1 d.2.2.2.1 d.2.2.2.2.1 d.2.2.2.2.2.1 d.2.2.2.2.2.2.1 d.2.2.2.2.2.2.2.1 d.2.2.2.2.2.2.2.2.1 d.2.2.2.2.2.2.2.2.2.1 d.2.2.2.2.2.2.2.2.2.2.1 d.2.2.2.2.2.2.2.2.2.2.2.1) fun d => by kernel_rfl
noncomputable def blast_maker_both__blast_maker_and_l1b (n : Nat) (x10 : List Int) (self : Int × Int × List Kii × Int × Int × Int × Int × Int × Int × Int × List Int × List Int × List Int × List Int × Unit → Option ((Int × List Kii × Int × Int × Int × Int × Int × Int × Int × List Int × List Int × List Int × List Int × Unit))) (d15 : Int × Int × List Kii × Int × Int × Int × Int × Int × Int × Int × List Int × List Int × List Int × List Int × Unit) : Option ((Int × List Kii × Int × Int × Int × Int × Int × Int × Int × List Int × List Int × List Int × List Int × Unit)) :=
 cond (decide (d15.1 < ((List.replicate (x10.length : Int).toNat (0 : Int)).length : Int)))
 (ask (0 ≤ d15.1 ∧ d15.1 < (d15.2.2.2.2.2.2.2.2.2.2.1.length : Int)) (ask (0 ≤ d15.1 ∧ d15.1 < (d15.2.2.2.2.2.2.2.2.2.2.2.1.length : Int)) ((blast_maker_and n (Ki_at d15.2.2.2.2.2.2.2.2.2.2.1 d15.1) (Ki_at d15.2.2.2.2.2.2.2.2.2.2.2.1 d15.1) d15.2.1 d15.2.2.1 d15.2.2.2.1 d15.2.2.2.2.1 d15.2.2.2.2.2.1 d15.2.2.2.2.2.2.1 d15.2.2.2.2.2.2.2.1 d15.2.2.2.2.2.2.2.2.1 d15.2.2.2.2.2.2.2.2.2.1 d15.2.2.2.2.2.2.2.2.2.2.1 d15.2.2.2.2.2.2.2.2.2.2.2.1 d15.2.2.2.2.2.2.2.2.2.2.2.2.1).bind (fun r16 => ask (0 ≤ d15.1 ∧ d15.1 < (d15.2.2.2.2.2.2.2.2.2.2.2.2.2.1.length : Int)) (self (IntKind.wrap .i64 (d15.1 + 1), r16.2.1, r16.2.2.1, r16.2.2.2.1, r16.2.2.2.2.1, r16.2.2.2.2.2.1, r16.2.2.2.2.2.2.1, r16.2.2.2.2.2.2.2.1, r16.2.2.2.2.2.2.2.2.1, r16.2.2.2.2.2.2.2.2.2.1, r16.2.2.2.2.2.2.2.2.2.2.1, r16.2.2.2.2.2.2.2.2.2.2.2.1, r16.2.2.2.2.2.2.2.2.2.2.2.2.1, d15.2.2.2.2.2.2.2.2.2.2.2.2.2.1.set d15.1.toNat r16.1, ()))))))
 (some (d15.2.1, d15.2.2.1, d15.2.2.2.1, d15.2.2.2.2.1, d15.2.2.2.2.2.1, d15.2.2.2.2.2.2.1, d15.2.2.2.2.2.2.2.1, d15.2.2.2.2.2.2.2.2.1, d15.2.2.2.2.2.2.2.2.2.1, d15.2.2.2.2.2.2.2.2.2.2.1, d15.2.2.2.2.2.2.2.2.2.2.2.1, d15.2.2.2.2.2.2.2.2.2.2.2.2.1, d15.2.2.2.2.2.2.2.2.2.2.2.2.2.1, ()))
noncomputable def blast_maker_both__blast_maker_and_l1 (n : Nat) (x10 : List Int) : Int × Int × List Kii × Int × Int × Int × Int × Int × Int × Int × List Int × List Int × List Int × List Int × Unit → Option ((Int × List Kii × Int × Int × Int × Int × Int × Int × Int × List Int × List Int × List Int × List Int × Unit)) := iter (blast_maker_both__blast_maker_and_l1b n x10) n
noncomputable def blast_maker_both__blast_maker_and (n : Nat) (x1 : Int) (x2 : List Kii) (x3 : Int) (x4 : Int) (x5 : Int) (x6 : Int) (x7 : Int) (x8 : Int) (x9 : Int) (x10 : List Int) (x11 : List Int) (x12 : List Int) : Option (List Int × Int × List Kii × Int × Int × Int × Int × Int × Int × Int × List Int × List Int × List Int × Unit) :=
 ask ((0 ≤ (x10.length : Int) ∧ (x10.length : Int) ≤ (x10.length : Int)) ∧ (8 : Int) * (x10.length : Int) ≤ 281474976710656 ∧ (x10.length : Int) ≤ 281474976710656) ((blast_maker_both__blast_maker_and_l1 n x10 (0, x1, x2, x3, x4, x5, x6, x7, x8, x9, x10, x11, x12, List.replicate (x10.length : Int).toNat (0 : Int), ())).bind (fun d17 => some (d17.2.2.2.2.2.2.2.2.2.2.2.2.1, d17.1, d17.2.1, d17.2.2.1, d17.2.2.2.1, d17.2.2.2.2.1, d17.2.2.2.2.2.1, d17.2.2.2.2.2.2.1, d17.2.2.2.2.2.2.2.1, d17.2.2.2.2.2.2.2.2.1, d17.2.2.2.2.2.2.2.2.2.1, d17.2.2.2.2.2.2.2.2.2.2.1, d17.2.2.2.2.2.2.2.2.2.2.2.1, ())))
def blast_maker_both__blast_maker_and_s : Sig := ⟨[.c false [.con (.ptr 0 0)], .c false [.con (.bm 86 0 0)]], [(0, .var 69 [.int .i64, .row Kii_, .int .i64, .int .i64, .int .i64, .int .i64, .int .i64, .int .i64, .int .i64, .row i_, .row i_, .row i_])], .c false [.row i_], [(0, .var 69 [.int .i64, .row Kii_, .int .i64, .int .i64, .int .i64, .int .i64, .int .i64, .int .i64, .int .i64, .row i_, .row i_, .row i_])]⟩
def blast_maker_both__blast_maker_and_a : Ann := .s .d (.s .d (.s (.s .d (.b (.l [0, 1, 5, 6, 7, 8, 9, 12, 13, 15, 16, 17, 18, 19, 20, 21, 22, 23, 24, 25, 26, 27, 28, 29, 30, 31, 32, 33, 34, 35, 36, 37] [0, 420] ⟨[(0, .c false [.con (.ptr 0 0)]), (1, .c false [.con (.bm 86 0 0)]), (5, .c false [.con (.own 420 1)]), (15, .c false [.int .i64])], [(0, .var 69 [.int .i64, .row Kii_, .int .i64, .int .i64, .int .i64, .int .i64, .int .i64, .int .i64, .int .i64, .row i_, .row i_, .row i_]), (420, .row 3 i_)]⟩ [(.exit 0, ⟨[(5, .c false [.con (.own 420 1)])], [(0, .var 69 [.int .i64, .row Kii_, .int .i64, .int .i64, .int .i64, .int .i64, .int .i64, .int .i64, .int .i64, .row i_, .row i_, .row i_]), (420, .row 3 i_)]⟩)] .d))) .d))
noncomputable def blast_maker_both__blast_maker_and_c (n : Nat) : Ctr Try.prog := .of Try.func85 n [blast_maker_and_c n] blast_maker_both__blast_maker_and_a blast_maker_both__blast_maker_and_s (fun d => blast_maker_both__blast_maker_and n d.1 d.2.1 d.2.2.1 d.2.2.2.1 d.2.2.2.2.1 d.2.2.2.2.2.1 d.2.2.2.2.2.2.1 d.2.2.2.2.2.2.2.1 d.2.2.2.2.2.2.2.2.1 d.2.2.2.2.2.2.2.2.2.1 d.2.2.2.2.2.2.2.2.2.2.1 d.2.2.2.2.2.2.2.2.2.2.2.1) fun d => by kernel_rfl
noncomputable def blast_maker_doAnd (n : Nat) (x1 : Int) (x2 : List Kii) (x3 : Int) (x4 : Int) (x5 : Int) (x6 : Int) (x7 : Int) (x8 : Int) (x9 : Int) (x10 : List Int) (x11 : List Int) (x12 : List Int) : Option (List Int × Int × List Kii × Int × Int × Int × Int × Int × Int × Int × List Int × List Int × List Int × Unit) :=
 (blast_maker_both__blast_maker_and n x1 x2 x3 x4 x5 x6 x7 x8 x9 x10 x11 x12).bind (fun r13 => some (r13.1, r13.2.1, r13.2.2.1, r13.2.2.2.1, r13.2.2.2.2.1, r13.2.2.2.2.2.1, r13.2.2.2.2.2.2.1, r13.2.2.2.2.2.2.2.1, r13.2.2.2.2.2.2.2.2.1, r13.2.2.2.2.2.2.2.2.2.1, r13.2.2.2.2.2.2.2.2.2.2.1, r13.2.2.2.2.2.2.2.2.2.2.2.1, r13.2.2.2.2.2.2.2.2.2.2.2.2.1, ()))
def blast_maker_doAnd_s : Sig := ⟨[.c false [.con (.ptr 0 0)]], [(0, .var 69 [.int .i64, .row Kii_, .int .i64, .int .i64, .int .i64, .int .i64, .int .i64, .int .i64, .int .i64, .row i_, .row i_, .row i_])], .c false [.row i_], [(0, .var 69 [.int .i64, .row Kii_, .int .i64, .int .i64, .int .i64, .int .i64, .int .i64, .int .i64, .int .i64, .row i_, .row i_, .row i_])]⟩
def blast_maker_doAnd_a : Ann := .d
noncomputable def blast_maker_doAnd_c (n : Nat) : Ctr Try.prog := .of Try.func48 n [blast_maker_both__blast_maker_and_c n] blast_maker_doAnd_a blast_maker_doAnd_s (fun d => blast_maker_doAnd n d.1 d.2.1 d.2.2.1 d.2.2.2.1 d.2.2.2.2.1 d.2.2.2.2.2.1 d.2.2.2.2.2.2.1 d.2.2.2.2.2.2.2.1 d.2.2.2.2.2.2.2.2.1 d.2.2.2.2.2.2.2.2.2.1 d.2.2.2.2.2.2.2.2.2.2.1 d.2.2.2.2.2.2.2.2.2.2.2.1) fun d => by kernel_rfl
noncomputable def blast_maker_both__blast_maker_or_l1b (n : Nat) (x10 : List Int) (self : Int × Int × List Kii × Int × Int × Int × Int × Int × Int × Int × List Int × List Int × List Int × List Int × Unit → Option ((Int × List Kii × Int × Int × Int × Int × Int × Int × Int × List Int × List Int × List Int × List Int × Unit))) (d15 : Int × Int × List Kii × Int × Int × Int × Int × Int × Int × Int × List Int × List Int × List Int × List Int × Unit) : Option ((Int × List Kii × Int × Int × Int × Int × Int × Int × Int × List Int × List Int × List Int × List Int × Unit)) :=
 cond (decide (d15.1 < ((List.replicate (x10.length : Int).toNat (0 : Int)).length : Int)))
 (ask (0 ≤ d15.1 ∧ d15.1 < (d15.2.2.2.2.2.2.2.2.2.2.1.length : Int)) (ask (0 ≤ d15.1 ∧ d15.1 < (d15.2.2.2.2.2.2.2.2.2.2.2.1.length : Int)) ((blast_maker_or n (Ki_at d15.2.2.2.2.2.2.2.2.2.2.1 d15.1) (Ki_at d15.2.2.2.2.2.2.2.2.2.2.2.1 d15.1) d15.2.1 d15.2.2.1 d15.2.2.2.1 d15.2.2.2.2.1 d15.2.2.2.2.2.1 d15.2.2.2.2.2.2.1 d15.2.2.2.2.2.2.2.1 d15.2.2.2.2.2.2.2.2.1 d15.2.2.2.2.2.2.2.2.2.1 d15.2.2.2.2.2.2.2.2.2.2.1 d15.2.2.2.2.2.2.2.2.2.2.2.1 d15.2.2.2.2.2.2.2.2.2.2.2.2.1).bind (fun r16 => ask (0 ≤ d15.1 ∧ d15.1 < (d15.2.2.2.2.2.2.2.2.2.2.2.2.2.1.length : Int)) (self (IntKind.wrap .i64 (d15.1 + 1), r16.2.1, r16.2.2.1, r16.2.2.2.1, r16.2.2.2.2.1, r16.2.2.2.2.2.1, r16.2.2.2.2.2.2.1, r16.2.2.2.2.2.2.2.1, r16.2.2.2.2.2.2.2.2.1, r16.2.2.2.2.2.2.2.2.2.1, r16.2.2.2.2.2.2.2.2.2.2.1, r16.2.2.2.2.2.2.2.2.2.2.2.1, r16.2.2.2.2.2.2.2.2.2.2.2.2.1, d15.2.2.2.2.2.2.2.2.2.2.2.2.2.1.set d15.1.toNat r16.1, ()))))))
 (some (d15.2.1, d15.2.2.1, d15.2.2.2.1, d15.2.2.2.2.1, d15.2.2.2.2.2.1, d15.2.2.2.2.2.2.1, d15.2.2.2.2.2.2.2.1, d15.2.2.2.2.2.2.2.2.1, d15.2.2.2.2.2.2.2.2.2.1, d15.2.2.2.2.2.2.2.2.2.2.1, d15.2.2.2.2.2.2.2.2.2.2.2.1, d15.2.2.2.2.2.2.2.2.2.2.2.2.1, d15.2.2.2.2.2.2.2.2.2.2.2.2.2.1, ()))
noncomputable def blast_maker_both__blast_maker_or_l1 (n : Nat) (x10 : List Int) : Int × Int × List Kii × Int × Int × Int × Int × Int × Int × Int × List Int × List Int × List Int × List Int × Unit → Option ((Int × List Kii × Int × Int × Int × Int × Int × Int × Int × List Int × List Int × List Int × List Int × Unit)) := iter (blast_maker_both__blast_maker_or_l1b n x10) n
noncomputable def blast_maker_both__blast_maker_or (n : Nat) (x1 : Int) (x2 : List Kii) (x3 : Int) (x4 : Int) (x5 : Int) (x6 : Int) (x7 : Int) (x8 : Int) (x9 : Int) (x10 : List Int) (x11 : List Int) (x12 : List Int) : Option (List Int × Int × List Kii × Int × Int × Int × Int × Int × Int × Int × List Int × List Int × List Int × Unit) :=
 ask ((0 ≤ (x10.length : Int) ∧ (x10.length : Int) ≤ (x10.length : Int)) ∧ (8 : Int) * (x10.length : Int) ≤ 281474976710656 ∧ (x10.length : Int) ≤ 281474976710656) ((blast_maker_both__blast_maker_or_l1 n x10 (0, x1, x2, x3, x4, x5, x6, x7, x8, x9, x10, x11, x12, List.replicate (x10.length : Int).toNat (0 : Int), ())).bind (fun d17 => some (d17.2.2.2.2.2.2.2.2.2.2.2.2.1, d17.1, d17.2.1, d17.2.2.1, d17.2.2.2.1, d17.2.2.2.2.1, d17.2.2.2.2.2.1, d17.2.2.2.2.2.2.1, d17.2.2.2.2.2.2.2.1, d17.2.2.2.2.2.2.2.2.1, d17.2.2.2.2.2.2.2.2.2.1, d17.2.2.2.2.2.2.2.2.2.2.1, d17.2.2.2.2.2.2.2.2.2.2.2.1, ())))
def blast_maker_both__blast_maker_or_s : Sig := ⟨[.c false [.con (.ptr 0 0)], .c false [.con (.bm 87 0 0)]], [(0, .var 69 [.int .i64, .row Kii_, .int .i64, .int .i64, .int .i64, .int .i64, .int .i64, .int .i64, .int .i64, .row i_, .row i_, .row i_])], .c false [.row i_], [(0, .var 69 [.int .i64, .row Kii_, .int .i64, .int .i64, .int .i64, .int .i64, .int .i64, .int .i64, .int .i64, .row i_, .row i_, .row i_])]⟩
def blast_maker_both__blast_maker_or_a : Ann := .s .d (.s .d (.s (.s .d (.b (.l [0, 1, 5, 6, 7, 8, 9, 12, 13, 15, 16, 17, 18, 19, 20, 21, 22, 23, 24, 25, 26, 27, 28, 29, 30, 31, 32, 33, 34, 35, 36, 37] [0, 420] ⟨[(0, .c false [.con (.ptr 0 0)]), (1, .c false [.con (.bm 87 0 0)]), (5, .c false [.con (.own 420 1)]), (15, .c false [.int .i64])], [(0, .var 69 [.int .i64, .row Kii_, .int .i64, .int .i64, .int .i64, .int .i64, .int .i64, .int .i64, .int .i64, .row i_, .row i_, .row i_]), (420, .row 3 i_)]⟩ [(.exit 0, ⟨[(5, .c false [.con (.own 420 1)])], [(0, .var 69 [.int .i64, .row Kii_, .int .i64, .int .i64, .int .i64, .int .i64, .int .i64, .int .i64, .int .i64, .row i_, .row i_, .row i_]), (420, .row 3 i_)]⟩)] .d))) .d))
noncomputable def blast_maker_both__blast_maker_or_c (n : Nat) : Ctr Try.prog := .of Try.func85 n [blast_maker_or_c n] blast_maker_both__blast_maker_or_a blast_maker_both__blast_maker_or_s (fun d => blast_maker_both__blast_maker_or n d.1 d.2.1 d.2.2.1 d.2.2.2.1 d.2.2.2.2.1 d.2.2.2.2.2.1 d.2.2.2.2.2.2.1 d.2.2.2.2.2.2.2.1 d.2.2.2.2.2.2.2.2.1 d.2.2.2.2.2.2.2.2.2.1 d.2.2.2.2.2.2.2.2.2.2.1 d.2.2.2.2.2.2.2.2.2.2.2.1) fun d => by kernel_rfl
noncomputable def blast_maker_doOr (n : Nat) (x1 : Int) (x2 : List Kii) (x3 : Int) (x4 : Int) (x5 : Int) (x6 : Int) (x7 : Int) (x8 : Int) (x9 : Int) (x10 : List Int) (x11 : List Int) (x12 : List Int) : Option (List Int × Int × List Kii × Int × Int × Int × Int × Int × Int × Int × List Int × List Int × List Int × Unit) :=
 (blast_maker_both__blast_maker_or n x1 x2 x3 x4 x5 x6 x7 x8 x9 x10 x11 x12).bind (fun r13 => some (r13.1, r13.2.1, r13.2.2.1, r13.2.2.2.1, r13.2.2.2.2.1, r13.2.2.2.2.2.1, r13.2.2.2.2.2.2.1, r13.2.2.2.2.2.2.2.1, r13.2.2.2.2.2.2.2.2.1, r13.2.2.2.2.2.2.2.2.2.1, r13.2.2.2.2.2.2.2.2.2.2.1, r13.2.2.2.2.2.2.2.2.2.2.2.1, r13.2.2.2.2.2.2.2.2.2.2.2.2.1, ()))
def blast_maker_doOr_s : Sig := ⟨[.c false [.con (.ptr 0 0)]], [(0, .var 69 [.int .i64, .row Kii_, .int .i64, .int .i64, .int .i64, .int .i64, .int .i64, .int .i64, .int .i64, .row i_, .row i_, .row i_])], .c false [.row i_], [(0, .var 69 [.int .i64, .row Kii_, .int .i64, .int .i64, .int .i64, .int .i64, .int .i64, .int .i64, .int .i64, .row i_, .row i_, .row i_])]⟩
def blast_maker_doOr_a : Ann := .d
noncomputable def blast_maker_doOr_c (n : Nat) : Ctr Try.prog := .of Try.func49 n [blast_maker_both__blast_maker_or_c n] blast_maker_doOr_a blast_maker_doOr_s (fun d => blast_maker_doOr n d.1 d.2.1 d.2.2.1 d.2.2.2.1 d.2.2.2.2.1 d.2.2.2.2.2.1 d.2.2.2.2.2.2.1 d.2.2.2.2.2.2.2.1 d.2.2.2.2.2.2.2.2.1 d.2.2.2.2.2.2.2.2.2.1 d.2.2.2.2.2.2.2.2.2.2.1 d.2.2.2.2.2.2.2.2.2.2.2.1) fun d => by kernel_rfl
noncomputable def blast_maker_xor (n : Nat) (x1 : Int) (x2 : Int) (x3 : Int) (x4 : List Kii) (x5 : Int) (x6 : Int) (x7 : Int) (x8 : Int) (x9 : Int) (x10 : Int) (x11 : Int) (x12 : List Int) (x13 : List Int) (x14 : List Int) : Option (Int × Int × List Kii × Int × Int × Int × Int × Int × Int × Int × List Int × List Int × List Int × Unit) :=
 (blast_maker_and n x1 (bits .xor .i64 x2 1) x3 x4 x5 x6 x7 x8 x9 x10 x11 x12 x13 x14).bind (fun r15 => (blast_maker_and n (bits .xor .i64 x1 1) x2 r15.2.1 r15.2.2.1 r15.2.2.2.1 r15.2.2.2.2.1 r15.2.2.2.2.2.1 r15.2.2.2.2.2.2.1 r15.2.2.2.2.2.2.2.1 r15.2.2.2.2.2.2.2.2.1 r15.2.2.2.2.2.2.2.2.2.1 r15.2.2.2.2.2.2.2.2.2.2.1 r15.2.2.2.2.2.2.2.2.2.2.2.1 r15.2.2.2.2.2.2.2.2.2.2.2.2.1).bind (fun r16 => (blast_maker_or n r15.1 r16.1 r16.2.1 r16.2.2.1 r16.2.2.2.1 r16.2.2.2.2.1 r16.2.2.2.2.2.1 r16.2.2.2.2.2.2.1 r16.2.2.2.2.2.2.2.1 r16.2.2.2.2.2.2.2.2.1 r16.2.2.2.2.2.2.2.2.2.1 r16.2.2.2.2.2.2.2.2.2.2.1 r16.2.2.2.2.2.2.2.2.2.2.2.1 r16.2.2.2.2.2.2.2.2.2.2.2.2.1).bind (fun r17 => some (r17.1, r17.2.1, r17.2.2.1, r17.2.2.2.1, r17.2.2.2.2.1, r17.2.2.2.2.2.1, r17.2.2.2.2.2.2.1, r17.2.2.2.2.2.2.2.1, r17.2.2.2.2.2.2.2.2.1, r17.2.2.2.2.2.2.2.2.2.1, r17.2.2.2.2.2.2.2.2.2.2.1, r17.2.2.2.2.2.2.2.2.2.2.2.1, r17.2.2.2.2.2.2.2.2.2.2.2.2.1, ()))))
def blast_maker_xor_s : Sig := ⟨[.c false [.con (.ptr 0 0)], .c false [.int .i64], .c false [.int .i64]], [(0, .var 69 [.int .i64, .row Kii_, .int .i64, .int .i64, .int .i64, .int .i64, .int .i64, .int .i64, .int .i64, .row i_, .row i_, .row i_])], .c false [.int .i64], [(0, .var 69 [.int .i64, .row Kii_, .int .i64, .int .i64, .int .i64, .int .i64, .int .i64, .int .i64, .int .i64, .row i_, .row i_, .row i_])]⟩
def blast_maker_xor_a : Ann := .d
noncomputable def blast_maker_xor_c (n : Nat) : Ctr Try.prog := .of Try.func88 n [blast_maker_and_c n, blast_maker_or_c n] blast_maker_xor_a blast_maker_xor_s (fun d => blast_maker_xor n d.1 d.2.1 d.2.2.1 d.2.2.2.1 d.2.2.2.2.1 d.2.2.2.2.2.1 d.2.2.2.2.2.2.1 d.2.2.2.2.2.2.2.1 d.2.2.2.2.2.2.2.2.1 d.2.2.2.2.2.2.2.2.2.1 d.2.2.2.2.2.2.2.2.2.2.1 d.2.2.2.2.2.2.2.2.2.2.2.1 d.2.2.2.2.2.2.2.2.2.2.2.2.1 d.2.2.2.2.2.2.2.2.2.2.2.2.2.1) fun d => by kernel_rfl
noncomputable def blast_maker_both__blast_maker_xor_l1b (n : Nat) (x10 : List Int) (self : Int × Int × List Kii × Int × Int × Int × Int × Int × Int × Int × List Int × List Int × List Int × List Int × Unit → Option ((Int × List Kii × Int × Int × Int × Int × Int × Int × Int × List Int × List Int × List Int × List Int × Unit))) (d15 : Int × Int × List Kii × Int × Int × Int × Int × Int × Int × Int × List Int × List Int × List Int × List Int × Unit) : Option ((Int × List Kii × Int × Int × Int × Int × Int × Int × Int × List Int × List Int × List Int × List Int × Unit)) :=
 cond (decide (d15.1 < ((List.replicate (x10.length : Int).toNat (0 : Int)).length : Int)))
 (ask (0 ≤ d15.1 ∧ d15.1 < (d15.2.2.2.2.2.2.2.2.2.2.1.length : Int)) (ask (0 ≤ d15.1 ∧ d15.1 < (d15.2.2.2.2.2.2.2.2.2.2.2.1.length : Int)) ((blast_maker_xor n (Ki_at d15.2.2.2.2.2.2.2.2.2.2.1 d15.1) (Ki_at d15.2.2.2.2.2.2.2.2.2.2.2.1 d15.1) d15.2.1 d15.2.2.1 d15.2.2.2.1 d15.2.2.2.2.1 d15.2.2.2.2.2.1 d15.2.2.2.2.2.2.1 d15.2.2.2.2.2.2.2.1 d15.2.2.2.2.2.2.2.2.1 d15.2.2.2.2.2.2.2.2.2.1 d15.2.2.2.2.2.2.2.2.2.2.1 d15.2.2.2.2.2.2.2.2.2.2.2.1 d15.2.2.2.2.2.2.2.2.2.2.2.2.1).bind (fun r16 => ask (0 ≤ d15.1 ∧ d15.1 < (d15.2.2.2.2.2.2.2.2.2.2.2.2.2.1.length : Int)) (self (IntKind.wrap .i64 (d15.1 + 1), r16.2.1, r16.2.2.1, r16.2.2.2.1, r16.2.2.2.2.1, r16.2.2.2.2.2.1, r16.2.2.2.2.2.2.1, r16.2.2.2.2.2.2.2.1, r16.2.2.2.2.2.2.2.2.1, r16.2.2.2.2.2.2.2.2.2.1, r16.2.2.2.2.2.2.2.2.2.2.1, r16.2.2.2.2.2.2.2.2.2.2.2.1, r16.2.2.2.2.2.2.2.2.2.2.2.2.1, d15.2.2.2.2.2.2.2.2.2.2.2.2.2.1.set d15.1.toNat r16.1, ()))))))
 (some (d15.2.1, d15.2.2.1, d15.2.2.2.1, d15.2.2.2.2.1, d15.2.2.2.2.2.1, d15.2.2.2.2.2.2.1, d15.2.2.2.2.2.2.2.1, d15.2.2.2.2.2.2.2.2.1, d15.2.2.2.2.2.2.2.2.2.1, d15.2.2.2.2.2.2.2.2.2.2.1, d15.2.2.2.2.2.2.2.2.2.2.2.1, d15.2.2.2.2.2.2.2.2.2.2.2.2.1, d15.2.2.2.2.2.2.2.2.2.2.2.2.2.1, ()))
noncomputable def blast_maker_both__blast_maker_xor_l1 (n : Nat) (x10 : List Int) : Int × Int × List Kii × Int × Int × Int × Int × Int × Int × Int × List Int × List Int × List Int × List Int × Unit → Option ((Int × List Kii × Int × Int × Int × Int × Int × Int × Int × List Int × List Int × List Int × List Int × Unit)) := iter (blast_maker_both__blast_maker_xor_l1b n x10) n
noncomputable def blast_maker_both__blast_maker_xor (n : Nat) (x1 : Int) (x2 : List Kii) (x3 : Int) (x4 : Int) (x5 : Int) (x6 : Int) (x7 : Int) (x8 : Int) (x9 : Int) (x10 : List Int) (x11 : List Int) (x12 : List Int) : Option (List Int × Int × List Kii × Int × Int × Int × Int × Int × Int × Int × List Int × List Int × List Int × Unit) :=
 ask ((0 ≤ (x10.length : Int) ∧ (x10.length : Int) ≤ (x10.length : Int)) ∧ (8 : Int) * (x10.length : Int) ≤ 281474976710656 ∧ (x10.length : Int) ≤ 281474976710656) ((blast_maker_both__blast_maker_xor_l1 n x10 (0, x1, x2, x3, x4, x5, x6, x7, x8, x9, x10, x11, x12, List.replicate (x10.length : Int).toNat (0 : Int), ())).bind (fun d17 => some (d17.2.2.2.2.2.2.2.2.2.2.2.2.1, d17.1, d17.2.1, d17.2.2.1, d17.2.2.2.1, d17.2.2.2.2.1, d17.2.2.2.2.2.1, d17.2.2.2.2.2.2.1, d17.2.2.2.2.2.2.2.1, d17.2.2.2.2.2.2.2.2.1, d17.2.2.2.2.2.2.2.2.2.1, d17.2.2.2.2.2.2.2.2.2.2.1, d17.2.2.2.2.2.2.2.2.2.2.2.1, ())))
def blast_maker_both__blast_maker_xor_s : Sig := ⟨[.c false [.con (.ptr 0 0)], .c false [.con (.bm 88 0 0)]], [(0, .var 69 [.int .i64, .row Kii_, .int .i64, .int .i64, .int .i64, .int .i64, .int .i64, .int .i64, .int .i64, .row i_, .row i_, .row i_])], .c false [.row i_], [(0, .var 69 [.int .i64, .row Kii_, .int .i64, .int .i64, .int .i64, .int .i64, .int .i64, .int .i64, .int .i64, .row i_, .row i_, .row i_])]⟩
def blast_maker_both__blast_maker_xor_a : Ann := .s .d (.s .d (.s (.s .d (.b (.l [0, 1, 5, 6, 7, 8, 9, 12, 13, 15, 16, 17, 18, 19, 20, 21, 22, 23, 24, 25, 26, 27, 28, 29, 30, 31, 32, 33, 34, 35, 36, 37] [0, 420] ⟨[(0, .c false [.con (.ptr 0 0)]), (1, .c false [.con (.bm 88 0 0)]), (5, .c false [.con (.own 420 1)]), (15, .c false [.int .i64])], [(0, .var 69 [.int .i64, .row Kii_, .int .i64, .int .i64, .int .i64, .int .i64, .int .i64, .int .i64, .int .i64, .row i_, .row i_, .row i_]), (420, .row 3 i_)]⟩ [(.exit 0, ⟨[(5, .c false [.con (.own 420 1)])], [(0, .var 69 [.int .i64, .row Kii_, .int .i64, .int .i64, .int .i64, .int .i64, .int .i64, .int .i64, .int .i64, .row i_, .row i_, .row i_]), (420, .row 3 i_)]⟩)] .d))) .d))
noncomputable def blast_maker_both__blast_maker_xor_c (n : Nat) : Ctr Try.prog := .of Try.func85 n [blast_maker_xor_c n] blast_maker_both__blast_maker_xor_a blast_maker_both__blast_maker_xor_s (fun d => blast_maker_both__blast_maker_xor n d.1 d.2.1 d.2.2.1 d.2.2.2.1 d.2.2.2.2.1 d.2.2.2.2.2.1 d.2.2.2.2.2.2.1 d.2.2.2.2.2.2.2.1 d.2.2.2.2.2.2.2.2.1 d.2.2.2.2.2.2.2.2.2.1 d.2.2.2.2.2.2.2.2.2.2.1 d.2.2.2.2.2.2.2.2.2.2.2.1) fun d => by kernel_rfl
noncomputable def blast_maker_doXor (n : Nat) (x1 : Int) (x2 : List Kii) (x3 : Int) (x4 : Int) (x5 : Int) (x6 : Int) (x7 : Int) (x8 : Int) (x9 : Int) (x10 : List Int) (x11 : List Int) (x12 : List Int) : Option (List Int × Int × List Kii × Int × Int × Int × Int × Int × Int × Int × List Int × List Int × List Int × Unit) :=
 (blast_maker_both__blast_maker_xor n x1 x2 x3 x4 x5 x6 x7 x8 x9 x10 x11 x12).bind (fun r13 => some (r13.1, r13.2.1, r13.2.2.1, r13.2.2.2.1, r13.2.2.2.2.1, r13.2.2.2.2.2.1, r13.2.2.2.2.2.2.1, r13.2.2.2.2.2.2.2.1, r13.2.2.2.2.2.2.2.2.1, r13.2.2.2.2.2.2.2.2.2.1, r13.2.2.2.2.2.2.2.2.2.2.1, r13.2.2.2.2.2.2.2.2.2.2.2.1, r13.2.2.2.2.2.2.2.2.2.2.2.2.1, ()))
def blast_maker_doXor_s : Sig := ⟨[.c false [.con (.ptr 0 0)]], [(0, .var 69 [.int .i64, .row Kii_, .int .i64, .int .i64, .int .i64, .int .i64, .int .i64, .int .i64, .int .i64, .row i_, .row i_, .row i_])], .c false [.row i_], [(0, .var 69 [.int .i64, .row Kii_, .int .i64, .int .i64, .int .i64, .int .i64, .int .i64, .int .i64, .int .i64, .row i_, .row i_, .row i_])]⟩
def blast_maker_doXor_a : Ann := .d
noncomputable def blast_maker_doXor_c (n : Nat) : Ctr Try.prog := .of Try.func50 n [blast_maker_both__blast_maker_xor_c n] blast_maker_doXor_a blast_maker_doXor_s (fun d => blast_maker_doXor n d.1 d.2.1 d.2.2.1 d.2.2.2.1 d.2.2.2.2.1 d.2.2.2.2.2.1 d.2.2.2.2.2.2.1 d.2.2.2.2.2.2.2.1 d.2.2.2.2.2.2.2.2.1 d.2.2.2.2.2.2.2.2.2.1 d.2.2.2.2.2.2.2.2.2.2.1 d.2.2.2.2.2.2.2.2.2.2.2.1) fun d => by kernel_rfl
noncomputable def blast_maker_mux (n : Nat) (x1 : Int) (x2 : Int) (x3 : Int) (x4 : Int) (x5 : List Kii) (x6 : Int) (x7 : Int) (x8 : Int) (x9 : Int) (x10 : Int) (x11 : Int) (x12 : Int) (x13 : List Int) (x14 : List Int) (x15 : List Int) : Option (Int × Int × List Kii × Int × Int × Int × Int × Int × Int × Int × List Int × List Int × List Int × Unit) :=
 (blast_maker_and n x1 x2 x4 x5 x6 x7 x8 x9 x10 x11 x12 x13 x14 x15).bind (fun r16 => (blast_maker_and n (bits .xor .i64 x1 1) x3 r16.2.1 r16.2.2.1 r16.2.2.2.1 r16.2.2.2.2.1 r16.2.2.2.2.2.1 r16.2.2.2.2.2.2.1 r16.2.2.2.2.2.2.2.1 r16.2.2.2.2.2.2.2.2.1 r16.2.2.2.2.2.2.2.2.2.1 r16.2.2.2.2.2.2.2.2.2.2.1 r16.2.2.2.2.2.2.2.2.2.2.2.1 r16.2.2.2.2.2.2.2.2.2.2.2.2.1).bind (fun r17 => (blast_maker_or n r16.1 r17.1 r17.2.1 r17.2.2.1 r17.2.2.2.1 r17.2.2.2.2.1 r17.2.2.2.2.2.1 r17.2.2.2.2.2.2.1 r17.2.2.2.2.2.2.2.1 r17.2.2.2.2.2.2.2.2.1 r17.2.2.2.2.2.2.2.2.2.1 r17.2.2.2.2.2.2.2.2.2.2.1 r17.2.2.2.2.2.2.2.2.2.2.2.1 r17.2.2.2.2.2.2.2.2.2.2.2.2.1).bind (fun r18 => some (r18.1, r18.2.1, r18.2.2.1, r18.2.2.2.1, r18.2.2.2.2.1, r18.2.2.2.2.2.1, r18.2.2.2.2.2.2.1, r18.2.2.2.2.2.2.2.1, r18.2.2.2.2.2.2.2.2.1, r18.2.2.2.2.2.2.2.2.2.1, r18.2.2.2.2.2.2.2.2.2.2.1, r18.2.2.2.2.2.2.2.2.2.2.2.1, r18.2.2.2.2.2.2.2.2.2.2.2.2.1, ()))))
def blast_maker_mux_s : Sig := ⟨[.c false [.con (.ptr 0 0)], .c false [.int .i64], .c false [.int .i64], .c false [.int .i64]], [(0, .var 69 [.int .i64, .row Kii_, .int .i64, .int .i64, .int .i64, .int .i64, .int .i64, .int .i64, .int .i64, .row i_, .row i_, .row i_])], .c false [.int .i64], [(0, .var 69 [.int .i64, .row Kii_, .int .i64, .int .i64, .int .i64, .int .i64, .int .i64, .int .i64, .int .i64, .row i_, .row i_, .row i_])]⟩
def blast_maker_mux_a : Ann := .d
noncomputable def blast_maker_mux_c (n : Nat) : Ctr Try.prog := .of Try.func91 n [blast_maker_and_c n, blast_maker_or_c n] blast_maker_mux_a blast_maker_mux_s (fun d => blast_maker_mux n d.1 d.2.1 d.2.2.1 d.2.2.2.1 d.2.2.2.2.1 d.2.2.2.2.2.1 d.2.2.2.2.2.2.1 d.2.2.2.2.2.2.2.1 d.2.2.2.2.2.2.2.2.1 d.2.2.2.2.2.2.2.2.2.1 d.2.2.2.2.2.2.2.2.2.2.1 d.2.2.2.2.2.2.2.2.2.2.2.1 d.2.2.2.2.2.2.2.2.2.2.2.2.1 d.2.2.2.2.2.2.2.2.2.2.2.2.2.1 d.2.2.2.2.2.2.2.2.2.2.2.2.2.2.1) fun d => by kernel_rfl
noncomputable def blast_maker_sum_l1b (n : Nat) (x1 : List Int) (x2 : List Int) (self : Int × Int × Int × List Kii × Int × Int × Int × Int × Int × Int × Int × List Int × List Int × List Int × List Int × Unit → Option ((Int × List Kii × Int × Int × Int × Int × Int × Int × Int × List Int × List Int × List Int × List Int × Unit))) (d18 : Int × Int × Int × List Kii × Int × Int × Int × Int × Int × Int × Int × List Int × List Int × List Int × List Int × Unit) : Option ((Int × List Kii × Int × Int × Int × Int × Int × Int × Int × List Int × List Int × List Int × List Int × Unit)) :=
 cond (decide (d18.2.1 < (x1.length : Int)))
 (ask (0 ≤ d18.2.1 ∧ d18.2.1 < (x1.length : Int)) (ask (0 ≤ d18.2.1 ∧ d18.2.1 < (x2.length : Int)) ((blast_maker_xor n (Ki_at x1 d18.2.1) (Ki_at x2 d18.2.1) d18.2.2.1 d18.2.2.2.1 d18.2.2.2.2.1 d18.2.2.2.2.2.1 d18.2.2.2.2.2.2.1 d18.2.2.2.2.2.2.2.1 d18.2.2.2.2.2.2.2.2.1 d18.2.2.2.2.2.2.2.2.2.1 d18.2.2.2.2.2.2.2.2.2.2.1 d18.2.2.2.2.2.2.2.2.2.2.2.1 d18.2.2.2.2.2.2.2.2.2.2.2.2.1 d18.2.2.2.2.2.2.2.2.2.2.2.2.2.1).bind (fun r19 => (blast_maker_xor n r19.1 d18.1 r19.2.1 r19.2.2.1 r19.2.2.2.1 r19.2.2.2.2.1 r19.2.2.2.2.2.1 r19.2.2.2.2.2.2.1 r19.2.2.2.2.2.2.2.1 r19.2.2.2.2.2.2.2.2.1 r19.2.2.2.2.2.2.2.2.2.1 r19.2.2.2.2.2.2.2.2.2.2.1 r19.2.2.2.2.2.2.2.2.2.2.2.1 r19.2.2.2.2.2.2.2.2.2.2.2.2.1).bind (fun r20 => ask (0 ≤ d18.2.1 ∧ d18.2.1 < (d18.2.2.2.2.2.2.2.2.2.2.2.2.2.2.1.length : Int)) (ask (0 ≤ d18.2.1 ∧ d18.2.1 < (x1.length : Int)) ((blast_maker_mux n r19.1 d18.1 (Ki_at x1 d18.2.1) r20.2.1 r20.2.2.1 r20.2.2.2.1 r20.2.2.2.2.1 r20.2.2.2.2.2.1 r20.2.2.2.2.2.2.1 r20.2.2.2.2.2.2.2.1 r20.2.2.2.2.2.2.2.2.1 r20.2.2.2.2.2.2.2.2.2.1 r20.2.2.2.2.2.2.2.2.2.2.1 r20.2.2.2.2.2.2.2.2.2.2.2.1 r20.2.2.2.2.2.2.2.2.2.2.2.2.1).bind (fun r21 => self (r21.1, IntKind.wrap .i64 (d18.2.1 + 1), r21.2.1, r21.2.2.1, r21.2.2.2.1, r21.2.2.2.2.1, r21.2.2.2.2.2.1, r21.2.2.2.2.2.2.1, r21.2.2.2.2.2.2.2.1, r21.2.2.2.2.2.2.2.2.1, r21.2.2.2.2.2.2.2.2.2.1, r21.2.2.2.2.2.2.2.2.2.2.1, r21.2.2.2.2.2.2.2.2.2.2.2.1, r21.2.2.2.2.2.2.2.2.2.2.2.2.1, d18.2.2.2.2.2.2.2.2.2.2.2.2.2.2.1.set d18.2.1.toNat r20.1, ())))))))))
 (some (d18.2.2.1, d18.2.2.2.1, d18.2.2.2.2.1, d18.2.2.2.2.2.1, d18.2.2.2.2.2.2.1, d18.2.2.2.2.2.2.2.1, d18.2.2.2.2.2.2.2.2.1, d18.2.2.2.2.2.2.2.2.2.1, d18.2.2.2.2.2.2.2.2.2.2.1, d18.2.2.2.2.2.2.2.2.2.2.2.1, d18.2.2.2.2.2.2.2.2.2.2.2.2.1, d18.2.2.2.2.2.2.2.2.2.2.2.2.2.1, d18.2.2.2.2.2.2.2.2.2.2.2.2.2.2.1, ()))
noncomputable def blast_maker_sum_l1 (n : Nat) (x1 : List Int) (x2 : List Int) : Int × Int × Int × List Kii × Int × Int × Int × Int × Int × Int × Int × List Int × List Int × List Int × List Int × Unit → Option ((Int × List Kii × Int × Int × Int × Int × Int × Int × Int × List Int × List Int × List Int × List Int × Unit)) := iter (blast_maker_sum_l1b n x1 x2) n
noncomputable def blast_maker_sum (n : Nat) (x1 : List Int) (x2 : List Int) (x3 : Int) (x4 : Int) (x5 : List Kii) (x6 : Int) (x7 : Int) (x8 : Int) (x9 : Int) (x10 : Int) (x11 : Int) (x12 : Int) (x13 : List Int) (x14 : List Int) (x15 : List Int) : Option (List Int × Int × List Kii × Int × Int × Int × Int × Int × Int × Int × List Int × List Int × List Int × Unit) :=
 ask ((0 ≤ (x1.length : Int) ∧ (x1.length : Int) ≤ (x1.length : Int)) ∧ (8 : Int) * (x1.length : Int) ≤ 281474976710656 ∧ (x1.length : Int) ≤ 281474976710656) ((blast_maker_sum_l1 n x1 x2 (x3, 0, x4, x5, x6, x7, x8, x9, x10, x11, x12, x13, x14, x15, List.replicate (x1.length : Int).toNat (0 : Int), ())).bind (fun d22 => some (d22.2.2.2.2.2.2.2.2.2.2.2.2.1, d22.1, d22.2.1, d22.2.2.1, d22.2.2.2.1, d22.2.2.2.2.1, d22.2.2.2.2.2.1, d22.2.2.2.2.2.2.1, d22.2.2.2.2.2.2.2.1, d22.2.2.2.2.2.2.2.2.1, d22.2.2.2.2.2.2.2.2.2.1, d22.2.2.2.2.2.2.2.2.2.2.1, d22.2.2.2.2.2.2.2.2.2.2.2.1, ())))
def blast_maker_sum_s : Sig := ⟨[.c false [.con (.ptr 0 0)], .c false [.row i_], .c false [.row i_], .c false [.int .i64]], [(0, .var 69 [.int .i64, .row Kii_, .int .i64, .int .i64, .int .i64, .int .i64, .int .i64, .int .i64, .int .i64, .row i_, .row i_, .row i_])], .c false [.row i_], [(0, .var 69 [.int .i64, .row Kii_, .int .i64, .int .i64, .int .i64, .int .i64, .int .i64, .int .i64, .int .i64, .row i_, .row i_, .row i_])]⟩
def blast_maker_sum_a : Ann := .s .d (.s .d (.s (.s .d (.b (.l [0, 3, 9, 10, 11, 14, 17, 18, 19, 20, 21, 22, 23, 24, 25, 26, 27, 28, 29, 30, 31, 32, 33, 34, 35, 36, 37, 38, 39, 40, 41, 42, 43, 44, 45] [0, 228] ⟨[(0, .c false [.con (.ptr 0 0)]), (3, .c false [.int .i64]), (9, .c false [.con (.own 228 1)]), (17, .c false [.int .i64])], [(0, .var 69 [.int .i64, .row Kii_, .int .i64, .int .i64, .int .i64, .int .i64, .int .i64, .int .i64, .int .i64, .row i_, .row i_, .row i_]), (228, .row 3 i_)]⟩ [(.exit 0, ⟨[(9, .c false [.con (.own 228 1)])], [(0, .var 69 [.int .i64, .row Kii_, .int .i64, .int .i64, .int .i64, .int .i64, .int .i64, .int .i64, .int .i64, .row i_, .row i_, .row i_]), (228, .row 3 i_)]⟩)] .d))) .d))
noncomputable def blast_maker_sum_c (n : Nat) : Ctr Try.prog := .of Try.func89 n [blast_maker_xor_c n, blast_maker_mux_c n] blast_maker_sum_a blast_maker_sum_s (fun d => blast_maker_sum n d.1 d.2.1 d.2.2.1 d.2.2.2.1 d.2.2.2.2.1 d.2.2.2.2.2.1 d.2.2.2.2.2.2.1 d.2.2.2.2.2.2.2.1 d.2.2.2.2.2.2.2.2.1 d.2.2.2.2.2.2.2.2.2.1 d.2.2.2.2.2.2.2.2.2.2.1 d.2.2.2.2.2.2.2.2.2.2.2.1 d.2.2.2.2.2.2.2.2.2.2.2.2.1 d.2.2.2.2.2.2.2.2.2.2.2.2.2.1 d.2.2.2.2.2.2.2.2.2.2.2.2.2.2.1) fun d => by kernel_rfl
noncomputable def blast_maker_doAdd (n : Nat) (x1 : Int) (x2 : List Kii) (x3 : Int) (x4 : Int) (x5 : Int) (x6 : Int) (x7 : Int) (x8 : Int) (x9 : Int) (x10 : List Int) (x11 : List Int) (x12 : List Int) : Option (List Int × Int × List Kii × Int × Int × Int × Int × Int × Int × Int × List Int × List Int × List Int × Unit) :=
 (blast_maker_sum n x10 x11 0 x1 x2 x3 x4 x5 x6 x7 x8 x9 x10 x11 x12).bind (fun r13 => some (r13.1, r13.2.1, r13.2.2.1, r13.2.2.2.1, r13.2.2.2.2.1, r13.2.2.2.2.2.1, r13.2.2.2.2.2.2.1, r13.2.2.2.2.2.2.2.1, r13.2.2.2.2.2.2.2.2.1, r13.2.2.2.2.2.2.2.2.2.1, r13.2.2.2.2.2.2.2.2.2.2.1, r13.2.2.2.2.2.2.2.2.2.2.2.1, r13.2.2.2.2.2.2.2.2.2.2.2.2.1, ()))
def blast_maker_doAdd_s : Sig := ⟨[.c false [.con (.ptr 0 0)]], [(0, .var 69 [.int .i64, .row Kii_, .int .i64, .int .i64, .int .i64, .int .i64, .int .i64, .int .i64, .int .i64, .row i_, .row i_, .row i_])], .c false [.row i_], [(0, .var 69 [.int .i64, .row Kii_, .int .i64, .int .i64, .int .i64, .int .i64, .int .i64, .int .i64, .int .i64, .row i_, .row i_, .row i_])]⟩
def blast_maker_doAdd_a : Ann := .d
noncomputable def blast_maker_doAdd_c (n : Nat) : Ctr Try.prog := .of Try.func51 n [blast_maker_sum_c n] blast_maker_doAdd_a blast_maker_doAdd_s (fun d => blast_maker_doAdd n d.1 d.2.1 d.2.2.1 d.2.2.2.1 d.2.2.2.2.1 d.2.2.2.2.2.1 d.2.2.2.2.2.2.1 d.2.2.2.2.2.2.2.1 d.2.2.2.2.2.2.2.2.1 d.2.2.2.2.2.2.2.2.2.1 d.2.2.2.2.2.2.2.2.2.2.1 d.2.2.2.2.2.2.2.2.2.2.2.1) fun d => by kernel_rfl
noncomputable def blast_maker_doSub (n : Nat) (x1 : Int) (x2 : List Kii) (x3 : Int) (x4 : Int) (x5 : Int) (x6 : Int) (x7 : Int) (x8 : Int) (x9 : Int) (x10 : List Int) (x11 : List Int) (x12 : List Int) : Option (List Int × Int × List Kii × Int × Int × Int × Int × Int × Int × Int × List Int × List Int × List Int × Unit) :=
 (blast_turned n x11).bind (fun r13 => (blast_maker_sum n x10 r13.1 1 x1 x2 x3 x4 x5 x6 x7 x8 x9 x10 x11 x12).bind (fun r14 => some (r14.1, r14.2.1, r14.2.2.1, r14.2.2.2.1, r14.2.2.2.2.1, r14.2.2.2.2.2.1, r14.2.2.2.2.2.2.1, r14.2.2.2.2.2.2.2.1, r14.2.2.2.2.2.2.2.2.1, r14.2.2.2.2.2.2.2.2.2.1, r14.2.2.2.2.2.2.2.2.2.2.1, r14.2.2.2.2.2.2.2.2.2.2.2.1, r14.2.2.2.2.2.2.2.2.2.2.2.2.1, ())))
def blast_maker_doSub_s : Sig := ⟨[.c false [.con (.ptr 0 0)]], [(0, .var 69 [.int .i64, .row Kii_, .int .i64, .int .i64, .int .i64, .int .i64, .int .i64, .int .i64, .int .i64, .row i_, .row i_, .row i_])], .c false [.row i_], [(0, .var 69 [.int .i64, .row Kii_, .int .i64, .int .i64, .int .i64, .int .i64, .int .i64, .int .i64, .int .i64, .row i_, .row i_, .row i_])]⟩
def blast_maker_doSub_a : Ann := .d
noncomputable def blast_maker_doSub_c (n : Nat) : Ctr Try.prog := .of Try.func52 n [blast_turned_c n, blast_maker_sum_c n] blast_maker_doSub_a blast_maker_doSub_s (fun d => blast_maker_doSub n d.1 d.2.1 d.2.2.1 d.2.2.2.1 d.2.2.2.2.1 d.2.2.2.2.2.1 d.2.2.2.2.2.2.1 d.2.2.2.2.2.2.2.1 d.2.2.2.2.2.2.2.2.1 d.2.2.2.2.2.2.2.2.2.1 d.2.2.2.2.2.2.2.2.2.2.1 d.2.2.2.2.2.2.2.2.2.2.2.1) fun d => by kernel_rfl
noncomputable def blast_maker_doMul_l1b (n : Nat) (d17 : List Int × Int × Int × List Kii × Int × Int × Int × Int × Int × Int × Int × List Int × List Int × List Int × Unit) (x10 : List Int) (x11 : List Int) (self : Int × Int × List Kii × Int × Int × Int × Int × Int × Int × Int × List Int × List Int × List Int × List Int × Unit → Option ((Int × List Kii × Int × Int × Int × Int × Int × Int × Int × List Int × List Int × List Int × List Int × Unit))) (d20 : Int × Int × List Kii × Int × Int × Int × Int × Int × Int × Int × List Int × List Int × List Int × List Int × Unit) : Option ((Int × List Kii × Int × Int × Int × Int × Int × Int × Int × List Int × List Int × List Int × List Int × Unit)) :=
 cond (decide (d20.1 < (x10.length : Int)))
 (ask (0 ≤ (IntKind.wrap .i64 (d20.1 - d17.2.1)) ∧ IntKind.wrap .i64 (d20.1 - d17.2.1) < (d20.2.2.2.2.2.2.2.2.2.2.1.length : Int)) ((blast_maker_and n (Ki_at d20.2.2.2.2.2.2.2.2.2.2.1 (IntKind.wrap .i64 (d20.1 - d17.2.1))) (Ki_at x11 d17.2.1) d20.2.1 d20.2.2.1 d20.2.2.2.1 d20.2.2.2.2.1 d20.2.2.2.2.2.1 d20.2.2.2.2.2.2.1 d20.2.2.2.2.2.2.2.1 d20.2.2.2.2.2.2.2.2.1 d20.2.2.2.2.2.2.2.2.2.1 d20.2.2.2.2.2.2.2.2.2.2.1 d20.2.2.2.2.2.2.2.2.2.2.2.1 d20.2.2.2.2.2.2.2.2.2.2.2.2.1).bind (fun r21 => ask (0 ≤ d20.1 ∧ d20.1 < (d20.2.2.2.2.2.2.2.2.2.2.2.2.2.1.length : Int)) (self (IntKind.wrap .i64 (d20.1 + 1), r21.2.1, r21.2.2.1, r21.2.2.2.1, r21.2.2.2.2.1, r21.2.2.2.2.2.1, r21.2.2.2.2.2.2.1, r21.2.2.2.2.2.2.2.1, r21.2.2.2.2.2.2.2.2.1, r21.2.2.2.2.2.2.2.2.2.1, r21.2.2.2.2.2.2.2.2.2.2.1, r21.2.2.2.2.2.2.2.2.2.2.2.1, r21.2.2.2.2.2.2.2.2.2.2.2.2.1, d20.2.2.2.2.2.2.2.2.2.2.2.2.2.1.set d20.1.toNat r21.1, ())))))
 (some (d20.2.1, d20.2.2.1, d20.2.2.2.1, d20.2.2.2.2.1, d20.2.2.2.2.2.1, d20.2.2.2.2.2.2.1, d20.2.2.2.2.2.2.2.1, d20.2.2.2.2.2.2.2.2.1, d20.2.2.2.2.2.2.2.2.2.1, d20.2.2.2.2.2.2.2.2.2.2.1, d20.2.2.2.2.2.2.2.2.2.2.2.1, d20.2.2.2.2.2.2.2.2.2.2.2.2.1, d20.2.2.2.2.2.2.2.2.2.2.2.2.2.1, ()))
noncomputable def blast_maker_doMul_l1 (n : Nat) (d17 : List Int × Int × Int × List Kii × Int × Int × Int × Int × Int × Int × Int × List Int × List Int × List Int × Unit) (x10 : List Int) (x11 : List Int) : Int × Int × List Kii × Int × Int × Int × Int × Int × Int × Int × List Int × List Int × List Int × List Int × Unit → Option ((Int × List Kii × Int × Int × Int × Int × Int × Int × Int × List Int × List Int × List Int × List Int × Unit)) := iter (blast_maker_doMul_l1b n d17 x10 x11) n
noncomputable def blast_maker_doMul_l2b (n : Nat) (x10 : List Int) (x11 : List Int) (self : List Int × Int × Int × List Kii × Int × Int × Int × Int × Int × Int × Int × List Int × List Int × List Int × Unit → Option ((List Int × Int × List Kii × Int × Int × Int × Int × Int × Int × Int × List Int × List Int × List Int × Unit))) (d17 : List Int × Int × Int × List Kii × Int × Int × Int × Int × Int × Int × Int × List Int × List Int × List Int × Unit) : Option ((List Int × Int × List Kii × Int × Int × Int × Int × Int × Int × Int × List Int × List Int × List Int × Unit)) :=
 cond (decide (d17.2.1 < (x11.length : Int)))
 (ask (0 ≤ d17.2.1 ∧ d17.2.1 < (x11.length : Int)) (ask ((0 ≤ (x10.length : Int) ∧ (x10.length : Int) ≤ (x10.length : Int)) ∧ (8 : Int) * (x10.length : Int) ≤ 281474976710656 ∧ (x10.length : Int) ≤ 281474976710656) ((blast_maker_doMul_l1 n d17 x10 x11 (d17.2.1, d17.2.2.1, d17.2.2.2.1, d17.2.2.2.2.1, d17.2.2.2.2.2.1, d17.2.2.2.2.2.2.1, d17.2.2.2.2.2.2.2.1, d17.2.2.2.2.2.2.2.2.1, d17.2.2.2.2.2.2.2.2.2.1, d17.2.2.2.2.2.2.2.2.2.2.1, d17.2.2.2.2.2.2.2.2.2.2.2.1, d17.2.2.2.2.2.2.2.2.2.2.2.2.1, d17.2.2.2.2.2.2.2.2.2.2.2.2.2.1, List.replicate (x10.length : Int).toNat (0 : Int), ())).bind (fun d22 => (blast_maker_sum n d17.1 d22.2.2.2.2.2.2.2.2.2.2.2.2.1 0 d22.1 d22.2.1 d22.2.2.1 d22.2.2.2.1 d22.2.2.2.2.1 d22.2.2.2.2.2.1 d22.2.2.2.2.2.2.1 d22.2.2.2.2.2.2.2.1 d22.2.2.2.2.2.2.2.2.1 d22.2.2.2.2.2.2.2.2.2.1 d22.2.2.2.2.2.2.2.2.2.2.1 d22.2.2.2.2.2.2.2.2.2.2.2.1).bind (fun r23 => self (r23.1, IntKind.wrap .i64 (d17.2.1 + 1), r23.2.1, r23.2.2.1, r23.2.2.2.1, r23.2.2.2.2.1, r23.2.2.2.2.2.1, r23.2.2.2.2.2.2.1, r23.2.2.2.2.2.2.2.1, r23.2.2.2.2.2.2.2.2.1, r23.2.2.2.2.2.2.2.2.2.1, r23.2.2.2.2.2.2.2.2.2.2.1, r23.2.2.2.2.2.2.2.2.2.2.2.1, r23.2.2.2.2.2.2.2.2.2.2.2.2.1, ()))))))
 (some (d17.1, d17.2.2.1, d17.2.2.2.1, d17.2.2.2.2.1, d17.2.2.2.2.2.1, d17.2.2.2.2.2.2.1, d17.2.2.2.2.2.2.2.1, d17.2.2.2.2.2.2.2.2.1, d17.2.2.2.2.2.2.2.2.2.1, d17.2.2.2.2.2.2.2.2.2.2.1, d17.2.2.2.2.2.2.2.2.2.2.2.1, d17.2.2.2.2.2.2.2.2.2.2.2.2.1, d17.2.2.2.2.2.2.2.2.2.2.2.2.2.1, ()))
noncomputable def blast_maker_doMul_l2 (n : Nat) (x10 : List Int) (x11 : List Int) : List Int × Int × Int × List Kii × Int × Int × Int × Int × Int × Int × Int × List Int × List Int × List Int × Unit → Option ((List Int × Int × List Kii × Int × Int × Int × Int × Int × Int × Int × List Int × List Int × List Int × Unit)) := iter (blast_maker_doMul_l2b n x10 x11) n
noncomputable def blast_maker_doMul (n : Nat) (x1 : Int) (x2 : List Kii) (x3 : Int) (x4 : Int) (x5 : Int) (x6 : Int) (x7 : Int) (x8 : Int) (x9 : Int) (x10 : List Int) (x11 : List Int) (x12 : List Int) : Option (List Int × Int × List Kii × Int × Int × Int × Int × Int × Int × Int × List Int × List Int × List Int × Unit) :=
 ask ((0 ≤ (x10.length : Int) ∧ (x10.length : Int) ≤ (x10.length : Int)) ∧ (8 : Int) * (x10.length : Int) ≤ 281474976710656 ∧ (x10.length : Int) ≤ 281474976710656) ((blast_maker_doMul_l2 n x10 x11 (List.replicate (x10.length : Int).toNat (0 : Int), 0, x1, x2, x3, x4, x5, x6, x7, x8, x9, x10, x11, x12, ())).bind (fun d24 => some (d24.1, d24.2.1, d24.2.2.1, d24.2.2.2.1, d24.2.2.2.2.1, d24.2.2.2.2.2.1, d24.2.2.2.2.2.2.1, d24.2.2.2.2.2.2.2.1, d24.2.2.2.2.2.2.2.2.1, d24.2.2.2.2.2.2.2.2.2.1, d24.2.2.2.2.2.2.2.2.2.2.1, d24.2.2.2.2.2.2.2.2.2.2.2.1, d24.2.2.2.2.2.2.2.2.2.2.2.2.1, ())))
def blast_maker_doMul_s : Sig := ⟨[.c false [.con (.ptr 0 0)]], [(0, .var 69 [.int .i64, .row Kii_, .int .i64, .int .i64, .int .i64, .int .i64, .int .i64, .int .i64, .int .i64, .row i_, .row i_, .row i_])], .c false [.row i_], [(0, .var 69 [.int .i64, .row Kii_, .int .i64, .int .i64, .int .i64, .int .i64, .int .i64, .int .i64, .int .i64, .row i_, .row i_, .row i_])]⟩
def blast_maker_doMul_a : Ann := .s .d (.s .d (.s .d (.s (.s .d (.b (.l [0, 4, 5, 6, 7, 8, 9, 10, 11, 15, 16, 17, 18, 21, 22, 23, 24, 25, 26, 27, 28, 29, 30, 31, 32, 33, 34, 35, 36, 37, 38, 39, 40, 41, 42, 43, 44, 45, 46, 47, 48, 49, 50, 51, 52, 53] [0, 164] ⟨[(0, .c false [.con (.ptr 0 0)]), (4, .c false [.row i_]), (21, .c false [.int .i64])], [(0, .var 69 [.int .i64, .row Kii_, .int .i64, .int .i64, .int .i64, .int .i64, .int .i64, .int .i64, .int .i64, .row i_, .row i_, .row i_])]⟩ [(.exit 0, ⟨[(4, .c false [.row i_])], [(0, .var 69 [.int .i64, .row Kii_, .int .i64, .int .i64, .int .i64, .int .i64, .int .i64, .int .i64, .int .i64, .row i_, .row i_, .row i_])]⟩)] (.s .d (.s .d (.s (.b (.s .d (.s .d (.s (.s .d (.b (.l [0, 7, 8, 27, 29, 30, 31, 32, 33, 34, 35, 36, 37, 38, 39, 40, 41, 42, 43, 44, 45, 46, 47, 48] [0, 164] ⟨[(0, .c false [.con (.ptr 0 0)]), (7, .c false [.con (.own 164 1)]), (8, .c false [.int .i64])], [(0, .var 69 [.int .i64, .row Kii_, .int .i64, .int .i64, .int .i64, .int .i64, .int .i64, .int .i64, .int .i64, .row i_, .row i_, .row i_]), (164, .row 3 i_)]⟩ [(.exit 2, ⟨[(0, .c false [.con (.ptr 0 0)]), (7, .c false [.con (.own 164 1)])], [(0, .var 69 [.int .i64, .row Kii_, .int .i64, .int .i64, .int .i64, .int .i64, .int .i64, .int .i64, .int .i64, .row i_, .row i_, .row i_]), (164, .row 3 i_)]⟩)] .d))) (.z [164]))))) .d)))))) .d)))
noncomputable def blast_maker_doMul_c (n : Nat) : Ctr Try.prog := .of Try.func53 n [blast_maker_and_c n, blast_maker_sum_c n] blast_maker_doMul_a blast_maker_doMul_s (fun d => blast_maker_doMul n d.1 d.2.1 d.2.2.1 d.2.2.2.1 d.2.2.2.2.1 d.2.2.2.2.2.1 d.2.2.2.2.2.2.1 d.2.2.2.2.2.2.2.1 d.2.2.2.2.2.2.2.2.1 d.2.2.2.2.2.2.2.2.2.1 d.2.2.2.2.2.2.2.2.2.2.1 d.2.2.2.2.2.2.2.2.2.2.2.1) fun d => by kernel_rfl
noncomputable def blast_maker_doNe (n : Nat) (x1 : Int) (x2 : List Kii) (x3 : Int) (x4 : Int) (x5 : Int) (x6 : Int) (x7 : Int) (x8 : Int) (x9 : Int) (x10 : List Int) (x11 : List Int) (x12 : List Int) : Option (List Int × Int × List Kii × Int × Int × Int × Int × Int × Int × Int × List Int × List Int × List Int × Unit) :=
 (blast_maker_both__blast_maker_xor n x1 x2 x3 x4 x5 x6 x7 x8 x9 x10 x11 x12).bind (fun r13 => (blast_maker_any n r13.1 r13.2.1 r13.2.2.1 r13.2.2.2.1 r13.2.2.2.2.1 r13.2.2.2.2.2.1 r13.2.2.2.2.2.2.1 r13.2.2.2.2.2.2.2.1 r13.2.2.2.2.2.2.2.2.1 r13.2.2.2.2.2.2.2.2.2.1 r13.2.2.2.2.2.2.2.2.2.2.1 r13.2.2.2.2.2.2.2.2.2.2.2.1 r13.2.2.2.2.2.2.2.2.2.2.2.2.1).bind (fun r14 => some (([r14.1] : List Int), r14.2.1, r14.2.2.1, r14.2.2.2.1, r14.2.2.2.2.1, r14.2.2.2.2.2.1, r14.2.2.2.2.2.2.1, r14.2.2.2.2.2.2.2.1, r14.2.2.2.2.2.2.2.2.1, r14.2.2.2.2.2.2.2.2.2.1, r14.2.2.2.2.2.2.2.2.2.2.1, r14.2.2.2.2.2.2.2.2.2.2.2.1, r14.2.2.2.2.2.2.2.2.2.2.2.2.1, ())))
def blast_maker_doNe_s : Sig := ⟨[.c false [.con (.ptr 0 0)]], [(0, .var 69 [.int .i64, .row Kii_, .int .i64, .int .i64, .int .i64, .int .i64, .int .i64, .int .i64, .int .i64, .row i_, .row i_, .row i_])], .c false [.row i_], [(0, .var 69 [.int .i64, .row Kii_, .int .i64, .int .i64, .int .i64, .int .i64, .int .i64, .int .i64, .int .i64, .row i_, .row i_, .row i_])]⟩
def blast_maker_doNe_a : Ann := .d
noncomputable def blast_maker_doNe_c (n : Nat) : Ctr Try.prog := .of Try.func55 n [blast_maker_both__blast_maker_xor_c n, blast_maker_any_c n] blast_maker_doNe_a blast_maker_doNe_s (fun d => blast_maker_doNe n d.1 d.2.1 d.2.2.1 d.2.2.2.1 d.2.2.2.2.1 d.2.2.2.2.2.1 d.2.2.2.2.2.2.1 d.2.2.2.2.2.2.2.1 d.2.2.2.2.2.2.2.2.1 d.2.2.2.2.2.2.2.2.2.1 d.2.2.2.2.2.2.2.2.2.2.1 d.2.2.2.2.2.2.2.2.2.2.2.1) fun d => by kernel_rfl
noncomputable def blast_maker_doEq (n : Nat) (x1 : Int) (x2 : List Kii) (x3 : Int) (x4 : Int) (x5 : Int) (x6 : Int) (x7 : Int) (x8 : Int) (x9 : Int) (x10 : List Int) (x11 : List Int) (x12 : List Int) : Option (List Int × Int × List Kii × Int × Int × Int × Int × Int × Int × Int × List Int × List Int × List Int × Unit) :=
 (blast_maker_doNe n x1 x2 x3 x4 x5 x6 x7 x8 x9 x10 x11 x12).bind (fun r13 => (blast_turned n r13.1).bind (fun r14 => some (r14.1, r13.2.1, r13.2.2.1, r13.2.2.2.1, r13.2.2.2.2.1, r13.2.2.2.2.2.1, r13.2.2.2.2.2.2.1, r13.2.2.2.2.2.2.2.1, r13.2.2.2.2.2.2.2.2.1, r13.2.2.2.2.2.2.2.2.2.1, r13.2.2.2.2.2.2.2.2.2.2.1, r13.2.2.2.2.2.2.2.2.2.2.2.1, r13.2.2.2.2.2.2.2.2.2.2.2.2.1, ())))
def blast_maker_doEq_s : Sig := ⟨[.c false [.con (.ptr 0 0)]], [(0, .var 69 [.int .i64, .row Kii_, .int .i64, .int .i64, .int .i64, .int .i64, .int .i64, .int .i64, .int .i64, .row i_, .row i_, .row i_])], .c false [.row i_], [(0, .var 69 [.int .i64, .row Kii_, .int .i64, .int .i64, .int .i64, .int .i64, .int .i64, .int .i64, .int .i64, .row i_, .row i_, .row i_])]⟩
def blast_maker_doEq_a : Ann := .d
noncomputable def blast_maker_doEq_c (n : Nat) : Ctr Try.prog := .of Try.func54 n [blast_maker_doNe_c n, blast_turned_c n] blast_maker_doEq_a blast_maker_doEq_s (fun d => blast_maker_doEq n d.1 d.2.1 d.2.2.1 d.2.2.2.1 d.2.2.2.2.1 d.2.2.2.2.2.1 d.2.2.2.2.2.2.1 d.2.2.2.2.2.2.2.1 d.2.2.2.2.2.2.2.2.1 d.2.2.2.2.2.2.2.2.2.1 d.2.2.2.2.2.2.2.2.2.2.1 d.2.2.2.2.2.2.2.2.2.2.2.1) fun d => by kernel_rfl
noncomputable def blast_maker_below_l1b (n : Nat) (x11 : List Int) (self : Int × Int × Int × List Kii × Int × Int × Int × Int × Int × Int × Int × List Int × List Int × List Int × Unit → Option ((Int × Int × List Kii × Int × Int × Int × Int × Int × Int × Int × List Int × List Int × List Int × Unit))) (d16 : Int × Int × Int × List Kii × Int × Int × Int × Int × Int × Int × Int × List Int × List Int × List Int × Unit) : Option ((Int × Int × List Kii × Int × Int × Int × Int × Int × Int × Int × List Int × List Int × List Int × Unit)) :=
 cond (decide (d16.2.1 < (x11.length : Int)))
 (ask (0 ≤ d16.2.1 ∧ d16.2.1 < (d16.2.2.2.2.2.2.2.2.2.2.2.1.length : Int)) (ask (0 ≤ d16.2.1 ∧ d16.2.1 < (d16.2.2.2.2.2.2.2.2.2.2.2.2.1.length : Int)) ((blast_maker_xor n (Ki_at d16.2.2.2.2.2.2.2.2.2.2.2.1 d16.2.1) (Ki_at d16.2.2.2.2.2.2.2.2.2.2.2.2.1 d16.2.1) d16.2.2.1 d16.2.2.2.1 d16.2.2.2.2.1 d16.2.2.2.2.2.1 d16.2.2.2.2.2.2.1 d16.2.2.2.2.2.2.2.1 d16.2.2.2.2.2.2.2.2.1 d16.2.2.2.2.2.2.2.2.2.1 d16.2.2.2.2.2.2.2.2.2.2.1 d16.2.2.2.2.2.2.2.2.2.2.2.1 d16.2.2.2.2.2.2.2.2.2.2.2.2.1 d16.2.2.2.2.2.2.2.2.2.2.2.2.2.1).bind (fun r17 => ask (0 ≤ d16.2.1 ∧ d16.2.1 < (r17.2.2.2.2.2.2.2.2.2.2.2.1.length : Int)) ((blast_maker_mux n r17.1 (Ki_at r17.2.2.2.2.2.2.2.2.2.2.2.1 d16.2.1) d16.1 r17.2.1 r17.2.2.1 r17.2.2.2.1 r17.2.2.2.2.1 r17.2.2.2.2.2.1 r17.2.2.2.2.2.2.1 r17.2.2.2.2.2.2.2.1 r17.2.2.2.2.2.2.2.2.1 r17.2.2.2.2.2.2.2.2.2.1 r17.2.2.2.2.2.2.2.2.2.2.1 r17.2.2.2.2.2.2.2.2.2.2.2.1 r17.2.2.2.2.2.2.2.2.2.2.2.2.1).bind (fun r18 => @ask _ ((True ∧ some (V (.row i_ d16.2.2.2.2.2.2.2.2.2.2.2.2.1)) = some (V (.row i_ r17.2.2.2.2.2.2.2.2.2.2.2.1))) ∧ True) (Classical.propDecidable _) (self (r18.1, IntKind.wrap .i64 (d16.2.1 + 1), r18.2.1, r18.2.2.1, r18.2.2.2.1, r18.2.2.2.2.1, r18.2.2.2.2.2.1, r18.2.2.2.2.2.2.1, r18.2.2.2.2.2.2.2.1, r18.2.2.2.2.2.2.2.2.1, r18.2.2.2.2.2.2.2.2.2.1, r18.2.2.2.2.2.2.2.2.2.2.1, r18.2.2.2.2.2.2.2.2.2.2.2.1, r18.2.2.2.2.2.2.2.2.2.2.2.2.1, ()))))))))
 (some (d16.1, d16.2.2.1, d16.2.2.2.1, d16.2.2.2.2.1, d16.2.2.2.2.2.1, d16.2.2.2.2.2.2.1, d16.2.2.2.2.2.2.2.1, d16.2.2.2.2.2.2.2.2.1, d16.2.2.2.2.2.2.2.2.2.1, d16.2.2.2.2.2.2.2.2.2.2.1, d16.2.2.2.2.2.2.2.2.2.2.2.1, d16.2.2.2.2.2.2.2.2.2.2.2.2.1, d16.2.2.2.2.2.2.2.2.2.2.2.2.2.1, ()))
noncomputable def blast_maker_below_l1 (n : Nat) (x11 : List Int) : Int × Int × Int × List Kii × Int × Int × Int × Int × Int × Int × Int × List Int × List Int × List Int × Unit → Option ((Int × Int × List Kii × Int × Int × Int × Int × Int × Int × Int × List Int × List Int × List Int × Unit)) := iter (blast_maker_below_l1b n x11) n
noncomputable def blast_maker_below (n : Nat) (x1 : Int) (x2 : Int) (x3 : List Kii) (x4 : Int) (x5 : Int) (x6 : Int) (x7 : Int) (x8 : Int) (x9 : Int) (x10 : Int) (x11 : List Int) (x12 : List Int) (x13 : List Int) : Option (List Int × Int × List Kii × Int × Int × Int × Int × Int × Int × Int × List Int × List Int × List Int × Unit) :=
 (blast_maker_below_l1 n x11 (x1, 0, x2, x3, x4, x5, x6, x7, x8, x9, x10, x11, x12, x13, ())).bind (fun d19 => some (([d19.1] : List Int), d19.2.1, d19.2.2.1, d19.2.2.2.1, d19.2.2.2.2.1, d19.2.2.2.2.2.1, d19.2.2.2.2.2.2.1, d19.2.2.2.2.2.2.2.1, d19.2.2.2.2.2.2.2.2.1, d19.2.2.2.2.2.2.2.2.2.1, d19.2.2.2.2.2.2.2.2.2.2.1, d19.2.2.2.2.2.2.2.2.2.2.2.1, d19.2.2.2.2.2.2.2.2.2.2.2.2.1, ()))
def blast_maker_below_s : Sig := ⟨[.c false [.con (.ptr 0 0)], .c false [.int .i64]], [(0, .var 69 [.int .i64, .row Kii_, .int .i64, .int .i64, .int .i64, .int .i64, .int .i64, .int .i64, .int .i64, .row i_, .row i_, .row i_])], .c false [.row i_], [(0, .var 69 [.int .i64, .row Kii_, .int .i64, .int .i64, .int .i64, .int .i64, .int .i64, .int .i64, .int .i64, .row i_, .row i_, .row i_])]⟩
def blast_maker_below_a : Ann := .s .d (.s (.s .d (.b (.l [0, 1, 5, 6, 7, 8, 11, 12, 13, 14, 15, 16, 17, 18, 19, 20, 21, 22, 23, 24, 25, 26, 27, 28, 29, 30, 31, 32, 33, 34, 35, 36, 37, 38, 39, 40] [0] ⟨[(0, .c false [.con (.ptr 0 0)]), (1, .c false [.int .i64]), (11, .c false [.int .i64])], [(0, .var 69 [.int .i64, .row Kii_, .int .i64, .int .i64, .int .i64, .int .i64, .int .i64, .int .i64, .int .i64, .row i_, .row i_, .row i_])]⟩ [(.exit 0, ⟨[(1, .c false [.int .i64])], [(0, .var 69 [.int .i64, .row Kii_, .int .i64, .int .i64, .int .i64, .int .i64, .int .i64, .int .i64, .int .i64, .row i_, .row i_, .row i_])]⟩)] .d))) .d)
noncomputable def blast_maker_below_c (n : Nat) : Ctr Try.prog := .of Try.func90 n [blast_maker_xor_c n, blast_maker_mux_c n] blast_maker_below_a blast_maker_below_s (fun d => blast_maker_below n d.1 d.2.1 d.2.2.1 d.2.2.2.1 d.2.2.2.2.1 d.2.2.2.2.2.1 d.2.2.2.2.2.2.1 d.2.2.2.2.2.2.2.1 d.2.2.2.2.2.2.2.2.1 d.2.2.2.2.2.2.2.2.2.1 d.2.2.2.2.2.2.2.2.2.2.1 d.2.2.2.2.2.2.2.2.2.2.2.1 d.2.2.2.2.2.2.2.2.2.2.2.2.1) fun d => by kernel_rfl
noncomputable def blast_maker_doLt (n : Nat) (x1 : Int) (x2 : List Kii) (x3 : Int) (x4 : Int) (x5 : Int) (x6 : Int) (x7 : Int) (x8 : Int) (x9 : Int) (x10 : List Int) (x11 : List Int) (x12 : List Int) : Option (List Int × Int × List Kii × Int × Int × Int × Int × Int × Int × Int × List Int × List Int × List Int × Unit) :=
 (blast_maker_below n 0 x1 x2 x3 x4 x5 x6 x7 x8 x9 x10 x11 x12).bind (fun r13 => some (r13.1, r13.2.1, r13.2.2.1, r13.2.2.2.1, r13.2.2.2.2.1, r13.2.2.2.2.2.1, r13.2.2.2.2.2.2.1, r13.2.2.2.2.2.2.2.1, r13.2.2.2.2.2.2.2.2.1, r13.2.2.2.2.2.2.2.2.2.1, r13.2.2.2.2.2.2.2.2.2.2.1, r13.2.2.2.2.2.2.2.2.2.2.2.1, r13.2.2.2.2.2.2.2.2.2.2.2.2.1, ()))
def blast_maker_doLt_s : Sig := ⟨[.c false [.con (.ptr 0 0)]], [(0, .var 69 [.int .i64, .row Kii_, .int .i64, .int .i64, .int .i64, .int .i64, .int .i64, .int .i64, .int .i64, .row i_, .row i_, .row i_])], .c false [.row i_], [(0, .var 69 [.int .i64, .row Kii_, .int .i64, .int .i64, .int .i64, .int .i64, .int .i64, .int .i64, .int .i64, .row i_, .row i_, .row i_])]⟩
def blast_maker_doLt_a : Ann := .d
noncomputable def blast_maker_doLt_c (n : Nat) : Ctr Try.prog := .of Try.func56 n [blast_maker_below_c n] blast_maker_doLt_a blast_maker_doLt_s (fun d => blast_maker_doLt n d.1 d.2.1 d.2.2.1 d.2.2.2.1 d.2.2.2.2.1 d.2.2.2.2.2.1 d.2.2.2.2.2.2.1 d.2.2.2.2.2.2.2.1 d.2.2.2.2.2.2.2.2.1 d.2.2.2.2.2.2.2.2.2.1 d.2.2.2.2.2.2.2.2.2.2.1 d.2.2.2.2.2.2.2.2.2.2.2.1) fun d => by kernel_rfl
noncomputable def blast_maker_doLe (n : Nat) (x1 : Int) (x2 : List Kii) (x3 : Int) (x4 : Int) (x5 : Int) (x6 : Int) (x7 : Int) (x8 : Int) (x9 : Int) (x10 : List Int) (x11 : List Int) (x12 : List Int) : Option (List Int × Int × List Kii × Int × Int × Int × Int × Int × Int × Int × List Int × List Int × List Int × Unit) :=
 (blast_maker_below n 1 x1 x2 x3 x4 x5 x6 x7 x8 x9 x10 x11 x12).bind (fun r13 => some (r13.1, r13.2.1, r13.2.2.1, r13.2.2.2.1, r13.2.2.2.2.1, r13.2.2.2.2.2.1, r13.2.2.2.2.2.2.1, r13.2.2.2.2.2.2.2.1, r13.2.2.2.2.2.2.2.2.1, r13.2.2.2.2.2.2.2.2.2.1, r13.2.2.2.2.2.2.2.2.2.2.1, r13.2.2.2.2.2.2.2.2.2.2.2.1, r13.2.2.2.2.2.2.2.2.2.2.2.2.1, ()))
def blast_maker_doLe_s : Sig := ⟨[.c false [.con (.ptr 0 0)]], [(0, .var 69 [.int .i64, .row Kii_, .int .i64, .int .i64, .int .i64, .int .i64, .int .i64, .int .i64, .int .i64, .row i_, .row i_, .row i_])], .c false [.row i_], [(0, .var 69 [.int .i64, .row Kii_, .int .i64, .int .i64, .int .i64, .int .i64, .int .i64, .int .i64, .int .i64, .row i_, .row i_, .row i_])]⟩
def blast_maker_doLe_a : Ann := .d
noncomputable def blast_maker_doLe_c (n : Nat) : Ctr Try.prog := .of Try.func57 n [blast_maker_below_c n] blast_maker_doLe_a blast_maker_doLe_s (fun d => blast_maker_doLe n d.1 d.2.1 d.2.2.1 d.2.2.2.1 d.2.2.2.2.1 d.2.2.2.2.2.1 d.2.2.2.2.2.2.1 d.2.2.2.2.2.2.2.1 d.2.2.2.2.2.2.2.2.1 d.2.2.2.2.2.2.2.2.2.1 d.2.2.2.2.2.2.2.2.2.2.1 d.2.2.2.2.2.2.2.2.2.2.2.1) fun d => by kernel_rfl
noncomputable def blast_maker_doMux_l1b (n : Nat) (x11 : List Int) (self : Int × Int × List Kii × Int × Int × Int × Int × Int × Int × Int × List Int × List Int × List Int × List Int × Unit → Option ((Int × List Kii × Int × Int × Int × Int × Int × Int × Int × List Int × List Int × List Int × List Int × Unit))) (d15 : Int × Int × List Kii × Int × Int × Int × Int × Int × Int × Int × List Int × List Int × List Int × List Int × Unit) : Option ((Int × List Kii × Int × Int × Int × Int × Int × Int × Int × List Int × List Int × List Int × List Int × Unit)) :=
 cond (decide (d15.1 < ((List.replicate (x11.length : Int).toNat (0 : Int)).length : Int)))
 (ask (0 ≤ (0 : Int) ∧ 0 < (d15.2.2.2.2.2.2.2.2.2.2.1.length : Int)) (ask (0 ≤ d15.1 ∧ d15.1 < (d15.2.2.2.2.2.2.2.2.2.2.2.1.length : Int)) (ask (0 ≤ d15.1 ∧ d15.1 < (d15.2.2.2.2.2.2.2.2.2.2.2.2.1.length : Int)) ((blast_maker_mux n (Ki_at d15.2.2.2.2.2.2.2.2.2.2.1 0) (Ki_at d15.2.2.2.2.2.2.2.2.2.2.2.1 d15.1) (Ki_at d15.2.2.2.2.2.2.2.2.2.2.2.2.1 d15.1) d15.2.1 d15.2.2.1 d15.2.2.2.1 d15.2.2.2.2.1 d15.2.2.2.2.2.1 d15.2.2.2.2.2.2.1 d15.2.2.2.2.2.2.2.1 d15.2.2.2.2.2.2.2.2.1 d15.2.2.2.2.2.2.2.2.2.1 d15.2.2.2.2.2.2.2.2.2.2.1 d15.2.2.2.2.2.2.2.2.2.2.2.1 d15.2.2.2.2.2.2.2.2.2.2.2.2.1).bind (fun r16 => ask (0 ≤ d15.1 ∧ d15.1 < (d15.2.2.2.2.2.2.2.2.2.2.2.2.2.1.length : Int)) (self (IntKind.wrap .i64 (d15.1 + 1), r16.2.1, r16.2.2.1, r16.2.2.2.1, r16.2.2.2.2.1, r16.2.2.2.2.2.1, r16.2.2.2.2.2.2.1, r16.2.2.2.2.2.2.2.1, r16.2.2.2.2.2.2.2.2.1, r16.2.2.2.2.2.2.2.2.2.1, r16.2.2.2.2.2.2.2.2.2.2.1, r16.2.2.2.2.2.2.2.2.2.2.2.1, r16.2.2.2.2.2.2.2.2.2.2.2.2.1, d15.2.2.2.2.2.2.2.2.2.2.2.2.2.1.set d15.1.toNat r16.1, ())))))))
 (some (d15.2.1, d15.2.2.1, d15.2.2.2.1, d15.2.2.2.2.1, d15.2.2.2.2.2.1, d15.2.2.2.2.2.2.1, d15.2.2.2.2.2.2.2.1, d15.2.2.2.2.2.2.2.2.1, d15.2.2.2.2.2.2.2.2.2.1, d15.2.2.2.2.2.2.2.2.2.2.1, d15.2.2.2.2.2.2.2.2.2.2.2.1, d15.2.2.2.2.2.2.2.2.2.2.2.2.1, d15.2.2.2.2.2.2.2.2.2.2.2.2.2.1, ()))
noncomputable def blast_maker_doMux_l1 (n : Nat) (x11 : List Int) : Int × Int × List Kii × Int × Int × Int × Int × Int × Int × Int × List Int × List Int × List Int × List Int × Unit → Option ((Int × List Kii × Int × Int × Int × Int × Int × Int × Int × List Int × List Int × List Int × List Int × Unit)) := iter (blast_maker_doMux_l1b n x11) n
noncomputable def blast_maker_doMux (n : Nat) (x1 : Int) (x2 : List Kii) (x3 : Int) (x4 : Int) (x5 : Int) (x6 : Int) (x7 : Int) (x8 : Int) (x9 : Int) (x10 : List Int) (x11 : List Int) (x12 : List Int) : Option (List Int × Int × List Kii × Int × Int × Int × Int × Int × Int × Int × List Int × List Int × List Int × Unit) :=
 ask ((0 ≤ (x11.length : Int) ∧ (x11.length : Int) ≤ (x11.length : Int)) ∧ (8 : Int) * (x11.length : Int) ≤ 281474976710656 ∧ (x11.length : Int) ≤ 281474976710656) ((blast_maker_doMux_l1 n x11 (0, x1, x2, x3, x4, x5, x6, x7, x8, x9, x10, x11, x12, List.replicate (x11.length : Int).toNat (0 : Int), ())).bind (fun d17 => some (d17.2.2.2.2.2.2.2.2.2.2.2.2.1, d17.1, d17.2.1, d17.2.2.1, d17.2.2.2.1, d17.2.2.2.2.1, d17.2.2.2.2.2.1, d17.2.2.2.2.2.2.1, d17.2.2.2.2.2.2.2.1, d17.2.2.2.2.2.2.2.2.1, d17.2.2.2.2.2.2.2.2.2.1, d17.2.2.2.2.2.2.2.2.2.2.1, d17.2.2.2.2.2.2.2.2.2.2.2.1, ())))
def blast_maker_doMux_s : Sig := ⟨[.c false [.con (.ptr 0 0)]], [(0, .var 69 [.int .i64, .row Kii_, .int .i64, .int .i64, .int .i64, .int .i64, .int .i64, .int .i64, .int .i64, .row i_, .row i_, .row i_])], .c false [.row i_], [(0, .var 69 [.int .i64, .row Kii_, .int .i64, .int .i64, .int .i64, .int .i64, .int .i64, .int .i64, .int .i64, .row i_, .row i_, .row i_])]⟩
def blast_maker_doMux_a : Ann := .s .d (.s .d (.s (.s .d (.b (.l [0, 3, 4, 5, 6, 7, 10, 11, 13, 14, 15, 16, 17, 18, 19, 20, 21, 22, 23, 24, 25, 26, 27, 28, 29, 30, 31, 32, 33, 34, 35, 36, 37, 38, 39, 40, 41] [0, 420] ⟨[(0, .c false [.con (.ptr 0 0)]), (3, .c false [.con (.own 420 1)]), (13, .c false [.int .i64])], [(0, .var 69 [.int .i64, .row Kii_, .int .i64, .int .i64, .int .i64, .int .i64, .int .i64, .int .i64, .int .i64, .row i_, .row i_, .row i_]), (420, .row 3 i_)]⟩ [(.exit 0, ⟨[(3, .c false [.con (.own 420 1)])], [(0, .var 69 [.int .i64, .row Kii_, .int .i64, .int .i64, .int .i64, .int .i64, .int .i64, .int .i64, .int .i64, .row i_, .row i_, .row i_]), (420, .row 3 i_)]⟩)] .d))) .d))
noncomputable def blast_maker_doMux_c (n : Nat) : Ctr Try.prog := .of Try.func58 n [blast_maker_mux_c n] blast_maker_doMux_a blast_maker_doMux_s (fun d => blast_maker_doMux n d.1 d.2.1 d.2.2.1 d.2.2.2.1 d.2.2.2.2.1 d.2.2.2.2.2.1 d.2.2.2.2.2.2.1 d.2.2.2.2.2.2.2.1 d.2.2.2.2.2.2.2.2.1 d.2.2.2.2.2.2.2.2.2.1 d.2.2.2.2.2.2.2.2.2.2.1 d.2.2.2.2.2.2.2.2.2.2.2.1) fun d => by kernel_rfl
noncomputable def slices_Grow_int_int (n : Nat) (x1 : Int) : Option (List Int × Unit) :=
 ((cond (decide (x1 < 0))
 (none)
 (some ())) : Option ((Unit))).bind (fun d2 => ask (True) (cond (decide ((0 : Int) < (IntKind.wrap .i64 (x1 - 0))))
 (ask (True) (ask ((0 : Int) = 0) (ask (1 ≤ (IntKind.wrap .i64 (x1 - 0)) ∧ (IntKind.wrap .i64 (x1 - 0)) * (8 : Int) ≤ 281474976710656 ∧ (IntKind.wrap .i64 (x1 - 0)) ≤ 281474976710656) (ask (0 ≤ (0 : Int) ∧ 0 ≤ ((List.replicate (IntKind.wrap .i64 (x1 - 0)).toNat (0 : Int)).length : Int)) (some ((List.replicate (IntKind.wrap .i64 (x1 - 0)).toNat (0 : Int)).take (0 : Int).toNat, ()))))))
 (some (([] : List Int), ()))))
def slices_Grow_int_int_s : Sig := ⟨[.c false [.con .nilsl], .c false [.int .i64]], [], .c false [.row i_], []⟩
def slices_Grow_int_int_a : Ann := .s .d (.j [5, 6, 7] [] [(.normal, ⟨[], []⟩)] .d .d)
noncomputable def slices_Grow_int_int_c (n : Nat) : Ctr Try.prog := .of Try.func102 n [] slices_Grow_int_int_a slices_Grow_int_int_s (fun d => slices_Grow_int_int n d.1) fun d => by kernel_rfl
noncomputable def slices_Grow_int_int_o (n : Nat) (x1 : Int) : Option (List Int × Unit) :=
 ((cond (decide (x1 < 0))
 (none)
 (some ())) : Option ((Unit))).bind (fun d2 => ask (True) (cond (decide ((0 : Int) < (IntKind.wrap .i64 (x1 - 0))))
 (ask (True) (ask ((0 : Int) = 0) (ask (1 ≤ (IntKind.wrap .i64 (x1 - 0)) ∧ (IntKind.wrap .i64 (x1 - 0)) * (8 : Int) ≤ 281474976710656 ∧ (IntKind.wrap .i64 (x1 - 0)) ≤ 281474976710656) (ask (0 ≤ (0 : Int) ∧ 0 ≤ ((List.replicate (IntKind.wrap .i64 (x1 - 0)).toNat (0 : Int)).length : Int)) (some ((List.replicate (IntKind.wrap .i64 (x1 - 0)).toNat (0 : Int)).take (0 : Int).toNat, ()))))))
 (some (([] : List Int), ()))))
def slices_Grow_int_int_o_s : Sig := ⟨[.c false [.con .nilsl], .c false [.int .i64]], [], .c false [.con (.own 612 1)], [(612, .row 3 i_)]⟩
def slices_Grow_int_int_o_a : Ann := .s .d (.j [5, 6, 7] [] [(.normal, ⟨[], []⟩)] .d .d)
noncomputable def slices_Grow_int_int_o_c (n : Nat) : Ctr Try.prog := .of Try.func102 n [] slices_Grow_int_int_o_a slices_Grow_int_int_o_s (fun d => slices_Grow_int_int_o n d.1) fun d => by kernel_rfl
noncomputable def slices_Concat_int_int_l1b (n : Nat) (x1 : List (List Int)) (self : Int × Int × Unit → Option ((Int × Unit))) (d3 : Int × Int × Unit) : Option ((Int × Unit)) :=
 cond (decide (d3.2.1 < (x1.length : Int)))
 (ask (0 ≤ d3.2.1 ∧ d3.2.1 < (x1.length : Int)) (cond (decide ((IntKind.wrap .i64 (d3.1 + ((KLi_at x1 d3.2.1).length : Int))) < 0))
 (none)
 (self (IntKind.wrap .i64 (d3.1 + ((KLi_at x1 d3.2.1).length : Int)), IntKind.wrap .i64 (d3.2.1 + 1), ()))))
 (some (d3.1, ()))
noncomputable def slices_Concat_int_int_l1 (n : Nat) (x1 : List (List Int)) : Int × Int × Unit → Option ((Int × Unit)) := iter (slices_Concat_int_int_l1b n x1) n
noncomputable def slices_Concat_int_int_l2b (n : Nat) (x1 : List (List Int)) (self : Int × List Int × Unit → Option ((List Int × Unit))) (d8 : Int × List Int × Unit) : Option ((List Int × Unit)) :=
 cond (decide (d8.1 < (x1.length : Int)))
 (ask (0 ≤ d8.1 ∧ d8.1 < (x1.length : Int)) (ask (True ∧ (d8.2.1.length + (KLi_at x1 d8.1).length) * 8 ≤ 140737488355328) (self (IntKind.wrap .i64 (d8.1 + 1), d8.2.1 ++ (KLi_at x1 d8.1), ()))))
 (some (d8.2.1, ()))
noncomputable def slices_Concat_int_int_l2 (n : Nat) (x1 : List (List Int)) : Int × List Int × Unit → Option ((List Int × Unit)) := iter (slices_Concat_int_int_l2b n x1) n
noncomputable def slices_Concat_int_int (n : Nat) (x1 : List (List Int)) : Option (List Int × Unit) :=
 (slices_Concat_int_int_l1 n x1 (0, 0, ())).bind (fun d4 => (slices_Grow_int_int_o n d4.1).bind (fun r5 => (slices_Concat_int_int_l2 n x1 (0, r5.1, ())).bind (fun d9 => some (d9.1, ()))))
def slices_Concat_int_int_s : Sig := ⟨[.c false [.row KLi_]], [], .c false [.row i_], []⟩
def slices_Concat_int_int_a : Ann := .s .d (.s .d (.s (.s .d (.b (.l [3, 5, 11, 12, 13, 14, 15, 16, 17, 18, 19, 20, 21, 22] [] ⟨[(3, .c false [.int .i64]), (11, .c false [.int .i64])], []⟩ [(.exit 0, ⟨[(3, .c false [.int .i64])], []⟩)] .d))) (.s .d (.s (.s .d (.b (.l [6, 8, 24, 27, 28, 29, 30, 31, 32, 33, 34] [164] ⟨[(6, .c false [.con (.own 164 1)]), (27, .c false [.int .i64])], [(164, .row 3 i_)]⟩ [(.exit 2, ⟨[(6, .c false [.con (.own 164 1)])], [(164, .row 3 i_)]⟩)] .d))) .d))))
noncomputable def slices_Concat_int_int_c (n : Nat) : Ctr Try.prog := .of Try.func92 n [slices_Grow_int_int_o_c n] slices_Concat_int_int_a slices_Concat_int_int_s (fun d => slices_Concat_int_int n d.1) fun d => by kernel_rfl
noncomputable def slices_Concat_int_int_o_l1b (n : Nat) (x1 : List (List Int)) (self : Int × Int × Unit → Option ((Int × Unit))) (d3 : Int × Int × Unit) : Option ((Int × Unit)) :=
 cond (decide (d3.2.1 < (x1.length : Int)))
 (ask (0 ≤ d3.2.1 ∧ d3.2.1 < (x1.length : Int)) (cond (decide ((IntKind.wrap .i64 (d3.1 + ((KLi_at x1 d3.2.1).length : Int))) < 0))
 (none)
 (self (IntKind.wrap .i64 (d3.1 + ((KLi_at x1 d3.2.1).length : Int)), IntKind.wrap .i64 (d3.2.1 + 1), ()))))
 (some (d3.1, ()))
noncomputable def slices_Concat_int_int_o_l1 (n : Nat) (x1 : List (List Int)) : Int × Int × Unit → Option ((Int × Unit)) := iter (slices_Concat_int_int_o_l1b n x1) n
noncomputable def slices_Concat_int_int_o_l2b (n : Nat) (x1 : List (List Int)) (self : Int × List Int × Unit → Option ((List Int × Unit))) (d8 : Int × List Int × Unit) : Option ((List Int × Unit)) :=
 cond (decide (d8.1 < (x1.length : Int)))
 (ask (0 ≤ d8.1 ∧ d8.1 < (x1.length : Int)) (ask (True ∧ (d8.2.1.length + (KLi_at x1 d8.1).length) * 8 ≤ 140737488355328) (self (IntKind.wrap .i64 (d8.1 + 1), d8.2.1 ++ (KLi_at x1 d8.1), ()))))
 (some (d8.2.1, ()))
noncomputable def slices_Concat_int_int_o_l2 (n : Nat) (x1 : List (List Int)) : Int × List Int × Unit → Option ((List Int × Unit)) := iter (slices_Concat_int_int_o_l2b n x1) n
noncomputable def slices_Concat_int_int_o (n : Nat) (x1 : List (List Int)) : Option (List Int × Unit) :=
 (slices_Concat_int_int_o_l1 n x1 (0, 0, ())).bind (fun d4 => (slices_Grow_int_int_o n d4.1).bind (fun r5 => (slices_Concat_int_int_o_l2 n x1 (0, r5.1, ())).bind (fun d9 => some (d9.1, ()))))
def slices_Concat_int_int_o_s : Sig := ⟨[.c false [.row KLi_]], [], .c false [.con (.own 164 1)], [(164, .row 3 i_)]⟩
def slices_Concat_int_int_o_a : Ann := .s .d (.s .d (.s (.s .d (.b (.l [3, 5, 11, 12, 13, 14, 15, 16, 17, 18, 19, 20, 21, 22] [] ⟨[(3, .c false [.int .i64]), (11, .c false [.int .i64])], []⟩ [(.exit 0, ⟨[(3, .c false [.int .i64])], []⟩)] .d))) (.s .d (.s (.s .d (.b (.l [6, 8, 24, 27, 28, 29, 30, 31, 32, 33, 34] [164] ⟨[(6, .c false [.con (.own 164 1)]), (27, .c false [.int .i64])], [(164, .row 3 i_)]⟩ [(.exit 2, ⟨[(6, .c false [.con (.own 164 1)])], [(164, .row 3 i_)]⟩)] .d))) .d))))
noncomputable def slices_Concat_int_int_o_c (n : Nat) : Ctr Try.prog := .of Try.func92 n [slices_Grow_int_int_o_c n] slices_Concat_int_int_o_a slices_Concat_int_int_o_s (fun d => slices_Concat_int_int_o n d.1) fun d => by kernel_rfl
noncomputable def blast_maker_doCat (n : Nat) (x1 : List KiLPiiEiiiiiiiLiLiLi) (x2 : Int) : Option (List Int × Unit) :=
 (slices_Concat_int_int_o n ([(((((((((((KiLPiiEiiiiiiiLiLiLi_at x1 x2).2).2).2).2).2).2).2).2).2).2).1, ((((((((((KiLPiiEiiiiiiiLiLiLi_at x1 x2).2).2).2).2).2).2).2).2).2).1] : List (List Int))).bind (fun r3 => some (r3.1, ()))
def blast_maker_doCat_s : Sig := ⟨[.c false [.rp KiLPiiEiiiiiiiLiLiLi_ 0]], [], .c false [.row i_], []⟩
def blast_maker_doCat_a : Ann := .d
noncomputable def blast_maker_doCat_c (n : Nat) : Ctr Try.prog := .of Try.func59 n [slices_Concat_int_int_o_c n] blast_maker_doCat_a blast_maker_doCat_s (fun d => blast_maker_doCat n d.1 d.2.1) fun d => by kernel_rfl
noncomputable def blast_maker_doCat_o (n : Nat) (x1 : List KiLPiiEiiiiiiiLiLiLi) (x2 : Int) : Option (List Int × Unit) :=
 (slices_Concat_int_int_o n ([(((((((((((KiLPiiEiiiiiiiLiLiLi_at x1 x2).2).2).2).2).2).2).2).2).2).2).1, ((((((((((KiLPiiEiiiiiiiLiLiLi_at x1 x2).2).2).2).2).2).2).2).2).2).1] : List (List Int))).bind (fun r3 => some (r3.1, ()))
def blast_maker_doCat_o_s : Sig := ⟨[.c false [.rp KiLPiiEiiiiiiiLiLiLi_ 0]], [], .c false [.con (.own 676 1)], [(676, .row 3 i_)]⟩
def blast_maker_doCat_o_a : Ann := .d
noncomputable def blast_maker_doCat_o_c (n : Nat) : Ctr Try.prog := .of Try.func59 n [slices_Concat_int_int_o_c n] blast_maker_doCat_o_a blast_maker_doCat_o_s (fun d => blast_maker_doCat_o n d.1 d.2.1) fun d => by kernel_rfl
noncomputable def blast_maker_doSlice (n : Nat) (x1 : List KiLPiiEiiiiiiiLiLiLi) (x2 : Int) : Option (List Int × Unit) :=
 ask (0 ≤ ((((((((((KiLPiiEiiiiiiiLiLiLi_at x1 x2).2).2).2).2).2).2).2).2).1) ∧ ((((((((((KiLPiiEiiiiiiiLiLiLi_at x1 x2).2).2).2).2).2).2).2).2).1) ≤ IntKind.wrap .i64 ((((((((((KiLPiiEiiiiiiiLiLiLi_at x1 x2).2).2).2).2).2).2).2).1) + 1) ∧ IntKind.wrap .i64 ((((((((((KiLPiiEiiiiiiiLiLiLi_at x1 x2).2).2).2).2).2).2).2).1) + 1) ≤ ((((((((((((KiLPiiEiiiiiiiLiLiLi_at x1 x2).2).2).2).2).2).2).2).2).2).1).length : Int)) ((slices_Clone_int_int n (((((((((((((KiLPiiEiiiiiiiLiLiLi_at x1 x2).2).2).2).2).2).2).2).2).2).1).take (IntKind.wrap .i64 ((((((((((KiLPiiEiiiiiiiLiLiLi_at x1 x2).2).2).2).2).2).2).2).1) + 1)).toNat).drop ((((((((((KiLPiiEiiiiiiiLiLiLi_at x1 x2).2).2).2).2).2).2).2).2).1).toNat)).bind (fun r3 => some (r3.1, ())))
def blast_maker_doSlice_s : Sig := ⟨[.c false [.rp KiLPiiEiiiiiiiLiLiLi_ 0]], [], .c false [.row i_], []⟩
def blast_maker_doSlice_a : Ann := .d
noncomputable def blast_maker_doSlice_c (n : Nat) : Ctr Try.prog := .of Try.func60 n [slices_Clone_int_int_c n] blast_maker_doSlice_a blast_maker_doSlice_s (fun d => blast_maker_doSlice n d.1 d.2.1) fun d => by kernel_rfl
noncomputable def blast_maker_doSlice_o (n : Nat) (x1 : List KiLPiiEiiiiiiiLiLiLi) (x2 : Int) : Option (List Int × Unit) :=
 ask (0 ≤ ((((((((((KiLPiiEiiiiiiiLiLiLi_at x1 x2).2).2).2).2).2).2).2).2).1) ∧ ((((((((((KiLPiiEiiiiiiiLiLiLi_at x1 x2).2).2).2).2).2).2).2).2).1) ≤ IntKind.wrap .i64 ((((((((((KiLPiiEiiiiiiiLiLiLi_at x1 x2).2).2).2).2).2).2).2).1) + 1) ∧ IntKind.wrap .i64 ((((((((((KiLPiiEiiiiiiiLiLiLi_at x1 x2).2).2).2).2).2).2).2).1) + 1) ≤ ((((((((((((KiLPiiEiiiiiiiLiLiLi_at x1 x2).2).2).2).2).2).2).2).2).2).1).length : Int)) ((slices_Clone_int_int n (((((((((((((KiLPiiEiiiiiiiLiLiLi_at x1 x2).2).2).2).2).2).2).2).2).2).1).take (IntKind.wrap .i64 ((((((((((KiLPiiEiiiiiiiLiLiLi_at x1 x2).2).2).2).2).2).2).2).1) + 1)).toNat).drop ((((((((((KiLPiiEiiiiiiiLiLiLi_at x1 x2).2).2).2).2).2).2).2).2).1).toNat)).bind (fun r3 => some (r3.1, ())))
def blast_maker_doSlice_o_s : Sig := ⟨[.c false [.rp KiLPiiEiiiiiiiLiLiLi_ 0]], [], .c false [.row i_], []⟩
def blast_maker_doSlice_o_a : Ann := .d
noncomputable def blast_maker_doSlice_o_c (n : Nat) : Ctr Try.prog := .of Try.func60 n [slices_Clone_int_int_c n] blast_maker_doSlice_o_a blast_maker_doSlice_o_s (fun d => blast_maker_doSlice_o n d.1 d.2.1) fun d => by kernel_rfl
noncomputable def blast_maker_doSlice_i2 (n : Nat) (x1 : Int) (x2 : List Kii) (x3 : Int) (x4 : Int) (x5 : Int) (x6 : Int) (x7 : Int) (x8 : Int) (x9 : Int) (x10 : List Int) (x11 : List Int) (x12 : List Int) : Option (List Int × Int × List Kii × Int × Int × Int × Int × Int × Int × Int × List Int × List Int × List Int × Unit) :=
 ask (0 ≤ x9 ∧ x9 ≤ IntKind.wrap .i64 (x8 + 1) ∧ IntKind.wrap .i64 (x8 + 1) ≤ (x10.length : Int)) ((slices_Clone_int_int n ((x10.take (IntKind.wrap .i64 (x8 + 1)).toNat).drop x9.toNat)).bind (fun r13 => some (r13.1, x1, x2, x3, x4, x5, x6, x7, x8, x9, x10, x11, x12, ())))
def blast_maker_doSlice_i2_s : Sig := ⟨[.c false [.con (.ptr 0 0)]], [(0, .var 69 [.int .i64, .row Kii_, .int .i64, .int .i64, .int .i64, .int .i64, .int .i64, .int .i64, .int .i64, .row i_, .row i_, .row i_])], .c false [.row i_], [(0, .var 69 [.int .i64, .row Kii_, .int .i64, .int .i64, .int .i64, .int .i64, .int .i64, .int .i64, .int .i64, .row i_, .row i_, .row i_])]⟩
def blast_maker_doSlice_i2_a : Ann := .d
noncomputable def blast_maker_doSlice_i2_c (n : Nat) : Ctr Try.prog := .of Try.func60 n [slices_Clone_int_int_c n] blast_maker_doSlice_i2_a blast_maker_doSlice_i2_s (fun d => blast_maker_doSlice_i2 n d.1 d.2.1 d.2.2.1 d.2.2.2.1 d.2.2.2.2.1 d.2.2.2.2.2.1 d.2.2.2.2.2.2.1 d.2.2.2.2.2.2.2.1 d.2.2.2.2.2.2.2.2.1 d.2.2.2.2.2.2.2.2.2.1 d.2.2.2.2.2.2.2.2.2.2.1 d.2.2.2.2.2.2.2.2.2.2.2.1) fun d => by kernel_rfl
noncomputable def blast_Do (n : Nat) (x1 : Int) (x2 : List Kii) (x3 : Int) (x4 : Int) (x5 : Int) (x6 : Int) (x7 : Int) (x8 : Int) (x9 : Int) (x10 : List Int) (x11 : List Int) (x12 : List Int) : Option (Int × List Kii × List Int × Unit) :=
 (blast_works n).bind (fun r13 => cond (decide (x3 = 1))
 ((blast_maker_doLit_o n ([(x1, x2, x3, x4, x5, x6, x7, x8, x9, x10, x11, x12)] : List KiLPiiEiiiiiiiLiLiLi) 0).bind (fun r14 => some (x1, x2, r14.1, ())))
 (cond (decide (x3 = 3))
 ((blast_maker_doInv_i2 n x1 x2 x3 x4 x5 x6 x7 x8 x9 x10 x11 x12).bind (fun r15 => some (r15.2.1, r15.2.2.1, r15.1, ())))
 (cond (decide (x3 = 4))
 ((blast_maker_doRedOr n x1 x2 x3 x4 x5 x6 x7 x8 x9 x10 x11 x12).bind (fun r16 => some (r16.2.1, r16.2.2.1, r16.1, ())))
 (cond (decide (x3 = 5))
 ((blast_maker_doRedAnd n x1 x2 x3 x4 x5 x6 x7 x8 x9 x10 x11 x12).bind (fun r17 => some (r17.2.1, r17.2.2.1, r17.1, ())))
 (cond (decide (x3 = 6))
 ((blast_maker_doAnd n x1 x2 x3 x4 x5 x6 x7 x8 x9 x10 x11 x12).bind (fun r18 => some (r18.2.1, r18.2.2.1, r18.1, ())))
 (cond (decide (x3 = 7))
 ((blast_maker_doOr n x1 x2 x3 x4 x5 x6 x7 x8 x9 x10 x11 x12).bind (fun r19 => some (r19.2.1, r19.2.2.1, r19.1, ())))
 (cond (decide (x3 = 8))
 ((blast_maker_doXor n x1 x2 x3 x4 x5 x6 x7 x8 x9 x10 x11 x12).bind (fun r20 => some (r20.2.1, r20.2.2.1, r20.1, ())))
 (cond (decide (x3 = 9))
 ((blast_maker_doAdd n x1 x2 x3 x4 x5 x6 x7 x8 x9 x10 x11 x12).bind (fun r21 => some (r21.2.1, r21.2.2.1, r21.1, ())))
 (cond (decide (x3 = 10))
 ((blast_maker_doSub n x1 x2 x3 x4 x5 x6 x7 x8 x9 x10 x11 x12).bind (fun r22 => some (r22.2.1, r22.2.2.1, r22.1, ())))
 (cond (decide (x3 = 11))
 ((blast_maker_doMul n x1 x2 x3 x4 x5 x6 x7 x8 x9 x10 x11 x12).bind (fun r23 => some (r23.2.1, r23.2.2.1, r23.1, ())))
 (cond (decide (x3 = 12))
 ((blast_maker_doEq n x1 x2 x3 x4 x5 x6 x7 x8 x9 x10 x11 x12).bind (fun r24 => some (r24.2.1, r24.2.2.1, r24.1, ())))
 (cond (decide (x3 = 13))
 ((blast_maker_doNe n x1 x2 x3 x4 x5 x6 x7 x8 x9 x10 x11 x12).bind (fun r25 => some (r25.2.1, r25.2.2.1, r25.1, ())))
 (cond (decide (x3 = 14))
 ((blast_maker_doLt n x1 x2 x3 x4 x5 x6 x7 x8 x9 x10 x11 x12).bind (fun r26 => some (r26.2.1, r26.2.2.1, r26.1, ())))
 (cond (decide (x3 = 15))
 ((blast_maker_doLe n x1 x2 x3 x4 x5 x6 x7 x8 x9 x10 x11 x12).bind (fun r27 => some (r27.2.1, r27.2.2.1, r27.1, ())))
 (cond (decide (x3 = 16))
 ((blast_maker_doMux n x1 x2 x3 x4 x5 x6 x7 x8 x9 x10 x11 x12).bind (fun r28 => some (r28.2.1, r28.2.2.1, r28.1, ())))
 (cond (decide (x3 = 17))
 ((blast_maker_doCat_o n ([(x1, x2, x3, x4, x5, x6, x7, x8, x9, x10, x11, x12)] : List KiLPiiEiiiiiiiLiLiLi) 0).bind (fun r29 => some (x1, x2, r29.1, ())))
 (cond (decide (x3 = 18))
 ((blast_maker_doSlice_i2 n x1 x2 x3 x4 x5 x6 x7 x8 x9 x10 x11 x12).bind (fun r30 => some (r30.2.1, r30.2.2.1, r30.1, ())))
 (some (x1, x2, ([] : List Int), ())))))))))))))))))))
def blast_Do_s : Sig := ⟨[.c true [.int .i64, .row Kii_], .c true [.int .i64, .int .i64, .int .i64, .int .i64, .int .i64, .int .i64, .int .i64], .c false [.row i_], .c false [.row i_], .c false [.row i_]], [], .t [(true, [.int .i64, .row Kii_]), (false, [.row i_])], []⟩
def blast_Do_a : Ann := .d
noncomputable def blast_Do_c (n : Nat) : Ctr Try.prog := .of Try.func13 n [blast_works_c n, blast_maker_doLit_o_c n, blast_maker_doInv_i2_c n, blast_maker_doRedOr_c n, blast_maker_doRedAnd_c n, blast_maker_doAnd_c n, blast_maker_doOr_c n, blast_maker_doXor_c n, blast_maker_doAdd_c n, blast_maker_doSub_c n, blast_maker_doMul_c n, blast_maker_doEq_c n, blast_maker_doNe_c n, blast_maker_doLt_c n, blast_maker_doLe_c n, blast_maker_doMux_c n, blast_maker_doCat_o_c n, blast_maker_doSlice_i2_c n] blast_Do_a blast_Do_s (fun d => blast_Do n d.1 d.2.1 d.2.2.1 d.2.2.2.1 d.2.2.2.2.1 d.2.2.2.2.2.1 d.2.2.2.2.2.2.1 d.2.2.2.2.2.2.2.1 d.2.2.2.2.2.2.2.2.1 d.2.2.2.2.2.2.2.2.2.1 d.2.2.2.2.2.2.2.2.2.2.1 d.2.2.2.2.2.2.2.2.2.2.2.1) fun d => by kernel_rfl
noncomputable def aig_Right_l1b (n : Nat) (x1 : Int) (x2 : List Kii) (self : Int × List (Kii × Bool) × Unit → Option ((Bool × Unit) ⊕ (Unit))) (d5 : Int × List (Kii × Bool) × Unit) : Option ((Bool × Unit) ⊕ (Unit)) :=
 cond (decide (d5.1 < (x2.length : Int)))
 (ask (0 ≤ d5.1 ∧ d5.1 < (x2.length : Int)) (ask (0 < 2) (ask (1 < 2) ((aig_of n ((Kii_at x2 d5.1).1) ((Kii_at x2 d5.1).2)).bind (fun r6 => (aig_plain n r6.1 r6.2.1).bind (fun r7 => cond r7.2.1
 (some (.inl (false, ())))
 (cond (!((r6.1 == (Kii_at x2 d5.1).1) && (r6.2.1 == (Kii_at x2 d5.1).2)))
 (some (.inl (false, ())))
 (ask (0 < 2) (cond (decide (r6.1 < 2))
 (some (.inl (false, ())))
 (ask (1 < 2) (ask (0 ≤ (1 : Int)) (cond (decide ((IntKind.wrap .i64 (x1 + d5.1)) < (shrI .i64 r6.2.1 1)))
 (some (.inl (false, ())))
 (ask (True) (cond (Mii_b_get d5.2.1 (r6.1, r6.2.1) false)
 (some (.inl (false, ())))
 (self (IntKind.wrap .i64 (d5.1 + 1), Mii_b_put d5.2.1 (r6.1, r6.2.1) true, ()))))))))))))))))
 (some (.inr ()))
noncomputable def aig_Right_l1 (n : Nat) (x1 : Int) (x2 : List Kii) : Int × List (Kii × Bool) × Unit → Option ((Bool × Unit) ⊕ (Unit)) := iter (aig_Right_l1b n x1 x2) n
noncomputable def aig_Right (n : Nat) (x1 : Int) (x2 : List Kii) : Option (Bool × Unit) :=
 cond (decide (x1 < 0))
 (some (false, ()))
 (cond (decide ((1048576 : Int) < x1))
 (some (false, ()))
 (cond (decide ((IntKind.wrap .i64 ((1048576 : Int) - x1)) < (x2.length : Int)))
 (some (false, ()))
 ((aig_Right_l1 n x1 x2 (0, ([] : List (Kii × Bool)), ())).bind (Sum.elim (fun d8 => some (d8.1, ())) (fun d9 => some (true, ()))))))
def aig_Right_s : Sig := ⟨[.c true [.int .i64, .row Kii_]], [], .c false [.bool], []⟩
def aig_Right_a : Ann := .s .d (.s .d (.s .d (.s (.s .d (.b (.l [2, 3, 4, 5, 6, 7, 8, 26, 30, 31, 32, 33, 34, 35, 36, 37, 38, 39, 40, 41, 42, 43, 44, 45, 46, 47, 48, 49, 50, 51, 52, 53, 54, 55, 56, 57, 58, 59, 60, 61, 62, 63, 64, 65, 66, 67, 68, 69, 70, 71, 72, 73] [101] ⟨[(3, .c false [.con (.map 101)]), (30, .c false [.int .i64])], [(101, .map true Kii_ false b_)]⟩ [(.ret, ⟨[(2, .c false [.bool])], []⟩), (.exit 0, ⟨[], []⟩)] .d))) .d)))
noncomputable def aig_Right_c (n : Nat) : Ctr Try.prog := .of Try.func15 n [aig_of_c n, aig_plain_c n] aig_Right_a aig_Right_s (fun d => aig_Right n d.1 d.2.1) fun d => by kernel_rfl
noncomputable def law14_right_l1b (n : Nat) (x1 : Int) (x2 : List Kii) (x3 : List Int) (self : Int × Unit → Option ((Bool × Unit) ⊕ (Unit))) (d5 : Int × Unit) : Option ((Bool × Unit) ⊕ (Unit)) :=
 cond (decide (d5.1 < (x3.length : Int)))
 (ask (0 ≤ d5.1 ∧ d5.1 < (x3.length : Int)) (cond (decide ((Ki_at x3 d5.1) < 0))
 (some (.inl (false, ())))
 (ask (0 ≤ d5.1 ∧ d5.1 < (x3.length : Int)) (ask ((2 : Int) ≠ 0) (cond (decide ((IntKind.wrap .i64 (x1 + (x2.length : Int))) < (IntKind.wrap .i64 (Int.tdiv (Ki_at x3 d5.1) 2))))
 (some (.inl (false, ())))
 (self (IntKind.wrap .i64 (d5.1 + 1), ())))))))
 (some (.inr ()))
noncomputable def law14_right_l1 (n : Nat) (x1 : Int) (x2 : List Kii) (x3 : List Int) : Int × Unit → Option ((Bool × Unit) ⊕ (Unit)) := iter (law14_right_l1b n x1 x2 x3) n
noncomputable def law14_right (n : Nat) (x1 : Int) (x2 : List Kii) (x3 : List Int) : Option (Bool × Unit) :=
 (law14_right_l1 n x1 x2 x3 (0, ())).bind (Sum.elim (fun d6 => some (d6.1, ())) (fun d7 => some (true, ())))
def law14_right_s : Sig := ⟨[.c true [.int .i64, .row Kii_], .c false [.row i_]], [], .c false [.bool], []⟩
def law14_right_a : Ann := .s .d (.s (.s .d (.b (.l [4, 5, 6, 7, 8, 9, 10, 11, 12, 13, 14, 15, 16, 17, 18, 19, 20, 21, 22, 23, 24, 25, 26, 27, 28, 29, 30] [] ⟨[(5, .c false [.int .i64])], []⟩ [(.ret, ⟨[(4, .c false [.bool])], []⟩), (.exit 0, ⟨[], []⟩)] .d))) .d)
noncomputable def law14_right_c (n : Nat) : Ctr Try.prog := .of Try.func17 n [] law14_right_a law14_right_s (fun d => law14_right n d.1 d.2.1 d.2.2.1) fun d => by kernel_rfl
noncomputable def aig_Lit (n : Nat) (x1 : List Bool) (x2 : Int) : Option (Bool × Unit) :=
 ask (0 ≤ (1 : Int)) (ask (0 ≤ (shrI .i64 x2 1) ∧ shrI .i64 x2 1 < (x1.length : Int)) (some ((Kb_at x1 (shrI .i64 x2 1) != decide ((bits .and .i64 x2 1) = 1)), ())))
def aig_Lit_s : Sig := ⟨[.c false [.row b_], .c false [.int .i64]], [], .c false [.bool], []⟩
def aig_Lit_a : Ann := .d
noncomputable def aig_Lit_c (n : Nat) : Ctr Try.prog := .of Try.func37 n [] aig_Lit_a aig_Lit_s (fun d => aig_Lit n d.1 d.2.1) fun d => by kernel_rfl
noncomputable def aig_Eval_l1b (n : Nat) (x2 : List Kii) (self : Int × List Bool × Unit → Option ((List Bool × Unit))) (d6 : Int × List Bool × Unit) : Option ((List Bool × Unit)) :=
 cond (decide (d6.1 < (x2.length : Int)))
 (ask (0 ≤ d6.1 ∧ d6.1 < (x2.length : Int)) (ask (0 < 2) ((aig_Lit n d6.2.1 ((Kii_at x2 d6.1).1)).bind (fun r7 => cond r7.1
 (ask (1 < 2) ((aig_Lit n d6.2.1 ((Kii_at x2 d6.1).2)).bind (fun r8 => ask (True ∧ (d6.2.1.length + (([r8.1] : List Bool)).length) * 1 ≤ 140737488355328) (self (IntKind.wrap .i64 (d6.1 + 1), d6.2.1 ++ ([r8.1] : List Bool), ())))))
 (ask (True ∧ (d6.2.1.length + (([false] : List Bool)).length) * 1 ≤ 140737488355328) (self (IntKind.wrap .i64 (d6.1 + 1), d6.2.1 ++ ([false] : List Bool), ())))))))
 (some (d6.2.1, ()))
noncomputable def aig_Eval_l1 (n : Nat) (x2 : List Kii) : Int × List Bool × Unit → Option ((List Bool × Unit)) := iter (aig_Eval_l1b n x2) n
noncomputable def aig_Eval (n : Nat) (x1 : Int) (x2 : List Kii) (x3 : List Bool) : Option (List Bool × Unit) :=
 ask ((0 ≤ (IntKind.wrap .i64 ((1 : Int) + x1)) ∧ IntKind.wrap .i64 ((1 : Int) + x1) ≤ IntKind.wrap .i64 ((IntKind.wrap .i64 ((1 : Int) + x1)) + (x2.length : Int))) ∧ (1 : Int) * (IntKind.wrap .i64 ((IntKind.wrap .i64 ((1 : Int) + x1)) + (x2.length : Int))) ≤ 281474976710656 ∧ IntKind.wrap .i64 ((IntKind.wrap .i64 ((1 : Int) + x1)) + (x2.length : Int)) ≤ 281474976710656) (ask (0 ≤ (1 : Int) ∧ 1 ≤ ((List.replicate (IntKind.wrap .i64 ((1 : Int) + x1)).toNat false).length : Int)) (ask (True) ((aig_Eval_l1 n x2 (0, cpy (List.replicate (IntKind.wrap .i64 ((1 : Int) + x1)).toNat false) ((1 : Int).toNat) ((List.replicate (IntKind.wrap .i64 ((1 : Int) + x1)).toNat false).length - (1 : Int).toNat) x3, ())).bind (fun d9 => some (d9.1, ())))))
def aig_Eval_s : Sig := ⟨[.c true [.int .i64, .row Kii_], .c false [.row b_]], [], .c false [.row b_], []⟩
def aig_Eval_a : Ann := .s .d (.s .d (.s .d (.s (.s .d (.b (.l [5, 7, 18, 19, 20, 26, 27, 28, 29, 30, 31, 32, 33, 34, 35, 36, 37, 38, 39, 40, 41, 42, 43] [741] ⟨[(5, .c false [.con (.own 741 1)]), (26, .c false [.int .i64])], [(741, .row 4 b_)]⟩ [(.exit 0, ⟨[(5, .c false [.con (.own 741 1)])], [(741, .row 4 b_)]⟩)] .d))) .d)))
noncomputable def aig_Eval_c (n : Nat) : Ctr Try.prog := .of Try.func21 n [aig_Lit_c n] aig_Eval_a aig_Eval_s (fun d => aig_Eval n d.1 d.2.1 d.2.2.1) fun d => by kernel_rfl
noncomputable def ref13_Lit (n : Nat) (x1 : List Bool) (x2 : Int) : Option (Bool × Unit) :=
 ask ((2 : Int) ≠ 0) (ask (0 ≤ (IntKind.wrap .i64 (Int.tdiv x2 2)) ∧ IntKind.wrap .i64 (Int.tdiv x2 2) < (x1.length : Int)) (ask ((2 : Int) ≠ 0) (some ((Kb_at x1 (IntKind.wrap .i64 (Int.tdiv x2 2)) != decide ((Int.tmod x2 2) = 1)), ()))))
def ref13_Lit_s : Sig := ⟨[.c false [.row b_], .c false [.int .i64]], [], .c false [.bool], []⟩
def ref13_Lit_a : Ann := .d
noncomputable def ref13_Lit_c (n : Nat) : Ctr Try.prog := .of Try.func38 n [] ref13_Lit_a ref13_Lit_s (fun d => ref13_Lit n d.1 d.2.1) fun d => by kernel_rfl
noncomputable def law14_num_l1b (n : Nat) (x1 : List Bool) (x2 : List Int) (self : Int × Int × Unit → Option ((Int × Unit))) (d4 : Int × Int × Unit) : Option ((Int × Unit)) :=
 cond (decide ((0 : Int) ≤ d4.2.1))
 (ask (0 ≤ d4.2.1 ∧ d4.2.1 < (x2.length : Int)) ((ref13_Lit n x1 (Ki_at x2 d4.2.1)).bind (fun r5 => cond r5.1
 (self (IntKind.wrap .i64 ((IntKind.wrap .i64 (d4.1 + d4.1)) + 1), IntKind.wrap .i64 (d4.2.1 - 1), ()))
 (self (IntKind.wrap .i64 (d4.1 + d4.1), IntKind.wrap .i64 (d4.2.1 - 1), ())))))
 (some (d4.1, ()))
noncomputable def law14_num_l1 (n : Nat) (x1 : List Bool) (x2 : List Int) : Int × Int × Unit → Option ((Int × Unit)) := iter (law14_num_l1b n x1 x2) n
noncomputable def law14_num (n : Nat) (x1 : List Bool) (x2 : List Int) : Option (Int × Unit) :=
 (law14_num_l1 n x1 x2 (0, IntKind.wrap .i64 ((x2.length : Int) - 1), ())).bind (fun d6 => some (d6.1, ()))
def law14_num_s : Sig := ⟨[.c false [.row b_], .c false [.row i_]], [], .c false [.int .i64], []⟩
def law14_num_a : Ann := .s .d (.s .d (.s (.s .d (.b (.l [5, 6, 10, 11, 12, 13, 14, 15, 16, 17, 18, 19, 20, 21, 22, 23, 24] [] ⟨[(5, .c false [.int .i64]), (6, .c false [.int .i64])], []⟩ [(.exit 0, ⟨[(5, .c false [.int .i64])], []⟩)] .d))) .d))
noncomputable def law14_num_c (n : Nat) : Ctr Try.prog := .of Try.func23 n [ref13_Lit_c n] law14_num_a law14_num_s (fun d => law14_num n d.1 d.2.1) fun d => by kernel_rfl
noncomputable def law14_means (n : Nat) (x1 : Int) (x2 : List Kii) (x3 : Int) (x4 : Int) (x5 : Int) (x6 : Int) (x7 : Int) (x8 : Int) (x9 : Int) (x10 : List Int) (x11 : List Int) (x12 : List Bool) : Option (Int × Unit) :=
 (blast_Do n x1 x2 x3 x4 x5 x6 x7 x8 x9 x10 x11 ([] : List Int)).bind (fun r13 => (aig_Right n r13.1 r13.2.1).bind (fun r14 => cond (!r14.1)
 (some ((-1), ()))
 (cond (decide (r13.1 ≠ x1))
 (some ((-1), ()))
 (cond (decide ((r13.2.2.1.length : Int) ≠ x4))
 (some ((-1), ()))
 ((law14_right n r13.1 r13.2.1 r13.2.2.1).bind (fun r15 => cond (!r15.1)
 (some ((-1), ()))
 ((aig_Eval n r13.1 r13.2.1 x12).bind (fun r16 => cond (decide ((r16.1.length : Int) ≠ (IntKind.wrap .i64 ((IntKind.wrap .i64 ((1 : Int) + r13.1)) + (r13.2.1.length : Int)))))
 (some ((-1), ()))
 ((law14_num n r16.1 r13.2.2.1).bind (fun r17 => some (r17.1, ())))))))))))
def law14_means_s : Sig := ⟨[.c true [.int .i64, .row Kii_], .c true [.int .i64, .int .i64, .int .i64, .int .i64, .int .i64, .int .i64, .int .i64], .c false [.row i_], .c false [.row i_], .c false [.row b_]], [], .c false [.int .i64], []⟩
def law14_means_a : Ann := .d
noncomputable def law14_means_c (n : Nat) : Ctr Try.prog := .of Try.func27 n [blast_Do_c n, aig_Right_c n, law14_right_c n, aig_Eval_c n, law14_num_c n] law14_means_a law14_means_s (fun d => law14_means n d.1 d.2.1 d.2.2.1 d.2.2.2.1 d.2.2.2.2.1 d.2.2.2.2.2.1 d.2.2.2.2.2.2.1 d.2.2.2.2.2.2.2.1 d.2.2.2.2.2.2.2.2.1 d.2.2.2.2.2.2.2.2.2.1 d.2.2.2.2.2.2.2.2.2.2.1 d.2.2.2.2.2.2.2.2.2.2.2.1) fun d => by kernel_rfl
noncomputable def law14_head (n : Nat) : Option (Bool × Unit) :=
 (aig_New n 4).bind (fun r1 => (law14_means n r1.1 ([] : List Kii) 1 4 0 0 0 5 0 ([] : List Int) ([] : List Int) ([true, false, true, true] : List Bool)).bind (fun r2 => cond (decide (r2.1 = 5))
 ((law14_means n r1.1 ([] : List Kii) 17 3 0 0 0 0 0 ([2] : List Int) ([4, 6] : List Int) ([true, false, true, true] : List Bool)).bind (fun r3 => cond (decide (r3.1 = 6))
 ((law14_means n r1.1 ([] : List Kii) 9 2 0 0 0 0 0 ([2, 4] : List Int) ([6, 8] : List Int) ([true, false, true, true] : List Bool)).bind (fun r4 => cond (decide (r4.1 = 0))
 ((law14_means n r1.1 ([] : List Kii) 14 1 0 0 0 0 2 ([2, 4] : List Int) ([6, 8] : List Int) ([true, false, true, true] : List Bool)).bind (fun r5 => some (decide (r5.1 = 1), ())))
 (some (false, ()))))
 (some (false, ()))))
 (some (false, ()))))
def law14_head_s : Sig := ⟨[], [], .c false [.bool], []⟩
def law14_head_a : Ann := .d
noncomputable def law14_head_c (n : Nat) : Ctr Try.prog := .of Try.func9 n [aig_New_c n, law14_means_c n] law14_head_a law14_head_s (fun d => law14_head n) fun d => by kernel_rfl
noncomputable def law13_Great (n : Nat) (x1 : List Kcwww) : Option (Bool × Unit) :=
 some (decide ((120 : Int) < (x1.length : Int)), ())
def law13_Great_s : Sig := ⟨[.c false [.row Kcwww_]], [], .c false [.bool], []⟩
def law13_Great_a : Ann := .d
noncomputable def law13_Great_c (n : Nat) : Ctr Try.prog := .of Try.func10 n [] law13_Great_a law13_Great_s (fun d => law13_Great n d.1) fun d => by kernel_rfl
noncomputable def ref13_New (n : Nat) (x1 : Int) : Option (Int × Unit) :=
 some (x1, ())
def ref13_New_s : Sig := ⟨[.c false [.int .i64]], [], .c true [.int .i64, .con .nilsl], []⟩
def ref13_New_a : Ann := .d
noncomputable def ref13_New_c (n : Nat) : Ctr Try.prog := .of Try.func28 n [] ref13_New_a ref13_New_s (fun d => ref13_New n d.1) fun d => by kernel_rfl
noncomputable def law13_literal (n : Nat) (x1 : Int) (x2 : List Kii) (x3 : Int) : Option (Int × Unit) :=
 ask ((IntKind.wrap .i64 ((2 : Int) * (IntKind.wrap .i64 ((IntKind.wrap .i64 (x1 + (x2.length : Int))) + 1)))) ≠ 0) (some (Int.tmod (IntKind.wrap .i64 x3) (IntKind.wrap .i64 ((2 : Int) * (IntKind.wrap .i64 ((IntKind.wrap .i64 (x1 + (x2.length : Int))) + 1)))), ()))
def law13_literal_s : Sig := ⟨[.c true [.int .i64, .row Kii_], .c false [.int .u16]], [], .c false [.int .i64], []⟩
def law13_literal_a : Ann := .d
noncomputable def law13_literal_c (n : Nat) : Ctr Try.prog := .of Try.func29 n [] law13_literal_a law13_literal_s (fun d => law13_literal n d.1 d.2.1 d.2.2.1) fun d => by kernel_rfl
noncomputable def ref13_find_l1b (n : Nat) (x2 : List Kii) (x3 : Int) (x4 : Int) (x5 : Int) (self : Int × Unit → Option ((Int × Unit) ⊕ (Unit))) (d7 : Int × Unit) : Option ((Int × Unit) ⊕ (Unit)) :=
 cond (decide (d7.1 < x5))
 (ask (0 ≤ d7.1 ∧ d7.1 < (x2.length : Int)) (ask (0 < 2) (cond (decide (((Kii_at x2 d7.1).1) = x3))
 (ask (0 ≤ d7.1 ∧ d7.1 < (x2.length : Int)) (ask (1 < 2) (cond (decide (((Kii_at x2 d7.1).2) = x4))
 (some (.inl (d7.1, ())))
 (self (IntKind.wrap .i64 (d7.1 + 1), ())))))
 (self (IntKind.wrap .i64 (d7.1 + 1), ())))))
 (some (.inr ()))
noncomputable def ref13_find_l1 (n : Nat) (x2 : List Kii) (x3 : Int) (x4 : Int) (x5 : Int) : Int × Unit → Option ((Int × Unit) ⊕ (Unit)) := iter (ref13_find_l1b n x2 x3 x4 x5) n
noncomputable def ref13_find (n : Nat) (x1 : Int) (x2 : List Kii) (x3 : Int) (x4 : Int) (x5 : Int) : Option (Int × Unit) :=
 (ref13_find_l1 n x2 x3 x4 x5 (0, ())).bind (Sum.elim (fun d8 => some (d8.1, ())) (fun d9 => some ((-1), ())))
def ref13_find_s : Sig := ⟨[.c true [.int .i64, .row Kii_], .c false [.int .i64], .c false [.int .i64], .c false [.int .i64]], [], .c false [.int .i64], []⟩
def ref13_find_a : Ann := .s .d (.s (.s .d (.b (.l [8, 9, 10, 11, 12, 13, 14, 15, 16, 17, 18, 19, 20, 21, 22, 23, 24, 25, 26, 27, 28, 29, 30, 31, 32, 33] [] ⟨[(9, .c false [.int .i64])], []⟩ [(.ret, ⟨[(8, .c false [.int .i64])], []⟩), (.exit 0, ⟨[], []⟩)] .d))) .d)
noncomputable def ref13_find_c (n : Nat) : Ctr Try.prog := .of Try.func42 n [] ref13_find_a ref13_find_s (fun d => ref13_find n d.1 d.2.1 d.2.2.1 d.2.2.2.1 d.2.2.2.2.1) fun d => by kernel_rfl
noncomputable def ref13_And_j1 (n : Nat) (d5 : Int × Int × Unit) (r7 : Int × Unit) (x1 : Int) (x2 : List Kii) : Option ((Int × Int × List Kii × Unit)) :=
 cond (decide (r7.1 < 0))
 (ask (True ∧ ((([] : List Kii)).length + x2.length) * 16 ≤ 140737488355328) (ask (True ∧ ((([] : List Kii) ++ x2).length + (([(d5.1, d5.2.1)] : List Kii)).length) * 16 ≤ 140737488355328) (some ((x2.length : Int), x1, (([] : List Kii) ++ x2) ++ ([(d5.1, d5.2.1)] : List Kii), ()))))
 (some (r7.1, x1, x2, ()))
noncomputable def ref13_And_j2 (n : Nat) (d5 : Int × Int × Unit) (r10 : Int × Unit) (x1 : Int) (x2 : List Kii) : Option ((Int × Int × List Kii × Unit)) :=
 cond (decide (r10.1 < 0))
 (ask (True ∧ ((([] : List Kii)).length + x2.length) * 16 ≤ 140737488355328) (ask (True ∧ ((([] : List Kii) ++ x2).length + (([(d5.1, d5.2.1)] : List Kii)).length) * 16 ≤ 140737488355328) (some ((x2.length : Int), x1, (([] : List Kii) ++ x2) ++ ([(d5.1, d5.2.1)] : List Kii), ()))))
 (some (r10.1, x1, x2, ()))
noncomputable def ref13_And (n : Nat) (x1 : Int) (x2 : List Kii) (x3 : Int) (x4 : Int) : Option (Int × List Kii × Int × Unit) :=
 ((cond (decide (x4 < x3))
 (some (x4, x3, ()))
 (some (x3, x4, ()))) : Option ((Int × Int × Unit))).bind (fun d5 => cond (decide (d5.1 = 0))
 (some (x1, x2, 0, ()))
 (ask ((2 : Int) ≠ 0) (ask ((2 : Int) ≠ 0) (cond (decide ((IntKind.wrap .i64 (Int.tdiv d5.1 2)) = (IntKind.wrap .i64 (Int.tdiv d5.2.1 2))))
 (cond (decide (d5.1 ≠ d5.2.1))
 (some (x1, x2, 0, ()))
 (((cond (decide (d5.1 = 1))
 (some (true, ()))
 (some (decide (d5.1 = d5.2.1), ()))) : Option ((Bool × Unit))).bind (fun d6 => cond d6.1
 (some (x1, x2, d5.2.1, ()))
 ((ref13_find n x1 x2 d5.1 d5.2.1 (x2.length : Int)).bind (fun r7 => (ref13_And_j1 n d5 r7 x1 x2).bind (fun d8 => some (d8.2.1, d8.2.2.1, IntKind.wrap .i64 ((2 : Int) * (IntKind.wrap .i64 ((IntKind.wrap .i64 (d8.2.1 + 1)) + d8.1))), ())))))))
 (((cond (decide (d5.1 = 1))
 (some (true, ()))
 (some (decide (d5.1 = d5.2.1), ()))) : Option ((Bool × Unit))).bind (fun d9 => cond d9.1
 (some (x1, x2, d5.2.1, ()))
 ((ref13_find n x1 x2 d5.1 d5.2.1 (x2.length : Int)).bind (fun r10 => (ref13_And_j2 n d5 r10 x1 x2).bind (fun d11 => some (d11.2.1, d11.2.2.1, IntKind.wrap .i64 ((2 : Int) * (IntKind.wrap .i64 ((IntKind.wrap .i64 (d11.2.1 + 1)) + d11.1))), ()))))))))))
def ref13_And_s : Sig := ⟨[.c true [.int .i64, .row Kii_], .c false [.int .i64], .c false [.int .i64]], [], .t [(true, [.int .i64, .row Kii_]), (false, [.int .i64])], []⟩
def ref13_And_a : Ann := .s .d (.j [1, 2, 9, 10, 11, 12, 13] [] [(.normal, ⟨[(1, .c false [.int .i64]), (2, .c false [.int .i64])], []⟩)] .d (.s .d (.s (.j [29, 30, 31, 32, 33, 34, 35] [] [(.normal, ⟨[(35, .c false [.bool])], []⟩)] .d .d) (.s .d (.j [3, 8, 41, 45, 46, 47, 48, 49, 50, 51, 52, 53, 54, 55, 56, 57, 58, 59] [100] [(.normal, ⟨[(3, .c false [.con (.ptr 100 0)]), (8, .c false [.int .i64])], [(100, .var 31 [.int .i64, .row Kii_])]⟩)] .d .d)))))
noncomputable def ref13_And_c (n : Nat) : Ctr Try.prog := .of Try.func30 n [ref13_find_c n] ref13_And_a ref13_And_s (fun d => ref13_And n d.1 d.2.1 d.2.2.1 d.2.2.2.1) fun d => by kernel_rfl
noncomputable def ref13_turn (n : Nat) (x1 : Int) : Option (Int × Unit) :=
 some (bits .xor .i64 x1 1, ())
def ref13_turn_s : Sig := ⟨[.c false [.int .i64]], [], .c false [.int .i64], []⟩
def ref13_turn_a : Ann := .d
noncomputable def ref13_turn_c (n : Nat) : Ctr Try.prog := .of Try.func43 n [] ref13_turn_a ref13_turn_s (fun d => ref13_turn n d.1) fun d => by kernel_rfl
noncomputable def ref13_Or (n : Nat) (x1 : Int) (x2 : List Kii) (x3 : Int) (x4 : Int) : Option (Int × List Kii × Int × Unit) :=
 (ref13_turn n x3).bind (fun r5 => (ref13_turn n x4).bind (fun r6 => (ref13_And n x1 x2 r5.1 r6.1).bind (fun r7 => (ref13_turn n r7.2.2.1).bind (fun r8 => some (r7.1, r7.2.1, r8.1, ())))))
def ref13_Or_s : Sig := ⟨[.c true [.int .i64, .row Kii_], .c false [.int .i64], .c false [.int .i64]], [], .t [(true, [.int .i64, .row Kii_]), (false, [.int .i64])], []⟩
def ref13_Or_a : Ann := .d
noncomputable def ref13_Or_c (n : Nat) : Ctr Try.prog := .of Try.func31 n [ref13_turn_c n, ref13_And_c n] ref13_Or_a ref13_Or_s (fun d => ref13_Or n d.1 d.2.1 d.2.2.1 d.2.2.2.1) fun d => by kernel_rfl
noncomputable def ref13_Mux (n : Nat) (x1 : Int) (x2 : List Kii) (x3 : Int) (x4 : Int) (x5 : Int) : Option (Int × List Kii × Int × Unit) :=
 (ref13_And n x1 x2 x3 x4).bind (fun r6 => (ref13_turn n x3).bind (fun r7 => (ref13_And n r6.1 r6.2.1 r7.1 x5).bind (fun r8 => (ref13_Or n r8.1 r8.2.1 r6.2.2.1 r8.2.2.1).bind (fun r9 => some (r9.1, r9.2.1, r9.2.2.1, ())))))
def ref13_Mux_s : Sig := ⟨[.c true [.int .i64, .row Kii_], .c false [.int .i64], .c false [.int .i64], .c false [.int .i64]], [], .t [(true, [.int .i64, .row Kii_]), (false, [.int .i64])], []⟩
def ref13_Mux_a : Ann := .d
noncomputable def ref13_Mux_c (n : Nat) : Ctr Try.prog := .of Try.func33 n [ref13_And_c n, ref13_turn_c n, ref13_Or_c n] ref13_Mux_a ref13_Mux_s (fun d => ref13_Mux n d.1 d.2.1 d.2.2.1 d.2.2.2.1 d.2.2.2.2.1) fun d => by kernel_rfl
noncomputable def ref13_Xor (n : Nat) (x1 : Int) (x2 : List Kii) (x3 : Int) (x4 : Int) : Option (Int × List Kii × Int × Unit) :=
 (ref13_turn n x4).bind (fun r5 => (ref13_Mux n x1 x2 x3 r5.1 x4).bind (fun r6 => some (r6.1, r6.2.1, r6.2.2.1, ())))
def ref13_Xor_s : Sig := ⟨[.c true [.int .i64, .row Kii_], .c false [.int .i64], .c false [.int .i64]], [], .t [(true, [.int .i64, .row Kii_]), (false, [.int .i64])], []⟩
def ref13_Xor_a : Ann := .d
noncomputable def ref13_Xor_c (n : Nat) : Ctr Try.prog := .of Try.func32 n [ref13_turn_c n, ref13_Mux_c n] ref13_Xor_a ref13_Xor_s (fun d => ref13_Xor n d.1 d.2.1 d.2.2.1 d.2.2.2.1) fun d => by kernel_rfl
noncomputable def law13_Made_j1 (n : Nat) (d7 : Int × Int × List Kii × List Int × Unit) (r8 : Int × Unit) (r9 : Int × Unit) (r10 : Int × Unit) (x2 : List Kcwww) : Option ((Int × Int × List Kii × Unit)) :=
 ask (0 ≤ d7.1 ∧ d7.1 < (x2.length : Int)) (ask ((4 : Int) ≠ 0) (cond (decide ((Int.tmod ((Kcwww_at x2 d7.1).1) 4) = 0))
 ((ref13_And n d7.2.1 d7.2.2.1 r8.1 r9.1).bind (fun r11 => some (r11.2.2.1, r11.1, r11.2.1, ())))
 (cond (decide ((Int.tmod ((Kcwww_at x2 d7.1).1) 4) = 1))
 ((ref13_Or n d7.2.1 d7.2.2.1 r8.1 r9.1).bind (fun r12 => some (r12.2.2.1, r12.1, r12.2.1, ())))
 (cond (decide ((Int.tmod ((Kcwww_at x2 d7.1).1) 4) = 2))
 ((ref13_Xor n d7.2.1 d7.2.2.1 r8.1 r9.1).bind (fun r13 => some (r13.2.2.1, r13.1, r13.2.1, ())))
 (cond (decide ((Int.tmod ((Kcwww_at x2 d7.1).1) 4) = 3))
 ((ref13_Mux n d7.2.1 d7.2.2.1 r8.1 r9.1 r10.1).bind (fun r14 => some (r14.2.2.1, r14.1, r14.2.1, ())))
 (some (0, d7.2.1, d7.2.2.1, ())))))))
noncomputable def law13_Made_l2b (n : Nat) (x2 : List Kcwww) (self : Int × Int × List Kii × List Int × Unit → Option ((Int × List Kii × List Int × Unit))) (d7 : Int × Int × List Kii × List Int × Unit) : Option ((Int × List Kii × List Int × Unit)) :=
 cond (decide (d7.1 < (x2.length : Int)))
 (ask (0 ≤ d7.1 ∧ d7.1 < (x2.length : Int)) ((law13_literal n d7.2.1 d7.2.2.1 (((Kcwww_at x2 d7.1).2).1)).bind (fun r8 => ask (0 ≤ d7.1 ∧ d7.1 < (x2.length : Int)) ((law13_literal n d7.2.1 d7.2.2.1 ((((Kcwww_at x2 d7.1).2).2).1)).bind (fun r9 => ask (0 ≤ d7.1 ∧ d7.1 < (x2.length : Int)) ((law13_literal n d7.2.1 d7.2.2.1 ((((Kcwww_at x2 d7.1).2).2).2)).bind (fun r10 => (law13_Made_j1 n d7 r8 r9 r10 x2).bind (fun d15 => ask (True ∧ (d7.2.2.2.1.length + (([d15.1] : List Int)).length) * 8 ≤ 140737488355328) (self (IntKind.wrap .i64 (d7.1 + 1), d15.2.1, d15.2.2.1, d7.2.2.2.1 ++ ([d15.1] : List Int), ()))))))))))
 (some (d7.2.1, d7.2.2.1, d7.2.2.2.1, ()))
noncomputable def law13_Made_l2 (n : Nat) (x2 : List Kcwww) : Int × Int × List Kii × List Int × Unit → Option ((Int × List Kii × List Int × Unit)) := iter (law13_Made_l2b n x2) n
noncomputable def law13_Made (n : Nat) (x1 : Int) (x2 : List Kcwww) : Option (Int × List Kii × List Int × Unit) :=
 ask ((9 : Int) ≠ 0) ((ref13_New n (Int.tmod (IntKind.wrap .i64 x1) 9)).bind (fun r3 => (law13_Made_l2 n x2 (0, r3.1, ([] : List Kii), ([] : List Int), ())).bind (fun d16 => some (d16.1, d16.2.1, d16.2.2.1, ()))))
def law13_Made_s : Sig := ⟨[.c false [.int .u8], .c false [.row Kcwww_]], [], .t [(true, [.int .i64, .row Kii_]), (false, [.row i_])], []⟩
def law13_Made_a : Ann := .s .d (.s .d (.s .d (.s (.s .d (.b (.l [6, 7, 8, 9, 10, 11, 12, 17, 18, 19, 20, 21, 22, 23, 24, 25, 26, 27, 28, 29, 30, 31, 32, 33, 34, 35, 36, 37, 38, 39, 40, 41, 42, 43, 44, 45, 46, 47, 48, 49, 50, 51, 52, 53, 54, 55, 56, 57, 58, 59, 60, 61, 62, 63, 64, 65, 66, 67, 68, 69, 70, 71, 72, 73, 74, 75, 76, 77, 78, 79, 80, 81, 82, 83, 84, 85, 86, 87, 88, 89, 90] [357] ⟨[(6, .c false [.con (.ptr 357 0)]), (7, .c false [.con (.own 100000 1)]), (8, .c false [.int .i64])], [(357, .var 31 [.int .i64, .row Kii_]), (100000, .row 3 i_)]⟩ [(.exit 0, ⟨[(6, .c false [.con (.ptr 357 0)]), (7, .c false [.con (.own 100000 1)])], [(357, .var 31 [.int .i64, .row Kii_]), (100000, .row 3 i_)]⟩)] (.s .d (.s (.b (.s .d (.s .d (.s .d (.s .d (.j [6, 12, 44, 45, 46, 47, 48, 49, 50, 51, 52, 53, 54, 55, 56, 57, 58, 59, 60, 61, 62, 63, 64, 65, 66, 67, 68, 69, 70, 71, 72, 73, 74, 75, 76, 77, 78, 79, 80, 81, 82, 83, 84, 85, 86] [357] [(.normal, ⟨[(6, .c false [.con (.ptr 357 0)]), (12, .c false [.int .i64])], [(357, .var 31 [.int .i64, .row Kii_])]⟩)] .d .d)))))) .d))))) .d)))
noncomputable def law13_Made_c (n : Nat) : Ctr Try.prog := .of Try.func11 n [ref13_New_c n, law13_literal_c n, ref13_And_c n, ref13_Or_c n, ref13_Xor_c n, ref13_Mux_c n] law13_Made_a law13_Made_s (fun d => law13_Made n d.1 d.2.1) fun d => by kernel_rfl
noncomputable def ref08_Mask (n : Nat) (x1 : Int) : Option (Int × Unit) :=
 ask (0 ≤ x1) (some (IntKind.wrap .i64 ((shlI .i64 1 x1) - 1), ()))
def ref08_Mask_s : Sig := ⟨[.c false [.int .i64]], [], .c false [.int .i64], []⟩
def ref08_Mask_a : Ann := .d
noncomputable def ref08_Mask_c (n : Nat) : Ctr Try.prog := .of Try.func25 n [] ref08_Mask_a ref08_Mask_s (fun d => ref08_Mask n d.1) fun d => by kernel_rfl
noncomputable def law08_Made_j1 (n : Nat) (x1 : Int) : Option ((Bool × Unit)) :=
 cond (decide ((Ki_at ([1, 3, 4, 5, 6, 7, 8, 9, 10, 11, 12, 13, 14, 15, 16, 17, 18] : List Int) (Int.tmod (IntKind.wrap .i64 x1) 17)) = 4))
 (some (decide ((Ki_at ([1, 3, 4, 5, 6, 7, 8, 9, 10, 11, 12, 13, 14, 15, 16, 17, 18] : List Int) (Int.tmod (IntKind.wrap .i64 x1) 17)) = 4), ()))
 (some (decide ((Ki_at ([1, 3, 4, 5, 6, 7, 8, 9, 10, 11, 12, 13, 14, 15, 16, 17, 18] : List Int) (Int.tmod (IntKind.wrap .i64 x1) 17)) = 5), ()))
noncomputable def law08_Made_j2 (n : Nat) (x1 : Int) : Option ((Bool × Unit)) :=
 cond (decide ((Ki_at ([1, 3, 4, 5, 6, 7, 8, 9, 10, 11, 12, 13, 14, 15, 16, 17, 18] : List Int) (Int.tmod (IntKind.wrap .i64 x1) 17)) = 12))
 (some (decide ((Ki_at ([1, 3, 4, 5, 6, 7, 8, 9, 10, 11, 12, 13, 14, 15, 16, 17, 18] : List Int) (Int.tmod (IntKind.wrap .i64 x1) 17)) = 12), ()))
 (cond (decide ((Ki_at ([1, 3, 4, 5, 6, 7, 8, 9, 10, 11, 12, 13, 14, 15, 16, 17, 18] : List Int) (Int.tmod (IntKind.wrap .i64 x1) 17)) = 13))
 (some (decide ((Ki_at ([1, 3, 4, 5, 6, 7, 8, 9, 10, 11, 12, 13, 14, 15, 16, 17, 18] : List Int) (Int.tmod (IntKind.wrap .i64 x1) 17)) = 13), ()))
 (cond (decide ((Ki_at ([1, 3, 4, 5, 6, 7, 8, 9, 10, 11, 12, 13, 14, 15, 16, 17, 18] : List Int) (Int.tmod (IntKind.wrap .i64 x1) 17)) = 14))
 (some (decide ((Ki_at ([1, 3, 4, 5, 6, 7, 8, 9, 10, 11, 12, 13, 14, 15, 16, 17, 18] : List Int) (Int.tmod (IntKind.wrap .i64 x1) 17)) = 14), ()))
 (some (decide ((Ki_at ([1, 3, 4, 5, 6, 7, 8, 9, 10, 11, 12, 13, 14, 15, 16, 17, 18] : List Int) (Int.tmod (IntKind.wrap .i64 x1) 17)) = 15), ()))))
noncomputable def law08_Made_j3 (n : Nat) (x1 : Int) (x2 : Int) (x6 : Int) : Option ((Int × Int × Int × Int × Int × Int × Int × Int × Unit)) :=
 cond (decide ((IntKind.wrap .i64 ((Int.tmod (IntKind.wrap .i64 x6) (IntKind.wrap .i64 ((Int.tmod (IntKind.wrap .i64 x2) 16) + 1))) + 1)) = (IntKind.wrap .i64 ((Int.tmod (IntKind.wrap .i64 x2) 16) + 1))))
 (ask (True) (some (1, Ki_at ([1, 3, 4, 5, 6, 7, 8, 9, 10, 11, 12, 13, 14, 15, 16, 17, 18] : List Int) (Int.tmod (IntKind.wrap .i64 x1) 17), (if (16 : Int) < (IntKind.wrap .i64 ((IntKind.wrap .i64 ((Int.tmod (IntKind.wrap .i64 x2) 16) + 1)) + 1)) then 16 else IntKind.wrap .i64 ((IntKind.wrap .i64 ((Int.tmod (IntKind.wrap .i64 x2) 16) + 1)) + 1)), 0, 0, 0, 0, 0, ())))
 (some (IntKind.wrap .i64 ((Int.tmod (IntKind.wrap .i64 x6) (IntKind.wrap .i64 ((Int.tmod (IntKind.wrap .i64 x2) 16) + 1))) + 1), Ki_at ([1, 3, 4, 5, 6, 7, 8, 9, 10, 11, 12, 13, 14, 15, 16, 17, 18] : List Int) (Int.tmod (IntKind.wrap .i64 x1) 17), IntKind.wrap .i64 ((Int.tmod (IntKind.wrap .i64 x2) 16) + 1), 0, 0, 0, 0, 0, ()))
noncomputable def law08_Made (n : Nat) (x1 : Int) (x2 : Int) (x3 : Int) (x4 : Int) (x5 : Int) (x6 : Int) : Option (Int × Int × Int × Int × Int × Int × Int × Int × Int × Int × Int × Unit) :=
 ask ((16 : Int) ≠ 0) (ask ((17 : Int) ≠ 0) (ask (0 ≤ (Int.tmod (IntKind.wrap .i64 x1) 17) ∧ Int.tmod (IntKind.wrap .i64 x1) 17 < ((([1, 3, 4, 5, 6, 7, 8, 9, 10, 11, 12, 13, 14, 15, 16, 17, 18] : List Int)).length : Int)) ((ref08_Mask n (IntKind.wrap .i64 ((Int.tmod (IntKind.wrap .i64 x2) 16) + 1))).bind (fun r7 => (ref08_Mask n (IntKind.wrap .i64 ((Int.tmod (IntKind.wrap .i64 x2) 16) + 1))).bind (fun r8 => (ref08_Mask n (IntKind.wrap .i64 ((Int.tmod (IntKind.wrap .i64 x2) 16) + 1))).bind (fun r9 => cond (decide ((Ki_at ([1, 3, 4, 5, 6, 7, 8, 9, 10, 11, 12, 13, 14, 15, 16, 17, 18] : List Int) (Int.tmod (IntKind.wrap .i64 x1) 17)) = 1))
 (some (Ki_at ([1, 3, 4, 5, 6, 7, 8, 9, 10, 11, 12, 13, 14, 15, 16, 17, 18] : List Int) (Int.tmod (IntKind.wrap .i64 x1) 17), IntKind.wrap .i64 ((Int.tmod (IntKind.wrap .i64 x2) 16) + 1), 0, 0, 0, bits .and .i64 (IntKind.wrap .i64 x3) r7.1, 0, 0, 0, 0, 0, ()))
 (cond (decide ((Ki_at ([1, 3, 4, 5, 6, 7, 8, 9, 10, 11, 12, 13, 14, 15, 16, 17, 18] : List Int) (Int.tmod (IntKind.wrap .i64 x1) 17)) = 3))
 (some (Ki_at ([1, 3, 4, 5, 6, 7, 8, 9, 10, 11, 12, 13, 14, 15, 16, 17, 18] : List Int) (Int.tmod (IntKind.wrap .i64 x1) 17), IntKind.wrap .i64 ((Int.tmod (IntKind.wrap .i64 x2) 16) + 1), 0, 0, 0, 0, 0, bits .and .i64 (IntKind.wrap .i64 x3) r7.1, 0, 0, IntKind.wrap .i64 ((Int.tmod (IntKind.wrap .i64 x2) 16) + 1), ()))
 ((law08_Made_j1 n x1).bind (fun d10 => cond d10.1
 (some (Ki_at ([1, 3, 4, 5, 6, 7, 8, 9, 10, 11, 12, 13, 14, 15, 16, 17, 18] : List Int) (Int.tmod (IntKind.wrap .i64 x1) 17), 1, 0, 0, 0, 0, IntKind.wrap .i64 ((Int.tmod (IntKind.wrap .i64 x2) 16) + 1), bits .and .i64 (IntKind.wrap .i64 x3) r7.1, 0, 0, 0, ()))
 ((law08_Made_j2 n x1).bind (fun d11 => cond d11.1
 (some (Ki_at ([1, 3, 4, 5, 6, 7, 8, 9, 10, 11, 12, 13, 14, 15, 16, 17, 18] : List Int) (Int.tmod (IntKind.wrap .i64 x1) 17), 1, 0, 0, 0, 0, IntKind.wrap .i64 ((Int.tmod (IntKind.wrap .i64 x2) 16) + 1), bits .and .i64 (IntKind.wrap .i64 x3) r7.1, bits .and .i64 (IntKind.wrap .i64 x4) r8.1, 0, IntKind.wrap .i64 ((Int.tmod (IntKind.wrap .i64 x2) 16) + 1), ()))
 (cond (decide ((Ki_at ([1, 3, 4, 5, 6, 7, 8, 9, 10, 11, 12, 13, 14, 15, 16, 17, 18] : List Int) (Int.tmod (IntKind.wrap .i64 x1) 17)) = 16))
 (some (Ki_at ([1, 3, 4, 5, 6, 7, 8, 9, 10, 11, 12, 13, 14, 15, 16, 17, 18] : List Int) (Int.tmod (IntKind.wrap .i64 x1) 17), IntKind.wrap .i64 ((Int.tmod (IntKind.wrap .i64 x2) 16) + 1), 0, 0, 0, 0, 0, bits .and .i64 (IntKind.wrap .i64 x3) 1, bits .and .i64 (IntKind.wrap .i64 x4) r8.1, bits .and .i64 (IntKind.wrap .i64 x5) r9.1, IntKind.wrap .i64 ((Int.tmod (IntKind.wrap .i64 x2) 16) + 1), ()))
 (cond (decide ((Ki_at ([1, 3, 4, 5, 6, 7, 8, 9, 10, 11, 12, 13, 14, 15, 16, 17, 18] : List Int) (Int.tmod (IntKind.wrap .i64 x1) 17)) = 17))
 (ask ((IntKind.wrap .i64 ((Int.tmod (IntKind.wrap .i64 x2) 16) + 1)) ≠ 0) ((law08_Made_j3 n x1 x2 x6).bind (fun d12 => (ref08_Mask n (IntKind.wrap .i64 (d12.2.2.1 - d12.1))).bind (fun r13 => (ref08_Mask n d12.1).bind (fun r14 => some (d12.2.1, d12.2.2.1, d12.2.2.2.1, d12.2.2.2.2.1, d12.2.2.2.2.2.1, d12.2.2.2.2.2.2.1, d12.2.2.2.2.2.2.2.1, bits .and .i64 (IntKind.wrap .i64 x3) r13.1, bits .and .i64 (IntKind.wrap .i64 x4) r14.1, 0, d12.1, ()))))))
 (cond (decide ((Ki_at ([1, 3, 4, 5, 6, 7, 8, 9, 10, 11, 12, 13, 14, 15, 16, 17, 18] : List Int) (Int.tmod (IntKind.wrap .i64 x1) 17)) = 18))
 (ask ((IntKind.wrap .i64 ((Int.tmod (IntKind.wrap .i64 x2) 16) + 1)) ≠ 0) (ask ((IntKind.wrap .i64 ((IntKind.wrap .i64 ((Int.tmod (IntKind.wrap .i64 x2) 16) + 1)) - (Int.tmod (IntKind.wrap .i64 x6) (IntKind.wrap .i64 ((Int.tmod (IntKind.wrap .i64 x2) 16) + 1))))) ≠ 0) (some (Ki_at ([1, 3, 4, 5, 6, 7, 8, 9, 10, 11, 12, 13, 14, 15, 16, 17, 18] : List Int) (Int.tmod (IntKind.wrap .i64 x1) 17), IntKind.wrap .i64 ((IntKind.wrap .i64 ((IntKind.wrap .i64 ((Int.tmod (IntKind.wrap .i64 x6) (IntKind.wrap .i64 ((Int.tmod (IntKind.wrap .i64 x2) 16) + 1))) + (Int.tmod (IntKind.wrap .i64 x5) (IntKind.wrap .i64 ((IntKind.wrap .i64 ((Int.tmod (IntKind.wrap .i64 x2) 16) + 1)) - (Int.tmod (IntKind.wrap .i64 x6) (IntKind.wrap .i64 ((Int.tmod (IntKind.wrap .i64 x2) 16) + 1)))))))) - (Int.tmod (IntKind.wrap .i64 x6) (IntKind.wrap .i64 ((Int.tmod (IntKind.wrap .i64 x2) 16) + 1))))) + 1), 0, 0, 0, IntKind.wrap .i64 ((Int.tmod (IntKind.wrap .i64 x6) (IntKind.wrap .i64 ((Int.tmod (IntKind.wrap .i64 x2) 16) + 1))) + (Int.tmod (IntKind.wrap .i64 x5) (IntKind.wrap .i64 ((IntKind.wrap .i64 ((Int.tmod (IntKind.wrap .i64 x2) 16) + 1)) - (Int.tmod (IntKind.wrap .i64 x6) (IntKind.wrap .i64 ((Int.tmod (IntKind.wrap .i64 x2) 16) + 1))))))), Int.tmod (IntKind.wrap .i64 x6) (IntKind.wrap .i64 ((Int.tmod (IntKind.wrap .i64 x2) 16) + 1)), bits .and .i64 (IntKind.wrap .i64 x3) r7.1, 0, 0, 0, ()))))
 (some (Ki_at ([1, 3, 4, 5, 6, 7, 8, 9, 10, 11, 12, 13, 14, 15, 16, 17, 18] : List Int) (Int.tmod (IntKind.wrap .i64 x1) 17), IntKind.wrap .i64 ((Int.tmod (IntKind.wrap .i64 x2) 16) + 1), 0, 0, 0, 0, 0, bits .and .i64 (IntKind.wrap .i64 x3) r7.1, bits .and .i64 (IntKind.wrap .i64 x4) r8.1, 0, IntKind.wrap .i64 ((Int.tmod (IntKind.wrap .i64 x2) 16) + 1), ()))))))))))))))))
def law08_Made_s : Sig := ⟨[.c true [.int .u8, .int .u8, .int .u32, .int .u32, .int .u32, .int .u8]], [], .t [(true, [.int .i64, .int .i64, .int .i64, .int .i64, .int .i64, .int .i64, .int .i64]), (false, [.int .i64]), (false, [.int .i64]), (false, [.int .i64]), (false, [.int .i64])], []⟩
def law08_Made_a : Ann := .s .d (.s .d (.s .d (.s .d (.s .d (.s .d (.s .d (.s (.s .d (.b (.s .d (.s .d (.s .d (.s .d (.j [59, 60, 61] [] [(.normal, ⟨[(59, .c false [.bool])], []⟩)] .d (.s .d (.j [67, 68, 69, 70, 71] [] [(.normal, ⟨[(67, .c false [.bool])], []⟩)] .d (.s .d (.s .d (.s .d (.s .d (.s (.s .d (.j [9, 13, 47, 97, 98, 99, 100, 101, 102, 103] [742] [(.normal, ⟨[(9, .c false [.con (.ptr 742 0)]), (13, .c false [.int .i64])], [(742, .var 36 [.int .i64, .int .i64, .int .i64, .int .i64, .int .i64, .int .i64, .int .i64])]⟩)] .d .d)) .d)))))))))))))) .d)))))))
noncomputable def law08_Made_c (n : Nat) : Ctr Try.prog := .of Try.func19 n [ref08_Mask_c n] law08_Made_a law08_Made_s (fun d => law08_Made n d.1 d.2.1 d.2.2.1 d.2.2.2.1 d.2.2.2.2.1 d.2.2.2.2.2.1) fun d => by kernel_rfl
noncomputable def law14_widths_j1 (n : Nat) (r7 : Int × Int × Int × Int × Int × Int × Int × Int × Int × Int × Int × Unit) : Option ((Bool × Unit)) :=
 cond (decide (r7.1 = 3))
 (some (decide (r7.1 = 3), ()))
 (cond (decide (r7.1 = 4))
 (some (decide (r7.1 = 4), ()))
 (cond (decide (r7.1 = 5))
 (some (decide (r7.1 = 5), ()))
 (some (decide (r7.1 = 18), ()))))
noncomputable def law14_widths (n : Nat) (x1 : Int) (x2 : Int) (x3 : Int) (x4 : Int) (x5 : Int) (x6 : Int) : Option (Int × Int × Int × Int × Int × Int × Int × Int × Int × Int × Unit) :=
 (law08_Made n x1 x2 x3 x4 x5 x6).bind (fun r7 => ask ((16 : Int) ≠ 0) (cond (decide (r7.1 = 1))
 (some (r7.1, r7.2.1, r7.2.2.1, r7.2.2.2.1, r7.2.2.2.2.1, r7.2.2.2.2.2.1, r7.2.2.2.2.2.2.1, 0, 0, 0, ()))
 ((law14_widths_j1 n r7).bind (fun d8 => cond d8.1
 (some (r7.1, r7.2.1, r7.2.2.1, r7.2.2.2.1, r7.2.2.2.2.1, r7.2.2.2.2.2.1, r7.2.2.2.2.2.2.1, IntKind.wrap .i64 ((Int.tmod (IntKind.wrap .i64 x2) 16) + 1), 0, 0, ()))
 (cond (decide (r7.1 = 16))
 (some (r7.1, r7.2.1, r7.2.2.1, r7.2.2.2.1, r7.2.2.2.2.1, r7.2.2.2.2.2.1, r7.2.2.2.2.2.2.1, 1, IntKind.wrap .i64 ((Int.tmod (IntKind.wrap .i64 x2) 16) + 1), IntKind.wrap .i64 ((Int.tmod (IntKind.wrap .i64 x2) 16) + 1), ()))
 (cond (decide (r7.1 = 17))
 (some (r7.1, r7.2.1, r7.2.2.1, r7.2.2.2.1, r7.2.2.2.2.1, r7.2.2.2.2.2.1, r7.2.2.2.2.2.2.1, IntKind.wrap .i64 (r7.2.1 - r7.2.2.2.2.2.2.2.2.2.2.1), r7.2.2.2.2.2.2.2.2.2.2.1, 0, ()))
 (some (r7.1, r7.2.1, r7.2.2.1, r7.2.2.2.1, r7.2.2.2.2.1, r7.2.2.2.2.2.1, r7.2.2.2.2.2.2.1, IntKind.wrap .i64 ((Int.tmod (IntKind.wrap .i64 x2) 16) + 1), IntKind.wrap .i64 ((Int.tmod (IntKind.wrap .i64 x2) 16) + 1), 0, ()))))))))
def law14_widths_s : Sig := ⟨[.c true [.int .u8, .int .u8, .int .u32, .int .u32, .int .u32, .int .u8]], [], .t [(true, [.int .i64, .int .i64, .int .i64, .int .i64, .int .i64, .int .i64, .int .i64]), (false, [.int .i64]), (false, [.int .i64]), (false, [.int .i64])], []⟩
def law14_widths_a : Ann := .s .d (.s .d (.s .d (.s (.s .d (.b (.s .d (.s .d (.j [30, 31, 32, 33, 34] [] [(.normal, ⟨[(30, .c false [.bool])], []⟩)] .d .d))))) .d)))
noncomputable def law14_widths_c (n : Nat) : Ctr Try.prog := .of Try.func12 n [law08_Made_c n] law14_widths_a law14_widths_s (fun d => law14_widths n d.1 d.2.1 d.2.2.1 d.2.2.2.1 d.2.2.2.2.1 d.2.2.2.2.2.1) fun d => by kernel_rfl
noncomputable def law14_Bits_j1 (n : Nat) (d6 : Int × List Int × Unit) (x1 : Int) (x2 : List Kii) (x3 : List Int) : Option ((Int × Unit)) :=
 cond (decide (d6.1 < (x3.length : Int)))
 (ask (0 ≤ d6.1 ∧ d6.1 < (x3.length : Int)) (ask ((IntKind.wrap .i64 ((2 : Int) * (IntKind.wrap .i64 ((IntKind.wrap .i64 (x1 + (x2.length : Int))) + 1)))) ≠ 0) (some (Int.tmod (IntKind.wrap .i64 (Kw_at x3 d6.1)) (IntKind.wrap .i64 ((2 : Int) * (IntKind.wrap .i64 ((IntKind.wrap .i64 (x1 + (x2.length : Int))) + 1)))), ()))))
 (some (0, ()))
noncomputable def law14_Bits_l2b (n : Nat) (x1 : Int) (x2 : List Kii) (x3 : List Int) (x4 : Int) (self : Int × List Int × Unit → Option ((List Int × Unit))) (d6 : Int × List Int × Unit) : Option ((List Int × Unit)) :=
 cond (decide (d6.1 < x4))
 ((law14_Bits_j1 n d6 x1 x2 x3).bind (fun d7 => ask (True ∧ (d6.2.1.length + (([d7.1] : List Int)).length) * 8 ≤ 140737488355328) (self (IntKind.wrap .i64 (d6.1 + 1), d6.2.1 ++ ([d7.1] : List Int), ()))))
 (some (d6.2.1, ()))
noncomputable def law14_Bits_l2 (n : Nat) (x1 : Int) (x2 : List Kii) (x3 : List Int) (x4 : Int) : Int × List Int × Unit → Option ((List Int × Unit)) := iter (law14_Bits_l2b n x1 x2 x3 x4) n
noncomputable def law14_Bits (n : Nat) (x1 : Int) (x2 : List Kii) (x3 : List Int) (x4 : Int) : Option (List Int × Unit) :=
 (law14_Bits_l2 n x1 x2 x3 x4 (0, ([] : List Int), ())).bind (fun d8 => some (d8.1, ()))
def law14_Bits_s : Sig := ⟨[.c true [.int .i64, .row Kii_], .c false [.row u16_], .c false [.int .i64]], [], .c false [.row i_], []⟩
def law14_Bits_a : Ann := .s .d (.s .d (.s (.s .d (.b (.l [7, 8, 9, 10, 11, 12, 13, 14, 15, 16, 17, 18, 19, 20, 21, 22, 23, 24, 25, 26, 27, 28, 29, 30, 31, 32, 33, 34, 35, 36] [] ⟨[(7, .c false [.con (.own 100000 1)]), (8, .c false [.int .i64])], [(100000, .row 3 i_)]⟩ [(.exit 0, ⟨[(7, .c false [.con (.own 100000 1)])], [(100000, .row 3 i_)]⟩)] (.s .d (.s (.b (.s .d (.j [9, 15, 16, 17, 18, 19, 20, 21, 22, 23, 24, 25, 26, 27, 28, 29, 30, 31, 32] [] [(.normal, ⟨[(9, .c false [.int .i64])], []⟩)] .d .d))) .d))))) .d))
noncomputable def law14_Bits_c (n : Nat) : Ctr Try.prog := .of Try.func14 n [] law14_Bits_a law14_Bits_s (fun d => law14_Bits n d.1 d.2.1 d.2.2.1 d.2.2.2.1) fun d => by kernel_rfl
noncomputable def ref14_Weight_j1 (n : Nat) (x1 : Int) : Option ((Bool × Unit)) :=
 cond (decide (x1 = 4))
 (some (decide (x1 = 4), ()))
 (cond (decide (x1 = 5))
 (some (decide (x1 = 5), ()))
 (cond (decide (x1 = 12))
 (some (decide (x1 = 12), ()))
 (cond (decide (x1 = 13))
 (some (decide (x1 = 13), ()))
 (cond (decide (x1 = 14))
 (some (decide (x1 = 14), ()))
 (some (decide (x1 = 15), ()))))))
noncomputable def ref14_Weight (n : Nat) (x1 : Int) (x2 : Int) (x3 : Int) (x4 : Int) (x5 : Int) (x6 : Int) (x7 : Int) : Option (Int × Unit) :=
 ((cond (decide (x1 = 1))
 (some (decide (x1 = 1), ()))
 (cond (decide (x1 = 21))
 (some (decide (x1 = 21), ()))
 (some (decide (x1 = 22), ())))) : Option ((Bool × Unit))).bind (fun d8 => cond d8.1
 (some (0, ()))
 (cond (decide (x1 = 11))
 (some (IntKind.wrap .i64 ((IntKind.wrap .i64 ((20 : Int) * x2)) * x2), ()))
 ((ref14_Weight_j1 n x1).bind (fun d9 => cond d9.1
 (some (IntKind.wrap .i64 ((20 : Int) * x7), ()))
 (some (IntKind.wrap .i64 ((20 : Int) * x2), ()))))))
def ref14_Weight_s : Sig := ⟨[.c true [.int .i64, .int .i64, .int .i64, .int .i64, .int .i64, .int .i64, .int .i64]], [], .c false [.int .i64], []⟩
def ref14_Weight_a : Ann := .s .d (.s (.s .d (.b (.j [5, 6, 7, 8] [] [(.normal, ⟨[(5, .c false [.bool])], []⟩)] .d (.s .d (.s .d (.s .d (.j [17, 18, 19, 20, 21, 22, 23] [] [(.normal, ⟨[(17, .c false [.bool])], []⟩)] .d .d))))))) .d)
noncomputable def ref14_Weight_c (n : Nat) : Ctr Try.prog := .of Try.func16 n [] ref14_Weight_a ref14_Weight_s (fun d => ref14_Weight n d.1 d.2.1 d.2.2.1 d.2.2.2.1 d.2.2.2.2.1 d.2.2.2.2.2.1 d.2.2.2.2.2.2.1) fun d => by kernel_rfl
noncomputable def ref13_Same_l1b (n : Nat) (x2 : List Kii) (x4 : List Kii) (self : Int × Unit → Option ((Bool × Unit) ⊕ (Unit))) (d6 : Int × Unit) : Option ((Bool × Unit) ⊕ (Unit)) :=
 cond (decide (d6.1 < (x2.length : Int)))
 (ask (0 ≤ d6.1 ∧ d6.1 < (x2.length : Int)) (ask (0 ≤ d6.1 ∧ d6.1 < (x4.length : Int)) (cond (!((((Kii_at x2 d6.1).1) == (Kii_at x4 d6.1).1) && (((Kii_at x2 d6.1).2) == (Kii_at x4 d6.1).2)))
 (some (.inl (false, ())))
 (self (IntKind.wrap .i64 (d6.1 + 1), ())))))
 (some (.inr ()))
noncomputable def ref13_Same_l1 (n : Nat) (x2 : List Kii) (x4 : List Kii) : Int × Unit → Option ((Bool × Unit) ⊕ (Unit)) := iter (ref13_Same_l1b n x2 x4) n
noncomputable def ref13_Same (n : Nat) (x1 : Int) (x2 : List Kii) (x3 : Int) (x4 : List Kii) : Option (Bool × Unit) :=
 cond (decide (x1 ≠ x3))
 (some (false, ()))
 (cond (decide ((x2.length : Int) ≠ (x4.length : Int)))
 (some (false, ()))
 ((ref13_Same_l1 n x2 x4 (0, ())).bind (Sum.elim (fun d7 => some (d7.1, ())) (fun d8 => some (true, ())))))
def ref13_Same_s : Sig := ⟨[.c true [.int .i64, .row Kii_], .c true [.int .i64, .row Kii_]], [], .c false [.bool], []⟩
def ref13_Same_a : Ann := .s .d (.s .d (.s (.s .d (.b (.l [4, 5, 20, 21, 22, 23, 24, 25, 26, 27, 28, 29, 30, 31, 32, 33, 34, 35, 36, 37] [] ⟨[(5, .c false [.int .i64])], []⟩ [(.ret, ⟨[(4, .c false [.bool])], []⟩), (.exit 0, ⟨[], []⟩)] .d))) .d))
noncomputable def ref13_Same_c (n : Nat) : Ctr Try.prog := .of Try.func18 n [] ref13_Same_a ref13_Same_s (fun d => ref13_Same n d.1 d.2.1 d.2.2.1 d.2.2.2.1) fun d => by kernel_rfl
noncomputable def law14_BlastStays (n : Nat) (x1 : Int) (x2 : List Kcwww) (x3 : Int) (x4 : Int) (x5 : Int) (x6 : Int) (x7 : Int) (x8 : Int) (x9 : List Int) (x10 : List Int) (x11 : List Int) : Option (Bool × Unit) :=
 (law14_head n).bind (fun r12 => (law13_Great n x2).bind (fun r13 => cond r13.1
 (some (r12.1, ()))
 ((law13_Made n x1 x2).bind (fun r14 => (law14_widths n x3 x4 x5 x6 x7 x8).bind (fun r15 => (law14_Bits n r14.1 r14.2.1 x9 r15.2.2.2.2.2.2.2.1).bind (fun r16 => (law14_Bits n r14.1 r14.2.1 x10 r15.2.2.2.2.2.2.2.2.1).bind (fun r17 => (law14_Bits n r14.1 r14.2.1 x11 r15.2.2.2.2.2.2.2.2.2.1).bind (fun r18 => (blast_Do n r14.1 r14.2.1 r15.1 r15.2.1 r15.2.2.1 r15.2.2.2.1 r15.2.2.2.2.1 r15.2.2.2.2.2.1 r15.2.2.2.2.2.2.1 r16.1 r17.1 r18.1).bind (fun r19 => (aig_Right n r19.1 r19.2.1).bind (fun r20 => cond (!r20.1)
 (some (false, ()))
 (cond (decide (r19.1 ≠ r14.1))
 (some (false, ()))
 (cond (decide ((r19.2.1.length : Int) < (r14.2.1.length : Int)))
 (some (false, ()))
 ((ref14_Weight n r15.1 r15.2.1 r15.2.2.1 r15.2.2.2.1 r15.2.2.2.2.1 r15.2.2.2.2.2.1 r15.2.2.2.2.2.2.1).bind (fun r21 => cond (decide ((IntKind.wrap .i64 ((r14.2.1.length : Int) + r21.1)) < (r19.2.1.length : Int)))
 (some (false, ()))
 ((law14_right n r19.1 r19.2.1 r19.2.2.1).bind (fun r22 => cond (!r22.1)
 (some (false, ()))
 (cond r12.1
 (ask (0 ≤ (r14.2.1.length : Int) ∧ (r14.2.1.length : Int) ≤ (r19.2.1.length : Int)) ((ref13_Same n r19.1 (r19.2.1.take (r14.2.1.length : Int).toNat) r14.1 r14.2.1).bind (fun r23 => some (r23.1, ()))))
 (some (false, ())))))))))))))))))))
def law14_BlastStays_s : Sig := ⟨[.c false [.int .u8], .c false [.row Kcwww_], .c true [.int .u8, .int .u8, .int .u32, .int .u32, .int .u32, .int .u8], .c false [.row u16_], .c false [.row u16_], .c false [.row u16_]], [], .c false [.bool], []⟩
def law14_BlastStays_a : Ann := .d
noncomputable def law14_BlastStays_c (n : Nat) : Ctr Try.prog := .of Try.func3 n [law14_head_c n, law13_Great_c n, law13_Made_c n, law14_widths_c n, law14_Bits_c n, blast_Do_c n, aig_Right_c n, ref14_Weight_c n, law14_right_c n, ref13_Same_c n] law14_BlastStays_a law14_BlastStays_s (fun d => law14_BlastStays n d.1 d.2.1 d.2.2.1 d.2.2.2.1 d.2.2.2.2.1 d.2.2.2.2.2.1 d.2.2.2.2.2.2.1 d.2.2.2.2.2.2.2.1 d.2.2.2.2.2.2.2.2.1 d.2.2.2.2.2.2.2.2.2.1 d.2.2.2.2.2.2.2.2.2.2.1) fun d => by kernel_rfl
noncomputable def blast_Do_o (n : Nat) (x1 : Int) (x2 : List Kii) (x3 : Int) (x4 : Int) (x5 : Int) (x6 : Int) (x7 : Int) (x8 : Int) (x9 : Int) (x10 : List Int) (x11 : List Int) (x12 : List Int) : Option (Int × List Kii × List Int × Unit) :=
 (blast_works n).bind (fun r13 => cond (decide (x3 = 1))
 ((blast_maker_doLit_o n ([(x1, x2, x3, x4, x5, x6, x7, x8, x9, x10, x11, x12)] : List KiLPiiEiiiiiiiLiLiLi) 0).bind (fun r14 => some (x1, x2, r14.1, ())))
 (cond (decide (x3 = 3))
 ((blast_maker_doInv_i2 n x1 x2 x3 x4 x5 x6 x7 x8 x9 x10 x11 x12).bind (fun r15 => some (r15.2.1, r15.2.2.1, r15.1, ())))
 (cond (decide (x3 = 4))
 ((blast_maker_doRedOr n x1 x2 x3 x4 x5 x6 x7 x8 x9 x10 x11 x12).bind (fun r16 => some (r16.2.1, r16.2.2.1, r16.1, ())))
 (cond (decide (x3 = 5))
 ((blast_maker_doRedAnd n x1 x2 x3 x4 x5 x6 x7 x8 x9 x10 x11 x12).bind (fun r17 => some (r17.2.1, r17.2.2.1, r17.1, ())))
 (cond (decide (x3 = 6))
 ((blast_maker_doAnd n x1 x2 x3 x4 x5 x6 x7 x8 x9 x10 x11 x12).bind (fun r18 => some (r18.2.1, r18.2.2.1, r18.1, ())))
 (cond (decide (x3 = 7))
 ((blast_maker_doOr n x1 x2 x3 x4 x5 x6 x7 x8 x9 x10 x11 x12).bind (fun r19 => some (r19.2.1, r19.2.2.1, r19.1, ())))
 (cond (decide (x3 = 8))
 ((blast_maker_doXor n x1 x2 x3 x4 x5 x6 x7 x8 x9 x10 x11 x12).bind (fun r20 => some (r20.2.1, r20.2.2.1, r20.1, ())))
 (cond (decide (x3 = 9))
 ((blast_maker_doAdd n x1 x2 x3 x4 x5 x6 x7 x8 x9 x10 x11 x12).bind (fun r21 => some (r21.2.1, r21.2.2.1, r21.1, ())))
 (cond (decide (x3 = 10))
 ((blast_maker_doSub n x1 x2 x3 x4 x5 x6 x7 x8 x9 x10 x11 x12).bind (fun r22 => some (r22.2.1, r22.2.2.1, r22.1, ())))
 (cond (decide (x3 = 11))
 ((blast_maker_doMul n x1 x2 x3 x4 x5 x6 x7 x8 x9 x10 x11 x12).bind (fun r23 => some (r23.2.1, r23.2.2.1, r23.1, ())))
 (cond (decide (x3 = 12))
 ((blast_maker_doEq n x1 x2 x3 x4 x5 x6 x7 x8 x9 x10 x11 x12).bind (fun r24 => some (r24.2.1, r24.2.2.1, r24.1, ())))
 (cond (decide (x3 = 13))
 ((blast_maker_doNe n x1 x2 x3 x4 x5 x6 x7 x8 x9 x10 x11 x12).bind (fun r25 => some (r25.2.1, r25.2.2.1, r25.1, ())))
 (cond (decide (x3 = 14))
 ((blast_maker_doLt n x1 x2 x3 x4 x5 x6 x7 x8 x9 x10 x11 x12).bind (fun r26 => some (r26.2.1, r26.2.2.1, r26.1, ())))
 (cond (decide (x3 = 15))
 ((blast_maker_doLe n x1 x2 x3 x4 x5 x6 x7 x8 x9 x10 x11 x12).bind (fun r27 => some (r27.2.1, r27.2.2.1, r27.1, ())))
 (cond (decide (x3 = 16))
 ((blast_maker_doMux n x1 x2 x3 x4 x5 x6 x7 x8 x9 x10 x11 x12).bind (fun r28 => some (r28.2.1, r28.2.2.1, r28.1, ())))
 (cond (decide (x3 = 17))
 ((blast_maker_doCat_o n ([(x1, x2, x3, x4, x5, x6, x7, x8, x9, x10, x11, x12)] : List KiLPiiEiiiiiiiLiLiLi) 0).bind (fun r29 => some (x1, x2, r29.1, ())))
 (cond (decide (x3 = 18))
 ((blast_maker_doSlice_i2 n x1 x2 x3 x4 x5 x6 x7 x8 x9 x10 x11 x12).bind (fun r30 => some (r30.2.1, r30.2.2.1, r30.1, ())))
 (some (x1, x2, ([] : List Int), ())))))))))))))))))))
def blast_Do_o_s : Sig := ⟨[.c true [.int .i64, .row Kii_], .c true [.int .i64, .int .i64, .int .i64, .int .i64, .int .i64, .int .i64, .int .i64], .c false [.row i_], .c false [.row i_], .c false [.row i_]], [], .t [(true, [.int .i64, .row Kii_]), (false, [.row i_])], []⟩
def blast_Do_o_a : Ann := .d
noncomputable def blast_Do_o_c (n : Nat) : Ctr Try.prog := .of Try.func13 n [blast_works_c n, blast_maker_doLit_o_c n, blast_maker_doInv_i2_c n, blast_maker_doRedOr_c n, blast_maker_doRedAnd_c n, blast_maker_doAnd_c n, blast_maker_doOr_c n, blast_maker_doXor_c n, blast_maker_doAdd_c n, blast_maker_doSub_c n, blast_maker_doMul_c n, blast_maker_doEq_c n, blast_maker_doNe_c n, blast_maker_doLt_c n, blast_maker_doLe_c n, blast_maker_doMux_c n, blast_maker_doCat_o_c n, blast_maker_doSlice_i2_c n] blast_Do_o_a blast_Do_o_s (fun d => blast_Do_o n d.1 d.2.1 d.2.2.1 d.2.2.2.1 d.2.2.2.2.1 d.2.2.2.2.2.1 d.2.2.2.2.2.2.1 d.2.2.2.2.2.2.2.1 d.2.2.2.2.2.2.2.2.1 d.2.2.2.2.2.2.2.2.2.1 d.2.2.2.2.2.2.2.2.2.2.1 d.2.2.2.2.2.2.2.2.2.2.2.1) fun d => by kernel_rfl
noncomputable def law13_Bits_l1b (n : Nat) (x1 : Int) (x3 : List Bool) (self : Int × List Bool × Unit → Option ((List Bool × Unit))) (d5 : Int × List Bool × Unit) : Option ((List Bool × Unit)) :=
 cond (decide (d5.1 < x1))
 (cond (decide (d5.1 < (x3.length : Int)))
 (ask (0 ≤ d5.1 ∧ d5.1 < (x3.length : Int)) (ask (True ∧ (d5.2.1.length + (([Kb_at x3 d5.1] : List Bool)).length) * 1 ≤ 140737488355328) (self (IntKind.wrap .i64 (d5.1 + 1), d5.2.1 ++ ([Kb_at x3 d5.1] : List Bool), ()))))
 (ask (True ∧ (d5.2.1.length + (([false] : List Bool)).length) * 1 ≤ 140737488355328) (self (IntKind.wrap .i64 (d5.1 + 1), d5.2.1 ++ ([false] : List Bool), ()))))
 (some (d5.2.1, ()))
noncomputable def law13_Bits_l1 (n : Nat) (x1 : Int) (x3 : List Bool) : Int × List Bool × Unit → Option ((List Bool × Unit)) := iter (law13_Bits_l1b n x1 x3) n
noncomputable def law13_Bits (n : Nat) (x1 : Int) (x2 : List Kii) (x3 : List Bool) : Option (List Bool × Unit) :=
 (law13_Bits_l1 n x1 x3 (0, ([] : List Bool), ())).bind (fun d6 => some (d6.1, ()))
def law13_Bits_s : Sig := ⟨[.c true [.int .i64, .row Kii_], .c false [.row b_]], [], .c false [.row b_], []⟩
def law13_Bits_a : Ann := .s .d (.s .d (.s (.s .d (.b (.l [5, 6, 7, 8, 9, 10, 11, 12, 13, 14, 15, 16, 17, 18, 19, 20, 21, 22, 23, 24, 25] [] ⟨[(5, .c false [.con (.own 100000 1)]), (6, .c false [.int .i64])], [(100000, .row 4 b_)]⟩ [(.exit 0, ⟨[(5, .c false [.con (.own 100000 1)])], [(100000, .row 4 b_)]⟩)] .d))) .d))
noncomputable def law13_Bits_c (n : Nat) : Ctr Try.prog := .of Try.func22 n [] law13_Bits_a law13_Bits_s (fun d => law13_Bits n d.1 d.2.1 d.2.2.1) fun d => by kernel_rfl
noncomputable def ref08_one (n : Nat) (x1 : Bool) : Option (Int × Unit) :=
 cond x1
 (some (1, ()))
 (some (0, ()))
def ref08_one_s : Sig := ⟨[.c false [.bool]], [], .c false [.int .i64], []⟩
def ref08_one_a : Ann := .d
noncomputable def ref08_one_c (n : Nat) : Ctr Try.prog := .of Try.func39 n [] ref08_one_a ref08_one_s (fun d => ref08_one n d.1) fun d => by kernel_rfl
noncomputable def ref08_more (n : Nat) (x1 : Int) (x2 : Int) (x3 : Int) (x4 : Int) (x5 : Int) (x6 : Int) (x7 : Int) (x8 : Int) (x9 : Int) (x10 : Int) (x11 : Int) : Option (Int × Unit) :=
 cond (decide (x1 = 12))
 ((ref08_one n (decide (x8 = x9))).bind (fun r12 => some (r12.1, ())))
 (cond (decide (x1 = 13))
 ((ref08_one n (decide (x8 ≠ x9))).bind (fun r13 => some (r13.1, ())))
 (cond (decide (x1 = 14))
 ((ref08_one n (decide (x8 < x9))).bind (fun r14 => some (r14.1, ())))
 (cond (decide (x1 = 15))
 ((ref08_one n (decide (x8 ≤ x9))).bind (fun r15 => some (r15.1, ())))
 (cond (decide (x1 = 16))
 (cond (decide (x8 = 1))
 (some (x9, ()))
 (some (x10, ())))
 (cond (decide (x1 = 17))
 (ask (0 ≤ x11) (some (IntKind.wrap .i64 ((shlI .i64 x8 x11) + x9), ())))
 (cond (decide (x1 = 18))
 (ask (0 ≤ x7) ((ref08_Mask n (IntKind.wrap .i64 ((IntKind.wrap .i64 (x6 - x7)) + 1))).bind (fun r16 => some (bits .and .i64 (shrI .i64 x8 x7) r16.1, ()))))
 (some (0, ()))))))))
def ref08_more_s : Sig := ⟨[.c true [.int .i64, .int .i64, .int .i64, .int .i64, .int .i64, .int .i64, .int .i64], .c false [.int .i64], .c false [.int .i64], .c false [.int .i64], .c false [.int .i64]], [], .c false [.int .i64], []⟩
def ref08_more_a : Ann := .d
noncomputable def ref08_more_c (n : Nat) : Ctr Try.prog := .of Try.func40 n [ref08_one_c n, ref08_Mask_c n] ref08_more_a ref08_more_s (fun d => ref08_more n d.1 d.2.1 d.2.2.1 d.2.2.2.1 d.2.2.2.2.1 d.2.2.2.2.2.1 d.2.2.2.2.2.2.1 d.2.2.2.2.2.2.2.1 d.2.2.2.2.2.2.2.2.1 d.2.2.2.2.2.2.2.2.2.1 d.2.2.2.2.2.2.2.2.2.2.1) fun d => by kernel_rfl
noncomputable def ref08_Do (n : Nat) (x1 : Int) (x2 : Int) (x3 : Int) (x4 : Int) (x5 : Int) (x6 : Int) (x7 : Int) (x8 : Int) (x9 : Int) (x10 : Int) (x11 : Int) : Option (Int × Unit) :=
 cond (decide (x1 = 1))
 (some (x6, ()))
 (cond (decide (x1 = 3))
 ((ref08_Mask n x2).bind (fun r12 => some (IntKind.wrap .i64 (r12.1 - x8), ())))
 (cond (decide (x1 = 4))
 ((ref08_one n (decide (x8 ≠ 0))).bind (fun r13 => some (r13.1, ())))
 (cond (decide (x1 = 5))
 ((ref08_Mask n x7).bind (fun r14 => (ref08_one n (decide (x8 = r14.1))).bind (fun r15 => some (r15.1, ()))))
 (cond (decide (x1 = 6))
 (some (bits .and .i64 x8 x9, ()))
 (cond (decide (x1 = 7))
 (some (bits .or .i64 x8 x9, ()))
 (cond (decide (x1 = 8))
 (some (bits .xor .i64 x8 x9, ()))
 (cond (decide (x1 = 9))
 ((ref08_Mask n x2).bind (fun r16 => some (bits .and .i64 (IntKind.wrap .i64 (x8 + x9)) r16.1, ())))
 (cond (decide (x1 = 10))
 ((ref08_Mask n x2).bind (fun r17 => some (bits .and .i64 (IntKind.wrap .i64 (x8 - x9)) r17.1, ())))
 (cond (decide (x1 = 11))
 ((ref08_Mask n x2).bind (fun r18 => some (bits .and .i64 (IntKind.wrap .i64 (x8 * x9)) r18.1, ())))
 ((ref08_more n x1 x2 x3 x4 x5 x6 x7 x8 x9 x10 x11).bind (fun r19 => some (r19.1, ()))))))))))))
def ref08_Do_s : Sig := ⟨[.c true [.int .i64, .int .i64, .int .i64, .int .i64, .int .i64, .int .i64, .int .i64], .c false [.int .i64], .c false [.int .i64], .c false [.int .i64], .c false [.int .i64]], [], .c false [.int .i64], []⟩
def ref08_Do_a : Ann := .d
noncomputable def ref08_Do_c (n : Nat) : Ctr Try.prog := .of Try.func24 n [ref08_Mask_c n, ref08_one_c n, ref08_more_c n] ref08_Do_a ref08_Do_s (fun d => ref08_Do n d.1 d.2.1 d.2.2.1 d.2.2.2.1 d.2.2.2.2.1 d.2.2.2.2.2.1 d.2.2.2.2.2.2.1 d.2.2.2.2.2.2.2.1 d.2.2.2.2.2.2.2.2.1 d.2.2.2.2.2.2.2.2.2.1 d.2.2.2.2.2.2.2.2.2.2.1) fun d => by kernel_rfl
noncomputable def law14_BlastConst_l1b (n : Nat) (r9 : Int × Int × Int × Int × Int × Int × Int × Int × Int × Int × Int × Unit) (r10 : Int × Int × Int × Int × Int × Int × Int × Int × Int × Int × Unit) (self : Int × List Int × Unit → Option ((List Int × Unit))) (d13 : Int × List Int × Unit) : Option ((List Int × Unit)) :=
 cond (decide (d13.1 < r10.2.2.2.2.2.2.2.1))
 (ask (0 ≤ d13.1) (ask (True ∧ (d13.2.1.length + (([bits .and .i64 (shrI .i64 r9.2.2.2.2.2.2.2.1 d13.1) 1] : List Int)).length) * 8 ≤ 140737488355328) (self (IntKind.wrap .i64 (d13.1 + 1), d13.2.1 ++ ([bits .and .i64 (shrI .i64 r9.2.2.2.2.2.2.2.1 d13.1) 1] : List Int), ()))))
 (some (d13.2.1, ()))
noncomputable def law14_BlastConst_l1 (n : Nat) (r9 : Int × Int × Int × Int × Int × Int × Int × Int × Int × Int × Int × Unit) (r10 : Int × Int × Int × Int × Int × Int × Int × Int × Int × Int × Unit) : Int × List Int × Unit → Option ((List Int × Unit)) := iter (law14_BlastConst_l1b n r9 r10) n
noncomputable def law14_BlastConst_l2b (n : Nat) (r9 : Int × Int × Int × Int × Int × Int × Int × Int × Int × Int × Int × Unit) (r10 : Int × Int × Int × Int × Int × Int × Int × Int × Int × Int × Unit) (self : Int × List Int × Unit → Option ((List Int × Unit))) (d16 : Int × List Int × Unit) : Option ((List Int × Unit)) :=
 cond (decide (d16.1 < r10.2.2.2.2.2.2.2.2.1))
 (ask (0 ≤ d16.1) (ask (True ∧ (d16.2.1.length + (([bits .and .i64 (shrI .i64 r9.2.2.2.2.2.2.2.2.1 d16.1) 1] : List Int)).length) * 8 ≤ 140737488355328) (self (IntKind.wrap .i64 (d16.1 + 1), d16.2.1 ++ ([bits .and .i64 (shrI .i64 r9.2.2.2.2.2.2.2.2.1 d16.1) 1] : List Int), ()))))
 (some (d16.2.1, ()))
noncomputable def law14_BlastConst_l2 (n : Nat) (r9 : Int × Int × Int × Int × Int × Int × Int × Int × Int × Int × Int × Unit) (r10 : Int × Int × Int × Int × Int × Int × Int × Int × Int × Int × Unit) : Int × List Int × Unit → Option ((List Int × Unit)) := iter (law14_BlastConst_l2b n r9 r10) n
noncomputable def law14_BlastConst_l3b (n : Nat) (r9 : Int × Int × Int × Int × Int × Int × Int × Int × Int × Int × Int × Unit) (r10 : Int × Int × Int × Int × Int × Int × Int × Int × Int × Int × Unit) (self : Int × List Int × Unit → Option ((List Int × Unit))) (d19 : Int × List Int × Unit) : Option ((List Int × Unit)) :=
 cond (decide (d19.1 < r10.2.2.2.2.2.2.2.2.2.1))
 (ask (0 ≤ d19.1) (ask (True ∧ (d19.2.1.length + (([bits .and .i64 (shrI .i64 r9.2.2.2.2.2.2.2.2.2.1 d19.1) 1] : List Int)).length) * 8 ≤ 140737488355328) (self (IntKind.wrap .i64 (d19.1 + 1), d19.2.1 ++ ([bits .and .i64 (shrI .i64 r9.2.2.2.2.2.2.2.2.2.1 d19.1) 1] : List Int), ()))))
 (some (d19.2.1, ()))
noncomputable def law14_BlastConst_l3 (n : Nat) (r9 : Int × Int × Int × Int × Int × Int × Int × Int × Int × Int × Int × Unit) (r10 : Int × Int × Int × Int × Int × Int × Int × Int × Int × Int × Unit) : Int × List Int × Unit → Option ((List Int × Unit)) := iter (law14_BlastConst_l3b n r9 r10) n
noncomputable def law14_BlastConst (n : Nat) (x1 : Int) (x2 : Int) (x3 : Int) (x4 : Int) (x5 : Int) (x6 : Int) (x7 : List Bool) : Option (Bool × Unit) :=
 (law14_head n).bind (fun r8 => (law08_Made n x1 x2 x3 x4 x5 x6).bind (fun r9 => (law14_widths n x1 x2 x3 x4 x5 x6).bind (fun r10 => (aig_New n 3).bind (fun r11 => (law14_BlastConst_l1 n r9 r10 (0, ([] : List Int), ())).bind (fun d14 => (law14_BlastConst_l2 n r9 r10 (0, ([] : List Int), ())).bind (fun d17 => (law14_BlastConst_l3 n r9 r10 (0, ([] : List Int), ())).bind (fun d20 => (blast_Do_o n r11.1 ([] : List Kii) r9.1 r9.2.1 r9.2.2.1 r9.2.2.2.1 r9.2.2.2.2.1 r9.2.2.2.2.2.1 r9.2.2.2.2.2.2.1 d14.1 d17.1 d20.1).bind (fun r21 => (aig_Right n r21.1 r21.2.1).bind (fun r22 => cond (!r22.1)
 (some (false, ()))
 (cond (decide (r21.1 ≠ 3))
 (some (false, ()))
 (cond (decide ((r21.2.2.1.length : Int) ≠ r9.2.1))
 (some (false, ()))
 ((law14_right n r21.1 r21.2.1 r21.2.2.1).bind (fun r23 => cond (!r23.1)
 (some (false, ()))
 ((law13_Bits n r11.1 ([] : List Kii) x7).bind (fun r24 => (aig_Eval n r21.1 r21.2.1 r24.1).bind (fun r25 => cond (decide ((r25.1.length : Int) ≠ (IntKind.wrap .i64 ((4 : Int) + (r21.2.1.length : Int)))))
 (some (false, ()))
 (cond r8.1
 ((law14_num n r25.1 r21.2.2.1).bind (fun r26 => (ref08_Do n r9.1 r9.2.1 r9.2.2.1 r9.2.2.2.1 r9.2.2.2.2.1 r9.2.2.2.2.2.1 r9.2.2.2.2.2.2.1 r9.2.2.2.2.2.2.2.1 r9.2.2.2.2.2.2.2.2.1 r9.2.2.2.2.2.2.2.2.2.1 r9.2.2.2.2.2.2.2.2.2.2.1).bind (fun r27 => some (decide (r26.1 = r27.1), ()))))
 (some (false, ())))))))))))))))))))
def law14_BlastConst_s : Sig := ⟨[.c true [.int .u8, .int .u8, .int .u32, .int .u32, .int .u32, .int .u8], .c false [.row b_]], [], .c false [.bool], []⟩
def law14_BlastConst_a : Ann := .s .d (.s .d (.s .d (.s .d (.s .d (.s .d (.s .d (.s .d (.s (.s .d (.b (.l [16, 19, 42, 43, 44, 45, 46, 47, 48, 49, 50, 51, 52, 53] [] ⟨[(16, .c false [.con (.own 100000 1)]), (19, .c false [.int .i64])], [(100000, .row 3 i_)]⟩ [(.exit 0, ⟨[(16, .c false [.con (.own 100000 1)])], [(100000, .row 3 i_)]⟩)] .d))) (.s (.s .d (.b (.l [17, 20, 54, 55, 56, 57, 58, 59, 60, 61, 62, 63, 64, 65] [] ⟨[(17, .c false [.con (.own 200000 1)]), (20, .c false [.int .i64])], [(200000, .row 3 i_)]⟩ [(.exit 2, ⟨[(17, .c false [.con (.own 200000 1)])], [(200000, .row 3 i_)]⟩)] .d))) (.s (.s .d (.b (.l [18, 21, 66, 67, 68, 69, 70, 71, 72, 73, 74, 75, 76, 77] [] ⟨[(18, .c false [.con (.own 300000 1)]), (21, .c false [.int .i64])], [(300000, .row 3 i_)]⟩ [(.exit 4, ⟨[(18, .c false [.con (.own 300000 1)])], [(300000, .row 3 i_)]⟩)] .d))) (.s (.z [100000, 200000, 300000]) .d)))))))))))
noncomputable def law14_BlastConst_c (n : Nat) : Ctr Try.prog := .of Try.func4 n [law14_head_c n, law08_Made_c n, law14_widths_c n, aig_New_c n, blast_Do_o_c n, aig_Right_c n, law14_right_c n, law13_Bits_c n, aig_Eval_c n, law14_num_c n, ref08_Do_c n] law14_BlastConst_a law14_BlastConst_s (fun d => law14_BlastConst n d.1 d.2.1 d.2.2.1 d.2.2.2.1 d.2.2.2.2.1 d.2.2.2.2.2.1 d.2.2.2.2.2.2.1) fun d => by kernel_rfl
noncomputable def law14_BlastRow (n : Nat) (x1 : Int) (x2 : Int) (x3 : List Int) (x4 : List Kcwww) (x5 : List Bool) : Option (Bool × Unit) :=
 (law14_head n).bind (fun r6 => (law13_Great n x4).bind (fun r7 => cond r7.1
 (some (r6.1, ()))
 (ask ((16 : Int) ≠ 0) ((law13_Made n 4 x4).bind (fun r8 => (law14_Bits n r8.1 r8.2.1 x3 (IntKind.wrap .i64 ((Int.tmod (IntKind.wrap .i64 x1) 16) + 1))).bind (fun r9 => ask ((6 : Int) ≠ 0) (ask (0 ≤ (Int.tmod (IntKind.wrap .i64 x2) 6) ∧ Int.tmod (IntKind.wrap .i64 x2) 6 < ((([6, 7, 8, 9, 10, 11] : List Int)).length : Int)) ((blast_Do n r8.1 r8.2.1 (Ki_at ([6, 7, 8, 9, 10, 11] : List Int) (Int.tmod (IntKind.wrap .i64 x2) 6)) (IntKind.wrap .i64 ((Int.tmod (IntKind.wrap .i64 x1) 16) + 1)) 0 0 0 0 0 r9.1 r9.1 ([] : List Int)).bind (fun r10 => (aig_Right n r10.1 r10.2.1).bind (fun r11 => cond (!r11.1)
 (some (false, ()))
 (cond (decide (r10.1 ≠ r8.1))
 (some (false, ()))
 (cond (decide ((r10.2.2.1.length : Int) ≠ (IntKind.wrap .i64 ((Int.tmod (IntKind.wrap .i64 x1) 16) + 1))))
 (some (false, ()))
 ((law14_right n r10.1 r10.2.1 r10.2.2.1).bind (fun r12 => cond (!r12.1)
 (some (false, ()))
 ((blast_Do n r10.1 r10.2.1 3 (IntKind.wrap .i64 ((Int.tmod (IntKind.wrap .i64 x1) 16) + 1)) 0 0 0 0 0 r10.2.2.1 ([] : List Int) ([] : List Int)).bind (fun r13 => (aig_Right n r13.1 r13.2.1).bind (fun r14 => cond (!r14.1)
 (some (false, ()))
 (cond (decide (r13.1 ≠ r8.1))
 (some (false, ()))
 (cond (decide ((r13.2.1.length : Int) < (r10.2.1.length : Int)))
 (some (false, ()))
 (cond (decide ((r13.2.2.1.length : Int) ≠ (IntKind.wrap .i64 ((Int.tmod (IntKind.wrap .i64 x1) 16) + 1))))
 (some (false, ()))
 ((law14_right n r13.1 r13.2.1 r13.2.2.1).bind (fun r15 => cond (!r15.1)
 (some (false, ()))
 ((law13_Bits n r8.1 r8.2.1 x5).bind (fun r16 => (aig_Eval n r13.1 r13.2.1 r16.1).bind (fun r17 => cond (decide ((r17.1.length : Int) ≠ (IntKind.wrap .i64 ((IntKind.wrap .i64 ((1 : Int) + r13.1)) + (r13.2.1.length : Int)))))
 (some (false, ()))
 ((law14_num n r17.1 r9.1).bind (fun r18 => cond r6.1
 ((law14_num n r17.1 r10.2.2.1).bind (fun r19 => (ref08_Do n (Ki_at ([6, 7, 8, 9, 10, 11] : List Int) (Int.tmod (IntKind.wrap .i64 x2) 6)) (IntKind.wrap .i64 ((Int.tmod (IntKind.wrap .i64 x1) 16) + 1)) 0 0 0 0 0 r18.1 r18.1 0 (IntKind.wrap .i64 ((Int.tmod (IntKind.wrap .i64 x1) 16) + 1))).bind (fun r20 => cond (decide (r19.1 = r20.1))
 ((law14_num n r17.1 r13.2.2.1).bind (fun r21 => (ref08_Mask n (IntKind.wrap .i64 ((Int.tmod (IntKind.wrap .i64 x1) 16) + 1))).bind (fun r22 => (law14_num n r17.1 r10.2.2.1).bind (fun r23 => some (decide (r21.1 = (IntKind.wrap .i64 (r22.1 - r23.1))), ())))))
 (some (false, ())))))
 (some (false, ())))))))))))))))))))))))))))))
def law14_BlastRow_s : Sig := ⟨[.c false [.int .u8], .c false [.int .u8], .c false [.row u16_], .c false [.row Kcwww_], .c false [.row b_]], [], .c false [.bool], []⟩
def law14_BlastRow_a : Ann := .d
noncomputable def law14_BlastRow_c (n : Nat) : Ctr Try.prog := .of Try.func5 n [law14_head_c n, law13_Great_c n, law13_Made_c n, law14_Bits_c n, blast_Do_c n, aig_Right_c n, law14_right_c n, law13_Bits_c n, aig_Eval_c n, law14_num_c n, ref08_Do_c n, ref08_Mask_c n] law14_BlastRow_a law14_BlastRow_s (fun d => law14_BlastRow n d.1 d.2.1 d.2.2.1 d.2.2.2.1 d.2.2.2.2.1) fun d => by kernel_rfl
noncomputable def law14_BlastParts (n : Nat) (x1 : Int) (x2 : List Kcwww) (x3 : List Int) (x4 : Int) (x5 : Int) (x6 : List Bool) : Option (Bool × Unit) :=
 (law14_head n).bind (fun r7 => (law13_Great n x2).bind (fun r8 => cond r8.1
 (some (r7.1, ()))
 ((law13_Made n x1 x2).bind (fun r9 => ask ((15 : Int) ≠ 0) (ask ((IntKind.wrap .i64 ((IntKind.wrap .i64 ((Int.tmod (IntKind.wrap .i64 x4) 15) + 2)) - 1)) ≠ 0) ((law14_Bits n r9.1 r9.2.1 x3 (IntKind.wrap .i64 ((Int.tmod (IntKind.wrap .i64 x4) 15) + 2))).bind (fun r10 => (blast_Do n r9.1 r9.2.1 18 (IntKind.wrap .i64 ((IntKind.wrap .i64 ((Int.tmod (IntKind.wrap .i64 x4) 15) + 2)) - (IntKind.wrap .i64 ((Int.tmod (IntKind.wrap .i64 x5) (IntKind.wrap .i64 ((IntKind.wrap .i64 ((Int.tmod (IntKind.wrap .i64 x4) 15) + 2)) - 1))) + 1)))) 0 0 0 (IntKind.wrap .i64 ((IntKind.wrap .i64 ((Int.tmod (IntKind.wrap .i64 x4) 15) + 2)) - 1)) (IntKind.wrap .i64 ((Int.tmod (IntKind.wrap .i64 x5) (IntKind.wrap .i64 ((IntKind.wrap .i64 ((Int.tmod (IntKind.wrap .i64 x4) 15) + 2)) - 1))) + 1)) r10.1 ([] : List Int) ([] : List Int)).bind (fun r11 => (aig_Right n r11.1 r11.2.1).bind (fun r12 => cond (!r12.1)
 (some (false, ()))
 (cond (decide (r11.1 ≠ r9.1))
 (some (false, ()))
 (cond (decide ((r11.2.2.1.length : Int) ≠ (IntKind.wrap .i64 ((IntKind.wrap .i64 ((Int.tmod (IntKind.wrap .i64 x4) 15) + 2)) - (IntKind.wrap .i64 ((Int.tmod (IntKind.wrap .i64 x5) (IntKind.wrap .i64 ((IntKind.wrap .i64 ((Int.tmod (IntKind.wrap .i64 x4) 15) + 2)) - 1))) + 1))))))
 (some (false, ()))
 ((law14_right n r11.1 r11.2.1 r11.2.2.1).bind (fun r13 => cond (!r13.1)
 (some (false, ()))
 ((blast_Do n r11.1 r11.2.1 18 (IntKind.wrap .i64 ((Int.tmod (IntKind.wrap .i64 x5) (IntKind.wrap .i64 ((IntKind.wrap .i64 ((Int.tmod (IntKind.wrap .i64 x4) 15) + 2)) - 1))) + 1)) 0 0 0 (IntKind.wrap .i64 ((IntKind.wrap .i64 ((Int.tmod (IntKind.wrap .i64 x5) (IntKind.wrap .i64 ((IntKind.wrap .i64 ((Int.tmod (IntKind.wrap .i64 x4) 15) + 2)) - 1))) + 1)) - 1)) 0 r10.1 ([] : List Int) ([] : List Int)).bind (fun r14 => (aig_Right n r14.1 r14.2.1).bind (fun r15 => cond (!r15.1)
 (some (false, ()))
 (cond (decide (r14.1 ≠ r9.1))
 (some (false, ()))
 (cond (decide ((r14.2.2.1.length : Int) ≠ (IntKind.wrap .i64 ((Int.tmod (IntKind.wrap .i64 x5) (IntKind.wrap .i64 ((IntKind.wrap .i64 ((Int.tmod (IntKind.wrap .i64 x4) 15) + 2)) - 1))) + 1))))
 (some (false, ()))
 ((law14_right n r14.1 r14.2.1 r14.2.2.1).bind (fun r16 => cond (!r16.1)
 (some (false, ()))
 ((blast_Do n r14.1 r14.2.1 17 (IntKind.wrap .i64 ((Int.tmod (IntKind.wrap .i64 x4) 15) + 2)) 0 0 0 0 0 r11.2.2.1 r14.2.2.1 ([] : List Int)).bind (fun r17 => (aig_Right n r17.1 r17.2.1).bind (fun r18 => cond (!r18.1)
 (some (false, ()))
 (cond (decide (r17.1 ≠ r9.1))
 (some (false, ()))
 (cond (decide ((r17.2.1.length : Int) < (r9.2.1.length : Int)))
 (some (false, ()))
 (cond (decide ((r17.2.2.1.length : Int) ≠ (IntKind.wrap .i64 ((Int.tmod (IntKind.wrap .i64 x4) 15) + 2))))
 (some (false, ()))
 ((law14_right n r17.1 r17.2.1 r17.2.2.1).bind (fun r19 => cond (!r19.1)
 (some (false, ()))
 ((law13_Bits n r9.1 r9.2.1 x6).bind (fun r20 => (aig_Eval n r17.1 r17.2.1 r20.1).bind (fun r21 => cond (decide ((r21.1.length : Int) ≠ (IntKind.wrap .i64 ((IntKind.wrap .i64 ((1 : Int) + r17.1)) + (r17.2.1.length : Int)))))
 (some (false, ()))
 (cond r7.1
 ((law14_num n r21.1 r17.2.2.1).bind (fun r22 => (law14_num n r21.1 r10.1).bind (fun r23 => some (decide (r22.1 = r23.1), ()))))
 (some (false, ()))))))))))))))))))))))))))))))))))
def law14_BlastParts_s : Sig := ⟨[.c false [.int .u8], .c false [.row Kcwww_], .c false [.row u16_], .c false [.int .u8], .c false [.int .u8], .c false [.row b_]], [], .c false [.bool], []⟩
def law14_BlastParts_a : Ann := .d
noncomputable def law14_BlastParts_c (n : Nat) : Ctr Try.prog := .of Try.func6 n [law14_head_c n, law13_Great_c n, law13_Made_c n, law14_Bits_c n, blast_Do_c n, aig_Right_c n, law14_right_c n, law13_Bits_c n, aig_Eval_c n, law14_num_c n] law14_BlastParts_a law14_BlastParts_s (fun d => law14_BlastParts n d.1 d.2.1 d.2.2.1 d.2.2.2.1 d.2.2.2.2.1 d.2.2.2.2.2.1) fun d => by kernel_rfl
noncomputable def law14_BlastOrder_l1b (n : Nat) (r10 : List Int × Unit) (r11 : List Int × Unit) (x5 : Int) (self : Int × Int × List Kii × List Int × Unit → Option ((Bool × Unit) ⊕ (Int × List Kii × List Int × Unit))) (d15 : Int × Int × List Kii × List Int × Unit) : Option ((Bool × Unit) ⊕ (Int × List Kii × List Int × Unit)) :=
 cond (decide (d15.1 < ((([14, 12, 15, 13, 14] : List Int)).length : Int)))
 (((cond (decide (d15.1 = 4))
 (some (r11.1, r10.1, ()))
 (some (r10.1, r11.1, ()))) : Option ((List Int × List Int × Unit))).bind (fun d16 => ask (0 ≤ d15.1 ∧ d15.1 < ((([14, 12, 15, 13, 14] : List Int)).length : Int)) ((blast_Do n d15.2.1 d15.2.2.1 (Ki_at ([14, 12, 15, 13, 14] : List Int) d15.1) 1 0 0 0 0 (IntKind.wrap .i64 ((Int.tmod (IntKind.wrap .i64 x5) 16) + 1)) d16.1 d16.2.1 ([] : List Int)).bind (fun r17 => (aig_Right n r17.1 r17.2.1).bind (fun r18 => cond (!r18.1)
 (some (.inl (false, ())))
 (cond (decide (r17.1 ≠ d15.2.1))
 (some (.inl (false, ())))
 (cond (decide ((r17.2.1.length : Int) < (d15.2.2.1.length : Int)))
 (some (.inl (false, ())))
 (cond (decide ((r17.2.2.1.length : Int) ≠ 1))
 (some (.inl (false, ())))
 ((law14_right n r17.1 r17.2.1 r17.2.2.1).bind (fun r19 => cond (!r19.1)
 (some (.inl (false, ())))
 (ask (0 ≤ (0 : Int) ∧ 0 < (r17.2.2.1.length : Int)) (ask (True ∧ (d15.2.2.2.1.length + (([Ki_at r17.2.2.1 0] : List Int)).length) * 8 ≤ 140737488355328) (self (IntKind.wrap .i64 (d15.1 + 1), r17.1, r17.2.1, d15.2.2.2.1 ++ ([Ki_at r17.2.2.1 0] : List Int), ()))))))))))))))
 (some (.inr (d15.2.1, d15.2.2.1, d15.2.2.2.1, ())))
noncomputable def law14_BlastOrder_l1 (n : Nat) (r10 : List Int × Unit) (r11 : List Int × Unit) (x5 : Int) : Int × Int × List Kii × List Int × Unit → Option ((Bool × Unit) ⊕ (Int × List Kii × List Int × Unit)) := iter (law14_BlastOrder_l1b n r10 r11 x5) n
noncomputable def law14_BlastOrder (n : Nat) (x1 : Int) (x2 : List Kcwww) (x3 : List Int) (x4 : List Int) (x5 : Int) (x6 : List Bool) : Option (Bool × Unit) :=
 (law14_head n).bind (fun r7 => (law13_Great n x2).bind (fun r8 => cond r8.1
 (some (r7.1, ()))
 ((law13_Made n x1 x2).bind (fun r9 => ask ((16 : Int) ≠ 0) ((law14_Bits n r9.1 r9.2.1 x3 (IntKind.wrap .i64 ((Int.tmod (IntKind.wrap .i64 x5) 16) + 1))).bind (fun r10 => (law14_Bits n r9.1 r9.2.1 x4 (IntKind.wrap .i64 ((Int.tmod (IntKind.wrap .i64 x5) 16) + 1))).bind (fun r11 => (law14_BlastOrder_l1 n r10 r11 x5 (0, r9.1, r9.2.1, ([] : List Int), ())).bind (Sum.elim (fun d20 => some (d20.1, ())) (fun d21 => (law13_Bits n d21.1 d21.2.1 x6).bind (fun r22 => (aig_Eval n d21.1 d21.2.1 r22.1).bind (fun r23 => cond (decide ((r23.1.length : Int) ≠ (IntKind.wrap .i64 ((IntKind.wrap .i64 ((1 : Int) + d21.1)) + (d21.2.1.length : Int)))))
 (some (false, ()))
 (ask (0 ≤ (1 : Int) ∧ 1 ≤ (d21.2.2.1.length : Int)) ((law14_num n r23.1 ((d21.2.2.1.drop 0).take ((1 : Int).toNat))).bind (fun r24 => ask (0 ≤ (1 : Int) ∧ (1 : Int) ≤ 2 ∧ 2 ≤ (d21.2.2.1.length : Int)) ((law14_num n r23.1 ((d21.2.2.1.drop ((1 : Int).toNat)).take ((2 : Int).toNat - (1 : Int).toNat))).bind (fun r25 => cond r7.1
 (ask (0 ≤ (4 : Int) ∧ (4 : Int) ≤ 5 ∧ 5 ≤ (d21.2.2.1.length : Int)) ((law14_num n r23.1 ((d21.2.2.1.drop ((4 : Int).toNat)).take ((5 : Int).toNat - (4 : Int).toNat))).bind (fun r26 => cond (decide ((IntKind.wrap .i64 ((IntKind.wrap .i64 (r24.1 + r25.1)) + r26.1)) = 1))
 (ask (0 ≤ (2 : Int) ∧ (2 : Int) ≤ 3 ∧ 3 ≤ (d21.2.2.1.length : Int)) ((law14_num n r23.1 ((d21.2.2.1.drop ((2 : Int).toNat)).take ((3 : Int).toNat - (2 : Int).toNat))).bind (fun r27 => cond (decide (r27.1 = (IntKind.wrap .i64 (r24.1 + r25.1))))
 (ask (0 ≤ (3 : Int) ∧ (3 : Int) ≤ 4 ∧ 4 ≤ (d21.2.2.1.length : Int)) ((law14_num n r23.1 ((d21.2.2.1.drop ((3 : Int).toNat)).take ((4 : Int).toNat - (3 : Int).toNat))).bind (fun r28 => some (decide (r28.1 = (IntKind.wrap .i64 ((1 : Int) - r25.1))), ()))))
 (some (false, ())))))
 (some (false, ())))))
 (some (false, ()))))))))))))))))))
def law14_BlastOrder_s : Sig := ⟨[.c false [.int .u8], .c false [.row Kcwww_], .c false [.row u16_], .c false [.row u16_], .c false [.int .u8], .c false [.row b_]], [], .c false [.bool], []⟩
def law14_BlastOrder_a : Ann := .s .d (.s .d (.s .d (.s .d (.s .d (.s .d (.s .d (.s .d (.s .d (.s (.s .d (.b (.l [12, 14, 20, 21, 22, 23, 24, 25, 52, 53, 54, 55, 56, 57, 58, 59, 60, 61, 62, 63, 64, 65, 66, 67, 68, 69, 70, 71, 72, 73, 74, 75, 76, 77, 78, 79, 80, 81, 82, 83, 84, 85, 86, 87, 88, 89, 90, 91, 92, 93, 94, 95, 96, 97, 98, 99, 100, 101, 102, 103, 104, 105, 106, 107, 108, 109, 110, 111, 112, 113] [484] ⟨[(14, .c false [.con (.ptr 484 0)]), (20, .c false [.con (.own 100000 1)]), (21, .c false [.int .i64])], [(484, .var 31 [.int .i64, .row Kii_]), (100000, .row 3 i_)]⟩ [(.ret, ⟨[(12, .c false [.bool])], []⟩), (.exit 0, ⟨[(14, .c false [.con (.ptr 484 0)]), (20, .c false [.con (.own 100000 1)])], [(484, .var 31 [.int .i64, .row Kii_]), (100000, .row 3 i_)]⟩)] (.s .d (.s (.b (.s .d (.s .d (.j [22, 23, 60, 61, 62, 63] [] [(.normal, ⟨[(22, .c false [.row i_]), (23, .c false [.row i_])], []⟩)] .d .d)))) .d))))) .d)))))))))
noncomputable def law14_BlastOrder_c (n : Nat) : Ctr Try.prog := .of Try.func7 n [law14_head_c n, law13_Great_c n, law13_Made_c n, law14_Bits_c n, blast_Do_c n, aig_Right_c n, law14_right_c n, law13_Bits_c n, aig_Eval_c n, law14_num_c n] law14_BlastOrder_a law14_BlastOrder_s (fun d => law14_BlastOrder n d.1 d.2.1 d.2.2.1 d.2.2.2.1 d.2.2.2.2.1 d.2.2.2.2.2.1) fun d => by kernel_rfl
noncomputable def vec_two__vec_works_2 (n : Nat) : Option (Unit) :=
 some ()
def vec_two__vec_works_2_s : Sig := ⟨[.c false [.con (.fn 64 [])]], [], .c false [.con (.fn 99 [(100, 0)])], [(100, .var 96 [.con (.fn 64 [])])]⟩
def vec_two__vec_works_2_a : Ann := .d
noncomputable def vec_two__vec_works_2_c (n : Nat) : Ctr Try.prog := .of Try.func63 n [] vec_two__vec_works_2_a vec_two__vec_works_2_s (fun d => vec_two__vec_works_2 n) fun d => by kernel_rfl
noncomputable def vec_asked__vec_works_3 (n : Nat) : Option (Unit) :=
 some ()
def vec_asked__vec_works_3_s : Sig := ⟨[.c false [.con (.fn 66 [])]], [], .c false [.con (.fn 100 [(100, 0)])], [(100, .var 98 [.con (.fn 66 [])])]⟩
def vec_asked__vec_works_3_a : Ann := .d
noncomputable def vec_asked__vec_works_3_c (n : Nat) : Ctr Try.prog := .of Try.func65 n [] vec_asked__vec_works_3_a vec_asked__vec_works_3_s (fun d => vec_asked__vec_works_3 n) fun d => by kernel_rfl
noncomputable def vec_two__vec_works_5 (n : Nat) : Option (Unit) :=
 some ()
def vec_two__vec_works_5_s : Sig := ⟨[.c false [.con (.fn 70 [])]], [], .c false [.con (.fn 99 [(100, 0)])], [(100, .var 96 [.con (.fn 70 [])])]⟩
def vec_two__vec_works_5_a : Ann := .d
noncomputable def vec_two__vec_works_5_c (n : Nat) : Ctr Try.prog := .of Try.func63 n [] vec_two__vec_works_5_a vec_two__vec_works_5_s (fun d => vec_two__vec_works_5 n) fun d => by kernel_rfl
noncomputable def vec_two__vec_works_6 (n : Nat) : Option (Unit) :=
 some ()
def vec_two__vec_works_6_s : Sig := ⟨[.c false [.con (.fn 71 [])]], [], .c false [.con (.fn 99 [(100, 0)])], [(100, .var 96 [.con (.fn 71 [])])]⟩
def vec_two__vec_works_6_a : Ann := .d
noncomputable def vec_two__vec_works_6_c (n : Nat) : Ctr Try.prog := .of Try.func63 n [] vec_two__vec_works_6_a vec_two__vec_works_6_s (fun d => vec_two__vec_works_6 n) fun d => by kernel_rfl
noncomputable def vec_two__vec_works_7 (n : Nat) : Option (Unit) :=
 some ()
def vec_two__vec_works_7_s : Sig := ⟨[.c false [.con (.fn 72 [])]], [], .c false [.con (.fn 99 [(100, 0)])], [(100, .var 96 [.con (.fn 72 [])])]⟩
def vec_two__vec_works_7_a : Ann := .d
noncomputable def vec_two__vec_works_7_c (n : Nat) : Ctr Try.prog := .of Try.func63 n [] vec_two__vec_works_7_a vec_two__vec_works_7_s (fun d => vec_two__vec_works_7 n) fun d => by kernel_rfl
noncomputable def vec_two__vec_works_8 (n : Nat) : Option (Unit) :=
 some ()
def vec_two__vec_works_8_s : Sig := ⟨[.c false [.con (.fn 73 [])]], [], .c false [.con (.fn 99 [(100, 0)])], [(100, .var 96 [.con (.fn 73 [])])]⟩
def vec_two__vec_works_8_a : Ann := .d
noncomputable def vec_two__vec_works_8_c (n : Nat) : Ctr Try.prog := .of Try.func63 n [] vec_two__vec_works_8_a vec_two__vec_works_8_s (fun d => vec_two__vec_works_8 n) fun d => by kernel_rfl
noncomputable def vec_two__vec_works_9 (n : Nat) : Option (Unit) :=
 some ()
def vec_two__vec_works_9_s : Sig := ⟨[.c false [.con (.fn 74 [])]], [], .c false [.con (.fn 99 [(100, 0)])], [(100, .var 96 [.con (.fn 74 [])])]⟩
def vec_two__vec_works_9_a : Ann := .d
noncomputable def vec_two__vec_works_9_c (n : Nat) : Ctr Try.prog := .of Try.func63 n [] vec_two__vec_works_9_a vec_two__vec_works_9_s (fun d => vec_two__vec_works_9 n) fun d => by kernel_rfl
noncomputable def vec_two__vec_works_10 (n : Nat) : Option (Unit) :=
 some ()
def vec_two__vec_works_10_s : Sig := ⟨[.c false [.con (.fn 75 [])]], [], .c false [.con (.fn 99 [(100, 0)])], [(100, .var 96 [.con (.fn 75 [])])]⟩
def vec_two__vec_works_10_a : Ann := .d
noncomputable def vec_two__vec_works_10_c (n : Nat) : Ctr Try.prog := .of Try.func63 n [] vec_two__vec_works_10_a vec_two__vec_works_10_s (fun d => vec_two__vec_works_10 n) fun d => by kernel_rfl
noncomputable def vec_asked__vec_works_11 (n : Nat) : Option (Unit) :=
 some ()
def vec_asked__vec_works_11_s : Sig := ⟨[.c false [.con (.fn 76 [])]], [], .c false [.con (.fn 100 [(100, 0)])], [(100, .var 98 [.con (.fn 76 [])])]⟩
def vec_asked__vec_works_11_a : Ann := .d
noncomputable def vec_asked__vec_works_11_c (n : Nat) : Ctr Try.prog := .of Try.func65 n [] vec_asked__vec_works_11_a vec_asked__vec_works_11_s (fun d => vec_asked__vec_works_11 n) fun d => by kernel_rfl
noncomputable def vec_asked__vec_works_12 (n : Nat) : Option (Unit) :=
 some ()
def vec_asked__vec_works_12_s : Sig := ⟨[.c false [.con (.fn 77 [])]], [], .c false [.con (.fn 100 [(100, 0)])], [(100, .var 98 [.con (.fn 77 [])])]⟩
def vec_asked__vec_works_12_a : Ann := .d
noncomputable def vec_asked__vec_works_12_c (n : Nat) : Ctr Try.prog := .of Try.func65 n [] vec_asked__vec_works_12_a vec_asked__vec_works_12_s (fun d => vec_asked__vec_works_12 n) fun d => by kernel_rfl
noncomputable def vec_asked__vec_works_13 (n : Nat) : Option (Unit) :=
 some ()
def vec_asked__vec_works_13_s : Sig := ⟨[.c false [.con (.fn 78 [])]], [], .c false [.con (.fn 100 [(100, 0)])], [(100, .var 98 [.con (.fn 78 [])])]⟩
def vec_asked__vec_works_13_a : Ann := .d
noncomputable def vec_asked__vec_works_13_c (n : Nat) : Ctr Try.prog := .of Try.func65 n [] vec_asked__vec_works_13_a vec_asked__vec_works_13_s (fun d => vec_asked__vec_works_13 n) fun d => by kernel_rfl
noncomputable def vec_asked__vec_works_14 (n : Nat) : Option (Unit) :=
 some ()
def vec_asked__vec_works_14_s : Sig := ⟨[.c false [.con (.fn 79 [])]], [], .c false [.con (.fn 100 [(100, 0)])], [(100, .var 98 [.con (.fn 79 [])])]⟩
def vec_asked__vec_works_14_a : Ann := .d
noncomputable def vec_asked__vec_works_14_c (n : Nat) : Ctr Try.prog := .of Try.func65 n [] vec_asked__vec_works_14_a vec_asked__vec_works_14_s (fun d => vec_asked__vec_works_14 n) fun d => by kernel_rfl
noncomputable def vec_works (n : Nat) : Option (Unit) :=
 (vec_two__vec_works_2 n).bind (fun r1 => (vec_asked__vec_works_3 n).bind (fun r2 => (vec_two__vec_works_5 n).bind (fun r3 => (vec_two__vec_works_6 n).bind (fun r4 => (vec_two__vec_works_7 n).bind (fun r5 => (vec_two__vec_works_8 n).bind (fun r6 => (vec_two__vec_works_9 n).bind (fun r7 => (vec_two__vec_works_10 n).bind (fun r8 => (vec_asked__vec_works_11 n).bind (fun r9 => (vec_asked__vec_works_12 n).bind (fun r10 => (vec_asked__vec_works_13 n).bind (fun r11 => (vec_asked__vec_works_14 n).bind (fun r12 => some ()))))))))))))
def vec_works_s : Sig := ⟨[], [], .c false [.con (.map 100)], [(100, .tab [(.i64, 1), (.i64, 3), (.i64, 4), (.i64, 5), (.i64, 6), (.i64, 7), (.i64, 8), (.i64, 9), (.i64, 10), (.i64, 11), (.i64, 12), (.i64, 13), (.i64, 14), (.i64, 15), (.i64, 16), (.i64, 17), (.i64, 18)] [(false, [.con (.fn 62 [])]), (false, [.con (.fn 99 [(228, 0)])]), (false, [.con (.fn 100 [(356, 0)])]), (false, [.con (.fn 67 [])]), (false, [.con (.fn 99 [(548, 0)])]), (false, [.con (.fn 99 [(676, 0)])]), (false, [.con (.fn 99 [(804, 0)])]), (false, [.con (.fn 99 [(932, 0)])]), (false, [.con (.fn 99 [(1060, 0)])]), (false, [.con (.fn 99 [(1188, 0)])]), (false, [.con (.fn 100 [(1316, 0)])]), (false, [.con (.fn 100 [(1444, 0)])]), (false, [.con (.fn 100 [(1572, 0)])]), (false, [.con (.fn 100 [(1700, 0)])]), (false, [.con (.fn 80 [])]), (false, [.con (.fn 81 [])]), (false, [.con (.fn 82 [])])]), (228, .var 96 [.con (.fn 64 [])]), (356, .var 98 [.con (.fn 66 [])]), (548, .var 96 [.con (.fn 70 [])]), (676, .var 96 [.con (.fn 71 [])]), (804, .var 96 [.con (.fn 72 [])]), (932, .var 96 [.con (.fn 73 [])]), (1060, .var 96 [.con (.fn 74 [])]), (1188, .var 96 [.con (.fn 75 [])]), (1316, .var 98 [.con (.fn 76 [])]), (1444, .var 98 [.con (.fn 77 [])]), (1572, .var 98 [.con (.fn 78 [])]), (1700, .var 98 [.con (.fn 79 [])])]⟩
def vec_works_a : Ann := .d
noncomputable def vec_works_c (n : Nat) : Ctr Try.prog := .of Try.func41 n [vec_two__vec_works_2_c n, vec_asked__vec_works_3_c n, vec_two__vec_works_5_c n, vec_two__vec_works_6_c n, vec_two__vec_works_7_c n, vec_two__vec_works_8_c n, vec_two__vec_works_9_c n, vec_two__vec_works_10_c n, vec_asked__vec_works_11_c n, vec_asked__vec_works_12_c n, vec_asked__vec_works_13_c n, vec_asked__vec_works_14_c n] vec_works_a vec_works_s (fun d => vec_works n) fun d => by kernel_rfl
noncomputable def vec_works_1 (n : Nat) (x1 : Int) (x2 : Int) (x3 : Int) (x4 : Int) (x5 : Int) (x6 : Int) (x7 : Int) (x8 : Int) (x9 : Int) (x10 : Int) (x11 : Int) : Option (Int × Unit) :=
 some (x6, ())
def vec_works_1_s : Sig := ⟨[.c true [.int .i64, .int .i64, .int .i64, .int .i64, .int .i64, .int .i64, .int .i64], .c false [.int .i64], .c false [.int .i64], .c false [.int .i64], .c false [.int .i64]], [], .c false [.int .i64], []⟩
def vec_works_1_a : Ann := .d
noncomputable def vec_works_1_c (n : Nat) : Ctr Try.prog := .of Try.func62 n [] vec_works_1_a vec_works_1_s (fun d => vec_works_1 n d.1 d.2.1 d.2.2.1 d.2.2.2.1 d.2.2.2.2.1 d.2.2.2.2.2.1 d.2.2.2.2.2.2.1 d.2.2.2.2.2.2.2.1 d.2.2.2.2.2.2.2.2.1 d.2.2.2.2.2.2.2.2.2.1 d.2.2.2.2.2.2.2.2.2.2.1) fun d => by kernel_rfl
noncomputable def vec_works_2 (n : Nat) (x1 : Int) (x2 : Int) : Option (Int × Unit) :=
 some (bits .xor .i64 (-1) x1, ())
def vec_works_2_s : Sig := ⟨[.c false [.int .i64], .c false [.int .i64]], [], .c false [.int .i64], []⟩
def vec_works_2_a : Ann := .d
noncomputable def vec_works_2_c (n : Nat) : Ctr Try.prog := .of Try.func64 n [] vec_works_2_a vec_works_2_s (fun d => vec_works_2 n d.1 d.2.1) fun d => by kernel_rfl
noncomputable def vec_Mask (n : Nat) (x1 : Int) : Option (Int × Unit) :=
 ask (0 ≤ x1) (some (IntKind.wrap .i64 ((shlI .i64 1 x1) - 1), ()))
def vec_Mask_s : Sig := ⟨[.c false [.int .i64]], [], .c false [.int .i64], []⟩
def vec_Mask_a : Ann := .d
noncomputable def vec_Mask_c (n : Nat) : Ctr Try.prog := .of Try.func69 n [] vec_Mask_a vec_Mask_s (fun d => vec_Mask n d.1) fun d => by kernel_rfl
noncomputable def vec_two_1__vec_works_2 (n : Nat) (x1 : Int) (x2 : Int) (x3 : Int) (x4 : Int) (x5 : Int) (x6 : Int) (x7 : Int) (x8 : Int) (x9 : Int) (x10 : Int) (x11 : Int) : Option (Int × Unit) :=
 (vec_works_2 n x8 x9).bind (fun r12 => (vec_Mask n x2).bind (fun r13 => some (bits .and .i64 r12.1 r13.1, ())))
def vec_two_1__vec_works_2_s : Sig := ⟨[.c true [.int .i64, .int .i64, .int .i64, .int .i64, .int .i64, .int .i64, .int .i64], .c false [.int .i64], .c false [.int .i64], .c false [.int .i64], .c false [.int .i64], .c false [.con (.ptr 0 0)]], [(0, .var 96 [.con (.fn 64 [])])], .c false [.int .i64], [(0, .var 96 [.con (.fn 64 [])])]⟩
def vec_two_1__vec_works_2_a : Ann := .d
noncomputable def vec_two_1__vec_works_2_c (n : Nat) : Ctr Try.prog := .of Try.func99 n [vec_works_2_c n, vec_Mask_c n] vec_two_1__vec_works_2_a vec_two_1__vec_works_2_s (fun d => vec_two_1__vec_works_2 n d.1 d.2.1 d.2.2.1 d.2.2.2.1 d.2.2.2.2.1 d.2.2.2.2.2.1 d.2.2.2.2.2.2.1 d.2.2.2.2.2.2.2.1 d.2.2.2.2.2.2.2.2.1 d.2.2.2.2.2.2.2.2.2.1 d.2.2.2.2.2.2.2.2.2.2.1) fun d => by kernel_rfl
noncomputable def vec_works_3 (n : Nat) (x1 : Int) (x2 : Int) : Option (Bool × Unit) :=
 some (decide (x1 ≠ 0), ())
def vec_works_3_s : Sig := ⟨[.c false [.int .i64], .c false [.int .i64]], [], .c false [.bool], []⟩
def vec_works_3_a : Ann := .d
noncomputable def vec_works_3_c (n : Nat) : Ctr Try.prog := .of Try.func66 n [] vec_works_3_a vec_works_3_s (fun d => vec_works_3 n d.1 d.2.1) fun d => by kernel_rfl
noncomputable def vec_flag (n : Nat) (x1 : Bool) : Option (Int × Unit) :=
 cond x1
 (some (1, ()))
 (some (0, ()))
def vec_flag_s : Sig := ⟨[.c false [.bool]], [], .c false [.int .i64], []⟩
def vec_flag_a : Ann := .d
noncomputable def vec_flag_c (n : Nat) : Ctr Try.prog := .of Try.func68 n [] vec_flag_a vec_flag_s (fun d => vec_flag n d.1) fun d => by kernel_rfl
noncomputable def vec_asked_1__vec_works_3 (n : Nat) (x1 : Int) (x2 : Int) (x3 : Int) (x4 : Int) (x5 : Int) (x6 : Int) (x7 : Int) (x8 : Int) (x9 : Int) (x10 : Int) (x11 : Int) : Option (Int × Unit) :=
 (vec_works_3 n x8 x9).bind (fun r12 => (vec_flag n r12.1).bind (fun r13 => some (r13.1, ())))
def vec_asked_1__vec_works_3_s : Sig := ⟨[.c true [.int .i64, .int .i64, .int .i64, .int .i64, .int .i64, .int .i64, .int .i64], .c false [.int .i64], .c false [.int .i64], .c false [.int .i64], .c false [.int .i64], .c false [.con (.ptr 0 0)]], [(0, .var 98 [.con (.fn 66 [])])], .c false [.int .i64], [(0, .var 98 [.con (.fn 66 [])])]⟩
def vec_asked_1__vec_works_3_a : Ann := .d
noncomputable def vec_asked_1__vec_works_3_c (n : Nat) : Ctr Try.prog := .of Try.func100 n [vec_works_3_c n, vec_flag_c n] vec_asked_1__vec_works_3_a vec_asked_1__vec_works_3_s (fun d => vec_asked_1__vec_works_3 n d.1 d.2.1 d.2.2.1 d.2.2.2.1 d.2.2.2.2.1 d.2.2.2.2.2.1 d.2.2.2.2.2.2.1 d.2.2.2.2.2.2.2.1 d.2.2.2.2.2.2.2.2.1 d.2.2.2.2.2.2.2.2.2.1 d.2.2.2.2.2.2.2.2.2.2.1) fun d => by kernel_rfl
noncomputable def vec_works_4 (n : Nat) (x1 : Int) (x2 : Int) (x3 : Int) (x4 : Int) (x5 : Int) (x6 : Int) (x7 : Int) (x8 : Int) (x9 : Int) (x10 : Int) (x11 : Int) : Option (Int × Unit) :=
 (vec_Mask n x7).bind (fun r12 => (vec_flag n (decide (x8 = r12.1))).bind (fun r13 => some (r13.1, ())))
def vec_works_4_s : Sig := ⟨[.c true [.int .i64, .int .i64, .int .i64, .int .i64, .int .i64, .int .i64, .int .i64], .c false [.int .i64], .c false [.int .i64], .c false [.int .i64], .c false [.int .i64]], [], .c false [.int .i64], []⟩
def vec_works_4_a : Ann := .d
noncomputable def vec_works_4_c (n : Nat) : Ctr Try.prog := .of Try.func67 n [vec_Mask_c n, vec_flag_c n] vec_works_4_a vec_works_4_s (fun d => vec_works_4 n d.1 d.2.1 d.2.2.1 d.2.2.2.1 d.2.2.2.2.1 d.2.2.2.2.2.1 d.2.2.2.2.2.2.1 d.2.2.2.2.2.2.2.1 d.2.2.2.2.2.2.2.2.1 d.2.2.2.2.2.2.2.2.2.1 d.2.2.2.2.2.2.2.2.2.2.1) fun d => by kernel_rfl
noncomputable def vec_works_5 (n : Nat) (x1 : Int) (x2 : Int) : Option (Int × Unit) :=
 some (bits .and .i64 x1 x2, ())
def vec_works_5_s : Sig := ⟨[.c false [.int .i64], .c false [.int .i64]], [], .c false [.int .i64], []⟩
def vec_works_5_a : Ann := .d
noncomputable def vec_works_5_c (n : Nat) : Ctr Try.prog := .of Try.func70 n [] vec_works_5_a vec_works_5_s (fun d => vec_works_5 n d.1 d.2.1) fun d => by kernel_rfl
noncomputable def vec_two_1__vec_works_5 (n : Nat) (x1 : Int) (x2 : Int) (x3 : Int) (x4 : Int) (x5 : Int) (x6 : Int) (x7 : Int) (x8 : Int) (x9 : Int) (x10 : Int) (x11 : Int) : Option (Int × Unit) :=
 (vec_works_5 n x8 x9).bind (fun r12 => (vec_Mask n x2).bind (fun r13 => some (bits .and .i64 r12.1 r13.1, ())))
def vec_two_1__vec_works_5_s : Sig := ⟨[.c true [.int .i64, .int .i64, .int .i64, .int .i64, .int .i64, .int .i64, .int .i64], .c false [.int .i64], .c false [.int .i64], .c false [.int .i64], .c false [.int .i64], .c false [.con (.ptr 0 0)]], [(0, .var 96 [.con (.fn 70 [])])], .c false [.int .i64], [(0, .var 96 [.con (.fn 70 [])])]⟩
def vec_two_1__vec_works_5_a : Ann := .d
noncomputable def vec_two_1__vec_works_5_c (n : Nat) : Ctr Try.prog := .of Try.func99 n [vec_works_5_c n, vec_Mask_c n] vec_two_1__vec_works_5_a vec_two_1__vec_works_5_s (fun d => vec_two_1__vec_works_5 n d.1 d.2.1 d.2.2.1 d.2.2.2.1 d.2.2.2.2.1 d.2.2.2.2.2.1 d.2.2.2.2.2.2.1 d.2.2.2.2.2.2.2.1 d.2.2.2.2.2.2.2.2.1 d.2.2.2.2.2.2.2.2.2.1 d.2.2.2.2.2.2.2.2.2.2.1) fun d => by kernel_rfl
noncomputable def vec_works_6 (n : Nat) (x1 : Int) (x2 : Int) : Option (Int × Unit) :=
 some (bits .or .i64 x1 x2, ())
def vec_works_6_s : Sig := ⟨[.c false [.int .i64], .c false [.int .i64]], [], .c false [.int .i64], []⟩
def vec_works_6_a : Ann := .d
noncomputable def vec_works_6_c (n : Nat) : Ctr Try.prog := .of Try.func71 n [] vec_works_6_a vec_works_6_s (fun d => vec_works_6 n d.1 d.2.1) fun d => by kernel_rfl
noncomputable def vec_two_1__vec_works_6 (n : Nat) (x1 : Int) (x2 : Int) (x3 : Int) (x4 : Int) (x5 : Int) (x6 : Int) (x7 : Int) (x8 : Int) (x9 : Int) (x10 : Int) (x11 : Int) : Option (Int × Unit) :=
 (vec_works_6 n x8 x9).bind (fun r12 => (vec_Mask n x2).bind (fun r13 => some (bits .and .i64 r12.1 r13.1, ())))
def vec_two_1__vec_works_6_s : Sig := ⟨[.c true [.int .i64, .int .i64, .int .i64, .int .i64, .int .i64, .int .i64, .int .i64], .c false [.int .i64], .c false [.int .i64], .c false [.int .i64], .c false [.int .i64], .c false [.con (.ptr 0 0)]], [(0, .var 96 [.con (.fn 71 [])])], .c false [.int .i64], [(0, .var 96 [.con (.fn 71 [])])]⟩
def vec_two_1__vec_works_6_a : Ann := .d
noncomputable def vec_two_1__vec_works_6_c (n : Nat) : Ctr Try.prog := .of Try.func99 n [vec_works_6_c n, vec_Mask_c n] vec_two_1__vec_works_6_a vec_two_1__vec_works_6_s (fun d => vec_two_1__vec_works_6 n d.1 d.2.1 d.2.2.1 d.2.2.2.1 d.2.2.2.2.1 d.2.2.2.2.2.1 d.2.2.2.2.2.2.1 d.2.2.2.2.2.2.2.1 d.2.2.2.2.2.2.2.2.1 d.2.2.2.2.2.2.2.2.2.1 d.2.2.2.2.2.2.2.2.2.2.1) fun d => by kernel_rfl
noncomputable def vec_works_7 (n : Nat) (x1 : Int) (x2 : Int) : Option (Int × Unit) :=
 some (bits .xor .i64 x1 x2, ())
def vec_works_7_s : Sig := ⟨[.c false [.int .i64], .c false [.int .i64]], [], .c false [.int .i64], []⟩
def vec_works_7_a : Ann := .d
noncomputable def vec_works_7_c (n : Nat) : Ctr Try.prog := .of Try.func72 n [] vec_works_7_a vec_works_7_s (fun d => vec_works_7 n d.1 d.2.1) fun d => by kernel_rfl
noncomputable def vec_two_1__vec_works_7 (n : Nat) (x1 : Int) (x2 : Int) (x3 : Int) (x4 : Int) (x5 : Int) (x6 : Int) (x7 : Int) (x8 : Int) (x9 : Int) (x10 : Int) (x11 : Int) : Option (Int × Unit) :=
 (vec_works_7 n x8 x9).bind (fun r12 => (vec_Mask n x2).bind (fun r13 => some (bits .and .i64 r12.1 r13.1, ())))
def vec_two_1__vec_works_7_s : Sig := ⟨[.c true [.int .i64, .int .i64, .int .i64, .int .i64, .int .i64, .int .i64, .int .i64], .c false [.int .i64], .c false [.int .i64], .c false [.int .i64], .c false [.int .i64], .c false [.con (.ptr 0 0)]], [(0, .var 96 [.con (.fn 72 [])])], .c false [.int .i64], [(0, .var 96 [.con (.fn 72 [])])]⟩
def vec_two_1__vec_works_7_a : Ann := .d
noncomputable def vec_two_1__vec_works_7_c (n : Nat) : Ctr Try.prog := .of Try.func99 n [vec_works_7_c n, vec_Mask_c n] vec_two_1__vec_works_7_a vec_two_1__vec_works_7_s (fun d => vec_two_1__vec_works_7 n d.1 d.2.1 d.2.2.1 d.2.2.2.1 d.2.2.2.2.1 d.2.2.2.2.2.1 d.2.2.2.2.2.2.1 d.2.2.2.2.2.2.2.1 d.2.2.2.2.2.2.2.2.1 d.2.2.2.2.2.2.2.2.2.1 d.2.2.2.2.2.2.2.2.2.2.1) fun d => by kernel_rfl
noncomputable def vec_works_8 (n : Nat) (x1 : Int) (x2 : Int) : Option (Int × Unit) :=
 some (IntKind.wrap .i64 (x1 + x2), ())
def vec_works_8_s : Sig := ⟨[.c false [.int .i64], .c false [.int .i64]], [], .c false [.int .i64], []⟩
def vec_works_8_a : Ann := .d
noncomputable def vec_works_8_c (n : Nat) : Ctr Try.prog := .of Try.func73 n [] vec_works_8_a vec_works_8_s (fun d => vec_works_8 n d.1 d.2.1) fun d => by kernel_rfl
noncomputable def vec_two_1__vec_works_8 (n : Nat) (x1 : Int) (x2 : Int) (x3 : Int) (x4 : Int) (x5 : Int) (x6 : Int) (x7 : Int) (x8 : Int) (x9 : Int) (x10 : Int) (x11 : Int) : Option (Int × Unit) :=
 (vec_works_8 n x8 x9).bind (fun r12 => (vec_Mask n x2).bind (fun r13 => some (bits .and .i64 r12.1 r13.1, ())))
def vec_two_1__vec_works_8_s : Sig := ⟨[.c true [.int .i64, .int .i64, .int .i64, .int .i64, .int .i64, .int .i64, .int .i64], .c false [.int .i64], .c false [.int .i64], .c false [.int .i64], .c false [.int .i64], .c false [.con (.ptr 0 0)]], [(0, .var 96 [.con (.fn 73 [])])], .c false [.int .i64], [(0, .var 96 [.con (.fn 73 [])])]⟩
def vec_two_1__vec_works_8_a : Ann := .d
noncomputable def vec_two_1__vec_works_8_c (n : Nat) : Ctr Try.prog := .of Try.func99 n [vec_works_8_c n, vec_Mask_c n] vec_two_1__vec_works_8_a vec_two_1__vec_works_8_s (fun d => vec_two_1__vec_works_8 n d.1 d.2.1 d.2.2.1 d.2.2.2.1 d.2.2.2.2.1 d.2.2.2.2.2.1 d.2.2.2.2.2.2.1 d.2.2.2.2.2.2.2.1 d.2.2.2.2.2.2.2.2.1 d.2.2.2.2.2.2.2.2.2.1 d.2.2.2.2.2.2.2.2.2.2.1) fun d => by kernel_rfl
noncomputable def vec_works_9 (n : Nat) (x1 : Int) (x2 : Int) : Option (Int × Unit) :=
 some (IntKind.wrap .i64 (x1 - x2), ())
def vec_works_9_s : Sig := ⟨[.c false [.int .i64], .c false [.int .i64]], [], .c false [.int .i64], []⟩
def vec_works_9_a : Ann := .d
noncomputable def vec_works_9_c (n : Nat) : Ctr Try.prog := .of Try.func74 n [] vec_works_9_a vec_works_9_s (fun d => vec_works_9 n d.1 d.2.1) fun d => by kernel_rfl
noncomputable def vec_two_1__vec_works_9 (n : Nat) (x1 : Int) (x2 : Int) (x3 : Int) (x4 : Int) (x5 : Int) (x6 : Int) (x7 : Int) (x8 : Int) (x9 : Int) (x10 : Int) (x11 : Int) : Option (Int × Unit) :=
 (vec_works_9 n x8 x9).bind (fun r12 => (vec_Mask n x2).bind (fun r13 => some (bits .and .i64 r12.1 r13.1, ())))
def vec_two_1__vec_works_9_s : Sig := ⟨[.c true [.int .i64, .int .i64, .int .i64, .int .i64, .int .i64, .int .i64, .int .i64], .c false [.int .i64], .c false [.int .i64], .c false [.int .i64], .c false [.int .i64], .c false [.con (.ptr 0 0)]], [(0, .var 96 [.con (.fn 74 [])])], .c false [.int .i64], [(0, .var 96 [.con (.fn 74 [])])]⟩
def vec_two_1__vec_works_9_a : Ann := .d
noncomputable def vec_two_1__vec_works_9_c (n : Nat) : Ctr Try.prog := .of Try.func99 n [vec_works_9_c n, vec_Mask_c n] vec_two_1__vec_works_9_a vec_two_1__vec_works_9_s (fun d => vec_two_1__vec_works_9 n d.1 d.2.1 d.2.2.1 d.2.2.2.1 d.2.2.2.2.1 d.2.2.2.2.2.1 d.2.2.2.2.2.2.1 d.2.2.2.2.2.2.2.1 d.2.2.2.2.2.2.2.2.1 d.2.2.2.2.2.2.2.2.2.1 d.2.2.2.2.2.2.2.2.2.2.1) fun d => by kernel_rfl
noncomputable def vec_works_10 (n : Nat) (x1 : Int) (x2 : Int) : Option (Int × Unit) :=
 some (IntKind.wrap .i64 (x1 * x2), ())
def vec_works_10_s : Sig := ⟨[.c false [.int .i64], .c false [.int .i64]], [], .c false [.int .i64], []⟩
def vec_works_10_a : Ann := .d
noncomputable def vec_works_10_c (n : Nat) : Ctr Try.prog := .of Try.func75 n [] vec_works_10_a vec_works_10_s (fun d => vec_works_10 n d.1 d.2.1) fun d => by kernel_rfl
noncomputable def vec_two_1__vec_works_10 (n : Nat) (x1 : Int) (x2 : Int) (x3 : Int) (x4 : Int) (x5 : Int) (x6 : Int) (x7 : Int) (x8 : Int) (x9 : Int) (x10 : Int) (x11 : Int) : Option (Int × Unit) :=
 (vec_works_10 n x8 x9).bind (fun r12 => (vec_Mask n x2).bind (fun r13 => some (bits .and .i64 r12.1 r13.1, ())))
def vec_two_1__vec_works_10_s : Sig := ⟨[.c true [.int .i64, .int .i64, .int .i64, .int .i64, .int .i64, .int .i64, .int .i64], .c false [.int .i64], .c false [.int .i64], .c false [.int .i64], .c false [.int .i64], .c false [.con (.ptr 0 0)]], [(0, .var 96 [.con (.fn 75 [])])], .c false [.int .i64], [(0, .var 96 [.con (.fn 75 [])])]⟩
def vec_two_1__vec_works_10_a : Ann := .d
noncomputable def vec_two_1__vec_works_10_c (n : Nat) : Ctr Try.prog := .of Try.func99 n [vec_works_10_c n, vec_Mask_c n] vec_two_1__vec_works_10_a vec_two_1__vec_works_10_s (fun d => vec_two_1__vec_works_10 n d.1 d.2.1 d.2.2.1 d.2.2.2.1 d.2.2.2.2.1 d.2.2.2.2.2.1 d.2.2.2.2.2.2.1 d.2.2.2.2.2.2.2.1 d.2.2.2.2.2.2.2.2.1 d.2.2.2.2.2.2.2.2.2.1 d.2.2.2.2.2.2.2.2.2.2.1) fun d => by kernel_rfl
noncomputable def vec_works_11 (n : Nat) (x1 : Int) (x2 : Int) : Option (Bool × Unit) :=
 some (decide (x1 = x2), ())
def vec_works_11_s : Sig := ⟨[.c false [.int .i64], .c false [.int .i64]], [], .c false [.bool], []⟩
def vec_works_11_a : Ann := .d
noncomputable def vec_works_11_c (n : Nat) : Ctr Try.prog := .of Try.func76 n [] vec_works_11_a vec_works_11_s (fun d => vec_works_11 n d.1 d.2.1) fun d => by kernel_rfl
noncomputable def vec_asked_1__vec_works_11 (n : Nat) (x1 : Int) (x2 : Int) (x3 : Int) (x4 : Int) (x5 : Int) (x6 : Int) (x7 : Int) (x8 : Int) (x9 : Int) (x10 : Int) (x11 : Int) : Option (Int × Unit) :=
 (vec_works_11 n x8 x9).bind (fun r12 => (vec_flag n r12.1).bind (fun r13 => some (r13.1, ())))
def vec_asked_1__vec_works_11_s : Sig := ⟨[.c true [.int .i64, .int .i64, .int .i64, .int .i64, .int .i64, .int .i64, .int .i64], .c false [.int .i64], .c false [.int .i64], .c false [.int .i64], .c false [.int .i64], .c false [.con (.ptr 0 0)]], [(0, .var 98 [.con (.fn 76 [])])], .c false [.int .i64], [(0, .var 98 [.con (.fn 76 [])])]⟩
def vec_asked_1__vec_works_11_a : Ann := .d
noncomputable def vec_asked_1__vec_works_11_c (n : Nat) : Ctr Try.prog := .of Try.func100 n [vec_works_11_c n, vec_flag_c n] vec_asked_1__vec_works_11_a vec_asked_1__vec_works_11_s (fun d => vec_asked_1__vec_works_11 n d.1 d.2.1 d.2.2.1 d.2.2.2.1 d.2.2.2.2.1 d.2.2.2.2.2.1 d.2.2.2.2.2.2.1 d.2.2.2.2.2.2.2.1 d.2.2.2.2.2.2.2.2.1 d.2.2.2.2.2.2.2.2.2.1 d.2.2.2.2.2.2.2.2.2.2.1) fun d => by kernel_rfl
noncomputable def vec_works_12 (n : Nat) (x1 : Int) (x2 : Int) : Option (Bool × Unit) :=
 some (decide (x1 ≠ x2), ())
def vec_works_12_s : Sig := ⟨[.c false [.int .i64], .c false [.int .i64]], [], .c false [.bool], []⟩
def vec_works_12_a : Ann := .d
noncomputable def vec_works_12_c (n : Nat) : Ctr Try.prog := .of Try.func77 n [] vec_works_12_a vec_works_12_s (fun d => vec_works_12 n d.1 d.2.1) fun d => by kernel_rfl
noncomputable def vec_asked_1__vec_works_12 (n : Nat) (x1 : Int) (x2 : Int) (x3 : Int) (x4 : Int) (x5 : Int) (x6 : Int) (x7 : Int) (x8 : Int) (x9 : Int) (x10 : Int) (x11 : Int) : Option (Int × Unit) :=
 (vec_works_12 n x8 x9).bind (fun r12 => (vec_flag n r12.1).bind (fun r13 => some (r13.1, ())))
def vec_asked_1__vec_works_12_s : Sig := ⟨[.c true [.int .i64, .int .i64, .int .i64, .int .i64, .int .i64, .int .i64, .int .i64], .c false [.int .i64], .c false [.int .i64], .c false [.int .i64], .c false [.int .i64], .c false [.con (.ptr 0 0)]], [(0, .var 98 [.con (.fn 77 [])])], .c false [.int .i64], [(0, .var 98 [.con (.fn 77 [])])]⟩
def vec_asked_1__vec_works_12_a : Ann := .d
noncomputable def vec_asked_1__vec_works_12_c (n : Nat) : Ctr Try.prog := .of Try.func100 n [vec_works_12_c n, vec_flag_c n] vec_asked_1__vec_works_12_a vec_asked_1__vec_works_12_s (fun d => vec_asked_1__vec_works_12 n d.1 d.2.1 d.2.2.1 d.2.2.2.1 d.2.2.2.2.1 d.2.2.2.2.2.1 d.2.2.2.2.2.2.1 d.2.2.2.2.2.2.2.1 d.2.2.2.2.2.2.2.2.1 d.2.2.2.2.2.2.2.2.2.1 d.2.2.2.2.2.2.2.2.2.2.1) fun d => by kernel_rfl
noncomputable def vec_works_13 (n : Nat) (x1 : Int) (x2 : Int) : Option (Bool × Unit) :=
 some (decide (x1 < x2), ())
def vec_works_13_s : Sig := ⟨[.c false [.int .i64], .c false [.int .i64]], [], .c false [.bool], []⟩
def vec_works_13_a : Ann := .d
noncomputable def vec_works_13_c (n : Nat) : Ctr Try.prog := .of Try.func78 n [] vec_works_13_a vec_works_13_s (fun d => vec_works_13 n d.1 d.2.1) fun d => by kernel_rfl
noncomputable def vec_asked_1__vec_works_13 (n : Nat) (x1 : Int) (x2 : Int) (x3 : Int) (x4 : Int) (x5 : Int) (x6 : Int) (x7 : Int) (x8 : Int) (x9 : Int) (x10 : Int) (x11 : Int) : Option (Int × Unit) :=
 (vec_works_13 n x8 x9).bind (fun r12 => (vec_flag n r12.1).bind (fun r13 => some (r13.1, ())))
def vec_asked_1__vec_works_13_s : Sig := ⟨[.c true [.int .i64, .int .i64, .int .i64, .int .i64, .int .i64, .int .i64, .int .i64], .c false [.int .i64], .c false [.int .i64], .c false [.int .i64], .c false [.int .i64], .c false [.con (.ptr 0 0)]], [(0, .var 98 [.con (.fn 78 [])])], .c false [.int .i64], [(0, .var 98 [.con (.fn 78 [])])]⟩
def vec_asked_1__vec_works_13_a : Ann := .d
noncomputable def vec_asked_1__vec_works_13_c (n : Nat) : Ctr Try.prog := .of Try.func100 n [vec_works_13_c n, vec_flag_c n] vec_asked_1__vec_works_13_a vec_asked_1__vec_works_13_s (fun d => vec_asked_1__vec_works_13 n d.1 d.2.1 d.2.2.1 d.2.2.2.1 d.2.2.2.2.1 d.2.2.2.2.2.1 d.2.2.2.2.2.2.1 d.2.2.2.2.2.2.2.1 d.2.2.2.2.2.2.2.2.1 d.2.2.2.2.2.2.2.2.2.1 d.2.2.2.2.2.2.2.2.2.2.1) fun d => by kernel_rfl
noncomputable def vec_works_14 (n : Nat) (x1 : Int) (x2 : Int) : Option (Bool × Unit) :=
 some (decide (x1 ≤ x2), ())
def vec_works_14_s : Sig := ⟨[.c false [.int .i64], .c false [.int .i64]], [], .c false [.bool], []⟩
def vec_works_14_a : Ann := .d
noncomputable def vec_works_14_c (n : Nat) : Ctr Try.prog := .of Try.func79 n [] vec_works_14_a vec_works_14_s (fun d => vec_works_14 n d.1 d.2.1) fun d => by kernel_rfl
noncomputable def vec_asked_1__vec_works_14 (n : Nat) (x1 : Int) (x2 : Int) (x3 : Int) (x4 : Int) (x5 : Int) (x6 : Int) (x7 : Int) (x8 : Int) (x9 : Int) (x10 : Int) (x11 : Int) : Option (Int × Unit) :=
 (vec_works_14 n x8 x9).bind (fun r12 => (vec_flag n r12.1).bind (fun r13 => some (r13.1, ())))
def vec_asked_1__vec_works_14_s : Sig := ⟨[.c true [.int .i64, .int .i64, .int .i64, .int .i64, .int .i64, .int .i64, .int .i64], .c false [.int .i64], .c false [.int .i64], .c false [.int .i64], .c false [.int .i64], .c false [.con (.ptr 0 0)]], [(0, .var 98 [.con (.fn 79 [])])], .c false [.int .i64], [(0, .var 98 [.con (.fn 79 [])])]⟩
def vec_asked_1__vec_works_14_a : Ann := .d
noncomputable def vec_asked_1__vec_works_14_c (n : Nat) : Ctr Try.prog := .of Try.func100 n [vec_works_14_c n, vec_flag_c n] vec_asked_1__vec_works_14_a vec_asked_1__vec_works_14_s (fun d => vec_asked_1__vec_works_14 n d.1 d.2.1 d.2.2.1 d.2.2.2.1 d.2.2.2.2.1 d.2.2.2.2.2.1 d.2.2.2.2.2.2.1 d.2.2.2.2.2.2.2.1 d.2.2.2.2.2.2.2.2.1 d.2.2.2.2.2.2.2.2.2.1 d.2.2.2.2.2.2.2.2.2.2.1) fun d => by kernel_rfl
noncomputable def vec_works_15 (n : Nat) (x1 : Int) (x2 : Int) (x3 : Int) (x4 : Int) (x5 : Int) (x6 : Int) (x7 : Int) (x8 : Int) (x9 : Int) (x10 : Int) (x11 : Int) : Option (Int × Unit) :=
 cond (decide (x8 = 1))
 (some (x9, ()))
 (some (x10, ()))
def vec_works_15_s : Sig := ⟨[.c true [.int .i64, .int .i64, .int .i64, .int .i64, .int .i64, .int .i64, .int .i64], .c false [.int .i64], .c false [.int .i64], .c false [.int .i64], .c false [.int .i64]], [], .c false [.int .i64], []⟩
def vec_works_15_a : Ann := .d
noncomputable def vec_works_15_c (n : Nat) : Ctr Try.prog := .of Try.func80 n [] vec_works_15_a vec_works_15_s (fun d => vec_works_15 n d.1 d.2.1 d.2.2.1 d.2.2.2.1 d.2.2.2.2.1 d.2.2.2.2.2.1 d.2.2.2.2.2.2.1 d.2.2.2.2.2.2.2.1 d.2.2.2.2.2.2.2.2.1 d.2.2.2.2.2.2.2.2.2.1 d.2.2.2.2.2.2.2.2.2.2.1) fun d => by kernel_rfl
noncomputable def vec_works_16 (n : Nat) (x1 : Int) (x2 : Int) (x3 : Int) (x4 : Int) (x5 : Int) (x6 : Int) (x7 : Int) (x8 : Int) (x9 : Int) (x10 : Int) (x11 : Int) : Option (Int × Unit) :=
 ask (0 ≤ x11) (some (bits .or .i64 (shlI .i64 x8 x11) x9, ()))
def vec_works_16_s : Sig := ⟨[.c true [.int .i64, .int .i64, .int .i64, .int .i64, .int .i64, .int .i64, .int .i64], .c false [.int .i64], .c false [.int .i64], .c false [.int .i64], .c false [.int .i64]], [], .c false [.int .i64], []⟩
def vec_works_16_a : Ann := .d
noncomputable def vec_works_16_c (n : Nat) : Ctr Try.prog := .of Try.func81 n [] vec_works_16_a vec_works_16_s (fun d => vec_works_16 n d.1 d.2.1 d.2.2.1 d.2.2.2.1 d.2.2.2.2.1 d.2.2.2.2.2.1 d.2.2.2.2.2.2.1 d.2.2.2.2.2.2.2.1 d.2.2.2.2.2.2.2.2.1 d.2.2.2.2.2.2.2.2.2.1 d.2.2.2.2.2.2.2.2.2.2.1) fun d => by kernel_rfl
noncomputable def vec_works_17 (n : Nat) (x1 : Int) (x2 : Int) (x3 : Int) (x4 : Int) (x5 : Int) (x6 : Int) (x7 : Int) (x8 : Int) (x9 : Int) (x10 : Int) (x11 : Int) : Option (Int × Unit) :=
 ask (0 ≤ x7) ((vec_Mask n (IntKind.wrap .i64 ((IntKind.wrap .i64 (x6 - x7)) + 1))).bind (fun r12 => some (bits .and .i64 (shrI .i64 x8 x7) r12.1, ())))
def vec_works_17_s : Sig := ⟨[.c true [.int .i64, .int .i64, .int .i64, .int .i64, .int .i64, .int .i64, .int .i64], .c false [.int .i64], .c false [.int .i64], .c false [.int .i64], .c false [.int .i64]], [], .c false [.int .i64], []⟩
def vec_works_17_a : Ann := .d
noncomputable def vec_works_17_c (n : Nat) : Ctr Try.prog := .of Try.func82 n [vec_Mask_c n] vec_works_17_a vec_works_17_s (fun d => vec_works_17 n d.1 d.2.1 d.2.2.1 d.2.2.2.1 d.2.2.2.2.1 d.2.2.2.2.2.1 d.2.2.2.2.2.2.1 d.2.2.2.2.2.2.2.1 d.2.2.2.2.2.2.2.2.1 d.2.2.2.2.2.2.2.2.2.1 d.2.2.2.2.2.2.2.2.2.2.1) fun d => by kernel_rfl
noncomputable def vec_Do (n : Nat) (x1 : Int) (x2 : Int) (x3 : Int) (x4 : Int) (x5 : Int) (x6 : Int) (x7 : Int) (x8 : Int) (x9 : Int) (x10 : Int) (x11 : Int) : Option (Int × Unit) :=
 (vec_works n).bind (fun r12 => cond (decide (x1 = 1))
 ((vec_works_1 n x1 x2 x3 x4 x5 x6 x7 x8 x9 x10 x11).bind (fun r13 => some (r13.1, ())))
 (cond (decide (x1 = 3))
 ((vec_two_1__vec_works_2 n x1 x2 x3 x4 x5 x6 x7 x8 x9 x10 x11).bind (fun r14 => some (r14.1, ())))
 (cond (decide (x1 = 4))
 ((vec_asked_1__vec_works_3 n x1 x2 x3 x4 x5 x6 x7 x8 x9 x10 x11).bind (fun r15 => some (r15.1, ())))
 (cond (decide (x1 = 5))
 ((vec_works_4 n x1 x2 x3 x4 x5 x6 x7 x8 x9 x10 x11).bind (fun r16 => some (r16.1, ())))
 (cond (decide (x1 = 6))
 ((vec_two_1__vec_works_5 n x1 x2 x3 x4 x5 x6 x7 x8 x9 x10 x11).bind (fun r17 => some (r17.1, ())))
 (cond (decide (x1 = 7))
 ((vec_two_1__vec_works_6 n x1 x2 x3 x4 x5 x6 x7 x8 x9 x10 x11).bind (fun r18 => some (r18.1, ())))
 (cond (decide (x1 = 8))
 ((vec_two_1__vec_works_7 n x1 x2 x3 x4 x5 x6 x7 x8 x9 x10 x11).bind (fun r19 => some (r19.1, ())))
 (cond (decide (x1 = 9))
 ((vec_two_1__vec_works_8 n x1 x2 x3 x4 x5 x6 x7 x8 x9 x10 x11).bind (fun r20 => some (r20.1, ())))
 (cond (decide (x1 = 10))
 ((vec_two_1__vec_works_9 n x1 x2 x3 x4 x5 x6 x7 x8 x9 x10 x11).bind (fun r21 => some (r21.1, ())))
 (cond (decide (x1 = 11))
 ((vec_two_1__vec_works_10 n x1 x2 x3 x4 x5 x6 x7 x8 x9 x10 x11).bind (fun r22 => some (r22.1, ())))
 (cond (decide (x1 = 12))
 ((vec_asked_1__vec_works_11 n x1 x2 x3 x4 x5 x6 x7 x8 x9 x10 x11).bind (fun r23 => some (r23.1, ())))
 (cond (decide (x1 = 13))
 ((vec_asked_1__vec_works_12 n x1 x2 x3 x4 x5 x6 x7 x8 x9 x10 x11).bind (fun r24 => some (r24.1, ())))
 (cond (decide (x1 = 14))
 ((vec_asked_1__vec_works_13 n x1 x2 x3 x4 x5 x6 x7 x8 x9 x10 x11).bind (fun r25 => some (r25.1, ())))
 (cond (decide (x1 = 15))
 ((vec_asked_1__vec_works_14 n x1 x2 x3 x4 x5 x6 x7 x8 x9 x10 x11).bind (fun r26 => some (r26.1, ())))
 (cond (decide (x1 = 16))
 ((vec_works_15 n x1 x2 x3 x4 x5 x6 x7 x8 x9 x10 x11).bind (fun r27 => some (r27.1, ())))
 (cond (decide (x1 = 17))
 ((vec_works_16 n x1 x2 x3 x4 x5 x6 x7 x8 x9 x10 x11).bind (fun r28 => some (r28.1, ())))
 (cond (decide (x1 = 18))
 ((vec_works_17 n x1 x2 x3 x4 x5 x6 x7 x8 x9 x10 x11).bind (fun r29 => some (r29.1, ())))
 (some (0, ())))))))))))))))))))
def vec_Do_s : Sig := ⟨[.c true [.int .i64, .int .i64, .int .i64, .int .i64, .int .i64, .int .i64, .int .i64], .c false [.int .i64], .c false [.int .i64], .c false [.int .i64], .c false [.int .i64]], [], .c false [.int .i64], []⟩
def vec_Do_a : Ann := .d
noncomputable def vec_Do_c (n : Nat) : Ctr Try.prog := .of Try.func26 n [vec_works_c n, vec_works_1_c n, vec_two_1__vec_works_2_c n, vec_asked_1__vec_works_3_c n, vec_works_4_c n, vec_two_1__vec_works_5_c n, vec_two_1__vec_works_6_c n, vec_two_1__vec_works_7_c n, vec_two_1__vec_works_8_c n, vec_two_1__vec_works_9_c n, vec_two_1__vec_works_10_c n, vec_asked_1__vec_works_11_c n, vec_asked_1__vec_works_12_c n, vec_asked_1__vec_works_13_c n, vec_asked_1__vec_works_14_c n, vec_works_15_c n, vec_works_16_c n, vec_works_17_c n] vec_Do_a vec_Do_s (fun d => vec_Do n d.1 d.2.1 d.2.2.1 d.2.2.2.1 d.2.2.2.2.1 d.2.2.2.2.2.1 d.2.2.2.2.2.2.1 d.2.2.2.2.2.2.2.1 d.2.2.2.2.2.2.2.2.1 d.2.2.2.2.2.2.2.2.2.1 d.2.2.2.2.2.2.2.2.2.2.1) fun d => by kernel_rfl
noncomputable def law14_BlastMeans (n : Nat) (x1 : Int) (x2 : List Kcwww) (x3 : Int) (x4 : Int) (x5 : Int) (x6 : Int) (x7 : Int) (x8 : Int) (x9 : List Int) (x10 : List Int) (x11 : List Int) (x12 : List Bool) : Option (Bool × Unit) :=
 (law14_head n).bind (fun r13 => (law13_Great n x2).bind (fun r14 => cond r14.1
 (some (r13.1, ()))
 ((law13_Made n x1 x2).bind (fun r15 => (law14_widths n x3 x4 x5 x6 x7 x8).bind (fun r16 => (law14_Bits n r15.1 r15.2.1 x9 r16.2.2.2.2.2.2.2.1).bind (fun r17 => (law14_Bits n r15.1 r15.2.1 x10 r16.2.2.2.2.2.2.2.2.1).bind (fun r18 => (law14_Bits n r15.1 r15.2.1 x11 r16.2.2.2.2.2.2.2.2.2.1).bind (fun r19 => (blast_Do n r15.1 r15.2.1 r16.1 r16.2.1 r16.2.2.1 r16.2.2.2.1 r16.2.2.2.2.1 r16.2.2.2.2.2.1 r16.2.2.2.2.2.2.1 r17.1 r18.1 r19.1).bind (fun r20 => (aig_Right n r20.1 r20.2.1).bind (fun r21 => cond (!r21.1)
 (some (false, ()))
 (cond (decide ((r20.2.2.1.length : Int) ≠ r16.2.1))
 (some (false, ()))
 (cond (decide (r20.1 ≠ r15.1))
 (some (false, ()))
 ((law14_right n r20.1 r20.2.1 r20.2.2.1).bind (fun r22 => cond (!r22.1)
 (some (false, ()))
 (cond (decide ((r20.2.1.length : Int) < (r15.2.1.length : Int)))
 (some (false, ()))
 ((law13_Bits n r15.1 r15.2.1 x12).bind (fun r23 => (aig_Eval n r20.1 r20.2.1 r23.1).bind (fun r24 => cond (decide ((r24.1.length : Int) ≠ (IntKind.wrap .i64 ((IntKind.wrap .i64 ((1 : Int) + r20.1)) + (r20.2.1.length : Int)))))
 (some (false, ()))
 (cond r13.1
 ((law14_num n r24.1 r20.2.2.1).bind (fun r25 => (law14_num n r24.1 r17.1).bind (fun r26 => (law14_num n r24.1 r18.1).bind (fun r27 => (law14_num n r24.1 r19.1).bind (fun r28 => (vec_Do n r16.1 r16.2.1 r16.2.2.1 r16.2.2.2.1 r16.2.2.2.2.1 r16.2.2.2.2.2.1 r16.2.2.2.2.2.2.1 r26.1 r27.1 r28.1 r16.2.2.2.2.2.2.2.2.1).bind (fun r29 => some (decide (r25.1 = r29.1), ())))))))
 (some (false, ())))))))))))))))))))))
def law14_BlastMeans_s : Sig := ⟨[.c false [.int .u8], .c false [.row Kcwww_], .c true [.int .u8, .int .u8, .int .u32, .int .u32, .int .u32, .int .u8], .c false [.row u16_], .c false [.row u16_], .c false [.row u16_], .c false [.row b_]], [], .c false [.bool], []⟩
def law14_BlastMeans_a : Ann := .d
noncomputable def law14_BlastMeans_c (n : Nat) : Ctr Try.prog := .of Try.func8 n [law14_head_c n, law13_Great_c n, law13_Made_c n, law14_widths_c n, law14_Bits_c n, blast_Do_c n, aig_Right_c n, law14_right_c n, law13_Bits_c n, aig_Eval_c n, law14_num_c n, vec_Do_c n] law14_BlastMeans_a law14_BlastMeans_s (fun d => law14_BlastMeans n d.1 d.2.1 d.2.2.1 d.2.2.2.1 d.2.2.2.2.1 d.2.2.2.2.2.1 d.2.2.2.2.2.2.1 d.2.2.2.2.2.2.2.1 d.2.2.2.2.2.2.2.2.1 d.2.2.2.2.2.2.2.2.2.1 d.2.2.2.2.2.2.2.2.2.2.1 d.2.2.2.2.2.2.2.2.2.2.2.1) fun d => by kernel_rfl
end Go.Proofs.Ytdnfbihppellkaa.Am
