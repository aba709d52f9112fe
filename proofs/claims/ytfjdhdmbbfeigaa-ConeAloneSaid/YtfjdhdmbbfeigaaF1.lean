/- Functions, executed. -/
import Derived.Test.YtfjdhdmbbfeigaaAm2
import Derived.Test.YtfjdhdmbbfeigaaProg
namespace Go.Proofs.Ytfjdhdmbbfeigaa.Am
set_option linter.unusedVariables false
set_option maxRecDepth 100000
abbrev i_ : Ty := .int .i64
abbrev i32_ : Ty := .int .i32
abbrev i16_ : Ty := .int .i16
abbrev i8_ : Ty := .int .i8
abbrev u_ : Ty := .int .u64
abbrev u32_ : Ty := .int .u32
abbrev u16_ : Ty := .int .u16
abbrev u8_ : Ty := .int .u8
abbrev b_ : Ty := .bool
abbrev s_ : Ty := .str
abbrev Kii_ : Ty := .pr i_ i_
abbrev Kii := Int × Int
abbrev Kiii_ : Ty := .pr i_ Kii_
abbrev Kiii := Int × Int × Int
abbrev Kiiii_ : Ty := .pr i_ Kiii_
abbrev Kiiii := Int × Int × Int × Int
abbrev Kiiiii_ : Ty := .pr i_ Kiiii_
abbrev Kiiiii := Int × Int × Int × Int × Int
abbrev Kiiiiii_ : Ty := .pr i_ Kiiiii_
abbrev Kiiiiii := Int × Int × Int × Int × Int × Int
abbrev Kiiiiiii_ : Ty := .pr i_ Kiiiiii_
abbrev Kiiiiiii := Int × Int × Int × Int × Int × Int × Int
abbrev Ksi_ : Ty := .pr s_ i_
abbrev Ksi := ByteArray × Int
abbrev Ksiii_ : Ty := .pr s_ Kiii_
abbrev Ksiii := ByteArray × Int × Int × Int
abbrev Kisi_ : Ty := .pr i_ Ksi_
abbrev Kisi := Int × ByteArray × Int
abbrev Kbii_ : Ty := .pr b_ Kii_
abbrev Kbii := Bool × Int × Int
abbrev Kibii_ : Ty := .pr i_ Kbii_
abbrev Kibii := Int × Bool × Int × Int
abbrev Kiibii_ : Ty := .pr i_ Kibii_
abbrev Kiibii := Int × Int × Bool × Int × Int
def Kiii_at (l : List Kiii) (i : Int) : Kiii := at_ Kiii_ l i
def Mi_i_put (l : List (Int × Int)) (k : Int) (v : Int) : List (Int × Int) := mput (kt := i_) (vt := i_) l k v
def Mi_i_get (l : List (Int × Int)) (k : Int) (z : Int) : Int := mget (kt := i_) (vt := i_) l k z
def Mi_i_has (l : List (Int × Int)) (k : Int) : Bool := mhas (kt := i_) (vt := i_) l k
def Mi_b_put (l : List (Int × Bool)) (k : Int) (v : Bool) : List (Int × Bool) := mput (kt := i_) (vt := b_) l k v
def Mi_b_get (l : List (Int × Bool)) (k : Int) (z : Bool) : Bool := mget (kt := i_) (vt := b_) l k z
def Mi_b_has (l : List (Int × Bool)) (k : Int) : Bool := mhas (kt := i_) (vt := b_) l k
def Ki_at (l : List Int) (i : Int) : Int := at_ i_ l i
def Kiibii_at (l : List Kiibii) (i : Int) : Kiibii := at_ Kiibii_ l i
def Kii_at (l : List Kii) (i : Int) : Kii := at_ Kii_ l i
abbrev KLPiiE_ : Ty := .sl Kii_
abbrev KLPiiiE_ : Ty := .sl Kiii_
abbrev KLPiibiiE_ : Ty := .sl Kiibii_
abbrev KLPiibiiELPiiiE_ : Ty := .pr KLPiibiiE_ KLPiiiE_
abbrev KLPiibiiELPiiiE := (List Kiibii) × (List Kiii)
abbrev KLPiiiELPiibiiELPiiiE_ : Ty := .pr KLPiiiE_ KLPiibiiELPiiiE_
abbrev KLPiiiELPiibiiELPiiiE := (List Kiii) × (List Kiibii) × (List Kiii)
abbrev KLPiiELPiiiELPiibiiELPiiiE_ : Ty := .pr KLPiiE_ KLPiiiELPiibiiELPiiiE_
abbrev KLPiiELPiiiELPiibiiELPiiiE := (List Kii) × (List Kiii) × (List Kiibii) × (List Kiii)
abbrev KiLPiiELPiiiELPiibiiELPiiiE_ : Ty := .pr i_ KLPiiELPiiiELPiibiiELPiiiE_
abbrev KiLPiiELPiiiELPiibiiELPiiiE := Int × (List Kii) × (List Kiii) × (List Kiibii) × (List Kiii)
abbrev KLb_ : Ty := .sl b_
def KLb_at (l : List (List Bool)) (i : Int) : List Bool := at_ KLb_ l i
def Kb_at (l : List Bool) (i : Int) : Bool := at_ b_ l i
def KiLPiiELPiiiELPiibiiELPiiiE_at (l : List KiLPiiELPiiiELPiibiiELPiiiE) (i : Int) : KiLPiiELPiiiELPiibiiELPiiiE := at_ KiLPiiELPiiiELPiibiiELPiiiE_ l i
abbrev KLi_ : Ty := .sl i_
def KLi_at (l : List (List Int)) (i : Int) : List Int := at_ KLi_ l i
def Kiiiiiii_at (l : List Kiiiiiii) (i : Int) : Kiiiiiii := at_ Kiiiiiii_ l i
def Ksi_at (l : List Ksi) (i : Int) : Ksi := at_ Ksi_ l i
def Ksiii_at (l : List Ksiii) (i : Int) : Ksiii := at_ Ksiii_ l i
def Kisi_at (l : List Kisi) (i : Int) : Kisi := at_ Kisi_ l i
def Mi_Li_put (l : List (Int × (List Int))) (k : Int) (v : List Int) : List (Int × (List Int)) := mput (kt := i_) (vt := KLi_) l k v
def Mi_Li_get (l : List (Int × (List Int))) (k : Int) (z : List Int) : List Int := mget (kt := i_) (vt := KLi_) l k z
def Mi_Li_has (l : List (Int × (List Int))) (k : Int) : Bool := mhas (kt := i_) (vt := KLi_) l k
abbrev KLiLi_ : Ty := .pr KLi_ KLi_
abbrev KLiLi := (List Int) × (List Int)
abbrev KLiLiLi_ : Ty := .pr KLi_ KLiLi_
abbrev KLiLiLi := (List Int) × (List Int) × (List Int)
abbrev KiLiLiLi_ : Ty := .pr i_ KLiLiLi_
abbrev KiLiLiLi := Int × (List Int) × (List Int) × (List Int)
abbrev KiiLiLiLi_ : Ty := .pr i_ KiLiLiLi_
abbrev KiiLiLiLi := Int × Int × (List Int) × (List Int) × (List Int)
abbrev KiiiLiLiLi_ : Ty := .pr i_ KiiLiLiLi_
abbrev KiiiLiLiLi := Int × Int × Int × (List Int) × (List Int) × (List Int)
abbrev KiiiiLiLiLi_ : Ty := .pr i_ KiiiLiLiLi_
abbrev KiiiiLiLiLi := Int × Int × Int × Int × (List Int) × (List Int) × (List Int)
abbrev KiiiiiLiLiLi_ : Ty := .pr i_ KiiiiLiLiLi_
abbrev KiiiiiLiLiLi := Int × Int × Int × Int × Int × (List Int) × (List Int) × (List Int)
abbrev KiiiiiiLiLiLi_ : Ty := .pr i_ KiiiiiLiLiLi_
abbrev KiiiiiiLiLiLi := Int × Int × Int × Int × Int × Int × (List Int) × (List Int) × (List Int)
abbrev KiiiiiiiLiLiLi_ : Ty := .pr i_ KiiiiiiLiLiLi_
abbrev KiiiiiiiLiLiLi := Int × Int × Int × Int × Int × Int × Int × (List Int) × (List Int) × (List Int)
abbrev KLPiiEiiiiiiiLiLiLi_ : Ty := .pr KLPiiE_ KiiiiiiiLiLiLi_
abbrev KLPiiEiiiiiiiLiLiLi := (List Kii) × Int × Int × Int × Int × Int × Int × Int × (List Int) × (List Int) × (List Int)
abbrev KiLPiiEiiiiiiiLiLiLi_ : Ty := .pr i_ KLPiiEiiiiiiiLiLiLi_
abbrev KiLPiiEiiiiiiiLiLiLi := Int × (List Kii) × Int × Int × Int × Int × Int × Int × Int × (List Int) × (List Int) × (List Int)
def KiLPiiEiiiiiiiLiLiLi_at (l : List KiLPiiEiiiiiiiLiLiLi) (i : Int) : KiLPiiEiiiiiiiLiLiLi := at_ KiLPiiEiiiiiiiLiLiLi_ l i
def Mii_b_put (l : List (Kii × Bool)) (k : Kii) (v : Bool) : List (Kii × Bool) := mput (kt := Kii_) (vt := b_) l k v
def Mii_b_get (l : List (Kii × Bool)) (k : Kii) (z : Bool) : Bool := mget (kt := Kii_) (vt := b_) l k z
def Mii_b_has (l : List (Kii × Bool)) (k : Kii) : Bool := mhas (kt := Kii_) (vt := b_) l k
noncomputable def law16_Some (n : Nat) : Option (Int × List Kii × List Kiii × List Kiibii × List Kiii × Unit) :=
 some (4, ([(4, 9), (3, 5)] : List Kii), ([(1, 0, 0)] : List Kiii), ([(2, 2, true, 0, 0), (3, 7, false, 1, 0), (4, 0, false, 2, 0)] : List Kiibii), ([(8, 10, 0), (10, 6, 1), (9, 13, 2)] : List Kiii), ())
def law16_Some_s : Sig := ⟨[], [], .c true [.int .i64, .row Kii_, .row Kiii_, .row Kiibii_, .row Kiii_], []⟩
def law16_Some_a : Ann := .d
noncomputable def law16_Some_c (n : Nat) : Ctr Try.prog := .of Try.func30 n [] law16_Some_a law16_Some_s (fun d => law16_Some n) fun d => by kernel_rfl
noncomputable def cone_hung_1__cone_hung_1_j1 (n : Nat) (x1 : Int) (x4 : List Kiii) (x5 : List Kiibii) : Option ((Bool × Unit)) :=
 cond (decide ((0 : Int) ≤ (IntKind.wrap .i64 ((IntKind.wrap .i64 ((IntKind.wrap .i64 (Int.tdiv x1 2)) - (x4.length : Int))) - 1))))
 (some (decide ((IntKind.wrap .i64 ((IntKind.wrap .i64 ((IntKind.wrap .i64 (Int.tdiv x1 2)) - (x4.length : Int))) - 1)) < (x5.length : Int)), ()))
 (some (false, ()))
noncomputable def cone_hung_1__cone_hung_1_b (n : Nat) (rec_ : (Int) → (Int) → (List Kii) → (List Kiii) → (List Kiibii) → (List Kiii) → (List (Int × Bool)) → Option (Int × List Kii × List Kiii × List Kiibii × List Kiii × List (Int × Bool) × Unit)) (x1 : Int) (x2 : Int) (x3 : List Kii) (x4 : List Kiii) (x5 : List Kiibii) (x6 : List Kiii) (x7 : List (Int × Bool)) : Option (Int × List Kii × List Kiii × List Kiibii × List Kiii × List (Int × Bool) × Unit) :=
 ask ((2 : Int) ≠ 0) (ask (True) (cond (Mi_b_get x7 (IntKind.wrap .i64 (Int.tdiv x1 2)) false)
 (some (x2, x3, x4, x5, x6, x7, ()))
 ((cone_hung_1__cone_hung_1_j1 n x1 x4 x5).bind (fun d8 => cond d8.1
 (ask (0 ≤ (IntKind.wrap .i64 ((IntKind.wrap .i64 ((IntKind.wrap .i64 (Int.tdiv x1 2)) - (x4.length : Int))) - 1)) ∧ IntKind.wrap .i64 ((IntKind.wrap .i64 ((IntKind.wrap .i64 (Int.tdiv x1 2)) - (x4.length : Int))) - 1) < (x5.length : Int)) ((rec_ (((Kiibii_at x5 (IntKind.wrap .i64 ((IntKind.wrap .i64 ((IntKind.wrap .i64 (Int.tdiv x1 2)) - (x4.length : Int))) - 1))).2).1) x2 x3 x4 x5 x6 (Mi_b_put x7 (IntKind.wrap .i64 (Int.tdiv x1 2)) true)).bind (fun r9 => some (r9.1, r9.2.1, r9.2.2.1, r9.2.2.2.1, r9.2.2.2.2.1, r9.2.2.2.2.2.1, ()))))
 (cond (decide ((x5.length : Int) ≤ (IntKind.wrap .i64 ((IntKind.wrap .i64 ((IntKind.wrap .i64 (Int.tdiv x1 2)) - (x4.length : Int))) - 1))))
 (ask (0 ≤ (IntKind.wrap .i64 ((IntKind.wrap .i64 ((IntKind.wrap .i64 (Int.tdiv x1 2)) - x2)) - 1)) ∧ IntKind.wrap .i64 ((IntKind.wrap .i64 ((IntKind.wrap .i64 (Int.tdiv x1 2)) - x2)) - 1) < (x3.length : Int)) (ask (0 < 2) ((rec_ ((Kii_at x3 (IntKind.wrap .i64 ((IntKind.wrap .i64 ((IntKind.wrap .i64 (Int.tdiv x1 2)) - x2)) - 1))).1) x2 x3 x4 x5 x6 (Mi_b_put x7 (IntKind.wrap .i64 (Int.tdiv x1 2)) true)).bind (fun r10 => ask (1 < 2) ((rec_ ((Kii_at x3 (IntKind.wrap .i64 ((IntKind.wrap .i64 ((IntKind.wrap .i64 (Int.tdiv x1 2)) - x2)) - 1))).2) r10.1 r10.2.1 r10.2.2.1 r10.2.2.2.1 r10.2.2.2.2.1 r10.2.2.2.2.2.1).bind (fun r11 => some (r11.1, r11.2.1, r11.2.2.1, r11.2.2.2.1, r11.2.2.2.2.1, r11.2.2.2.2.2.1, ())))))))
 (some (x2, x3, x4, x5, x6, Mi_b_put x7 (IntKind.wrap .i64 (Int.tdiv x1 2)) true, ())))))))
noncomputable def cone_hung_1__cone_hung_1_k (n : Nat) : Nat → (Int) → (Int) → (List Kii) → (List Kiii) → (List Kiibii) → (List Kiii) → (List (Int × Bool)) → Option (Int × List Kii × List Kiii × List Kiibii × List Kiii × List (Int × Bool) × Unit)
  | 0 => fun _ _ _ _ _ _ _ => none
  | k + 1 => cone_hung_1__cone_hung_1_b n (cone_hung_1__cone_hung_1_k n k)
noncomputable def cone_hung_1__cone_hung_1 (n : Nat) (x1 : Int) (x2 : Int) (x3 : List Kii) (x4 : List Kiii) (x5 : List Kiibii) (x6 : List Kiii) (x7 : List (Int × Bool)) : Option (Int × List Kii × List Kiii × List Kiibii × List Kiii × List (Int × Bool) × Unit) := cone_hung_1__cone_hung_1_k n n x1 x2 x3 x4 x5 x6 x7
def cone_hung_1__cone_hung_1_s : Sig := ⟨[.c false [.int .i64], .c false [.con (.ptr 0 0)], .c false [.con (.ptr 1 0)], .c false [.con (.ptr 2 0)]], [(0, .var 129 [.con (.map 3)]), (1, .var 35 [.int .i64, .row Kii_, .row Kiii_, .row Kiibii_, .row Kiii_]), (2, .var 130 [.con (.fn 85 [(0, 0), (1, 0), (2, 0)])]), (3, .map false i_ false b_)], .t [], [(0, .var 129 [.con (.map 3)]), (1, .var 35 [.int .i64, .row Kii_, .row Kiii_, .row Kiibii_, .row Kiii_]), (2, .var 130 [.con (.fn 85 [(0, 0), (1, 0), (2, 0)])]), (3, .map false i_ false b_)]⟩
def cone_hung_1__cone_hung_1_a : Ann := .s .d (.s .d (.s .d (.s .d (.j [21, 22, 23, 24, 25, 26, 27, 28, 29] [] [(.normal, ⟨[(29, .c false [.bool])], []⟩)] .d .d))))
theorem cone_hung_1__cone_hung_1_ok (n : Nat) : ∀ (k : Nat) (d : cone_hung_1__cone_hung_1_s.I) (r : cone_hung_1__cone_hung_1_s.O), cone_hung_1__cone_hung_1_k n k d.1 d.2.1 d.2.2.1 d.2.2.2.1 d.2.2.2.2.1 d.2.2.2.2.2.1 d.2.2.2.2.2.2.1 = some r → Spec Try.prog (.fn 85) (cone_hung_1__cone_hung_1_s.args d) (cone_hung_1__cone_hung_1_s.bl d) (cone_hung_1__cone_hung_1_s.res r) (cone_hung_1__cone_hung_1_s.bl' r) := by
  intro k
  induction k with
  | zero => intro d r h; cases h
  | succ k ih => exact (Ctr.of Try.func85 n [⟨.fn 85, cone_hung_1__cone_hung_1_s, fun d => cone_hung_1__cone_hung_1_k n k d.1 d.2.1 d.2.2.1 d.2.2.2.1 d.2.2.2.2.1 d.2.2.2.2.2.1 d.2.2.2.2.2.2.1, ih⟩] cone_hung_1__cone_hung_1_a cone_hung_1__cone_hung_1_s (fun d => cone_hung_1__cone_hung_1_b n (cone_hung_1__cone_hung_1_k n k) d.1 d.2.1 d.2.2.1 d.2.2.2.1 d.2.2.2.2.1 d.2.2.2.2.2.1 d.2.2.2.2.2.2.1) (fun d => by kernel_rfl)).ok
noncomputable def cone_hung_1__cone_hung_1_c (n : Nat) : Ctr Try.prog := ⟨.fn 85, cone_hung_1__cone_hung_1_s, fun d => cone_hung_1__cone_hung_1 n d.1 d.2.1 d.2.2.1 d.2.2.2.1 d.2.2.2.2.1 d.2.2.2.2.2.1 d.2.2.2.2.2.2.1, fun d r h => cone_hung_1__cone_hung_1_ok n n d r h⟩
noncomputable def cone_hung_o_l1b (n : Nat) (x6 : List Int) (self : Int × Int × List Kii × List Kiii × List Kiibii × List Kiii × List (Int × Bool) × Unit → Option ((Int × List Kii × List Kiii × List Kiibii × List Kiii × List (Int × Bool) × Unit))) (d9 : Int × Int × List Kii × List Kiii × List Kiibii × List Kiii × List (Int × Bool) × Unit) : Option ((Int × List Kii × List Kiii × List Kiibii × List Kiii × List (Int × Bool) × Unit)) :=
 cond (decide (d9.1 < (x6.length : Int)))
 (ask (0 ≤ d9.1 ∧ d9.1 < (x6.length : Int)) ((cone_hung_1__cone_hung_1 n (Ki_at x6 d9.1) d9.2.1 d9.2.2.1 d9.2.2.2.1 d9.2.2.2.2.1 d9.2.2.2.2.2.1 d9.2.2.2.2.2.2.1).bind (fun r10 => self (IntKind.wrap .i64 (d9.1 + 1), r10.1, r10.2.1, r10.2.2.1, r10.2.2.2.1, r10.2.2.2.2.1, r10.2.2.2.2.2.1, ()))))
 (some (d9.2.1, d9.2.2.1, d9.2.2.2.1, d9.2.2.2.2.1, d9.2.2.2.2.2.1, d9.2.2.2.2.2.2.1, ()))
noncomputable def cone_hung_o_l1 (n : Nat) (x6 : List Int) : Int × Int × List Kii × List Kiii × List Kiibii × List Kiii × List (Int × Bool) × Unit → Option ((Int × List Kii × List Kiii × List Kiibii × List Kiii × List (Int × Bool) × Unit)) := iter (cone_hung_o_l1b n x6) n
noncomputable def cone_hung_o_l2b (n : Nat) (d11 : Int × List Kii × List Kiii × List Kiibii × List Kiii × List (Int × Bool) × Unit) (self : Int × Int × List Kii × List Kiii × List Kiibii × List Kiii × List (Int × Int) × Unit → Option ((Int × List Kii × List Kiii × List Kiibii × List Kiii × List (Int × Int) × Unit))) (d14 : Int × Int × List Kii × List Kiii × List Kiibii × List Kiii × List (Int × Int) × Unit) : Option ((Int × List Kii × List Kiii × List Kiibii × List Kiii × List (Int × Int) × Unit)) :=
 cond (decide (d14.1 ≤ (IntKind.wrap .i64 (d11.1 + (d11.2.1.length : Int)))))
 (ask (True) (cond (Mi_b_get d11.2.2.2.2.2.1 d14.1 false)
 (self (IntKind.wrap .i64 (d14.1 + 1), d14.2.1, d14.2.2.1, d14.2.2.2.1, d14.2.2.2.2.1, d14.2.2.2.2.2.1, Mi_i_put d14.2.2.2.2.2.2.1 d14.1 (d14.2.2.2.2.2.2.1.length : Int), ()))
 (self (IntKind.wrap .i64 (d14.1 + 1), d14.2.1, d14.2.2.1, d14.2.2.2.1, d14.2.2.2.2.1, d14.2.2.2.2.2.1, d14.2.2.2.2.2.2.1, ()))))
 (some (d14.2.1, d14.2.2.1, d14.2.2.2.1, d14.2.2.2.2.1, d14.2.2.2.2.2.1, d14.2.2.2.2.2.2.1, ()))
noncomputable def cone_hung_o_l2 (n : Nat) (d11 : Int × List Kii × List Kiii × List Kiibii × List Kiii × List (Int × Bool) × Unit) : Int × Int × List Kii × List Kiii × List Kiibii × List Kiii × List (Int × Int) × Unit → Option ((Int × List Kii × List Kiii × List Kiibii × List Kiii × List (Int × Int) × Unit)) := iter (cone_hung_o_l2b n d11) n
noncomputable def cone_hung_o (n : Nat) (x1 : Int) (x2 : List Kii) (x3 : List Kiii) (x4 : List Kiibii) (x5 : List Kiii) (x6 : List Int) : Option (Int × List Kii × List Kiii × List Kiibii × List Kiii × List (Int × Int) × Unit) :=
 (cone_hung_o_l1 n x6 (0, x1, x2, x3, x4, x5, Mi_b_put ([] : List (Int × Bool)) 0 true, ())).bind (fun d11 => (cone_hung_o_l2 n d11 (1, x1, x2, x3, x4, x5, Mi_i_put ([] : List (Int × Int)) 0 0, ())).bind (fun d15 => some (d15.1, d15.2.1, d15.2.2.1, d15.2.2.2.1, d15.2.2.2.2.1, d15.2.2.2.2.2.1, ())))
def cone_hung_o_s : Sig := ⟨[.c true [.int .i64, .row Kii_, .row Kiii_, .row Kiibii_, .row Kiii_], .c false [.row i_]], [], .c true [.int .i64, .row Kii_, .row Kiii_, .row Kiibii_, .row Kiii_, .con (.map 229)], [(229, .map false i_ false i_)]⟩
def cone_hung_o_a : Ann := .s .d (.s .d (.s .d (.s .d (.s .d (.s (.s .d (.b (.l [2, 6, 7, 9, 15, 16, 17, 20, 21, 22, 23, 24, 25, 26, 27] [100, 486, 678, 679] ⟨[(2, .c false [.con (.ptr 100 0)]), (6, .c false [.con (.ptr 678 0)]), (7, .c false [.con (.ptr 679 0)]), (20, .c false [.int .i64])], [(100, .var 35 [.int .i64, .row Kii_, .row Kiii_, .row Kiibii_, .row Kiii_]), (678, .var 129 [.con (.map 486)]), (679, .var 130 [.con (.fn 85 [(678, 0), (100, 0), (679, 0)])]), (486, .map false i_ false b_)]⟩ [(.exit 0, ⟨[(2, .c false [.con (.ptr 100 0)]), (6, .c false [.con (.ptr 678 0)])], [(100, .var 35 [.int .i64, .row Kii_, .row Kiii_, .row Kiibii_, .row Kiii_]), (678, .var 129 [.con (.map 486)]), (486, .map false i_ false b_)]⟩)] .d))) (.s (.s .d (.b (.l [5, 10, 12, 13, 14, 28, 29, 30, 31, 32, 33, 34, 35, 36, 37, 38, 39, 40, 41, 42, 43, 44, 45, 46, 47, 48] [229, 485] ⟨[(5, .c false [.con (.ptr 485 0)]), (10, .c false [.int .i64])], [(485, .var 97 [.int .i64, .row Kii_, .row Kiii_, .row Kiibii_, .row Kiii_, .con (.map 229)]), (229, .map false i_ false i_)]⟩ [(.exit 2, ⟨[(5, .c false [.con (.ptr 485 0)])], [(485, .var 97 [.int .i64, .row Kii_, .row Kiii_, .row Kiibii_, .row Kiii_, .con (.map 229)]), (229, .map false i_ false i_)]⟩)] .d))) .d))))))
noncomputable def cone_hung_o_c (n : Nat) : Ctr Try.prog := .of Try.func48 n [cone_hung_1__cone_hung_1_c n] cone_hung_o_a cone_hung_o_s (fun d => cone_hung_o n d.1 d.2.1 d.2.2.1 d.2.2.2.1 d.2.2.2.2.1 d.2.2.2.2.2.1) fun d => by kernel_rfl
noncomputable def cone_parts_has (n : Nat) (x1 : Int) (x2 : List Kii) (x3 : List Kiii) (x4 : List Kiibii) (x5 : List Kiii) (x6 : Int) (x7 : List (Int × Int)) : Option (Bool × List (Int × Int) × Unit) :=
 ask (True) (some (Mi_i_has x7 x6, x7, ()))
def cone_parts_has_s : Sig := ⟨[.c true [.int .i64, .row Kii_, .row Kiii_, .row Kiibii_, .row Kiii_, .con (.map 0)], .c false [.int .i64]], [(0, .map false i_ false i_)], .c false [.bool], [(0, .map false i_ false i_)]⟩
def cone_parts_has_a : Ann := .d
noncomputable def cone_parts_has_c (n : Nat) : Ctr Try.prog := .of Try.func86 n [] cone_parts_has_a cone_parts_has_s (fun d => cone_parts_has n d.1 d.2.1 d.2.2.1 d.2.2.2.1 d.2.2.2.2.1 d.2.2.2.2.2.1 d.2.2.2.2.2.2.1) fun d => by kernel_rfl
noncomputable def cone_parts_lit (n : Nat) (x1 : Int) (x2 : List Kii) (x3 : List Kiii) (x4 : List Kiibii) (x5 : List Kiii) (x6 : Int) (x7 : List (Int × Int)) : Option (Int × List (Int × Int) × Unit) :=
 ask ((2 : Int) ≠ 0) (ask (True) (some (IntKind.wrap .i64 ((IntKind.wrap .i64 ((2 : Int) * (Mi_i_get x7 (IntKind.wrap .i64 (Int.tdiv x6 2)) 0))) + (bits .and .i64 x6 1)), x7, ())))
def cone_parts_lit_s : Sig := ⟨[.c true [.int .i64, .row Kii_, .row Kiii_, .row Kiibii_, .row Kiii_, .con (.map 0)], .c false [.int .i64]], [(0, .map false i_ false i_)], .c false [.int .i64], [(0, .map false i_ false i_)]⟩
def cone_parts_lit_a : Ann := .d
noncomputable def cone_parts_lit_c (n : Nat) : Ctr Try.prog := .of Try.func87 n [] cone_parts_lit_a cone_parts_lit_s (fun d => cone_parts_lit n d.1 d.2.1 d.2.2.1 d.2.2.2.1 d.2.2.2.2.1 d.2.2.2.2.2.1 d.2.2.2.2.2.2.1) fun d => by kernel_rfl
noncomputable def cone_parts_keep_o_l1b (n : Nat) (x3 : List Kiii) (self : Int × List (Int × Int) × Int × List Kii × List Kiii × List Kiibii × List Kiii × Int × List Kiii × Unit → Option ((List (Int × Int) × Int × List Kii × List Kiii × List Kiibii × List Kiii × Int × List Kiii × Unit))) (d11 : Int × List (Int × Int) × Int × List Kii × List Kiii × List Kiibii × List Kiii × Int × List Kiii × Unit) : Option ((List (Int × Int) × Int × List Kii × List Kiii × List Kiibii × List Kiii × Int × List Kiii × Unit)) :=
 cond (decide (d11.1 < (x3.length : Int)))
 (ask (0 ≤ d11.1 ∧ d11.1 < (x3.length : Int)) (ask (0 < 3) ((cone_parts_has n d11.2.2.1 d11.2.2.2.1 d11.2.2.2.2.1 d11.2.2.2.2.2.1 d11.2.2.2.2.2.2.1 ((Kiii_at x3 d11.1).1) d11.2.1).bind (fun r12 => cond r12.1
 (ask (0 < 3) (ask (True) (ask (1 < 3) (ask (2 < 3) (ask (True ∧ (d11.2.2.2.2.2.2.2.2.1.length + (([(Mi_i_get r12.2.1 ((Kiii_at x3 d11.1).1) 0, ((Kiii_at x3 d11.1).2).1, ((Kiii_at x3 d11.1).2).2)] : List Kiii)).length) * 24 ≤ 140737488355328) (self (IntKind.wrap .i64 (d11.1 + 1), r12.2.1, d11.2.2.1, d11.2.2.2.1, d11.2.2.2.2.1, d11.2.2.2.2.2.1, d11.2.2.2.2.2.2.1, d11.2.2.2.2.2.2.2.1, d11.2.2.2.2.2.2.2.2.1 ++ ([(Mi_i_get r12.2.1 ((Kiii_at x3 d11.1).1) 0, ((Kiii_at x3 d11.1).2).1, ((Kiii_at x3 d11.1).2).2)] : List Kiii), ())))))))
 (self (IntKind.wrap .i64 (d11.1 + 1), r12.2.1, d11.2.2.1, d11.2.2.2.1, d11.2.2.2.2.1, d11.2.2.2.2.2.1, d11.2.2.2.2.2.2.1, d11.2.2.2.2.2.2.2.1, d11.2.2.2.2.2.2.2.2.1, ()))))))
 (some (d11.2.1, d11.2.2.1, d11.2.2.2.1, d11.2.2.2.2.1, d11.2.2.2.2.2.1, d11.2.2.2.2.2.2.1, d11.2.2.2.2.2.2.2.1, d11.2.2.2.2.2.2.2.2.1, ()))
noncomputable def cone_parts_keep_o_l1 (n : Nat) (x3 : List Kiii) : Int × List (Int × Int) × Int × List Kii × List Kiii × List Kiibii × List Kiii × Int × List Kiii × Unit → Option ((List (Int × Int) × Int × List Kii × List Kiii × List Kiibii × List Kiii × Int × List Kiii × Unit)) := iter (cone_parts_keep_o_l1b n x3) n
noncomputable def cone_parts_keep_o_l2b (n : Nat) (d13 : List (Int × Int) × Int × List Kii × List Kiii × List Kiibii × List Kiii × Int × List Kiii × Unit) (self : Int × List (Int × Int) × Int × List Kii × List Kiii × List Kiibii × List Kiii × Int × List Int × List Kiibii × Unit → Option ((List (Int × Int) × Int × List Kii × List Kiii × List Kiibii × List Kiii × Int × List Int × List Kiibii × Unit))) (d17 : Int × List (Int × Int) × Int × List Kii × List Kiii × List Kiibii × List Kiii × Int × List Int × List Kiibii × Unit) : Option ((List (Int × Int) × Int × List Kii × List Kiii × List Kiibii × List Kiii × Int × List Int × List Kiibii × Unit)) :=
 cond (decide (d17.1 < (d13.2.2.2.2.1.length : Int)))
 (ask (0 ≤ d17.1 ∧ d17.1 < (d13.2.2.2.2.1.length : Int)) ((cone_parts_has n d17.2.2.1 d17.2.2.2.1 d17.2.2.2.2.1 d17.2.2.2.2.2.1 d17.2.2.2.2.2.2.1 ((Kiibii_at d13.2.2.2.2.1 d17.1).1) d17.2.1).bind (fun r18 => cond r18.1
 (ask (True) ((cone_parts_lit n d17.2.2.1 d17.2.2.2.1 d17.2.2.2.2.1 d17.2.2.2.2.2.1 d17.2.2.2.2.2.2.1 (((Kiibii_at d13.2.2.2.2.1 d17.1).2).1) r18.2.1).bind (fun r19 => ask (eqM i_ i_ r19.2.1 r18.2.1 = true) (ask (True ∧ (d17.2.2.2.2.2.2.2.2.2.1.length + (([(Mi_i_get r18.2.1 ((Kiibii_at d13.2.2.2.2.1 d17.1).1) 0, r19.1, (((Kiibii_at d13.2.2.2.2.1 d17.1).2).2).1, ((((Kiibii_at d13.2.2.2.2.1 d17.1).2).2).2).1, ((((Kiibii_at d13.2.2.2.2.1 d17.1).2).2).2).2)] : List Kiibii)).length) * 40 ≤ 140737488355328) (ask (True ∧ (d17.2.2.2.2.2.2.2.2.1.length + (([d17.1] : List Int)).length) * 8 ≤ 140737488355328) (self (IntKind.wrap .i64 (d17.1 + 1), r18.2.1, d17.2.2.1, d17.2.2.2.1, d17.2.2.2.2.1, d17.2.2.2.2.2.1, d17.2.2.2.2.2.2.1, d17.2.2.2.2.2.2.2.1, d17.2.2.2.2.2.2.2.2.1 ++ ([d17.1] : List Int), d17.2.2.2.2.2.2.2.2.2.1 ++ ([(Mi_i_get r18.2.1 ((Kiibii_at d13.2.2.2.2.1 d17.1).1) 0, r19.1, (((Kiibii_at d13.2.2.2.2.1 d17.1).2).2).1, ((((Kiibii_at d13.2.2.2.2.1 d17.1).2).2).2).1, ((((Kiibii_at d13.2.2.2.2.1 d17.1).2).2).2).2)] : List Kiibii), ())))))))
 (self (IntKind.wrap .i64 (d17.1 + 1), r18.2.1, d17.2.2.1, d17.2.2.2.1, d17.2.2.2.2.1, d17.2.2.2.2.2.1, d17.2.2.2.2.2.2.1, d17.2.2.2.2.2.2.2.1, d17.2.2.2.2.2.2.2.2.1, d17.2.2.2.2.2.2.2.2.2.1, ())))))
 (some (d17.2.1, d17.2.2.1, d17.2.2.2.1, d17.2.2.2.2.1, d17.2.2.2.2.2.1, d17.2.2.2.2.2.2.1, d17.2.2.2.2.2.2.2.1, d17.2.2.2.2.2.2.2.2.1, d17.2.2.2.2.2.2.2.2.2.1, ()))
noncomputable def cone_parts_keep_o_l2 (n : Nat) (d13 : List (Int × Int) × Int × List Kii × List Kiii × List Kiibii × List Kiii × Int × List Kiii × Unit) : Int × List (Int × Int) × Int × List Kii × List Kiii × List Kiibii × List Kiii × Int × List Int × List Kiibii × Unit → Option ((List (Int × Int) × Int × List Kii × List Kiii × List Kiibii × List Kiii × Int × List Int × List Kiibii × Unit)) := iter (cone_parts_keep_o_l2b n d13) n
noncomputable def cone_parts_keep_o_l3b (n : Nat) (d20 : List (Int × Int) × Int × List Kii × List Kiii × List Kiibii × List Kiii × Int × List Int × List Kiibii × Unit) (self : Int × List (Int × Int) × Int × List Kii × List Kiii × List Kiibii × List Kiii × Int × List Kii × Unit → Option ((List (Int × Int) × Int × List Kii × List Kiii × List Kiibii × List Kiii × Int × List Kii × Unit))) (d24 : Int × List (Int × Int) × Int × List Kii × List Kiii × List Kiibii × List Kiii × Int × List Kii × Unit) : Option ((List (Int × Int) × Int × List Kii × List Kiii × List Kiibii × List Kiii × Int × List Kii × Unit)) :=
 cond (decide (d24.1 < (d20.2.2.1.length : Int)))
 (ask (0 ≤ d24.1 ∧ d24.1 < (d20.2.2.1.length : Int)) ((cone_parts_has n d24.2.2.1 d24.2.2.2.1 d24.2.2.2.2.1 d24.2.2.2.2.2.1 d24.2.2.2.2.2.2.1 (IntKind.wrap .i64 ((IntKind.wrap .i64 (d24.2.2.1 + d24.1)) + 1)) d24.2.1).bind (fun r25 => cond r25.1
 (ask (0 < 2) ((cone_parts_lit n d24.2.2.1 d24.2.2.2.1 d24.2.2.2.2.1 d24.2.2.2.2.2.1 d24.2.2.2.2.2.2.1 ((Kii_at d20.2.2.1 d24.1).1) r25.2.1).bind (fun r26 => ask (eqM i_ i_ r26.2.1 r25.2.1 = true) (ask (1 < 2) ((cone_parts_lit n d24.2.2.1 d24.2.2.2.1 d24.2.2.2.2.1 d24.2.2.2.2.2.1 d24.2.2.2.2.2.2.1 ((Kii_at d20.2.2.1 d24.1).2) r25.2.1).bind (fun r27 => ask (eqM i_ i_ r27.2.1 r25.2.1 = true) (ask (True ∧ (d24.2.2.2.2.2.2.2.2.1.length + (([(r26.1, r27.1)] : List Kii)).length) * 16 ≤ 140737488355328) (self (IntKind.wrap .i64 (d24.1 + 1), r25.2.1, d24.2.2.1, d24.2.2.2.1, d24.2.2.2.2.1, d24.2.2.2.2.2.1, d24.2.2.2.2.2.2.1, d24.2.2.2.2.2.2.2.1, d24.2.2.2.2.2.2.2.2.1 ++ ([(r26.1, r27.1)] : List Kii), ())))))))))
 (self (IntKind.wrap .i64 (d24.1 + 1), r25.2.1, d24.2.2.1, d24.2.2.2.1, d24.2.2.2.2.1, d24.2.2.2.2.2.1, d24.2.2.2.2.2.2.1, d24.2.2.2.2.2.2.2.1, d24.2.2.2.2.2.2.2.2.1, ())))))
 (some (d24.2.1, d24.2.2.1, d24.2.2.2.1, d24.2.2.2.2.1, d24.2.2.2.2.2.1, d24.2.2.2.2.2.2.1, d24.2.2.2.2.2.2.2.1, d24.2.2.2.2.2.2.2.2.1, ()))
noncomputable def cone_parts_keep_o_l3 (n : Nat) (d20 : List (Int × Int) × Int × List Kii × List Kiii × List Kiibii × List Kiii × Int × List Int × List Kiibii × Unit) : Int × List (Int × Int) × Int × List Kii × List Kiii × List Kiibii × List Kiii × Int × List Kii × Unit → Option ((List (Int × Int) × Int × List Kii × List Kiii × List Kiibii × List Kiii × Int × List Kii × Unit)) := iter (cone_parts_keep_o_l3b n d20) n
noncomputable def cone_parts_keep_o_l4b (n : Nat) (x6 : List Kiii) (self : Int × List (Int × Int) × Int × List Kii × List Kiii × List Kiibii × List Kiii × Int × List Kiii × Unit → Option ((List (Int × Int) × Int × List Kiii × Unit))) (d32 : Int × List (Int × Int) × Int × List Kii × List Kiii × List Kiibii × List Kiii × Int × List Kiii × Unit) : Option ((List (Int × Int) × Int × List Kiii × Unit)) :=
 cond (decide (d32.1 < (x6.length : Int)))
 (ask (0 ≤ d32.1 ∧ d32.1 < (x6.length : Int)) ((cone_parts_lit n d32.2.2.1 d32.2.2.2.1 d32.2.2.2.2.1 d32.2.2.2.2.2.1 d32.2.2.2.2.2.2.1 (((Kiii_at x6 d32.1).2).1) d32.2.1).bind (fun r33 => ask (True ∧ (d32.2.2.2.2.2.2.2.2.1.length + (([((Kiii_at x6 d32.1).1, r33.1, ((Kiii_at x6 d32.1).2).2)] : List Kiii)).length) * 24 ≤ 140737488355328) (self (IntKind.wrap .i64 (d32.1 + 1), r33.2.1, d32.2.2.1, d32.2.2.2.1, d32.2.2.2.2.1, d32.2.2.2.2.2.1, d32.2.2.2.2.2.2.1, d32.2.2.2.2.2.2.2.1, d32.2.2.2.2.2.2.2.2.1 ++ ([((Kiii_at x6 d32.1).1, r33.1, ((Kiii_at x6 d32.1).2).2)] : List Kiii), ())))))
 (some (d32.2.1, d32.2.2.2.2.2.2.2.1, d32.2.2.2.2.2.2.2.2.1, ()))
noncomputable def cone_parts_keep_o_l4 (n : Nat) (x6 : List Kiii) : Int × List (Int × Int) × Int × List Kii × List Kiii × List Kiibii × List Kiii × Int × List Kiii × Unit → Option ((List (Int × Int) × Int × List Kiii × Unit)) := iter (cone_parts_keep_o_l4b n x6) n
noncomputable def cone_parts_keep_o (n : Nat) (x1 : Int) (x2 : List Kii) (x3 : List Kiii) (x4 : List Kiibii) (x5 : List Kiii) (x6 : List Kiii) (x7 : List (Int × Int)) : Option (Int × List (Int × Int) × List Kii × List Kiii × List Kiibii × List Kiii × List Int × Unit) :=
 (cone_parts_keep_o_l1 n x3 (0, x7, x1, x2, x3, x4, x5, 0, ([] : List Kiii), ())).bind (fun d13 => (cone_parts_keep_o_l2 n d13 (0, d13.1, d13.2.1, d13.2.2.1, d13.2.2.2.1, d13.2.2.2.2.1, d13.2.2.2.2.2.1, d13.2.2.2.2.2.2.1, ([] : List Int), ([] : List Kiibii), ())).bind (fun d20 => (cone_parts_keep_o_l3 n d20 (0, d20.1, d20.2.1, d20.2.2.1, d20.2.2.2.1, d20.2.2.2.2.1, d20.2.2.2.2.2.1, IntKind.wrap .i64 ((d13.2.2.2.2.2.2.2.1.length : Int) + (d20.2.2.2.2.2.2.2.2.1.length : Int)), ([] : List Kii), ())).bind (fun d28 => (cone_parts_keep_o_l4 n x6 (0, d28.1, d28.2.1, d28.2.2.1, d28.2.2.2.1, d28.2.2.2.2.1, d28.2.2.2.2.2.1, d28.2.2.2.2.2.2.1, ([] : List Kiii), ())).bind (fun d34 => some (d34.2.1, d34.1, d28.2.2.2.2.2.2.2.1, d13.2.2.2.2.2.2.2.1, d20.2.2.2.2.2.2.2.2.1, d34.2.2.1, d20.2.2.2.2.2.2.2.1, ())))))
def cone_parts_keep_o_s : Sig := ⟨[.c true [.int .i64, .row Kii_, .row Kiii_, .row Kiibii_, .row Kiii_, .con (.map 0)], .c false [.row Kiii_]], [(0, .map false i_ false i_)], .t [(true, [.int .i64, .con (.own 400000 2), .con (.own 100000 3), .con (.own 300000 5), .con (.own 500000 3)]), (false, [.con (.own 200000 1)])], [(0, .map false i_ false i_), (400000, .row 67 Kii_), (100000, .row 68 Kiii_), (300000, .row 70 Kiibii_), (500000, .row 53 Kiii_), (200000, .row 3 i_)]⟩
def cone_parts_keep_o_a : Ann := .s .d (.s .d (.s .d (.s (.s .d (.b (.l [0, 2, 6, 9, 16, 17, 20, 21, 22, 23, 24, 25, 26, 27, 28, 29, 30, 31, 32, 33, 34, 35, 36, 37, 38, 39, 40, 41, 42, 43] [0, 100, 165] ⟨[(2, .c false [.con (.ptr 100 0)]), (6, .c false [.con (.ptr 165 0)]), (20, .c false [.int .i64])], [(0, .map false i_ false i_), (100, .var 97 [.int .i64, .row Kii_, .row Kiii_, .row Kiibii_, .row Kiii_, .con (.map 0)]), (165, .var 35 [.int .i64, .con .nilsl, .con (.own 100000 3), .con .nilsl, .con .nilsl]), (100000, .row 68 Kiii_)]⟩ [(.exit 0, ⟨[(2, .c false [.con (.ptr 100 0)]), (6, .c false [.con (.ptr 165 0)])], [(0, .map false i_ false i_), (100, .var 97 [.int .i64, .row Kii_, .row Kiii_, .row Kiibii_, .row Kiii_, .con (.map 0)]), (165, .var 35 [.int .i64, .con .nilsl, .con (.own 100000 3), .con .nilsl, .con .nilsl]), (100000, .row 68 Kiii_)]⟩)] .d))) (.s (.s .d (.b (.l [2, 6, 7, 10, 11, 44, 45, 48, 49, 50, 51, 52, 53, 54, 55, 56, 57, 58, 59, 60, 61, 62, 63, 64, 65, 66, 67, 68, 69, 70, 71, 72, 73, 74, 75, 76, 77, 78] [0, 100, 165] ⟨[(2, .c false [.con (.ptr 100 0)]), (6, .c false [.con (.ptr 165 0)]), (7, .c false [.con (.own 200000 1)]), (48, .c false [.int .i64])], [(0, .map false i_ false i_), (100, .var 97 [.int .i64, .row Kii_, .row Kiii_, .row Kiibii_, .row Kiii_, .con (.map 0)]), (165, .var 35 [.int .i64, .con .nilsl, .con (.own 100000 3), .con (.own 300000 5), .con .nilsl]), (200000, .row 3 i_), (300000, .row 70 Kiibii_)]⟩ [(.exit 2, ⟨[(2, .c false [.con (.ptr 100 0)]), (6, .c false [.con (.ptr 165 0)]), (7, .c false [.con (.own 200000 1)])], [(0, .map false i_ false i_), (100, .var 97 [.int .i64, .row Kii_, .row Kiii_, .row Kiibii_, .row Kiii_, .con (.map 0)]), (165, .var 35 [.int .i64, .con .nilsl, .con (.own 100000 3), .con (.own 300000 5), .con .nilsl]), (200000, .row 3 i_), (300000, .row 70 Kiibii_)]⟩)] (.s .d (.s .d (.s (.b (.s .d (.s .d (.s (.s (.q []) .d) .d)))) .d)))))) (.s .d (.s (.s .d (.b (.l [2, 6, 12, 13, 79, 82, 86, 87, 88, 89, 90, 93, 94, 95, 96, 97, 98, 99, 100, 101, 102, 103, 104, 105, 106, 107, 108, 109, 110, 111, 112, 113, 114, 115, 116, 117, 118, 119, 120, 121, 122, 123] [0, 100, 165] ⟨[(2, .c false [.con (.ptr 100 0)]), (6, .c false [.con (.ptr 165 0)]), (93, .c false [.int .i64])], [(0, .map false i_ false i_), (100, .var 97 [.int .i64, .row Kii_, .row Kiii_, .row Kiibii_, .row Kiii_, .con (.map 0)]), (165, .var 35 [.int .i64, .con (.own 400000 2), .con (.own 100000 3), .con (.own 300000 5), .con .nilsl]), (400000, .row 67 Kii_)]⟩ [(.exit 4, ⟨[(2, .c false [.con (.ptr 100 0)]), (6, .c false [.con (.ptr 165 0)])], [(0, .map false i_ false i_), (100, .var 97 [.int .i64, .row Kii_, .row Kiii_, .row Kiibii_, .row Kiii_, .con (.map 0)]), (165, .var 35 [.int .i64, .con (.own 400000 2), .con (.own 100000 3), .con (.own 300000 5), .con .nilsl]), (400000, .row 67 Kii_)]⟩)] (.s .d (.s .d (.s (.b (.s .d (.s .d (.s (.q []) .d)))) .d)))))) (.s (.s .d (.b (.l [2, 6, 15, 126, 127, 128, 129, 130, 131, 132, 133, 134, 135, 136, 137, 138, 139, 140, 141] [0, 100, 165] ⟨[(2, .c false [.con (.ptr 100 0)]), (6, .c false [.con (.ptr 165 0)]), (126, .c false [.int .i64])], [(0, .map false i_ false i_), (100, .var 97 [.int .i64, .row Kii_, .row Kiii_, .row Kiibii_, .row Kiii_, .con (.map 0)]), (165, .var 35 [.int .i64, .con (.own 400000 2), .con (.own 100000 3), .con (.own 300000 5), .con (.own 500000 3)]), (500000, .row 53 Kiii_)]⟩ [(.exit 6, ⟨[(6, .c false [.con (.ptr 165 0)])], [(0, .map false i_ false i_), (165, .var 35 [.int .i64, .con (.own 400000 2), .con (.own 100000 3), .con (.own 300000 5), .con (.own 500000 3)]), (500000, .row 53 Kiii_)]⟩)] .d))) .d)))))))
noncomputable def cone_parts_keep_o_c (n : Nat) : Ctr Try.prog := .of Try.func49 n [cone_parts_has_c n, cone_parts_lit_c n] cone_parts_keep_o_a cone_parts_keep_o_s (fun d => cone_parts_keep_o n d.1 d.2.1 d.2.2.1 d.2.2.2.1 d.2.2.2.2.1 d.2.2.2.2.2.1 d.2.2.2.2.2.2.1) fun d => by kernel_rfl
noncomputable def cone_Cone_l1b (n : Nat) (x5 : List Kiii) (x6 : Int) (self : Int × List Kiii × Unit → Option ((List Kiii × Unit))) (d9 : Int × List Kiii × Unit) : Option ((List Kiii × Unit)) :=
 cond (decide (d9.1 < (x5.length : Int)))
 (ask (0 ≤ d9.1 ∧ d9.1 < (x5.length : Int)) (((cond (decide (d9.1 ≠ x6))
 (some (decide (((Kiii_at x5 d9.1).1) = 9), ()))
 (some (false, ()))) : Option ((Bool × Unit))).bind (fun d10 => cond d10.1
 (ask (True ∧ (d9.2.1.length + (([((Kiii_at x5 d9.1).1, ((Kiii_at x5 d9.1).2).1, ((Kiii_at x5 d9.1).2).2)] : List Kiii)).length) * 24 ≤ 140737488355328) (self (IntKind.wrap .i64 (d9.1 + 1), d9.2.1 ++ ([((Kiii_at x5 d9.1).1, ((Kiii_at x5 d9.1).2).1, ((Kiii_at x5 d9.1).2).2)] : List Kiii), ())))
 (self (IntKind.wrap .i64 (d9.1 + 1), d9.2.1, ())))))
 (some (d9.2.1, ()))
noncomputable def cone_Cone_l1 (n : Nat) (x5 : List Kiii) (x6 : Int) : Int × List Kiii × Unit → Option ((List Kiii × Unit)) := iter (cone_Cone_l1b n x5 x6) n
noncomputable def cone_Cone_l2b (n : Nat) (d11 : List Kiii × Unit) (self : Int × List Int × Unit → Option ((List Int × Unit))) (d13 : Int × List Int × Unit) : Option ((List Int × Unit)) :=
 cond (decide (d13.1 < (d11.1.length : Int)))
 (ask (0 ≤ d13.1 ∧ d13.1 < (d11.1.length : Int)) (ask (True ∧ (d13.2.1.length + (([((Kiii_at d11.1 d13.1).2).1] : List Int)).length) * 8 ≤ 140737488355328) (self (IntKind.wrap .i64 (d13.1 + 1), d13.2.1 ++ ([((Kiii_at d11.1 d13.1).2).1] : List Int), ()))))
 (some (d13.2.1, ()))
noncomputable def cone_Cone_l2 (n : Nat) (d11 : List Kiii × Unit) : Int × List Int × Unit → Option ((List Int × Unit)) := iter (cone_Cone_l2b n d11) n
noncomputable def cone_Cone (n : Nat) (x1 : Int) (x2 : List Kii) (x3 : List Kiii) (x4 : List Kiibii) (x5 : List Kiii) (x6 : Int) : Option (Int × List Kii × List Kiii × List Kiibii × List Kiii × List Int × Unit) :=
 ask (0 ≤ x6 ∧ x6 < (x5.length : Int)) ((cone_Cone_l1 n x5 x6 (0, ([((Kiii_at x5 x6).1, ((Kiii_at x5 x6).2).1, ((Kiii_at x5 x6).2).2)] : List Kiii), ())).bind (fun d11 => (cone_Cone_l2 n d11 (0, ([] : List Int), ())).bind (fun d14 => (cone_hung_o n x1 x2 x3 x4 x5 d14.1).bind (fun r15 => (cone_parts_keep_o n r15.1 r15.2.1 r15.2.2.1 r15.2.2.2.1 r15.2.2.2.2.1 d11.1 r15.2.2.2.2.2.1).bind (fun r16 => some (r16.1, r16.2.2.1, r16.2.2.2.1, r16.2.2.2.2.1, r16.2.2.2.2.2.1, r16.2.2.2.2.2.2.1, ()))))))
def cone_Cone_s : Sig := ⟨[.c true [.int .i64, .row Kii_, .row Kiii_, .row Kiibii_, .row Kiii_], .c false [.int .i64]], [], .t [(true, [.int .i64, .row Kii_, .row Kiii_, .row Kiibii_, .row Kiii_]), (false, [.row i_])], []⟩
def cone_Cone_a : Ann := .s .d (.s .d (.s (.s .d (.b (.l [6, 7, 8, 17, 21, 22, 23, 24, 25, 26, 27, 28, 29, 30, 31, 32, 33, 34, 35, 36, 37, 38] [485] ⟨[(6, .c false [.con (.own 485 3)]), (21, .c false [.int .i64])], [(485, .row 53 Kiii_)]⟩ [(.exit 0, ⟨[(6, .c false [.con (.own 485 3)])], [(485, .row 53 Kiii_)]⟩)] (.s .d (.s .d (.s (.b (.s .d (.j [26, 27, 28, 29, 30, 31, 32, 33] [] [(.normal, ⟨[(33, .c false [.bool])], []⟩)] .d .d))) .d)))))) (.s .d (.s (.s .d (.b (.l [9, 11, 41, 42, 43, 44, 45, 46, 47, 48, 49, 50] [] ⟨[(9, .c false [.con (.own 100000 1)]), (41, .c false [.int .i64])], [(100000, .row 3 i_)]⟩ [(.exit 2, ⟨[(9, .c false [.con (.own 100000 1)])], [(100000, .row 3 i_)]⟩)] .d))) (.s (.z [100000]) .d)))))
noncomputable def cone_Cone_c (n : Nat) : Ctr Try.prog := .of Try.func17 n [cone_hung_o_c n, cone_parts_keep_o_c n] cone_Cone_a cone_Cone_s (fun d => cone_Cone n d.1 d.2.1 d.2.2.1 d.2.2.2.1 d.2.2.2.2.1 d.2.2.2.2.2.1) fun d => by kernel_rfl
noncomputable def aig_New (n : Nat) (x1 : Int) : Option (Int × Unit) :=
 some (x1, ())
def aig_New_s : Sig := ⟨[.c false [.int .i64]], [], .c true [.int .i64, .con .nilsl], []⟩
def aig_New_a : Ann := .d
noncomputable def aig_New_c (n : Nat) : Ctr Try.prog := .of Try.func59 n [] aig_New_a aig_New_s (fun d => aig_New n d.1) fun d => by kernel_rfl
noncomputable def cone_initOf (n : Nat) (x1 : Int) (x2 : Int) (x3 : Bool) (x4 : Int) (x5 : Int) : Option (Int × Unit) :=
 cond x3
 (some (1, ()))
 (some (0, ()))
def cone_initOf_s : Sig := ⟨[.c true [.int .i64, .int .i64, .bool, .int .i64, .int .i64]], [], .c false [.int .i64], []⟩
def cone_initOf_a : Ann := .d
noncomputable def cone_initOf_c (n : Nat) : Ctr Try.prog := .of Try.func41 n [] cone_initOf_a cone_initOf_s (fun d => cone_initOf n d.1 d.2.1 d.2.2.1 d.2.2.2.1 d.2.2.2.2.1) fun d => by kernel_rfl
noncomputable def cone_still_1 (n : Nat) (x1 : Int) (x2 : List (List Bool)) (x3 : Int) (x4 : List KiLPiiELPiiiELPiibiiELPiiiE) (x5 : Int) : Option (Int × Unit) :=
 ask (0 ≤ x1 ∧ x1 < ((KLb_at x2 x3).length : Int)) (cond (Kb_at (KLb_at x2 x3) x1)
 (ask (0 ≤ x1 ∧ x1 < ((((((KiLPiiELPiiiELPiibiiELPiiiE_at x4 x5).2).2).2).1).length : Int)) ((cone_initOf n ((Kiibii_at (((((KiLPiiELPiiiELPiibiiELPiiiE_at x4 x5).2).2).2).1) x1).1) (((Kiibii_at (((((KiLPiiELPiiiELPiibiiELPiiiE_at x4 x5).2).2).2).1) x1).2).1) ((((Kiibii_at (((((KiLPiiELPiiiELPiibiiELPiiiE_at x4 x5).2).2).2).1) x1).2).2).1) (((((Kiibii_at (((((KiLPiiELPiiiELPiibiiELPiiiE_at x4 x5).2).2).2).1) x1).2).2).2).1) (((((Kiibii_at (((((KiLPiiELPiiiELPiibiiELPiiiE_at x4 x5).2).2).2).1) x1).2).2).2).2)).bind (fun r6 => some (r6.1, ()))))
 (ask (0 ≤ x1 ∧ x1 < ((((((KiLPiiELPiiiELPiibiiELPiiiE_at x4 x5).2).2).2).1).length : Int)) (some (IntKind.wrap .i64 ((2 : Int) * ((Kiibii_at (((((KiLPiiELPiiiELPiibiiELPiiiE_at x4 x5).2).2).2).1) x1).1)), ()))))
def cone_still_1_s : Sig := ⟨[.c false [.int .i64], .c false [.rp KLb_ 0], .c false [.rp KiLPiiELPiiiELPiibiiELPiiiE_ 0]], [], .c false [.int .i64], []⟩
def cone_still_1_a : Ann := .d
noncomputable def cone_still_1_c (n : Nat) : Ctr Try.prog := .of Try.func80 n [cone_initOf_c n] cone_still_1_a cone_still_1_s (fun d => cone_still_1 n d.1 d.2.1 d.2.2.1 d.2.2.2.1 d.2.2.2.2.1) fun d => by kernel_rfl
noncomputable def cone_anew_1_i2 (n : Nat) (x1 : Int) (x2 : List (List Int)) (x3 : Int) : Option (Int × Unit) :=
 ask ((2 : Int) ≠ 0) (ask (0 ≤ (IntKind.wrap .i64 (Int.tdiv x1 2)) ∧ IntKind.wrap .i64 (Int.tdiv x1 2) < ((KLi_at x2 x3).length : Int)) (some (bits .xor .i64 (Ki_at (KLi_at x2 x3) (IntKind.wrap .i64 (Int.tdiv x1 2))) (bits .and .i64 x1 1), ())))
def cone_anew_1_i2_s : Sig := ⟨[.c false [.int .i64], .c false [.rp KLi_ 0]], [], .c false [.int .i64], []⟩
def cone_anew_1_i2_a : Ann := .d
noncomputable def cone_anew_1_i2_c (n : Nat) : Ctr Try.prog := .of Try.func82 n [] cone_anew_1_i2_a cone_anew_1_i2_s (fun d => cone_anew_1_i2 n d.1 d.2.1 d.2.2.1) fun d => by kernel_rfl
noncomputable def aig_of (n : Nat) (x1 : Int) (x2 : Int) : Option (Int × Int × Unit) :=
 ask (True) (ask (True) (some ((if x2 < x1 then x2 else x1), (if x2 > x1 then x2 else x1), ())))
def aig_of_s : Sig := ⟨[.c false [.int .i64], .c false [.int .i64]], [], .c true [.int .i64, .int .i64], []⟩
def aig_of_a : Ann := .d
noncomputable def aig_of_c (n : Nat) : Ctr Try.prog := .of Try.func93 n [] aig_of_a aig_of_s (fun d => aig_of n d.1 d.2.1) fun d => by kernel_rfl
noncomputable def aig_rules (n : Nat) : Option (Unit) :=
 some ()
def aig_rules_s : Sig := ⟨[], [], .c false [.con (.sub 484 2 0 3)], [(484, .var 158 [.con (.fn 133 []), .con (.fn 131 []), .con (.fn 134 []), .con (.fn 131 []), .con (.fn 135 []), .con (.fn 132 [])])]⟩
def aig_rules_a : Ann := .d
noncomputable def aig_rules_c (n : Nat) : Ctr Try.prog := .of Try.func108 n [] aig_rules_a aig_rules_s (fun d => aig_rules n) fun d => by kernel_rfl
noncomputable def aig_rules_3 (n : Nat) (x1 : Int) (x2 : Int) : Option (Bool × Unit) :=
 ask (0 < 2) (some (decide (x1 = 0), ()))
def aig_rules_3_s : Sig := ⟨[.c true [.int .i64, .int .i64]], [], .c false [.bool], []⟩
def aig_rules_3_a : Ann := .d
noncomputable def aig_rules_3_c (n : Nat) : Ctr Try.prog := .of Try.func133 n [] aig_rules_3_a aig_rules_3_s (fun d => aig_rules_3 n d.1 d.2.1) fun d => by kernel_rfl
noncomputable def aig_rules_1 (n : Nat) (x1 : Int) (x2 : Int) : Option (Int × Unit) :=
 some (0, ())
def aig_rules_1_s : Sig := ⟨[.c true [.int .i64, .int .i64]], [], .c false [.int .i64], []⟩
def aig_rules_1_a : Ann := .d
noncomputable def aig_rules_1_c (n : Nat) : Ctr Try.prog := .of Try.func131 n [] aig_rules_1_a aig_rules_1_s (fun d => aig_rules_1 n d.1 d.2.1) fun d => by kernel_rfl
noncomputable def aig_rules_4 (n : Nat) (x1 : Int) (x2 : Int) : Option (Bool × Unit) :=
 ask (0 < 2) (ask (1 < 2) (some (decide ((bits .xor .i64 x1 1) = x2), ())))
def aig_rules_4_s : Sig := ⟨[.c true [.int .i64, .int .i64]], [], .c false [.bool], []⟩
def aig_rules_4_a : Ann := .d
noncomputable def aig_rules_4_c (n : Nat) : Ctr Try.prog := .of Try.func134 n [] aig_rules_4_a aig_rules_4_s (fun d => aig_rules_4 n d.1 d.2.1) fun d => by kernel_rfl
noncomputable def aig_rules_5 (n : Nat) (x1 : Int) (x2 : Int) : Option (Bool × Unit) :=
 ask (0 < 2) (cond (decide (x1 = 1))
 (some (true, ()))
 (ask (0 < 2) (ask (1 < 2) (some (decide (x1 = x2), ())))))
def aig_rules_5_s : Sig := ⟨[.c true [.int .i64, .int .i64]], [], .c false [.bool], []⟩
def aig_rules_5_a : Ann := .d
noncomputable def aig_rules_5_c (n : Nat) : Ctr Try.prog := .of Try.func135 n [] aig_rules_5_a aig_rules_5_s (fun d => aig_rules_5 n d.1 d.2.1) fun d => by kernel_rfl
noncomputable def aig_rules_2 (n : Nat) (x1 : Int) (x2 : Int) : Option (Int × Unit) :=
 ask (1 < 2) (some (x2, ()))
def aig_rules_2_s : Sig := ⟨[.c true [.int .i64, .int .i64]], [], .c false [.int .i64], []⟩
def aig_rules_2_a : Ann := .d
noncomputable def aig_rules_2_c (n : Nat) : Ctr Try.prog := .of Try.func132 n [] aig_rules_2_a aig_rules_2_s (fun d => aig_rules_2 n d.1 d.2.1) fun d => by kernel_rfl
noncomputable def aig_plain (n : Nat) (x1 : Int) (x2 : Int) : Option (Int × Bool × Unit) :=
 (aig_rules n).bind (fun r3 => ask (0 < 3) ((aig_rules_3 n x1 x2).bind (fun r5 => cond r5.1
 ((aig_rules_1 n x1 x2).bind (fun r6 => some (r6.1, true, ())))
 (ask (1 < 3) ((aig_rules_4 n x1 x2).bind (fun r7 => cond r7.1
 ((aig_rules_1 n x1 x2).bind (fun r8 => some (r8.1, true, ())))
 (ask (2 < 3) ((aig_rules_5 n x1 x2).bind (fun r9 => cond r9.1
 ((aig_rules_2 n x1 x2).bind (fun r10 => some (r10.1, true, ())))
 (some (0, false, ())))))))))))
def aig_plain_s : Sig := ⟨[.c true [.int .i64, .int .i64]], [], .t [(false, [.int .i64]), (false, [.bool])], []⟩
def aig_plain_a : Ann := .s .d (.s (.s .d (.b (.u [.d, .d, .d, .d]))) .d)
noncomputable def aig_plain_c (n : Nat) : Ctr Try.prog := .of Try.func94 n [aig_rules_c n, aig_rules_3_c n, aig_rules_1_c n, aig_rules_4_c n, aig_rules_5_c n, aig_rules_2_c n] aig_plain_a aig_plain_s (fun d => aig_plain n d.1 d.2.1) fun d => by kernel_rfl
noncomputable def slices_Index_2_int_2_int_l1b (n : Nat) (x1 : List Kii) (x2 : Int) (x3 : Int) (self : Int × Unit → Option ((Int × Unit) ⊕ (Unit))) (d5 : Int × Unit) : Option ((Int × Unit) ⊕ (Unit)) :=
 cond (decide (d5.1 < (x1.length : Int)))
 (ask (0 ≤ d5.1 ∧ d5.1 < (x1.length : Int)) (cond ((x2 == (Kii_at x1 d5.1).1) && (x3 == (Kii_at x1 d5.1).2))
 (some (.inl (d5.1, ())))
 (self (IntKind.wrap .i64 (d5.1 + 1), ()))))
 (some (.inr ()))
noncomputable def slices_Index_2_int_2_int_l1 (n : Nat) (x1 : List Kii) (x2 : Int) (x3 : Int) : Int × Unit → Option ((Int × Unit) ⊕ (Unit)) := iter (slices_Index_2_int_2_int_l1b n x1 x2 x3) n
noncomputable def slices_Index_2_int_2_int (n : Nat) (x1 : List Kii) (x2 : Int) (x3 : Int) : Option (Int × Unit) :=
 (slices_Index_2_int_2_int_l1 n x1 x2 x3 (0, ())).bind (Sum.elim (fun d6 => some (d6.1, ())) (fun d7 => some ((-1), ())))
def slices_Index_2_int_2_int_s : Sig := ⟨[.c false [.row Kii_], .c true [.int .i64, .int .i64]], [], .c false [.int .i64], []⟩
def slices_Index_2_int_2_int_a : Ann := .s .d (.s (.s .d (.b (.l [4, 5, 8, 9, 10, 11, 12, 13, 14, 15, 16, 17, 18] [] ⟨[(8, .c false [.int .i64])], []⟩ [(.ret, ⟨[(4, .c false [.int .i64])], []⟩), (.exit 0, ⟨[], []⟩)] .d))) .d)
noncomputable def slices_Index_2_int_2_int_c (n : Nat) : Ctr Try.prog := .of Try.func105 n [] slices_Index_2_int_2_int_a slices_Index_2_int_2_int_s (fun d => slices_Index_2_int_2_int n d.1 d.2.1 d.2.2.1) fun d => by kernel_rfl
noncomputable def slices_Clone_2_int_2_int_o (n : Nat) (l : List Kii) : Option (List Kii × Unit) :=
 ask (True ∧ ((([] : List Kii)).length + l.length) * 16 ≤ 140737488355328) (some (l, ()))
def slices_Clone_2_int_2_int_o_s : Sig := cloneS Kii_ (.c false [.con (.own 228 2)]) [(228, .row 67 Kii_)]
noncomputable def slices_Clone_2_int_2_int_o_c (n : Nat) : Ctr Try.prog := ⟨.fn 106, slices_Clone_2_int_2_int_o_s, fun d => slices_Clone_2_int_2_int_o n d.1, fun d r h => Spec.clone (P := Try.prog) (f := 106) (fn := Try.f106) (t := Kii_) (T := 28) (E' := 67) (o := (.c false [.con (.own 228 2)])) (ob := [(228, .row 67 Kii_)]) (c := fun l : List Kii => True ∧ ((([] : List Kii)).length + l.length) * 16 ≤ 140737488355328) (g := fun l : List Kii => (l, ())) (d := d) (r := r) rfl Try.func106 rfl rfl rfl rfl rfl rfl rfl rfl (by kernel_rfl) (by kernel_rfl) (by kernel_rfl) (by kernel_rfl) (fun l => by kernel_rfl) (fun l => by kernel_rfl) (fun l => by kernel_rfl) (fun l => by kernel_rfl) h⟩
noncomputable def aig_And_j1 (n : Nat) (r5 : Int × Int × Unit) (r7 : Int × Unit) (x1 : Int) (x2 : List Kii) : Option ((Int × Int × List Kii × Unit)) :=
 cond (decide (r7.1 < 0))
 ((slices_Clone_2_int_2_int_o n x2).bind (fun r8 => ask (True ∧ (r8.1.length + (([(r5.1, r5.2.1)] : List Kii)).length) * 16 ≤ 140737488355328) (some ((x2.length : Int), x1, r8.1 ++ ([(r5.1, r5.2.1)] : List Kii), ()))))
 (some (r7.1, x1, x2, ()))
noncomputable def aig_And (n : Nat) (x1 : Int) (x2 : List Kii) (x3 : Int) (x4 : Int) : Option (Int × List Kii × Int × Unit) :=
 (aig_of n x3 x4).bind (fun r5 => (aig_plain n r5.1 r5.2.1).bind (fun r6 => cond r6.2.1
 (some (x1, x2, r6.1, ()))
 ((slices_Index_2_int_2_int n x2 r5.1 r5.2.1).bind (fun r7 => (aig_And_j1 n r5 r7 x1 x2).bind (fun d9 => ask (0 ≤ (1 : Int)) (some (d9.2.1, d9.2.2.1, shlI .i64 (IntKind.wrap .i64 ((IntKind.wrap .i64 (d9.2.1 + 1)) + d9.1)) 1, ())))))))
def aig_And_s : Sig := ⟨[.c true [.int .i64, .row Kii_], .c false [.int .i64], .c false [.int .i64]], [], .t [(true, [.int .i64, .row Kii_]), (false, [.int .i64])], []⟩
def aig_And_a : Ann := .s .d (.s .d (.s .d (.s .d (.j [3, 11, 23, 27, 28, 29, 30, 31, 32, 33, 34, 35, 36, 37, 38] [100] [(.normal, ⟨[(3, .c false [.con (.ptr 100 0)]), (11, .c false [.int .i64])], [(100, .var 30 [.int .i64, .row Kii_])]⟩)] .d .d))))
noncomputable def aig_And_c (n : Nat) : Ctr Try.prog := .of Try.func83 n [aig_of_c n, aig_plain_c n, slices_Index_2_int_2_int_c n, slices_Clone_2_int_2_int_o_c n] aig_And_a aig_And_s (fun d => aig_And n d.1 d.2.1 d.2.2.1 d.2.2.2.1) fun d => by kernel_rfl
noncomputable def cone_anew_1_i3 (n : Nat) (x1 : Int) (x2 : List Int) : Option (Int × List Int × Unit) :=
 ask ((2 : Int) ≠ 0) (ask (0 ≤ (IntKind.wrap .i64 (Int.tdiv x1 2)) ∧ IntKind.wrap .i64 (Int.tdiv x1 2) < (x2.length : Int)) (some (bits .xor .i64 (Ki_at x2 (IntKind.wrap .i64 (Int.tdiv x1 2))) (bits .and .i64 x1 1), x2, ())))
def cone_anew_1_i3_s : Sig := ⟨[.c false [.int .i64], .c false [.con (.ptr 0 0)]], [(0, .var 40 [.con (.own 1 1)]), (1, .row 3 i_)], .c false [.int .i64], [(0, .var 40 [.con (.own 1 1)]), (1, .row 3 i_)]⟩
def cone_anew_1_i3_a : Ann := .d
noncomputable def cone_anew_1_i3_c (n : Nat) : Ctr Try.prog := .of Try.func82 n [] cone_anew_1_i3_a cone_anew_1_i3_s (fun d => cone_anew_1_i3 n d.1 d.2.1) fun d => by kernel_rfl
noncomputable def cone_anew__cone_still_1_l1b (n : Nat) (x3 : List Kiii) (self : Int × List Int × Unit → Option ((List Int × Unit))) (d16 : Int × List Int × Unit) : Option ((List Int × Unit)) :=
 cond (decide (d16.1 < (x3.length : Int)))
 (ask (True ∧ (d16.2.1.length + (([IntKind.wrap .i64 ((2 : Int) * (IntKind.wrap .i64 (d16.1 + 1)))] : List Int)).length) * 8 ≤ 140737488355328) (self (IntKind.wrap .i64 (d16.1 + 1), d16.2.1 ++ ([IntKind.wrap .i64 ((2 : Int) * (IntKind.wrap .i64 (d16.1 + 1)))] : List Int), ())))
 (some (d16.2.1, ()))
noncomputable def cone_anew__cone_still_1_l1 (n : Nat) (x3 : List Kiii) : Int × List Int × Unit → Option ((List Int × Unit)) := iter (cone_anew__cone_still_1_l1b n x3) n
noncomputable def cone_anew__cone_still_1_l2b (n : Nat) (x4 : List Kiibii) (x7 : List Bool) (x8 : Int) (x9 : List Kii) (x10 : List Kiii) (x11 : List Kiibii) (x12 : List Kiii) (self : Int × List Int × Unit → Option ((List Int × Unit))) (d20 : Int × List Int × Unit) : Option ((List Int × Unit)) :=
 cond (decide (d20.1 < (x4.length : Int)))
 ((cone_still_1 n d20.1 ([x7] : List (List Bool)) 0 ([(x8, x9, x10, x11, x12)] : List KiLPiiELPiiiELPiibiiELPiiiE) 0).bind (fun r21 => ask (True ∧ (d20.2.1.length + (([r21.1] : List Int)).length) * 8 ≤ 140737488355328) (self (IntKind.wrap .i64 (d20.1 + 1), d20.2.1 ++ ([r21.1] : List Int), ()))))
 (some (d20.2.1, ()))
noncomputable def cone_anew__cone_still_1_l2 (n : Nat) (x4 : List Kiibii) (x7 : List Bool) (x8 : Int) (x9 : List Kii) (x10 : List Kiii) (x11 : List Kiibii) (x12 : List Kiii) : Int × List Int × Unit → Option ((List Int × Unit)) := iter (cone_anew__cone_still_1_l2b n x4 x7 x8 x9 x10 x11 x12) n
noncomputable def cone_anew__cone_still_1_l3b (n : Nat) (x2 : List Kii) (self : Int × Int × List Kii × List Int × Unit → Option ((Int × List Kii × List Int × Unit))) (d26 : Int × Int × List Kii × List Int × Unit) : Option ((Int × List Kii × List Int × Unit)) :=
 cond (decide (d26.1 < (x2.length : Int)))
 (ask (0 ≤ d26.1 ∧ d26.1 < (x2.length : Int)) (ask (0 < 2) ((cone_anew_1_i3 n ((Kii_at x2 d26.1).1) d26.2.2.2.1).bind (fun r27 => ask (1 < 2) ((cone_anew_1_i3 n ((Kii_at x2 d26.1).2) r27.2.1).bind (fun r28 => (aig_And n d26.2.1 d26.2.2.1 r27.1 r28.1).bind (fun r29 => ask (True ∧ (r28.2.1.length + (([r29.2.2.1] : List Int)).length) * 8 ≤ 140737488355328) (self (IntKind.wrap .i64 (d26.1 + 1), r29.1, r29.2.1, r28.2.1 ++ ([r29.2.2.1] : List Int), ())))))))))
 (some (d26.2.1, d26.2.2.1, d26.2.2.2.1, ()))
noncomputable def cone_anew__cone_still_1_l3 (n : Nat) (x2 : List Kii) : Int × Int × List Kii × List Int × Unit → Option ((Int × List Kii × List Int × Unit)) := iter (cone_anew__cone_still_1_l3b n x2) n
noncomputable def cone_anew__cone_still_1 (n : Nat) (x1 : Int) (x2 : List Kii) (x3 : List Kiii) (x4 : List Kiibii) (x5 : List Kiii) (x6 : Int) (x7 : List Bool) (x8 : Int) (x9 : List Kii) (x10 : List Kiii) (x11 : List Kiibii) (x12 : List Kiii) : Option (Int × List Kii × List Bool × Int × List Kii × List Kiii × List Kiibii × List Kiii × List Int × Unit) :=
 (aig_New n x6).bind (fun r13 => (cone_anew__cone_still_1_l1 n x3 (0, ([0] : List Int), ())).bind (fun d17 => (cone_anew__cone_still_1_l2 n x4 x7 x8 x9 x10 x11 x12 (0, d17.1, ())).bind (fun d22 => (cone_anew__cone_still_1_l3 n x2 (0, r13.1, ([] : List Kii), d22.1, ())).bind (fun d30 => some (d30.1, d30.2.1, x7, x8, x9, x10, x11, x12, d30.2.2.1, ())))))
def cone_anew__cone_still_1_s : Sig := ⟨[.c true [.int .i64, .row Kii_, .row Kiii_, .row Kiibii_, .row Kiii_], .c false [.int .i64], .c false [.con (.fn 80 [(0, 0), (1, 0)])]], [(0, .var 55 [.row b_]), (1, .var 35 [.int .i64, .row Kii_, .row Kiii_, .row Kiibii_, .row Kiii_])], .t [(true, [.int .i64, .row Kii_]), (false, [.con (.fn 82 [(358, 0)])])], [(0, .var 55 [.row b_]), (1, .var 35 [.int .i64, .row Kii_, .row Kiii_, .row Kiibii_, .row Kiii_]), (358, .var 40 [.row i_])]⟩
def cone_anew__cone_still_1_a : Ann := .s .d (.s .d (.s .d (.s (.s .d (.b (.l [9, 10, 18, 22, 23, 24, 25, 26, 27, 28, 29, 30, 31] [294, 358] ⟨[(9, .c false [.con (.ptr 358 0)]), (22, .c false [.int .i64])], [(358, .var 40 [.con (.own 294 1)]), (294, .row 3 i_)]⟩ [(.exit 0, ⟨[(9, .c false [.con (.ptr 358 0)])], [(358, .var 40 [.con (.own 294 1)]), (294, .row 3 i_)]⟩)] .d))) (.s (.s .d (.b (.l [9, 11, 35, 36, 37, 38, 39, 40, 41, 42, 43, 44] [294, 358] ⟨[(9, .c false [.con (.ptr 358 0)]), (35, .c false [.int .i64])], [(358, .var 40 [.con (.own 294 1)]), (294, .row 3 i_)]⟩ [(.exit 2, ⟨[(9, .c false [.con (.ptr 358 0)])], [(358, .var 40 [.con (.own 294 1)]), (294, .row 3 i_)]⟩)] .d))) (.s .d (.s (.s .d (.b (.l [8, 9, 12, 14, 15, 45, 50, 51, 52, 53, 54, 55, 56, 57, 58, 59, 60, 61, 62, 63, 64, 65, 66, 67, 68, 69, 70, 71] [293, 294, 358] ⟨[(8, .c false [.con (.ptr 293 0)]), (9, .c false [.con (.ptr 358 0)]), (12, .c false [.con (.fn 82 [(358, 0)])]), (50, .c false [.int .i64])], [(293, .var 30 [.int .i64, .row Kii_]), (358, .var 40 [.con (.own 294 1)]), (294, .row 3 i_)]⟩ [(.exit 4, ⟨[(8, .c false [.con (.ptr 293 0)]), (12, .c false [.con (.fn 82 [(358, 0)])])], [(293, .var 30 [.int .i64, .row Kii_]), (358, .var 40 [.con (.own 294 1)]), (294, .row 3 i_)]⟩)] .d))) .d))))))
noncomputable def cone_anew__cone_still_1_c (n : Nat) : Ctr Try.prog := .of Try.func39 n [aig_New_c n, cone_still_1_c n, cone_anew_1_i3_c n, aig_And_c n] cone_anew__cone_still_1_a cone_anew__cone_still_1_s (fun d => cone_anew__cone_still_1 n d.1 d.2.1 d.2.2.1 d.2.2.2.1 d.2.2.2.2.1 d.2.2.2.2.2.1 d.2.2.2.2.2.2.1 d.2.2.2.2.2.2.2.1 d.2.2.2.2.2.2.2.2.1 d.2.2.2.2.2.2.2.2.2.1 d.2.2.2.2.2.2.2.2.2.2.1 d.2.2.2.2.2.2.2.2.2.2.2.1) fun d => by kernel_rfl
noncomputable def slices_Clone_bool_bool_o (n : Nat) (l : List Bool) : Option (List Bool × Unit) :=
 ask (True ∧ ((([] : List Bool)).length + l.length) * 1 ≤ 140737488355328) (some (l, ()))
def slices_Clone_bool_bool_o_s : Sig := cloneS b_ (.c false [.con (.own 228 1)]) [(228, .row 4 b_)]
noncomputable def slices_Clone_bool_bool_o_c (n : Nat) : Ctr Try.prog := ⟨.fn 81, slices_Clone_bool_bool_o_s, fun d => slices_Clone_bool_bool_o n d.1, fun d r h => Spec.clone (P := Try.prog) (f := 81) (fn := Try.f81) (t := b_) (T := 55) (E' := 4) (o := (.c false [.con (.own 228 1)])) (ob := [(228, .row 4 b_)]) (c := fun l : List Bool => True ∧ ((([] : List Bool)).length + l.length) * 1 ≤ 140737488355328) (g := fun l : List Bool => (l, ())) (d := d) (r := r) rfl Try.func81 rfl rfl rfl rfl rfl rfl rfl rfl (by kernel_rfl) (by kernel_rfl) (by kernel_rfl) (by kernel_rfl) (fun l => by kernel_rfl) (fun l => by kernel_rfl) (fun l => by kernel_rfl) (fun l => by kernel_rfl) h⟩
noncomputable def cone_still_j1 (n : Nat) (d14 : Bool × Int × List Bool × Unit) (r10 : Int × List Kii × List Bool × Int × List Kii × List Kiii × List Kiibii × List Kiii × List Int × Unit) (r15 : Int × Unit) : Option ((Bool × Unit)) :=
 ask (0 ≤ d14.2.1 ∧ d14.2.1 < (r10.2.2.1.length : Int)) (cond (!(Kb_at r10.2.2.1 d14.2.1))
 ((cone_initOf n ((Kiibii_at r10.2.2.2.2.2.2.1 d14.2.1).1) (((Kiibii_at r10.2.2.2.2.2.2.1 d14.2.1).2).1) ((((Kiibii_at r10.2.2.2.2.2.2.1 d14.2.1).2).2).1) (((((Kiibii_at r10.2.2.2.2.2.2.1 d14.2.1).2).2).2).1) (((((Kiibii_at r10.2.2.2.2.2.2.1 d14.2.1).2).2).2).2)).bind (fun r16 => cond (decide (r15.1 = r16.1))
 (some (true, ()))
 (some (decide (r15.1 = (IntKind.wrap .i64 ((2 : Int) * ((Kiibii_at r10.2.2.2.2.2.2.1 d14.2.1).1)))), ()))))
 (some (false, ())))
noncomputable def cone_still_l2b (n : Nat) (r10 : Int × List Kii × List Bool × Int × List Kii × List Kiii × List Kiibii × List Kiii × List Int × Unit) (self : Bool × Int × List Bool × Unit → Option ((Bool × List Bool × Unit))) (d14 : Bool × Int × List Bool × Unit) : Option ((Bool × List Bool × Unit)) :=
 cond (decide (d14.2.1 < (r10.2.2.2.2.2.2.1.length : Int)))
 (ask (0 ≤ d14.2.1 ∧ d14.2.1 < (r10.2.2.2.2.2.2.1.length : Int)) ((cone_anew_1_i2 n (((Kiibii_at r10.2.2.2.2.2.2.1 d14.2.1).2).1) ([r10.2.2.2.2.2.2.2.2.1] : List (List Int)) 0).bind (fun r15 => (cone_still_j1 n d14 r10 r15).bind (fun d17 => cond d17.1
 (ask (0 ≤ d14.2.1 ∧ d14.2.1 < (d14.2.2.1.length : Int)) (self (true, IntKind.wrap .i64 (d14.2.1 + 1), d14.2.2.1.set d14.2.1.toNat true, ())))
 (self (d14.1, IntKind.wrap .i64 (d14.2.1 + 1), d14.2.2.1, ()))))))
 (some (d14.1, d14.2.2.1, ()))
noncomputable def cone_still_l2 (n : Nat) (r10 : Int × List Kii × List Bool × Int × List Kii × List Kiii × List Kiibii × List Kiii × List Int × Unit) : Bool × Int × List Bool × Unit → Option ((Bool × List Bool × Unit)) := iter (cone_still_l2b n r10) n
noncomputable def cone_still_l3b (n : Nat) (self : Bool × Int × List Kii × List Kiii × List Kiibii × List Kiii × List Bool × Unit → Option ((List Bool × Unit))) (d9 : Bool × Int × List Kii × List Kiii × List Kiibii × List Kiii × List Bool × Unit) : Option ((List Bool × Unit)) :=
 cond d9.1
 ((cone_anew__cone_still_1 n d9.2.1 d9.2.2.1 d9.2.2.2.1 d9.2.2.2.2.1 d9.2.2.2.2.2.1 d9.2.1 d9.2.2.2.2.2.2.1 d9.2.1 d9.2.2.1 d9.2.2.2.1 d9.2.2.2.2.1 d9.2.2.2.2.2.1).bind (fun r10 => (slices_Clone_bool_bool_o n r10.2.2.1).bind (fun r11 => (cone_still_l2 n r10 (false, 0, r11.1, ())).bind (fun d18 => self (d18.1, r10.2.2.2.1, r10.2.2.2.2.1, r10.2.2.2.2.2.1, r10.2.2.2.2.2.2.1, r10.2.2.2.2.2.2.2.1, d18.2.1, ())))))
 (some (d9.2.2.2.2.2.2.1, ()))
noncomputable def cone_still_l3 (n : Nat) : Bool × Int × List Kii × List Kiii × List Kiibii × List Kiii × List Bool × Unit → Option ((List Bool × Unit)) := iter (cone_still_l3b n) n
noncomputable def cone_still (n : Nat) (x1 : Int) (x2 : List Kii) (x3 : List Kiii) (x4 : List Kiibii) (x5 : List Kiii) : Option (List Bool × Unit) :=
 ask ((0 ≤ (x4.length : Int) ∧ (x4.length : Int) ≤ (x4.length : Int)) ∧ (1 : Int) * (x4.length : Int) ≤ 281474976710656 ∧ (x4.length : Int) ≤ 281474976710656) ((cone_still_l3 n (true, x1, x2, x3, x4, x5, List.replicate (x4.length : Int).toNat false, ())).bind (fun d19 => some (d19.1, ())))
def cone_still_s : Sig := ⟨[.c true [.int .i64, .row Kii_, .row Kiii_, .row Kiibii_, .row Kiii_]], [], .c false [.row b_], []⟩
def cone_still_a : Ann := .s .d (.s .d (.s (.s .d (.b (.l [1, 3, 4, 5, 6, 7, 8, 9, 10, 11, 14, 15, 16, 17, 18, 19, 20, 21, 22, 23, 24, 25, 26, 27, 28, 29, 30, 31, 32, 33, 34, 35, 36, 37, 38, 39, 40, 41, 42, 43, 44, 45, 46, 47, 48, 49, 50, 51, 52, 53, 54, 55, 56, 57, 58, 59, 60, 61] [100, 293, 357] ⟨[(1, .c false [.con (.ptr 100 0)]), (3, .c false [.con (.ptr 357 0)]), (4, .c false [.bool])], [(100, .var 35 [.int .i64, .row Kii_, .row Kiii_, .row Kiibii_, .row Kiii_]), (357, .var 55 [.con (.own 293 1)]), (293, .row 4 b_)]⟩ [(.exit 0, ⟨[(3, .c false [.con (.ptr 357 0)])], [(357, .var 55 [.con (.own 293 1)]), (293, .row 4 b_)]⟩)] (.s .d (.b (.s .d (.s (.z [293]) (.s .d (.s (.s .d (.b (.l [4, 7, 8, 9, 10, 26, 30, 31, 32, 33, 34, 35, 36, 37, 38, 39, 40, 41, 42, 43, 44, 45, 46, 47, 48, 49, 50, 51, 52, 53, 54, 55, 56, 57, 58, 59, 60] [999] ⟨[(4, .c false [.bool]), (7, .c false [.con (.own 999 1)]), (30, .c false [.int .i64])], [(999, .row 4 b_)]⟩ [(.exit 2, ⟨[(4, .c false [.bool]), (7, .c false [.con (.own 999 1)])], [(999, .row 4 b_)]⟩)] (.s .d (.s .d (.s (.b (.s .d (.s .d (.j [39, 40, 41, 42, 43, 44, 45, 46, 47, 48, 49, 50, 51, 52, 53, 54, 55, 56] [] [(.normal, ⟨[(56, .c false [.bool])], []⟩)] .d .d)))) .d)))))) .d))))))))) .d))
noncomputable def cone_still_c (n : Nat) : Ctr Try.prog := .of Try.func38 n [cone_anew__cone_still_1_c n, slices_Clone_bool_bool_o_c n, cone_anew_1_i2_c n, cone_initOf_c n] cone_still_a cone_still_s (fun d => cone_still n d.1 d.2.1 d.2.2.1 d.2.2.2.1 d.2.2.2.2.1) fun d => by kernel_rfl
noncomputable def cone_Fixed_1 (n : Nat) (x1 : Int) (x2 : List (List Bool)) (x3 : Int) (x4 : List KiLPiiELPiiiELPiibiiELPiiiE) (x5 : Int) (x6 : List (Int × Int)) : Option (Int × List (Int × Int) × Unit) :=
 ask (0 ≤ x1 ∧ x1 < ((KLb_at x2 x3).length : Int)) (cond (Kb_at (KLb_at x2 x3) x1)
 (ask (0 ≤ x1 ∧ x1 < ((((((KiLPiiELPiiiELPiibiiELPiiiE_at x4 x5).2).2).2).1).length : Int)) ((cone_initOf n ((Kiibii_at (((((KiLPiiELPiiiELPiibiiELPiiiE_at x4 x5).2).2).2).1) x1).1) (((Kiibii_at (((((KiLPiiELPiiiELPiibiiELPiiiE_at x4 x5).2).2).2).1) x1).2).1) ((((Kiibii_at (((((KiLPiiELPiiiELPiibiiELPiiiE_at x4 x5).2).2).2).1) x1).2).2).1) (((((Kiibii_at (((((KiLPiiELPiiiELPiibiiELPiiiE_at x4 x5).2).2).2).1) x1).2).2).2).1) (((((Kiibii_at (((((KiLPiiELPiiiELPiibiiELPiiiE_at x4 x5).2).2).2).1) x1).2).2).2).2)).bind (fun r7 => some (r7.1, x6, ()))))
 (ask (True) (some (IntKind.wrap .i64 ((2 : Int) * (Mi_i_get x6 x1 0)), x6, ()))))
def cone_Fixed_1_s : Sig := ⟨[.c false [.int .i64], .c false [.rp KLb_ 0], .c false [.rp KiLPiiELPiiiELPiibiiELPiiiE_ 0], .c false [.con (.ptr 0 0)]], [(0, .var 86 [.con (.map 1)]), (1, .map false i_ false i_)], .c false [.int .i64], [(0, .var 86 [.con (.map 1)]), (1, .map false i_ false i_)]⟩
def cone_Fixed_1_a : Ann := .d
noncomputable def cone_Fixed_1_c (n : Nat) : Ctr Try.prog := .of Try.func40 n [cone_initOf_c n] cone_Fixed_1_a cone_Fixed_1_s (fun d => cone_Fixed_1 n d.1 d.2.1 d.2.2.1 d.2.2.2.1 d.2.2.2.2.1 d.2.2.2.2.2.1) fun d => by kernel_rfl
noncomputable def cone_anew__cone_Fixed_1_l1b (n : Nat) (x3 : List Kiii) (self : Int × List Int × Unit → Option ((List Int × Unit))) (d17 : Int × List Int × Unit) : Option ((List Int × Unit)) :=
 cond (decide (d17.1 < (x3.length : Int)))
 (ask (True ∧ (d17.2.1.length + (([IntKind.wrap .i64 ((2 : Int) * (IntKind.wrap .i64 (d17.1 + 1)))] : List Int)).length) * 8 ≤ 140737488355328) (self (IntKind.wrap .i64 (d17.1 + 1), d17.2.1 ++ ([IntKind.wrap .i64 ((2 : Int) * (IntKind.wrap .i64 (d17.1 + 1)))] : List Int), ())))
 (some (d17.2.1, ()))
noncomputable def cone_anew__cone_Fixed_1_l1 (n : Nat) (x3 : List Kiii) : Int × List Int × Unit → Option ((List Int × Unit)) := iter (cone_anew__cone_Fixed_1_l1b n x3) n
noncomputable def cone_anew__cone_Fixed_1_l2b (n : Nat) (x4 : List Kiibii) (x7 : List Bool) (x8 : Int) (x9 : List Kii) (x10 : List Kiii) (x11 : List Kiibii) (x12 : List Kiii) (self : Int × List (Int × Int) × List Int × Unit → Option ((List (Int × Int) × List Int × Unit))) (d21 : Int × List (Int × Int) × List Int × Unit) : Option ((List (Int × Int) × List Int × Unit)) :=
 cond (decide (d21.1 < (x4.length : Int)))
 ((cone_Fixed_1 n d21.1 ([x7] : List (List Bool)) 0 ([(x8, x9, x10, x11, x12)] : List KiLPiiELPiiiELPiibiiELPiiiE) 0 d21.2.1).bind (fun r22 => ask (True ∧ (d21.2.2.1.length + (([r22.1] : List Int)).length) * 8 ≤ 140737488355328) (self (IntKind.wrap .i64 (d21.1 + 1), r22.2.1, d21.2.2.1 ++ ([r22.1] : List Int), ()))))
 (some (d21.2.1, d21.2.2.1, ()))
noncomputable def cone_anew__cone_Fixed_1_l2 (n : Nat) (x4 : List Kiibii) (x7 : List Bool) (x8 : Int) (x9 : List Kii) (x10 : List Kiii) (x11 : List Kiibii) (x12 : List Kiii) : Int × List (Int × Int) × List Int × Unit → Option ((List (Int × Int) × List Int × Unit)) := iter (cone_anew__cone_Fixed_1_l2b n x4 x7 x8 x9 x10 x11 x12) n
noncomputable def cone_anew__cone_Fixed_1_l3b (n : Nat) (x2 : List Kii) (self : Int × Int × List Kii × List Int × Unit → Option ((Int × List Kii × List Int × Unit))) (d27 : Int × Int × List Kii × List Int × Unit) : Option ((Int × List Kii × List Int × Unit)) :=
 cond (decide (d27.1 < (x2.length : Int)))
 (ask (0 ≤ d27.1 ∧ d27.1 < (x2.length : Int)) (ask (0 < 2) ((cone_anew_1_i3 n ((Kii_at x2 d27.1).1) d27.2.2.2.1).bind (fun r28 => ask (1 < 2) ((cone_anew_1_i3 n ((Kii_at x2 d27.1).2) r28.2.1).bind (fun r29 => (aig_And n d27.2.1 d27.2.2.1 r28.1 r29.1).bind (fun r30 => ask (True ∧ (r29.2.1.length + (([r30.2.2.1] : List Int)).length) * 8 ≤ 140737488355328) (self (IntKind.wrap .i64 (d27.1 + 1), r30.1, r30.2.1, r29.2.1 ++ ([r30.2.2.1] : List Int), ())))))))))
 (some (d27.2.1, d27.2.2.1, d27.2.2.2.1, ()))
noncomputable def cone_anew__cone_Fixed_1_l3 (n : Nat) (x2 : List Kii) : Int × Int × List Kii × List Int × Unit → Option ((Int × List Kii × List Int × Unit)) := iter (cone_anew__cone_Fixed_1_l3b n x2) n
noncomputable def cone_anew__cone_Fixed_1 (n : Nat) (x1 : Int) (x2 : List Kii) (x3 : List Kiii) (x4 : List Kiibii) (x5 : List Kiii) (x6 : Int) (x7 : List Bool) (x8 : Int) (x9 : List Kii) (x10 : List Kiii) (x11 : List Kiibii) (x12 : List Kiii) (x13 : List (Int × Int)) : Option (Int × List Kii × List Bool × Int × List Kii × List Kiii × List Kiibii × List Kiii × List (Int × Int) × List Int × Unit) :=
 (aig_New n x6).bind (fun r14 => (cone_anew__cone_Fixed_1_l1 n x3 (0, ([0] : List Int), ())).bind (fun d18 => (cone_anew__cone_Fixed_1_l2 n x4 x7 x8 x9 x10 x11 x12 (0, x13, d18.1, ())).bind (fun d23 => (cone_anew__cone_Fixed_1_l3 n x2 (0, r14.1, ([] : List Kii), d23.2.1, ())).bind (fun d31 => some (d31.1, d31.2.1, x7, x8, x9, x10, x11, x12, d23.1, d31.2.2.1, ())))))
def cone_anew__cone_Fixed_1_s : Sig := ⟨[.c true [.int .i64, .row Kii_, .row Kiii_, .row Kiibii_, .row Kiii_], .c false [.int .i64], .c false [.con (.fn 40 [(0, 0), (1, 0), (2, 0)])]], [(0, .var 55 [.row b_]), (1, .var 35 [.int .i64, .row Kii_, .row Kiii_, .row Kiibii_, .row Kiii_]), (2, .var 86 [.con (.map 3)]), (3, .map false i_ false i_)], .t [(true, [.int .i64, .row Kii_]), (false, [.con (.fn 82 [(358, 0)])])], [(0, .var 55 [.row b_]), (1, .var 35 [.int .i64, .row Kii_, .row Kiii_, .row Kiibii_, .row Kiii_]), (2, .var 86 [.con (.map 3)]), (3, .map false i_ false i_), (358, .var 40 [.row i_])]⟩
def cone_anew__cone_Fixed_1_a : Ann := .s .d (.s .d (.s .d (.s (.s .d (.b (.l [9, 10, 18, 22, 23, 24, 25, 26, 27, 28, 29, 30, 31] [294, 358] ⟨[(9, .c false [.con (.ptr 358 0)]), (22, .c false [.int .i64])], [(358, .var 40 [.con (.own 294 1)]), (294, .row 3 i_)]⟩ [(.exit 0, ⟨[(9, .c false [.con (.ptr 358 0)])], [(358, .var 40 [.con (.own 294 1)]), (294, .row 3 i_)]⟩)] .d))) (.s (.s .d (.b (.l [2, 9, 11, 35, 36, 37, 38, 39, 40, 41, 42, 43, 44] [2, 3, 294, 358] ⟨[(2, .c false [.con (.fn 40 [(0, 0), (1, 0), (2, 0)])]), (9, .c false [.con (.ptr 358 0)]), (35, .c false [.int .i64])], [(2, .var 86 [.con (.map 3)]), (3, .map false i_ false i_), (358, .var 40 [.con (.own 294 1)]), (294, .row 3 i_)]⟩ [(.exit 2, ⟨[(9, .c false [.con (.ptr 358 0)])], [(2, .var 86 [.con (.map 3)]), (3, .map false i_ false i_), (358, .var 40 [.con (.own 294 1)]), (294, .row 3 i_)]⟩)] .d))) (.s .d (.s (.s .d (.b (.l [8, 9, 12, 14, 15, 45, 50, 51, 52, 53, 54, 55, 56, 57, 58, 59, 60, 61, 62, 63, 64, 65, 66, 67, 68, 69, 70, 71] [293, 294, 358] ⟨[(8, .c false [.con (.ptr 293 0)]), (9, .c false [.con (.ptr 358 0)]), (12, .c false [.con (.fn 82 [(358, 0)])]), (50, .c false [.int .i64])], [(293, .var 30 [.int .i64, .row Kii_]), (358, .var 40 [.con (.own 294 1)]), (294, .row 3 i_)]⟩ [(.exit 4, ⟨[(8, .c false [.con (.ptr 293 0)]), (12, .c false [.con (.fn 82 [(358, 0)])])], [(293, .var 30 [.int .i64, .row Kii_]), (358, .var 40 [.con (.own 294 1)]), (294, .row 3 i_)]⟩)] .d))) .d))))))
noncomputable def cone_anew__cone_Fixed_1_c (n : Nat) : Ctr Try.prog := .of Try.func39 n [aig_New_c n, cone_Fixed_1_c n, cone_anew_1_i3_c n, aig_And_c n] cone_anew__cone_Fixed_1_a cone_anew__cone_Fixed_1_s (fun d => cone_anew__cone_Fixed_1 n d.1 d.2.1 d.2.2.1 d.2.2.2.1 d.2.2.2.2.1 d.2.2.2.2.2.1 d.2.2.2.2.2.2.1 d.2.2.2.2.2.2.2.1 d.2.2.2.2.2.2.2.2.1 d.2.2.2.2.2.2.2.2.2.1 d.2.2.2.2.2.2.2.2.2.2.1 d.2.2.2.2.2.2.2.2.2.2.2.1 d.2.2.2.2.2.2.2.2.2.2.2.2.1) fun d => by kernel_rfl
noncomputable def slices_Clone_3_int_3_int (n : Nat) (l : List Kiii) : Option (List Kiii × Unit) :=
 ask (True ∧ ((([] : List Kiii)).length + l.length) * 24 ≤ 140737488355328) (some (l, ()))
def slices_Clone_3_int_3_int_s : Sig := cloneS Kiii_ (.c false [.row Kiii_]) []
noncomputable def slices_Clone_3_int_3_int_c (n : Nat) : Ctr Try.prog := ⟨.fn 42, slices_Clone_3_int_3_int_s, fun d => slices_Clone_3_int_3_int n d.1, fun d r h => Spec.clone (P := Try.prog) (f := 42) (fn := Try.f42) (t := Kiii_) (T := 31) (E' := 68) (o := (.c false [.row Kiii_])) (ob := []) (c := fun l : List Kiii => True ∧ ((([] : List Kiii)).length + l.length) * 24 ≤ 140737488355328) (g := fun l : List Kiii => (l, ())) (d := d) (r := r) rfl Try.func42 rfl rfl rfl rfl rfl rfl rfl rfl (by kernel_rfl) (by kernel_rfl) (by kernel_rfl) (by kernel_rfl) (fun l => by kernel_rfl) (fun l => by kernel_rfl) (fun l => by kernel_rfl) (fun l => by kernel_rfl) h⟩
noncomputable def cone_Fixed_l1b (n : Nat) (r6 : List Bool × Unit) (x3 : List Kiii) (self : Int × List Int × List (Int × Int) × Unit → Option ((List Int × List (Int × Int) × Unit))) (d10 : Int × List Int × List (Int × Int) × Unit) : Option ((List Int × List (Int × Int) × Unit)) :=
 cond (decide (d10.1 < (r6.1.length : Int)))
 (ask (0 ≤ d10.1 ∧ d10.1 < (r6.1.length : Int)) (cond (!(Kb_at r6.1 d10.1))
 (ask (True ∧ (d10.2.1.length + (([d10.1] : List Int)).length) * 8 ≤ 140737488355328) (self (IntKind.wrap .i64 (d10.1 + 1), d10.2.1 ++ ([d10.1] : List Int), Mi_i_put d10.2.2.1 d10.1 (IntKind.wrap .i64 ((IntKind.wrap .i64 ((x3.length : Int) + (d10.2.1.length : Int))) + 1)), ())))
 (self (IntKind.wrap .i64 (d10.1 + 1), d10.2.1, d10.2.2.1, ()))))
 (some (d10.2.1, d10.2.2.1, ()))
noncomputable def cone_Fixed_l1 (n : Nat) (r6 : List Bool × Unit) (x3 : List Kiii) : Int × List Int × List (Int × Int) × Unit → Option ((List Int × List (Int × Int) × Unit)) := iter (cone_Fixed_l1b n r6 x3) n
noncomputable def cone_Fixed_l2b (n : Nat) (d11 : List Int × List (Int × Int) × Unit) (r12 : Int × List Kii × List Bool × Int × List Kii × List Kiii × List Kiibii × List Kiii × List (Int × Int) × List Int × Unit) (self : Int × Int × List Kii × List Kiii × List Kiibii × Unit → Option ((Int × List Kii × List Kiii × List Kiibii × Unit))) (d17 : Int × Int × List Kii × List Kiii × List Kiibii × Unit) : Option ((Int × List Kii × List Kiii × List Kiibii × Unit)) :=
 cond (decide (d17.1 < (d11.1.length : Int)))
 (ask (0 ≤ d17.1 ∧ d17.1 < (d11.1.length : Int)) (ask (0 ≤ (Ki_at d11.1 d17.1) ∧ Ki_at d11.1 d17.1 < (r12.2.2.2.2.2.2.1.length : Int)) (ask (True) ((cone_anew_1_i2 n (((Kiibii_at r12.2.2.2.2.2.2.1 (Ki_at d11.1 d17.1)).2).1) ([r12.2.2.2.2.2.2.2.2.2.1] : List (List Int)) 0).bind (fun r18 => ask (True ∧ (d17.2.2.2.2.1.length + (([(Mi_i_get r12.2.2.2.2.2.2.2.2.1 (Ki_at d11.1 d17.1) 0, r18.1, (((Kiibii_at r12.2.2.2.2.2.2.1 (Ki_at d11.1 d17.1)).2).2).1, ((((Kiibii_at r12.2.2.2.2.2.2.1 (Ki_at d11.1 d17.1)).2).2).2).1, ((((Kiibii_at r12.2.2.2.2.2.2.1 (Ki_at d11.1 d17.1)).2).2).2).2)] : List Kiibii)).length) * 40 ≤ 140737488355328) (self (IntKind.wrap .i64 (d17.1 + 1), d17.2.1, d17.2.2.1, d17.2.2.2.1, d17.2.2.2.2.1 ++ ([(Mi_i_get r12.2.2.2.2.2.2.2.2.1 (Ki_at d11.1 d17.1) 0, r18.1, (((Kiibii_at r12.2.2.2.2.2.2.1 (Ki_at d11.1 d17.1)).2).2).1, ((((Kiibii_at r12.2.2.2.2.2.2.1 (Ki_at d11.1 d17.1)).2).2).2).1, ((((Kiibii_at r12.2.2.2.2.2.2.1 (Ki_at d11.1 d17.1)).2).2).2).2)] : List Kiibii), ())))))))
 (some (d17.2.1, d17.2.2.1, d17.2.2.2.1, d17.2.2.2.2.1, ()))
noncomputable def cone_Fixed_l2 (n : Nat) (d11 : List Int × List (Int × Int) × Unit) (r12 : Int × List Kii × List Bool × Int × List Kii × List Kiii × List Kiibii × List Kiii × List (Int × Int) × List Int × Unit) : Int × Int × List Kii × List Kiii × List Kiibii × Unit → Option ((Int × List Kii × List Kiii × List Kiibii × Unit)) := iter (cone_Fixed_l2b n d11 r12) n
noncomputable def cone_Fixed_l3b (n : Nat) (r12 : Int × List Kii × List Bool × Int × List Kii × List Kiii × List Kiibii × List Kiii × List (Int × Int) × List Int × Unit) (self : Int × Int × List Kii × List Kiii × List Kiii × Unit → Option ((Int × List Kii × List Kiii × List Kiii × Unit))) (d23 : Int × Int × List Kii × List Kiii × List Kiii × Unit) : Option ((Int × List Kii × List Kiii × List Kiii × Unit)) :=
 cond (decide (d23.1 < (r12.2.2.2.2.2.2.2.1.length : Int)))
 (ask (0 ≤ d23.1 ∧ d23.1 < (r12.2.2.2.2.2.2.2.1.length : Int)) ((cone_anew_1_i2 n (((Kiii_at r12.2.2.2.2.2.2.2.1 d23.1).2).1) ([r12.2.2.2.2.2.2.2.2.2.1] : List (List Int)) 0).bind (fun r24 => ask (True ∧ (d23.2.2.2.2.1.length + (([((Kiii_at r12.2.2.2.2.2.2.2.1 d23.1).1, r24.1, ((Kiii_at r12.2.2.2.2.2.2.2.1 d23.1).2).2)] : List Kiii)).length) * 24 ≤ 140737488355328) (self (IntKind.wrap .i64 (d23.1 + 1), d23.2.1, d23.2.2.1, d23.2.2.2.1, d23.2.2.2.2.1 ++ ([((Kiii_at r12.2.2.2.2.2.2.2.1 d23.1).1, r24.1, ((Kiii_at r12.2.2.2.2.2.2.2.1 d23.1).2).2)] : List Kiii), ())))))
 (some (d23.2.1, d23.2.2.1, d23.2.2.2.1, d23.2.2.2.2.1, ()))
noncomputable def cone_Fixed_l3 (n : Nat) (r12 : Int × List Kii × List Bool × Int × List Kii × List Kiii × List Kiibii × List Kiii × List (Int × Int) × List Int × Unit) : Int × Int × List Kii × List Kiii × List Kiii × Unit → Option ((Int × List Kii × List Kiii × List Kiii × Unit)) := iter (cone_Fixed_l3b n r12) n
noncomputable def cone_Fixed (n : Nat) (x1 : Int) (x2 : List Kii) (x3 : List Kiii) (x4 : List Kiibii) (x5 : List Kiii) : Option (Int × List Kii × List Kiii × List Kiibii × List Kiii × List Int × Unit) :=
 (cone_still n x1 x2 x3 x4 x5).bind (fun r6 => (cone_Fixed_l1 n r6 x3 (0, ([] : List Int), ([] : List (Int × Int)), ())).bind (fun d11 => (cone_anew__cone_Fixed_1 n x1 x2 x3 x4 x5 (IntKind.wrap .i64 ((x3.length : Int) + (d11.1.length : Int))) r6.1 x1 x2 x3 x4 x5 d11.2.1).bind (fun r12 => (slices_Clone_3_int_3_int n r12.2.2.2.2.2.1).bind (fun r13 => (cone_Fixed_l2 n d11 r12 (0, r12.1, r12.2.1, r13.1, ([] : List Kiibii), ())).bind (fun d19 => (cone_Fixed_l3 n r12 (0, d19.1, d19.2.1, d19.2.2.1, ([] : List Kiii), ())).bind (fun d25 => some (d25.1, d25.2.1, d25.2.2.1, d19.2.2.2.1, d25.2.2.2.1, d11.1, ())))))))
def cone_Fixed_s : Sig := ⟨[.c true [.int .i64, .row Kii_, .row Kiii_, .row Kiibii_, .row Kiii_]], [], .t [(true, [.int .i64, .row Kii_, .row Kiii_, .row Kiibii_, .row Kiii_]), (false, [.row i_])], []⟩
def cone_Fixed_a : Ann := .s .d (.s .d (.s .d (.s .d (.s (.s .d (.b (.l [5, 6, 7, 8, 19, 22, 23, 24, 25, 26, 27, 28, 29, 30, 31, 32, 33, 34, 35, 36, 37, 38, 39, 40, 41, 42] [294, 358] ⟨[(5, .c false [.con (.own 100000 1)]), (6, .c false [.con (.ptr 358 0)]), (22, .c false [.int .i64])], [(100000, .row 3 i_), (358, .var 86 [.con (.map 294)]), (294, .map false i_ false i_)]⟩ [(.exit 0, ⟨[(5, .c false [.con (.own 100000 1)]), (6, .c false [.con (.ptr 358 0)])], [(100000, .row 3 i_), (358, .var 86 [.con (.map 294)]), (294, .map false i_ false i_)]⟩)] .d))) (.s .d (.s .d (.s (.s .d (.b (.l [11, 13, 14, 62, 63, 64, 65, 66, 67, 68, 69, 70, 71, 72, 73, 74, 75, 76, 77, 78, 79, 80, 81, 82, 83, 84, 85, 86] [101090] ⟨[(11, .c false [.con (.ptr 101090 0)]), (62, .c false [.int .i64])], [(101090, .var 35 [.int .i64, .row Kii_, .row Kiii_, .con (.own 200000 5), .con .nilsl]), (200000, .row 70 Kiibii_)]⟩ [(.exit 2, ⟨[(11, .c false [.con (.ptr 101090 0)])], [(101090, .var 35 [.int .i64, .row Kii_, .row Kiii_, .con (.own 200000 5), .con .nilsl]), (200000, .row 70 Kiibii_)]⟩)] .d))) (.s (.s .d (.b (.l [11, 16, 90, 91, 92, 93, 94, 95, 96, 97, 98, 99, 100, 101, 102, 103, 104, 105] [101090] ⟨[(11, .c false [.con (.ptr 101090 0)]), (90, .c false [.int .i64])], [(101090, .var 35 [.int .i64, .row Kii_, .row Kiii_, .con (.own 200000 5), .con (.own 300000 3)]), (300000, .row 53 Kiii_)]⟩ [(.exit 4, ⟨[(11, .c false [.con (.ptr 101090 0)])], [(101090, .var 35 [.int .i64, .row Kii_, .row Kiii_, .con (.own 200000 5), .con (.own 300000 3)]), (300000, .row 53 Kiii_)]⟩)] .d))) .d))))))))
noncomputable def cone_Fixed_c (n : Nat) : Ctr Try.prog := .of Try.func12 n [cone_still_c n, cone_anew__cone_Fixed_1_c n, slices_Clone_3_int_3_int_c n, cone_anew_1_i2_c n] cone_Fixed_a cone_Fixed_s (fun d => cone_Fixed n d.1 d.2.1 d.2.2.1 d.2.2.2.1 d.2.2.2.2.1) fun d => by kernel_rfl
noncomputable def ref13_Same_l1b (n : Nat) (x2 : List Kii) (x4 : List Kii) (self : Int × Unit → Option ((Bool × Unit) ⊕ (Unit))) (d6 : Int × Unit) : Option ((Bool × Unit) ⊕ (Unit)) :=
 cond (decide (d6.1 < (x2.length : Int)))
 (ask (0 ≤ d6.1 ∧ d6.1 < (x2.length : Int)) (ask (0 ≤ d6.1 ∧ d6.1 < (x4.length : Int)) (cond (!((((Kii_at x2 d6.1).1) == (Kii_at x4 d6.1).1) && (((Kii_at x2 d6.1).2) == (Kii_at x4 d6.1).2)))
 (some (.inl (false, ())))
 (self (IntKind.wrap .i64 (d6.1 + 1), ())))))
 (some (.inr ()))
noncomputable def ref13_Same_l1 (n : Nat) (x2 : List Kii) (x4 : List Kii) : Int × Unit → Option ((Bool × Unit) ⊕ (Unit)) := iter (ref13_Same_l1b n x2 x4) n
noncomputable def ref13_Same (n : Nat) (x1 : Int) (x2 : List Kii) (x3 : Int) (x4 : List Kii) : Option (Bool × Unit) :=
 cond (decide (x1 ≠ x3))
 (some (false, ()))
 (cond (decide ((x2.length : Int) ≠ (x4.length : Int)))
 (some (false, ()))
 ((ref13_Same_l1 n x2 x4 (0, ())).bind (Sum.elim (fun d7 => some (d7.1, ())) (fun d8 => some (true, ())))))
def ref13_Same_s : Sig := ⟨[.c true [.int .i64, .row Kii_], .c true [.int .i64, .row Kii_]], [], .c false [.bool], []⟩
def ref13_Same_a : Ann := .s .d (.s .d (.s (.s .d (.b (.l [4, 5, 20, 21, 22, 23, 24, 25, 26, 27, 28, 29, 30, 31, 32, 33, 34, 35, 36, 37] [] ⟨[(5, .c false [.int .i64])], []⟩ [(.ret, ⟨[(4, .c false [.bool])], []⟩), (.exit 0, ⟨[], []⟩)] .d))) .d))
noncomputable def ref13_Same_c (n : Nat) : Ctr Try.prog := .of Try.func47 n [] ref13_Same_a ref13_Same_s (fun d => ref13_Same n d.1 d.2.1 d.2.2.1 d.2.2.2.1) fun d => by kernel_rfl
noncomputable def ref16_Same_l1b (n : Nat) (x3 : List Kiii) (x8 : List Kiii) (self : Int × Unit → Option ((Bool × Unit) ⊕ (Unit))) (d13 : Int × Unit) : Option ((Bool × Unit) ⊕ (Unit)) :=
 cond (decide (d13.1 < (x3.length : Int)))
 (ask (0 ≤ d13.1 ∧ d13.1 < (x3.length : Int)) (ask (0 ≤ d13.1 ∧ d13.1 < (x8.length : Int)) (cond (!((((Kiii_at x3 d13.1).1) == (Kiii_at x8 d13.1).1) && (((((Kiii_at x3 d13.1).2).1) == ((Kiii_at x8 d13.1).2).1) && ((((Kiii_at x3 d13.1).2).2) == ((Kiii_at x8 d13.1).2).2))))
 (some (.inl (false, ())))
 (self (IntKind.wrap .i64 (d13.1 + 1), ())))))
 (some (.inr ()))
noncomputable def ref16_Same_l1 (n : Nat) (x3 : List Kiii) (x8 : List Kiii) : Int × Unit → Option ((Bool × Unit) ⊕ (Unit)) := iter (ref16_Same_l1b n x3 x8) n
noncomputable def ref16_Same_l2b (n : Nat) (x4 : List Kiibii) (x9 : List Kiibii) (self : Int × Unit → Option ((Bool × Unit) ⊕ (Unit))) (d17 : Int × Unit) : Option ((Bool × Unit) ⊕ (Unit)) :=
 cond (decide (d17.1 < (x4.length : Int)))
 (ask (0 ≤ d17.1 ∧ d17.1 < (x4.length : Int)) (ask (0 ≤ d17.1 ∧ d17.1 < (x9.length : Int)) (cond (!((((Kiibii_at x4 d17.1).1) == (Kiibii_at x9 d17.1).1) && (((((Kiibii_at x4 d17.1).2).1) == ((Kiibii_at x9 d17.1).2).1) && (((((Kiibii_at x4 d17.1).2).2).1 == (((Kiibii_at x9 d17.1).2).2).1) && (((((((Kiibii_at x4 d17.1).2).2).2).1) == ((((Kiibii_at x9 d17.1).2).2).2).1) && ((((((Kiibii_at x4 d17.1).2).2).2).2) == ((((Kiibii_at x9 d17.1).2).2).2).2))))))
 (some (.inl (false, ())))
 (self (IntKind.wrap .i64 (d17.1 + 1), ())))))
 (some (.inr ()))
noncomputable def ref16_Same_l2 (n : Nat) (x4 : List Kiibii) (x9 : List Kiibii) : Int × Unit → Option ((Bool × Unit) ⊕ (Unit)) := iter (ref16_Same_l2b n x4 x9) n
noncomputable def ref16_Same_l3b (n : Nat) (x5 : List Kiii) (x10 : List Kiii) (self : Int × Unit → Option ((Bool × Unit) ⊕ (Unit))) (d21 : Int × Unit) : Option ((Bool × Unit) ⊕ (Unit)) :=
 cond (decide (d21.1 < (x5.length : Int)))
 (ask (0 ≤ d21.1 ∧ d21.1 < (x5.length : Int)) (ask (0 ≤ d21.1 ∧ d21.1 < (x10.length : Int)) (cond (!((((Kiii_at x5 d21.1).1) == (Kiii_at x10 d21.1).1) && (((((Kiii_at x5 d21.1).2).1) == ((Kiii_at x10 d21.1).2).1) && ((((Kiii_at x5 d21.1).2).2) == ((Kiii_at x10 d21.1).2).2))))
 (some (.inl (false, ())))
 (self (IntKind.wrap .i64 (d21.1 + 1), ())))))
 (some (.inr ()))
noncomputable def ref16_Same_l3 (n : Nat) (x5 : List Kiii) (x10 : List Kiii) : Int × Unit → Option ((Bool × Unit) ⊕ (Unit)) := iter (ref16_Same_l3b n x5 x10) n
noncomputable def ref16_Same (n : Nat) (x1 : Int) (x2 : List Kii) (x3 : List Kiii) (x4 : List Kiibii) (x5 : List Kiii) (x6 : Int) (x7 : List Kii) (x8 : List Kiii) (x9 : List Kiibii) (x10 : List Kiii) : Option (Bool × Unit) :=
 cond (decide ((x3.length : Int) ≠ (x8.length : Int)))
 (some (false, ()))
 (cond (decide ((x4.length : Int) ≠ (x9.length : Int)))
 (some (false, ()))
 (cond (decide ((x5.length : Int) ≠ (x10.length : Int)))
 (some (false, ()))
 ((ref13_Same n x1 x2 x6 x7).bind (fun r11 => cond (!r11.1)
 (some (false, ()))
 ((ref16_Same_l1 n x3 x8 (0, ())).bind (Sum.elim (fun d14 => some (d14.1, ())) (fun d15 => (ref16_Same_l2 n x4 x9 (0, ())).bind (Sum.elim (fun d18 => some (d18.1, ())) (fun d19 => (ref16_Same_l3 n x5 x10 (0, ())).bind (Sum.elim (fun d22 => some (d22.1, ())) (fun d23 => some (true, ()))))))))))))
def ref16_Same_s : Sig := ⟨[.c true [.int .i64, .row Kii_, .row Kiii_, .row Kiibii_, .row Kiii_], .c true [.int .i64, .row Kii_, .row Kiii_, .row Kiibii_, .row Kiii_]], [], .c false [.bool], []⟩
def ref16_Same_a : Ann := .s .d (.s .d (.s (.s .d (.b (.l [4, 5, 41, 42, 43, 44, 45, 46, 47, 48, 49, 50, 51, 52, 53, 54, 55, 56, 57, 58] [] ⟨[(5, .c false [.int .i64])], []⟩ [(.ret, ⟨[(4, .c false [.bool])], []⟩), (.exit 0, ⟨[], []⟩)] .d))) (.s (.s .d (.b (.l [4, 6, 59, 60, 61, 62, 63, 64, 65, 66, 67, 68, 69, 70, 71, 72, 73, 74, 75, 76] [] ⟨[(6, .c false [.int .i64])], []⟩ [(.ret, ⟨[(4, .c false [.bool])], []⟩), (.exit 2, ⟨[], []⟩)] .d))) (.s (.s .d (.b (.l [4, 7, 77, 78, 79, 80, 81, 82, 83, 84, 85, 86, 87, 88, 89, 90, 91, 92, 93, 94] [] ⟨[(7, .c false [.int .i64])], []⟩ [(.ret, ⟨[(4, .c false [.bool])], []⟩), (.exit 4, ⟨[], []⟩)] .d))) .d))))
noncomputable def ref16_Same_c (n : Nat) : Ctr Try.prog := .of Try.func14 n [ref13_Same_c n] ref16_Same_a ref16_Same_s (fun d => ref16_Same n d.1 d.2.1 d.2.2.1 d.2.2.2.1 d.2.2.2.2.1 d.2.2.2.2.2.1 d.2.2.2.2.2.2.1 d.2.2.2.2.2.2.2.1 d.2.2.2.2.2.2.2.2.1 d.2.2.2.2.2.2.2.2.2.1) fun d => by kernel_rfl
noncomputable def ref04_SameInts_l1b (n : Nat) (x1 : List Int) (x2 : List Int) (self : Int × Unit → Option ((Bool × Unit) ⊕ (Unit))) (d4 : Int × Unit) : Option ((Bool × Unit) ⊕ (Unit)) :=
 cond (decide (d4.1 < (x1.length : Int)))
 (ask (0 ≤ d4.1 ∧ d4.1 < (x1.length : Int)) (ask (0 ≤ d4.1 ∧ d4.1 < (x2.length : Int)) (cond (decide ((Ki_at x1 d4.1) ≠ (Ki_at x2 d4.1)))
 (some (.inl (false, ())))
 (self (IntKind.wrap .i64 (d4.1 + 1), ())))))
 (some (.inr ()))
noncomputable def ref04_SameInts_l1 (n : Nat) (x1 : List Int) (x2 : List Int) : Int × Unit → Option ((Bool × Unit) ⊕ (Unit)) := iter (ref04_SameInts_l1b n x1 x2) n
noncomputable def ref04_SameInts (n : Nat) (x1 : List Int) (x2 : List Int) : Option (Bool × Unit) :=
 cond (decide ((x1.length : Int) ≠ (x2.length : Int)))
 (some (false, ()))
 ((ref04_SameInts_l1 n x1 x2 (0, ())).bind (Sum.elim (fun d5 => some (d5.1, ())) (fun d6 => some (true, ()))))
def ref04_SameInts_s : Sig := ⟨[.c false [.row i_], .c false [.row i_]], [], .c false [.bool], []⟩
def ref04_SameInts_a : Ann := .s .d (.s .d (.s (.s .d (.b (.l [4, 5, 11, 12, 13, 14, 15, 16, 17, 18, 19, 20, 21, 22, 23, 24, 25] [] ⟨[(5, .c false [.int .i64])], []⟩ [(.ret, ⟨[(4, .c false [.bool])], []⟩), (.exit 0, ⟨[], []⟩)] .d))) .d))
noncomputable def ref04_SameInts_c (n : Nat) : Ctr Try.prog := .of Try.func15 n [] ref04_SameInts_a ref04_SameInts_s (fun d => ref04_SameInts n d.1 d.2.1) fun d => by kernel_rfl
noncomputable def law16_head (n : Nat) : Option (Bool × Unit) :=
 (law16_Some n).bind (fun r1 => (cone_Cone n r1.1 r1.2.1 r1.2.2.1 r1.2.2.2.1 r1.2.2.2.2.1 1).bind (fun r2 => (law16_Some n).bind (fun r3 => (cone_Fixed n r3.1 r3.2.1 r3.2.2.1 r3.2.2.2.1 r3.2.2.2.2.1).bind (fun r4 => (ref16_Same n r2.1 r2.2.1 r2.2.2.1 r2.2.2.2.1 r2.2.2.2.2.1 3 ([(3, 5)] : List Kii) ([(1, 0, 0)] : List Kiii) ([(2, 2, true, 0, 0), (3, 7, false, 1, 0)] : List Kiibii) ([(10, 6, 1), (9, 9, 2)] : List Kiii)).bind (fun r5 => cond r5.1
 ((ref04_SameInts n r2.2.2.2.2.2.1 ([0, 1] : List Int)).bind (fun r6 => cond r6.1
 ((ref16_Same n r4.1 r4.2.1 r4.2.2.1 r4.2.2.2.1 r4.2.2.2.2.1 3 ([(3, 5)] : List Kii) ([(1, 0, 0)] : List Kiii) ([(2, 2, true, 0, 0), (3, 7, false, 1, 0)] : List Kiibii) ([(8, 4, 0), (10, 6, 1), (9, 9, 2)] : List Kiii)).bind (fun r7 => cond r7.1
 ((ref04_SameInts n r4.2.2.2.2.2.1 ([0, 1] : List Int)).bind (fun r8 => some (r8.1, ())))
 (some (false, ()))))
 (some (false, ()))))
 (some (false, ())))))))
def law16_head_s : Sig := ⟨[], [], .c false [.bool], []⟩
def law16_head_a : Ann := .d
noncomputable def law16_head_c (n : Nat) : Ctr Try.prog := .of Try.func8 n [law16_Some_c n, cone_Cone_c n, cone_Fixed_c n, ref16_Same_c n, ref04_SameInts_c n] law16_head_a law16_head_s (fun d => law16_head n) fun d => by kernel_rfl
noncomputable def law09_Great (n : Nat) (x1 : List Kiiiiiii) (x2 : List Ksi) (x3 : List Ksiii) (x4 : List Kisi) (x5 : List Ksi) : Option (Bool × Unit) :=
 cond (decide ((300 : Int) < (x1.length : Int)))
 (some (true, ()))
 (cond (decide ((100 : Int) < (x2.length : Int)))
 (some (true, ()))
 (cond (decide ((300 : Int) < (x3.length : Int)))
 (some (true, ()))
 (cond (decide ((40 : Int) < (x4.length : Int)))
 (some (true, ()))
 (some (decide ((300 : Int) < (x5.length : Int)), ())))))
def law09_Great_s : Sig := ⟨[.c true [.row Kiiiiiii_, .row Ksi_, .row Ksiii_, .row Kisi_, .row Ksi_]], [], .c false [.bool], []⟩
def law09_Great_a : Ann := .d
noncomputable def law09_Great_c (n : Nat) : Ctr Try.prog := .of Try.func31 n [] law09_Great_a law09_Great_s (fun d => law09_Great n d.1 d.2.1 d.2.2.1 d.2.2.2.1 d.2.2.2.2.1) fun d => by kernel_rfl
noncomputable def ref09_operands (n : Nat) (x1 : Int) : Option (Int × Unit) :=
 cond (decide (x1 = 1))
 (cond (decide (x1 = 1))
 (some (0, ()))
 (cond (decide (x1 = 3))
 (cond (decide (x1 = 3))
 (some (1, ()))
 (cond (decide (x1 = 6))
 (cond (decide (x1 = 6))
 (some (2, ()))
 (cond (decide (x1 = 16))
 (some (3, ()))
 (some ((-1), ()))))
 (cond (decide (x1 = 7))
 (cond (decide (x1 = 7))
 (some (2, ()))
 (cond (decide (x1 = 16))
 (some (3, ()))
 (some ((-1), ()))))
 (cond (decide (x1 = 8))
 (cond (decide (x1 = 8))
 (some (2, ()))
 (cond (decide (x1 = 16))
 (some (3, ()))
 (some ((-1), ()))))
 (cond (decide (x1 = 9))
 (cond (decide (x1 = 9))
 (some (2, ()))
 (cond (decide (x1 = 16))
 (some (3, ()))
 (some ((-1), ()))))
 (cond (decide (x1 = 10))
 (cond (decide (x1 = 10))
 (some (2, ()))
 (cond (decide (x1 = 16))
 (some (3, ()))
 (some ((-1), ()))))
 (cond (decide (x1 = 11))
 (cond (decide (x1 = 11))
 (some (2, ()))
 (cond (decide (x1 = 16))
 (some (3, ()))
 (some ((-1), ()))))
 (cond (decide (x1 = 12))
 (cond (decide (x1 = 12))
 (some (2, ()))
 (cond (decide (x1 = 16))
 (some (3, ()))
 (some ((-1), ()))))
 (cond (decide (x1 = 13))
 (cond (decide (x1 = 13))
 (some (2, ()))
 (cond (decide (x1 = 16))
 (some (3, ()))
 (some ((-1), ()))))
 (cond (decide (x1 = 14))
 (cond (decide (x1 = 14))
 (some (2, ()))
 (cond (decide (x1 = 16))
 (some (3, ()))
 (some ((-1), ()))))
 (cond (decide (x1 = 15))
 (cond (decide (x1 = 15))
 (some (2, ()))
 (cond (decide (x1 = 16))
 (some (3, ()))
 (some ((-1), ()))))
 (cond (decide (x1 = 17))
 (some (2, ()))
 (cond (decide (x1 = 16))
 (some (3, ()))
 (some ((-1), ())))))))))))))))
 (cond (decide (x1 = 4))
 (cond (decide (x1 = 4))
 (some (1, ()))
 (cond (decide (x1 = 6))
 (cond (decide (x1 = 6))
 (some (2, ()))
 (cond (decide (x1 = 16))
 (some (3, ()))
 (some ((-1), ()))))
 (cond (decide (x1 = 7))
 (cond (decide (x1 = 7))
 (some (2, ()))
 (cond (decide (x1 = 16))
 (some (3, ()))
 (some ((-1), ()))))
 (cond (decide (x1 = 8))
 (cond (decide (x1 = 8))
 (some (2, ()))
 (cond (decide (x1 = 16))
 (some (3, ()))
 (some ((-1), ()))))
 (cond (decide (x1 = 9))
 (cond (decide (x1 = 9))
 (some (2, ()))
 (cond (decide (x1 = 16))
 (some (3, ()))
 (some ((-1), ()))))
 (cond (decide (x1 = 10))
 (cond (decide (x1 = 10))
 (some (2, ()))
 (cond (decide (x1 = 16))
 (some (3, ()))
 (some ((-1), ()))))
 (cond (decide (x1 = 11))
 (cond (decide (x1 = 11))
 (some (2, ()))
 (cond (decide (x1 = 16))
 (some (3, ()))
 (some ((-1), ()))))
 (cond (decide (x1 = 12))
 (cond (decide (x1 = 12))
 (some (2, ()))
 (cond (decide (x1 = 16))
 (some (3, ()))
 (some ((-1), ()))))
 (cond (decide (x1 = 13))
 (cond (decide (x1 = 13))
 (some (2, ()))
 (cond (decide (x1 = 16))
 (some (3, ()))
 (some ((-1), ()))))
 (cond (decide (x1 = 14))
 (cond (decide (x1 = 14))
 (some (2, ()))
 (cond (decide (x1 = 16))
 (some (3, ()))
 (some ((-1), ()))))
 (cond (decide (x1 = 15))
 (cond (decide (x1 = 15))
 (some (2, ()))
 (cond (decide (x1 = 16))
 (some (3, ()))
 (some ((-1), ()))))
 (cond (decide (x1 = 17))
 (some (2, ()))
 (cond (decide (x1 = 16))
 (some (3, ()))
 (some ((-1), ())))))))))))))))
 (cond (decide (x1 = 5))
 (cond (decide (x1 = 5))
 (some (1, ()))
 (cond (decide (x1 = 6))
 (cond (decide (x1 = 6))
 (some (2, ()))
 (cond (decide (x1 = 16))
 (some (3, ()))
 (some ((-1), ()))))
 (cond (decide (x1 = 7))
 (cond (decide (x1 = 7))
 (some (2, ()))
 (cond (decide (x1 = 16))
 (some (3, ()))
 (some ((-1), ()))))
 (cond (decide (x1 = 8))
 (cond (decide (x1 = 8))
 (some (2, ()))
 (cond (decide (x1 = 16))
 (some (3, ()))
 (some ((-1), ()))))
 (cond (decide (x1 = 9))
 (cond (decide (x1 = 9))
 (some (2, ()))
 (cond (decide (x1 = 16))
 (some (3, ()))
 (some ((-1), ()))))
 (cond (decide (x1 = 10))
 (cond (decide (x1 = 10))
 (some (2, ()))
 (cond (decide (x1 = 16))
 (some (3, ()))
 (some ((-1), ()))))
 (cond (decide (x1 = 11))
 (cond (decide (x1 = 11))
 (some (2, ()))
 (cond (decide (x1 = 16))
 (some (3, ()))
 (some ((-1), ()))))
 (cond (decide (x1 = 12))
 (cond (decide (x1 = 12))
 (some (2, ()))
 (cond (decide (x1 = 16))
 (some (3, ()))
 (some ((-1), ()))))
 (cond (decide (x1 = 13))
 (cond (decide (x1 = 13))
 (some (2, ()))
 (cond (decide (x1 = 16))
 (some (3, ()))
 (some ((-1), ()))))
 (cond (decide (x1 = 14))
 (cond (decide (x1 = 14))
 (some (2, ()))
 (cond (decide (x1 = 16))
 (some (3, ()))
 (some ((-1), ()))))
 (cond (decide (x1 = 15))
 (cond (decide (x1 = 15))
 (some (2, ()))
 (cond (decide (x1 = 16))
 (some (3, ()))
 (some ((-1), ()))))
 (cond (decide (x1 = 17))
 (some (2, ()))
 (cond (decide (x1 = 16))
 (some (3, ()))
 (some ((-1), ())))))))))))))))
 (cond (decide (x1 = 18))
 (some (1, ()))
 (cond (decide (x1 = 6))
 (cond (decide (x1 = 6))
 (some (2, ()))
 (cond (decide (x1 = 16))
 (some (3, ()))
 (some ((-1), ()))))
 (cond (decide (x1 = 7))
 (cond (decide (x1 = 7))
 (some (2, ()))
 (cond (decide (x1 = 16))
 (some (3, ()))
 (some ((-1), ()))))
 (cond (decide (x1 = 8))
 (cond (decide (x1 = 8))
 (some (2, ()))
 (cond (decide (x1 = 16))
 (some (3, ()))
 (some ((-1), ()))))
 (cond (decide (x1 = 9))
 (cond (decide (x1 = 9))
 (some (2, ()))
 (cond (decide (x1 = 16))
 (some (3, ()))
 (some ((-1), ()))))
 (cond (decide (x1 = 10))
 (cond (decide (x1 = 10))
 (some (2, ()))
 (cond (decide (x1 = 16))
 (some (3, ()))
 (some ((-1), ()))))
 (cond (decide (x1 = 11))
 (cond (decide (x1 = 11))
 (some (2, ()))
 (cond (decide (x1 = 16))
 (some (3, ()))
 (some ((-1), ()))))
 (cond (decide (x1 = 12))
 (cond (decide (x1 = 12))
 (some (2, ()))
 (cond (decide (x1 = 16))
 (some (3, ()))
 (some ((-1), ()))))
 (cond (decide (x1 = 13))
 (cond (decide (x1 = 13))
 (some (2, ()))
 (cond (decide (x1 = 16))
 (some (3, ()))
 (some ((-1), ()))))
 (cond (decide (x1 = 14))
 (cond (decide (x1 = 14))
 (some (2, ()))
 (cond (decide (x1 = 16))
 (some (3, ()))
 (some ((-1), ()))))
 (cond (decide (x1 = 15))
 (cond (decide (x1 = 15))
 (some (2, ()))
 (cond (decide (x1 = 16))
 (some (3, ()))
 (some ((-1), ()))))
 (cond (decide (x1 = 17))
 (some (2, ()))
 (cond (decide (x1 = 16))
 (some (3, ()))
 (some ((-1), ())))))))))))))))))))
 (cond (decide (x1 = 21))
 (cond (decide (x1 = 21))
 (some (0, ()))
 (cond (decide (x1 = 3))
 (cond (decide (x1 = 3))
 (some (1, ()))
 (cond (decide (x1 = 6))
 (cond (decide (x1 = 6))
 (some (2, ()))
 (cond (decide (x1 = 16))
 (some (3, ()))
 (some ((-1), ()))))
 (cond (decide (x1 = 7))
 (cond (decide (x1 = 7))
 (some (2, ()))
 (cond (decide (x1 = 16))
 (some (3, ()))
 (some ((-1), ()))))
 (cond (decide (x1 = 8))
 (cond (decide (x1 = 8))
 (some (2, ()))
 (cond (decide (x1 = 16))
 (some (3, ()))
 (some ((-1), ()))))
 (cond (decide (x1 = 9))
 (cond (decide (x1 = 9))
 (some (2, ()))
 (cond (decide (x1 = 16))
 (some (3, ()))
 (some ((-1), ()))))
 (cond (decide (x1 = 10))
 (cond (decide (x1 = 10))
 (some (2, ()))
 (cond (decide (x1 = 16))
 (some (3, ()))
 (some ((-1), ()))))
 (cond (decide (x1 = 11))
 (cond (decide (x1 = 11))
 (some (2, ()))
 (cond (decide (x1 = 16))
 (some (3, ()))
 (some ((-1), ()))))
 (cond (decide (x1 = 12))
 (cond (decide (x1 = 12))
 (some (2, ()))
 (cond (decide (x1 = 16))
 (some (3, ()))
 (some ((-1), ()))))
 (cond (decide (x1 = 13))
 (cond (decide (x1 = 13))
 (some (2, ()))
 (cond (decide (x1 = 16))
 (some (3, ()))
 (some ((-1), ()))))
 (cond (decide (x1 = 14))
 (cond (decide (x1 = 14))
 (some (2, ()))
 (cond (decide (x1 = 16))
 (some (3, ()))
 (some ((-1), ()))))
 (cond (decide (x1 = 15))
 (cond (decide (x1 = 15))
 (some (2, ()))
 (cond (decide (x1 = 16))
 (some (3, ()))
 (some ((-1), ()))))
 (cond (decide (x1 = 17))
 (some (2, ()))
 (cond (decide (x1 = 16))
 (some (3, ()))
 (some ((-1), ())))))))))))))))
 (cond (decide (x1 = 4))
 (cond (decide (x1 = 4))
 (some (1, ()))
 (cond (decide (x1 = 6))
 (cond (decide (x1 = 6))
 (some (2, ()))
 (cond (decide (x1 = 16))
 (some (3, ()))
 (some ((-1), ()))))
 (cond (decide (x1 = 7))
 (cond (decide (x1 = 7))
 (some (2, ()))
 (cond (decide (x1 = 16))
 (some (3, ()))
 (some ((-1), ()))))
 (cond (decide (x1 = 8))
 (cond (decide (x1 = 8))
 (some (2, ()))
 (cond (decide (x1 = 16))
 (some (3, ()))
 (some ((-1), ()))))
 (cond (decide (x1 = 9))
 (cond (decide (x1 = 9))
 (some (2, ()))
 (cond (decide (x1 = 16))
 (some (3, ()))
 (some ((-1), ()))))
 (cond (decide (x1 = 10))
 (cond (decide (x1 = 10))
 (some (2, ()))
 (cond (decide (x1 = 16))
 (some (3, ()))
 (some ((-1), ()))))
 (cond (decide (x1 = 11))
 (cond (decide (x1 = 11))
 (some (2, ()))
 (cond (decide (x1 = 16))
 (some (3, ()))
 (some ((-1), ()))))
 (cond (decide (x1 = 12))
 (cond (decide (x1 = 12))
 (some (2, ()))
 (cond (decide (x1 = 16))
 (some (3, ()))
 (some ((-1), ()))))
 (cond (decide (x1 = 13))
 (cond (decide (x1 = 13))
 (some (2, ()))
 (cond (decide (x1 = 16))
 (some (3, ()))
 (some ((-1), ()))))
 (cond (decide (x1 = 14))
 (cond (decide (x1 = 14))
 (some (2, ()))
 (cond (decide (x1 = 16))
 (some (3, ()))
 (some ((-1), ()))))
 (cond (decide (x1 = 15))
 (cond (decide (x1 = 15))
 (some (2, ()))
 (cond (decide (x1 = 16))
 (some (3, ()))
 (some ((-1), ()))))
 (cond (decide (x1 = 17))
 (some (2, ()))
 (cond (decide (x1 = 16))
 (some (3, ()))
 (some ((-1), ())))))))))))))))
 (cond (decide (x1 = 5))
 (cond (decide (x1 = 5))
 (some (1, ()))
 (cond (decide (x1 = 6))
 (cond (decide (x1 = 6))
 (some (2, ()))
 (cond (decide (x1 = 16))
 (some (3, ()))
 (some ((-1), ()))))
 (cond (decide (x1 = 7))
 (cond (decide (x1 = 7))
 (some (2, ()))
 (cond (decide (x1 = 16))
 (some (3, ()))
 (some ((-1), ()))))
 (cond (decide (x1 = 8))
 (cond (decide (x1 = 8))
 (some (2, ()))
 (cond (decide (x1 = 16))
 (some (3, ()))
 (some ((-1), ()))))
 (cond (decide (x1 = 9))
 (cond (decide (x1 = 9))
 (some (2, ()))
 (cond (decide (x1 = 16))
 (some (3, ()))
 (some ((-1), ()))))
 (cond (decide (x1 = 10))
 (cond (decide (x1 = 10))
 (some (2, ()))
 (cond (decide (x1 = 16))
 (some (3, ()))
 (some ((-1), ()))))
 (cond (decide (x1 = 11))
 (cond (decide (x1 = 11))
 (some (2, ()))
 (cond (decide (x1 = 16))
 (some (3, ()))
 (some ((-1), ()))))
 (cond (decide (x1 = 12))
 (cond (decide (x1 = 12))
 (some (2, ()))
 (cond (decide (x1 = 16))
 (some (3, ()))
 (some ((-1), ()))))
 (cond (decide (x1 = 13))
 (cond (decide (x1 = 13))
 (some (2, ()))
 (cond (decide (x1 = 16))
 (some (3, ()))
 (some ((-1), ()))))
 (cond (decide (x1 = 14))
 (cond (decide (x1 = 14))
 (some (2, ()))
 (cond (decide (x1 = 16))
 (some (3, ()))
 (some ((-1), ()))))
 (cond (decide (x1 = 15))
 (cond (decide (x1 = 15))
 (some (2, ()))
 (cond (decide (x1 = 16))
 (some (3, ()))
 (some ((-1), ()))))
 (cond (decide (x1 = 17))
 (some (2, ()))
 (cond (decide (x1 = 16))
 (some (3, ()))
 (some ((-1), ())))))))))))))))
 (cond (decide (x1 = 18))
 (some (1, ()))
 (cond (decide (x1 = 6))
 (cond (decide (x1 = 6))
 (some (2, ()))
 (cond (decide (x1 = 16))
 (some (3, ()))
 (some ((-1), ()))))
 (cond (decide (x1 = 7))
 (cond (decide (x1 = 7))
 (some (2, ()))
 (cond (decide (x1 = 16))
 (some (3, ()))
 (some ((-1), ()))))
 (cond (decide (x1 = 8))
 (cond (decide (x1 = 8))
 (some (2, ()))
 (cond (decide (x1 = 16))
 (some (3, ()))
 (some ((-1), ()))))
 (cond (decide (x1 = 9))
 (cond (decide (x1 = 9))
 (some (2, ()))
 (cond (decide (x1 = 16))
 (some (3, ()))
 (some ((-1), ()))))
 (cond (decide (x1 = 10))
 (cond (decide (x1 = 10))
 (some (2, ()))
 (cond (decide (x1 = 16))
 (some (3, ()))
 (some ((-1), ()))))
 (cond (decide (x1 = 11))
 (cond (decide (x1 = 11))
 (some (2, ()))
 (cond (decide (x1 = 16))
 (some (3, ()))
 (some ((-1), ()))))
 (cond (decide (x1 = 12))
 (cond (decide (x1 = 12))
 (some (2, ()))
 (cond (decide (x1 = 16))
 (some (3, ()))
 (some ((-1), ()))))
 (cond (decide (x1 = 13))
 (cond (decide (x1 = 13))
 (some (2, ()))
 (cond (decide (x1 = 16))
 (some (3, ()))
 (some ((-1), ()))))
 (cond (decide (x1 = 14))
 (cond (decide (x1 = 14))
 (some (2, ()))
 (cond (decide (x1 = 16))
 (some (3, ()))
 (some ((-1), ()))))
 (cond (decide (x1 = 15))
 (cond (decide (x1 = 15))
 (some (2, ()))
 (cond (decide (x1 = 16))
 (some (3, ()))
 (some ((-1), ()))))
 (cond (decide (x1 = 17))
 (some (2, ()))
 (cond (decide (x1 = 16))
 (some (3, ()))
 (some ((-1), ())))))))))))))))))))
 (cond (decide (x1 = 22))
 (some (0, ()))
 (cond (decide (x1 = 3))
 (cond (decide (x1 = 3))
 (some (1, ()))
 (cond (decide (x1 = 6))
 (cond (decide (x1 = 6))
 (some (2, ()))
 (cond (decide (x1 = 16))
 (some (3, ()))
 (some ((-1), ()))))
 (cond (decide (x1 = 7))
 (cond (decide (x1 = 7))
 (some (2, ()))
 (cond (decide (x1 = 16))
 (some (3, ()))
 (some ((-1), ()))))
 (cond (decide (x1 = 8))
 (cond (decide (x1 = 8))
 (some (2, ()))
 (cond (decide (x1 = 16))
 (some (3, ()))
 (some ((-1), ()))))
 (cond (decide (x1 = 9))
 (cond (decide (x1 = 9))
 (some (2, ()))
 (cond (decide (x1 = 16))
 (some (3, ()))
 (some ((-1), ()))))
 (cond (decide (x1 = 10))
 (cond (decide (x1 = 10))
 (some (2, ()))
 (cond (decide (x1 = 16))
 (some (3, ()))
 (some ((-1), ()))))
 (cond (decide (x1 = 11))
 (cond (decide (x1 = 11))
 (some (2, ()))
 (cond (decide (x1 = 16))
 (some (3, ()))
 (some ((-1), ()))))
 (cond (decide (x1 = 12))
 (cond (decide (x1 = 12))
 (some (2, ()))
 (cond (decide (x1 = 16))
 (some (3, ()))
 (some ((-1), ()))))
 (cond (decide (x1 = 13))
 (cond (decide (x1 = 13))
 (some (2, ()))
 (cond (decide (x1 = 16))
 (some (3, ()))
 (some ((-1), ()))))
 (cond (decide (x1 = 14))
 (cond (decide (x1 = 14))
 (some (2, ()))
 (cond (decide (x1 = 16))
 (some (3, ()))
 (some ((-1), ()))))
 (cond (decide (x1 = 15))
 (cond (decide (x1 = 15))
 (some (2, ()))
 (cond (decide (x1 = 16))
 (some (3, ()))
 (some ((-1), ()))))
 (cond (decide (x1 = 17))
 (some (2, ()))
 (cond (decide (x1 = 16))
 (some (3, ()))
 (some ((-1), ())))))))))))))))
 (cond (decide (x1 = 4))
 (cond (decide (x1 = 4))
 (some (1, ()))
 (cond (decide (x1 = 6))
 (cond (decide (x1 = 6))
 (some (2, ()))
 (cond (decide (x1 = 16))
 (some (3, ()))
 (some ((-1), ()))))
 (cond (decide (x1 = 7))
 (cond (decide (x1 = 7))
 (some (2, ()))
 (cond (decide (x1 = 16))
 (some (3, ()))
 (some ((-1), ()))))
 (cond (decide (x1 = 8))
 (cond (decide (x1 = 8))
 (some (2, ()))
 (cond (decide (x1 = 16))
 (some (3, ()))
 (some ((-1), ()))))
 (cond (decide (x1 = 9))
 (cond (decide (x1 = 9))
 (some (2, ()))
 (cond (decide (x1 = 16))
 (some (3, ()))
 (some ((-1), ()))))
 (cond (decide (x1 = 10))
 (cond (decide (x1 = 10))
 (some (2, ()))
 (cond (decide (x1 = 16))
 (some (3, ()))
 (some ((-1), ()))))
 (cond (decide (x1 = 11))
 (cond (decide (x1 = 11))
 (some (2, ()))
 (cond (decide (x1 = 16))
 (some (3, ()))
 (some ((-1), ()))))
 (cond (decide (x1 = 12))
 (cond (decide (x1 = 12))
 (some (2, ()))
 (cond (decide (x1 = 16))
 (some (3, ()))
 (some ((-1), ()))))
 (cond (decide (x1 = 13))
 (cond (decide (x1 = 13))
 (some (2, ()))
 (cond (decide (x1 = 16))
 (some (3, ()))
 (some ((-1), ()))))
 (cond (decide (x1 = 14))
 (cond (decide (x1 = 14))
 (some (2, ()))
 (cond (decide (x1 = 16))
 (some (3, ()))
 (some ((-1), ()))))
 (cond (decide (x1 = 15))
 (cond (decide (x1 = 15))
 (some (2, ()))
 (cond (decide (x1 = 16))
 (some (3, ()))
 (some ((-1), ()))))
 (cond (decide (x1 = 17))
 (some (2, ()))
 (cond (decide (x1 = 16))
 (some (3, ()))
 (some ((-1), ())))))))))))))))
 (cond (decide (x1 = 5))
 (cond (decide (x1 = 5))
 (some (1, ()))
 (cond (decide (x1 = 6))
 (cond (decide (x1 = 6))
 (some (2, ()))
 (cond (decide (x1 = 16))
 (some (3, ()))
 (some ((-1), ()))))
 (cond (decide (x1 = 7))
 (cond (decide (x1 = 7))
 (some (2, ()))
 (cond (decide (x1 = 16))
 (some (3, ()))
 (some ((-1), ()))))
 (cond (decide (x1 = 8))
 (cond (decide (x1 = 8))
 (some (2, ()))
 (cond (decide (x1 = 16))
 (some (3, ()))
 (some ((-1), ()))))
 (cond (decide (x1 = 9))
 (cond (decide (x1 = 9))
 (some (2, ()))
 (cond (decide (x1 = 16))
 (some (3, ()))
 (some ((-1), ()))))
 (cond (decide (x1 = 10))
 (cond (decide (x1 = 10))
 (some (2, ()))
 (cond (decide (x1 = 16))
 (some (3, ()))
 (some ((-1), ()))))
 (cond (decide (x1 = 11))
 (cond (decide (x1 = 11))
 (some (2, ()))
 (cond (decide (x1 = 16))
 (some (3, ()))
 (some ((-1), ()))))
 (cond (decide (x1 = 12))
 (cond (decide (x1 = 12))
 (some (2, ()))
 (cond (decide (x1 = 16))
 (some (3, ()))
 (some ((-1), ()))))
 (cond (decide (x1 = 13))
 (cond (decide (x1 = 13))
 (some (2, ()))
 (cond (decide (x1 = 16))
 (some (3, ()))
 (some ((-1), ()))))
 (cond (decide (x1 = 14))
 (cond (decide (x1 = 14))
 (some (2, ()))
 (cond (decide (x1 = 16))
 (some (3, ()))
 (some ((-1), ()))))
 (cond (decide (x1 = 15))
 (cond (decide (x1 = 15))
 (some (2, ()))
 (cond (decide (x1 = 16))
 (some (3, ()))
 (some ((-1), ()))))
 (cond (decide (x1 = 17))
 (some (2, ()))
 (cond (decide (x1 = 16))
 (some (3, ()))
 (some ((-1), ())))))))))))))))
 (cond (decide (x1 = 18))
 (some (1, ()))
 (cond (decide (x1 = 6))
 (cond (decide (x1 = 6))
 (some (2, ()))
 (cond (decide (x1 = 16))
 (some (3, ()))
 (some ((-1), ()))))
 (cond (decide (x1 = 7))
 (cond (decide (x1 = 7))
 (some (2, ()))
 (cond (decide (x1 = 16))
 (some (3, ()))
 (some ((-1), ()))))
 (cond (decide (x1 = 8))
 (cond (decide (x1 = 8))
 (some (2, ()))
 (cond (decide (x1 = 16))
 (some (3, ()))
 (some ((-1), ()))))
 (cond (decide (x1 = 9))
 (cond (decide (x1 = 9))
 (some (2, ()))
 (cond (decide (x1 = 16))
 (some (3, ()))
 (some ((-1), ()))))
 (cond (decide (x1 = 10))
 (cond (decide (x1 = 10))
 (some (2, ()))
 (cond (decide (x1 = 16))
 (some (3, ()))
 (some ((-1), ()))))
 (cond (decide (x1 = 11))
 (cond (decide (x1 = 11))
 (some (2, ()))
 (cond (decide (x1 = 16))
 (some (3, ()))
 (some ((-1), ()))))
 (cond (decide (x1 = 12))
 (cond (decide (x1 = 12))
 (some (2, ()))
 (cond (decide (x1 = 16))
 (some (3, ()))
 (some ((-1), ()))))
 (cond (decide (x1 = 13))
 (cond (decide (x1 = 13))
 (some (2, ()))
 (cond (decide (x1 = 16))
 (some (3, ()))
 (some ((-1), ()))))
 (cond (decide (x1 = 14))
 (cond (decide (x1 = 14))
 (some (2, ()))
 (cond (decide (x1 = 16))
 (some (3, ()))
 (some ((-1), ()))))
 (cond (decide (x1 = 15))
 (cond (decide (x1 = 15))
 (some (2, ()))
 (cond (decide (x1 = 16))
 (some (3, ()))
 (some ((-1), ()))))
 (cond (decide (x1 = 17))
 (some (2, ()))
 (cond (decide (x1 = 16))
 (some (3, ()))
 (some ((-1), ()))))))))))))))))))))
def ref09_operands_s : Sig := ⟨[.c false [.int .i64]], [], .c false [.int .i64], []⟩
def ref09_operands_a : Ann := .d
noncomputable def ref09_operands_c (n : Nat) : Ctr Try.prog := .of Try.func95 n [] ref09_operands_a ref09_operands_s (fun d => ref09_operands n d.1) fun d => by kernel_rfl
noncomputable def ref09_wide (n : Nat) (x1 : List Kiiiiiii) (x2 : List Ksi) (x3 : List Ksiii) (x4 : List Kisi) (x5 : List Ksi) (x6 : Int) (x7 : Int) : Option (Int × Unit) :=
 cond (decide (x6 < 0))
 (some (0, ()))
 (cond (decide (x7 ≤ x6))
 (some (0, ()))
 (ask (0 ≤ x6 ∧ x6 < (x1.length : Int)) (some (((Kiiiiiii_at x1 x6).2).1, ()))))
def ref09_wide_s : Sig := ⟨[.c true [.row Kiiiiiii_, .row Ksi_, .row Ksiii_, .row Kisi_, .row Ksi_], .c false [.int .i64], .c false [.int .i64]], [], .c false [.int .i64], []⟩
def ref09_wide_a : Ann := .d
noncomputable def ref09_wide_c (n : Nat) : Ctr Try.prog := .of Try.func97 n [] ref09_wide_a ref09_wide_s (fun d => ref09_wide n d.1 d.2.1 d.2.2.1 d.2.2.2.1 d.2.2.2.2.1 d.2.2.2.2.2.1 d.2.2.2.2.2.2.1) fun d => by kernel_rfl
noncomputable def ref08_Mask (n : Nat) (x1 : Int) : Option (Int × Unit) :=
 ask (0 ≤ x1) (some (IntKind.wrap .i64 ((shlI .i64 1 x1) - 1), ()))
def ref08_Mask_s : Sig := ⟨[.c false [.int .i64]], [], .c false [.int .i64], []⟩
def ref08_Mask_a : Ann := .d
noncomputable def ref08_Mask_c (n : Nat) : Ctr Try.prog := .of Try.func73 n [] ref08_Mask_a ref08_Mask_s (fun d => ref08_Mask n d.1) fun d => by kernel_rfl
noncomputable def ref09_fits_j1 (n : Nat) (x1 : List Kiiiiiii) (x6 : Int) : Option ((Bool × Unit)) :=
 cond (decide ((((((((Kiiiiiii_at x1 x6).2).2).2).2).2).1) = 0))
 (some (decide ((((((((Kiiiiiii_at x1 x6).2).2).2).2).2).2) = 0), ()))
 (some (false, ()))
noncomputable def ref09_fits_j2 (n : Nat) (x1 : List Kiiiiiii) (x6 : Int) : Option ((Bool × Unit)) :=
 cond (decide (((Kiiiiiii_at x1 x6).1) = 6))
 (some (decide (((Kiiiiiii_at x1 x6).1) = 6), ()))
 (cond (decide (((Kiiiiiii_at x1 x6).1) = 7))
 (some (decide (((Kiiiiiii_at x1 x6).1) = 7), ()))
 (cond (decide (((Kiiiiiii_at x1 x6).1) = 8))
 (some (decide (((Kiiiiiii_at x1 x6).1) = 8), ()))
 (cond (decide (((Kiiiiiii_at x1 x6).1) = 9))
 (some (decide (((Kiiiiiii_at x1 x6).1) = 9), ()))
 (cond (decide (((Kiiiiiii_at x1 x6).1) = 10))
 (some (decide (((Kiiiiiii_at x1 x6).1) = 10), ()))
 (some (decide (((Kiiiiiii_at x1 x6).1) = 11), ()))))))
noncomputable def ref09_fits_j3 (n : Nat) (x1 : List Kiiiiiii) (x6 : Int) : Option ((Bool × Unit)) :=
 cond (decide (((Kiiiiiii_at x1 x6).1) = 12))
 (some (decide (((Kiiiiiii_at x1 x6).1) = 12), ()))
 (cond (decide (((Kiiiiiii_at x1 x6).1) = 13))
 (some (decide (((Kiiiiiii_at x1 x6).1) = 13), ()))
 (cond (decide (((Kiiiiiii_at x1 x6).1) = 14))
 (some (decide (((Kiiiiiii_at x1 x6).1) = 14), ()))
 (some (decide (((Kiiiiiii_at x1 x6).1) = 15), ()))))
noncomputable def ref09_fits (n : Nat) (x1 : List Kiiiiiii) (x2 : List Ksi) (x3 : List Ksiii) (x4 : List Kisi) (x5 : List Ksi) (x6 : Int) : Option (Bool × Unit) :=
 ask (0 ≤ x6 ∧ x6 < (x1.length : Int)) ((ref09_wide n x1 x2 x3 x4 x5 ((((Kiiiiiii_at x1 x6).2).2).1) x6).bind (fun r7 => (ref09_wide n x1 x2 x3 x4 x5 (((((Kiiiiiii_at x1 x6).2).2).2).1) x6).bind (fun r8 => (ref09_wide n x1 x2 x3 x4 x5 ((((((Kiiiiiii_at x1 x6).2).2).2).2).1) x6).bind (fun r9 => (ref09_fits_j1 n x1 x6).bind (fun d10 => cond (decide (((Kiiiiiii_at x1 x6).1) = 1))
 (cond (decide ((0 : Int) ≤ (((((((Kiiiiiii_at x1 x6).2).2).2).2).2).1)))
 ((ref08_Mask n (((Kiiiiiii_at x1 x6).2).1)).bind (fun r11 => cond (decide ((((((((Kiiiiiii_at x1 x6).2).2).2).2).2).1) ≤ r11.1))
 (some (decide ((((((((Kiiiiiii_at x1 x6).2).2).2).2).2).2) = 0), ()))
 (some (false, ()))))
 (some (false, ())))
 (((cond (decide (((Kiiiiiii_at x1 x6).1) = 21))
 (some (decide (((Kiiiiiii_at x1 x6).1) = 21), ()))
 (some (decide (((Kiiiiiii_at x1 x6).1) = 22), ()))) : Option ((Bool × Unit))).bind (fun d12 => cond d12.1
 (some (d10.1, ()))
 (cond (decide (((Kiiiiiii_at x1 x6).1) = 3))
 (cond d10.1
 (some (decide (r7.1 = (((Kiiiiiii_at x1 x6).2).1)), ()))
 (some (false, ())))
 (((cond (decide (((Kiiiiiii_at x1 x6).1) = 4))
 (some (decide (((Kiiiiiii_at x1 x6).1) = 4), ()))
 (some (decide (((Kiiiiiii_at x1 x6).1) = 5), ()))) : Option ((Bool × Unit))).bind (fun d13 => cond d13.1
 (cond (decide ((((((((Kiiiiiii_at x1 x6).2).2).2).2).2).1) = 0))
 (cond (decide ((((Kiiiiiii_at x1 x6).2).1) = 1))
 (cond (decide (r7.1 = (((((((Kiiiiiii_at x1 x6).2).2).2).2).2).2)))
 (some (decide ((0 : Int) < r7.1), ()))
 (some (false, ())))
 (some (false, ())))
 (some (false, ())))
 ((ref09_fits_j2 n x1 x6).bind (fun d14 => cond d14.1
 (cond d10.1
 (cond (decide (r7.1 = (((Kiiiiiii_at x1 x6).2).1)))
 (some (decide (r8.1 = (((Kiiiiiii_at x1 x6).2).1)), ()))
 (some (false, ())))
 (some (false, ())))
 ((ref09_fits_j3 n x1 x6).bind (fun d15 => cond d15.1
 (cond (decide ((((((((Kiiiiiii_at x1 x6).2).2).2).2).2).1) = 0))
 (cond (decide ((((Kiiiiiii_at x1 x6).2).1) = 1))
 (cond (decide (r7.1 = (((((((Kiiiiiii_at x1 x6).2).2).2).2).2).2)))
 (cond (decide (r8.1 = (((((((Kiiiiiii_at x1 x6).2).2).2).2).2).2)))
 (some (decide ((0 : Int) < r7.1), ()))
 (some (false, ())))
 (some (false, ())))
 (some (false, ())))
 (some (false, ())))
 (cond (decide (((Kiiiiiii_at x1 x6).1) = 16))
 (cond d10.1
 (cond (decide (r7.1 = 1))
 (cond (decide (r8.1 = (((Kiiiiiii_at x1 x6).2).1)))
 (some (decide (r9.1 = (((Kiiiiiii_at x1 x6).2).1)), ()))
 (some (false, ())))
 (some (false, ())))
 (some (false, ())))
 (cond (decide (((Kiiiiiii_at x1 x6).1) = 17))
 (cond d10.1
 (cond (decide ((0 : Int) < r7.1))
 (cond (decide ((0 : Int) < r8.1))
 (some (decide ((IntKind.wrap .i64 (r7.1 + r8.1)) = (((Kiiiiiii_at x1 x6).2).1)), ()))
 (some (false, ())))
 (some (false, ())))
 (some (false, ())))
 (cond (decide ((0 : Int) ≤ (((((((Kiiiiiii_at x1 x6).2).2).2).2).2).2)))
 (cond (decide ((((((((Kiiiiiii_at x1 x6).2).2).2).2).2).2) ≤ (((((((Kiiiiiii_at x1 x6).2).2).2).2).2).1)))
 (cond (decide ((((((((Kiiiiiii_at x1 x6).2).2).2).2).2).1) < r7.1))
 (some (decide ((((Kiiiiiii_at x1 x6).2).1) = (IntKind.wrap .i64 ((IntKind.wrap .i64 ((((((((Kiiiiiii_at x1 x6).2).2).2).2).2).1) - (((((((Kiiiiiii_at x1 x6).2).2).2).2).2).2))) + 1))), ()))
 (some (false, ())))
 (some (false, ())))
 (some (false, ())))))))))))))))))))
def ref09_fits_s : Sig := ⟨[.c true [.row Kiiiiiii_, .row Ksi_, .row Ksiii_, .row Kisi_, .row Ksi_], .c false [.int .i64]], [], .c false [.bool], []⟩
def ref09_fits_a : Ann := .s .d (.s .d (.s .d (.s .d (.s .d (.j [9, 30, 31, 32, 33, 34, 35, 36, 37] [] [(.normal, ⟨[(9, .c false [.bool])], []⟩)] .d (.s (.s .d (.b (.s .d (.s .d (.j [58, 59, 60] [] [(.normal, ⟨[(58, .c false [.bool])], []⟩)] .d (.s .d (.s .d (.s .d (.j [71, 72, 73] [] [(.normal, ⟨[(71, .c false [.bool])], []⟩)] .d (.s .d (.j [92, 93, 94, 95, 96, 97, 98] [] [(.normal, ⟨[(92, .c false [.bool])], []⟩)] .d (.s .d (.j [112, 113, 114, 115, 116] [] [(.normal, ⟨[(112, .c false [.bool])], []⟩)] .d .d))))))))))))) .d))))))
noncomputable def ref09_fits_c (n : Nat) : Ctr Try.prog := .of Try.func96 n [ref09_wide_c n, ref08_Mask_c n] ref09_fits_a ref09_fits_s (fun d => ref09_fits n d.1 d.2.1 d.2.2.1 d.2.2.2.1 d.2.2.2.2.1 d.2.2.2.2.2.1) fun d => by kernel_rfl
noncomputable def ref09_node (n : Nat) (x1 : List Kiiiiiii) (x2 : List Ksi) (x3 : List Ksiii) (x4 : List Kisi) (x5 : List Ksi) (x6 : Int) : Option (Bool × Unit) :=
 ask (0 ≤ x6 ∧ x6 < (x1.length : Int)) ((ref09_operands n ((Kiiiiiii_at x1 x6).1)).bind (fun r7 => cond (decide ((((Kiiiiiii_at x1 x6).2).1) < 1))
 (some (false, ()))
 (cond (decide ((16 : Int) < (((Kiiiiiii_at x1 x6).2).1)))
 (some (false, ()))
 (cond (decide (r7.1 < 0))
 (some (false, ()))
 (cond (decide (r7.1 < 1))
 (cond (decide (((((Kiiiiiii_at x1 x6).2).2).1) ≠ 0))
 (some (false, ()))
 (cond (decide (r7.1 < 2))
 (cond (decide ((((((Kiiiiiii_at x1 x6).2).2).2).1) ≠ 0))
 (some (false, ()))
 (cond (decide (r7.1 < 3))
 (cond (decide (((((((Kiiiiiii_at x1 x6).2).2).2).2).1) ≠ 0))
 (some (false, ()))
 ((ref09_fits n x1 x2 x3 x4 x5 x6).bind (fun r8 => some (r8.1, ()))))
 ((ref09_fits n x1 x2 x3 x4 x5 x6).bind (fun r9 => some (r9.1, ())))))
 (cond (decide (r7.1 < 3))
 (cond (decide (((((((Kiiiiiii_at x1 x6).2).2).2).2).1) ≠ 0))
 (some (false, ()))
 ((ref09_fits n x1 x2 x3 x4 x5 x6).bind (fun r10 => some (r10.1, ()))))
 ((ref09_fits n x1 x2 x3 x4 x5 x6).bind (fun r11 => some (r11.1, ()))))))
 (cond (decide (r7.1 < 2))
 (cond (decide ((((((Kiiiiiii_at x1 x6).2).2).2).1) ≠ 0))
 (some (false, ()))
 (cond (decide (r7.1 < 3))
 (cond (decide (((((((Kiiiiiii_at x1 x6).2).2).2).2).1) ≠ 0))
 (some (false, ()))
 ((ref09_fits n x1 x2 x3 x4 x5 x6).bind (fun r12 => some (r12.1, ()))))
 ((ref09_fits n x1 x2 x3 x4 x5 x6).bind (fun r13 => some (r13.1, ())))))
 (cond (decide (r7.1 < 3))
 (cond (decide (((((((Kiiiiiii_at x1 x6).2).2).2).2).1) ≠ 0))
 (some (false, ()))
 ((ref09_fits n x1 x2 x3 x4 x5 x6).bind (fun r14 => some (r14.1, ()))))
 ((ref09_fits n x1 x2 x3 x4 x5 x6).bind (fun r15 => some (r15.1, ()))))))))))
def ref09_node_s : Sig := ⟨[.c true [.row Kiiiiiii_, .row Ksi_, .row Ksiii_, .row Kisi_, .row Ksi_], .c false [.int .i64]], [], .c false [.bool], []⟩
def ref09_node_a : Ann := .d
noncomputable def ref09_node_c (n : Nat) : Ctr Try.prog := .of Try.func70 n [ref09_operands_c n, ref09_fits_c n] ref09_node_a ref09_node_s (fun d => ref09_node n d.1 d.2.1 d.2.2.1 d.2.2.2.1 d.2.2.2.2.1 d.2.2.2.2.2.1) fun d => by kernel_rfl
noncomputable def ref09_pins_j1 (n : Nat) (d7 : Int × Int × Int × Unit) (x1 : List Kiiiiiii) (x2 : List Ksi) : Option ((Bool × Unit) ⊕ (Int × Unit)) :=
 ask (0 ≤ d7.2.2.1 ∧ d7.2.2.1 < (x1.length : Int)) (cond (decide (((Kiiiiiii_at x1 d7.2.2.1).1) = 21))
 (cond (decide ((x2.length : Int) ≤ d7.1))
 (some (.inl (false, ())))
 (ask (0 ≤ d7.1 ∧ d7.1 < (x2.length : Int)) (cond (decide (((Ksi_at x2 d7.1).2) ≠ d7.2.2.1))
 (some (.inl (false, ())))
 (some (.inr (IntKind.wrap .i64 (d7.1 + 1), ()))))))
 (some (.inr (d7.1, ()))))
noncomputable def ref09_pins_l2b (n : Nat) (x1 : List Kiiiiiii) (x2 : List Ksi) (x3 : List Ksiii) (self : Int × Int × Int × Unit → Option ((Bool × Unit) ⊕ (Int × Int × Unit))) (d7 : Int × Int × Int × Unit) : Option ((Bool × Unit) ⊕ (Int × Int × Unit)) :=
 cond (decide (d7.2.2.1 < (x1.length : Int)))
 ((ref09_pins_j1 n d7 x1 x2).bind (Sum.elim (fun d8 => some (.inl (d8.1, ()))) (fun d9 => ask (0 ≤ d7.2.2.1 ∧ d7.2.2.1 < (x1.length : Int)) (cond (decide (((Kiiiiiii_at x1 d7.2.2.1).1) = 22))
 (cond (decide ((x3.length : Int) ≤ d7.2.1))
 (some (.inl (false, ())))
 (ask (0 ≤ d7.2.1 ∧ d7.2.1 < (x3.length : Int)) (cond (decide ((((Ksiii_at x3 d7.2.1).2).1) ≠ d7.2.2.1))
 (some (.inl (false, ())))
 (self (d9.1, IntKind.wrap .i64 (d7.2.1 + 1), IntKind.wrap .i64 (d7.2.2.1 + 1), ())))))
 (self (d9.1, d7.2.1, IntKind.wrap .i64 (d7.2.2.1 + 1), ()))))))
 (some (.inr (d7.1, d7.2.1, ())))
noncomputable def ref09_pins_l2 (n : Nat) (x1 : List Kiiiiiii) (x2 : List Ksi) (x3 : List Ksiii) : Int × Int × Int × Unit → Option ((Bool × Unit) ⊕ (Int × Int × Unit)) := iter (ref09_pins_l2b n x1 x2 x3) n
noncomputable def ref09_pins (n : Nat) (x1 : List Kiiiiiii) (x2 : List Ksi) (x3 : List Ksiii) (x4 : List Kisi) (x5 : List Ksi) : Option (Bool × Unit) :=
 (ref09_pins_l2 n x1 x2 x3 (0, 0, 0, ())).bind (Sum.elim (fun d10 => some (d10.1, ())) (fun d11 => cond (decide (d11.1 = (x2.length : Int)))
 (some (decide (d11.2.1 = (x3.length : Int)), ()))
 (some (false, ()))))
def ref09_pins_s : Sig := ⟨[.c true [.row Kiiiiiii_, .row Ksi_, .row Ksiii_, .row Kisi_, .row Ksi_]], [], .c false [.bool], []⟩
def ref09_pins_a : Ann := .s .d (.s .d (.s .d (.s (.s .d (.b (.l [2, 3, 4, 5, 6, 7, 8, 9, 10, 11, 12, 13, 14, 15, 16, 17, 18, 19, 20, 21, 22, 23, 24, 25, 26, 27, 28, 29, 30, 31, 32, 33, 34, 35, 36, 37, 38, 39, 40, 41, 42, 43, 44, 45, 46, 47, 48, 49, 50, 51, 52, 53, 54, 55, 56, 57, 58, 59, 60] [] ⟨[(3, .c false [.int .i64]), (4, .c false [.int .i64]), (5, .c false [.int .i64])], []⟩ [(.ret, ⟨[(2, .c false [.bool])], []⟩), (.exit 0, ⟨[(3, .c false [.int .i64]), (4, .c false [.int .i64])], []⟩)] (.s .d (.s (.b (.j [2, 3, 13, 14, 15, 16, 17, 18, 19, 20, 21, 22, 23, 24, 25, 26, 27, 28, 29, 30, 31, 32, 33, 34, 35, 36] [] [(.ret, ⟨[(2, .c false [.bool])], []⟩), (.normal, ⟨[(3, .c false [.int .i64])], []⟩)] .d .d)) .d))))) .d)))
noncomputable def ref09_pins_c (n : Nat) : Ctr Try.prog := .of Try.func71 n [] ref09_pins_a ref09_pins_s (fun d => ref09_pins n d.1 d.2.1 d.2.2.1 d.2.2.2.1 d.2.2.2.2.1) fun d => by kernel_rfl
noncomputable def ref09_there (n : Nat) (x1 : List Kiiiiiii) (x2 : List Ksi) (x3 : List Ksiii) (x4 : List Kisi) (x5 : List Ksi) (x6 : Int) : Option (Int × Unit) :=
 (ref09_wide n x1 x2 x3 x4 x5 x6 (x1.length : Int)).bind (fun r7 => some (r7.1, ()))
def ref09_there_s : Sig := ⟨[.c true [.row Kiiiiiii_, .row Ksi_, .row Ksiii_, .row Kisi_, .row Ksi_], .c false [.int .i64]], [], .c false [.int .i64], []⟩
def ref09_there_a : Ann := .d
noncomputable def ref09_there_c (n : Nat) : Ctr Try.prog := .of Try.func72 n [ref09_wide_c n] ref09_there_a ref09_there_s (fun d => ref09_there n d.1 d.2.1 d.2.2.1 d.2.2.2.1 d.2.2.2.2.1 d.2.2.2.2.2.1) fun d => by kernel_rfl
noncomputable def ref09_Right_l1b (n : Nat) (x1 : List Kiiiiiii) (x2 : List Ksi) (x3 : List Ksiii) (x4 : List Kisi) (x5 : List Ksi) (self : Int × Unit → Option ((Bool × Unit) ⊕ (Unit))) (d7 : Int × Unit) : Option ((Bool × Unit) ⊕ (Unit)) :=
 cond (decide (d7.1 < (x1.length : Int)))
 ((ref09_node n x1 x2 x3 x4 x5 d7.1).bind (fun r8 => cond (!r8.1)
 (some (.inl (false, ())))
 (self (IntKind.wrap .i64 (d7.1 + 1), ()))))
 (some (.inr ()))
noncomputable def ref09_Right_l1 (n : Nat) (x1 : List Kiiiiiii) (x2 : List Ksi) (x3 : List Ksiii) (x4 : List Kisi) (x5 : List Ksi) : Int × Unit → Option ((Bool × Unit) ⊕ (Unit)) := iter (ref09_Right_l1b n x1 x2 x3 x4 x5) n
noncomputable def ref09_Right_l2b (n : Nat) (x1 : List Kiiiiiii) (x2 : List Ksi) (x3 : List Ksiii) (x4 : List Kisi) (x5 : List Ksi) (self : Int × Int × Unit → Option ((Bool × Unit) ⊕ (Int × Unit))) (d13 : Int × Int × Unit) : Option ((Bool × Unit) ⊕ (Int × Unit)) :=
 cond (decide (d13.2.1 < (x3.length : Int)))
 (ask (0 ≤ d13.2.1 ∧ d13.2.1 < (x3.length : Int)) (ask (0 ≤ (((Ksiii_at x3 d13.2.1).2).1) ∧ ((Ksiii_at x3 d13.2.1).2).1 < (x1.length : Int)) ((ref09_there n x1 x2 x3 x4 x5 ((((Ksiii_at x3 d13.2.1).2).2).1)).bind (fun r14 => cond (decide (r14.1 ≠ (((Kiiiiiii_at x1 (((Ksiii_at x3 d13.2.1).2).1)).2).1)))
 (some (.inl (false, ())))
 (cond (decide (((((Ksiii_at x3 d13.2.1).2).2).2) < 0))
 (some (.inl (false, ())))
 ((ref08_Mask n (((Kiiiiiii_at x1 (((Ksiii_at x3 d13.2.1).2).1)).2).1)).bind (fun r15 => cond (decide (r15.1 < ((((Ksiii_at x3 d13.2.1).2).2).2)))
 (some (.inl (false, ())))
 (self (IntKind.wrap .i64 (d13.1 + (((Kiiiiiii_at x1 (((Ksiii_at x3 d13.2.1).2).1)).2).1)), IntKind.wrap .i64 (d13.2.1 + 1), ())))))))))
 (some (.inr (d13.1, ())))
noncomputable def ref09_Right_l2 (n : Nat) (x1 : List Kiiiiiii) (x2 : List Ksi) (x3 : List Ksiii) (x4 : List Kisi) (x5 : List Ksi) : Int × Int × Unit → Option ((Bool × Unit) ⊕ (Int × Unit)) := iter (ref09_Right_l2b n x1 x2 x3 x4 x5) n
noncomputable def ref09_Right_l3b (n : Nat) (x1 : List Kiiiiiii) (x2 : List Ksi) (x3 : List Ksiii) (x4 : List Kisi) (x5 : List Ksi) (self : Int × Unit → Option ((Bool × Unit) ⊕ (Unit))) (d19 : Int × Unit) : Option ((Bool × Unit) ⊕ (Unit)) :=
 cond (decide (d19.1 < (x4.length : Int)))
 (ask (0 ≤ d19.1 ∧ d19.1 < (x4.length : Int)) (cond (decide (((Kisi_at x4 d19.1).1) < 8))
 (some (.inl (false, ())))
 (cond (decide ((10 : Int) < ((Kisi_at x4 d19.1).1)))
 (some (.inl (false, ())))
 ((ref09_there n x1 x2 x3 x4 x5 (((Kisi_at x4 d19.1).2).2)).bind (fun r20 => cond (decide (r20.1 ≠ 1))
 (some (.inl (false, ())))
 (self (IntKind.wrap .i64 (d19.1 + 1), ())))))))
 (some (.inr ()))
noncomputable def ref09_Right_l3 (n : Nat) (x1 : List Kiiiiiii) (x2 : List Ksi) (x3 : List Ksiii) (x4 : List Kisi) (x5 : List Ksi) : Int × Unit → Option ((Bool × Unit) ⊕ (Unit)) := iter (ref09_Right_l3b n x1 x2 x3 x4 x5) n
noncomputable def ref09_Right_l4b (n : Nat) (x1 : List Kiiiiiii) (x2 : List Ksi) (x3 : List Ksiii) (x4 : List Kisi) (x5 : List Ksi) (self : Int × Unit → Option ((Bool × Unit) ⊕ (Unit))) (d24 : Int × Unit) : Option ((Bool × Unit) ⊕ (Unit)) :=
 cond (decide (d24.1 < (x5.length : Int)))
 (ask (0 ≤ d24.1 ∧ d24.1 < (x5.length : Int)) ((ref09_there n x1 x2 x3 x4 x5 ((Ksi_at x5 d24.1).2)).bind (fun r25 => cond (decide (r25.1 = 0))
 (some (.inl (false, ())))
 (self (IntKind.wrap .i64 (d24.1 + 1), ())))))
 (some (.inr ()))
noncomputable def ref09_Right_l4 (n : Nat) (x1 : List Kiiiiiii) (x2 : List Ksi) (x3 : List Ksiii) (x4 : List Kisi) (x5 : List Ksi) : Int × Unit → Option ((Bool × Unit) ⊕ (Unit)) := iter (ref09_Right_l4b n x1 x2 x3 x4 x5) n
noncomputable def ref09_Right (n : Nat) (x1 : List Kiiiiiii) (x2 : List Ksi) (x3 : List Ksiii) (x4 : List Kisi) (x5 : List Ksi) : Option (Bool × Unit) :=
 cond (decide ((4000 : Int) < (x1.length : Int)))
 (some (false, ()))
 (cond (decide ((64 : Int) < (x2.length : Int)))
 (some (false, ()))
 (cond (decide ((256 : Int) < (x3.length : Int)))
 (some (false, ()))
 (cond (decide ((16 : Int) < (x4.length : Int)))
 (some (false, ()))
 ((ref09_Right_l1 n x1 x2 x3 x4 x5 (0, ())).bind (Sum.elim (fun d9 => some (d9.1, ())) (fun d10 => (ref09_pins n x1 x2 x3 x4 x5).bind (fun r11 => cond (!r11.1)
 (some (false, ()))
 ((ref09_Right_l2 n x1 x2 x3 x4 x5 (0, 0, ())).bind (Sum.elim (fun d16 => some (d16.1, ())) (fun d17 => (ref09_Right_l3 n x1 x2 x3 x4 x5 (0, ())).bind (Sum.elim (fun d21 => some (d21.1, ())) (fun d22 => (ref09_Right_l4 n x1 x2 x3 x4 x5 (0, ())).bind (Sum.elim (fun d26 => some (d26.1, ())) (fun d27 => some (decide (d17.1 ≤ 256), ())))))))))))))))
def ref09_Right_s : Sig := ⟨[.c true [.row Kiiiiiii_, .row Ksi_, .row Ksiii_, .row Kisi_, .row Ksi_]], [], .c false [.bool], []⟩
def ref09_Right_a : Ann := .s .d (.s .d (.s (.s .d (.b (.l [2, 3, 33, 34, 35, 36, 37, 38, 39, 40, 41, 42, 43] [] ⟨[(3, .c false [.int .i64])], []⟩ [(.ret, ⟨[(2, .c false [.bool])], []⟩), (.exit 0, ⟨[], []⟩)] .d))) (.s .d (.s .d (.s (.s .d (.b (.l [2, 4, 5, 6, 7, 47, 48, 49, 50, 51, 52, 53, 54, 55, 56, 57, 58, 59, 60, 61, 62, 63, 64, 65, 66, 67, 68, 69, 70, 71, 72, 73, 74, 75, 76, 77, 78, 79, 80, 81, 82, 83, 84, 85, 86] [] ⟨[(4, .c false [.int .i64]), (5, .c false [.int .i64])], []⟩ [(.ret, ⟨[(2, .c false [.bool])], []⟩), (.exit 2, ⟨[(4, .c false [.int .i64])], []⟩)] .d))) (.s (.s .d (.b (.l [2, 8, 9, 87, 88, 89, 90, 91, 92, 93, 94, 95, 96, 97, 98, 99, 100, 101, 102, 103, 104, 105, 106, 107, 108, 109, 110, 111, 112, 113] [] ⟨[(8, .c false [.int .i64])], []⟩ [(.ret, ⟨[(2, .c false [.bool])], []⟩), (.exit 4, ⟨[], []⟩)] .d))) (.s (.s .d (.b (.l [2, 10, 114, 115, 116, 117, 118, 119, 120, 121, 122, 123, 124, 125, 126, 127, 128, 129] [] ⟨[(10, .c false [.int .i64])], []⟩ [(.ret, ⟨[(2, .c false [.bool])], []⟩), (.exit 6, ⟨[], []⟩)] .d))) .d)))))))
noncomputable def ref09_Right_c (n : Nat) : Ctr Try.prog := .of Try.func32 n [ref09_node_c n, ref09_pins_c n, ref09_there_c n, ref08_Mask_c n] ref09_Right_a ref09_Right_s (fun d => ref09_Right n d.1 d.2.1 d.2.2.1 d.2.2.2.1 d.2.2.2.2.1) fun d => by kernel_rfl
noncomputable def ref14_Weight_j1 (n : Nat) (x1 : Int) : Option ((Bool × Unit)) :=
 cond (decide (x1 = 4))
 (some (decide (x1 = 4), ()))
 (cond (decide (x1 = 5))
 (some (decide (x1 = 5), ()))
 (cond (decide (x1 = 12))
 (some (decide (x1 = 12), ()))
 (cond (decide (x1 = 13))
 (some (decide (x1 = 13), ()))
 (cond (decide (x1 = 14))
 (some (decide (x1 = 14), ()))
 (some (decide (x1 = 15), ()))))))
noncomputable def ref14_Weight (n : Nat) (x1 : Int) (x2 : Int) (x3 : Int) (x4 : Int) (x5 : Int) (x6 : Int) (x7 : Int) : Option (Int × Unit) :=
 ((cond (decide (x1 = 1))
 (some (decide (x1 = 1), ()))
 (cond (decide (x1 = 21))
 (some (decide (x1 = 21), ()))
 (some (decide (x1 = 22), ())))) : Option ((Bool × Unit))).bind (fun d8 => cond d8.1
 (some (0, ()))
 (cond (decide (x1 = 11))
 (some (IntKind.wrap .i64 ((IntKind.wrap .i64 ((20 : Int) * x2)) * x2), ()))
 ((ref14_Weight_j1 n x1).bind (fun d9 => cond d9.1
 (some (IntKind.wrap .i64 ((20 : Int) * x7), ()))
 (some (IntKind.wrap .i64 ((20 : Int) * x2), ()))))))
def ref14_Weight_s : Sig := ⟨[.c true [.int .i64, .int .i64, .int .i64, .int .i64, .int .i64, .int .i64, .int .i64]], [], .c false [.int .i64], []⟩
def ref14_Weight_a : Ann := .s .d (.s (.s .d (.b (.j [5, 6, 7, 8] [] [(.normal, ⟨[(5, .c false [.bool])], []⟩)] .d (.s .d (.s .d (.s .d (.j [17, 18, 19, 20, 21, 22, 23] [] [(.normal, ⟨[(17, .c false [.bool])], []⟩)] .d .d))))))) .d)
noncomputable def ref14_Weight_c (n : Nat) : Ctr Try.prog := .of Try.func74 n [] ref14_Weight_a ref14_Weight_s (fun d => ref14_Weight n d.1 d.2.1 d.2.2.1 d.2.2.2.1 d.2.2.2.2.1 d.2.2.2.2.2.1 d.2.2.2.2.2.2.1) fun d => by kernel_rfl
noncomputable def ref15_Weight_l1b (n : Nat) (x1 : List Kiiiiiii) (self : Int × Int × Unit → Option ((Int × Unit))) (d7 : Int × Int × Unit) : Option ((Int × Unit)) :=
 cond (decide (d7.2.1 < (x1.length : Int)))
 (ask (0 ≤ d7.2.1 ∧ d7.2.1 < (x1.length : Int)) ((ref14_Weight n ((Kiiiiiii_at x1 d7.2.1).1) (((Kiiiiiii_at x1 d7.2.1).2).1) ((((Kiiiiiii_at x1 d7.2.1).2).2).1) (((((Kiiiiiii_at x1 d7.2.1).2).2).2).1) ((((((Kiiiiiii_at x1 d7.2.1).2).2).2).2).1) (((((((Kiiiiiii_at x1 d7.2.1).2).2).2).2).2).1) (((((((Kiiiiiii_at x1 d7.2.1).2).2).2).2).2).2)).bind (fun r8 => self (IntKind.wrap .i64 (d7.1 + r8.1), IntKind.wrap .i64 (d7.2.1 + 1), ()))))
 (some (d7.1, ()))
noncomputable def ref15_Weight_l1 (n : Nat) (x1 : List Kiiiiiii) : Int × Int × Unit → Option ((Int × Unit)) := iter (ref15_Weight_l1b n x1) n
noncomputable def ref15_Weight (n : Nat) (x1 : List Kiiiiiii) (x2 : List Ksi) (x3 : List Ksiii) (x4 : List Kisi) (x5 : List Ksi) : Option (Int × Unit) :=
 (ref15_Weight_l1 n x1 (0, 0, ())).bind (fun d9 => some (d9.1, ()))
def ref15_Weight_s : Sig := ⟨[.c true [.row Kiiiiiii_, .row Ksi_, .row Ksiii_, .row Kisi_, .row Ksi_]], [], .c false [.int .i64], []⟩
def ref15_Weight_a : Ann := .s .d (.s .d (.s (.s .d (.b (.l [3, 4, 5, 6, 7, 8, 9, 10, 11, 12, 13, 14, 15, 16, 17, 18, 19] [] ⟨[(3, .c false [.int .i64]), (4, .c false [.int .i64])], []⟩ [(.exit 0, ⟨[(3, .c false [.int .i64])], []⟩)] .d))) .d))
noncomputable def ref15_Weight_c (n : Nat) : Ctr Try.prog := .of Try.func33 n [ref14_Weight_c n] ref15_Weight_a ref15_Weight_s (fun d => ref15_Weight n d.1 d.2.1 d.2.2.1 d.2.2.2.1 d.2.2.2.2.1) fun d => by kernel_rfl
noncomputable def law16_Great (n : Nat) (x1 : List Kiiiiiii) (x2 : List Ksi) (x3 : List Ksiii) (x4 : List Kisi) (x5 : List Ksi) : Option (Bool × Unit) :=
 (law09_Great n x1 x2 x3 x4 x5).bind (fun r6 => cond r6.1
 (some (true, ()))
 ((ref09_Right n x1 x2 x3 x4 x5).bind (fun r7 => cond (!r7.1)
 (some (true, ()))
 (cond (decide ((100 : Int) < (x1.length : Int)))
 (some (true, ()))
 (cond (decide ((16 : Int) < (x3.length : Int)))
 (some (true, ()))
 ((ref15_Weight n x1 x2 x3 x4 x5).bind (fun r8 => some (decide ((1000 : Int) < r8.1), ()))))))))
def law16_Great_s : Sig := ⟨[.c true [.row Kiiiiiii_, .row Ksi_, .row Ksiii_, .row Kisi_, .row Ksi_]], [], .c false [.bool], []⟩
def law16_Great_a : Ann := .d
noncomputable def law16_Great_c (n : Nat) : Ctr Try.prog := .of Try.func9 n [law09_Great_c n, ref09_Right_c n, ref15_Weight_c n] law16_Great_a law16_Great_s (fun d => law16_Great n d.1 d.2.1 d.2.2.1 d.2.2.2.1 d.2.2.2.2.1) fun d => by kernel_rfl
noncomputable def ref13_find_l1b (n : Nat) (x2 : List Kii) (x3 : Int) (x4 : Int) (x5 : Int) (self : Int × Unit → Option ((Int × Unit) ⊕ (Unit))) (d7 : Int × Unit) : Option ((Int × Unit) ⊕ (Unit)) :=
 cond (decide (d7.1 < x5))
 (ask (0 ≤ d7.1 ∧ d7.1 < (x2.length : Int)) (ask (0 < 2) (cond (decide (((Kii_at x2 d7.1).1) = x3))
 (ask (0 ≤ d7.1 ∧ d7.1 < (x2.length : Int)) (ask (1 < 2) (cond (decide (((Kii_at x2 d7.1).2) = x4))
 (some (.inl (d7.1, ())))
 (self (IntKind.wrap .i64 (d7.1 + 1), ())))))
 (self (IntKind.wrap .i64 (d7.1 + 1), ())))))
 (some (.inr ()))
noncomputable def ref13_find_l1 (n : Nat) (x2 : List Kii) (x3 : Int) (x4 : Int) (x5 : Int) : Int × Unit → Option ((Int × Unit) ⊕ (Unit)) := iter (ref13_find_l1b n x2 x3 x4 x5) n
noncomputable def ref13_find (n : Nat) (x1 : Int) (x2 : List Kii) (x3 : Int) (x4 : Int) (x5 : Int) : Option (Int × Unit) :=
 (ref13_find_l1 n x2 x3 x4 x5 (0, ())).bind (Sum.elim (fun d8 => some (d8.1, ())) (fun d9 => some ((-1), ())))
def ref13_find_s : Sig := ⟨[.c true [.int .i64, .row Kii_], .c false [.int .i64], .c false [.int .i64], .c false [.int .i64]], [], .c false [.int .i64], []⟩
def ref13_find_a : Ann := .s .d (.s (.s .d (.b (.l [8, 9, 10, 11, 12, 13, 14, 15, 16, 17, 18, 19, 20, 21, 22, 23, 24, 25, 26, 27, 28, 29, 30, 31, 32, 33] [] ⟨[(9, .c false [.int .i64])], []⟩ [(.ret, ⟨[(8, .c false [.int .i64])], []⟩), (.exit 0, ⟨[], []⟩)] .d))) .d)
noncomputable def ref13_find_c (n : Nat) : Ctr Try.prog := .of Try.func79 n [] ref13_find_a ref13_find_s (fun d => ref13_find n d.1 d.2.1 d.2.2.1 d.2.2.2.1 d.2.2.2.2.1) fun d => by kernel_rfl
noncomputable def ref13_Right_l1b (n : Nat) (x1 : Int) (x2 : List Kii) (self : Int × Unit → Option ((Bool × Unit) ⊕ (Unit))) (d4 : Int × Unit) : Option ((Bool × Unit) ⊕ (Unit)) :=
 cond (decide (d4.1 < (x2.length : Int)))
 (ask (0 ≤ d4.1 ∧ d4.1 < (x2.length : Int)) (ask (0 < 2) (ask (0 ≤ d4.1 ∧ d4.1 < (x2.length : Int)) (ask (1 < 2) (cond (decide (((Kii_at x2 d4.1).1) < 2))
 (some (.inl (false, ())))
 (cond (decide (((Kii_at x2 d4.1).2) ≤ ((Kii_at x2 d4.1).1)))
 (some (.inl (false, ())))
 (ask ((2 : Int) ≠ 0) (cond (decide ((IntKind.wrap .i64 (x1 + d4.1)) < (IntKind.wrap .i64 (Int.tdiv ((Kii_at x2 d4.1).2) 2))))
 (some (.inl (false, ())))
 (ask ((2 : Int) ≠ 0) (ask ((2 : Int) ≠ 0) (cond (decide ((IntKind.wrap .i64 (Int.tdiv ((Kii_at x2 d4.1).1) 2)) = (IntKind.wrap .i64 (Int.tdiv ((Kii_at x2 d4.1).2) 2))))
 (some (.inl (false, ())))
 ((ref13_find n x1 x2 ((Kii_at x2 d4.1).1) ((Kii_at x2 d4.1).2) d4.1).bind (fun r5 => cond (decide ((0 : Int) ≤ r5.1))
 (some (.inl (false, ())))
 (self (IntKind.wrap .i64 (d4.1 + 1), ())))))))))))))))
 (some (.inr ()))
noncomputable def ref13_Right_l1 (n : Nat) (x1 : Int) (x2 : List Kii) : Int × Unit → Option ((Bool × Unit) ⊕ (Unit)) := iter (ref13_Right_l1b n x1 x2) n
noncomputable def ref13_Right (n : Nat) (x1 : Int) (x2 : List Kii) : Option (Bool × Unit) :=
 cond (decide (x1 < 0))
 (some (false, ()))
 (cond (decide ((1048576 : Int) < x1))
 (some (false, ()))
 (cond (decide ((1048576 : Int) < (x2.length : Int)))
 (some (false, ()))
 (cond (decide ((1048576 : Int) < (IntKind.wrap .i64 (x1 + (x2.length : Int)))))
 (some (false, ()))
 ((ref13_Right_l1 n x1 x2 (0, ())).bind (Sum.elim (fun d6 => some (d6.1, ())) (fun d7 => some (true, ())))))))
def ref13_Right_s : Sig := ⟨[.c true [.int .i64, .row Kii_]], [], .c false [.bool], []⟩
def ref13_Right_a : Ann := .s .d (.s .d (.s (.s .d (.b (.l [2, 3, 4, 5, 29, 30, 31, 32, 33, 34, 35, 36, 37, 38, 39, 40, 41, 42, 43, 44, 45, 46, 47, 48, 49, 50, 51, 52, 53, 54, 55, 56, 57, 58, 59, 60, 61, 62, 63, 64, 65, 66, 67, 68, 69, 70, 71, 72, 73, 74, 75, 76, 77, 78] [] ⟨[(3, .c false [.int .i64])], []⟩ [(.ret, ⟨[(2, .c false [.bool])], []⟩), (.exit 0, ⟨[], []⟩)] .d))) .d))
noncomputable def ref13_Right_c (n : Nat) : Ctr Try.prog := .of Try.func35 n [ref13_find_c n] ref13_Right_a ref13_Right_s (fun d => ref13_Right n d.1 d.2.1) fun d => by kernel_rfl
noncomputable def ref15_rises (n : Nat) (x1 : Int) (x2 : Int) (x3 : Int) (x4 : Int) : Option (Bool × Unit) :=
 cond (decide (x1 < x3))
 (some (true, ()))
 (cond (decide (x1 = x3))
 (some (decide (x2 < x4), ()))
 (some (false, ())))
def ref15_rises_s : Sig := ⟨[.c false [.int .i64], .c false [.int .i64], .c false [.int .i64], .c false [.int .i64]], [], .c false [.bool], []⟩
def ref15_rises_a : Ann := .d
noncomputable def ref15_rises_c (n : Nat) : Ctr Try.prog := .of Try.func36 n [] ref15_rises_a ref15_rises_s (fun d => ref15_rises n d.1 d.2.1 d.2.2.1 d.2.2.2.1) fun d => by kernel_rfl
noncomputable def ref15_literal (n : Nat) (x1 : Int) (x2 : List Kii) (x3 : Int) : Option (Bool × Unit) :=
 cond (decide ((0 : Int) ≤ x3))
 (ask ((2 : Int) ≠ 0) (some (decide ((IntKind.wrap .i64 (Int.tdiv x3 2)) ≤ (IntKind.wrap .i64 (x1 + (x2.length : Int)))), ())))
 (some (false, ()))
def ref15_literal_s : Sig := ⟨[.c true [.int .i64, .row Kii_], .c false [.int .i64]], [], .c false [.bool], []⟩
def ref15_literal_a : Ann := .d
noncomputable def ref15_literal_c (n : Nat) : Ctr Try.prog := .of Try.func37 n [] ref15_literal_a ref15_literal_s (fun d => ref15_literal n d.1 d.2.1 d.2.2.1) fun d => by kernel_rfl
noncomputable def ref15_Right_l1b (n : Nat) (x3 : List Kiii) (self : Int × Unit → Option ((Bool × Unit) ⊕ (Unit))) (d8 : Int × Unit) : Option ((Bool × Unit) ⊕ (Unit)) :=
 cond (decide (d8.1 < (x3.length : Int)))
 (ask (0 ≤ d8.1 ∧ d8.1 < (x3.length : Int)) (ask (0 < 3) (cond (decide (((Kiii_at x3 d8.1).1) ≠ (IntKind.wrap .i64 (d8.1 + 1))))
 (some (.inl (false, ())))
 (ask (1 < 3) (cond (decide ((((Kiii_at x3 d8.1).2).1) < 0))
 (some (.inl (false, ())))
 (ask (2 < 3) (cond (decide ((((Kiii_at x3 d8.1).2).2) < 0))
 (some (.inl (false, ())))
 (cond (decide ((0 : Int) < d8.1))
 (ask (0 ≤ (IntKind.wrap .i64 (d8.1 - 1)) ∧ IntKind.wrap .i64 (d8.1 - 1) < (x3.length : Int)) (ask (1 < 3) (ask (0 ≤ (IntKind.wrap .i64 (d8.1 - 1)) ∧ IntKind.wrap .i64 (d8.1 - 1) < (x3.length : Int)) (ask (2 < 3) (ask (1 < 3) (ask (2 < 3) ((ref15_rises n (((Kiii_at x3 (IntKind.wrap .i64 (d8.1 - 1))).2).1) (((Kiii_at x3 (IntKind.wrap .i64 (d8.1 - 1))).2).2) (((Kiii_at x3 d8.1).2).1) (((Kiii_at x3 d8.1).2).2)).bind (fun r9 => cond (!r9.1)
 (some (.inl (false, ())))
 (self (IntKind.wrap .i64 (d8.1 + 1), ()))))))))))
 (self (IntKind.wrap .i64 (d8.1 + 1), ()))))))))))
 (some (.inr ()))
noncomputable def ref15_Right_l1 (n : Nat) (x3 : List Kiii) : Int × Unit → Option ((Bool × Unit) ⊕ (Unit)) := iter (ref15_Right_l1b n x3) n
noncomputable def ref15_Right_l2b (n : Nat) (x1 : Int) (x2 : List Kii) (x3 : List Kiii) (x4 : List Kiibii) (self : Int × Unit → Option ((Bool × Unit) ⊕ (Unit))) (d13 : Int × Unit) : Option ((Bool × Unit) ⊕ (Unit)) :=
 cond (decide (d13.1 < (x4.length : Int)))
 (ask (0 ≤ d13.1 ∧ d13.1 < (x4.length : Int)) (cond (decide (((Kiibii_at x4 d13.1).1) ≠ (IntKind.wrap .i64 ((IntKind.wrap .i64 ((x3.length : Int) + d13.1)) + 1))))
 (some (.inl (false, ())))
 (cond (decide ((((((Kiibii_at x4 d13.1).2).2).2).1) < 0))
 (some (.inl (false, ())))
 (cond (decide ((((((Kiibii_at x4 d13.1).2).2).2).2) < 0))
 (some (.inl (false, ())))
 ((ref15_literal n x1 x2 (((Kiibii_at x4 d13.1).2).1)).bind (fun r14 => cond (!r14.1)
 (some (.inl (false, ())))
 (cond (decide ((0 : Int) < d13.1))
 (ask (0 ≤ (IntKind.wrap .i64 (d13.1 - 1)) ∧ IntKind.wrap .i64 (d13.1 - 1) < (x4.length : Int)) (ask (0 ≤ (IntKind.wrap .i64 (d13.1 - 1)) ∧ IntKind.wrap .i64 (d13.1 - 1) < (x4.length : Int)) ((ref15_rises n (((((Kiibii_at x4 (IntKind.wrap .i64 (d13.1 - 1))).2).2).2).1) (((((Kiibii_at x4 (IntKind.wrap .i64 (d13.1 - 1))).2).2).2).2) (((((Kiibii_at x4 d13.1).2).2).2).1) (((((Kiibii_at x4 d13.1).2).2).2).2)).bind (fun r15 => cond (!r15.1)
 (some (.inl (false, ())))
 (self (IntKind.wrap .i64 (d13.1 + 1), ()))))))
 (self (IntKind.wrap .i64 (d13.1 + 1), ())))))))))
 (some (.inr ()))
noncomputable def ref15_Right_l2 (n : Nat) (x1 : Int) (x2 : List Kii) (x3 : List Kiii) (x4 : List Kiibii) : Int × Unit → Option ((Bool × Unit) ⊕ (Unit)) := iter (ref15_Right_l2b n x1 x2 x3 x4) n
noncomputable def ref15_Right_l3b (n : Nat) (x1 : Int) (x2 : List Kii) (x5 : List Kiii) (self : Int × Unit → Option ((Bool × Unit) ⊕ (Unit))) (d19 : Int × Unit) : Option ((Bool × Unit) ⊕ (Unit)) :=
 cond (decide (d19.1 < (x5.length : Int)))
 (ask (0 ≤ d19.1 ∧ d19.1 < (x5.length : Int)) (cond (decide (((Kiii_at x5 d19.1).1) < 8))
 (some (.inl (false, ())))
 (cond (decide ((10 : Int) < ((Kiii_at x5 d19.1).1)))
 (some (.inl (false, ())))
 (cond (decide ((((Kiii_at x5 d19.1).2).2) < 0))
 (some (.inl (false, ())))
 ((ref15_literal n x1 x2 (((Kiii_at x5 d19.1).2).1)).bind (fun r20 => cond (!r20.1)
 (some (.inl (false, ())))
 (self (IntKind.wrap .i64 (d19.1 + 1), ()))))))))
 (some (.inr ()))
noncomputable def ref15_Right_l3 (n : Nat) (x1 : Int) (x2 : List Kii) (x5 : List Kiii) : Int × Unit → Option ((Bool × Unit) ⊕ (Unit)) := iter (ref15_Right_l3b n x1 x2 x5) n
noncomputable def ref15_Right (n : Nat) (x1 : Int) (x2 : List Kii) (x3 : List Kiii) (x4 : List Kiibii) (x5 : List Kiii) : Option (Bool × Unit) :=
 (ref13_Right n x1 x2).bind (fun r6 => cond (!r6.1)
 (some (false, ()))
 (cond (decide ((256 : Int) < (x4.length : Int)))
 (some (false, ()))
 (cond (decide ((IntKind.wrap .i64 ((x3.length : Int) + (x4.length : Int))) ≠ x1))
 (some (false, ()))
 ((ref15_Right_l1 n x3 (0, ())).bind (Sum.elim (fun d10 => some (d10.1, ())) (fun d11 => (ref15_Right_l2 n x1 x2 x3 x4 (0, ())).bind (Sum.elim (fun d16 => some (d16.1, ())) (fun d17 => (ref15_Right_l3 n x1 x2 x5 (0, ())).bind (Sum.elim (fun d21 => some (d21.1, ())) (fun d22 => some (true, ())))))))))))
def ref15_Right_s : Sig := ⟨[.c true [.int .i64, .row Kii_, .row Kiii_, .row Kiibii_, .row Kiii_]], [], .c false [.bool], []⟩
def ref15_Right_a : Ann := .s .d (.s .d (.s (.s .d (.b (.l [2, 3, 4, 32, 33, 34, 35, 36, 37, 38, 39, 40, 41, 42, 43, 44, 45, 46, 47, 48, 49, 50, 51, 52, 53, 54, 55, 56, 57, 58, 59, 60, 61, 62, 63, 64, 65, 66, 67, 68, 69, 70, 71, 72, 73, 74, 75, 76, 77, 78, 79, 80, 81, 82, 83, 84] [] ⟨[(3, .c false [.int .i64])], []⟩ [(.ret, ⟨[(2, .c false [.bool])], []⟩), (.exit 0, ⟨[], []⟩)] .d))) (.s (.s .d (.b (.l [2, 5, 6, 85, 86, 87, 88, 89, 90, 91, 92, 93, 94, 95, 96, 97, 98, 99, 100, 101, 102, 103, 104, 105, 106, 107, 108, 109, 110, 111, 112, 113, 114, 115, 116, 117, 118, 119, 120, 121, 122, 123, 124, 125, 126, 127, 128, 129, 130, 131, 132, 133, 134, 135, 136, 137, 138, 139, 140, 141, 142, 143, 144, 145, 146, 147, 148, 149] [] ⟨[(5, .c false [.int .i64])], []⟩ [(.ret, ⟨[(2, .c false [.bool])], []⟩), (.exit 2, ⟨[], []⟩)] .d))) (.s (.s .d (.b (.l [2, 7, 8, 150, 151, 152, 153, 154, 155, 156, 157, 158, 159, 160, 161, 162, 163, 164, 165, 166, 167, 168, 169, 170, 171, 172, 173, 174, 175, 176, 177, 178, 179, 180, 181, 182] [] ⟨[(7, .c false [.int .i64])], []⟩ [(.ret, ⟨[(2, .c false [.bool])], []⟩), (.exit 4, ⟨[], []⟩)] .d))) .d))))
noncomputable def ref15_Right_c (n : Nat) : Ctr Try.prog := .of Try.func11 n [ref13_Right_c n, ref15_rises_c n, ref15_literal_c n] ref15_Right_a ref15_Right_s (fun d => ref15_Right n d.1 d.2.1 d.2.2.1 d.2.2.2.1 d.2.2.2.2.1) fun d => by kernel_rfl
noncomputable def law16_place (n : Nat) (x1 : Int) (x2 : Int) : Option (Int × Unit) :=
 ask (True) (ask ((if x2 > 1 then x2 else 1) ≠ 0) (some (Int.tmod (IntKind.wrap .i64 x1) (if x2 > 1 then x2 else 1), ())))
def law16_place_s : Sig := ⟨[.c false [.int .u8], .c false [.int .i64]], [], .c false [.int .i64], []⟩
def law16_place_a : Ann := .d
noncomputable def law16_place_c (n : Nat) : Ctr Try.prog := .of Try.func16 n [] law16_place_a law16_place_s (fun d => law16_place n d.1 d.2.1) fun d => by kernel_rfl
noncomputable def circ_compiler_wide_i2_l1b (n : Nat) (x2 : List Kiiiiiii) (x7 : List Int) (self : Int × Int × Unit → Option ((Int × Unit))) (d11 : Int × Int × Unit) : Option ((Int × Unit)) :=
 cond (decide (d11.2.1 < (x7.length : Int)))
 (ask (0 ≤ d11.2.1 ∧ d11.2.1 < (x7.length : Int)) (ask (0 ≤ (Ki_at x7 d11.2.1) ∧ Ki_at x7 d11.2.1 < (x2.length : Int)) (self (IntKind.wrap .i64 (d11.1 + (((Kiiiiiii_at x2 (Ki_at x7 d11.2.1)).2).1)), IntKind.wrap .i64 (d11.2.1 + 1), ()))))
 (some (d11.1, ()))
noncomputable def circ_compiler_wide_i2_l1 (n : Nat) (x2 : List Kiiiiiii) (x7 : List Int) : Int × Int × Unit → Option ((Int × Unit)) := iter (circ_compiler_wide_i2_l1b n x2 x7) n
noncomputable def circ_compiler_wide_i2 (n : Nat) (x1 : Int) (x2 : List Kiiiiiii) (x3 : List Ksi) (x4 : List Ksiii) (x5 : List Kisi) (x6 : List Ksi) (x7 : List Int) (x8 : List Kiii) (x9 : List (Int × (List Int))) : Option (Int × Int × List Kiiiiiii × List Ksi × List Ksiii × List Kisi × List Ksi × List Int × List Kiii × List (Int × (List Int)) × Unit) :=
 (circ_compiler_wide_i2_l1 n x2 x7 (0, 0, ())).bind (fun d12 => some (d12.1, x1, x2, x3, x4, x5, x6, x7, x8, x9, ()))
def circ_compiler_wide_i2_s : Sig := ⟨[.c false [.con (.ptr 0 0)], .c false [.con (.own 1 1)]], [(0, .var 109 [.int .i64, .con .nilsl, .con (.own 2 3), .con .nilsl, .con .nilsl, .row Kiiiiiii_, .row Ksi_, .row Ksiii_, .row Kisi_, .row Ksi_, .con (.map 3)]), (1, .row 3 i_), (2, .row 68 Kiii_), (3, .map false i_ false KLi_)], .c false [.int .i64], [(0, .var 109 [.int .i64, .con .nilsl, .con (.own 2 3), .con .nilsl, .con .nilsl, .row Kiiiiiii_, .row Ksi_, .row Ksiii_, .row Kisi_, .row Ksi_, .con (.map 3)]), (1, .row 3 i_), (2, .row 68 Kiii_), (3, .map false i_ false KLi_)]⟩
def circ_compiler_wide_i2_a : Ann := .s .d (.s .d (.s (.s .d (.b (.l [5, 7, 10, 11, 12, 13, 14, 15, 16, 17, 18, 19, 20, 21, 22, 23, 24, 25] [] ⟨[(5, .c false [.int .i64]), (10, .c false [.int .i64])], []⟩ [(.exit 0, ⟨[(5, .c false [.int .i64])], []⟩)] .d))) .d))
noncomputable def circ_compiler_wide_i2_c (n : Nat) : Ctr Try.prog := .of Try.func60 n [] circ_compiler_wide_i2_a circ_compiler_wide_i2_s (fun d => circ_compiler_wide_i2 n d.1 d.2.1 d.2.2.1 d.2.2.2.1 d.2.2.2.2.1 d.2.2.2.2.2.1 d.2.2.2.2.2.2.1 d.2.2.2.2.2.2.2.1 d.2.2.2.2.2.2.2.2.1) fun d => by kernel_rfl
noncomputable def circ_compiler_vars_i2_l1b (n : Nat) (x1 : Int) (x4 : List Kiiiiiii) (self : Int × Int × List Int × Unit → Option ((Int × List Int × Unit))) (d12 : Int × Int × List Int × Unit) : Option ((Int × List Int × Unit)) :=
 cond (decide (d12.2.1 < (((Kiiiiiii_at x4 x1).2).1)))
 (ask (True ∧ (d12.2.2.1.length + (([IntKind.wrap .i64 ((2 : Int) * d12.1)] : List Int)).length) * 8 ≤ 140737488355328) (self (IntKind.wrap .i64 (d12.1 + 1), IntKind.wrap .i64 (d12.2.1 + 1), d12.2.2.1 ++ ([IntKind.wrap .i64 ((2 : Int) * d12.1)] : List Int), ())))
 (some (d12.1, d12.2.2.1, ()))
noncomputable def circ_compiler_vars_i2_l1 (n : Nat) (x1 : Int) (x4 : List Kiiiiiii) : Int × Int × List Int × Unit → Option ((Int × List Int × Unit)) := iter (circ_compiler_vars_i2_l1b n x1 x4) n
noncomputable def circ_compiler_vars_i2 (n : Nat) (x1 : Int) (x2 : Int) (x3 : Int) (x4 : List Kiiiiiii) (x5 : List Ksi) (x6 : List Ksiii) (x7 : List Kisi) (x8 : List Ksi) (x9 : List Kiii) (x10 : List (Int × (List Int))) : Option (Int × Int × List Kiiiiiii × List Ksi × List Ksiii × List Kisi × List Ksi × List Kiii × List (Int × (List Int)) × Unit) :=
 ask (0 ≤ x1 ∧ x1 < (x4.length : Int)) ((circ_compiler_vars_i2_l1 n x1 x4 (x2, 0, ([] : List Int), ())).bind (fun d13 => some (d13.1, x3, x4, x5, x6, x7, x8, x9, Mi_Li_put x10 x1 d13.2.1, ())))
def circ_compiler_vars_i2_s : Sig := ⟨[.c false [.con (.ptr 0 0)], .c false [.int .i64], .c false [.int .i64]], [(0, .var 109 [.int .i64, .con .nilsl, .con (.own 1 3), .con .nilsl, .con .nilsl, .row Kiiiiiii_, .row Ksi_, .row Ksiii_, .row Kisi_, .row Ksi_, .con (.map 2)]), (1, .row 68 Kiii_), (2, .map false i_ false KLi_)], .c false [.int .i64], [(0, .var 109 [.int .i64, .con .nilsl, .con (.own 1 3), .con .nilsl, .con .nilsl, .row Kiiiiiii_, .row Ksi_, .row Ksiii_, .row Kisi_, .row Ksi_, .con (.map 2)]), (1, .row 68 Kiii_), (2, .map false i_ false KLi_)]⟩
def circ_compiler_vars_i2_a : Ann := .s .d (.s .d (.s (.s .d (.b (.l [2, 7, 17, 18, 19, 20, 21, 22, 23, 24, 25, 26] [] ⟨[(2, .c false [.int .i64]), (7, .c false [.con (.own 100000 1)]), (17, .c false [.int .i64])], [(100000, .row 3 i_)]⟩ [(.exit 0, ⟨[(2, .c false [.int .i64]), (7, .c false [.con (.own 100000 1)])], [(100000, .row 3 i_)]⟩)] .d))) .d))
noncomputable def circ_compiler_vars_i2_c (n : Nat) : Ctr Try.prog := .of Try.func61 n [] circ_compiler_vars_i2_a circ_compiler_vars_i2_s (fun d => circ_compiler_vars_i2 n d.1 d.2.1 d.2.2.1 d.2.2.2.1 d.2.2.2.2.1 d.2.2.2.2.2.1 d.2.2.2.2.2.2.1 d.2.2.2.2.2.2.2.1 d.2.2.2.2.2.2.2.2.1 d.2.2.2.2.2.2.2.2.2.1) fun d => by kernel_rfl
noncomputable def blast_works (n : Nat) : Option (Unit) :=
 some ()
def blast_works_s : Sig := ⟨[], [], .c false [.con (.map 100)], [(100, .tab [(.i64, 1), (.i64, 3), (.i64, 4), (.i64, 5), (.i64, 6), (.i64, 7), (.i64, 8), (.i64, 9), (.i64, 10), (.i64, 11), (.i64, 12), (.i64, 13), (.i64, 14), (.i64, 15), (.i64, 16), (.i64, 17), (.i64, 18)] [(false, [.con (.fn 114 [])]), (false, [.con (.fn 115 [])]), (false, [.con (.fn 116 [])]), (false, [.con (.fn 117 [])]), (false, [.con (.fn 118 [])]), (false, [.con (.fn 119 [])]), (false, [.con (.fn 120 [])]), (false, [.con (.fn 121 [])]), (false, [.con (.fn 122 [])]), (false, [.con (.fn 123 [])]), (false, [.con (.fn 124 [])]), (false, [.con (.fn 125 [])]), (false, [.con (.fn 126 [])]), (false, [.con (.fn 127 [])]), (false, [.con (.fn 128 [])]), (false, [.con (.fn 129 [])]), (false, [.con (.fn 130 [])])])]⟩
def blast_works_a : Ann := .d
noncomputable def blast_works_c (n : Nat) : Ctr Try.prog := .of Try.func107 n [] blast_works_a blast_works_s (fun d => blast_works n) fun d => by kernel_rfl
noncomputable def blast_maker_doLit_o_l1b (n : Nat) (x1 : List KiLPiiEiiiiiiiLiLiLi) (x2 : Int) (self : Int × List Int × Unit → Option ((List Int × Unit))) (d5 : Int × List Int × Unit) : Option ((List Int × Unit)) :=
 cond (decide (d5.1 < ((List.replicate (((((KiLPiiEiiiiiiiLiLiLi_at x1 x2).2).2).2).1).toNat (0 : Int)).length : Int)))
 (ask (0 ≤ d5.1) (ask (0 ≤ d5.1 ∧ d5.1 < (d5.2.1.length : Int)) (self (IntKind.wrap .i64 (d5.1 + 1), d5.2.1.set d5.1.toNat (bits .and .i64 (shrI .i64 (((((((((KiLPiiEiiiiiiiLiLiLi_at x1 x2).2).2).2).2).2).2).2).1) d5.1) 1), ()))))
 (some (d5.2.1, ()))
noncomputable def blast_maker_doLit_o_l1 (n : Nat) (x1 : List KiLPiiEiiiiiiiLiLiLi) (x2 : Int) : Int × List Int × Unit → Option ((List Int × Unit)) := iter (blast_maker_doLit_o_l1b n x1 x2) n
noncomputable def blast_maker_doLit_o (n : Nat) (x1 : List KiLPiiEiiiiiiiLiLiLi) (x2 : Int) : Option (List Int × Unit) :=
 ask ((0 ≤ (((((KiLPiiEiiiiiiiLiLiLi_at x1 x2).2).2).2).1) ∧ ((((KiLPiiEiiiiiiiLiLiLi_at x1 x2).2).2).2).1 ≤ ((((KiLPiiEiiiiiiiLiLiLi_at x1 x2).2).2).2).1) ∧ (8 : Int) * (((((KiLPiiEiiiiiiiLiLiLi_at x1 x2).2).2).2).1) ≤ 281474976710656 ∧ ((((KiLPiiEiiiiiiiLiLiLi_at x1 x2).2).2).2).1 ≤ 281474976710656) ((blast_maker_doLit_o_l1 n x1 x2 (0, List.replicate (((((KiLPiiEiiiiiiiLiLiLi_at x1 x2).2).2).2).1).toNat (0 : Int), ())).bind (fun d6 => some (d6.1, ())))
def blast_maker_doLit_o_s : Sig := ⟨[.c false [.rp KiLPiiEiiiiiiiLiLiLi_ 0]], [], .c false [.con (.own 420 1)], [(420, .row 3 i_)]⟩
def blast_maker_doLit_o_a : Ann := .s .d (.s .d (.s (.s .d (.b (.l [3, 4, 10, 11, 13, 14, 15, 16, 17, 18, 19, 20, 21, 22, 23, 24, 25, 26, 27] [420] ⟨[(3, .c false [.con (.own 420 1)]), (13, .c false [.int .i64])], [(420, .row 3 i_)]⟩ [(.exit 0, ⟨[(3, .c false [.con (.own 420 1)])], [(420, .row 3 i_)]⟩)] .d))) .d))
noncomputable def blast_maker_doLit_o_c (n : Nat) : Ctr Try.prog := .of Try.func114 n [] blast_maker_doLit_o_a blast_maker_doLit_o_s (fun d => blast_maker_doLit_o n d.1 d.2.1) fun d => by kernel_rfl
noncomputable def slices_Clone_int_int (n : Nat) (l : List Int) : Option (List Int × Unit) :=
 ask (True ∧ ((([] : List Int)).length + l.length) * 8 ≤ 140737488355328) (some (l, ()))
def slices_Clone_int_int_s : Sig := cloneS i_ (.c false [.row i_]) []
noncomputable def slices_Clone_int_int_c (n : Nat) : Ctr Try.prog := ⟨.fn 146, slices_Clone_int_int_s, fun d => slices_Clone_int_int n d.1, fun d r h => Spec.clone (P := Try.prog) (f := 146) (fn := Try.f146) (t := i_) (T := 40) (E' := 3) (o := (.c false [.row i_])) (ob := []) (c := fun l : List Int => True ∧ ((([] : List Int)).length + l.length) * 8 ≤ 140737488355328) (g := fun l : List Int => (l, ())) (d := d) (r := r) rfl Try.func146 rfl rfl rfl rfl rfl rfl rfl rfl (by kernel_rfl) (by kernel_rfl) (by kernel_rfl) (by kernel_rfl) (fun l => by kernel_rfl) (fun l => by kernel_rfl) (fun l => by kernel_rfl) (fun l => by kernel_rfl) h⟩
noncomputable def slices_Clone_int_int_o (n : Nat) (l : List Int) : Option (List Int × Unit) :=
 ask (True ∧ ((([] : List Int)).length + l.length) * 8 ≤ 140737488355328) (some (l, ()))
def slices_Clone_int_int_o_s : Sig := cloneS i_ (.c false [.con (.own 228 1)]) [(228, .row 3 i_)]
noncomputable def slices_Clone_int_int_o_c (n : Nat) : Ctr Try.prog := ⟨.fn 146, slices_Clone_int_int_o_s, fun d => slices_Clone_int_int_o n d.1, fun d r h => Spec.clone (P := Try.prog) (f := 146) (fn := Try.f146) (t := i_) (T := 40) (E' := 3) (o := (.c false [.con (.own 228 1)])) (ob := [(228, .row 3 i_)]) (c := fun l : List Int => True ∧ ((([] : List Int)).length + l.length) * 8 ≤ 140737488355328) (g := fun l : List Int => (l, ())) (d := d) (r := r) rfl Try.func146 rfl rfl rfl rfl rfl rfl rfl rfl (by kernel_rfl) (by kernel_rfl) (by kernel_rfl) (by kernel_rfl) (fun l => by kernel_rfl) (fun l => by kernel_rfl) (fun l => by kernel_rfl) (fun l => by kernel_rfl) h⟩
noncomputable def blast_turned_l1b (n : Nat) (r2 : List Int × Unit) (self : Int × List Int × Unit → Option ((List Int × Unit))) (d5 : Int × List Int × Unit) : Option ((List Int × Unit)) :=
 cond (decide (d5.1 < (r2.1.length : Int)))
 (ask (0 ≤ d5.1 ∧ d5.1 < (d5.2.1.length : Int)) (ask (0 ≤ d5.1 ∧ d5.1 < (d5.2.1.length : Int)) (self (IntKind.wrap .i64 (d5.1 + 1), d5.2.1.set d5.1.toNat (bits .xor .i64 (Ki_at d5.2.1 d5.1) 1), ()))))
 (some (d5.2.1, ()))
noncomputable def blast_turned_l1 (n : Nat) (r2 : List Int × Unit) : Int × List Int × Unit → Option ((List Int × Unit)) := iter (blast_turned_l1b n r2) n
noncomputable def blast_turned (n : Nat) (x1 : List Int) : Option (List Int × Unit) :=
 (slices_Clone_int_int_o n x1).bind (fun r2 => (blast_turned_l1 n r2 (0, r2.1, ())).bind (fun d6 => some (d6.1, ())))
def blast_turned_s : Sig := ⟨[.c false [.row i_]], [], .c false [.row i_], []⟩
def blast_turned_a : Ann := .s .d (.s .d (.s (.s .d (.b (.l [3, 4, 6, 7, 9, 10, 11, 12, 13, 14, 15, 16, 17, 18] [164] ⟨[(3, .c false [.con (.own 164 1)]), (9, .c false [.int .i64])], [(164, .row 3 i_)]⟩ [(.exit 0, ⟨[(3, .c false [.con (.own 164 1)])], [(164, .row 3 i_)]⟩)] .d))) .d))
noncomputable def blast_turned_c (n : Nat) : Ctr Try.prog := .of Try.func136 n [slices_Clone_int_int_o_c n] blast_turned_a blast_turned_s (fun d => blast_turned n d.1) fun d => by kernel_rfl
noncomputable def blast_maker_doInv_i2 (n : Nat) (x1 : Int) (x2 : List Kii) (x3 : Int) (x4 : Int) (x5 : Int) (x6 : Int) (x7 : Int) (x8 : Int) (x9 : Int) (x10 : List Int) (x11 : List Int) (x12 : List Int) : Option (List Int × Int × List Kii × Int × Int × Int × Int × Int × Int × Int × List Int × List Int × List Int × Unit) :=
 (blast_turned n x10).bind (fun r13 => some (r13.1, x1, x2, x3, x4, x5, x6, x7, x8, x9, x10, x11, x12, ()))
def blast_maker_doInv_i2_s : Sig := ⟨[.c false [.con (.ptr 0 0)]], [(0, .var 148 [.int .i64, .row Kii_, .int .i64, .int .i64, .int .i64, .int .i64, .int .i64, .int .i64, .int .i64, .row i_, .row i_, .row i_])], .c false [.row i_], [(0, .var 148 [.int .i64, .row Kii_, .int .i64, .int .i64, .int .i64, .int .i64, .int .i64, .int .i64, .int .i64, .row i_, .row i_, .row i_])]⟩
def blast_maker_doInv_i2_a : Ann := .d
noncomputable def blast_maker_doInv_i2_c (n : Nat) : Ctr Try.prog := .of Try.func115 n [blast_turned_c n] blast_maker_doInv_i2_a blast_maker_doInv_i2_s (fun d => blast_maker_doInv_i2 n d.1 d.2.1 d.2.2.1 d.2.2.2.1 d.2.2.2.2.1 d.2.2.2.2.2.1 d.2.2.2.2.2.2.1 d.2.2.2.2.2.2.2.1 d.2.2.2.2.2.2.2.2.1 d.2.2.2.2.2.2.2.2.2.1 d.2.2.2.2.2.2.2.2.2.2.1 d.2.2.2.2.2.2.2.2.2.2.2.1) fun d => by kernel_rfl
noncomputable def blast_maker_and (n : Nat) (x1 : Int) (x2 : Int) (x3 : Int) (x4 : List Kii) (x5 : Int) (x6 : Int) (x7 : Int) (x8 : Int) (x9 : Int) (x10 : Int) (x11 : Int) (x12 : List Int) (x13 : List Int) (x14 : List Int) : Option (Int × Int × List Kii × Int × Int × Int × Int × Int × Int × Int × List Int × List Int × List Int × Unit) :=
 (aig_And n x3 x4 x1 x2).bind (fun r15 => some (r15.2.2.1, r15.1, r15.2.1, x5, x6, x7, x8, x9, x10, x11, x12, x13, x14, ()))
def blast_maker_and_s : Sig := ⟨[.c false [.con (.ptr 0 0)], .c false [.int .i64], .c false [.int .i64]], [(0, .var 148 [.int .i64, .row Kii_, .int .i64, .int .i64, .int .i64, .int .i64, .int .i64, .int .i64, .int .i64, .row i_, .row i_, .row i_])], .c false [.int .i64], [(0, .var 148 [.int .i64, .row Kii_, .int .i64, .int .i64, .int .i64, .int .i64, .int .i64, .int .i64, .int .i64, .row i_, .row i_, .row i_])]⟩
def blast_maker_and_a : Ann := .d
noncomputable def blast_maker_and_c (n : Nat) : Ctr Try.prog := .of Try.func139 n [aig_And_c n] blast_maker_and_a blast_maker_and_s (fun d => blast_maker_and n d.1 d.2.1 d.2.2.1 d.2.2.2.1 d.2.2.2.2.1 d.2.2.2.2.2.1 d.2.2.2.2.2.2.1 d.2.2.2.2.2.2.2.1 d.2.2.2.2.2.2.2.2.1 d.2.2.2.2.2.2.2.2.2.1 d.2.2.2.2.2.2.2.2.2.2.1 d.2.2.2.2.2.2.2.2.2.2.2.1 d.2.2.2.2.2.2.2.2.2.2.2.2.1 d.2.2.2.2.2.2.2.2.2.2.2.2.2.1) fun d => by kernel_rfl
noncomputable def blast_maker_or (n : Nat) (x1 : Int) (x2 : Int) (x3 : Int) (x4 : List Kii) (x5 : Int) (x6 : Int) (x7 : Int) (x8 : Int) (x9 : Int) (x10 : Int) (x11 : Int) (x12 : List Int) (x13 : List Int) (x14 : List Int) : Option (Int × Int × List Kii × Int × Int × Int × Int × Int × Int × Int × List Int × List Int × List Int × Unit) :=
 (blast_maker_and n (bits .xor .i64 x1 1) (bits .xor .i64 x2 1) x3 x4 x5 x6 x7 x8 x9 x10 x11 x12 x13 x14).bind (fun r15 => some (bits .xor .i64 r15.1 1, r15.2.1, r15.2.2.1, r15.2.2.2.1, r15.2.2.2.2.1, r15.2.2.2.2.2.1, r15.2.2.2.2.2.2.1, r15.2.2.2.2.2.2.2.1, r15.2.2.2.2.2.2.2.2.1, r15.2.2.2.2.2.2.2.2.2.1, r15.2.2.2.2.2.2.2.2.2.2.1, r15.2.2.2.2.2.2.2.2.2.2.2.1, r15.2.2.2.2.2.2.2.2.2.2.2.2.1, ()))
def blast_maker_or_s : Sig := ⟨[.c false [.con (.ptr 0 0)], .c false [.int .i64], .c false [.int .i64]], [(0, .var 148 [.int .i64, .row Kii_, .int .i64, .int .i64, .int .i64, .int .i64, .int .i64, .int .i64, .int .i64, .row i_, .row i_, .row i_])], .c false [.int .i64], [(0, .var 148 [.int .i64, .row Kii_, .int .i64, .int .i64, .int .i64, .int .i64, .int .i64, .int .i64, .int .i64, .row i_, .row i_, .row i_])]⟩
def blast_maker_or_a : Ann := .d
noncomputable def blast_maker_or_c (n : Nat) : Ctr Try.prog := .of Try.func140 n [blast_maker_and_c n] blast_maker_or_a blast_maker_or_s (fun d => blast_maker_or n d.1 d.2.1 d.2.2.1 d.2.2.2.1 d.2.2.2.2.1 d.2.2.2.2.2.1 d.2.2.2.2.2.2.1 d.2.2.2.2.2.2.2.1 d.2.2.2.2.2.2.2.2.1 d.2.2.2.2.2.2.2.2.2.1 d.2.2.2.2.2.2.2.2.2.2.1 d.2.2.2.2.2.2.2.2.2.2.2.1 d.2.2.2.2.2.2.2.2.2.2.2.2.1 d.2.2.2.2.2.2.2.2.2.2.2.2.2.1) fun d => by kernel_rfl
noncomputable def blast_maker_any_l1b (n : Nat) (x1 : List Int) (self : Int × Int × Int × List Kii × Int × Int × Int × Int × Int × Int × Int × List Int × List Int × List Int × Unit → Option ((Int × Int × List Kii × Int × Int × Int × Int × Int × Int × Int × List Int × List Int × List Int × Unit))) (d16 : Int × Int × Int × List Kii × Int × Int × Int × Int × Int × Int × Int × List Int × List Int × List Int × Unit) : Option ((Int × Int × List Kii × Int × Int × Int × Int × Int × Int × Int × List Int × List Int × List Int × Unit)) :=
 cond (decide (d16.2.1 < (x1.length : Int)))
 (ask (0 ≤ d16.2.1 ∧ d16.2.1 < (x1.length : Int)) ((blast_maker_or n d16.1 (Ki_at x1 d16.2.1) d16.2.2.1 d16.2.2.2.1 d16.2.2.2.2.1 d16.2.2.2.2.2.1 d16.2.2.2.2.2.2.1 d16.2.2.2.2.2.2.2.1 d16.2.2.2.2.2.2.2.2.1 d16.2.2.2.2.2.2.2.2.2.1 d16.2.2.2.2.2.2.2.2.2.2.1 d16.2.2.2.2.2.2.2.2.2.2.2.1 d16.2.2.2.2.2.2.2.2.2.2.2.2.1 d16.2.2.2.2.2.2.2.2.2.2.2.2.2.1).bind (fun r17 => self (r17.1, IntKind.wrap .i64 (d16.2.1 + 1), r17.2.1, r17.2.2.1, r17.2.2.2.1, r17.2.2.2.2.1, r17.2.2.2.2.2.1, r17.2.2.2.2.2.2.1, r17.2.2.2.2.2.2.2.1, r17.2.2.2.2.2.2.2.2.1, r17.2.2.2.2.2.2.2.2.2.1, r17.2.2.2.2.2.2.2.2.2.2.1, r17.2.2.2.2.2.2.2.2.2.2.2.1, r17.2.2.2.2.2.2.2.2.2.2.2.2.1, ()))))
 (some (d16.1, d16.2.2.1, d16.2.2.2.1, d16.2.2.2.2.1, d16.2.2.2.2.2.1, d16.2.2.2.2.2.2.1, d16.2.2.2.2.2.2.2.1, d16.2.2.2.2.2.2.2.2.1, d16.2.2.2.2.2.2.2.2.2.1, d16.2.2.2.2.2.2.2.2.2.2.1, d16.2.2.2.2.2.2.2.2.2.2.2.1, d16.2.2.2.2.2.2.2.2.2.2.2.2.1, d16.2.2.2.2.2.2.2.2.2.2.2.2.2.1, ()))
noncomputable def blast_maker_any_l1 (n : Nat) (x1 : List Int) : Int × Int × Int × List Kii × Int × Int × Int × Int × Int × Int × Int × List Int × List Int × List Int × Unit → Option ((Int × Int × List Kii × Int × Int × Int × Int × Int × Int × Int × List Int × List Int × List Int × Unit)) := iter (blast_maker_any_l1b n x1) n
noncomputable def blast_maker_any (n : Nat) (x1 : List Int) (x2 : Int) (x3 : List Kii) (x4 : Int) (x5 : Int) (x6 : Int) (x7 : Int) (x8 : Int) (x9 : Int) (x10 : Int) (x11 : List Int) (x12 : List Int) (x13 : List Int) : Option (Int × Int × List Kii × Int × Int × Int × Int × Int × Int × Int × List Int × List Int × List Int × Unit) :=
 (blast_maker_any_l1 n x1 (0, 0, x2, x3, x4, x5, x6, x7, x8, x9, x10, x11, x12, x13, ())).bind (fun d18 => some (d18.1, d18.2.1, d18.2.2.1, d18.2.2.2.1, d18.2.2.2.2.1, d18.2.2.2.2.2.1, d18.2.2.2.2.2.2.1, d18.2.2.2.2.2.2.2.1, d18.2.2.2.2.2.2.2.2.1, d18.2.2.2.2.2.2.2.2.2.1, d18.2.2.2.2.2.2.2.2.2.2.1, d18.2.2.2.2.2.2.2.2.2.2.2.1, d18.2.2.2.2.2.2.2.2.2.2.2.2.1, ()))
def blast_maker_any_s : Sig := ⟨[.c false [.con (.ptr 0 0)], .c false [.row i_]], [(0, .var 148 [.int .i64, .row Kii_, .int .i64, .int .i64, .int .i64, .int .i64, .int .i64, .int .i64, .int .i64, .row i_, .row i_, .row i_])], .c false [.int .i64], [(0, .var 148 [.int .i64, .row Kii_, .int .i64, .int .i64, .int .i64, .int .i64, .int .i64, .int .i64, .int .i64, .row i_, .row i_, .row i_])]⟩
def blast_maker_any_a : Ann := .s .d (.s .d (.s (.s .d (.b (.l [0, 5, 7, 10, 11, 12, 13, 14, 15, 16, 17, 18] [0] ⟨[(0, .c false [.con (.ptr 0 0)]), (5, .c false [.int .i64]), (10, .c false [.int .i64])], [(0, .var 148 [.int .i64, .row Kii_, .int .i64, .int .i64, .int .i64, .int .i64, .int .i64, .int .i64, .int .i64, .row i_, .row i_, .row i_])]⟩ [(.exit 0, ⟨[(5, .c false [.int .i64])], [(0, .var 148 [.int .i64, .row Kii_, .int .i64, .int .i64, .int .i64, .int .i64, .int .i64, .int .i64, .int .i64, .row i_, .row i_, .row i_])]⟩)] .d))) .d))
noncomputable def blast_maker_any_c (n : Nat) : Ctr Try.prog := .of Try.func137 n [blast_maker_or_c n] blast_maker_any_a blast_maker_any_s (fun d => blast_maker_any n d.1 d.2.1 d.2.2.1 d.2.2.2.1 d.2.2.2.2.1 d.2.2.2.2.2.1 d.2.2.2.2.2.2.1 d.2.2.2.2.2.2.2.1 d.2.2.2.2.2.2.2.2.1 d.2.2.2.2.2.2.2.2.2.1 d.2.2.2.2.2.2.2.2.2.2.1 d.2.2.2.2.2.2.2.2.2.2.2.1 d.2.2.2.2.2.2.2.2.2.2.2.2.1) fun d => by kernel_rfl
noncomputable def blast_maker_doRedOr (n : Nat) (x1 : Int) (x2 : List Kii) (x3 : Int) (x4 : Int) (x5 : Int) (x6 : Int) (x7 : Int) (x8 : Int) (x9 : Int) (x10 : List Int) (x11 : List Int) (x12 : List Int) : Option (List Int × Int × List Kii × Int × Int × Int × Int × Int × Int × Int × List Int × List Int × List Int × Unit) :=
 (blast_maker_any n x10 x1 x2 x3 x4 x5 x6 x7 x8 x9 x10 x11 x12).bind (fun r13 => some (([r13.1] : List Int), r13.2.1, r13.2.2.1, r13.2.2.2.1, r13.2.2.2.2.1, r13.2.2.2.2.2.1, r13.2.2.2.2.2.2.1, r13.2.2.2.2.2.2.2.1, r13.2.2.2.2.2.2.2.2.1, r13.2.2.2.2.2.2.2.2.2.1, r13.2.2.2.2.2.2.2.2.2.2.1, r13.2.2.2.2.2.2.2.2.2.2.2.1, r13.2.2.2.2.2.2.2.2.2.2.2.2.1, ()))
def blast_maker_doRedOr_s : Sig := ⟨[.c false [.con (.ptr 0 0)]], [(0, .var 148 [.int .i64, .row Kii_, .int .i64, .int .i64, .int .i64, .int .i64, .int .i64, .int .i64, .int .i64, .row i_, .row i_, .row i_])], .c false [.row i_], [(0, .var 148 [.int .i64, .row Kii_, .int .i64, .int .i64, .int .i64, .int .i64, .int .i64, .int .i64, .int .i64, .row i_, .row i_, .row i_])]⟩
def blast_maker_doRedOr_a : Ann := .d
noncomputable def blast_maker_doRedOr_c (n : Nat) : Ctr Try.prog := .of Try.func116 n [blast_maker_any_c n] blast_maker_doRedOr_a blast_maker_doRedOr_s (fun d => blast_maker_doRedOr n d.1 d.2.1 d.2.2.1 d.2.2.2.1 d.2.2.2.2.1 d.2.2.2.2.2.1 d.2.2.2.2.2.2.1 d.2.2.2.2.2.2.2.1 d.2.2.2.2.2.2.2.2.1 d.2.2.2.2.2.2.2.2.2.1 d.2.2.2.2.2.2.2.2.2.2.1 d.2.2.2.2.2.2.2.2.2.2.2.1) fun d => by kernel_rfl
noncomputable def blast_maker_doRedAnd (n : Nat) (x1 : Int) (x2 : List Kii) (x3 : Int) (x4 : Int) (x5 : Int) (x6 : Int) (x7 : Int) (x8 : Int) (x9 : Int) (x10 : List Int) (x11 : List Int) (x12 : List Int) : Option (List Int × Int × List Kii × Int × Int × Int × Int × Int × Int × Int × List Int × List Int × List Int × Unit) :=
 (blast_turned n x10).bind (fun r13 => (blast_maker_any n r13.1 x1 x2 x3 x4 x5 x6 x7 x8 x9 x10 x11 x12).bind (fun r14 => some (([bits .xor .i64 r14.1 1] : List Int), r14.2.1, r14.2.2.1, r14.2.2.2.1, r14.2.2.2.2.1, r14.2.2.2.2.2.1, r14.2.2.2.2.2.2.1, r14.2.2.2.2.2.2.2.1, r14.2.2.2.2.2.2.2.2.1, r14.2.2.2.2.2.2.2.2.2.1, r14.2.2.2.2.2.2.2.2.2.2.1, r14.2.2.2.2.2.2.2.2.2.2.2.1, r14.2.2.2.2.2.2.2.2.2.2.2.2.1, ())))
def blast_maker_doRedAnd_s : Sig := ⟨[.c false [.con (.ptr 0 0)]], [(0, .var 148 [.int .i64, .row Kii_, .int .i64, .int .i64, .int .i64, .int .i64, .int .i64, .int .i64, .int .i64, .row i_, .row i_, .row i_])], .c false [.row i_], [(0, .var 148 [.int .i64, .row Kii_, .int .i64, .int .i64, .int .i64, .int .i64, .int .i64, .int .i64, .int .i64, .row i_, .row i_, .row i_])]⟩
def blast_maker_doRedAnd_a : Ann := .d
noncomputable def blast_maker_doRedAnd_c (n : Nat) : Ctr Try.prog := .of Try.func117 n [blast_turned_c n, blast_maker_any_c n] blast_maker_doRedAnd_a blast_maker_doRedAnd_s (fun d => blast_maker_doRedAnd n d.1 d.2.1 d.2.2.1 d.2.2.2.1 d.2.2.2.2.1 d.2.2.2.2.2.1 d.2.2.2.2.2.2.1 d.2.2.2.2.2.2.2.1 d.2.2.2.2.2.2.2.2.1 d.2.2.2.2.2.2.2.2.2.1 d.2.2.2.2.2.2.2.2.2.2.1 d.2.2.2.2.2.2.2.2.2.2.2.1) fun d => by kernel_rfl
noncomputable def blast_maker_both__blast_maker_and_l1b (n : Nat) (x10 : List Int) (self : Int × Int × List Kii × Int × Int × Int × Int × Int × Int × Int × List Int × List Int × List Int × List Int × Unit → Option ((Int × List Kii × Int × Int × Int × Int × Int × Int × Int × List Int × List Int × List Int × List Int × Unit))) (d15 : Int × Int × List Kii × Int × Int × Int × Int × Int × Int × Int × List Int × List Int × List Int × List Int × Unit) : Option ((Int × List Kii × Int × Int × Int × Int × Int × Int × Int × List Int × List Int × List Int × List Int × Unit)) :=
 cond (decide (d15.1 < ((List.replicate (x10.length : Int).toNat (0 : Int)).length : Int)))
 (ask (0 ≤ d15.1 ∧ d15.1 < (d15.2.2.2.2.2.2.2.2.2.2.1.length : Int)) (ask (0 ≤ d15.1 ∧ d15.1 < (d15.2.2.2.2.2.2.2.2.2.2.2.1.length : Int)) ((blast_maker_and n (Ki_at d15.2.2.2.2.2.2.2.2.2.2.1 d15.1) (Ki_at d15.2.2.2.2.2.2.2.2.2.2.2.1 d15.1) d15.2.1 d15.2.2.1 d15.2.2.2.1 d15.2.2.2.2.1 d15.2.2.2.2.2.1 d15.2.2.2.2.2.2.1 d15.2.2.2.2.2.2.2.1 d15.2.2.2.2.2.2.2.2.1 d15.2.2.2.2.2.2.2.2.2.1 d15.2.2.2.2.2.2.2.2.2.2.1 d15.2.2.2.2.2.2.2.2.2.2.2.1 d15.2.2.2.2.2.2.2.2.2.2.2.2.1).bind (fun r16 => ask (0 ≤ d15.1 ∧ d15.1 < (d15.2.2.2.2.2.2.2.2.2.2.2.2.2.1.length : Int)) (self (IntKind.wrap .i64 (d15.1 + 1), r16.2.1, r16.2.2.1, r16.2.2.2.1, r16.2.2.2.2.1, r16.2.2.2.2.2.1, r16.2.2.2.2.2.2.1, r16.2.2.2.2.2.2.2.1, r16.2.2.2.2.2.2.2.2.1, r16.2.2.2.2.2.2.2.2.2.1, r16.2.2.2.2.2.2.2.2.2.2.1, r16.2.2.2.2.2.2.2.2.2.2.2.1, r16.2.2.2.2.2.2.2.2.2.2.2.2.1, d15.2.2.2.2.2.2.2.2.2.2.2.2.2.1.set d15.1.toNat r16.1, ()))))))
 (some (d15.2.1, d15.2.2.1, d15.2.2.2.1, d15.2.2.2.2.1, d15.2.2.2.2.2.1, d15.2.2.2.2.2.2.1, d15.2.2.2.2.2.2.2.1, d15.2.2.2.2.2.2.2.2.1, d15.2.2.2.2.2.2.2.2.2.1, d15.2.2.2.2.2.2.2.2.2.2.1, d15.2.2.2.2.2.2.2.2.2.2.2.1, d15.2.2.2.2.2.2.2.2.2.2.2.2.1, d15.2.2.2.2.2.2.2.2.2.2.2.2.2.1, ()))
noncomputable def blast_maker_both__blast_maker_and_l1 (n : Nat) (x10 : List Int) : Int × Int × List Kii × Int × Int × Int × Int × Int × Int × Int × List Int × List Int × List Int × List Int × Unit → Option ((Int × List Kii × Int × Int × Int × Int × Int × Int × Int × List Int × List Int × List Int × List Int × Unit)) := iter (blast_maker_both__blast_maker_and_l1b n x10) n
noncomputable def blast_maker_both__blast_maker_and (n : Nat) (x1 : Int) (x2 : List Kii) (x3 : Int) (x4 : Int) (x5 : Int) (x6 : Int) (x7 : Int) (x8 : Int) (x9 : Int) (x10 : List Int) (x11 : List Int) (x12 : List Int) : Option (List Int × Int × List Kii × Int × Int × Int × Int × Int × Int × Int × List Int × List Int × List Int × Unit) :=
 ask ((0 ≤ (x10.length : Int) ∧ (x10.length : Int) ≤ (x10.length : Int)) ∧ (8 : Int) * (x10.length : Int) ≤ 281474976710656 ∧ (x10.length : Int) ≤ 281474976710656) ((blast_maker_both__blast_maker_and_l1 n x10 (0, x1, x2, x3, x4, x5, x6, x7, x8, x9, x10, x11, x12, List.replicate (x10.length : Int).toNat (0 : Int), ())).bind (fun d17 => some (d17.2.2.2.2.2.2.2.2.2.2.2.2.1, d17.1, d17.2.1, d17.2.2.1, d17.2.2.2.1, d17.2.2.2.2.1, d17.2.2.2.2.2.1, d17.2.2.2.2.2.2.1, d17.2.2.2.2.2.2.2.1, d17.2.2.2.2.2.2.2.2.1, d17.2.2.2.2.2.2.2.2.2.1, d17.2.2.2.2.2.2.2.2.2.2.1, d17.2.2.2.2.2.2.2.2.2.2.2.1, ())))
def blast_maker_both__blast_maker_and_s : Sig := ⟨[.c false [.con (.ptr 0 0)], .c false [.con (.bm 139 0 0)]], [(0, .var 148 [.int .i64, .row Kii_, .int .i64, .int .i64, .int .i64, .int .i64, .int .i64, .int .i64, .int .i64, .row i_, .row i_, .row i_])], .c false [.row i_], [(0, .var 148 [.int .i64, .row Kii_, .int .i64, .int .i64, .int .i64, .int .i64, .int .i64, .int .i64, .int .i64, .row i_, .row i_, .row i_])]⟩
def blast_maker_both__blast_maker_and_a : Ann := .s .d (.s .d (.s (.s .d (.b (.l [0, 1, 5, 6, 7, 8, 9, 12, 13, 15, 16, 17, 18, 19, 20, 21, 22, 23, 24, 25, 26, 27, 28, 29, 30, 31, 32, 33, 34, 35, 36, 37] [0, 420] ⟨[(0, .c false [.con (.ptr 0 0)]), (1, .c false [.con (.bm 139 0 0)]), (5, .c false [.con (.own 420 1)]), (15, .c false [.int .i64])], [(0, .var 148 [.int .i64, .row Kii_, .int .i64, .int .i64, .int .i64, .int .i64, .int .i64, .int .i64, .int .i64, .row i_, .row i_, .row i_]), (420, .row 3 i_)]⟩ [(.exit 0, ⟨[(5, .c false [.con (.own 420 1)])], [(0, .var 148 [.int .i64, .row Kii_, .int .i64, .int .i64, .int .i64, .int .i64, .int .i64, .int .i64, .int .i64, .row i_, .row i_, .row i_]), (420, .row 3 i_)]⟩)] .d))) .d))
noncomputable def blast_maker_both__blast_maker_and_c (n : Nat) : Ctr Try.prog := .of Try.func138 n [blast_maker_and_c n] blast_maker_both__blast_maker_and_a blast_maker_both__blast_maker_and_s (fun d => blast_maker_both__blast_maker_and n d.1 d.2.1 d.2.2.1 d.2.2.2.1 d.2.2.2.2.1 d.2.2.2.2.2.1 d.2.2.2.2.2.2.1 d.2.2.2.2.2.2.2.1 d.2.2.2.2.2.2.2.2.1 d.2.2.2.2.2.2.2.2.2.1 d.2.2.2.2.2.2.2.2.2.2.1 d.2.2.2.2.2.2.2.2.2.2.2.1) fun d => by kernel_rfl
noncomputable def blast_maker_doAnd (n : Nat) (x1 : Int) (x2 : List Kii) (x3 : Int) (x4 : Int) (x5 : Int) (x6 : Int) (x7 : Int) (x8 : Int) (x9 : Int) (x10 : List Int) (x11 : List Int) (x12 : List Int) : Option (List Int × Int × List Kii × Int × Int × Int × Int × Int × Int × Int × List Int × List Int × List Int × Unit) :=
 (blast_maker_both__blast_maker_and n x1 x2 x3 x4 x5 x6 x7 x8 x9 x10 x11 x12).bind (fun r13 => some (r13.1, r13.2.1, r13.2.2.1, r13.2.2.2.1, r13.2.2.2.2.1, r13.2.2.2.2.2.1, r13.2.2.2.2.2.2.1, r13.2.2.2.2.2.2.2.1, r13.2.2.2.2.2.2.2.2.1, r13.2.2.2.2.2.2.2.2.2.1, r13.2.2.2.2.2.2.2.2.2.2.1, r13.2.2.2.2.2.2.2.2.2.2.2.1, r13.2.2.2.2.2.2.2.2.2.2.2.2.1, ()))
def blast_maker_doAnd_s : Sig := ⟨[.c false [.con (.ptr 0 0)]], [(0, .var 148 [.int .i64, .row Kii_, .int .i64, .int .i64, .int .i64, .int .i64, .int .i64, .int .i64, .int .i64, .row i_, .row i_, .row i_])], .c false [.row i_], [(0, .var 148 [.int .i64, .row Kii_, .int .i64, .int .i64, .int .i64, .int .i64, .int .i64, .int .i64, .int .i64, .row i_, .row i_, .row i_])]⟩
def blast_maker_doAnd_a : Ann := .d
noncomputable def blast_maker_doAnd_c (n : Nat) : Ctr Try.prog := .of Try.func118 n [blast_maker_both__blast_maker_and_c n] blast_maker_doAnd_a blast_maker_doAnd_s (fun d => blast_maker_doAnd n d.1 d.2.1 d.2.2.1 d.2.2.2.1 d.2.2.2.2.1 d.2.2.2.2.2.1 d.2.2.2.2.2.2.1 d.2.2.2.2.2.2.2.1 d.2.2.2.2.2.2.2.2.1 d.2.2.2.2.2.2.2.2.2.1 d.2.2.2.2.2.2.2.2.2.2.1 d.2.2.2.2.2.2.2.2.2.2.2.1) fun d => by kernel_rfl
noncomputable def blast_maker_both__blast_maker_or_l1b (n : Nat) (x10 : List Int) (self : Int × Int × List Kii × Int × Int × Int × Int × Int × Int × Int × List Int × List Int × List Int × List Int × Unit → Option ((Int × List Kii × Int × Int × Int × Int × Int × Int × Int × List Int × List Int × List Int × List Int × Unit))) (d15 : Int × Int × List Kii × Int × Int × Int × Int × Int × Int × Int × List Int × List Int × List Int × List Int × Unit) : Option ((Int × List Kii × Int × Int × Int × Int × Int × Int × Int × List Int × List Int × List Int × List Int × Unit)) :=
 cond (decide (d15.1 < ((List.replicate (x10.length : Int).toNat (0 : Int)).length : Int)))
 (ask (0 ≤ d15.1 ∧ d15.1 < (d15.2.2.2.2.2.2.2.2.2.2.1.length : Int)) (ask (0 ≤ d15.1 ∧ d15.1 < (d15.2.2.2.2.2.2.2.2.2.2.2.1.length : Int)) ((blast_maker_or n (Ki_at d15.2.2.2.2.2.2.2.2.2.2.1 d15.1) (Ki_at d15.2.2.2.2.2.2.2.2.2.2.2.1 d15.1) d15.2.1 d15.2.2.1 d15.2.2.2.1 d15.2.2.2.2.1 d15.2.2.2.2.2.1 d15.2.2.2.2.2.2.1 d15.2.2.2.2.2.2.2.1 d15.2.2.2.2.2.2.2.2.1 d15.2.2.2.2.2.2.2.2.2.1 d15.2.2.2.2.2.2.2.2.2.2.1 d15.2.2.2.2.2.2.2.2.2.2.2.1 d15.2.2.2.2.2.2.2.2.2.2.2.2.1).bind (fun r16 => ask (0 ≤ d15.1 ∧ d15.1 < (d15.2.2.2.2.2.2.2.2.2.2.2.2.2.1.length : Int)) (self (IntKind.wrap .i64 (d15.1 + 1), r16.2.1, r16.2.2.1, r16.2.2.2.1, r16.2.2.2.2.1, r16.2.2.2.2.2.1, r16.2.2.2.2.2.2.1, r16.2.2.2.2.2.2.2.1, r16.2.2.2.2.2.2.2.2.1, r16.2.2.2.2.2.2.2.2.2.1, r16.2.2.2.2.2.2.2.2.2.2.1, r16.2.2.2.2.2.2.2.2.2.2.2.1, r16.2.2.2.2.2.2.2.2.2.2.2.2.1, d15.2.2.2.2.2.2.2.2.2.2.2.2.2.1.set d15.1.toNat r16.1, ()))))))
 (some (d15.2.1, d15.2.2.1, d15.2.2.2.1, d15.2.2.2.2.1, d15.2.2.2.2.2.1, d15.2.2.2.2.2.2.1, d15.2.2.2.2.2.2.2.1, d15.2.2.2.2.2.2.2.2.1, d15.2.2.2.2.2.2.2.2.2.1, d15.2.2.2.2.2.2.2.2.2.2.1, d15.2.2.2.2.2.2.2.2.2.2.2.1, d15.2.2.2.2.2.2.2.2.2.2.2.2.1, d15.2.2.2.2.2.2.2.2.2.2.2.2.2.1, ()))
noncomputable def blast_maker_both__blast_maker_or_l1 (n : Nat) (x10 : List Int) : Int × Int × List Kii × Int × Int × Int × Int × Int × Int × Int × List Int × List Int × List Int × List Int × Unit → Option ((Int × List Kii × Int × Int × Int × Int × Int × Int × Int × List Int × List Int × List Int × List Int × Unit)) := iter (blast_maker_both__blast_maker_or_l1b n x10) n
noncomputable def blast_maker_both__blast_maker_or (n : Nat) (x1 : Int) (x2 : List Kii) (x3 : Int) (x4 : Int) (x5 : Int) (x6 : Int) (x7 : Int) (x8 : Int) (x9 : Int) (x10 : List Int) (x11 : List Int) (x12 : List Int) : Option (List Int × Int × List Kii × Int × Int × Int × Int × Int × Int × Int × List Int × List Int × List Int × Unit) :=
 ask ((0 ≤ (x10.length : Int) ∧ (x10.length : Int) ≤ (x10.length : Int)) ∧ (8 : Int) * (x10.length : Int) ≤ 281474976710656 ∧ (x10.length : Int) ≤ 281474976710656) ((blast_maker_both__blast_maker_or_l1 n x10 (0, x1, x2, x3, x4, x5, x6, x7, x8, x9, x10, x11, x12, List.replicate (x10.length : Int).toNat (0 : Int), ())).bind (fun d17 => some (d17.2.2.2.2.2.2.2.2.2.2.2.2.1, d17.1, d17.2.1, d17.2.2.1, d17.2.2.2.1, d17.2.2.2.2.1, d17.2.2.2.2.2.1, d17.2.2.2.2.2.2.1, d17.2.2.2.2.2.2.2.1, d17.2.2.2.2.2.2.2.2.1, d17.2.2.2.2.2.2.2.2.2.1, d17.2.2.2.2.2.2.2.2.2.2.1, d17.2.2.2.2.2.2.2.2.2.2.2.1, ())))
def blast_maker_both__blast_maker_or_s : Sig := ⟨[.c false [.con (.ptr 0 0)], .c false [.con (.bm 140 0 0)]], [(0, .var 148 [.int .i64, .row Kii_, .int .i64, .int .i64, .int .i64, .int .i64, .int .i64, .int .i64, .int .i64, .row i_, .row i_, .row i_])], .c false [.row i_], [(0, .var 148 [.int .i64, .row Kii_, .int .i64, .int .i64, .int .i64, .int .i64, .int .i64, .int .i64, .int .i64, .row i_, .row i_, .row i_])]⟩
def blast_maker_both__blast_maker_or_a : Ann := .s .d (.s .d (.s (.s .d (.b (.l [0, 1, 5, 6, 7, 8, 9, 12, 13, 15, 16, 17, 18, 19, 20, 21, 22, 23, 24, 25, 26, 27, 28, 29, 30, 31, 32, 33, 34, 35, 36, 37] [0, 420] ⟨[(0, .c false [.con (.ptr 0 0)]), (1, .c false [.con (.bm 140 0 0)]), (5, .c false [.con (.own 420 1)]), (15, .c false [.int .i64])], [(0, .var 148 [.int .i64, .row Kii_, .int .i64, .int .i64, .int .i64, .int .i64, .int .i64, .int .i64, .int .i64, .row i_, .row i_, .row i_]), (420, .row 3 i_)]⟩ [(.exit 0, ⟨[(5, .c false [.con (.own 420 1)])], [(0, .var 148 [.int .i64, .row Kii_, .int .i64, .int .i64, .int .i64, .int .i64, .int .i64, .int .i64, .int .i64, .row i_, .row i_, .row i_]), (420, .row 3 i_)]⟩)] .d))) .d))
noncomputable def blast_maker_both__blast_maker_or_c (n : Nat) : Ctr Try.prog := .of Try.func138 n [blast_maker_or_c n] blast_maker_both__blast_maker_or_a blast_maker_both__blast_maker_or_s (fun d => blast_maker_both__blast_maker_or n d.1 d.2.1 d.2.2.1 d.2.2.2.1 d.2.2.2.2.1 d.2.2.2.2.2.1 d.2.2.2.2.2.2.1 d.2.2.2.2.2.2.2.1 d.2.2.2.2.2.2.2.2.1 d.2.2.2.2.2.2.2.2.2.1 d.2.2.2.2.2.2.2.2.2.2.1 d.2.2.2.2.2.2.2.2.2.2.2.1) fun d => by kernel_rfl
noncomputable def blast_maker_doOr (n : Nat) (x1 : Int) (x2 : List Kii) (x3 : Int) (x4 : Int) (x5 : Int) (x6 : Int) (x7 : Int) (x8 : Int) (x9 : Int) (x10 : List Int) (x11 : List Int) (x12 : List Int) : Option (List Int × Int × List Kii × Int × Int × Int × Int × Int × Int × Int × List Int × List Int × List Int × Unit) :=
 (blast_maker_both__blast_maker_or n x1 x2 x3 x4 x5 x6 x7 x8 x9 x10 x11 x12).bind (fun r13 => some (r13.1, r13.2.1, r13.2.2.1, r13.2.2.2.1, r13.2.2.2.2.1, r13.2.2.2.2.2.1, r13.2.2.2.2.2.2.1, r13.2.2.2.2.2.2.2.1, r13.2.2.2.2.2.2.2.2.1, r13.2.2.2.2.2.2.2.2.2.1, r13.2.2.2.2.2.2.2.2.2.2.1, r13.2.2.2.2.2.2.2.2.2.2.2.1, r13.2.2.2.2.2.2.2.2.2.2.2.2.1, ()))
def blast_maker_doOr_s : Sig := ⟨[.c false [.con (.ptr 0 0)]], [(0, .var 148 [.int .i64, .row Kii_, .int .i64, .int .i64, .int .i64, .int .i64, .int .i64, .int .i64, .int .i64, .row i_, .row i_, .row i_])], .c false [.row i_], [(0, .var 148 [.int .i64, .row Kii_, .int .i64, .int .i64, .int .i64, .int .i64, .int .i64, .int .i64, .int .i64, .row i_, .row i_, .row i_])]⟩
def blast_maker_doOr_a : Ann := .d
noncomputable def blast_maker_doOr_c (n : Nat) : Ctr Try.prog := .of Try.func119 n [blast_maker_both__blast_maker_or_c n] blast_maker_doOr_a blast_maker_doOr_s (fun d => blast_maker_doOr n d.1 d.2.1 d.2.2.1 d.2.2.2.1 d.2.2.2.2.1 d.2.2.2.2.2.1 d.2.2.2.2.2.2.1 d.2.2.2.2.2.2.2.1 d.2.2.2.2.2.2.2.2.1 d.2.2.2.2.2.2.2.2.2.1 d.2.2.2.2.2.2.2.2.2.2.1 d.2.2.2.2.2.2.2.2.2.2.2.1) fun d => by kernel_rfl
noncomputable def blast_maker_xor (n : Nat) (x1 : Int) (x2 : Int) (x3 : Int) (x4 : List Kii) (x5 : Int) (x6 : Int) (x7 : Int) (x8 : Int) (x9 : Int) (x10 : Int) (x11 : Int) (x12 : List Int) (x13 : List Int) (x14 : List Int) : Option (Int × Int × List Kii × Int × Int × Int × Int × Int × Int × Int × List Int × List Int × List Int × Unit) :=
 (blast_maker_and n x1 (bits .xor .i64 x2 1) x3 x4 x5 x6 x7 x8 x9 x10 x11 x12 x13 x14).bind (fun r15 => (blast_maker_and n (bits .xor .i64 x1 1) x2 r15.2.1 r15.2.2.1 r15.2.2.2.1 r15.2.2.2.2.1 r15.2.2.2.2.2.1 r15.2.2.2.2.2.2.1 r15.2.2.2.2.2.2.2.1 r15.2.2.2.2.2.2.2.2.1 r15.2.2.2.2.2.2.2.2.2.1 r15.2.2.2.2.2.2.2.2.2.2.1 r15.2.2.2.2.2.2.2.2.2.2.2.1 r15.2.2.2.2.2.2.2.2.2.2.2.2.1).bind (fun r16 => (blast_maker_or n r15.1 r16.1 r16.2.1 r16.2.2.1 r16.2.2.2.1 r16.2.2.2.2.1 r16.2.2.2.2.2.1 r16.2.2.2.2.2.2.1 r16.2.2.2.2.2.2.2.1 r16.2.2.2.2.2.2.2.2.1 r16.2.2.2.2.2.2.2.2.2.1 r16.2.2.2.2.2.2.2.2.2.2.1 r16.2.2.2.2.2.2.2.2.2.2.2.1 r16.2.2.2.2.2.2.2.2.2.2.2.2.1).bind (fun r17 => some (r17.1, r17.2.1, r17.2.2.1, r17.2.2.2.1, r17.2.2.2.2.1, r17.2.2.2.2.2.1, r17.2.2.2.2.2.2.1, r17.2.2.2.2.2.2.2.1, r17.2.2.2.2.2.2.2.2.1, r17.2.2.2.2.2.2.2.2.2.1, r17.2.2.2.2.2.2.2.2.2.2.1, r17.2.2.2.2.2.2.2.2.2.2.2.1, r17.2.2.2.2.2.2.2.2.2.2.2.2.1, ()))))
def blast_maker_xor_s : Sig := ⟨[.c false [.con (.ptr 0 0)], .c false [.int .i64], .c false [.int .i64]], [(0, .var 148 [.int .i64, .row Kii_, .int .i64, .int .i64, .int .i64, .int .i64, .int .i64, .int .i64, .int .i64, .row i_, .row i_, .row i_])], .c false [.int .i64], [(0, .var 148 [.int .i64, .row Kii_, .int .i64, .int .i64, .int .i64, .int .i64, .int .i64, .int .i64, .int .i64, .row i_, .row i_, .row i_])]⟩
def blast_maker_xor_a : Ann := .d
noncomputable def blast_maker_xor_c (n : Nat) : Ctr Try.prog := .of Try.func141 n [blast_maker_and_c n, blast_maker_or_c n] blast_maker_xor_a blast_maker_xor_s (fun d => blast_maker_xor n d.1 d.2.1 d.2.2.1 d.2.2.2.1 d.2.2.2.2.1 d.2.2.2.2.2.1 d.2.2.2.2.2.2.1 d.2.2.2.2.2.2.2.1 d.2.2.2.2.2.2.2.2.1 d.2.2.2.2.2.2.2.2.2.1 d.2.2.2.2.2.2.2.2.2.2.1 d.2.2.2.2.2.2.2.2.2.2.2.1 d.2.2.2.2.2.2.2.2.2.2.2.2.1 d.2.2.2.2.2.2.2.2.2.2.2.2.2.1) fun d => by kernel_rfl
noncomputable def blast_maker_both__blast_maker_xor_l1b (n : Nat) (x10 : List Int) (self : Int × Int × List Kii × Int × Int × Int × Int × Int × Int × Int × List Int × List Int × List Int × List Int × Unit → Option ((Int × List Kii × Int × Int × Int × Int × Int × Int × Int × List Int × List Int × List Int × List Int × Unit))) (d15 : Int × Int × List Kii × Int × Int × Int × Int × Int × Int × Int × List Int × List Int × List Int × List Int × Unit) : Option ((Int × List Kii × Int × Int × Int × Int × Int × Int × Int × List Int × List Int × List Int × List Int × Unit)) :=
 cond (decide (d15.1 < ((List.replicate (x10.length : Int).toNat (0 : Int)).length : Int)))
 (ask (0 ≤ d15.1 ∧ d15.1 < (d15.2.2.2.2.2.2.2.2.2.2.1.length : Int)) (ask (0 ≤ d15.1 ∧ d15.1 < (d15.2.2.2.2.2.2.2.2.2.2.2.1.length : Int)) ((blast_maker_xor n (Ki_at d15.2.2.2.2.2.2.2.2.2.2.1 d15.1) (Ki_at d15.2.2.2.2.2.2.2.2.2.2.2.1 d15.1) d15.2.1 d15.2.2.1 d15.2.2.2.1 d15.2.2.2.2.1 d15.2.2.2.2.2.1 d15.2.2.2.2.2.2.1 d15.2.2.2.2.2.2.2.1 d15.2.2.2.2.2.2.2.2.1 d15.2.2.2.2.2.2.2.2.2.1 d15.2.2.2.2.2.2.2.2.2.2.1 d15.2.2.2.2.2.2.2.2.2.2.2.1 d15.2.2.2.2.2.2.2.2.2.2.2.2.1).bind (fun r16 => ask (0 ≤ d15.1 ∧ d15.1 < (d15.2.2.2.2.2.2.2.2.2.2.2.2.2.1.length : Int)) (self (IntKind.wrap .i64 (d15.1 + 1), r16.2.1, r16.2.2.1, r16.2.2.2.1, r16.2.2.2.2.1, r16.2.2.2.2.2.1, r16.2.2.2.2.2.2.1, r16.2.2.2.2.2.2.2.1, r16.2.2.2.2.2.2.2.2.1, r16.2.2.2.2.2.2.2.2.2.1, r16.2.2.2.2.2.2.2.2.2.2.1, r16.2.2.2.2.2.2.2.2.2.2.2.1, r16.2.2.2.2.2.2.2.2.2.2.2.2.1, d15.2.2.2.2.2.2.2.2.2.2.2.2.2.1.set d15.1.toNat r16.1, ()))))))
 (some (d15.2.1, d15.2.2.1, d15.2.2.2.1, d15.2.2.2.2.1, d15.2.2.2.2.2.1, d15.2.2.2.2.2.2.1, d15.2.2.2.2.2.2.2.1, d15.2.2.2.2.2.2.2.2.1, d15.2.2.2.2.2.2.2.2.2.1, d15.2.2.2.2.2.2.2.2.2.2.1, d15.2.2.2.2.2.2.2.2.2.2.2.1, d15.2.2.2.2.2.2.2.2.2.2.2.2.1, d15.2.2.2.2.2.2.2.2.2.2.2.2.2.1, ()))
noncomputable def blast_maker_both__blast_maker_xor_l1 (n : Nat) (x10 : List Int) : Int × Int × List Kii × Int × Int × Int × Int × Int × Int × Int × List Int × List Int × List Int × List Int × Unit → Option ((Int × List Kii × Int × Int × Int × Int × Int × Int × Int × List Int × List Int × List Int × List Int × Unit)) := iter (blast_maker_both__blast_maker_xor_l1b n x10) n
noncomputable def blast_maker_both__blast_maker_xor (n : Nat) (x1 : Int) (x2 : List Kii) (x3 : Int) (x4 : Int) (x5 : Int) (x6 : Int) (x7 : Int) (x8 : Int) (x9 : Int) (x10 : List Int) (x11 : List Int) (x12 : List Int) : Option (List Int × Int × List Kii × Int × Int × Int × Int × Int × Int × Int × List Int × List Int × List Int × Unit) :=
 ask ((0 ≤ (x10.length : Int) ∧ (x10.length : Int) ≤ (x10.length : Int)) ∧ (8 : Int) * (x10.length : Int) ≤ 281474976710656 ∧ (x10.length : Int) ≤ 281474976710656) ((blast_maker_both__blast_maker_xor_l1 n x10 (0, x1, x2, x3, x4, x5, x6, x7, x8, x9, x10, x11, x12, List.replicate (x10.length : Int).toNat (0 : Int), ())).bind (fun d17 => some (d17.2.2.2.2.2.2.2.2.2.2.2.2.1, d17.1, d17.2.1, d17.2.2.1, d17.2.2.2.1, d17.2.2.2.2.1, d17.2.2.2.2.2.1, d17.2.2.2.2.2.2.1, d17.2.2.2.2.2.2.2.1, d17.2.2.2.2.2.2.2.2.1, d17.2.2.2.2.2.2.2.2.2.1, d17.2.2.2.2.2.2.2.2.2.2.1, d17.2.2.2.2.2.2.2.2.2.2.2.1, ())))
def blast_maker_both__blast_maker_xor_s : Sig := ⟨[.c false [.con (.ptr 0 0)], .c false [.con (.bm 141 0 0)]], [(0, .var 148 [.int .i64, .row Kii_, .int .i64, .int .i64, .int .i64, .int .i64, .int .i64, .int .i64, .int .i64, .row i_, .row i_, .row i_])], .c false [.row i_], [(0, .var 148 [.int .i64, .row Kii_, .int .i64, .int .i64, .int .i64, .int .i64, .int .i64, .int .i64, .int .i64, .row i_, .row i_, .row i_])]⟩
def blast_maker_both__blast_maker_xor_a : Ann := .s .d (.s .d (.s (.s .d (.b (.l [0, 1, 5, 6, 7, 8, 9, 12, 13, 15, 16, 17, 18, 19, 20, 21, 22, 23, 24, 25, 26, 27, 28, 29, 30, 31, 32, 33, 34, 35, 36, 37] [0, 420] ⟨[(0, .c false [.con (.ptr 0 0)]), (1, .c false [.con (.bm 141 0 0)]), (5, .c false [.con (.own 420 1)]), (15, .c false [.int .i64])], [(0, .var 148 [.int .i64, .row Kii_, .int .i64, .int .i64, .int .i64, .int .i64, .int .i64, .int .i64, .int .i64, .row i_, .row i_, .row i_]), (420, .row 3 i_)]⟩ [(.exit 0, ⟨[(5, .c false [.con (.own 420 1)])], [(0, .var 148 [.int .i64, .row Kii_, .int .i64, .int .i64, .int .i64, .int .i64, .int .i64, .int .i64, .int .i64, .row i_, .row i_, .row i_]), (420, .row 3 i_)]⟩)] .d))) .d))
noncomputable def blast_maker_both__blast_maker_xor_c (n : Nat) : Ctr Try.prog := .of Try.func138 n [blast_maker_xor_c n] blast_maker_both__blast_maker_xor_a blast_maker_both__blast_maker_xor_s (fun d => blast_maker_both__blast_maker_xor n d.1 d.2.1 d.2.2.1 d.2.2.2.1 d.2.2.2.2.1 d.2.2.2.2.2.1 d.2.2.2.2.2.2.1 d.2.2.2.2.2.2.2.1 d.2.2.2.2.2.2.2.2.1 d.2.2.2.2.2.2.2.2.2.1 d.2.2.2.2.2.2.2.2.2.2.1 d.2.2.2.2.2.2.2.2.2.2.2.1) fun d => by kernel_rfl
noncomputable def blast_maker_doXor (n : Nat) (x1 : Int) (x2 : List Kii) (x3 : Int) (x4 : Int) (x5 : Int) (x6 : Int) (x7 : Int) (x8 : Int) (x9 : Int) (x10 : List Int) (x11 : List Int) (x12 : List Int) : Option (List Int × Int × List Kii × Int × Int × Int × Int × Int × Int × Int × List Int × List Int × List Int × Unit) :=
 (blast_maker_both__blast_maker_xor n x1 x2 x3 x4 x5 x6 x7 x8 x9 x10 x11 x12).bind (fun r13 => some (r13.1, r13.2.1, r13.2.2.1, r13.2.2.2.1, r13.2.2.2.2.1, r13.2.2.2.2.2.1, r13.2.2.2.2.2.2.1, r13.2.2.2.2.2.2.2.1, r13.2.2.2.2.2.2.2.2.1, r13.2.2.2.2.2.2.2.2.2.1, r13.2.2.2.2.2.2.2.2.2.2.1, r13.2.2.2.2.2.2.2.2.2.2.2.1, r13.2.2.2.2.2.2.2.2.2.2.2.2.1, ()))
def blast_maker_doXor_s : Sig := ⟨[.c false [.con (.ptr 0 0)]], [(0, .var 148 [.int .i64, .row Kii_, .int .i64, .int .i64, .int .i64, .int .i64, .int .i64, .int .i64, .int .i64, .row i_, .row i_, .row i_])], .c false [.row i_], [(0, .var 148 [.int .i64, .row Kii_, .int .i64, .int .i64, .int .i64, .int .i64, .int .i64, .int .i64, .int .i64, .row i_, .row i_, .row i_])]⟩
def blast_maker_doXor_a : Ann := .d
noncomputable def blast_maker_doXor_c (n : Nat) : Ctr Try.prog := .of Try.func120 n [blast_maker_both__blast_maker_xor_c n] blast_maker_doXor_a blast_maker_doXor_s (fun d => blast_maker_doXor n d.1 d.2.1 d.2.2.1 d.2.2.2.1 d.2.2.2.2.1 d.2.2.2.2.2.1 d.2.2.2.2.2.2.1 d.2.2.2.2.2.2.2.1 d.2.2.2.2.2.2.2.2.1 d.2.2.2.2.2.2.2.2.2.1 d.2.2.2.2.2.2.2.2.2.2.1 d.2.2.2.2.2.2.2.2.2.2.2.1) fun d => by kernel_rfl
noncomputable def blast_maker_mux (n : Nat) (x1 : Int) (x2 : Int) (x3 : Int) (x4 : Int) (x5 : List Kii) (x6 : Int) (x7 : Int) (x8 : Int) (x9 : Int) (x10 : Int) (x11 : Int) (x12 : Int) (x13 : List Int) (x14 : List Int) (x15 : List Int) : Option (Int × Int × List Kii × Int × Int × Int × Int × Int × Int × Int × List Int × List Int × List Int × Unit) :=
 (blast_maker_and n x1 x2 x4 x5 x6 x7 x8 x9 x10 x11 x12 x13 x14 x15).bind (fun r16 => (blast_maker_and n (bits .xor .i64 x1 1) x3 r16.2.1 r16.2.2.1 r16.2.2.2.1 r16.2.2.2.2.1 r16.2.2.2.2.2.1 r16.2.2.2.2.2.2.1 r16.2.2.2.2.2.2.2.1 r16.2.2.2.2.2.2.2.2.1 r16.2.2.2.2.2.2.2.2.2.1 r16.2.2.2.2.2.2.2.2.2.2.1 r16.2.2.2.2.2.2.2.2.2.2.2.1 r16.2.2.2.2.2.2.2.2.2.2.2.2.1).bind (fun r17 => (blast_maker_or n r16.1 r17.1 r17.2.1 r17.2.2.1 r17.2.2.2.1 r17.2.2.2.2.1 r17.2.2.2.2.2.1 r17.2.2.2.2.2.2.1 r17.2.2.2.2.2.2.2.1 r17.2.2.2.2.2.2.2.2.1 r17.2.2.2.2.2.2.2.2.2.1 r17.2.2.2.2.2.2.2.2.2.2.1 r17.2.2.2.2.2.2.2.2.2.2.2.1 r17.2.2.2.2.2.2.2.2.2.2.2.2.1).bind (fun r18 => some (r18.1, r18.2.1, r18.2.2.1, r18.2.2.2.1, r18.2.2.2.2.1, r18.2.2.2.2.2.1, r18.2.2.2.2.2.2.1, r18.2.2.2.2.2.2.2.1, r18.2.2.2.2.2.2.2.2.1, r18.2.2.2.2.2.2.2.2.2.1, r18.2.2.2.2.2.2.2.2.2.2.1, r18.2.2.2.2.2.2.2.2.2.2.2.1, r18.2.2.2.2.2.2.2.2.2.2.2.2.1, ()))))
def blast_maker_mux_s : Sig := ⟨[.c false [.con (.ptr 0 0)], .c false [.int .i64], .c false [.int .i64], .c false [.int .i64]], [(0, .var 148 [.int .i64, .row Kii_, .int .i64, .int .i64, .int .i64, .int .i64, .int .i64, .int .i64, .int .i64, .row i_, .row i_, .row i_])], .c false [.int .i64], [(0, .var 148 [.int .i64, .row Kii_, .int .i64, .int .i64, .int .i64, .int .i64, .int .i64, .int .i64, .int .i64, .row i_, .row i_, .row i_])]⟩
def blast_maker_mux_a : Ann := .d
noncomputable def blast_maker_mux_c (n : Nat) : Ctr Try.prog := .of Try.func144 n [blast_maker_and_c n, blast_maker_or_c n] blast_maker_mux_a blast_maker_mux_s (fun d => blast_maker_mux n d.1 d.2.1 d.2.2.1 d.2.2.2.1 d.2.2.2.2.1 d.2.2.2.2.2.1 d.2.2.2.2.2.2.1 d.2.2.2.2.2.2.2.1 d.2.2.2.2.2.2.2.2.1 d.2.2.2.2.2.2.2.2.2.1 d.2.2.2.2.2.2.2.2.2.2.1 d.2.2.2.2.2.2.2.2.2.2.2.1 d.2.2.2.2.2.2.2.2.2.2.2.2.1 d.2.2.2.2.2.2.2.2.2.2.2.2.2.1 d.2.2.2.2.2.2.2.2.2.2.2.2.2.2.1) fun d => by kernel_rfl
noncomputable def blast_maker_sum_l1b (n : Nat) (x1 : List Int) (x2 : List Int) (self : Int × Int × Int × List Kii × Int × Int × Int × Int × Int × Int × Int × List Int × List Int × List Int × List Int × Unit → Option ((Int × List Kii × Int × Int × Int × Int × Int × Int × Int × List Int × List Int × List Int × List Int × Unit))) (d18 : Int × Int × Int × List Kii × Int × Int × Int × Int × Int × Int × Int × List Int × List Int × List Int × List Int × Unit) : Option ((Int × List Kii × Int × Int × Int × Int × Int × Int × Int × List Int × List Int × List Int × List Int × Unit)) :=
 cond (decide (d18.2.1 < (x1.length : Int)))
 (ask (0 ≤ d18.2.1 ∧ d18.2.1 < (x1.length : Int)) (ask (0 ≤ d18.2.1 ∧ d18.2.1 < (x2.length : Int)) ((blast_maker_xor n (Ki_at x1 d18.2.1) (Ki_at x2 d18.2.1) d18.2.2.1 d18.2.2.2.1 d18.2.2.2.2.1 d18.2.2.2.2.2.1 d18.2.2.2.2.2.2.1 d18.2.2.2.2.2.2.2.1 d18.2.2.2.2.2.2.2.2.1 d18.2.2.2.2.2.2.2.2.2.1 d18.2.2.2.2.2.2.2.2.2.2.1 d18.2.2.2.2.2.2.2.2.2.2.2.1 d18.2.2.2.2.2.2.2.2.2.2.2.2.1 d18.2.2.2.2.2.2.2.2.2.2.2.2.2.1).bind (fun r19 => (blast_maker_xor n r19.1 d18.1 r19.2.1 r19.2.2.1 r19.2.2.2.1 r19.2.2.2.2.1 r19.2.2.2.2.2.1 r19.2.2.2.2.2.2.1 r19.2.2.2.2.2.2.2.1 r19.2.2.2.2.2.2.2.2.1 r19.2.2.2.2.2.2.2.2.2.1 r19.2.2.2.2.2.2.2.2.2.2.1 r19.2.2.2.2.2.2.2.2.2.2.2.1 r19.2.2.2.2.2.2.2.2.2.2.2.2.1).bind (fun r20 => ask (0 ≤ d18.2.1 ∧ d18.2.1 < (d18.2.2.2.2.2.2.2.2.2.2.2.2.2.2.1.length : Int)) (ask (0 ≤ d18.2.1 ∧ d18.2.1 < (x1.length : Int)) ((blast_maker_mux n r19.1 d18.1 (Ki_at x1 d18.2.1) r20.2.1 r20.2.2.1 r20.2.2.2.1 r20.2.2.2.2.1 r20.2.2.2.2.2.1 r20.2.2.2.2.2.2.1 r20.2.2.2.2.2.2.2.1 r20.2.2.2.2.2.2.2.2.1 r20.2.2.2.2.2.2.2.2.2.1 r20.2.2.2.2.2.2.2.2.2.2.1 r20.2.2.2.2.2.2.2.2.2.2.2.1 r20.2.2.2.2.2.2.2.2.2.2.2.2.1).bind (fun r21 => self (r21.1, IntKind.wrap .i64 (d18.2.1 + 1), r21.2.1, r21.2.2.1, r21.2.2.2.1, r21.2.2.2.2.1, r21.2.2.2.2.2.1, r21.2.2.2.2.2.2.1, r21.2.2.2.2.2.2.2.1, r21.2.2.2.2.2.2.2.2.1, r21.2.2.2.2.2.2.2.2.2.1, r21.2.2.2.2.2.2.2.2.2.2.1, r21.2.2.2.2.2.2.2.2.2.2.2.1, r21.2.2.2.2.2.2.2.2.2.2.2.2.1, d18.2.2.2.2.2.2.2.2.2.2.2.2.2.2.1.set d18.2.1.toNat r20.1, ())))))))))
 (some (d18.2.2.1, d18.2.2.2.1, d18.2.2.2.2.1, d18.2.2.2.2.2.1, d18.2.2.2.2.2.2.1, d18.2.2.2.2.2.2.2.1, d18.2.2.2.2.2.2.2.2.1, d18.2.2.2.2.2.2.2.2.2.1, d18.2.2.2.2.2.2.2.2.2.2.1, d18.2.2.2.2.2.2.2.2.2.2.2.1, d18.2.2.2.2.2.2.2.2.2.2.2.2.1, d18.2.2.2.2.2.2.2.2.2.2.2.2.2.1, d18.2.2.2.2.2.2.2.2.2.2.2.2.2.2.1, ()))
noncomputable def blast_maker_sum_l1 (n : Nat) (x1 : List Int) (x2 : List Int) : Int × Int × Int × List Kii × Int × Int × Int × Int × Int × Int × Int × List Int × List Int × List Int × List Int × Unit → Option ((Int × List Kii × Int × Int × Int × Int × Int × Int × Int × List Int × List Int × List Int × List Int × Unit)) := iter (blast_maker_sum_l1b n x1 x2) n
noncomputable def blast_maker_sum (n : Nat) (x1 : List Int) (x2 : List Int) (x3 : Int) (x4 : Int) (x5 : List Kii) (x6 : Int) (x7 : Int) (x8 : Int) (x9 : Int) (x10 : Int) (x11 : Int) (x12 : Int) (x13 : List Int) (x14 : List Int) (x15 : List Int) : Option (List Int × Int × List Kii × Int × Int × Int × Int × Int × Int × Int × List Int × List Int × List Int × Unit) :=
 ask ((0 ≤ (x1.length : Int) ∧ (x1.length : Int) ≤ (x1.length : Int)) ∧ (8 : Int) * (x1.length : Int) ≤ 281474976710656 ∧ (x1.length : Int) ≤ 281474976710656) ((blast_maker_sum_l1 n x1 x2 (x3, 0, x4, x5, x6, x7, x8, x9, x10, x11, x12, x13, x14, x15, List.replicate (x1.length : Int).toNat (0 : Int), ())).bind (fun d22 => some (d22.2.2.2.2.2.2.2.2.2.2.2.2.1, d22.1, d22.2.1, d22.2.2.1, d22.2.2.2.1, d22.2.2.2.2.1, d22.2.2.2.2.2.1, d22.2.2.2.2.2.2.1, d22.2.2.2.2.2.2.2.1, d22.2.2.2.2.2.2.2.2.1, d22.2.2.2.2.2.2.2.2.2.1, d22.2.2.2.2.2.2.2.2.2.2.1, d22.2.2.2.2.2.2.2.2.2.2.2.1, ())))
def blast_maker_sum_s : Sig := ⟨[.c false [.con (.ptr 0 0)], .c false [.row i_], .c false [.row i_], .c false [.int .i64]], [(0, .var 148 [.int .i64, .row Kii_, .int .i64, .int .i64, .int .i64, .int .i64, .int .i64, .int .i64, .int .i64, .row i_, .row i_, .row i_])], .c false [.row i_], [(0, .var 148 [.int .i64, .row Kii_, .int .i64, .int .i64, .int .i64, .int .i64, .int .i64, .int .i64, .int .i64, .row i_, .row i_, .row i_])]⟩
def blast_maker_sum_a : Ann := .s .d (.s .d (.s (.s .d (.b (.l [0, 3, 9, 10, 11, 14, 17, 18, 19, 20, 21, 22, 23, 24, 25, 26, 27, 28, 29, 30, 31, 32, 33, 34, 35, 36, 37, 38, 39, 40, 41, 42, 43, 44, 45] [0, 228] ⟨[(0, .c false [.con (.ptr 0 0)]), (3, .c false [.int .i64]), (9, .c false [.con (.own 228 1)]), (17, .c false [.int .i64])], [(0, .var 148 [.int .i64, .row Kii_, .int .i64, .int .i64, .int .i64, .int .i64, .int .i64, .int .i64, .int .i64, .row i_, .row i_, .row i_]), (228, .row 3 i_)]⟩ [(.exit 0, ⟨[(9, .c false [.con (.own 228 1)])], [(0, .var 148 [.int .i64, .row Kii_, .int .i64, .int .i64, .int .i64, .int .i64, .int .i64, .int .i64, .int .i64, .row i_, .row i_, .row i_]), (228, .row 3 i_)]⟩)] .d))) .d))
noncomputable def blast_maker_sum_c (n : Nat) : Ctr Try.prog := .of Try.func142 n [blast_maker_xor_c n, blast_maker_mux_c n] blast_maker_sum_a blast_maker_sum_s (fun d => blast_maker_sum n d.1 d.2.1 d.2.2.1 d.2.2.2.1 d.2.2.2.2.1 d.2.2.2.2.2.1 d.2.2.2.2.2.2.1 d.2.2.2.2.2.2.2.1 d.2.2.2.2.2.2.2.2.1 d.2.2.2.2.2.2.2.2.2.1 d.2.2.2.2.2.2.2.2.2.2.1 d.2.2.2.2.2.2.2.2.2.2.2.1 d.2.2.2.2.2.2.2.2.2.2.2.2.1 d.2.2.2.2.2.2.2.2.2.2.2.2.2.1 d.2.2.2.2.2.2.2.2.2.2.2.2.2.2.1) fun d => by kernel_rfl
noncomputable def blast_maker_doAdd (n : Nat) (x1 : Int) (x2 : List Kii) (x3 : Int) (x4 : Int) (x5 : Int) (x6 : Int) (x7 : Int) (x8 : Int) (x9 : Int) (x10 : List Int) (x11 : List Int) (x12 : List Int) : Option (List Int × Int × List Kii × Int × Int × Int × Int × Int × Int × Int × List Int × List Int × List Int × Unit) :=
 (blast_maker_sum n x10 x11 0 x1 x2 x3 x4 x5 x6 x7 x8 x9 x10 x11 x12).bind (fun r13 => some (r13.1, r13.2.1, r13.2.2.1, r13.2.2.2.1, r13.2.2.2.2.1, r13.2.2.2.2.2.1, r13.2.2.2.2.2.2.1, r13.2.2.2.2.2.2.2.1, r13.2.2.2.2.2.2.2.2.1, r13.2.2.2.2.2.2.2.2.2.1, r13.2.2.2.2.2.2.2.2.2.2.1, r13.2.2.2.2.2.2.2.2.2.2.2.1, r13.2.2.2.2.2.2.2.2.2.2.2.2.1, ()))
def blast_maker_doAdd_s : Sig := ⟨[.c false [.con (.ptr 0 0)]], [(0, .var 148 [.int .i64, .row Kii_, .int .i64, .int .i64, .int .i64, .int .i64, .int .i64, .int .i64, .int .i64, .row i_, .row i_, .row i_])], .c false [.row i_], [(0, .var 148 [.int .i64, .row Kii_, .int .i64, .int .i64, .int .i64, .int .i64, .int .i64, .int .i64, .int .i64, .row i_, .row i_, .row i_])]⟩
def blast_maker_doAdd_a : Ann := .d
noncomputable def blast_maker_doAdd_c (n : Nat) : Ctr Try.prog := .of Try.func121 n [blast_maker_sum_c n] blast_maker_doAdd_a blast_maker_doAdd_s (fun d => blast_maker_doAdd n d.1 d.2.1 d.2.2.1 d.2.2.2.1 d.2.2.2.2.1 d.2.2.2.2.2.1 d.2.2.2.2.2.2.1 d.2.2.2.2.2.2.2.1 d.2.2.2.2.2.2.2.2.1 d.2.2.2.2.2.2.2.2.2.1 d.2.2.2.2.2.2.2.2.2.2.1 d.2.2.2.2.2.2.2.2.2.2.2.1) fun d => by kernel_rfl
noncomputable def blast_maker_doSub (n : Nat) (x1 : Int) (x2 : List Kii) (x3 : Int) (x4 : Int) (x5 : Int) (x6 : Int) (x7 : Int) (x8 : Int) (x9 : Int) (x10 : List Int) (x11 : List Int) (x12 : List Int) : Option (List Int × Int × List Kii × Int × Int × Int × Int × Int × Int × Int × List Int × List Int × List Int × Unit) :=
 (blast_turned n x11).bind (fun r13 => (blast_maker_sum n x10 r13.1 1 x1 x2 x3 x4 x5 x6 x7 x8 x9 x10 x11 x12).bind (fun r14 => some (r14.1, r14.2.1, r14.2.2.1, r14.2.2.2.1, r14.2.2.2.2.1, r14.2.2.2.2.2.1, r14.2.2.2.2.2.2.1, r14.2.2.2.2.2.2.2.1, r14.2.2.2.2.2.2.2.2.1, r14.2.2.2.2.2.2.2.2.2.1, r14.2.2.2.2.2.2.2.2.2.2.1, r14.2.2.2.2.2.2.2.2.2.2.2.1, r14.2.2.2.2.2.2.2.2.2.2.2.2.1, ())))
def blast_maker_doSub_s : Sig := ⟨[.c false [.con (.ptr 0 0)]], [(0, .var 148 [.int .i64, .row Kii_, .int .i64, .int .i64, .int .i64, .int .i64, .int .i64, .int .i64, .int .i64, .row i_, .row i_, .row i_])], .c false [.row i_], [(0, .var 148 [.int .i64, .row Kii_, .int .i64, .int .i64, .int .i64, .int .i64, .int .i64, .int .i64, .int .i64, .row i_, .row i_, .row i_])]⟩
def blast_maker_doSub_a : Ann := .d
noncomputable def blast_maker_doSub_c (n : Nat) : Ctr Try.prog := .of Try.func122 n [blast_turned_c n, blast_maker_sum_c n] blast_maker_doSub_a blast_maker_doSub_s (fun d => blast_maker_doSub n d.1 d.2.1 d.2.2.1 d.2.2.2.1 d.2.2.2.2.1 d.2.2.2.2.2.1 d.2.2.2.2.2.2.1 d.2.2.2.2.2.2.2.1 d.2.2.2.2.2.2.2.2.1 d.2.2.2.2.2.2.2.2.2.1 d.2.2.2.2.2.2.2.2.2.2.1 d.2.2.2.2.2.2.2.2.2.2.2.1) fun d => by kernel_rfl
noncomputable def blast_maker_doMul_l1b (n : Nat) (d17 : List Int × Int × Int × List Kii × Int × Int × Int × Int × Int × Int × Int × List Int × List Int × List Int × Unit) (x10 : List Int) (x11 : List Int) (self : Int × Int × List Kii × Int × Int × Int × Int × Int × Int × Int × List Int × List Int × List Int × List Int × Unit → Option ((Int × List Kii × Int × Int × Int × Int × Int × Int × Int × List Int × List Int × List Int × List Int × Unit))) (d20 : Int × Int × List Kii × Int × Int × Int × Int × Int × Int × Int × List Int × List Int × List Int × List Int × Unit) : Option ((Int × List Kii × Int × Int × Int × Int × Int × Int × Int × List Int × List Int × List Int × List Int × Unit)) :=
 cond (decide (d20.1 < (x10.length : Int)))
 (ask (0 ≤ (IntKind.wrap .i64 (d20.1 - d17.2.1)) ∧ IntKind.wrap .i64 (d20.1 - d17.2.1) < (d20.2.2.2.2.2.2.2.2.2.2.1.length : Int)) ((blast_maker_and n (Ki_at d20.2.2.2.2.2.2.2.2.2.2.1 (IntKind.wrap .i64 (d20.1 - d17.2.1))) (Ki_at x11 d17.2.1) d20.2.1 d20.2.2.1 d20.2.2.2.1 d20.2.2.2.2.1 d20.2.2.2.2.2.1 d20.2.2.2.2.2.2.1 d20.2.2.2.2.2.2.2.1 d20.2.2.2.2.2.2.2.2.1 d20.2.2.2.2.2.2.2.2.2.1 d20.2.2.2.2.2.2.2.2.2.2.1 d20.2.2.2.2.2.2.2.2.2.2.2.1 d20.2.2.2.2.2.2.2.2.2.2.2.2.1).bind (fun r21 => ask (0 ≤ d20.1 ∧ d20.1 < (d20.2.2.2.2.2.2.2.2.2.2.2.2.2.1.length : Int)) (self (IntKind.wrap .i64 (d20.1 + 1), r21.2.1, r21.2.2.1, r21.2.2.2.1, r21.2.2.2.2.1, r21.2.2.2.2.2.1, r21.2.2.2.2.2.2.1, r21.2.2.2.2.2.2.2.1, r21.2.2.2.2.2.2.2.2.1, r21.2.2.2.2.2.2.2.2.2.1, r21.2.2.2.2.2.2.2.2.2.2.1, r21.2.2.2.2.2.2.2.2.2.2.2.1, r21.2.2.2.2.2.2.2.2.2.2.2.2.1, d20.2.2.2.2.2.2.2.2.2.2.2.2.2.1.set d20.1.toNat r21.1, ())))))
 (some (d20.2.1, d20.2.2.1, d20.2.2.2.1, d20.2.2.2.2.1, d20.2.2.2.2.2.1, d20.2.2.2.2.2.2.1, d20.2.2.2.2.2.2.2.1, d20.2.2.2.2.2.2.2.2.1, d20.2.2.2.2.2.2.2.2.2.1, d20.2.2.2.2.2.2.2.2.2.2.1, d20.2.2.2.2.2.2.2.2.2.2.2.1, d20.2.2.2.2.2.2.2.2.2.2.2.2.1, d20.2.2.2.2.2.2.2.2.2.2.2.2.2.1, ()))
noncomputable def blast_maker_doMul_l1 (n : Nat) (d17 : List Int × Int × Int × List Kii × Int × Int × Int × Int × Int × Int × Int × List Int × List Int × List Int × Unit) (x10 : List Int) (x11 : List Int) : Int × Int × List Kii × Int × Int × Int × Int × Int × Int × Int × List Int × List Int × List Int × List Int × Unit → Option ((Int × List Kii × Int × Int × Int × Int × Int × Int × Int × List Int × List Int × List Int × List Int × Unit)) := iter (blast_maker_doMul_l1b n d17 x10 x11) n
noncomputable def blast_maker_doMul_l2b (n : Nat) (x10 : List Int) (x11 : List Int) (self : List Int × Int × Int × List Kii × Int × Int × Int × Int × Int × Int × Int × List Int × List Int × List Int × Unit → Option ((List Int × Int × List Kii × Int × Int × Int × Int × Int × Int × Int × List Int × List Int × List Int × Unit))) (d17 : List Int × Int × Int × List Kii × Int × Int × Int × Int × Int × Int × Int × List Int × List Int × List Int × Unit) : Option ((List Int × Int × List Kii × Int × Int × Int × Int × Int × Int × Int × List Int × List Int × List Int × Unit)) :=
 cond (decide (d17.2.1 < (x11.length : Int)))
 (ask (0 ≤ d17.2.1 ∧ d17.2.1 < (x11.length : Int)) (ask ((0 ≤ (x10.length : Int) ∧ (x10.length : Int) ≤ (x10.length : Int)) ∧ (8 : Int) * (x10.length : Int) ≤ 281474976710656 ∧ (x10.length : Int) ≤ 281474976710656) ((blast_maker_doMul_l1 n d17 x10 x11 (d17.2.1, d17.2.2.1, d17.2.2.2.1, d17.2.2.2.2.1, d17.2.2.2.2.2.1, d17.2.2.2.2.2.2.1, d17.2.2.2.2.2.2.2.1, d17.2.2.2.2.2.2.2.2.1, d17.2.2.2.2.2.2.2.2.2.1, d17.2.2.2.2.2.2.2.2.2.2.1, d17.2.2.2.2.2.2.2.2.2.2.2.1, d17.2.2.2.2.2.2.2.2.2.2.2.2.1, d17.2.2.2.2.2.2.2.2.2.2.2.2.2.1, List.replicate (x10.length : Int).toNat (0 : Int), ())).bind (fun d22 => (blast_maker_sum n d17.1 d22.2.2.2.2.2.2.2.2.2.2.2.2.1 0 d22.1 d22.2.1 d22.2.2.1 d22.2.2.2.1 d22.2.2.2.2.1 d22.2.2.2.2.2.1 d22.2.2.2.2.2.2.1 d22.2.2.2.2.2.2.2.1 d22.2.2.2.2.2.2.2.2.1 d22.2.2.2.2.2.2.2.2.2.1 d22.2.2.2.2.2.2.2.2.2.2.1 d22.2.2.2.2.2.2.2.2.2.2.2.1).bind (fun r23 => self (r23.1, IntKind.wrap .i64 (d17.2.1 + 1), r23.2.1, r23.2.2.1, r23.2.2.2.1, r23.2.2.2.2.1, r23.2.2.2.2.2.1, r23.2.2.2.2.2.2.1, r23.2.2.2.2.2.2.2.1, r23.2.2.2.2.2.2.2.2.1, r23.2.2.2.2.2.2.2.2.2.1, r23.2.2.2.2.2.2.2.2.2.2.1, r23.2.2.2.2.2.2.2.2.2.2.2.1, r23.2.2.2.2.2.2.2.2.2.2.2.2.1, ()))))))
 (some (d17.1, d17.2.2.1, d17.2.2.2.1, d17.2.2.2.2.1, d17.2.2.2.2.2.1, d17.2.2.2.2.2.2.1, d17.2.2.2.2.2.2.2.1, d17.2.2.2.2.2.2.2.2.1, d17.2.2.2.2.2.2.2.2.2.1, d17.2.2.2.2.2.2.2.2.2.2.1, d17.2.2.2.2.2.2.2.2.2.2.2.1, d17.2.2.2.2.2.2.2.2.2.2.2.2.1, d17.2.2.2.2.2.2.2.2.2.2.2.2.2.1, ()))
noncomputable def blast_maker_doMul_l2 (n : Nat) (x10 : List Int) (x11 : List Int) : List Int × Int × Int × List Kii × Int × Int × Int × Int × Int × Int × Int × List Int × List Int × List Int × Unit → Option ((List Int × Int × List Kii × Int × Int × Int × Int × Int × Int × Int × List Int × List Int × List Int × Unit)) := iter (blast_maker_doMul_l2b n x10 x11) n
noncomputable def blast_maker_doMul (n : Nat) (x1 : Int) (x2 : List Kii) (x3 : Int) (x4 : Int) (x5 : Int) (x6 : Int) (x7 : Int) (x8 : Int) (x9 : Int) (x10 : List Int) (x11 : List Int) (x12 : List Int) : Option (List Int × Int × List Kii × Int × Int × Int × Int × Int × Int × Int × List Int × List Int × List Int × Unit) :=
 ask ((0 ≤ (x10.length : Int) ∧ (x10.length : Int) ≤ (x10.length : Int)) ∧ (8 : Int) * (x10.length : Int) ≤ 281474976710656 ∧ (x10.length : Int) ≤ 281474976710656) ((blast_maker_doMul_l2 n x10 x11 (List.replicate (x10.length : Int).toNat (0 : Int), 0, x1, x2, x3, x4, x5, x6, x7, x8, x9, x10, x11, x12, ())).bind (fun d24 => some (d24.1, d24.2.1, d24.2.2.1, d24.2.2.2.1, d24.2.2.2.2.1, d24.2.2.2.2.2.1, d24.2.2.2.2.2.2.1, d24.2.2.2.2.2.2.2.1, d24.2.2.2.2.2.2.2.2.1, d24.2.2.2.2.2.2.2.2.2.1, d24.2.2.2.2.2.2.2.2.2.2.1, d24.2.2.2.2.2.2.2.2.2.2.2.1, d24.2.2.2.2.2.2.2.2.2.2.2.2.1, ())))
def blast_maker_doMul_s : Sig := ⟨[.c false [.con (.ptr 0 0)]], [(0, .var 148 [.int .i64, .row Kii_, .int .i64, .int .i64, .int .i64, .int .i64, .int .i64, .int .i64, .int .i64, .row i_, .row i_, .row i_])], .c false [.row i_], [(0, .var 148 [.int .i64, .row Kii_, .int .i64, .int .i64, .int .i64, .int .i64, .int .i64, .int .i64, .int .i64, .row i_, .row i_, .row i_])]⟩
def blast_maker_doMul_a : Ann := .s .d (.s .d (.s .d (.s (.s .d (.b (.l [0, 4, 5, 6, 7, 8, 9, 10, 11, 15, 16, 17, 18, 21, 22, 23, 24, 25, 26, 27, 28, 29, 30, 31, 32, 33, 34, 35, 36, 37, 38, 39, 40, 41, 42, 43, 44, 45, 46, 47, 48, 49, 50, 51, 52, 53] [0, 164] ⟨[(0, .c false [.con (.ptr 0 0)]), (4, .c false [.row i_]), (21, .c false [.int .i64])], [(0, .var 148 [.int .i64, .row Kii_, .int .i64, .int .i64, .int .i64, .int .i64, .int .i64, .int .i64, .int .i64, .row i_, .row i_, .row i_])]⟩ [(.exit 0, ⟨[(4, .c false [.row i_])], [(0, .var 148 [.int .i64, .row Kii_, .int .i64, .int .i64, .int .i64, .int .i64, .int .i64, .int .i64, .int .i64, .row i_, .row i_, .row i_])]⟩)] (.s .d (.s .d (.s (.b (.s .d (.s .d (.s (.s .d (.b (.l [0, 7, 8, 27, 29, 30, 31, 32, 33, 34, 35, 36, 37, 38, 39, 40, 41, 42, 43, 44, 45, 46, 47, 48] [0, 164] ⟨[(0, .c false [.con (.ptr 0 0)]), (7, .c false [.con (.own 164 1)]), (8, .c false [.int .i64])], [(0, .var 148 [.int .i64, .row Kii_, .int .i64, .int .i64, .int .i64, .int .i64, .int .i64, .int .i64, .int .i64, .row i_, .row i_, .row i_]), (164, .row 3 i_)]⟩ [(.exit 2, ⟨[(0, .c false [.con (.ptr 0 0)]), (7, .c false [.con (.own 164 1)])], [(0, .var 148 [.int .i64, .row Kii_, .int .i64, .int .i64, .int .i64, .int .i64, .int .i64, .int .i64, .int .i64, .row i_, .row i_, .row i_]), (164, .row 3 i_)]⟩)] .d))) (.z [164]))))) .d)))))) .d)))
noncomputable def blast_maker_doMul_c (n : Nat) : Ctr Try.prog := .of Try.func123 n [blast_maker_and_c n, blast_maker_sum_c n] blast_maker_doMul_a blast_maker_doMul_s (fun d => blast_maker_doMul n d.1 d.2.1 d.2.2.1 d.2.2.2.1 d.2.2.2.2.1 d.2.2.2.2.2.1 d.2.2.2.2.2.2.1 d.2.2.2.2.2.2.2.1 d.2.2.2.2.2.2.2.2.1 d.2.2.2.2.2.2.2.2.2.1 d.2.2.2.2.2.2.2.2.2.2.1 d.2.2.2.2.2.2.2.2.2.2.2.1) fun d => by kernel_rfl
noncomputable def blast_maker_doNe (n : Nat) (x1 : Int) (x2 : List Kii) (x3 : Int) (x4 : Int) (x5 : Int) (x6 : Int) (x7 : Int) (x8 : Int) (x9 : Int) (x10 : List Int) (x11 : List Int) (x12 : List Int) : Option (List Int × Int × List Kii × Int × Int × Int × Int × Int × Int × Int × List Int × List Int × List Int × Unit) :=
 (blast_maker_both__blast_maker_xor n x1 x2 x3 x4 x5 x6 x7 x8 x9 x10 x11 x12).bind (fun r13 => (blast_maker_any n r13.1 r13.2.1 r13.2.2.1 r13.2.2.2.1 r13.2.2.2.2.1 r13.2.2.2.2.2.1 r13.2.2.2.2.2.2.1 r13.2.2.2.2.2.2.2.1 r13.2.2.2.2.2.2.2.2.1 r13.2.2.2.2.2.2.2.2.2.1 r13.2.2.2.2.2.2.2.2.2.2.1 r13.2.2.2.2.2.2.2.2.2.2.2.1 r13.2.2.2.2.2.2.2.2.2.2.2.2.1).bind (fun r14 => some (([r14.1] : List Int), r14.2.1, r14.2.2.1, r14.2.2.2.1, r14.2.2.2.2.1, r14.2.2.2.2.2.1, r14.2.2.2.2.2.2.1, r14.2.2.2.2.2.2.2.1, r14.2.2.2.2.2.2.2.2.1, r14.2.2.2.2.2.2.2.2.2.1, r14.2.2.2.2.2.2.2.2.2.2.1, r14.2.2.2.2.2.2.2.2.2.2.2.1, r14.2.2.2.2.2.2.2.2.2.2.2.2.1, ())))
def blast_maker_doNe_s : Sig := ⟨[.c false [.con (.ptr 0 0)]], [(0, .var 148 [.int .i64, .row Kii_, .int .i64, .int .i64, .int .i64, .int .i64, .int .i64, .int .i64, .int .i64, .row i_, .row i_, .row i_])], .c false [.row i_], [(0, .var 148 [.int .i64, .row Kii_, .int .i64, .int .i64, .int .i64, .int .i64, .int .i64, .int .i64, .int .i64, .row i_, .row i_, .row i_])]⟩
def blast_maker_doNe_a : Ann := .d
noncomputable def blast_maker_doNe_c (n : Nat) : Ctr Try.prog := .of Try.func125 n [blast_maker_both__blast_maker_xor_c n, blast_maker_any_c n] blast_maker_doNe_a blast_maker_doNe_s (fun d => blast_maker_doNe n d.1 d.2.1 d.2.2.1 d.2.2.2.1 d.2.2.2.2.1 d.2.2.2.2.2.1 d.2.2.2.2.2.2.1 d.2.2.2.2.2.2.2.1 d.2.2.2.2.2.2.2.2.1 d.2.2.2.2.2.2.2.2.2.1 d.2.2.2.2.2.2.2.2.2.2.1 d.2.2.2.2.2.2.2.2.2.2.2.1) fun d => by kernel_rfl
noncomputable def blast_maker_doEq (n : Nat) (x1 : Int) (x2 : List Kii) (x3 : Int) (x4 : Int) (x5 : Int) (x6 : Int) (x7 : Int) (x8 : Int) (x9 : Int) (x10 : List Int) (x11 : List Int) (x12 : List Int) : Option (List Int × Int × List Kii × Int × Int × Int × Int × Int × Int × Int × List Int × List Int × List Int × Unit) :=
 (blast_maker_doNe n x1 x2 x3 x4 x5 x6 x7 x8 x9 x10 x11 x12).bind (fun r13 => (blast_turned n r13.1).bind (fun r14 => some (r14.1, r13.2.1, r13.2.2.1, r13.2.2.2.1, r13.2.2.2.2.1, r13.2.2.2.2.2.1, r13.2.2.2.2.2.2.1, r13.2.2.2.2.2.2.2.1, r13.2.2.2.2.2.2.2.2.1, r13.2.2.2.2.2.2.2.2.2.1, r13.2.2.2.2.2.2.2.2.2.2.1, r13.2.2.2.2.2.2.2.2.2.2.2.1, r13.2.2.2.2.2.2.2.2.2.2.2.2.1, ())))
def blast_maker_doEq_s : Sig := ⟨[.c false [.con (.ptr 0 0)]], [(0, .var 148 [.int .i64, .row Kii_, .int .i64, .int .i64, .int .i64, .int .i64, .int .i64, .int .i64, .int .i64, .row i_, .row i_, .row i_])], .c false [.row i_], [(0, .var 148 [.int .i64, .row Kii_, .int .i64, .int .i64, .int .i64, .int .i64, .int .i64, .int .i64, .int .i64, .row i_, .row i_, .row i_])]⟩
def blast_maker_doEq_a : Ann := .d
noncomputable def blast_maker_doEq_c (n : Nat) : Ctr Try.prog := .of Try.func124 n [blast_maker_doNe_c n, blast_turned_c n] blast_maker_doEq_a blast_maker_doEq_s (fun d => blast_maker_doEq n d.1 d.2.1 d.2.2.1 d.2.2.2.1 d.2.2.2.2.1 d.2.2.2.2.2.1 d.2.2.2.2.2.2.1 d.2.2.2.2.2.2.2.1 d.2.2.2.2.2.2.2.2.1 d.2.2.2.2.2.2.2.2.2.1 d.2.2.2.2.2.2.2.2.2.2.1 d.2.2.2.2.2.2.2.2.2.2.2.1) fun d => by kernel_rfl
noncomputable def blast_maker_below_l1b (n : Nat) (x11 : List Int) (self : Int × Int × Int × List Kii × Int × Int × Int × Int × Int × Int × Int × List Int × List Int × List Int × Unit → Option ((Int × Int × List Kii × Int × Int × Int × Int × Int × Int × Int × List Int × List Int × List Int × Unit))) (d16 : Int × Int × Int × List Kii × Int × Int × Int × Int × Int × Int × Int × List Int × List Int × List Int × Unit) : Option ((Int × Int × List Kii × Int × Int × Int × Int × Int × Int × Int × List Int × List Int × List Int × Unit)) :=
 cond (decide (d16.2.1 < (x11.length : Int)))
 (ask (0 ≤ d16.2.1 ∧ d16.2.1 < (d16.2.2.2.2.2.2.2.2.2.2.2.1.length : Int)) (ask (0 ≤ d16.2.1 ∧ d16.2.1 < (d16.2.2.2.2.2.2.2.2.2.2.2.2.1.length : Int)) ((blast_maker_xor n (Ki_at d16.2.2.2.2.2.2.2.2.2.2.2.1 d16.2.1) (Ki_at d16.2.2.2.2.2.2.2.2.2.2.2.2.1 d16.2.1) d16.2.2.1 d16.2.2.2.1 d16.2.2.2.2.1 d16.2.2.2.2.2.1 d16.2.2.2.2.2.2.1 d16.2.2.2.2.2.2.2.1 d16.2.2.2.2.2.2.2.2.1 d16.2.2.2.2.2.2.2.2.2.1 d16.2.2.2.2.2.2.2.2.2.2.1 d16.2.2.2.2.2.2.2.2.2.2.2.1 d16.2.2.2.2.2.2.2.2.2.2.2.2.1 d16.2.2.2.2.2.2.2.2.2.2.2.2.2.1).bind (fun r17 => ask (0 ≤ d16.2.1 ∧ d16.2.1 < (r17.2.2.2.2.2.2.2.2.2.2.2.1.length : Int)) ((blast_maker_mux n r17.1 (Ki_at r17.2.2.2.2.2.2.2.2.2.2.2.1 d16.2.1) d16.1 r17.2.1 r17.2.2.1 r17.2.2.2.1 r17.2.2.2.2.1 r17.2.2.2.2.2.1 r17.2.2.2.2.2.2.1 r17.2.2.2.2.2.2.2.1 r17.2.2.2.2.2.2.2.2.1 r17.2.2.2.2.2.2.2.2.2.1 r17.2.2.2.2.2.2.2.2.2.2.1 r17.2.2.2.2.2.2.2.2.2.2.2.1 r17.2.2.2.2.2.2.2.2.2.2.2.2.1).bind (fun r18 => ask ((True ∧ eqO (some (V (.row i_ d16.2.2.2.2.2.2.2.2.2.2.2.2.1))) (some (V (.row i_ r17.2.2.2.2.2.2.2.2.2.2.2.1))) = true) ∧ True) (self (r18.1, IntKind.wrap .i64 (d16.2.1 + 1), r18.2.1, r18.2.2.1, r18.2.2.2.1, r18.2.2.2.2.1, r18.2.2.2.2.2.1, r18.2.2.2.2.2.2.1, r18.2.2.2.2.2.2.2.1, r18.2.2.2.2.2.2.2.2.1, r18.2.2.2.2.2.2.2.2.2.1, r18.2.2.2.2.2.2.2.2.2.2.1, r18.2.2.2.2.2.2.2.2.2.2.2.1, r18.2.2.2.2.2.2.2.2.2.2.2.2.1, ()))))))))
 (some (d16.1, d16.2.2.1, d16.2.2.2.1, d16.2.2.2.2.1, d16.2.2.2.2.2.1, d16.2.2.2.2.2.2.1, d16.2.2.2.2.2.2.2.1, d16.2.2.2.2.2.2.2.2.1, d16.2.2.2.2.2.2.2.2.2.1, d16.2.2.2.2.2.2.2.2.2.2.1, d16.2.2.2.2.2.2.2.2.2.2.2.1, d16.2.2.2.2.2.2.2.2.2.2.2.2.1, d16.2.2.2.2.2.2.2.2.2.2.2.2.2.1, ()))
noncomputable def blast_maker_below_l1 (n : Nat) (x11 : List Int) : Int × Int × Int × List Kii × Int × Int × Int × Int × Int × Int × Int × List Int × List Int × List Int × Unit → Option ((Int × Int × List Kii × Int × Int × Int × Int × Int × Int × Int × List Int × List Int × List Int × Unit)) := iter (blast_maker_below_l1b n x11) n
noncomputable def blast_maker_below (n : Nat) (x1 : Int) (x2 : Int) (x3 : List Kii) (x4 : Int) (x5 : Int) (x6 : Int) (x7 : Int) (x8 : Int) (x9 : Int) (x10 : Int) (x11 : List Int) (x12 : List Int) (x13 : List Int) : Option (List Int × Int × List Kii × Int × Int × Int × Int × Int × Int × Int × List Int × List Int × List Int × Unit) :=
 (blast_maker_below_l1 n x11 (x1, 0, x2, x3, x4, x5, x6, x7, x8, x9, x10, x11, x12, x13, ())).bind (fun d19 => some (([d19.1] : List Int), d19.2.1, d19.2.2.1, d19.2.2.2.1, d19.2.2.2.2.1, d19.2.2.2.2.2.1, d19.2.2.2.2.2.2.1, d19.2.2.2.2.2.2.2.1, d19.2.2.2.2.2.2.2.2.1, d19.2.2.2.2.2.2.2.2.2.1, d19.2.2.2.2.2.2.2.2.2.2.1, d19.2.2.2.2.2.2.2.2.2.2.2.1, d19.2.2.2.2.2.2.2.2.2.2.2.2.1, ()))
def blast_maker_below_s : Sig := ⟨[.c false [.con (.ptr 0 0)], .c false [.int .i64]], [(0, .var 148 [.int .i64, .row Kii_, .int .i64, .int .i64, .int .i64, .int .i64, .int .i64, .int .i64, .int .i64, .row i_, .row i_, .row i_])], .c false [.row i_], [(0, .var 148 [.int .i64, .row Kii_, .int .i64, .int .i64, .int .i64, .int .i64, .int .i64, .int .i64, .int .i64, .row i_, .row i_, .row i_])]⟩
def blast_maker_below_a : Ann := .s .d (.s (.s .d (.b (.l [0, 1, 5, 6, 7, 8, 11, 12, 13, 14, 15, 16, 17, 18, 19, 20, 21, 22, 23, 24, 25, 26, 27, 28, 29, 30, 31, 32, 33, 34, 35, 36, 37, 38, 39, 40] [0] ⟨[(0, .c false [.con (.ptr 0 0)]), (1, .c false [.int .i64]), (11, .c false [.int .i64])], [(0, .var 148 [.int .i64, .row Kii_, .int .i64, .int .i64, .int .i64, .int .i64, .int .i64, .int .i64, .int .i64, .row i_, .row i_, .row i_])]⟩ [(.exit 0, ⟨[(1, .c false [.int .i64])], [(0, .var 148 [.int .i64, .row Kii_, .int .i64, .int .i64, .int .i64, .int .i64, .int .i64, .int .i64, .int .i64, .row i_, .row i_, .row i_])]⟩)] .d))) .d)
noncomputable def blast_maker_below_c (n : Nat) : Ctr Try.prog := .of Try.func143 n [blast_maker_xor_c n, blast_maker_mux_c n] blast_maker_below_a blast_maker_below_s (fun d => blast_maker_below n d.1 d.2.1 d.2.2.1 d.2.2.2.1 d.2.2.2.2.1 d.2.2.2.2.2.1 d.2.2.2.2.2.2.1 d.2.2.2.2.2.2.2.1 d.2.2.2.2.2.2.2.2.1 d.2.2.2.2.2.2.2.2.2.1 d.2.2.2.2.2.2.2.2.2.2.1 d.2.2.2.2.2.2.2.2.2.2.2.1 d.2.2.2.2.2.2.2.2.2.2.2.2.1) fun d => by kernel_rfl
noncomputable def blast_maker_doLt (n : Nat) (x1 : Int) (x2 : List Kii) (x3 : Int) (x4 : Int) (x5 : Int) (x6 : Int) (x7 : Int) (x8 : Int) (x9 : Int) (x10 : List Int) (x11 : List Int) (x12 : List Int) : Option (List Int × Int × List Kii × Int × Int × Int × Int × Int × Int × Int × List Int × List Int × List Int × Unit) :=
 (blast_maker_below n 0 x1 x2 x3 x4 x5 x6 x7 x8 x9 x10 x11 x12).bind (fun r13 => some (r13.1, r13.2.1, r13.2.2.1, r13.2.2.2.1, r13.2.2.2.2.1, r13.2.2.2.2.2.1, r13.2.2.2.2.2.2.1, r13.2.2.2.2.2.2.2.1, r13.2.2.2.2.2.2.2.2.1, r13.2.2.2.2.2.2.2.2.2.1, r13.2.2.2.2.2.2.2.2.2.2.1, r13.2.2.2.2.2.2.2.2.2.2.2.1, r13.2.2.2.2.2.2.2.2.2.2.2.2.1, ()))
def blast_maker_doLt_s : Sig := ⟨[.c false [.con (.ptr 0 0)]], [(0, .var 148 [.int .i64, .row Kii_, .int .i64, .int .i64, .int .i64, .int .i64, .int .i64, .int .i64, .int .i64, .row i_, .row i_, .row i_])], .c false [.row i_], [(0, .var 148 [.int .i64, .row Kii_, .int .i64, .int .i64, .int .i64, .int .i64, .int .i64, .int .i64, .int .i64, .row i_, .row i_, .row i_])]⟩
def blast_maker_doLt_a : Ann := .d
noncomputable def blast_maker_doLt_c (n : Nat) : Ctr Try.prog := .of Try.func126 n [blast_maker_below_c n] blast_maker_doLt_a blast_maker_doLt_s (fun d => blast_maker_doLt n d.1 d.2.1 d.2.2.1 d.2.2.2.1 d.2.2.2.2.1 d.2.2.2.2.2.1 d.2.2.2.2.2.2.1 d.2.2.2.2.2.2.2.1 d.2.2.2.2.2.2.2.2.1 d.2.2.2.2.2.2.2.2.2.1 d.2.2.2.2.2.2.2.2.2.2.1 d.2.2.2.2.2.2.2.2.2.2.2.1) fun d => by kernel_rfl
noncomputable def blast_maker_doLe (n : Nat) (x1 : Int) (x2 : List Kii) (x3 : Int) (x4 : Int) (x5 : Int) (x6 : Int) (x7 : Int) (x8 : Int) (x9 : Int) (x10 : List Int) (x11 : List Int) (x12 : List Int) : Option (List Int × Int × List Kii × Int × Int × Int × Int × Int × Int × Int × List Int × List Int × List Int × Unit) :=
 (blast_maker_below n 1 x1 x2 x3 x4 x5 x6 x7 x8 x9 x10 x11 x12).bind (fun r13 => some (r13.1, r13.2.1, r13.2.2.1, r13.2.2.2.1, r13.2.2.2.2.1, r13.2.2.2.2.2.1, r13.2.2.2.2.2.2.1, r13.2.2.2.2.2.2.2.1, r13.2.2.2.2.2.2.2.2.1, r13.2.2.2.2.2.2.2.2.2.1, r13.2.2.2.2.2.2.2.2.2.2.1, r13.2.2.2.2.2.2.2.2.2.2.2.1, r13.2.2.2.2.2.2.2.2.2.2.2.2.1, ()))
def blast_maker_doLe_s : Sig := ⟨[.c false [.con (.ptr 0 0)]], [(0, .var 148 [.int .i64, .row Kii_, .int .i64, .int .i64, .int .i64, .int .i64, .int .i64, .int .i64, .int .i64, .row i_, .row i_, .row i_])], .c false [.row i_], [(0, .var 148 [.int .i64, .row Kii_, .int .i64, .int .i64, .int .i64, .int .i64, .int .i64, .int .i64, .int .i64, .row i_, .row i_, .row i_])]⟩
def blast_maker_doLe_a : Ann := .d
noncomputable def blast_maker_doLe_c (n : Nat) : Ctr Try.prog := .of Try.func127 n [blast_maker_below_c n] blast_maker_doLe_a blast_maker_doLe_s (fun d => blast_maker_doLe n d.1 d.2.1 d.2.2.1 d.2.2.2.1 d.2.2.2.2.1 d.2.2.2.2.2.1 d.2.2.2.2.2.2.1 d.2.2.2.2.2.2.2.1 d.2.2.2.2.2.2.2.2.1 d.2.2.2.2.2.2.2.2.2.1 d.2.2.2.2.2.2.2.2.2.2.1 d.2.2.2.2.2.2.2.2.2.2.2.1) fun d => by kernel_rfl
noncomputable def blast_maker_doMux_l1b (n : Nat) (x11 : List Int) (self : Int × Int × List Kii × Int × Int × Int × Int × Int × Int × Int × List Int × List Int × List Int × List Int × Unit → Option ((Int × List Kii × Int × Int × Int × Int × Int × Int × Int × List Int × List Int × List Int × List Int × Unit))) (d15 : Int × Int × List Kii × Int × Int × Int × Int × Int × Int × Int × List Int × List Int × List Int × List Int × Unit) : Option ((Int × List Kii × Int × Int × Int × Int × Int × Int × Int × List Int × List Int × List Int × List Int × Unit)) :=
 cond (decide (d15.1 < ((List.replicate (x11.length : Int).toNat (0 : Int)).length : Int)))
 (ask (0 ≤ (0 : Int) ∧ 0 < (d15.2.2.2.2.2.2.2.2.2.2.1.length : Int)) (ask (0 ≤ d15.1 ∧ d15.1 < (d15.2.2.2.2.2.2.2.2.2.2.2.1.length : Int)) (ask (0 ≤ d15.1 ∧ d15.1 < (d15.2.2.2.2.2.2.2.2.2.2.2.2.1.length : Int)) ((blast_maker_mux n (Ki_at d15.2.2.2.2.2.2.2.2.2.2.1 0) (Ki_at d15.2.2.2.2.2.2.2.2.2.2.2.1 d15.1) (Ki_at d15.2.2.2.2.2.2.2.2.2.2.2.2.1 d15.1) d15.2.1 d15.2.2.1 d15.2.2.2.1 d15.2.2.2.2.1 d15.2.2.2.2.2.1 d15.2.2.2.2.2.2.1 d15.2.2.2.2.2.2.2.1 d15.2.2.2.2.2.2.2.2.1 d15.2.2.2.2.2.2.2.2.2.1 d15.2.2.2.2.2.2.2.2.2.2.1 d15.2.2.2.2.2.2.2.2.2.2.2.1 d15.2.2.2.2.2.2.2.2.2.2.2.2.1).bind (fun r16 => ask (0 ≤ d15.1 ∧ d15.1 < (d15.2.2.2.2.2.2.2.2.2.2.2.2.2.1.length : Int)) (self (IntKind.wrap .i64 (d15.1 + 1), r16.2.1, r16.2.2.1, r16.2.2.2.1, r16.2.2.2.2.1, r16.2.2.2.2.2.1, r16.2.2.2.2.2.2.1, r16.2.2.2.2.2.2.2.1, r16.2.2.2.2.2.2.2.2.1, r16.2.2.2.2.2.2.2.2.2.1, r16.2.2.2.2.2.2.2.2.2.2.1, r16.2.2.2.2.2.2.2.2.2.2.2.1, r16.2.2.2.2.2.2.2.2.2.2.2.2.1, d15.2.2.2.2.2.2.2.2.2.2.2.2.2.1.set d15.1.toNat r16.1, ())))))))
 (some (d15.2.1, d15.2.2.1, d15.2.2.2.1, d15.2.2.2.2.1, d15.2.2.2.2.2.1, d15.2.2.2.2.2.2.1, d15.2.2.2.2.2.2.2.1, d15.2.2.2.2.2.2.2.2.1, d15.2.2.2.2.2.2.2.2.2.1, d15.2.2.2.2.2.2.2.2.2.2.1, d15.2.2.2.2.2.2.2.2.2.2.2.1, d15.2.2.2.2.2.2.2.2.2.2.2.2.1, d15.2.2.2.2.2.2.2.2.2.2.2.2.2.1, ()))
noncomputable def blast_maker_doMux_l1 (n : Nat) (x11 : List Int) : Int × Int × List Kii × Int × Int × Int × Int × Int × Int × Int × List Int × List Int × List Int × List Int × Unit → Option ((Int × List Kii × Int × Int × Int × Int × Int × Int × Int × List Int × List Int × List Int × List Int × Unit)) := iter (blast_maker_doMux_l1b n x11) n
noncomputable def blast_maker_doMux (n : Nat) (x1 : Int) (x2 : List Kii) (x3 : Int) (x4 : Int) (x5 : Int) (x6 : Int) (x7 : Int) (x8 : Int) (x9 : Int) (x10 : List Int) (x11 : List Int) (x12 : List Int) : Option (List Int × Int × List Kii × Int × Int × Int × Int × Int × Int × Int × List Int × List Int × List Int × Unit) :=
 ask ((0 ≤ (x11.length : Int) ∧ (x11.length : Int) ≤ (x11.length : Int)) ∧ (8 : Int) * (x11.length : Int) ≤ 281474976710656 ∧ (x11.length : Int) ≤ 281474976710656) ((blast_maker_doMux_l1 n x11 (0, x1, x2, x3, x4, x5, x6, x7, x8, x9, x10, x11, x12, List.replicate (x11.length : Int).toNat (0 : Int), ())).bind (fun d17 => some (d17.2.2.2.2.2.2.2.2.2.2.2.2.1, d17.1, d17.2.1, d17.2.2.1, d17.2.2.2.1, d17.2.2.2.2.1, d17.2.2.2.2.2.1, d17.2.2.2.2.2.2.1, d17.2.2.2.2.2.2.2.1, d17.2.2.2.2.2.2.2.2.1, d17.2.2.2.2.2.2.2.2.2.1, d17.2.2.2.2.2.2.2.2.2.2.1, d17.2.2.2.2.2.2.2.2.2.2.2.1, ())))
def blast_maker_doMux_s : Sig := ⟨[.c false [.con (.ptr 0 0)]], [(0, .var 148 [.int .i64, .row Kii_, .int .i64, .int .i64, .int .i64, .int .i64, .int .i64, .int .i64, .int .i64, .row i_, .row i_, .row i_])], .c false [.row i_], [(0, .var 148 [.int .i64, .row Kii_, .int .i64, .int .i64, .int .i64, .int .i64, .int .i64, .int .i64, .int .i64, .row i_, .row i_, .row i_])]⟩
def blast_maker_doMux_a : Ann := .s .d (.s .d (.s (.s .d (.b (.l [0, 3, 4, 5, 6, 7, 10, 11, 13, 14, 15, 16, 17, 18, 19, 20, 21, 22, 23, 24, 25, 26, 27, 28, 29, 30, 31, 32, 33, 34, 35, 36, 37, 38, 39, 40, 41] [0, 420] ⟨[(0, .c false [.con (.ptr 0 0)]), (3, .c false [.con (.own 420 1)]), (13, .c false [.int .i64])], [(0, .var 148 [.int .i64, .row Kii_, .int .i64, .int .i64, .int .i64, .int .i64, .int .i64, .int .i64, .int .i64, .row i_, .row i_, .row i_]), (420, .row 3 i_)]⟩ [(.exit 0, ⟨[(3, .c false [.con (.own 420 1)])], [(0, .var 148 [.int .i64, .row Kii_, .int .i64, .int .i64, .int .i64, .int .i64, .int .i64, .int .i64, .int .i64, .row i_, .row i_, .row i_]), (420, .row 3 i_)]⟩)] .d))) .d))
noncomputable def blast_maker_doMux_c (n : Nat) : Ctr Try.prog := .of Try.func128 n [blast_maker_mux_c n] blast_maker_doMux_a blast_maker_doMux_s (fun d => blast_maker_doMux n d.1 d.2.1 d.2.2.1 d.2.2.2.1 d.2.2.2.2.1 d.2.2.2.2.2.1 d.2.2.2.2.2.2.1 d.2.2.2.2.2.2.2.1 d.2.2.2.2.2.2.2.2.1 d.2.2.2.2.2.2.2.2.2.1 d.2.2.2.2.2.2.2.2.2.2.1 d.2.2.2.2.2.2.2.2.2.2.2.1) fun d => by kernel_rfl
noncomputable def slices_Grow_int_int_o (n : Nat) (x1 : Int) : Option (List Int × Unit) :=
 ((cond (decide (x1 < 0))
 (none)
 (some ())) : Option ((Unit))).bind (fun d2 => ask (True) (cond (decide ((0 : Int) < (IntKind.wrap .i64 (x1 - 0))))
 (ask (True) (ask ((0 : Int) = 0) (ask (1 ≤ (IntKind.wrap .i64 (x1 - 0)) ∧ (IntKind.wrap .i64 (x1 - 0)) * (8 : Int) ≤ 281474976710656 ∧ (IntKind.wrap .i64 (x1 - 0)) ≤ 281474976710656) (ask (0 ≤ (0 : Int) ∧ 0 ≤ ((List.replicate (IntKind.wrap .i64 (x1 - 0)).toNat (0 : Int)).length : Int)) (some ((List.replicate (IntKind.wrap .i64 (x1 - 0)).toNat (0 : Int)).take (0 : Int).toNat, ()))))))
 (some (([] : List Int), ()))))
def slices_Grow_int_int_o_s : Sig := ⟨[.c false [.con .nilsl], .c false [.int .i64]], [], .c false [.con (.own 612 1)], [(612, .row 3 i_)]⟩
def slices_Grow_int_int_o_a : Ann := .s .d (.j [5, 6, 7] [] [(.normal, ⟨[], []⟩)] .d .d)
noncomputable def slices_Grow_int_int_o_c (n : Nat) : Ctr Try.prog := .of Try.func147 n [] slices_Grow_int_int_o_a slices_Grow_int_int_o_s (fun d => slices_Grow_int_int_o n d.1) fun d => by kernel_rfl
noncomputable def slices_Concat_int_int_o_l1b (n : Nat) (x1 : List (List Int)) (self : Int × Int × Unit → Option ((Int × Unit))) (d3 : Int × Int × Unit) : Option ((Int × Unit)) :=
 cond (decide (d3.2.1 < (x1.length : Int)))
 (ask (0 ≤ d3.2.1 ∧ d3.2.1 < (x1.length : Int)) (cond (decide ((IntKind.wrap .i64 (d3.1 + ((KLi_at x1 d3.2.1).length : Int))) < 0))
 (none)
 (self (IntKind.wrap .i64 (d3.1 + ((KLi_at x1 d3.2.1).length : Int)), IntKind.wrap .i64 (d3.2.1 + 1), ()))))
 (some (d3.1, ()))
noncomputable def slices_Concat_int_int_o_l1 (n : Nat) (x1 : List (List Int)) : Int × Int × Unit → Option ((Int × Unit)) := iter (slices_Concat_int_int_o_l1b n x1) n
noncomputable def slices_Concat_int_int_o_l2b (n : Nat) (x1 : List (List Int)) (self : Int × List Int × Unit → Option ((List Int × Unit))) (d8 : Int × List Int × Unit) : Option ((List Int × Unit)) :=
 cond (decide (d8.1 < (x1.length : Int)))
 (ask (0 ≤ d8.1 ∧ d8.1 < (x1.length : Int)) (ask (True ∧ (d8.2.1.length + (KLi_at x1 d8.1).length) * 8 ≤ 140737488355328) (self (IntKind.wrap .i64 (d8.1 + 1), d8.2.1 ++ (KLi_at x1 d8.1), ()))))
 (some (d8.2.1, ()))
noncomputable def slices_Concat_int_int_o_l2 (n : Nat) (x1 : List (List Int)) : Int × List Int × Unit → Option ((List Int × Unit)) := iter (slices_Concat_int_int_o_l2b n x1) n
noncomputable def slices_Concat_int_int_o (n : Nat) (x1 : List (List Int)) : Option (List Int × Unit) :=
 (slices_Concat_int_int_o_l1 n x1 (0, 0, ())).bind (fun d4 => (slices_Grow_int_int_o n d4.1).bind (fun r5 => (slices_Concat_int_int_o_l2 n x1 (0, r5.1, ())).bind (fun d9 => some (d9.1, ()))))
def slices_Concat_int_int_o_s : Sig := ⟨[.c false [.row KLi_]], [], .c false [.con (.own 164 1)], [(164, .row 3 i_)]⟩
def slices_Concat_int_int_o_a : Ann := .s .d (.s .d (.s (.s .d (.b (.l [3, 5, 11, 12, 13, 14, 15, 16, 17, 18, 19, 20, 21, 22] [] ⟨[(3, .c false [.int .i64]), (11, .c false [.int .i64])], []⟩ [(.exit 0, ⟨[(3, .c false [.int .i64])], []⟩)] .d))) (.s .d (.s (.s .d (.b (.l [6, 8, 24, 27, 28, 29, 30, 31, 32, 33, 34] [164] ⟨[(6, .c false [.con (.own 164 1)]), (27, .c false [.int .i64])], [(164, .row 3 i_)]⟩ [(.exit 2, ⟨[(6, .c false [.con (.own 164 1)])], [(164, .row 3 i_)]⟩)] .d))) .d))))
noncomputable def slices_Concat_int_int_o_c (n : Nat) : Ctr Try.prog := .of Try.func145 n [slices_Grow_int_int_o_c n] slices_Concat_int_int_o_a slices_Concat_int_int_o_s (fun d => slices_Concat_int_int_o n d.1) fun d => by kernel_rfl
noncomputable def blast_maker_doCat_o (n : Nat) (x1 : List KiLPiiEiiiiiiiLiLiLi) (x2 : Int) : Option (List Int × Unit) :=
 (slices_Concat_int_int_o n ([(((((((((((KiLPiiEiiiiiiiLiLiLi_at x1 x2).2).2).2).2).2).2).2).2).2).2).1, ((((((((((KiLPiiEiiiiiiiLiLiLi_at x1 x2).2).2).2).2).2).2).2).2).2).1] : List (List Int))).bind (fun r3 => some (r3.1, ()))
def blast_maker_doCat_o_s : Sig := ⟨[.c false [.rp KiLPiiEiiiiiiiLiLiLi_ 0]], [], .c false [.con (.own 676 1)], [(676, .row 3 i_)]⟩
def blast_maker_doCat_o_a : Ann := .d
noncomputable def blast_maker_doCat_o_c (n : Nat) : Ctr Try.prog := .of Try.func129 n [slices_Concat_int_int_o_c n] blast_maker_doCat_o_a blast_maker_doCat_o_s (fun d => blast_maker_doCat_o n d.1 d.2.1) fun d => by kernel_rfl
noncomputable def blast_maker_doSlice_i2 (n : Nat) (x1 : Int) (x2 : List Kii) (x3 : Int) (x4 : Int) (x5 : Int) (x6 : Int) (x7 : Int) (x8 : Int) (x9 : Int) (x10 : List Int) (x11 : List Int) (x12 : List Int) : Option (List Int × Int × List Kii × Int × Int × Int × Int × Int × Int × Int × List Int × List Int × List Int × Unit) :=
 ask (0 ≤ x9 ∧ x9 ≤ IntKind.wrap .i64 (x8 + 1) ∧ IntKind.wrap .i64 (x8 + 1) ≤ (x10.length : Int)) ((slices_Clone_int_int n ((x10.take (IntKind.wrap .i64 (x8 + 1)).toNat).drop x9.toNat)).bind (fun r13 => some (r13.1, x1, x2, x3, x4, x5, x6, x7, x8, x9, x10, x11, x12, ())))
def blast_maker_doSlice_i2_s : Sig := ⟨[.c false [.con (.ptr 0 0)]], [(0, .var 148 [.int .i64, .row Kii_, .int .i64, .int .i64, .int .i64, .int .i64, .int .i64, .int .i64, .int .i64, .row i_, .row i_, .row i_])], .c false [.row i_], [(0, .var 148 [.int .i64, .row Kii_, .int .i64, .int .i64, .int .i64, .int .i64, .int .i64, .int .i64, .int .i64, .row i_, .row i_, .row i_])]⟩
def blast_maker_doSlice_i2_a : Ann := .d
noncomputable def blast_maker_doSlice_i2_c (n : Nat) : Ctr Try.prog := .of Try.func130 n [slices_Clone_int_int_c n] blast_maker_doSlice_i2_a blast_maker_doSlice_i2_s (fun d => blast_maker_doSlice_i2 n d.1 d.2.1 d.2.2.1 d.2.2.2.1 d.2.2.2.2.1 d.2.2.2.2.2.1 d.2.2.2.2.2.2.1 d.2.2.2.2.2.2.2.1 d.2.2.2.2.2.2.2.2.1 d.2.2.2.2.2.2.2.2.2.1 d.2.2.2.2.2.2.2.2.2.2.1 d.2.2.2.2.2.2.2.2.2.2.2.1) fun d => by kernel_rfl
noncomputable def blast_Do (n : Nat) (x1 : Int) (x2 : List Kii) (x3 : Int) (x4 : Int) (x5 : Int) (x6 : Int) (x7 : Int) (x8 : Int) (x9 : Int) (x10 : List Int) (x11 : List Int) (x12 : List Int) : Option (Int × List Kii × List Int × Unit) :=
 (blast_works n).bind (fun r13 => cond (decide (x3 = 1))
 ((blast_maker_doLit_o n ([(x1, x2, x3, x4, x5, x6, x7, x8, x9, x10, x11, x12)] : List KiLPiiEiiiiiiiLiLiLi) 0).bind (fun r14 => some (x1, x2, r14.1, ())))
 (cond (decide (x3 = 3))
 ((blast_maker_doInv_i2 n x1 x2 x3 x4 x5 x6 x7 x8 x9 x10 x11 x12).bind (fun r15 => some (r15.2.1, r15.2.2.1, r15.1, ())))
 (cond (decide (x3 = 4))
 ((blast_maker_doRedOr n x1 x2 x3 x4 x5 x6 x7 x8 x9 x10 x11 x12).bind (fun r16 => some (r16.2.1, r16.2.2.1, r16.1, ())))
 (cond (decide (x3 = 5))
 ((blast_maker_doRedAnd n x1 x2 x3 x4 x5 x6 x7 x8 x9 x10 x11 x12).bind (fun r17 => some (r17.2.1, r17.2.2.1, r17.1, ())))
 (cond (decide (x3 = 6))
 ((blast_maker_doAnd n x1 x2 x3 x4 x5 x6 x7 x8 x9 x10 x11 x12).bind (fun r18 => some (r18.2.1, r18.2.2.1, r18.1, ())))
 (cond (decide (x3 = 7))
 ((blast_maker_doOr n x1 x2 x3 x4 x5 x6 x7 x8 x9 x10 x11 x12).bind (fun r19 => some (r19.2.1, r19.2.2.1, r19.1, ())))
 (cond (decide (x3 = 8))
 ((blast_maker_doXor n x1 x2 x3 x4 x5 x6 x7 x8 x9 x10 x11 x12).bind (fun r20 => some (r20.2.1, r20.2.2.1, r20.1, ())))
 (cond (decide (x3 = 9))
 ((blast_maker_doAdd n x1 x2 x3 x4 x5 x6 x7 x8 x9 x10 x11 x12).bind (fun r21 => some (r21.2.1, r21.2.2.1, r21.1, ())))
 (cond (decide (x3 = 10))
 ((blast_maker_doSub n x1 x2 x3 x4 x5 x6 x7 x8 x9 x10 x11 x12).bind (fun r22 => some (r22.2.1, r22.2.2.1, r22.1, ())))
 (cond (decide (x3 = 11))
 ((blast_maker_doMul n x1 x2 x3 x4 x5 x6 x7 x8 x9 x10 x11 x12).bind (fun r23 => some (r23.2.1, r23.2.2.1, r23.1, ())))
 (cond (decide (x3 = 12))
 ((blast_maker_doEq n x1 x2 x3 x4 x5 x6 x7 x8 x9 x10 x11 x12).bind (fun r24 => some (r24.2.1, r24.2.2.1, r24.1, ())))
 (cond (decide (x3 = 13))
 ((blast_maker_doNe n x1 x2 x3 x4 x5 x6 x7 x8 x9 x10 x11 x12).bind (fun r25 => some (r25.2.1, r25.2.2.1, r25.1, ())))
 (cond (decide (x3 = 14))
 ((blast_maker_doLt n x1 x2 x3 x4 x5 x6 x7 x8 x9 x10 x11 x12).bind (fun r26 => some (r26.2.1, r26.2.2.1, r26.1, ())))
 (cond (decide (x3 = 15))
 ((blast_maker_doLe n x1 x2 x3 x4 x5 x6 x7 x8 x9 x10 x11 x12).bind (fun r27 => some (r27.2.1, r27.2.2.1, r27.1, ())))
 (cond (decide (x3 = 16))
 ((blast_maker_doMux n x1 x2 x3 x4 x5 x6 x7 x8 x9 x10 x11 x12).bind (fun r28 => some (r28.2.1, r28.2.2.1, r28.1, ())))
 (cond (decide (x3 = 17))
 ((blast_maker_doCat_o n ([(x1, x2, x3, x4, x5, x6, x7, x8, x9, x10, x11, x12)] : List KiLPiiEiiiiiiiLiLiLi) 0).bind (fun r29 => some (x1, x2, r29.1, ())))
 (cond (decide (x3 = 18))
 ((blast_maker_doSlice_i2 n x1 x2 x3 x4 x5 x6 x7 x8 x9 x10 x11 x12).bind (fun r30 => some (r30.2.1, r30.2.2.1, r30.1, ())))
 (some (x1, x2, ([] : List Int), ())))))))))))))))))))
def blast_Do_s : Sig := ⟨[.c true [.int .i64, .row Kii_], .c true [.int .i64, .int .i64, .int .i64, .int .i64, .int .i64, .int .i64, .int .i64], .c false [.row i_], .c false [.row i_], .c false [.row i_]], [], .t [(true, [.int .i64, .row Kii_]), (false, [.row i_])], []⟩
def blast_Do_a : Ann := .d
noncomputable def blast_Do_c (n : Nat) : Ctr Try.prog := .of Try.func90 n [blast_works_c n, blast_maker_doLit_o_c n, blast_maker_doInv_i2_c n, blast_maker_doRedOr_c n, blast_maker_doRedAnd_c n, blast_maker_doAnd_c n, blast_maker_doOr_c n, blast_maker_doXor_c n, blast_maker_doAdd_c n, blast_maker_doSub_c n, blast_maker_doMul_c n, blast_maker_doEq_c n, blast_maker_doNe_c n, blast_maker_doLt_c n, blast_maker_doLe_c n, blast_maker_doMux_c n, blast_maker_doCat_o_c n, blast_maker_doSlice_i2_c n] blast_Do_a blast_Do_s (fun d => blast_Do n d.1 d.2.1 d.2.2.1 d.2.2.2.1 d.2.2.2.2.1 d.2.2.2.2.2.1 d.2.2.2.2.2.2.1 d.2.2.2.2.2.2.2.1 d.2.2.2.2.2.2.2.2.1 d.2.2.2.2.2.2.2.2.2.1 d.2.2.2.2.2.2.2.2.2.2.1 d.2.2.2.2.2.2.2.2.2.2.2.1) fun d => by kernel_rfl
noncomputable def circ_compiler_nodes_i2_l1b (n : Nat) (x2 : List Kiiiiiii) (self : Int × Int × List Kii × List Kiiiiiii × List Ksi × List Ksiii × List Kisi × List Ksi × List (Int × (List Int)) × Unit → Option ((Int × List Kii × List Kiiiiiii × List Ksi × List Ksiii × List Kisi × List Ksi × List (Int × (List Int)) × Unit))) (d12 : Int × Int × List Kii × List Kiiiiiii × List Ksi × List Ksiii × List Kisi × List Ksi × List (Int × (List Int)) × Unit) : Option ((Int × List Kii × List Kiiiiiii × List Ksi × List Ksiii × List Kisi × List Ksi × List (Int × (List Int)) × Unit)) :=
 cond (decide (d12.1 < (x2.length : Int)))
 (ask (0 ≤ d12.1 ∧ d12.1 < (x2.length : Int)) (ask (True) (cond (Mi_Li_has d12.2.2.2.2.2.2.2.2.1 d12.1)
 (self (IntKind.wrap .i64 (d12.1 + 1), d12.2.1, d12.2.2.1, d12.2.2.2.1, d12.2.2.2.2.1, d12.2.2.2.2.2.1, d12.2.2.2.2.2.2.1, d12.2.2.2.2.2.2.2.1, d12.2.2.2.2.2.2.2.2.1, ()))
 (ask (True) (ask (True) (ask (True) ((blast_Do n d12.2.1 d12.2.2.1 ((Kiiiiiii_at x2 d12.1).1) (((Kiiiiiii_at x2 d12.1).2).1) ((((Kiiiiiii_at x2 d12.1).2).2).1) (((((Kiiiiiii_at x2 d12.1).2).2).2).1) ((((((Kiiiiiii_at x2 d12.1).2).2).2).2).1) (((((((Kiiiiiii_at x2 d12.1).2).2).2).2).2).1) (((((((Kiiiiiii_at x2 d12.1).2).2).2).2).2).2) (Mi_Li_get d12.2.2.2.2.2.2.2.2.1 ((((Kiiiiiii_at x2 d12.1).2).2).1) ([] : List Int)) (Mi_Li_get d12.2.2.2.2.2.2.2.2.1 (((((Kiiiiiii_at x2 d12.1).2).2).2).1) ([] : List Int)) (Mi_Li_get d12.2.2.2.2.2.2.2.2.1 ((((((Kiiiiiii_at x2 d12.1).2).2).2).2).1) ([] : List Int))).bind (fun r13 => self (IntKind.wrap .i64 (d12.1 + 1), r13.1, r13.2.1, d12.2.2.2.1, d12.2.2.2.2.1, d12.2.2.2.2.2.1, d12.2.2.2.2.2.2.1, d12.2.2.2.2.2.2.2.1, Mi_Li_put d12.2.2.2.2.2.2.2.2.1 d12.1 r13.2.2.1, ())))))))))
 (some (d12.2.1, d12.2.2.1, d12.2.2.2.1, d12.2.2.2.2.1, d12.2.2.2.2.2.1, d12.2.2.2.2.2.2.1, d12.2.2.2.2.2.2.2.1, d12.2.2.2.2.2.2.2.2.1, ()))
noncomputable def circ_compiler_nodes_i2_l1 (n : Nat) (x2 : List Kiiiiiii) : Int × Int × List Kii × List Kiiiiiii × List Ksi × List Ksiii × List Kisi × List Ksi × List (Int × (List Int)) × Unit → Option ((Int × List Kii × List Kiiiiiii × List Ksi × List Ksiii × List Kisi × List Ksi × List (Int × (List Int)) × Unit)) := iter (circ_compiler_nodes_i2_l1b n x2) n
noncomputable def circ_compiler_nodes_i2 (n : Nat) (x1 : Int) (x2 : List Kiiiiiii) (x3 : List Ksi) (x4 : List Ksiii) (x5 : List Kisi) (x6 : List Ksi) (x7 : List Kiii) (x8 : List (Int × (List Int))) : Option (Int × List Kii × List Kiiiiiii × List Ksi × List Ksiii × List Kisi × List Ksi × List Kiii × List (Int × (List Int)) × Unit) :=
 (circ_compiler_nodes_i2_l1 n x2 (0, x1, ([] : List Kii), x2, x3, x4, x5, x6, x8, ())).bind (fun d14 => some (d14.1, d14.2.1, d14.2.2.1, d14.2.2.2.1, d14.2.2.2.2.1, d14.2.2.2.2.2.1, d14.2.2.2.2.2.2.1, x7, d14.2.2.2.2.2.2.2.1, ()))
def circ_compiler_nodes_i2_s : Sig := ⟨[.c false [.con (.ptr 0 0)]], [(0, .var 109 [.int .i64, .con .nilsl, .con (.own 1 3), .con .nilsl, .con .nilsl, .row Kiiiiiii_, .row Ksi_, .row Ksiii_, .row Kisi_, .row Ksi_, .con (.map 2)]), (1, .row 68 Kiii_), (2, .map false i_ false KLi_)], .t [], [(0, .var 109 [.int .i64, .row Kii_, .con (.own 1 3), .con .nilsl, .con .nilsl, .row Kiiiiiii_, .row Ksi_, .row Ksiii_, .row Kisi_, .row Ksi_, .con (.map 2)]), (1, .row 68 Kiii_), (2, .map false i_ false KLi_)]⟩
def circ_compiler_nodes_i2_a : Ann := .s .d (.b (.l [0, 2, 3, 4, 5, 6, 7, 8, 9, 12, 13, 14, 15, 16, 17, 18, 19, 20, 21, 22, 23, 24, 25, 26, 27, 28, 29, 30, 31, 32, 33, 34, 35, 36, 37, 38, 39, 40, 41, 42, 43, 44, 45, 46, 47, 48, 49, 50, 51, 52, 53, 54, 55, 56, 57, 58, 59, 60, 61, 62, 63, 64, 65, 66, 67] [0, 2] ⟨[(0, .c false [.con (.ptr 0 0)]), (12, .c false [.int .i64])], [(0, .var 109 [.int .i64, .row Kii_, .con (.own 1 3), .con .nilsl, .con .nilsl, .row Kiiiiiii_, .row Ksi_, .row Ksiii_, .row Kisi_, .row Ksi_, .con (.map 2)]), (2, .map false i_ false KLi_)]⟩ [(.exit 0, ⟨[], [(0, .var 109 [.int .i64, .row Kii_, .con (.own 1 3), .con .nilsl, .con .nilsl, .row Kiiiiiii_, .row Ksi_, .row Ksiii_, .row Kisi_, .row Ksi_, .con (.map 2)]), (2, .map false i_ false KLi_)]⟩)] .d))
noncomputable def circ_compiler_nodes_i2_c (n : Nat) : Ctr Try.prog := .of Try.func62 n [blast_Do_c n] circ_compiler_nodes_i2_a circ_compiler_nodes_i2_s (fun d => circ_compiler_nodes_i2 n d.1 d.2.1 d.2.2.1 d.2.2.2.1 d.2.2.2.2.1 d.2.2.2.2.2.1 d.2.2.2.2.2.2.1 d.2.2.2.2.2.2.2.1) fun d => by kernel_rfl
noncomputable def net_First_l1b (n : Nat) (x3 : List Ksiii) (self : Int × List Int × Unit → Option ((List Int × Unit))) (d8 : Int × List Int × Unit) : Option ((List Int × Unit)) :=
 cond (decide (d8.1 < (x3.length : Int)))
 (ask (0 ≤ d8.1 ∧ d8.1 < (x3.length : Int)) (ask (0 ≤ d8.1 ∧ d8.1 < (d8.2.1.length : Int)) (self (IntKind.wrap .i64 (d8.1 + 1), d8.2.1.set d8.1.toNat ((((Ksiii_at x3 d8.1).2).2).2), ()))))
 (some (d8.2.1, ()))
noncomputable def net_First_l1 (n : Nat) (x3 : List Ksiii) : Int × List Int × Unit → Option ((List Int × Unit)) := iter (net_First_l1b n x3) n
noncomputable def net_First (n : Nat) (x1 : List Kiiiiiii) (x2 : List Ksi) (x3 : List Ksiii) (x4 : List Kisi) (x5 : List Ksi) : Option (List Int × Unit) :=
 ask ((0 ≤ (x3.length : Int) ∧ (x3.length : Int) ≤ (x3.length : Int)) ∧ (8 : Int) * (x3.length : Int) ≤ 281474976710656 ∧ (x3.length : Int) ≤ 281474976710656) ((net_First_l1 n x3 (0, List.replicate (x3.length : Int).toNat (0 : Int), ())).bind (fun d9 => some (d9.1, ())))
def net_First_s : Sig := ⟨[.c true [.row Kiiiiiii_, .row Ksi_, .row Ksiii_, .row Kisi_, .row Ksi_]], [], .c false [.row i_], []⟩
def net_First_a : Ann := .s .d (.s .d (.s (.s .d (.b (.l [3, 4, 5, 9, 13, 14, 15, 16, 17, 18, 19, 20, 21, 22, 23] [293] ⟨[(3, .c false [.con (.own 293 1)]), (13, .c false [.int .i64])], [(293, .row 3 i_)]⟩ [(.exit 0, ⟨[(3, .c false [.con (.own 293 1)])], [(293, .row 3 i_)]⟩)] .d))) .d))
noncomputable def net_First_c (n : Nat) : Ctr Try.prog := .of Try.func91 n [] net_First_a net_First_s (fun d => net_First n d.1 d.2.1 d.2.2.1 d.2.2.2.1 d.2.2.2.2.1) fun d => by kernel_rfl
noncomputable def vec_Bits_l1b (n : Nat) (x1 : Int) (x2 : Int) (self : Int × List Bool × Unit → Option ((List Bool × Unit))) (d5 : Int × List Bool × Unit) : Option ((List Bool × Unit)) :=
 cond (decide (d5.1 < x2))
 (ask (0 ≤ d5.1) (ask (0 ≤ d5.1 ∧ d5.1 < (d5.2.1.length : Int)) (self (IntKind.wrap .i64 (d5.1 + 1), d5.2.1.set d5.1.toNat (decide ((bits .and .i64 (shrI .i64 x1 d5.1) 1) = 1)), ()))))
 (some (d5.2.1, ()))
noncomputable def vec_Bits_l1 (n : Nat) (x1 : Int) (x2 : Int) : Int × List Bool × Unit → Option ((List Bool × Unit)) := iter (vec_Bits_l1b n x1 x2) n
noncomputable def vec_Bits (n : Nat) (x1 : Int) (x2 : Int) : Option (List Bool × Unit) :=
 ask ((0 ≤ x2 ∧ x2 ≤ x2) ∧ (1 : Int) * x2 ≤ 281474976710656 ∧ x2 ≤ 281474976710656) ((vec_Bits_l1 n x1 x2 (0, List.replicate x2.toNat false, ())).bind (fun d6 => some (d6.1, ())))
def vec_Bits_s : Sig := ⟨[.c false [.int .i64], .c false [.int .i64]], [], .c false [.row b_], []⟩
def vec_Bits_a : Ann := .s .d (.s .d (.s (.s .d (.b (.l [5, 6, 8, 10, 11, 12, 13, 14, 15, 16, 17, 18, 19, 20, 21] [164] ⟨[(5, .c false [.con (.own 164 1)]), (10, .c false [.int .i64])], [(164, .row 4 b_)]⟩ [(.exit 0, ⟨[(5, .c false [.con (.own 164 1)])], [(164, .row 4 b_)]⟩)] .d))) .d))
noncomputable def vec_Bits_c (n : Nat) : Ctr Try.prog := .of Try.func92 n [] vec_Bits_a vec_Bits_s (fun d => vec_Bits n d.1 d.2.1) fun d => by kernel_rfl
noncomputable def circ_compiler_latches_i2_l1b (n : Nat) (d14 : Int × Int × List Kii × List Kiiiiiii × List Ksi × List Ksiii × List Kisi × List Ksi × List Kiibii × Unit) (r15 : List Bool × Unit) (x5 : List Ksiii) (x8 : List Kiii) (x9 : List (Int × (List Int))) (self : Int × Int × List Kii × List Kiiiiiii × List Ksi × List Ksiii × List Kisi × List Ksi × List Kiibii × Unit → Option ((Int × List Kii × List Kiiiiiii × List Ksi × List Ksiii × List Kisi × List Ksi × List Kiibii × Unit))) (d18 : Int × Int × List Kii × List Kiiiiiii × List Ksi × List Ksiii × List Kisi × List Ksi × List Kiibii × Unit) : Option ((Int × List Kii × List Kiiiiiii × List Ksi × List Ksiii × List Kisi × List Ksi × List Kiibii × Unit)) :=
 cond (decide (d18.1 < (r15.1.length : Int)))
 (ask (0 ≤ d18.1 ∧ d18.1 < (r15.1.length : Int)) (ask (True) (ask (0 ≤ d18.1 ∧ d18.1 < ((Mi_Li_get x9 ((((Ksiii_at x5 d14.1).2).2).1) ([] : List Int)).length : Int)) (ask (True ∧ (d18.2.2.2.2.2.2.2.2.1.length + (([(IntKind.wrap .i64 ((IntKind.wrap .i64 ((x8.length : Int) + (d18.2.2.2.2.2.2.2.2.1.length : Int))) + 1), Ki_at (Mi_Li_get x9 ((((Ksiii_at x5 d14.1).2).2).1) ([] : List Int)) d18.1, Kb_at r15.1 d18.1, d14.1, d18.1)] : List Kiibii)).length) * 40 ≤ 140737488355328) (self (IntKind.wrap .i64 (d18.1 + 1), d18.2.1, d18.2.2.1, d18.2.2.2.1, d18.2.2.2.2.1, d18.2.2.2.2.2.1, d18.2.2.2.2.2.2.1, d18.2.2.2.2.2.2.2.1, d18.2.2.2.2.2.2.2.2.1 ++ ([(IntKind.wrap .i64 ((IntKind.wrap .i64 ((x8.length : Int) + (d18.2.2.2.2.2.2.2.2.1.length : Int))) + 1), Ki_at (Mi_Li_get x9 ((((Ksiii_at x5 d14.1).2).2).1) ([] : List Int)) d18.1, Kb_at r15.1 d18.1, d14.1, d18.1)] : List Kiibii), ()))))))
 (some (d18.2.1, d18.2.2.1, d18.2.2.2.1, d18.2.2.2.2.1, d18.2.2.2.2.2.1, d18.2.2.2.2.2.2.1, d18.2.2.2.2.2.2.2.1, d18.2.2.2.2.2.2.2.2.1, ()))
noncomputable def circ_compiler_latches_i2_l1 (n : Nat) (d14 : Int × Int × List Kii × List Kiiiiiii × List Ksi × List Ksiii × List Kisi × List Ksi × List Kiibii × Unit) (r15 : List Bool × Unit) (x5 : List Ksiii) (x8 : List Kiii) (x9 : List (Int × (List Int))) : Int × Int × List Kii × List Kiiiiiii × List Ksi × List Ksiii × List Kisi × List Ksi × List Kiibii × Unit → Option ((Int × List Kii × List Kiiiiiii × List Ksi × List Ksiii × List Kisi × List Ksi × List Kiibii × Unit)) := iter (circ_compiler_latches_i2_l1b n d14 r15 x5 x8 x9) n
noncomputable def circ_compiler_latches_i2_l2b (n : Nat) (r10 : List Int × Unit) (x5 : List Ksiii) (x8 : List Kiii) (x9 : List (Int × (List Int))) (self : Int × Int × List Kii × List Kiiiiiii × List Ksi × List Ksiii × List Kisi × List Ksi × List Kiibii × Unit → Option ((Int × List Kii × List Kiiiiiii × List Ksi × List Ksiii × List Kisi × List Ksi × List Kiibii × Unit))) (d14 : Int × Int × List Kii × List Kiiiiiii × List Ksi × List Ksiii × List Kisi × List Ksi × List Kiibii × Unit) : Option ((Int × List Kii × List Kiiiiiii × List Ksi × List Ksiii × List Kisi × List Ksi × List Kiibii × Unit)) :=
 cond (decide (d14.1 < (x5.length : Int)))
 (ask (0 ≤ d14.1 ∧ d14.1 < (x5.length : Int)) (ask (0 ≤ d14.1 ∧ d14.1 < (r10.1.length : Int)) (ask (0 ≤ (((Ksiii_at x5 d14.1).2).1) ∧ ((Ksiii_at x5 d14.1).2).1 < (d14.2.2.2.1.length : Int)) ((vec_Bits n (Ki_at r10.1 d14.1) (((Kiiiiiii_at d14.2.2.2.1 (((Ksiii_at x5 d14.1).2).1)).2).1)).bind (fun r15 => (circ_compiler_latches_i2_l1 n d14 r15 x5 x8 x9 (0, d14.2.1, d14.2.2.1, d14.2.2.2.1, d14.2.2.2.2.1, d14.2.2.2.2.2.1, d14.2.2.2.2.2.2.1, d14.2.2.2.2.2.2.2.1, d14.2.2.2.2.2.2.2.2.1, ())).bind (fun d19 => self (IntKind.wrap .i64 (d14.1 + 1), d19.1, d19.2.1, d19.2.2.1, d19.2.2.2.1, d19.2.2.2.2.1, d19.2.2.2.2.2.1, d19.2.2.2.2.2.2.1, d19.2.2.2.2.2.2.2.1, ())))))))
 (some (d14.2.1, d14.2.2.1, d14.2.2.2.1, d14.2.2.2.2.1, d14.2.2.2.2.2.1, d14.2.2.2.2.2.2.1, d14.2.2.2.2.2.2.2.1, d14.2.2.2.2.2.2.2.2.1, ()))
noncomputable def circ_compiler_latches_i2_l2 (n : Nat) (r10 : List Int × Unit) (x5 : List Ksiii) (x8 : List Kiii) (x9 : List (Int × (List Int))) : Int × Int × List Kii × List Kiiiiiii × List Ksi × List Ksiii × List Kisi × List Ksi × List Kiibii × Unit → Option ((Int × List Kii × List Kiiiiiii × List Ksi × List Ksiii × List Kisi × List Ksi × List Kiibii × Unit)) := iter (circ_compiler_latches_i2_l2b n r10 x5 x8 x9) n
noncomputable def circ_compiler_latches_i2 (n : Nat) (x1 : Int) (x2 : List Kii) (x3 : List Kiiiiiii) (x4 : List Ksi) (x5 : List Ksiii) (x6 : List Kisi) (x7 : List Ksi) (x8 : List Kiii) (x9 : List (Int × (List Int))) : Option (Int × List Kii × List Kiibii × List Kiiiiiii × List Ksi × List Ksiii × List Kisi × List Ksi × List Kiii × List (Int × (List Int)) × Unit) :=
 (net_First n x3 x4 x5 x6 x7).bind (fun r10 => (circ_compiler_latches_i2_l2 n r10 x5 x8 x9 (0, x1, x2, x3, x4, x5, x6, x7, ([] : List Kiibii), ())).bind (fun d20 => some (d20.1, d20.2.1, d20.2.2.2.2.2.2.2.1, d20.2.2.1, d20.2.2.2.1, d20.2.2.2.2.1, d20.2.2.2.2.2.1, d20.2.2.2.2.2.2.1, x8, x9, ())))
def circ_compiler_latches_i2_s : Sig := ⟨[.c false [.con (.ptr 0 0)]], [(0, .var 109 [.int .i64, .row Kii_, .con (.own 1 3), .con .nilsl, .con .nilsl, .row Kiiiiiii_, .row Ksi_, .row Ksiii_, .row Kisi_, .row Ksi_, .con (.map 2)]), (1, .row 68 Kiii_), (2, .map false i_ false KLi_)], .t [], [(0, .var 109 [.int .i64, .row Kii_, .con (.own 1 3), .row Kiibii_, .con .nilsl, .row Kiiiiiii_, .row Ksi_, .row Ksiii_, .row Kisi_, .row Ksi_, .con (.map 2)]), (1, .row 68 Kiii_), (2, .map false i_ false KLi_)]⟩
def circ_compiler_latches_i2_a : Ann := .s .d (.s .d (.b (.l [0, 3, 4, 5, 6, 7, 8, 9, 10, 13, 14, 15, 16, 19, 20, 21, 22, 23, 24, 25, 26, 27, 28, 29, 30, 31, 32, 33, 34, 35, 36, 37, 38, 39, 40, 41, 42, 43, 44, 45, 46, 47, 48, 49, 50, 51, 52, 53, 54, 55, 56, 57, 58, 59, 60, 61, 62, 63, 64, 65, 66, 67, 68, 69, 70, 71, 72, 73, 74, 75, 76, 77, 78, 79, 80, 81, 82, 83, 84, 85, 86] [0] ⟨[(0, .c false [.con (.ptr 0 0)]), (19, .c false [.int .i64])], [(0, .var 109 [.int .i64, .row Kii_, .con (.own 1 3), .con (.own 100000 5), .con .nilsl, .row Kiiiiiii_, .row Ksi_, .row Ksiii_, .row Kisi_, .row Ksi_, .con (.map 2)]), (100000, .row 70 Kiibii_)]⟩ [(.exit 0, ⟨[], [(0, .var 109 [.int .i64, .row Kii_, .con (.own 1 3), .con (.own 100000 5), .con .nilsl, .row Kiiiiiii_, .row Ksi_, .row Ksiii_, .row Kisi_, .row Ksi_, .con (.map 2)]), (100000, .row 70 Kiibii_)]⟩)] (.s .d (.s .d (.s (.b (.s .d (.s .d (.b (.l [0, 5, 6, 7, 28, 29, 30, 31, 40, 41, 42, 43, 44, 45, 46, 47, 48, 49, 50, 51, 52, 53, 54, 55, 56, 57, 58, 59, 60, 61, 62, 63, 64, 65, 66, 67, 68, 69, 70, 71, 72, 73, 74, 75, 76, 77, 78, 79, 80, 81, 82, 83, 84, 85] [0, 100000] ⟨[(0, .c false [.con (.ptr 0 0)]), (40, .c false [.int .i64])], [(0, .var 109 [.int .i64, .row Kii_, .con (.own 1 3), .con (.own 100000 5), .con .nilsl, .row Kiiiiiii_, .row Ksi_, .row Ksiii_, .row Kisi_, .row Ksi_, .con (.map 2)]), (100000, .row 70 Kiibii_)]⟩ [(.exit 2, ⟨[(0, .c false [.con (.ptr 0 0)])], [(0, .var 109 [.int .i64, .row Kii_, .con (.own 1 3), .con (.own 100000 5), .con .nilsl, .row Kiiiiiii_, .row Ksi_, .row Ksiii_, .row Kisi_, .row Ksi_, .con (.map 2)]), (100000, .row 70 Kiibii_)]⟩)] .d))))) .d))))))
noncomputable def circ_compiler_latches_i2_c (n : Nat) : Ctr Try.prog := .of Try.func63 n [net_First_c n, vec_Bits_c n] circ_compiler_latches_i2_a circ_compiler_latches_i2_s (fun d => circ_compiler_latches_i2 n d.1 d.2.1 d.2.2.1 d.2.2.2.1 d.2.2.2.2.1 d.2.2.2.2.2.1 d.2.2.2.2.2.2.1 d.2.2.2.2.2.2.2.1 d.2.2.2.2.2.2.2.2.1) fun d => by kernel_rfl
noncomputable def circ_Compile_l1b (n : Nat) (d9 : Int × Int × List Kiiiiiii × List Ksi × List Ksiii × List Kisi × List Ksi × List Int × List Kiii × Unit) (x1 : List Kiiiiiii) (x2 : List Ksi) (self : Int × Int × List Kiiiiiii × List Ksi × List Ksiii × List Kisi × List Ksi × List Kiii × Unit → Option ((Int × List Kiiiiiii × List Ksi × List Ksiii × List Kisi × List Ksi × List Kiii × Unit))) (d12 : Int × Int × List Kiiiiiii × List Ksi × List Ksiii × List Kisi × List Ksi × List Kiii × Unit) : Option ((Int × List Kiiiiiii × List Ksi × List Ksiii × List Kisi × List Ksi × List Kiii × Unit)) :=
 cond (decide (d12.1 < (((Kiiiiiii_at x1 ((Ksi_at x2 d9.1).2)).2).1)))
 (ask (True ∧ (d12.2.2.2.2.2.2.2.1.length + (([(IntKind.wrap .i64 ((d12.2.2.2.2.2.2.2.1.length : Int) + 1), d9.1, d12.1)] : List Kiii)).length) * 24 ≤ 140737488355328) (self (IntKind.wrap .i64 (d12.1 + 1), d12.2.1, d12.2.2.1, d12.2.2.2.1, d12.2.2.2.2.1, d12.2.2.2.2.2.1, d12.2.2.2.2.2.2.1, d12.2.2.2.2.2.2.2.1 ++ ([(IntKind.wrap .i64 ((d12.2.2.2.2.2.2.2.1.length : Int) + 1), d9.1, d12.1)] : List Kiii), ())))
 (some (d12.2.1, d12.2.2.1, d12.2.2.2.1, d12.2.2.2.2.1, d12.2.2.2.2.2.1, d12.2.2.2.2.2.2.1, d12.2.2.2.2.2.2.2.1, ()))
noncomputable def circ_Compile_l1 (n : Nat) (d9 : Int × Int × List Kiiiiiii × List Ksi × List Ksiii × List Kisi × List Ksi × List Int × List Kiii × Unit) (x1 : List Kiiiiiii) (x2 : List Ksi) : Int × Int × List Kiiiiiii × List Ksi × List Ksiii × List Kisi × List Ksi × List Kiii × Unit → Option ((Int × List Kiiiiiii × List Ksi × List Ksiii × List Kisi × List Ksi × List Kiii × Unit)) := iter (circ_Compile_l1b n d9 x1 x2) n
noncomputable def circ_Compile_l2b (n : Nat) (x1 : List Kiiiiiii) (x2 : List Ksi) (self : Int × Int × List Kiiiiiii × List Ksi × List Ksiii × List Kisi × List Ksi × List Int × List Kiii × Unit → Option ((Int × List Kiiiiiii × List Ksi × List Ksiii × List Kisi × List Ksi × List Int × List Kiii × Unit))) (d9 : Int × Int × List Kiiiiiii × List Ksi × List Ksiii × List Kisi × List Ksi × List Int × List Kiii × Unit) : Option ((Int × List Kiiiiiii × List Ksi × List Ksiii × List Kisi × List Ksi × List Int × List Kiii × Unit)) :=
 cond (decide (d9.1 < (x2.length : Int)))
 (ask (0 ≤ d9.1 ∧ d9.1 < (x2.length : Int)) (ask (True ∧ (d9.2.2.2.2.2.2.2.1.length + (([(Ksi_at x2 d9.1).2] : List Int)).length) * 8 ≤ 140737488355328) (ask (0 ≤ ((Ksi_at x2 d9.1).2) ∧ (Ksi_at x2 d9.1).2 < (x1.length : Int)) ((circ_Compile_l1 n d9 x1 x2 (0, d9.2.1, d9.2.2.1, d9.2.2.2.1, d9.2.2.2.2.1, d9.2.2.2.2.2.1, d9.2.2.2.2.2.2.1, d9.2.2.2.2.2.2.2.2.1, ())).bind (fun d13 => self (IntKind.wrap .i64 (d9.1 + 1), d13.1, d13.2.1, d13.2.2.1, d13.2.2.2.1, d13.2.2.2.2.1, d13.2.2.2.2.2.1, d9.2.2.2.2.2.2.2.1 ++ ([(Ksi_at x2 d9.1).2] : List Int), d13.2.2.2.2.2.2.1, ()))))))
 (some (d9.2.1, d9.2.2.1, d9.2.2.2.1, d9.2.2.2.2.1, d9.2.2.2.2.2.1, d9.2.2.2.2.2.2.1, d9.2.2.2.2.2.2.2.1, d9.2.2.2.2.2.2.2.2.1, ()))
noncomputable def circ_Compile_l2 (n : Nat) (x1 : List Kiiiiiii) (x2 : List Ksi) : Int × Int × List Kiiiiiii × List Ksi × List Ksiii × List Kisi × List Ksi × List Int × List Kiii × Unit → Option ((Int × List Kiiiiiii × List Ksi × List Ksiii × List Kisi × List Ksi × List Int × List Kiii × Unit)) := iter (circ_Compile_l2b n x1 x2) n
noncomputable def circ_Compile_l3b (n : Nat) (x3 : List Ksiii) (self : Int × List Int × Unit → Option ((List Int × Unit))) (d16 : Int × List Int × Unit) : Option ((List Int × Unit)) :=
 cond (decide (d16.1 < (x3.length : Int)))
 (ask (0 ≤ d16.1 ∧ d16.1 < (x3.length : Int)) (ask (True ∧ (d16.2.1.length + (([((Ksiii_at x3 d16.1).2).1] : List Int)).length) * 8 ≤ 140737488355328) (self (IntKind.wrap .i64 (d16.1 + 1), d16.2.1 ++ ([((Ksiii_at x3 d16.1).2).1] : List Int), ()))))
 (some (d16.2.1, ()))
noncomputable def circ_Compile_l3 (n : Nat) (x3 : List Ksiii) : Int × List Int × Unit → Option ((List Int × Unit)) := iter (circ_Compile_l3b n x3) n
noncomputable def circ_Compile_l4b (n : Nat) (r18 : Int × Int × List Kiiiiiii × List Ksi × List Ksiii × List Kisi × List Ksi × List Int × List Kiii × List (Int × (List Int)) × Unit) (r19 : Int × Int × List Kiiiiiii × List Ksi × List Ksiii × List Kisi × List Ksi × List Int × List Kiii × List (Int × (List Int)) × Unit) (self : Int × Int × Int × List Kiiiiiii × List Ksi × List Ksiii × List Kisi × List Ksi × List Kiii × List (Int × (List Int)) × Unit → Option ((Int × List Kiiiiiii × List Ksi × List Ksiii × List Kisi × List Ksi × List Kiii × List (Int × (List Int)) × Unit))) (d23 : Int × Int × Int × List Kiiiiiii × List Ksi × List Ksiii × List Kisi × List Ksi × List Kiii × List (Int × (List Int)) × Unit) : Option ((Int × List Kiiiiiii × List Ksi × List Ksiii × List Kisi × List Ksi × List Kiii × List (Int × (List Int)) × Unit)) :=
 cond (decide (d23.2.1 < ((r18.2.2.2.2.2.2.2.1 ++ r19.2.2.2.2.2.2.2.1).length : Int)))
 (ask (0 ≤ d23.2.1 ∧ d23.2.1 < ((r18.2.2.2.2.2.2.2.1 ++ r19.2.2.2.2.2.2.2.1).length : Int)) ((circ_compiler_vars_i2 n (Ki_at (r18.2.2.2.2.2.2.2.1 ++ r19.2.2.2.2.2.2.2.1) d23.2.1) d23.1 d23.2.2.1 d23.2.2.2.1 d23.2.2.2.2.1 d23.2.2.2.2.2.1 d23.2.2.2.2.2.2.1 d23.2.2.2.2.2.2.2.1 d23.2.2.2.2.2.2.2.2.1 d23.2.2.2.2.2.2.2.2.2.1).bind (fun r24 => self (r24.1, IntKind.wrap .i64 (d23.2.1 + 1), r24.2.1, r24.2.2.1, r24.2.2.2.1, r24.2.2.2.2.1, r24.2.2.2.2.2.1, r24.2.2.2.2.2.2.1, r24.2.2.2.2.2.2.2.1, r24.2.2.2.2.2.2.2.2.1, ()))))
 (some (d23.2.2.1, d23.2.2.2.1, d23.2.2.2.2.1, d23.2.2.2.2.2.1, d23.2.2.2.2.2.2.1, d23.2.2.2.2.2.2.2.1, d23.2.2.2.2.2.2.2.2.1, d23.2.2.2.2.2.2.2.2.2.1, ()))
noncomputable def circ_Compile_l4 (n : Nat) (r18 : Int × Int × List Kiiiiiii × List Ksi × List Ksiii × List Kisi × List Ksi × List Int × List Kiii × List (Int × (List Int)) × Unit) (r19 : Int × Int × List Kiiiiiii × List Ksi × List Ksiii × List Kisi × List Ksi × List Int × List Kiii × List (Int × (List Int)) × Unit) : Int × Int × Int × List Kiiiiiii × List Ksi × List Ksiii × List Kisi × List Ksi × List Kiii × List (Int × (List Int)) × Unit → Option ((Int × List Kiiiiiii × List Ksi × List Ksiii × List Kisi × List Ksi × List Kiii × List (Int × (List Int)) × Unit)) := iter (circ_Compile_l4b n r18 r19) n
noncomputable def circ_Compile_l5b (n : Nat) (r27 : Int × List Kii × List Kiibii × List Kiiiiiii × List Ksi × List Ksiii × List Kisi × List Ksi × List Kiii × List (Int × (List Int)) × Unit) (x4 : List Kisi) (self : Int × Int × List Kii × List Kiibii × List Kiiiiiii × List Ksi × List Ksiii × List Kisi × List Ksi × List Kiii × Unit → Option ((Int × List Kii × List Kiibii × List Kiiiiiii × List Ksi × List Ksiii × List Kisi × List Ksi × List Kiii × Unit))) (d31 : Int × Int × List Kii × List Kiibii × List Kiiiiiii × List Ksi × List Ksiii × List Kisi × List Ksi × List Kiii × Unit) : Option ((Int × List Kii × List Kiibii × List Kiiiiiii × List Ksi × List Ksiii × List Kisi × List Ksi × List Kiii × Unit)) :=
 cond (decide (d31.1 < (x4.length : Int)))
 (ask (0 ≤ d31.1 ∧ d31.1 < (x4.length : Int)) (ask (True) (ask (0 ≤ (0 : Int) ∧ 0 < ((Mi_Li_get r27.2.2.2.2.2.2.2.2.2.1 (((Kisi_at x4 d31.1).2).2) ([] : List Int)).length : Int)) (ask (True ∧ (d31.2.2.2.2.2.2.2.2.2.1.length + (([((Kisi_at x4 d31.1).1, Ki_at (Mi_Li_get r27.2.2.2.2.2.2.2.2.2.1 (((Kisi_at x4 d31.1).2).2) ([] : List Int)) 0, d31.1)] : List Kiii)).length) * 24 ≤ 140737488355328) (self (IntKind.wrap .i64 (d31.1 + 1), d31.2.1, d31.2.2.1, d31.2.2.2.1, d31.2.2.2.2.1, d31.2.2.2.2.2.1, d31.2.2.2.2.2.2.1, d31.2.2.2.2.2.2.2.1, d31.2.2.2.2.2.2.2.2.1, d31.2.2.2.2.2.2.2.2.2.1 ++ ([((Kisi_at x4 d31.1).1, Ki_at (Mi_Li_get r27.2.2.2.2.2.2.2.2.2.1 (((Kisi_at x4 d31.1).2).2) ([] : List Int)) 0, d31.1)] : List Kiii), ()))))))
 (some (d31.2.1, d31.2.2.1, d31.2.2.2.1, d31.2.2.2.2.1, d31.2.2.2.2.2.1, d31.2.2.2.2.2.2.1, d31.2.2.2.2.2.2.2.1, d31.2.2.2.2.2.2.2.2.1, d31.2.2.2.2.2.2.2.2.2.1, ()))
noncomputable def circ_Compile_l5 (n : Nat) (r27 : Int × List Kii × List Kiibii × List Kiiiiiii × List Ksi × List Ksiii × List Kisi × List Ksi × List Kiii × List (Int × (List Int)) × Unit) (x4 : List Kisi) : Int × Int × List Kii × List Kiibii × List Kiiiiiii × List Ksi × List Ksiii × List Kisi × List Ksi × List Kiii × Unit → Option ((Int × List Kii × List Kiibii × List Kiiiiiii × List Ksi × List Ksiii × List Kisi × List Ksi × List Kiii × Unit)) := iter (circ_Compile_l5b n r27 x4) n
noncomputable def circ_Compile (n : Nat) (x1 : List Kiiiiiii) (x2 : List Ksi) (x3 : List Ksiii) (x4 : List Kisi) (x5 : List Ksi) : Option (Int × List Kii × List Kiii × List Kiibii × List Kiii × Unit) :=
 (circ_Compile_l2 n x1 x2 (0, 0, x1, x2, x3, x4, x5, ([] : List Int), ([] : List Kiii), ())).bind (fun d14 => (circ_Compile_l3 n x3 (0, ([] : List Int), ())).bind (fun d17 => (circ_compiler_wide_i2 n d14.1 d14.2.1 d14.2.2.1 d14.2.2.2.1 d14.2.2.2.2.1 d14.2.2.2.2.2.1 d14.2.2.2.2.2.2.1 d14.2.2.2.2.2.2.2.1 ([] : List (Int × (List Int)))).bind (fun r18 => (circ_compiler_wide_i2 n r18.2.1 r18.2.2.1 r18.2.2.2.1 r18.2.2.2.2.1 r18.2.2.2.2.2.1 r18.2.2.2.2.2.2.1 d17.1 r18.2.2.2.2.2.2.2.2.1 r18.2.2.2.2.2.2.2.2.2.1).bind (fun r19 => (aig_New n (IntKind.wrap .i64 (r18.1 + r19.1))).bind (fun r20 => ask (True ∧ (r18.2.2.2.2.2.2.2.1.length + r19.2.2.2.2.2.2.2.1.length) * 8 ≤ 140737488355328) ((circ_Compile_l4 n r18 r19 (1, 0, r20.1, r19.2.2.1, r19.2.2.2.1, r19.2.2.2.2.1, r19.2.2.2.2.2.1, r19.2.2.2.2.2.2.1, r19.2.2.2.2.2.2.2.2.1, r19.2.2.2.2.2.2.2.2.2.1, ())).bind (fun d25 => (circ_compiler_nodes_i2 n d25.1 d25.2.1 d25.2.2.1 d25.2.2.2.1 d25.2.2.2.2.1 d25.2.2.2.2.2.1 d25.2.2.2.2.2.2.1 d25.2.2.2.2.2.2.2.1).bind (fun r26 => (circ_compiler_latches_i2 n r26.1 r26.2.1 r26.2.2.1 r26.2.2.2.1 r26.2.2.2.2.1 r26.2.2.2.2.2.1 r26.2.2.2.2.2.2.1 r26.2.2.2.2.2.2.2.1 r26.2.2.2.2.2.2.2.2.1).bind (fun r27 => (circ_Compile_l5 n r27 x4 (0, r27.1, r27.2.1, r27.2.2.1, r27.2.2.2.1, r27.2.2.2.2.1, r27.2.2.2.2.2.1, r27.2.2.2.2.2.2.1, r27.2.2.2.2.2.2.2.1, ([] : List Kiii), ())).bind (fun d32 => some (d32.1, d32.2.1, r27.2.2.2.2.2.2.2.2.1, d32.2.2.1, d32.2.2.2.2.2.2.2.2.1, ())))))))))))
def circ_Compile_s : Sig := ⟨[.c true [.row Kiiiiiii_, .row Ksi_, .row Ksiii_, .row Kisi_, .row Ksi_]], [], .c true [.int .i64, .row Kii_, .row Kiii_, .row Kiibii_, .row Kiii_], []⟩
def circ_Compile_a : Ann := .s .d (.s .d (.s .d (.s (.s .d (.b (.l [3, 4, 6, 7, 8, 19, 23, 24, 25, 26, 27, 28, 29, 30, 31, 32, 33, 34, 35, 36, 37, 38, 39, 40, 41, 42, 43, 44, 45, 46, 47, 48, 49, 50, 51, 52, 53, 54, 55, 56, 57, 58, 59, 60, 61, 62, 63, 64, 65] [357] ⟨[(3, .c false [.con (.ptr 357 0)]), (4, .c false [.con (.own 100000 1)]), (23, .c false [.int .i64])], [(357, .var 109 [.int .i64, .con .nilsl, .con (.own 200000 3), .con .nilsl, .con .nilsl, .row Kiiiiiii_, .row Ksi_, .row Ksiii_, .row Kisi_, .row Ksi_, .con (.map 229)]), (100000, .row 3 i_), (200000, .row 68 Kiii_)]⟩ [(.exit 0, ⟨[(3, .c false [.con (.ptr 357 0)]), (4, .c false [.con (.own 100000 1)])], [(357, .var 109 [.int .i64, .con .nilsl, .con (.own 200000 3), .con .nilsl, .con .nilsl, .row Kiiiiiii_, .row Ksi_, .row Ksiii_, .row Kisi_, .row Ksi_, .con (.map 229)]), (100000, .row 3 i_), (200000, .row 68 Kiii_)]⟩)] (.s .d (.s .d (.s (.b (.s .d (.s .d (.s .d (.b (.l [3, 8, 40, 41, 42, 43, 44, 45, 46, 47, 48, 49, 50, 51, 52, 53, 54, 55, 56, 57, 58, 59, 60, 61, 62, 63, 64] [357, 200000] ⟨[(3, .c false [.con (.ptr 357 0)]), (40, .c false [.int .i64])], [(357, .var 109 [.int .i64, .con .nilsl, .con (.own 200000 3), .con .nilsl, .con .nilsl, .row Kiiiiiii_, .row Ksi_, .row Ksiii_, .row Kisi_, .row Ksi_, .con (.map 229)]), (200000, .row 68 Kiii_)]⟩ [(.exit 2, ⟨[(3, .c false [.con (.ptr 357 0)])], [(357, .var 109 [.int .i64, .con .nilsl, .con (.own 200000 3), .con .nilsl, .con .nilsl, .row Kiiiiiii_, .row Ksi_, .row Ksiii_, .row Kisi_, .row Ksi_, .con (.map 229)]), (200000, .row 68 Kiii_)]⟩)] .d)))))) .d)))))) (.s (.s .d (.b (.l [5, 10, 69, 70, 71, 72, 73, 74, 75, 76, 77, 78] [] ⟨[(5, .c false [.con (.own 300000 1)]), (69, .c false [.int .i64])], [(300000, .row 3 i_)]⟩ [(.exit 4, ⟨[(5, .c false [.con (.own 300000 1)])], [(300000, .row 3 i_)]⟩)] .d))) (.s .d (.s .d (.s (.s .d (.b (.l [3, 11, 13, 17, 18, 79, 80, 83, 88, 89, 90, 95, 96, 97, 98, 99, 100, 101, 102, 103] [229, 357, 200000] ⟨[(3, .c false [.con (.ptr 357 0)]), (11, .c false [.int .i64]), (95, .c false [.int .i64])], [(357, .var 109 [.int .i64, .con .nilsl, .con (.own 200000 3), .con .nilsl, .con .nilsl, .row Kiiiiiii_, .row Ksi_, .row Ksiii_, .row Kisi_, .row Ksi_, .con (.map 229)]), (200000, .row 68 Kiii_), (229, .map false i_ false KLi_)]⟩ [(.exit 6, ⟨[(3, .c false [.con (.ptr 357 0)])], [(357, .var 109 [.int .i64, .con .nilsl, .con (.own 200000 3), .con .nilsl, .con .nilsl, .row Kiiiiiii_, .row Ksi_, .row Ksiii_, .row Kisi_, .row Ksi_, .con (.map 229)]), (200000, .row 68 Kiii_), (229, .map false i_ false KLi_)]⟩)] .d))) (.s .d (.s .d (.s (.s .d (.b (.l [3, 14, 15, 104, 106, 111, 112, 113, 114, 115, 116, 117, 118, 119, 120, 121, 122, 123, 124, 125, 126, 127, 128, 129, 130, 131, 132, 133, 134, 135, 136, 137, 138, 139, 140] [357] ⟨[(3, .c false [.con (.ptr 357 0)]), (111, .c false [.int .i64])], [(357, .var 109 [.int .i64, .row Kii_, .con (.own 200000 3), .row Kiibii_, .con (.own 400000 3), .row Kiiiiiii_, .row Ksi_, .row Ksiii_, .row Kisi_, .row Ksi_, .con (.map 229)]), (400000, .row 53 Kiii_)]⟩ [(.exit 8, ⟨[(3, .c false [.con (.ptr 357 0)])], [(357, .var 109 [.int .i64, .row Kii_, .con (.own 200000 3), .row Kiibii_, .con (.own 400000 3), .row Kiiiiiii_, .row Ksi_, .row Ksiii_, .row Kisi_, .row Ksi_, .con (.map 229)]), (400000, .row 53 Kiii_)]⟩)] .d))) .d))))))))))
noncomputable def circ_Compile_c (n : Nat) : Ctr Try.prog := .of Try.func21 n [circ_compiler_wide_i2_c n, aig_New_c n, circ_compiler_vars_i2_c n, circ_compiler_nodes_i2_c n, circ_compiler_latches_i2_c n] circ_Compile_a circ_Compile_s (fun d => circ_Compile n d.1 d.2.1 d.2.2.1 d.2.2.2.1 d.2.2.2.2.1) fun d => by kernel_rfl
noncomputable def law16_bits_l1b (n : Nat) (x1 : List Bool) (x2 : Int) (self : Int × List Bool × Unit → Option ((List Bool × Unit))) (d4 : Int × List Bool × Unit) : Option ((List Bool × Unit)) :=
 cond (decide (d4.1 < x2))
 (cond (decide (d4.1 < (x1.length : Int)))
 (ask (0 ≤ d4.1 ∧ d4.1 < (x1.length : Int)) (ask (True ∧ (d4.2.1.length + (([Kb_at x1 d4.1] : List Bool)).length) * 1 ≤ 140737488355328) (self (IntKind.wrap .i64 (d4.1 + 1), d4.2.1 ++ ([Kb_at x1 d4.1] : List Bool), ()))))
 (ask (True ∧ (d4.2.1.length + (([false] : List Bool)).length) * 1 ≤ 140737488355328) (self (IntKind.wrap .i64 (d4.1 + 1), d4.2.1 ++ ([false] : List Bool), ()))))
 (some (d4.2.1, ()))
noncomputable def law16_bits_l1 (n : Nat) (x1 : List Bool) (x2 : Int) : Int × List Bool × Unit → Option ((List Bool × Unit)) := iter (law16_bits_l1b n x1 x2) n
noncomputable def law16_bits (n : Nat) (x1 : List Bool) (x2 : Int) : Option (List Bool × Unit) :=
 (law16_bits_l1 n x1 x2 (0, ([] : List Bool), ())).bind (fun d5 => some (d5.1, ()))
def law16_bits_s : Sig := ⟨[.c false [.row b_], .c false [.int .i64]], [], .c false [.row b_], []⟩
def law16_bits_a : Ann := .s .d (.s .d (.s (.s .d (.b (.l [5, 6, 7, 8, 9, 10, 11, 12, 13, 14, 15, 16, 17, 18, 19, 20, 21, 22, 23, 24] [] ⟨[(5, .c false [.con (.own 100000 1)]), (6, .c false [.int .i64])], [(100000, .row 4 b_)]⟩ [(.exit 0, ⟨[(5, .c false [.con (.own 100000 1)])], [(100000, .row 4 b_)]⟩)] .d))) .d))
noncomputable def law16_bits_c (n : Nat) : Ctr Try.prog := .of Try.func23 n [] law16_bits_a law16_bits_s (fun d => law16_bits n d.1 d.2.1) fun d => by kernel_rfl
noncomputable def law16_pick_l1b (n : Nat) (x1 : List Bool) (x2 : List Int) (self : Int × List Bool × Unit → Option ((List Bool × Unit))) (d4 : Int × List Bool × Unit) : Option ((List Bool × Unit)) :=
 cond (decide (d4.1 < (x2.length : Int)))
 (ask (0 ≤ d4.1 ∧ d4.1 < (x2.length : Int)) (cond (decide ((0 : Int) ≤ (Ki_at x2 d4.1)))
 (ask (0 ≤ d4.1 ∧ d4.1 < (x2.length : Int)) (cond (decide ((Ki_at x2 d4.1) < (x1.length : Int)))
 (ask (0 ≤ d4.1 ∧ d4.1 < (x2.length : Int)) (ask (0 ≤ (Ki_at x2 d4.1) ∧ Ki_at x2 d4.1 < (x1.length : Int)) (ask (True ∧ (d4.2.1.length + (([Kb_at x1 (Ki_at x2 d4.1)] : List Bool)).length) * 1 ≤ 140737488355328) (self (IntKind.wrap .i64 (d4.1 + 1), d4.2.1 ++ ([Kb_at x1 (Ki_at x2 d4.1)] : List Bool), ())))))
 (ask (True ∧ (d4.2.1.length + (([false] : List Bool)).length) * 1 ≤ 140737488355328) (self (IntKind.wrap .i64 (d4.1 + 1), d4.2.1 ++ ([false] : List Bool), ())))))
 (ask (True ∧ (d4.2.1.length + (([false] : List Bool)).length) * 1 ≤ 140737488355328) (self (IntKind.wrap .i64 (d4.1 + 1), d4.2.1 ++ ([false] : List Bool), ())))))
 (some (d4.2.1, ()))
noncomputable def law16_pick_l1 (n : Nat) (x1 : List Bool) (x2 : List Int) : Int × List Bool × Unit → Option ((List Bool × Unit)) := iter (law16_pick_l1b n x1 x2) n
noncomputable def law16_pick (n : Nat) (x1 : List Bool) (x2 : List Int) : Option (List Bool × Unit) :=
 (law16_pick_l1 n x1 x2 (0, ([] : List Bool), ())).bind (fun d5 => some (d5.1, ()))
def law16_pick_s : Sig := ⟨[.c false [.row b_], .c false [.row i_]], [], .c false [.row b_], []⟩
def law16_pick_a : Ann := .s .d (.s .d (.s (.s .d (.b (.l [5, 6, 7, 8, 9, 10, 11, 12, 13, 14, 15, 16, 17, 18, 19, 20, 21, 22, 23, 24, 25, 26, 27, 28, 29, 30, 31, 32, 33, 34, 35, 36, 37, 38] [] ⟨[(5, .c false [.con (.own 100000 1)]), (6, .c false [.int .i64])], [(100000, .row 4 b_)]⟩ [(.exit 0, ⟨[(5, .c false [.con (.own 100000 1)])], [(100000, .row 4 b_)]⟩)] .d))) .d))
noncomputable def law16_pick_c (n : Nat) : Ctr Try.prog := .of Try.func25 n [] law16_pick_a law16_pick_s (fun d => law16_pick n d.1 d.2.1) fun d => by kernel_rfl
noncomputable def ref08_Same_l1b (n : Nat) (x1 : List Bool) (x2 : List Bool) (self : Int × Unit → Option ((Bool × Unit) ⊕ (Unit))) (d4 : Int × Unit) : Option ((Bool × Unit) ⊕ (Unit)) :=
 cond (decide (d4.1 < (x1.length : Int)))
 (ask (0 ≤ d4.1 ∧ d4.1 < (x1.length : Int)) (ask (0 ≤ d4.1 ∧ d4.1 < (x2.length : Int)) (cond (Kb_at x1 d4.1 != Kb_at x2 d4.1)
 (some (.inl (false, ())))
 (self (IntKind.wrap .i64 (d4.1 + 1), ())))))
 (some (.inr ()))
noncomputable def ref08_Same_l1 (n : Nat) (x1 : List Bool) (x2 : List Bool) : Int × Unit → Option ((Bool × Unit) ⊕ (Unit)) := iter (ref08_Same_l1b n x1 x2) n
noncomputable def ref08_Same (n : Nat) (x1 : List Bool) (x2 : List Bool) : Option (Bool × Unit) :=
 cond (decide ((x1.length : Int) ≠ (x2.length : Int)))
 (some (false, ()))
 ((ref08_Same_l1 n x1 x2 (0, ())).bind (Sum.elim (fun d5 => some (d5.1, ())) (fun d6 => some (true, ()))))
def ref08_Same_s : Sig := ⟨[.c false [.row b_], .c false [.row b_]], [], .c false [.bool], []⟩
def ref08_Same_a : Ann := .s .d (.s .d (.s (.s .d (.b (.l [4, 5, 11, 12, 13, 14, 15, 16, 17, 18, 19, 20, 21, 22, 23, 24, 25] [] ⟨[(5, .c false [.int .i64])], []⟩ [(.ret, ⟨[(4, .c false [.bool])], []⟩), (.exit 0, ⟨[], []⟩)] .d))) .d))
noncomputable def ref08_Same_c (n : Nat) : Ctr Try.prog := .of Try.func24 n [] ref08_Same_a ref08_Same_s (fun d => ref08_Same n d.1 d.2.1) fun d => by kernel_rfl
noncomputable def aig_Lit (n : Nat) (x1 : List Bool) (x2 : Int) : Option (Bool × Unit) :=
 ask (0 ≤ (1 : Int)) (ask (0 ≤ (shrI .i64 x2 1) ∧ shrI .i64 x2 1 < (x1.length : Int)) (some ((Kb_at x1 (shrI .i64 x2 1) != decide ((bits .and .i64 x2 1) = 1)), ())))
def aig_Lit_s : Sig := ⟨[.c false [.row b_], .c false [.int .i64]], [], .c false [.bool], []⟩
def aig_Lit_a : Ann := .d
noncomputable def aig_Lit_c (n : Nat) : Ctr Try.prog := .of Try.func65 n [] aig_Lit_a aig_Lit_s (fun d => aig_Lit n d.1 d.2.1) fun d => by kernel_rfl
noncomputable def aig_Eval_o_l1b (n : Nat) (x2 : List Kii) (self : Int × List Bool × Unit → Option ((List Bool × Unit))) (d6 : Int × List Bool × Unit) : Option ((List Bool × Unit)) :=
 cond (decide (d6.1 < (x2.length : Int)))
 (ask (0 ≤ d6.1 ∧ d6.1 < (x2.length : Int)) (ask (0 < 2) ((aig_Lit n d6.2.1 ((Kii_at x2 d6.1).1)).bind (fun r7 => cond r7.1
 (ask (1 < 2) ((aig_Lit n d6.2.1 ((Kii_at x2 d6.1).2)).bind (fun r8 => ask (True ∧ (d6.2.1.length + (([r8.1] : List Bool)).length) * 1 ≤ 140737488355328) (self (IntKind.wrap .i64 (d6.1 + 1), d6.2.1 ++ ([r8.1] : List Bool), ())))))
 (ask (True ∧ (d6.2.1.length + (([false] : List Bool)).length) * 1 ≤ 140737488355328) (self (IntKind.wrap .i64 (d6.1 + 1), d6.2.1 ++ ([false] : List Bool), ())))))))
 (some (d6.2.1, ()))
noncomputable def aig_Eval_o_l1 (n : Nat) (x2 : List Kii) : Int × List Bool × Unit → Option ((List Bool × Unit)) := iter (aig_Eval_o_l1b n x2) n
noncomputable def aig_Eval_o (n : Nat) (x1 : Int) (x2 : List Kii) (x3 : List Bool) : Option (List Bool × Unit) :=
 ask ((0 ≤ (IntKind.wrap .i64 ((1 : Int) + x1)) ∧ IntKind.wrap .i64 ((1 : Int) + x1) ≤ IntKind.wrap .i64 ((IntKind.wrap .i64 ((1 : Int) + x1)) + (x2.length : Int))) ∧ (1 : Int) * (IntKind.wrap .i64 ((IntKind.wrap .i64 ((1 : Int) + x1)) + (x2.length : Int))) ≤ 281474976710656 ∧ IntKind.wrap .i64 ((IntKind.wrap .i64 ((1 : Int) + x1)) + (x2.length : Int)) ≤ 281474976710656) (ask (0 ≤ (1 : Int) ∧ 1 ≤ ((List.replicate (IntKind.wrap .i64 ((1 : Int) + x1)).toNat false).length : Int)) (ask (True) ((aig_Eval_o_l1 n x2 (0, cpy (List.replicate (IntKind.wrap .i64 ((1 : Int) + x1)).toNat false) ((1 : Int).toNat) ((List.replicate (IntKind.wrap .i64 ((1 : Int) + x1)).toNat false).length - (1 : Int).toNat) x3, ())).bind (fun d9 => some (d9.1, ())))))
def aig_Eval_o_s : Sig := ⟨[.c true [.int .i64, .row Kii_], .c false [.row b_]], [], .c false [.con (.own 741 1)], [(741, .row 4 b_)]⟩
def aig_Eval_o_a : Ann := .s .d (.s .d (.s .d (.s (.s .d (.b (.l [5, 7, 18, 19, 20, 26, 27, 28, 29, 30, 31, 32, 33, 34, 35, 36, 37, 38, 39, 40, 41, 42, 43] [741] ⟨[(5, .c false [.con (.own 741 1)]), (26, .c false [.int .i64])], [(741, .row 4 b_)]⟩ [(.exit 0, ⟨[(5, .c false [.con (.own 741 1)])], [(741, .row 4 b_)]⟩)] .d))) .d)))
noncomputable def aig_Eval_o_c (n : Nat) : Ctr Try.prog := .of Try.func64 n [aig_Lit_c n] aig_Eval_o_a aig_Eval_o_s (fun d => aig_Eval_o n d.1 d.2.1 d.2.2.1) fun d => by kernel_rfl
noncomputable def circ_Step_l1b (n : Nat) (r8 : List Bool × Unit) (x4 : List Kiibii) (self : Int × List Bool × Unit → Option ((List Bool × Unit))) (d11 : Int × List Bool × Unit) : Option ((List Bool × Unit)) :=
 cond (decide (d11.1 < (x4.length : Int)))
 (ask (0 ≤ d11.1 ∧ d11.1 < (x4.length : Int)) ((aig_Lit n r8.1 (((Kiibii_at x4 d11.1).2).1)).bind (fun r12 => ask (0 ≤ d11.1 ∧ d11.1 < (d11.2.1.length : Int)) (self (IntKind.wrap .i64 (d11.1 + 1), d11.2.1.set d11.1.toNat r12.1, ())))))
 (some (d11.2.1, ()))
noncomputable def circ_Step_l1 (n : Nat) (r8 : List Bool × Unit) (x4 : List Kiibii) : Int × List Bool × Unit → Option ((List Bool × Unit)) := iter (circ_Step_l1b n r8 x4) n
noncomputable def circ_Step_l2b (n : Nat) (r8 : List Bool × Unit) (x5 : List Kiii) (self : Int × List Bool × Unit → Option ((List Bool × Unit))) (d16 : Int × List Bool × Unit) : Option ((List Bool × Unit)) :=
 cond (decide (d16.1 < (x5.length : Int)))
 (ask (0 ≤ d16.1 ∧ d16.1 < (x5.length : Int)) ((aig_Lit n r8.1 (((Kiii_at x5 d16.1).2).1)).bind (fun r17 => ask (0 ≤ d16.1 ∧ d16.1 < (d16.2.1.length : Int)) (self (IntKind.wrap .i64 (d16.1 + 1), d16.2.1.set d16.1.toNat r17.1, ())))))
 (some (d16.2.1, ()))
noncomputable def circ_Step_l2 (n : Nat) (r8 : List Bool × Unit) (x5 : List Kiii) : Int × List Bool × Unit → Option ((List Bool × Unit)) := iter (circ_Step_l2b n r8 x5) n
noncomputable def circ_Step (n : Nat) (x1 : Int) (x2 : List Kii) (x3 : List Kiii) (x4 : List Kiibii) (x5 : List Kiii) (x6 : List Bool) (x7 : List Bool) : Option (List Bool × List Bool × Unit) :=
 ask ((0 ≤ (0 : Int) ∧ 0 ≤ IntKind.wrap .i64 ((x7.length : Int) + (x6.length : Int))) ∧ (1 : Int) * (IntKind.wrap .i64 ((x7.length : Int) + (x6.length : Int))) ≤ 281474976710656 ∧ IntKind.wrap .i64 ((x7.length : Int) + (x6.length : Int)) ≤ 281474976710656) (ask (True ∧ ((List.replicate (0 : Int).toNat false).length + x7.length) * 1 ≤ 140737488355328) (ask (True ∧ (((List.replicate (0 : Int).toNat false) ++ x7).length + x6.length) * 1 ≤ 140737488355328) ((aig_Eval_o n x1 x2 (((List.replicate (0 : Int).toNat false) ++ x7) ++ x6)).bind (fun r8 => ask ((0 ≤ (x4.length : Int) ∧ (x4.length : Int) ≤ (x4.length : Int)) ∧ (1 : Int) * (x4.length : Int) ≤ 281474976710656 ∧ (x4.length : Int) ≤ 281474976710656) (ask ((0 ≤ (x5.length : Int) ∧ (x5.length : Int) ≤ (x5.length : Int)) ∧ (1 : Int) * (x5.length : Int) ≤ 281474976710656 ∧ (x5.length : Int) ≤ 281474976710656) ((circ_Step_l1 n r8 x4 (0, List.replicate (x4.length : Int).toNat false, ())).bind (fun d13 => (circ_Step_l2 n r8 x5 (0, List.replicate (x5.length : Int).toNat false, ())).bind (fun d18 => some (d13.1, d18.1, ())))))))))
def circ_Step_s : Sig := ⟨[.c true [.int .i64, .row Kii_, .row Kiii_, .row Kiibii_, .row Kiii_], .c false [.row b_], .c false [.row b_]], [], .t [(false, [.row b_]), (false, [.row b_])], []⟩
def circ_Step_a : Ann := .s .d (.s .d (.s .d (.s .d (.s (.s .d (.b (.l [10, 12, 13, 33, 41, 42, 43, 44, 45, 46, 47, 48, 49, 50, 51, 52, 53] [1063] ⟨[(10, .c false [.con (.own 1063 1)]), (41, .c false [.int .i64])], [(1063, .row 4 b_)]⟩ [(.exit 0, ⟨[(10, .c false [.con (.own 1063 1)])], [(1063, .row 4 b_)]⟩)] .d))) (.s (.s .d (.b (.l [11, 14, 15, 37, 57, 58, 59, 60, 61, 62, 63, 64, 65, 66, 67, 68, 69] [1319] ⟨[(11, .c false [.con (.own 1319 1)]), (57, .c false [.int .i64])], [(1319, .row 4 b_)]⟩ [(.exit 2, ⟨[(11, .c false [.con (.own 1319 1)])], [(1319, .row 4 b_)]⟩)] .d))) .d)))))
noncomputable def circ_Step_c (n : Nat) : Ctr Try.prog := .of Try.func27 n [aig_Eval_o_c n, aig_Lit_c n] circ_Step_a circ_Step_s (fun d => circ_Step n d.1 d.2.1 d.2.2.1 d.2.2.2.1 d.2.2.2.2.1 d.2.2.2.2.2.1 d.2.2.2.2.2.2.1) fun d => by kernel_rfl
noncomputable def aig_Right_l1b (n : Nat) (x1 : Int) (x2 : List Kii) (self : Int × List (Kii × Bool) × Unit → Option ((Bool × Unit) ⊕ (Unit))) (d5 : Int × List (Kii × Bool) × Unit) : Option ((Bool × Unit) ⊕ (Unit)) :=
 cond (decide (d5.1 < (x2.length : Int)))
 (ask (0 ≤ d5.1 ∧ d5.1 < (x2.length : Int)) (ask (0 < 2) (ask (1 < 2) ((aig_of n ((Kii_at x2 d5.1).1) ((Kii_at x2 d5.1).2)).bind (fun r6 => (aig_plain n r6.1 r6.2.1).bind (fun r7 => cond r7.2.1
 (some (.inl (false, ())))
 (cond (!((r6.1 == (Kii_at x2 d5.1).1) && (r6.2.1 == (Kii_at x2 d5.1).2)))
 (some (.inl (false, ())))
 (ask (0 < 2) (cond (decide (r6.1 < 2))
 (some (.inl (false, ())))
 (ask (1 < 2) (ask (0 ≤ (1 : Int)) (cond (decide ((IntKind.wrap .i64 (x1 + d5.1)) < (shrI .i64 r6.2.1 1)))
 (some (.inl (false, ())))
 (ask (True) (cond (Mii_b_get d5.2.1 (r6.1, r6.2.1) false)
 (some (.inl (false, ())))
 (self (IntKind.wrap .i64 (d5.1 + 1), Mii_b_put d5.2.1 (r6.1, r6.2.1) true, ()))))))))))))))))
 (some (.inr ()))
noncomputable def aig_Right_l1 (n : Nat) (x1 : Int) (x2 : List Kii) : Int × List (Kii × Bool) × Unit → Option ((Bool × Unit) ⊕ (Unit)) := iter (aig_Right_l1b n x1 x2) n
noncomputable def aig_Right (n : Nat) (x1 : Int) (x2 : List Kii) : Option (Bool × Unit) :=
 cond (decide (x1 < 0))
 (some (false, ()))
 (cond (decide ((1048576 : Int) < x1))
 (some (false, ()))
 (cond (decide ((IntKind.wrap .i64 ((1048576 : Int) - x1)) < (x2.length : Int)))
 (some (false, ()))
 ((aig_Right_l1 n x1 x2 (0, ([] : List (Kii × Bool)), ())).bind (Sum.elim (fun d8 => some (d8.1, ())) (fun d9 => some (true, ()))))))
def aig_Right_s : Sig := ⟨[.c true [.int .i64, .row Kii_]], [], .c false [.bool], []⟩
def aig_Right_a : Ann := .s .d (.s .d (.s .d (.s (.s .d (.b (.l [2, 3, 4, 5, 6, 7, 8, 26, 30, 31, 32, 33, 34, 35, 36, 37, 38, 39, 40, 41, 42, 43, 44, 45, 46, 47, 48, 49, 50, 51, 52, 53, 54, 55, 56, 57, 58, 59, 60, 61, 62, 63, 64, 65, 66, 67, 68, 69, 70, 71, 72, 73] [101] ⟨[(3, .c false [.con (.map 101)]), (30, .c false [.int .i64])], [(101, .map true Kii_ false b_)]⟩ [(.ret, ⟨[(2, .c false [.bool])], []⟩), (.exit 0, ⟨[], []⟩)] .d))) .d)))
noncomputable def aig_Right_c (n : Nat) : Ctr Try.prog := .of Try.func66 n [aig_of_c n, aig_plain_c n] aig_Right_a aig_Right_s (fun d => aig_Right n d.1 d.2.1) fun d => by kernel_rfl
noncomputable def circ_place_there (n : Nat) (x1 : Int) (x2 : Int) : Option (Bool × Unit) :=
 cond (decide ((0 : Int) ≤ x1))
 (some (decide ((0 : Int) ≤ x2), ()))
 (some (false, ()))
def circ_place_there_s : Sig := ⟨[.c true [.int .i64, .int .i64]], [], .c false [.bool], []⟩
def circ_place_there_a : Ann := .d
noncomputable def circ_place_there_c (n : Nat) : Ctr Try.prog := .of Try.func68 n [] circ_place_there_a circ_place_there_s (fun d => circ_place_there n d.1 d.2.1) fun d => by kernel_rfl
noncomputable def circ_place_behind (n : Nat) (x1 : Int) (x2 : Int) (x3 : Int) (x4 : Int) : Option (Bool × Unit) :=
 cond (decide (x3 < x1))
 (some (true, ()))
 (cond (decide (x1 = x3))
 (some (decide (x4 < x2), ()))
 (some (false, ())))
def circ_place_behind_s : Sig := ⟨[.c true [.int .i64, .int .i64], .c true [.int .i64, .int .i64]], [], .c false [.bool], []⟩
def circ_place_behind_a : Ann := .d
noncomputable def circ_place_behind_c (n : Nat) : Ctr Try.prog := .of Try.func69 n [] circ_place_behind_a circ_place_behind_s (fun d => circ_place_behind n d.1 d.2.1 d.2.2.1 d.2.2.2.1) fun d => by kernel_rfl
noncomputable def circ_Right_1 (n : Nat) (x1 : Int) (x2 : List KiLPiiELPiiiELPiibiiELPiiiE) (x3 : Int) : Option (Bool × Unit) :=
 cond (decide (x1 < 0))
 (some (true, ()))
 (ask (0 ≤ (1 : Int)) (some (decide ((IntKind.wrap .i64 (((KiLPiiELPiiiELPiibiiELPiiiE_at x2 x3).1) + ((((KiLPiiELPiiiELPiibiiELPiiiE_at x2 x3).2).1).length : Int))) < (shrI .i64 x1 1)), ())))
def circ_Right_1_s : Sig := ⟨[.c false [.int .i64], .c false [.rp KiLPiiELPiiiELPiibiiELPiiiE_ 0]], [], .c false [.bool], []⟩
def circ_Right_1_a : Ann := .d
noncomputable def circ_Right_1_c (n : Nat) : Ctr Try.prog := .of Try.func67 n [] circ_Right_1_a circ_Right_1_s (fun d => circ_Right_1 n d.1 d.2.1 d.2.2.1) fun d => by kernel_rfl
noncomputable def circ_Right_l1b (n : Nat) (x3 : List Kiii) (self : Int × Int × Int × Unit → Option ((Bool × Unit) ⊕ (Int × Int × Unit))) (d9 : Int × Int × Int × Unit) : Option ((Bool × Unit) ⊕ (Int × Int × Unit)) :=
 cond (decide (d9.1 < (x3.length : Int)))
 (ask (0 ≤ d9.1 ∧ d9.1 < (x3.length : Int)) (ask (1 < 3) (ask (2 < 3) (ask (0 < 3) (cond (decide (((Kiii_at x3 d9.1).1) ≠ (IntKind.wrap .i64 (d9.1 + 1))))
 (some (.inl (false, ())))
 ((circ_place_there n (((Kiii_at x3 d9.1).2).1) (((Kiii_at x3 d9.1).2).2)).bind (fun r10 => cond (!r10.1)
 (some (.inl (false, ())))
 ((circ_place_behind n (((Kiii_at x3 d9.1).2).1) (((Kiii_at x3 d9.1).2).2) d9.2.1 d9.2.2.1).bind (fun r11 => cond (!r11.1)
 (some (.inl (false, ())))
 (self (IntKind.wrap .i64 (d9.1 + 1), ((Kiii_at x3 d9.1).2).1, ((Kiii_at x3 d9.1).2).2, ())))))))))))
 (some (.inr (d9.2.1, d9.2.2.1, ())))
noncomputable def circ_Right_l1 (n : Nat) (x3 : List Kiii) : Int × Int × Int × Unit → Option ((Bool × Unit) ⊕ (Int × Int × Unit)) := iter (circ_Right_l1b n x3) n
noncomputable def circ_Right_l2b (n : Nat) (x1 : Int) (x2 : List Kii) (x3 : List Kiii) (x4 : List Kiibii) (x5 : List Kiii) (self : Int × Int × Int × Unit → Option ((Bool × Unit) ⊕ (Unit))) (d16 : Int × Int × Int × Unit) : Option ((Bool × Unit) ⊕ (Unit)) :=
 cond (decide (d16.1 < (x4.length : Int)))
 (ask (0 ≤ d16.1 ∧ d16.1 < (x4.length : Int)) (cond (decide (((Kiibii_at x4 d16.1).1) ≠ (IntKind.wrap .i64 ((IntKind.wrap .i64 ((x3.length : Int) + d16.1)) + 1))))
 (some (.inl (false, ())))
 ((circ_Right_1 n (((Kiibii_at x4 d16.1).2).1) ([(x1, x2, x3, x4, x5)] : List KiLPiiELPiiiELPiibiiELPiiiE) 0).bind (fun r17 => cond r17.1
 (some (.inl (false, ())))
 ((circ_place_there n (((((Kiibii_at x4 d16.1).2).2).2).1) (((((Kiibii_at x4 d16.1).2).2).2).2)).bind (fun r18 => cond (!r18.1)
 (some (.inl (false, ())))
 ((circ_place_behind n (((((Kiibii_at x4 d16.1).2).2).2).1) (((((Kiibii_at x4 d16.1).2).2).2).2) d16.2.1 d16.2.2.1).bind (fun r19 => cond (!r19.1)
 (some (.inl (false, ())))
 (self (IntKind.wrap .i64 (d16.1 + 1), ((((Kiibii_at x4 d16.1).2).2).2).1, ((((Kiibii_at x4 d16.1).2).2).2).2, ()))))))))))
 (some (.inr ()))
noncomputable def circ_Right_l2 (n : Nat) (x1 : Int) (x2 : List Kii) (x3 : List Kiii) (x4 : List Kiibii) (x5 : List Kiii) : Int × Int × Int × Unit → Option ((Bool × Unit) ⊕ (Unit)) := iter (circ_Right_l2b n x1 x2 x3 x4 x5) n
noncomputable def circ_Right_l3b (n : Nat) (x1 : Int) (x2 : List Kii) (x3 : List Kiii) (x4 : List Kiibii) (x5 : List Kiii) (self : Int × Unit → Option ((Bool × Unit) ⊕ (Unit))) (d23 : Int × Unit) : Option ((Bool × Unit) ⊕ (Unit)) :=
 cond (decide (d23.1 < (x5.length : Int)))
 (ask (0 ≤ d23.1 ∧ d23.1 < (x5.length : Int)) (cond (decide (((Kiii_at x5 d23.1).1) < 8))
 (some (.inl (false, ())))
 (cond (decide ((10 : Int) < ((Kiii_at x5 d23.1).1)))
 (some (.inl (false, ())))
 (cond (decide ((((Kiii_at x5 d23.1).2).2) < 0))
 (some (.inl (false, ())))
 ((circ_Right_1 n (((Kiii_at x5 d23.1).2).1) ([(x1, x2, x3, x4, x5)] : List KiLPiiELPiiiELPiibiiELPiiiE) 0).bind (fun r24 => cond r24.1
 (some (.inl (false, ())))
 (self (IntKind.wrap .i64 (d23.1 + 1), ()))))))))
 (some (.inr ()))
noncomputable def circ_Right_l3 (n : Nat) (x1 : Int) (x2 : List Kii) (x3 : List Kiii) (x4 : List Kiibii) (x5 : List Kiii) : Int × Unit → Option ((Bool × Unit) ⊕ (Unit)) := iter (circ_Right_l3b n x1 x2 x3 x4 x5) n
noncomputable def circ_Right (n : Nat) (x1 : Int) (x2 : List Kii) (x3 : List Kiii) (x4 : List Kiibii) (x5 : List Kiii) : Option (Bool × Unit) :=
 (aig_Right n x1 x2).bind (fun r6 => cond (!r6.1)
 (some (false, ()))
 (cond (decide ((256 : Int) < (x4.length : Int)))
 (some (false, ()))
 (cond (decide ((IntKind.wrap .i64 ((x3.length : Int) + (x4.length : Int))) ≠ x1))
 (some (false, ()))
 ((circ_Right_l1 n x3 (0, (-1), 0, ())).bind (Sum.elim (fun d12 => some (d12.1, ())) (fun d13 => (circ_Right_l2 n x1 x2 x3 x4 x5 (0, (-1), 0, ())).bind (Sum.elim (fun d20 => some (d20.1, ())) (fun d21 => (circ_Right_l3 n x1 x2 x3 x4 x5 (0, ())).bind (Sum.elim (fun d25 => some (d25.1, ())) (fun d26 => some (true, ())))))))))))
def circ_Right_s : Sig := ⟨[.c true [.int .i64, .row Kii_, .row Kiii_, .row Kiibii_, .row Kiii_]], [], .c false [.bool], []⟩
def circ_Right_a : Ann := .s .d (.s .d (.s .d (.s .d (.s (.s .d (.b (.l [2, 4, 5, 6, 7, 41, 42, 43, 44, 45, 46, 47, 48, 49, 50, 51, 52, 53, 54, 55, 56, 57, 58, 59, 60, 61, 62, 63, 64, 65, 66, 67, 68] [165] ⟨[(4, .c false [.con (.ptr 165 0)]), (41, .c false [.int .i64])], [(165, .var 118 [.int .i64, .int .i64])]⟩ [(.ret, ⟨[(2, .c false [.bool])], []⟩), (.exit 0, ⟨[(4, .c false [.con (.ptr 165 0)])], [(165, .var 118 [.int .i64, .int .i64])]⟩)] .d))) (.s .d (.s (.s .d (.b (.l [2, 4, 8, 9, 10, 73, 74, 75, 76, 77, 78, 79, 80, 81, 82, 83, 84, 85, 86, 87, 88, 89, 90, 91, 92, 93, 94, 95, 96, 97, 98, 99, 100, 101, 102, 103, 104, 105, 106, 107, 108, 109, 110] [165] ⟨[(4, .c false [.con (.ptr 165 0)]), (73, .c false [.int .i64])], [(165, .var 118 [.int .i64, .int .i64])]⟩ [(.ret, ⟨[(2, .c false [.bool])], []⟩), (.exit 2, ⟨[], []⟩)] .d))) (.s (.s .d (.b (.l [2, 12, 114, 115, 116, 117, 118, 119, 120, 121, 122, 123, 124, 125, 126, 127, 128, 129, 130, 131, 132, 133, 134, 135, 136, 137] [] ⟨[(114, .c false [.int .i64])], []⟩ [(.ret, ⟨[(2, .c false [.bool])], []⟩), (.exit 4, ⟨[], []⟩)] .d))) .d)))))))
noncomputable def circ_Right_c (n : Nat) : Ctr Try.prog := .of Try.func28 n [aig_Right_c n, circ_place_there_c n, circ_place_behind_c n, circ_Right_1_c n] circ_Right_a circ_Right_s (fun d => circ_Right n d.1 d.2.1 d.2.2.1 d.2.2.2.1 d.2.2.2.2.1) fun d => by kernel_rfl
end Go.Proofs.Ytfjdhdmbbfeigaa.Am
