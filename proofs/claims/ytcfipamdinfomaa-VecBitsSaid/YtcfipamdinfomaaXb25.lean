/- Printed by this session's program xprint.py (over the kit's print): the Go functions named below come to the Lean functions of the same names, whatever the world. -/
import Derived.Test.YtcfipamdinfomaaXb0
namespace Go.Proofs.Ytcfipamdinfomaa.Xb
open Go.RowKit Go.Proofs.YtcfipamdinfomaaW.PrintWords Go.Proofs.YtcfipamdinfomaaW.PrintLast Go.Proofs.YtcfipamdinfomaaW.PrintMore
attribute [local go_sem] max2_int min2_int max_two min_two max_three min_three max_four min_four   -- for this text's walks alone
set_option linter.unusedVariables false
set_option linter.unusedSimpArgs false

/-! ### vec_Bits: function 17 -/
def vec_Bits.l0 : Nat → Int → List Bool → Int → Int → Option (List Bool)
 | 0, _, _, _, _ => none
 | k + 1, x0, x5, x9, x10 => if x10 < x9 then (if 0 ≤ x10 then (if x10 < (x5.length : Int) then (vec_Bits.l0 k x0 (x5.set (x10 : Int).toNat ((Go.bits .and .i64 (shr .i64 x0 x10) 1) == 1)) x9 (wrap64 (x10 + 1))) else (none)) else (none)) else (some x5)
def vec_Bits.f (k : Nat) (a0 : Int) (a1 : Int) : Option (List Bool) := if 0 ≤ a1 then (if (a1 : Int).toNat ≤ 281474976710656 then (vec_Bits.l0 k a0 (List.replicate (a1 : Int).toNat false) a1 0) else (none)) else (none)
theorem vec_Bits.mono_l : ∀ k, (∀ y0 y1 y2 y3, LeO (vec_Bits.l0 k y0 y1 y2 y3) (vec_Bits.l0 (k + 1) y0 y1 y2 y3))
 | 0 => fun _ _ _ _ r h => by simp [vec_Bits.l0] at h
 | k + 1 => by
  have ih0 := vec_Bits.mono_l k
  ·intro y0 y1 y2 y3
   unfold vec_Bits.l0
   repeat' first
   | (with_reducible exact ih0 _ _ _ _)
   | (with_reducible exact LeO.refl _)
   | (with_reducible exact LeO.none _)
   | (with_reducible refine LeO.ite ?_ ?_)
   | (with_reducible refine LeO.bind ?_ (fun _ => ?_))
   | exact ih0 _ _ _ _
   | exact LeO.none _
   | refine LeO.ite ?_ ?_
   | refine LeO.bind ?_ (fun _ => ?_)
theorem vec_Bits.mono : ∀ a0 a1 k, LeO (vec_Bits.f k a0 a1) (vec_Bits.f (k + 1) a0 a1) := by
 intro a0 a1 k
 have ih0 := vec_Bits.mono_l k
 unfold vec_Bits.f
 repeat' first
   | (with_reducible exact ih0 _ _ _ _)
   | (with_reducible exact LeO.refl _)
   | (with_reducible exact LeO.none _)
   | (with_reducible refine LeO.ite ?_ ?_)
   | (with_reducible refine LeO.bind ?_ (fun _ => ?_))
   | exact ih0 _ _ _ _
   | exact LeO.none _
   | refine LeO.ite ?_ ?_
   | refine LeO.bind ?_ (fun _ => ?_)
set_option maxHeartbeats 8000000 in
set_option maxRecDepth 100000 in
theorem vec_Bits.calls (k : Nat) (a0 : Int) (a1 : Int) (r : List Bool) (w : World) (h : vec_Bits.f k a0 a1 = some r) :
  Calls Try.prog 17 #[.int .i64 a0, .int .i64 a1] w fun e w' => ∃ v0_ : Value, e = .returned (v0_) ∧ Kd.R Kd.bool 4 w' w.heap.size (fun _ => True) v0_ r ∧ Below w.heap.size w w' := by
 have HB := Aside0.mk (Below.refl w.heap.size w)
 have H : (if 0 ≤ a1 then (if (a1 : Int).toNat ≤ 281474976710656 then (vec_Bits.l0 k a0 (List.replicate (a1 : Int).toNat false) a1 0) else (none)) else (none)) = some r := h
 clear h
 by_cases c3 : 0 ≤ a1
 ·rw [if_pos c3] at H
  have c3b0 := eq_true c3
  have c3b1 : decide (0 ≤ a1) = true := decide_eq_true c3
  clear c3
  by_cases c4 : (a1 : Int).toNat ≤ 281474976710656
  ·rw [if_pos c4] at H
   have c4b0 := eq_true c4
   have c4b1 : decide ((a1 : Int).toNat ≤ 281474976710656) = true := decide_eq_true c4
   clear c4
   obtain ⟨y111, hy111⟩ : ∃ y_ : List Bool, y_ = (List.replicate (a1 : Int).toNat false) := ⟨_, rfl⟩
   replace H : (vec_Bits.l0 k a0 y111 a1 0) = some r := by first | (rw [hy111]; with_reducible exact H) | (have H2_ := (Option.bind_some _ _).symm.trans H; rw [hy111]; with_reducible exact H2_) | (have H2_ := (Option.bind_some _ _).symm.trans H; with_reducible exact H2_) | with_reducible exact H | (rw [hy111]; exact H) | exact H
   have Ny111 := Aside0.mk hy111
   clear hy111
   have H' := Aside0.mk H
   clear H
   go_enter Try.func17, Try.ntmps17
   go_wp2_with (first | ((with_reducible refine gate_dst (N := 8) rfl ?_); refine Kd.R_make Kd.bool _ 4 rfl (N := 8) rfl 25 _ _ rfl a1 rfl rfl Try.underlying25 (.bool false) 1 info4 rfl (by decide) (by omega) false (ok := fun _ => True) (okp := fun _ => True) rfl (fun _ hk => hk) trivial (of_decide_eq_true (by first | (with_reducible assumption) | assumption)) (Nat.le_trans (Nat.mul_le_mul_right _ (of_decide_eq_true (by first | (with_reducible assumption) | assumption) : a1.toNat ≤ 281474976710656)) (by omega)) (Below.refl _ _) (Nat.le_refl _) ?_; intro v112 w5 ho6 hb hg_ hnew_; clear hg_ hnew_; (first | rw [← Ny111.out] at ho6 | (simp only [Int.reduceToNat] at ho6; rw [← Ny111.out] at ho6)); have n0_ := Aside0.mk (Kd.R_lower ho6 (below_size (by repeat (first | (with_reducible first | exact HB.out | apply below_alloc | apply pw_below_drewN | apply below_drew1) | exact HB.out)))); have n1_ := Aside0.mk (below_step (by repeat (first | (with_reducible first | exact HB.out | apply below_alloc | apply pw_below_drewN | apply below_drew1) | exact HB.out)) hb); clear HB; have HO113 := n0_; have HB := n1_; clear n0_ n1_; clear hb ho6))
   go_loopg [10] k (fun kq v10 w' => ∃ (x5_1 : List Bool) (x10_1 : Int), v10 = .int .i64 x10_1 ∧ Aside0 (vec_Bits.l0 kq a0 x5_1 a1 x10_1 = some r) ∧ Aside0 (kq ≤ k) ∧ Aside0 (Kd.R Kd.bool 4 w' w.heap.size (fun _ => True) v112 x5_1) ∧ Aside0 (Below w.heap.size w w'))
   case atStart => exact ⟨(y111), (0), (by first | rfl | (simp; done) | (simp [*]; done)), H', ⟨Nat.le_refl _⟩, ⟨by (with_reducible repeat (first | apply Kd.R_alloc | apply Kd.R_drewN | apply Kd.R_drew)); exact HO113.out⟩, ⟨by repeat (first | (with_reducible first | exact HB.out | apply below_alloc | apply pw_below_drewN | apply below_drew1) | exact HB.out)⟩⟩
   case round =>
    clear H'
    try clear c1
    try clear p2
    try clear c3
    try clear c3b0
    try clear c3b1
    try clear c4
    try clear c4b0
    try clear c4b1
    obtain ⟨x5_1, x10_1, rfl, HA, HK1, HO_5, HB⟩ := hrel
    cases gk with
    | zero => exact absurd HA.out (by simp [vec_Bits.l0])
    | succ k1 =>
     have H := HA.out
     clear HA
     simp only [vec_Bits.l0] at H
     by_cases c7 : x10_1 < a1
     ·rw [if_pos c7] at H
      have c7b0 : decide (x10_1 < a1) = true := decide_eq_true c7
      clear c7
      by_cases c8 : 0 ≤ x10_1
      ·rw [if_pos c8] at H
       have c8b0 := eq_true c8
       have c8b1 : decide (0 ≤ x10_1) = true := decide_eq_true c8
       clear c8
       obtain ⟨ji9, hji9⟩ : ∃ j_ : Int, (shr .i64 a0 x10_1) = j_ := ⟨_, rfl⟩
       replace H : (if x10_1 < (x5_1.length : Int) then (vec_Bits.l0 k1 a0 (x5_1.set (x10_1 : Int).toNat ((Go.bits .and .i64 (ji9) 1) == 1)) a1 (wrap64 (x10_1 + 1))) else (none)) = some r := by first | (rw [hji9] at H; exact H) | (simp only [hji9] at H ⊢; exact H)
       have hji9_ : (a0 / 2 ^ min x10_1.toNat 64) = ji9 := hji9
       have hji9z : x10_1 ≤ 64 → (a0 / 2 ^ x10_1.toNat) = ji9 := shr_small hji9
       by_cases c10 : x10_1 < (x5_1.length : Int)
       ·rw [if_pos c10] at H
        have c10b0 : decide (x10_1 < (x5_1.length : Int)) = true := decide_eq_true c10
        clear c10
        obtain ⟨y114, hy114⟩ : ∃ y_ : List Bool, y_ = (x5_1.set (x10_1 : Int).toNat ((Go.bits .and .i64 (ji9) 1) == 1)) := ⟨_, rfl⟩
        replace H : (vec_Bits.l0 k1 a0 y114 a1 (wrap64 (x10_1 + 1))) = some r := by first | (rw [hy114]; with_reducible exact H) | (have H2_ := (Option.bind_some _ _).symm.trans H; rw [hy114]; with_reducible exact H2_) | (have H2_ := (Option.bind_some _ _).symm.trans H; with_reducible exact H2_) | with_reducible exact H | (rw [hy114]; exact H) | exact H
        have Ny114 := Aside0.mk hy114
        clear hy114
        have H' := Aside0.mk H
        clear H
        have p11 : 0 ≤ (x10_1 : Int) := of_decide_eq_true (by first | (with_reducible assumption) | assumption)
        have q11 : (x10_1 : Int) < ((x5_1.length : Int) : Int) := of_decide_eq_true (by first | (with_reducible assumption) | assumption)
        obtain ⟨go11, co11, eo11, gb11, gl11, cl11, HG11⟩ := Kd.R_form HO_5.out (by omega)
        (first | cases eo11 | (injection eo11 with ea_ en_ ec_; (first | subst ea_ | (injection ea_ with ea_; subst ea_)); subst ec_; clear en_))
        have GB11 := Aside0.mk gb11
        have GG11 := Aside0.mk HG11
        clear gb11 gl11 HG11
        obtain ⟨hx11_0, hf11_0⟩ := Kd.R_celln false HO_5.out (x10_1 : Int) p11 q11
        replace p11 := eq_true p11
        replace q11 := eq_true q11
        have HP12 := Kd.R_putg HO_5.out (x10_1 : Int) ((Go.bits .and .i64 (ji9) 1) == 1)
        go_wp2_with (first | ((with_reducible refine gate_store (t := 4) (p := 20) rfl ?_); refine store_event (t := 4) (p := 20) (v := ?vo_w13) (w1 := (wr.setCell ⟨go11, (x10_1 : Int).toNat, none⟩ (.bool ((Go.bits .and .i64 (ji9) 1) == 1)))) ?hg ?ho ?hn ?hr ?_; (case ho => rfl); (case hg => rfl); (case hn => rfl); (case hr => first | (go_simp; done) | (go_simp; rfl)); intro w13 hw; have hg : wr.grownBy w13 (some go11) := (by rw [hw]; exact HP12.2); have hp_ : Kd.R Kd.bool 4 w13 w.heap.size (fun _ => True) (.slice (some ⟨go11, 0, none⟩) x5_1.length co11) y114 := (by rw [hw, Ny114.out]; exact HP12.1); clear HP12; have n0_ := Aside0.mk (hp_); have n1_ := Aside0.mk ((by rw [hw]; exact below_set (HB.out) GB11.out : Below w.heap.size w w13)); clear HO_5; clear HB; have HO_5 := n0_; have HB := n1_; clear n0_ n1_; clear hg hw hp_))
        go_roundg k1
        case measure => have := HK1.out; omega
        case rel => exact ⟨(y114), (wrap64 (x10_1 + 1)), (by first | rfl | (simp; done) | (simp [*]; done)), H', ⟨by have := HK1.out; omega⟩, ⟨by (with_reducible repeat (first | apply Kd.R_alloc | apply Kd.R_drewN | apply Kd.R_drew)); exact HO_5.out⟩, ⟨by repeat (first | (with_reducible first | exact HB.out | apply below_alloc | apply pw_below_drewN | apply below_drew1) | exact HB.out)⟩⟩
       ·rw [if_neg c10] at H
        exact absurd H (by simp)
      ·rw [if_neg c8] at H
       exact absurd H (by simp)
     ·rw [if_neg c7] at H
      have c7b0 : decide (x10_1 < a1) = false := decide_eq_false c7
      clear c7
      obtain rfl := Option.some.inj H
      go_wp2
      go_ret
      exact ⟨_, by first | rfl | (simp [errW_none, errW_some] <;> rfl) | (simp [*, errW_none, errW_some] <;> rfl), by (with_reducible repeat (first | apply Kd.R_alloc | apply Kd.R_drewN | apply Kd.R_drew)); exact HO_5.out, by repeat (first | (with_reducible first | exact HB.out | apply below_alloc | apply pw_below_drewN | apply below_drew1) | exact HB.out)⟩
  ·rw [if_neg c4] at H
   exact absurd H (by simp)
 ·rw [if_neg c3] at H
  exact absurd H (by simp)

end Go.Proofs.Ytcfipamdinfomaa.Xb
