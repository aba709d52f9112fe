/- Slimmed by this session: what nothing names is struck out. -/
import Derived.Test.YtlnjefcfbncegaaXb0
namespace Go.Proofs.Ytlnjefcfbncegaa.Xb
open Go.RowKit Go.Proofs.YtlnjefcfbncegaaW.PrintWords Go.Proofs.YtlnjefcfbncegaaW.PrintLast Go.Proofs.YtlnjefcfbncegaaW.PrintMore
attribute [local go_sem] max2_int min2_int max_two min_two max_three min_three max_four min_four
set_option linter.unusedVariables false
set_option linter.unusedSimpArgs false
def proofmarkref13_find.l0 : Nat → Int → Int → Int → Int → Int → List (S50) → Option (Int)
 | 0, _, _, _, _, _, _ => none
 | k + 1, x1, x2, x3, x9, x222000, x222001 => if x9 < x3 then (if 0 ≤ x9 then (if x9 < (x222001.length : Int) then (if ((rd_T50 x222001 x9).f0) = x1 then (if ((rd_T50 x222001 x9).f1) = x2 then (some x9) else (proofmarkref13_find.l0 k x1 x2 x3 (wrap64 (x9 + 1)) x222000 x222001)) else (proofmarkref13_find.l0 k x1 x2 x3 (wrap64 (x9 + 1)) x222000 x222001)) else (none)) else (none)) else (some (-1))
def proofmarkref13_find.f (k : Nat) (a0_0 : Int) (l0_1 : List (S50)) (a1 : Int) (a2 : Int) (a3 : Int) : Option (Int) := proofmarkref13_find.l0 k a1 a2 a3 0 a0_0 l0_1
theorem proofmarkref13_find.mono_l : ∀ k, (∀ y0 y1 y2 y3 y4 y5, LeO (proofmarkref13_find.l0 k y0 y1 y2 y3 y4 y5) (proofmarkref13_find.l0 (k + 1) y0 y1 y2 y3 y4 y5))
 | 0 => fun _ _ _ _ _ _ r h => by simp [proofmarkref13_find.l0] at h
 | k + 1 => by
  have ih0 := proofmarkref13_find.mono_l k
  ·intro y0 y1 y2 y3 y4 y5
   unfold proofmarkref13_find.l0
   repeat' first
   | (with_reducible exact ih0 _ _ _ _ _ _)
   | (with_reducible exact LeO.refl _)
   | (with_reducible exact LeO.none _)
   | (with_reducible refine LeO.ite ?_ ?_)
   | (with_reducible refine LeO.bind ?_ (fun _ => ?_))
   | exact ih0 _ _ _ _ _ _
   | exact LeO.none _
   | refine LeO.ite ?_ ?_
   | refine LeO.bind ?_ (fun _ => ?_)
theorem proofmarkref13_find.mono : ∀ a0 a1 a2 a3 a4 k, LeO (proofmarkref13_find.f k a0 a1 a2 a3 a4) (proofmarkref13_find.f (k + 1) a0 a1 a2 a3 a4) := by
 intro a0 a1 a2 a3 a4 k
 have ih0 := proofmarkref13_find.mono_l k
 unfold proofmarkref13_find.f
 repeat' first
   | (with_reducible exact ih0 _ _ _ _ _ _)
   | (with_reducible exact LeO.refl _)
   | (with_reducible exact LeO.none _)
   | (with_reducible refine LeO.ite ?_ ?_)
   | (with_reducible refine LeO.bind ?_ (fun _ => ?_))
   | exact ih0 _ _ _ _ _ _
   | exact LeO.none _
   | refine LeO.ite ?_ ?_
   | refine LeO.bind ?_ (fun _ => ?_)
set_option maxHeartbeats 8000000 in
set_option maxRecDepth 100000 in
theorem proofmarkref13_find.calls (k : Nat) (a0_0 : Int) (A0_1 : Option Addr) (c0_1 : Nat) (l0_1 : List (S50)) (a1 : Int) (a2 : Int) (a3 : Int) (r : Int) (w : World) (hr0_1 : Kd.C k50 w A0_1 l0_1.length l0_1) (hc0_1 : l0_1.length ≤ c0_1) (h : proofmarkref13_find.f k a0_0 l0_1 a1 a2 a3 = some r) :
  Calls Try.prog 35 #[.agg #[.int .i64 a0_0, .slice A0_1 l0_1.length c0_1], .int .i64 a1, .int .i64 a2, .int .i64 a3] w fun e w' => e = .returned (.int .i64 r) ∧ Below w.heap.size w w' := by
 have hu24 := Try.underlying24
 have hix50_0 : ∀ (x0_ x1_ : Value) (W_ : World), (Instr.index 50 (.agg #[x0_, x1_]) (.int .i64 0)).run Try.prog W_ = .ok x0_ W_ := fun _ _ _ => by kernel_rfl
 have hix50_1 : ∀ (x0_ x1_ : Value) (W_ : World), (Instr.index 50 (.agg #[x0_, x1_]) (.int .i64 1)).run Try.prog W_ = .ok x1_ W_ := fun _ _ _ => by kernel_rfl
 have HR0_1 := Aside0.mk hr0_1
 have HC0_1 := Aside0.mk hc0_1
 clear hr0_1 hc0_1
 have HB := Aside0.mk (Below.refl w.heap.size w)
 have H : (proofmarkref13_find.l0 k a1 a2 a3 0 a0_0 l0_1) = some r := h
 clear h
 have H' := Aside0.mk H
 clear H
 go_enter Try.func35, Try.ntmps35
 go_wp2_with (first | ((with_reducible refine gate_dst (N := 4) rfl ?_); refine box_event ?hg (N := 4) ?hd (cs := #[.int .i64 a0_0, .slice A0_1 l0_1.length c0_1]) (t := 24) ?hr ?_; (case hd => rfl); (case hg => rfl); (case hr => first | (go_simp; done) | (go_simp; rfl)); intro gb221 hg w5 hbox hb; have n0_ := Aside0.mk (below_step (by repeat (first | (with_reducible first | exact HB.out | apply below_alloc | apply pw_below_drewN | apply below_drew1) | exact HB.out)) hb); have n1_ := Aside0.mk (hbox); have n2_ := Aside0.mk ((by rw [hg]; exact (below_size (by repeat (first | (with_reducible first | exact HB.out | apply below_alloc | apply pw_below_drewN | apply below_drew1) | exact HB.out))) : w.heap.size ≤ gb221)); have n3_ := Aside0.mk ((by rw [hg]; exact (below_size (by repeat (first | (with_reducible first | exact HB.out | apply below_alloc | apply pw_below_drewN | apply below_drew1) | exact HB.out))) : w.heap.size ≤ gb221)); clear HB; have HB := n0_; have BK221 := n1_; have GW221 := n2_; have GE221 := n3_; clear n0_ n1_ n2_ n3_; clear hb hbox hg))
 go_loopg [9] k (fun kq v9 w' => ∃ (x9_1 : Int), v9 = .int .i64 x9_1 ∧ Aside0 (proofmarkref13_find.l0 kq a1 a2 a3 x9_1 a0_0 l0_1 = some r) ∧ Aside0 (kq ≤ k) ∧ Aside0 (w'.heap[gb221]? = some (.cells #[.int .i64 a0_0, (.slice A0_1 l0_1.length c0_1)] 24 (0, 0))) ∧ Aside0 (Below w.heap.size w w'))
 case atStart => exact ⟨(0), (by first | rfl | (simp; done) | (simp [*]; done)), H', ⟨Nat.le_refl _⟩, ⟨by (with_reducible repeat (first | refine blk_drewN ?_ _ | refine blk_drew ?_ | refine blk_alloc ?_ _)); exact BK221.out⟩, ⟨by repeat (first | (with_reducible first | exact HB.out | apply below_alloc | apply pw_below_drewN | apply below_drew1 | refine below_set ?_ GE221.out) | exact HB.out)⟩⟩
 case round =>
  clear H'
  try clear p2
  try clear c3
  obtain ⟨x9_1, rfl, HA, HK1, BK221, HB⟩ := hrel
  cases gk with
  | zero => exact absurd HA.out (by simp [proofmarkref13_find.l0])
  | succ k1 =>
   have H := HA.out
   clear HA
   simp only [proofmarkref13_find.l0] at H
   by_cases c6 : x9_1 < a3
   ·rw [if_pos c6] at H
    have c6b0 : decide (x9_1 < a3) = true := decide_eq_true c6
    clear c6
    by_cases c7 : 0 ≤ x9_1
    ·rw [if_pos c7] at H
     have c7b0 : decide (0 ≤ x9_1) = true := decide_eq_true c7
     clear c7
     by_cases c8 : x9_1 < (l0_1.length : Int)
     ·rw [if_pos c8] at H
      have c8b0 : decide (x9_1 < (l0_1.length : Int)) = true := decide_eq_true c8
      clear c8
      by_cases c9 : ((rd_T50 l0_1 x9_1).f0) = a1
      ·rw [if_pos c9] at H
       have c9b0 : (((rd_T50 l0_1 x9_1).f0) == a1) = true := beq_iff_eq.mpr c9
       have c9b1 : (((rd_T50 l0_1 x9_1).f0) != a1) = false := bne_eq_false_iff_eq.mpr c9
       clear c9
       by_cases c10 : ((rd_T50 l0_1 x9_1).f1) = a2
       ·rw [if_pos c10] at H
        have c10b0 : (((rd_T50 l0_1 x9_1).f1) == a2) = true := beq_iff_eq.mpr c10
        have c10b1 : (((rd_T50 l0_1 x9_1).f1) != a2) = false := bne_eq_false_iff_eq.mpr c10
        clear c10
        obtain rfl := Option.some.inj H
        have hcz11_0 : wr.cell? ⟨gb221, 0, none⟩ = some (.int .i64 a0_0) := (blk_cell BK221.out 0).trans rfl
        have hcz11_1 : wr.cell? ⟨gb221, 1, none⟩ = some (.slice A0_1 l0_1.length c0_1) := (blk_cell BK221.out 1).trans rfl
        have hfz11_0 := blk_frozen BK221.out 0
        have hfz11_1 := blk_frozen BK221.out 1
        have p222 : 0 ≤ (x9_1 : Int) := of_decide_eq_true (by first | (with_reducible assumption) | assumption)
        have q222 : x9_1 < (l0_1.length : Int) := of_decide_eq_true (by first | (with_reducible assumption) | assumption)
        obtain ⟨ad222, e222, hx222_0, hx222_1⟩ := at_T50 HR0_1.out x9_1 p222 q222
        cases e222
        replace hx222_0 := (HB.out.cell (World.block_lt_of_cell? w _ hx222_0)).trans hx222_0
        replace hx222_1 := (HB.out.cell (World.block_lt_of_cell? w _ hx222_1)).trans hx222_1
        replace p222 := eq_true p222
        replace q222 := eq_true q222
        have p223 : 0 ≤ (x9_1 : Int) := of_decide_eq_true (by first | (with_reducible assumption) | assumption)
        have q223 : x9_1 < (l0_1.length : Int) := of_decide_eq_true (by first | (with_reducible assumption) | assumption)
        obtain ⟨ad223, e223, hx223_0, hx223_1⟩ := at_T50 HR0_1.out x9_1 p223 q223
        obtain rfl : ad222 = ad223 := (by injection e223)
        replace hx223_0 := (HB.out.cell (World.block_lt_of_cell? w _ hx223_0)).trans hx223_0
        replace hx223_1 := (HB.out.cell (World.block_lt_of_cell? w _ hx223_1)).trans hx223_1
        replace p223 := eq_true p223
        replace q223 := eq_true q223
        go_wp2
        go_ret
        exact ⟨by first | rfl | (simp [errW_none, errW_some] <;> rfl) | (simp [*, errW_none, errW_some] <;> rfl), by repeat (first | (with_reducible first | exact HB.out | apply below_alloc | apply pw_below_drewN | apply below_drew1 | refine below_set ?_ GE221.out) | exact HB.out)⟩
       ·rw [if_neg c10] at H
        have c10b0 : (((rd_T50 l0_1 x9_1).f1) == a2) = false := beq_eq_false_iff_ne.mpr c10
        have c10b1 : (((rd_T50 l0_1 x9_1).f1) != a2) = true := bne_iff_ne.mpr c10
        have H' := Aside0.mk H
        clear H
        have hcz12_0 : wr.cell? ⟨gb221, 0, none⟩ = some (.int .i64 a0_0) := (blk_cell BK221.out 0).trans rfl
        have hcz12_1 : wr.cell? ⟨gb221, 1, none⟩ = some (.slice A0_1 l0_1.length c0_1) := (blk_cell BK221.out 1).trans rfl
        have hfz12_0 := blk_frozen BK221.out 0
        have hfz12_1 := blk_frozen BK221.out 1
        have p222 : 0 ≤ (x9_1 : Int) := of_decide_eq_true (by first | (with_reducible assumption) | assumption)
        have q222 : x9_1 < (l0_1.length : Int) := of_decide_eq_true (by first | (with_reducible assumption) | assumption)
        obtain ⟨ad222, e222, hx222_0, hx222_1⟩ := at_T50 HR0_1.out x9_1 p222 q222
        cases e222
        replace hx222_0 := (HB.out.cell (World.block_lt_of_cell? w _ hx222_0)).trans hx222_0
        replace hx222_1 := (HB.out.cell (World.block_lt_of_cell? w _ hx222_1)).trans hx222_1
        replace p222 := eq_true p222
        replace q222 := eq_true q222
        have p223 : 0 ≤ (x9_1 : Int) := of_decide_eq_true (by first | (with_reducible assumption) | assumption)
        have q223 : x9_1 < (l0_1.length : Int) := of_decide_eq_true (by first | (with_reducible assumption) | assumption)
        obtain ⟨ad223, e223, hx223_0, hx223_1⟩ := at_T50 HR0_1.out x9_1 p223 q223
        obtain rfl : ad222 = ad223 := (by injection e223)
        replace hx223_0 := (HB.out.cell (World.block_lt_of_cell? w _ hx223_0)).trans hx223_0
        replace hx223_1 := (HB.out.cell (World.block_lt_of_cell? w _ hx223_1)).trans hx223_1
        replace p223 := eq_true p223
        replace q223 := eq_true q223
        go_wp2
        go_roundg k1
        case measure => have := HK1.out; omega
        case rel => exact ⟨(wrap64 (x9_1 + 1)), (by first | rfl | (simp; done) | (simp [*]; done)), H', ⟨by have := HK1.out; omega⟩, ⟨by (with_reducible repeat (first | refine blk_drewN ?_ _ | refine blk_drew ?_ | refine blk_alloc ?_ _)); exact BK221.out⟩, ⟨by repeat (first | (with_reducible first | exact HB.out | apply below_alloc | apply pw_below_drewN | apply below_drew1 | refine below_set ?_ GE221.out) | exact HB.out)⟩⟩
      ·rw [if_neg c9] at H
       have c9b0 : (((rd_T50 l0_1 x9_1).f0) == a1) = false := beq_eq_false_iff_ne.mpr c9
       have c9b1 : (((rd_T50 l0_1 x9_1).f0) != a1) = true := bne_iff_ne.mpr c9
       have H' := Aside0.mk H
       clear H
       have hcz13_0 : wr.cell? ⟨gb221, 0, none⟩ = some (.int .i64 a0_0) := (blk_cell BK221.out 0).trans rfl
       have hcz13_1 : wr.cell? ⟨gb221, 1, none⟩ = some (.slice A0_1 l0_1.length c0_1) := (blk_cell BK221.out 1).trans rfl
       have hfz13_0 := blk_frozen BK221.out 0
       have hfz13_1 := blk_frozen BK221.out 1
       have p222 : 0 ≤ (x9_1 : Int) := of_decide_eq_true (by first | (with_reducible assumption) | assumption)
       have q222 : x9_1 < (l0_1.length : Int) := of_decide_eq_true (by first | (with_reducible assumption) | assumption)
       obtain ⟨ad222, e222, hx222_0, hx222_1⟩ := at_T50 HR0_1.out x9_1 p222 q222
       cases e222
       replace hx222_0 := (HB.out.cell (World.block_lt_of_cell? w _ hx222_0)).trans hx222_0
       replace hx222_1 := (HB.out.cell (World.block_lt_of_cell? w _ hx222_1)).trans hx222_1
       replace p222 := eq_true p222
       replace q222 := eq_true q222
       go_wp2
       go_roundg k1
       case measure => have := HK1.out; omega
       case rel => exact ⟨(wrap64 (x9_1 + 1)), (by first | rfl | (simp; done) | (simp [*]; done)), H', ⟨by have := HK1.out; omega⟩, ⟨by (with_reducible repeat (first | refine blk_drewN ?_ _ | refine blk_drew ?_ | refine blk_alloc ?_ _)); exact BK221.out⟩, ⟨by repeat (first | (with_reducible first | exact HB.out | apply below_alloc | apply pw_below_drewN | apply below_drew1 | refine below_set ?_ GE221.out) | exact HB.out)⟩⟩
     ·rw [if_neg c8] at H
      exact absurd H (by simp)
    ·rw [if_neg c7] at H
     exact absurd H (by simp)
   ·rw [if_neg c6] at H
    have c6b0 : decide (x9_1 < a3) = false := decide_eq_false c6
    clear c6
    obtain rfl := Option.some.inj H
    go_wp2
    go_ret
    exact ⟨by first | rfl | (simp [errW_none, errW_some] <;> rfl) | (simp [*, errW_none, errW_some] <;> rfl), by repeat (first | (with_reducible first | exact HB.out | apply below_alloc | apply pw_below_drewN | apply below_drew1 | refine below_set ?_ GE221.out) | exact HB.out)⟩
end Go.Proofs.Ytlnjefcfbncegaa.Xb
