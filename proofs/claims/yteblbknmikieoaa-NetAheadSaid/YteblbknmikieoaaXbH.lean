/- Slimmed by this session: what nothing names is struck out. -/
import Derived.Test.YteblbknmikieoaaXb0
import Derived.Test.YteblbknmikieoaaXbZ
import Derived.Test.YteblbknmikieoaaXbI
namespace Go.Proofs.Yteblbknmikieoaa.Xb
open Go.RowKit Go.Proofs.YteblbknmikieoaaW.PrintWords Go.Proofs.YteblbknmikieoaaW.PrintLast Go.Proofs.YteblbknmikieoaaW.PrintMore
attribute [local go_sem] max2_int min2_int max_two min_two max_three min_three max_four min_four
set_option linter.unusedVariables false
set_option linter.unusedSimpArgs false
theorem cells4_63 {w : World} {g : Nat} {t : TypeId} {x0 x1 x2 x3 : Value} (h : w.heap[g]? = some (.cells #[x0, x1, x2, x3] t (0, 0))) : w.cell? ⟨g, 0, none⟩ = some x0 ∧ w.cell? ⟨g, 1, none⟩ = some x1 ∧ w.cell? ⟨g, 2, none⟩ = some x2 ∧ w.cell? ⟨g, 3, none⟩ = some x3 ∧ w.frozen? ⟨g, 0, none⟩ = false ∧ w.frozen? ⟨g, 1, none⟩ = false ∧ w.frozen? ⟨g, 2, none⟩ = false ∧ w.frozen? ⟨g, 3, none⟩ = false := ⟨(blk_cell h 0).trans rfl, (blk_cell h 1).trans rfl, (blk_cell h 2).trans rfl, (blk_cell h 3).trans rfl, blk_frozen h 0, blk_frozen h 1, blk_frozen h 2, blk_frozen h 3⟩
theorem cells5_63 {w : World} {g : Nat} {t : TypeId} {x0 x1 x2 x3 x4 : Value} (h : w.heap[g]? = some (.cells #[x0, x1, x2, x3, x4] t (0, 0))) : w.cell? ⟨g, 0, none⟩ = some x0 ∧ w.cell? ⟨g, 1, none⟩ = some x1 ∧ w.cell? ⟨g, 2, none⟩ = some x2 ∧ w.cell? ⟨g, 3, none⟩ = some x3 ∧ w.cell? ⟨g, 4, none⟩ = some x4 ∧ w.frozen? ⟨g, 0, none⟩ = false ∧ w.frozen? ⟨g, 1, none⟩ = false ∧ w.frozen? ⟨g, 2, none⟩ = false ∧ w.frozen? ⟨g, 3, none⟩ = false ∧ w.frozen? ⟨g, 4, none⟩ = false := ⟨(blk_cell h 0).trans rfl, (blk_cell h 1).trans rfl, (blk_cell h 2).trans rfl, (blk_cell h 3).trans rfl, (blk_cell h 4).trans rfl, blk_frozen h 0, blk_frozen h 1, blk_frozen h 2, blk_frozen h 3, blk_frozen h 4⟩
def net_After.l0 : Nat → List Int → List Int → List (S43) → Int → Int → Option (List Int)
 | 0, _, _, _, _, _ => none
 | k + 1, x7, x8, x20, x21, x22 => if x22 < x21 then (if 0 ≤ x22 then (if x22 < (x20.length : Int) then (if 0 ≤ ((rd_T43 x20 x22).f2) then (if ((rd_T43 x20 x22).f2) < (x7.length : Int) then (if x22 < (x8.length : Int) then (net_After.l0 k x7 (x8.set (x22 : Int).toNat (rd x7 ((rd_T43 x20 x22).f2))) x20 x21 (wrap64 (x22 + 1))) else (none)) else (none)) else (none)) else (none)) else (none)) else (some x8)
def net_After.f (k : Nat) (l0_0 : List (S41)) (l0_1 : List (S47)) (l0_2 : List (S43)) (l0_3 : List (S61)) (l0_4 : List (S47)) (l1 : List Int) (l2 : List Int) : Option (List Int) := (net_Eval.f k l0_0 l0_1 l0_2 l0_3 l0_4 l1 l2).bind fun t234 => (if 0 ≤ (l0_2.length : Int) then (if ((l0_2.length : Int) : Int).toNat ≤ 35184372088832 then (net_After.l0 k t234 (List.replicate ((l0_2.length : Int) : Int).toNat 0) l0_2 (l0_2.length : Int) 0) else (none)) else (none))
theorem net_After.mono_l : ∀ k, (∀ y0 y1 y2 y3 y4, LeO (net_After.l0 k y0 y1 y2 y3 y4) (net_After.l0 (k + 1) y0 y1 y2 y3 y4))
 | 0 => fun _ _ _ _ _ r h => by simp [net_After.l0] at h
 | k + 1 => by
  have ih0 := net_After.mono_l k
  ·intro y0 y1 y2 y3 y4
   unfold net_After.l0
   repeat' first
   | (with_reducible exact ih0 _ _ _ _ _)
   | (with_reducible exact net_Eval.mono _ _ _ _ _ _ _ _)
   | (with_reducible exact LeO.refl _)
   | (with_reducible exact LeO.none _)
   | (with_reducible refine LeO.ite ?_ ?_)
   | (with_reducible refine LeO.bind ?_ (fun _ => ?_))
   | exact ih0 _ _ _ _ _
   | exact net_Eval.mono _ _ _ _ _ _ _ _
   | exact LeO.none _
   | refine LeO.ite ?_ ?_
   | refine LeO.bind ?_ (fun _ => ?_)
theorem net_After.mono : ∀ a0 a1 a2 a3 a4 a5 a6 k, LeO (net_After.f k a0 a1 a2 a3 a4 a5 a6) (net_After.f (k + 1) a0 a1 a2 a3 a4 a5 a6) := by
 intro a0 a1 a2 a3 a4 a5 a6 k
 have ih1 := net_After.mono_l k
 unfold net_After.f
 repeat' first
   | (with_reducible exact ih1 _ _ _ _ _)
   | (with_reducible exact net_Eval.mono _ _ _ _ _ _ _ _)
   | (with_reducible exact LeO.refl _)
   | (with_reducible exact LeO.none _)
   | (with_reducible refine LeO.ite ?_ ?_)
   | (with_reducible refine LeO.bind ?_ (fun _ => ?_))
   | exact ih1 _ _ _ _ _
   | exact net_Eval.mono _ _ _ _ _ _ _ _
   | exact LeO.none _
   | refine LeO.ite ?_ ?_
   | refine LeO.bind ?_ (fun _ => ?_)
set_option maxHeartbeats 8000000 in
set_option maxRecDepth 100000 in
theorem net_After.calls (k : Nat) (A0_0 : Option Addr) (c0_0 : Nat) (l0_0 : List (S41)) (A0_1 : Option Addr) (c0_1 : Nat) (l0_1 : List (S47)) (A0_2 : Option Addr) (c0_2 : Nat) (l0_2 : List (S43)) (A0_3 : Option Addr) (c0_3 : Nat) (l0_3 : List (S61)) (A0_4 : Option Addr) (c0_4 : Nat) (l0_4 : List (S47)) (A1 : Option Addr) (c1 : Nat) (l1 : List Int) (A2 : Option Addr) (c2 : Nat) (l2 : List Int) (r : List Int) (w : World) (hr0_0 : Kd.C k41 w A0_0 l0_0.length l0_0) (hc0_0 : l0_0.length ≤ c0_0) (hr0_1 : Kd.C k47 w A0_1 l0_1.length l0_1) (hc0_1 : l0_1.length ≤ c0_1) (hr0_2 : Kd.C k43 w A0_2 l0_2.length l0_2) (hc0_2 : l0_2.length ≤ c0_2) (hr0_3 : Kd.C k61 w A0_3 l0_3.length l0_3) (hc0_3 : l0_3.length ≤ c0_3) (hr0_4 : Kd.C k47 w A0_4 l0_4.length l0_4) (hc0_4 : l0_4.length ≤ c0_4) (hr1 : Kd.C (Kd.int .i64) w A1 l1.length l1) (hc1 : l1.length ≤ c1) (hr2 : Kd.C (Kd.int .i64) w A2 l2.length l2) (hc2 : l2.length ≤ c2) (h : net_After.f k l0_0 l0_1 l0_2 l0_3 l0_4 l1 l2 = some r) :
  Calls Try.prog 22 #[.agg #[.slice A0_0 l0_0.length c0_0, .slice A0_1 l0_1.length c0_1, .slice A0_2 l0_2.length c0_2, .slice A0_3 l0_3.length c0_3, .slice A0_4 l0_4.length c0_4], .slice A1 l1.length c1, .slice A2 l2.length c2] w fun e w' => ∃ v0_ : Value, e = .returned (v0_) ∧ Kd.R (Kd.int .i64) 3 w' w.heap.size (fun _ => True) v0_ r ∧ Below w.heap.size w w' := by
 have hu1 := Try.underlying27
 have hu1 := Try.underlying43
 have HR1_0 := aM hr0_0
 have HC1_0 := aM hc0_0
 clear hr0_0 hc0_0
 have HR1_1 := aM hr0_1
 have HC1_1 := aM hc0_1
 clear hr0_1 hc0_1
 have HR1_2 := aM hr0_2
 have HC1_2 := aM hc0_2
 clear hr0_2 hc0_2
 have HR1_3 := aM hr0_3
 have HC1_3 := aM hc0_3
 clear hr0_3 hc0_3
 have HR1_4 := aM hr0_4
 have HC1_4 := aM hc0_4
 clear hr0_4 hc0_4
 have HR1 := aM hr1
 have HC1 := aM hc1
 clear hr1 hc1
 have HR2 := aM hr2
 have HC2 := aM hc2
 clear hr2 hc2
 have HB := aM (Below.refl w.heap.size w)
 have H : ((net_Eval.f k l0_0 l0_1 l0_2 l0_3 l0_4 l1 l2).bind fun t1 => (if 0 ≤ (l0_2.length : Int) then (if ((l0_2.length : Int) : Int).toNat ≤ 35184372088832 then (net_After.l0 k t1 (List.replicate ((l0_2.length : Int) : Int).toNat 0) l0_2 (l0_2.length : Int) 0) else (none)) else (none))) = some r := h
 clear h
 replace H := Option.bind_eq_some_iff.mp H
 obtain ⟨t1, A3, H⟩ := H
 have A4 := aM A3
 clear A3
 by_cases c3 : 0 ≤ (l0_2.length : Int)
 ·rw [if_pos c3] at H
  have c1b0 := eq_true c3
  have c1b1 : decide (0 ≤ (l0_2.length : Int)) = true := decide_eq_true c3
  clear c3
  by_cases c4 : ((l0_2.length : Int) : Int).toNat ≤ 35184372088832
  ·rw [if_pos c4] at H
   have c2b0 := eq_true c4
   have c2b1 : decide (((l0_2.length : Int) : Int).toNat ≤ 35184372088832) = true := decide_eq_true c4
   clear c4
   obtain ⟨y1, hy1⟩ : ∃ y_ : List Int, y_ = (List.replicate ((l0_2.length : Int) : Int).toNat 0) := ⟨_, rfl⟩
   replace H : (net_After.l0 k t1 y1 l0_2 (l0_2.length : Int) 0) = some r := by first | (rw [hy1]; with_reducible exact H) | (have H1_ := (Option.bind_some _ _).symm.trans H; rw [hy1]; with_reducible exact H1_) | (have H1_ := (Option.bind_some _ _).symm.trans H; with_reducible exact H1_) | with_reducible exact H | (rw [hy1]; exact H) | exact H
   have Ny1 := aM hy1
   clear hy1
   have H' := aM H
   clear H
   go_enter Try.func22, Try.ntmps22
   go_wp2_with (first | ((with_reducible refine zgd 3 rfl ?_); refine zbox 3 #[.slice A0_0 l0_0.length c0_0, .slice A0_1 l0_1.length c0_1, .slice A0_2 l0_2.length c0_2, .slice A0_3 l0_3.length c0_3, .slice A0_4 l0_4.length c0_4] 27 ?_; intro gb1 hg w2 hbox hb; have BK1 := aM (hbox); have GW1 := aM ((q7z HB : w.heap.size ≤ gb1)); have GE1 := aM ((q7z HB : w.heap.size ≤ gb1)); replace HB := aM (ym (q4z HB) hb); clear hb hbox hg; obtain ⟨i1_0, i1_1, i1_2, i1_3, i1_4, j1_0, j1_1, j1_2, j1_3, j1_4⟩ := cells5_63 BK1.out) | ((with_reducible refine zgc 20 rfl ?_); refine zgl (some 14) Try.func20 #[.agg #[.slice A0_0 l0_0.length c0_0, .slice A0_1 l0_1.length c0_1, .slice A0_2 l0_2.length c0_2, .slice A0_3 l0_3.length c0_3, .slice A0_4 l0_4.length c0_4], .slice A1 l1.length c1, .slice A2 l2.length c2] ?_; (with_reducible refine (net_Eval.calls k _ _ l0_0 _ _ l0_1 _ _ l0_2 _ _ l0_3 _ _ l0_4 _ _ l1 _ _ l2 t1 _ ?side1 ?side2 ?side3 ?side4 ?side5 ?side6 ?side7 ?side8 ?side9 ?side10 ?side11 ?side12 ?side13 ?side14 A4.out).mono ?_); (case side1 => exact q1z HR1_0 HB); (case side2 => exact HC1_0.out); (case side3 => exact q1z HR1_1 HB); (case side4 => exact HC1_1.out); (case side5 => exact q1z HR1_2 HB); (case side6 => exact HC1_2.out); (case side7 => exact q1z HR1_3 HB); (case side8 => exact HC1_3.out); (case side9 => exact q1z HR1_4 HB); (case side10 => exact HC1_4.out); (case side11 => exact q1z HR1 HB); (case side12 => exact HC1.out); (case side13 => exact q1z HR2 HB); (case side14 => exact HC2.out); rintro e w3 ⟨v2, rfl, ho1, hb⟩; refine ⟨_, rfl, ?_⟩; have HO1 := aM (Kd.R_lower ho1 (yn (q3z HB GE1))); replace BK1 := aM (yi (zi BK1) hb); replace HB := aM (ym (q3z HB GE1) hb); (try clear hb); (try clear hb2); (try clear hk); (try clear hi); (try clear ho1); obtain ⟨i2_0, i2_1, i2_2, i2_3, i2_4, j2_0, j2_1, j2_2, j2_3, j2_4⟩ := cells5_63 BK1.out) | ((with_reducible refine gate_dst (N := 18) rfl ?_); refine Kd.R_make (Kd.int .i64) _ 3 rfl (N := 18) rfl 32 _ _ rfl (l0_2.length : Int) rfl rfl Try.underlying32 (.int .i64 0) 8 info3 rfl (by decide) (by omega) 0 (ok := fun _ => True) (okp := fun _ => True) rfl (fun _ hk => hk) trivial (of_decide_eq_true q75z) (Nat.le_trans (Nat.mul_le_mul_right _ (of_decide_eq_true q75z : (l0_2.length : Int).toNat ≤ 35184372088832)) (by omega)) (Below.refl _ _) (Nat.le_refl _) ?_; intro v3 w4 ho2 hb hg_ hnew_; clear hg_ hnew_; (first | rw [← Ny1.out] at ho2 | (simp only [Int.reduceToNat] at ho2; rw [← Ny1.out] at ho2)); have HO2 := aM (Kd.R_lower (Kd.R_new' ho2 (Kd.R_lt (q2z HO1))) (yn (q3z HB GE1))); replace HO1 := aM (Kd.R_elder' (q2z HO1) (Kd.R_base ho2) hb); replace BK1 := aM (yi (zi BK1) hb); replace HB := aM (ym (q3z HB GE1) hb); clear hb ho2; obtain ⟨i3_0, i3_1, i3_2, i3_3, i3_4, j3_0, j3_1, j3_2, j3_3, j3_4⟩ := cells5_63 BK1.out))
   go_loopg [22] k (fun kq v4 w' => ∃ (x1_1 : List Int) (x2_1 : Int), v4 = .int .i64 x2_1 ∧ Aside0 (net_After.l0 kq t1 x1_1 l0_2 (l0_2.length : Int) x2_1 = some r) ∧ Aside0 (kq ≤ k) ∧ Aside0 (Kd.R (Kd.int .i64) 3 w' w.heap.size (fun k_ => some k_ ≠ (v3 : Value).ownBlock) v2 t1) ∧ Aside0 (Kd.R (Kd.int .i64) 3 w' w.heap.size (fun k_ => some k_ ≠ (v2 : Value).ownBlock) v3 x1_1) ∧ Aside0 (w'.heap[gb1]? = some (.cells #[(.slice A0_0 l0_0.length c0_0), (.slice A0_1 l0_1.length c0_1), (.slice A0_2 l0_2.length c0_2), (.slice A0_3 l0_3.length c0_3), (.slice A0_4 l0_4.length c0_4)] 27 (0, 0))) ∧ Aside0 (Below w.heap.size w w'))
   case atStart => exact ⟨(y1), (0), q13z, H', ⟨Nat.le_refl _⟩, ⟨q78z HO1⟩, ⟨q78z HO2⟩, ⟨q10z BK1⟩, ⟨q3z HB GE1⟩⟩
   case round =>
    clear H'
    try clear c1
    try clear c2
    try clear p2
    try clear c3
    try clear c1b0
    try clear c1b1
    try clear c4
    try clear c2b0
    try clear c2b1
    try clear i2_0 i2_1 i2_2 i2_3 i2_4
    try clear i3_0 i3_1 i3_2 i3_3 i3_4
    try clear i1_0 i1_1 i1_2 i1_3 i1_4
    try clear j2_0 j2_1 j2_2 j2_3 j2_4
    try clear j3_0 j3_1 j3_2 j3_3 j3_4
    try clear j1_0 j1_1 j1_2 j1_3 j1_4
    obtain ⟨x1_1, x2_1, rfl, HA, HK1, HO_1, HO_2, BK1, HB⟩ := hrel
    cases gk with
    | zero => exact absurd HA.out (by simp [net_After.l0])
    | succ k1 =>
     have H := HA.out
     clear HA
     simp only [net_After.l0] at H
     by_cases c5 : x2_1 < (l0_2.length : Int)
     ·rw [if_pos c5] at H
      have c1b0 := decide_eq_true c5
      clear c5
      by_cases c6 : 0 ≤ x2_1
      ·rw [if_pos c6] at H
       have c1b0 := decide_eq_true c6
       clear c6
       by_cases c7 : x2_1 < (l0_2.length : Int)
       ·rw [if_pos c7] at H
        have c1b0 := decide_eq_true c7
        clear c7
        by_cases c8 : 0 ≤ ((rd_T43 l0_2 x2_1).f2)
        ·rw [if_pos c8] at H
         have c1b0 := decide_eq_true c8
         clear c8
         by_cases c9 : ((rd_T43 l0_2 x2_1).f2) < (t1.length : Int)
         ·rw [if_pos c9] at H
          have c1b0 := decide_eq_true c9
          clear c9
          by_cases c10 : x2_1 < (x1_1.length : Int)
          ·rw [if_pos c10] at H
           have c1b0 := decide_eq_true c10
           clear c10
           obtain ⟨y1, hy1⟩ : ∃ y_ : List Int, y_ = (x1_1.set (x2_1 : Int).toNat (rd t1 ((rd_T43 l0_2 x2_1).f2))) := ⟨_, rfl⟩
           replace H : (net_After.l0 k1 t1 y1 l0_2 (l0_2.length : Int) (wrap64 (x2_1 + 1))) = some r := by first | (rw [hy1]; with_reducible exact H) | (have H1_ := (Option.bind_some _ _).symm.trans H; rw [hy1]; with_reducible exact H1_) | (have H1_ := (Option.bind_some _ _).symm.trans H; with_reducible exact H1_) | with_reducible exact H | (rw [hy1]; exact H) | exact H
           have Ny1 := aM hy1
           clear hy1
           have H' := aM H
           clear H
           have p1 : 0 ≤ (x2_1 : Int) := zod
           have q1 : x2_1 < (l0_2.length : Int) := zod
           obtain ⟨ad1, e1, hx1_0, hx1_1, hx1_2, hx1_3⟩ := at_T43 HR1_2.out x2_1 p1 q1
           cases e1
           replace hx1_0 := zx HB hx1_0
           replace hx1_1 := zx HB hx1_1
           replace hx1_2 := zx HB hx1_2
           replace hx1_3 := zx HB hx1_3
           replace p1 := eq_true p1
           replace q1 := eq_true q1
           go_wp2_with (first | ((with_reducible refine zgd 10 rfl ?_); refine zbox 10 #[.string (⟨#[]⟩ : ByteArray), .int .i64 0, .int .i64 0, .int .i64 0] 43 ?_; intro gb2 hg w2 hbox hb; replace HO_1 := aM (yr (q2z HO_1) hb); replace HO_2 := aM (yr (q2z HO_2) hb); have BK2 := aM (hbox); have GW1 := aM ((q14z HB GE1 : w.heap.size ≤ gb2)); have GE2 := aM ((q14z HB GE1 : w.heap.size ≤ gb2)); replace HB := aM (ym (q3z HB GE1) hb); have NB1_241 := aM ((q38z BK1 : gb1 ≠ gb2)); have NB1_233 := aM ((q39z BK1 : gb2 ≠ gb1)); replace BK1 := aM (yi (zi BK1) hb); clear hb hbox hg; have hnb1 := NB1_233.out; have hnc1 := NB1_241.out; obtain ⟨i1_0, i1_1, i1_2, i1_3, j1_0, j1_1, j1_2, j1_3⟩ := cells4_63 BK2.out) | ((with_reducible refine gate_store (t := 43) (p := 10) rfl ?_); refine store_event (t := 43) (p := 10) (v := ?vo_w24) (w1 := ((((w2.setCell ⟨gb2, 0, none⟩ (.string ((rd_T43 l0_2 x2_1).f0))).setCell ⟨gb2, 1, none⟩ (.int .i64 ((rd_T43 l0_2 x2_1).f1))).setCell ⟨gb2, 2, none⟩ (.int .i64 ((rd_T43 l0_2 x2_1).f2))).setCell ⟨gb2, 3, none⟩ (.int .i64 ((rd_T43 l0_2 x2_1).f3)))) ?hg ?ho ?hn ?hr ?_; (case ho => rfl); (case hg => rfl); (case hn => rfl); (case hr => exact q27z); intro w3 hw; replace HO_1 : Aside0 (Kd.R (Kd.int .i64) 3 w3 w.heap.size (fun k_ => some k_ ≠ (v3 : Value).ownBlock) v2 t1) := ⟨(q59z HO_1 BK2)⟩; replace HO_2 : Aside0 (Kd.R (Kd.int .i64) 3 w3 w.heap.size (fun k_ => some k_ ≠ (v2 : Value).ownBlock) v3 x1_1) := ⟨(q59z HO_2 BK2)⟩; replace BK1 : Aside0 (w3.heap[gb1]? = some (.cells #[.slice A0_0 l0_0.length c0_0, .slice A0_1 l0_1.length c0_1, .slice (some ad1) l0_2.length c0_2, .slice A0_3 l0_3.length c0_3, .slice A0_4 l0_4.length c0_4] 27 (0, 0))) := ⟨(q58z NB1_241 BK1)⟩; replace BK2 : Aside0 (w3.heap[gb2]? = some (.cells #[.string ((rd_T43 l0_2 x2_1).f0), .int .i64 ((rd_T43 l0_2 x2_1).f1), .int .i64 ((rd_T43 l0_2 x2_1).f2), .int .i64 ((rd_T43 l0_2 x2_1).f3)] 43 (0, 0))) := ⟨(q35z BK2)⟩; replace HB : Aside0 (Below w.heap.size w w3) := ⟨(by rw [hw]; exact (q5z HB GE1 GE2))⟩; clear hw; obtain ⟨i2_0, i2_1, i2_2, i2_3, j2_0, j2_1, j2_2, j2_3⟩ := cells4_63 BK2.out; obtain ⟨Ao1, co1, eo1⟩ := Kd.R_slice HO_1.out; subst eo1; have p1 : 0 ≤ (((rd_T43 l0_2 x2_1).f2) : Int) := zod; have q1 : ((rd_T43 l0_2 x2_1).f2) < (t1.length : Int) := zod; obtain ⟨ad2, e1, hx1_0⟩ := Kd.at_int (Kd.R_reads' HO_1.out).2.2 ((rd_T43 l0_2 x2_1).f2) p1 q1; cases e1; replace p1 := eq_true p1; replace q1 := eq_true q1; have p3 : 0 ≤ (x2_1 : Int) := zod; have q2 : (x2_1 : Int) < ((x1_1.length : Int) : Int) := zod; obtain ⟨go1, co2, eo2, gb3, gl1, cl1, HG1⟩ := Kd.R_form HO_2.out (by omega); (first | cases eo2 | (injection eo2 with ea_ en_ ec_; (first | subst ea_ | (injection ea_ with ea_; subst ea_)); subst ec_; clear en_)); have GB1 := aM gb3; have GG1 := aM HG1; clear gb3 gl1 HG1; obtain ⟨hx2_0, hf1_0⟩ := Kd.R_celln 0 HO_2.out (x2_1 : Int) p3 q2; replace p3 := eq_true p3; replace q2 := eq_true q2; obtain ⟨hy1_, hz1_⟩ := Kd.R_celln 0 HO_2.out (x2_1 : Int) (of_decide_eq_true q75z) (of_decide_eq_true q75z); have HP1 := Kd.R_putg HO_2.out (x2_1 : Int) (rd t1 ((rd_T43 l0_2 x2_1).f2))) | ((with_reducible refine gate_store (t := 3) (p := 34) rfl ?_); refine store_event (t := 3) (p := 34) (v := ?vo_w28) (w1 := (w3.setCell ⟨go1, (x2_1 : Int).toNat, none⟩ (.int .i64 (rd t1 ((rd_T43 l0_2 x2_1).f2))))) ?hg ?ho ?hn ?hr ?_; (case ho => rfl); (case hg => rfl); (case hn => rfl); (case hr => exact q27z); intro w4 hw; have hg : w3.grownBy w4 (some go1) := (by rw [hw]; exact HP1.2); have hp_ : Kd.R (Kd.int .i64) 3 w4 w.heap.size (fun k_ => some k_ ≠ (.slice (some ad2) t1.length co1 : Value).ownBlock) (.slice (some ⟨go1, 0, none⟩) x1_1.length co2) y1 := (by rw [hw, Ny1.out]; exact HP1.1); clear HP1; replace HO_1 := aM (Kd.R_after (v := (.slice (some ⟨go1, 0, none⟩) x1_1.length co2)) (v1 := (.slice (some ⟨go1, 0, none⟩) x1_1.length co2)) (ok := (fun _ => True)) (q71z HO_1) hg (.inl rfl)); replace BK1 := aM (blk_grown (g := gb1) (o := .cells #[.slice A0_0 l0_0.length c0_0, .slice A0_1 l0_1.length c0_1, .slice (some ad1) l0_2.length c0_2, .slice A0_3 l0_3.length c0_3, .slice A0_4 l0_4.length c0_4] 27 (0, 0)) (zi BK1) hg (Kd.R_ne HO_2.out BK1.out (by decide))); replace BK2 := aM (blk_grown (g := gb2) (o := .cells #[.string ((rd_T43 l0_2 x2_1).f0), .int .i64 ((rd_T43 l0_2 x2_1).f1), .int .i64 ((rd_T43 l0_2 x2_1).f2), .int .i64 ((rd_T43 l0_2 x2_1).f3)] 43 (0, 0)) (zi BK2) hg (Kd.R_ne HO_2.out BK2.out (by decide))); replace HO_2 := aM (hp_); replace HB := aM ((by rw [hw]; exact yd (HB.out) GB1.out : Below w.heap.size w w4)); clear hg hw hp_))
           go_roundg k1
           case measure => have := HK1.out; omega
           case rel => exact ⟨(y1), (wrap64 (x2_1 + 1)), q13z, H', ⟨by have := HK1.out; omega⟩, ⟨q78z HO_1⟩, ⟨q2z HO_2⟩, ⟨q10z BK1⟩, ⟨q5z HB GE1 GE2⟩⟩
          ·rw [if_neg c10] at H
           exact absurd H (by simp)
         ·rw [if_neg c9] at H
          exact absurd H (by simp)
        ·rw [if_neg c8] at H
         exact absurd H (by simp)
       ·rw [if_neg c7] at H
        exact absurd H (by simp)
      ·rw [if_neg c6] at H
       exact absurd H (by simp)
     ·rw [if_neg c5] at H
      have c1b0 := decide_eq_false c5
      clear c5
      obtain rfl := Option.some.inj H
      go_wp2
      go_ret
      exact ⟨_, q11z, by (with_reducible repeat (first | apply yf | apply yg | apply yh)); exact Kd.R_mono HO_2.out (fun _ hk => trivial), q3z HB GE1⟩
  ·rw [if_neg c4] at H
   exact absurd H (by simp)
 ·rw [if_neg c3] at H
  exact absurd H (by simp)
end Go.Proofs.Yteblbknmikieoaa.Xb
namespace Go.Proofs.Yteblbknmikieoaa.Xb
open Go.RowKit Go.Proofs.YteblbknmikieoaaW.PrintWords Go.Proofs.YteblbknmikieoaaW.PrintLast Go.Proofs.YteblbknmikieoaaW.PrintMore
attribute [local go_sem] max2_int min2_int max_two min_two max_three min_three max_four min_four
set_option linter.unusedVariables false
set_option linter.unusedSimpArgs false
theorem cells5_64 {w : World} {g : Nat} {t : TypeId} {x0 x1 x2 x3 x4 : Value} (h : w.heap[g]? = some (.cells #[x0, x1, x2, x3, x4] t (0, 0))) : w.cell? ⟨g, 0, none⟩ = some x0 ∧ w.cell? ⟨g, 1, none⟩ = some x1 ∧ w.cell? ⟨g, 2, none⟩ = some x2 ∧ w.cell? ⟨g, 3, none⟩ = some x3 ∧ w.cell? ⟨g, 4, none⟩ = some x4 ∧ w.frozen? ⟨g, 0, none⟩ = false ∧ w.frozen? ⟨g, 1, none⟩ = false ∧ w.frozen? ⟨g, 2, none⟩ = false ∧ w.frozen? ⟨g, 3, none⟩ = false ∧ w.frozen? ⟨g, 4, none⟩ = false := ⟨(blk_cell h 0).trans rfl, (blk_cell h 1).trans rfl, (blk_cell h 2).trans rfl, (blk_cell h 3).trans rfl, (blk_cell h 4).trans rfl, blk_frozen h 0, blk_frozen h 1, blk_frozen h 2, blk_frozen h 3, blk_frozen h 4⟩
def w9_Base.f  : Option ((List (S41)) × (List (S47)) × (List (S43)) × (List (S61)) × (List (S47))) := some ((([(⟨21, 1, 0, 0, 0, 0, 0⟩ : S41), (⟨22, 4, 0, 0, 0, 0, 0⟩ : S41), (⟨1, 4, 0, 0, 0, 1, 0⟩ : S41), (⟨9, 4, 1, 2, 0, 0, 0⟩ : S41), (⟨1, 4, 0, 0, 0, 11, 0⟩ : S41), (⟨14, 1, 1, 4, 0, 0, 4⟩ : S41), (⟨1, 4, 0, 0, 0, 0, 0⟩ : S41), (⟨16, 4, 5, 3, 6, 0, 0⟩ : S41), (⟨16, 4, 0, 7, 1, 0, 0⟩ : S41), (⟨1, 4, 0, 0, 0, 12, 0⟩ : S41), (⟨13, 1, 1, 9, 0, 0, 4⟩ : S41), (⟨12, 1, 1, 4, 0, 0, 4⟩ : S41)] : List (S41))), (([(⟨(⟨#[103, 111]⟩ : ByteArray), 0⟩ : S47)] : List (S47))), (([(⟨(⟨#[110]⟩ : ByteArray), 1, 8, 0⟩ : S43)] : List (S43))), (([(⟨8, (⟨#[108, 111, 119]⟩ : ByteArray), 10⟩ : S61), (⟨10, (⟨#[116, 111, 112]⟩ : ByteArray), 11⟩ : S61)] : List (S61))), (([(⟨(⟨#[110]⟩ : ByteArray), 1⟩ : S47)] : List (S47))))
set_option maxHeartbeats 8000000 in
set_option maxRecDepth 100000 in
theorem w9_Base.calls  (r1 : List (S41)) (r2 : List (S47)) (r3 : List (S43)) (r4 : List (S61)) (r5 : List (S47)) (w : World) (h : w9_Base.f  = some (r1, r2, r3, r4, r5)) :
  Calls Try.prog 26 #[] w fun e w' => ∃ v0_ v1_ v2_ v3_ v4_ : Value, e = .returned (.agg #[v0_, v1_, v2_, v3_, v4_]) ∧ Kd.R k41 41 w' w.heap.size (fun _ => True) v0_ r1 ∧ Kd.R k47 47 w' w.heap.size (fun k_ => some k_ ≠ (v4_ : Value).ownBlock) v1_ r2 ∧ Kd.R k43 43 w' w.heap.size (fun _ => True) v2_ r3 ∧ Kd.R k61 61 w' w.heap.size (fun _ => True) v3_ r4 ∧ Kd.R k47 47 w' w.heap.size (fun k_ => some k_ ≠ (v1_ : Value).ownBlock) v4_ r5 ∧ Below w.heap.size w w' := by
 have hu1 := Try.underlying27
 have hu1 := Try.underlying41
 have hu1 := Try.underlying47
 have hu1 := Try.underlying43
 have hu1 := Try.underlying61
 have HB := aM (Below.refl w.heap.size w)
 have H : (some ((([(⟨21, 1, 0, 0, 0, 0, 0⟩ : S41), (⟨22, 4, 0, 0, 0, 0, 0⟩ : S41), (⟨1, 4, 0, 0, 0, 1, 0⟩ : S41), (⟨9, 4, 1, 2, 0, 0, 0⟩ : S41), (⟨1, 4, 0, 0, 0, 11, 0⟩ : S41), (⟨14, 1, 1, 4, 0, 0, 4⟩ : S41), (⟨1, 4, 0, 0, 0, 0, 0⟩ : S41), (⟨16, 4, 5, 3, 6, 0, 0⟩ : S41), (⟨16, 4, 0, 7, 1, 0, 0⟩ : S41), (⟨1, 4, 0, 0, 0, 12, 0⟩ : S41), (⟨13, 1, 1, 9, 0, 0, 4⟩ : S41), (⟨12, 1, 1, 4, 0, 0, 4⟩ : S41)] : List (S41))), (([(⟨(⟨#[103, 111]⟩ : ByteArray), 0⟩ : S47)] : List (S47))), (([(⟨(⟨#[110]⟩ : ByteArray), 1, 8, 0⟩ : S43)] : List (S43))), (([(⟨8, (⟨#[108, 111, 119]⟩ : ByteArray), 10⟩ : S61), (⟨10, (⟨#[116, 111, 112]⟩ : ByteArray), 11⟩ : S61)] : List (S61))), (([(⟨(⟨#[110]⟩ : ByteArray), 1⟩ : S47)] : List (S47))))) = some (r1, r2, r3, r4, r5) := h
 clear h
 obtain ⟨y1, hy1⟩ : ∃ y_ : List (S41), y_ = (([(⟨21, 1, 0, 0, 0, 0, 0⟩ : S41), (⟨22, 4, 0, 0, 0, 0, 0⟩ : S41), (⟨1, 4, 0, 0, 0, 1, 0⟩ : S41), (⟨9, 4, 1, 2, 0, 0, 0⟩ : S41), (⟨1, 4, 0, 0, 0, 11, 0⟩ : S41), (⟨14, 1, 1, 4, 0, 0, 4⟩ : S41), (⟨1, 4, 0, 0, 0, 0, 0⟩ : S41), (⟨16, 4, 5, 3, 6, 0, 0⟩ : S41), (⟨16, 4, 0, 7, 1, 0, 0⟩ : S41), (⟨1, 4, 0, 0, 0, 12, 0⟩ : S41), (⟨13, 1, 1, 9, 0, 0, 4⟩ : S41), (⟨12, 1, 1, 4, 0, 0, 4⟩ : S41)] : List (S41))) := ⟨_, rfl⟩
 replace H : (some (y1, (([(⟨(⟨#[103, 111]⟩ : ByteArray), 0⟩ : S47)] : List (S47))), (([(⟨(⟨#[110]⟩ : ByteArray), 1, 8, 0⟩ : S43)] : List (S43))), (([(⟨8, (⟨#[108, 111, 119]⟩ : ByteArray), 10⟩ : S61), (⟨10, (⟨#[116, 111, 112]⟩ : ByteArray), 11⟩ : S61)] : List (S61))), (([(⟨(⟨#[110]⟩ : ByteArray), 1⟩ : S47)] : List (S47))))) = some (r1, r2, r3, r4, r5) := by first | (rw [hy1]; with_reducible exact H) | (have H1_ := (Option.bind_some _ _).symm.trans H; rw [hy1]; with_reducible exact H1_) | (have H1_ := (Option.bind_some _ _).symm.trans H; with_reducible exact H1_) | with_reducible exact H | (rw [hy1]; exact H) | exact H
 have Ny1 := aM hy1
 clear hy1
 obtain ⟨y2, hy1⟩ : ∃ y_ : List (S47), y_ = (([(⟨(⟨#[103, 111]⟩ : ByteArray), 0⟩ : S47)] : List (S47))) := ⟨_, rfl⟩
 replace H : (some (y1, y2, (([(⟨(⟨#[110]⟩ : ByteArray), 1, 8, 0⟩ : S43)] : List (S43))), (([(⟨8, (⟨#[108, 111, 119]⟩ : ByteArray), 10⟩ : S61), (⟨10, (⟨#[116, 111, 112]⟩ : ByteArray), 11⟩ : S61)] : List (S61))), (([(⟨(⟨#[110]⟩ : ByteArray), 1⟩ : S47)] : List (S47))))) = some (r1, r2, r3, r4, r5) := by first | (rw [hy1]; with_reducible exact H) | (have H1_ := (Option.bind_some _ _).symm.trans H; rw [hy1]; with_reducible exact H1_) | (have H1_ := (Option.bind_some _ _).symm.trans H; with_reducible exact H1_) | with_reducible exact H | (rw [hy1]; exact H) | exact H
 have Ny2 := aM hy1
 clear hy1
 obtain ⟨y3, hy1⟩ : ∃ y_ : List (S43), y_ = (([(⟨(⟨#[110]⟩ : ByteArray), 1, 8, 0⟩ : S43)] : List (S43))) := ⟨_, rfl⟩
 replace H : (some (y1, y2, y3, (([(⟨8, (⟨#[108, 111, 119]⟩ : ByteArray), 10⟩ : S61), (⟨10, (⟨#[116, 111, 112]⟩ : ByteArray), 11⟩ : S61)] : List (S61))), (([(⟨(⟨#[110]⟩ : ByteArray), 1⟩ : S47)] : List (S47))))) = some (r1, r2, r3, r4, r5) := by first | (rw [hy1]; with_reducible exact H) | (have H1_ := (Option.bind_some _ _).symm.trans H; rw [hy1]; with_reducible exact H1_) | (have H1_ := (Option.bind_some _ _).symm.trans H; with_reducible exact H1_) | with_reducible exact H | (rw [hy1]; exact H) | exact H
 have Ny3 := aM hy1
 clear hy1
 obtain ⟨y4, hy1⟩ : ∃ y_ : List (S61), y_ = (([(⟨8, (⟨#[108, 111, 119]⟩ : ByteArray), 10⟩ : S61), (⟨10, (⟨#[116, 111, 112]⟩ : ByteArray), 11⟩ : S61)] : List (S61))) := ⟨_, rfl⟩
 replace H : (some (y1, y2, y3, y4, (([(⟨(⟨#[110]⟩ : ByteArray), 1⟩ : S47)] : List (S47))))) = some (r1, r2, r3, r4, r5) := by first | (rw [hy1]; with_reducible exact H) | (have H1_ := (Option.bind_some _ _).symm.trans H; rw [hy1]; with_reducible exact H1_) | (have H1_ := (Option.bind_some _ _).symm.trans H; with_reducible exact H1_) | with_reducible exact H | (rw [hy1]; exact H) | exact H
 have Ny4 := aM hy1
 clear hy1
 obtain ⟨y5, hy1⟩ : ∃ y_ : List (S47), y_ = (([(⟨(⟨#[110]⟩ : ByteArray), 1⟩ : S47)] : List (S47))) := ⟨_, rfl⟩
 replace H : (some (y1, y2, y3, y4, y5)) = some (r1, r2, r3, r4, r5) := by first | (rw [hy1]; with_reducible exact H) | (have H1_ := (Option.bind_some _ _).symm.trans H; rw [hy1]; with_reducible exact H1_) | (have H1_ := (Option.bind_some _ _).symm.trans H; with_reducible exact H1_) | with_reducible exact H | (rw [hy1]; exact H) | exact H
 have Ny5 := aM hy1
 clear hy1
 simp only [Option.some.injEq, Prod.mk.injEq] at H
 obtain ⟨rfl, rfl, rfl, rfl, rfl⟩ := H
 go_enter Try.func26, Try.ntmps26
 go_wp2_with (first | ((with_reducible refine zgd 0 rfl ?_); refine zbox 0 #[.slice none 0 0, .slice none 0 0, .slice none 0 0, .slice none 0 0, .slice none 0 0] 27 ?_; intro gb1 hg w1 hbox hb; have BK1 := aM (hbox); have GW1 := aM ((q7z HB : w.heap.size ≤ gb1)); have GE1 := aM ((q7z HB : w.heap.size ≤ gb1)); replace HB := aM (ym (q4z HB) hb); clear hb hbox hg) | ((with_reducible refine gate_dst (N := 13) rfl ?_); refine Kd.R_lit k41 _ 41 ?hg (N := 13) ?hd (xs := ([(⟨21, 1, 0, 0, 0, 0, 0⟩ : S41), (⟨22, 4, 0, 0, 0, 0, 0⟩ : S41), (⟨1, 4, 0, 0, 0, 1, 0⟩ : S41), (⟨9, 4, 1, 2, 0, 0, 0⟩ : S41), (⟨1, 4, 0, 0, 0, 11, 0⟩ : S41), (⟨14, 1, 1, 4, 0, 0, 4⟩ : S41), (⟨1, 4, 0, 0, 0, 0, 0⟩ : S41), (⟨16, 4, 5, 3, 6, 0, 0⟩ : S41), (⟨16, 4, 0, 7, 1, 0, 0⟩ : S41), (⟨1, 4, 0, 0, 0, 12, 0⟩ : S41), (⟨13, 1, 1, 9, 0, 0, 4⟩ : S41), (⟨12, 1, 1, 4, 0, 0, 4⟩ : S41)] : List (S41))) (inner := [.int .i64 21, .int .i64 1, .int .i64 0, .int .i64 0, .int .i64 0, .int .i64 0, .int .i64 0, .int .i64 22, .int .i64 4, .int .i64 0, .int .i64 0, .int .i64 0, .int .i64 0, .int .i64 0, .int .i64 1, .int .i64 4, .int .i64 0, .int .i64 0, .int .i64 0, .int .i64 1, .int .i64 0, .int .i64 9, .int .i64 4, .int .i64 1, .int .i64 2, .int .i64 0, .int .i64 0, .int .i64 0, .int .i64 1, .int .i64 4, .int .i64 0, .int .i64 0, .int .i64 0, .int .i64 11, .int .i64 0, .int .i64 14, .int .i64 1, .int .i64 1, .int .i64 4, .int .i64 0, .int .i64 0, .int .i64 4, .int .i64 1, .int .i64 4, .int .i64 0, .int .i64 0, .int .i64 0, .int .i64 0, .int .i64 0, .int .i64 16, .int .i64 4, .int .i64 5, .int .i64 3, .int .i64 6, .int .i64 0, .int .i64 0, .int .i64 16, .int .i64 4, .int .i64 0, .int .i64 7, .int .i64 1, .int .i64 0, .int .i64 0, .int .i64 1, .int .i64 4, .int .i64 0, .int .i64 0, .int .i64 0, .int .i64 12, .int .i64 0, .int .i64 13, .int .i64 1, .int .i64 1, .int .i64 9, .int .i64 0, .int .i64 0, .int .i64 4, .int .i64 12, .int .i64 1, .int .i64 1, .int .i64 4, .int .i64 0, .int .i64 0, .int .i64 4]) (ok := fun _ => True) (okp := fun _ => True) ?hr ?hp (fun _ hk => hk) trivial (Below.refl _ _) (Nat.le_refl _) (by simp) ?_; (case hd => rfl); (case hg => rfl); (case hr => exact q27z); (case hp => exact (Reps.c7 (show Kd.M k41 _ _ _ (⟨21, 1, 0, 0, 0, 0, 0⟩ : S41) [.int .i64 21, .int .i64 1, .int .i64 0, .int .i64 0, .int .i64 0, .int .i64 0, .int .i64 0] from (k41_mkM _ _ _ (⟨21, 1, 0, 0, 0, 0, 0⟩ : S41) )) (Reps.c7 (show Kd.M k41 _ _ _ (⟨22, 4, 0, 0, 0, 0, 0⟩ : S41) [.int .i64 22, .int .i64 4, .int .i64 0, .int .i64 0, .int .i64 0, .int .i64 0, .int .i64 0] from (k41_mkM _ _ _ (⟨22, 4, 0, 0, 0, 0, 0⟩ : S41) )) (Reps.c7 (show Kd.M k41 _ _ _ (⟨1, 4, 0, 0, 0, 1, 0⟩ : S41) [.int .i64 1, .int .i64 4, .int .i64 0, .int .i64 0, .int .i64 0, .int .i64 1, .int .i64 0] from (k41_mkM _ _ _ (⟨1, 4, 0, 0, 0, 1, 0⟩ : S41) )) (Reps.c7 (show Kd.M k41 _ _ _ (⟨9, 4, 1, 2, 0, 0, 0⟩ : S41) [.int .i64 9, .int .i64 4, .int .i64 1, .int .i64 2, .int .i64 0, .int .i64 0, .int .i64 0] from (k41_mkM _ _ _ (⟨9, 4, 1, 2, 0, 0, 0⟩ : S41) )) (Reps.c7 (show Kd.M k41 _ _ _ (⟨1, 4, 0, 0, 0, 11, 0⟩ : S41) [.int .i64 1, .int .i64 4, .int .i64 0, .int .i64 0, .int .i64 0, .int .i64 11, .int .i64 0] from (k41_mkM _ _ _ (⟨1, 4, 0, 0, 0, 11, 0⟩ : S41) )) (Reps.c7 (show Kd.M k41 _ _ _ (⟨14, 1, 1, 4, 0, 0, 4⟩ : S41) [.int .i64 14, .int .i64 1, .int .i64 1, .int .i64 4, .int .i64 0, .int .i64 0, .int .i64 4] from (k41_mkM _ _ _ (⟨14, 1, 1, 4, 0, 0, 4⟩ : S41) )) (Reps.c7 (show Kd.M k41 _ _ _ (⟨1, 4, 0, 0, 0, 0, 0⟩ : S41) [.int .i64 1, .int .i64 4, .int .i64 0, .int .i64 0, .int .i64 0, .int .i64 0, .int .i64 0] from (k41_mkM _ _ _ (⟨1, 4, 0, 0, 0, 0, 0⟩ : S41) )) (Reps.c7 (show Kd.M k41 _ _ _ (⟨16, 4, 5, 3, 6, 0, 0⟩ : S41) [.int .i64 16, .int .i64 4, .int .i64 5, .int .i64 3, .int .i64 6, .int .i64 0, .int .i64 0] from (k41_mkM _ _ _ (⟨16, 4, 5, 3, 6, 0, 0⟩ : S41) )) (Reps.c7 (show Kd.M k41 _ _ _ (⟨16, 4, 0, 7, 1, 0, 0⟩ : S41) [.int .i64 16, .int .i64 4, .int .i64 0, .int .i64 7, .int .i64 1, .int .i64 0, .int .i64 0] from (k41_mkM _ _ _ (⟨16, 4, 0, 7, 1, 0, 0⟩ : S41) )) (Reps.c7 (show Kd.M k41 _ _ _ (⟨1, 4, 0, 0, 0, 12, 0⟩ : S41) [.int .i64 1, .int .i64 4, .int .i64 0, .int .i64 0, .int .i64 0, .int .i64 12, .int .i64 0] from (k41_mkM _ _ _ (⟨1, 4, 0, 0, 0, 12, 0⟩ : S41) )) (Reps.c7 (show Kd.M k41 _ _ _ (⟨13, 1, 1, 9, 0, 0, 4⟩ : S41) [.int .i64 13, .int .i64 1, .int .i64 1, .int .i64 9, .int .i64 0, .int .i64 0, .int .i64 4] from (k41_mkM _ _ _ (⟨13, 1, 1, 9, 0, 0, 4⟩ : S41) )) (Reps.c7 (show Kd.M k41 _ _ _ (⟨12, 1, 1, 4, 0, 0, 4⟩ : S41) [.int .i64 12, .int .i64 1, .int .i64 1, .int .i64 4, .int .i64 0, .int .i64 0, .int .i64 4] from (k41_mkM _ _ _ (⟨12, 1, 1, 4, 0, 0, 4⟩ : S41) )) (Reps.none _ _)))))))))))))); intro v1 w2 ho1 hb hg_ hnew_; clear hg_ hnew_; (first | rw [← Ny1.out] at ho1 | (simp only [Int.reduceToNat] at ho1; rw [← Ny1.out] at ho1)); have HO1 := aM (Kd.R_lower ho1 (yn (q3z HB GE1))); replace BK1 := aM (yi (zi BK1) hb); replace HB := aM (ym (q3z HB GE1) hb); clear hb ho1) | ((with_reducible refine gate_dst (N := 15) rfl ?_); refine Kd.R_lit k47 _ 47 ?hg (N := 15) ?hd (xs := ([(⟨(⟨#[103, 111]⟩ : ByteArray), 0⟩ : S47)] : List (S47))) (inner := [.string (⟨#[103, 111]⟩ : ByteArray), .int .i64 0]) (ok := fun _ => True) (okp := fun _ => True) ?hr ?hp (fun _ hk => hk) trivial (Below.refl _ _) (Nat.le_refl _) (by simp) ?_; (case hd => rfl); (case hg => rfl); (case hr => exact q27z); (case hp => exact (Reps.c2 (show Kd.M k47 _ _ _ (⟨(⟨#[103, 111]⟩ : ByteArray), 0⟩ : S47) [.string (⟨#[103, 111]⟩ : ByteArray), .int .i64 0] from (k47_mkM _ _ _ (⟨(⟨#[103, 111]⟩ : ByteArray), 0⟩ : S47) )) (Reps.none _ _))); intro v2 w3 ho2 hb hg_ hnew_; clear hg_ hnew_; (first | rw [← Ny2.out] at ho2 | (simp only [Int.reduceToNat] at ho2; rw [← Ny2.out] at ho2)); replace HO1 := aM (yr (q2z HO1) hb); have HO2 := aM (Kd.R_lower ho2 (yn (q3z HB GE1))); replace BK1 := aM (yi (zi BK1) hb); replace HB := aM (ym (q3z HB GE1) hb); clear hb ho2) | ((with_reducible refine gate_dst (N := 17) rfl ?_); refine Kd.R_lit k43 _ 43 ?hg (N := 17) ?hd (xs := ([(⟨(⟨#[110]⟩ : ByteArray), 1, 8, 0⟩ : S43)] : List (S43))) (inner := [.string (⟨#[110]⟩ : ByteArray), .int .i64 1, .int .i64 8, .int .i64 0]) (ok := fun _ => True) (okp := fun _ => True) ?hr ?hp (fun _ hk => hk) trivial (Below.refl _ _) (Nat.le_refl _) (by simp) ?_; (case hd => rfl); (case hg => rfl); (case hr => exact q27z); (case hp => exact (Reps.c4 (show Kd.M k43 _ _ _ (⟨(⟨#[110]⟩ : ByteArray), 1, 8, 0⟩ : S43) [.string (⟨#[110]⟩ : ByteArray), .int .i64 1, .int .i64 8, .int .i64 0] from (k43_mkM _ _ _ (⟨(⟨#[110]⟩ : ByteArray), 1, 8, 0⟩ : S43) )) (Reps.none _ _))); intro v3 w4 ho3 hb hg_ hnew_; clear hg_ hnew_; (first | rw [← Ny3.out] at ho3 | (simp only [Int.reduceToNat] at ho3; rw [← Ny3.out] at ho3)); replace HO1 := aM (yr (q2z HO1) hb); replace HO2 := aM (yr (q2z HO2) hb); have HO3 := aM (Kd.R_lower ho3 (yn (q3z HB GE1))); replace BK1 := aM (yi (zi BK1) hb); replace HB := aM (ym (q3z HB GE1) hb); clear hb ho3) | ((with_reducible refine gate_dst (N := 20) rfl ?_); refine Kd.R_lit k61 _ 61 ?hg (N := 20) ?hd (xs := ([(⟨8, (⟨#[108, 111, 119]⟩ : ByteArray), 10⟩ : S61), (⟨10, (⟨#[116, 111, 112]⟩ : ByteArray), 11⟩ : S61)] : List (S61))) (inner := [.int .i64 8, .string (⟨#[108, 111, 119]⟩ : ByteArray), .int .i64 10, .int .i64 10, .string (⟨#[116, 111, 112]⟩ : ByteArray), .int .i64 11]) (ok := fun _ => True) (okp := fun _ => True) ?hr ?hp (fun _ hk => hk) trivial (Below.refl _ _) (Nat.le_refl _) (by simp) ?_; (case hd => rfl); (case hg => rfl); (case hr => exact q27z); (case hp => exact (Reps.c3 (show Kd.M k61 _ _ _ (⟨8, (⟨#[108, 111, 119]⟩ : ByteArray), 10⟩ : S61) [.int .i64 8, .string (⟨#[108, 111, 119]⟩ : ByteArray), .int .i64 10] from (k61_mkM _ _ _ (⟨8, (⟨#[108, 111, 119]⟩ : ByteArray), 10⟩ : S61) )) (Reps.c3 (show Kd.M k61 _ _ _ (⟨10, (⟨#[116, 111, 112]⟩ : ByteArray), 11⟩ : S61) [.int .i64 10, .string (⟨#[116, 111, 112]⟩ : ByteArray), .int .i64 11] from (k61_mkM _ _ _ (⟨10, (⟨#[116, 111, 112]⟩ : ByteArray), 11⟩ : S61) )) (Reps.none _ _)))); intro v4 w5 ho4 hb hg_ hnew_; clear hg_ hnew_; (first | rw [← Ny4.out] at ho4 | (simp only [Int.reduceToNat] at ho4; rw [← Ny4.out] at ho4)); replace HO1 := aM (yr (q2z HO1) hb); replace HO2 := aM (yr (q2z HO2) hb); replace HO3 := aM (yr (q2z HO3) hb); have HO4 := aM (Kd.R_lower ho4 (yn (q3z HB GE1))); replace BK1 := aM (yi (zi BK1) hb); replace HB := aM (ym (q3z HB GE1) hb); clear hb ho4) | ((with_reducible refine gate_dst (N := 22) rfl ?_); refine Kd.R_lit k47 _ 47 ?hg (N := 22) ?hd (xs := ([(⟨(⟨#[110]⟩ : ByteArray), 1⟩ : S47)] : List (S47))) (inner := [.string (⟨#[110]⟩ : ByteArray), .int .i64 1]) (ok := fun _ => True) (okp := fun _ => True) ?hr ?hp (fun _ hk => hk) trivial (Below.refl _ _) (Nat.le_refl _) (by simp) ?_; (case hd => rfl); (case hg => rfl); (case hr => exact q27z); (case hp => exact (Reps.c2 (show Kd.M k47 _ _ _ (⟨(⟨#[110]⟩ : ByteArray), 1⟩ : S47) [.string (⟨#[110]⟩ : ByteArray), .int .i64 1] from (k47_mkM _ _ _ (⟨(⟨#[110]⟩ : ByteArray), 1⟩ : S47) )) (Reps.none _ _))); intro v5 w6 ho5 hb hg_ hnew_; clear hg_ hnew_; (first | rw [← Ny5.out] at ho5 | (simp only [Int.reduceToNat] at ho5; rw [← Ny5.out] at ho5)); replace HO1 := aM (yr (q2z HO1) hb); replace HO3 := aM (yr (q2z HO3) hb); replace HO4 := aM (yr (q2z HO4) hb); have HO5 := aM (Kd.R_lower (Kd.R_new' ho5 (Kd.R_lt (q2z HO2))) (yn (q3z HB GE1))); replace HO2 := aM (Kd.R_elder' (q2z HO2) (Kd.R_base ho5) hb); replace BK1 := aM (yi (zi BK1) hb); replace HB := aM (ym (q3z HB GE1) hb); clear hb ho5; obtain ⟨Ao1, co1, eo1⟩ := Kd.R_slice HO5.out; subst eo1; obtain ⟨Ao2, co2, eo2⟩ := Kd.R_slice HO4.out; subst eo2; obtain ⟨Ao3, co3, eo3⟩ := Kd.R_slice HO3.out; subst eo3; obtain ⟨Ao4, co4, eo4⟩ := Kd.R_slice HO2.out; subst eo4; obtain ⟨Ao5, co5, eo5⟩ := Kd.R_slice HO1.out; subst eo5; obtain ⟨i1_0, i1_1, i1_2, i1_3, i1_4, j1_0, j1_1, j1_2, j1_3, j1_4⟩ := cells5_64 BK1.out))
 refine bodyPost_ret (results_cell_row rfl _ _ gb1 27 #[.slice Ao5 y1.length co5, .slice Ao4 y2.length co4, .slice Ao3 y3.length co3, .slice Ao2 y4.length co2, .slice Ao1 y5.length co1] (0, 0) _ rfl (by (with_reducible repeat (first | refine ya ?_ _ | refine yc ?_ | refine yb ?_ _)); refine ys (cs := #[.slice Ao5 y1.length co5, .slice Ao4 y2.length co4, .slice Ao3 y3.length co3, .slice Ao2 y4.length co2, .slice none 0 0]) ?_ 4 _ rfl; (with_reducible repeat (first | refine ya ?_ _ | refine yc ?_ | refine yb ?_ _)); refine ys (cs := #[.slice Ao5 y1.length co5, .slice Ao4 y2.length co4, .slice Ao3 y3.length co3, .slice none 0 0, .slice none 0 0]) ?_ 3 _ rfl; (with_reducible repeat (first | refine ya ?_ _ | refine yc ?_ | refine yb ?_ _)); refine ys (cs := #[.slice Ao5 y1.length co5, .slice Ao4 y2.length co4, .slice none 0 0, .slice none 0 0, .slice none 0 0]) ?_ 2 _ rfl; (with_reducible repeat (first | refine ya ?_ _ | refine yc ?_ | refine yb ?_ _)); refine ys (cs := #[.slice Ao5 y1.length co5, .slice none 0 0, .slice none 0 0, .slice none 0 0, .slice none 0 0]) ?_ 1 _ rfl; (with_reducible repeat (first | refine ya ?_ _ | refine yc ?_ | refine yb ?_ _)); refine ys (cs := #[.slice none 0 0, .slice none 0 0, .slice none 0 0, .slice none 0 0, .slice none 0 0]) ?_ 0 _ rfl; (with_reducible repeat (first | refine ya ?_ _ | refine yc ?_ | refine yb ?_ _)); exact BK1.out) Try.underlying27 rfl (by kernel_rfl)) rfl ?_
 exact ⟨_, _, _, _, _, q11z, q43z HO1 BK1, q57z HO2 BK1, q43z HO3 BK1, q43z HO4 BK1, q57z HO5 BK1, q3z HB GE1⟩
end Go.Proofs.Yteblbknmikieoaa.Xb
