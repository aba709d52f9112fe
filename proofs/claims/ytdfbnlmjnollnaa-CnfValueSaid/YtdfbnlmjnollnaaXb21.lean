/- Slimmed by this session: what nothing names is struck out. -/
import Derived.Test.YtdfbnlmjnollnaaXb0
namespace Go.Proofs.Ytdfbnlmjnollnaa.Xb
open Go.RowKit Go.Proofs.YtdfbnlmjnollnaaW.PrintWords Go.Proofs.YtdfbnlmjnollnaaW.PrintLast Go.Proofs.YtdfbnlmjnollnaaW.PrintMore
attribute [local go_sem] max2_int min2_int max_two min_two max_three min_three max_four min_four
set_option linter.unusedVariables false
set_option linter.unusedSimpArgs false
mutual
def proofmarklaw17_within.l0 : Nat → List (List Int) → Int → Int → Int → Option (Bool)
 | 0, _, _, _, _ => none
 | k + 1, x0, x1, x2, x7 => if x7 < (x0.length : Int) then (proofmarklaw17_within.l1 k x0 x1 x2 x7 0) else (some true)
def proofmarklaw17_within.l1 : Nat → List (List Int) → Int → Int → Int → Int → Option (Bool)
 | 0, _, _, _, _, _ => none
 | k + 1, x0, x1, x2, x7, x8 => if 0 ≤ x7 then (if x7 < (x0.length : Int) then (if x8 < ((rd_L2 x0 x7).length : Int) then (if 0 ≤ x8 then (if (mx (rd (rd_L2 x0 x7) x8) (wrap64 (-(rd (rd_L2 x0 x7) x8)))) ≤ x1 then (some false) else (if (mx (rd (rd_L2 x0 x7) x8) (wrap64 (-(rd (rd_L2 x0 x7) x8)))) > x2 then (some false) else (proofmarklaw17_within.l1 k x0 x1 x2 x7 (wrap64 (x8 + 1))))) else (none)) else (proofmarklaw17_within.l0 k x0 x1 x2 (wrap64 (x7 + 1)))) else (none)) else (none)
end
def proofmarklaw17_within.f (k : Nat) (l0 : List (List Int)) (a1 : Int) (a2 : Int) : Option (Bool) := proofmarklaw17_within.l0 k l0 a1 a2 0
theorem proofmarklaw17_within.mono_l : ∀ k, (∀ y0 y1 y2 y3, LeO (proofmarklaw17_within.l0 k y0 y1 y2 y3) (proofmarklaw17_within.l0 (k + 1) y0 y1 y2 y3)) ∧ (∀ y0 y1 y2 y3 y4, LeO (proofmarklaw17_within.l1 k y0 y1 y2 y3 y4) (proofmarklaw17_within.l1 (k + 1) y0 y1 y2 y3 y4))
 | 0 => ⟨fun _ _ _ _ r h => by simp [proofmarklaw17_within.l0] at h, fun _ _ _ _ _ r h => by simp [proofmarklaw17_within.l1] at h⟩
 | k + 1 => by
  obtain ⟨ih0, ih1⟩ := proofmarklaw17_within.mono_l k
  refine ⟨?_, ?_⟩
  ·intro y0 y1 y2 y3
   unfold proofmarklaw17_within.l0
   repeat' first
   | (with_reducible exact ih0 _ _ _ _)
   | (with_reducible exact ih1 _ _ _ _ _)
   | (with_reducible exact LeO.refl _)
   | (with_reducible exact LeO.none _)
   | (with_reducible refine LeO.ite ?_ ?_)
   | (with_reducible refine LeO.bind ?_ (fun _ => ?_))
   | exact ih0 _ _ _ _
   | exact ih1 _ _ _ _ _
   | exact LeO.none _
   | refine LeO.ite ?_ ?_
   | refine LeO.bind ?_ (fun _ => ?_)
  ·intro y0 y1 y2 y3 y4
   unfold proofmarklaw17_within.l1
   repeat' first
   | (with_reducible exact ih0 _ _ _ _)
   | (with_reducible exact ih1 _ _ _ _ _)
   | (with_reducible exact LeO.refl _)
   | (with_reducible exact LeO.none _)
   | (with_reducible refine LeO.ite ?_ ?_)
   | (with_reducible refine LeO.bind ?_ (fun _ => ?_))
   | exact ih0 _ _ _ _
   | exact ih1 _ _ _ _ _
   | exact LeO.none _
   | refine LeO.ite ?_ ?_
   | refine LeO.bind ?_ (fun _ => ?_)
theorem proofmarklaw17_within.mono : ∀ a0 a1 a2 k, LeO (proofmarklaw17_within.f k a0 a1 a2) (proofmarklaw17_within.f (k + 1) a0 a1 a2) := by
 intro a0 a1 a2 k
 obtain ⟨ih0, ih1⟩ := proofmarklaw17_within.mono_l k
 unfold proofmarklaw17_within.f
 repeat' first
   | (with_reducible exact ih0 _ _ _ _)
   | (with_reducible exact ih1 _ _ _ _ _)
   | (with_reducible exact LeO.refl _)
   | (with_reducible exact LeO.none _)
   | (with_reducible refine LeO.ite ?_ ?_)
   | (with_reducible refine LeO.bind ?_ (fun _ => ?_))
   | exact ih0 _ _ _ _
   | exact ih1 _ _ _ _ _
   | exact LeO.none _
   | refine LeO.ite ?_ ?_
   | refine LeO.bind ?_ (fun _ => ?_)
set_option maxHeartbeats 8000000 in
set_option maxRecDepth 100000 in
theorem proofmarklaw17_within.calls (k : Nat) (A0 : Option Addr) (c0 : Nat) (l0 : List (List Int)) (a1 : Int) (a2 : Int) (r : Bool) (w : World) (hr0 : Kd.C (Kd.slice 3 (Kd.int .i64)) w A0 l0.length l0) (hc0 : l0.length ≤ c0) (h : proofmarklaw17_within.f k l0 a1 a2 = some r) :
  Calls Try.prog 20 #[.slice A0 l0.length c0, .int .i64 a1, .int .i64 a2] w fun e w' => e = .returned (.bool r) ∧ Below w.heap.size w w' := by
 have HR0 := Aside0.mk hr0
 have HC0 := Aside0.mk hc0
 clear hr0 hc0
 have HB := Aside0.mk (Below.refl w.heap.size w)
 have H : (proofmarklaw17_within.l0 k l0 a1 a2 0) = some r := h
 clear h
 have H' := Aside0.mk H
 clear H
 go_enter Try.func20, Try.ntmps20
 go_wp2
 repeat (go_quiet (fail); try go_wp2)
 go_loopg [7] k (fun kq v7 w' => ∃ (x7_1 : Int), v7 = .int .i64 x7_1 ∧ Aside0 (proofmarklaw17_within.l0 kq l0 a1 a2 x7_1 = some r) ∧ Aside0 (kq ≤ k) ∧ Aside0 (Below w.heap.size w w'))
 case atStart => exact ⟨(0), (by first | rfl | (simp; done) | (simp [*]; done)), H', ⟨Nat.le_refl _⟩, ⟨by repeat (first | (with_reducible first | exact HB.out | apply below_alloc | apply pw_below_drewN | apply below_drew1) | exact HB.out)⟩⟩
 case round =>
  clear H'
  try clear c2
  try clear p2
  obtain ⟨x7_1, rfl, HA, HK1, HB⟩ := hrel
  cases gk with
  | zero => exact absurd HA.out (by simp [proofmarklaw17_within.l0])
  | succ k1 =>
   have H := HA.out
   clear HA
   simp only [proofmarklaw17_within.l0] at H
   by_cases c4 : x7_1 < (l0.length : Int)
   ·rw [if_pos c4] at H
    have c4b0 : decide (x7_1 < (l0.length : Int)) = true := decide_eq_true c4
    clear c4
    have H' := Aside0.mk H
    clear H
    go_wp2
    repeat (go_quiet (fail); try go_wp2)
    go_loopg [8] k1 (fun kq v8 w' => ∃ (x8_2 : Int), v8 = .int .i64 x8_2 ∧ Aside0 (proofmarklaw17_within.l1 kq l0 a1 a2 x7_1 x8_2 = some r) ∧ Aside0 (kq ≤ k1) ∧ Aside0 (Below w.heap.size w w'))
    case atStart => exact ⟨(0), (by first | rfl | (simp; done) | (simp [*]; done)), H', ⟨Nat.le_refl _⟩, ⟨by repeat (first | (with_reducible first | exact HB.out | apply below_alloc | apply pw_below_drewN | apply below_drew1) | exact HB.out)⟩⟩
    case round =>
     clear H'
     try clear c2
     try clear p2
     try clear c4
     try clear c4b0
     try clear p2
     obtain ⟨x8_2, rfl, HA, HK2, HB⟩ := hrel
     cases gk with
     | zero => exact absurd HA.out (by simp [proofmarklaw17_within.l1])
     | succ k2 =>
      have H := HA.out
      clear HA
      simp only [proofmarklaw17_within.l1] at H
      by_cases c5 : 0 ≤ x7_1
      ·rw [if_pos c5] at H
       have c5b0 : decide (0 ≤ x7_1) = true := decide_eq_true c5
       clear c5
       by_cases c6 : x7_1 < (l0.length : Int)
       ·rw [if_pos c6] at H
        have c6b0 : decide (x7_1 < (l0.length : Int)) = true := decide_eq_true c6
        clear c6
        by_cases c7 : x8_2 < ((rd_L2 l0 x7_1).length : Int)
        ·rw [if_pos c7] at H
         have c7b0 : decide (x8_2 < ((rd_L2 l0 x7_1).length : Int)) = true := decide_eq_true c7
         clear c7
         by_cases c8 : 0 ≤ x8_2
         ·rw [if_pos c8] at H
          have c8b0 : decide (0 ≤ x8_2) = true := decide_eq_true c8
          clear c8
          obtain ⟨ji9, hji9⟩ : ∃ j_ : Int, (mx (rd (rd_L2 l0 x7_1) x8_2) (wrap64 (-(rd (rd_L2 l0 x7_1) x8_2)))) = j_ := ⟨_, rfl⟩
          replace H : (if (ji9) ≤ a1 then (some false) else (if (ji9) > a2 then (some false) else (proofmarklaw17_within.l1 k2 l0 a1 a2 x7_1 (wrap64 (x8_2 + 1))))) = some r := by first | (rw [hji9] at H; exact H) | (simp only [hji9] at H ⊢; exact H)
          have hji9_ : (if (rd (rd_L2 l0 x7_1) x8_2) < (wrap64 (-(rd (rd_L2 l0 x7_1) x8_2))) then (wrap64 (-(rd (rd_L2 l0 x7_1) x8_2))) else (rd (rd_L2 l0 x7_1) x8_2)) = ji9 := hji9
          by_cases c10 : (ji9) ≤ a1
          ·rw [if_pos c10] at H
           have c10b0 : decide ((ji9) ≤ a1) = true := decide_eq_true c10
           clear c10
           obtain rfl := Option.some.inj H
           have p290 : 0 ≤ (x7_1 : Int) := of_decide_eq_true (by first | (with_reducible assumption) | assumption)
           have q290 : x7_1 < (l0.length : Int) := of_decide_eq_true (by first | (with_reducible assumption) | assumption)
           obtain ⟨ad290, A290_0, c290_0, e290, hx290_0, hl290_0, hi290_0⟩ := at_L2 HR0.out x7_1 p290 q290
           cases e290
           replace hx290_0 := (HB.out.cell (World.block_lt_of_cell? w _ hx290_0)).trans hx290_0
           have HR290_0 := Aside0.mk hi290_0
           have HC290_0 := Aside0.mk hl290_0
           clear hi290_0 hl290_0
           replace p290 := eq_true p290
           replace q290 := eq_true q290
           have p291 : 0 ≤ (x7_1 : Int) := of_decide_eq_true (by first | (with_reducible assumption) | assumption)
           have q291 : x7_1 < (l0.length : Int) := of_decide_eq_true (by first | (with_reducible assumption) | assumption)
           obtain ⟨ad291, A291_0, c291_0, e291, hx291_0, hl291_0, hi291_0⟩ := at_L2 HR0.out x7_1 p291 q291
           obtain rfl : ad290 = ad291 := (by injection e291)
           replace hx291_0 := (HB.out.cell (World.block_lt_of_cell? w _ hx291_0)).trans hx291_0
           have HR291_0 := Aside0.mk hi291_0
           have HC291_0 := Aside0.mk hl291_0
           clear hi291_0 hl291_0
           replace p291 := eq_true p291
           replace q291 := eq_true q291
           have ea_ := Option.some.inj (hx290_0.symm.trans hx291_0)
           injection ea_ with ea_ en_ ec_
           subst ea_
           subst ec_
           clear en_
           have p292 : 0 ≤ (x8_2 : Int) := of_decide_eq_true (by first | (with_reducible assumption) | assumption)
           have q292 : x8_2 < ((rd_L2 l0 x7_1).length : Int) := of_decide_eq_true (by first | (with_reducible assumption) | assumption)
           obtain ⟨ad292, e292, hx292_0⟩ := Kd.at_int HR291_0.out x8_2 p292 q292
           cases e292
           replace hx292_0 := (HB.out.cell (World.block_lt_of_cell? w _ hx292_0)).trans hx292_0
           replace p292 := eq_true p292
           replace q292 := eq_true q292
           have p293 : 0 ≤ (x7_1 : Int) := of_decide_eq_true (by first | (with_reducible assumption) | assumption)
           have q293 : x7_1 < (l0.length : Int) := of_decide_eq_true (by first | (with_reducible assumption) | assumption)
           obtain ⟨ad293, A293_0, c293_0, e293, hx293_0, hl293_0, hi293_0⟩ := at_L2 HR0.out x7_1 p293 q293
           obtain rfl : ad290 = ad293 := (by injection e293)
           replace hx293_0 := (HB.out.cell (World.block_lt_of_cell? w _ hx293_0)).trans hx293_0
           have HR293_0 := Aside0.mk hi293_0
           have HC293_0 := Aside0.mk hl293_0
           clear hi293_0 hl293_0
           replace p293 := eq_true p293
           replace q293 := eq_true q293
           have ea_ := Option.some.inj (hx290_0.symm.trans hx293_0)
           injection ea_ with ea_ en_ ec_
           subst ea_
           subst ec_
           clear en_
           have p294 : 0 ≤ (x8_2 : Int) := of_decide_eq_true (by first | (with_reducible assumption) | assumption)
           have q294 : x8_2 < ((rd_L2 l0 x7_1).length : Int) := of_decide_eq_true (by first | (with_reducible assumption) | assumption)
           obtain ⟨ad294, e294, hx294_0⟩ := Kd.at_int HR293_0.out x8_2 p294 q294
           cases e294
           replace hx294_0 := (HB.out.cell (World.block_lt_of_cell? w _ hx294_0)).trans hx294_0
           replace p294 := eq_true p294
           replace q294 := eq_true q294
           go_wp2
           repeat (go_quiet (fail); try go_wp2)
           go_ret
           exact ⟨by first | rfl | (simp [errW_none, errW_some] <;> rfl) | (simp only [← hji9]; first | rfl | (simp [errW_none, errW_some] <;> rfl)) | (simp [*, errW_none, errW_some] <;> rfl), by repeat (first | (with_reducible first | exact HB.out | apply below_alloc | apply pw_below_drewN | apply below_drew1) | exact HB.out)⟩
          ·rw [if_neg c10] at H
           have c10b0 : decide ((ji9) ≤ a1) = false := decide_eq_false c10
           clear c10
           by_cases c11 : (ji9) > a2
           ·rw [if_pos c11] at H
            have c11b0 : decide (a2 < (ji9)) = true := decide_eq_true c11
            clear c11
            obtain rfl := Option.some.inj H
            have p290 : 0 ≤ (x7_1 : Int) := of_decide_eq_true (by first | (with_reducible assumption) | assumption)
            have q290 : x7_1 < (l0.length : Int) := of_decide_eq_true (by first | (with_reducible assumption) | assumption)
            obtain ⟨ad290, A290_0, c290_0, e290, hx290_0, hl290_0, hi290_0⟩ := at_L2 HR0.out x7_1 p290 q290
            cases e290
            replace hx290_0 := (HB.out.cell (World.block_lt_of_cell? w _ hx290_0)).trans hx290_0
            have HR290_0 := Aside0.mk hi290_0
            have HC290_0 := Aside0.mk hl290_0
            clear hi290_0 hl290_0
            replace p290 := eq_true p290
            replace q290 := eq_true q290
            have p291 : 0 ≤ (x7_1 : Int) := of_decide_eq_true (by first | (with_reducible assumption) | assumption)
            have q291 : x7_1 < (l0.length : Int) := of_decide_eq_true (by first | (with_reducible assumption) | assumption)
            obtain ⟨ad291, A291_0, c291_0, e291, hx291_0, hl291_0, hi291_0⟩ := at_L2 HR0.out x7_1 p291 q291
            obtain rfl : ad290 = ad291 := (by injection e291)
            replace hx291_0 := (HB.out.cell (World.block_lt_of_cell? w _ hx291_0)).trans hx291_0
            have HR291_0 := Aside0.mk hi291_0
            have HC291_0 := Aside0.mk hl291_0
            clear hi291_0 hl291_0
            replace p291 := eq_true p291
            replace q291 := eq_true q291
            have ea_ := Option.some.inj (hx290_0.symm.trans hx291_0)
            injection ea_ with ea_ en_ ec_
            subst ea_
            subst ec_
            clear en_
            have p292 : 0 ≤ (x8_2 : Int) := of_decide_eq_true (by first | (with_reducible assumption) | assumption)
            have q292 : x8_2 < ((rd_L2 l0 x7_1).length : Int) := of_decide_eq_true (by first | (with_reducible assumption) | assumption)
            obtain ⟨ad292, e292, hx292_0⟩ := Kd.at_int HR291_0.out x8_2 p292 q292
            cases e292
            replace hx292_0 := (HB.out.cell (World.block_lt_of_cell? w _ hx292_0)).trans hx292_0
            replace p292 := eq_true p292
            replace q292 := eq_true q292
            have p293 : 0 ≤ (x7_1 : Int) := of_decide_eq_true (by first | (with_reducible assumption) | assumption)
            have q293 : x7_1 < (l0.length : Int) := of_decide_eq_true (by first | (with_reducible assumption) | assumption)
            obtain ⟨ad293, A293_0, c293_0, e293, hx293_0, hl293_0, hi293_0⟩ := at_L2 HR0.out x7_1 p293 q293
            obtain rfl : ad290 = ad293 := (by injection e293)
            replace hx293_0 := (HB.out.cell (World.block_lt_of_cell? w _ hx293_0)).trans hx293_0
            have HR293_0 := Aside0.mk hi293_0
            have HC293_0 := Aside0.mk hl293_0
            clear hi293_0 hl293_0
            replace p293 := eq_true p293
            replace q293 := eq_true q293
            have ea_ := Option.some.inj (hx290_0.symm.trans hx293_0)
            injection ea_ with ea_ en_ ec_
            subst ea_
            subst ec_
            clear en_
            have p294 : 0 ≤ (x8_2 : Int) := of_decide_eq_true (by first | (with_reducible assumption) | assumption)
            have q294 : x8_2 < ((rd_L2 l0 x7_1).length : Int) := of_decide_eq_true (by first | (with_reducible assumption) | assumption)
            obtain ⟨ad294, e294, hx294_0⟩ := Kd.at_int HR293_0.out x8_2 p294 q294
            cases e294
            replace hx294_0 := (HB.out.cell (World.block_lt_of_cell? w _ hx294_0)).trans hx294_0
            replace p294 := eq_true p294
            replace q294 := eq_true q294
            go_wp2
            repeat (go_quiet (fail); try go_wp2)
            go_ret
            exact ⟨by first | rfl | (simp [errW_none, errW_some] <;> rfl) | (simp only [← hji9]; first | rfl | (simp [errW_none, errW_some] <;> rfl)) | (simp [*, errW_none, errW_some] <;> rfl), by repeat (first | (with_reducible first | exact HB.out | apply below_alloc | apply pw_below_drewN | apply below_drew1) | exact HB.out)⟩
           ·rw [if_neg c11] at H
            have c11b0 : decide (a2 < (ji9)) = false := decide_eq_false c11
            clear c11
            have H' := Aside0.mk H
            clear H
            have p290 : 0 ≤ (x7_1 : Int) := of_decide_eq_true (by first | (with_reducible assumption) | assumption)
            have q290 : x7_1 < (l0.length : Int) := of_decide_eq_true (by first | (with_reducible assumption) | assumption)
            obtain ⟨ad290, A290_0, c290_0, e290, hx290_0, hl290_0, hi290_0⟩ := at_L2 HR0.out x7_1 p290 q290
            cases e290
            replace hx290_0 := (HB.out.cell (World.block_lt_of_cell? w _ hx290_0)).trans hx290_0
            have HR290_0 := Aside0.mk hi290_0
            have HC290_0 := Aside0.mk hl290_0
            clear hi290_0 hl290_0
            replace p290 := eq_true p290
            replace q290 := eq_true q290
            have p291 : 0 ≤ (x7_1 : Int) := of_decide_eq_true (by first | (with_reducible assumption) | assumption)
            have q291 : x7_1 < (l0.length : Int) := of_decide_eq_true (by first | (with_reducible assumption) | assumption)
            obtain ⟨ad291, A291_0, c291_0, e291, hx291_0, hl291_0, hi291_0⟩ := at_L2 HR0.out x7_1 p291 q291
            obtain rfl : ad290 = ad291 := (by injection e291)
            replace hx291_0 := (HB.out.cell (World.block_lt_of_cell? w _ hx291_0)).trans hx291_0
            have HR291_0 := Aside0.mk hi291_0
            have HC291_0 := Aside0.mk hl291_0
            clear hi291_0 hl291_0
            replace p291 := eq_true p291
            replace q291 := eq_true q291
            have ea_ := Option.some.inj (hx290_0.symm.trans hx291_0)
            injection ea_ with ea_ en_ ec_
            subst ea_
            subst ec_
            clear en_
            have p292 : 0 ≤ (x8_2 : Int) := of_decide_eq_true (by first | (with_reducible assumption) | assumption)
            have q292 : x8_2 < ((rd_L2 l0 x7_1).length : Int) := of_decide_eq_true (by first | (with_reducible assumption) | assumption)
            obtain ⟨ad292, e292, hx292_0⟩ := Kd.at_int HR291_0.out x8_2 p292 q292
            cases e292
            replace hx292_0 := (HB.out.cell (World.block_lt_of_cell? w _ hx292_0)).trans hx292_0
            replace p292 := eq_true p292
            replace q292 := eq_true q292
            have p293 : 0 ≤ (x7_1 : Int) := of_decide_eq_true (by first | (with_reducible assumption) | assumption)
            have q293 : x7_1 < (l0.length : Int) := of_decide_eq_true (by first | (with_reducible assumption) | assumption)
            obtain ⟨ad293, A293_0, c293_0, e293, hx293_0, hl293_0, hi293_0⟩ := at_L2 HR0.out x7_1 p293 q293
            obtain rfl : ad290 = ad293 := (by injection e293)
            replace hx293_0 := (HB.out.cell (World.block_lt_of_cell? w _ hx293_0)).trans hx293_0
            have HR293_0 := Aside0.mk hi293_0
            have HC293_0 := Aside0.mk hl293_0
            clear hi293_0 hl293_0
            replace p293 := eq_true p293
            replace q293 := eq_true q293
            have ea_ := Option.some.inj (hx290_0.symm.trans hx293_0)
            injection ea_ with ea_ en_ ec_
            subst ea_
            subst ec_
            clear en_
            have p294 : 0 ≤ (x8_2 : Int) := of_decide_eq_true (by first | (with_reducible assumption) | assumption)
            have q294 : x8_2 < ((rd_L2 l0 x7_1).length : Int) := of_decide_eq_true (by first | (with_reducible assumption) | assumption)
            obtain ⟨ad294, e294, hx294_0⟩ := Kd.at_int HR293_0.out x8_2 p294 q294
            cases e294
            replace hx294_0 := (HB.out.cell (World.block_lt_of_cell? w _ hx294_0)).trans hx294_0
            replace p294 := eq_true p294
            replace q294 := eq_true q294
            go_wp2
            repeat (go_quiet (fail); try go_wp2)
            go_roundg k2
            case measure => have := HK1.out; have := HK2.out; omega
            case rel => exact ⟨(wrap64 (x8_2 + 1)), (by first | rfl | (simp; done) | (simp [*]; done)), H', ⟨by have := HK1.out; have := HK2.out; omega⟩, ⟨by repeat (first | (with_reducible first | exact HB.out | apply below_alloc | apply pw_below_drewN | apply below_drew1) | exact HB.out)⟩⟩
         ·rw [if_neg c8] at H
          exact absurd H (by simp)
        ·rw [if_neg c7] at H
         have c7b0 : decide (x8_2 < ((rd_L2 l0 x7_1).length : Int)) = false := decide_eq_false c7
         clear c7
         have H' := Aside0.mk H
         clear H
         have p290 : 0 ≤ (x7_1 : Int) := of_decide_eq_true (by first | (with_reducible assumption) | assumption)
         have q290 : x7_1 < (l0.length : Int) := of_decide_eq_true (by first | (with_reducible assumption) | assumption)
         obtain ⟨ad290, A290_0, c290_0, e290, hx290_0, hl290_0, hi290_0⟩ := at_L2 HR0.out x7_1 p290 q290
         cases e290
         replace hx290_0 := (HB.out.cell (World.block_lt_of_cell? w _ hx290_0)).trans hx290_0
         have HR290_0 := Aside0.mk hi290_0
         have HC290_0 := Aside0.mk hl290_0
         clear hi290_0 hl290_0
         replace p290 := eq_true p290
         replace q290 := eq_true q290
         go_wp2
         repeat (go_quiet (fail); try go_wp2)
         go_roundg k2
         case measure => have := HK1.out; have := HK2.out; omega
         case rel => exact ⟨(wrap64 (x7_1 + 1)), (by first | rfl | (simp; done) | (simp [*]; done)), H', ⟨by have := HK1.out; have := HK2.out; omega⟩, ⟨by repeat (first | (with_reducible first | exact HB.out | apply below_alloc | apply pw_below_drewN | apply below_drew1) | exact HB.out)⟩⟩
       ·rw [if_neg c6] at H
        exact absurd H (by simp)
      ·rw [if_neg c5] at H
       exact absurd H (by simp)
   ·rw [if_neg c4] at H
    have c4b0 : decide (x7_1 < (l0.length : Int)) = false := decide_eq_false c4
    clear c4
    obtain rfl := Option.some.inj H
    go_wp2
    repeat (go_quiet (fail); try go_wp2)
    go_ret
    exact ⟨by first | rfl | (simp [errW_none, errW_some] <;> rfl) | (simp [*, errW_none, errW_some] <;> rfl), by repeat (first | (with_reducible first | exact HB.out | apply below_alloc | apply pw_below_drewN | apply below_drew1) | exact HB.out)⟩
end Go.Proofs.Ytdfbnlmjnollnaa.Xb
