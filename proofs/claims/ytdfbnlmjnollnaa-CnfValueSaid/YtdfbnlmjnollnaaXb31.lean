/- Slimmed by this session: what nothing names is struck out. -/
import Derived.Test.YtdfbnlmjnollnaaXb0
import Derived.Test.YtdfbnlmjnollnaaXb3
import Derived.Test.YtdfbnlmjnollnaaXb5
import Derived.Test.YtdfbnlmjnollnaaXb6
import Derived.Test.YtdfbnlmjnollnaaXb7
import Derived.Test.YtdfbnlmjnollnaaXb16
import Derived.Test.YtdfbnlmjnollnaaXb21
import Derived.Test.YtdfbnlmjnollnaaXb25
import Derived.Test.YtdfbnlmjnollnaaXb26
import Derived.Test.YtdfbnlmjnollnaaXb27
import Derived.Test.YtdfbnlmjnollnaaXb28
namespace Go.Proofs.Ytdfbnlmjnollnaa.Xb
open Go.RowKit Go.Proofs.YtdfbnlmjnollnaaW.PrintWords Go.Proofs.YtdfbnlmjnollnaaW.PrintLast Go.Proofs.YtdfbnlmjnollnaaW.PrintMore
attribute [local go_sem] max2_int min2_int max_two min_two max_three min_three max_four min_four
set_option linter.unusedVariables false
set_option linter.unusedSimpArgs false
def proofmarklaw17_CnfValue.j0 : Nat → Int → List (S53) → List Bool → Int → List Bool → Bool → Bool → Option (Bool)
 | 0, _, _, _, _, _, _, _ => none
 | k + 1, x0, x1, x2, x3, x4, x11, x27 => if x27 = true then (some x11) else ((proofmarklaw13_Made.f k x0 x1).bind fun bt452 => ((proofmarklaw13_Bits.f k bt452.1 bt452.2.1 x2).bind fun t460 => ((aig_Eval.f k bt452.1 bt452.2.1 t460).bind fun t463 => (if (wrap64 (2 * (wrap64 ((wrap64 (1 + bt452.1)) + (bt452.2.1.length : Int))))) = 0 then (none) else (if (t463.length : Int) = (wrap64 ((wrap64 (1 + bt452.1)) + (bt452.2.1.length : Int))) then ((some (([] : List Bool) : List Bool)).bind fun y466 => (if y466.length + x4.length < 140737488355328 then ((some (y466 ++ x4 : List Bool)).bind fun y469 => (if y469.length + t463.length < 140737488355328 then ((some (y469 ++ t463 : List Bool)).bind fun y472 => ((cnf_Clauses.f bt452.1 bt452.2.1 (x4.length : Int)).bind fun t475 => ((proofmarklaw17_within.f k t475 (x4.length : Int) (y472.length : Int)).bind fun t478 => (if t478 = true then ((cnf_Of.f (Int.tmod (wrap64 (x3)) (wrap64 (2 * (wrap64 ((wrap64 (1 + bt452.1)) + (bt452.2.1.length : Int)))))) (x4.length : Int)).bind fun t479 => (if x11 = true then (if (mx t479 (wrap64 (-t479))) > (x4.length : Int) then (if (mx t479 (wrap64 (-t479))) ≤ (y472.length : Int) then ((proofmarkref17_Met.f k (([(([t479] : List Int))] : List (List Int))) y472).bind fun t486 => ((aig_Lit.f t463 (Int.tmod (wrap64 (x3)) (wrap64 (2 * (wrap64 ((wrap64 (1 + bt452.1)) + (bt452.2.1.length : Int))))))).bind fun t487 => (if (t486 == t487) = true then ((proofmarkref17_Met.f k t475 y472).bind fun t488 => (some t488)) else (some false)))) else (some false)) else (some false)) else (some false))) else (some false))))) else (none))) else (none))) else (some false))))))
def proofmarklaw17_CnfValue.f (k : Nat) (a0 : Int) (l1 : List (S53)) (l2 : List Bool) (a3 : Int) (l4 : List Bool) : Option (Bool) := (proofmarklaw17_head.f k).bind fun t450 => ((proofmarklaw13_Great.f l1).bind fun t451 => (if t451 = true then (proofmarklaw17_CnfValue.j0 k a0 l1 l2 a3 l4 t450 true) else (proofmarklaw17_CnfValue.j0 k a0 l1 l2 a3 l4 t450 (decide ((l4.length : Int) > 300)))))
theorem proofmarklaw17_CnfValue.mono_l : ∀ k, (∀ y0 y1 y2 y3 y4 y5 y6, LeO (proofmarklaw17_CnfValue.j0 k y0 y1 y2 y3 y4 y5 y6) (proofmarklaw17_CnfValue.j0 (k + 1) y0 y1 y2 y3 y4 y5 y6))
 | 0 => fun _ _ _ _ _ _ _ r h => by simp [proofmarklaw17_CnfValue.j0] at h
 | k + 1 => by
  have ih0 := proofmarklaw17_CnfValue.mono_l k
  ·intro y0 y1 y2 y3 y4 y5 y6
   unfold proofmarklaw17_CnfValue.j0
   repeat' first
   | (with_reducible exact ih0 _ _ _ _ _ _ _)
   | (with_reducible exact aig_Eval.mono _ _ _ _)
   | (with_reducible exact proofmarklaw13_Bits.mono _ _ _ _)
   | (with_reducible exact proofmarklaw13_Made.mono _ _ _)
   | (with_reducible exact proofmarklaw17_head.mono _)
   | (with_reducible exact proofmarklaw17_within.mono _ _ _ _)
   | (with_reducible exact proofmarkref17_Met.mono _ _ _)
   | (with_reducible exact LeO.refl _)
   | (with_reducible exact LeO.none _)
   | (with_reducible refine LeO.ite ?_ ?_)
   | (with_reducible refine LeO.bind ?_ (fun _ => ?_))
   | exact ih0 _ _ _ _ _ _ _
   | exact aig_Eval.mono _ _ _ _
   | exact proofmarklaw13_Bits.mono _ _ _ _
   | exact proofmarklaw13_Made.mono _ _ _
   | exact proofmarklaw17_head.mono _
   | exact proofmarklaw17_within.mono _ _ _ _
   | exact proofmarkref17_Met.mono _ _ _
   | exact LeO.none _
   | refine LeO.ite ?_ ?_
   | refine LeO.bind ?_ (fun _ => ?_)
theorem proofmarklaw17_CnfValue.mono : ∀ a0 a1 a2 a3 a4 k, LeO (proofmarklaw17_CnfValue.f k a0 a1 a2 a3 a4) (proofmarklaw17_CnfValue.f (k + 1) a0 a1 a2 a3 a4) := by
 intro a0 a1 a2 a3 a4 k
 have ih0 := proofmarklaw17_CnfValue.mono_l k
 unfold proofmarklaw17_CnfValue.f
 repeat' first
   | (with_reducible exact ih0 _ _ _ _ _ _ _)
   | (with_reducible exact aig_Eval.mono _ _ _ _)
   | (with_reducible exact proofmarklaw13_Bits.mono _ _ _ _)
   | (with_reducible exact proofmarklaw13_Made.mono _ _ _)
   | (with_reducible exact proofmarklaw17_head.mono _)
   | (with_reducible exact proofmarklaw17_within.mono _ _ _ _)
   | (with_reducible exact proofmarkref17_Met.mono _ _ _)
   | (with_reducible exact LeO.refl _)
   | (with_reducible exact LeO.none _)
   | (with_reducible refine LeO.ite ?_ ?_)
   | (with_reducible refine LeO.bind ?_ (fun _ => ?_))
   | exact ih0 _ _ _ _ _ _ _
   | exact aig_Eval.mono _ _ _ _
   | exact proofmarklaw13_Bits.mono _ _ _ _
   | exact proofmarklaw13_Made.mono _ _ _
   | exact proofmarklaw17_head.mono _
   | exact proofmarklaw17_within.mono _ _ _ _
   | exact proofmarkref17_Met.mono _ _ _
   | exact LeO.none _
   | refine LeO.ite ?_ ?_
   | refine LeO.bind ?_ (fun _ => ?_)
set_option maxHeartbeats 8000000 in
set_option maxRecDepth 100000 in
theorem proofmarklaw17_CnfValue.calls (k : Nat) (a0 : Int) (A1 : Option Addr) (c1 : Nat) (l1 : List (S53)) (A2 : Option Addr) (c2 : Nat) (l2 : List Bool) (a3 : Int) (A4 : Option Addr) (c4 : Nat) (l4 : List Bool) (r : Bool) (w : World) (hr1 : Kd.C k53 w A1 l1.length l1) (hc1 : l1.length ≤ c1) (hr2 : Kd.C Kd.bool w A2 l2.length l2) (hc2 : l2.length ≤ c2) (hr4 : Kd.C Kd.bool w A4 l4.length l4) (hc4 : l4.length ≤ c4) (h : proofmarklaw17_CnfValue.f k a0 l1 l2 a3 l4 = some r) :
  Calls Try.prog 9 #[.int .u8 a0, .slice A1 l1.length c1, .slice A2 l2.length c2, .int .u16 a3, .slice A4 l4.length c4] w fun e w' => e = .returned (.bool r) ∧ Below w.heap.size w w' := by
 have hu28 := Try.underlying28
 have HR1 := Aside0.mk hr1
 have HC1 := Aside0.mk hc1
 clear hr1 hc1
 have HR2 := Aside0.mk hr2
 have HC2 := Aside0.mk hc2
 clear hr2 hc2
 have HR4 := Aside0.mk hr4
 have HC4 := Aside0.mk hc4
 clear hr4 hc4
 have HB := Aside0.mk (Below.refl w.heap.size w)
 have H : ((proofmarklaw17_head.f k).bind fun t450 => ((proofmarklaw13_Great.f l1).bind fun t451 => (if t451 = true then (proofmarklaw17_CnfValue.j0 k a0 l1 l2 a3 l4 t450 true) else (proofmarklaw17_CnfValue.j0 k a0 l1 l2 a3 l4 t450 (decide ((l4.length : Int) > 300)))))) = some r := h
 clear h
 replace H := Option.bind_eq_some_iff.mp H
 obtain ⟨t450, A60, H⟩ := H
 replace H : ((proofmarklaw13_Great.f l1).bind fun t451 => (if t451 = true then (proofmarklaw17_CnfValue.j0 k a0 l1 l2 a3 l4 t450 true) else (proofmarklaw17_CnfValue.j0 k a0 l1 l2 a3 l4 t450 (decide ((l4.length : Int) > 300))))) = some r := H
 have A6 := Aside0.mk A60
 clear A60
 have HC7 := Aside0.mk H
 clear H
 go_enter Try.func9, Try.ntmps9
 go_upto_region 2 with (first | ((with_reducible refine gate_callee (f := 10) rfl ?_); refine goesL_ (some 20) rfl rfl Try.func10 (by kernel_rfl) rfl #[] rfl (by (try simp only [List.map_toArray, List.map_cons, List.map_nil]); first | done | rfl | (simp only [List.length_drop, List.length_take]; rfl)) ?_; (with_reducible refine (proofmarklaw17_head.calls k  t450 _ A6.out).mono ?_); rintro e w8 ⟨rfl, hb⟩; refine ⟨_, rfl, ?_⟩; have n0_ := Aside0.mk (below_step (by repeat (first | (with_reducible first | exact HB.out | apply below_alloc | apply pw_below_drewN | apply below_drew1) | exact HB.out)) hb); clear HB; have HB := n0_; clear n0_; (try clear hb); (try clear hb2); (try clear hk); (try clear hi)))
 (try simp only [Act.put, List.setIfInBounds_toArray, List.set_cons_zero, List.set_cons_succ])
 go_cut [27] (fun v27 wc => ∃ (kq : Nat) (x27_6 : Bool), v27 = .bool x27_6 ∧ Aside0 (proofmarklaw17_CnfValue.j0 kq a0 l1 l2 a3 l4 t450 x27_6 = some r) ∧ Aside0 (kq ≤ k) ∧ Aside0 (Below w.heap.size w wc))
 case first =>
  have H := HC7.out
  clear HC7
  replace H := Option.bind_eq_some_iff.mp H
  obtain ⟨t451, A90, H⟩ := H
  replace H : (if t451 = true then (proofmarklaw17_CnfValue.j0 k a0 l1 l2 a3 l4 t450 true) else (proofmarklaw17_CnfValue.j0 k a0 l1 l2 a3 l4 t450 (decide ((l4.length : Int) > 300)))) = some r := H
  have A9 := Aside0.mk A90
  clear A90
  by_cases c10 : t451 = true
  ·subst c10
   have H1 : (proofmarklaw17_CnfValue.j0 k a0 l1 l2 a3 l4 t450 true) = some r := by rw [if_pos rfl] at H; exact H
   clear H
   have H := H1
   clear H1
   have H' := Aside0.mk H
   clear H
   go_wp2_with (first | ((with_reducible refine gate_callee (f := 11) rfl ?_); refine goesL_ (some 22) rfl rfl Try.func11 (by kernel_rfl) rfl #[.slice A1 l1.length c1] rfl (by (try simp only [List.map_toArray, List.map_cons, List.map_nil]); first | done | rfl | (simp only [List.length_drop, List.length_take]; rfl)) ?_; (with_reducible refine (proofmarklaw13_Great.calls _ _ l1 true _ ?side1 ?side2 A9.out).mono ?_); (case side1 => repeat (first | exact (Kd.C_below HR1.out HB.out) | (with_reducible refine Kd.C_alloc ?_ _) | (with_reducible refine Kd.C_drewN ?_ _) | (with_reducible refine Kd.C_drew ?_))); (case side2 => exact HC1.out); rintro e w' ⟨rfl, ⟨nd, rfl⟩⟩; refine ⟨_, rfl, ?_⟩))
   go_meet
   case rel => exact ⟨_, (true), (by first | rfl | (simp; done) | (simp [*]; done)), H', ⟨by first | omega | exact Nat.le_refl _⟩, ⟨by repeat (first | (with_reducible first | exact HB.out | apply below_alloc | apply pw_below_drewN | apply below_drew1) | exact HB.out)⟩⟩
  ·replace c10 := Bool.eq_false_iff.mpr c10
   subst c10
   have H1 : (proofmarklaw17_CnfValue.j0 k a0 l1 l2 a3 l4 t450 (decide ((l4.length : Int) > 300))) = some r := by rw [if_neg (show ¬ (false = true) by decide)] at H; exact H
   clear H
   have H := H1
   clear H1
   have H' := Aside0.mk H
   clear H
   go_wp2_with (first | ((with_reducible refine gate_callee (f := 11) rfl ?_); refine goesL_ (some 22) rfl rfl Try.func11 (by kernel_rfl) rfl #[.slice A1 l1.length c1] rfl (by (try simp only [List.map_toArray, List.map_cons, List.map_nil]); first | done | rfl | (simp only [List.length_drop, List.length_take]; rfl)) ?_; (with_reducible refine (proofmarklaw13_Great.calls _ _ l1 false _ ?side1 ?side2 A9.out).mono ?_); (case side1 => repeat (first | exact (Kd.C_below HR1.out HB.out) | (with_reducible refine Kd.C_alloc ?_ _) | (with_reducible refine Kd.C_drewN ?_ _) | (with_reducible refine Kd.C_drew ?_))); (case side2 => exact HC1.out); rintro e w' ⟨rfl, ⟨nd, rfl⟩⟩; refine ⟨_, rfl, ?_⟩))
   go_meet
   case rel => exact ⟨_, (decide ((l4.length : Int) > 300)), (by first | rfl | (simp; done) | (simp [*]; done)), H', ⟨by first | omega | exact Nat.le_refl _⟩, ⟨by repeat (first | (with_reducible first | exact HB.out | apply below_alloc | apply pw_below_drewN | apply below_drew1) | exact HB.out)⟩⟩
 case rest =>
  clear HC7
  try clear c1
  try clear c2
  try clear p2
  try clear c4
  try clear c9
  try clear c10
  obtain ⟨kq, x27_6, rfl, HA, HJ6, HB⟩ := hcut
  cases kq with
  | zero => exact absurd HA.out (by simp [proofmarklaw17_CnfValue.j0])
  | succ kj6 =>
   have H := HA.out
   clear HA
   simp only [proofmarklaw17_CnfValue.j0] at H
   by_cases c11 : x27_6 = true
   ·subst c11
    have H1 : (some t450) = some r := by rw [if_pos rfl] at H; exact H
    clear H
    have H := H1
    clear H1
    obtain rfl := Option.some.inj H
    go_wp2
    go_ret
    exact ⟨by first | rfl | (simp [errW_none, errW_some] <;> rfl) | (simp [*, errW_none, errW_some] <;> rfl), by repeat (first | (with_reducible first | exact HB.out | apply below_alloc | apply pw_below_drewN | apply below_drew1) | exact HB.out)⟩
   ·replace c11 := Bool.eq_false_iff.mpr c11
    subst c11
    have H1 : ((proofmarklaw13_Made.f kj6 a0 l1).bind fun bt452 => ((proofmarklaw13_Bits.f kj6 bt452.1 bt452.2.1 l2).bind fun t460 => ((aig_Eval.f kj6 bt452.1 bt452.2.1 t460).bind fun t463 => (if (wrap64 (2 * (wrap64 ((wrap64 (1 + bt452.1)) + (bt452.2.1.length : Int))))) = 0 then (none) else (if (t463.length : Int) = (wrap64 ((wrap64 (1 + bt452.1)) + (bt452.2.1.length : Int))) then ((some (([] : List Bool) : List Bool)).bind fun y466 => (if y466.length + l4.length < 140737488355328 then ((some (y466 ++ l4 : List Bool)).bind fun y469 => (if y469.length + t463.length < 140737488355328 then ((some (y469 ++ t463 : List Bool)).bind fun y472 => ((cnf_Clauses.f bt452.1 bt452.2.1 (l4.length : Int)).bind fun t475 => ((proofmarklaw17_within.f kj6 t475 (l4.length : Int) (y472.length : Int)).bind fun t478 => (if t478 = true then ((cnf_Of.f (Int.tmod (wrap64 (a3)) (wrap64 (2 * (wrap64 ((wrap64 (1 + bt452.1)) + (bt452.2.1.length : Int)))))) (l4.length : Int)).bind fun t479 => (if t450 = true then (if (mx t479 (wrap64 (-t479))) > (l4.length : Int) then (if (mx t479 (wrap64 (-t479))) ≤ (y472.length : Int) then ((proofmarkref17_Met.f kj6 (([(([t479] : List Int))] : List (List Int))) y472).bind fun t486 => ((aig_Lit.f t463 (Int.tmod (wrap64 (a3)) (wrap64 (2 * (wrap64 ((wrap64 (1 + bt452.1)) + (bt452.2.1.length : Int))))))).bind fun t487 => (if (t486 == t487) = true then ((proofmarkref17_Met.f kj6 t475 y472).bind fun t488 => (some t488)) else (some false)))) else (some false)) else (some false)) else (some false))) else (some false))))) else (none))) else (none))) else (some false)))))) = some r := by rw [if_neg (show ¬ (false = true) by decide)] at H; exact H
    clear H
    have H := H1
    clear H1
    replace H := Option.bind_eq_some_iff.mp H
    obtain ⟨⟨t452, t453, t456⟩, A120, H⟩ := H
    replace H : ((proofmarklaw13_Bits.f kj6 t452 t453 l2).bind fun t460 => ((aig_Eval.f kj6 t452 t453 t460).bind fun t463 => (if (wrap64 (2 * (wrap64 ((wrap64 (1 + t452)) + (t453.length : Int))))) = 0 then (none) else (if (t463.length : Int) = (wrap64 ((wrap64 (1 + t452)) + (t453.length : Int))) then ((some (([] : List Bool) : List Bool)).bind fun y466 => (if y466.length + l4.length < 140737488355328 then ((some (y466 ++ l4 : List Bool)).bind fun y469 => (if y469.length + t463.length < 140737488355328 then ((some (y469 ++ t463 : List Bool)).bind fun y472 => ((cnf_Clauses.f t452 t453 (l4.length : Int)).bind fun t475 => ((proofmarklaw17_within.f kj6 t475 (l4.length : Int) (y472.length : Int)).bind fun t478 => (if t478 = true then ((cnf_Of.f (Int.tmod (wrap64 (a3)) (wrap64 (2 * (wrap64 ((wrap64 (1 + t452)) + (t453.length : Int)))))) (l4.length : Int)).bind fun t479 => (if t450 = true then (if (mx t479 (wrap64 (-t479))) > (l4.length : Int) then (if (mx t479 (wrap64 (-t479))) ≤ (y472.length : Int) then ((proofmarkref17_Met.f kj6 (([(([t479] : List Int))] : List (List Int))) y472).bind fun t486 => ((aig_Lit.f t463 (Int.tmod (wrap64 (a3)) (wrap64 (2 * (wrap64 ((wrap64 (1 + t452)) + (t453.length : Int))))))).bind fun t487 => (if (t486 == t487) = true then ((proofmarkref17_Met.f kj6 t475 y472).bind fun t488 => (some t488)) else (some false)))) else (some false)) else (some false)) else (some false))) else (some false))))) else (none))) else (none))) else (some false))))) = some r := H
    have A12 := Aside0.mk A120
    clear A120
    replace H := Option.bind_eq_some_iff.mp H
    obtain ⟨t460, A130, H⟩ := H
    replace H : ((aig_Eval.f kj6 t452 t453 t460).bind fun t463 => (if (wrap64 (2 * (wrap64 ((wrap64 (1 + t452)) + (t453.length : Int))))) = 0 then (none) else (if (t463.length : Int) = (wrap64 ((wrap64 (1 + t452)) + (t453.length : Int))) then ((some (([] : List Bool) : List Bool)).bind fun y466 => (if y466.length + l4.length < 140737488355328 then ((some (y466 ++ l4 : List Bool)).bind fun y469 => (if y469.length + t463.length < 140737488355328 then ((some (y469 ++ t463 : List Bool)).bind fun y472 => ((cnf_Clauses.f t452 t453 (l4.length : Int)).bind fun t475 => ((proofmarklaw17_within.f kj6 t475 (l4.length : Int) (y472.length : Int)).bind fun t478 => (if t478 = true then ((cnf_Of.f (Int.tmod (wrap64 (a3)) (wrap64 (2 * (wrap64 ((wrap64 (1 + t452)) + (t453.length : Int)))))) (l4.length : Int)).bind fun t479 => (if t450 = true then (if (mx t479 (wrap64 (-t479))) > (l4.length : Int) then (if (mx t479 (wrap64 (-t479))) ≤ (y472.length : Int) then ((proofmarkref17_Met.f kj6 (([(([t479] : List Int))] : List (List Int))) y472).bind fun t486 => ((aig_Lit.f t463 (Int.tmod (wrap64 (a3)) (wrap64 (2 * (wrap64 ((wrap64 (1 + t452)) + (t453.length : Int))))))).bind fun t487 => (if (t486 == t487) = true then ((proofmarkref17_Met.f kj6 t475 y472).bind fun t488 => (some t488)) else (some false)))) else (some false)) else (some false)) else (some false))) else (some false))))) else (none))) else (none))) else (some false)))) = some r := H
    have A13 := Aside0.mk A130
    clear A130
    replace H := Option.bind_eq_some_iff.mp H
    obtain ⟨t463, A140, H⟩ := H
    replace H : (if (wrap64 (2 * (wrap64 ((wrap64 (1 + t452)) + (t453.length : Int))))) = 0 then (none) else (if (t463.length : Int) = (wrap64 ((wrap64 (1 + t452)) + (t453.length : Int))) then ((some (([] : List Bool) : List Bool)).bind fun y466 => (if y466.length + l4.length < 140737488355328 then ((some (y466 ++ l4 : List Bool)).bind fun y469 => (if y469.length + t463.length < 140737488355328 then ((some (y469 ++ t463 : List Bool)).bind fun y472 => ((cnf_Clauses.f t452 t453 (l4.length : Int)).bind fun t475 => ((proofmarklaw17_within.f kj6 t475 (l4.length : Int) (y472.length : Int)).bind fun t478 => (if t478 = true then ((cnf_Of.f (Int.tmod (wrap64 (a3)) (wrap64 (2 * (wrap64 ((wrap64 (1 + t452)) + (t453.length : Int)))))) (l4.length : Int)).bind fun t479 => (if t450 = true then (if (mx t479 (wrap64 (-t479))) > (l4.length : Int) then (if (mx t479 (wrap64 (-t479))) ≤ (y472.length : Int) then ((proofmarkref17_Met.f kj6 (([(([t479] : List Int))] : List (List Int))) y472).bind fun t486 => ((aig_Lit.f t463 (Int.tmod (wrap64 (a3)) (wrap64 (2 * (wrap64 ((wrap64 (1 + t452)) + (t453.length : Int))))))).bind fun t487 => (if (t486 == t487) = true then ((proofmarkref17_Met.f kj6 t475 y472).bind fun t488 => (some t488)) else (some false)))) else (some false)) else (some false)) else (some false))) else (some false))))) else (none))) else (none))) else (some false))) = some r := H
    have A14 := Aside0.mk A140
    clear A140
    by_cases c15 : (wrap64 (2 * (wrap64 ((wrap64 (1 + t452)) + (t453.length : Int))))) = 0
    ·rw [if_pos c15] at H
     exact absurd H (by simp)
    ·rw [if_neg c15] at H
     have c15b0 : ((wrap64 (2 * (wrap64 ((wrap64 (1 + t452)) + (t453.length : Int))))) == 0) = false := beq_eq_false_iff_ne.mpr c15
     have c15b1 : ((wrap64 (2 * (wrap64 ((wrap64 (1 + t452)) + (t453.length : Int))))) != 0) = true := bne_iff_ne.mpr c15
     by_cases c16 : (t463.length : Int) = (wrap64 ((wrap64 (1 + t452)) + (t453.length : Int)))
     ·rw [if_pos c16] at H
      have c16b0 : ((t463.length : Int) == (wrap64 ((wrap64 (1 + t452)) + (t453.length : Int)))) = true := beq_iff_eq.mpr c16
      have c16b1 : ((t463.length : Int) != (wrap64 ((wrap64 (1 + t452)) + (t453.length : Int)))) = false := bne_eq_false_iff_eq.mpr c16
      clear c16
      obtain ⟨y466, hy466⟩ : ∃ y_ : List Bool, y_ = (([] : List Bool)) := ⟨_, rfl⟩
      replace H : (if y466.length + l4.length < 140737488355328 then ((some (y466 ++ l4 : List Bool)).bind fun y469 => (if y469.length + t463.length < 140737488355328 then ((some (y469 ++ t463 : List Bool)).bind fun y472 => ((cnf_Clauses.f t452 t453 (l4.length : Int)).bind fun t475 => ((proofmarklaw17_within.f kj6 t475 (l4.length : Int) (y472.length : Int)).bind fun t478 => (if t478 = true then ((cnf_Of.f (Int.tmod (wrap64 (a3)) (wrap64 (2 * (wrap64 ((wrap64 (1 + t452)) + (t453.length : Int)))))) (l4.length : Int)).bind fun t479 => (if t450 = true then (if (mx t479 (wrap64 (-t479))) > (l4.length : Int) then (if (mx t479 (wrap64 (-t479))) ≤ (y472.length : Int) then ((proofmarkref17_Met.f kj6 (([(([t479] : List Int))] : List (List Int))) y472).bind fun t486 => ((aig_Lit.f t463 (Int.tmod (wrap64 (a3)) (wrap64 (2 * (wrap64 ((wrap64 (1 + t452)) + (t453.length : Int))))))).bind fun t487 => (if (t486 == t487) = true then ((proofmarkref17_Met.f kj6 t475 y472).bind fun t488 => (some t488)) else (some false)))) else (some false)) else (some false)) else (some false))) else (some false))))) else (none))) else (none)) = some r := by first | (rw [hy466]; with_reducible exact H) | (have H2_ := (Option.bind_some _ _).symm.trans H; rw [hy466]; with_reducible exact H2_) | (have H2_ := (Option.bind_some _ _).symm.trans H; with_reducible exact H2_) | with_reducible exact H | (rw [hy466]; exact H) | exact H
      have Ny466 := Aside0.mk hy466
      clear hy466
      by_cases c17 : y466.length + l4.length < 140737488355328
      ·rw [if_pos c17] at H
       have LMc17 := Aside0.mk c17
       clear c17
       obtain ⟨y469, hy469⟩ : ∃ y_ : List Bool, y_ = (y466 ++ l4) := ⟨_, rfl⟩
       replace H : (if y469.length + t463.length < 140737488355328 then ((some (y469 ++ t463 : List Bool)).bind fun y472 => ((cnf_Clauses.f t452 t453 (l4.length : Int)).bind fun t475 => ((proofmarklaw17_within.f kj6 t475 (l4.length : Int) (y472.length : Int)).bind fun t478 => (if t478 = true then ((cnf_Of.f (Int.tmod (wrap64 (a3)) (wrap64 (2 * (wrap64 ((wrap64 (1 + t452)) + (t453.length : Int)))))) (l4.length : Int)).bind fun t479 => (if t450 = true then (if (mx t479 (wrap64 (-t479))) > (l4.length : Int) then (if (mx t479 (wrap64 (-t479))) ≤ (y472.length : Int) then ((proofmarkref17_Met.f kj6 (([(([t479] : List Int))] : List (List Int))) y472).bind fun t486 => ((aig_Lit.f t463 (Int.tmod (wrap64 (a3)) (wrap64 (2 * (wrap64 ((wrap64 (1 + t452)) + (t453.length : Int))))))).bind fun t487 => (if (t486 == t487) = true then ((proofmarkref17_Met.f kj6 t475 y472).bind fun t488 => (some t488)) else (some false)))) else (some false)) else (some false)) else (some false))) else (some false))))) else (none)) = some r := by first | (rw [hy469]; with_reducible exact H) | (have H2_ := (Option.bind_some _ _).symm.trans H; rw [hy469]; with_reducible exact H2_) | (have H2_ := (Option.bind_some _ _).symm.trans H; with_reducible exact H2_) | with_reducible exact H | (rw [hy469]; exact H) | exact H
       have Ny469 := Aside0.mk hy469
       clear hy469
       by_cases c18 : y469.length + t463.length < 140737488355328
       ·rw [if_pos c18] at H
        have LMc18 := Aside0.mk c18
        clear c18
        obtain ⟨y472, hy472⟩ : ∃ y_ : List Bool, y_ = (y469 ++ t463) := ⟨_, rfl⟩
        replace H : ((cnf_Clauses.f t452 t453 (l4.length : Int)).bind fun t475 => ((proofmarklaw17_within.f kj6 t475 (l4.length : Int) (y472.length : Int)).bind fun t478 => (if t478 = true then ((cnf_Of.f (Int.tmod (wrap64 (a3)) (wrap64 (2 * (wrap64 ((wrap64 (1 + t452)) + (t453.length : Int)))))) (l4.length : Int)).bind fun t479 => (if t450 = true then (if (mx t479 (wrap64 (-t479))) > (l4.length : Int) then (if (mx t479 (wrap64 (-t479))) ≤ (y472.length : Int) then ((proofmarkref17_Met.f kj6 (([(([t479] : List Int))] : List (List Int))) y472).bind fun t486 => ((aig_Lit.f t463 (Int.tmod (wrap64 (a3)) (wrap64 (2 * (wrap64 ((wrap64 (1 + t452)) + (t453.length : Int))))))).bind fun t487 => (if (t486 == t487) = true then ((proofmarkref17_Met.f kj6 t475 y472).bind fun t488 => (some t488)) else (some false)))) else (some false)) else (some false)) else (some false))) else (some false)))) = some r := by first | (rw [hy472]; with_reducible exact H) | (have H2_ := (Option.bind_some _ _).symm.trans H; rw [hy472]; with_reducible exact H2_) | (have H2_ := (Option.bind_some _ _).symm.trans H; with_reducible exact H2_) | with_reducible exact H | (rw [hy472]; exact H) | exact H
        have Ny472 := Aside0.mk hy472
        clear hy472
        replace H := Option.bind_eq_some_iff.mp H
        obtain ⟨t475, A190, H⟩ := H
        replace H : ((proofmarklaw17_within.f kj6 t475 (l4.length : Int) (y472.length : Int)).bind fun t478 => (if t478 = true then ((cnf_Of.f (Int.tmod (wrap64 (a3)) (wrap64 (2 * (wrap64 ((wrap64 (1 + t452)) + (t453.length : Int)))))) (l4.length : Int)).bind fun t479 => (if t450 = true then (if (mx t479 (wrap64 (-t479))) > (l4.length : Int) then (if (mx t479 (wrap64 (-t479))) ≤ (y472.length : Int) then ((proofmarkref17_Met.f kj6 (([(([t479] : List Int))] : List (List Int))) y472).bind fun t486 => ((aig_Lit.f t463 (Int.tmod (wrap64 (a3)) (wrap64 (2 * (wrap64 ((wrap64 (1 + t452)) + (t453.length : Int))))))).bind fun t487 => (if (t486 == t487) = true then ((proofmarkref17_Met.f kj6 t475 y472).bind fun t488 => (some t488)) else (some false)))) else (some false)) else (some false)) else (some false))) else (some false))) = some r := H
        have A19 := Aside0.mk A190
        clear A190
        replace H := Option.bind_eq_some_iff.mp H
        obtain ⟨t478, A200, H⟩ := H
        replace H : (if t478 = true then ((cnf_Of.f (Int.tmod (wrap64 (a3)) (wrap64 (2 * (wrap64 ((wrap64 (1 + t452)) + (t453.length : Int)))))) (l4.length : Int)).bind fun t479 => (if t450 = true then (if (mx t479 (wrap64 (-t479))) > (l4.length : Int) then (if (mx t479 (wrap64 (-t479))) ≤ (y472.length : Int) then ((proofmarkref17_Met.f kj6 (([(([t479] : List Int))] : List (List Int))) y472).bind fun t486 => ((aig_Lit.f t463 (Int.tmod (wrap64 (a3)) (wrap64 (2 * (wrap64 ((wrap64 (1 + t452)) + (t453.length : Int))))))).bind fun t487 => (if (t486 == t487) = true then ((proofmarkref17_Met.f kj6 t475 y472).bind fun t488 => (some t488)) else (some false)))) else (some false)) else (some false)) else (some false))) else (some false)) = some r := H
        have A20 := Aside0.mk A200
        clear A200
        by_cases c21 : t478 = true
        ·subst c21
         have H1 : ((cnf_Of.f (Int.tmod (wrap64 (a3)) (wrap64 (2 * (wrap64 ((wrap64 (1 + t452)) + (t453.length : Int)))))) (l4.length : Int)).bind fun t479 => (if t450 = true then (if (mx t479 (wrap64 (-t479))) > (l4.length : Int) then (if (mx t479 (wrap64 (-t479))) ≤ (y472.length : Int) then ((proofmarkref17_Met.f kj6 (([(([t479] : List Int))] : List (List Int))) y472).bind fun t486 => ((aig_Lit.f t463 (Int.tmod (wrap64 (a3)) (wrap64 (2 * (wrap64 ((wrap64 (1 + t452)) + (t453.length : Int))))))).bind fun t487 => (if (t486 == t487) = true then ((proofmarkref17_Met.f kj6 t475 y472).bind fun t488 => (some t488)) else (some false)))) else (some false)) else (some false)) else (some false))) = some r := by rw [if_pos rfl] at H; exact H
         clear H
         have H := H1
         clear H1
         replace H := Option.bind_eq_some_iff.mp H
         obtain ⟨t479, A220, H⟩ := H
         replace H : (if t450 = true then (if (mx t479 (wrap64 (-t479))) > (l4.length : Int) then (if (mx t479 (wrap64 (-t479))) ≤ (y472.length : Int) then ((proofmarkref17_Met.f kj6 (([(([t479] : List Int))] : List (List Int))) y472).bind fun t486 => ((aig_Lit.f t463 (Int.tmod (wrap64 (a3)) (wrap64 (2 * (wrap64 ((wrap64 (1 + t452)) + (t453.length : Int))))))).bind fun t487 => (if (t486 == t487) = true then ((proofmarkref17_Met.f kj6 t475 y472).bind fun t488 => (some t488)) else (some false)))) else (some false)) else (some false)) else (some false)) = some r := H
         have A22 := Aside0.mk A220
         clear A220
         by_cases c23 : t450 = true
         ·subst c23
          have H1 : (if (mx t479 (wrap64 (-t479))) > (l4.length : Int) then (if (mx t479 (wrap64 (-t479))) ≤ (y472.length : Int) then ((proofmarkref17_Met.f kj6 (([(([t479] : List Int))] : List (List Int))) y472).bind fun t486 => ((aig_Lit.f t463 (Int.tmod (wrap64 (a3)) (wrap64 (2 * (wrap64 ((wrap64 (1 + t452)) + (t453.length : Int))))))).bind fun t487 => (if (t486 == t487) = true then ((proofmarkref17_Met.f kj6 t475 y472).bind fun t488 => (some t488)) else (some false)))) else (some false)) else (some false)) = some r := by rw [if_pos rfl] at H; exact H
          clear H
          have H := H1
          clear H1
          obtain ⟨ji24, hji24⟩ : ∃ j_ : Int, (mx t479 (wrap64 (-t479))) = j_ := ⟨_, rfl⟩
          replace H : (if (ji24) > (l4.length : Int) then (if (ji24) ≤ (y472.length : Int) then ((proofmarkref17_Met.f kj6 (([(([t479] : List Int))] : List (List Int))) y472).bind fun t486 => ((aig_Lit.f t463 (Int.tmod (wrap64 (a3)) (wrap64 (2 * (wrap64 ((wrap64 (1 + t452)) + (t453.length : Int))))))).bind fun t487 => (if (t486 == t487) = true then ((proofmarkref17_Met.f kj6 t475 y472).bind fun t488 => (some t488)) else (some false)))) else (some false)) else (some false)) = some r := by first | (rw [hji24] at H; exact H) | (simp only [hji24] at H ⊢; exact H)
          (try rw [hji24] at A12)
          (try rw [hji24] at A13)
          (try rw [hji24] at A14)
          (try rw [hji24] at A19)
          (try rw [hji24] at A20)
          (try rw [hji24] at A22)
          have hji24_ : (if t479 < (wrap64 (-t479)) then (wrap64 (-t479)) else t479) = ji24 := hji24
          by_cases c25 : (ji24) > (l4.length : Int)
          ·rw [if_pos c25] at H
           have c25b0 : decide ((l4.length : Int) < (ji24)) = true := decide_eq_true c25
           clear c25
           by_cases c26 : (ji24) ≤ (y472.length : Int)
           ·rw [if_pos c26] at H
            have c26b0 : decide ((ji24) ≤ (y472.length : Int)) = true := decide_eq_true c26
            clear c26
            obtain ⟨y480, hy480⟩ : ∃ y_ : List Int, y_ = (([t479] : List Int)) := ⟨_, rfl⟩
            replace H : ((proofmarkref17_Met.f kj6 (([y480] : List (List Int))) y472).bind fun t486 => ((aig_Lit.f t463 (Int.tmod (wrap64 (a3)) (wrap64 (2 * (wrap64 ((wrap64 (1 + t452)) + (t453.length : Int))))))).bind fun t487 => (if (t486 == t487) = true then ((proofmarkref17_Met.f kj6 t475 y472).bind fun t488 => (some t488)) else (some false)))) = some r := by first | (rw [hy480]; with_reducible exact H) | (have H2_ := (Option.bind_some _ _).symm.trans H; rw [hy480]; with_reducible exact H2_) | (have H2_ := (Option.bind_some _ _).symm.trans H; with_reducible exact H2_) | with_reducible exact H | (rw [hy480]; exact H) | exact H
            have Ny480 := Aside0.mk hy480
            clear hy480
            obtain ⟨y483, hy483⟩ : ∃ y_ : List (List Int), y_ = (([y480] : List (List Int))) := ⟨_, rfl⟩
            replace H : ((proofmarkref17_Met.f kj6 y483 y472).bind fun t486 => ((aig_Lit.f t463 (Int.tmod (wrap64 (a3)) (wrap64 (2 * (wrap64 ((wrap64 (1 + t452)) + (t453.length : Int))))))).bind fun t487 => (if (t486 == t487) = true then ((proofmarkref17_Met.f kj6 t475 y472).bind fun t488 => (some t488)) else (some false)))) = some r := by first | (rw [hy483]; with_reducible exact H) | (have H2_ := (Option.bind_some _ _).symm.trans H; rw [hy483]; with_reducible exact H2_) | (have H2_ := (Option.bind_some _ _).symm.trans H; with_reducible exact H2_) | with_reducible exact H | (rw [hy483]; exact H) | exact H
            have Ny483 := Aside0.mk hy483
            clear hy483
            replace H := Option.bind_eq_some_iff.mp H
            obtain ⟨t486, A270, H⟩ := H
            replace H : ((aig_Lit.f t463 (Int.tmod (wrap64 (a3)) (wrap64 (2 * (wrap64 ((wrap64 (1 + t452)) + (t453.length : Int))))))).bind fun t487 => (if (t486 == t487) = true then ((proofmarkref17_Met.f kj6 t475 y472).bind fun t488 => (some t488)) else (some false))) = some r := H
            have A27 := Aside0.mk A270
            clear A270
            replace H := Option.bind_eq_some_iff.mp H
            obtain ⟨t487, A280, H⟩ := H
            replace H : (if (t486 == t487) = true then ((proofmarkref17_Met.f kj6 t475 y472).bind fun t488 => (some t488)) else (some false)) = some r := H
            have A28 := Aside0.mk A280
            clear A280
            by_cases c29 : (t486 == t487) = true
            ·rw [if_pos c29] at H
             have c29b0 : (t486 == t487) = true := c29
             (try (have c29b1 : decide (t486 = t487) = true := by simpa using c29))
             (try (have c29b2 : (t486 == t487) = true := by simpa using c29))
             clear c29
             replace H := Option.bind_eq_some_iff.mp H
             obtain ⟨t488, A300, H⟩ := H
             replace H : (some t488) = some r := H
             have A30 := Aside0.mk A300
             clear A300
             obtain rfl := Option.some.inj H
             try go_wp2_with (first | ((with_reducible refine gate_callee (f := 12) rfl ?_); refine goesL_ (some 32) rfl rfl Try.func12 (by kernel_rfl) rfl #[.int .u8 a0, .slice A1 l1.length c1] rfl (by (try simp only [List.map_toArray, List.map_cons, List.map_nil]); first | done | rfl | (simp only [List.length_drop, List.length_take]; rfl)) ?_; (with_reducible refine (proofmarklaw13_Made.calls kj6 a0 _ _ l1 t452 t453 t456 _ ?side1 ?side2 A12.out).mono ?_); (case side1 => repeat (first | exact (Kd.C_below HR1.out HB.out) | (with_reducible refine Kd.C_alloc ?_ _) | (with_reducible refine Kd.C_drewN ?_ _) | (with_reducible refine Kd.C_drew ?_))); (case side2 => exact HC1.out); rintro e w31 ⟨v454, v457, rfl, ho0, ho1, hb⟩; refine ⟨_, rfl, ?_⟩; have n0_ := Aside0.mk (Kd.V_lower (Kd.V_mono (ok' := fun k_ => some k_ ≠ (v457 : Value).ownBlock) ho0 (fun k_ hk_ => hk_.2)) (below_size (by repeat (first | (with_reducible first | exact HB.out | apply below_alloc | apply pw_below_drewN | apply below_drew1) | exact HB.out)))); have n1_ := Aside0.mk (Kd.R_lower (Kd.R_mono (ok' := fun k_ => True) ho1 (fun _ hk_ => trivial)) (below_size (by repeat (first | (with_reducible first | exact HB.out | apply below_alloc | apply pw_below_drewN | apply below_drew1) | exact HB.out)))); have n2_ := Aside0.mk (below_step (by repeat (first | (with_reducible first | exact HB.out | apply below_alloc | apply pw_below_drewN | apply below_drew1) | exact HB.out)) hb); clear HB; have HO455 := n0_; have HO458 := n1_; have HB := n2_; clear n0_ n1_ n2_; (try clear hb); (try clear hb2); (try clear hk); (try clear hi); (try clear ho0); (try clear ho1)) | ((with_reducible refine gate_dst (N := 12) rfl ?_); (try (refine gate_guard (by rfl) ?_; dsimp only)); refine box_event ?hg (N := 12) ?hd (cs := #[.int .i64 0, .slice none 0 0]) (t := 28) ?hr ?_; (case hd => rfl); (case hg => rfl); (case hr => first | (go_simp; done) | (go_simp; rfl)); intro gb459 hg w32 hbox hb; have n0_ := Aside0.mk (Kd.V_below (Kd.V_elderB (by (with_reducible repeat (first | apply Kd.V_alloc | apply Kd.V_drewN | apply Kd.V_drew)); exact HO455.out) gb459 (Nat.le_of_eq hg.symm)) hb); have n1_ := Aside0.mk (Kd.R_below (by (with_reducible repeat (first | apply Kd.R_alloc | apply Kd.R_drewN | apply Kd.R_drew)); exact HO458.out) hb); have n2_ := Aside0.mk (below_step (by repeat (first | (with_reducible first | exact HB.out | apply below_alloc | apply pw_below_drewN | apply below_drew1) | exact HB.out)) hb); have n3_ := Aside0.mk (hbox); have n4_ := Aside0.mk ((by rw [hg]; exact (below_size (by repeat (first | (with_reducible first | exact HB.out | apply below_alloc | apply pw_below_drewN | apply below_drew1) | exact HB.out))) : w.heap.size ≤ gb459)); have n5_ := Aside0.mk ((by rw [hg]; exact (below_size (by repeat (first | (with_reducible first | exact HB.out | apply below_alloc | apply pw_below_drewN | apply below_drew1) | exact HB.out))) : w.heap.size ≤ gb459)); clear HO455; clear HO458; clear HB; have HO455 := n0_; have HO458 := n1_; have HB := n2_; have BK459 := n3_; have GW459 := n4_; have GE459 := n5_; clear n0_ n1_ n2_ n3_ n4_ n5_; clear hb hbox hg; have hcz33_0 : w32.cell? ⟨gb459, 0, none⟩ = some (.int .i64 0) := (blk_cell BK459.out 0).trans rfl; have hcz33_1 : w32.cell? ⟨gb459, 1, none⟩ = some (.slice none 0 0) := (blk_cell BK459.out 1).trans rfl; have hfz33_0 := blk_frozen BK459.out 0; have hfz33_1 := blk_frozen BK459.out 1; obtain ⟨Ao34, co34, eo34⟩ := Kd.V_slice HO455.out; subst eo34))
             have n0_ : Aside0 (Kd.V k49 49 ((w32.setCell ⟨gb459, 0, none⟩ (.int .i64 t452)).setCell ⟨gb459, 1, none⟩ (.slice Ao34 t453.length co34)) w.heap.size (fun k_ => some k_ ≠ (v457 : Value).ownBlock ∧ k_ ≠ gb459) (.slice Ao34 t453.length co34) t453) := ⟨by (with_reducible repeat (first | apply Kd.V_alloc | apply Kd.V_drewN | apply Kd.V_drew)); exact Kd.V_mono (Kd.V_far (p := ⟨gb459, 1, none⟩) (Kd.V_far (p := ⟨gb459, 0, none⟩) (Kd.V_mono HO455.out (fun k_ hk => (⟨hk, hk.2⟩ : _ ∧ k_ ≠ gb459))) (fun _ hk => hk.2) (.int .i64 t452)) (fun _ hk => hk.2) (.slice Ao34 t453.length co34)) (fun _ hk => ⟨hk.1.1, hk.1.2⟩)⟩
             have n1_ : Aside0 (Kd.R (Kd.int .i64) 3 ((w32.setCell ⟨gb459, 0, none⟩ (.int .i64 t452)).setCell ⟨gb459, 1, none⟩ (.slice Ao34 t453.length co34)) w.heap.size (fun _ => True) v457 t456) := ⟨by (with_reducible repeat (first | apply Kd.R_alloc | apply Kd.R_drewN | apply Kd.R_drew)); exact Kd.R_mono (Kd.R_far (p := ⟨gb459, 1, none⟩) (Kd.R_far (p := ⟨gb459, 0, none⟩) (Kd.R_types HO458.out BK459.out (by decide)) (fun _ hk => hk.2) (.int .i64 t452)) (fun _ hk => hk.2) (.slice Ao34 t453.length co34)) (fun _ hk => trivial)⟩
             have n2_ : Aside0 (((w32.setCell ⟨gb459, 0, none⟩ (.int .i64 t452)).setCell ⟨gb459, 1, none⟩ (.slice Ao34 t453.length co34)).heap[gb459]? = some (.cells #[.int .i64 t452, .slice Ao34 t453.length co34] 28 (0, 0))) := ⟨by (with_reducible repeat (first | refine blk_drewN ?_ _ | refine blk_drew ?_ | refine blk_alloc ?_ _)); refine blk_put (cs := #[.int .i64 t452, .slice none 0 0]) ?_ 1 _ rfl; (with_reducible repeat (first | refine blk_drewN ?_ _ | refine blk_drew ?_ | refine blk_alloc ?_ _)); refine blk_put (cs := #[.int .i64 0, .slice none 0 0]) ?_ 0 _ rfl; (with_reducible repeat (first | refine blk_drewN ?_ _ | refine blk_drew ?_ | refine blk_alloc ?_ _)); exact BK459.out⟩
             have n3_ : Aside0 (Below w.heap.size w ((w32.setCell ⟨gb459, 0, none⟩ (.int .i64 t452)).setCell ⟨gb459, 1, none⟩ (.slice Ao34 t453.length co34))) := ⟨by repeat (first | (with_reducible first | exact HB.out | apply below_alloc | apply pw_below_drewN | apply below_drew1 | refine below_set ?_ GE459.out) | exact HB.out)⟩
             (try clear HO455)
             (try clear HO458)
             (try clear BK459)
             (try clear HB)
             generalize ((w32.setCell ⟨gb459, 0, none⟩ (.int .i64 t452)).setCell ⟨gb459, 1, none⟩ (.slice Ao34 t453.length co34)) = w35 at n0_ n1_ n2_ n3_ ⊢
             have HO455 := n0_
             have HO458 := n1_
             have BK459 := n2_
             have HB := n3_
             clear n0_ n1_ n2_ n3_
             have n0_ := Aside0.mk (Kd.V_drew HO455.out)
             have n1_ := Aside0.mk (Kd.R_drew HO458.out)
             have n2_ := Aside0.mk (blk_drew BK459.out)
             have n3_ := Aside0.mk (below_drew1 HB.out)
             clear HO455
             clear HO458
             clear BK459
             clear HB
             have HO455 := n0_
             have HO458 := n1_
             have BK459 := n2_
             have HB := n3_
             clear n0_ n1_ n2_ n3_
             refine start_ (n := 6) (S := fun w' => w'.cell? ⟨gb459, 0, none⟩ = some (.int .i64 t452) ∧ w'.cell? ⟨gb459, 1, none⟩ = some (.slice Ao34 t453.length co34)) (ds := []) #[false, false, false, false, false, false] (by kernel_rfl) rfl rfl ⟨(blk_cell BK459.out 0).trans rfl, (blk_cell BK459.out 1).trans rfl⟩ (fun hHeld => ?_)
             generalize w35.drew = w36 at HO455 HO458 BK459 HB hHeld ⊢
             refine pure_ (i := 2) (N := some 37) (v := ?_) (a' := ?_) #[false, false, true, false, false, false] rfl rfl (by kernel_rfl) (fun _ _ _ h => h) (Or.inl ⟨by rfl, ?_⟩) ?_ ?_
             rotate_left
             ·intro w'
              go_simp
              with_reducible rfl
             rotate_left
             ·simp only [Act.put, List.setIfInBounds_toArray, List.set_cons_zero, List.set_cons_succ, i64_w, i32_w]
              rfl
             refine take_ (i := 0) (N := some 35) (v := ?_) (a' := ?_) #[true, false, true, false, false, false] rfl rfl (by kernel_rfl) (fun _ _ _ h => h) (Or.inl ⟨by rfl, ?_⟩) hHeld ?_ ?_
             rotate_left
             ·rintro w' ⟨s0, s1⟩
              go_simp
              with_reducible rfl
             rotate_left
             ·simp only [Act.put, List.setIfInBounds_toArray, List.set_cons_zero, List.set_cons_succ, i64_w, i32_w]
              rfl
             refine take_ (i := 1) (N := some 36) (v := ?_) (a' := ?_) #[true, true, true, false, false, false] rfl rfl (by kernel_rfl) (fun _ _ _ h => h) (Or.inl ⟨by rfl, ?_⟩) hHeld ?_ ?_
             rotate_left
             ·rintro w' ⟨s0, s1⟩
              go_simp
              with_reducible rfl
             rotate_left
             ·simp only [Act.put, List.setIfInBounds_toArray, List.set_cons_zero, List.set_cons_succ, i64_w, i32_w]
              rfl
             refine one_ (i := 3) (N := some 38) #[true, true, true, true, false, false] rfl rfl (by kernel_rfl) (by decide) (fun K hK => ?_)
             refine goes_ Try.func22 (by kernel_rfl) rfl #[.agg #[.int .i64 t452, .slice Ao34 t453.length co34], .slice A2 l2.length c2] (by rfl) rfl rfl (by (try simp only [List.map_toArray, List.map_cons, List.map_nil]); first | done | rfl | (simp only [List.length_drop, List.length_take]; rfl)) ?_
             with_reducible refine (proofmarklaw13_Bits.calls kj6 t452 _ _ t453 _ _ l2 t460 _ ?side1 ?side2 ?side3 ?side4 A13.out).mono ?_
             (case side1 => repeat (first | exact (Kd.V_reads' HO455.out).2.2 | (with_reducible refine Kd.C_alloc ?_ _) | (with_reducible refine Kd.C_drewN ?_ _) | (with_reducible refine Kd.C_drew ?_)))
             (case side2 => exact (Kd.V_reads' HO455.out).2.1)
             (case side3 => repeat (first | exact (Kd.C_below HR2.out HB.out) | (with_reducible refine Kd.C_alloc ?_ _) | (with_reducible refine Kd.C_drewN ?_ _) | (with_reducible refine Kd.C_drew ?_)))
             (case side4 => exact HC2.out)
             rintro e w37 ⟨v461, rfl, ho0, hb⟩
             refine ⟨_, rfl, ?_⟩
             have n0_ := Aside0.mk (Kd.V_elder' (by (with_reducible repeat (first | apply Kd.V_alloc | apply Kd.V_drewN | apply Kd.V_drew)); exact HO455.out) (Kd.R_base ho0) hb)
             have n1_ := Aside0.mk (Kd.R_below (by (with_reducible repeat (first | apply Kd.R_alloc | apply Kd.R_drewN | apply Kd.R_drew)); exact HO458.out) hb)
             have n2_ := Aside0.mk (Kd.R_lower ho0 (below_size (by repeat (first | (with_reducible first | exact HB.out | apply below_alloc | apply pw_below_drewN | apply below_drew1 | refine below_set ?_ GE459.out) | exact HB.out))))
             have n3_ := Aside0.mk (blk_below (g := gb459) (o := .cells #[.int .i64 t452, .slice Ao34 t453.length co34] 28 (0, 0)) (by (with_reducible repeat (first | refine blk_drewN ?_ _ | refine blk_drew ?_ | refine blk_alloc ?_ _)); exact BK459.out) hb)
             have n4_ := Aside0.mk (below_step (by repeat (first | (with_reducible first | exact HB.out | apply below_alloc | apply pw_below_drewN | apply below_drew1 | refine below_set ?_ GE459.out) | exact HB.out)) hb)
             clear HO455
             clear HO458
             clear BK459
             clear HB
             have HO455 := n0_
             have HO458 := n1_
             have HO462 := n2_
             have BK459 := n3_
             have HB := n4_
             clear n0_ n1_ n2_ n3_ n4_
             (try clear hb)
             (try clear hb2)
             (try clear hk)
             (try clear hi)
             (try clear ho0)
             obtain ⟨Ao38, co38, eo38⟩ := Kd.R_slice HO462.out
             (first | subst eo38 | (injection eo38 with f1_ f2_ f3_; have f4_ := f1_.symm; have f5_ := f3_.symm; clear f1_ f2_ f3_; subst f4_; subst f5_))
             refine hK.out _ _ ⟨(blk_cell BK459.out 0).trans rfl, (blk_cell BK459.out 1).trans rfl⟩ (fun hHeld => ?_)
             clear hK K
             refine norm_ (a' := ?_) ?_ ?_
             rotate_left
             ·show Act.put _ (some 38) _ = _
              simp only [Act.put, List.setIfInBounds_toArray, List.set_cons_zero, List.set_cons_succ, i64_w, i32_w]
              rfl
             refine one_ (i := 4) (N := some 39) #[true, true, true, true, true, false] rfl rfl (by kernel_rfl) (by decide) (fun K hK => ?_)
             refine goes_ Try.func21 (by kernel_rfl) rfl #[.agg #[.int .i64 t452, .slice Ao34 t453.length co34], .slice Ao38 t460.length co38] (by rfl) rfl rfl (by (try simp only [List.map_toArray, List.map_cons, List.map_nil]); first | done | rfl | (simp only [List.length_drop, List.length_take]; rfl)) ?_
             with_reducible refine (aig_Eval.calls kj6 t452 _ _ t453 _ _ t460 t463 _ ?side1 ?side2 ?side3 ?side4 A14.out).mono ?_
             (case side1 => repeat (first | exact (Kd.V_reads' HO455.out).2.2 | (with_reducible refine Kd.C_alloc ?_ _) | (with_reducible refine Kd.C_drewN ?_ _) | (with_reducible refine Kd.C_drew ?_)))
             (case side2 => exact (Kd.V_reads' HO455.out).2.1)
             (case side3 => repeat (first | exact (Kd.R_reads' HO462.out).2.2 | (with_reducible refine Kd.C_alloc ?_ _) | (with_reducible refine Kd.C_drewN ?_ _) | (with_reducible refine Kd.C_drew ?_)))
             (case side4 => exact (Kd.R_reads' HO462.out).2.1)
             rintro e w39 ⟨v464, rfl, ho0, hb⟩
             refine ⟨_, rfl, ?_⟩
             have n0_ := Aside0.mk (Kd.V_elder' (by (with_reducible repeat (first | apply Kd.V_alloc | apply Kd.V_drewN | apply Kd.V_drew)); exact HO455.out) (Kd.R_base ho0) hb)
             have n1_ := Aside0.mk (Kd.R_below (by (with_reducible repeat (first | apply Kd.R_alloc | apply Kd.R_drewN | apply Kd.R_drew)); exact HO458.out) hb)
             have n2_ := Aside0.mk (Kd.R_elder' (by (with_reducible repeat (first | apply Kd.R_alloc | apply Kd.R_drewN | apply Kd.R_drew)); exact HO462.out) (Kd.R_base ho0) hb)
             have n3_ := Aside0.mk (Kd.R_lower (Kd.R_new' ho0 (Kd.R_lt (by (with_reducible repeat (first | apply Kd.R_alloc | apply Kd.R_drewN | apply Kd.R_drew)); exact HO462.out))) (below_size (by repeat (first | (with_reducible first | exact HB.out | apply below_alloc | apply pw_below_drewN | apply below_drew1 | refine below_set ?_ GE459.out) | exact HB.out))))
             have n4_ := Aside0.mk (blk_below (g := gb459) (o := .cells #[.int .i64 t452, .slice Ao34 t453.length co34] 28 (0, 0)) (by (with_reducible repeat (first | refine blk_drewN ?_ _ | refine blk_drew ?_ | refine blk_alloc ?_ _)); exact BK459.out) hb)
             have n5_ := Aside0.mk (below_step (by repeat (first | (with_reducible first | exact HB.out | apply below_alloc | apply pw_below_drewN | apply below_drew1 | refine below_set ?_ GE459.out) | exact HB.out)) hb)
             clear HO455
             clear HO458
             clear HO462
             clear BK459
             clear HB
             have HO455 := n0_
             have HO458 := n1_
             have HO462 := n2_
             have HO465 := n3_
             have BK459 := n4_
             have HB := n5_
             clear n0_ n1_ n2_ n3_ n4_ n5_
             (try clear hb)
             (try clear hb2)
             (try clear hk)
             (try clear hi)
             (try clear ho0)
             refine hK.out _ _ ⟨(blk_cell BK459.out 0).trans rfl, (blk_cell BK459.out 1).trans rfl⟩ (fun hHeld => ?_)
             clear hK K
             refine norm_ (a' := ?_) ?_ ?_
             rotate_left
             ·show Act.put _ (some 39) _ = _
              simp only [Act.put, List.setIfInBounds_toArray, List.set_cons_zero, List.set_cons_succ, i64_w, i32_w]
              rfl
             refine pure_ (i := 5) (N := some 14) (v := ?_) (a' := ?_) #[true, true, true, true, true, true] rfl rfl (by kernel_rfl) (fun _ _ _ h => h) (Or.inl ⟨by rfl, ?_⟩) ?_ ?_
             rotate_left
             ·intro w'
              go_simp
              with_reducible rfl
             rotate_left
             ·simp only [Act.put, List.setIfInBounds_toArray, List.set_cons_zero, List.set_cons_succ, i64_w, i32_w]
              rfl
             refine done_ (by kernel_rfl) ?_
             have hcz40_0 : w39.cell? ⟨gb459, 0, none⟩ = some (.int .i64 t452) := (blk_cell BK459.out 0).trans rfl
             have hcz40_1 : w39.cell? ⟨gb459, 1, none⟩ = some (.slice Ao34 t453.length co34) := (blk_cell BK459.out 1).trans rfl
             have hfz40_0 := blk_frozen BK459.out 0
             have hfz40_1 := blk_frozen BK459.out 1
             obtain ⟨Ao41, co41, eo41⟩ := Kd.R_slice HO465.out
             subst eo41
             try go_wp2_with (first | ((with_reducible refine gate_dst (N := 63) rfl ?_); (try (refine gate_guard (by rfl) ?_; dsimp only)); refine Kd.R_lit Kd.bool _ 4 ?hg (N := 63) ?hd (xs := ([] : List Bool)) (inner := []) (ok := fun _ => True) (okp := fun _ => True) ?hr ?hp (fun _ hk => hk) trivial (Below.refl _ _) (Nat.le_refl _) (by simp) ?_; (case hd => rfl); (case hg => rfl); (case hr => first | (go_simp; done) | (go_simp; rfl)); (case hp => exact (Reps.none _ _)); intro v467 w42 ho43 hb hg_ hnew_; clear hg_ hnew_; (first | rw [← Ny466.out] at ho43 | (simp only [Int.reduceToNat] at ho43; rw [← Ny466.out] at ho43)); have n0_ := Aside0.mk (Kd.V_elder' (by (with_reducible repeat (first | apply Kd.V_alloc | apply Kd.V_drewN | apply Kd.V_drew)); exact HO455.out) (Kd.R_base ho43) hb); have n1_ := Aside0.mk (Kd.R_below (by (with_reducible repeat (first | apply Kd.R_alloc | apply Kd.R_drewN | apply Kd.R_drew)); exact HO458.out) hb); have n2_ := Aside0.mk (Kd.R_elder' (by (with_reducible repeat (first | apply Kd.R_alloc | apply Kd.R_drewN | apply Kd.R_drew)); exact HO462.out) (Kd.R_base ho43) hb); have n3_ := Aside0.mk (Kd.R_elder' (by (with_reducible repeat (first | apply Kd.R_alloc | apply Kd.R_drewN | apply Kd.R_drew)); exact HO465.out) (Kd.R_base ho43) hb); have n4_ := Aside0.mk (Kd.R_lower (Kd.R_new' (Kd.R_new' ho43 (Kd.R_lt (by (with_reducible repeat (first | apply Kd.R_alloc | apply Kd.R_drewN | apply Kd.R_drew)); exact HO462.out))) (Kd.R_lt (by (with_reducible repeat (first | apply Kd.R_alloc | apply Kd.R_drewN | apply Kd.R_drew)); exact HO465.out))) (below_size (by repeat (first | (with_reducible first | exact HB.out | apply below_alloc | apply pw_below_drewN | apply below_drew1 | refine below_set ?_ GE459.out) | exact HB.out)))); have n5_ := Aside0.mk (blk_below (g := gb459) (o := .cells #[.int .i64 t452, .slice Ao34 t453.length co34] 28 (0, 0)) (by (with_reducible repeat (first | refine blk_drewN ?_ _ | refine blk_drew ?_ | refine blk_alloc ?_ _)); exact BK459.out) hb); have n6_ := Aside0.mk (below_step (by repeat (first | (with_reducible first | exact HB.out | apply below_alloc | apply pw_below_drewN | apply below_drew1 | refine below_set ?_ GE459.out) | exact HB.out)) hb); clear HO455; clear HO458; clear HO462; clear HO465; clear BK459; clear HB; have HO455 := n0_; have HO458 := n1_; have HO462 := n2_; have HO465 := n3_; have HO468 := n4_; have BK459 := n5_; have HB := n6_; clear n0_ n1_ n2_ n3_ n4_ n5_ n6_; clear hb ho43) | ((with_reducible refine gate_builtin (b := .append) (xs := #[.tmp 63, .tmp 64]) rfl ?_); (try (refine gate_guard (by rfl) ?_; dsimp only)); at_builtin; refine Kd.R_append_rows Kd.bool (w0 := w) w.heap.size rfl (.tmp 63) (.tmp 64) 41 4 (.bool false) 1 rfl Try.underlying41 info4 rfl (by decide) (by omega) v467 y466 l4 _ _ _ (fun k_ => some k_ ≠ (.slice Ao38 t460.length co38 : Value).ownBlock ∧ some k_ ≠ (.slice Ao41 t463.length co41 : Value).ownBlock) (fun _ => False) rfl rfl ?aO ?aR (fun _ _ h => h) (fun _ h => h.elim) ?aF ?aB ?aS ?aL ?_; (case aR => repeat (first | exact (Kd.C_below HR4.out HB.out) | (with_reducible refine Kd.C_alloc ?_ _) | (with_reducible refine Kd.C_drewN ?_ _) | (with_reducible refine Kd.C_drew ?_))); (case aB => exact (by repeat (first | (with_reducible first | exact HB.out | apply below_alloc | apply pw_below_drewN | apply below_drew1 | refine below_set ?_ GE459.out) | exact HB.out))); (case aF => exact (fun k_ hk => ⟨Kd.fresh' (Kd.R_lt (by (with_reducible repeat (first | apply Kd.R_alloc | apply Kd.R_drewN | apply Kd.R_drew)); exact HO462.out)) k_ hk, Kd.fresh' (Kd.R_lt (by (with_reducible repeat (first | apply Kd.R_alloc | apply Kd.R_drewN | apply Kd.R_drew)); exact HO465.out)) k_ hk⟩)); (case aO => exact (by (with_reducible repeat (first | apply Kd.R_alloc | apply Kd.R_drewN | apply Kd.R_drew)); exact Kd.R_mono HO468.out (fun _ hk => ⟨hk.1.2, hk.2⟩))); (case aS => exact (below_size (by repeat (first | (with_reducible first | exact HB.out | apply below_alloc | apply pw_below_drewN | apply below_drew1 | refine below_set ?_ GE459.out) | exact HB.out)))); (case aL => have := LMc17.out; omega); intro v470 w44 ho hb hg hat; rw [← Ny469.out] at ho; have n0_ := Aside0.mk (Kd.V_afterv (ok := (fun k_ => some k_ ≠ (v457 : Value).ownBlock ∧ some k_ ≠ (.slice Ao38 t460.length co38 : Value).ownBlock ∧ some k_ ≠ (.slice Ao41 t463.length co41 : Value).ownBlock ∧ k_ ≠ gb459)) (by (with_reducible repeat (first | apply Kd.V_alloc | apply Kd.V_drewN | apply Kd.V_drew)); exact Kd.V_mono HO455.out (fun _ hk => ⟨⟨hk.1.1.1.1, ⟨hk.1.1.2, ⟨hk.1.2, hk.1.1.1.2⟩⟩⟩, hk.2⟩)) hg hat); have n1_ := Aside0.mk (Kd.R_over' (by (with_reducible repeat (first | apply Kd.R_alloc | apply Kd.R_drewN | apply Kd.R_drew)); exact HO458.out) (Kd.R_typed (by (with_reducible repeat (first | apply Kd.R_alloc | apply Kd.R_drewN | apply Kd.R_drew)); exact HO468.out)) (by decide) hg); have n2_ := Aside0.mk (blk_grown (g := gb459) (o := .cells #[.int .i64 t452, .slice Ao34 t453.length co34] 28 (0, 0)) (by (with_reducible repeat (first | refine blk_drewN ?_ _ | refine blk_drew ?_ | refine blk_alloc ?_ _)); exact BK459.out) hg (Kd.R_ne HO468.out BK459.out (by decide))); have n3_ := Aside0.mk (Kd.R_after (ok := (fun k_ => some k_ ≠ (.slice Ao41 t463.length co41 : Value).ownBlock)) (by (with_reducible repeat (first | apply Kd.R_alloc | apply Kd.R_drewN | apply Kd.R_drew)); exact Kd.R_mono HO462.out (fun _ hk => ⟨hk.1.2, hk.2⟩)) hg hat); have n4_ := Aside0.mk (Kd.R_after (ok := (fun k_ => some k_ ≠ (.slice Ao38 t460.length co38 : Value).ownBlock)) (by (with_reducible repeat (first | apply Kd.R_alloc | apply Kd.R_drewN | apply Kd.R_drew)); exact Kd.R_mono HO465.out (fun _ hk => ⟨hk.1.2, hk.2⟩)) hg hat); have n5_ := Aside0.mk (hb); have n6_ := Aside0.mk (ho); clear HO455; clear HO458; clear BK459; clear HO462; clear HO465; clear HB; clear HO468; have HO455 := n0_; have HO458 := n1_; have BK459 := n2_; have HO462 := n3_; have HO465 := n4_; have HB := n5_; have HO471 := n6_; clear n0_ n1_ n2_ n3_ n4_ n5_ n6_; clear ho hb hg hat) | ((with_reducible refine gate_builtin (b := .append) (xs := #[.tmp 65, .tmp 66]) rfl ?_); (try (refine gate_guard (by rfl) ?_; dsimp only)); at_builtin; refine Kd.R_append_rows Kd.bool (w0 := w) w.heap.size rfl (.tmp 65) (.tmp 66) 41 4 (.bool false) 1 rfl Try.underlying41 info4 rfl (by decide) (by omega) v470 y469 t463 _ _ _ (fun k_ => some k_ ≠ (.slice Ao38 t460.length co38 : Value).ownBlock ∧ some k_ ≠ (.slice Ao41 t463.length co41 : Value).ownBlock) (fun _ => False) rfl rfl ?aO ?aR (fun _ _ h => h) (fun _ h => h.elim) ?aF ?aB ?aS ?aL ?_; (case aR => repeat (first | exact (Kd.R_reads' HO465.out).2.2 | (with_reducible refine Kd.C_alloc ?_ _) | (with_reducible refine Kd.C_drewN ?_ _) | (with_reducible refine Kd.C_drew ?_))); (case aB => exact (by repeat (first | (with_reducible first | exact HB.out | apply below_alloc | apply pw_below_drewN | apply below_drew1 | refine below_set ?_ GE459.out) | exact HB.out))); (case aF => exact (fun k_ hk => ⟨Kd.fresh' (Kd.R_lt (by (with_reducible repeat (first | apply Kd.R_alloc | apply Kd.R_drewN | apply Kd.R_drew)); exact HO462.out)) k_ hk, Kd.fresh' (Kd.R_lt (by (with_reducible repeat (first | apply Kd.R_alloc | apply Kd.R_drewN | apply Kd.R_drew)); exact HO465.out)) k_ hk⟩)); (case aO => exact (by (with_reducible repeat (first | apply Kd.R_alloc | apply Kd.R_drewN | apply Kd.R_drew)); exact HO471.out)); (case aS => exact (below_size (by repeat (first | (with_reducible first | exact HB.out | apply below_alloc | apply pw_below_drewN | apply below_drew1 | refine below_set ?_ GE459.out) | exact HB.out)))); (case aL => have := LMc18.out; omega); intro v473 w45 ho hb hg hat; rw [← Ny472.out] at ho; have n0_ := Aside0.mk (Kd.V_afterv (ok := (fun k_ => some k_ ≠ (v457 : Value).ownBlock ∧ some k_ ≠ (.slice Ao38 t460.length co38 : Value).ownBlock ∧ some k_ ≠ (.slice Ao41 t463.length co41 : Value).ownBlock ∧ k_ ≠ gb459)) (by (with_reducible repeat (first | apply Kd.V_alloc | apply Kd.V_drewN | apply Kd.V_drew)); exact HO455.out) hg hat); have n1_ := Aside0.mk (Kd.R_over' (by (with_reducible repeat (first | apply Kd.R_alloc | apply Kd.R_drewN | apply Kd.R_drew)); exact HO458.out) (Kd.R_typed (by (with_reducible repeat (first | apply Kd.R_alloc | apply Kd.R_drewN | apply Kd.R_drew)); exact HO471.out)) (by decide) hg); have n2_ := Aside0.mk (blk_grown (g := gb459) (o := .cells #[.int .i64 t452, .slice Ao34 t453.length co34] 28 (0, 0)) (by (with_reducible repeat (first | refine blk_drewN ?_ _ | refine blk_drew ?_ | refine blk_alloc ?_ _)); exact BK459.out) hg (Kd.R_ne HO471.out BK459.out (by decide))); have n3_ := Aside0.mk (Kd.R_after (ok := (fun k_ => some k_ ≠ (.slice Ao41 t463.length co41 : Value).ownBlock)) (by (with_reducible repeat (first | apply Kd.R_alloc | apply Kd.R_drewN | apply Kd.R_drew)); exact HO462.out) hg hat); have n4_ := Aside0.mk (Kd.R_after (ok := (fun k_ => some k_ ≠ (.slice Ao38 t460.length co38 : Value).ownBlock)) (by (with_reducible repeat (first | apply Kd.R_alloc | apply Kd.R_drewN | apply Kd.R_drew)); exact HO465.out) hg hat); have n5_ := Aside0.mk (hb); have n6_ := Aside0.mk (ho); clear HO455; clear HO458; clear BK459; clear HO462; clear HO465; clear HB; clear HO471; have HO455 := n0_; have HO458 := n1_; have BK459 := n2_; have HO462 := n3_; have HO465 := n4_; have HB := n5_; have HO474 := n6_; clear n0_ n1_ n2_ n3_ n4_ n5_ n6_; clear ho hb hg hat; have hcz46_0 : w45.cell? ⟨gb459, 0, none⟩ = some (.int .i64 t452) := (blk_cell BK459.out 0).trans rfl; have hcz46_1 : w45.cell? ⟨gb459, 1, none⟩ = some (.slice Ao34 t453.length co34) := (blk_cell BK459.out 1).trans rfl; have hfz46_0 := blk_frozen BK459.out 0; have hfz46_1 := blk_frozen BK459.out 1) | ((with_reducible refine gate_callee (f := 18) rfl ?_); refine goesL_ (some 70) rfl rfl Try.func18 (by kernel_rfl) rfl #[.agg #[.int .i64 t452, .slice Ao34 t453.length co34], .int .i64 (l4.length : Int)] rfl (by (try simp only [List.map_toArray, List.map_cons, List.map_nil]); first | done | rfl | (simp only [List.length_drop, List.length_take]; rfl)) ?_; (with_reducible refine (cnf_Clauses.calls t452 _ _ t453 (l4.length : Int) t475 _ ?side1 ?side2 A19.out).mono ?_); (case side1 => repeat (first | exact (Kd.V_reads' HO455.out).2.2 | (with_reducible refine Kd.C_alloc ?_ _) | (with_reducible refine Kd.C_drewN ?_ _) | (with_reducible refine Kd.C_drew ?_))); (case side2 => exact (Kd.V_reads' HO455.out).2.1); rintro e w47 ⟨v476, rfl, ho0, hb⟩; refine ⟨_, rfl, ?_⟩; have n0_ := Aside0.mk (Kd.V_elder' (by (with_reducible repeat (first | apply Kd.V_alloc | apply Kd.V_drewN | apply Kd.V_drew)); exact HO455.out) (Kd.N_base ho0) hb); have n1_ := Aside0.mk (Kd.R_below (by (with_reducible repeat (first | apply Kd.R_alloc | apply Kd.R_drewN | apply Kd.R_drew)); exact HO458.out) hb); have n2_ := Aside0.mk (Kd.R_below (by (with_reducible repeat (first | apply Kd.R_alloc | apply Kd.R_drewN | apply Kd.R_drew)); exact HO462.out) hb); have n3_ := Aside0.mk (Kd.R_below (by (with_reducible repeat (first | apply Kd.R_alloc | apply Kd.R_drewN | apply Kd.R_drew)); exact HO465.out) hb); have n4_ := Aside0.mk (Kd.R_below (by (with_reducible repeat (first | apply Kd.R_alloc | apply Kd.R_drewN | apply Kd.R_drew)); exact HO474.out) hb); have n5_ := Aside0.mk (Kd.N_lower (Kd.N_mono (ok' := fun k_ => some k_ ≠ (v457 : Value).ownBlock ∧ some k_ ≠ (.slice Ao38 t460.length co38 : Value).ownBlock ∧ some k_ ≠ (.slice Ao41 t463.length co41 : Value).ownBlock ∧ some k_ ≠ (v473 : Value).ownBlock ∧ k_ ≠ gb459) ho0 (fun k_ hk_ => ⟨(Kd.fresh' (Kd.R_lt (by (with_reducible repeat (first | apply Kd.R_alloc | apply Kd.R_drewN | apply Kd.R_drew)); exact HO458.out)) k_ hk_), (Kd.fresh' (Kd.R_lt (by (with_reducible repeat (first | apply Kd.R_alloc | apply Kd.R_drewN | apply Kd.R_drew)); exact HO462.out)) k_ hk_), (Kd.fresh' (Kd.R_lt (by (with_reducible repeat (first | apply Kd.R_alloc | apply Kd.R_drewN | apply Kd.R_drew)); exact HO465.out)) k_ hk_), (Kd.fresh' (Kd.R_lt (by (with_reducible repeat (first | apply Kd.R_alloc | apply Kd.R_drewN | apply Kd.R_drew)); exact HO474.out)) k_ hk_), (Kd.freshB (g := gb459) (o := .cells #[.int .i64 t452, .slice Ao34 t453.length co34] 28 (0, 0)) (by (with_reducible repeat (first | refine blk_drewN ?_ _ | refine blk_drew ?_ | refine blk_alloc ?_ _)); exact BK459.out) k_ hk_)⟩)) (below_size (by repeat (first | (with_reducible first | exact HB.out | apply below_alloc | apply pw_below_drewN | apply below_drew1 | refine below_set ?_ GE459.out) | exact HB.out)))); have n6_ := Aside0.mk (blk_below (g := gb459) (o := .cells #[.int .i64 t452, .slice Ao34 t453.length co34] 28 (0, 0)) (by (with_reducible repeat (first | refine blk_drewN ?_ _ | refine blk_drew ?_ | refine blk_alloc ?_ _)); exact BK459.out) hb); have n7_ := Aside0.mk (below_step (by repeat (first | (with_reducible first | exact HB.out | apply below_alloc | apply pw_below_drewN | apply below_drew1 | refine below_set ?_ GE459.out) | exact HB.out)) hb); clear HO455; clear HO458; clear HO462; clear HO465; clear HO474; clear BK459; clear HB; have HO455 := n0_; have HO458 := n1_; have HO462 := n2_; have HO465 := n3_; have HO474 := n4_; have HO477 := n5_; have BK459 := n6_; have HB := n7_; clear n0_ n1_ n2_ n3_ n4_ n5_ n6_ n7_; (try clear hb); (try clear hb2); (try clear hk); (try clear hi); (try clear ho0); obtain ⟨Ao48, co48, eo48⟩ := Kd.R_slice HO474.out; subst eo48; obtain ⟨Ao49, co49, eo49⟩ := Kd.N_slice HO477.out; subst eo49) | ((with_reducible refine gate_callee (f := 20) rfl ?_); refine goesL_ (some 75) rfl rfl Try.func20 (by kernel_rfl) rfl #[.slice Ao49 t475.length co49, .int .i64 (l4.length : Int), .int .i64 (y472.length : Int)] rfl (by (try simp only [List.map_toArray, List.map_cons, List.map_nil]); first | done | rfl | (simp only [List.length_drop, List.length_take]; rfl)) ?_; (with_reducible refine (proofmarklaw17_within.calls kj6 _ _ t475 (l4.length : Int) (y472.length : Int) true _ ?side1 ?side2 A20.out).mono ?_); (case side1 => repeat (first | exact (Kd.N_reads' HO477.out).2.2 | (with_reducible refine Kd.C_alloc ?_ _) | (with_reducible refine Kd.C_drewN ?_ _) | (with_reducible refine Kd.C_drew ?_))); (case side2 => exact (Kd.N_reads' HO477.out).2.1); rintro e w50 ⟨rfl, hb⟩; refine ⟨_, rfl, ?_⟩; have n0_ := Aside0.mk (Kd.V_below (by (with_reducible repeat (first | apply Kd.V_alloc | apply Kd.V_drewN | apply Kd.V_drew)); exact HO455.out) hb); have n1_ := Aside0.mk (Kd.R_below (by (with_reducible repeat (first | apply Kd.R_alloc | apply Kd.R_drewN | apply Kd.R_drew)); exact HO458.out) hb); have n2_ := Aside0.mk (Kd.R_below (by (with_reducible repeat (first | apply Kd.R_alloc | apply Kd.R_drewN | apply Kd.R_drew)); exact HO462.out) hb); have n3_ := Aside0.mk (Kd.R_below (by (with_reducible repeat (first | apply Kd.R_alloc | apply Kd.R_drewN | apply Kd.R_drew)); exact HO465.out) hb); have n4_ := Aside0.mk (Kd.R_below (by (with_reducible repeat (first | apply Kd.R_alloc | apply Kd.R_drewN | apply Kd.R_drew)); exact HO474.out) hb); have n5_ := Aside0.mk (Kd.N_below (by (with_reducible repeat (first | apply Kd.N_alloc | apply Kd.N_drewN | apply Kd.N_drew)); exact HO477.out) hb); have n6_ := Aside0.mk (blk_below (g := gb459) (o := .cells #[.int .i64 t452, .slice Ao34 t453.length co34] 28 (0, 0)) (by (with_reducible repeat (first | refine blk_drewN ?_ _ | refine blk_drew ?_ | refine blk_alloc ?_ _)); exact BK459.out) hb); have n7_ := Aside0.mk (below_step (by repeat (first | (with_reducible first | exact HB.out | apply below_alloc | apply pw_below_drewN | apply below_drew1 | refine below_set ?_ GE459.out) | exact HB.out)) hb); clear HO455; clear HO458; clear HO462; clear HO465; clear HO474; clear HO477; clear BK459; clear HB; have HO455 := n0_; have HO458 := n1_; have HO462 := n2_; have HO465 := n3_; have HO474 := n4_; have HO477 := n5_; have BK459 := n6_; have HB := n7_; clear n0_ n1_ n2_ n3_ n4_ n5_ n6_ n7_; (try clear hb); (try clear hb2); (try clear hk); (try clear hi)) | ((with_reducible refine gate_callee (f := 15) rfl ?_); refine goesL_ (some 79) rfl rfl Try.func15 (by kernel_rfl) rfl #[.int .i64 (Int.tmod (wrap64 (a3)) (wrap64 (2 * (wrap64 ((wrap64 (1 + t452)) + (t453.length : Int)))))), .int .i64 (l4.length : Int)] rfl (by (try simp only [List.map_toArray, List.map_cons, List.map_nil]); first | done | rfl | (simp only [List.length_drop, List.length_take]; rfl)) ?_; (with_reducible refine (cnf_Of.calls (Int.tmod (wrap64 (a3)) (wrap64 (2 * (wrap64 ((wrap64 (1 + t452)) + (t453.length : Int)))))) (l4.length : Int) t479 _ A22.out).mono ?_); rintro e w' ⟨rfl, ⟨nd, rfl⟩⟩; refine ⟨_, rfl, ?_⟩) | ((with_reducible refine gate_dst (N := 100) rfl ?_); (try (refine gate_guard (by rfl) ?_; dsimp only)); refine Kd.R_lit (Kd.int .i64) _ 3 ?hg (N := 100) ?hd (xs := ([t479] : List Int)) (inner := [.int .i64 t479]) (ok := fun _ => True) (okp := fun _ => True) ?hr ?hp (fun _ hk => hk) trivial (Below.refl _ _) (Nat.le_refl _) (by simp) ?_; (case hd => rfl); (case hg => rfl); (case hr => first | (go_simp; done) | (go_simp; rfl)); (case hp => exact (Reps.one (show Kd.M (Kd.int .i64) _ _ _ t479 [.int .i64 t479] from rfl) (Reps.none _ _))); intro v481 w51 ho52 hb hg_ hnew_; clear hg_ hnew_; (first | rw [← Ny480.out] at ho52 | (simp only [Int.reduceToNat] at ho52; rw [← Ny480.out] at ho52)); have n0_ := Aside0.mk (Kd.V_elder' (by (with_reducible repeat (first | apply Kd.V_alloc | apply Kd.V_drewN | apply Kd.V_drew)); exact HO455.out) (Kd.R_base ho52) hb); have n1_ := Aside0.mk (Kd.R_elder' (by (with_reducible repeat (first | apply Kd.R_alloc | apply Kd.R_drewN | apply Kd.R_drew)); exact HO458.out) (Kd.R_base ho52) hb); have n2_ := Aside0.mk (Kd.R_below (by (with_reducible repeat (first | apply Kd.R_alloc | apply Kd.R_drewN | apply Kd.R_drew)); exact HO462.out) hb); have n3_ := Aside0.mk (Kd.R_below (by (with_reducible repeat (first | apply Kd.R_alloc | apply Kd.R_drewN | apply Kd.R_drew)); exact HO465.out) hb); have n4_ := Aside0.mk (Kd.R_below (by (with_reducible repeat (first | apply Kd.R_alloc | apply Kd.R_drewN | apply Kd.R_drew)); exact HO474.out) hb); have n5_ := Aside0.mk (Kd.N_elder' (by (with_reducible repeat (first | apply Kd.N_alloc | apply Kd.N_drewN | apply Kd.N_drew)); exact HO477.out) (Kd.R_base ho52) hb); have n6_ := Aside0.mk (Kd.R_lower (Kd.R_new' ho52 (Kd.R_lt (by (with_reducible repeat (first | apply Kd.R_alloc | apply Kd.R_drewN | apply Kd.R_drew)); exact HO458.out))) (below_size (by repeat (first | (with_reducible first | exact HB.out | apply below_alloc | apply pw_below_drewN | apply below_drew1 | refine below_set ?_ GE459.out) | exact HB.out)))); have n7_ := Aside0.mk (blk_below (g := gb459) (o := .cells #[.int .i64 t452, .slice Ao34 t453.length co34] 28 (0, 0)) (by (with_reducible repeat (first | refine blk_drewN ?_ _ | refine blk_drew ?_ | refine blk_alloc ?_ _)); exact BK459.out) hb); have n8_ := Aside0.mk (below_step (by repeat (first | (with_reducible first | exact HB.out | apply below_alloc | apply pw_below_drewN | apply below_drew1 | refine below_set ?_ GE459.out) | exact HB.out)) hb); clear HO455; clear HO458; clear HO462; clear HO465; clear HO474; clear HO477; clear BK459; clear HB; have HO455 := n0_; have HO458 := n1_; have HO462 := n2_; have HO465 := n3_; have HO474 := n4_; have HO477 := n5_; have HO482 := n6_; have BK459 := n7_; have HB := n8_; clear n0_ n1_ n2_ n3_ n4_ n5_ n6_ n7_ n8_; clear hb ho52; obtain ⟨Ao53, co53, eo53⟩ := Kd.R_slice HO482.out; subst eo53) | ((with_reducible refine gate_dst (N := 101) rfl ?_); (try (refine gate_guard (by rfl) ?_; dsimp only)); refine Kd.N_lit (Kd.slice 3 (Kd.int .i64)) _ 29 ?hg (N' := 101) ?hd (xs := ([y480] : List (List Int))) (inner := [.slice Ao53 y480.length co53]) (ok := (fun k_ => some k_ ≠ (v457 : Value).ownBlock ∧ some k_ ≠ (.slice Ao38 t460.length co38 : Value).ownBlock ∧ some k_ ≠ (.slice Ao41 t463.length co41 : Value).ownBlock ∧ some k_ ≠ (.slice Ao48 y472.length co48 : Value).ownBlock ∧ some k_ ≠ (.slice Ao49 t475.length co49 : Value).ownBlock ∧ k_ ≠ gb459)) (okp := (fun k_ => some k_ ≠ (v457 : Value).ownBlock ∧ some k_ ≠ (.slice Ao38 t460.length co38 : Value).ownBlock ∧ some k_ ≠ (.slice Ao41 t463.length co41 : Value).ownBlock ∧ some k_ ≠ (.slice Ao48 y472.length co48 : Value).ownBlock ∧ some k_ ≠ (.slice Ao49 t475.length co49 : Value).ownBlock ∧ k_ ≠ gb459)) ?hr ?hp (fun _ hk => hk) ((show ∀ k_, w51.heap.size ≤ k_ → (fun k_ => some k_ ≠ (v457 : Value).ownBlock ∧ some k_ ≠ (.slice Ao38 t460.length co38 : Value).ownBlock ∧ some k_ ≠ (.slice Ao41 t463.length co41 : Value).ownBlock ∧ some k_ ≠ (.slice Ao48 y472.length co48 : Value).ownBlock ∧ some k_ ≠ (.slice Ao49 t475.length co49 : Value).ownBlock ∧ k_ ≠ gb459) k_ from fun k_ hk => ⟨Kd.fresh' (Kd.R_lt (by (with_reducible repeat (first | apply Kd.R_alloc | apply Kd.R_drewN | apply Kd.R_drew)); exact HO458.out)) k_ hk, Kd.fresh' (Kd.R_lt (by (with_reducible repeat (first | apply Kd.R_alloc | apply Kd.R_drewN | apply Kd.R_drew)); exact HO462.out)) k_ hk, Kd.fresh' (Kd.R_lt (by (with_reducible repeat (first | apply Kd.R_alloc | apply Kd.R_drewN | apply Kd.R_drew)); exact HO465.out)) k_ hk, Kd.fresh' (Kd.R_lt (by (with_reducible repeat (first | apply Kd.R_alloc | apply Kd.R_drewN | apply Kd.R_drew)); exact HO474.out)) k_ hk, Kd.fresh' (Kd.N_lt (by (with_reducible repeat (first | apply Kd.N_alloc | apply Kd.N_drewN | apply Kd.N_drew)); exact HO477.out)) k_ hk, Kd.freshB (g := gb459) (o := .cells #[.int .i64 t452, .slice Ao34 t453.length co34] 28 (0, 0)) (by (with_reducible repeat (first | refine blk_drewN ?_ _ | refine blk_drew ?_ | refine blk_alloc ?_ _)); exact BK459.out) k_ hk⟩) _ (Nat.le_refl _)) (Below.refl _ _) (Nat.le_refl _) (by simp) ?_; (case hd => rfl); (case hg => rfl); (case hr => first | (go_simp; done) | (go_simp; rfl)); (case hp => exact (Reps.one (show Kd.FK (Kd.slice 3 (Kd.int .i64)) _ _ y480 [.slice Ao53 y480.length co53] from (Kd.FK_slice_mk (Kd.R_reads' (Kd.R_mono (ok' := (fun k_ => some k_ ≠ (v457 : Value).ownBlock ∧ some k_ ≠ (.slice Ao38 t460.length co38 : Value).ownBlock ∧ some k_ ≠ (.slice Ao41 t463.length co41 : Value).ownBlock ∧ some k_ ≠ (.slice Ao48 y472.length co48 : Value).ownBlock ∧ some k_ ≠ (.slice Ao49 t475.length co49 : Value).ownBlock ∧ k_ ≠ gb459)) (Kd.R_types (Kd.R_apart' (Kd.R_apart' (Kd.R_apart' (Kd.R_apart' (HO482.out) (Kd.R_typed HO462.out) (by decide)) (Kd.R_typed HO465.out) (by decide)) (Kd.R_typed HO474.out) (by decide)) (Kd.N_typed HO477.out) (by decide)) BK459.out (by decide)) (fun k_ hk => ⟨hk.1.1.1.1.1.2, ⟨hk.1.1.1.1.2, ⟨hk.1.1.1.2, ⟨hk.1.1.2, ⟨hk.1.2, hk.2⟩⟩⟩⟩⟩))).2.1 (Kd.R_F (Kd.R_mono (ok' := (fun k_ => some k_ ≠ (v457 : Value).ownBlock ∧ some k_ ≠ (.slice Ao38 t460.length co38 : Value).ownBlock ∧ some k_ ≠ (.slice Ao41 t463.length co41 : Value).ownBlock ∧ some k_ ≠ (.slice Ao48 y472.length co48 : Value).ownBlock ∧ some k_ ≠ (.slice Ao49 t475.length co49 : Value).ownBlock ∧ k_ ≠ gb459)) (Kd.R_types (Kd.R_apart' (Kd.R_apart' (Kd.R_apart' (Kd.R_apart' (HO482.out) (Kd.R_typed HO462.out) (by decide)) (Kd.R_typed HO465.out) (by decide)) (Kd.R_typed HO474.out) (by decide)) (Kd.N_typed HO477.out) (by decide)) BK459.out (by decide)) (fun k_ hk => ⟨hk.1.1.1.1.1.2, ⟨hk.1.1.1.1.2, ⟨hk.1.1.1.2, ⟨hk.1.1.2, ⟨hk.1.2, hk.2⟩⟩⟩⟩⟩))))) (Reps.none _ _))); intro v484 w54 ho55 hb hg_ hnew_; clear hg_ hnew_; (first | rw [← Ny483.out] at ho55 | (simp only [Int.reduceToNat] at ho55; rw [← Ny483.out] at ho55)); have n0_ := Aside0.mk (Kd.V_elder' (by (with_reducible repeat (first | apply Kd.V_alloc | apply Kd.V_drewN | apply Kd.V_drew)); exact HO455.out) (Kd.N_base ho55) hb); have n1_ := Aside0.mk (Kd.R_below (by (with_reducible repeat (first | apply Kd.R_alloc | apply Kd.R_drewN | apply Kd.R_drew)); exact HO458.out) hb); have n2_ := Aside0.mk (Kd.R_below (by (with_reducible repeat (first | apply Kd.R_alloc | apply Kd.R_drewN | apply Kd.R_drew)); exact HO462.out) hb); have n3_ := Aside0.mk (Kd.R_below (by (with_reducible repeat (first | apply Kd.R_alloc | apply Kd.R_drewN | apply Kd.R_drew)); exact HO465.out) hb); have n4_ := Aside0.mk (Kd.R_below (by (with_reducible repeat (first | apply Kd.R_alloc | apply Kd.R_drewN | apply Kd.R_drew)); exact HO474.out) hb); have n5_ := Aside0.mk (Kd.N_elder' (by (with_reducible repeat (first | apply Kd.N_alloc | apply Kd.N_drewN | apply Kd.N_drew)); exact HO477.out) (Kd.N_base ho55) hb); have n6_ := Aside0.mk (Kd.N_lower ho55 (below_size (by repeat (first | (with_reducible first | exact HB.out | apply below_alloc | apply pw_below_drewN | apply below_drew1 | refine below_set ?_ GE459.out) | exact HB.out)))); have n7_ := Aside0.mk (blk_below (g := gb459) (o := .cells #[.int .i64 t452, .slice Ao34 t453.length co34] 28 (0, 0)) (by (with_reducible repeat (first | refine blk_drewN ?_ _ | refine blk_drew ?_ | refine blk_alloc ?_ _)); exact BK459.out) hb); have n8_ := Aside0.mk (below_step (by repeat (first | (with_reducible first | exact HB.out | apply below_alloc | apply pw_below_drewN | apply below_drew1 | refine below_set ?_ GE459.out) | exact HB.out)) hb); clear HO455; clear HO458; clear HO462; clear HO465; clear HO474; clear HO477; clear BK459; clear HB; clear HO482; have HO455 := n0_; have HO458 := n1_; have HO462 := n2_; have HO465 := n3_; have HO474 := n4_; have HO477 := n5_; have HO485 := n6_; have BK459 := n7_; have HB := n8_; clear n0_ n1_ n2_ n3_ n4_ n5_ n6_ n7_ n8_; clear hb ho55; obtain ⟨Ao56, co56, eo56⟩ := Kd.N_slice HO485.out; subst eo56) | (go_at_call 23; (with_reducible refine (proofmarkref17_Met.calls kj6 _ _ y483 _ _ y472 t486 _ ?side1 ?side2 ?side3 ?side4 A27.out).mono ?_); (case side1 => repeat (first | exact (Kd.N_reads' HO485.out).2.2 | (with_reducible refine Kd.C_alloc ?_ _) | (with_reducible refine Kd.C_drewN ?_ _) | (with_reducible refine Kd.C_drew ?_))); (case side2 => exact (Kd.N_reads' HO485.out).2.1); (case side3 => repeat (first | exact (Kd.R_reads' HO474.out).2.2 | (with_reducible refine Kd.C_alloc ?_ _) | (with_reducible refine Kd.C_drewN ?_ _) | (with_reducible refine Kd.C_drew ?_))); (case side4 => exact (Kd.R_reads' HO474.out).2.1); rintro e w' ⟨rfl, ⟨nd, rfl⟩⟩) | (go_at_call 24; (with_reducible refine (aig_Lit.calls _ _ t463 (Int.tmod (wrap64 (a3)) (wrap64 (2 * (wrap64 ((wrap64 (1 + t452)) + (t453.length : Int)))))) t487 _ ?side1 ?side2 A28.out).mono ?_); (case side1 => repeat (first | exact (Kd.R_reads' HO465.out).2.2 | (with_reducible refine Kd.C_alloc ?_ _) | (with_reducible refine Kd.C_drewN ?_ _) | (with_reducible refine Kd.C_drew ?_))); (case side2 => exact (Kd.R_reads' HO465.out).2.1); rintro e w' ⟨rfl, ⟨nd, rfl⟩⟩) | (go_at_call 23; (with_reducible refine (proofmarkref17_Met.calls kj6 _ _ t475 _ _ y472 t488 _ ?side1 ?side2 ?side3 ?side4 A30.out).mono ?_); (case side1 => repeat (first | exact (Kd.N_reads' HO477.out).2.2 | (with_reducible refine Kd.C_alloc ?_ _) | (with_reducible refine Kd.C_drewN ?_ _) | (with_reducible refine Kd.C_drew ?_))); (case side2 => exact (Kd.N_reads' HO477.out).2.1); (case side3 => repeat (first | exact (Kd.R_reads' HO474.out).2.2 | (with_reducible refine Kd.C_alloc ?_ _) | (with_reducible refine Kd.C_drewN ?_ _) | (with_reducible refine Kd.C_drew ?_))); (case side4 => exact (Kd.R_reads' HO474.out).2.1); rintro e w' ⟨rfl, ⟨nd, rfl⟩⟩))
             go_ret
             exact ⟨by first | rfl | (simp [errW_none, errW_some] <;> rfl) | (simp only [← hji24]; first | rfl | (simp [errW_none, errW_some] <;> rfl)) | (simp [*, errW_none, errW_some] <;> rfl), by repeat (first | (with_reducible first | exact HB.out | apply below_alloc | apply pw_below_drewN | apply below_drew1 | refine below_set ?_ GE459.out) | exact HB.out)⟩
            ·rw [if_neg c29] at H
             have c29b0 : (t486 == t487) = false := by simpa using c29
             (try (have c29b1 : decide (t486 = t487) = false := by simpa using c29))
             (try (have c29b2 : (t486 == t487) = false := by simpa using c29))
             (try (have c29b3 : ¬ (t486 = t487) := by simpa using c29))
             clear c29
             obtain rfl := Option.some.inj H
             try go_wp2_with (first | ((with_reducible refine gate_callee (f := 12) rfl ?_); refine goesL_ (some 32) rfl rfl Try.func12 (by kernel_rfl) rfl #[.int .u8 a0, .slice A1 l1.length c1] rfl (by (try simp only [List.map_toArray, List.map_cons, List.map_nil]); first | done | rfl | (simp only [List.length_drop, List.length_take]; rfl)) ?_; (with_reducible refine (proofmarklaw13_Made.calls kj6 a0 _ _ l1 t452 t453 t456 _ ?side1 ?side2 A12.out).mono ?_); (case side1 => repeat (first | exact (Kd.C_below HR1.out HB.out) | (with_reducible refine Kd.C_alloc ?_ _) | (with_reducible refine Kd.C_drewN ?_ _) | (with_reducible refine Kd.C_drew ?_))); (case side2 => exact HC1.out); rintro e w57 ⟨v454, v457, rfl, ho0, ho1, hb⟩; refine ⟨_, rfl, ?_⟩; have n0_ := Aside0.mk (Kd.V_lower (Kd.V_mono (ok' := fun k_ => some k_ ≠ (v457 : Value).ownBlock) ho0 (fun k_ hk_ => hk_.2)) (below_size (by repeat (first | (with_reducible first | exact HB.out | apply below_alloc | apply pw_below_drewN | apply below_drew1) | exact HB.out)))); have n1_ := Aside0.mk (Kd.R_lower (Kd.R_mono (ok' := fun k_ => True) ho1 (fun _ hk_ => trivial)) (below_size (by repeat (first | (with_reducible first | exact HB.out | apply below_alloc | apply pw_below_drewN | apply below_drew1) | exact HB.out)))); have n2_ := Aside0.mk (below_step (by repeat (first | (with_reducible first | exact HB.out | apply below_alloc | apply pw_below_drewN | apply below_drew1) | exact HB.out)) hb); clear HB; have HO455 := n0_; have HO458 := n1_; have HB := n2_; clear n0_ n1_ n2_; (try clear hb); (try clear hb2); (try clear hk); (try clear hi); (try clear ho0); (try clear ho1)) | ((with_reducible refine gate_dst (N := 12) rfl ?_); (try (refine gate_guard (by rfl) ?_; dsimp only)); refine box_event ?hg (N := 12) ?hd (cs := #[.int .i64 0, .slice none 0 0]) (t := 28) ?hr ?_; (case hd => rfl); (case hg => rfl); (case hr => first | (go_simp; done) | (go_simp; rfl)); intro gb459 hg w58 hbox hb; have n0_ := Aside0.mk (Kd.V_below (Kd.V_elderB (by (with_reducible repeat (first | apply Kd.V_alloc | apply Kd.V_drewN | apply Kd.V_drew)); exact HO455.out) gb459 (Nat.le_of_eq hg.symm)) hb); have n1_ := Aside0.mk (Kd.R_below (by (with_reducible repeat (first | apply Kd.R_alloc | apply Kd.R_drewN | apply Kd.R_drew)); exact HO458.out) hb); have n2_ := Aside0.mk (below_step (by repeat (first | (with_reducible first | exact HB.out | apply below_alloc | apply pw_below_drewN | apply below_drew1) | exact HB.out)) hb); have n3_ := Aside0.mk (hbox); have n4_ := Aside0.mk ((by rw [hg]; exact (below_size (by repeat (first | (with_reducible first | exact HB.out | apply below_alloc | apply pw_below_drewN | apply below_drew1) | exact HB.out))) : w.heap.size ≤ gb459)); have n5_ := Aside0.mk ((by rw [hg]; exact (below_size (by repeat (first | (with_reducible first | exact HB.out | apply below_alloc | apply pw_below_drewN | apply below_drew1) | exact HB.out))) : w.heap.size ≤ gb459)); clear HO455; clear HO458; clear HB; have HO455 := n0_; have HO458 := n1_; have HB := n2_; have BK459 := n3_; have GW459 := n4_; have GE459 := n5_; clear n0_ n1_ n2_ n3_ n4_ n5_; clear hb hbox hg; have hcz59_0 : w58.cell? ⟨gb459, 0, none⟩ = some (.int .i64 0) := (blk_cell BK459.out 0).trans rfl; have hcz59_1 : w58.cell? ⟨gb459, 1, none⟩ = some (.slice none 0 0) := (blk_cell BK459.out 1).trans rfl; have hfz59_0 := blk_frozen BK459.out 0; have hfz59_1 := blk_frozen BK459.out 1; obtain ⟨Ao60, co60, eo60⟩ := Kd.V_slice HO455.out; subst eo60))
             have n0_ : Aside0 (Kd.V k49 49 ((w58.setCell ⟨gb459, 0, none⟩ (.int .i64 t452)).setCell ⟨gb459, 1, none⟩ (.slice Ao60 t453.length co60)) w.heap.size (fun k_ => some k_ ≠ (v457 : Value).ownBlock ∧ k_ ≠ gb459) (.slice Ao60 t453.length co60) t453) := ⟨by (with_reducible repeat (first | apply Kd.V_alloc | apply Kd.V_drewN | apply Kd.V_drew)); exact Kd.V_mono (Kd.V_far (p := ⟨gb459, 1, none⟩) (Kd.V_far (p := ⟨gb459, 0, none⟩) (Kd.V_mono HO455.out (fun k_ hk => (⟨hk, hk.2⟩ : _ ∧ k_ ≠ gb459))) (fun _ hk => hk.2) (.int .i64 t452)) (fun _ hk => hk.2) (.slice Ao60 t453.length co60)) (fun _ hk => ⟨hk.1.1, hk.1.2⟩)⟩
             have n1_ : Aside0 (Kd.R (Kd.int .i64) 3 ((w58.setCell ⟨gb459, 0, none⟩ (.int .i64 t452)).setCell ⟨gb459, 1, none⟩ (.slice Ao60 t453.length co60)) w.heap.size (fun _ => True) v457 t456) := ⟨by (with_reducible repeat (first | apply Kd.R_alloc | apply Kd.R_drewN | apply Kd.R_drew)); exact Kd.R_mono (Kd.R_far (p := ⟨gb459, 1, none⟩) (Kd.R_far (p := ⟨gb459, 0, none⟩) (Kd.R_types HO458.out BK459.out (by decide)) (fun _ hk => hk.2) (.int .i64 t452)) (fun _ hk => hk.2) (.slice Ao60 t453.length co60)) (fun _ hk => trivial)⟩
             have n2_ : Aside0 (((w58.setCell ⟨gb459, 0, none⟩ (.int .i64 t452)).setCell ⟨gb459, 1, none⟩ (.slice Ao60 t453.length co60)).heap[gb459]? = some (.cells #[.int .i64 t452, .slice Ao60 t453.length co60] 28 (0, 0))) := ⟨by (with_reducible repeat (first | refine blk_drewN ?_ _ | refine blk_drew ?_ | refine blk_alloc ?_ _)); refine blk_put (cs := #[.int .i64 t452, .slice none 0 0]) ?_ 1 _ rfl; (with_reducible repeat (first | refine blk_drewN ?_ _ | refine blk_drew ?_ | refine blk_alloc ?_ _)); refine blk_put (cs := #[.int .i64 0, .slice none 0 0]) ?_ 0 _ rfl; (with_reducible repeat (first | refine blk_drewN ?_ _ | refine blk_drew ?_ | refine blk_alloc ?_ _)); exact BK459.out⟩
             have n3_ : Aside0 (Below w.heap.size w ((w58.setCell ⟨gb459, 0, none⟩ (.int .i64 t452)).setCell ⟨gb459, 1, none⟩ (.slice Ao60 t453.length co60))) := ⟨by repeat (first | (with_reducible first | exact HB.out | apply below_alloc | apply pw_below_drewN | apply below_drew1 | refine below_set ?_ GE459.out) | exact HB.out)⟩
             (try clear HO455)
             (try clear HO458)
             (try clear BK459)
             (try clear HB)
             generalize ((w58.setCell ⟨gb459, 0, none⟩ (.int .i64 t452)).setCell ⟨gb459, 1, none⟩ (.slice Ao60 t453.length co60)) = w61 at n0_ n1_ n2_ n3_ ⊢
             have HO455 := n0_
             have HO458 := n1_
             have BK459 := n2_
             have HB := n3_
             clear n0_ n1_ n2_ n3_
             have n0_ := Aside0.mk (Kd.V_drew HO455.out)
             have n1_ := Aside0.mk (Kd.R_drew HO458.out)
             have n2_ := Aside0.mk (blk_drew BK459.out)
             have n3_ := Aside0.mk (below_drew1 HB.out)
             clear HO455
             clear HO458
             clear BK459
             clear HB
             have HO455 := n0_
             have HO458 := n1_
             have BK459 := n2_
             have HB := n3_
             clear n0_ n1_ n2_ n3_
             refine start_ (n := 6) (S := fun w' => w'.cell? ⟨gb459, 0, none⟩ = some (.int .i64 t452) ∧ w'.cell? ⟨gb459, 1, none⟩ = some (.slice Ao60 t453.length co60)) (ds := []) #[false, false, false, false, false, false] (by kernel_rfl) rfl rfl ⟨(blk_cell BK459.out 0).trans rfl, (blk_cell BK459.out 1).trans rfl⟩ (fun hHeld => ?_)
             generalize w61.drew = w62 at HO455 HO458 BK459 HB hHeld ⊢
             refine pure_ (i := 2) (N := some 37) (v := ?_) (a' := ?_) #[false, false, true, false, false, false] rfl rfl (by kernel_rfl) (fun _ _ _ h => h) (Or.inl ⟨by rfl, ?_⟩) ?_ ?_
             rotate_left
             ·intro w'
              go_simp
              with_reducible rfl
             rotate_left
             ·simp only [Act.put, List.setIfInBounds_toArray, List.set_cons_zero, List.set_cons_succ, i64_w, i32_w]
              rfl
             refine take_ (i := 0) (N := some 35) (v := ?_) (a' := ?_) #[true, false, true, false, false, false] rfl rfl (by kernel_rfl) (fun _ _ _ h => h) (Or.inl ⟨by rfl, ?_⟩) hHeld ?_ ?_
             rotate_left
             ·rintro w' ⟨s0, s1⟩
              go_simp
              with_reducible rfl
             rotate_left
             ·simp only [Act.put, List.setIfInBounds_toArray, List.set_cons_zero, List.set_cons_succ, i64_w, i32_w]
              rfl
             refine take_ (i := 1) (N := some 36) (v := ?_) (a' := ?_) #[true, true, true, false, false, false] rfl rfl (by kernel_rfl) (fun _ _ _ h => h) (Or.inl ⟨by rfl, ?_⟩) hHeld ?_ ?_
             rotate_left
             ·rintro w' ⟨s0, s1⟩
              go_simp
              with_reducible rfl
             rotate_left
             ·simp only [Act.put, List.setIfInBounds_toArray, List.set_cons_zero, List.set_cons_succ, i64_w, i32_w]
              rfl
             refine one_ (i := 3) (N := some 38) #[true, true, true, true, false, false] rfl rfl (by kernel_rfl) (by decide) (fun K hK => ?_)
             refine goes_ Try.func22 (by kernel_rfl) rfl #[.agg #[.int .i64 t452, .slice Ao60 t453.length co60], .slice A2 l2.length c2] (by rfl) rfl rfl (by (try simp only [List.map_toArray, List.map_cons, List.map_nil]); first | done | rfl | (simp only [List.length_drop, List.length_take]; rfl)) ?_
             with_reducible refine (proofmarklaw13_Bits.calls kj6 t452 _ _ t453 _ _ l2 t460 _ ?side1 ?side2 ?side3 ?side4 A13.out).mono ?_
             (case side1 => repeat (first | exact (Kd.V_reads' HO455.out).2.2 | (with_reducible refine Kd.C_alloc ?_ _) | (with_reducible refine Kd.C_drewN ?_ _) | (with_reducible refine Kd.C_drew ?_)))
             (case side2 => exact (Kd.V_reads' HO455.out).2.1)
             (case side3 => repeat (first | exact (Kd.C_below HR2.out HB.out) | (with_reducible refine Kd.C_alloc ?_ _) | (with_reducible refine Kd.C_drewN ?_ _) | (with_reducible refine Kd.C_drew ?_)))
             (case side4 => exact HC2.out)
             rintro e w63 ⟨v461, rfl, ho0, hb⟩
             refine ⟨_, rfl, ?_⟩
             have n0_ := Aside0.mk (Kd.V_elder' (by (with_reducible repeat (first | apply Kd.V_alloc | apply Kd.V_drewN | apply Kd.V_drew)); exact HO455.out) (Kd.R_base ho0) hb)
             have n1_ := Aside0.mk (Kd.R_below (by (with_reducible repeat (first | apply Kd.R_alloc | apply Kd.R_drewN | apply Kd.R_drew)); exact HO458.out) hb)
             have n2_ := Aside0.mk (Kd.R_lower ho0 (below_size (by repeat (first | (with_reducible first | exact HB.out | apply below_alloc | apply pw_below_drewN | apply below_drew1 | refine below_set ?_ GE459.out) | exact HB.out))))
             have n3_ := Aside0.mk (blk_below (g := gb459) (o := .cells #[.int .i64 t452, .slice Ao60 t453.length co60] 28 (0, 0)) (by (with_reducible repeat (first | refine blk_drewN ?_ _ | refine blk_drew ?_ | refine blk_alloc ?_ _)); exact BK459.out) hb)
             have n4_ := Aside0.mk (below_step (by repeat (first | (with_reducible first | exact HB.out | apply below_alloc | apply pw_below_drewN | apply below_drew1 | refine below_set ?_ GE459.out) | exact HB.out)) hb)
             clear HO455
             clear HO458
             clear BK459
             clear HB
             have HO455 := n0_
             have HO458 := n1_
             have HO462 := n2_
             have BK459 := n3_
             have HB := n4_
             clear n0_ n1_ n2_ n3_ n4_
             (try clear hb)
             (try clear hb2)
             (try clear hk)
             (try clear hi)
             (try clear ho0)
             obtain ⟨Ao64, co64, eo64⟩ := Kd.R_slice HO462.out
             (first | subst eo64 | (injection eo64 with f1_ f2_ f3_; have f4_ := f1_.symm; have f5_ := f3_.symm; clear f1_ f2_ f3_; subst f4_; subst f5_))
             refine hK.out _ _ ⟨(blk_cell BK459.out 0).trans rfl, (blk_cell BK459.out 1).trans rfl⟩ (fun hHeld => ?_)
             clear hK K
             refine norm_ (a' := ?_) ?_ ?_
             rotate_left
             ·show Act.put _ (some 38) _ = _
              simp only [Act.put, List.setIfInBounds_toArray, List.set_cons_zero, List.set_cons_succ, i64_w, i32_w]
              rfl
             refine one_ (i := 4) (N := some 39) #[true, true, true, true, true, false] rfl rfl (by kernel_rfl) (by decide) (fun K hK => ?_)
             refine goes_ Try.func21 (by kernel_rfl) rfl #[.agg #[.int .i64 t452, .slice Ao60 t453.length co60], .slice Ao64 t460.length co64] (by rfl) rfl rfl (by (try simp only [List.map_toArray, List.map_cons, List.map_nil]); first | done | rfl | (simp only [List.length_drop, List.length_take]; rfl)) ?_
             with_reducible refine (aig_Eval.calls kj6 t452 _ _ t453 _ _ t460 t463 _ ?side1 ?side2 ?side3 ?side4 A14.out).mono ?_
             (case side1 => repeat (first | exact (Kd.V_reads' HO455.out).2.2 | (with_reducible refine Kd.C_alloc ?_ _) | (with_reducible refine Kd.C_drewN ?_ _) | (with_reducible refine Kd.C_drew ?_)))
             (case side2 => exact (Kd.V_reads' HO455.out).2.1)
             (case side3 => repeat (first | exact (Kd.R_reads' HO462.out).2.2 | (with_reducible refine Kd.C_alloc ?_ _) | (with_reducible refine Kd.C_drewN ?_ _) | (with_reducible refine Kd.C_drew ?_)))
             (case side4 => exact (Kd.R_reads' HO462.out).2.1)
             rintro e w65 ⟨v464, rfl, ho0, hb⟩
             refine ⟨_, rfl, ?_⟩
             have n0_ := Aside0.mk (Kd.V_elder' (by (with_reducible repeat (first | apply Kd.V_alloc | apply Kd.V_drewN | apply Kd.V_drew)); exact HO455.out) (Kd.R_base ho0) hb)
             have n1_ := Aside0.mk (Kd.R_below (by (with_reducible repeat (first | apply Kd.R_alloc | apply Kd.R_drewN | apply Kd.R_drew)); exact HO458.out) hb)
             have n2_ := Aside0.mk (Kd.R_elder' (by (with_reducible repeat (first | apply Kd.R_alloc | apply Kd.R_drewN | apply Kd.R_drew)); exact HO462.out) (Kd.R_base ho0) hb)
             have n3_ := Aside0.mk (Kd.R_lower (Kd.R_new' ho0 (Kd.R_lt (by (with_reducible repeat (first | apply Kd.R_alloc | apply Kd.R_drewN | apply Kd.R_drew)); exact HO462.out))) (below_size (by repeat (first | (with_reducible first | exact HB.out | apply below_alloc | apply pw_below_drewN | apply below_drew1 | refine below_set ?_ GE459.out) | exact HB.out))))
             have n4_ := Aside0.mk (blk_below (g := gb459) (o := .cells #[.int .i64 t452, .slice Ao60 t453.length co60] 28 (0, 0)) (by (with_reducible repeat (first | refine blk_drewN ?_ _ | refine blk_drew ?_ | refine blk_alloc ?_ _)); exact BK459.out) hb)
             have n5_ := Aside0.mk (below_step (by repeat (first | (with_reducible first | exact HB.out | apply below_alloc | apply pw_below_drewN | apply below_drew1 | refine below_set ?_ GE459.out) | exact HB.out)) hb)
             clear HO455
             clear HO458
             clear HO462
             clear BK459
             clear HB
             have HO455 := n0_
             have HO458 := n1_
             have HO462 := n2_
             have HO465 := n3_
             have BK459 := n4_
             have HB := n5_
             clear n0_ n1_ n2_ n3_ n4_ n5_
             (try clear hb)
             (try clear hb2)
             (try clear hk)
             (try clear hi)
             (try clear ho0)
             refine hK.out _ _ ⟨(blk_cell BK459.out 0).trans rfl, (blk_cell BK459.out 1).trans rfl⟩ (fun hHeld => ?_)
             clear hK K
             refine norm_ (a' := ?_) ?_ ?_
             rotate_left
             ·show Act.put _ (some 39) _ = _
              simp only [Act.put, List.setIfInBounds_toArray, List.set_cons_zero, List.set_cons_succ, i64_w, i32_w]
              rfl
             refine pure_ (i := 5) (N := some 14) (v := ?_) (a' := ?_) #[true, true, true, true, true, true] rfl rfl (by kernel_rfl) (fun _ _ _ h => h) (Or.inl ⟨by rfl, ?_⟩) ?_ ?_
             rotate_left
             ·intro w'
              go_simp
              with_reducible rfl
             rotate_left
             ·simp only [Act.put, List.setIfInBounds_toArray, List.set_cons_zero, List.set_cons_succ, i64_w, i32_w]
              rfl
             refine done_ (by kernel_rfl) ?_
             have hcz66_0 : w65.cell? ⟨gb459, 0, none⟩ = some (.int .i64 t452) := (blk_cell BK459.out 0).trans rfl
             have hcz66_1 : w65.cell? ⟨gb459, 1, none⟩ = some (.slice Ao60 t453.length co60) := (blk_cell BK459.out 1).trans rfl
             have hfz66_0 := blk_frozen BK459.out 0
             have hfz66_1 := blk_frozen BK459.out 1
             obtain ⟨Ao67, co67, eo67⟩ := Kd.R_slice HO465.out
             subst eo67
             try go_wp2_with (first | ((with_reducible refine gate_dst (N := 63) rfl ?_); (try (refine gate_guard (by rfl) ?_; dsimp only)); refine Kd.R_lit Kd.bool _ 4 ?hg (N := 63) ?hd (xs := ([] : List Bool)) (inner := []) (ok := fun _ => True) (okp := fun _ => True) ?hr ?hp (fun _ hk => hk) trivial (Below.refl _ _) (Nat.le_refl _) (by simp) ?_; (case hd => rfl); (case hg => rfl); (case hr => first | (go_simp; done) | (go_simp; rfl)); (case hp => exact (Reps.none _ _)); intro v467 w68 ho69 hb hg_ hnew_; clear hg_ hnew_; (first | rw [← Ny466.out] at ho69 | (simp only [Int.reduceToNat] at ho69; rw [← Ny466.out] at ho69)); have n0_ := Aside0.mk (Kd.V_elder' (by (with_reducible repeat (first | apply Kd.V_alloc | apply Kd.V_drewN | apply Kd.V_drew)); exact HO455.out) (Kd.R_base ho69) hb); have n1_ := Aside0.mk (Kd.R_below (by (with_reducible repeat (first | apply Kd.R_alloc | apply Kd.R_drewN | apply Kd.R_drew)); exact HO458.out) hb); have n2_ := Aside0.mk (Kd.R_elder' (by (with_reducible repeat (first | apply Kd.R_alloc | apply Kd.R_drewN | apply Kd.R_drew)); exact HO462.out) (Kd.R_base ho69) hb); have n3_ := Aside0.mk (Kd.R_elder' (by (with_reducible repeat (first | apply Kd.R_alloc | apply Kd.R_drewN | apply Kd.R_drew)); exact HO465.out) (Kd.R_base ho69) hb); have n4_ := Aside0.mk (Kd.R_lower (Kd.R_new' (Kd.R_new' ho69 (Kd.R_lt (by (with_reducible repeat (first | apply Kd.R_alloc | apply Kd.R_drewN | apply Kd.R_drew)); exact HO462.out))) (Kd.R_lt (by (with_reducible repeat (first | apply Kd.R_alloc | apply Kd.R_drewN | apply Kd.R_drew)); exact HO465.out))) (below_size (by repeat (first | (with_reducible first | exact HB.out | apply below_alloc | apply pw_below_drewN | apply below_drew1 | refine below_set ?_ GE459.out) | exact HB.out)))); have n5_ := Aside0.mk (blk_below (g := gb459) (o := .cells #[.int .i64 t452, .slice Ao60 t453.length co60] 28 (0, 0)) (by (with_reducible repeat (first | refine blk_drewN ?_ _ | refine blk_drew ?_ | refine blk_alloc ?_ _)); exact BK459.out) hb); have n6_ := Aside0.mk (below_step (by repeat (first | (with_reducible first | exact HB.out | apply below_alloc | apply pw_below_drewN | apply below_drew1 | refine below_set ?_ GE459.out) | exact HB.out)) hb); clear HO455; clear HO458; clear HO462; clear HO465; clear BK459; clear HB; have HO455 := n0_; have HO458 := n1_; have HO462 := n2_; have HO465 := n3_; have HO468 := n4_; have BK459 := n5_; have HB := n6_; clear n0_ n1_ n2_ n3_ n4_ n5_ n6_; clear hb ho69) | ((with_reducible refine gate_builtin (b := .append) (xs := #[.tmp 63, .tmp 64]) rfl ?_); (try (refine gate_guard (by rfl) ?_; dsimp only)); at_builtin; refine Kd.R_append_rows Kd.bool (w0 := w) w.heap.size rfl (.tmp 63) (.tmp 64) 41 4 (.bool false) 1 rfl Try.underlying41 info4 rfl (by decide) (by omega) v467 y466 l4 _ _ _ (fun k_ => some k_ ≠ (.slice Ao64 t460.length co64 : Value).ownBlock ∧ some k_ ≠ (.slice Ao67 t463.length co67 : Value).ownBlock) (fun _ => False) rfl rfl ?aO ?aR (fun _ _ h => h) (fun _ h => h.elim) ?aF ?aB ?aS ?aL ?_; (case aR => repeat (first | exact (Kd.C_below HR4.out HB.out) | (with_reducible refine Kd.C_alloc ?_ _) | (with_reducible refine Kd.C_drewN ?_ _) | (with_reducible refine Kd.C_drew ?_))); (case aB => exact (by repeat (first | (with_reducible first | exact HB.out | apply below_alloc | apply pw_below_drewN | apply below_drew1 | refine below_set ?_ GE459.out) | exact HB.out))); (case aF => exact (fun k_ hk => ⟨Kd.fresh' (Kd.R_lt (by (with_reducible repeat (first | apply Kd.R_alloc | apply Kd.R_drewN | apply Kd.R_drew)); exact HO462.out)) k_ hk, Kd.fresh' (Kd.R_lt (by (with_reducible repeat (first | apply Kd.R_alloc | apply Kd.R_drewN | apply Kd.R_drew)); exact HO465.out)) k_ hk⟩)); (case aO => exact (by (with_reducible repeat (first | apply Kd.R_alloc | apply Kd.R_drewN | apply Kd.R_drew)); exact Kd.R_mono HO468.out (fun _ hk => ⟨hk.1.2, hk.2⟩))); (case aS => exact (below_size (by repeat (first | (with_reducible first | exact HB.out | apply below_alloc | apply pw_below_drewN | apply below_drew1 | refine below_set ?_ GE459.out) | exact HB.out)))); (case aL => have := LMc17.out; omega); intro v470 w70 ho hb hg hat; rw [← Ny469.out] at ho; have n0_ := Aside0.mk (Kd.V_afterv (ok := (fun k_ => some k_ ≠ (v457 : Value).ownBlock ∧ some k_ ≠ (.slice Ao64 t460.length co64 : Value).ownBlock ∧ some k_ ≠ (.slice Ao67 t463.length co67 : Value).ownBlock ∧ k_ ≠ gb459)) (by (with_reducible repeat (first | apply Kd.V_alloc | apply Kd.V_drewN | apply Kd.V_drew)); exact Kd.V_mono HO455.out (fun _ hk => ⟨⟨hk.1.1.1.1, ⟨hk.1.1.2, ⟨hk.1.2, hk.1.1.1.2⟩⟩⟩, hk.2⟩)) hg hat); have n1_ := Aside0.mk (Kd.R_over' (by (with_reducible repeat (first | apply Kd.R_alloc | apply Kd.R_drewN | apply Kd.R_drew)); exact HO458.out) (Kd.R_typed (by (with_reducible repeat (first | apply Kd.R_alloc | apply Kd.R_drewN | apply Kd.R_drew)); exact HO468.out)) (by decide) hg); have n2_ := Aside0.mk (blk_grown (g := gb459) (o := .cells #[.int .i64 t452, .slice Ao60 t453.length co60] 28 (0, 0)) (by (with_reducible repeat (first | refine blk_drewN ?_ _ | refine blk_drew ?_ | refine blk_alloc ?_ _)); exact BK459.out) hg (Kd.R_ne HO468.out BK459.out (by decide))); have n3_ := Aside0.mk (Kd.R_after (ok := (fun k_ => some k_ ≠ (.slice Ao67 t463.length co67 : Value).ownBlock)) (by (with_reducible repeat (first | apply Kd.R_alloc | apply Kd.R_drewN | apply Kd.R_drew)); exact Kd.R_mono HO462.out (fun _ hk => ⟨hk.1.2, hk.2⟩)) hg hat); have n4_ := Aside0.mk (Kd.R_after (ok := (fun k_ => some k_ ≠ (.slice Ao64 t460.length co64 : Value).ownBlock)) (by (with_reducible repeat (first | apply Kd.R_alloc | apply Kd.R_drewN | apply Kd.R_drew)); exact Kd.R_mono HO465.out (fun _ hk => ⟨hk.1.2, hk.2⟩)) hg hat); have n5_ := Aside0.mk (hb); have n6_ := Aside0.mk (ho); clear HO455; clear HO458; clear BK459; clear HO462; clear HO465; clear HB; clear HO468; have HO455 := n0_; have HO458 := n1_; have BK459 := n2_; have HO462 := n3_; have HO465 := n4_; have HB := n5_; have HO471 := n6_; clear n0_ n1_ n2_ n3_ n4_ n5_ n6_; clear ho hb hg hat) | ((with_reducible refine gate_builtin (b := .append) (xs := #[.tmp 65, .tmp 66]) rfl ?_); (try (refine gate_guard (by rfl) ?_; dsimp only)); at_builtin; refine Kd.R_append_rows Kd.bool (w0 := w) w.heap.size rfl (.tmp 65) (.tmp 66) 41 4 (.bool false) 1 rfl Try.underlying41 info4 rfl (by decide) (by omega) v470 y469 t463 _ _ _ (fun k_ => some k_ ≠ (.slice Ao64 t460.length co64 : Value).ownBlock ∧ some k_ ≠ (.slice Ao67 t463.length co67 : Value).ownBlock) (fun _ => False) rfl rfl ?aO ?aR (fun _ _ h => h) (fun _ h => h.elim) ?aF ?aB ?aS ?aL ?_; (case aR => repeat (first | exact (Kd.R_reads' HO465.out).2.2 | (with_reducible refine Kd.C_alloc ?_ _) | (with_reducible refine Kd.C_drewN ?_ _) | (with_reducible refine Kd.C_drew ?_))); (case aB => exact (by repeat (first | (with_reducible first | exact HB.out | apply below_alloc | apply pw_below_drewN | apply below_drew1 | refine below_set ?_ GE459.out) | exact HB.out))); (case aF => exact (fun k_ hk => ⟨Kd.fresh' (Kd.R_lt (by (with_reducible repeat (first | apply Kd.R_alloc | apply Kd.R_drewN | apply Kd.R_drew)); exact HO462.out)) k_ hk, Kd.fresh' (Kd.R_lt (by (with_reducible repeat (first | apply Kd.R_alloc | apply Kd.R_drewN | apply Kd.R_drew)); exact HO465.out)) k_ hk⟩)); (case aO => exact (by (with_reducible repeat (first | apply Kd.R_alloc | apply Kd.R_drewN | apply Kd.R_drew)); exact HO471.out)); (case aS => exact (below_size (by repeat (first | (with_reducible first | exact HB.out | apply below_alloc | apply pw_below_drewN | apply below_drew1 | refine below_set ?_ GE459.out) | exact HB.out)))); (case aL => have := LMc18.out; omega); intro v473 w71 ho hb hg hat; rw [← Ny472.out] at ho; have n0_ := Aside0.mk (Kd.V_afterv (ok := (fun k_ => some k_ ≠ (v457 : Value).ownBlock ∧ some k_ ≠ (.slice Ao64 t460.length co64 : Value).ownBlock ∧ some k_ ≠ (.slice Ao67 t463.length co67 : Value).ownBlock ∧ k_ ≠ gb459)) (by (with_reducible repeat (first | apply Kd.V_alloc | apply Kd.V_drewN | apply Kd.V_drew)); exact HO455.out) hg hat); have n1_ := Aside0.mk (Kd.R_over' (by (with_reducible repeat (first | apply Kd.R_alloc | apply Kd.R_drewN | apply Kd.R_drew)); exact HO458.out) (Kd.R_typed (by (with_reducible repeat (first | apply Kd.R_alloc | apply Kd.R_drewN | apply Kd.R_drew)); exact HO471.out)) (by decide) hg); have n2_ := Aside0.mk (blk_grown (g := gb459) (o := .cells #[.int .i64 t452, .slice Ao60 t453.length co60] 28 (0, 0)) (by (with_reducible repeat (first | refine blk_drewN ?_ _ | refine blk_drew ?_ | refine blk_alloc ?_ _)); exact BK459.out) hg (Kd.R_ne HO471.out BK459.out (by decide))); have n3_ := Aside0.mk (Kd.R_after (ok := (fun k_ => some k_ ≠ (.slice Ao67 t463.length co67 : Value).ownBlock)) (by (with_reducible repeat (first | apply Kd.R_alloc | apply Kd.R_drewN | apply Kd.R_drew)); exact HO462.out) hg hat); have n4_ := Aside0.mk (Kd.R_after (ok := (fun k_ => some k_ ≠ (.slice Ao64 t460.length co64 : Value).ownBlock)) (by (with_reducible repeat (first | apply Kd.R_alloc | apply Kd.R_drewN | apply Kd.R_drew)); exact HO465.out) hg hat); have n5_ := Aside0.mk (hb); have n6_ := Aside0.mk (ho); clear HO455; clear HO458; clear BK459; clear HO462; clear HO465; clear HB; clear HO471; have HO455 := n0_; have HO458 := n1_; have BK459 := n2_; have HO462 := n3_; have HO465 := n4_; have HB := n5_; have HO474 := n6_; clear n0_ n1_ n2_ n3_ n4_ n5_ n6_; clear ho hb hg hat; have hcz72_0 : w71.cell? ⟨gb459, 0, none⟩ = some (.int .i64 t452) := (blk_cell BK459.out 0).trans rfl; have hcz72_1 : w71.cell? ⟨gb459, 1, none⟩ = some (.slice Ao60 t453.length co60) := (blk_cell BK459.out 1).trans rfl; have hfz72_0 := blk_frozen BK459.out 0; have hfz72_1 := blk_frozen BK459.out 1) | ((with_reducible refine gate_callee (f := 18) rfl ?_); refine goesL_ (some 70) rfl rfl Try.func18 (by kernel_rfl) rfl #[.agg #[.int .i64 t452, .slice Ao60 t453.length co60], .int .i64 (l4.length : Int)] rfl (by (try simp only [List.map_toArray, List.map_cons, List.map_nil]); first | done | rfl | (simp only [List.length_drop, List.length_take]; rfl)) ?_; (with_reducible refine (cnf_Clauses.calls t452 _ _ t453 (l4.length : Int) t475 _ ?side1 ?side2 A19.out).mono ?_); (case side1 => repeat (first | exact (Kd.V_reads' HO455.out).2.2 | (with_reducible refine Kd.C_alloc ?_ _) | (with_reducible refine Kd.C_drewN ?_ _) | (with_reducible refine Kd.C_drew ?_))); (case side2 => exact (Kd.V_reads' HO455.out).2.1); rintro e w73 ⟨v476, rfl, ho0, hb⟩; refine ⟨_, rfl, ?_⟩; have n0_ := Aside0.mk (Kd.V_elder' (by (with_reducible repeat (first | apply Kd.V_alloc | apply Kd.V_drewN | apply Kd.V_drew)); exact HO455.out) (Kd.N_base ho0) hb); have n1_ := Aside0.mk (Kd.R_below (by (with_reducible repeat (first | apply Kd.R_alloc | apply Kd.R_drewN | apply Kd.R_drew)); exact HO458.out) hb); have n2_ := Aside0.mk (Kd.R_below (by (with_reducible repeat (first | apply Kd.R_alloc | apply Kd.R_drewN | apply Kd.R_drew)); exact HO462.out) hb); have n3_ := Aside0.mk (Kd.R_below (by (with_reducible repeat (first | apply Kd.R_alloc | apply Kd.R_drewN | apply Kd.R_drew)); exact HO465.out) hb); have n4_ := Aside0.mk (Kd.R_below (by (with_reducible repeat (first | apply Kd.R_alloc | apply Kd.R_drewN | apply Kd.R_drew)); exact HO474.out) hb); have n5_ := Aside0.mk (Kd.N_lower (Kd.N_mono (ok' := fun k_ => some k_ ≠ (v457 : Value).ownBlock ∧ some k_ ≠ (.slice Ao64 t460.length co64 : Value).ownBlock ∧ some k_ ≠ (.slice Ao67 t463.length co67 : Value).ownBlock ∧ some k_ ≠ (v473 : Value).ownBlock ∧ k_ ≠ gb459) ho0 (fun k_ hk_ => ⟨(Kd.fresh' (Kd.R_lt (by (with_reducible repeat (first | apply Kd.R_alloc | apply Kd.R_drewN | apply Kd.R_drew)); exact HO458.out)) k_ hk_), (Kd.fresh' (Kd.R_lt (by (with_reducible repeat (first | apply Kd.R_alloc | apply Kd.R_drewN | apply Kd.R_drew)); exact HO462.out)) k_ hk_), (Kd.fresh' (Kd.R_lt (by (with_reducible repeat (first | apply Kd.R_alloc | apply Kd.R_drewN | apply Kd.R_drew)); exact HO465.out)) k_ hk_), (Kd.fresh' (Kd.R_lt (by (with_reducible repeat (first | apply Kd.R_alloc | apply Kd.R_drewN | apply Kd.R_drew)); exact HO474.out)) k_ hk_), (Kd.freshB (g := gb459) (o := .cells #[.int .i64 t452, .slice Ao60 t453.length co60] 28 (0, 0)) (by (with_reducible repeat (first | refine blk_drewN ?_ _ | refine blk_drew ?_ | refine blk_alloc ?_ _)); exact BK459.out) k_ hk_)⟩)) (below_size (by repeat (first | (with_reducible first | exact HB.out | apply below_alloc | apply pw_below_drewN | apply below_drew1 | refine below_set ?_ GE459.out) | exact HB.out)))); have n6_ := Aside0.mk (blk_below (g := gb459) (o := .cells #[.int .i64 t452, .slice Ao60 t453.length co60] 28 (0, 0)) (by (with_reducible repeat (first | refine blk_drewN ?_ _ | refine blk_drew ?_ | refine blk_alloc ?_ _)); exact BK459.out) hb); have n7_ := Aside0.mk (below_step (by repeat (first | (with_reducible first | exact HB.out | apply below_alloc | apply pw_below_drewN | apply below_drew1 | refine below_set ?_ GE459.out) | exact HB.out)) hb); clear HO455; clear HO458; clear HO462; clear HO465; clear HO474; clear BK459; clear HB; have HO455 := n0_; have HO458 := n1_; have HO462 := n2_; have HO465 := n3_; have HO474 := n4_; have HO477 := n5_; have BK459 := n6_; have HB := n7_; clear n0_ n1_ n2_ n3_ n4_ n5_ n6_ n7_; (try clear hb); (try clear hb2); (try clear hk); (try clear hi); (try clear ho0); obtain ⟨Ao74, co74, eo74⟩ := Kd.R_slice HO474.out; subst eo74; obtain ⟨Ao75, co75, eo75⟩ := Kd.N_slice HO477.out; subst eo75) | ((with_reducible refine gate_callee (f := 20) rfl ?_); refine goesL_ (some 75) rfl rfl Try.func20 (by kernel_rfl) rfl #[.slice Ao75 t475.length co75, .int .i64 (l4.length : Int), .int .i64 (y472.length : Int)] rfl (by (try simp only [List.map_toArray, List.map_cons, List.map_nil]); first | done | rfl | (simp only [List.length_drop, List.length_take]; rfl)) ?_; (with_reducible refine (proofmarklaw17_within.calls kj6 _ _ t475 (l4.length : Int) (y472.length : Int) true _ ?side1 ?side2 A20.out).mono ?_); (case side1 => repeat (first | exact (Kd.N_reads' HO477.out).2.2 | (with_reducible refine Kd.C_alloc ?_ _) | (with_reducible refine Kd.C_drewN ?_ _) | (with_reducible refine Kd.C_drew ?_))); (case side2 => exact (Kd.N_reads' HO477.out).2.1); rintro e w76 ⟨rfl, hb⟩; refine ⟨_, rfl, ?_⟩; have n0_ := Aside0.mk (Kd.V_below (by (with_reducible repeat (first | apply Kd.V_alloc | apply Kd.V_drewN | apply Kd.V_drew)); exact HO455.out) hb); have n1_ := Aside0.mk (Kd.R_below (by (with_reducible repeat (first | apply Kd.R_alloc | apply Kd.R_drewN | apply Kd.R_drew)); exact HO458.out) hb); have n2_ := Aside0.mk (Kd.R_below (by (with_reducible repeat (first | apply Kd.R_alloc | apply Kd.R_drewN | apply Kd.R_drew)); exact HO462.out) hb); have n3_ := Aside0.mk (Kd.R_below (by (with_reducible repeat (first | apply Kd.R_alloc | apply Kd.R_drewN | apply Kd.R_drew)); exact HO465.out) hb); have n4_ := Aside0.mk (Kd.R_below (by (with_reducible repeat (first | apply Kd.R_alloc | apply Kd.R_drewN | apply Kd.R_drew)); exact HO474.out) hb); have n5_ := Aside0.mk (Kd.N_below (by (with_reducible repeat (first | apply Kd.N_alloc | apply Kd.N_drewN | apply Kd.N_drew)); exact HO477.out) hb); have n6_ := Aside0.mk (blk_below (g := gb459) (o := .cells #[.int .i64 t452, .slice Ao60 t453.length co60] 28 (0, 0)) (by (with_reducible repeat (first | refine blk_drewN ?_ _ | refine blk_drew ?_ | refine blk_alloc ?_ _)); exact BK459.out) hb); have n7_ := Aside0.mk (below_step (by repeat (first | (with_reducible first | exact HB.out | apply below_alloc | apply pw_below_drewN | apply below_drew1 | refine below_set ?_ GE459.out) | exact HB.out)) hb); clear HO455; clear HO458; clear HO462; clear HO465; clear HO474; clear HO477; clear BK459; clear HB; have HO455 := n0_; have HO458 := n1_; have HO462 := n2_; have HO465 := n3_; have HO474 := n4_; have HO477 := n5_; have BK459 := n6_; have HB := n7_; clear n0_ n1_ n2_ n3_ n4_ n5_ n6_ n7_; (try clear hb); (try clear hb2); (try clear hk); (try clear hi)) | ((with_reducible refine gate_callee (f := 15) rfl ?_); refine goesL_ (some 79) rfl rfl Try.func15 (by kernel_rfl) rfl #[.int .i64 (Int.tmod (wrap64 (a3)) (wrap64 (2 * (wrap64 ((wrap64 (1 + t452)) + (t453.length : Int)))))), .int .i64 (l4.length : Int)] rfl (by (try simp only [List.map_toArray, List.map_cons, List.map_nil]); first | done | rfl | (simp only [List.length_drop, List.length_take]; rfl)) ?_; (with_reducible refine (cnf_Of.calls (Int.tmod (wrap64 (a3)) (wrap64 (2 * (wrap64 ((wrap64 (1 + t452)) + (t453.length : Int)))))) (l4.length : Int) t479 _ A22.out).mono ?_); rintro e w' ⟨rfl, ⟨nd, rfl⟩⟩; refine ⟨_, rfl, ?_⟩) | ((with_reducible refine gate_dst (N := 100) rfl ?_); (try (refine gate_guard (by rfl) ?_; dsimp only)); refine Kd.R_lit (Kd.int .i64) _ 3 ?hg (N := 100) ?hd (xs := ([t479] : List Int)) (inner := [.int .i64 t479]) (ok := fun _ => True) (okp := fun _ => True) ?hr ?hp (fun _ hk => hk) trivial (Below.refl _ _) (Nat.le_refl _) (by simp) ?_; (case hd => rfl); (case hg => rfl); (case hr => first | (go_simp; done) | (go_simp; rfl)); (case hp => exact (Reps.one (show Kd.M (Kd.int .i64) _ _ _ t479 [.int .i64 t479] from rfl) (Reps.none _ _))); intro v481 w77 ho78 hb hg_ hnew_; clear hg_ hnew_; (first | rw [← Ny480.out] at ho78 | (simp only [Int.reduceToNat] at ho78; rw [← Ny480.out] at ho78)); have n0_ := Aside0.mk (Kd.V_elder' (by (with_reducible repeat (first | apply Kd.V_alloc | apply Kd.V_drewN | apply Kd.V_drew)); exact HO455.out) (Kd.R_base ho78) hb); have n1_ := Aside0.mk (Kd.R_elder' (by (with_reducible repeat (first | apply Kd.R_alloc | apply Kd.R_drewN | apply Kd.R_drew)); exact HO458.out) (Kd.R_base ho78) hb); have n2_ := Aside0.mk (Kd.R_below (by (with_reducible repeat (first | apply Kd.R_alloc | apply Kd.R_drewN | apply Kd.R_drew)); exact HO462.out) hb); have n3_ := Aside0.mk (Kd.R_below (by (with_reducible repeat (first | apply Kd.R_alloc | apply Kd.R_drewN | apply Kd.R_drew)); exact HO465.out) hb); have n4_ := Aside0.mk (Kd.R_below (by (with_reducible repeat (first | apply Kd.R_alloc | apply Kd.R_drewN | apply Kd.R_drew)); exact HO474.out) hb); have n5_ := Aside0.mk (Kd.N_elder' (by (with_reducible repeat (first | apply Kd.N_alloc | apply Kd.N_drewN | apply Kd.N_drew)); exact HO477.out) (Kd.R_base ho78) hb); have n6_ := Aside0.mk (Kd.R_lower (Kd.R_new' ho78 (Kd.R_lt (by (with_reducible repeat (first | apply Kd.R_alloc | apply Kd.R_drewN | apply Kd.R_drew)); exact HO458.out))) (below_size (by repeat (first | (with_reducible first | exact HB.out | apply below_alloc | apply pw_below_drewN | apply below_drew1 | refine below_set ?_ GE459.out) | exact HB.out)))); have n7_ := Aside0.mk (blk_below (g := gb459) (o := .cells #[.int .i64 t452, .slice Ao60 t453.length co60] 28 (0, 0)) (by (with_reducible repeat (first | refine blk_drewN ?_ _ | refine blk_drew ?_ | refine blk_alloc ?_ _)); exact BK459.out) hb); have n8_ := Aside0.mk (below_step (by repeat (first | (with_reducible first | exact HB.out | apply below_alloc | apply pw_below_drewN | apply below_drew1 | refine below_set ?_ GE459.out) | exact HB.out)) hb); clear HO455; clear HO458; clear HO462; clear HO465; clear HO474; clear HO477; clear BK459; clear HB; have HO455 := n0_; have HO458 := n1_; have HO462 := n2_; have HO465 := n3_; have HO474 := n4_; have HO477 := n5_; have HO482 := n6_; have BK459 := n7_; have HB := n8_; clear n0_ n1_ n2_ n3_ n4_ n5_ n6_ n7_ n8_; clear hb ho78; obtain ⟨Ao79, co79, eo79⟩ := Kd.R_slice HO482.out; subst eo79) | ((with_reducible refine gate_dst (N := 101) rfl ?_); (try (refine gate_guard (by rfl) ?_; dsimp only)); refine Kd.N_lit (Kd.slice 3 (Kd.int .i64)) _ 29 ?hg (N' := 101) ?hd (xs := ([y480] : List (List Int))) (inner := [.slice Ao79 y480.length co79]) (ok := (fun k_ => some k_ ≠ (v457 : Value).ownBlock ∧ some k_ ≠ (.slice Ao64 t460.length co64 : Value).ownBlock ∧ some k_ ≠ (.slice Ao67 t463.length co67 : Value).ownBlock ∧ some k_ ≠ (.slice Ao74 y472.length co74 : Value).ownBlock ∧ some k_ ≠ (.slice Ao75 t475.length co75 : Value).ownBlock ∧ k_ ≠ gb459)) (okp := (fun k_ => some k_ ≠ (v457 : Value).ownBlock ∧ some k_ ≠ (.slice Ao64 t460.length co64 : Value).ownBlock ∧ some k_ ≠ (.slice Ao67 t463.length co67 : Value).ownBlock ∧ some k_ ≠ (.slice Ao74 y472.length co74 : Value).ownBlock ∧ some k_ ≠ (.slice Ao75 t475.length co75 : Value).ownBlock ∧ k_ ≠ gb459)) ?hr ?hp (fun _ hk => hk) ((show ∀ k_, w77.heap.size ≤ k_ → (fun k_ => some k_ ≠ (v457 : Value).ownBlock ∧ some k_ ≠ (.slice Ao64 t460.length co64 : Value).ownBlock ∧ some k_ ≠ (.slice Ao67 t463.length co67 : Value).ownBlock ∧ some k_ ≠ (.slice Ao74 y472.length co74 : Value).ownBlock ∧ some k_ ≠ (.slice Ao75 t475.length co75 : Value).ownBlock ∧ k_ ≠ gb459) k_ from fun k_ hk => ⟨Kd.fresh' (Kd.R_lt (by (with_reducible repeat (first | apply Kd.R_alloc | apply Kd.R_drewN | apply Kd.R_drew)); exact HO458.out)) k_ hk, Kd.fresh' (Kd.R_lt (by (with_reducible repeat (first | apply Kd.R_alloc | apply Kd.R_drewN | apply Kd.R_drew)); exact HO462.out)) k_ hk, Kd.fresh' (Kd.R_lt (by (with_reducible repeat (first | apply Kd.R_alloc | apply Kd.R_drewN | apply Kd.R_drew)); exact HO465.out)) k_ hk, Kd.fresh' (Kd.R_lt (by (with_reducible repeat (first | apply Kd.R_alloc | apply Kd.R_drewN | apply Kd.R_drew)); exact HO474.out)) k_ hk, Kd.fresh' (Kd.N_lt (by (with_reducible repeat (first | apply Kd.N_alloc | apply Kd.N_drewN | apply Kd.N_drew)); exact HO477.out)) k_ hk, Kd.freshB (g := gb459) (o := .cells #[.int .i64 t452, .slice Ao60 t453.length co60] 28 (0, 0)) (by (with_reducible repeat (first | refine blk_drewN ?_ _ | refine blk_drew ?_ | refine blk_alloc ?_ _)); exact BK459.out) k_ hk⟩) _ (Nat.le_refl _)) (Below.refl _ _) (Nat.le_refl _) (by simp) ?_; (case hd => rfl); (case hg => rfl); (case hr => first | (go_simp; done) | (go_simp; rfl)); (case hp => exact (Reps.one (show Kd.FK (Kd.slice 3 (Kd.int .i64)) _ _ y480 [.slice Ao79 y480.length co79] from (Kd.FK_slice_mk (Kd.R_reads' (Kd.R_mono (ok' := (fun k_ => some k_ ≠ (v457 : Value).ownBlock ∧ some k_ ≠ (.slice Ao64 t460.length co64 : Value).ownBlock ∧ some k_ ≠ (.slice Ao67 t463.length co67 : Value).ownBlock ∧ some k_ ≠ (.slice Ao74 y472.length co74 : Value).ownBlock ∧ some k_ ≠ (.slice Ao75 t475.length co75 : Value).ownBlock ∧ k_ ≠ gb459)) (Kd.R_types (Kd.R_apart' (Kd.R_apart' (Kd.R_apart' (Kd.R_apart' (HO482.out) (Kd.R_typed HO462.out) (by decide)) (Kd.R_typed HO465.out) (by decide)) (Kd.R_typed HO474.out) (by decide)) (Kd.N_typed HO477.out) (by decide)) BK459.out (by decide)) (fun k_ hk => ⟨hk.1.1.1.1.1.2, ⟨hk.1.1.1.1.2, ⟨hk.1.1.1.2, ⟨hk.1.1.2, ⟨hk.1.2, hk.2⟩⟩⟩⟩⟩))).2.1 (Kd.R_F (Kd.R_mono (ok' := (fun k_ => some k_ ≠ (v457 : Value).ownBlock ∧ some k_ ≠ (.slice Ao64 t460.length co64 : Value).ownBlock ∧ some k_ ≠ (.slice Ao67 t463.length co67 : Value).ownBlock ∧ some k_ ≠ (.slice Ao74 y472.length co74 : Value).ownBlock ∧ some k_ ≠ (.slice Ao75 t475.length co75 : Value).ownBlock ∧ k_ ≠ gb459)) (Kd.R_types (Kd.R_apart' (Kd.R_apart' (Kd.R_apart' (Kd.R_apart' (HO482.out) (Kd.R_typed HO462.out) (by decide)) (Kd.R_typed HO465.out) (by decide)) (Kd.R_typed HO474.out) (by decide)) (Kd.N_typed HO477.out) (by decide)) BK459.out (by decide)) (fun k_ hk => ⟨hk.1.1.1.1.1.2, ⟨hk.1.1.1.1.2, ⟨hk.1.1.1.2, ⟨hk.1.1.2, ⟨hk.1.2, hk.2⟩⟩⟩⟩⟩))))) (Reps.none _ _))); intro v484 w80 ho81 hb hg_ hnew_; clear hg_ hnew_; (first | rw [← Ny483.out] at ho81 | (simp only [Int.reduceToNat] at ho81; rw [← Ny483.out] at ho81)); have n0_ := Aside0.mk (Kd.V_elder' (by (with_reducible repeat (first | apply Kd.V_alloc | apply Kd.V_drewN | apply Kd.V_drew)); exact HO455.out) (Kd.N_base ho81) hb); have n1_ := Aside0.mk (Kd.R_below (by (with_reducible repeat (first | apply Kd.R_alloc | apply Kd.R_drewN | apply Kd.R_drew)); exact HO458.out) hb); have n2_ := Aside0.mk (Kd.R_below (by (with_reducible repeat (first | apply Kd.R_alloc | apply Kd.R_drewN | apply Kd.R_drew)); exact HO462.out) hb); have n3_ := Aside0.mk (Kd.R_below (by (with_reducible repeat (first | apply Kd.R_alloc | apply Kd.R_drewN | apply Kd.R_drew)); exact HO465.out) hb); have n4_ := Aside0.mk (Kd.R_below (by (with_reducible repeat (first | apply Kd.R_alloc | apply Kd.R_drewN | apply Kd.R_drew)); exact HO474.out) hb); have n5_ := Aside0.mk (Kd.N_elder' (by (with_reducible repeat (first | apply Kd.N_alloc | apply Kd.N_drewN | apply Kd.N_drew)); exact HO477.out) (Kd.N_base ho81) hb); have n6_ := Aside0.mk (Kd.N_lower ho81 (below_size (by repeat (first | (with_reducible first | exact HB.out | apply below_alloc | apply pw_below_drewN | apply below_drew1 | refine below_set ?_ GE459.out) | exact HB.out)))); have n7_ := Aside0.mk (blk_below (g := gb459) (o := .cells #[.int .i64 t452, .slice Ao60 t453.length co60] 28 (0, 0)) (by (with_reducible repeat (first | refine blk_drewN ?_ _ | refine blk_drew ?_ | refine blk_alloc ?_ _)); exact BK459.out) hb); have n8_ := Aside0.mk (below_step (by repeat (first | (with_reducible first | exact HB.out | apply below_alloc | apply pw_below_drewN | apply below_drew1 | refine below_set ?_ GE459.out) | exact HB.out)) hb); clear HO455; clear HO458; clear HO462; clear HO465; clear HO474; clear HO477; clear BK459; clear HB; clear HO482; have HO455 := n0_; have HO458 := n1_; have HO462 := n2_; have HO465 := n3_; have HO474 := n4_; have HO477 := n5_; have HO485 := n6_; have BK459 := n7_; have HB := n8_; clear n0_ n1_ n2_ n3_ n4_ n5_ n6_ n7_ n8_; clear hb ho81; obtain ⟨Ao82, co82, eo82⟩ := Kd.N_slice HO485.out; subst eo82) | (go_at_call 23; (with_reducible refine (proofmarkref17_Met.calls kj6 _ _ y483 _ _ y472 t486 _ ?side1 ?side2 ?side3 ?side4 A27.out).mono ?_); (case side1 => repeat (first | exact (Kd.N_reads' HO485.out).2.2 | (with_reducible refine Kd.C_alloc ?_ _) | (with_reducible refine Kd.C_drewN ?_ _) | (with_reducible refine Kd.C_drew ?_))); (case side2 => exact (Kd.N_reads' HO485.out).2.1); (case side3 => repeat (first | exact (Kd.R_reads' HO474.out).2.2 | (with_reducible refine Kd.C_alloc ?_ _) | (with_reducible refine Kd.C_drewN ?_ _) | (with_reducible refine Kd.C_drew ?_))); (case side4 => exact (Kd.R_reads' HO474.out).2.1); rintro e w' ⟨rfl, ⟨nd, rfl⟩⟩) | (go_at_call 24; (with_reducible refine (aig_Lit.calls _ _ t463 (Int.tmod (wrap64 (a3)) (wrap64 (2 * (wrap64 ((wrap64 (1 + t452)) + (t453.length : Int)))))) t487 _ ?side1 ?side2 A28.out).mono ?_); (case side1 => repeat (first | exact (Kd.R_reads' HO465.out).2.2 | (with_reducible refine Kd.C_alloc ?_ _) | (with_reducible refine Kd.C_drewN ?_ _) | (with_reducible refine Kd.C_drew ?_))); (case side2 => exact (Kd.R_reads' HO465.out).2.1); rintro e w' ⟨rfl, ⟨nd, rfl⟩⟩))
             go_ret
             exact ⟨by first | rfl | (simp [errW_none, errW_some] <;> rfl) | (simp only [← hji24]; first | rfl | (simp [errW_none, errW_some] <;> rfl)) | (simp [*, errW_none, errW_some] <;> rfl), by repeat (first | (with_reducible first | exact HB.out | apply below_alloc | apply pw_below_drewN | apply below_drew1 | refine below_set ?_ GE459.out) | exact HB.out)⟩
           ·rw [if_neg c26] at H
            have c26b0 : decide ((ji24) ≤ (y472.length : Int)) = false := decide_eq_false c26
            clear c26
            obtain rfl := Option.some.inj H
            try go_wp2_with (first | ((with_reducible refine gate_callee (f := 12) rfl ?_); refine goesL_ (some 32) rfl rfl Try.func12 (by kernel_rfl) rfl #[.int .u8 a0, .slice A1 l1.length c1] rfl (by (try simp only [List.map_toArray, List.map_cons, List.map_nil]); first | done | rfl | (simp only [List.length_drop, List.length_take]; rfl)) ?_; (with_reducible refine (proofmarklaw13_Made.calls kj6 a0 _ _ l1 t452 t453 t456 _ ?side1 ?side2 A12.out).mono ?_); (case side1 => repeat (first | exact (Kd.C_below HR1.out HB.out) | (with_reducible refine Kd.C_alloc ?_ _) | (with_reducible refine Kd.C_drewN ?_ _) | (with_reducible refine Kd.C_drew ?_))); (case side2 => exact HC1.out); rintro e w83 ⟨v454, v457, rfl, ho0, ho1, hb⟩; refine ⟨_, rfl, ?_⟩; have n0_ := Aside0.mk (Kd.V_lower (Kd.V_mono (ok' := fun k_ => some k_ ≠ (v457 : Value).ownBlock) ho0 (fun k_ hk_ => hk_.2)) (below_size (by repeat (first | (with_reducible first | exact HB.out | apply below_alloc | apply pw_below_drewN | apply below_drew1) | exact HB.out)))); have n1_ := Aside0.mk (Kd.R_lower (Kd.R_mono (ok' := fun k_ => True) ho1 (fun _ hk_ => trivial)) (below_size (by repeat (first | (with_reducible first | exact HB.out | apply below_alloc | apply pw_below_drewN | apply below_drew1) | exact HB.out)))); have n2_ := Aside0.mk (below_step (by repeat (first | (with_reducible first | exact HB.out | apply below_alloc | apply pw_below_drewN | apply below_drew1) | exact HB.out)) hb); clear HB; have HO455 := n0_; have HO458 := n1_; have HB := n2_; clear n0_ n1_ n2_; (try clear hb); (try clear hb2); (try clear hk); (try clear hi); (try clear ho0); (try clear ho1)) | ((with_reducible refine gate_dst (N := 12) rfl ?_); (try (refine gate_guard (by rfl) ?_; dsimp only)); refine box_event ?hg (N := 12) ?hd (cs := #[.int .i64 0, .slice none 0 0]) (t := 28) ?hr ?_; (case hd => rfl); (case hg => rfl); (case hr => first | (go_simp; done) | (go_simp; rfl)); intro gb459 hg w84 hbox hb; have n0_ := Aside0.mk (Kd.V_below (Kd.V_elderB (by (with_reducible repeat (first | apply Kd.V_alloc | apply Kd.V_drewN | apply Kd.V_drew)); exact HO455.out) gb459 (Nat.le_of_eq hg.symm)) hb); have n1_ := Aside0.mk (Kd.R_below (by (with_reducible repeat (first | apply Kd.R_alloc | apply Kd.R_drewN | apply Kd.R_drew)); exact HO458.out) hb); have n2_ := Aside0.mk (below_step (by repeat (first | (with_reducible first | exact HB.out | apply below_alloc | apply pw_below_drewN | apply below_drew1) | exact HB.out)) hb); have n3_ := Aside0.mk (hbox); have n4_ := Aside0.mk ((by rw [hg]; exact (below_size (by repeat (first | (with_reducible first | exact HB.out | apply below_alloc | apply pw_below_drewN | apply below_drew1) | exact HB.out))) : w.heap.size ≤ gb459)); have n5_ := Aside0.mk ((by rw [hg]; exact (below_size (by repeat (first | (with_reducible first | exact HB.out | apply below_alloc | apply pw_below_drewN | apply below_drew1) | exact HB.out))) : w.heap.size ≤ gb459)); clear HO455; clear HO458; clear HB; have HO455 := n0_; have HO458 := n1_; have HB := n2_; have BK459 := n3_; have GW459 := n4_; have GE459 := n5_; clear n0_ n1_ n2_ n3_ n4_ n5_; clear hb hbox hg; have hcz85_0 : w84.cell? ⟨gb459, 0, none⟩ = some (.int .i64 0) := (blk_cell BK459.out 0).trans rfl; have hcz85_1 : w84.cell? ⟨gb459, 1, none⟩ = some (.slice none 0 0) := (blk_cell BK459.out 1).trans rfl; have hfz85_0 := blk_frozen BK459.out 0; have hfz85_1 := blk_frozen BK459.out 1; obtain ⟨Ao86, co86, eo86⟩ := Kd.V_slice HO455.out; subst eo86))
            have n0_ : Aside0 (Kd.V k49 49 ((w84.setCell ⟨gb459, 0, none⟩ (.int .i64 t452)).setCell ⟨gb459, 1, none⟩ (.slice Ao86 t453.length co86)) w.heap.size (fun k_ => some k_ ≠ (v457 : Value).ownBlock ∧ k_ ≠ gb459) (.slice Ao86 t453.length co86) t453) := ⟨by (with_reducible repeat (first | apply Kd.V_alloc | apply Kd.V_drewN | apply Kd.V_drew)); exact Kd.V_mono (Kd.V_far (p := ⟨gb459, 1, none⟩) (Kd.V_far (p := ⟨gb459, 0, none⟩) (Kd.V_mono HO455.out (fun k_ hk => (⟨hk, hk.2⟩ : _ ∧ k_ ≠ gb459))) (fun _ hk => hk.2) (.int .i64 t452)) (fun _ hk => hk.2) (.slice Ao86 t453.length co86)) (fun _ hk => ⟨hk.1.1, hk.1.2⟩)⟩
            have n1_ : Aside0 (Kd.R (Kd.int .i64) 3 ((w84.setCell ⟨gb459, 0, none⟩ (.int .i64 t452)).setCell ⟨gb459, 1, none⟩ (.slice Ao86 t453.length co86)) w.heap.size (fun _ => True) v457 t456) := ⟨by (with_reducible repeat (first | apply Kd.R_alloc | apply Kd.R_drewN | apply Kd.R_drew)); exact Kd.R_mono (Kd.R_far (p := ⟨gb459, 1, none⟩) (Kd.R_far (p := ⟨gb459, 0, none⟩) (Kd.R_types HO458.out BK459.out (by decide)) (fun _ hk => hk.2) (.int .i64 t452)) (fun _ hk => hk.2) (.slice Ao86 t453.length co86)) (fun _ hk => trivial)⟩
            have n2_ : Aside0 (((w84.setCell ⟨gb459, 0, none⟩ (.int .i64 t452)).setCell ⟨gb459, 1, none⟩ (.slice Ao86 t453.length co86)).heap[gb459]? = some (.cells #[.int .i64 t452, .slice Ao86 t453.length co86] 28 (0, 0))) := ⟨by (with_reducible repeat (first | refine blk_drewN ?_ _ | refine blk_drew ?_ | refine blk_alloc ?_ _)); refine blk_put (cs := #[.int .i64 t452, .slice none 0 0]) ?_ 1 _ rfl; (with_reducible repeat (first | refine blk_drewN ?_ _ | refine blk_drew ?_ | refine blk_alloc ?_ _)); refine blk_put (cs := #[.int .i64 0, .slice none 0 0]) ?_ 0 _ rfl; (with_reducible repeat (first | refine blk_drewN ?_ _ | refine blk_drew ?_ | refine blk_alloc ?_ _)); exact BK459.out⟩
            have n3_ : Aside0 (Below w.heap.size w ((w84.setCell ⟨gb459, 0, none⟩ (.int .i64 t452)).setCell ⟨gb459, 1, none⟩ (.slice Ao86 t453.length co86))) := ⟨by repeat (first | (with_reducible first | exact HB.out | apply below_alloc | apply pw_below_drewN | apply below_drew1 | refine below_set ?_ GE459.out) | exact HB.out)⟩
            (try clear HO455)
            (try clear HO458)
            (try clear BK459)
            (try clear HB)
            generalize ((w84.setCell ⟨gb459, 0, none⟩ (.int .i64 t452)).setCell ⟨gb459, 1, none⟩ (.slice Ao86 t453.length co86)) = w87 at n0_ n1_ n2_ n3_ ⊢
            have HO455 := n0_
            have HO458 := n1_
            have BK459 := n2_
            have HB := n3_
            clear n0_ n1_ n2_ n3_
            have n0_ := Aside0.mk (Kd.V_drew HO455.out)
            have n1_ := Aside0.mk (Kd.R_drew HO458.out)
            have n2_ := Aside0.mk (blk_drew BK459.out)
            have n3_ := Aside0.mk (below_drew1 HB.out)
            clear HO455
            clear HO458
            clear BK459
            clear HB
            have HO455 := n0_
            have HO458 := n1_
            have BK459 := n2_
            have HB := n3_
            clear n0_ n1_ n2_ n3_
            refine start_ (n := 6) (S := fun w' => w'.cell? ⟨gb459, 0, none⟩ = some (.int .i64 t452) ∧ w'.cell? ⟨gb459, 1, none⟩ = some (.slice Ao86 t453.length co86)) (ds := []) #[false, false, false, false, false, false] (by kernel_rfl) rfl rfl ⟨(blk_cell BK459.out 0).trans rfl, (blk_cell BK459.out 1).trans rfl⟩ (fun hHeld => ?_)
            generalize w87.drew = w88 at HO455 HO458 BK459 HB hHeld ⊢
            refine pure_ (i := 2) (N := some 37) (v := ?_) (a' := ?_) #[false, false, true, false, false, false] rfl rfl (by kernel_rfl) (fun _ _ _ h => h) (Or.inl ⟨by rfl, ?_⟩) ?_ ?_
            rotate_left
            ·intro w'
             go_simp
             with_reducible rfl
            rotate_left
            ·simp only [Act.put, List.setIfInBounds_toArray, List.set_cons_zero, List.set_cons_succ, i64_w, i32_w]
             rfl
            refine take_ (i := 0) (N := some 35) (v := ?_) (a' := ?_) #[true, false, true, false, false, false] rfl rfl (by kernel_rfl) (fun _ _ _ h => h) (Or.inl ⟨by rfl, ?_⟩) hHeld ?_ ?_
            rotate_left
            ·rintro w' ⟨s0, s1⟩
             go_simp
             with_reducible rfl
            rotate_left
            ·simp only [Act.put, List.setIfInBounds_toArray, List.set_cons_zero, List.set_cons_succ, i64_w, i32_w]
             rfl
            refine take_ (i := 1) (N := some 36) (v := ?_) (a' := ?_) #[true, true, true, false, false, false] rfl rfl (by kernel_rfl) (fun _ _ _ h => h) (Or.inl ⟨by rfl, ?_⟩) hHeld ?_ ?_
            rotate_left
            ·rintro w' ⟨s0, s1⟩
             go_simp
             with_reducible rfl
            rotate_left
            ·simp only [Act.put, List.setIfInBounds_toArray, List.set_cons_zero, List.set_cons_succ, i64_w, i32_w]
             rfl
            refine one_ (i := 3) (N := some 38) #[true, true, true, true, false, false] rfl rfl (by kernel_rfl) (by decide) (fun K hK => ?_)
            refine goes_ Try.func22 (by kernel_rfl) rfl #[.agg #[.int .i64 t452, .slice Ao86 t453.length co86], .slice A2 l2.length c2] (by rfl) rfl rfl (by (try simp only [List.map_toArray, List.map_cons, List.map_nil]); first | done | rfl | (simp only [List.length_drop, List.length_take]; rfl)) ?_
            with_reducible refine (proofmarklaw13_Bits.calls kj6 t452 _ _ t453 _ _ l2 t460 _ ?side1 ?side2 ?side3 ?side4 A13.out).mono ?_
            (case side1 => repeat (first | exact (Kd.V_reads' HO455.out).2.2 | (with_reducible refine Kd.C_alloc ?_ _) | (with_reducible refine Kd.C_drewN ?_ _) | (with_reducible refine Kd.C_drew ?_)))
            (case side2 => exact (Kd.V_reads' HO455.out).2.1)
            (case side3 => repeat (first | exact (Kd.C_below HR2.out HB.out) | (with_reducible refine Kd.C_alloc ?_ _) | (with_reducible refine Kd.C_drewN ?_ _) | (with_reducible refine Kd.C_drew ?_)))
            (case side4 => exact HC2.out)
            rintro e w89 ⟨v461, rfl, ho0, hb⟩
            refine ⟨_, rfl, ?_⟩
            have n0_ := Aside0.mk (Kd.V_elder' (by (with_reducible repeat (first | apply Kd.V_alloc | apply Kd.V_drewN | apply Kd.V_drew)); exact HO455.out) (Kd.R_base ho0) hb)
            have n1_ := Aside0.mk (Kd.R_below (by (with_reducible repeat (first | apply Kd.R_alloc | apply Kd.R_drewN | apply Kd.R_drew)); exact HO458.out) hb)
            have n2_ := Aside0.mk (Kd.R_lower ho0 (below_size (by repeat (first | (with_reducible first | exact HB.out | apply below_alloc | apply pw_below_drewN | apply below_drew1 | refine below_set ?_ GE459.out) | exact HB.out))))
            have n3_ := Aside0.mk (blk_below (g := gb459) (o := .cells #[.int .i64 t452, .slice Ao86 t453.length co86] 28 (0, 0)) (by (with_reducible repeat (first | refine blk_drewN ?_ _ | refine blk_drew ?_ | refine blk_alloc ?_ _)); exact BK459.out) hb)
            have n4_ := Aside0.mk (below_step (by repeat (first | (with_reducible first | exact HB.out | apply below_alloc | apply pw_below_drewN | apply below_drew1 | refine below_set ?_ GE459.out) | exact HB.out)) hb)
            clear HO455
            clear HO458
            clear BK459
            clear HB
            have HO455 := n0_
            have HO458 := n1_
            have HO462 := n2_
            have BK459 := n3_
            have HB := n4_
            clear n0_ n1_ n2_ n3_ n4_
            (try clear hb)
            (try clear hb2)
            (try clear hk)
            (try clear hi)
            (try clear ho0)
            obtain ⟨Ao90, co90, eo90⟩ := Kd.R_slice HO462.out
            (first | subst eo90 | (injection eo90 with f1_ f2_ f3_; have f4_ := f1_.symm; have f5_ := f3_.symm; clear f1_ f2_ f3_; subst f4_; subst f5_))
            refine hK.out _ _ ⟨(blk_cell BK459.out 0).trans rfl, (blk_cell BK459.out 1).trans rfl⟩ (fun hHeld => ?_)
            clear hK K
            refine norm_ (a' := ?_) ?_ ?_
            rotate_left
            ·show Act.put _ (some 38) _ = _
             simp only [Act.put, List.setIfInBounds_toArray, List.set_cons_zero, List.set_cons_succ, i64_w, i32_w]
             rfl
            refine one_ (i := 4) (N := some 39) #[true, true, true, true, true, false] rfl rfl (by kernel_rfl) (by decide) (fun K hK => ?_)
            refine goes_ Try.func21 (by kernel_rfl) rfl #[.agg #[.int .i64 t452, .slice Ao86 t453.length co86], .slice Ao90 t460.length co90] (by rfl) rfl rfl (by (try simp only [List.map_toArray, List.map_cons, List.map_nil]); first | done | rfl | (simp only [List.length_drop, List.length_take]; rfl)) ?_
            with_reducible refine (aig_Eval.calls kj6 t452 _ _ t453 _ _ t460 t463 _ ?side1 ?side2 ?side3 ?side4 A14.out).mono ?_
            (case side1 => repeat (first | exact (Kd.V_reads' HO455.out).2.2 | (with_reducible refine Kd.C_alloc ?_ _) | (with_reducible refine Kd.C_drewN ?_ _) | (with_reducible refine Kd.C_drew ?_)))
            (case side2 => exact (Kd.V_reads' HO455.out).2.1)
            (case side3 => repeat (first | exact (Kd.R_reads' HO462.out).2.2 | (with_reducible refine Kd.C_alloc ?_ _) | (with_reducible refine Kd.C_drewN ?_ _) | (with_reducible refine Kd.C_drew ?_)))
            (case side4 => exact (Kd.R_reads' HO462.out).2.1)
            rintro e w91 ⟨v464, rfl, ho0, hb⟩
            refine ⟨_, rfl, ?_⟩
            have n0_ := Aside0.mk (Kd.V_elder' (by (with_reducible repeat (first | apply Kd.V_alloc | apply Kd.V_drewN | apply Kd.V_drew)); exact HO455.out) (Kd.R_base ho0) hb)
            have n1_ := Aside0.mk (Kd.R_below (by (with_reducible repeat (first | apply Kd.R_alloc | apply Kd.R_drewN | apply Kd.R_drew)); exact HO458.out) hb)
            have n2_ := Aside0.mk (Kd.R_elder' (by (with_reducible repeat (first | apply Kd.R_alloc | apply Kd.R_drewN | apply Kd.R_drew)); exact HO462.out) (Kd.R_base ho0) hb)
            have n3_ := Aside0.mk (Kd.R_lower (Kd.R_new' ho0 (Kd.R_lt (by (with_reducible repeat (first | apply Kd.R_alloc | apply Kd.R_drewN | apply Kd.R_drew)); exact HO462.out))) (below_size (by repeat (first | (with_reducible first | exact HB.out | apply below_alloc | apply pw_below_drewN | apply below_drew1 | refine below_set ?_ GE459.out) | exact HB.out))))
            have n4_ := Aside0.mk (blk_below (g := gb459) (o := .cells #[.int .i64 t452, .slice Ao86 t453.length co86] 28 (0, 0)) (by (with_reducible repeat (first | refine blk_drewN ?_ _ | refine blk_drew ?_ | refine blk_alloc ?_ _)); exact BK459.out) hb)
            have n5_ := Aside0.mk (below_step (by repeat (first | (with_reducible first | exact HB.out | apply below_alloc | apply pw_below_drewN | apply below_drew1 | refine below_set ?_ GE459.out) | exact HB.out)) hb)
            clear HO455
            clear HO458
            clear HO462
            clear BK459
            clear HB
            have HO455 := n0_
            have HO458 := n1_
            have HO462 := n2_
            have HO465 := n3_
            have BK459 := n4_
            have HB := n5_
            clear n0_ n1_ n2_ n3_ n4_ n5_
            (try clear hb)
            (try clear hb2)
            (try clear hk)
            (try clear hi)
            (try clear ho0)
            refine hK.out _ _ ⟨(blk_cell BK459.out 0).trans rfl, (blk_cell BK459.out 1).trans rfl⟩ (fun hHeld => ?_)
            clear hK K
            refine norm_ (a' := ?_) ?_ ?_
            rotate_left
            ·show Act.put _ (some 39) _ = _
             simp only [Act.put, List.setIfInBounds_toArray, List.set_cons_zero, List.set_cons_succ, i64_w, i32_w]
             rfl
            refine pure_ (i := 5) (N := some 14) (v := ?_) (a' := ?_) #[true, true, true, true, true, true] rfl rfl (by kernel_rfl) (fun _ _ _ h => h) (Or.inl ⟨by rfl, ?_⟩) ?_ ?_
            rotate_left
            ·intro w'
             go_simp
             with_reducible rfl
            rotate_left
            ·simp only [Act.put, List.setIfInBounds_toArray, List.set_cons_zero, List.set_cons_succ, i64_w, i32_w]
             rfl
            refine done_ (by kernel_rfl) ?_
            have hcz92_0 : w91.cell? ⟨gb459, 0, none⟩ = some (.int .i64 t452) := (blk_cell BK459.out 0).trans rfl
            have hcz92_1 : w91.cell? ⟨gb459, 1, none⟩ = some (.slice Ao86 t453.length co86) := (blk_cell BK459.out 1).trans rfl
            have hfz92_0 := blk_frozen BK459.out 0
            have hfz92_1 := blk_frozen BK459.out 1
            obtain ⟨Ao93, co93, eo93⟩ := Kd.R_slice HO465.out
            subst eo93
            try go_wp2_with (first | ((with_reducible refine gate_dst (N := 63) rfl ?_); (try (refine gate_guard (by rfl) ?_; dsimp only)); refine Kd.R_lit Kd.bool _ 4 ?hg (N := 63) ?hd (xs := ([] : List Bool)) (inner := []) (ok := fun _ => True) (okp := fun _ => True) ?hr ?hp (fun _ hk => hk) trivial (Below.refl _ _) (Nat.le_refl _) (by simp) ?_; (case hd => rfl); (case hg => rfl); (case hr => first | (go_simp; done) | (go_simp; rfl)); (case hp => exact (Reps.none _ _)); intro v467 w94 ho95 hb hg_ hnew_; clear hg_ hnew_; (first | rw [← Ny466.out] at ho95 | (simp only [Int.reduceToNat] at ho95; rw [← Ny466.out] at ho95)); have n0_ := Aside0.mk (Kd.V_elder' (by (with_reducible repeat (first | apply Kd.V_alloc | apply Kd.V_drewN | apply Kd.V_drew)); exact HO455.out) (Kd.R_base ho95) hb); have n1_ := Aside0.mk (Kd.R_below (by (with_reducible repeat (first | apply Kd.R_alloc | apply Kd.R_drewN | apply Kd.R_drew)); exact HO458.out) hb); have n2_ := Aside0.mk (Kd.R_elder' (by (with_reducible repeat (first | apply Kd.R_alloc | apply Kd.R_drewN | apply Kd.R_drew)); exact HO462.out) (Kd.R_base ho95) hb); have n3_ := Aside0.mk (Kd.R_elder' (by (with_reducible repeat (first | apply Kd.R_alloc | apply Kd.R_drewN | apply Kd.R_drew)); exact HO465.out) (Kd.R_base ho95) hb); have n4_ := Aside0.mk (Kd.R_lower (Kd.R_new' (Kd.R_new' ho95 (Kd.R_lt (by (with_reducible repeat (first | apply Kd.R_alloc | apply Kd.R_drewN | apply Kd.R_drew)); exact HO462.out))) (Kd.R_lt (by (with_reducible repeat (first | apply Kd.R_alloc | apply Kd.R_drewN | apply Kd.R_drew)); exact HO465.out))) (below_size (by repeat (first | (with_reducible first | exact HB.out | apply below_alloc | apply pw_below_drewN | apply below_drew1 | refine below_set ?_ GE459.out) | exact HB.out)))); have n5_ := Aside0.mk (blk_below (g := gb459) (o := .cells #[.int .i64 t452, .slice Ao86 t453.length co86] 28 (0, 0)) (by (with_reducible repeat (first | refine blk_drewN ?_ _ | refine blk_drew ?_ | refine blk_alloc ?_ _)); exact BK459.out) hb); have n6_ := Aside0.mk (below_step (by repeat (first | (with_reducible first | exact HB.out | apply below_alloc | apply pw_below_drewN | apply below_drew1 | refine below_set ?_ GE459.out) | exact HB.out)) hb); clear HO455; clear HO458; clear HO462; clear HO465; clear BK459; clear HB; have HO455 := n0_; have HO458 := n1_; have HO462 := n2_; have HO465 := n3_; have HO468 := n4_; have BK459 := n5_; have HB := n6_; clear n0_ n1_ n2_ n3_ n4_ n5_ n6_; clear hb ho95) | ((with_reducible refine gate_builtin (b := .append) (xs := #[.tmp 63, .tmp 64]) rfl ?_); (try (refine gate_guard (by rfl) ?_; dsimp only)); at_builtin; refine Kd.R_append_rows Kd.bool (w0 := w) w.heap.size rfl (.tmp 63) (.tmp 64) 41 4 (.bool false) 1 rfl Try.underlying41 info4 rfl (by decide) (by omega) v467 y466 l4 _ _ _ (fun k_ => some k_ ≠ (.slice Ao90 t460.length co90 : Value).ownBlock ∧ some k_ ≠ (.slice Ao93 t463.length co93 : Value).ownBlock) (fun _ => False) rfl rfl ?aO ?aR (fun _ _ h => h) (fun _ h => h.elim) ?aF ?aB ?aS ?aL ?_; (case aR => repeat (first | exact (Kd.C_below HR4.out HB.out) | (with_reducible refine Kd.C_alloc ?_ _) | (with_reducible refine Kd.C_drewN ?_ _) | (with_reducible refine Kd.C_drew ?_))); (case aB => exact (by repeat (first | (with_reducible first | exact HB.out | apply below_alloc | apply pw_below_drewN | apply below_drew1 | refine below_set ?_ GE459.out) | exact HB.out))); (case aF => exact (fun k_ hk => ⟨Kd.fresh' (Kd.R_lt (by (with_reducible repeat (first | apply Kd.R_alloc | apply Kd.R_drewN | apply Kd.R_drew)); exact HO462.out)) k_ hk, Kd.fresh' (Kd.R_lt (by (with_reducible repeat (first | apply Kd.R_alloc | apply Kd.R_drewN | apply Kd.R_drew)); exact HO465.out)) k_ hk⟩)); (case aO => exact (by (with_reducible repeat (first | apply Kd.R_alloc | apply Kd.R_drewN | apply Kd.R_drew)); exact Kd.R_mono HO468.out (fun _ hk => ⟨hk.1.2, hk.2⟩))); (case aS => exact (below_size (by repeat (first | (with_reducible first | exact HB.out | apply below_alloc | apply pw_below_drewN | apply below_drew1 | refine below_set ?_ GE459.out) | exact HB.out)))); (case aL => have := LMc17.out; omega); intro v470 w96 ho hb hg hat; rw [← Ny469.out] at ho; have n0_ := Aside0.mk (Kd.V_afterv (ok := (fun k_ => some k_ ≠ (v457 : Value).ownBlock ∧ some k_ ≠ (.slice Ao90 t460.length co90 : Value).ownBlock ∧ some k_ ≠ (.slice Ao93 t463.length co93 : Value).ownBlock ∧ k_ ≠ gb459)) (by (with_reducible repeat (first | apply Kd.V_alloc | apply Kd.V_drewN | apply Kd.V_drew)); exact Kd.V_mono HO455.out (fun _ hk => ⟨⟨hk.1.1.1.1, ⟨hk.1.1.2, ⟨hk.1.2, hk.1.1.1.2⟩⟩⟩, hk.2⟩)) hg hat); have n1_ := Aside0.mk (Kd.R_over' (by (with_reducible repeat (first | apply Kd.R_alloc | apply Kd.R_drewN | apply Kd.R_drew)); exact HO458.out) (Kd.R_typed (by (with_reducible repeat (first | apply Kd.R_alloc | apply Kd.R_drewN | apply Kd.R_drew)); exact HO468.out)) (by decide) hg); have n2_ := Aside0.mk (blk_grown (g := gb459) (o := .cells #[.int .i64 t452, .slice Ao86 t453.length co86] 28 (0, 0)) (by (with_reducible repeat (first | refine blk_drewN ?_ _ | refine blk_drew ?_ | refine blk_alloc ?_ _)); exact BK459.out) hg (Kd.R_ne HO468.out BK459.out (by decide))); have n3_ := Aside0.mk (Kd.R_after (ok := (fun k_ => some k_ ≠ (.slice Ao93 t463.length co93 : Value).ownBlock)) (by (with_reducible repeat (first | apply Kd.R_alloc | apply Kd.R_drewN | apply Kd.R_drew)); exact Kd.R_mono HO462.out (fun _ hk => ⟨hk.1.2, hk.2⟩)) hg hat); have n4_ := Aside0.mk (Kd.R_after (ok := (fun k_ => some k_ ≠ (.slice Ao90 t460.length co90 : Value).ownBlock)) (by (with_reducible repeat (first | apply Kd.R_alloc | apply Kd.R_drewN | apply Kd.R_drew)); exact Kd.R_mono HO465.out (fun _ hk => ⟨hk.1.2, hk.2⟩)) hg hat); have n5_ := Aside0.mk (hb); have n6_ := Aside0.mk (ho); clear HO455; clear HO458; clear BK459; clear HO462; clear HO465; clear HB; clear HO468; have HO455 := n0_; have HO458 := n1_; have BK459 := n2_; have HO462 := n3_; have HO465 := n4_; have HB := n5_; have HO471 := n6_; clear n0_ n1_ n2_ n3_ n4_ n5_ n6_; clear ho hb hg hat) | ((with_reducible refine gate_builtin (b := .append) (xs := #[.tmp 65, .tmp 66]) rfl ?_); (try (refine gate_guard (by rfl) ?_; dsimp only)); at_builtin; refine Kd.R_append_rows Kd.bool (w0 := w) w.heap.size rfl (.tmp 65) (.tmp 66) 41 4 (.bool false) 1 rfl Try.underlying41 info4 rfl (by decide) (by omega) v470 y469 t463 _ _ _ (fun k_ => some k_ ≠ (.slice Ao90 t460.length co90 : Value).ownBlock ∧ some k_ ≠ (.slice Ao93 t463.length co93 : Value).ownBlock) (fun _ => False) rfl rfl ?aO ?aR (fun _ _ h => h) (fun _ h => h.elim) ?aF ?aB ?aS ?aL ?_; (case aR => repeat (first | exact (Kd.R_reads' HO465.out).2.2 | (with_reducible refine Kd.C_alloc ?_ _) | (with_reducible refine Kd.C_drewN ?_ _) | (with_reducible refine Kd.C_drew ?_))); (case aB => exact (by repeat (first | (with_reducible first | exact HB.out | apply below_alloc | apply pw_below_drewN | apply below_drew1 | refine below_set ?_ GE459.out) | exact HB.out))); (case aF => exact (fun k_ hk => ⟨Kd.fresh' (Kd.R_lt (by (with_reducible repeat (first | apply Kd.R_alloc | apply Kd.R_drewN | apply Kd.R_drew)); exact HO462.out)) k_ hk, Kd.fresh' (Kd.R_lt (by (with_reducible repeat (first | apply Kd.R_alloc | apply Kd.R_drewN | apply Kd.R_drew)); exact HO465.out)) k_ hk⟩)); (case aO => exact (by (with_reducible repeat (first | apply Kd.R_alloc | apply Kd.R_drewN | apply Kd.R_drew)); exact HO471.out)); (case aS => exact (below_size (by repeat (first | (with_reducible first | exact HB.out | apply below_alloc | apply pw_below_drewN | apply below_drew1 | refine below_set ?_ GE459.out) | exact HB.out)))); (case aL => have := LMc18.out; omega); intro v473 w97 ho hb hg hat; rw [← Ny472.out] at ho; have n0_ := Aside0.mk (Kd.V_afterv (ok := (fun k_ => some k_ ≠ (v457 : Value).ownBlock ∧ some k_ ≠ (.slice Ao90 t460.length co90 : Value).ownBlock ∧ some k_ ≠ (.slice Ao93 t463.length co93 : Value).ownBlock ∧ k_ ≠ gb459)) (by (with_reducible repeat (first | apply Kd.V_alloc | apply Kd.V_drewN | apply Kd.V_drew)); exact HO455.out) hg hat); have n1_ := Aside0.mk (Kd.R_over' (by (with_reducible repeat (first | apply Kd.R_alloc | apply Kd.R_drewN | apply Kd.R_drew)); exact HO458.out) (Kd.R_typed (by (with_reducible repeat (first | apply Kd.R_alloc | apply Kd.R_drewN | apply Kd.R_drew)); exact HO471.out)) (by decide) hg); have n2_ := Aside0.mk (blk_grown (g := gb459) (o := .cells #[.int .i64 t452, .slice Ao86 t453.length co86] 28 (0, 0)) (by (with_reducible repeat (first | refine blk_drewN ?_ _ | refine blk_drew ?_ | refine blk_alloc ?_ _)); exact BK459.out) hg (Kd.R_ne HO471.out BK459.out (by decide))); have n3_ := Aside0.mk (Kd.R_after (ok := (fun k_ => some k_ ≠ (.slice Ao93 t463.length co93 : Value).ownBlock)) (by (with_reducible repeat (first | apply Kd.R_alloc | apply Kd.R_drewN | apply Kd.R_drew)); exact HO462.out) hg hat); have n4_ := Aside0.mk (Kd.R_after (ok := (fun k_ => some k_ ≠ (.slice Ao90 t460.length co90 : Value).ownBlock)) (by (with_reducible repeat (first | apply Kd.R_alloc | apply Kd.R_drewN | apply Kd.R_drew)); exact HO465.out) hg hat); have n5_ := Aside0.mk (hb); have n6_ := Aside0.mk (ho); clear HO455; clear HO458; clear BK459; clear HO462; clear HO465; clear HB; clear HO471; have HO455 := n0_; have HO458 := n1_; have BK459 := n2_; have HO462 := n3_; have HO465 := n4_; have HB := n5_; have HO474 := n6_; clear n0_ n1_ n2_ n3_ n4_ n5_ n6_; clear ho hb hg hat; have hcz98_0 : w97.cell? ⟨gb459, 0, none⟩ = some (.int .i64 t452) := (blk_cell BK459.out 0).trans rfl; have hcz98_1 : w97.cell? ⟨gb459, 1, none⟩ = some (.slice Ao86 t453.length co86) := (blk_cell BK459.out 1).trans rfl; have hfz98_0 := blk_frozen BK459.out 0; have hfz98_1 := blk_frozen BK459.out 1) | ((with_reducible refine gate_callee (f := 18) rfl ?_); refine goesL_ (some 70) rfl rfl Try.func18 (by kernel_rfl) rfl #[.agg #[.int .i64 t452, .slice Ao86 t453.length co86], .int .i64 (l4.length : Int)] rfl (by (try simp only [List.map_toArray, List.map_cons, List.map_nil]); first | done | rfl | (simp only [List.length_drop, List.length_take]; rfl)) ?_; (with_reducible refine (cnf_Clauses.calls t452 _ _ t453 (l4.length : Int) t475 _ ?side1 ?side2 A19.out).mono ?_); (case side1 => repeat (first | exact (Kd.V_reads' HO455.out).2.2 | (with_reducible refine Kd.C_alloc ?_ _) | (with_reducible refine Kd.C_drewN ?_ _) | (with_reducible refine Kd.C_drew ?_))); (case side2 => exact (Kd.V_reads' HO455.out).2.1); rintro e w99 ⟨v476, rfl, ho0, hb⟩; refine ⟨_, rfl, ?_⟩; have n0_ := Aside0.mk (Kd.V_elder' (by (with_reducible repeat (first | apply Kd.V_alloc | apply Kd.V_drewN | apply Kd.V_drew)); exact HO455.out) (Kd.N_base ho0) hb); have n1_ := Aside0.mk (Kd.R_below (by (with_reducible repeat (first | apply Kd.R_alloc | apply Kd.R_drewN | apply Kd.R_drew)); exact HO458.out) hb); have n2_ := Aside0.mk (Kd.R_below (by (with_reducible repeat (first | apply Kd.R_alloc | apply Kd.R_drewN | apply Kd.R_drew)); exact HO462.out) hb); have n3_ := Aside0.mk (Kd.R_below (by (with_reducible repeat (first | apply Kd.R_alloc | apply Kd.R_drewN | apply Kd.R_drew)); exact HO465.out) hb); have n4_ := Aside0.mk (Kd.R_below (by (with_reducible repeat (first | apply Kd.R_alloc | apply Kd.R_drewN | apply Kd.R_drew)); exact HO474.out) hb); have n5_ := Aside0.mk (Kd.N_lower (Kd.N_mono (ok' := fun k_ => some k_ ≠ (v457 : Value).ownBlock ∧ some k_ ≠ (.slice Ao90 t460.length co90 : Value).ownBlock ∧ some k_ ≠ (.slice Ao93 t463.length co93 : Value).ownBlock ∧ some k_ ≠ (v473 : Value).ownBlock ∧ k_ ≠ gb459) ho0 (fun k_ hk_ => ⟨(Kd.fresh' (Kd.R_lt (by (with_reducible repeat (first | apply Kd.R_alloc | apply Kd.R_drewN | apply Kd.R_drew)); exact HO458.out)) k_ hk_), (Kd.fresh' (Kd.R_lt (by (with_reducible repeat (first | apply Kd.R_alloc | apply Kd.R_drewN | apply Kd.R_drew)); exact HO462.out)) k_ hk_), (Kd.fresh' (Kd.R_lt (by (with_reducible repeat (first | apply Kd.R_alloc | apply Kd.R_drewN | apply Kd.R_drew)); exact HO465.out)) k_ hk_), (Kd.fresh' (Kd.R_lt (by (with_reducible repeat (first | apply Kd.R_alloc | apply Kd.R_drewN | apply Kd.R_drew)); exact HO474.out)) k_ hk_), (Kd.freshB (g := gb459) (o := .cells #[.int .i64 t452, .slice Ao86 t453.length co86] 28 (0, 0)) (by (with_reducible repeat (first | refine blk_drewN ?_ _ | refine blk_drew ?_ | refine blk_alloc ?_ _)); exact BK459.out) k_ hk_)⟩)) (below_size (by repeat (first | (with_reducible first | exact HB.out | apply below_alloc | apply pw_below_drewN | apply below_drew1 | refine below_set ?_ GE459.out) | exact HB.out)))); have n6_ := Aside0.mk (blk_below (g := gb459) (o := .cells #[.int .i64 t452, .slice Ao86 t453.length co86] 28 (0, 0)) (by (with_reducible repeat (first | refine blk_drewN ?_ _ | refine blk_drew ?_ | refine blk_alloc ?_ _)); exact BK459.out) hb); have n7_ := Aside0.mk (below_step (by repeat (first | (with_reducible first | exact HB.out | apply below_alloc | apply pw_below_drewN | apply below_drew1 | refine below_set ?_ GE459.out) | exact HB.out)) hb); clear HO455; clear HO458; clear HO462; clear HO465; clear HO474; clear BK459; clear HB; have HO455 := n0_; have HO458 := n1_; have HO462 := n2_; have HO465 := n3_; have HO474 := n4_; have HO477 := n5_; have BK459 := n6_; have HB := n7_; clear n0_ n1_ n2_ n3_ n4_ n5_ n6_ n7_; (try clear hb); (try clear hb2); (try clear hk); (try clear hi); (try clear ho0); obtain ⟨Ao100, co100, eo100⟩ := Kd.R_slice HO474.out; subst eo100; obtain ⟨Ao101, co101, eo101⟩ := Kd.N_slice HO477.out; subst eo101) | ((with_reducible refine gate_callee (f := 20) rfl ?_); refine goesL_ (some 75) rfl rfl Try.func20 (by kernel_rfl) rfl #[.slice Ao101 t475.length co101, .int .i64 (l4.length : Int), .int .i64 (y472.length : Int)] rfl (by (try simp only [List.map_toArray, List.map_cons, List.map_nil]); first | done | rfl | (simp only [List.length_drop, List.length_take]; rfl)) ?_; (with_reducible refine (proofmarklaw17_within.calls kj6 _ _ t475 (l4.length : Int) (y472.length : Int) true _ ?side1 ?side2 A20.out).mono ?_); (case side1 => repeat (first | exact (Kd.N_reads' HO477.out).2.2 | (with_reducible refine Kd.C_alloc ?_ _) | (with_reducible refine Kd.C_drewN ?_ _) | (with_reducible refine Kd.C_drew ?_))); (case side2 => exact (Kd.N_reads' HO477.out).2.1); rintro e w102 ⟨rfl, hb⟩; refine ⟨_, rfl, ?_⟩; have n0_ := Aside0.mk (Kd.V_below (by (with_reducible repeat (first | apply Kd.V_alloc | apply Kd.V_drewN | apply Kd.V_drew)); exact HO455.out) hb); have n1_ := Aside0.mk (Kd.R_below (by (with_reducible repeat (first | apply Kd.R_alloc | apply Kd.R_drewN | apply Kd.R_drew)); exact HO458.out) hb); have n2_ := Aside0.mk (Kd.R_below (by (with_reducible repeat (first | apply Kd.R_alloc | apply Kd.R_drewN | apply Kd.R_drew)); exact HO462.out) hb); have n3_ := Aside0.mk (Kd.R_below (by (with_reducible repeat (first | apply Kd.R_alloc | apply Kd.R_drewN | apply Kd.R_drew)); exact HO465.out) hb); have n4_ := Aside0.mk (Kd.R_below (by (with_reducible repeat (first | apply Kd.R_alloc | apply Kd.R_drewN | apply Kd.R_drew)); exact HO474.out) hb); have n5_ := Aside0.mk (Kd.N_below (by (with_reducible repeat (first | apply Kd.N_alloc | apply Kd.N_drewN | apply Kd.N_drew)); exact HO477.out) hb); have n6_ := Aside0.mk (blk_below (g := gb459) (o := .cells #[.int .i64 t452, .slice Ao86 t453.length co86] 28 (0, 0)) (by (with_reducible repeat (first | refine blk_drewN ?_ _ | refine blk_drew ?_ | refine blk_alloc ?_ _)); exact BK459.out) hb); have n7_ := Aside0.mk (below_step (by repeat (first | (with_reducible first | exact HB.out | apply below_alloc | apply pw_below_drewN | apply below_drew1 | refine below_set ?_ GE459.out) | exact HB.out)) hb); clear HO455; clear HO458; clear HO462; clear HO465; clear HO474; clear HO477; clear BK459; clear HB; have HO455 := n0_; have HO458 := n1_; have HO462 := n2_; have HO465 := n3_; have HO474 := n4_; have HO477 := n5_; have BK459 := n6_; have HB := n7_; clear n0_ n1_ n2_ n3_ n4_ n5_ n6_ n7_; (try clear hb); (try clear hb2); (try clear hk); (try clear hi)) | ((with_reducible refine gate_callee (f := 15) rfl ?_); refine goesL_ (some 79) rfl rfl Try.func15 (by kernel_rfl) rfl #[.int .i64 (Int.tmod (wrap64 (a3)) (wrap64 (2 * (wrap64 ((wrap64 (1 + t452)) + (t453.length : Int)))))), .int .i64 (l4.length : Int)] rfl (by (try simp only [List.map_toArray, List.map_cons, List.map_nil]); first | done | rfl | (simp only [List.length_drop, List.length_take]; rfl)) ?_; (with_reducible refine (cnf_Of.calls (Int.tmod (wrap64 (a3)) (wrap64 (2 * (wrap64 ((wrap64 (1 + t452)) + (t453.length : Int)))))) (l4.length : Int) t479 _ A22.out).mono ?_); rintro e w' ⟨rfl, ⟨nd, rfl⟩⟩; refine ⟨_, rfl, ?_⟩))
            go_ret
            exact ⟨by first | rfl | (simp [errW_none, errW_some] <;> rfl) | (simp only [← hji24]; first | rfl | (simp [errW_none, errW_some] <;> rfl)) | (simp [*, errW_none, errW_some] <;> rfl), by repeat (first | (with_reducible first | exact HB.out | apply below_alloc | apply pw_below_drewN | apply below_drew1 | refine below_set ?_ GE459.out) | exact HB.out)⟩
          ·rw [if_neg c25] at H
           have c25b0 : decide ((l4.length : Int) < (ji24)) = false := decide_eq_false c25
           clear c25
           obtain rfl := Option.some.inj H
           try go_wp2_with (first | ((with_reducible refine gate_callee (f := 12) rfl ?_); refine goesL_ (some 32) rfl rfl Try.func12 (by kernel_rfl) rfl #[.int .u8 a0, .slice A1 l1.length c1] rfl (by (try simp only [List.map_toArray, List.map_cons, List.map_nil]); first | done | rfl | (simp only [List.length_drop, List.length_take]; rfl)) ?_; (with_reducible refine (proofmarklaw13_Made.calls kj6 a0 _ _ l1 t452 t453 t456 _ ?side1 ?side2 A12.out).mono ?_); (case side1 => repeat (first | exact (Kd.C_below HR1.out HB.out) | (with_reducible refine Kd.C_alloc ?_ _) | (with_reducible refine Kd.C_drewN ?_ _) | (with_reducible refine Kd.C_drew ?_))); (case side2 => exact HC1.out); rintro e w103 ⟨v454, v457, rfl, ho0, ho1, hb⟩; refine ⟨_, rfl, ?_⟩; have n0_ := Aside0.mk (Kd.V_lower (Kd.V_mono (ok' := fun k_ => some k_ ≠ (v457 : Value).ownBlock) ho0 (fun k_ hk_ => hk_.2)) (below_size (by repeat (first | (with_reducible first | exact HB.out | apply below_alloc | apply pw_below_drewN | apply below_drew1) | exact HB.out)))); have n1_ := Aside0.mk (Kd.R_lower (Kd.R_mono (ok' := fun k_ => True) ho1 (fun _ hk_ => trivial)) (below_size (by repeat (first | (with_reducible first | exact HB.out | apply below_alloc | apply pw_below_drewN | apply below_drew1) | exact HB.out)))); have n2_ := Aside0.mk (below_step (by repeat (first | (with_reducible first | exact HB.out | apply below_alloc | apply pw_below_drewN | apply below_drew1) | exact HB.out)) hb); clear HB; have HO455 := n0_; have HO458 := n1_; have HB := n2_; clear n0_ n1_ n2_; (try clear hb); (try clear hb2); (try clear hk); (try clear hi); (try clear ho0); (try clear ho1)) | ((with_reducible refine gate_dst (N := 12) rfl ?_); (try (refine gate_guard (by rfl) ?_; dsimp only)); refine box_event ?hg (N := 12) ?hd (cs := #[.int .i64 0, .slice none 0 0]) (t := 28) ?hr ?_; (case hd => rfl); (case hg => rfl); (case hr => first | (go_simp; done) | (go_simp; rfl)); intro gb459 hg w104 hbox hb; have n0_ := Aside0.mk (Kd.V_below (Kd.V_elderB (by (with_reducible repeat (first | apply Kd.V_alloc | apply Kd.V_drewN | apply Kd.V_drew)); exact HO455.out) gb459 (Nat.le_of_eq hg.symm)) hb); have n1_ := Aside0.mk (Kd.R_below (by (with_reducible repeat (first | apply Kd.R_alloc | apply Kd.R_drewN | apply Kd.R_drew)); exact HO458.out) hb); have n2_ := Aside0.mk (below_step (by repeat (first | (with_reducible first | exact HB.out | apply below_alloc | apply pw_below_drewN | apply below_drew1) | exact HB.out)) hb); have n3_ := Aside0.mk (hbox); have n4_ := Aside0.mk ((by rw [hg]; exact (below_size (by repeat (first | (with_reducible first | exact HB.out | apply below_alloc | apply pw_below_drewN | apply below_drew1) | exact HB.out))) : w.heap.size ≤ gb459)); have n5_ := Aside0.mk ((by rw [hg]; exact (below_size (by repeat (first | (with_reducible first | exact HB.out | apply below_alloc | apply pw_below_drewN | apply below_drew1) | exact HB.out))) : w.heap.size ≤ gb459)); clear HO455; clear HO458; clear HB; have HO455 := n0_; have HO458 := n1_; have HB := n2_; have BK459 := n3_; have GW459 := n4_; have GE459 := n5_; clear n0_ n1_ n2_ n3_ n4_ n5_; clear hb hbox hg; have hcz105_0 : w104.cell? ⟨gb459, 0, none⟩ = some (.int .i64 0) := (blk_cell BK459.out 0).trans rfl; have hcz105_1 : w104.cell? ⟨gb459, 1, none⟩ = some (.slice none 0 0) := (blk_cell BK459.out 1).trans rfl; have hfz105_0 := blk_frozen BK459.out 0; have hfz105_1 := blk_frozen BK459.out 1; obtain ⟨Ao106, co106, eo106⟩ := Kd.V_slice HO455.out; subst eo106))
           have n0_ : Aside0 (Kd.V k49 49 ((w104.setCell ⟨gb459, 0, none⟩ (.int .i64 t452)).setCell ⟨gb459, 1, none⟩ (.slice Ao106 t453.length co106)) w.heap.size (fun k_ => some k_ ≠ (v457 : Value).ownBlock ∧ k_ ≠ gb459) (.slice Ao106 t453.length co106) t453) := ⟨by (with_reducible repeat (first | apply Kd.V_alloc | apply Kd.V_drewN | apply Kd.V_drew)); exact Kd.V_mono (Kd.V_far (p := ⟨gb459, 1, none⟩) (Kd.V_far (p := ⟨gb459, 0, none⟩) (Kd.V_mono HO455.out (fun k_ hk => (⟨hk, hk.2⟩ : _ ∧ k_ ≠ gb459))) (fun _ hk => hk.2) (.int .i64 t452)) (fun _ hk => hk.2) (.slice Ao106 t453.length co106)) (fun _ hk => ⟨hk.1.1, hk.1.2⟩)⟩
           have n1_ : Aside0 (Kd.R (Kd.int .i64) 3 ((w104.setCell ⟨gb459, 0, none⟩ (.int .i64 t452)).setCell ⟨gb459, 1, none⟩ (.slice Ao106 t453.length co106)) w.heap.size (fun _ => True) v457 t456) := ⟨by (with_reducible repeat (first | apply Kd.R_alloc | apply Kd.R_drewN | apply Kd.R_drew)); exact Kd.R_mono (Kd.R_far (p := ⟨gb459, 1, none⟩) (Kd.R_far (p := ⟨gb459, 0, none⟩) (Kd.R_types HO458.out BK459.out (by decide)) (fun _ hk => hk.2) (.int .i64 t452)) (fun _ hk => hk.2) (.slice Ao106 t453.length co106)) (fun _ hk => trivial)⟩
           have n2_ : Aside0 (((w104.setCell ⟨gb459, 0, none⟩ (.int .i64 t452)).setCell ⟨gb459, 1, none⟩ (.slice Ao106 t453.length co106)).heap[gb459]? = some (.cells #[.int .i64 t452, .slice Ao106 t453.length co106] 28 (0, 0))) := ⟨by (with_reducible repeat (first | refine blk_drewN ?_ _ | refine blk_drew ?_ | refine blk_alloc ?_ _)); refine blk_put (cs := #[.int .i64 t452, .slice none 0 0]) ?_ 1 _ rfl; (with_reducible repeat (first | refine blk_drewN ?_ _ | refine blk_drew ?_ | refine blk_alloc ?_ _)); refine blk_put (cs := #[.int .i64 0, .slice none 0 0]) ?_ 0 _ rfl; (with_reducible repeat (first | refine blk_drewN ?_ _ | refine blk_drew ?_ | refine blk_alloc ?_ _)); exact BK459.out⟩
           have n3_ : Aside0 (Below w.heap.size w ((w104.setCell ⟨gb459, 0, none⟩ (.int .i64 t452)).setCell ⟨gb459, 1, none⟩ (.slice Ao106 t453.length co106))) := ⟨by repeat (first | (with_reducible first | exact HB.out | apply below_alloc | apply pw_below_drewN | apply below_drew1 | refine below_set ?_ GE459.out) | exact HB.out)⟩
           (try clear HO455)
           (try clear HO458)
           (try clear BK459)
           (try clear HB)
           generalize ((w104.setCell ⟨gb459, 0, none⟩ (.int .i64 t452)).setCell ⟨gb459, 1, none⟩ (.slice Ao106 t453.length co106)) = w107 at n0_ n1_ n2_ n3_ ⊢
           have HO455 := n0_
           have HO458 := n1_
           have BK459 := n2_
           have HB := n3_
           clear n0_ n1_ n2_ n3_
           have n0_ := Aside0.mk (Kd.V_drew HO455.out)
           have n1_ := Aside0.mk (Kd.R_drew HO458.out)
           have n2_ := Aside0.mk (blk_drew BK459.out)
           have n3_ := Aside0.mk (below_drew1 HB.out)
           clear HO455
           clear HO458
           clear BK459
           clear HB
           have HO455 := n0_
           have HO458 := n1_
           have BK459 := n2_
           have HB := n3_
           clear n0_ n1_ n2_ n3_
           refine start_ (n := 6) (S := fun w' => w'.cell? ⟨gb459, 0, none⟩ = some (.int .i64 t452) ∧ w'.cell? ⟨gb459, 1, none⟩ = some (.slice Ao106 t453.length co106)) (ds := []) #[false, false, false, false, false, false] (by kernel_rfl) rfl rfl ⟨(blk_cell BK459.out 0).trans rfl, (blk_cell BK459.out 1).trans rfl⟩ (fun hHeld => ?_)
           generalize w107.drew = w108 at HO455 HO458 BK459 HB hHeld ⊢
           refine pure_ (i := 2) (N := some 37) (v := ?_) (a' := ?_) #[false, false, true, false, false, false] rfl rfl (by kernel_rfl) (fun _ _ _ h => h) (Or.inl ⟨by rfl, ?_⟩) ?_ ?_
           rotate_left
           ·intro w'
            go_simp
            with_reducible rfl
           rotate_left
           ·simp only [Act.put, List.setIfInBounds_toArray, List.set_cons_zero, List.set_cons_succ, i64_w, i32_w]
            rfl
           refine take_ (i := 0) (N := some 35) (v := ?_) (a' := ?_) #[true, false, true, false, false, false] rfl rfl (by kernel_rfl) (fun _ _ _ h => h) (Or.inl ⟨by rfl, ?_⟩) hHeld ?_ ?_
           rotate_left
           ·rintro w' ⟨s0, s1⟩
            go_simp
            with_reducible rfl
           rotate_left
           ·simp only [Act.put, List.setIfInBounds_toArray, List.set_cons_zero, List.set_cons_succ, i64_w, i32_w]
            rfl
           refine take_ (i := 1) (N := some 36) (v := ?_) (a' := ?_) #[true, true, true, false, false, false] rfl rfl (by kernel_rfl) (fun _ _ _ h => h) (Or.inl ⟨by rfl, ?_⟩) hHeld ?_ ?_
           rotate_left
           ·rintro w' ⟨s0, s1⟩
            go_simp
            with_reducible rfl
           rotate_left
           ·simp only [Act.put, List.setIfInBounds_toArray, List.set_cons_zero, List.set_cons_succ, i64_w, i32_w]
            rfl
           refine one_ (i := 3) (N := some 38) #[true, true, true, true, false, false] rfl rfl (by kernel_rfl) (by decide) (fun K hK => ?_)
           refine goes_ Try.func22 (by kernel_rfl) rfl #[.agg #[.int .i64 t452, .slice Ao106 t453.length co106], .slice A2 l2.length c2] (by rfl) rfl rfl (by (try simp only [List.map_toArray, List.map_cons, List.map_nil]); first | done | rfl | (simp only [List.length_drop, List.length_take]; rfl)) ?_
           with_reducible refine (proofmarklaw13_Bits.calls kj6 t452 _ _ t453 _ _ l2 t460 _ ?side1 ?side2 ?side3 ?side4 A13.out).mono ?_
           (case side1 => repeat (first | exact (Kd.V_reads' HO455.out).2.2 | (with_reducible refine Kd.C_alloc ?_ _) | (with_reducible refine Kd.C_drewN ?_ _) | (with_reducible refine Kd.C_drew ?_)))
           (case side2 => exact (Kd.V_reads' HO455.out).2.1)
           (case side3 => repeat (first | exact (Kd.C_below HR2.out HB.out) | (with_reducible refine Kd.C_alloc ?_ _) | (with_reducible refine Kd.C_drewN ?_ _) | (with_reducible refine Kd.C_drew ?_)))
           (case side4 => exact HC2.out)
           rintro e w109 ⟨v461, rfl, ho0, hb⟩
           refine ⟨_, rfl, ?_⟩
           have n0_ := Aside0.mk (Kd.V_elder' (by (with_reducible repeat (first | apply Kd.V_alloc | apply Kd.V_drewN | apply Kd.V_drew)); exact HO455.out) (Kd.R_base ho0) hb)
           have n1_ := Aside0.mk (Kd.R_below (by (with_reducible repeat (first | apply Kd.R_alloc | apply Kd.R_drewN | apply Kd.R_drew)); exact HO458.out) hb)
           have n2_ := Aside0.mk (Kd.R_lower ho0 (below_size (by repeat (first | (with_reducible first | exact HB.out | apply below_alloc | apply pw_below_drewN | apply below_drew1 | refine below_set ?_ GE459.out) | exact HB.out))))
           have n3_ := Aside0.mk (blk_below (g := gb459) (o := .cells #[.int .i64 t452, .slice Ao106 t453.length co106] 28 (0, 0)) (by (with_reducible repeat (first | refine blk_drewN ?_ _ | refine blk_drew ?_ | refine blk_alloc ?_ _)); exact BK459.out) hb)
           have n4_ := Aside0.mk (below_step (by repeat (first | (with_reducible first | exact HB.out | apply below_alloc | apply pw_below_drewN | apply below_drew1 | refine below_set ?_ GE459.out) | exact HB.out)) hb)
           clear HO455
           clear HO458
           clear BK459
           clear HB
           have HO455 := n0_
           have HO458 := n1_
           have HO462 := n2_
           have BK459 := n3_
           have HB := n4_
           clear n0_ n1_ n2_ n3_ n4_
           (try clear hb)
           (try clear hb2)
           (try clear hk)
           (try clear hi)
           (try clear ho0)
           obtain ⟨Ao110, co110, eo110⟩ := Kd.R_slice HO462.out
           (first | subst eo110 | (injection eo110 with f1_ f2_ f3_; have f4_ := f1_.symm; have f5_ := f3_.symm; clear f1_ f2_ f3_; subst f4_; subst f5_))
           refine hK.out _ _ ⟨(blk_cell BK459.out 0).trans rfl, (blk_cell BK459.out 1).trans rfl⟩ (fun hHeld => ?_)
           clear hK K
           refine norm_ (a' := ?_) ?_ ?_
           rotate_left
           ·show Act.put _ (some 38) _ = _
            simp only [Act.put, List.setIfInBounds_toArray, List.set_cons_zero, List.set_cons_succ, i64_w, i32_w]
            rfl
           refine one_ (i := 4) (N := some 39) #[true, true, true, true, true, false] rfl rfl (by kernel_rfl) (by decide) (fun K hK => ?_)
           refine goes_ Try.func21 (by kernel_rfl) rfl #[.agg #[.int .i64 t452, .slice Ao106 t453.length co106], .slice Ao110 t460.length co110] (by rfl) rfl rfl (by (try simp only [List.map_toArray, List.map_cons, List.map_nil]); first | done | rfl | (simp only [List.length_drop, List.length_take]; rfl)) ?_
           with_reducible refine (aig_Eval.calls kj6 t452 _ _ t453 _ _ t460 t463 _ ?side1 ?side2 ?side3 ?side4 A14.out).mono ?_
           (case side1 => repeat (first | exact (Kd.V_reads' HO455.out).2.2 | (with_reducible refine Kd.C_alloc ?_ _) | (with_reducible refine Kd.C_drewN ?_ _) | (with_reducible refine Kd.C_drew ?_)))
           (case side2 => exact (Kd.V_reads' HO455.out).2.1)
           (case side3 => repeat (first | exact (Kd.R_reads' HO462.out).2.2 | (with_reducible refine Kd.C_alloc ?_ _) | (with_reducible refine Kd.C_drewN ?_ _) | (with_reducible refine Kd.C_drew ?_)))
           (case side4 => exact (Kd.R_reads' HO462.out).2.1)
           rintro e w111 ⟨v464, rfl, ho0, hb⟩
           refine ⟨_, rfl, ?_⟩
           have n0_ := Aside0.mk (Kd.V_elder' (by (with_reducible repeat (first | apply Kd.V_alloc | apply Kd.V_drewN | apply Kd.V_drew)); exact HO455.out) (Kd.R_base ho0) hb)
           have n1_ := Aside0.mk (Kd.R_below (by (with_reducible repeat (first | apply Kd.R_alloc | apply Kd.R_drewN | apply Kd.R_drew)); exact HO458.out) hb)
           have n2_ := Aside0.mk (Kd.R_elder' (by (with_reducible repeat (first | apply Kd.R_alloc | apply Kd.R_drewN | apply Kd.R_drew)); exact HO462.out) (Kd.R_base ho0) hb)
           have n3_ := Aside0.mk (Kd.R_lower (Kd.R_new' ho0 (Kd.R_lt (by (with_reducible repeat (first | apply Kd.R_alloc | apply Kd.R_drewN | apply Kd.R_drew)); exact HO462.out))) (below_size (by repeat (first | (with_reducible first | exact HB.out | apply below_alloc | apply pw_below_drewN | apply below_drew1 | refine below_set ?_ GE459.out) | exact HB.out))))
           have n4_ := Aside0.mk (blk_below (g := gb459) (o := .cells #[.int .i64 t452, .slice Ao106 t453.length co106] 28 (0, 0)) (by (with_reducible repeat (first | refine blk_drewN ?_ _ | refine blk_drew ?_ | refine blk_alloc ?_ _)); exact BK459.out) hb)
           have n5_ := Aside0.mk (below_step (by repeat (first | (with_reducible first | exact HB.out | apply below_alloc | apply pw_below_drewN | apply below_drew1 | refine below_set ?_ GE459.out) | exact HB.out)) hb)
           clear HO455
           clear HO458
           clear HO462
           clear BK459
           clear HB
           have HO455 := n0_
           have HO458 := n1_
           have HO462 := n2_
           have HO465 := n3_
           have BK459 := n4_
           have HB := n5_
           clear n0_ n1_ n2_ n3_ n4_ n5_
           (try clear hb)
           (try clear hb2)
           (try clear hk)
           (try clear hi)
           (try clear ho0)
           refine hK.out _ _ ⟨(blk_cell BK459.out 0).trans rfl, (blk_cell BK459.out 1).trans rfl⟩ (fun hHeld => ?_)
           clear hK K
           refine norm_ (a' := ?_) ?_ ?_
           rotate_left
           ·show Act.put _ (some 39) _ = _
            simp only [Act.put, List.setIfInBounds_toArray, List.set_cons_zero, List.set_cons_succ, i64_w, i32_w]
            rfl
           refine pure_ (i := 5) (N := some 14) (v := ?_) (a' := ?_) #[true, true, true, true, true, true] rfl rfl (by kernel_rfl) (fun _ _ _ h => h) (Or.inl ⟨by rfl, ?_⟩) ?_ ?_
           rotate_left
           ·intro w'
            go_simp
            with_reducible rfl
           rotate_left
           ·simp only [Act.put, List.setIfInBounds_toArray, List.set_cons_zero, List.set_cons_succ, i64_w, i32_w]
            rfl
           refine done_ (by kernel_rfl) ?_
           have hcz112_0 : w111.cell? ⟨gb459, 0, none⟩ = some (.int .i64 t452) := (blk_cell BK459.out 0).trans rfl
           have hcz112_1 : w111.cell? ⟨gb459, 1, none⟩ = some (.slice Ao106 t453.length co106) := (blk_cell BK459.out 1).trans rfl
           have hfz112_0 := blk_frozen BK459.out 0
           have hfz112_1 := blk_frozen BK459.out 1
           obtain ⟨Ao113, co113, eo113⟩ := Kd.R_slice HO465.out
           subst eo113
           try go_wp2_with (first | ((with_reducible refine gate_dst (N := 63) rfl ?_); (try (refine gate_guard (by rfl) ?_; dsimp only)); refine Kd.R_lit Kd.bool _ 4 ?hg (N := 63) ?hd (xs := ([] : List Bool)) (inner := []) (ok := fun _ => True) (okp := fun _ => True) ?hr ?hp (fun _ hk => hk) trivial (Below.refl _ _) (Nat.le_refl _) (by simp) ?_; (case hd => rfl); (case hg => rfl); (case hr => first | (go_simp; done) | (go_simp; rfl)); (case hp => exact (Reps.none _ _)); intro v467 w114 ho115 hb hg_ hnew_; clear hg_ hnew_; (first | rw [← Ny466.out] at ho115 | (simp only [Int.reduceToNat] at ho115; rw [← Ny466.out] at ho115)); have n0_ := Aside0.mk (Kd.V_elder' (by (with_reducible repeat (first | apply Kd.V_alloc | apply Kd.V_drewN | apply Kd.V_drew)); exact HO455.out) (Kd.R_base ho115) hb); have n1_ := Aside0.mk (Kd.R_below (by (with_reducible repeat (first | apply Kd.R_alloc | apply Kd.R_drewN | apply Kd.R_drew)); exact HO458.out) hb); have n2_ := Aside0.mk (Kd.R_elder' (by (with_reducible repeat (first | apply Kd.R_alloc | apply Kd.R_drewN | apply Kd.R_drew)); exact HO462.out) (Kd.R_base ho115) hb); have n3_ := Aside0.mk (Kd.R_elder' (by (with_reducible repeat (first | apply Kd.R_alloc | apply Kd.R_drewN | apply Kd.R_drew)); exact HO465.out) (Kd.R_base ho115) hb); have n4_ := Aside0.mk (Kd.R_lower (Kd.R_new' (Kd.R_new' ho115 (Kd.R_lt (by (with_reducible repeat (first | apply Kd.R_alloc | apply Kd.R_drewN | apply Kd.R_drew)); exact HO462.out))) (Kd.R_lt (by (with_reducible repeat (first | apply Kd.R_alloc | apply Kd.R_drewN | apply Kd.R_drew)); exact HO465.out))) (below_size (by repeat (first | (with_reducible first | exact HB.out | apply below_alloc | apply pw_below_drewN | apply below_drew1 | refine below_set ?_ GE459.out) | exact HB.out)))); have n5_ := Aside0.mk (blk_below (g := gb459) (o := .cells #[.int .i64 t452, .slice Ao106 t453.length co106] 28 (0, 0)) (by (with_reducible repeat (first | refine blk_drewN ?_ _ | refine blk_drew ?_ | refine blk_alloc ?_ _)); exact BK459.out) hb); have n6_ := Aside0.mk (below_step (by repeat (first | (with_reducible first | exact HB.out | apply below_alloc | apply pw_below_drewN | apply below_drew1 | refine below_set ?_ GE459.out) | exact HB.out)) hb); clear HO455; clear HO458; clear HO462; clear HO465; clear BK459; clear HB; have HO455 := n0_; have HO458 := n1_; have HO462 := n2_; have HO465 := n3_; have HO468 := n4_; have BK459 := n5_; have HB := n6_; clear n0_ n1_ n2_ n3_ n4_ n5_ n6_; clear hb ho115) | ((with_reducible refine gate_builtin (b := .append) (xs := #[.tmp 63, .tmp 64]) rfl ?_); (try (refine gate_guard (by rfl) ?_; dsimp only)); at_builtin; refine Kd.R_append_rows Kd.bool (w0 := w) w.heap.size rfl (.tmp 63) (.tmp 64) 41 4 (.bool false) 1 rfl Try.underlying41 info4 rfl (by decide) (by omega) v467 y466 l4 _ _ _ (fun k_ => some k_ ≠ (.slice Ao110 t460.length co110 : Value).ownBlock ∧ some k_ ≠ (.slice Ao113 t463.length co113 : Value).ownBlock) (fun _ => False) rfl rfl ?aO ?aR (fun _ _ h => h) (fun _ h => h.elim) ?aF ?aB ?aS ?aL ?_; (case aR => repeat (first | exact (Kd.C_below HR4.out HB.out) | (with_reducible refine Kd.C_alloc ?_ _) | (with_reducible refine Kd.C_drewN ?_ _) | (with_reducible refine Kd.C_drew ?_))); (case aB => exact (by repeat (first | (with_reducible first | exact HB.out | apply below_alloc | apply pw_below_drewN | apply below_drew1 | refine below_set ?_ GE459.out) | exact HB.out))); (case aF => exact (fun k_ hk => ⟨Kd.fresh' (Kd.R_lt (by (with_reducible repeat (first | apply Kd.R_alloc | apply Kd.R_drewN | apply Kd.R_drew)); exact HO462.out)) k_ hk, Kd.fresh' (Kd.R_lt (by (with_reducible repeat (first | apply Kd.R_alloc | apply Kd.R_drewN | apply Kd.R_drew)); exact HO465.out)) k_ hk⟩)); (case aO => exact (by (with_reducible repeat (first | apply Kd.R_alloc | apply Kd.R_drewN | apply Kd.R_drew)); exact Kd.R_mono HO468.out (fun _ hk => ⟨hk.1.2, hk.2⟩))); (case aS => exact (below_size (by repeat (first | (with_reducible first | exact HB.out | apply below_alloc | apply pw_below_drewN | apply below_drew1 | refine below_set ?_ GE459.out) | exact HB.out)))); (case aL => have := LMc17.out; omega); intro v470 w116 ho hb hg hat; rw [← Ny469.out] at ho; have n0_ := Aside0.mk (Kd.V_afterv (ok := (fun k_ => some k_ ≠ (v457 : Value).ownBlock ∧ some k_ ≠ (.slice Ao110 t460.length co110 : Value).ownBlock ∧ some k_ ≠ (.slice Ao113 t463.length co113 : Value).ownBlock ∧ k_ ≠ gb459)) (by (with_reducible repeat (first | apply Kd.V_alloc | apply Kd.V_drewN | apply Kd.V_drew)); exact Kd.V_mono HO455.out (fun _ hk => ⟨⟨hk.1.1.1.1, ⟨hk.1.1.2, ⟨hk.1.2, hk.1.1.1.2⟩⟩⟩, hk.2⟩)) hg hat); have n1_ := Aside0.mk (Kd.R_over' (by (with_reducible repeat (first | apply Kd.R_alloc | apply Kd.R_drewN | apply Kd.R_drew)); exact HO458.out) (Kd.R_typed (by (with_reducible repeat (first | apply Kd.R_alloc | apply Kd.R_drewN | apply Kd.R_drew)); exact HO468.out)) (by decide) hg); have n2_ := Aside0.mk (blk_grown (g := gb459) (o := .cells #[.int .i64 t452, .slice Ao106 t453.length co106] 28 (0, 0)) (by (with_reducible repeat (first | refine blk_drewN ?_ _ | refine blk_drew ?_ | refine blk_alloc ?_ _)); exact BK459.out) hg (Kd.R_ne HO468.out BK459.out (by decide))); have n3_ := Aside0.mk (Kd.R_after (ok := (fun k_ => some k_ ≠ (.slice Ao113 t463.length co113 : Value).ownBlock)) (by (with_reducible repeat (first | apply Kd.R_alloc | apply Kd.R_drewN | apply Kd.R_drew)); exact Kd.R_mono HO462.out (fun _ hk => ⟨hk.1.2, hk.2⟩)) hg hat); have n4_ := Aside0.mk (Kd.R_after (ok := (fun k_ => some k_ ≠ (.slice Ao110 t460.length co110 : Value).ownBlock)) (by (with_reducible repeat (first | apply Kd.R_alloc | apply Kd.R_drewN | apply Kd.R_drew)); exact Kd.R_mono HO465.out (fun _ hk => ⟨hk.1.2, hk.2⟩)) hg hat); have n5_ := Aside0.mk (hb); have n6_ := Aside0.mk (ho); clear HO455; clear HO458; clear BK459; clear HO462; clear HO465; clear HB; clear HO468; have HO455 := n0_; have HO458 := n1_; have BK459 := n2_; have HO462 := n3_; have HO465 := n4_; have HB := n5_; have HO471 := n6_; clear n0_ n1_ n2_ n3_ n4_ n5_ n6_; clear ho hb hg hat) | ((with_reducible refine gate_builtin (b := .append) (xs := #[.tmp 65, .tmp 66]) rfl ?_); (try (refine gate_guard (by rfl) ?_; dsimp only)); at_builtin; refine Kd.R_append_rows Kd.bool (w0 := w) w.heap.size rfl (.tmp 65) (.tmp 66) 41 4 (.bool false) 1 rfl Try.underlying41 info4 rfl (by decide) (by omega) v470 y469 t463 _ _ _ (fun k_ => some k_ ≠ (.slice Ao110 t460.length co110 : Value).ownBlock ∧ some k_ ≠ (.slice Ao113 t463.length co113 : Value).ownBlock) (fun _ => False) rfl rfl ?aO ?aR (fun _ _ h => h) (fun _ h => h.elim) ?aF ?aB ?aS ?aL ?_; (case aR => repeat (first | exact (Kd.R_reads' HO465.out).2.2 | (with_reducible refine Kd.C_alloc ?_ _) | (with_reducible refine Kd.C_drewN ?_ _) | (with_reducible refine Kd.C_drew ?_))); (case aB => exact (by repeat (first | (with_reducible first | exact HB.out | apply below_alloc | apply pw_below_drewN | apply below_drew1 | refine below_set ?_ GE459.out) | exact HB.out))); (case aF => exact (fun k_ hk => ⟨Kd.fresh' (Kd.R_lt (by (with_reducible repeat (first | apply Kd.R_alloc | apply Kd.R_drewN | apply Kd.R_drew)); exact HO462.out)) k_ hk, Kd.fresh' (Kd.R_lt (by (with_reducible repeat (first | apply Kd.R_alloc | apply Kd.R_drewN | apply Kd.R_drew)); exact HO465.out)) k_ hk⟩)); (case aO => exact (by (with_reducible repeat (first | apply Kd.R_alloc | apply Kd.R_drewN | apply Kd.R_drew)); exact HO471.out)); (case aS => exact (below_size (by repeat (first | (with_reducible first | exact HB.out | apply below_alloc | apply pw_below_drewN | apply below_drew1 | refine below_set ?_ GE459.out) | exact HB.out)))); (case aL => have := LMc18.out; omega); intro v473 w117 ho hb hg hat; rw [← Ny472.out] at ho; have n0_ := Aside0.mk (Kd.V_afterv (ok := (fun k_ => some k_ ≠ (v457 : Value).ownBlock ∧ some k_ ≠ (.slice Ao110 t460.length co110 : Value).ownBlock ∧ some k_ ≠ (.slice Ao113 t463.length co113 : Value).ownBlock ∧ k_ ≠ gb459)) (by (with_reducible repeat (first | apply Kd.V_alloc | apply Kd.V_drewN | apply Kd.V_drew)); exact HO455.out) hg hat); have n1_ := Aside0.mk (Kd.R_over' (by (with_reducible repeat (first | apply Kd.R_alloc | apply Kd.R_drewN | apply Kd.R_drew)); exact HO458.out) (Kd.R_typed (by (with_reducible repeat (first | apply Kd.R_alloc | apply Kd.R_drewN | apply Kd.R_drew)); exact HO471.out)) (by decide) hg); have n2_ := Aside0.mk (blk_grown (g := gb459) (o := .cells #[.int .i64 t452, .slice Ao106 t453.length co106] 28 (0, 0)) (by (with_reducible repeat (first | refine blk_drewN ?_ _ | refine blk_drew ?_ | refine blk_alloc ?_ _)); exact BK459.out) hg (Kd.R_ne HO471.out BK459.out (by decide))); have n3_ := Aside0.mk (Kd.R_after (ok := (fun k_ => some k_ ≠ (.slice Ao113 t463.length co113 : Value).ownBlock)) (by (with_reducible repeat (first | apply Kd.R_alloc | apply Kd.R_drewN | apply Kd.R_drew)); exact HO462.out) hg hat); have n4_ := Aside0.mk (Kd.R_after (ok := (fun k_ => some k_ ≠ (.slice Ao110 t460.length co110 : Value).ownBlock)) (by (with_reducible repeat (first | apply Kd.R_alloc | apply Kd.R_drewN | apply Kd.R_drew)); exact HO465.out) hg hat); have n5_ := Aside0.mk (hb); have n6_ := Aside0.mk (ho); clear HO455; clear HO458; clear BK459; clear HO462; clear HO465; clear HB; clear HO471; have HO455 := n0_; have HO458 := n1_; have BK459 := n2_; have HO462 := n3_; have HO465 := n4_; have HB := n5_; have HO474 := n6_; clear n0_ n1_ n2_ n3_ n4_ n5_ n6_; clear ho hb hg hat; have hcz118_0 : w117.cell? ⟨gb459, 0, none⟩ = some (.int .i64 t452) := (blk_cell BK459.out 0).trans rfl; have hcz118_1 : w117.cell? ⟨gb459, 1, none⟩ = some (.slice Ao106 t453.length co106) := (blk_cell BK459.out 1).trans rfl; have hfz118_0 := blk_frozen BK459.out 0; have hfz118_1 := blk_frozen BK459.out 1) | ((with_reducible refine gate_callee (f := 18) rfl ?_); refine goesL_ (some 70) rfl rfl Try.func18 (by kernel_rfl) rfl #[.agg #[.int .i64 t452, .slice Ao106 t453.length co106], .int .i64 (l4.length : Int)] rfl (by (try simp only [List.map_toArray, List.map_cons, List.map_nil]); first | done | rfl | (simp only [List.length_drop, List.length_take]; rfl)) ?_; (with_reducible refine (cnf_Clauses.calls t452 _ _ t453 (l4.length : Int) t475 _ ?side1 ?side2 A19.out).mono ?_); (case side1 => repeat (first | exact (Kd.V_reads' HO455.out).2.2 | (with_reducible refine Kd.C_alloc ?_ _) | (with_reducible refine Kd.C_drewN ?_ _) | (with_reducible refine Kd.C_drew ?_))); (case side2 => exact (Kd.V_reads' HO455.out).2.1); rintro e w119 ⟨v476, rfl, ho0, hb⟩; refine ⟨_, rfl, ?_⟩; have n0_ := Aside0.mk (Kd.V_elder' (by (with_reducible repeat (first | apply Kd.V_alloc | apply Kd.V_drewN | apply Kd.V_drew)); exact HO455.out) (Kd.N_base ho0) hb); have n1_ := Aside0.mk (Kd.R_below (by (with_reducible repeat (first | apply Kd.R_alloc | apply Kd.R_drewN | apply Kd.R_drew)); exact HO458.out) hb); have n2_ := Aside0.mk (Kd.R_below (by (with_reducible repeat (first | apply Kd.R_alloc | apply Kd.R_drewN | apply Kd.R_drew)); exact HO462.out) hb); have n3_ := Aside0.mk (Kd.R_below (by (with_reducible repeat (first | apply Kd.R_alloc | apply Kd.R_drewN | apply Kd.R_drew)); exact HO465.out) hb); have n4_ := Aside0.mk (Kd.R_below (by (with_reducible repeat (first | apply Kd.R_alloc | apply Kd.R_drewN | apply Kd.R_drew)); exact HO474.out) hb); have n5_ := Aside0.mk (Kd.N_lower (Kd.N_mono (ok' := fun k_ => some k_ ≠ (v457 : Value).ownBlock ∧ some k_ ≠ (.slice Ao110 t460.length co110 : Value).ownBlock ∧ some k_ ≠ (.slice Ao113 t463.length co113 : Value).ownBlock ∧ some k_ ≠ (v473 : Value).ownBlock ∧ k_ ≠ gb459) ho0 (fun k_ hk_ => ⟨(Kd.fresh' (Kd.R_lt (by (with_reducible repeat (first | apply Kd.R_alloc | apply Kd.R_drewN | apply Kd.R_drew)); exact HO458.out)) k_ hk_), (Kd.fresh' (Kd.R_lt (by (with_reducible repeat (first | apply Kd.R_alloc | apply Kd.R_drewN | apply Kd.R_drew)); exact HO462.out)) k_ hk_), (Kd.fresh' (Kd.R_lt (by (with_reducible repeat (first | apply Kd.R_alloc | apply Kd.R_drewN | apply Kd.R_drew)); exact HO465.out)) k_ hk_), (Kd.fresh' (Kd.R_lt (by (with_reducible repeat (first | apply Kd.R_alloc | apply Kd.R_drewN | apply Kd.R_drew)); exact HO474.out)) k_ hk_), (Kd.freshB (g := gb459) (o := .cells #[.int .i64 t452, .slice Ao106 t453.length co106] 28 (0, 0)) (by (with_reducible repeat (first | refine blk_drewN ?_ _ | refine blk_drew ?_ | refine blk_alloc ?_ _)); exact BK459.out) k_ hk_)⟩)) (below_size (by repeat (first | (with_reducible first | exact HB.out | apply below_alloc | apply pw_below_drewN | apply below_drew1 | refine below_set ?_ GE459.out) | exact HB.out)))); have n6_ := Aside0.mk (blk_below (g := gb459) (o := .cells #[.int .i64 t452, .slice Ao106 t453.length co106] 28 (0, 0)) (by (with_reducible repeat (first | refine blk_drewN ?_ _ | refine blk_drew ?_ | refine blk_alloc ?_ _)); exact BK459.out) hb); have n7_ := Aside0.mk (below_step (by repeat (first | (with_reducible first | exact HB.out | apply below_alloc | apply pw_below_drewN | apply below_drew1 | refine below_set ?_ GE459.out) | exact HB.out)) hb); clear HO455; clear HO458; clear HO462; clear HO465; clear HO474; clear BK459; clear HB; have HO455 := n0_; have HO458 := n1_; have HO462 := n2_; have HO465 := n3_; have HO474 := n4_; have HO477 := n5_; have BK459 := n6_; have HB := n7_; clear n0_ n1_ n2_ n3_ n4_ n5_ n6_ n7_; (try clear hb); (try clear hb2); (try clear hk); (try clear hi); (try clear ho0); obtain ⟨Ao120, co120, eo120⟩ := Kd.R_slice HO474.out; subst eo120; obtain ⟨Ao121, co121, eo121⟩ := Kd.N_slice HO477.out; subst eo121) | ((with_reducible refine gate_callee (f := 20) rfl ?_); refine goesL_ (some 75) rfl rfl Try.func20 (by kernel_rfl) rfl #[.slice Ao121 t475.length co121, .int .i64 (l4.length : Int), .int .i64 (y472.length : Int)] rfl (by (try simp only [List.map_toArray, List.map_cons, List.map_nil]); first | done | rfl | (simp only [List.length_drop, List.length_take]; rfl)) ?_; (with_reducible refine (proofmarklaw17_within.calls kj6 _ _ t475 (l4.length : Int) (y472.length : Int) true _ ?side1 ?side2 A20.out).mono ?_); (case side1 => repeat (first | exact (Kd.N_reads' HO477.out).2.2 | (with_reducible refine Kd.C_alloc ?_ _) | (with_reducible refine Kd.C_drewN ?_ _) | (with_reducible refine Kd.C_drew ?_))); (case side2 => exact (Kd.N_reads' HO477.out).2.1); rintro e w122 ⟨rfl, hb⟩; refine ⟨_, rfl, ?_⟩; have n0_ := Aside0.mk (Kd.V_below (by (with_reducible repeat (first | apply Kd.V_alloc | apply Kd.V_drewN | apply Kd.V_drew)); exact HO455.out) hb); have n1_ := Aside0.mk (Kd.R_below (by (with_reducible repeat (first | apply Kd.R_alloc | apply Kd.R_drewN | apply Kd.R_drew)); exact HO458.out) hb); have n2_ := Aside0.mk (Kd.R_below (by (with_reducible repeat (first | apply Kd.R_alloc | apply Kd.R_drewN | apply Kd.R_drew)); exact HO462.out) hb); have n3_ := Aside0.mk (Kd.R_below (by (with_reducible repeat (first | apply Kd.R_alloc | apply Kd.R_drewN | apply Kd.R_drew)); exact HO465.out) hb); have n4_ := Aside0.mk (Kd.R_below (by (with_reducible repeat (first | apply Kd.R_alloc | apply Kd.R_drewN | apply Kd.R_drew)); exact HO474.out) hb); have n5_ := Aside0.mk (Kd.N_below (by (with_reducible repeat (first | apply Kd.N_alloc | apply Kd.N_drewN | apply Kd.N_drew)); exact HO477.out) hb); have n6_ := Aside0.mk (blk_below (g := gb459) (o := .cells #[.int .i64 t452, .slice Ao106 t453.length co106] 28 (0, 0)) (by (with_reducible repeat (first | refine blk_drewN ?_ _ | refine blk_drew ?_ | refine blk_alloc ?_ _)); exact BK459.out) hb); have n7_ := Aside0.mk (below_step (by repeat (first | (with_reducible first | exact HB.out | apply below_alloc | apply pw_below_drewN | apply below_drew1 | refine below_set ?_ GE459.out) | exact HB.out)) hb); clear HO455; clear HO458; clear HO462; clear HO465; clear HO474; clear HO477; clear BK459; clear HB; have HO455 := n0_; have HO458 := n1_; have HO462 := n2_; have HO465 := n3_; have HO474 := n4_; have HO477 := n5_; have BK459 := n6_; have HB := n7_; clear n0_ n1_ n2_ n3_ n4_ n5_ n6_ n7_; (try clear hb); (try clear hb2); (try clear hk); (try clear hi)) | ((with_reducible refine gate_callee (f := 15) rfl ?_); refine goesL_ (some 79) rfl rfl Try.func15 (by kernel_rfl) rfl #[.int .i64 (Int.tmod (wrap64 (a3)) (wrap64 (2 * (wrap64 ((wrap64 (1 + t452)) + (t453.length : Int)))))), .int .i64 (l4.length : Int)] rfl (by (try simp only [List.map_toArray, List.map_cons, List.map_nil]); first | done | rfl | (simp only [List.length_drop, List.length_take]; rfl)) ?_; (with_reducible refine (cnf_Of.calls (Int.tmod (wrap64 (a3)) (wrap64 (2 * (wrap64 ((wrap64 (1 + t452)) + (t453.length : Int)))))) (l4.length : Int) t479 _ A22.out).mono ?_); rintro e w' ⟨rfl, ⟨nd, rfl⟩⟩; refine ⟨_, rfl, ?_⟩))
           go_ret
           exact ⟨by first | rfl | (simp [errW_none, errW_some] <;> rfl) | (simp only [← hji24]; first | rfl | (simp [errW_none, errW_some] <;> rfl)) | (simp [*, errW_none, errW_some] <;> rfl), by repeat (first | (with_reducible first | exact HB.out | apply below_alloc | apply pw_below_drewN | apply below_drew1 | refine below_set ?_ GE459.out) | exact HB.out)⟩
         ·replace c23 := Bool.eq_false_iff.mpr c23
          subst c23
          have H1 : (some false) = some r := by rw [if_neg (show ¬ (false = true) by decide)] at H; exact H
          clear H
          have H := H1
          clear H1
          obtain rfl := Option.some.inj H
          try go_wp2_with (first | ((with_reducible refine gate_callee (f := 12) rfl ?_); refine goesL_ (some 32) rfl rfl Try.func12 (by kernel_rfl) rfl #[.int .u8 a0, .slice A1 l1.length c1] rfl (by (try simp only [List.map_toArray, List.map_cons, List.map_nil]); first | done | rfl | (simp only [List.length_drop, List.length_take]; rfl)) ?_; (with_reducible refine (proofmarklaw13_Made.calls kj6 a0 _ _ l1 t452 t453 t456 _ ?side1 ?side2 A12.out).mono ?_); (case side1 => repeat (first | exact (Kd.C_below HR1.out HB.out) | (with_reducible refine Kd.C_alloc ?_ _) | (with_reducible refine Kd.C_drewN ?_ _) | (with_reducible refine Kd.C_drew ?_))); (case side2 => exact HC1.out); rintro e w123 ⟨v454, v457, rfl, ho0, ho1, hb⟩; refine ⟨_, rfl, ?_⟩; have n0_ := Aside0.mk (Kd.V_lower (Kd.V_mono (ok' := fun k_ => some k_ ≠ (v457 : Value).ownBlock) ho0 (fun k_ hk_ => hk_.2)) (below_size (by repeat (first | (with_reducible first | exact HB.out | apply below_alloc | apply pw_below_drewN | apply below_drew1) | exact HB.out)))); have n1_ := Aside0.mk (Kd.R_lower (Kd.R_mono (ok' := fun k_ => True) ho1 (fun _ hk_ => trivial)) (below_size (by repeat (first | (with_reducible first | exact HB.out | apply below_alloc | apply pw_below_drewN | apply below_drew1) | exact HB.out)))); have n2_ := Aside0.mk (below_step (by repeat (first | (with_reducible first | exact HB.out | apply below_alloc | apply pw_below_drewN | apply below_drew1) | exact HB.out)) hb); clear HB; have HO455 := n0_; have HO458 := n1_; have HB := n2_; clear n0_ n1_ n2_; (try clear hb); (try clear hb2); (try clear hk); (try clear hi); (try clear ho0); (try clear ho1)) | ((with_reducible refine gate_dst (N := 12) rfl ?_); (try (refine gate_guard (by rfl) ?_; dsimp only)); refine box_event ?hg (N := 12) ?hd (cs := #[.int .i64 0, .slice none 0 0]) (t := 28) ?hr ?_; (case hd => rfl); (case hg => rfl); (case hr => first | (go_simp; done) | (go_simp; rfl)); intro gb459 hg w124 hbox hb; have n0_ := Aside0.mk (Kd.V_below (Kd.V_elderB (by (with_reducible repeat (first | apply Kd.V_alloc | apply Kd.V_drewN | apply Kd.V_drew)); exact HO455.out) gb459 (Nat.le_of_eq hg.symm)) hb); have n1_ := Aside0.mk (Kd.R_below (by (with_reducible repeat (first | apply Kd.R_alloc | apply Kd.R_drewN | apply Kd.R_drew)); exact HO458.out) hb); have n2_ := Aside0.mk (below_step (by repeat (first | (with_reducible first | exact HB.out | apply below_alloc | apply pw_below_drewN | apply below_drew1) | exact HB.out)) hb); have n3_ := Aside0.mk (hbox); have n4_ := Aside0.mk ((by rw [hg]; exact (below_size (by repeat (first | (with_reducible first | exact HB.out | apply below_alloc | apply pw_below_drewN | apply below_drew1) | exact HB.out))) : w.heap.size ≤ gb459)); have n5_ := Aside0.mk ((by rw [hg]; exact (below_size (by repeat (first | (with_reducible first | exact HB.out | apply below_alloc | apply pw_below_drewN | apply below_drew1) | exact HB.out))) : w.heap.size ≤ gb459)); clear HO455; clear HO458; clear HB; have HO455 := n0_; have HO458 := n1_; have HB := n2_; have BK459 := n3_; have GW459 := n4_; have GE459 := n5_; clear n0_ n1_ n2_ n3_ n4_ n5_; clear hb hbox hg; have hcz125_0 : w124.cell? ⟨gb459, 0, none⟩ = some (.int .i64 0) := (blk_cell BK459.out 0).trans rfl; have hcz125_1 : w124.cell? ⟨gb459, 1, none⟩ = some (.slice none 0 0) := (blk_cell BK459.out 1).trans rfl; have hfz125_0 := blk_frozen BK459.out 0; have hfz125_1 := blk_frozen BK459.out 1; obtain ⟨Ao126, co126, eo126⟩ := Kd.V_slice HO455.out; subst eo126))
          have n0_ : Aside0 (Kd.V k49 49 ((w124.setCell ⟨gb459, 0, none⟩ (.int .i64 t452)).setCell ⟨gb459, 1, none⟩ (.slice Ao126 t453.length co126)) w.heap.size (fun k_ => some k_ ≠ (v457 : Value).ownBlock ∧ k_ ≠ gb459) (.slice Ao126 t453.length co126) t453) := ⟨by (with_reducible repeat (first | apply Kd.V_alloc | apply Kd.V_drewN | apply Kd.V_drew)); exact Kd.V_mono (Kd.V_far (p := ⟨gb459, 1, none⟩) (Kd.V_far (p := ⟨gb459, 0, none⟩) (Kd.V_mono HO455.out (fun k_ hk => (⟨hk, hk.2⟩ : _ ∧ k_ ≠ gb459))) (fun _ hk => hk.2) (.int .i64 t452)) (fun _ hk => hk.2) (.slice Ao126 t453.length co126)) (fun _ hk => ⟨hk.1.1, hk.1.2⟩)⟩
          have n1_ : Aside0 (Kd.R (Kd.int .i64) 3 ((w124.setCell ⟨gb459, 0, none⟩ (.int .i64 t452)).setCell ⟨gb459, 1, none⟩ (.slice Ao126 t453.length co126)) w.heap.size (fun _ => True) v457 t456) := ⟨by (with_reducible repeat (first | apply Kd.R_alloc | apply Kd.R_drewN | apply Kd.R_drew)); exact Kd.R_mono (Kd.R_far (p := ⟨gb459, 1, none⟩) (Kd.R_far (p := ⟨gb459, 0, none⟩) (Kd.R_types HO458.out BK459.out (by decide)) (fun _ hk => hk.2) (.int .i64 t452)) (fun _ hk => hk.2) (.slice Ao126 t453.length co126)) (fun _ hk => trivial)⟩
          have n2_ : Aside0 (((w124.setCell ⟨gb459, 0, none⟩ (.int .i64 t452)).setCell ⟨gb459, 1, none⟩ (.slice Ao126 t453.length co126)).heap[gb459]? = some (.cells #[.int .i64 t452, .slice Ao126 t453.length co126] 28 (0, 0))) := ⟨by (with_reducible repeat (first | refine blk_drewN ?_ _ | refine blk_drew ?_ | refine blk_alloc ?_ _)); refine blk_put (cs := #[.int .i64 t452, .slice none 0 0]) ?_ 1 _ rfl; (with_reducible repeat (first | refine blk_drewN ?_ _ | refine blk_drew ?_ | refine blk_alloc ?_ _)); refine blk_put (cs := #[.int .i64 0, .slice none 0 0]) ?_ 0 _ rfl; (with_reducible repeat (first | refine blk_drewN ?_ _ | refine blk_drew ?_ | refine blk_alloc ?_ _)); exact BK459.out⟩
          have n3_ : Aside0 (Below w.heap.size w ((w124.setCell ⟨gb459, 0, none⟩ (.int .i64 t452)).setCell ⟨gb459, 1, none⟩ (.slice Ao126 t453.length co126))) := ⟨by repeat (first | (with_reducible first | exact HB.out | apply below_alloc | apply pw_below_drewN | apply below_drew1 | refine below_set ?_ GE459.out) | exact HB.out)⟩
          (try clear HO455)
          (try clear HO458)
          (try clear BK459)
          (try clear HB)
          generalize ((w124.setCell ⟨gb459, 0, none⟩ (.int .i64 t452)).setCell ⟨gb459, 1, none⟩ (.slice Ao126 t453.length co126)) = w127 at n0_ n1_ n2_ n3_ ⊢
          have HO455 := n0_
          have HO458 := n1_
          have BK459 := n2_
          have HB := n3_
          clear n0_ n1_ n2_ n3_
          have n0_ := Aside0.mk (Kd.V_drew HO455.out)
          have n1_ := Aside0.mk (Kd.R_drew HO458.out)
          have n2_ := Aside0.mk (blk_drew BK459.out)
          have n3_ := Aside0.mk (below_drew1 HB.out)
          clear HO455
          clear HO458
          clear BK459
          clear HB
          have HO455 := n0_
          have HO458 := n1_
          have BK459 := n2_
          have HB := n3_
          clear n0_ n1_ n2_ n3_
          refine start_ (n := 6) (S := fun w' => w'.cell? ⟨gb459, 0, none⟩ = some (.int .i64 t452) ∧ w'.cell? ⟨gb459, 1, none⟩ = some (.slice Ao126 t453.length co126)) (ds := []) #[false, false, false, false, false, false] (by kernel_rfl) rfl rfl ⟨(blk_cell BK459.out 0).trans rfl, (blk_cell BK459.out 1).trans rfl⟩ (fun hHeld => ?_)
          generalize w127.drew = w128 at HO455 HO458 BK459 HB hHeld ⊢
          refine pure_ (i := 2) (N := some 37) (v := ?_) (a' := ?_) #[false, false, true, false, false, false] rfl rfl (by kernel_rfl) (fun _ _ _ h => h) (Or.inl ⟨by rfl, ?_⟩) ?_ ?_
          rotate_left
          ·intro w'
           go_simp
           with_reducible rfl
          rotate_left
          ·simp only [Act.put, List.setIfInBounds_toArray, List.set_cons_zero, List.set_cons_succ, i64_w, i32_w]
           rfl
          refine take_ (i := 0) (N := some 35) (v := ?_) (a' := ?_) #[true, false, true, false, false, false] rfl rfl (by kernel_rfl) (fun _ _ _ h => h) (Or.inl ⟨by rfl, ?_⟩) hHeld ?_ ?_
          rotate_left
          ·rintro w' ⟨s0, s1⟩
           go_simp
           with_reducible rfl
          rotate_left
          ·simp only [Act.put, List.setIfInBounds_toArray, List.set_cons_zero, List.set_cons_succ, i64_w, i32_w]
           rfl
          refine take_ (i := 1) (N := some 36) (v := ?_) (a' := ?_) #[true, true, true, false, false, false] rfl rfl (by kernel_rfl) (fun _ _ _ h => h) (Or.inl ⟨by rfl, ?_⟩) hHeld ?_ ?_
          rotate_left
          ·rintro w' ⟨s0, s1⟩
           go_simp
           with_reducible rfl
          rotate_left
          ·simp only [Act.put, List.setIfInBounds_toArray, List.set_cons_zero, List.set_cons_succ, i64_w, i32_w]
           rfl
          refine one_ (i := 3) (N := some 38) #[true, true, true, true, false, false] rfl rfl (by kernel_rfl) (by decide) (fun K hK => ?_)
          refine goes_ Try.func22 (by kernel_rfl) rfl #[.agg #[.int .i64 t452, .slice Ao126 t453.length co126], .slice A2 l2.length c2] (by rfl) rfl rfl (by (try simp only [List.map_toArray, List.map_cons, List.map_nil]); first | done | rfl | (simp only [List.length_drop, List.length_take]; rfl)) ?_
          with_reducible refine (proofmarklaw13_Bits.calls kj6 t452 _ _ t453 _ _ l2 t460 _ ?side1 ?side2 ?side3 ?side4 A13.out).mono ?_
          (case side1 => repeat (first | exact (Kd.V_reads' HO455.out).2.2 | (with_reducible refine Kd.C_alloc ?_ _) | (with_reducible refine Kd.C_drewN ?_ _) | (with_reducible refine Kd.C_drew ?_)))
          (case side2 => exact (Kd.V_reads' HO455.out).2.1)
          (case side3 => repeat (first | exact (Kd.C_below HR2.out HB.out) | (with_reducible refine Kd.C_alloc ?_ _) | (with_reducible refine Kd.C_drewN ?_ _) | (with_reducible refine Kd.C_drew ?_)))
          (case side4 => exact HC2.out)
          rintro e w129 ⟨v461, rfl, ho0, hb⟩
          refine ⟨_, rfl, ?_⟩
          have n0_ := Aside0.mk (Kd.V_elder' (by (with_reducible repeat (first | apply Kd.V_alloc | apply Kd.V_drewN | apply Kd.V_drew)); exact HO455.out) (Kd.R_base ho0) hb)
          have n1_ := Aside0.mk (Kd.R_below (by (with_reducible repeat (first | apply Kd.R_alloc | apply Kd.R_drewN | apply Kd.R_drew)); exact HO458.out) hb)
          have n2_ := Aside0.mk (Kd.R_lower ho0 (below_size (by repeat (first | (with_reducible first | exact HB.out | apply below_alloc | apply pw_below_drewN | apply below_drew1 | refine below_set ?_ GE459.out) | exact HB.out))))
          have n3_ := Aside0.mk (blk_below (g := gb459) (o := .cells #[.int .i64 t452, .slice Ao126 t453.length co126] 28 (0, 0)) (by (with_reducible repeat (first | refine blk_drewN ?_ _ | refine blk_drew ?_ | refine blk_alloc ?_ _)); exact BK459.out) hb)
          have n4_ := Aside0.mk (below_step (by repeat (first | (with_reducible first | exact HB.out | apply below_alloc | apply pw_below_drewN | apply below_drew1 | refine below_set ?_ GE459.out) | exact HB.out)) hb)
          clear HO455
          clear HO458
          clear BK459
          clear HB
          have HO455 := n0_
          have HO458 := n1_
          have HO462 := n2_
          have BK459 := n3_
          have HB := n4_
          clear n0_ n1_ n2_ n3_ n4_
          (try clear hb)
          (try clear hb2)
          (try clear hk)
          (try clear hi)
          (try clear ho0)
          obtain ⟨Ao130, co130, eo130⟩ := Kd.R_slice HO462.out
          (first | subst eo130 | (injection eo130 with f1_ f2_ f3_; have f4_ := f1_.symm; have f5_ := f3_.symm; clear f1_ f2_ f3_; subst f4_; subst f5_))
          refine hK.out _ _ ⟨(blk_cell BK459.out 0).trans rfl, (blk_cell BK459.out 1).trans rfl⟩ (fun hHeld => ?_)
          clear hK K
          refine norm_ (a' := ?_) ?_ ?_
          rotate_left
          ·show Act.put _ (some 38) _ = _
           simp only [Act.put, List.setIfInBounds_toArray, List.set_cons_zero, List.set_cons_succ, i64_w, i32_w]
           rfl
          refine one_ (i := 4) (N := some 39) #[true, true, true, true, true, false] rfl rfl (by kernel_rfl) (by decide) (fun K hK => ?_)
          refine goes_ Try.func21 (by kernel_rfl) rfl #[.agg #[.int .i64 t452, .slice Ao126 t453.length co126], .slice Ao130 t460.length co130] (by rfl) rfl rfl (by (try simp only [List.map_toArray, List.map_cons, List.map_nil]); first | done | rfl | (simp only [List.length_drop, List.length_take]; rfl)) ?_
          with_reducible refine (aig_Eval.calls kj6 t452 _ _ t453 _ _ t460 t463 _ ?side1 ?side2 ?side3 ?side4 A14.out).mono ?_
          (case side1 => repeat (first | exact (Kd.V_reads' HO455.out).2.2 | (with_reducible refine Kd.C_alloc ?_ _) | (with_reducible refine Kd.C_drewN ?_ _) | (with_reducible refine Kd.C_drew ?_)))
          (case side2 => exact (Kd.V_reads' HO455.out).2.1)
          (case side3 => repeat (first | exact (Kd.R_reads' HO462.out).2.2 | (with_reducible refine Kd.C_alloc ?_ _) | (with_reducible refine Kd.C_drewN ?_ _) | (with_reducible refine Kd.C_drew ?_)))
          (case side4 => exact (Kd.R_reads' HO462.out).2.1)
          rintro e w131 ⟨v464, rfl, ho0, hb⟩
          refine ⟨_, rfl, ?_⟩
          have n0_ := Aside0.mk (Kd.V_elder' (by (with_reducible repeat (first | apply Kd.V_alloc | apply Kd.V_drewN | apply Kd.V_drew)); exact HO455.out) (Kd.R_base ho0) hb)
          have n1_ := Aside0.mk (Kd.R_below (by (with_reducible repeat (first | apply Kd.R_alloc | apply Kd.R_drewN | apply Kd.R_drew)); exact HO458.out) hb)
          have n2_ := Aside0.mk (Kd.R_elder' (by (with_reducible repeat (first | apply Kd.R_alloc | apply Kd.R_drewN | apply Kd.R_drew)); exact HO462.out) (Kd.R_base ho0) hb)
          have n3_ := Aside0.mk (Kd.R_lower (Kd.R_new' ho0 (Kd.R_lt (by (with_reducible repeat (first | apply Kd.R_alloc | apply Kd.R_drewN | apply Kd.R_drew)); exact HO462.out))) (below_size (by repeat (first | (with_reducible first | exact HB.out | apply below_alloc | apply pw_below_drewN | apply below_drew1 | refine below_set ?_ GE459.out) | exact HB.out))))
          have n4_ := Aside0.mk (blk_below (g := gb459) (o := .cells #[.int .i64 t452, .slice Ao126 t453.length co126] 28 (0, 0)) (by (with_reducible repeat (first | refine blk_drewN ?_ _ | refine blk_drew ?_ | refine blk_alloc ?_ _)); exact BK459.out) hb)
          have n5_ := Aside0.mk (below_step (by repeat (first | (with_reducible first | exact HB.out | apply below_alloc | apply pw_below_drewN | apply below_drew1 | refine below_set ?_ GE459.out) | exact HB.out)) hb)
          clear HO455
          clear HO458
          clear HO462
          clear BK459
          clear HB
          have HO455 := n0_
          have HO458 := n1_
          have HO462 := n2_
          have HO465 := n3_
          have BK459 := n4_
          have HB := n5_
          clear n0_ n1_ n2_ n3_ n4_ n5_
          (try clear hb)
          (try clear hb2)
          (try clear hk)
          (try clear hi)
          (try clear ho0)
          refine hK.out _ _ ⟨(blk_cell BK459.out 0).trans rfl, (blk_cell BK459.out 1).trans rfl⟩ (fun hHeld => ?_)
          clear hK K
          refine norm_ (a' := ?_) ?_ ?_
          rotate_left
          ·show Act.put _ (some 39) _ = _
           simp only [Act.put, List.setIfInBounds_toArray, List.set_cons_zero, List.set_cons_succ, i64_w, i32_w]
           rfl
          refine pure_ (i := 5) (N := some 14) (v := ?_) (a' := ?_) #[true, true, true, true, true, true] rfl rfl (by kernel_rfl) (fun _ _ _ h => h) (Or.inl ⟨by rfl, ?_⟩) ?_ ?_
          rotate_left
          ·intro w'
           go_simp
           with_reducible rfl
          rotate_left
          ·simp only [Act.put, List.setIfInBounds_toArray, List.set_cons_zero, List.set_cons_succ, i64_w, i32_w]
           rfl
          refine done_ (by kernel_rfl) ?_
          have hcz132_0 : w131.cell? ⟨gb459, 0, none⟩ = some (.int .i64 t452) := (blk_cell BK459.out 0).trans rfl
          have hcz132_1 : w131.cell? ⟨gb459, 1, none⟩ = some (.slice Ao126 t453.length co126) := (blk_cell BK459.out 1).trans rfl
          have hfz132_0 := blk_frozen BK459.out 0
          have hfz132_1 := blk_frozen BK459.out 1
          obtain ⟨Ao133, co133, eo133⟩ := Kd.R_slice HO465.out
          subst eo133
          try go_wp2_with (first | ((with_reducible refine gate_dst (N := 63) rfl ?_); (try (refine gate_guard (by rfl) ?_; dsimp only)); refine Kd.R_lit Kd.bool _ 4 ?hg (N := 63) ?hd (xs := ([] : List Bool)) (inner := []) (ok := fun _ => True) (okp := fun _ => True) ?hr ?hp (fun _ hk => hk) trivial (Below.refl _ _) (Nat.le_refl _) (by simp) ?_; (case hd => rfl); (case hg => rfl); (case hr => first | (go_simp; done) | (go_simp; rfl)); (case hp => exact (Reps.none _ _)); intro v467 w134 ho135 hb hg_ hnew_; clear hg_ hnew_; (first | rw [← Ny466.out] at ho135 | (simp only [Int.reduceToNat] at ho135; rw [← Ny466.out] at ho135)); have n0_ := Aside0.mk (Kd.V_elder' (by (with_reducible repeat (first | apply Kd.V_alloc | apply Kd.V_drewN | apply Kd.V_drew)); exact HO455.out) (Kd.R_base ho135) hb); have n1_ := Aside0.mk (Kd.R_below (by (with_reducible repeat (first | apply Kd.R_alloc | apply Kd.R_drewN | apply Kd.R_drew)); exact HO458.out) hb); have n2_ := Aside0.mk (Kd.R_elder' (by (with_reducible repeat (first | apply Kd.R_alloc | apply Kd.R_drewN | apply Kd.R_drew)); exact HO462.out) (Kd.R_base ho135) hb); have n3_ := Aside0.mk (Kd.R_elder' (by (with_reducible repeat (first | apply Kd.R_alloc | apply Kd.R_drewN | apply Kd.R_drew)); exact HO465.out) (Kd.R_base ho135) hb); have n4_ := Aside0.mk (Kd.R_lower (Kd.R_new' (Kd.R_new' ho135 (Kd.R_lt (by (with_reducible repeat (first | apply Kd.R_alloc | apply Kd.R_drewN | apply Kd.R_drew)); exact HO462.out))) (Kd.R_lt (by (with_reducible repeat (first | apply Kd.R_alloc | apply Kd.R_drewN | apply Kd.R_drew)); exact HO465.out))) (below_size (by repeat (first | (with_reducible first | exact HB.out | apply below_alloc | apply pw_below_drewN | apply below_drew1 | refine below_set ?_ GE459.out) | exact HB.out)))); have n5_ := Aside0.mk (blk_below (g := gb459) (o := .cells #[.int .i64 t452, .slice Ao126 t453.length co126] 28 (0, 0)) (by (with_reducible repeat (first | refine blk_drewN ?_ _ | refine blk_drew ?_ | refine blk_alloc ?_ _)); exact BK459.out) hb); have n6_ := Aside0.mk (below_step (by repeat (first | (with_reducible first | exact HB.out | apply below_alloc | apply pw_below_drewN | apply below_drew1 | refine below_set ?_ GE459.out) | exact HB.out)) hb); clear HO455; clear HO458; clear HO462; clear HO465; clear BK459; clear HB; have HO455 := n0_; have HO458 := n1_; have HO462 := n2_; have HO465 := n3_; have HO468 := n4_; have BK459 := n5_; have HB := n6_; clear n0_ n1_ n2_ n3_ n4_ n5_ n6_; clear hb ho135) | ((with_reducible refine gate_builtin (b := .append) (xs := #[.tmp 63, .tmp 64]) rfl ?_); (try (refine gate_guard (by rfl) ?_; dsimp only)); at_builtin; refine Kd.R_append_rows Kd.bool (w0 := w) w.heap.size rfl (.tmp 63) (.tmp 64) 41 4 (.bool false) 1 rfl Try.underlying41 info4 rfl (by decide) (by omega) v467 y466 l4 _ _ _ (fun k_ => some k_ ≠ (.slice Ao130 t460.length co130 : Value).ownBlock ∧ some k_ ≠ (.slice Ao133 t463.length co133 : Value).ownBlock) (fun _ => False) rfl rfl ?aO ?aR (fun _ _ h => h) (fun _ h => h.elim) ?aF ?aB ?aS ?aL ?_; (case aR => repeat (first | exact (Kd.C_below HR4.out HB.out) | (with_reducible refine Kd.C_alloc ?_ _) | (with_reducible refine Kd.C_drewN ?_ _) | (with_reducible refine Kd.C_drew ?_))); (case aB => exact (by repeat (first | (with_reducible first | exact HB.out | apply below_alloc | apply pw_below_drewN | apply below_drew1 | refine below_set ?_ GE459.out) | exact HB.out))); (case aF => exact (fun k_ hk => ⟨Kd.fresh' (Kd.R_lt (by (with_reducible repeat (first | apply Kd.R_alloc | apply Kd.R_drewN | apply Kd.R_drew)); exact HO462.out)) k_ hk, Kd.fresh' (Kd.R_lt (by (with_reducible repeat (first | apply Kd.R_alloc | apply Kd.R_drewN | apply Kd.R_drew)); exact HO465.out)) k_ hk⟩)); (case aO => exact (by (with_reducible repeat (first | apply Kd.R_alloc | apply Kd.R_drewN | apply Kd.R_drew)); exact Kd.R_mono HO468.out (fun _ hk => ⟨hk.1.2, hk.2⟩))); (case aS => exact (below_size (by repeat (first | (with_reducible first | exact HB.out | apply below_alloc | apply pw_below_drewN | apply below_drew1 | refine below_set ?_ GE459.out) | exact HB.out)))); (case aL => have := LMc17.out; omega); intro v470 w136 ho hb hg hat; rw [← Ny469.out] at ho; have n0_ := Aside0.mk (Kd.V_afterv (ok := (fun k_ => some k_ ≠ (v457 : Value).ownBlock ∧ some k_ ≠ (.slice Ao130 t460.length co130 : Value).ownBlock ∧ some k_ ≠ (.slice Ao133 t463.length co133 : Value).ownBlock ∧ k_ ≠ gb459)) (by (with_reducible repeat (first | apply Kd.V_alloc | apply Kd.V_drewN | apply Kd.V_drew)); exact Kd.V_mono HO455.out (fun _ hk => ⟨⟨hk.1.1.1.1, ⟨hk.1.1.2, ⟨hk.1.2, hk.1.1.1.2⟩⟩⟩, hk.2⟩)) hg hat); have n1_ := Aside0.mk (Kd.R_over' (by (with_reducible repeat (first | apply Kd.R_alloc | apply Kd.R_drewN | apply Kd.R_drew)); exact HO458.out) (Kd.R_typed (by (with_reducible repeat (first | apply Kd.R_alloc | apply Kd.R_drewN | apply Kd.R_drew)); exact HO468.out)) (by decide) hg); have n2_ := Aside0.mk (blk_grown (g := gb459) (o := .cells #[.int .i64 t452, .slice Ao126 t453.length co126] 28 (0, 0)) (by (with_reducible repeat (first | refine blk_drewN ?_ _ | refine blk_drew ?_ | refine blk_alloc ?_ _)); exact BK459.out) hg (Kd.R_ne HO468.out BK459.out (by decide))); have n3_ := Aside0.mk (Kd.R_after (ok := (fun k_ => some k_ ≠ (.slice Ao133 t463.length co133 : Value).ownBlock)) (by (with_reducible repeat (first | apply Kd.R_alloc | apply Kd.R_drewN | apply Kd.R_drew)); exact Kd.R_mono HO462.out (fun _ hk => ⟨hk.1.2, hk.2⟩)) hg hat); have n4_ := Aside0.mk (Kd.R_after (ok := (fun k_ => some k_ ≠ (.slice Ao130 t460.length co130 : Value).ownBlock)) (by (with_reducible repeat (first | apply Kd.R_alloc | apply Kd.R_drewN | apply Kd.R_drew)); exact Kd.R_mono HO465.out (fun _ hk => ⟨hk.1.2, hk.2⟩)) hg hat); have n5_ := Aside0.mk (hb); have n6_ := Aside0.mk (ho); clear HO455; clear HO458; clear BK459; clear HO462; clear HO465; clear HB; clear HO468; have HO455 := n0_; have HO458 := n1_; have BK459 := n2_; have HO462 := n3_; have HO465 := n4_; have HB := n5_; have HO471 := n6_; clear n0_ n1_ n2_ n3_ n4_ n5_ n6_; clear ho hb hg hat) | ((with_reducible refine gate_builtin (b := .append) (xs := #[.tmp 65, .tmp 66]) rfl ?_); (try (refine gate_guard (by rfl) ?_; dsimp only)); at_builtin; refine Kd.R_append_rows Kd.bool (w0 := w) w.heap.size rfl (.tmp 65) (.tmp 66) 41 4 (.bool false) 1 rfl Try.underlying41 info4 rfl (by decide) (by omega) v470 y469 t463 _ _ _ (fun k_ => some k_ ≠ (.slice Ao130 t460.length co130 : Value).ownBlock ∧ some k_ ≠ (.slice Ao133 t463.length co133 : Value).ownBlock) (fun _ => False) rfl rfl ?aO ?aR (fun _ _ h => h) (fun _ h => h.elim) ?aF ?aB ?aS ?aL ?_; (case aR => repeat (first | exact (Kd.R_reads' HO465.out).2.2 | (with_reducible refine Kd.C_alloc ?_ _) | (with_reducible refine Kd.C_drewN ?_ _) | (with_reducible refine Kd.C_drew ?_))); (case aB => exact (by repeat (first | (with_reducible first | exact HB.out | apply below_alloc | apply pw_below_drewN | apply below_drew1 | refine below_set ?_ GE459.out) | exact HB.out))); (case aF => exact (fun k_ hk => ⟨Kd.fresh' (Kd.R_lt (by (with_reducible repeat (first | apply Kd.R_alloc | apply Kd.R_drewN | apply Kd.R_drew)); exact HO462.out)) k_ hk, Kd.fresh' (Kd.R_lt (by (with_reducible repeat (first | apply Kd.R_alloc | apply Kd.R_drewN | apply Kd.R_drew)); exact HO465.out)) k_ hk⟩)); (case aO => exact (by (with_reducible repeat (first | apply Kd.R_alloc | apply Kd.R_drewN | apply Kd.R_drew)); exact HO471.out)); (case aS => exact (below_size (by repeat (first | (with_reducible first | exact HB.out | apply below_alloc | apply pw_below_drewN | apply below_drew1 | refine below_set ?_ GE459.out) | exact HB.out)))); (case aL => have := LMc18.out; omega); intro v473 w137 ho hb hg hat; rw [← Ny472.out] at ho; have n0_ := Aside0.mk (Kd.V_afterv (ok := (fun k_ => some k_ ≠ (v457 : Value).ownBlock ∧ some k_ ≠ (.slice Ao130 t460.length co130 : Value).ownBlock ∧ some k_ ≠ (.slice Ao133 t463.length co133 : Value).ownBlock ∧ k_ ≠ gb459)) (by (with_reducible repeat (first | apply Kd.V_alloc | apply Kd.V_drewN | apply Kd.V_drew)); exact HO455.out) hg hat); have n1_ := Aside0.mk (Kd.R_over' (by (with_reducible repeat (first | apply Kd.R_alloc | apply Kd.R_drewN | apply Kd.R_drew)); exact HO458.out) (Kd.R_typed (by (with_reducible repeat (first | apply Kd.R_alloc | apply Kd.R_drewN | apply Kd.R_drew)); exact HO471.out)) (by decide) hg); have n2_ := Aside0.mk (blk_grown (g := gb459) (o := .cells #[.int .i64 t452, .slice Ao126 t453.length co126] 28 (0, 0)) (by (with_reducible repeat (first | refine blk_drewN ?_ _ | refine blk_drew ?_ | refine blk_alloc ?_ _)); exact BK459.out) hg (Kd.R_ne HO471.out BK459.out (by decide))); have n3_ := Aside0.mk (Kd.R_after (ok := (fun k_ => some k_ ≠ (.slice Ao133 t463.length co133 : Value).ownBlock)) (by (with_reducible repeat (first | apply Kd.R_alloc | apply Kd.R_drewN | apply Kd.R_drew)); exact HO462.out) hg hat); have n4_ := Aside0.mk (Kd.R_after (ok := (fun k_ => some k_ ≠ (.slice Ao130 t460.length co130 : Value).ownBlock)) (by (with_reducible repeat (first | apply Kd.R_alloc | apply Kd.R_drewN | apply Kd.R_drew)); exact HO465.out) hg hat); have n5_ := Aside0.mk (hb); have n6_ := Aside0.mk (ho); clear HO455; clear HO458; clear BK459; clear HO462; clear HO465; clear HB; clear HO471; have HO455 := n0_; have HO458 := n1_; have BK459 := n2_; have HO462 := n3_; have HO465 := n4_; have HB := n5_; have HO474 := n6_; clear n0_ n1_ n2_ n3_ n4_ n5_ n6_; clear ho hb hg hat; have hcz138_0 : w137.cell? ⟨gb459, 0, none⟩ = some (.int .i64 t452) := (blk_cell BK459.out 0).trans rfl; have hcz138_1 : w137.cell? ⟨gb459, 1, none⟩ = some (.slice Ao126 t453.length co126) := (blk_cell BK459.out 1).trans rfl; have hfz138_0 := blk_frozen BK459.out 0; have hfz138_1 := blk_frozen BK459.out 1) | ((with_reducible refine gate_callee (f := 18) rfl ?_); refine goesL_ (some 70) rfl rfl Try.func18 (by kernel_rfl) rfl #[.agg #[.int .i64 t452, .slice Ao126 t453.length co126], .int .i64 (l4.length : Int)] rfl (by (try simp only [List.map_toArray, List.map_cons, List.map_nil]); first | done | rfl | (simp only [List.length_drop, List.length_take]; rfl)) ?_; (with_reducible refine (cnf_Clauses.calls t452 _ _ t453 (l4.length : Int) t475 _ ?side1 ?side2 A19.out).mono ?_); (case side1 => repeat (first | exact (Kd.V_reads' HO455.out).2.2 | (with_reducible refine Kd.C_alloc ?_ _) | (with_reducible refine Kd.C_drewN ?_ _) | (with_reducible refine Kd.C_drew ?_))); (case side2 => exact (Kd.V_reads' HO455.out).2.1); rintro e w139 ⟨v476, rfl, ho0, hb⟩; refine ⟨_, rfl, ?_⟩; have n0_ := Aside0.mk (Kd.V_elder' (by (with_reducible repeat (first | apply Kd.V_alloc | apply Kd.V_drewN | apply Kd.V_drew)); exact HO455.out) (Kd.N_base ho0) hb); have n1_ := Aside0.mk (Kd.R_below (by (with_reducible repeat (first | apply Kd.R_alloc | apply Kd.R_drewN | apply Kd.R_drew)); exact HO458.out) hb); have n2_ := Aside0.mk (Kd.R_below (by (with_reducible repeat (first | apply Kd.R_alloc | apply Kd.R_drewN | apply Kd.R_drew)); exact HO462.out) hb); have n3_ := Aside0.mk (Kd.R_below (by (with_reducible repeat (first | apply Kd.R_alloc | apply Kd.R_drewN | apply Kd.R_drew)); exact HO465.out) hb); have n4_ := Aside0.mk (Kd.R_below (by (with_reducible repeat (first | apply Kd.R_alloc | apply Kd.R_drewN | apply Kd.R_drew)); exact HO474.out) hb); have n5_ := Aside0.mk (Kd.N_lower (Kd.N_mono (ok' := fun k_ => some k_ ≠ (v457 : Value).ownBlock ∧ some k_ ≠ (.slice Ao130 t460.length co130 : Value).ownBlock ∧ some k_ ≠ (.slice Ao133 t463.length co133 : Value).ownBlock ∧ some k_ ≠ (v473 : Value).ownBlock ∧ k_ ≠ gb459) ho0 (fun k_ hk_ => ⟨(Kd.fresh' (Kd.R_lt (by (with_reducible repeat (first | apply Kd.R_alloc | apply Kd.R_drewN | apply Kd.R_drew)); exact HO458.out)) k_ hk_), (Kd.fresh' (Kd.R_lt (by (with_reducible repeat (first | apply Kd.R_alloc | apply Kd.R_drewN | apply Kd.R_drew)); exact HO462.out)) k_ hk_), (Kd.fresh' (Kd.R_lt (by (with_reducible repeat (first | apply Kd.R_alloc | apply Kd.R_drewN | apply Kd.R_drew)); exact HO465.out)) k_ hk_), (Kd.fresh' (Kd.R_lt (by (with_reducible repeat (first | apply Kd.R_alloc | apply Kd.R_drewN | apply Kd.R_drew)); exact HO474.out)) k_ hk_), (Kd.freshB (g := gb459) (o := .cells #[.int .i64 t452, .slice Ao126 t453.length co126] 28 (0, 0)) (by (with_reducible repeat (first | refine blk_drewN ?_ _ | refine blk_drew ?_ | refine blk_alloc ?_ _)); exact BK459.out) k_ hk_)⟩)) (below_size (by repeat (first | (with_reducible first | exact HB.out | apply below_alloc | apply pw_below_drewN | apply below_drew1 | refine below_set ?_ GE459.out) | exact HB.out)))); have n6_ := Aside0.mk (blk_below (g := gb459) (o := .cells #[.int .i64 t452, .slice Ao126 t453.length co126] 28 (0, 0)) (by (with_reducible repeat (first | refine blk_drewN ?_ _ | refine blk_drew ?_ | refine blk_alloc ?_ _)); exact BK459.out) hb); have n7_ := Aside0.mk (below_step (by repeat (first | (with_reducible first | exact HB.out | apply below_alloc | apply pw_below_drewN | apply below_drew1 | refine below_set ?_ GE459.out) | exact HB.out)) hb); clear HO455; clear HO458; clear HO462; clear HO465; clear HO474; clear BK459; clear HB; have HO455 := n0_; have HO458 := n1_; have HO462 := n2_; have HO465 := n3_; have HO474 := n4_; have HO477 := n5_; have BK459 := n6_; have HB := n7_; clear n0_ n1_ n2_ n3_ n4_ n5_ n6_ n7_; (try clear hb); (try clear hb2); (try clear hk); (try clear hi); (try clear ho0); obtain ⟨Ao140, co140, eo140⟩ := Kd.R_slice HO474.out; subst eo140; obtain ⟨Ao141, co141, eo141⟩ := Kd.N_slice HO477.out; subst eo141) | ((with_reducible refine gate_callee (f := 20) rfl ?_); refine goesL_ (some 75) rfl rfl Try.func20 (by kernel_rfl) rfl #[.slice Ao141 t475.length co141, .int .i64 (l4.length : Int), .int .i64 (y472.length : Int)] rfl (by (try simp only [List.map_toArray, List.map_cons, List.map_nil]); first | done | rfl | (simp only [List.length_drop, List.length_take]; rfl)) ?_; (with_reducible refine (proofmarklaw17_within.calls kj6 _ _ t475 (l4.length : Int) (y472.length : Int) true _ ?side1 ?side2 A20.out).mono ?_); (case side1 => repeat (first | exact (Kd.N_reads' HO477.out).2.2 | (with_reducible refine Kd.C_alloc ?_ _) | (with_reducible refine Kd.C_drewN ?_ _) | (with_reducible refine Kd.C_drew ?_))); (case side2 => exact (Kd.N_reads' HO477.out).2.1); rintro e w142 ⟨rfl, hb⟩; refine ⟨_, rfl, ?_⟩; have n0_ := Aside0.mk (Kd.V_below (by (with_reducible repeat (first | apply Kd.V_alloc | apply Kd.V_drewN | apply Kd.V_drew)); exact HO455.out) hb); have n1_ := Aside0.mk (Kd.R_below (by (with_reducible repeat (first | apply Kd.R_alloc | apply Kd.R_drewN | apply Kd.R_drew)); exact HO458.out) hb); have n2_ := Aside0.mk (Kd.R_below (by (with_reducible repeat (first | apply Kd.R_alloc | apply Kd.R_drewN | apply Kd.R_drew)); exact HO462.out) hb); have n3_ := Aside0.mk (Kd.R_below (by (with_reducible repeat (first | apply Kd.R_alloc | apply Kd.R_drewN | apply Kd.R_drew)); exact HO465.out) hb); have n4_ := Aside0.mk (Kd.R_below (by (with_reducible repeat (first | apply Kd.R_alloc | apply Kd.R_drewN | apply Kd.R_drew)); exact HO474.out) hb); have n5_ := Aside0.mk (Kd.N_below (by (with_reducible repeat (first | apply Kd.N_alloc | apply Kd.N_drewN | apply Kd.N_drew)); exact HO477.out) hb); have n6_ := Aside0.mk (blk_below (g := gb459) (o := .cells #[.int .i64 t452, .slice Ao126 t453.length co126] 28 (0, 0)) (by (with_reducible repeat (first | refine blk_drewN ?_ _ | refine blk_drew ?_ | refine blk_alloc ?_ _)); exact BK459.out) hb); have n7_ := Aside0.mk (below_step (by repeat (first | (with_reducible first | exact HB.out | apply below_alloc | apply pw_below_drewN | apply below_drew1 | refine below_set ?_ GE459.out) | exact HB.out)) hb); clear HO455; clear HO458; clear HO462; clear HO465; clear HO474; clear HO477; clear BK459; clear HB; have HO455 := n0_; have HO458 := n1_; have HO462 := n2_; have HO465 := n3_; have HO474 := n4_; have HO477 := n5_; have BK459 := n6_; have HB := n7_; clear n0_ n1_ n2_ n3_ n4_ n5_ n6_ n7_; (try clear hb); (try clear hb2); (try clear hk); (try clear hi)) | ((with_reducible refine gate_callee (f := 15) rfl ?_); refine goesL_ (some 79) rfl rfl Try.func15 (by kernel_rfl) rfl #[.int .i64 (Int.tmod (wrap64 (a3)) (wrap64 (2 * (wrap64 ((wrap64 (1 + t452)) + (t453.length : Int)))))), .int .i64 (l4.length : Int)] rfl (by (try simp only [List.map_toArray, List.map_cons, List.map_nil]); first | done | rfl | (simp only [List.length_drop, List.length_take]; rfl)) ?_; (with_reducible refine (cnf_Of.calls (Int.tmod (wrap64 (a3)) (wrap64 (2 * (wrap64 ((wrap64 (1 + t452)) + (t453.length : Int)))))) (l4.length : Int) t479 _ A22.out).mono ?_); rintro e w' ⟨rfl, ⟨nd, rfl⟩⟩; refine ⟨_, rfl, ?_⟩))
          go_ret
          exact ⟨by first | rfl | (simp [errW_none, errW_some] <;> rfl) | (simp [*, errW_none, errW_some] <;> rfl), by repeat (first | (with_reducible first | exact HB.out | apply below_alloc | apply pw_below_drewN | apply below_drew1 | refine below_set ?_ GE459.out) | exact HB.out)⟩
        ·replace c21 := Bool.eq_false_iff.mpr c21
         subst c21
         have H1 : (some false) = some r := by rw [if_neg (show ¬ (false = true) by decide)] at H; exact H
         clear H
         have H := H1
         clear H1
         obtain rfl := Option.some.inj H
         try go_wp2_with (first | ((with_reducible refine gate_callee (f := 12) rfl ?_); refine goesL_ (some 32) rfl rfl Try.func12 (by kernel_rfl) rfl #[.int .u8 a0, .slice A1 l1.length c1] rfl (by (try simp only [List.map_toArray, List.map_cons, List.map_nil]); first | done | rfl | (simp only [List.length_drop, List.length_take]; rfl)) ?_; (with_reducible refine (proofmarklaw13_Made.calls kj6 a0 _ _ l1 t452 t453 t456 _ ?side1 ?side2 A12.out).mono ?_); (case side1 => repeat (first | exact (Kd.C_below HR1.out HB.out) | (with_reducible refine Kd.C_alloc ?_ _) | (with_reducible refine Kd.C_drewN ?_ _) | (with_reducible refine Kd.C_drew ?_))); (case side2 => exact HC1.out); rintro e w143 ⟨v454, v457, rfl, ho0, ho1, hb⟩; refine ⟨_, rfl, ?_⟩; have n0_ := Aside0.mk (Kd.V_lower (Kd.V_mono (ok' := fun k_ => some k_ ≠ (v457 : Value).ownBlock) ho0 (fun k_ hk_ => hk_.2)) (below_size (by repeat (first | (with_reducible first | exact HB.out | apply below_alloc | apply pw_below_drewN | apply below_drew1) | exact HB.out)))); have n1_ := Aside0.mk (Kd.R_lower (Kd.R_mono (ok' := fun k_ => True) ho1 (fun _ hk_ => trivial)) (below_size (by repeat (first | (with_reducible first | exact HB.out | apply below_alloc | apply pw_below_drewN | apply below_drew1) | exact HB.out)))); have n2_ := Aside0.mk (below_step (by repeat (first | (with_reducible first | exact HB.out | apply below_alloc | apply pw_below_drewN | apply below_drew1) | exact HB.out)) hb); clear HB; have HO455 := n0_; have HO458 := n1_; have HB := n2_; clear n0_ n1_ n2_; (try clear hb); (try clear hb2); (try clear hk); (try clear hi); (try clear ho0); (try clear ho1)) | ((with_reducible refine gate_dst (N := 12) rfl ?_); (try (refine gate_guard (by rfl) ?_; dsimp only)); refine box_event ?hg (N := 12) ?hd (cs := #[.int .i64 0, .slice none 0 0]) (t := 28) ?hr ?_; (case hd => rfl); (case hg => rfl); (case hr => first | (go_simp; done) | (go_simp; rfl)); intro gb459 hg w144 hbox hb; have n0_ := Aside0.mk (Kd.V_below (Kd.V_elderB (by (with_reducible repeat (first | apply Kd.V_alloc | apply Kd.V_drewN | apply Kd.V_drew)); exact HO455.out) gb459 (Nat.le_of_eq hg.symm)) hb); have n1_ := Aside0.mk (Kd.R_below (by (with_reducible repeat (first | apply Kd.R_alloc | apply Kd.R_drewN | apply Kd.R_drew)); exact HO458.out) hb); have n2_ := Aside0.mk (below_step (by repeat (first | (with_reducible first | exact HB.out | apply below_alloc | apply pw_below_drewN | apply below_drew1) | exact HB.out)) hb); have n3_ := Aside0.mk (hbox); have n4_ := Aside0.mk ((by rw [hg]; exact (below_size (by repeat (first | (with_reducible first | exact HB.out | apply below_alloc | apply pw_below_drewN | apply below_drew1) | exact HB.out))) : w.heap.size ≤ gb459)); have n5_ := Aside0.mk ((by rw [hg]; exact (below_size (by repeat (first | (with_reducible first | exact HB.out | apply below_alloc | apply pw_below_drewN | apply below_drew1) | exact HB.out))) : w.heap.size ≤ gb459)); clear HO455; clear HO458; clear HB; have HO455 := n0_; have HO458 := n1_; have HB := n2_; have BK459 := n3_; have GW459 := n4_; have GE459 := n5_; clear n0_ n1_ n2_ n3_ n4_ n5_; clear hb hbox hg; have hcz145_0 : w144.cell? ⟨gb459, 0, none⟩ = some (.int .i64 0) := (blk_cell BK459.out 0).trans rfl; have hcz145_1 : w144.cell? ⟨gb459, 1, none⟩ = some (.slice none 0 0) := (blk_cell BK459.out 1).trans rfl; have hfz145_0 := blk_frozen BK459.out 0; have hfz145_1 := blk_frozen BK459.out 1; obtain ⟨Ao146, co146, eo146⟩ := Kd.V_slice HO455.out; subst eo146))
         have n0_ : Aside0 (Kd.V k49 49 ((w144.setCell ⟨gb459, 0, none⟩ (.int .i64 t452)).setCell ⟨gb459, 1, none⟩ (.slice Ao146 t453.length co146)) w.heap.size (fun k_ => some k_ ≠ (v457 : Value).ownBlock ∧ k_ ≠ gb459) (.slice Ao146 t453.length co146) t453) := ⟨by (with_reducible repeat (first | apply Kd.V_alloc | apply Kd.V_drewN | apply Kd.V_drew)); exact Kd.V_mono (Kd.V_far (p := ⟨gb459, 1, none⟩) (Kd.V_far (p := ⟨gb459, 0, none⟩) (Kd.V_mono HO455.out (fun k_ hk => (⟨hk, hk.2⟩ : _ ∧ k_ ≠ gb459))) (fun _ hk => hk.2) (.int .i64 t452)) (fun _ hk => hk.2) (.slice Ao146 t453.length co146)) (fun _ hk => ⟨hk.1.1, hk.1.2⟩)⟩
         have n1_ : Aside0 (Kd.R (Kd.int .i64) 3 ((w144.setCell ⟨gb459, 0, none⟩ (.int .i64 t452)).setCell ⟨gb459, 1, none⟩ (.slice Ao146 t453.length co146)) w.heap.size (fun _ => True) v457 t456) := ⟨by (with_reducible repeat (first | apply Kd.R_alloc | apply Kd.R_drewN | apply Kd.R_drew)); exact Kd.R_mono (Kd.R_far (p := ⟨gb459, 1, none⟩) (Kd.R_far (p := ⟨gb459, 0, none⟩) (Kd.R_types HO458.out BK459.out (by decide)) (fun _ hk => hk.2) (.int .i64 t452)) (fun _ hk => hk.2) (.slice Ao146 t453.length co146)) (fun _ hk => trivial)⟩
         have n2_ : Aside0 (((w144.setCell ⟨gb459, 0, none⟩ (.int .i64 t452)).setCell ⟨gb459, 1, none⟩ (.slice Ao146 t453.length co146)).heap[gb459]? = some (.cells #[.int .i64 t452, .slice Ao146 t453.length co146] 28 (0, 0))) := ⟨by (with_reducible repeat (first | refine blk_drewN ?_ _ | refine blk_drew ?_ | refine blk_alloc ?_ _)); refine blk_put (cs := #[.int .i64 t452, .slice none 0 0]) ?_ 1 _ rfl; (with_reducible repeat (first | refine blk_drewN ?_ _ | refine blk_drew ?_ | refine blk_alloc ?_ _)); refine blk_put (cs := #[.int .i64 0, .slice none 0 0]) ?_ 0 _ rfl; (with_reducible repeat (first | refine blk_drewN ?_ _ | refine blk_drew ?_ | refine blk_alloc ?_ _)); exact BK459.out⟩
         have n3_ : Aside0 (Below w.heap.size w ((w144.setCell ⟨gb459, 0, none⟩ (.int .i64 t452)).setCell ⟨gb459, 1, none⟩ (.slice Ao146 t453.length co146))) := ⟨by repeat (first | (with_reducible first | exact HB.out | apply below_alloc | apply pw_below_drewN | apply below_drew1 | refine below_set ?_ GE459.out) | exact HB.out)⟩
         (try clear HO455)
         (try clear HO458)
         (try clear BK459)
         (try clear HB)
         generalize ((w144.setCell ⟨gb459, 0, none⟩ (.int .i64 t452)).setCell ⟨gb459, 1, none⟩ (.slice Ao146 t453.length co146)) = w147 at n0_ n1_ n2_ n3_ ⊢
         have HO455 := n0_
         have HO458 := n1_
         have BK459 := n2_
         have HB := n3_
         clear n0_ n1_ n2_ n3_
         have n0_ := Aside0.mk (Kd.V_drew HO455.out)
         have n1_ := Aside0.mk (Kd.R_drew HO458.out)
         have n2_ := Aside0.mk (blk_drew BK459.out)
         have n3_ := Aside0.mk (below_drew1 HB.out)
         clear HO455
         clear HO458
         clear BK459
         clear HB
         have HO455 := n0_
         have HO458 := n1_
         have BK459 := n2_
         have HB := n3_
         clear n0_ n1_ n2_ n3_
         refine start_ (n := 6) (S := fun w' => w'.cell? ⟨gb459, 0, none⟩ = some (.int .i64 t452) ∧ w'.cell? ⟨gb459, 1, none⟩ = some (.slice Ao146 t453.length co146)) (ds := []) #[false, false, false, false, false, false] (by kernel_rfl) rfl rfl ⟨(blk_cell BK459.out 0).trans rfl, (blk_cell BK459.out 1).trans rfl⟩ (fun hHeld => ?_)
         generalize w147.drew = w148 at HO455 HO458 BK459 HB hHeld ⊢
         refine pure_ (i := 2) (N := some 37) (v := ?_) (a' := ?_) #[false, false, true, false, false, false] rfl rfl (by kernel_rfl) (fun _ _ _ h => h) (Or.inl ⟨by rfl, ?_⟩) ?_ ?_
         rotate_left
         ·intro w'
          go_simp
          with_reducible rfl
         rotate_left
         ·simp only [Act.put, List.setIfInBounds_toArray, List.set_cons_zero, List.set_cons_succ, i64_w, i32_w]
          rfl
         refine take_ (i := 0) (N := some 35) (v := ?_) (a' := ?_) #[true, false, true, false, false, false] rfl rfl (by kernel_rfl) (fun _ _ _ h => h) (Or.inl ⟨by rfl, ?_⟩) hHeld ?_ ?_
         rotate_left
         ·rintro w' ⟨s0, s1⟩
          go_simp
          with_reducible rfl
         rotate_left
         ·simp only [Act.put, List.setIfInBounds_toArray, List.set_cons_zero, List.set_cons_succ, i64_w, i32_w]
          rfl
         refine take_ (i := 1) (N := some 36) (v := ?_) (a' := ?_) #[true, true, true, false, false, false] rfl rfl (by kernel_rfl) (fun _ _ _ h => h) (Or.inl ⟨by rfl, ?_⟩) hHeld ?_ ?_
         rotate_left
         ·rintro w' ⟨s0, s1⟩
          go_simp
          with_reducible rfl
         rotate_left
         ·simp only [Act.put, List.setIfInBounds_toArray, List.set_cons_zero, List.set_cons_succ, i64_w, i32_w]
          rfl
         refine one_ (i := 3) (N := some 38) #[true, true, true, true, false, false] rfl rfl (by kernel_rfl) (by decide) (fun K hK => ?_)
         refine goes_ Try.func22 (by kernel_rfl) rfl #[.agg #[.int .i64 t452, .slice Ao146 t453.length co146], .slice A2 l2.length c2] (by rfl) rfl rfl (by (try simp only [List.map_toArray, List.map_cons, List.map_nil]); first | done | rfl | (simp only [List.length_drop, List.length_take]; rfl)) ?_
         with_reducible refine (proofmarklaw13_Bits.calls kj6 t452 _ _ t453 _ _ l2 t460 _ ?side1 ?side2 ?side3 ?side4 A13.out).mono ?_
         (case side1 => repeat (first | exact (Kd.V_reads' HO455.out).2.2 | (with_reducible refine Kd.C_alloc ?_ _) | (with_reducible refine Kd.C_drewN ?_ _) | (with_reducible refine Kd.C_drew ?_)))
         (case side2 => exact (Kd.V_reads' HO455.out).2.1)
         (case side3 => repeat (first | exact (Kd.C_below HR2.out HB.out) | (with_reducible refine Kd.C_alloc ?_ _) | (with_reducible refine Kd.C_drewN ?_ _) | (with_reducible refine Kd.C_drew ?_)))
         (case side4 => exact HC2.out)
         rintro e w149 ⟨v461, rfl, ho0, hb⟩
         refine ⟨_, rfl, ?_⟩
         have n0_ := Aside0.mk (Kd.V_elder' (by (with_reducible repeat (first | apply Kd.V_alloc | apply Kd.V_drewN | apply Kd.V_drew)); exact HO455.out) (Kd.R_base ho0) hb)
         have n1_ := Aside0.mk (Kd.R_below (by (with_reducible repeat (first | apply Kd.R_alloc | apply Kd.R_drewN | apply Kd.R_drew)); exact HO458.out) hb)
         have n2_ := Aside0.mk (Kd.R_lower ho0 (below_size (by repeat (first | (with_reducible first | exact HB.out | apply below_alloc | apply pw_below_drewN | apply below_drew1 | refine below_set ?_ GE459.out) | exact HB.out))))
         have n3_ := Aside0.mk (blk_below (g := gb459) (o := .cells #[.int .i64 t452, .slice Ao146 t453.length co146] 28 (0, 0)) (by (with_reducible repeat (first | refine blk_drewN ?_ _ | refine blk_drew ?_ | refine blk_alloc ?_ _)); exact BK459.out) hb)
         have n4_ := Aside0.mk (below_step (by repeat (first | (with_reducible first | exact HB.out | apply below_alloc | apply pw_below_drewN | apply below_drew1 | refine below_set ?_ GE459.out) | exact HB.out)) hb)
         clear HO455
         clear HO458
         clear BK459
         clear HB
         have HO455 := n0_
         have HO458 := n1_
         have HO462 := n2_
         have BK459 := n3_
         have HB := n4_
         clear n0_ n1_ n2_ n3_ n4_
         (try clear hb)
         (try clear hb2)
         (try clear hk)
         (try clear hi)
         (try clear ho0)
         obtain ⟨Ao150, co150, eo150⟩ := Kd.R_slice HO462.out
         (first | subst eo150 | (injection eo150 with f1_ f2_ f3_; have f4_ := f1_.symm; have f5_ := f3_.symm; clear f1_ f2_ f3_; subst f4_; subst f5_))
         refine hK.out _ _ ⟨(blk_cell BK459.out 0).trans rfl, (blk_cell BK459.out 1).trans rfl⟩ (fun hHeld => ?_)
         clear hK K
         refine norm_ (a' := ?_) ?_ ?_
         rotate_left
         ·show Act.put _ (some 38) _ = _
          simp only [Act.put, List.setIfInBounds_toArray, List.set_cons_zero, List.set_cons_succ, i64_w, i32_w]
          rfl
         refine one_ (i := 4) (N := some 39) #[true, true, true, true, true, false] rfl rfl (by kernel_rfl) (by decide) (fun K hK => ?_)
         refine goes_ Try.func21 (by kernel_rfl) rfl #[.agg #[.int .i64 t452, .slice Ao146 t453.length co146], .slice Ao150 t460.length co150] (by rfl) rfl rfl (by (try simp only [List.map_toArray, List.map_cons, List.map_nil]); first | done | rfl | (simp only [List.length_drop, List.length_take]; rfl)) ?_
         with_reducible refine (aig_Eval.calls kj6 t452 _ _ t453 _ _ t460 t463 _ ?side1 ?side2 ?side3 ?side4 A14.out).mono ?_
         (case side1 => repeat (first | exact (Kd.V_reads' HO455.out).2.2 | (with_reducible refine Kd.C_alloc ?_ _) | (with_reducible refine Kd.C_drewN ?_ _) | (with_reducible refine Kd.C_drew ?_)))
         (case side2 => exact (Kd.V_reads' HO455.out).2.1)
         (case side3 => repeat (first | exact (Kd.R_reads' HO462.out).2.2 | (with_reducible refine Kd.C_alloc ?_ _) | (with_reducible refine Kd.C_drewN ?_ _) | (with_reducible refine Kd.C_drew ?_)))
         (case side4 => exact (Kd.R_reads' HO462.out).2.1)
         rintro e w151 ⟨v464, rfl, ho0, hb⟩
         refine ⟨_, rfl, ?_⟩
         have n0_ := Aside0.mk (Kd.V_elder' (by (with_reducible repeat (first | apply Kd.V_alloc | apply Kd.V_drewN | apply Kd.V_drew)); exact HO455.out) (Kd.R_base ho0) hb)
         have n1_ := Aside0.mk (Kd.R_below (by (with_reducible repeat (first | apply Kd.R_alloc | apply Kd.R_drewN | apply Kd.R_drew)); exact HO458.out) hb)
         have n2_ := Aside0.mk (Kd.R_elder' (by (with_reducible repeat (first | apply Kd.R_alloc | apply Kd.R_drewN | apply Kd.R_drew)); exact HO462.out) (Kd.R_base ho0) hb)
         have n3_ := Aside0.mk (Kd.R_lower (Kd.R_new' ho0 (Kd.R_lt (by (with_reducible repeat (first | apply Kd.R_alloc | apply Kd.R_drewN | apply Kd.R_drew)); exact HO462.out))) (below_size (by repeat (first | (with_reducible first | exact HB.out | apply below_alloc | apply pw_below_drewN | apply below_drew1 | refine below_set ?_ GE459.out) | exact HB.out))))
         have n4_ := Aside0.mk (blk_below (g := gb459) (o := .cells #[.int .i64 t452, .slice Ao146 t453.length co146] 28 (0, 0)) (by (with_reducible repeat (first | refine blk_drewN ?_ _ | refine blk_drew ?_ | refine blk_alloc ?_ _)); exact BK459.out) hb)
         have n5_ := Aside0.mk (below_step (by repeat (first | (with_reducible first | exact HB.out | apply below_alloc | apply pw_below_drewN | apply below_drew1 | refine below_set ?_ GE459.out) | exact HB.out)) hb)
         clear HO455
         clear HO458
         clear HO462
         clear BK459
         clear HB
         have HO455 := n0_
         have HO458 := n1_
         have HO462 := n2_
         have HO465 := n3_
         have BK459 := n4_
         have HB := n5_
         clear n0_ n1_ n2_ n3_ n4_ n5_
         (try clear hb)
         (try clear hb2)
         (try clear hk)
         (try clear hi)
         (try clear ho0)
         refine hK.out _ _ ⟨(blk_cell BK459.out 0).trans rfl, (blk_cell BK459.out 1).trans rfl⟩ (fun hHeld => ?_)
         clear hK K
         refine norm_ (a' := ?_) ?_ ?_
         rotate_left
         ·show Act.put _ (some 39) _ = _
          simp only [Act.put, List.setIfInBounds_toArray, List.set_cons_zero, List.set_cons_succ, i64_w, i32_w]
          rfl
         refine pure_ (i := 5) (N := some 14) (v := ?_) (a' := ?_) #[true, true, true, true, true, true] rfl rfl (by kernel_rfl) (fun _ _ _ h => h) (Or.inl ⟨by rfl, ?_⟩) ?_ ?_
         rotate_left
         ·intro w'
          go_simp
          with_reducible rfl
         rotate_left
         ·simp only [Act.put, List.setIfInBounds_toArray, List.set_cons_zero, List.set_cons_succ, i64_w, i32_w]
          rfl
         refine done_ (by kernel_rfl) ?_
         have hcz152_0 : w151.cell? ⟨gb459, 0, none⟩ = some (.int .i64 t452) := (blk_cell BK459.out 0).trans rfl
         have hcz152_1 : w151.cell? ⟨gb459, 1, none⟩ = some (.slice Ao146 t453.length co146) := (blk_cell BK459.out 1).trans rfl
         have hfz152_0 := blk_frozen BK459.out 0
         have hfz152_1 := blk_frozen BK459.out 1
         obtain ⟨Ao153, co153, eo153⟩ := Kd.R_slice HO465.out
         subst eo153
         try go_wp2_with (first | ((with_reducible refine gate_dst (N := 63) rfl ?_); (try (refine gate_guard (by rfl) ?_; dsimp only)); refine Kd.R_lit Kd.bool _ 4 ?hg (N := 63) ?hd (xs := ([] : List Bool)) (inner := []) (ok := fun _ => True) (okp := fun _ => True) ?hr ?hp (fun _ hk => hk) trivial (Below.refl _ _) (Nat.le_refl _) (by simp) ?_; (case hd => rfl); (case hg => rfl); (case hr => first | (go_simp; done) | (go_simp; rfl)); (case hp => exact (Reps.none _ _)); intro v467 w154 ho155 hb hg_ hnew_; clear hg_ hnew_; (first | rw [← Ny466.out] at ho155 | (simp only [Int.reduceToNat] at ho155; rw [← Ny466.out] at ho155)); have n0_ := Aside0.mk (Kd.V_elder' (by (with_reducible repeat (first | apply Kd.V_alloc | apply Kd.V_drewN | apply Kd.V_drew)); exact HO455.out) (Kd.R_base ho155) hb); have n1_ := Aside0.mk (Kd.R_below (by (with_reducible repeat (first | apply Kd.R_alloc | apply Kd.R_drewN | apply Kd.R_drew)); exact HO458.out) hb); have n2_ := Aside0.mk (Kd.R_elder' (by (with_reducible repeat (first | apply Kd.R_alloc | apply Kd.R_drewN | apply Kd.R_drew)); exact HO462.out) (Kd.R_base ho155) hb); have n3_ := Aside0.mk (Kd.R_elder' (by (with_reducible repeat (first | apply Kd.R_alloc | apply Kd.R_drewN | apply Kd.R_drew)); exact HO465.out) (Kd.R_base ho155) hb); have n4_ := Aside0.mk (Kd.R_lower (Kd.R_new' (Kd.R_new' ho155 (Kd.R_lt (by (with_reducible repeat (first | apply Kd.R_alloc | apply Kd.R_drewN | apply Kd.R_drew)); exact HO462.out))) (Kd.R_lt (by (with_reducible repeat (first | apply Kd.R_alloc | apply Kd.R_drewN | apply Kd.R_drew)); exact HO465.out))) (below_size (by repeat (first | (with_reducible first | exact HB.out | apply below_alloc | apply pw_below_drewN | apply below_drew1 | refine below_set ?_ GE459.out) | exact HB.out)))); have n5_ := Aside0.mk (blk_below (g := gb459) (o := .cells #[.int .i64 t452, .slice Ao146 t453.length co146] 28 (0, 0)) (by (with_reducible repeat (first | refine blk_drewN ?_ _ | refine blk_drew ?_ | refine blk_alloc ?_ _)); exact BK459.out) hb); have n6_ := Aside0.mk (below_step (by repeat (first | (with_reducible first | exact HB.out | apply below_alloc | apply pw_below_drewN | apply below_drew1 | refine below_set ?_ GE459.out) | exact HB.out)) hb); clear HO455; clear HO458; clear HO462; clear HO465; clear BK459; clear HB; have HO455 := n0_; have HO458 := n1_; have HO462 := n2_; have HO465 := n3_; have HO468 := n4_; have BK459 := n5_; have HB := n6_; clear n0_ n1_ n2_ n3_ n4_ n5_ n6_; clear hb ho155) | ((with_reducible refine gate_builtin (b := .append) (xs := #[.tmp 63, .tmp 64]) rfl ?_); (try (refine gate_guard (by rfl) ?_; dsimp only)); at_builtin; refine Kd.R_append_rows Kd.bool (w0 := w) w.heap.size rfl (.tmp 63) (.tmp 64) 41 4 (.bool false) 1 rfl Try.underlying41 info4 rfl (by decide) (by omega) v467 y466 l4 _ _ _ (fun k_ => some k_ ≠ (.slice Ao150 t460.length co150 : Value).ownBlock ∧ some k_ ≠ (.slice Ao153 t463.length co153 : Value).ownBlock) (fun _ => False) rfl rfl ?aO ?aR (fun _ _ h => h) (fun _ h => h.elim) ?aF ?aB ?aS ?aL ?_; (case aR => repeat (first | exact (Kd.C_below HR4.out HB.out) | (with_reducible refine Kd.C_alloc ?_ _) | (with_reducible refine Kd.C_drewN ?_ _) | (with_reducible refine Kd.C_drew ?_))); (case aB => exact (by repeat (first | (with_reducible first | exact HB.out | apply below_alloc | apply pw_below_drewN | apply below_drew1 | refine below_set ?_ GE459.out) | exact HB.out))); (case aF => exact (fun k_ hk => ⟨Kd.fresh' (Kd.R_lt (by (with_reducible repeat (first | apply Kd.R_alloc | apply Kd.R_drewN | apply Kd.R_drew)); exact HO462.out)) k_ hk, Kd.fresh' (Kd.R_lt (by (with_reducible repeat (first | apply Kd.R_alloc | apply Kd.R_drewN | apply Kd.R_drew)); exact HO465.out)) k_ hk⟩)); (case aO => exact (by (with_reducible repeat (first | apply Kd.R_alloc | apply Kd.R_drewN | apply Kd.R_drew)); exact Kd.R_mono HO468.out (fun _ hk => ⟨hk.1.2, hk.2⟩))); (case aS => exact (below_size (by repeat (first | (with_reducible first | exact HB.out | apply below_alloc | apply pw_below_drewN | apply below_drew1 | refine below_set ?_ GE459.out) | exact HB.out)))); (case aL => have := LMc17.out; omega); intro v470 w156 ho hb hg hat; rw [← Ny469.out] at ho; have n0_ := Aside0.mk (Kd.V_afterv (ok := (fun k_ => some k_ ≠ (v457 : Value).ownBlock ∧ some k_ ≠ (.slice Ao150 t460.length co150 : Value).ownBlock ∧ some k_ ≠ (.slice Ao153 t463.length co153 : Value).ownBlock ∧ k_ ≠ gb459)) (by (with_reducible repeat (first | apply Kd.V_alloc | apply Kd.V_drewN | apply Kd.V_drew)); exact Kd.V_mono HO455.out (fun _ hk => ⟨⟨hk.1.1.1.1, ⟨hk.1.1.2, ⟨hk.1.2, hk.1.1.1.2⟩⟩⟩, hk.2⟩)) hg hat); have n1_ := Aside0.mk (Kd.R_over' (by (with_reducible repeat (first | apply Kd.R_alloc | apply Kd.R_drewN | apply Kd.R_drew)); exact HO458.out) (Kd.R_typed (by (with_reducible repeat (first | apply Kd.R_alloc | apply Kd.R_drewN | apply Kd.R_drew)); exact HO468.out)) (by decide) hg); have n2_ := Aside0.mk (blk_grown (g := gb459) (o := .cells #[.int .i64 t452, .slice Ao146 t453.length co146] 28 (0, 0)) (by (with_reducible repeat (first | refine blk_drewN ?_ _ | refine blk_drew ?_ | refine blk_alloc ?_ _)); exact BK459.out) hg (Kd.R_ne HO468.out BK459.out (by decide))); have n3_ := Aside0.mk (Kd.R_after (ok := (fun k_ => some k_ ≠ (.slice Ao153 t463.length co153 : Value).ownBlock)) (by (with_reducible repeat (first | apply Kd.R_alloc | apply Kd.R_drewN | apply Kd.R_drew)); exact Kd.R_mono HO462.out (fun _ hk => ⟨hk.1.2, hk.2⟩)) hg hat); have n4_ := Aside0.mk (Kd.R_after (ok := (fun k_ => some k_ ≠ (.slice Ao150 t460.length co150 : Value).ownBlock)) (by (with_reducible repeat (first | apply Kd.R_alloc | apply Kd.R_drewN | apply Kd.R_drew)); exact Kd.R_mono HO465.out (fun _ hk => ⟨hk.1.2, hk.2⟩)) hg hat); have n5_ := Aside0.mk (hb); have n6_ := Aside0.mk (ho); clear HO455; clear HO458; clear BK459; clear HO462; clear HO465; clear HB; clear HO468; have HO455 := n0_; have HO458 := n1_; have BK459 := n2_; have HO462 := n3_; have HO465 := n4_; have HB := n5_; have HO471 := n6_; clear n0_ n1_ n2_ n3_ n4_ n5_ n6_; clear ho hb hg hat) | ((with_reducible refine gate_builtin (b := .append) (xs := #[.tmp 65, .tmp 66]) rfl ?_); (try (refine gate_guard (by rfl) ?_; dsimp only)); at_builtin; refine Kd.R_append_rows Kd.bool (w0 := w) w.heap.size rfl (.tmp 65) (.tmp 66) 41 4 (.bool false) 1 rfl Try.underlying41 info4 rfl (by decide) (by omega) v470 y469 t463 _ _ _ (fun k_ => some k_ ≠ (.slice Ao150 t460.length co150 : Value).ownBlock ∧ some k_ ≠ (.slice Ao153 t463.length co153 : Value).ownBlock) (fun _ => False) rfl rfl ?aO ?aR (fun _ _ h => h) (fun _ h => h.elim) ?aF ?aB ?aS ?aL ?_; (case aR => repeat (first | exact (Kd.R_reads' HO465.out).2.2 | (with_reducible refine Kd.C_alloc ?_ _) | (with_reducible refine Kd.C_drewN ?_ _) | (with_reducible refine Kd.C_drew ?_))); (case aB => exact (by repeat (first | (with_reducible first | exact HB.out | apply below_alloc | apply pw_below_drewN | apply below_drew1 | refine below_set ?_ GE459.out) | exact HB.out))); (case aF => exact (fun k_ hk => ⟨Kd.fresh' (Kd.R_lt (by (with_reducible repeat (first | apply Kd.R_alloc | apply Kd.R_drewN | apply Kd.R_drew)); exact HO462.out)) k_ hk, Kd.fresh' (Kd.R_lt (by (with_reducible repeat (first | apply Kd.R_alloc | apply Kd.R_drewN | apply Kd.R_drew)); exact HO465.out)) k_ hk⟩)); (case aO => exact (by (with_reducible repeat (first | apply Kd.R_alloc | apply Kd.R_drewN | apply Kd.R_drew)); exact HO471.out)); (case aS => exact (below_size (by repeat (first | (with_reducible first | exact HB.out | apply below_alloc | apply pw_below_drewN | apply below_drew1 | refine below_set ?_ GE459.out) | exact HB.out)))); (case aL => have := LMc18.out; omega); intro v473 w157 ho hb hg hat; rw [← Ny472.out] at ho; have n0_ := Aside0.mk (Kd.V_afterv (ok := (fun k_ => some k_ ≠ (v457 : Value).ownBlock ∧ some k_ ≠ (.slice Ao150 t460.length co150 : Value).ownBlock ∧ some k_ ≠ (.slice Ao153 t463.length co153 : Value).ownBlock ∧ k_ ≠ gb459)) (by (with_reducible repeat (first | apply Kd.V_alloc | apply Kd.V_drewN | apply Kd.V_drew)); exact HO455.out) hg hat); have n1_ := Aside0.mk (Kd.R_over' (by (with_reducible repeat (first | apply Kd.R_alloc | apply Kd.R_drewN | apply Kd.R_drew)); exact HO458.out) (Kd.R_typed (by (with_reducible repeat (first | apply Kd.R_alloc | apply Kd.R_drewN | apply Kd.R_drew)); exact HO471.out)) (by decide) hg); have n2_ := Aside0.mk (blk_grown (g := gb459) (o := .cells #[.int .i64 t452, .slice Ao146 t453.length co146] 28 (0, 0)) (by (with_reducible repeat (first | refine blk_drewN ?_ _ | refine blk_drew ?_ | refine blk_alloc ?_ _)); exact BK459.out) hg (Kd.R_ne HO471.out BK459.out (by decide))); have n3_ := Aside0.mk (Kd.R_after (ok := (fun k_ => some k_ ≠ (.slice Ao153 t463.length co153 : Value).ownBlock)) (by (with_reducible repeat (first | apply Kd.R_alloc | apply Kd.R_drewN | apply Kd.R_drew)); exact HO462.out) hg hat); have n4_ := Aside0.mk (Kd.R_after (ok := (fun k_ => some k_ ≠ (.slice Ao150 t460.length co150 : Value).ownBlock)) (by (with_reducible repeat (first | apply Kd.R_alloc | apply Kd.R_drewN | apply Kd.R_drew)); exact HO465.out) hg hat); have n5_ := Aside0.mk (hb); have n6_ := Aside0.mk (ho); clear HO455; clear HO458; clear BK459; clear HO462; clear HO465; clear HB; clear HO471; have HO455 := n0_; have HO458 := n1_; have BK459 := n2_; have HO462 := n3_; have HO465 := n4_; have HB := n5_; have HO474 := n6_; clear n0_ n1_ n2_ n3_ n4_ n5_ n6_; clear ho hb hg hat; have hcz158_0 : w157.cell? ⟨gb459, 0, none⟩ = some (.int .i64 t452) := (blk_cell BK459.out 0).trans rfl; have hcz158_1 : w157.cell? ⟨gb459, 1, none⟩ = some (.slice Ao146 t453.length co146) := (blk_cell BK459.out 1).trans rfl; have hfz158_0 := blk_frozen BK459.out 0; have hfz158_1 := blk_frozen BK459.out 1) | ((with_reducible refine gate_callee (f := 18) rfl ?_); refine goesL_ (some 70) rfl rfl Try.func18 (by kernel_rfl) rfl #[.agg #[.int .i64 t452, .slice Ao146 t453.length co146], .int .i64 (l4.length : Int)] rfl (by (try simp only [List.map_toArray, List.map_cons, List.map_nil]); first | done | rfl | (simp only [List.length_drop, List.length_take]; rfl)) ?_; (with_reducible refine (cnf_Clauses.calls t452 _ _ t453 (l4.length : Int) t475 _ ?side1 ?side2 A19.out).mono ?_); (case side1 => repeat (first | exact (Kd.V_reads' HO455.out).2.2 | (with_reducible refine Kd.C_alloc ?_ _) | (with_reducible refine Kd.C_drewN ?_ _) | (with_reducible refine Kd.C_drew ?_))); (case side2 => exact (Kd.V_reads' HO455.out).2.1); rintro e w159 ⟨v476, rfl, ho0, hb⟩; refine ⟨_, rfl, ?_⟩; have n0_ := Aside0.mk (Kd.V_elder' (by (with_reducible repeat (first | apply Kd.V_alloc | apply Kd.V_drewN | apply Kd.V_drew)); exact HO455.out) (Kd.N_base ho0) hb); have n1_ := Aside0.mk (Kd.R_below (by (with_reducible repeat (first | apply Kd.R_alloc | apply Kd.R_drewN | apply Kd.R_drew)); exact HO458.out) hb); have n2_ := Aside0.mk (Kd.R_below (by (with_reducible repeat (first | apply Kd.R_alloc | apply Kd.R_drewN | apply Kd.R_drew)); exact HO462.out) hb); have n3_ := Aside0.mk (Kd.R_below (by (with_reducible repeat (first | apply Kd.R_alloc | apply Kd.R_drewN | apply Kd.R_drew)); exact HO465.out) hb); have n4_ := Aside0.mk (Kd.R_below (by (with_reducible repeat (first | apply Kd.R_alloc | apply Kd.R_drewN | apply Kd.R_drew)); exact HO474.out) hb); have n5_ := Aside0.mk (Kd.N_lower (Kd.N_mono (ok' := fun k_ => some k_ ≠ (v457 : Value).ownBlock ∧ some k_ ≠ (.slice Ao150 t460.length co150 : Value).ownBlock ∧ some k_ ≠ (.slice Ao153 t463.length co153 : Value).ownBlock ∧ some k_ ≠ (v473 : Value).ownBlock ∧ k_ ≠ gb459) ho0 (fun k_ hk_ => ⟨(Kd.fresh' (Kd.R_lt (by (with_reducible repeat (first | apply Kd.R_alloc | apply Kd.R_drewN | apply Kd.R_drew)); exact HO458.out)) k_ hk_), (Kd.fresh' (Kd.R_lt (by (with_reducible repeat (first | apply Kd.R_alloc | apply Kd.R_drewN | apply Kd.R_drew)); exact HO462.out)) k_ hk_), (Kd.fresh' (Kd.R_lt (by (with_reducible repeat (first | apply Kd.R_alloc | apply Kd.R_drewN | apply Kd.R_drew)); exact HO465.out)) k_ hk_), (Kd.fresh' (Kd.R_lt (by (with_reducible repeat (first | apply Kd.R_alloc | apply Kd.R_drewN | apply Kd.R_drew)); exact HO474.out)) k_ hk_), (Kd.freshB (g := gb459) (o := .cells #[.int .i64 t452, .slice Ao146 t453.length co146] 28 (0, 0)) (by (with_reducible repeat (first | refine blk_drewN ?_ _ | refine blk_drew ?_ | refine blk_alloc ?_ _)); exact BK459.out) k_ hk_)⟩)) (below_size (by repeat (first | (with_reducible first | exact HB.out | apply below_alloc | apply pw_below_drewN | apply below_drew1 | refine below_set ?_ GE459.out) | exact HB.out)))); have n6_ := Aside0.mk (blk_below (g := gb459) (o := .cells #[.int .i64 t452, .slice Ao146 t453.length co146] 28 (0, 0)) (by (with_reducible repeat (first | refine blk_drewN ?_ _ | refine blk_drew ?_ | refine blk_alloc ?_ _)); exact BK459.out) hb); have n7_ := Aside0.mk (below_step (by repeat (first | (with_reducible first | exact HB.out | apply below_alloc | apply pw_below_drewN | apply below_drew1 | refine below_set ?_ GE459.out) | exact HB.out)) hb); clear HO455; clear HO458; clear HO462; clear HO465; clear HO474; clear BK459; clear HB; have HO455 := n0_; have HO458 := n1_; have HO462 := n2_; have HO465 := n3_; have HO474 := n4_; have HO477 := n5_; have BK459 := n6_; have HB := n7_; clear n0_ n1_ n2_ n3_ n4_ n5_ n6_ n7_; (try clear hb); (try clear hb2); (try clear hk); (try clear hi); (try clear ho0); obtain ⟨Ao160, co160, eo160⟩ := Kd.R_slice HO474.out; subst eo160; obtain ⟨Ao161, co161, eo161⟩ := Kd.N_slice HO477.out; subst eo161) | ((with_reducible refine gate_callee (f := 20) rfl ?_); refine goesL_ (some 75) rfl rfl Try.func20 (by kernel_rfl) rfl #[.slice Ao161 t475.length co161, .int .i64 (l4.length : Int), .int .i64 (y472.length : Int)] rfl (by (try simp only [List.map_toArray, List.map_cons, List.map_nil]); first | done | rfl | (simp only [List.length_drop, List.length_take]; rfl)) ?_; (with_reducible refine (proofmarklaw17_within.calls kj6 _ _ t475 (l4.length : Int) (y472.length : Int) false _ ?side1 ?side2 A20.out).mono ?_); (case side1 => repeat (first | exact (Kd.N_reads' HO477.out).2.2 | (with_reducible refine Kd.C_alloc ?_ _) | (with_reducible refine Kd.C_drewN ?_ _) | (with_reducible refine Kd.C_drew ?_))); (case side2 => exact (Kd.N_reads' HO477.out).2.1); rintro e w162 ⟨rfl, hb⟩; refine ⟨_, rfl, ?_⟩; have n0_ := Aside0.mk (Kd.V_below (by (with_reducible repeat (first | apply Kd.V_alloc | apply Kd.V_drewN | apply Kd.V_drew)); exact HO455.out) hb); have n1_ := Aside0.mk (Kd.R_below (by (with_reducible repeat (first | apply Kd.R_alloc | apply Kd.R_drewN | apply Kd.R_drew)); exact HO458.out) hb); have n2_ := Aside0.mk (Kd.R_below (by (with_reducible repeat (first | apply Kd.R_alloc | apply Kd.R_drewN | apply Kd.R_drew)); exact HO462.out) hb); have n3_ := Aside0.mk (Kd.R_below (by (with_reducible repeat (first | apply Kd.R_alloc | apply Kd.R_drewN | apply Kd.R_drew)); exact HO465.out) hb); have n4_ := Aside0.mk (Kd.R_below (by (with_reducible repeat (first | apply Kd.R_alloc | apply Kd.R_drewN | apply Kd.R_drew)); exact HO474.out) hb); have n5_ := Aside0.mk (Kd.N_below (by (with_reducible repeat (first | apply Kd.N_alloc | apply Kd.N_drewN | apply Kd.N_drew)); exact HO477.out) hb); have n6_ := Aside0.mk (blk_below (g := gb459) (o := .cells #[.int .i64 t452, .slice Ao146 t453.length co146] 28 (0, 0)) (by (with_reducible repeat (first | refine blk_drewN ?_ _ | refine blk_drew ?_ | refine blk_alloc ?_ _)); exact BK459.out) hb); have n7_ := Aside0.mk (below_step (by repeat (first | (with_reducible first | exact HB.out | apply below_alloc | apply pw_below_drewN | apply below_drew1 | refine below_set ?_ GE459.out) | exact HB.out)) hb); clear HO455; clear HO458; clear HO462; clear HO465; clear HO474; clear HO477; clear BK459; clear HB; have HO455 := n0_; have HO458 := n1_; have HO462 := n2_; have HO465 := n3_; have HO474 := n4_; have HO477 := n5_; have BK459 := n6_; have HB := n7_; clear n0_ n1_ n2_ n3_ n4_ n5_ n6_ n7_; (try clear hb); (try clear hb2); (try clear hk); (try clear hi)))
         go_ret
         exact ⟨by first | rfl | (simp [errW_none, errW_some] <;> rfl) | (simp [*, errW_none, errW_some] <;> rfl), by repeat (first | (with_reducible first | exact HB.out | apply below_alloc | apply pw_below_drewN | apply below_drew1 | refine below_set ?_ GE459.out) | exact HB.out)⟩
       ·rw [if_neg c18] at H
        exact absurd H (by simp)
      ·rw [if_neg c17] at H
       exact absurd H (by simp)
     ·rw [if_neg c16] at H
      have c16b0 : ((t463.length : Int) == (wrap64 ((wrap64 (1 + t452)) + (t453.length : Int)))) = false := beq_eq_false_iff_ne.mpr c16
      have c16b1 : ((t463.length : Int) != (wrap64 ((wrap64 (1 + t452)) + (t453.length : Int)))) = true := bne_iff_ne.mpr c16
      obtain rfl := Option.some.inj H
      try go_wp2_with (first | ((with_reducible refine gate_callee (f := 12) rfl ?_); refine goesL_ (some 32) rfl rfl Try.func12 (by kernel_rfl) rfl #[.int .u8 a0, .slice A1 l1.length c1] rfl (by (try simp only [List.map_toArray, List.map_cons, List.map_nil]); first | done | rfl | (simp only [List.length_drop, List.length_take]; rfl)) ?_; (with_reducible refine (proofmarklaw13_Made.calls kj6 a0 _ _ l1 t452 t453 t456 _ ?side1 ?side2 A12.out).mono ?_); (case side1 => repeat (first | exact (Kd.C_below HR1.out HB.out) | (with_reducible refine Kd.C_alloc ?_ _) | (with_reducible refine Kd.C_drewN ?_ _) | (with_reducible refine Kd.C_drew ?_))); (case side2 => exact HC1.out); rintro e w163 ⟨v454, v457, rfl, ho0, ho1, hb⟩; refine ⟨_, rfl, ?_⟩; have n0_ := Aside0.mk (Kd.V_lower (Kd.V_mono (ok' := fun k_ => some k_ ≠ (v457 : Value).ownBlock) ho0 (fun k_ hk_ => hk_.2)) (below_size (by repeat (first | (with_reducible first | exact HB.out | apply below_alloc | apply pw_below_drewN | apply below_drew1) | exact HB.out)))); have n1_ := Aside0.mk (Kd.R_lower (Kd.R_mono (ok' := fun k_ => True) ho1 (fun _ hk_ => trivial)) (below_size (by repeat (first | (with_reducible first | exact HB.out | apply below_alloc | apply pw_below_drewN | apply below_drew1) | exact HB.out)))); have n2_ := Aside0.mk (below_step (by repeat (first | (with_reducible first | exact HB.out | apply below_alloc | apply pw_below_drewN | apply below_drew1) | exact HB.out)) hb); clear HB; have HO455 := n0_; have HO458 := n1_; have HB := n2_; clear n0_ n1_ n2_; (try clear hb); (try clear hb2); (try clear hk); (try clear hi); (try clear ho0); (try clear ho1)) | ((with_reducible refine gate_dst (N := 12) rfl ?_); (try (refine gate_guard (by rfl) ?_; dsimp only)); refine box_event ?hg (N := 12) ?hd (cs := #[.int .i64 0, .slice none 0 0]) (t := 28) ?hr ?_; (case hd => rfl); (case hg => rfl); (case hr => first | (go_simp; done) | (go_simp; rfl)); intro gb459 hg w164 hbox hb; have n0_ := Aside0.mk (Kd.V_below (Kd.V_elderB (by (with_reducible repeat (first | apply Kd.V_alloc | apply Kd.V_drewN | apply Kd.V_drew)); exact HO455.out) gb459 (Nat.le_of_eq hg.symm)) hb); have n1_ := Aside0.mk (Kd.R_below (by (with_reducible repeat (first | apply Kd.R_alloc | apply Kd.R_drewN | apply Kd.R_drew)); exact HO458.out) hb); have n2_ := Aside0.mk (below_step (by repeat (first | (with_reducible first | exact HB.out | apply below_alloc | apply pw_below_drewN | apply below_drew1) | exact HB.out)) hb); have n3_ := Aside0.mk (hbox); have n4_ := Aside0.mk ((by rw [hg]; exact (below_size (by repeat (first | (with_reducible first | exact HB.out | apply below_alloc | apply pw_below_drewN | apply below_drew1) | exact HB.out))) : w.heap.size ≤ gb459)); have n5_ := Aside0.mk ((by rw [hg]; exact (below_size (by repeat (first | (with_reducible first | exact HB.out | apply below_alloc | apply pw_below_drewN | apply below_drew1) | exact HB.out))) : w.heap.size ≤ gb459)); clear HO455; clear HO458; clear HB; have HO455 := n0_; have HO458 := n1_; have HB := n2_; have BK459 := n3_; have GW459 := n4_; have GE459 := n5_; clear n0_ n1_ n2_ n3_ n4_ n5_; clear hb hbox hg; have hcz165_0 : w164.cell? ⟨gb459, 0, none⟩ = some (.int .i64 0) := (blk_cell BK459.out 0).trans rfl; have hcz165_1 : w164.cell? ⟨gb459, 1, none⟩ = some (.slice none 0 0) := (blk_cell BK459.out 1).trans rfl; have hfz165_0 := blk_frozen BK459.out 0; have hfz165_1 := blk_frozen BK459.out 1; obtain ⟨Ao166, co166, eo166⟩ := Kd.V_slice HO455.out; subst eo166))
      have n0_ : Aside0 (Kd.V k49 49 ((w164.setCell ⟨gb459, 0, none⟩ (.int .i64 t452)).setCell ⟨gb459, 1, none⟩ (.slice Ao166 t453.length co166)) w.heap.size (fun k_ => some k_ ≠ (v457 : Value).ownBlock ∧ k_ ≠ gb459) (.slice Ao166 t453.length co166) t453) := ⟨by (with_reducible repeat (first | apply Kd.V_alloc | apply Kd.V_drewN | apply Kd.V_drew)); exact Kd.V_mono (Kd.V_far (p := ⟨gb459, 1, none⟩) (Kd.V_far (p := ⟨gb459, 0, none⟩) (Kd.V_mono HO455.out (fun k_ hk => (⟨hk, hk.2⟩ : _ ∧ k_ ≠ gb459))) (fun _ hk => hk.2) (.int .i64 t452)) (fun _ hk => hk.2) (.slice Ao166 t453.length co166)) (fun _ hk => ⟨hk.1.1, hk.1.2⟩)⟩
      have n1_ : Aside0 (Kd.R (Kd.int .i64) 3 ((w164.setCell ⟨gb459, 0, none⟩ (.int .i64 t452)).setCell ⟨gb459, 1, none⟩ (.slice Ao166 t453.length co166)) w.heap.size (fun _ => True) v457 t456) := ⟨by (with_reducible repeat (first | apply Kd.R_alloc | apply Kd.R_drewN | apply Kd.R_drew)); exact Kd.R_mono (Kd.R_far (p := ⟨gb459, 1, none⟩) (Kd.R_far (p := ⟨gb459, 0, none⟩) (Kd.R_types HO458.out BK459.out (by decide)) (fun _ hk => hk.2) (.int .i64 t452)) (fun _ hk => hk.2) (.slice Ao166 t453.length co166)) (fun _ hk => trivial)⟩
      have n2_ : Aside0 (((w164.setCell ⟨gb459, 0, none⟩ (.int .i64 t452)).setCell ⟨gb459, 1, none⟩ (.slice Ao166 t453.length co166)).heap[gb459]? = some (.cells #[.int .i64 t452, .slice Ao166 t453.length co166] 28 (0, 0))) := ⟨by (with_reducible repeat (first | refine blk_drewN ?_ _ | refine blk_drew ?_ | refine blk_alloc ?_ _)); refine blk_put (cs := #[.int .i64 t452, .slice none 0 0]) ?_ 1 _ rfl; (with_reducible repeat (first | refine blk_drewN ?_ _ | refine blk_drew ?_ | refine blk_alloc ?_ _)); refine blk_put (cs := #[.int .i64 0, .slice none 0 0]) ?_ 0 _ rfl; (with_reducible repeat (first | refine blk_drewN ?_ _ | refine blk_drew ?_ | refine blk_alloc ?_ _)); exact BK459.out⟩
      have n3_ : Aside0 (Below w.heap.size w ((w164.setCell ⟨gb459, 0, none⟩ (.int .i64 t452)).setCell ⟨gb459, 1, none⟩ (.slice Ao166 t453.length co166))) := ⟨by repeat (first | (with_reducible first | exact HB.out | apply below_alloc | apply pw_below_drewN | apply below_drew1 | refine below_set ?_ GE459.out) | exact HB.out)⟩
      (try clear HO455)
      (try clear HO458)
      (try clear BK459)
      (try clear HB)
      generalize ((w164.setCell ⟨gb459, 0, none⟩ (.int .i64 t452)).setCell ⟨gb459, 1, none⟩ (.slice Ao166 t453.length co166)) = w167 at n0_ n1_ n2_ n3_ ⊢
      have HO455 := n0_
      have HO458 := n1_
      have BK459 := n2_
      have HB := n3_
      clear n0_ n1_ n2_ n3_
      have n0_ := Aside0.mk (Kd.V_drew HO455.out)
      have n1_ := Aside0.mk (Kd.R_drew HO458.out)
      have n2_ := Aside0.mk (blk_drew BK459.out)
      have n3_ := Aside0.mk (below_drew1 HB.out)
      clear HO455
      clear HO458
      clear BK459
      clear HB
      have HO455 := n0_
      have HO458 := n1_
      have BK459 := n2_
      have HB := n3_
      clear n0_ n1_ n2_ n3_
      refine start_ (n := 6) (S := fun w' => w'.cell? ⟨gb459, 0, none⟩ = some (.int .i64 t452) ∧ w'.cell? ⟨gb459, 1, none⟩ = some (.slice Ao166 t453.length co166)) (ds := []) #[false, false, false, false, false, false] (by kernel_rfl) rfl rfl ⟨(blk_cell BK459.out 0).trans rfl, (blk_cell BK459.out 1).trans rfl⟩ (fun hHeld => ?_)
      generalize w167.drew = w168 at HO455 HO458 BK459 HB hHeld ⊢
      refine pure_ (i := 2) (N := some 37) (v := ?_) (a' := ?_) #[false, false, true, false, false, false] rfl rfl (by kernel_rfl) (fun _ _ _ h => h) (Or.inl ⟨by rfl, ?_⟩) ?_ ?_
      rotate_left
      ·intro w'
       go_simp
       with_reducible rfl
      rotate_left
      ·simp only [Act.put, List.setIfInBounds_toArray, List.set_cons_zero, List.set_cons_succ, i64_w, i32_w]
       rfl
      refine take_ (i := 0) (N := some 35) (v := ?_) (a' := ?_) #[true, false, true, false, false, false] rfl rfl (by kernel_rfl) (fun _ _ _ h => h) (Or.inl ⟨by rfl, ?_⟩) hHeld ?_ ?_
      rotate_left
      ·rintro w' ⟨s0, s1⟩
       go_simp
       with_reducible rfl
      rotate_left
      ·simp only [Act.put, List.setIfInBounds_toArray, List.set_cons_zero, List.set_cons_succ, i64_w, i32_w]
       rfl
      refine take_ (i := 1) (N := some 36) (v := ?_) (a' := ?_) #[true, true, true, false, false, false] rfl rfl (by kernel_rfl) (fun _ _ _ h => h) (Or.inl ⟨by rfl, ?_⟩) hHeld ?_ ?_
      rotate_left
      ·rintro w' ⟨s0, s1⟩
       go_simp
       with_reducible rfl
      rotate_left
      ·simp only [Act.put, List.setIfInBounds_toArray, List.set_cons_zero, List.set_cons_succ, i64_w, i32_w]
       rfl
      refine one_ (i := 3) (N := some 38) #[true, true, true, true, false, false] rfl rfl (by kernel_rfl) (by decide) (fun K hK => ?_)
      refine goes_ Try.func22 (by kernel_rfl) rfl #[.agg #[.int .i64 t452, .slice Ao166 t453.length co166], .slice A2 l2.length c2] (by rfl) rfl rfl (by (try simp only [List.map_toArray, List.map_cons, List.map_nil]); first | done | rfl | (simp only [List.length_drop, List.length_take]; rfl)) ?_
      with_reducible refine (proofmarklaw13_Bits.calls kj6 t452 _ _ t453 _ _ l2 t460 _ ?side1 ?side2 ?side3 ?side4 A13.out).mono ?_
      (case side1 => repeat (first | exact (Kd.V_reads' HO455.out).2.2 | (with_reducible refine Kd.C_alloc ?_ _) | (with_reducible refine Kd.C_drewN ?_ _) | (with_reducible refine Kd.C_drew ?_)))
      (case side2 => exact (Kd.V_reads' HO455.out).2.1)
      (case side3 => repeat (first | exact (Kd.C_below HR2.out HB.out) | (with_reducible refine Kd.C_alloc ?_ _) | (with_reducible refine Kd.C_drewN ?_ _) | (with_reducible refine Kd.C_drew ?_)))
      (case side4 => exact HC2.out)
      rintro e w169 ⟨v461, rfl, ho0, hb⟩
      refine ⟨_, rfl, ?_⟩
      have n0_ := Aside0.mk (Kd.V_elder' (by (with_reducible repeat (first | apply Kd.V_alloc | apply Kd.V_drewN | apply Kd.V_drew)); exact HO455.out) (Kd.R_base ho0) hb)
      have n1_ := Aside0.mk (Kd.R_below (by (with_reducible repeat (first | apply Kd.R_alloc | apply Kd.R_drewN | apply Kd.R_drew)); exact HO458.out) hb)
      have n2_ := Aside0.mk (Kd.R_lower ho0 (below_size (by repeat (first | (with_reducible first | exact HB.out | apply below_alloc | apply pw_below_drewN | apply below_drew1 | refine below_set ?_ GE459.out) | exact HB.out))))
      have n3_ := Aside0.mk (blk_below (g := gb459) (o := .cells #[.int .i64 t452, .slice Ao166 t453.length co166] 28 (0, 0)) (by (with_reducible repeat (first | refine blk_drewN ?_ _ | refine blk_drew ?_ | refine blk_alloc ?_ _)); exact BK459.out) hb)
      have n4_ := Aside0.mk (below_step (by repeat (first | (with_reducible first | exact HB.out | apply below_alloc | apply pw_below_drewN | apply below_drew1 | refine below_set ?_ GE459.out) | exact HB.out)) hb)
      clear HO455
      clear HO458
      clear BK459
      clear HB
      have HO455 := n0_
      have HO458 := n1_
      have HO462 := n2_
      have BK459 := n3_
      have HB := n4_
      clear n0_ n1_ n2_ n3_ n4_
      (try clear hb)
      (try clear hb2)
      (try clear hk)
      (try clear hi)
      (try clear ho0)
      obtain ⟨Ao170, co170, eo170⟩ := Kd.R_slice HO462.out
      (first | subst eo170 | (injection eo170 with f1_ f2_ f3_; have f4_ := f1_.symm; have f5_ := f3_.symm; clear f1_ f2_ f3_; subst f4_; subst f5_))
      refine hK.out _ _ ⟨(blk_cell BK459.out 0).trans rfl, (blk_cell BK459.out 1).trans rfl⟩ (fun hHeld => ?_)
      clear hK K
      refine norm_ (a' := ?_) ?_ ?_
      rotate_left
      ·show Act.put _ (some 38) _ = _
       simp only [Act.put, List.setIfInBounds_toArray, List.set_cons_zero, List.set_cons_succ, i64_w, i32_w]
       rfl
      refine one_ (i := 4) (N := some 39) #[true, true, true, true, true, false] rfl rfl (by kernel_rfl) (by decide) (fun K hK => ?_)
      refine goes_ Try.func21 (by kernel_rfl) rfl #[.agg #[.int .i64 t452, .slice Ao166 t453.length co166], .slice Ao170 t460.length co170] (by rfl) rfl rfl (by (try simp only [List.map_toArray, List.map_cons, List.map_nil]); first | done | rfl | (simp only [List.length_drop, List.length_take]; rfl)) ?_
      with_reducible refine (aig_Eval.calls kj6 t452 _ _ t453 _ _ t460 t463 _ ?side1 ?side2 ?side3 ?side4 A14.out).mono ?_
      (case side1 => repeat (first | exact (Kd.V_reads' HO455.out).2.2 | (with_reducible refine Kd.C_alloc ?_ _) | (with_reducible refine Kd.C_drewN ?_ _) | (with_reducible refine Kd.C_drew ?_)))
      (case side2 => exact (Kd.V_reads' HO455.out).2.1)
      (case side3 => repeat (first | exact (Kd.R_reads' HO462.out).2.2 | (with_reducible refine Kd.C_alloc ?_ _) | (with_reducible refine Kd.C_drewN ?_ _) | (with_reducible refine Kd.C_drew ?_)))
      (case side4 => exact (Kd.R_reads' HO462.out).2.1)
      rintro e w171 ⟨v464, rfl, ho0, hb⟩
      refine ⟨_, rfl, ?_⟩
      have n0_ := Aside0.mk (Kd.V_elder' (by (with_reducible repeat (first | apply Kd.V_alloc | apply Kd.V_drewN | apply Kd.V_drew)); exact HO455.out) (Kd.R_base ho0) hb)
      have n1_ := Aside0.mk (Kd.R_below (by (with_reducible repeat (first | apply Kd.R_alloc | apply Kd.R_drewN | apply Kd.R_drew)); exact HO458.out) hb)
      have n2_ := Aside0.mk (Kd.R_elder' (by (with_reducible repeat (first | apply Kd.R_alloc | apply Kd.R_drewN | apply Kd.R_drew)); exact HO462.out) (Kd.R_base ho0) hb)
      have n3_ := Aside0.mk (Kd.R_lower (Kd.R_new' ho0 (Kd.R_lt (by (with_reducible repeat (first | apply Kd.R_alloc | apply Kd.R_drewN | apply Kd.R_drew)); exact HO462.out))) (below_size (by repeat (first | (with_reducible first | exact HB.out | apply below_alloc | apply pw_below_drewN | apply below_drew1 | refine below_set ?_ GE459.out) | exact HB.out))))
      have n4_ := Aside0.mk (blk_below (g := gb459) (o := .cells #[.int .i64 t452, .slice Ao166 t453.length co166] 28 (0, 0)) (by (with_reducible repeat (first | refine blk_drewN ?_ _ | refine blk_drew ?_ | refine blk_alloc ?_ _)); exact BK459.out) hb)
      have n5_ := Aside0.mk (below_step (by repeat (first | (with_reducible first | exact HB.out | apply below_alloc | apply pw_below_drewN | apply below_drew1 | refine below_set ?_ GE459.out) | exact HB.out)) hb)
      clear HO455
      clear HO458
      clear HO462
      clear BK459
      clear HB
      have HO455 := n0_
      have HO458 := n1_
      have HO462 := n2_
      have HO465 := n3_
      have BK459 := n4_
      have HB := n5_
      clear n0_ n1_ n2_ n3_ n4_ n5_
      (try clear hb)
      (try clear hb2)
      (try clear hk)
      (try clear hi)
      (try clear ho0)
      refine hK.out _ _ ⟨(blk_cell BK459.out 0).trans rfl, (blk_cell BK459.out 1).trans rfl⟩ (fun hHeld => ?_)
      clear hK K
      refine norm_ (a' := ?_) ?_ ?_
      rotate_left
      ·show Act.put _ (some 39) _ = _
       simp only [Act.put, List.setIfInBounds_toArray, List.set_cons_zero, List.set_cons_succ, i64_w, i32_w]
       rfl
      refine pure_ (i := 5) (N := some 14) (v := ?_) (a' := ?_) #[true, true, true, true, true, true] rfl rfl (by kernel_rfl) (fun _ _ _ h => h) (Or.inl ⟨by rfl, ?_⟩) ?_ ?_
      rotate_left
      ·intro w'
       go_simp
       with_reducible rfl
      rotate_left
      ·simp only [Act.put, List.setIfInBounds_toArray, List.set_cons_zero, List.set_cons_succ, i64_w, i32_w]
       rfl
      refine done_ (by kernel_rfl) ?_
      have hcz172_0 : w171.cell? ⟨gb459, 0, none⟩ = some (.int .i64 t452) := (blk_cell BK459.out 0).trans rfl
      have hcz172_1 : w171.cell? ⟨gb459, 1, none⟩ = some (.slice Ao166 t453.length co166) := (blk_cell BK459.out 1).trans rfl
      have hfz172_0 := blk_frozen BK459.out 0
      have hfz172_1 := blk_frozen BK459.out 1
      obtain ⟨Ao173, co173, eo173⟩ := Kd.R_slice HO465.out
      subst eo173
      try go_wp2
      go_ret
      exact ⟨by first | rfl | (simp [errW_none, errW_some] <;> rfl) | (simp [*, errW_none, errW_some] <;> rfl), by repeat (first | (with_reducible first | exact HB.out | apply below_alloc | apply pw_below_drewN | apply below_drew1 | refine below_set ?_ GE459.out) | exact HB.out)⟩
end Go.Proofs.Ytdfbnlmjnollnaa.Xb
