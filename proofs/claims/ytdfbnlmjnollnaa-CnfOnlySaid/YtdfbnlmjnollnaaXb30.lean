/- Slimmed by this session: what nothing names is struck out. -/
import Derived.Test.YtdfbnlmjnollnaaXb0
import Derived.Test.YtdfbnlmjnollnaaXb5
import Derived.Test.YtdfbnlmjnollnaaXb6
import Derived.Test.YtdfbnlmjnollnaaXb7
import Derived.Test.YtdfbnlmjnollnaaXb16
import Derived.Test.YtdfbnlmjnollnaaXb21
import Derived.Test.YtdfbnlmjnollnaaXb26
import Derived.Test.YtdfbnlmjnollnaaXb27
import Derived.Test.YtdfbnlmjnollnaaXb28
namespace Go.Proofs.Ytdfbnlmjnollnaa.Xb
open Go.RowKit Go.Proofs.YtdfbnlmjnollnaaW.PrintWords Go.Proofs.YtdfbnlmjnollnaaW.PrintLast Go.Proofs.YtdfbnlmjnollnaaW.PrintMore
attribute [local go_sem] max2_int min2_int max_two min_two max_three min_three max_four min_four
set_option linter.unusedVariables false
set_option linter.unusedSimpArgs false
mutual
def proofmarklaw17_CnfOnly.j0 : Nat → Int → List (S53) → List Bool → List Int → Bool → Bool → Option (Bool)
 | 0, _, _, _, _, _, _ => none
 | k + 1, x0, x1, x2, x3, x9, x26 => if x26 = true then (some x9) else ((proofmarklaw13_Made.f k x0 x1).bind fun bt412 => ((some (([] : List Bool) : List Bool)).bind fun y420 => ((proofmarklaw13_Bits.f k bt412.1 bt412.2.1 x2).bind fun t423 => ((aig_Eval.f k bt412.1 bt412.2.1 t423).bind fun t426 => (if y420.length + t426.length < 140737488355328 then ((some (y420 ++ t426 : List Bool)).bind fun y429 => ((cnf_Clauses.f bt412.1 bt412.2.1 0).bind fun t432 => (if (y429.length : Int) = (wrap64 ((wrap64 (1 + bt412.1)) + (bt412.2.1.length : Int))) then ((proofmarklaw17_within.f k t432 0 (y429.length : Int)).bind fun t435 => (proofmarklaw17_CnfOnly.j1 k x3 x9 y429 t432 (!t435) bt412.1 bt412.2.1)) else (proofmarklaw17_CnfOnly.j1 k x3 x9 y429 t432 true bt412.1 bt412.2.1)))) else (none))))))
def proofmarklaw17_CnfOnly.j1 : Nat → List Int → Bool → List Bool → List (List Int) → Bool → Int → List (S49) → Option (Bool)
 | 0, _, _, _, _, _, _, _ => none
 | k + 1, x3, x9, x12, x13, x59, x420000, x420001 => if x59 = true then (some false) else ((some (([] : List Bool) : List Bool)).bind fun y436 => (if y436.length + x12.length < 140737488355328 then (proofmarklaw17_CnfOnly.l0 k x3 x9 x12 x13 (y436 ++ x12) 0 x420000 x420001) else (none)))
def proofmarklaw17_CnfOnly.l0 : Nat → List Int → Bool → List Bool → List (List Int) → List Bool → Int → Int → List (S49) → Option (Bool)
 | 0, _, _, _, _, _, _, _, _ => none
 | k + 1, x3, x9, x12, x13, x14, x15, x420000, x420001 => if x15 < (x3.length : Int) then (if 0 ≤ x15 then (if (wrap64 (1 + (x420001.length : Int))) = 0 then (none) else (if (Int.tmod (wrap64 (rd x3 x15)) (wrap64 (1 + (x420001.length : Int)))) > 0 then (if 0 ≤ (wrap64 ((Int.tmod (wrap64 (rd x3 x15)) (wrap64 (1 + (x420001.length : Int)))) + x420000)) then (if (wrap64 ((Int.tmod (wrap64 (rd x3 x15)) (wrap64 (1 + (x420001.length : Int)))) + x420000)) < (x14.length : Int) then (proofmarklaw17_CnfOnly.l0 k x3 x9 x12 x13 (x14.set ((wrap64 ((Int.tmod (wrap64 (rd x3 x15)) (wrap64 (1 + (x420001.length : Int)))) + x420000)) : Int).toNat (!(rdOf false x14 (wrap64 ((Int.tmod (wrap64 (rd x3 x15)) (wrap64 (1 + (x420001.length : Int)))) + x420000))))) (wrap64 (x15 + 1)) x420000 x420001) else (none)) else (none)) else (if 0 ≤ (Int.tmod (wrap64 (rd x3 x15)) (wrap64 (1 + (x420001.length : Int)))) then (if (Int.tmod (wrap64 (rd x3 x15)) (wrap64 (1 + (x420001.length : Int)))) < (x14.length : Int) then (proofmarklaw17_CnfOnly.l0 k x3 x9 x12 x13 (x14.set ((Int.tmod (wrap64 (rd x3 x15)) (wrap64 (1 + (x420001.length : Int)))) : Int).toNat (!(rdOf false x14 (Int.tmod (wrap64 (rd x3 x15)) (wrap64 (1 + (x420001.length : Int))))))) (wrap64 (x15 + 1)) x420000 x420001) else (none)) else (none)))) else (none)) else (proofmarklaw17_CnfOnly.l1 k x9 x12 x13 x14 true 0)
def proofmarklaw17_CnfOnly.l1 : Nat → Bool → List Bool → List (List Int) → List Bool → Bool → Int → Option (Bool)
 | 0, _, _, _, _, _, _ => none
 | k + 1, x9, x12, x13, x14, x17, x18 => if x18 < (x12.length : Int) then (if x17 = true then (if 0 ≤ x18 then (if x18 < (x14.length : Int) then (proofmarklaw17_CnfOnly.l1 k x9 x12 x13 x14 ((rdOf false x12 x18) == (rdOf false x14 x18)) (wrap64 (x18 + 1))) else (none)) else (none)) else (proofmarklaw17_CnfOnly.l1 k x9 x12 x13 x14 false (wrap64 (x18 + 1)))) else (if x9 = true then ((proofmarkref17_Met.f k x13 x14).bind fun t449 => (some (t449 == x17))) else (some false))
end
def proofmarklaw17_CnfOnly.f (k : Nat) (a0 : Int) (l1 : List (S53)) (l2 : List Bool) (l3 : List Int) : Option (Bool) := (proofmarklaw17_head.f k).bind fun t410 => ((proofmarklaw13_Great.f l1).bind fun t411 => (if t411 = true then (proofmarklaw17_CnfOnly.j0 k a0 l1 l2 l3 t410 true) else (proofmarklaw17_CnfOnly.j0 k a0 l1 l2 l3 t410 (decide ((l3.length : Int) > 40)))))
theorem proofmarklaw17_CnfOnly.mono_l : ∀ k, (∀ y0 y1 y2 y3 y4 y5, LeO (proofmarklaw17_CnfOnly.j0 k y0 y1 y2 y3 y4 y5) (proofmarklaw17_CnfOnly.j0 (k + 1) y0 y1 y2 y3 y4 y5)) ∧ (∀ y0 y1 y2 y3 y4 y5 y6, LeO (proofmarklaw17_CnfOnly.j1 k y0 y1 y2 y3 y4 y5 y6) (proofmarklaw17_CnfOnly.j1 (k + 1) y0 y1 y2 y3 y4 y5 y6)) ∧ (∀ y0 y1 y2 y3 y4 y5 y6 y7, LeO (proofmarklaw17_CnfOnly.l0 k y0 y1 y2 y3 y4 y5 y6 y7) (proofmarklaw17_CnfOnly.l0 (k + 1) y0 y1 y2 y3 y4 y5 y6 y7)) ∧ (∀ y0 y1 y2 y3 y4 y5, LeO (proofmarklaw17_CnfOnly.l1 k y0 y1 y2 y3 y4 y5) (proofmarklaw17_CnfOnly.l1 (k + 1) y0 y1 y2 y3 y4 y5))
 | 0 => ⟨fun _ _ _ _ _ _ r h => by simp [proofmarklaw17_CnfOnly.j0] at h, fun _ _ _ _ _ _ _ r h => by simp [proofmarklaw17_CnfOnly.j1] at h, fun _ _ _ _ _ _ _ _ r h => by simp [proofmarklaw17_CnfOnly.l0] at h, fun _ _ _ _ _ _ r h => by simp [proofmarklaw17_CnfOnly.l1] at h⟩
 | k + 1 => by
  obtain ⟨ih0, ih1, ih2, ih3⟩ := proofmarklaw17_CnfOnly.mono_l k
  refine ⟨?_, ?_, ?_, ?_⟩
  ·intro y0 y1 y2 y3 y4 y5
   unfold proofmarklaw17_CnfOnly.j0
   repeat' first
   | (with_reducible exact ih0 _ _ _ _ _ _)
   | (with_reducible exact ih1 _ _ _ _ _ _ _)
   | (with_reducible exact ih2 _ _ _ _ _ _ _ _)
   | (with_reducible exact ih3 _ _ _ _ _ _)
   | (with_reducible exact aig_Eval.mono _ _ _ _)
   | (with_reducible exact proofmarklaw13_Bits.mono _ _ _ _)
   | (with_reducible exact proofmarklaw13_Made.mono _ _ _)
   | (with_reducible exact proofmarklaw17_head.mono _)
   | (with_reducible exact proofmarklaw17_within.mono _ _ _ _)
   | (with_reducible exact proofmarkref17_Met.mono _ _ _)
   | (with_reducible exact LeO.refl _)
   | (with_reducible exact LeO.none _)
   | (with_reducible refine LeO.ite ?_ ?_)
   | (with_reducible refine LeO.bind ?_ (fun _ => ?_))
   | exact ih0 _ _ _ _ _ _
   | exact ih1 _ _ _ _ _ _ _
   | exact ih2 _ _ _ _ _ _ _ _
   | exact ih3 _ _ _ _ _ _
   | exact aig_Eval.mono _ _ _ _
   | exact proofmarklaw13_Bits.mono _ _ _ _
   | exact proofmarklaw13_Made.mono _ _ _
   | exact proofmarklaw17_head.mono _
   | exact proofmarklaw17_within.mono _ _ _ _
   | exact proofmarkref17_Met.mono _ _ _
   | exact LeO.none _
   | refine LeO.ite ?_ ?_
   | refine LeO.bind ?_ (fun _ => ?_)
  ·intro y0 y1 y2 y3 y4 y5 y6
   unfold proofmarklaw17_CnfOnly.j1
   repeat' first
   | (with_reducible exact ih0 _ _ _ _ _ _)
   | (with_reducible exact ih1 _ _ _ _ _ _ _)
   | (with_reducible exact ih2 _ _ _ _ _ _ _ _)
   | (with_reducible exact ih3 _ _ _ _ _ _)
   | (with_reducible exact aig_Eval.mono _ _ _ _)
   | (with_reducible exact proofmarklaw13_Bits.mono _ _ _ _)
   | (with_reducible exact proofmarklaw13_Made.mono _ _ _)
   | (with_reducible exact proofmarklaw17_head.mono _)
   | (with_reducible exact proofmarklaw17_within.mono _ _ _ _)
   | (with_reducible exact proofmarkref17_Met.mono _ _ _)
   | (with_reducible exact LeO.refl _)
   | (with_reducible exact LeO.none _)
   | (with_reducible refine LeO.ite ?_ ?_)
   | (with_reducible refine LeO.bind ?_ (fun _ => ?_))
   | exact ih0 _ _ _ _ _ _
   | exact ih1 _ _ _ _ _ _ _
   | exact ih2 _ _ _ _ _ _ _ _
   | exact ih3 _ _ _ _ _ _
   | exact aig_Eval.mono _ _ _ _
   | exact proofmarklaw13_Bits.mono _ _ _ _
   | exact proofmarklaw13_Made.mono _ _ _
   | exact proofmarklaw17_head.mono _
   | exact proofmarklaw17_within.mono _ _ _ _
   | exact proofmarkref17_Met.mono _ _ _
   | exact LeO.none _
   | refine LeO.ite ?_ ?_
   | refine LeO.bind ?_ (fun _ => ?_)
  ·intro y0 y1 y2 y3 y4 y5 y6 y7
   unfold proofmarklaw17_CnfOnly.l0
   repeat' first
   | (with_reducible exact ih0 _ _ _ _ _ _)
   | (with_reducible exact ih1 _ _ _ _ _ _ _)
   | (with_reducible exact ih2 _ _ _ _ _ _ _ _)
   | (with_reducible exact ih3 _ _ _ _ _ _)
   | (with_reducible exact aig_Eval.mono _ _ _ _)
   | (with_reducible exact proofmarklaw13_Bits.mono _ _ _ _)
   | (with_reducible exact proofmarklaw13_Made.mono _ _ _)
   | (with_reducible exact proofmarklaw17_head.mono _)
   | (with_reducible exact proofmarklaw17_within.mono _ _ _ _)
   | (with_reducible exact proofmarkref17_Met.mono _ _ _)
   | (with_reducible exact LeO.refl _)
   | (with_reducible exact LeO.none _)
   | (with_reducible refine LeO.ite ?_ ?_)
   | (with_reducible refine LeO.bind ?_ (fun _ => ?_))
   | exact ih0 _ _ _ _ _ _
   | exact ih1 _ _ _ _ _ _ _
   | exact ih2 _ _ _ _ _ _ _ _
   | exact ih3 _ _ _ _ _ _
   | exact aig_Eval.mono _ _ _ _
   | exact proofmarklaw13_Bits.mono _ _ _ _
   | exact proofmarklaw13_Made.mono _ _ _
   | exact proofmarklaw17_head.mono _
   | exact proofmarklaw17_within.mono _ _ _ _
   | exact proofmarkref17_Met.mono _ _ _
   | exact LeO.none _
   | refine LeO.ite ?_ ?_
   | refine LeO.bind ?_ (fun _ => ?_)
  ·intro y0 y1 y2 y3 y4 y5
   unfold proofmarklaw17_CnfOnly.l1
   repeat' first
   | (with_reducible exact ih0 _ _ _ _ _ _)
   | (with_reducible exact ih1 _ _ _ _ _ _ _)
   | (with_reducible exact ih2 _ _ _ _ _ _ _ _)
   | (with_reducible exact ih3 _ _ _ _ _ _)
   | (with_reducible exact aig_Eval.mono _ _ _ _)
   | (with_reducible exact proofmarklaw13_Bits.mono _ _ _ _)
   | (with_reducible exact proofmarklaw13_Made.mono _ _ _)
   | (with_reducible exact proofmarklaw17_head.mono _)
   | (with_reducible exact proofmarklaw17_within.mono _ _ _ _)
   | (with_reducible exact proofmarkref17_Met.mono _ _ _)
   | (with_reducible exact LeO.refl _)
   | (with_reducible exact LeO.none _)
   | (with_reducible refine LeO.ite ?_ ?_)
   | (with_reducible refine LeO.bind ?_ (fun _ => ?_))
   | exact ih0 _ _ _ _ _ _
   | exact ih1 _ _ _ _ _ _ _
   | exact ih2 _ _ _ _ _ _ _ _
   | exact ih3 _ _ _ _ _ _
   | exact aig_Eval.mono _ _ _ _
   | exact proofmarklaw13_Bits.mono _ _ _ _
   | exact proofmarklaw13_Made.mono _ _ _
   | exact proofmarklaw17_head.mono _
   | exact proofmarklaw17_within.mono _ _ _ _
   | exact proofmarkref17_Met.mono _ _ _
   | exact LeO.none _
   | refine LeO.ite ?_ ?_
   | refine LeO.bind ?_ (fun _ => ?_)
theorem proofmarklaw17_CnfOnly.mono : ∀ a0 a1 a2 a3 k, LeO (proofmarklaw17_CnfOnly.f k a0 a1 a2 a3) (proofmarklaw17_CnfOnly.f (k + 1) a0 a1 a2 a3) := by
 intro a0 a1 a2 a3 k
 obtain ⟨ih0, ih1, ih2, ih3⟩ := proofmarklaw17_CnfOnly.mono_l k
 unfold proofmarklaw17_CnfOnly.f
 repeat' first
   | (with_reducible exact ih0 _ _ _ _ _ _)
   | (with_reducible exact ih1 _ _ _ _ _ _ _)
   | (with_reducible exact ih2 _ _ _ _ _ _ _ _)
   | (with_reducible exact ih3 _ _ _ _ _ _)
   | (with_reducible exact aig_Eval.mono _ _ _ _)
   | (with_reducible exact proofmarklaw13_Bits.mono _ _ _ _)
   | (with_reducible exact proofmarklaw13_Made.mono _ _ _)
   | (with_reducible exact proofmarklaw17_head.mono _)
   | (with_reducible exact proofmarklaw17_within.mono _ _ _ _)
   | (with_reducible exact proofmarkref17_Met.mono _ _ _)
   | (with_reducible exact LeO.refl _)
   | (with_reducible exact LeO.none _)
   | (with_reducible refine LeO.ite ?_ ?_)
   | (with_reducible refine LeO.bind ?_ (fun _ => ?_))
   | exact ih0 _ _ _ _ _ _
   | exact ih1 _ _ _ _ _ _ _
   | exact ih2 _ _ _ _ _ _ _ _
   | exact ih3 _ _ _ _ _ _
   | exact aig_Eval.mono _ _ _ _
   | exact proofmarklaw13_Bits.mono _ _ _ _
   | exact proofmarklaw13_Made.mono _ _ _
   | exact proofmarklaw17_head.mono _
   | exact proofmarklaw17_within.mono _ _ _ _
   | exact proofmarkref17_Met.mono _ _ _
   | exact LeO.none _
   | refine LeO.ite ?_ ?_
   | refine LeO.bind ?_ (fun _ => ?_)
def proofmarklaw17_CnfOnly.T5 : Bool × List (List Nat × List Nat) := (true, [([], []), ([], []), ([], []), ([], []), ([2, 3], [2, 3]), ([1, 4, 4], [1, 4]), ([0, 5, 5], [0, 5]), ([6, 6, 0, 1, 2, 3, 4, 5, 6], [6])])
def proofmarklaw17_CnfOnly.B5 : List Nat := [0, 0, 0, 0, 12, 30, 63, 127]
theorem proofmarklaw17_CnfOnly.tab5 : rtab .any (opsOf Try.f8 5) = proofmarklaw17_CnfOnly.T5 := by kernel_rfl
theorem proofmarklaw17_CnfOnly.bits5 : waitsOk proofmarklaw17_CnfOnly.T5.2 proofmarklaw17_CnfOnly.B5 = true := by kernel_rfl
def proofmarklaw17_CnfOnly.T13 : Bool × List (List Nat × List Nat) := (true, [([], []), ([], []), ([0, 1], [0, 1]), ([2], [2]), ([3], [3]), ([], []), ([5], [5]), ([6], [6]), ([7], [7]), ([4, 8], [4, 8]), ([9, 0, 1, 2, 3, 4, 5, 6, 7, 8, 9], [9])])
def proofmarklaw17_CnfOnly.B13 : List Nat := [0, 0, 3, 7, 15, 0, 32, 96, 224, 511, 1023]
theorem proofmarklaw17_CnfOnly.tab13 : rtab .any (opsOf Try.f8 13) = proofmarklaw17_CnfOnly.T13 := by kernel_rfl
theorem proofmarklaw17_CnfOnly.bits13 : waitsOk proofmarklaw17_CnfOnly.T13.2 proofmarklaw17_CnfOnly.B13 = true := by kernel_rfl
def proofmarklaw17_CnfOnly.T21 : Bool × List (List Nat × List Nat) := (true, [([], []), ([0], [0]), ([1], [1]), ([1], [1]), ([2, 3, 1], [1, 2, 3]), ([4, 1], [1, 4]), ([1], [1]), ([1], [1]), ([6, 7, 1], [1, 6, 7]), ([8, 1], [1, 8]), ([5, 9, 1], [1, 5, 9]), ([1, 10], [1, 10]), ([11, 1, 0, 1, 2, 3, 4, 5, 6, 7, 8, 9, 10, 11], [0, 11])])
def proofmarklaw17_CnfOnly.B21 : List Nat := [0, 1, 3, 3, 15, 31, 3, 3, 195, 451, 1023, 2047, 4095]
theorem proofmarklaw17_CnfOnly.tab21 : rtab .any (opsOf Try.f8 21) = proofmarklaw17_CnfOnly.T21 := by kernel_rfl
theorem proofmarklaw17_CnfOnly.bits21 : waitsOk proofmarklaw17_CnfOnly.T21.2 proofmarklaw17_CnfOnly.B21 = true := by kernel_rfl
set_option maxHeartbeats 8000000 in
set_option maxRecDepth 100000 in
theorem proofmarklaw17_CnfOnly.calls (k : Nat) (a0 : Int) (A1 : Option Addr) (c1 : Nat) (l1 : List (S53)) (A2 : Option Addr) (c2 : Nat) (l2 : List Bool) (A3 : Option Addr) (c3 : Nat) (l3 : List Int) (r : Bool) (w : World) (hr1 : Kd.C k53 w A1 l1.length l1) (hc1 : l1.length ≤ c1) (hr2 : Kd.C Kd.bool w A2 l2.length l2) (hc2 : l2.length ≤ c2) (hr3 : Kd.C (Kd.int .u16) w A3 l3.length l3) (hc3 : l3.length ≤ c3) (h : proofmarklaw17_CnfOnly.f k a0 l1 l2 l3 = some r) :
  Calls Try.prog 8 #[.int .u8 a0, .slice A1 l1.length c1, .slice A2 l2.length c2, .slice A3 l3.length c3] w fun e w' => e = .returned (.bool r) ∧ Below w.heap.size w w' := by
 have hu28 := Try.underlying28
 have HR1 := Aside0.mk hr1
 have HC1 := Aside0.mk hc1
 clear hr1 hc1
 have HR2 := Aside0.mk hr2
 have HC2 := Aside0.mk hc2
 clear hr2 hc2
 have HR3 := Aside0.mk hr3
 have HC3 := Aside0.mk hc3
 clear hr3 hc3
 have HB := Aside0.mk (Below.refl w.heap.size w)
 have H : ((proofmarklaw17_head.f k).bind fun t410 => ((proofmarklaw13_Great.f l1).bind fun t411 => (if t411 = true then (proofmarklaw17_CnfOnly.j0 k a0 l1 l2 l3 t410 true) else (proofmarklaw17_CnfOnly.j0 k a0 l1 l2 l3 t410 (decide ((l3.length : Int) > 40)))))) = some r := h
 clear h
 replace H := Option.bind_eq_some_iff.mp H
 obtain ⟨t410, A50, H⟩ := H
 replace H : ((proofmarklaw13_Great.f l1).bind fun t411 => (if t411 = true then (proofmarklaw17_CnfOnly.j0 k a0 l1 l2 l3 t410 true) else (proofmarklaw17_CnfOnly.j0 k a0 l1 l2 l3 t410 (decide ((l3.length : Int) > 40))))) = some r := H
 have A5 := Aside0.mk A50
 clear A50
 have HC6 := Aside0.mk H
 clear H
 go_enter Try.func8, Try.ntmps8
 go_upto_region 2 with (first | ((with_reducible refine gate_callee (f := 10) rfl ?_); refine goesL_ (some 19) rfl rfl Try.func10 (by kernel_rfl) rfl #[] rfl (by (try simp only [List.map_toArray, List.map_cons, List.map_nil]); first | done | rfl | (simp only [List.length_drop, List.length_take]; rfl)) ?_; (with_reducible refine (proofmarklaw17_head.calls k  t410 _ A5.out).mono ?_); rintro e w7 ⟨rfl, hb⟩; refine ⟨_, rfl, ?_⟩; have n0_ := Aside0.mk (below_step (by repeat (first | (with_reducible first | exact HB.out | apply below_alloc | apply pw_below_drewN | apply below_drew1) | exact HB.out)) hb); clear HB; have HB := n0_; clear n0_; (try clear hb); (try clear hb2); (try clear hk); (try clear hi)))
 (try simp only [Act.put, List.setIfInBounds_toArray, List.set_cons_zero, List.set_cons_succ])
 go_cut [26] (fun v26 wc => ∃ (kq : Nat) (x26_5 : Bool), v26 = .bool x26_5 ∧ Aside0 (proofmarklaw17_CnfOnly.j0 kq a0 l1 l2 l3 t410 x26_5 = some r) ∧ Aside0 (kq ≤ k) ∧ Aside0 (Below w.heap.size w wc))
 case first =>
  have H := HC6.out
  clear HC6
  replace H := Option.bind_eq_some_iff.mp H
  obtain ⟨t411, A80, H⟩ := H
  replace H : (if t411 = true then (proofmarklaw17_CnfOnly.j0 k a0 l1 l2 l3 t410 true) else (proofmarklaw17_CnfOnly.j0 k a0 l1 l2 l3 t410 (decide ((l3.length : Int) > 40)))) = some r := H
  have A8 := Aside0.mk A80
  clear A80
  by_cases c9 : t411 = true
  ·subst c9
   have H1 : (proofmarklaw17_CnfOnly.j0 k a0 l1 l2 l3 t410 true) = some r := by rw [if_pos rfl] at H; exact H
   clear H
   have H := H1
   clear H1
   have H' := Aside0.mk H
   clear H
   go_wp2_with (first | ((with_reducible refine gate_callee (f := 11) rfl ?_); refine goesL_ (some 21) rfl rfl Try.func11 (by kernel_rfl) rfl #[.slice A1 l1.length c1] rfl (by (try simp only [List.map_toArray, List.map_cons, List.map_nil]); first | done | rfl | (simp only [List.length_drop, List.length_take]; rfl)) ?_; (with_reducible refine (proofmarklaw13_Great.calls _ _ l1 true _ ?side1 ?side2 A8.out).mono ?_); (case side1 => repeat (first | exact (Kd.C_below HR1.out HB.out) | (with_reducible refine Kd.C_alloc ?_ _) | (with_reducible refine Kd.C_drewN ?_ _) | (with_reducible refine Kd.C_drew ?_))); (case side2 => exact HC1.out); rintro e w' ⟨rfl, ⟨nd, rfl⟩⟩; refine ⟨_, rfl, ?_⟩))
   go_meet
   case rel => exact ⟨_, (true), (by first | rfl | (simp; done) | (simp [*]; done)), H', ⟨by first | omega | exact Nat.le_refl _⟩, ⟨by repeat (first | (with_reducible first | exact HB.out | apply below_alloc | apply pw_below_drewN | apply below_drew1) | exact HB.out)⟩⟩
  ·replace c9 := Bool.eq_false_iff.mpr c9
   subst c9
   have H1 : (proofmarklaw17_CnfOnly.j0 k a0 l1 l2 l3 t410 (decide ((l3.length : Int) > 40))) = some r := by rw [if_neg (show ¬ (false = true) by decide)] at H; exact H
   clear H
   have H := H1
   clear H1
   have H' := Aside0.mk H
   clear H
   go_wp2_with (first | ((with_reducible refine gate_callee (f := 11) rfl ?_); refine goesL_ (some 21) rfl rfl Try.func11 (by kernel_rfl) rfl #[.slice A1 l1.length c1] rfl (by (try simp only [List.map_toArray, List.map_cons, List.map_nil]); first | done | rfl | (simp only [List.length_drop, List.length_take]; rfl)) ?_; (with_reducible refine (proofmarklaw13_Great.calls _ _ l1 false _ ?side1 ?side2 A8.out).mono ?_); (case side1 => repeat (first | exact (Kd.C_below HR1.out HB.out) | (with_reducible refine Kd.C_alloc ?_ _) | (with_reducible refine Kd.C_drewN ?_ _) | (with_reducible refine Kd.C_drew ?_))); (case side2 => exact HC1.out); rintro e w' ⟨rfl, ⟨nd, rfl⟩⟩; refine ⟨_, rfl, ?_⟩))
   go_meet
   case rel => exact ⟨_, (decide ((l3.length : Int) > 40)), (by first | rfl | (simp; done) | (simp [*]; done)), H', ⟨by first | omega | exact Nat.le_refl _⟩, ⟨by repeat (first | (with_reducible first | exact HB.out | apply below_alloc | apply pw_below_drewN | apply below_drew1) | exact HB.out)⟩⟩
 case rest =>
  clear HC6
  try clear c1
  try clear c2
  try clear p2
  try clear c3
  try clear c8
  try clear c9
  obtain ⟨kq, x26_5, rfl, HA, HJ5, HB⟩ := hcut
  cases kq with
  | zero => exact absurd HA.out (by simp [proofmarklaw17_CnfOnly.j0])
  | succ kj5 =>
   have H := HA.out
   clear HA
   simp only [proofmarklaw17_CnfOnly.j0] at H
   by_cases c10 : x26_5 = true
   ·subst c10
    have H1 : (some t410) = some r := by rw [if_pos rfl] at H; exact H
    clear H
    have H := H1
    clear H1
    obtain rfl := Option.some.inj H
    go_wp2
    go_ret
    exact ⟨by first | rfl | (simp [errW_none, errW_some] <;> rfl) | (simp [*, errW_none, errW_some] <;> rfl), by repeat (first | (with_reducible first | exact HB.out | apply below_alloc | apply pw_below_drewN | apply below_drew1) | exact HB.out)⟩
   ·replace c10 := Bool.eq_false_iff.mpr c10
    subst c10
    have H1 : ((proofmarklaw13_Made.f kj5 a0 l1).bind fun bt412 => ((some (([] : List Bool) : List Bool)).bind fun y420 => ((proofmarklaw13_Bits.f kj5 bt412.1 bt412.2.1 l2).bind fun t423 => ((aig_Eval.f kj5 bt412.1 bt412.2.1 t423).bind fun t426 => (if y420.length + t426.length < 140737488355328 then ((some (y420 ++ t426 : List Bool)).bind fun y429 => ((cnf_Clauses.f bt412.1 bt412.2.1 0).bind fun t432 => (if (y429.length : Int) = (wrap64 ((wrap64 (1 + bt412.1)) + (bt412.2.1.length : Int))) then ((proofmarklaw17_within.f kj5 t432 0 (y429.length : Int)).bind fun t435 => (proofmarklaw17_CnfOnly.j1 kj5 l3 t410 y429 t432 (!t435) bt412.1 bt412.2.1)) else (proofmarklaw17_CnfOnly.j1 kj5 l3 t410 y429 t432 true bt412.1 bt412.2.1)))) else (none)))))) = some r := by rw [if_neg (show ¬ (false = true) by decide)] at H; exact H
    clear H
    have H := H1
    clear H1
    replace H := Option.bind_eq_some_iff.mp H
    obtain ⟨⟨t412, t413, t416⟩, A110, H⟩ := H
    replace H : ((some (([] : List Bool) : List Bool)).bind fun y420 => ((proofmarklaw13_Bits.f kj5 t412 t413 l2).bind fun t423 => ((aig_Eval.f kj5 t412 t413 t423).bind fun t426 => (if y420.length + t426.length < 140737488355328 then ((some (y420 ++ t426 : List Bool)).bind fun y429 => ((cnf_Clauses.f t412 t413 0).bind fun t432 => (if (y429.length : Int) = (wrap64 ((wrap64 (1 + t412)) + (t413.length : Int))) then ((proofmarklaw17_within.f kj5 t432 0 (y429.length : Int)).bind fun t435 => (proofmarklaw17_CnfOnly.j1 kj5 l3 t410 y429 t432 (!t435) t412 t413)) else (proofmarklaw17_CnfOnly.j1 kj5 l3 t410 y429 t432 true t412 t413)))) else (none))))) = some r := H
    have A11 := Aside0.mk A110
    clear A110
    obtain ⟨y420, hy420⟩ : ∃ y_ : List Bool, y_ = (([] : List Bool)) := ⟨_, rfl⟩
    replace H : ((proofmarklaw13_Bits.f kj5 t412 t413 l2).bind fun t423 => ((aig_Eval.f kj5 t412 t413 t423).bind fun t426 => (if y420.length + t426.length < 140737488355328 then ((some (y420 ++ t426 : List Bool)).bind fun y429 => ((cnf_Clauses.f t412 t413 0).bind fun t432 => (if (y429.length : Int) = (wrap64 ((wrap64 (1 + t412)) + (t413.length : Int))) then ((proofmarklaw17_within.f kj5 t432 0 (y429.length : Int)).bind fun t435 => (proofmarklaw17_CnfOnly.j1 kj5 l3 t410 y429 t432 (!t435) t412 t413)) else (proofmarklaw17_CnfOnly.j1 kj5 l3 t410 y429 t432 true t412 t413)))) else (none)))) = some r := by first | (rw [hy420]; with_reducible exact H) | (have H2_ := (Option.bind_some _ _).symm.trans H; rw [hy420]; with_reducible exact H2_) | (have H2_ := (Option.bind_some _ _).symm.trans H; with_reducible exact H2_) | with_reducible exact H | (rw [hy420]; exact H) | exact H
    have Ny420 := Aside0.mk hy420
    clear hy420
    replace H := Option.bind_eq_some_iff.mp H
    obtain ⟨t423, A120, H⟩ := H
    replace H : ((aig_Eval.f kj5 t412 t413 t423).bind fun t426 => (if y420.length + t426.length < 140737488355328 then ((some (y420 ++ t426 : List Bool)).bind fun y429 => ((cnf_Clauses.f t412 t413 0).bind fun t432 => (if (y429.length : Int) = (wrap64 ((wrap64 (1 + t412)) + (t413.length : Int))) then ((proofmarklaw17_within.f kj5 t432 0 (y429.length : Int)).bind fun t435 => (proofmarklaw17_CnfOnly.j1 kj5 l3 t410 y429 t432 (!t435) t412 t413)) else (proofmarklaw17_CnfOnly.j1 kj5 l3 t410 y429 t432 true t412 t413)))) else (none))) = some r := H
    have A12 := Aside0.mk A120
    clear A120
    replace H := Option.bind_eq_some_iff.mp H
    obtain ⟨t426, A130, H⟩ := H
    replace H : (if y420.length + t426.length < 140737488355328 then ((some (y420 ++ t426 : List Bool)).bind fun y429 => ((cnf_Clauses.f t412 t413 0).bind fun t432 => (if (y429.length : Int) = (wrap64 ((wrap64 (1 + t412)) + (t413.length : Int))) then ((proofmarklaw17_within.f kj5 t432 0 (y429.length : Int)).bind fun t435 => (proofmarklaw17_CnfOnly.j1 kj5 l3 t410 y429 t432 (!t435) t412 t413)) else (proofmarklaw17_CnfOnly.j1 kj5 l3 t410 y429 t432 true t412 t413)))) else (none)) = some r := H
    have A13 := Aside0.mk A130
    clear A130
    by_cases c14 : y420.length + t426.length < 140737488355328
    ·rw [if_pos c14] at H
     have LMc14 := Aside0.mk c14
     clear c14
     obtain ⟨y429, hy429⟩ : ∃ y_ : List Bool, y_ = (y420 ++ t426) := ⟨_, rfl⟩
     replace H : ((cnf_Clauses.f t412 t413 0).bind fun t432 => (if (y429.length : Int) = (wrap64 ((wrap64 (1 + t412)) + (t413.length : Int))) then ((proofmarklaw17_within.f kj5 t432 0 (y429.length : Int)).bind fun t435 => (proofmarklaw17_CnfOnly.j1 kj5 l3 t410 y429 t432 (!t435) t412 t413)) else (proofmarklaw17_CnfOnly.j1 kj5 l3 t410 y429 t432 true t412 t413))) = some r := by first | (rw [hy429]; with_reducible exact H) | (have H2_ := (Option.bind_some _ _).symm.trans H; rw [hy429]; with_reducible exact H2_) | (have H2_ := (Option.bind_some _ _).symm.trans H; with_reducible exact H2_) | with_reducible exact H | (rw [hy429]; exact H) | exact H
     have Ny429 := Aside0.mk hy429
     clear hy429
     replace H := Option.bind_eq_some_iff.mp H
     obtain ⟨t432, A150, H⟩ := H
     replace H : (if (y429.length : Int) = (wrap64 ((wrap64 (1 + t412)) + (t413.length : Int))) then ((proofmarklaw17_within.f kj5 t432 0 (y429.length : Int)).bind fun t435 => (proofmarklaw17_CnfOnly.j1 kj5 l3 t410 y429 t432 (!t435) t412 t413)) else (proofmarklaw17_CnfOnly.j1 kj5 l3 t410 y429 t432 true t412 t413)) = some r := H
     have A15 := Aside0.mk A150
     clear A150
     have HC16 := Aside0.mk H
     clear H
     try go_wp2_with (first | ((with_reducible refine gate_callee (f := 12) rfl ?_); refine goesL_ (some 31) rfl rfl Try.func12 (by kernel_rfl) rfl #[.int .u8 a0, .slice A1 l1.length c1] rfl (by (try simp only [List.map_toArray, List.map_cons, List.map_nil]); first | done | rfl | (simp only [List.length_drop, List.length_take]; rfl)) ?_; (with_reducible refine (proofmarklaw13_Made.calls kj5 a0 _ _ l1 t412 t413 t416 _ ?side1 ?side2 A11.out).mono ?_); (case side1 => repeat (first | exact (Kd.C_below HR1.out HB.out) | (with_reducible refine Kd.C_alloc ?_ _) | (with_reducible refine Kd.C_drewN ?_ _) | (with_reducible refine Kd.C_drew ?_))); (case side2 => exact HC1.out); rintro e w17 ⟨v414, v417, rfl, ho0, ho1, hb⟩; refine ⟨_, rfl, ?_⟩; have n0_ := Aside0.mk (Kd.V_lower (Kd.V_mono (ok' := fun k_ => some k_ ≠ (v417 : Value).ownBlock) ho0 (fun k_ hk_ => hk_.2)) (below_size (by repeat (first | (with_reducible first | exact HB.out | apply below_alloc | apply pw_below_drewN | apply below_drew1) | exact HB.out)))); have n1_ := Aside0.mk (Kd.R_lower (Kd.R_mono (ok' := fun k_ => True) ho1 (fun _ hk_ => trivial)) (below_size (by repeat (first | (with_reducible first | exact HB.out | apply below_alloc | apply pw_below_drewN | apply below_drew1) | exact HB.out)))); have n2_ := Aside0.mk (below_step (by repeat (first | (with_reducible first | exact HB.out | apply below_alloc | apply pw_below_drewN | apply below_drew1) | exact HB.out)) hb); clear HB; have HO415 := n0_; have HO418 := n1_; have HB := n2_; clear n0_ n1_ n2_; (try clear hb); (try clear hb2); (try clear hk); (try clear hi); (try clear ho0); (try clear ho1)) | ((with_reducible refine gate_dst (N := 10) rfl ?_); (try (refine gate_guard (by rfl) ?_; dsimp only)); refine box_event ?hg (N := 10) ?hd (cs := #[.int .i64 0, .slice none 0 0]) (t := 28) ?hr ?_; (case hd => rfl); (case hg => rfl); (case hr => first | (go_simp; done) | (go_simp; rfl)); intro gb419 hg w18 hbox hb; have n0_ := Aside0.mk (Kd.V_below (Kd.V_elderB (by (with_reducible repeat (first | apply Kd.V_alloc | apply Kd.V_drewN | apply Kd.V_drew)); exact HO415.out) gb419 (Nat.le_of_eq hg.symm)) hb); have n1_ := Aside0.mk (Kd.R_below (by (with_reducible repeat (first | apply Kd.R_alloc | apply Kd.R_drewN | apply Kd.R_drew)); exact HO418.out) hb); have n2_ := Aside0.mk (below_step (by repeat (first | (with_reducible first | exact HB.out | apply below_alloc | apply pw_below_drewN | apply below_drew1) | exact HB.out)) hb); have n3_ := Aside0.mk (hbox); have n4_ := Aside0.mk ((by rw [hg]; exact (below_size (by repeat (first | (with_reducible first | exact HB.out | apply below_alloc | apply pw_below_drewN | apply below_drew1) | exact HB.out))) : w.heap.size ≤ gb419)); have n5_ := Aside0.mk ((by rw [hg]; exact (below_size (by repeat (first | (with_reducible first | exact HB.out | apply below_alloc | apply pw_below_drewN | apply below_drew1) | exact HB.out))) : w.heap.size ≤ gb419)); clear HO415; clear HO418; clear HB; have HO415 := n0_; have HO418 := n1_; have HB := n2_; have BK419 := n3_; have GW419 := n4_; have GE419 := n5_; clear n0_ n1_ n2_ n3_ n4_ n5_; clear hb hbox hg; have hcz19_0 : w18.cell? ⟨gb419, 0, none⟩ = some (.int .i64 0) := (blk_cell BK419.out 0).trans rfl; have hcz19_1 : w18.cell? ⟨gb419, 1, none⟩ = some (.slice none 0 0) := (blk_cell BK419.out 1).trans rfl; have hfz19_0 := blk_frozen BK419.out 0; have hfz19_1 := blk_frozen BK419.out 1; obtain ⟨Ao20, co20, eo20⟩ := Kd.V_slice HO415.out; subst eo20))
     have n0_ : Aside0 (Kd.V k49 49 ((w18.setCell ⟨gb419, 0, none⟩ (.int .i64 t412)).setCell ⟨gb419, 1, none⟩ (.slice Ao20 t413.length co20)) w.heap.size (fun k_ => some k_ ≠ (v417 : Value).ownBlock ∧ k_ ≠ gb419) (.slice Ao20 t413.length co20) t413) := ⟨by (with_reducible repeat (first | apply Kd.V_alloc | apply Kd.V_drewN | apply Kd.V_drew)); exact Kd.V_mono (Kd.V_far (p := ⟨gb419, 1, none⟩) (Kd.V_far (p := ⟨gb419, 0, none⟩) (Kd.V_mono HO415.out (fun k_ hk => (⟨hk, hk.2⟩ : _ ∧ k_ ≠ gb419))) (fun _ hk => hk.2) (.int .i64 t412)) (fun _ hk => hk.2) (.slice Ao20 t413.length co20)) (fun _ hk => ⟨hk.1.1, hk.1.2⟩)⟩
     have n1_ : Aside0 (Kd.R (Kd.int .i64) 3 ((w18.setCell ⟨gb419, 0, none⟩ (.int .i64 t412)).setCell ⟨gb419, 1, none⟩ (.slice Ao20 t413.length co20)) w.heap.size (fun _ => True) v417 t416) := ⟨by (with_reducible repeat (first | apply Kd.R_alloc | apply Kd.R_drewN | apply Kd.R_drew)); exact Kd.R_mono (Kd.R_far (p := ⟨gb419, 1, none⟩) (Kd.R_far (p := ⟨gb419, 0, none⟩) (Kd.R_types HO418.out BK419.out (by decide)) (fun _ hk => hk.2) (.int .i64 t412)) (fun _ hk => hk.2) (.slice Ao20 t413.length co20)) (fun _ hk => trivial)⟩
     have n2_ : Aside0 (((w18.setCell ⟨gb419, 0, none⟩ (.int .i64 t412)).setCell ⟨gb419, 1, none⟩ (.slice Ao20 t413.length co20)).heap[gb419]? = some (.cells #[.int .i64 t412, .slice Ao20 t413.length co20] 28 (0, 0))) := ⟨by (with_reducible repeat (first | refine blk_drewN ?_ _ | refine blk_drew ?_ | refine blk_alloc ?_ _)); refine blk_put (cs := #[.int .i64 t412, .slice none 0 0]) ?_ 1 _ rfl; (with_reducible repeat (first | refine blk_drewN ?_ _ | refine blk_drew ?_ | refine blk_alloc ?_ _)); refine blk_put (cs := #[.int .i64 0, .slice none 0 0]) ?_ 0 _ rfl; (with_reducible repeat (first | refine blk_drewN ?_ _ | refine blk_drew ?_ | refine blk_alloc ?_ _)); exact BK419.out⟩
     have n3_ : Aside0 (Below w.heap.size w ((w18.setCell ⟨gb419, 0, none⟩ (.int .i64 t412)).setCell ⟨gb419, 1, none⟩ (.slice Ao20 t413.length co20))) := ⟨by repeat (first | (with_reducible first | exact HB.out | apply below_alloc | apply pw_below_drewN | apply below_drew1 | refine below_set ?_ GE419.out) | exact HB.out)⟩
     (try clear HO415)
     (try clear HO418)
     (try clear BK419)
     (try clear HB)
     generalize ((w18.setCell ⟨gb419, 0, none⟩ (.int .i64 t412)).setCell ⟨gb419, 1, none⟩ (.slice Ao20 t413.length co20)) = w21 at n0_ n1_ n2_ n3_ ⊢
     have HO415 := n0_
     have HO418 := n1_
     have BK419 := n2_
     have HB := n3_
     clear n0_ n1_ n2_ n3_
     have n0_ := Aside0.mk (Kd.V_drew HO415.out)
     have n1_ := Aside0.mk (Kd.R_drew HO418.out)
     have n2_ := Aside0.mk (blk_drew BK419.out)
     have n3_ := Aside0.mk (below_drew1 HB.out)
     clear HO415
     clear HO418
     clear BK419
     clear HB
     have HO415 := n0_
     have HO418 := n1_
     have BK419 := n2_
     have HB := n3_
     clear n0_ n1_ n2_ n3_
     refine start_ (n := 8) (S := fun w' => w'.cell? ⟨gb419, 0, none⟩ = some (.int .i64 t412) ∧ w'.cell? ⟨gb419, 1, none⟩ = some (.slice Ao20 t413.length co20)) (ds := []) #[false, false, false, false, false, false, false, false] (by kernel_rfl) rfl rfl ⟨(blk_cell BK419.out 0).trans rfl, (blk_cell BK419.out 1).trans rfl⟩ (fun hHeld => ?_); refine with_tabW proofmarklaw17_CnfOnly.tab5 proofmarklaw17_CnfOnly.bits5 (fun HT_ HW_ => ?_)
     generalize w21.drew = w22 at HO415 HO418 BK419 HB hHeld ⊢
     refine pure_ (i := 3) (N := some 37) (v := ?_) (a' := ?_) #[false, false, false, true, false, false, false, false] rfl rfl (any_of HT_.out (by kernel_rfl)) (fun _ _ _ h => h) (Or.inl ⟨by rfl, ?_⟩) ?_ ?_
     rotate_left
     ·intro w'
      go_simp
      with_reducible rfl
     rotate_left
     ·simp only [Act.put, List.setIfInBounds_toArray, List.set_cons_zero, List.set_cons_succ, i64_w, i32_w]
      rfl
     refine take_ (i := 1) (N := some 35) (v := ?_) (a' := ?_) #[false, true, false, true, false, false, false, false] rfl rfl (take_ofW HT_.out HW_.out (by kernel_rfl)) (fun _ _ _ h => h) (Or.inl ⟨by rfl, ?_⟩) hHeld ?_ ?_
     rotate_left
     ·rintro w' ⟨s0, s1⟩
      go_simp
      with_reducible rfl
     rotate_left
     ·simp only [Act.put, List.setIfInBounds_toArray, List.set_cons_zero, List.set_cons_succ, i64_w, i32_w]
      rfl
     refine take_ (i := 2) (N := some 36) (v := ?_) (a' := ?_) #[false, true, true, true, false, false, false, false] rfl rfl (take_ofW HT_.out HW_.out (by kernel_rfl)) (fun _ _ _ h => h) (Or.inl ⟨by rfl, ?_⟩) hHeld ?_ ?_
     rotate_left
     ·rintro w' ⟨s0, s1⟩
      go_simp
      with_reducible rfl
     rotate_left
     ·simp only [Act.put, List.setIfInBounds_toArray, List.set_cons_zero, List.set_cons_succ, i64_w, i32_w]
      rfl
     refine join_ (σ := Value × Value × Value) 2 #[true, true, true, true, true, true, false, false] (fun s_ => [(34, s_.1), (38, s_.2.1), (39, s_.2.2)]) (fun s_ w' => (w'.cell? ⟨gb419, 0, none⟩ = some (.int .i64 t412) ∧ w'.cell? ⟨gb419, 1, none⟩ = some (.slice Ao20 t413.length co20)) ∧ (Kd.V k49 49 w' w.heap.size (fun k_ => some k_ ≠ (v417 : Value).ownBlock ∧ some k_ ≠ (s_.1 : Value).ownBlock ∧ some k_ ≠ (s_.2.1 : Value).ownBlock ∧ some k_ ≠ (s_.2.2 : Value).ownBlock ∧ k_ ≠ gb419) (.slice Ao20 t413.length co20) t413) ∧ (Kd.R (Kd.int .i64) 3 w' w.heap.size (fun _ => True) v417 t416) ∧ (Kd.R Kd.bool 4 w' w.heap.size (fun k_ => some k_ ≠ (s_.2.1 : Value).ownBlock ∧ some k_ ≠ (s_.2.2 : Value).ownBlock) s_.1 y420) ∧ (Kd.R Kd.bool 4 w' w.heap.size (fun k_ => some k_ ≠ (s_.1 : Value).ownBlock ∧ some k_ ≠ (s_.2.2 : Value).ownBlock) s_.2.1 t423) ∧ (Kd.R Kd.bool 4 w' w.heap.size (fun k_ => some k_ ≠ (s_.1 : Value).ownBlock ∧ some k_ ≠ (s_.2.1 : Value).ownBlock) s_.2.2 t426) ∧ (w'.heap[gb419]? = some (.cells #[.int .i64 t412, .slice Ao20 t413.length co20] 28 (0, 0))) ∧ (Below w.heap.size w w')) ?_ ?_
     rotate_left
     ·intro hCont
      refine two_ (i := 0) (j := 4) (Ni := some 34) (Nj := some 38) #[true, true, true, true, false, false, false, false] #[false, true, true, true, true, false, false, false] rfl rfl rfl rfl (two_of HT_.out (by kernel_rfl)) (by decide) (by decide) (fun K hK => ?_) (fun K hK => ?_)
      ·skip
       refine Kd.R_lit_step Kd.bool _ 4 ?hg (N := 34) ?hd (xs := ([] : List Bool)) (inner := []) (ok := fun _ => True) (okp := fun _ => True) ?hr ?hp (fun _ hk => hk) trivial (Below.refl _ _) (Nat.le_refl _) (by simp) ?_; (case hd => rfl); (case hg => rfl); (case hr => first | (go_simp; done) | (go_simp; rfl)); (case hp => exact (Reps.none _ _))
       intro v421 w23 ho24 hb hg_ hnew_
       clear hg_ hnew_
       (first | rw [← Ny420.out] at ho24 | (simp only [Int.reduceToNat] at ho24; rw [← Ny420.out] at ho24))
       have n0_ := Aside0.mk (Kd.V_elder' (by (with_reducible repeat (first | apply Kd.V_alloc | apply Kd.V_drewN | apply Kd.V_drew)); exact HO415.out) (Kd.R_base ho24) hb)
       have n1_ := Aside0.mk (Kd.R_below (by (with_reducible repeat (first | apply Kd.R_alloc | apply Kd.R_drewN | apply Kd.R_drew)); exact HO418.out) hb)
       have n2_ := Aside0.mk (Kd.R_lower ho24 (below_size (by repeat (first | (with_reducible first | exact HB.out | apply below_alloc | apply pw_below_drewN | apply below_drew1 | refine below_set ?_ GE419.out) | exact HB.out))))
       have n3_ := Aside0.mk (blk_below (g := gb419) (o := .cells #[.int .i64 t412, .slice Ao20 t413.length co20] 28 (0, 0)) (by (with_reducible repeat (first | refine blk_drewN ?_ _ | refine blk_drew ?_ | refine blk_alloc ?_ _)); exact BK419.out) hb)
       have n4_ := Aside0.mk (below_step (by repeat (first | (with_reducible first | exact HB.out | apply below_alloc | apply pw_below_drewN | apply below_drew1 | refine below_set ?_ GE419.out) | exact HB.out)) hb)
       clear HO415
       clear HO418
       clear BK419
       clear HB
       have HO415 := n0_
       have HO418 := n1_
       have HO422 := n2_
       have BK419 := n3_
       have HB := n4_
       clear n0_ n1_ n2_ n3_ n4_
       clear hb ho24
       refine hK.out _ _ ⟨(blk_cell BK419.out 0).trans rfl, (blk_cell BK419.out 1).trans rfl⟩ (fun hHeld => ?_)
       clear hK K
       refine norm_ (a' := ?_) ?_ ?_
       rotate_left
       ·show Act.put _ (some 34) _ = _
        simp only [Act.put, List.setIfInBounds_toArray, List.set_cons_zero, List.set_cons_succ, i64_w, i32_w]
        rfl
       refine one_ (i := 4) (N := some 38) #[true, true, true, true, true, false, false, false] rfl rfl (one_of HT_.out (by kernel_rfl)) (by decide) (fun K hK => ?_)
       refine goes_ Try.func22 (by kernel_rfl) rfl #[.agg #[.int .i64 t412, .slice Ao20 t413.length co20], .slice A2 l2.length c2] (by rfl) rfl rfl (by (try simp only [List.map_toArray, List.map_cons, List.map_nil]); first | done | rfl | (simp only [List.length_drop, List.length_take]; rfl)) ?_
       with_reducible refine (proofmarklaw13_Bits.calls kj5 t412 _ _ t413 _ _ l2 t423 _ ?side1 ?side2 ?side3 ?side4 A12.out).mono ?_
       (case side1 => repeat (first | exact (Kd.V_reads' HO415.out).2.2 | (with_reducible refine Kd.C_alloc ?_ _) | (with_reducible refine Kd.C_drewN ?_ _) | (with_reducible refine Kd.C_drew ?_)))
       (case side2 => exact (Kd.V_reads' HO415.out).2.1)
       (case side3 => repeat (first | exact (Kd.C_below HR2.out HB.out) | (with_reducible refine Kd.C_alloc ?_ _) | (with_reducible refine Kd.C_drewN ?_ _) | (with_reducible refine Kd.C_drew ?_)))
       (case side4 => exact HC2.out)
       rintro e w25 ⟨v424, rfl, ho0, hb⟩
       refine ⟨_, rfl, ?_⟩
       have n0_ := Aside0.mk (Kd.V_elder' (by (with_reducible repeat (first | apply Kd.V_alloc | apply Kd.V_drewN | apply Kd.V_drew)); exact HO415.out) (Kd.R_base ho0) hb)
       have n1_ := Aside0.mk (Kd.R_below (by (with_reducible repeat (first | apply Kd.R_alloc | apply Kd.R_drewN | apply Kd.R_drew)); exact HO418.out) hb)
       have n2_ := Aside0.mk (Kd.R_elder' (by (with_reducible repeat (first | apply Kd.R_alloc | apply Kd.R_drewN | apply Kd.R_drew)); exact HO422.out) (Kd.R_base ho0) hb)
       have n3_ := Aside0.mk (Kd.R_lower (Kd.R_new' ho0 (Kd.R_lt (by (with_reducible repeat (first | apply Kd.R_alloc | apply Kd.R_drewN | apply Kd.R_drew)); exact HO422.out))) (below_size (by repeat (first | (with_reducible first | exact HB.out | apply below_alloc | apply pw_below_drewN | apply below_drew1 | refine below_set ?_ GE419.out) | exact HB.out))))
       have n4_ := Aside0.mk (blk_below (g := gb419) (o := .cells #[.int .i64 t412, .slice Ao20 t413.length co20] 28 (0, 0)) (by (with_reducible repeat (first | refine blk_drewN ?_ _ | refine blk_drew ?_ | refine blk_alloc ?_ _)); exact BK419.out) hb)
       have n5_ := Aside0.mk (below_step (by repeat (first | (with_reducible first | exact HB.out | apply below_alloc | apply pw_below_drewN | apply below_drew1 | refine below_set ?_ GE419.out) | exact HB.out)) hb)
       clear HO415
       clear HO418
       clear HO422
       clear BK419
       clear HB
       have HO415 := n0_
       have HO418 := n1_
       have HO422 := n2_
       have HO425 := n3_
       have BK419 := n4_
       have HB := n5_
       clear n0_ n1_ n2_ n3_ n4_ n5_
       (try clear hb)
       (try clear hb2)
       (try clear hk)
       (try clear hi)
       (try clear ho0)
       obtain ⟨Ao26, co26, eo26⟩ := Kd.R_slice HO425.out
       (first | subst eo26 | (injection eo26 with f1_ f2_ f3_; have f4_ := f1_.symm; have f5_ := f3_.symm; clear f1_ f2_ f3_; subst f4_; subst f5_))
       refine hK.out _ _ ⟨(blk_cell BK419.out 0).trans rfl, (blk_cell BK419.out 1).trans rfl⟩ (fun hHeld => ?_)
       clear hK K
       refine norm_ (a' := ?_) ?_ ?_
       rotate_left
       ·show Act.put _ (some 38) _ = _
        simp only [Act.put, List.setIfInBounds_toArray, List.set_cons_zero, List.set_cons_succ, i64_w, i32_w]
        rfl
       refine one_ (i := 5) (N := some 39) #[true, true, true, true, true, true, false, false] rfl rfl (one_of HT_.out (by kernel_rfl)) (by decide) (fun K hK => ?_)
       refine goes_ Try.func21 (by kernel_rfl) rfl #[.agg #[.int .i64 t412, .slice Ao20 t413.length co20], .slice Ao26 t423.length co26] (by rfl) rfl rfl (by (try simp only [List.map_toArray, List.map_cons, List.map_nil]); first | done | rfl | (simp only [List.length_drop, List.length_take]; rfl)) ?_
       with_reducible refine (aig_Eval.calls kj5 t412 _ _ t413 _ _ t423 t426 _ ?side1 ?side2 ?side3 ?side4 A13.out).mono ?_
       (case side1 => repeat (first | exact (Kd.V_reads' HO415.out).2.2 | (with_reducible refine Kd.C_alloc ?_ _) | (with_reducible refine Kd.C_drewN ?_ _) | (with_reducible refine Kd.C_drew ?_)))
       (case side2 => exact (Kd.V_reads' HO415.out).2.1)
       (case side3 => repeat (first | exact (Kd.R_reads' HO425.out).2.2 | (with_reducible refine Kd.C_alloc ?_ _) | (with_reducible refine Kd.C_drewN ?_ _) | (with_reducible refine Kd.C_drew ?_)))
       (case side4 => exact (Kd.R_reads' HO425.out).2.1)
       rintro e w27 ⟨v427, rfl, ho0, hb⟩
       refine ⟨_, rfl, ?_⟩
       have n0_ := Aside0.mk (Kd.V_elder' (by (with_reducible repeat (first | apply Kd.V_alloc | apply Kd.V_drewN | apply Kd.V_drew)); exact HO415.out) (Kd.R_base ho0) hb)
       have n1_ := Aside0.mk (Kd.R_below (by (with_reducible repeat (first | apply Kd.R_alloc | apply Kd.R_drewN | apply Kd.R_drew)); exact HO418.out) hb)
       have n2_ := Aside0.mk (Kd.R_elder' (by (with_reducible repeat (first | apply Kd.R_alloc | apply Kd.R_drewN | apply Kd.R_drew)); exact HO422.out) (Kd.R_base ho0) hb)
       have n3_ := Aside0.mk (Kd.R_elder' (by (with_reducible repeat (first | apply Kd.R_alloc | apply Kd.R_drewN | apply Kd.R_drew)); exact HO425.out) (Kd.R_base ho0) hb)
       have n4_ := Aside0.mk (Kd.R_lower (Kd.R_new' (Kd.R_new' ho0 (Kd.R_lt (by (with_reducible repeat (first | apply Kd.R_alloc | apply Kd.R_drewN | apply Kd.R_drew)); exact HO422.out))) (Kd.R_lt (by (with_reducible repeat (first | apply Kd.R_alloc | apply Kd.R_drewN | apply Kd.R_drew)); exact HO425.out))) (below_size (by repeat (first | (with_reducible first | exact HB.out | apply below_alloc | apply pw_below_drewN | apply below_drew1 | refine below_set ?_ GE419.out) | exact HB.out))))
       have n5_ := Aside0.mk (blk_below (g := gb419) (o := .cells #[.int .i64 t412, .slice Ao20 t413.length co20] 28 (0, 0)) (by (with_reducible repeat (first | refine blk_drewN ?_ _ | refine blk_drew ?_ | refine blk_alloc ?_ _)); exact BK419.out) hb)
       have n6_ := Aside0.mk (below_step (by repeat (first | (with_reducible first | exact HB.out | apply below_alloc | apply pw_below_drewN | apply below_drew1 | refine below_set ?_ GE419.out) | exact HB.out)) hb)
       clear HO415
       clear HO418
       clear HO422
       clear HO425
       clear BK419
       clear HB
       have HO415 := n0_
       have HO418 := n1_
       have HO422 := n2_
       have HO425 := n3_
       have HO428 := n4_
       have BK419 := n5_
       have HB := n6_
       clear n0_ n1_ n2_ n3_ n4_ n5_ n6_
       (try clear hb)
       (try clear hb2)
       (try clear hk)
       (try clear hi)
       (try clear ho0)
       refine hK.out _ _ ⟨(blk_cell BK419.out 0).trans rfl, (blk_cell BK419.out 1).trans rfl⟩ (fun hHeld => ?_)
       clear hK K
       refine norm_ (a' := ?_) ?_ ?_
       rotate_left
       ·show Act.put _ (some 39) _ = _
        simp only [Act.put, List.setIfInBounds_toArray, List.set_cons_zero, List.set_cons_succ, i64_w, i32_w]
        rfl
       exact norm_ (by simp only [putAll, Act.put, List.setIfInBounds_toArray, List.set_cons_zero, List.set_cons_succ]) (hCont (v421, .slice Ao26 t423.length co26, v427) _ ⟨hHeld, (by (with_reducible repeat (first | apply Kd.V_alloc | apply Kd.V_drewN | apply Kd.V_drew)); exact Kd.V_mono HO415.out (fun _ hk => ⟨hk.1.1.1.1, ⟨hk.1.1.2, ⟨hk.1.2, ⟨hk.2, hk.1.1.1.2⟩⟩⟩⟩)), (by (with_reducible repeat (first | apply Kd.R_alloc | apply Kd.R_drewN | apply Kd.R_drew)); exact HO418.out), (by (with_reducible repeat (first | apply Kd.R_alloc | apply Kd.R_drewN | apply Kd.R_drew)); exact Kd.R_mono HO422.out (fun _ hk => ⟨hk.1.2, hk.2⟩)), (by (with_reducible repeat (first | apply Kd.R_alloc | apply Kd.R_drewN | apply Kd.R_drew)); exact Kd.R_mono HO425.out (fun _ hk => ⟨hk.1.2, hk.2⟩)), (by (with_reducible repeat (first | apply Kd.R_alloc | apply Kd.R_drewN | apply Kd.R_drew)); exact Kd.R_mono HO428.out (fun _ hk => ⟨hk.1.2, hk.2⟩)), (by (with_reducible repeat (first | refine blk_drewN ?_ _ | refine blk_drew ?_ | refine blk_alloc ?_ _)); exact BK419.out), (by repeat (first | (with_reducible first | exact HB.out | apply below_alloc | apply pw_below_drewN | apply below_drew1 | refine below_set ?_ GE419.out) | exact HB.out))⟩)
      ·skip
       refine goes_ Try.func22 (by kernel_rfl) rfl #[.agg #[.int .i64 t412, .slice Ao20 t413.length co20], .slice A2 l2.length c2] (by rfl) rfl rfl (by (try simp only [List.map_toArray, List.map_cons, List.map_nil]); first | done | rfl | (simp only [List.length_drop, List.length_take]; rfl)) ?_
       with_reducible refine (proofmarklaw13_Bits.calls kj5 t412 _ _ t413 _ _ l2 t423 _ ?side1 ?side2 ?side3 ?side4 A12.out).mono ?_
       (case side1 => repeat (first | exact (Kd.V_reads' HO415.out).2.2 | (with_reducible refine Kd.C_alloc ?_ _) | (with_reducible refine Kd.C_drewN ?_ _) | (with_reducible refine Kd.C_drew ?_)))
       (case side2 => exact (Kd.V_reads' HO415.out).2.1)
       (case side3 => repeat (first | exact (Kd.C_below HR2.out HB.out) | (with_reducible refine Kd.C_alloc ?_ _) | (with_reducible refine Kd.C_drewN ?_ _) | (with_reducible refine Kd.C_drew ?_)))
       (case side4 => exact HC2.out)
       rintro e w23 ⟨v424, rfl, ho0, hb⟩
       refine ⟨_, rfl, ?_⟩
       have n0_ := Aside0.mk (Kd.V_elder' (by (with_reducible repeat (first | apply Kd.V_alloc | apply Kd.V_drewN | apply Kd.V_drew)); exact HO415.out) (Kd.R_base ho0) hb)
       have n1_ := Aside0.mk (Kd.R_below (by (with_reducible repeat (first | apply Kd.R_alloc | apply Kd.R_drewN | apply Kd.R_drew)); exact HO418.out) hb)
       have n2_ := Aside0.mk (Kd.R_lower ho0 (below_size (by repeat (first | (with_reducible first | exact HB.out | apply below_alloc | apply pw_below_drewN | apply below_drew1 | refine below_set ?_ GE419.out) | exact HB.out))))
       have n3_ := Aside0.mk (blk_below (g := gb419) (o := .cells #[.int .i64 t412, .slice Ao20 t413.length co20] 28 (0, 0)) (by (with_reducible repeat (first | refine blk_drewN ?_ _ | refine blk_drew ?_ | refine blk_alloc ?_ _)); exact BK419.out) hb)
       have n4_ := Aside0.mk (below_step (by repeat (first | (with_reducible first | exact HB.out | apply below_alloc | apply pw_below_drewN | apply below_drew1 | refine below_set ?_ GE419.out) | exact HB.out)) hb)
       clear HO415
       clear HO418
       clear BK419
       clear HB
       have HO415 := n0_
       have HO418 := n1_
       have HO425 := n2_
       have BK419 := n3_
       have HB := n4_
       clear n0_ n1_ n2_ n3_ n4_
       (try clear hb)
       (try clear hb2)
       (try clear hk)
       (try clear hi)
       (try clear ho0)
       obtain ⟨Ao24, co24, eo24⟩ := Kd.R_slice HO425.out
       (first | subst eo24 | (injection eo24 with f1_ f2_ f3_; have f4_ := f1_.symm; have f5_ := f3_.symm; clear f1_ f2_ f3_; subst f4_; subst f5_))
       refine hK.out _ _ ⟨(blk_cell BK419.out 0).trans rfl, (blk_cell BK419.out 1).trans rfl⟩ (fun hHeld => ?_)
       clear hK K
       refine norm_ (a' := ?_) ?_ ?_
       rotate_left
       ·show Act.put _ (some 38) _ = _
        simp only [Act.put, List.setIfInBounds_toArray, List.set_cons_zero, List.set_cons_succ, i64_w, i32_w]
        rfl
       refine two_ (i := 0) (j := 5) (Ni := some 34) (Nj := some 39) #[true, true, true, true, true, false, false, false] #[false, true, true, true, true, true, false, false] rfl rfl rfl rfl (two_of HT_.out (by kernel_rfl)) (by decide) (by decide) (fun K hK => ?_) (fun K hK => ?_)
       ·skip
        refine Kd.R_lit_step Kd.bool _ 4 ?hg (N := 34) ?hd (xs := ([] : List Bool)) (inner := []) (ok := fun _ => True) (okp := fun _ => True) ?hr ?hp (fun _ hk => hk) trivial (Below.refl _ _) (Nat.le_refl _) (by simp) ?_; (case hd => rfl); (case hg => rfl); (case hr => first | (go_simp; done) | (go_simp; rfl)); (case hp => exact (Reps.none _ _))
        intro v421 w24 ho25 hb hg_ hnew_
        clear hg_ hnew_
        (first | rw [← Ny420.out] at ho25 | (simp only [Int.reduceToNat] at ho25; rw [← Ny420.out] at ho25))
        have n0_ := Aside0.mk (Kd.V_elder' (by (with_reducible repeat (first | apply Kd.V_alloc | apply Kd.V_drewN | apply Kd.V_drew)); exact HO415.out) (Kd.R_base ho25) hb)
        have n1_ := Aside0.mk (Kd.R_below (by (with_reducible repeat (first | apply Kd.R_alloc | apply Kd.R_drewN | apply Kd.R_drew)); exact HO418.out) hb)
        have n2_ := Aside0.mk (Kd.R_elder' (by (with_reducible repeat (first | apply Kd.R_alloc | apply Kd.R_drewN | apply Kd.R_drew)); exact HO425.out) (Kd.R_base ho25) hb)
        have n3_ := Aside0.mk (Kd.R_lower (Kd.R_new' ho25 (Kd.R_lt (by (with_reducible repeat (first | apply Kd.R_alloc | apply Kd.R_drewN | apply Kd.R_drew)); exact HO425.out))) (below_size (by repeat (first | (with_reducible first | exact HB.out | apply below_alloc | apply pw_below_drewN | apply below_drew1 | refine below_set ?_ GE419.out) | exact HB.out))))
        have n4_ := Aside0.mk (blk_below (g := gb419) (o := .cells #[.int .i64 t412, .slice Ao20 t413.length co20] 28 (0, 0)) (by (with_reducible repeat (first | refine blk_drewN ?_ _ | refine blk_drew ?_ | refine blk_alloc ?_ _)); exact BK419.out) hb)
        have n5_ := Aside0.mk (below_step (by repeat (first | (with_reducible first | exact HB.out | apply below_alloc | apply pw_below_drewN | apply below_drew1 | refine below_set ?_ GE419.out) | exact HB.out)) hb)
        clear HO415
        clear HO418
        clear HO425
        clear BK419
        clear HB
        have HO415 := n0_
        have HO418 := n1_
        have HO425 := n2_
        have HO422 := n3_
        have BK419 := n4_
        have HB := n5_
        clear n0_ n1_ n2_ n3_ n4_ n5_
        clear hb ho25
        obtain ⟨Ao26, co26, eo26⟩ := Kd.R_slice HO425.out
        (first | subst eo26 | (injection eo26 with f1_ f2_ f3_; have f4_ := f1_.symm; have f5_ := f3_.symm; clear f1_ f2_ f3_; subst f4_; subst f5_))
        refine hK.out _ _ ⟨(blk_cell BK419.out 0).trans rfl, (blk_cell BK419.out 1).trans rfl⟩ (fun hHeld => ?_)
        clear hK K
        refine norm_ (a' := ?_) ?_ ?_
        rotate_left
        ·show Act.put _ (some 34) _ = _
         simp only [Act.put, List.setIfInBounds_toArray, List.set_cons_zero, List.set_cons_succ, i64_w, i32_w]
         rfl
        refine one_ (i := 5) (N := some 39) #[true, true, true, true, true, true, false, false] rfl rfl (one_of HT_.out (by kernel_rfl)) (by decide) (fun K hK => ?_)
        refine goes_ Try.func21 (by kernel_rfl) rfl #[.agg #[.int .i64 t412, .slice Ao20 t413.length co20], .slice Ao26 t423.length co26] (by rfl) rfl rfl (by (try simp only [List.map_toArray, List.map_cons, List.map_nil]); first | done | rfl | (simp only [List.length_drop, List.length_take]; rfl)) ?_
        with_reducible refine (aig_Eval.calls kj5 t412 _ _ t413 _ _ t423 t426 _ ?side1 ?side2 ?side3 ?side4 A13.out).mono ?_
        (case side1 => repeat (first | exact (Kd.V_reads' HO415.out).2.2 | (with_reducible refine Kd.C_alloc ?_ _) | (with_reducible refine Kd.C_drewN ?_ _) | (with_reducible refine Kd.C_drew ?_)))
        (case side2 => exact (Kd.V_reads' HO415.out).2.1)
        (case side3 => repeat (first | exact (Kd.R_reads' HO425.out).2.2 | (with_reducible refine Kd.C_alloc ?_ _) | (with_reducible refine Kd.C_drewN ?_ _) | (with_reducible refine Kd.C_drew ?_)))
        (case side4 => exact (Kd.R_reads' HO425.out).2.1)
        rintro e w27 ⟨v427, rfl, ho0, hb⟩
        refine ⟨_, rfl, ?_⟩
        have n0_ := Aside0.mk (Kd.V_elder' (by (with_reducible repeat (first | apply Kd.V_alloc | apply Kd.V_drewN | apply Kd.V_drew)); exact HO415.out) (Kd.R_base ho0) hb)
        have n1_ := Aside0.mk (Kd.R_below (by (with_reducible repeat (first | apply Kd.R_alloc | apply Kd.R_drewN | apply Kd.R_drew)); exact HO418.out) hb)
        have n2_ := Aside0.mk (Kd.R_elder' (by (with_reducible repeat (first | apply Kd.R_alloc | apply Kd.R_drewN | apply Kd.R_drew)); exact HO425.out) (Kd.R_base ho0) hb)
        have n3_ := Aside0.mk (Kd.R_elder' (by (with_reducible repeat (first | apply Kd.R_alloc | apply Kd.R_drewN | apply Kd.R_drew)); exact HO422.out) (Kd.R_base ho0) hb)
        have n4_ := Aside0.mk (Kd.R_lower (Kd.R_new' (Kd.R_new' ho0 (Kd.R_lt (by (with_reducible repeat (first | apply Kd.R_alloc | apply Kd.R_drewN | apply Kd.R_drew)); exact HO425.out))) (Kd.R_lt (by (with_reducible repeat (first | apply Kd.R_alloc | apply Kd.R_drewN | apply Kd.R_drew)); exact HO422.out))) (below_size (by repeat (first | (with_reducible first | exact HB.out | apply below_alloc | apply pw_below_drewN | apply below_drew1 | refine below_set ?_ GE419.out) | exact HB.out))))
        have n5_ := Aside0.mk (blk_below (g := gb419) (o := .cells #[.int .i64 t412, .slice Ao20 t413.length co20] 28 (0, 0)) (by (with_reducible repeat (first | refine blk_drewN ?_ _ | refine blk_drew ?_ | refine blk_alloc ?_ _)); exact BK419.out) hb)
        have n6_ := Aside0.mk (below_step (by repeat (first | (with_reducible first | exact HB.out | apply below_alloc | apply pw_below_drewN | apply below_drew1 | refine below_set ?_ GE419.out) | exact HB.out)) hb)
        clear HO415
        clear HO418
        clear HO425
        clear HO422
        clear BK419
        clear HB
        have HO415 := n0_
        have HO418 := n1_
        have HO425 := n2_
        have HO422 := n3_
        have HO428 := n4_
        have BK419 := n5_
        have HB := n6_
        clear n0_ n1_ n2_ n3_ n4_ n5_ n6_
        (try clear hb)
        (try clear hb2)
        (try clear hk)
        (try clear hi)
        (try clear ho0)
        refine hK.out _ _ ⟨(blk_cell BK419.out 0).trans rfl, (blk_cell BK419.out 1).trans rfl⟩ (fun hHeld => ?_)
        clear hK K
        refine norm_ (a' := ?_) ?_ ?_
        rotate_left
        ·show Act.put _ (some 39) _ = _
         simp only [Act.put, List.setIfInBounds_toArray, List.set_cons_zero, List.set_cons_succ, i64_w, i32_w]
         rfl
        exact norm_ (by simp only [putAll, Act.put, List.setIfInBounds_toArray, List.set_cons_zero, List.set_cons_succ]) (hCont (v421, .slice Ao26 t423.length co26, v427) _ ⟨hHeld, (by (with_reducible repeat (first | apply Kd.V_alloc | apply Kd.V_drewN | apply Kd.V_drew)); exact Kd.V_mono HO415.out (fun _ hk => ⟨hk.1.1.1.1, ⟨hk.1.2, ⟨hk.1.1.2, ⟨hk.2, hk.1.1.1.2⟩⟩⟩⟩)), (by (with_reducible repeat (first | apply Kd.R_alloc | apply Kd.R_drewN | apply Kd.R_drew)); exact HO418.out), (by (with_reducible repeat (first | apply Kd.R_alloc | apply Kd.R_drewN | apply Kd.R_drew)); exact Kd.R_mono HO422.out (fun _ hk => ⟨hk.1.2, hk.2⟩)), (by (with_reducible repeat (first | apply Kd.R_alloc | apply Kd.R_drewN | apply Kd.R_drew)); exact Kd.R_mono HO425.out (fun _ hk => ⟨hk.1.2, hk.2⟩)), (by (with_reducible repeat (first | apply Kd.R_alloc | apply Kd.R_drewN | apply Kd.R_drew)); exact Kd.R_mono HO428.out (fun _ hk => ⟨hk.2, hk.1.2⟩)), (by (with_reducible repeat (first | refine blk_drewN ?_ _ | refine blk_drew ?_ | refine blk_alloc ?_ _)); exact BK419.out), (by repeat (first | (with_reducible first | exact HB.out | apply below_alloc | apply pw_below_drewN | apply below_drew1 | refine below_set ?_ GE419.out) | exact HB.out))⟩)
       ·skip
        refine goes_ Try.func21 (by kernel_rfl) rfl #[.agg #[.int .i64 t412, .slice Ao20 t413.length co20], .slice Ao24 t423.length co24] (by rfl) rfl rfl (by (try simp only [List.map_toArray, List.map_cons, List.map_nil]); first | done | rfl | (simp only [List.length_drop, List.length_take]; rfl)) ?_
        with_reducible refine (aig_Eval.calls kj5 t412 _ _ t413 _ _ t423 t426 _ ?side1 ?side2 ?side3 ?side4 A13.out).mono ?_
        (case side1 => repeat (first | exact (Kd.V_reads' HO415.out).2.2 | (with_reducible refine Kd.C_alloc ?_ _) | (with_reducible refine Kd.C_drewN ?_ _) | (with_reducible refine Kd.C_drew ?_)))
        (case side2 => exact (Kd.V_reads' HO415.out).2.1)
        (case side3 => repeat (first | exact (Kd.R_reads' HO425.out).2.2 | (with_reducible refine Kd.C_alloc ?_ _) | (with_reducible refine Kd.C_drewN ?_ _) | (with_reducible refine Kd.C_drew ?_)))
        (case side4 => exact (Kd.R_reads' HO425.out).2.1)
        rintro e w25 ⟨v427, rfl, ho0, hb⟩
        refine ⟨_, rfl, ?_⟩
        have n0_ := Aside0.mk (Kd.V_elder' (by (with_reducible repeat (first | apply Kd.V_alloc | apply Kd.V_drewN | apply Kd.V_drew)); exact HO415.out) (Kd.R_base ho0) hb)
        have n1_ := Aside0.mk (Kd.R_below (by (with_reducible repeat (first | apply Kd.R_alloc | apply Kd.R_drewN | apply Kd.R_drew)); exact HO418.out) hb)
        have n2_ := Aside0.mk (Kd.R_elder' (by (with_reducible repeat (first | apply Kd.R_alloc | apply Kd.R_drewN | apply Kd.R_drew)); exact HO425.out) (Kd.R_base ho0) hb)
        have n3_ := Aside0.mk (Kd.R_lower (Kd.R_new' ho0 (Kd.R_lt (by (with_reducible repeat (first | apply Kd.R_alloc | apply Kd.R_drewN | apply Kd.R_drew)); exact HO425.out))) (below_size (by repeat (first | (with_reducible first | exact HB.out | apply below_alloc | apply pw_below_drewN | apply below_drew1 | refine below_set ?_ GE419.out) | exact HB.out))))
        have n4_ := Aside0.mk (blk_below (g := gb419) (o := .cells #[.int .i64 t412, .slice Ao20 t413.length co20] 28 (0, 0)) (by (with_reducible repeat (first | refine blk_drewN ?_ _ | refine blk_drew ?_ | refine blk_alloc ?_ _)); exact BK419.out) hb)
        have n5_ := Aside0.mk (below_step (by repeat (first | (with_reducible first | exact HB.out | apply below_alloc | apply pw_below_drewN | apply below_drew1 | refine below_set ?_ GE419.out) | exact HB.out)) hb)
        clear HO415
        clear HO418
        clear HO425
        clear BK419
        clear HB
        have HO415 := n0_
        have HO418 := n1_
        have HO425 := n2_
        have HO428 := n3_
        have BK419 := n4_
        have HB := n5_
        clear n0_ n1_ n2_ n3_ n4_ n5_
        (try clear hb)
        (try clear hb2)
        (try clear hk)
        (try clear hi)
        (try clear ho0)
        refine hK.out _ _ ⟨(blk_cell BK419.out 0).trans rfl, (blk_cell BK419.out 1).trans rfl⟩ (fun hHeld => ?_)
        clear hK K
        refine norm_ (a' := ?_) ?_ ?_
        rotate_left
        ·show Act.put _ (some 39) _ = _
         simp only [Act.put, List.setIfInBounds_toArray, List.set_cons_zero, List.set_cons_succ, i64_w, i32_w]
         rfl
        refine one_ (i := 0) (N := some 34) #[true, true, true, true, true, true, false, false] rfl rfl (one_of HT_.out (by kernel_rfl)) (by decide) (fun K hK => ?_)
        refine Kd.R_lit_step Kd.bool _ 4 ?hg (N := 34) ?hd (xs := ([] : List Bool)) (inner := []) (ok := fun _ => True) (okp := fun _ => True) ?hr ?hp (fun _ hk => hk) trivial (Below.refl _ _) (Nat.le_refl _) (by simp) ?_; (case hd => rfl); (case hg => rfl); (case hr => first | (go_simp; done) | (go_simp; rfl)); (case hp => exact (Reps.none _ _))
        intro v421 w26 ho27 hb hg_ hnew_
        clear hg_ hnew_
        (first | rw [← Ny420.out] at ho27 | (simp only [Int.reduceToNat] at ho27; rw [← Ny420.out] at ho27))
        have n0_ := Aside0.mk (Kd.V_elder' (by (with_reducible repeat (first | apply Kd.V_alloc | apply Kd.V_drewN | apply Kd.V_drew)); exact HO415.out) (Kd.R_base ho27) hb)
        have n1_ := Aside0.mk (Kd.R_below (by (with_reducible repeat (first | apply Kd.R_alloc | apply Kd.R_drewN | apply Kd.R_drew)); exact HO418.out) hb)
        have n2_ := Aside0.mk (Kd.R_elder' (by (with_reducible repeat (first | apply Kd.R_alloc | apply Kd.R_drewN | apply Kd.R_drew)); exact HO425.out) (Kd.R_base ho27) hb)
        have n3_ := Aside0.mk (Kd.R_elder' (by (with_reducible repeat (first | apply Kd.R_alloc | apply Kd.R_drewN | apply Kd.R_drew)); exact HO428.out) (Kd.R_base ho27) hb)
        have n4_ := Aside0.mk (Kd.R_lower (Kd.R_new' (Kd.R_new' ho27 (Kd.R_lt (by (with_reducible repeat (first | apply Kd.R_alloc | apply Kd.R_drewN | apply Kd.R_drew)); exact HO425.out))) (Kd.R_lt (by (with_reducible repeat (first | apply Kd.R_alloc | apply Kd.R_drewN | apply Kd.R_drew)); exact HO428.out))) (below_size (by repeat (first | (with_reducible first | exact HB.out | apply below_alloc | apply pw_below_drewN | apply below_drew1 | refine below_set ?_ GE419.out) | exact HB.out))))
        have n5_ := Aside0.mk (blk_below (g := gb419) (o := .cells #[.int .i64 t412, .slice Ao20 t413.length co20] 28 (0, 0)) (by (with_reducible repeat (first | refine blk_drewN ?_ _ | refine blk_drew ?_ | refine blk_alloc ?_ _)); exact BK419.out) hb)
        have n6_ := Aside0.mk (below_step (by repeat (first | (with_reducible first | exact HB.out | apply below_alloc | apply pw_below_drewN | apply below_drew1 | refine below_set ?_ GE419.out) | exact HB.out)) hb)
        clear HO415
        clear HO418
        clear HO425
        clear HO428
        clear BK419
        clear HB
        have HO415 := n0_
        have HO418 := n1_
        have HO425 := n2_
        have HO428 := n3_
        have HO422 := n4_
        have BK419 := n5_
        have HB := n6_
        clear n0_ n1_ n2_ n3_ n4_ n5_ n6_
        clear hb ho27
        refine hK.out _ _ ⟨(blk_cell BK419.out 0).trans rfl, (blk_cell BK419.out 1).trans rfl⟩ (fun hHeld => ?_)
        clear hK K
        refine norm_ (a' := ?_) ?_ ?_
        rotate_left
        ·show Act.put _ (some 34) _ = _
         simp only [Act.put, List.setIfInBounds_toArray, List.set_cons_zero, List.set_cons_succ, i64_w, i32_w]
         rfl
        exact norm_ (by simp only [putAll, Act.put, List.setIfInBounds_toArray, List.set_cons_zero, List.set_cons_succ]) (hCont (v421, .slice Ao24 t423.length co24, v427) _ ⟨hHeld, (by (with_reducible repeat (first | apply Kd.V_alloc | apply Kd.V_drewN | apply Kd.V_drew)); exact Kd.V_mono HO415.out (fun _ hk => ⟨hk.1.1.1.1, ⟨hk.2, ⟨hk.1.1.2, ⟨hk.1.2, hk.1.1.1.2⟩⟩⟩⟩)), (by (with_reducible repeat (first | apply Kd.R_alloc | apply Kd.R_drewN | apply Kd.R_drew)); exact HO418.out), (by (with_reducible repeat (first | apply Kd.R_alloc | apply Kd.R_drewN | apply Kd.R_drew)); exact Kd.R_mono HO422.out (fun _ hk => ⟨hk.1.2, hk.2⟩)), (by (with_reducible repeat (first | apply Kd.R_alloc | apply Kd.R_drewN | apply Kd.R_drew)); exact Kd.R_mono HO425.out (fun _ hk => ⟨hk.2, hk.1.2⟩)), (by (with_reducible repeat (first | apply Kd.R_alloc | apply Kd.R_drewN | apply Kd.R_drew)); exact Kd.R_mono HO428.out (fun _ hk => ⟨hk.2, hk.1.2⟩)), (by (with_reducible repeat (first | refine blk_drewN ?_ _ | refine blk_drew ?_ | refine blk_alloc ?_ _)); exact BK419.out), (by repeat (first | (with_reducible first | exact HB.out | apply below_alloc | apply pw_below_drewN | apply below_drew1 | refine below_set ?_ GE419.out) | exact HB.out))⟩)
     rintro ⟨v421, v424, v427⟩ w28 ⟨hS_, h0_, h1_, h2_, h3_, h4_, h5_, h6_⟩
     have n0_ : Aside0 (Kd.V k49 49 w28 w.heap.size (fun k_ => some k_ ≠ (v417 : Value).ownBlock ∧ some k_ ≠ (v421 : Value).ownBlock ∧ some k_ ≠ (v424 : Value).ownBlock ∧ some k_ ≠ (v427 : Value).ownBlock ∧ k_ ≠ gb419) (.slice Ao20 t413.length co20) t413) := ⟨h0_⟩
     have n1_ : Aside0 (Kd.R (Kd.int .i64) 3 w28 w.heap.size (fun _ => True) v417 t416) := ⟨h1_⟩
     have n2_ : Aside0 (Kd.R Kd.bool 4 w28 w.heap.size (fun k_ => some k_ ≠ (v424 : Value).ownBlock ∧ some k_ ≠ (v427 : Value).ownBlock) v421 y420) := ⟨h2_⟩
     have n3_ : Aside0 (Kd.R Kd.bool 4 w28 w.heap.size (fun k_ => some k_ ≠ (v421 : Value).ownBlock ∧ some k_ ≠ (v427 : Value).ownBlock) v424 t423) := ⟨h3_⟩
     have n4_ : Aside0 (Kd.R Kd.bool 4 w28 w.heap.size (fun k_ => some k_ ≠ (v421 : Value).ownBlock ∧ some k_ ≠ (v424 : Value).ownBlock) v427 t426) := ⟨h4_⟩
     have n5_ : Aside0 (w28.heap[gb419]? = some (.cells #[.int .i64 t412, .slice Ao20 t413.length co20] 28 (0, 0))) := ⟨h5_⟩
     have n6_ : Aside0 (Below w.heap.size w w28) := ⟨h6_⟩
     clear HO415
     clear HO418
     clear BK419
     clear HB
     clear h0_ h1_ h2_ h3_ h4_ h5_ h6_
     have HO415 := n0_
     have HO418 := n1_
     have HO422 := n2_
     have HO425 := n3_
     have HO428 := n4_
     have BK419 := n5_
     have HB := n6_
     clear n0_ n1_ n2_ n3_ n4_ n5_ n6_
     have hHeld : w28.cell? ⟨gb419, 0, none⟩ = some (.int .i64 t412) ∧ w28.cell? ⟨gb419, 1, none⟩ = some (.slice Ao20 t413.length co20) := hS_
     obtain ⟨Ao30, co30, eo30⟩ := Kd.R_slice HO428.out
     (first | subst eo30 | (injection eo30 with f1_ f2_ f3_; have f4_ := f1_.symm; have f5_ := f3_.symm; clear f1_ f2_ f3_; subst f4_; subst f5_))
     refine norm_ (a' := ?_) ?_ ?_
     rotate_left
     ·simp only [putAll, Act.put, List.setIfInBounds_toArray, List.set_cons_zero, List.set_cons_succ]
      rfl
     refine one_ (i := 6) (N := some 40) #[true, true, true, true, true, true, true, false] rfl rfl (one_of HT_.out (by kernel_rfl)) (by decide) (fun K hK => ?_)
     refine Kd.R_append_rows_step Kd.bool (w0 := w) w.heap.size (by rfl) (.tmp 34) (.tmp 39) 41 4 (.bool false) 1 rfl Try.underlying41 info4 rfl (by decide) (by omega) v421 y420 t426 _ _ _ (fun k_ => some k_ ≠ (v424 : Value).ownBlock ∧ some k_ ≠ (.slice Ao30 t426.length co30 : Value).ownBlock) (fun _ => False) rfl rfl ?aO ?aR (fun _ _ h => h) (fun _ h => h.elim) ?aF ?aB ?aS ?aL ?_
     (case aR => repeat (first | exact (Kd.R_reads' HO428.out).2.2 | (with_reducible refine Kd.C_alloc ?_ _) | (with_reducible refine Kd.C_drewN ?_ _) | (with_reducible refine Kd.C_drew ?_)))
     (case aB => exact (by repeat (first | (with_reducible first | exact HB.out | apply below_alloc | apply pw_below_drewN | apply below_drew1 | refine below_set ?_ GE419.out) | exact HB.out)))
     (case aF => exact (fun k_ hk => ⟨Kd.fresh' (Kd.R_lt (by (with_reducible repeat (first | apply Kd.R_alloc | apply Kd.R_drewN | apply Kd.R_drew)); exact HO425.out)) k_ hk, Kd.fresh' (Kd.R_lt (by (with_reducible repeat (first | apply Kd.R_alloc | apply Kd.R_drewN | apply Kd.R_drew)); exact HO428.out)) k_ hk⟩))
     (case aO => exact (by (with_reducible repeat (first | apply Kd.R_alloc | apply Kd.R_drewN | apply Kd.R_drew)); exact HO422.out))
     (case aS => exact (below_size (by repeat (first | (with_reducible first | exact HB.out | apply below_alloc | apply pw_below_drewN | apply below_drew1 | refine below_set ?_ GE419.out) | exact HB.out))))
     (case aL => have := LMc14.out; omega)
     intro v430 w29 ho hb hg hat
     rw [← Ny429.out] at ho
     have n0_ := Aside0.mk (Kd.V_afterv (ok := (fun k_ => some k_ ≠ (v417 : Value).ownBlock ∧ some k_ ≠ (v424 : Value).ownBlock ∧ some k_ ≠ (.slice Ao30 t426.length co30 : Value).ownBlock ∧ k_ ≠ gb419)) (by (with_reducible repeat (first | apply Kd.V_alloc | apply Kd.V_drewN | apply Kd.V_drew)); exact Kd.V_mono HO415.out (fun _ hk => ⟨⟨hk.1, ⟨hk.2.2.1, ⟨hk.2.2.2.1, hk.2.2.2.2⟩⟩⟩, hk.2.1⟩)) hg hat)
     have n1_ := Aside0.mk (Kd.R_over' (by (with_reducible repeat (first | apply Kd.R_alloc | apply Kd.R_drewN | apply Kd.R_drew)); exact HO418.out) (Kd.R_typed (by (with_reducible repeat (first | apply Kd.R_alloc | apply Kd.R_drewN | apply Kd.R_drew)); exact HO422.out)) (by decide) hg)
     have n2_ := Aside0.mk (blk_grown (g := gb419) (o := .cells #[.int .i64 t412, .slice Ao20 t413.length co20] 28 (0, 0)) (by (with_reducible repeat (first | refine blk_drewN ?_ _ | refine blk_drew ?_ | refine blk_alloc ?_ _)); exact BK419.out) hg (Kd.R_ne HO422.out BK419.out (by decide)))
     have n3_ := Aside0.mk (Kd.R_after (ok := (fun k_ => some k_ ≠ (.slice Ao30 t426.length co30 : Value).ownBlock)) (by (with_reducible repeat (first | apply Kd.R_alloc | apply Kd.R_drewN | apply Kd.R_drew)); exact Kd.R_mono HO425.out (fun _ hk => ⟨hk.2, hk.1⟩)) hg hat)
     have n4_ := Aside0.mk (Kd.R_after (ok := (fun k_ => some k_ ≠ (v424 : Value).ownBlock)) (by (with_reducible repeat (first | apply Kd.R_alloc | apply Kd.R_drewN | apply Kd.R_drew)); exact Kd.R_mono HO428.out (fun _ hk => ⟨hk.2, hk.1⟩)) hg hat)
     have n5_ := Aside0.mk (hb)
     have n6_ := Aside0.mk (ho)
     clear HO415
     clear HO418
     clear BK419
     clear HO425
     clear HO428
     clear HB
     clear HO422
     have HO415 := n0_
     have HO418 := n1_
     have BK419 := n2_
     have HO425 := n3_
     have HO428 := n4_
     have HB := n5_
     have HO431 := n6_
     clear n0_ n1_ n2_ n3_ n4_ n5_ n6_
     clear ho hb hg hat
     refine hK.out _ _ ⟨(blk_cell BK419.out 0).trans rfl, (blk_cell BK419.out 1).trans rfl⟩ (fun hHeld => ?_)
     clear hK K
     refine norm_ (a' := ?_) ?_ ?_
     rotate_left
     ·show Act.put _ (some 40) _ = _
      simp only [Act.put, List.setIfInBounds_toArray, List.set_cons_zero, List.set_cons_succ, i64_w, i32_w]
      rfl
     refine pure_ (i := 7) (N := some 12) (v := ?_) (a' := ?_) #[true, true, true, true, true, true, true, true] rfl rfl (any_of HT_.out (by kernel_rfl)) (fun _ _ _ h => h) (Or.inl ⟨by rfl, ?_⟩) ?_ ?_
     rotate_left
     ·intro w'
      go_simp
      with_reducible rfl
     rotate_left
     ·simp only [Act.put, List.setIfInBounds_toArray, List.set_cons_zero, List.set_cons_succ, i64_w, i32_w]
      rfl
     refine done_ (done_of HT_.out (by kernel_rfl)) ?_
     have hcz31_0 : w29.cell? ⟨gb419, 0, none⟩ = some (.int .i64 t412) := (blk_cell BK419.out 0).trans rfl
     have hcz31_1 : w29.cell? ⟨gb419, 1, none⟩ = some (.slice Ao20 t413.length co20) := (blk_cell BK419.out 1).trans rfl
     have hfz31_0 := blk_frozen BK419.out 0
     have hfz31_1 := blk_frozen BK419.out 1
     go_upto_region 7 with (first | ((with_reducible refine gate_callee (f := 18) rfl ?_); refine goesL_ (some 42) rfl rfl Try.func18 (by kernel_rfl) rfl #[.agg #[.int .i64 t412, .slice Ao20 t413.length co20], .int .i64 0] rfl (by (try simp only [List.map_toArray, List.map_cons, List.map_nil]); first | done | rfl | (simp only [List.length_drop, List.length_take]; rfl)) ?_; (with_reducible refine (cnf_Clauses.calls t412 _ _ t413 0 t432 _ ?side1 ?side2 A15.out).mono ?_); (case side1 => repeat (first | exact (Kd.V_reads' HO415.out).2.2 | (with_reducible refine Kd.C_alloc ?_ _) | (with_reducible refine Kd.C_drewN ?_ _) | (with_reducible refine Kd.C_drew ?_))); (case side2 => exact (Kd.V_reads' HO415.out).2.1); rintro e w32 ⟨v433, rfl, ho0, hb⟩; refine ⟨_, rfl, ?_⟩; have n0_ := Aside0.mk (Kd.V_elder' (by (with_reducible repeat (first | apply Kd.V_alloc | apply Kd.V_drewN | apply Kd.V_drew)); exact HO415.out) (Kd.N_base ho0) hb); have n1_ := Aside0.mk (Kd.R_below (by (with_reducible repeat (first | apply Kd.R_alloc | apply Kd.R_drewN | apply Kd.R_drew)); exact HO418.out) hb); have n2_ := Aside0.mk (Kd.R_below (by (with_reducible repeat (first | apply Kd.R_alloc | apply Kd.R_drewN | apply Kd.R_drew)); exact HO425.out) hb); have n3_ := Aside0.mk (Kd.R_below (by (with_reducible repeat (first | apply Kd.R_alloc | apply Kd.R_drewN | apply Kd.R_drew)); exact HO428.out) hb); have n4_ := Aside0.mk (Kd.R_below (by (with_reducible repeat (first | apply Kd.R_alloc | apply Kd.R_drewN | apply Kd.R_drew)); exact HO431.out) hb); have n5_ := Aside0.mk (Kd.N_lower (Kd.N_mono (ok' := fun k_ => some k_ ≠ (v417 : Value).ownBlock ∧ some k_ ≠ (v424 : Value).ownBlock ∧ some k_ ≠ (.slice Ao30 t426.length co30 : Value).ownBlock ∧ some k_ ≠ (v430 : Value).ownBlock ∧ k_ ≠ gb419) ho0 (fun k_ hk_ => ⟨(Kd.fresh' (Kd.R_lt (by (with_reducible repeat (first | apply Kd.R_alloc | apply Kd.R_drewN | apply Kd.R_drew)); exact HO418.out)) k_ hk_), (Kd.fresh' (Kd.R_lt (by (with_reducible repeat (first | apply Kd.R_alloc | apply Kd.R_drewN | apply Kd.R_drew)); exact HO425.out)) k_ hk_), (Kd.fresh' (Kd.R_lt (by (with_reducible repeat (first | apply Kd.R_alloc | apply Kd.R_drewN | apply Kd.R_drew)); exact HO428.out)) k_ hk_), (Kd.fresh' (Kd.R_lt (by (with_reducible repeat (first | apply Kd.R_alloc | apply Kd.R_drewN | apply Kd.R_drew)); exact HO431.out)) k_ hk_), (Kd.freshB (g := gb419) (o := .cells #[.int .i64 t412, .slice Ao20 t413.length co20] 28 (0, 0)) (by (with_reducible repeat (first | refine blk_drewN ?_ _ | refine blk_drew ?_ | refine blk_alloc ?_ _)); exact BK419.out) k_ hk_)⟩)) (below_size (by repeat (first | (with_reducible first | exact HB.out | apply below_alloc | apply pw_below_drewN | apply below_drew1 | refine below_set ?_ GE419.out) | exact HB.out)))); have n6_ := Aside0.mk (blk_below (g := gb419) (o := .cells #[.int .i64 t412, .slice Ao20 t413.length co20] 28 (0, 0)) (by (with_reducible repeat (first | refine blk_drewN ?_ _ | refine blk_drew ?_ | refine blk_alloc ?_ _)); exact BK419.out) hb); have n7_ := Aside0.mk (below_step (by repeat (first | (with_reducible first | exact HB.out | apply below_alloc | apply pw_below_drewN | apply below_drew1 | refine below_set ?_ GE419.out) | exact HB.out)) hb); clear HO415; clear HO418; clear HO425; clear HO428; clear HO431; clear BK419; clear HB; have HO415 := n0_; have HO418 := n1_; have HO425 := n2_; have HO428 := n3_; have HO431 := n4_; have HO434 := n5_; have BK419 := n6_; have HB := n7_; clear n0_ n1_ n2_ n3_ n4_ n5_ n6_ n7_; (try clear hb); (try clear hb2); (try clear hk); (try clear hi); (try clear ho0)))
     (try simp only [Act.put, List.setIfInBounds_toArray, List.set_cons_zero, List.set_cons_succ])
     go_cut [59] (fun v59 wc => ∃ (kq : Nat) (x59_15 : Bool), v59 = .bool x59_15 ∧ Aside0 (proofmarklaw17_CnfOnly.j1 kq l3 t410 y429 t432 x59_15 t412 t413 = some r) ∧ Aside0 (kq ≤ kj5) ∧ Aside0 (Kd.R Kd.bool 4 wc w.heap.size (fun _ => True) v430 y429) ∧ Aside0 (Kd.N (Kd.slice 3 (Kd.int .i64)) 29 wc w.heap.size (fun k_ => some k_ ≠ (v430 : Value).ownBlock ∧ k_ ≠ gb419) v433 t432) ∧ Aside0 (Kd.V k49 49 wc w.heap.size (fun k_ => some k_ ≠ (v430 : Value).ownBlock ∧ some k_ ≠ (v433 : Value).ownBlock ∧ k_ ≠ gb419) (.slice Ao20 t413.length co20) t413) ∧ Aside0 (wc.heap[gb419]? = some (.cells #[.int .i64 t412, (.slice Ao20 t413.length co20)] 28 (0, 0))) ∧ Aside0 (Below w.heap.size w wc))
     case first =>
      have H := HC16.out
      clear HC16
      by_cases c33 : (y429.length : Int) = (wrap64 ((wrap64 (1 + t412)) + (t413.length : Int)))
      ·rw [if_pos c33] at H
       have c33b0 : ((y429.length : Int) == (wrap64 ((wrap64 (1 + t412)) + (t413.length : Int)))) = true := beq_iff_eq.mpr c33
       have c33b1 : ((y429.length : Int) != (wrap64 ((wrap64 (1 + t412)) + (t413.length : Int)))) = false := bne_eq_false_iff_eq.mpr c33
       clear c33
       (first | rw [c33b0] | (simp only [i64_w, i32_w]; rw [c33b0]) | skip)
       replace H := Option.bind_eq_some_iff.mp H
       obtain ⟨t435, A340, H⟩ := H
       replace H : (proofmarklaw17_CnfOnly.j1 kj5 l3 t410 y429 t432 (!t435) t412 t413) = some r := H
       have A34 := Aside0.mk A340
       clear A340
       have H' := Aside0.mk H
       clear H
       obtain ⟨Ao35, co35, eo35⟩ := Kd.R_slice HO431.out
       subst eo35
       have hcz36_0 : w32.cell? ⟨gb419, 0, none⟩ = some (.int .i64 t412) := (blk_cell BK419.out 0).trans rfl
       have hcz36_1 : w32.cell? ⟨gb419, 1, none⟩ = some (.slice Ao20 t413.length co20) := (blk_cell BK419.out 1).trans rfl
       have hfz36_0 := blk_frozen BK419.out 0
       have hfz36_1 := blk_frozen BK419.out 1
       obtain ⟨Ao37, co37, eo37⟩ := Kd.N_slice HO434.out
       subst eo37
       go_wp2_with (first | (go_at_call 20; (with_reducible refine (proofmarklaw17_within.calls kj5 _ _ t432 0 (y429.length : Int) t435 _ ?side1 ?side2 A34.out).mono ?_); (case side1 => repeat (first | exact (Kd.N_reads' HO434.out).2.2 | (with_reducible refine Kd.C_alloc ?_ _) | (with_reducible refine Kd.C_drewN ?_ _) | (with_reducible refine Kd.C_drew ?_))); (case side2 => exact (Kd.N_reads' HO434.out).2.1); rintro e w38 ⟨rfl, hb⟩; have n0_ := Aside0.mk (Kd.V_below (by (with_reducible repeat (first | apply Kd.V_alloc | apply Kd.V_drewN | apply Kd.V_drew)); exact HO415.out) hb); have n1_ := Aside0.mk (Kd.R_below (by (with_reducible repeat (first | apply Kd.R_alloc | apply Kd.R_drewN | apply Kd.R_drew)); exact HO418.out) hb); have n2_ := Aside0.mk (Kd.R_below (by (with_reducible repeat (first | apply Kd.R_alloc | apply Kd.R_drewN | apply Kd.R_drew)); exact HO425.out) hb); have n3_ := Aside0.mk (Kd.R_below (by (with_reducible repeat (first | apply Kd.R_alloc | apply Kd.R_drewN | apply Kd.R_drew)); exact HO428.out) hb); have n4_ := Aside0.mk (Kd.R_below (by (with_reducible repeat (first | apply Kd.R_alloc | apply Kd.R_drewN | apply Kd.R_drew)); exact HO431.out) hb); have n5_ := Aside0.mk (Kd.N_below (by (with_reducible repeat (first | apply Kd.N_alloc | apply Kd.N_drewN | apply Kd.N_drew)); exact HO434.out) hb); have n6_ := Aside0.mk (blk_below (g := gb419) (o := .cells #[.int .i64 t412, .slice Ao20 t413.length co20] 28 (0, 0)) (by (with_reducible repeat (first | refine blk_drewN ?_ _ | refine blk_drew ?_ | refine blk_alloc ?_ _)); exact BK419.out) hb); have n7_ := Aside0.mk (below_step (by repeat (first | (with_reducible first | exact HB.out | apply below_alloc | apply pw_below_drewN | apply below_drew1 | refine below_set ?_ GE419.out) | exact HB.out)) hb); clear HO415; clear HO418; clear HO425; clear HO428; clear HO431; clear HO434; clear BK419; clear HB; have HO415 := n0_; have HO418 := n1_; have HO425 := n2_; have HO428 := n3_; have HO431 := n4_; have HO434 := n5_; have BK419 := n6_; have HB := n7_; clear n0_ n1_ n2_ n3_ n4_ n5_ n6_ n7_; (try clear hb); (try clear hb2); (try clear hk); (try clear hi)))
       go_meet
       case rel => exact ⟨_, (!t435), (by first | rfl | (simp; done) | (simp [*]; done)), H', ⟨by have := HJ5.out; first | omega | exact Nat.le_refl _⟩, ⟨by (with_reducible repeat (first | apply Kd.R_alloc | apply Kd.R_drewN | apply Kd.R_drew)); exact Kd.R_mono HO431.out (fun _ hk => trivial)⟩, ⟨by (with_reducible repeat (first | apply Kd.N_alloc | apply Kd.N_drewN | apply Kd.N_drew)); exact Kd.N_mono HO434.out (fun _ hk => ⟨hk.2.2.2.1, hk.2.2.2.2⟩)⟩, ⟨by (with_reducible repeat (first | apply Kd.V_alloc | apply Kd.V_drewN | apply Kd.V_drew)); exact Kd.V_mono HO415.out (fun _ hk => ⟨hk.1.2, ⟨hk.2, hk.1.1.2.2.2⟩⟩)⟩, ⟨by (with_reducible repeat (first | refine blk_drewN ?_ _ | refine blk_drew ?_ | refine blk_alloc ?_ _)); exact BK419.out⟩, ⟨by repeat (first | (with_reducible first | exact HB.out | apply below_alloc | apply pw_below_drewN | apply below_drew1 | refine below_set ?_ GE419.out) | exact HB.out)⟩⟩
      ·rw [if_neg c33] at H
       have c33b0 : ((y429.length : Int) == (wrap64 ((wrap64 (1 + t412)) + (t413.length : Int)))) = false := beq_eq_false_iff_ne.mpr c33
       have c33b1 : ((y429.length : Int) != (wrap64 ((wrap64 (1 + t412)) + (t413.length : Int)))) = true := bne_iff_ne.mpr c33
       (first | rw [c33b0] | (simp only [i64_w, i32_w]; rw [c33b0]) | skip)
       have H' := Aside0.mk H
       clear H
       obtain ⟨Ao39, co39, eo39⟩ := Kd.R_slice HO431.out
       subst eo39
       have hcz40_0 : w32.cell? ⟨gb419, 0, none⟩ = some (.int .i64 t412) := (blk_cell BK419.out 0).trans rfl
       have hcz40_1 : w32.cell? ⟨gb419, 1, none⟩ = some (.slice Ao20 t413.length co20) := (blk_cell BK419.out 1).trans rfl
       have hfz40_0 := blk_frozen BK419.out 0
       have hfz40_1 := blk_frozen BK419.out 1
       go_wp2
       go_meet
       case rel => exact ⟨_, (true), (by first | rfl | (simp; done) | (simp [*]; done)), H', ⟨by have := HJ5.out; first | omega | exact Nat.le_refl _⟩, ⟨by (with_reducible repeat (first | apply Kd.R_alloc | apply Kd.R_drewN | apply Kd.R_drew)); exact Kd.R_mono HO431.out (fun _ hk => trivial)⟩, ⟨by (with_reducible repeat (first | apply Kd.N_alloc | apply Kd.N_drewN | apply Kd.N_drew)); exact Kd.N_mono HO434.out (fun _ hk => ⟨hk.2.2.2.1, hk.2.2.2.2⟩)⟩, ⟨by (with_reducible repeat (first | apply Kd.V_alloc | apply Kd.V_drewN | apply Kd.V_drew)); exact Kd.V_mono HO415.out (fun _ hk => ⟨hk.1.2, ⟨hk.2, hk.1.1.2.2.2⟩⟩)⟩, ⟨by (with_reducible repeat (first | refine blk_drewN ?_ _ | refine blk_drew ?_ | refine blk_alloc ?_ _)); exact BK419.out⟩, ⟨by repeat (first | (with_reducible first | exact HB.out | apply below_alloc | apply pw_below_drewN | apply below_drew1 | refine below_set ?_ GE419.out) | exact HB.out)⟩⟩
     case rest =>
      clear HC16
      try clear c1
      try clear c2
      try clear p2
      try clear c3
      try clear p6
      try clear c8
      try clear c9
      try clear c10
      try clear c11
      try clear c12
      try clear c14
      try clear c18
      try clear c21
      try clear c22
      try clear c33
      try clear c33b0
      try clear c33b1
      try clear hcz19_0
      try clear hcz19_1
      try clear hcz31_0
      try clear hcz31_1
      try clear hcz36_0
      try clear hcz36_1
      try clear hcz40_0
      try clear hcz40_1
      try clear hfz19_0
      try clear hfz19_1
      try clear hfz31_0
      try clear hfz31_1
      try clear hfz36_0
      try clear hfz36_1
      try clear hfz40_0
      try clear hfz40_1
      try clear p2
      obtain ⟨kq, x59_15, rfl, HA, HJ15, HO_12, HO_13, HO_420001, BK419, HB⟩ := hcut
      cases kq with
      | zero => exact absurd HA.out (by simp [proofmarklaw17_CnfOnly.j1])
      | succ kj15 =>
       have H := HA.out
       clear HA
       simp only [proofmarklaw17_CnfOnly.j1] at H
       by_cases c41 : x59_15 = true
       ·subst c41
        have H1 : (some false) = some r := by rw [if_pos rfl] at H; exact H
        clear H
        have H := H1
        clear H1
        obtain rfl := Option.some.inj H
        go_wp2
        go_ret
        exact ⟨by first | rfl | (simp [errW_none, errW_some] <;> rfl) | (simp [*, errW_none, errW_some] <;> rfl), by repeat (first | (with_reducible first | exact HB.out | apply below_alloc | apply pw_below_drewN | apply below_drew1 | refine below_set ?_ GE419.out) | exact HB.out)⟩
       ·replace c41 := Bool.eq_false_iff.mpr c41
        subst c41
        have H1 : ((some (([] : List Bool) : List Bool)).bind fun y436 => (if y436.length + y429.length < 140737488355328 then (proofmarklaw17_CnfOnly.l0 kj15 l3 t410 y429 t432 (y436 ++ y429) 0 t412 t413) else (none))) = some r := by rw [if_neg (show ¬ (false = true) by decide)] at H; exact H
        clear H
        have H := H1
        clear H1
        obtain ⟨y436, hy436⟩ : ∃ y_ : List Bool, y_ = (([] : List Bool)) := ⟨_, rfl⟩
        replace H : (if y436.length + y429.length < 140737488355328 then (proofmarklaw17_CnfOnly.l0 kj15 l3 t410 y429 t432 (y436 ++ y429) 0 t412 t413) else (none)) = some r := by first | (rw [hy436]; with_reducible exact H) | (have H2_ := (Option.bind_some _ _).symm.trans H; rw [hy436]; with_reducible exact H2_) | (have H2_ := (Option.bind_some _ _).symm.trans H; with_reducible exact H2_) | with_reducible exact H | (rw [hy436]; exact H) | exact H
        have Ny436 := Aside0.mk hy436
        clear hy436
        by_cases c42 : y436.length + y429.length < 140737488355328
        ·rw [if_pos c42] at H
         have LMc42 := Aside0.mk c42
         clear c42
         obtain ⟨y439, hy439⟩ : ∃ y_ : List Bool, y_ = (y436 ++ y429) := ⟨_, rfl⟩
         replace H : (proofmarklaw17_CnfOnly.l0 kj15 l3 t410 y429 t432 y439 0 t412 t413) = some r := by first | (rw [hy439]; with_reducible exact H) | (have H2_ := (Option.bind_some _ _).symm.trans H; rw [hy439]; with_reducible exact H2_) | (have H2_ := (Option.bind_some _ _).symm.trans H; with_reducible exact H2_) | with_reducible exact H | (rw [hy439]; exact H) | exact H
         have Ny439 := Aside0.mk hy439
         clear hy439
         have H' := Aside0.mk H
         clear H
         go_wp2_with (first | ((with_reducible refine gate_dst (N := 60) rfl ?_); (try (refine gate_guard (by rfl) ?_; dsimp only)); refine Kd.R_lit Kd.bool _ 4 ?hg (N := 60) ?hd (xs := ([] : List Bool)) (inner := []) (ok := fun _ => True) (okp := fun _ => True) ?hr ?hp (fun _ hk => hk) trivial (Below.refl _ _) (Nat.le_refl _) (by simp) ?_; (case hd => rfl); (case hg => rfl); (case hr => first | (go_simp; done) | (go_simp; rfl)); (case hp => exact (Reps.none _ _)); intro v437 w43 ho44 hb hg_ hnew_; clear hg_ hnew_; (first | rw [← Ny436.out] at ho44 | (simp only [Int.reduceToNat] at ho44; rw [← Ny436.out] at ho44)); have n0_ := Aside0.mk (Kd.R_elder' (by (with_reducible repeat (first | apply Kd.R_alloc | apply Kd.R_drewN | apply Kd.R_drew)); exact HO_12.out) (Kd.R_base ho44) hb); have n1_ := Aside0.mk (Kd.N_elder' (by (with_reducible repeat (first | apply Kd.N_alloc | apply Kd.N_drewN | apply Kd.N_drew)); exact HO_13.out) (Kd.R_base ho44) hb); have n2_ := Aside0.mk (Kd.V_elder' (by (with_reducible repeat (first | apply Kd.V_alloc | apply Kd.V_drewN | apply Kd.V_drew)); exact HO_420001.out) (Kd.R_base ho44) hb); have n3_ := Aside0.mk (Kd.R_lower (Kd.R_new' ho44 (Kd.R_lt (by (with_reducible repeat (first | apply Kd.R_alloc | apply Kd.R_drewN | apply Kd.R_drew)); exact HO_12.out))) (below_size (by repeat (first | (with_reducible first | exact HB.out | apply below_alloc | apply pw_below_drewN | apply below_drew1 | refine below_set ?_ GE419.out) | exact HB.out)))); have n4_ := Aside0.mk (blk_below (g := gb419) (o := .cells #[.int .i64 t412, .slice Ao20 t413.length co20] 28 (0, 0)) (by (with_reducible repeat (first | refine blk_drewN ?_ _ | refine blk_drew ?_ | refine blk_alloc ?_ _)); exact BK419.out) hb); have n5_ := Aside0.mk (below_step (by repeat (first | (with_reducible first | exact HB.out | apply below_alloc | apply pw_below_drewN | apply below_drew1 | refine below_set ?_ GE419.out) | exact HB.out)) hb); clear HO_12; clear HO_13; clear HO_420001; clear BK419; clear HB; have HO_12 := n0_; have HO_13 := n1_; have HO_420001 := n2_; have HO438 := n3_; have BK419 := n4_; have HB := n5_; clear n0_ n1_ n2_ n3_ n4_ n5_; clear hb ho44; obtain ⟨Ao46, co46, eo46⟩ := Kd.R_slice HO_12.out; subst eo46) | ((with_reducible refine gate_builtin (b := .append) (xs := #[.tmp 60, .tmp 61]) rfl ?_); (try (refine gate_guard (by rfl) ?_; dsimp only)); at_builtin; refine Kd.R_append_rows Kd.bool (w0 := w) w.heap.size rfl (.tmp 60) (.tmp 61) 41 4 (.bool false) 1 rfl Try.underlying41 info4 rfl (by decide) (by omega) v437 y436 y429 _ _ _ (fun k_ => some k_ ≠ (.slice Ao46 y429.length co46 : Value).ownBlock) (fun _ => False) rfl rfl ?aO ?aR (fun _ _ h => h) (fun _ h => h.elim) ?aF ?aB ?aS ?aL ?_; (case aR => repeat (first | exact (Kd.R_reads' HO_12.out).2.2 | (with_reducible refine Kd.C_alloc ?_ _) | (with_reducible refine Kd.C_drewN ?_ _) | (with_reducible refine Kd.C_drew ?_))); (case aB => exact (by repeat (first | (with_reducible first | exact HB.out | apply below_alloc | apply pw_below_drewN | apply below_drew1 | refine below_set ?_ GE419.out) | exact HB.out))); (case aF => exact (fun k_ hk => Kd.fresh' (Kd.R_lt (by (with_reducible repeat (first | apply Kd.R_alloc | apply Kd.R_drewN | apply Kd.R_drew)); exact HO_12.out)) k_ hk)); (case aO => exact (by (with_reducible repeat (first | apply Kd.R_alloc | apply Kd.R_drewN | apply Kd.R_drew)); exact Kd.R_mono HO438.out (fun _ hk => hk.2))); (case aS => exact (below_size (by repeat (first | (with_reducible first | exact HB.out | apply below_alloc | apply pw_below_drewN | apply below_drew1 | refine below_set ?_ GE419.out) | exact HB.out)))); (case aL => have := LMc42.out; omega); intro v440 w45 ho hb hg hat; rw [← Ny439.out] at ho; have n0_ := Aside0.mk (Kd.R_after (ok := (fun _ => True)) (by (with_reducible repeat (first | apply Kd.R_alloc | apply Kd.R_drewN | apply Kd.R_drew)); exact HO_12.out) hg hat); have n1_ := Aside0.mk (Kd.N_afterv (ok := (fun k_ => some k_ ≠ (.slice Ao46 y429.length co46 : Value).ownBlock ∧ k_ ≠ gb419)) (by (with_reducible repeat (first | apply Kd.N_alloc | apply Kd.N_drewN | apply Kd.N_drew)); exact HO_13.out) hg hat); have n2_ := Aside0.mk (Kd.V_afterv (ok := (fun k_ => some k_ ≠ (.slice Ao46 y429.length co46 : Value).ownBlock ∧ some k_ ≠ (v433 : Value).ownBlock ∧ k_ ≠ gb419)) (by (with_reducible repeat (first | apply Kd.V_alloc | apply Kd.V_drewN | apply Kd.V_drew)); exact HO_420001.out) hg hat); have n3_ := Aside0.mk (blk_grown (g := gb419) (o := .cells #[.int .i64 t412, .slice Ao20 t413.length co20] 28 (0, 0)) (by (with_reducible repeat (first | refine blk_drewN ?_ _ | refine blk_drew ?_ | refine blk_alloc ?_ _)); exact BK419.out) hg (Kd.R_ne HO438.out BK419.out (by decide))); have n4_ := Aside0.mk (hb); have n5_ := Aside0.mk (ho); clear HO_12; clear HO_13; clear HO_420001; clear BK419; clear HB; clear HO438; have HO_12 := n0_; have HO_13 := n1_; have HO_420001 := n2_; have BK419 := n3_; have HB := n4_; have HO441 := n5_; clear n0_ n1_ n2_ n3_ n4_ n5_; clear ho hb hg hat))
         go_loopg [15] kj15 (fun kq v15 w' => ∃ (x14_3 : List Bool) (x15_3 : Int), v15 = .int .i64 x15_3 ∧ Aside0 (proofmarklaw17_CnfOnly.l0 kq l3 t410 y429 t432 x14_3 x15_3 t412 t413 = some r) ∧ Aside0 (kq ≤ kj15) ∧ Aside0 (Kd.R Kd.bool 4 w' w.heap.size (fun k_ => some k_ ≠ (v440 : Value).ownBlock) (.slice Ao46 y429.length co46) y429) ∧ Aside0 (Kd.N (Kd.slice 3 (Kd.int .i64)) 29 w' w.heap.size (fun k_ => some k_ ≠ ((.slice Ao46 y429.length co46) : Value).ownBlock ∧ some k_ ≠ (v440 : Value).ownBlock ∧ k_ ≠ gb419) v433 t432) ∧ Aside0 (Kd.R Kd.bool 4 w' w.heap.size (fun k_ => some k_ ≠ ((.slice Ao46 y429.length co46) : Value).ownBlock) v440 x14_3) ∧ Aside0 (Kd.V k49 49 w' w.heap.size (fun k_ => some k_ ≠ ((.slice Ao46 y429.length co46) : Value).ownBlock ∧ some k_ ≠ (v433 : Value).ownBlock ∧ some k_ ≠ (v440 : Value).ownBlock ∧ k_ ≠ gb419) (.slice Ao20 t413.length co20) t413) ∧ Aside0 (w'.heap[gb419]? = some (.cells #[.int .i64 t412, (.slice Ao20 t413.length co20)] 28 (0, 0))) ∧ Aside0 (Below w.heap.size w w'))
         case atStart => exact ⟨(y439), (0), (by first | rfl | (simp; done) | (simp [*]; done)), H', ⟨Nat.le_refl _⟩, ⟨by (with_reducible repeat (first | apply Kd.R_alloc | apply Kd.R_drewN | apply Kd.R_drew)); exact Kd.R_mono HO_12.out (fun _ hk => hk.2)⟩, ⟨by (with_reducible repeat (first | apply Kd.N_alloc | apply Kd.N_drewN | apply Kd.N_drew)); exact Kd.N_mono HO_13.out (fun _ hk => ⟨hk.1.1, ⟨hk.2, hk.1.2⟩⟩)⟩, ⟨by (with_reducible repeat (first | apply Kd.R_alloc | apply Kd.R_drewN | apply Kd.R_drew)); exact HO441.out⟩, ⟨by (with_reducible repeat (first | apply Kd.V_alloc | apply Kd.V_drewN | apply Kd.V_drew)); exact Kd.V_mono HO_420001.out (fun _ hk => ⟨hk.1.1, ⟨hk.1.2.1, ⟨hk.2, hk.1.2.2⟩⟩⟩)⟩, ⟨by (with_reducible repeat (first | refine blk_drewN ?_ _ | refine blk_drew ?_ | refine blk_alloc ?_ _)); exact BK419.out⟩, ⟨by repeat (first | (with_reducible first | exact HB.out | apply below_alloc | apply pw_below_drewN | apply below_drew1 | refine below_set ?_ GE419.out) | exact HB.out)⟩⟩
         case round =>
          clear H'
          try clear c1
          try clear c2
          try clear p2
          try clear c3
          try clear c4
          try clear p6
          try clear c8
          try clear c9
          try clear c10
          try clear c11
          try clear c12
          try clear c14
          try clear c18
          try clear c21
          try clear c22
          try clear c33
          try clear c33b0
          try clear c33b1
          try clear c41
          try clear c42
          try clear hcz19_0
          try clear hcz19_1
          try clear hcz31_0
          try clear hcz31_1
          try clear hcz36_0
          try clear hcz36_1
          try clear hcz40_0
          try clear hcz40_1
          try clear hfz19_0
          try clear hfz19_1
          try clear hfz31_0
          try clear hfz31_1
          try clear hfz36_0
          try clear hfz36_1
          try clear hfz40_0
          try clear hfz40_1
          try clear p2
          try clear p6
          obtain ⟨x14_3, x15_3, rfl, HA, HK3, HO_12, HO_13, HO_14, HO_420001, BK419, HB⟩ := hrel
          cases gk with
          | zero => exact absurd HA.out (by simp [proofmarklaw17_CnfOnly.l0])
          | succ k3 =>
           have H := HA.out
           clear HA
           simp only [proofmarklaw17_CnfOnly.l0] at H
           by_cases c47 : x15_3 < (l3.length : Int)
           ·rw [if_pos c47] at H
            have c47b0 : decide (x15_3 < (l3.length : Int)) = true := decide_eq_true c47
            clear c47
            by_cases c48 : 0 ≤ x15_3
            ·rw [if_pos c48] at H
             have c48b0 : decide (0 ≤ x15_3) = true := decide_eq_true c48
             clear c48
             by_cases c49 : (wrap64 (1 + (t413.length : Int))) = 0
             ·rw [if_pos c49] at H
              exact absurd H (by simp)
             ·rw [if_neg c49] at H
              have c49b0 : ((wrap64 (1 + (t413.length : Int))) == 0) = false := beq_eq_false_iff_ne.mpr c49
              have c49b1 : ((wrap64 (1 + (t413.length : Int))) != 0) = true := bne_iff_ne.mpr c49
              by_cases c50 : (Int.tmod (wrap64 (rd l3 x15_3)) (wrap64 (1 + (t413.length : Int)))) > 0
              ·rw [if_pos c50] at H
               have c50b0 : decide (0 < (Int.tmod (wrap64 (rd l3 x15_3)) (wrap64 (1 + (t413.length : Int))))) = true := decide_eq_true c50
               clear c50
               obtain ⟨ji51, hji51⟩ : ∃ j_ : Int, (wrap64 ((Int.tmod (wrap64 (rd l3 x15_3)) (wrap64 (1 + (t413.length : Int)))) + t412)) = j_ := ⟨_, rfl⟩
               replace H : (if 0 ≤ (ji51) then (if (ji51) < (x14_3.length : Int) then (proofmarklaw17_CnfOnly.l0 k3 l3 t410 y429 t432 (x14_3.set ((ji51) : Int).toNat (!(rdOf false x14_3 (ji51)))) (wrap64 (x15_3 + 1)) t412 t413) else (none)) else (none)) = some r := by first | (rw [hji51] at H; exact H) | (simp only [hji51] at H ⊢; exact H)
               have hji51w : (IntKind.i64.wrap ((Int.tmod (wrap64 (rd l3 x15_3)) (wrap64 (1 + (t413.length : Int)))) + t412)) = ji51 := (i64_w _).trans hji51
               by_cases c52 : 0 ≤ (ji51)
               ·rw [if_pos c52] at H
                have c52b0 : decide (0 ≤ (ji51)) = true := decide_eq_true c52
                clear c52
                by_cases c53 : (ji51) < (x14_3.length : Int)
                ·rw [if_pos c53] at H
                 have c53b0 : decide ((ji51) < (x14_3.length : Int)) = true := decide_eq_true c53
                 clear c53
                 obtain ⟨y444, hy444⟩ : ∃ y_ : List Bool, y_ = (x14_3.set ((ji51) : Int).toNat (!(rdOf false x14_3 (ji51)))) := ⟨_, rfl⟩
                 replace H : (proofmarklaw17_CnfOnly.l0 k3 l3 t410 y429 t432 y444 (wrap64 (x15_3 + 1)) t412 t413) = some r := by first | (rw [hy444]; with_reducible exact H) | (have H2_ := (Option.bind_some _ _).symm.trans H; rw [hy444]; with_reducible exact H2_) | (have H2_ := (Option.bind_some _ _).symm.trans H; with_reducible exact H2_) | with_reducible exact H | (rw [hy444]; exact H) | exact H
                 have Ny444 := Aside0.mk hy444
                 clear hy444
                 have H' := Aside0.mk H
                 clear H
                 try go_wp2
                 have n0_ := Aside0.mk (Kd.R_drew HO_12.out)
                 have n1_ := Aside0.mk (Kd.N_drew HO_13.out)
                 have n2_ := Aside0.mk (Kd.R_drew HO_14.out)
                 have n3_ := Aside0.mk (Kd.V_drew HO_420001.out)
                 have n4_ := Aside0.mk (blk_drew BK419.out)
                 have n5_ := Aside0.mk (below_drew1 HB.out)
                 clear HO_12
                 clear HO_13
                 clear HO_14
                 clear HO_420001
                 clear BK419
                 clear HB
                 have HO_12 := n0_
                 have HO_13 := n1_
                 have HO_14 := n2_
                 have HO_420001 := n3_
                 have BK419 := n4_
                 have HB := n5_
                 clear n0_ n1_ n2_ n3_ n4_ n5_
                 have p442 : 0 ≤ (x15_3 : Int) := of_decide_eq_true (by first | (with_reducible assumption) | assumption)
                 have q442 : x15_3 < (l3.length : Int) := of_decide_eq_true (by first | (with_reducible assumption) | assumption)
                 obtain ⟨ad442, e442, hx442_0⟩ := Kd.at_int HR3.out x15_3 p442 q442
                 have hw442_0 := hx442_0
                 cases e442
                 replace hx442_0 := (HB.out.cell (World.block_lt_of_cell? w _ hx442_0)).trans hx442_0
                 replace p442 := eq_true p442
                 replace q442 := eq_true q442
                 refine start_ (n := 11) (S := fun w' => w'.cell? ⟨gb419, 0, none⟩ = some (.int .i64 t412) ∧ w'.cell? ⟨gb419, 1, none⟩ = some (.slice Ao20 t413.length co20) ∧ w'.cell? (ad442.add (x15_3).toNat) = some (.int .u16 (rd l3 x15_3))) (ds := []) #[false, false, false, false, false, false, false, false, false, false, false] (by kernel_rfl) rfl rfl ⟨(blk_cell BK419.out 0).trans rfl, (blk_cell BK419.out 1).trans rfl, ((HB.out.cell (World.block_lt_of_cell? w _ hw442_0)).trans hw442_0)⟩ (fun hHeld => ?_); refine with_tabW proofmarklaw17_CnfOnly.tab13 proofmarklaw17_CnfOnly.bits13 (fun HT_ HW_ => ?_)
                 generalize wr.drew = w55 at HO_12 HO_13 HO_14 HO_420001 BK419 HB hx442_0 hHeld ⊢
                 refine pure_ (i := 0) (N := some 69) (v := ?_) (a' := ?_) #[true, false, false, false, false, false, false, false, false, false, false] rfl rfl (any_of HT_.out (by kernel_rfl)) (fun _ _ _ h => h) (Or.inl ⟨by rfl, ?_⟩) ?_ ?_
                 rotate_left
                 ·intro w'
                  go_simp
                  with_reducible rfl
                 rotate_left
                 ·simp only [Act.put, List.setIfInBounds_toArray, List.set_cons_zero, List.set_cons_succ, i64_w, i32_w]
                  rfl
                 refine pure_ (i := 1) (N := some 70) (v := ?_) (a' := ?_) #[true, true, false, false, false, false, false, false, false, false, false] rfl rfl (any_of HT_.out (by kernel_rfl)) (fun _ _ _ h => h) (Or.inl ⟨by rfl, ?_⟩) ?_ ?_
                 rotate_left
                 ·intro w'
                  go_simp
                  with_reducible rfl
                 rotate_left
                 ·simp only [Act.put, List.setIfInBounds_toArray, List.set_cons_zero, List.set_cons_succ, i64_w, i32_w]
                  rfl
                 refine pure_ (i := 2) (N := some 71) (v := ?_) (a' := ?_) #[true, true, true, false, false, false, false, false, false, false, false] rfl rfl (any_of HT_.out (by kernel_rfl)) (fun _ _ _ h => h) (Or.inl ⟨by rfl, ?_⟩) ?_ ?_
                 rotate_left
                 ·intro w'
                  go_simp
                  with_reducible rfl
                 rotate_left
                 ·simp only [Act.put, List.setIfInBounds_toArray, List.set_cons_zero, List.set_cons_succ, i64_w, i32_w]
                  rfl
                 refine pure_ (i := 5) (N := some 74) (v := ?_) (a' := ?_) #[true, true, true, false, false, true, false, false, false, false, false] rfl rfl (any_of HT_.out (by kernel_rfl)) (fun _ _ _ h => h) (Or.inl ⟨by rfl, ?_⟩) ?_ ?_
                 rotate_left
                 ·intro w'
                  go_simp
                  with_reducible rfl
                 rotate_left
                 ·simp only [Act.put, List.setIfInBounds_toArray, List.set_cons_zero, List.set_cons_succ, i64_w, i32_w]
                  rfl
                 refine take_ (i := 3) (N := some 72) (v := ?_) (a' := ?_) #[true, true, true, true, false, true, false, false, false, false, false] rfl rfl (take_ofW HT_.out HW_.out (by kernel_rfl)) (fun _ _ _ h => h) (Or.inl ⟨by rfl, ?_⟩) hHeld ?_ ?_
                 rotate_left
                 ·rintro w' ⟨s0, s1, s2⟩
                  go_simp
                  with_reducible rfl
                 rotate_left
                 ·simp only [Act.put, List.setIfInBounds_toArray, List.set_cons_zero, List.set_cons_succ, i64_w, i32_w]
                  rfl
                 refine pure_ (i := 4) (N := some 73) (v := ?_) (a' := ?_) #[true, true, true, true, true, true, false, false, false, false, false] rfl rfl (any_of HT_.out (by kernel_rfl)) (fun _ _ _ h => h) (Or.inl ⟨by rfl, ?_⟩) ?_ ?_
                 rotate_left
                 ·intro w'
                  go_simp
                  with_reducible rfl
                 rotate_left
                 ·simp only [Act.put, List.setIfInBounds_toArray, List.set_cons_zero, List.set_cons_succ, i64_w, i32_w]
                  rfl
                 refine take_ (i := 6) (N := some 75) (v := ?_) (a' := ?_) #[true, true, true, true, true, true, true, false, false, false, false] rfl rfl (take_ofW HT_.out HW_.out (by kernel_rfl)) (fun _ _ _ h => h) (Or.inl ⟨by rfl, ?_⟩) hHeld ?_ ?_
                 rotate_left
                 ·rintro w' ⟨s0, s1, s2⟩
                  go_simp
                  with_reducible rfl
                 rotate_left
                 ·simp only [Act.put, List.setIfInBounds_toArray, List.set_cons_zero, List.set_cons_succ, i64_w, i32_w]
                  rfl
                 refine pure_ (i := 7) (N := some 76) (v := ?_) (a' := ?_) #[true, true, true, true, true, true, true, true, false, false, false] rfl rfl (any_of HT_.out (by kernel_rfl)) (fun _ _ _ h => h) (Or.inl ⟨by rfl, ?_⟩) ?_ ?_
                 rotate_left
                 ·intro w'
                  go_simp
                  with_reducible rfl
                 rotate_left
                 ·simp only [Act.put, List.setIfInBounds_toArray, List.set_cons_zero, List.set_cons_succ, i64_w, i32_w]
                  rfl
                 refine pure_ (i := 8) (N := some 77) (v := ?_) (a' := ?_) #[true, true, true, true, true, true, true, true, true, false, false] rfl rfl (any_of HT_.out (by kernel_rfl)) (fun _ _ _ h => h) (Or.inl ⟨by rfl, ?_⟩) ?_ ?_
                 rotate_left
                 ·intro w'
                  go_simp
                  with_reducible rfl
                 rotate_left
                 ·simp only [Act.put, List.setIfInBounds_toArray, List.set_cons_zero, List.set_cons_succ, i64_w, i32_w]
                  rfl
                 refine pure_ (i := 9) (N := some 78) (v := ?_) (a' := ?_) #[true, true, true, true, true, true, true, true, true, true, false] rfl rfl (any_of HT_.out (by kernel_rfl)) (fun _ _ _ h => h) (Or.inl ⟨by rfl, ?_⟩) ?_ ?_
                 rotate_left
                 ·intro w'
                  go_simp
                  with_reducible rfl
                 rotate_left
                 ·simp only [Act.put, List.setIfInBounds_toArray, List.set_cons_zero, List.set_cons_succ, i64_w, i32_w]
                  rfl
                 refine pure_ (i := 10) (N := some 16) (v := ?_) (a' := ?_) #[true, true, true, true, true, true, true, true, true, true, true] rfl rfl (any_of HT_.out (by kernel_rfl)) (fun _ _ _ h => h) (Or.inl ⟨by rfl, ?_⟩) ?_ ?_
                 rotate_left
                 ·intro w'
                  go_simp
                  with_reducible rfl
                 rotate_left
                 ·simp only [Act.put, List.setIfInBounds_toArray, List.set_cons_zero, List.set_cons_succ, i64_w, i32_w]
                  rfl
                 refine done_ (done_of HT_.out (by kernel_rfl)) ?_
                 have hcz56_0 : w55.cell? ⟨gb419, 0, none⟩ = some (.int .i64 t412) := (blk_cell BK419.out 0).trans rfl
                 have hcz56_1 : w55.cell? ⟨gb419, 1, none⟩ = some (.slice Ao20 t413.length co20) := (blk_cell BK419.out 1).trans rfl
                 have hfz56_0 := blk_frozen BK419.out 0
                 have hfz56_1 := blk_frozen BK419.out 1
                 obtain ⟨Ao57, co57, eo57⟩ := Kd.R_slice HO_14.out
                 subst eo57
                 have p443 : 0 ≤ ((ji51) : Int) := of_decide_eq_true (by first | (with_reducible assumption) | assumption)
                 have q443 : (ji51) < (x14_3.length : Int) := of_decide_eq_true (by first | (with_reducible assumption) | assumption)
                 obtain ⟨ad443, e443, hx443_0⟩ := Kd.at_bool (Kd.R_reads' HO_14.out).2.2 (ji51) p443 q443
                 cases e443
                 replace p443 := eq_true p443
                 replace q443 := eq_true q443
                 have p54 : 0 ≤ ((ji51) : Int) := of_decide_eq_true (by first | (with_reducible assumption) | assumption)
                 have q54 : ((ji51) : Int) < ((x14_3.length : Int) : Int) := of_decide_eq_true (by first | (with_reducible assumption) | assumption)
                 obtain ⟨go54, co54, eo54, gb54, gl54, cl54, HG54⟩ := Kd.R_form HO_14.out (by omega)
                 (first | cases eo54 | (injection eo54 with ea_ en_ ec_; (first | subst ea_ | (injection ea_ with ea_; subst ea_)); subst ec_; clear en_))
                 have GB54 := Aside0.mk gb54
                 have GG54 := Aside0.mk HG54
                 clear gb54 gl54 HG54
                 (first | simp only [add_plain] at hx443_0 | skip)
                 obtain ⟨hx54_0, hf54_0⟩ := Kd.R_celln false HO_14.out ((ji51) : Int) p54 q54
                 replace p54 := eq_true p54
                 replace q54 := eq_true q54
                 obtain ⟨hy58_, hz58_⟩ := Kd.R_celln false HO_14.out ((ji51) : Int) (of_decide_eq_true (by first | (with_reducible assumption) | assumption)) (of_decide_eq_true (by first | (with_reducible assumption) | assumption))
                 have HP58 := Kd.R_putg HO_14.out ((ji51) : Int) (!(rdOf false x14_3 (ji51)))
                 try go_wp2_with (first | ((with_reducible refine gate_store (t := 4) (p := 92) rfl ?_); refine store_event (t := 4) (p := 92) (v := ?vo_w59) (w1 := (w55.setCell ⟨go54, ((ji51) : Int).toNat, none⟩ (.bool (!(rdOf false x14_3 (ji51)))))) ?hg ?ho ?hn ?hr ?_; (case ho => rfl); (case hg => rfl); (case hn => rfl); (case hr => first | (go_simp; done) | (go_simp; rfl)); intro w59 hw; have hg : w55.grownBy w59 (some go54) := (by rw [hw]; exact HP58.2); have hp_ : Kd.R Kd.bool 4 w59 w.heap.size (fun k_ => some k_ ≠ (.slice Ao46 y429.length co46 : Value).ownBlock) (.slice (some ⟨go54, 0, none⟩) x14_3.length co57) y444 := (by rw [hw, Ny444.out]; exact HP58.1); clear HP58; have n0_ := Aside0.mk (Kd.R_after (v := (.slice (some ⟨go54, 0, none⟩) x14_3.length co57)) (v1 := (.slice (some ⟨go54, 0, none⟩) x14_3.length co57)) (ok := (fun _ => True)) (by (with_reducible repeat (first | apply Kd.R_alloc | apply Kd.R_drewN | apply Kd.R_drew)); exact Kd.R_mono HO_12.out (fun _ hk => ⟨trivial, hk⟩)) hg (.inl rfl)); have n1_ := Aside0.mk (Kd.N_afterv (v := (.slice (some ⟨go54, 0, none⟩) x14_3.length co57)) (v1 := (.slice (some ⟨go54, 0, none⟩) x14_3.length co57)) (ok := (fun k_ => some k_ ≠ (.slice Ao46 y429.length co46 : Value).ownBlock ∧ k_ ≠ gb419)) (by (with_reducible repeat (first | apply Kd.N_alloc | apply Kd.N_drewN | apply Kd.N_drew)); exact Kd.N_mono HO_13.out (fun _ hk => ⟨⟨hk.1, hk.2.2⟩, hk.2.1⟩)) hg (.inl rfl)); have n2_ := Aside0.mk (hp_); have n3_ := Aside0.mk (Kd.V_afterv (v := (.slice (some ⟨go54, 0, none⟩) x14_3.length co57)) (v1 := (.slice (some ⟨go54, 0, none⟩) x14_3.length co57)) (ok := (fun k_ => some k_ ≠ (.slice Ao46 y429.length co46 : Value).ownBlock ∧ some k_ ≠ (v433 : Value).ownBlock ∧ k_ ≠ gb419)) (by (with_reducible repeat (first | apply Kd.V_alloc | apply Kd.V_drewN | apply Kd.V_drew)); exact Kd.V_mono HO_420001.out (fun _ hk => ⟨⟨hk.1, ⟨hk.2.1, hk.2.2.2⟩⟩, hk.2.2.1⟩)) hg (.inl rfl)); have n4_ := Aside0.mk (blk_grown (g := gb419) (o := .cells #[.int .i64 t412, .slice Ao20 t413.length co20] 28 (0, 0)) (by (with_reducible repeat (first | refine blk_drewN ?_ _ | refine blk_drew ?_ | refine blk_alloc ?_ _)); exact BK419.out) hg (Kd.R_ne HO_14.out BK419.out (by decide))); have n5_ := Aside0.mk ((by rw [hw]; exact below_set (HB.out) GB54.out : Below w.heap.size w w59)); clear HO_12; clear HO_13; clear HO_14; clear HO_420001; clear BK419; clear HB; have HO_12 := n0_; have HO_13 := n1_; have HO_14 := n2_; have HO_420001 := n3_; have BK419 := n4_; have HB := n5_; clear n0_ n1_ n2_ n3_ n4_ n5_; clear hg hw hp_))
                 go_roundg k3
                 case measure => have := HJ5.out; have := HJ15.out; have := HK3.out; omega
                 case rel => exact ⟨(y444), (wrap64 (x15_3 + 1)), (by first | rfl | (simp; done) | (simp [*]; done)), H', ⟨by have := HJ5.out; have := HJ15.out; have := HK3.out; omega⟩, ⟨by (with_reducible repeat (first | apply Kd.R_alloc | apply Kd.R_drewN | apply Kd.R_drew)); exact Kd.R_mono HO_12.out (fun _ hk => hk.2)⟩, ⟨by (with_reducible repeat (first | apply Kd.N_alloc | apply Kd.N_drewN | apply Kd.N_drew)); exact Kd.N_mono HO_13.out (fun _ hk => ⟨hk.1.1, ⟨hk.2, hk.1.2⟩⟩)⟩, ⟨by (with_reducible repeat (first | apply Kd.R_alloc | apply Kd.R_drewN | apply Kd.R_drew)); exact HO_14.out⟩, ⟨by (with_reducible repeat (first | apply Kd.V_alloc | apply Kd.V_drewN | apply Kd.V_drew)); exact Kd.V_mono HO_420001.out (fun _ hk => ⟨hk.1.1, ⟨hk.1.2.1, ⟨hk.2, hk.1.2.2⟩⟩⟩)⟩, ⟨by (with_reducible repeat (first | refine blk_drewN ?_ _ | refine blk_drew ?_ | refine blk_alloc ?_ _)); exact BK419.out⟩, ⟨by repeat (first | (with_reducible first | exact HB.out | apply below_alloc | apply pw_below_drewN | apply below_drew1 | refine below_set ?_ GE419.out) | exact HB.out)⟩⟩
                ·rw [if_neg c53] at H
                 exact absurd H (by simp)
               ·rw [if_neg c52] at H
                exact absurd H (by simp)
              ·rw [if_neg c50] at H
               have c50b0 : decide (0 < (Int.tmod (wrap64 (rd l3 x15_3)) (wrap64 (1 + (t413.length : Int))))) = false := decide_eq_false c50
               clear c50
               obtain ⟨ji60, hji60⟩ : ∃ j_ : Int, (Int.tmod (wrap64 (rd l3 x15_3)) (wrap64 (1 + (t413.length : Int)))) = j_ := ⟨_, rfl⟩
               replace H : (if 0 ≤ (ji60) then (if (ji60) < (x14_3.length : Int) then (proofmarklaw17_CnfOnly.l0 k3 l3 t410 y429 t432 (x14_3.set ((ji60) : Int).toNat (!(rdOf false x14_3 (ji60)))) (wrap64 (x15_3 + 1)) t412 t413) else (none)) else (none)) = some r := by first | (rw [hji60] at H; exact H) | (simp only [hji60] at H ⊢; exact H)
               (try rw [hji60] at c50b0)
               by_cases c61 : 0 ≤ (ji60)
               ·rw [if_pos c61] at H
                have c61b0 : decide (0 ≤ (ji60)) = true := decide_eq_true c61
                clear c61
                by_cases c62 : (ji60) < (x14_3.length : Int)
                ·rw [if_pos c62] at H
                 have c62b0 : decide ((ji60) < (x14_3.length : Int)) = true := decide_eq_true c62
                 clear c62
                 obtain ⟨y446, hy446⟩ : ∃ y_ : List Bool, y_ = (x14_3.set ((ji60) : Int).toNat (!(rdOf false x14_3 (ji60)))) := ⟨_, rfl⟩
                 replace H : (proofmarklaw17_CnfOnly.l0 k3 l3 t410 y429 t432 y446 (wrap64 (x15_3 + 1)) t412 t413) = some r := by first | (rw [hy446]; with_reducible exact H) | (have H2_ := (Option.bind_some _ _).symm.trans H; rw [hy446]; with_reducible exact H2_) | (have H2_ := (Option.bind_some _ _).symm.trans H; with_reducible exact H2_) | with_reducible exact H | (rw [hy446]; exact H) | exact H
                 have Ny446 := Aside0.mk hy446
                 clear hy446
                 have H' := Aside0.mk H
                 clear H
                 try go_wp2
                 have n0_ := Aside0.mk (Kd.R_drew HO_12.out)
                 have n1_ := Aside0.mk (Kd.N_drew HO_13.out)
                 have n2_ := Aside0.mk (Kd.R_drew HO_14.out)
                 have n3_ := Aside0.mk (Kd.V_drew HO_420001.out)
                 have n4_ := Aside0.mk (blk_drew BK419.out)
                 have n5_ := Aside0.mk (below_drew1 HB.out)
                 clear HO_12
                 clear HO_13
                 clear HO_14
                 clear HO_420001
                 clear BK419
                 clear HB
                 have HO_12 := n0_
                 have HO_13 := n1_
                 have HO_14 := n2_
                 have HO_420001 := n3_
                 have BK419 := n4_
                 have HB := n5_
                 clear n0_ n1_ n2_ n3_ n4_ n5_
                 have p442 : 0 ≤ (x15_3 : Int) := of_decide_eq_true (by first | (with_reducible assumption) | assumption)
                 have q442 : x15_3 < (l3.length : Int) := of_decide_eq_true (by first | (with_reducible assumption) | assumption)
                 obtain ⟨ad442, e442, hx442_0⟩ := Kd.at_int HR3.out x15_3 p442 q442
                 have hw442_0 := hx442_0
                 cases e442
                 replace hx442_0 := (HB.out.cell (World.block_lt_of_cell? w _ hx442_0)).trans hx442_0
                 replace p442 := eq_true p442
                 replace q442 := eq_true q442
                 refine start_ (n := 11) (S := fun w' => w'.cell? ⟨gb419, 0, none⟩ = some (.int .i64 t412) ∧ w'.cell? ⟨gb419, 1, none⟩ = some (.slice Ao20 t413.length co20) ∧ w'.cell? (ad442.add (x15_3).toNat) = some (.int .u16 (rd l3 x15_3))) (ds := []) #[false, false, false, false, false, false, false, false, false, false, false] (by kernel_rfl) rfl rfl ⟨(blk_cell BK419.out 0).trans rfl, (blk_cell BK419.out 1).trans rfl, ((HB.out.cell (World.block_lt_of_cell? w _ hw442_0)).trans hw442_0)⟩ (fun hHeld => ?_); refine with_tabW proofmarklaw17_CnfOnly.tab13 proofmarklaw17_CnfOnly.bits13 (fun HT_ HW_ => ?_)
                 generalize wr.drew = w64 at HO_12 HO_13 HO_14 HO_420001 BK419 HB hx442_0 hHeld ⊢
                 refine pure_ (i := 0) (N := some 69) (v := ?_) (a' := ?_) #[true, false, false, false, false, false, false, false, false, false, false] rfl rfl (any_of HT_.out (by kernel_rfl)) (fun _ _ _ h => h) (Or.inl ⟨by rfl, ?_⟩) ?_ ?_
                 rotate_left
                 ·intro w'
                  go_simp
                  with_reducible rfl
                 rotate_left
                 ·simp only [Act.put, List.setIfInBounds_toArray, List.set_cons_zero, List.set_cons_succ, i64_w, i32_w]
                  rfl
                 refine pure_ (i := 1) (N := some 70) (v := ?_) (a' := ?_) #[true, true, false, false, false, false, false, false, false, false, false] rfl rfl (any_of HT_.out (by kernel_rfl)) (fun _ _ _ h => h) (Or.inl ⟨by rfl, ?_⟩) ?_ ?_
                 rotate_left
                 ·intro w'
                  go_simp
                  with_reducible rfl
                 rotate_left
                 ·simp only [Act.put, List.setIfInBounds_toArray, List.set_cons_zero, List.set_cons_succ, i64_w, i32_w]
                  rfl
                 refine pure_ (i := 2) (N := some 71) (v := ?_) (a' := ?_) #[true, true, true, false, false, false, false, false, false, false, false] rfl rfl (any_of HT_.out (by kernel_rfl)) (fun _ _ _ h => h) (Or.inl ⟨by rfl, ?_⟩) ?_ ?_
                 rotate_left
                 ·intro w'
                  go_simp
                  with_reducible rfl
                 rotate_left
                 ·simp only [Act.put, List.setIfInBounds_toArray, List.set_cons_zero, List.set_cons_succ, i64_w, i32_w]
                  rfl
                 refine pure_ (i := 5) (N := some 74) (v := ?_) (a' := ?_) #[true, true, true, false, false, true, false, false, false, false, false] rfl rfl (any_of HT_.out (by kernel_rfl)) (fun _ _ _ h => h) (Or.inl ⟨by rfl, ?_⟩) ?_ ?_
                 rotate_left
                 ·intro w'
                  go_simp
                  with_reducible rfl
                 rotate_left
                 ·simp only [Act.put, List.setIfInBounds_toArray, List.set_cons_zero, List.set_cons_succ, i64_w, i32_w]
                  rfl
                 refine take_ (i := 3) (N := some 72) (v := ?_) (a' := ?_) #[true, true, true, true, false, true, false, false, false, false, false] rfl rfl (take_ofW HT_.out HW_.out (by kernel_rfl)) (fun _ _ _ h => h) (Or.inl ⟨by rfl, ?_⟩) hHeld ?_ ?_
                 rotate_left
                 ·rintro w' ⟨s0, s1, s2⟩
                  go_simp
                  with_reducible rfl
                 rotate_left
                 ·simp only [Act.put, List.setIfInBounds_toArray, List.set_cons_zero, List.set_cons_succ, i64_w, i32_w]
                  rfl
                 refine pure_ (i := 4) (N := some 73) (v := ?_) (a' := ?_) #[true, true, true, true, true, true, false, false, false, false, false] rfl rfl (any_of HT_.out (by kernel_rfl)) (fun _ _ _ h => h) (Or.inl ⟨by rfl, ?_⟩) ?_ ?_
                 rotate_left
                 ·intro w'
                  go_simp
                  with_reducible rfl
                 rotate_left
                 ·simp only [Act.put, List.setIfInBounds_toArray, List.set_cons_zero, List.set_cons_succ, i64_w, i32_w]
                  rfl
                 refine take_ (i := 6) (N := some 75) (v := ?_) (a' := ?_) #[true, true, true, true, true, true, true, false, false, false, false] rfl rfl (take_ofW HT_.out HW_.out (by kernel_rfl)) (fun _ _ _ h => h) (Or.inl ⟨by rfl, ?_⟩) hHeld ?_ ?_
                 rotate_left
                 ·rintro w' ⟨s0, s1, s2⟩
                  go_simp
                  with_reducible rfl
                 rotate_left
                 ·simp only [Act.put, List.setIfInBounds_toArray, List.set_cons_zero, List.set_cons_succ, i64_w, i32_w]
                  rfl
                 refine pure_ (i := 7) (N := some 76) (v := ?_) (a' := ?_) #[true, true, true, true, true, true, true, true, false, false, false] rfl rfl (any_of HT_.out (by kernel_rfl)) (fun _ _ _ h => h) (Or.inl ⟨by rfl, ?_⟩) ?_ ?_
                 rotate_left
                 ·intro w'
                  go_simp
                  with_reducible rfl
                 rotate_left
                 ·simp only [Act.put, List.setIfInBounds_toArray, List.set_cons_zero, List.set_cons_succ, i64_w, i32_w]
                  rfl
                 refine pure_ (i := 8) (N := some 77) (v := ?_) (a' := ?_) #[true, true, true, true, true, true, true, true, true, false, false] rfl rfl (any_of HT_.out (by kernel_rfl)) (fun _ _ _ h => h) (Or.inl ⟨by rfl, ?_⟩) ?_ ?_
                 rotate_left
                 ·intro w'
                  go_simp
                  with_reducible rfl
                 rotate_left
                 ·simp only [Act.put, List.setIfInBounds_toArray, List.set_cons_zero, List.set_cons_succ, i64_w, i32_w]
                  rfl
                 refine pure_ (i := 9) (N := some 78) (v := ?_) (a' := ?_) #[true, true, true, true, true, true, true, true, true, true, false] rfl rfl (any_of HT_.out (by kernel_rfl)) (fun _ _ _ h => h) (Or.inl ⟨by rfl, ?_⟩) ?_ ?_
                 rotate_left
                 ·intro w'
                  go_simp
                  with_reducible rfl
                 rotate_left
                 ·simp only [Act.put, List.setIfInBounds_toArray, List.set_cons_zero, List.set_cons_succ, i64_w, i32_w]
                  rfl
                 refine pure_ (i := 10) (N := some 16) (v := ?_) (a' := ?_) #[true, true, true, true, true, true, true, true, true, true, true] rfl rfl (any_of HT_.out (by kernel_rfl)) (fun _ _ _ h => h) (Or.inl ⟨by rfl, ?_⟩) ?_ ?_
                 rotate_left
                 ·intro w'
                  go_simp
                  with_reducible rfl
                 rotate_left
                 ·simp only [Act.put, List.setIfInBounds_toArray, List.set_cons_zero, List.set_cons_succ, i64_w, i32_w]
                  rfl
                 refine done_ (done_of HT_.out (by kernel_rfl)) ?_
                 obtain ⟨Ao65, co65, eo65⟩ := Kd.R_slice HO_14.out
                 subst eo65
                 have p445 : 0 ≤ ((ji60) : Int) := of_decide_eq_true (by first | (with_reducible assumption) | assumption)
                 have q445 : (ji60) < (x14_3.length : Int) := of_decide_eq_true (by first | (with_reducible assumption) | assumption)
                 obtain ⟨ad445, e445, hx445_0⟩ := Kd.at_bool (Kd.R_reads' HO_14.out).2.2 (ji60) p445 q445
                 cases e445
                 replace p445 := eq_true p445
                 replace q445 := eq_true q445
                 have p63 : 0 ≤ ((ji60) : Int) := of_decide_eq_true (by first | (with_reducible assumption) | assumption)
                 have q63 : ((ji60) : Int) < ((x14_3.length : Int) : Int) := of_decide_eq_true (by first | (with_reducible assumption) | assumption)
                 obtain ⟨go63, co63, eo63, gb63, gl63, cl63, HG63⟩ := Kd.R_form HO_14.out (by omega)
                 (first | cases eo63 | (injection eo63 with ea_ en_ ec_; (first | subst ea_ | (injection ea_ with ea_; subst ea_)); subst ec_; clear en_))
                 have GB63 := Aside0.mk gb63
                 have GG63 := Aside0.mk HG63
                 clear gb63 gl63 HG63
                 (first | simp only [add_plain] at hx445_0 | skip)
                 obtain ⟨hx63_0, hf63_0⟩ := Kd.R_celln false HO_14.out ((ji60) : Int) p63 q63
                 replace p63 := eq_true p63
                 replace q63 := eq_true q63
                 obtain ⟨hy66_, hz66_⟩ := Kd.R_celln false HO_14.out ((ji60) : Int) (of_decide_eq_true (by first | (with_reducible assumption) | assumption)) (of_decide_eq_true (by first | (with_reducible assumption) | assumption))
                 have HP66 := Kd.R_putg HO_14.out ((ji60) : Int) (!(rdOf false x14_3 (ji60)))
                 try go_wp2_with (first | ((with_reducible refine gate_store (t := 4) (p := 92) rfl ?_); refine store_event (t := 4) (p := 92) (v := ?vo_w67) (w1 := (w64.setCell ⟨go63, ((ji60) : Int).toNat, none⟩ (.bool (!(rdOf false x14_3 (ji60)))))) ?hg ?ho ?hn ?hr ?_; (case ho => rfl); (case hg => rfl); (case hn => rfl); (case hr => first | (go_simp; done) | (go_simp; rfl)); intro w67 hw; have hg : w64.grownBy w67 (some go63) := (by rw [hw]; exact HP66.2); have hp_ : Kd.R Kd.bool 4 w67 w.heap.size (fun k_ => some k_ ≠ (.slice Ao46 y429.length co46 : Value).ownBlock) (.slice (some ⟨go63, 0, none⟩) x14_3.length co65) y446 := (by rw [hw, Ny446.out]; exact HP66.1); clear HP66; have n0_ := Aside0.mk (Kd.R_after (v := (.slice (some ⟨go63, 0, none⟩) x14_3.length co65)) (v1 := (.slice (some ⟨go63, 0, none⟩) x14_3.length co65)) (ok := (fun _ => True)) (by (with_reducible repeat (first | apply Kd.R_alloc | apply Kd.R_drewN | apply Kd.R_drew)); exact Kd.R_mono HO_12.out (fun _ hk => ⟨trivial, hk⟩)) hg (.inl rfl)); have n1_ := Aside0.mk (Kd.N_afterv (v := (.slice (some ⟨go63, 0, none⟩) x14_3.length co65)) (v1 := (.slice (some ⟨go63, 0, none⟩) x14_3.length co65)) (ok := (fun k_ => some k_ ≠ (.slice Ao46 y429.length co46 : Value).ownBlock ∧ k_ ≠ gb419)) (by (with_reducible repeat (first | apply Kd.N_alloc | apply Kd.N_drewN | apply Kd.N_drew)); exact Kd.N_mono HO_13.out (fun _ hk => ⟨⟨hk.1, hk.2.2⟩, hk.2.1⟩)) hg (.inl rfl)); have n2_ := Aside0.mk (hp_); have n3_ := Aside0.mk (Kd.V_afterv (v := (.slice (some ⟨go63, 0, none⟩) x14_3.length co65)) (v1 := (.slice (some ⟨go63, 0, none⟩) x14_3.length co65)) (ok := (fun k_ => some k_ ≠ (.slice Ao46 y429.length co46 : Value).ownBlock ∧ some k_ ≠ (v433 : Value).ownBlock ∧ k_ ≠ gb419)) (by (with_reducible repeat (first | apply Kd.V_alloc | apply Kd.V_drewN | apply Kd.V_drew)); exact Kd.V_mono HO_420001.out (fun _ hk => ⟨⟨hk.1, ⟨hk.2.1, hk.2.2.2⟩⟩, hk.2.2.1⟩)) hg (.inl rfl)); have n4_ := Aside0.mk (blk_grown (g := gb419) (o := .cells #[.int .i64 t412, .slice Ao20 t413.length co20] 28 (0, 0)) (by (with_reducible repeat (first | refine blk_drewN ?_ _ | refine blk_drew ?_ | refine blk_alloc ?_ _)); exact BK419.out) hg (Kd.R_ne HO_14.out BK419.out (by decide))); have n5_ := Aside0.mk ((by rw [hw]; exact below_set (HB.out) GB63.out : Below w.heap.size w w67)); clear HO_12; clear HO_13; clear HO_14; clear HO_420001; clear BK419; clear HB; have HO_12 := n0_; have HO_13 := n1_; have HO_14 := n2_; have HO_420001 := n3_; have BK419 := n4_; have HB := n5_; clear n0_ n1_ n2_ n3_ n4_ n5_; clear hg hw hp_))
                 go_roundg k3
                 case measure => have := HJ5.out; have := HJ15.out; have := HK3.out; omega
                 case rel => exact ⟨(y446), (wrap64 (x15_3 + 1)), (by first | rfl | (simp; done) | (simp [*]; done)), H', ⟨by have := HJ5.out; have := HJ15.out; have := HK3.out; omega⟩, ⟨by (with_reducible repeat (first | apply Kd.R_alloc | apply Kd.R_drewN | apply Kd.R_drew)); exact Kd.R_mono HO_12.out (fun _ hk => hk.2)⟩, ⟨by (with_reducible repeat (first | apply Kd.N_alloc | apply Kd.N_drewN | apply Kd.N_drew)); exact Kd.N_mono HO_13.out (fun _ hk => ⟨hk.1.1, ⟨hk.2, hk.1.2⟩⟩)⟩, ⟨by (with_reducible repeat (first | apply Kd.R_alloc | apply Kd.R_drewN | apply Kd.R_drew)); exact HO_14.out⟩, ⟨by (with_reducible repeat (first | apply Kd.V_alloc | apply Kd.V_drewN | apply Kd.V_drew)); exact Kd.V_mono HO_420001.out (fun _ hk => ⟨hk.1.1, ⟨hk.1.2.1, ⟨hk.2, hk.1.2.2⟩⟩⟩)⟩, ⟨by (with_reducible repeat (first | refine blk_drewN ?_ _ | refine blk_drew ?_ | refine blk_alloc ?_ _)); exact BK419.out⟩, ⟨by repeat (first | (with_reducible first | exact HB.out | apply below_alloc | apply pw_below_drewN | apply below_drew1 | refine below_set ?_ GE419.out) | exact HB.out)⟩⟩
                ·rw [if_neg c62] at H
                 exact absurd H (by simp)
               ·rw [if_neg c61] at H
                exact absurd H (by simp)
            ·rw [if_neg c48] at H
             exact absurd H (by simp)
           ·rw [if_neg c47] at H
            have c47b0 : decide (x15_3 < (l3.length : Int)) = false := decide_eq_false c47
            clear c47
            have H' := Aside0.mk H
            clear H
            go_wp2
            go_loopg [17, 18] k3 (fun kq v17 v18 w' => ∃ (x17_4 : Bool) (x18_4 : Int), v17 = .bool x17_4 ∧ v18 = .int .i64 x18_4 ∧ Aside0 (proofmarklaw17_CnfOnly.l1 kq t410 y429 t432 x14_3 x17_4 x18_4 = some r) ∧ Aside0 (kq ≤ k3) ∧ Aside0 (Kd.R Kd.bool 4 w' w.heap.size (fun k_ => some k_ ≠ (v440 : Value).ownBlock) (.slice Ao46 y429.length co46) y429) ∧ Aside0 (Kd.N (Kd.slice 3 (Kd.int .i64)) 29 w' w.heap.size (fun k_ => some k_ ≠ ((.slice Ao46 y429.length co46) : Value).ownBlock ∧ some k_ ≠ (v440 : Value).ownBlock ∧ k_ ≠ gb419) v433 t432) ∧ Aside0 (Kd.R Kd.bool 4 w' w.heap.size (fun k_ => some k_ ≠ ((.slice Ao46 y429.length co46) : Value).ownBlock) v440 x14_3) ∧ Aside0 (Kd.V k49 49 w' w.heap.size (fun k_ => some k_ ≠ ((.slice Ao46 y429.length co46) : Value).ownBlock ∧ some k_ ≠ (v433 : Value).ownBlock ∧ some k_ ≠ (v440 : Value).ownBlock ∧ k_ ≠ gb419) (.slice Ao20 t413.length co20) t413) ∧ Aside0 (w'.heap[gb419]? = some (.cells #[.int .i64 t412, (.slice Ao20 t413.length co20)] 28 (0, 0))) ∧ Aside0 (Below w.heap.size w w'))
            case atStart => exact ⟨(true), (0), (by first | rfl | (simp; done) | (simp [*]; done)), (by first | rfl | (simp; done) | (simp [*]; done)), H', ⟨Nat.le_refl _⟩, ⟨by (with_reducible repeat (first | apply Kd.R_alloc | apply Kd.R_drewN | apply Kd.R_drew)); exact HO_12.out⟩, ⟨by (with_reducible repeat (first | apply Kd.N_alloc | apply Kd.N_drewN | apply Kd.N_drew)); exact HO_13.out⟩, ⟨by (with_reducible repeat (first | apply Kd.R_alloc | apply Kd.R_drewN | apply Kd.R_drew)); exact HO_14.out⟩, ⟨by (with_reducible repeat (first | apply Kd.V_alloc | apply Kd.V_drewN | apply Kd.V_drew)); exact HO_420001.out⟩, ⟨by (with_reducible repeat (first | refine blk_drewN ?_ _ | refine blk_drew ?_ | refine blk_alloc ?_ _)); exact BK419.out⟩, ⟨by repeat (first | (with_reducible first | exact HB.out | apply below_alloc | apply pw_below_drewN | apply below_drew1 | refine below_set ?_ GE419.out) | exact HB.out)⟩⟩
            case round =>
             clear H'
             try clear c1
             try clear c2
             try clear p2
             try clear c3
             try clear c4
             try clear p4
             try clear q4
             try clear hx4
             try clear c5
             try clear p5
             try clear q5
             try clear hx5
             try clear hf5
             try clear c6
             try clear p6
             try clear q6
             try clear hx6
             try clear hf6
             try clear c8
             try clear c9
             try clear c10
             try clear c11
             try clear c12
             try clear c14
             try clear c18
             try clear c21
             try clear c22
             try clear c33
             try clear c33b0
             try clear c33b1
             try clear c41
             try clear c42
             try clear p44
             try clear q44
             try clear hx44
             try clear c47
             try clear c47b0
             try clear c48
             try clear c48b0
             try clear c49
             try clear c49b0
             try clear c49b1
             try clear c50
             try clear c50b0
             try clear c52
             try clear c52b0
             try clear c53
             try clear c53b0
             try clear p54
             try clear q54
             try clear hx54
             try clear hf54
             try clear c61
             try clear c61b0
             try clear c62
             try clear c62b0
             try clear p63
             try clear q63
             try clear hx63
             try clear hf63
             try clear p64
             try clear hcz19_0
             try clear hcz19_1
             try clear hcz31_0
             try clear hcz31_1
             try clear hcz36_0
             try clear hcz36_1
             try clear hcz40_0
             try clear hcz40_1
             try clear hcz56_0
             try clear hcz56_1
             try clear hfz19_0
             try clear hfz19_1
             try clear hfz31_0
             try clear hfz31_1
             try clear hfz36_0
             try clear hfz36_1
             try clear hfz40_0
             try clear hfz40_1
             try clear hfz56_0
             try clear hfz56_1
             try clear hx442_0
             try clear hx443_0
             try clear hx445_0
             try clear hx54_0
             try clear hx63_0
             try clear p2
             try clear p442
             try clear p443
             try clear p445
             try clear p54
             try clear p6
             try clear p63
             try clear q442
             try clear q443
             try clear q445
             try clear q54
             try clear q63
             obtain ⟨x17_4, x18_4, rfl, rfl, HA, HK4, HO_12, HO_13, HO_14, HO_420001, BK419, HB⟩ := hrel
             cases gk with
             | zero => exact absurd HA.out (by simp [proofmarklaw17_CnfOnly.l1])
             | succ k4 =>
              have H := HA.out
              clear HA
              simp only [proofmarklaw17_CnfOnly.l1] at H
              by_cases c68 : x18_4 < (y429.length : Int)
              ·rw [if_pos c68] at H
               have c68b0 : decide (x18_4 < (y429.length : Int)) = true := decide_eq_true c68
               clear c68
               by_cases c69 : x17_4 = true
               ·subst c69
                have H1 : (if 0 ≤ x18_4 then (if x18_4 < (x14_3.length : Int) then (proofmarklaw17_CnfOnly.l1 k4 t410 y429 t432 x14_3 ((rdOf false y429 x18_4) == (rdOf false x14_3 x18_4)) (wrap64 (x18_4 + 1))) else (none)) else (none)) = some r := by rw [if_pos rfl] at H; exact H
                clear H
                have H := H1
                clear H1
                by_cases c70 : 0 ≤ x18_4
                ·rw [if_pos c70] at H
                 have c70b0 : decide (0 ≤ x18_4) = true := decide_eq_true c70
                 clear c70
                 by_cases c71 : x18_4 < (x14_3.length : Int)
                 ·rw [if_pos c71] at H
                  have c71b0 : decide (x18_4 < (x14_3.length : Int)) = true := decide_eq_true c71
                  clear c71
                  have H' := Aside0.mk H
                  clear H
                  try go_wp2
                  have n0_ := Aside0.mk (Kd.R_drew HO_12.out)
                  have n1_ := Aside0.mk (Kd.N_drew HO_13.out)
                  have n2_ := Aside0.mk (Kd.R_drew HO_14.out)
                  have n3_ := Aside0.mk (Kd.V_drew HO_420001.out)
                  have n4_ := Aside0.mk (blk_drew BK419.out)
                  have n5_ := Aside0.mk (below_drew1 HB.out)
                  clear HO_12
                  clear HO_13
                  clear HO_14
                  clear HO_420001
                  clear BK419
                  clear HB
                  have HO_12 := n0_
                  have HO_13 := n1_
                  have HO_14 := n2_
                  have HO_420001 := n3_
                  have BK419 := n4_
                  have HB := n5_
                  clear n0_ n1_ n2_ n3_ n4_ n5_
                  have p447 : 0 ≤ (x18_4 : Int) := of_decide_eq_true (by first | (with_reducible assumption) | assumption)
                  have q447 : x18_4 < (y429.length : Int) := of_decide_eq_true (by first | (with_reducible assumption) | assumption)
                  obtain ⟨ad447, e447, hx447_0⟩ := Kd.at_bool (Kd.R_reads' HO_12.out).2.2 x18_4 p447 q447
                  cases e447
                  replace p447 := eq_true p447
                  replace q447 := eq_true q447
                  obtain ⟨Ao73, co73, eo73⟩ := Kd.R_slice HO_14.out
                  (first | subst eo73 | (injection eo73 with f1_ f2_ f3_; have f4_ := f1_.symm; have f5_ := f3_.symm; clear f1_ f2_ f3_; subst f4_; subst f5_))
                  have p448 : 0 ≤ (x18_4 : Int) := of_decide_eq_true (by first | (with_reducible assumption) | assumption)
                  have q448 : x18_4 < (x14_3.length : Int) := of_decide_eq_true (by first | (with_reducible assumption) | assumption)
                  obtain ⟨ad448, e448, hx448_0⟩ := Kd.at_bool (Kd.R_reads' HO_14.out).2.2 x18_4 p448 q448
                  cases e448
                  replace p448 := eq_true p448
                  replace q448 := eq_true q448
                  refine start_ (n := 13) (S := fun w' => w'.cell? (ad447.add (x18_4).toNat) = some (.bool (rdOf false y429 x18_4)) ∧ w'.cell? (ad448.add (x18_4).toNat) = some (.bool (rdOf false x14_3 x18_4))) (ds := []) #[false, false, false, false, false, false, false, false, false, false, false, false, false] (by kernel_rfl) rfl rfl ⟨hx447_0, hx448_0⟩ (fun hHeld => ?_); refine with_tabW proofmarklaw17_CnfOnly.tab21 proofmarklaw17_CnfOnly.bits21 (fun HT_ HW_ => ?_)
                  generalize wr.drew = w72 at HO_12 HO_13 HO_14 HO_420001 BK419 HB hx447_0 hx448_0 hHeld ⊢
                  refine pure_ (i := 0) (N := some 99) (v := ?_) (a' := ?_) #[true, false, false, false, false, false, false, false, false, false, false, false, false] rfl rfl (any_of HT_.out (by kernel_rfl)) (fun _ _ _ h => h) (Or.inl ⟨by rfl, ?_⟩) ?_ ?_
                  rotate_left
                  ·intro w'
                   go_simp
                   with_reducible rfl
                  rotate_left
                  ·simp only [Act.put, List.setIfInBounds_toArray, List.set_cons_zero, List.set_cons_succ, i64_w, i32_w]
                   rfl
                  refine pure_ (i := 1) (N := some 100) (v := ?_) (a' := ?_) #[true, true, false, false, false, false, false, false, false, false, false, false, false] rfl rfl (any_of HT_.out (by kernel_rfl)) (fun _ _ _ h => h) (Or.inl ⟨by rfl, ?_⟩) ?_ ?_
                  rotate_left
                  ·intro w'
                   go_simp
                   with_reducible rfl
                  rotate_left
                  ·simp only [Act.put, List.setIfInBounds_toArray, List.set_cons_zero, List.set_cons_succ, i64_w, i32_w]
                   rfl
                  refine pure_ (i := 2) (N := some 101) (v := ?_) (a' := ?_) #[true, true, true, false, false, false, false, false, false, false, false, false, false] rfl rfl (any_of HT_.out (by kernel_rfl)) (fun _ _ _ h => h) (Or.inl ⟨by rfl, ?_⟩) ?_ ?_
                  rotate_left
                  ·intro w'
                   go_simp
                   with_reducible rfl
                  rotate_left
                  ·simp only [Act.put, List.setIfInBounds_toArray, List.set_cons_zero, List.set_cons_succ, i64_w, i32_w]
                   rfl
                  refine pure_ (i := 3) (N := some 102) (v := ?_) (a' := ?_) #[true, true, true, true, false, false, false, false, false, false, false, false, false] rfl rfl (any_of HT_.out (by kernel_rfl)) (fun _ _ _ h => h) (Or.inl ⟨by rfl, ?_⟩) ?_ ?_
                  rotate_left
                  ·intro w'
                   go_simp
                   with_reducible rfl
                  rotate_left
                  ·simp only [Act.put, List.setIfInBounds_toArray, List.set_cons_zero, List.set_cons_succ, i64_w, i32_w]
                   rfl
                  refine pure_ (i := 4) (N := some 103) (v := ?_) (a' := ?_) #[true, true, true, true, true, false, false, false, false, false, false, false, false] rfl rfl (any_of HT_.out (by kernel_rfl)) (fun _ _ _ h => h) (Or.inl ⟨by rfl, ?_⟩) ?_ ?_
                  rotate_left
                  ·intro w'
                   go_simp
                   with_reducible rfl
                  rotate_left
                  ·simp only [Act.put, List.setIfInBounds_toArray, List.set_cons_zero, List.set_cons_succ, i64_w, i32_w]
                   rfl
                  refine pure_ (i := 6) (N := some 105) (v := ?_) (a' := ?_) #[true, true, true, true, true, false, true, false, false, false, false, false, false] rfl rfl (any_of HT_.out (by kernel_rfl)) (fun _ _ _ h => h) (Or.inl ⟨by rfl, ?_⟩) ?_ ?_
                  rotate_left
                  ·intro w'
                   go_simp
                   with_reducible rfl
                  rotate_left
                  ·simp only [Act.put, List.setIfInBounds_toArray, List.set_cons_zero, List.set_cons_succ, i64_w, i32_w]
                   rfl
                  refine pure_ (i := 7) (N := some 106) (v := ?_) (a' := ?_) #[true, true, true, true, true, false, true, true, false, false, false, false, false] rfl rfl (any_of HT_.out (by kernel_rfl)) (fun _ _ _ h => h) (Or.inl ⟨by rfl, ?_⟩) ?_ ?_
                  rotate_left
                  ·intro w'
                   go_simp
                   with_reducible rfl
                  rotate_left
                  ·simp only [Act.put, List.setIfInBounds_toArray, List.set_cons_zero, List.set_cons_succ, i64_w, i32_w]
                   rfl
                  refine pure_ (i := 8) (N := some 107) (v := ?_) (a' := ?_) #[true, true, true, true, true, false, true, true, true, false, false, false, false] rfl rfl (any_of HT_.out (by kernel_rfl)) (fun _ _ _ h => h) (Or.inl ⟨by rfl, ?_⟩) ?_ ?_
                  rotate_left
                  ·intro w'
                   go_simp
                   with_reducible rfl
                  rotate_left
                  ·simp only [Act.put, List.setIfInBounds_toArray, List.set_cons_zero, List.set_cons_succ, i64_w, i32_w]
                   rfl
                  refine take_ (i := 5) (N := some 104) (v := ?_) (a' := ?_) #[true, true, true, true, true, true, true, true, true, false, false, false, false] rfl rfl (take_ofW HT_.out HW_.out (by kernel_rfl)) (fun _ _ _ h => h) (Or.inl ⟨by rfl, ?_⟩) hHeld ?_ ?_
                  rotate_left
                  ·rintro w' ⟨s0, s1⟩
                   go_simp
                   with_reducible rfl
                  rotate_left
                  ·simp only [Act.put, List.setIfInBounds_toArray, List.set_cons_zero, List.set_cons_succ, i64_w, i32_w]
                   rfl
                  refine take_ (i := 9) (N := some 108) (v := ?_) (a' := ?_) #[true, true, true, true, true, true, true, true, true, true, false, false, false] rfl rfl (take_ofW HT_.out HW_.out (by kernel_rfl)) (fun _ _ _ h => h) (Or.inl ⟨by rfl, ?_⟩) hHeld ?_ ?_
                  rotate_left
                  ·rintro w' ⟨s0, s1⟩
                   go_simp
                   with_reducible rfl
                  rotate_left
                  ·simp only [Act.put, List.setIfInBounds_toArray, List.set_cons_zero, List.set_cons_succ, i64_w, i32_w]
                   rfl
                  refine pure_ (i := 10) (N := some 109) (v := ?_) (a' := ?_) #[true, true, true, true, true, true, true, true, true, true, true, false, false] rfl rfl (any_of HT_.out (by kernel_rfl)) (fun _ _ _ h => h) (Or.inl ⟨by rfl, ?_⟩) ?_ ?_
                  rotate_left
                  ·intro w'
                   go_simp
                   with_reducible rfl
                  rotate_left
                  ·simp only [Act.put, List.setIfInBounds_toArray, List.set_cons_zero, List.set_cons_succ, i64_w, i32_w]
                   rfl
                  refine pure_ (i := 11) (N := some 110) (v := ?_) (a' := ?_) #[true, true, true, true, true, true, true, true, true, true, true, true, false] rfl rfl (any_of HT_.out (by kernel_rfl)) (fun _ _ _ h => h) (Or.inl ⟨by rfl, ?_⟩) ?_ ?_
                  rotate_left
                  ·intro w'
                   go_simp
                   with_reducible rfl
                  rotate_left
                  ·simp only [Act.put, List.setIfInBounds_toArray, List.set_cons_zero, List.set_cons_succ, i64_w, i32_w]
                   rfl
                  refine pure_ (i := 12) (N := some 17) (v := ?_) (a' := ?_) #[true, true, true, true, true, true, true, true, true, true, true, true, true] rfl rfl (any_of HT_.out (by kernel_rfl)) (fun _ _ _ h => h) (Or.inl ⟨by rfl, ?_⟩) ?_ ?_
                  rotate_left
                  ·intro w'
                   go_simp
                   with_reducible rfl
                  rotate_left
                  ·simp only [Act.put, List.setIfInBounds_toArray, List.set_cons_zero, List.set_cons_succ, i64_w, i32_w]
                   rfl
                  refine done_ (done_of HT_.out (by kernel_rfl)) ?_
                  try go_wp2
                  go_roundg k4
                  case measure => have := HJ5.out; have := HJ15.out; have := HK3.out; have := HK4.out; omega
                  case rel => exact ⟨(((rdOf false y429 x18_4) == (rdOf false x14_3 x18_4))), (wrap64 (x18_4 + 1)), (by first | rfl | (simp; done) | (simp [*]; done)), (by first | rfl | (simp; done) | (simp [*]; done)), H', ⟨by have := HJ5.out; have := HJ15.out; have := HK3.out; have := HK4.out; omega⟩, ⟨by (with_reducible repeat (first | apply Kd.R_alloc | apply Kd.R_drewN | apply Kd.R_drew)); exact HO_12.out⟩, ⟨by (with_reducible repeat (first | apply Kd.N_alloc | apply Kd.N_drewN | apply Kd.N_drew)); exact HO_13.out⟩, ⟨by (with_reducible repeat (first | apply Kd.R_alloc | apply Kd.R_drewN | apply Kd.R_drew)); exact HO_14.out⟩, ⟨by (with_reducible repeat (first | apply Kd.V_alloc | apply Kd.V_drewN | apply Kd.V_drew)); exact HO_420001.out⟩, ⟨by (with_reducible repeat (first | refine blk_drewN ?_ _ | refine blk_drew ?_ | refine blk_alloc ?_ _)); exact BK419.out⟩, ⟨by repeat (first | (with_reducible first | exact HB.out | apply below_alloc | apply pw_below_drewN | apply below_drew1 | refine below_set ?_ GE419.out) | exact HB.out)⟩⟩
                 ·rw [if_neg c71] at H
                  exact absurd H (by simp)
                ·rw [if_neg c70] at H
                 exact absurd H (by simp)
               ·replace c69 := Bool.eq_false_iff.mpr c69
                subst c69
                have H1 : (proofmarklaw17_CnfOnly.l1 k4 t410 y429 t432 x14_3 false (wrap64 (x18_4 + 1))) = some r := by rw [if_neg (show ¬ (false = true) by decide)] at H; exact H
                clear H
                have H := H1
                clear H1
                have H' := Aside0.mk H
                clear H
                try go_wp2
                have n0_ := Aside0.mk (Kd.R_drew HO_12.out)
                have n1_ := Aside0.mk (Kd.N_drew HO_13.out)
                have n2_ := Aside0.mk (Kd.R_drew HO_14.out)
                have n3_ := Aside0.mk (Kd.V_drew HO_420001.out)
                have n4_ := Aside0.mk (blk_drew BK419.out)
                have n5_ := Aside0.mk (below_drew1 HB.out)
                clear HO_12
                clear HO_13
                clear HO_14
                clear HO_420001
                clear BK419
                clear HB
                have HO_12 := n0_
                have HO_13 := n1_
                have HO_14 := n2_
                have HO_420001 := n3_
                have BK419 := n4_
                have HB := n5_
                clear n0_ n1_ n2_ n3_ n4_ n5_
                refine start_ (n := 13) (S := fun w' => True) (ds := []) #[false, false, false, false, false, false, false, false, false, false, false, false, false] (by kernel_rfl) rfl rfl trivial (fun hHeld => ?_); refine with_tabW proofmarklaw17_CnfOnly.tab21 proofmarklaw17_CnfOnly.bits21 (fun HT_ HW_ => ?_)
                generalize wr.drew = w74 at HO_12 HO_13 HO_14 HO_420001 BK419 HB hHeld ⊢
                refine pure_ (i := 0) (N := some 99) (v := ?_) (a' := ?_) #[true, false, false, false, false, false, false, false, false, false, false, false, false] rfl rfl (any_of HT_.out (by kernel_rfl)) (fun _ _ _ h => h) (Or.inl ⟨by rfl, ?_⟩) ?_ ?_
                rotate_left
                ·intro w'
                 go_simp
                 with_reducible rfl
                rotate_left
                ·simp only [Act.put, List.setIfInBounds_toArray, List.set_cons_zero, List.set_cons_succ, i64_w, i32_w]
                 rfl
                refine pure_ (i := 1) (N := some 100) (v := ?_) (a' := ?_) #[true, true, false, false, false, false, false, false, false, false, false, false, false] rfl rfl (any_of HT_.out (by kernel_rfl)) (fun _ _ _ h => h) (Or.inl ⟨by rfl, ?_⟩) ?_ ?_
                rotate_left
                ·intro w'
                 go_simp
                 with_reducible rfl
                rotate_left
                ·simp only [Act.put, List.setIfInBounds_toArray, List.set_cons_zero, List.set_cons_succ, i64_w, i32_w]
                 rfl
                refine pure_ (i := 2) (N := some 101) (v := undef) (a' := ?_) #[true, true, true, false, false, false, false, false, false, false, false, false, false] rfl rfl (any_of HT_.out (by kernel_rfl)) (fun _ _ _ h => h) (Or.inr ⟨by rfl, rfl⟩) ?_ ?_
                rotate_left
                ·simp only [Act.put, List.setIfInBounds_toArray, List.set_cons_zero, List.set_cons_succ, i64_w, i32_w]
                 rfl
                refine pure_ (i := 3) (N := some 102) (v := undef) (a' := ?_) #[true, true, true, true, false, false, false, false, false, false, false, false, false] rfl rfl (any_of HT_.out (by kernel_rfl)) (fun _ _ _ h => h) (Or.inr ⟨by rfl, rfl⟩) ?_ ?_
                rotate_left
                ·simp only [Act.put, List.setIfInBounds_toArray, List.set_cons_zero, List.set_cons_succ, i64_w, i32_w]
                 rfl
                refine pure_ (i := 4) (N := some 103) (v := undef) (a' := ?_) #[true, true, true, true, true, false, false, false, false, false, false, false, false] rfl rfl (any_of HT_.out (by kernel_rfl)) (fun _ _ _ h => h) (Or.inr ⟨by rfl, rfl⟩) ?_ ?_
                rotate_left
                ·simp only [Act.put, List.setIfInBounds_toArray, List.set_cons_zero, List.set_cons_succ, i64_w, i32_w]
                 rfl
                refine pure_ (i := 5) (N := some 104) (v := undef) (a' := ?_) #[true, true, true, true, true, true, false, false, false, false, false, false, false] rfl rfl (any_of HT_.out (by kernel_rfl)) (fun _ _ _ h => h) (Or.inr ⟨by rfl, rfl⟩) ?_ ?_
                rotate_left
                ·simp only [Act.put, List.setIfInBounds_toArray, List.set_cons_zero, List.set_cons_succ, i64_w, i32_w]
                 rfl
                refine pure_ (i := 6) (N := some 105) (v := undef) (a' := ?_) #[true, true, true, true, true, true, true, false, false, false, false, false, false] rfl rfl (any_of HT_.out (by kernel_rfl)) (fun _ _ _ h => h) (Or.inr ⟨by rfl, rfl⟩) ?_ ?_
                rotate_left
                ·simp only [Act.put, List.setIfInBounds_toArray, List.set_cons_zero, List.set_cons_succ, i64_w, i32_w]
                 rfl
                refine pure_ (i := 7) (N := some 106) (v := undef) (a' := ?_) #[true, true, true, true, true, true, true, true, false, false, false, false, false] rfl rfl (any_of HT_.out (by kernel_rfl)) (fun _ _ _ h => h) (Or.inr ⟨by rfl, rfl⟩) ?_ ?_
                rotate_left
                ·simp only [Act.put, List.setIfInBounds_toArray, List.set_cons_zero, List.set_cons_succ, i64_w, i32_w]
                 rfl
                refine pure_ (i := 8) (N := some 107) (v := undef) (a' := ?_) #[true, true, true, true, true, true, true, true, true, false, false, false, false] rfl rfl (any_of HT_.out (by kernel_rfl)) (fun _ _ _ h => h) (Or.inr ⟨by rfl, rfl⟩) ?_ ?_
                rotate_left
                ·simp only [Act.put, List.setIfInBounds_toArray, List.set_cons_zero, List.set_cons_succ, i64_w, i32_w]
                 rfl
                refine pure_ (i := 9) (N := some 108) (v := undef) (a' := ?_) #[true, true, true, true, true, true, true, true, true, true, false, false, false] rfl rfl (any_of HT_.out (by kernel_rfl)) (fun _ _ _ h => h) (Or.inr ⟨by rfl, rfl⟩) ?_ ?_
                rotate_left
                ·simp only [Act.put, List.setIfInBounds_toArray, List.set_cons_zero, List.set_cons_succ, i64_w, i32_w]
                 rfl
                refine pure_ (i := 10) (N := some 109) (v := undef) (a' := ?_) #[true, true, true, true, true, true, true, true, true, true, true, false, false] rfl rfl (any_of HT_.out (by kernel_rfl)) (fun _ _ _ h => h) (Or.inr ⟨by rfl, rfl⟩) ?_ ?_
                rotate_left
                ·simp only [Act.put, List.setIfInBounds_toArray, List.set_cons_zero, List.set_cons_succ, i64_w, i32_w]
                 rfl
                refine pure_ (i := 11) (N := some 110) (v := ?_) (a' := ?_) #[true, true, true, true, true, true, true, true, true, true, true, true, false] rfl rfl (any_of HT_.out (by kernel_rfl)) (fun _ _ _ h => h) (Or.inl ⟨by rfl, ?_⟩) ?_ ?_
                rotate_left
                ·intro w'
                 go_simp
                 with_reducible rfl
                rotate_left
                ·simp only [Act.put, List.setIfInBounds_toArray, List.set_cons_zero, List.set_cons_succ, i64_w, i32_w]
                 rfl
                refine pure_ (i := 12) (N := some 17) (v := ?_) (a' := ?_) #[true, true, true, true, true, true, true, true, true, true, true, true, true] rfl rfl (any_of HT_.out (by kernel_rfl)) (fun _ _ _ h => h) (Or.inl ⟨by rfl, ?_⟩) ?_ ?_
                rotate_left
                ·intro w'
                 go_simp
                 with_reducible rfl
                rotate_left
                ·simp only [Act.put, List.setIfInBounds_toArray, List.set_cons_zero, List.set_cons_succ, i64_w, i32_w]
                 rfl
                refine done_ (done_of HT_.out (by kernel_rfl)) ?_
                try go_wp2
                go_roundg k4
                case measure => have := HJ5.out; have := HJ15.out; have := HK3.out; have := HK4.out; omega
                case rel => exact ⟨(false), (wrap64 (x18_4 + 1)), (by first | rfl | (simp; done) | (simp [*]; done)), (by first | rfl | (simp; done) | (simp [*]; done)), H', ⟨by have := HJ5.out; have := HJ15.out; have := HK3.out; have := HK4.out; omega⟩, ⟨by (with_reducible repeat (first | apply Kd.R_alloc | apply Kd.R_drewN | apply Kd.R_drew)); exact HO_12.out⟩, ⟨by (with_reducible repeat (first | apply Kd.N_alloc | apply Kd.N_drewN | apply Kd.N_drew)); exact HO_13.out⟩, ⟨by (with_reducible repeat (first | apply Kd.R_alloc | apply Kd.R_drewN | apply Kd.R_drew)); exact HO_14.out⟩, ⟨by (with_reducible repeat (first | apply Kd.V_alloc | apply Kd.V_drewN | apply Kd.V_drew)); exact HO_420001.out⟩, ⟨by (with_reducible repeat (first | refine blk_drewN ?_ _ | refine blk_drew ?_ | refine blk_alloc ?_ _)); exact BK419.out⟩, ⟨by repeat (first | (with_reducible first | exact HB.out | apply below_alloc | apply pw_below_drewN | apply below_drew1 | refine below_set ?_ GE419.out) | exact HB.out)⟩⟩
              ·rw [if_neg c68] at H
               have c68b0 : decide (x18_4 < (y429.length : Int)) = false := decide_eq_false c68
               clear c68
               by_cases c75 : t410 = true
               ·subst c75
                have H1 : ((proofmarkref17_Met.f k4 t432 x14_3).bind fun t449 => (some (t449 == x17_4))) = some r := by rw [if_pos rfl] at H; exact H
                clear H
                have H := H1
                clear H1
                replace H := Option.bind_eq_some_iff.mp H
                obtain ⟨t449, A760, H⟩ := H
                replace H : (some (t449 == x17_4)) = some r := H
                have A76 := Aside0.mk A760
                clear A760
                obtain rfl := Option.some.inj H
                obtain ⟨Ao77, co77, eo77⟩ := Kd.N_slice HO_13.out
                subst eo77
                obtain ⟨Ao78, co78, eo78⟩ := Kd.R_slice HO_14.out
                subst eo78
                go_wp2_with (first | (go_at_call 23; (with_reducible refine (proofmarkref17_Met.calls k4 _ _ t432 _ _ x14_3 t449 _ ?side1 ?side2 ?side3 ?side4 A76.out).mono ?_); (case side1 => repeat (first | exact (Kd.N_reads' HO_13.out).2.2 | (with_reducible refine Kd.C_alloc ?_ _) | (with_reducible refine Kd.C_drewN ?_ _) | (with_reducible refine Kd.C_drew ?_))); (case side2 => exact (Kd.N_reads' HO_13.out).2.1); (case side3 => repeat (first | exact (Kd.R_reads' HO_14.out).2.2 | (with_reducible refine Kd.C_alloc ?_ _) | (with_reducible refine Kd.C_drewN ?_ _) | (with_reducible refine Kd.C_drew ?_))); (case side4 => exact (Kd.R_reads' HO_14.out).2.1); rintro e w' ⟨rfl, ⟨nd, rfl⟩⟩))
                go_ret
                exact ⟨by first | rfl | (simp [errW_none, errW_some] <;> rfl) | (simp [*, errW_none, errW_some] <;> rfl), by repeat (first | (with_reducible first | exact HB.out | apply below_alloc | apply pw_below_drewN | apply below_drew1 | refine below_set ?_ GE419.out) | exact HB.out)⟩
               ·replace c75 := Bool.eq_false_iff.mpr c75
                subst c75
                have H1 : (some false) = some r := by rw [if_neg (show ¬ (false = true) by decide)] at H; exact H
                clear H
                have H := H1
                clear H1
                obtain rfl := Option.some.inj H
                go_wp2
                go_ret
                exact ⟨by first | rfl | (simp [errW_none, errW_some] <;> rfl) | (simp [*, errW_none, errW_some] <;> rfl), by repeat (first | (with_reducible first | exact HB.out | apply below_alloc | apply pw_below_drewN | apply below_drew1 | refine below_set ?_ GE419.out) | exact HB.out)⟩
        ·rw [if_neg c42] at H
         exact absurd H (by simp)
    ·rw [if_neg c14] at H
     exact absurd H (by simp)
end Go.Proofs.Ytdfbnlmjnollnaa.Xb
