/- Printed by this session's program xprint.py (over the kit's print): the Go functions named below come to the Lean functions of the same names, whatever the world. -/
import Derived.Test.YtdfbnlmjnollnaaXb0
import Derived.Test.YtdfbnlmjnollnaaXb1
import Derived.Test.YtdfbnlmjnollnaaXb5
import Derived.Test.YtdfbnlmjnollnaaXb6
import Derived.Test.YtdfbnlmjnollnaaXb7
import Derived.Test.YtdfbnlmjnollnaaXb16
import Derived.Test.YtdfbnlmjnollnaaXb21
namespace Go.Proofs.Ytdfbnlmjnollnaa.Xb
open Go.RowKit Go.Proofs.YtdfbnlmjnollnaaW.PrintWords Go.Proofs.YtdfbnlmjnollnaaW.PrintLast Go.Proofs.YtdfbnlmjnollnaaW.PrintMore
attribute [local go_sem] max2_int min2_int max_two min_two max_three min_three max_four min_four   -- for this text's walks alone
set_option linter.unusedVariables false
set_option linter.unusedSimpArgs false

/-! ### proofmarklaw17_CnfApart: function 4 -/
mutual
def proofmarklaw17_CnfApart.j0 : Nat → Bool → Int → List (List Int) → List (List Int) → Bool → Option (Bool)
 | 0, _, _, _, _, _ => none
 | k + 1, x7, x10, x11, x12, x54 => if x54 = true then (some false) else (proofmarklaw17_CnfApart.l0 k x7 x10 x11 x12 0)
def proofmarklaw17_CnfApart.l0 : Nat → Bool → Int → List (List Int) → List (List Int) → Int → Option (Bool)
 | 0, _, _, _, _, _ => none
 | k + 1, x7, x10, x11, x12, x13 => if x13 < (x11.length : Int) then (if 0 ≤ x13 then (if x13 < (x12.length : Int) then (if ((rd_L2 x11 x13).length : Int) = ((rd_L2 x12 x13).length : Int) then (proofmarklaw17_CnfApart.l1 k x7 x10 x11 x12 x13 0) else (some false)) else (none)) else (none)) else (some x7)
def proofmarklaw17_CnfApart.l1 : Nat → Bool → Int → List (List Int) → List (List Int) → Int → Int → Option (Bool)
 | 0, _, _, _, _, _, _ => none
 | k + 1, x7, x10, x11, x12, x13, x14 => if 0 ≤ x13 then (if x13 < (x11.length : Int) then (if x14 < ((rd_L2 x11 x13).length : Int) then (if 0 ≤ x14 then (if (rd (rd_L2 x11 x13) x14) < 0 then (if x13 < (x12.length : Int) then (if x14 < ((rd_L2 x12 x13).length : Int) then (if (rd (rd_L2 x12 x13) x14) = (wrap64 ((rd (rd_L2 x11 x13) x14) - x10)) then (proofmarklaw17_CnfApart.l1 k x7 x10 x11 x12 x13 (wrap64 (x14 + 1))) else (some false)) else (none)) else (none)) else (if x13 < (x12.length : Int) then (if x14 < ((rd_L2 x12 x13).length : Int) then (if (rd (rd_L2 x12 x13) x14) = (wrap64 ((rd (rd_L2 x11 x13) x14) + x10)) then (proofmarklaw17_CnfApart.l1 k x7 x10 x11 x12 x13 (wrap64 (x14 + 1))) else (some false)) else (none)) else (none))) else (none)) else (proofmarklaw17_CnfApart.l0 k x7 x10 x11 x12 (wrap64 (x13 + 1)))) else (none)) else (none)
end
def proofmarklaw17_CnfApart.f (k : Nat) (a0 : Int) (l1 : List (S53)) (a2 : Int) : Option (Bool) := (proofmarklaw17_head.f k).bind fun t295 => ((proofmarklaw13_Great.f l1).bind fun t296 => (if t296 = true then (some t295) else ((proofmarklaw13_Made.f k a0 l1).bind fun bt297 => ((cnf_Clauses.f bt297.1 bt297.2.1 0).bind fun t305 => ((cnf_Clauses.f bt297.1 bt297.2.1 (wrap64 (a2))).bind fun t308 => (if (t305.length : Int) = (t308.length : Int) then ((cnf_Vars.f bt297.1 bt297.2.1).bind fun t311 => ((proofmarklaw17_within.f k t308 (wrap64 (a2)) (wrap64 ((wrap64 (a2)) + t311))).bind fun t312 => (if t312 = true then ((cnf_Vars.f bt297.1 bt297.2.1).bind fun t311 => ((proofmarklaw17_within.f k t305 0 t311).bind fun t313 => (proofmarklaw17_CnfApart.j0 k t295 (wrap64 (a2)) t305 t308 (!t313)))) else (proofmarklaw17_CnfApart.j0 k t295 (wrap64 (a2)) t305 t308 true)))) else (proofmarklaw17_CnfApart.j0 k t295 (wrap64 (a2)) t305 t308 true)))))))
theorem proofmarklaw17_CnfApart.mono_l : ∀ k, (∀ y0 y1 y2 y3 y4, LeO (proofmarklaw17_CnfApart.j0 k y0 y1 y2 y3 y4) (proofmarklaw17_CnfApart.j0 (k + 1) y0 y1 y2 y3 y4)) ∧ (∀ y0 y1 y2 y3 y4, LeO (proofmarklaw17_CnfApart.l0 k y0 y1 y2 y3 y4) (proofmarklaw17_CnfApart.l0 (k + 1) y0 y1 y2 y3 y4)) ∧ (∀ y0 y1 y2 y3 y4 y5, LeO (proofmarklaw17_CnfApart.l1 k y0 y1 y2 y3 y4 y5) (proofmarklaw17_CnfApart.l1 (k + 1) y0 y1 y2 y3 y4 y5))
 | 0 => ⟨fun _ _ _ _ _ r h => by simp [proofmarklaw17_CnfApart.j0] at h, fun _ _ _ _ _ r h => by simp [proofmarklaw17_CnfApart.l0] at h, fun _ _ _ _ _ _ r h => by simp [proofmarklaw17_CnfApart.l1] at h⟩
 | k + 1 => by
  obtain ⟨ih0, ih1, ih2⟩ := proofmarklaw17_CnfApart.mono_l k
  refine ⟨?_, ?_, ?_⟩
  ·intro y0 y1 y2 y3 y4
   unfold proofmarklaw17_CnfApart.j0
   repeat' first
   | (with_reducible exact ih0 _ _ _ _ _)
   | (with_reducible exact ih1 _ _ _ _ _)
   | (with_reducible exact ih2 _ _ _ _ _ _)
   | (with_reducible exact proofmarklaw13_Made.mono _ _ _)
   | (with_reducible exact proofmarklaw17_head.mono _)
   | (with_reducible exact proofmarklaw17_within.mono _ _ _ _)
   | (with_reducible exact LeO.refl _)
   | (with_reducible exact LeO.none _)
   | (with_reducible refine LeO.ite ?_ ?_)
   | (with_reducible refine LeO.bind ?_ (fun _ => ?_))
   | exact ih0 _ _ _ _ _
   | exact ih1 _ _ _ _ _
   | exact ih2 _ _ _ _ _ _
   | exact proofmarklaw13_Made.mono _ _ _
   | exact proofmarklaw17_head.mono _
   | exact proofmarklaw17_within.mono _ _ _ _
   | exact LeO.none _
   | refine LeO.ite ?_ ?_
   | refine LeO.bind ?_ (fun _ => ?_)
  ·intro y0 y1 y2 y3 y4
   unfold proofmarklaw17_CnfApart.l0
   repeat' first
   | (with_reducible exact ih0 _ _ _ _ _)
   | (with_reducible exact ih1 _ _ _ _ _)
   | (with_reducible exact ih2 _ _ _ _ _ _)
   | (with_reducible exact proofmarklaw13_Made.mono _ _ _)
   | (with_reducible exact proofmarklaw17_head.mono _)
   | (with_reducible exact proofmarklaw17_within.mono _ _ _ _)
   | (with_reducible exact LeO.refl _)
   | (with_reducible exact LeO.none _)
   | (with_reducible refine LeO.ite ?_ ?_)
   | (with_reducible refine LeO.bind ?_ (fun _ => ?_))
   | exact ih0 _ _ _ _ _
   | exact ih1 _ _ _ _ _
   | exact ih2 _ _ _ _ _ _
   | exact proofmarklaw13_Made.mono _ _ _
   | exact proofmarklaw17_head.mono _
   | exact proofmarklaw17_within.mono _ _ _ _
   | exact LeO.none _
   | refine LeO.ite ?_ ?_
   | refine LeO.bind ?_ (fun _ => ?_)
  ·intro y0 y1 y2 y3 y4 y5
   unfold proofmarklaw17_CnfApart.l1
   repeat' first
   | (with_reducible exact ih0 _ _ _ _ _)
   | (with_reducible exact ih1 _ _ _ _ _)
   | (with_reducible exact ih2 _ _ _ _ _ _)
   | (with_reducible exact proofmarklaw13_Made.mono _ _ _)
   | (with_reducible exact proofmarklaw17_head.mono _)
   | (with_reducible exact proofmarklaw17_within.mono _ _ _ _)
   | (with_reducible exact LeO.refl _)
   | (with_reducible exact LeO.none _)
   | (with_reducible refine LeO.ite ?_ ?_)
   | (with_reducible refine LeO.bind ?_ (fun _ => ?_))
   | exact ih0 _ _ _ _ _
   | exact ih1 _ _ _ _ _
   | exact ih2 _ _ _ _ _ _
   | exact proofmarklaw13_Made.mono _ _ _
   | exact proofmarklaw17_head.mono _
   | exact proofmarklaw17_within.mono _ _ _ _
   | exact LeO.none _
   | refine LeO.ite ?_ ?_
   | refine LeO.bind ?_ (fun _ => ?_)
theorem proofmarklaw17_CnfApart.mono : ∀ a0 a1 a2 k, LeO (proofmarklaw17_CnfApart.f k a0 a1 a2) (proofmarklaw17_CnfApart.f (k + 1) a0 a1 a2) := by
 intro a0 a1 a2 k
 obtain ⟨ih0, ih1, ih2⟩ := proofmarklaw17_CnfApart.mono_l k
 unfold proofmarklaw17_CnfApart.f
 repeat' first
   | (with_reducible exact ih0 _ _ _ _ _)
   | (with_reducible exact ih1 _ _ _ _ _)
   | (with_reducible exact ih2 _ _ _ _ _ _)
   | (with_reducible exact proofmarklaw13_Made.mono _ _ _)
   | (with_reducible exact proofmarklaw17_head.mono _)
   | (with_reducible exact proofmarklaw17_within.mono _ _ _ _)
   | (with_reducible exact LeO.refl _)
   | (with_reducible exact LeO.none _)
   | (with_reducible refine LeO.ite ?_ ?_)
   | (with_reducible refine LeO.bind ?_ (fun _ => ?_))
   | exact ih0 _ _ _ _ _
   | exact ih1 _ _ _ _ _
   | exact ih2 _ _ _ _ _ _
   | exact proofmarklaw13_Made.mono _ _ _
   | exact proofmarklaw17_head.mono _
   | exact proofmarklaw17_within.mono _ _ _ _
   | exact LeO.none _
   | refine LeO.ite ?_ ?_
   | refine LeO.bind ?_ (fun _ => ?_)
set_option maxHeartbeats 8000000 in
set_option maxRecDepth 100000 in
theorem proofmarklaw17_CnfApart.calls (k : Nat) (a0 : Int) (A1 : Option Addr) (c1 : Nat) (l1 : List (S53)) (a2 : Int) (r : Bool) (w : World) (hr1 : Kd.C k53 w A1 l1.length l1) (hc1 : l1.length ≤ c1) (h : proofmarklaw17_CnfApart.f k a0 l1 a2 = some r) :
  Calls Try.prog 4 #[.int .u8 a0, .slice A1 l1.length c1, .int .u16 a2] w fun e w' => e = .returned (.bool r) ∧ Below w.heap.size w w' := by
 have hu28 := Try.underlying28
 have HR1 := Aside0.mk hr1
 have HC1 := Aside0.mk hc1
 clear hr1 hc1
 have HB := Aside0.mk (Below.refl w.heap.size w)
 have H : ((proofmarklaw17_head.f k).bind fun t295 => ((proofmarklaw13_Great.f l1).bind fun t296 => (if t296 = true then (some t295) else ((proofmarklaw13_Made.f k a0 l1).bind fun bt297 => ((cnf_Clauses.f bt297.1 bt297.2.1 0).bind fun t305 => ((cnf_Clauses.f bt297.1 bt297.2.1 (wrap64 (a2))).bind fun t308 => (if (t305.length : Int) = (t308.length : Int) then ((cnf_Vars.f bt297.1 bt297.2.1).bind fun t311 => ((proofmarklaw17_within.f k t308 (wrap64 (a2)) (wrap64 ((wrap64 (a2)) + t311))).bind fun t312 => (if t312 = true then ((cnf_Vars.f bt297.1 bt297.2.1).bind fun t311 => ((proofmarklaw17_within.f k t305 0 t311).bind fun t313 => (proofmarklaw17_CnfApart.j0 k t295 (wrap64 (a2)) t305 t308 (!t313)))) else (proofmarklaw17_CnfApart.j0 k t295 (wrap64 (a2)) t305 t308 true)))) else (proofmarklaw17_CnfApart.j0 k t295 (wrap64 (a2)) t305 t308 true)))))))) = some r := h
 clear h
 replace H := Option.bind_eq_some_iff.mp H
 obtain ⟨t295, A40, H⟩ := H
 replace H : ((proofmarklaw13_Great.f l1).bind fun t296 => (if t296 = true then (some t295) else ((proofmarklaw13_Made.f k a0 l1).bind fun bt297 => ((cnf_Clauses.f bt297.1 bt297.2.1 0).bind fun t305 => ((cnf_Clauses.f bt297.1 bt297.2.1 (wrap64 (a2))).bind fun t308 => (if (t305.length : Int) = (t308.length : Int) then ((cnf_Vars.f bt297.1 bt297.2.1).bind fun t311 => ((proofmarklaw17_within.f k t308 (wrap64 (a2)) (wrap64 ((wrap64 (a2)) + t311))).bind fun t312 => (if t312 = true then ((cnf_Vars.f bt297.1 bt297.2.1).bind fun t311 => ((proofmarklaw17_within.f k t305 0 t311).bind fun t313 => (proofmarklaw17_CnfApart.j0 k t295 (wrap64 (a2)) t305 t308 (!t313)))) else (proofmarklaw17_CnfApart.j0 k t295 (wrap64 (a2)) t305 t308 true)))) else (proofmarklaw17_CnfApart.j0 k t295 (wrap64 (a2)) t305 t308 true))))))) = some r := H
 have A4 := Aside0.mk A40
 clear A40
 replace H := Option.bind_eq_some_iff.mp H
 obtain ⟨t296, A50, H⟩ := H
 replace H : (if t296 = true then (some t295) else ((proofmarklaw13_Made.f k a0 l1).bind fun bt297 => ((cnf_Clauses.f bt297.1 bt297.2.1 0).bind fun t305 => ((cnf_Clauses.f bt297.1 bt297.2.1 (wrap64 (a2))).bind fun t308 => (if (t305.length : Int) = (t308.length : Int) then ((cnf_Vars.f bt297.1 bt297.2.1).bind fun t311 => ((proofmarklaw17_within.f k t308 (wrap64 (a2)) (wrap64 ((wrap64 (a2)) + t311))).bind fun t312 => (if t312 = true then ((cnf_Vars.f bt297.1 bt297.2.1).bind fun t311 => ((proofmarklaw17_within.f k t305 0 t311).bind fun t313 => (proofmarklaw17_CnfApart.j0 k t295 (wrap64 (a2)) t305 t308 (!t313)))) else (proofmarklaw17_CnfApart.j0 k t295 (wrap64 (a2)) t305 t308 true)))) else (proofmarklaw17_CnfApart.j0 k t295 (wrap64 (a2)) t305 t308 true)))))) = some r := H
 have A5 := Aside0.mk A50
 clear A50
 by_cases c6 : t296 = true
 ·subst c6
  have H1 : (some t295) = some r := by rw [if_pos rfl] at H; exact H
  clear H
  have H := H1
  clear H1
  obtain rfl := Option.some.inj H
  go_enter Try.func4, Try.ntmps4
  go_wp2_with (first | (go_at_call 10; (with_reducible refine (proofmarklaw17_head.calls k  t295 _ A4.out).mono ?_); rintro e w7 ⟨rfl, hb⟩; have n0_ := Aside0.mk (below_step (by repeat (first | (with_reducible first | exact HB.out | apply below_alloc | apply pw_below_drewN | apply below_drew1) | exact HB.out)) hb); clear HB; have HB := n0_; clear n0_; (try clear hb); (try clear hb2); (try clear hk); (try clear hi)) | (go_at_call 11; (with_reducible refine (proofmarklaw13_Great.calls _ _ l1 true _ ?side1 ?side2 A5.out).mono ?_); (case side1 => repeat (first | exact (Kd.C_below HR1.out HB.out) | (with_reducible refine Kd.C_alloc ?_ _) | (with_reducible refine Kd.C_drewN ?_ _) | (with_reducible refine Kd.C_drew ?_))); (case side2 => exact HC1.out); rintro e w' ⟨rfl, ⟨nd, rfl⟩⟩; (try first | exact ⟨rfl, _, World.drewN_drewN _ _ _⟩ | exact ⟨rfl, _, Eq.trans (World.drewN_drewN _ _ _) (congrArg (World.drewN _) (Nat.add_assoc _ _ _))⟩)))
  repeat (go_quiet (first | (go_at_call 10; (with_reducible refine (proofmarklaw17_head.calls k  t295 _ A4.out).mono ?_); rintro e w7 ⟨rfl, hb⟩; have n0_ := Aside0.mk (below_step (by repeat (first | (with_reducible first | exact HB.out | apply below_alloc | apply pw_below_drewN | apply below_drew1) | exact HB.out)) hb); clear HB; have HB := n0_; clear n0_; (try clear hb); (try clear hb2); (try clear hk); (try clear hi)) | (go_at_call 11; (with_reducible refine (proofmarklaw13_Great.calls _ _ l1 true _ ?side1 ?side2 A5.out).mono ?_); (case side1 => repeat (first | exact (Kd.C_below HR1.out HB.out) | (with_reducible refine Kd.C_alloc ?_ _) | (with_reducible refine Kd.C_drewN ?_ _) | (with_reducible refine Kd.C_drew ?_))); (case side2 => exact HC1.out); rintro e w' ⟨rfl, ⟨nd, rfl⟩⟩; (try first | exact ⟨rfl, _, World.drewN_drewN _ _ _⟩ | exact ⟨rfl, _, Eq.trans (World.drewN_drewN _ _ _) (congrArg (World.drewN _) (Nat.add_assoc _ _ _))⟩))); try go_wp2_with (first | (go_at_call 10; (with_reducible refine (proofmarklaw17_head.calls k  t295 _ A4.out).mono ?_); rintro e w7 ⟨rfl, hb⟩; have n0_ := Aside0.mk (below_step (by repeat (first | (with_reducible first | exact HB.out | apply below_alloc | apply pw_below_drewN | apply below_drew1) | exact HB.out)) hb); clear HB; have HB := n0_; clear n0_; (try clear hb); (try clear hb2); (try clear hk); (try clear hi)) | (go_at_call 11; (with_reducible refine (proofmarklaw13_Great.calls _ _ l1 true _ ?side1 ?side2 A5.out).mono ?_); (case side1 => repeat (first | exact (Kd.C_below HR1.out HB.out) | (with_reducible refine Kd.C_alloc ?_ _) | (with_reducible refine Kd.C_drewN ?_ _) | (with_reducible refine Kd.C_drew ?_))); (case side2 => exact HC1.out); rintro e w' ⟨rfl, ⟨nd, rfl⟩⟩; (try first | exact ⟨rfl, _, World.drewN_drewN _ _ _⟩ | exact ⟨rfl, _, Eq.trans (World.drewN_drewN _ _ _) (congrArg (World.drewN _) (Nat.add_assoc _ _ _))⟩))))
  go_ret
  exact ⟨by first | rfl | (simp [errW_none, errW_some] <;> rfl) | (simp [*, errW_none, errW_some] <;> rfl), by repeat (first | (with_reducible first | exact HB.out | apply below_alloc | apply pw_below_drewN | apply below_drew1) | exact HB.out)⟩
 ·replace c6 := Bool.eq_false_iff.mpr c6
  subst c6
  have H1 : ((proofmarklaw13_Made.f k a0 l1).bind fun bt297 => ((cnf_Clauses.f bt297.1 bt297.2.1 0).bind fun t305 => ((cnf_Clauses.f bt297.1 bt297.2.1 (wrap64 (a2))).bind fun t308 => (if (t305.length : Int) = (t308.length : Int) then ((cnf_Vars.f bt297.1 bt297.2.1).bind fun t311 => ((proofmarklaw17_within.f k t308 (wrap64 (a2)) (wrap64 ((wrap64 (a2)) + t311))).bind fun t312 => (if t312 = true then ((cnf_Vars.f bt297.1 bt297.2.1).bind fun t311 => ((proofmarklaw17_within.f k t305 0 t311).bind fun t313 => (proofmarklaw17_CnfApart.j0 k t295 (wrap64 (a2)) t305 t308 (!t313)))) else (proofmarklaw17_CnfApart.j0 k t295 (wrap64 (a2)) t305 t308 true)))) else (proofmarklaw17_CnfApart.j0 k t295 (wrap64 (a2)) t305 t308 true))))) = some r := by rw [if_neg (show ¬ (false = true) by decide)] at H; exact H
  clear H
  have H := H1
  clear H1
  replace H := Option.bind_eq_some_iff.mp H
  obtain ⟨⟨t297, t298, t301⟩, A80, H⟩ := H
  replace H : ((cnf_Clauses.f t297 t298 0).bind fun t305 => ((cnf_Clauses.f t297 t298 (wrap64 (a2))).bind fun t308 => (if (t305.length : Int) = (t308.length : Int) then ((cnf_Vars.f t297 t298).bind fun t311 => ((proofmarklaw17_within.f k t308 (wrap64 (a2)) (wrap64 ((wrap64 (a2)) + t311))).bind fun t312 => (if t312 = true then ((cnf_Vars.f t297 t298).bind fun t311 => ((proofmarklaw17_within.f k t305 0 t311).bind fun t313 => (proofmarklaw17_CnfApart.j0 k t295 (wrap64 (a2)) t305 t308 (!t313)))) else (proofmarklaw17_CnfApart.j0 k t295 (wrap64 (a2)) t305 t308 true)))) else (proofmarklaw17_CnfApart.j0 k t295 (wrap64 (a2)) t305 t308 true)))) = some r := H
  have A8 := Aside0.mk A80
  clear A80
  replace H := Option.bind_eq_some_iff.mp H
  obtain ⟨t305, A90, H⟩ := H
  replace H : ((cnf_Clauses.f t297 t298 (wrap64 (a2))).bind fun t308 => (if (t305.length : Int) = (t308.length : Int) then ((cnf_Vars.f t297 t298).bind fun t311 => ((proofmarklaw17_within.f k t308 (wrap64 (a2)) (wrap64 ((wrap64 (a2)) + t311))).bind fun t312 => (if t312 = true then ((cnf_Vars.f t297 t298).bind fun t311 => ((proofmarklaw17_within.f k t305 0 t311).bind fun t313 => (proofmarklaw17_CnfApart.j0 k t295 (wrap64 (a2)) t305 t308 (!t313)))) else (proofmarklaw17_CnfApart.j0 k t295 (wrap64 (a2)) t305 t308 true)))) else (proofmarklaw17_CnfApart.j0 k t295 (wrap64 (a2)) t305 t308 true))) = some r := H
  have A9 := Aside0.mk A90
  clear A90
  replace H := Option.bind_eq_some_iff.mp H
  obtain ⟨t308, A100, H⟩ := H
  replace H : (if (t305.length : Int) = (t308.length : Int) then ((cnf_Vars.f t297 t298).bind fun t311 => ((proofmarklaw17_within.f k t308 (wrap64 (a2)) (wrap64 ((wrap64 (a2)) + t311))).bind fun t312 => (if t312 = true then ((cnf_Vars.f t297 t298).bind fun t311 => ((proofmarklaw17_within.f k t305 0 t311).bind fun t313 => (proofmarklaw17_CnfApart.j0 k t295 (wrap64 (a2)) t305 t308 (!t313)))) else (proofmarklaw17_CnfApart.j0 k t295 (wrap64 (a2)) t305 t308 true)))) else (proofmarklaw17_CnfApart.j0 k t295 (wrap64 (a2)) t305 t308 true)) = some r := H
  have A10 := Aside0.mk A100
  clear A100
  have HC11 := Aside0.mk H
  clear H
  go_enter Try.func4, Try.ntmps4
  go_upto_region 8 with (first | (go_at_call 10; (with_reducible refine (proofmarklaw17_head.calls k  t295 _ A4.out).mono ?_); rintro e w12 ⟨rfl, hb⟩; have n0_ := Aside0.mk (below_step (by repeat (first | (with_reducible first | exact HB.out | apply below_alloc | apply pw_below_drewN | apply below_drew1) | exact HB.out)) hb); clear HB; have HB := n0_; clear n0_; (try clear hb); (try clear hb2); (try clear hk); (try clear hi)) | (go_at_call 11; (with_reducible refine (proofmarklaw13_Great.calls _ _ l1 false _ ?side1 ?side2 A5.out).mono ?_); (case side1 => repeat (first | exact (Kd.C_below HR1.out HB.out) | (with_reducible refine Kd.C_alloc ?_ _) | (with_reducible refine Kd.C_drewN ?_ _) | (with_reducible refine Kd.C_drew ?_))); (case side2 => exact HC1.out); rintro e w' ⟨rfl, ⟨nd, rfl⟩⟩; (try first | exact ⟨rfl, _, World.drewN_drewN _ _ _⟩ | exact ⟨rfl, _, Eq.trans (World.drewN_drewN _ _ _) (congrArg (World.drewN _) (Nat.add_assoc _ _ _))⟩)) | (go_at_call 12; (with_reducible refine (proofmarklaw13_Made.calls k a0 _ _ l1 t297 t298 t301 _ ?side1 ?side2 A8.out).mono ?_); (case side1 => repeat (first | exact (Kd.C_below HR1.out (by repeat (first | (with_reducible first | exact HB.out | apply below_alloc | apply pw_below_drewN | apply below_drew1) | exact HB.out))) | (with_reducible refine Kd.C_alloc ?_ _) | (with_reducible refine Kd.C_drewN ?_ _) | (with_reducible refine Kd.C_drew ?_))); (case side2 => exact HC1.out); rintro e w13 ⟨v299, v302, rfl, ho0, ho1, hb⟩; have n0_ := Aside0.mk (Kd.V_lower (Kd.V_mono (ok' := fun k_ => some k_ ≠ (v302 : Value).ownBlock) ho0 (fun k_ hk_ => hk_.2)) (below_size (by repeat (first | (with_reducible first | exact HB.out | apply below_alloc | apply pw_below_drewN | apply below_drew1) | exact HB.out)))); have n1_ := Aside0.mk (Kd.R_lower (Kd.R_mono (ok' := fun k_ => True) ho1 (fun _ hk_ => trivial)) (below_size (by repeat (first | (with_reducible first | exact HB.out | apply below_alloc | apply pw_below_drewN | apply below_drew1) | exact HB.out)))); have n2_ := Aside0.mk (below_step (by repeat (first | (with_reducible first | exact HB.out | apply below_alloc | apply pw_below_drewN | apply below_drew1) | exact HB.out)) hb); clear HB; have HO300 := n0_; have HO303 := n1_; have HB := n2_; clear n0_ n1_ n2_; (try clear hb); (try clear hb2); (try clear hk); (try clear hi); (try clear ho0); (try clear ho1)) | ((with_reducible refine gate_dst (N := 8) rfl ?_); refine box_event ?hg (N := 8) ?hd (cs := #[.int .i64 0, .slice none 0 0]) (t := 28) ?hr ?_; (case hd => rfl); (case hg => rfl); (case hr => first | (go_simp; done) | (go_simp; rfl)); intro gb304 hg w14 hbox hb; have n0_ := Aside0.mk (Kd.V_below (Kd.V_elderB (by (with_reducible repeat (first | apply Kd.V_alloc | apply Kd.V_drewN | apply Kd.V_drew)); exact HO300.out) gb304 (Nat.le_of_eq hg.symm)) hb); have n1_ := Aside0.mk (Kd.R_below (by (with_reducible repeat (first | apply Kd.R_alloc | apply Kd.R_drewN | apply Kd.R_drew)); exact HO303.out) hb); have n2_ := Aside0.mk (below_step (by repeat (first | (with_reducible first | exact HB.out | apply below_alloc | apply pw_below_drewN | apply below_drew1) | exact HB.out)) hb); have n3_ := Aside0.mk (hbox); have n4_ := Aside0.mk ((by rw [hg]; exact (below_size (by repeat (first | (with_reducible first | exact HB.out | apply below_alloc | apply pw_below_drewN | apply below_drew1) | exact HB.out))) : w.heap.size ≤ gb304)); have n5_ := Aside0.mk ((by rw [hg]; exact (below_size (by repeat (first | (with_reducible first | exact HB.out | apply below_alloc | apply pw_below_drewN | apply below_drew1) | exact HB.out))) : w.heap.size ≤ gb304)); clear HO300; clear HO303; clear HB; have HO300 := n0_; have HO303 := n1_; have HB := n2_; have BK304 := n3_; have GW304 := n4_; have GE304 := n5_; clear n0_ n1_ n2_ n3_ n4_ n5_; clear hb hbox hg; have hcz15_0 : w14.cell? ⟨gb304, 0, none⟩ = some (.int .i64 0) := (blk_cell BK304.out 0).trans rfl; have hcz15_1 : w14.cell? ⟨gb304, 1, none⟩ = some (.slice none 0 0) := (blk_cell BK304.out 1).trans rfl; have hfz15_0 := blk_frozen BK304.out 0; have hfz15_1 := blk_frozen BK304.out 1; obtain ⟨Ao16, co16, eo16⟩ := Kd.V_slice HO300.out; subst eo16) | (go_at_call 18; (with_reducible refine (cnf_Clauses.calls t297 _ _ t298 0 t305 _ ?side1 ?side2 A9.out).mono ?_); (case side1 => refine (Kd.V_reads' (e := 49) (base := w.heap.size) (ok := fun k_ => (some k_ ≠ (v302 : Value).ownBlock ∧ k_ ≠ gb304)) (n := t298.length) (c := co16) ?_).2.2; exact (by (with_reducible repeat (first | apply Kd.V_alloc | apply Kd.V_drewN | apply Kd.V_drew)); exact (Kd.V_mono (Kd.V_far (p := ⟨gb304, 1, none⟩) (Kd.V_far (p := ⟨gb304, 0, none⟩) (Kd.V_mono HO300.out (fun k_ hk => (⟨hk, hk.2⟩ : _ ∧ k_ ≠ gb304))) (fun _ hk => hk.2) (.int .i64 t297)) (fun _ hk => hk.2) (.slice Ao16 t298.length co16)) (fun _ h_ => h_.1)))); (case side2 => exact (Kd.V_reads' HO300.out).2.1); rintro e w17 ⟨v306, rfl, ho0, hb⟩; have n0_ := Aside0.mk (Kd.V_elder' (by (with_reducible repeat (first | apply Kd.V_alloc | apply Kd.V_drewN | apply Kd.V_drew)); exact (Kd.V_mono (Kd.V_far (p := ⟨gb304, 1, none⟩) (Kd.V_far (p := ⟨gb304, 0, none⟩) (Kd.V_mono HO300.out (fun k_ hk => (⟨hk, hk.2⟩ : _ ∧ k_ ≠ gb304))) (fun _ hk => hk.2) (.int .i64 t297)) (fun _ hk => hk.2) (.slice Ao16 t298.length co16)) (fun _ h_ => h_.1))) (Kd.N_base ho0) hb); have n1_ := Aside0.mk (Kd.R_below (by (with_reducible repeat (first | apply Kd.R_alloc | apply Kd.R_drewN | apply Kd.R_drew)); exact (Kd.R_mono (Kd.R_far (p := ⟨gb304, 1, none⟩) (Kd.R_far (p := ⟨gb304, 0, none⟩) (Kd.R_types HO303.out BK304.out (by decide)) (fun _ hk => hk.2) (.int .i64 t297)) (fun _ hk => hk.2) (.slice Ao16 t298.length co16)) (fun _ h_ => h_.1))) hb); have n2_ := Aside0.mk (Kd.N_lower (Kd.N_mono (ok' := fun k_ => some k_ ≠ (v302 : Value).ownBlock ∧ k_ ≠ gb304) ho0 (fun k_ hk_ => ⟨(Kd.fresh' (Kd.R_lt (by (with_reducible repeat (first | apply Kd.R_alloc | apply Kd.R_drewN | apply Kd.R_drew)); exact (Kd.R_mono (Kd.R_far (p := ⟨gb304, 1, none⟩) (Kd.R_far (p := ⟨gb304, 0, none⟩) (Kd.R_types HO303.out BK304.out (by decide)) (fun _ hk => hk.2) (.int .i64 t297)) (fun _ hk => hk.2) (.slice Ao16 t298.length co16)) (fun _ h_ => h_.1)))) k_ hk_), (Kd.freshB (g := gb304) (o := .cells #[.int .i64 t297, .slice Ao16 t298.length co16] 28 (0, 0)) (by (with_reducible repeat (first | refine blk_drewN ?_ _ | refine blk_drew ?_ | refine blk_alloc ?_ _)); refine blk_put (cs := #[.int .i64 t297, .slice none 0 0]) ?_ 1 _ rfl; (with_reducible repeat (first | refine blk_drewN ?_ _ | refine blk_drew ?_ | refine blk_alloc ?_ _)); refine blk_put (cs := #[.int .i64 0, .slice none 0 0]) ?_ 0 _ rfl; (with_reducible repeat (first | refine blk_drewN ?_ _ | refine blk_drew ?_ | refine blk_alloc ?_ _)); exact BK304.out) k_ hk_)⟩)) (below_size (by repeat (first | (with_reducible first | exact HB.out | apply below_alloc | apply pw_below_drewN | apply below_drew1 | refine below_set ?_ GE304.out) | exact HB.out)))); have n3_ := Aside0.mk (blk_below (g := gb304) (o := .cells #[.int .i64 t297, .slice Ao16 t298.length co16] 28 (0, 0)) (by (with_reducible repeat (first | refine blk_drewN ?_ _ | refine blk_drew ?_ | refine blk_alloc ?_ _)); refine blk_put (cs := #[.int .i64 t297, .slice none 0 0]) ?_ 1 _ rfl; (with_reducible repeat (first | refine blk_drewN ?_ _ | refine blk_drew ?_ | refine blk_alloc ?_ _)); refine blk_put (cs := #[.int .i64 0, .slice none 0 0]) ?_ 0 _ rfl; (with_reducible repeat (first | refine blk_drewN ?_ _ | refine blk_drew ?_ | refine blk_alloc ?_ _)); exact BK304.out) hb); have n4_ := Aside0.mk (below_step (by repeat (first | (with_reducible first | exact HB.out | apply below_alloc | apply pw_below_drewN | apply below_drew1 | refine below_set ?_ GE304.out) | exact HB.out)) hb); clear HO300; clear HO303; clear BK304; clear HB; have HO300 := n0_; have HO303 := n1_; have HO307 := n2_; have BK304 := n3_; have HB := n4_; clear n0_ n1_ n2_ n3_ n4_; (try clear hb); (try clear hb2); (try clear hk); (try clear hi); (try clear ho0); have hcz18_0 : w17.cell? ⟨gb304, 0, none⟩ = some (.int .i64 t297) := (blk_cell BK304.out 0).trans rfl; have hcz18_1 : w17.cell? ⟨gb304, 1, none⟩ = some (.slice Ao16 t298.length co16) := (blk_cell BK304.out 1).trans rfl; have hfz18_0 := blk_frozen BK304.out 0; have hfz18_1 := blk_frozen BK304.out 1) | (go_at_call 18; (with_reducible refine (cnf_Clauses.calls t297 _ _ t298 (wrap64 (a2)) t308 _ ?side1 ?side2 A10.out).mono ?_); (case side1 => repeat (first | exact (Kd.V_reads' HO300.out).2.2 | (with_reducible refine Kd.C_alloc ?_ _) | (with_reducible refine Kd.C_drewN ?_ _) | (with_reducible refine Kd.C_drew ?_))); (case side2 => exact (Kd.V_reads' HO300.out).2.1); rintro e w19 ⟨v309, rfl, ho0, hb⟩; have n0_ := Aside0.mk (Kd.V_elder' (by (with_reducible repeat (first | apply Kd.V_alloc | apply Kd.V_drewN | apply Kd.V_drew)); exact HO300.out) (Kd.N_base ho0) hb); have n1_ := Aside0.mk (Kd.R_below (by (with_reducible repeat (first | apply Kd.R_alloc | apply Kd.R_drewN | apply Kd.R_drew)); exact HO303.out) hb); have n2_ := Aside0.mk (Kd.N_elder' (by (with_reducible repeat (first | apply Kd.N_alloc | apply Kd.N_drewN | apply Kd.N_drew)); exact HO307.out) (Kd.N_base ho0) hb); have n3_ := Aside0.mk (Kd.N_lower (Kd.N_mono (ok' := fun k_ => some k_ ≠ (v302 : Value).ownBlock ∧ some k_ ≠ (v306 : Value).ownBlock ∧ k_ ≠ gb304) ho0 (fun k_ hk_ => ⟨(Kd.fresh' (Kd.R_lt (by (with_reducible repeat (first | apply Kd.R_alloc | apply Kd.R_drewN | apply Kd.R_drew)); exact HO303.out)) k_ hk_), (Kd.fresh' (Kd.N_lt (by (with_reducible repeat (first | apply Kd.N_alloc | apply Kd.N_drewN | apply Kd.N_drew)); exact HO307.out)) k_ hk_), (Kd.freshB (g := gb304) (o := .cells #[.int .i64 t297, .slice Ao16 t298.length co16] 28 (0, 0)) (by (with_reducible repeat (first | refine blk_drewN ?_ _ | refine blk_drew ?_ | refine blk_alloc ?_ _)); exact BK304.out) k_ hk_)⟩)) (below_size (by repeat (first | (with_reducible first | exact HB.out | apply below_alloc | apply pw_below_drewN | apply below_drew1 | refine below_set ?_ GE304.out) | exact HB.out)))); have n4_ := Aside0.mk (blk_below (g := gb304) (o := .cells #[.int .i64 t297, .slice Ao16 t298.length co16] 28 (0, 0)) (by (with_reducible repeat (first | refine blk_drewN ?_ _ | refine blk_drew ?_ | refine blk_alloc ?_ _)); exact BK304.out) hb); have n5_ := Aside0.mk (below_step (by repeat (first | (with_reducible first | exact HB.out | apply below_alloc | apply pw_below_drewN | apply below_drew1 | refine below_set ?_ GE304.out) | exact HB.out)) hb); clear HO300; clear HO303; clear HO307; clear BK304; clear HB; have HO300 := n0_; have HO303 := n1_; have HO307 := n2_; have HO310 := n3_; have BK304 := n4_; have HB := n5_; clear n0_ n1_ n2_ n3_ n4_ n5_; (try clear hb); (try clear hb2); (try clear hk); (try clear hi); (try clear ho0)))
  repeat (go_quiet (first | (go_at_call 10; (with_reducible refine (proofmarklaw17_head.calls k  t295 _ A4.out).mono ?_); rintro e w12 ⟨rfl, hb⟩; have n0_ := Aside0.mk (below_step (by repeat (first | (with_reducible first | exact HB.out | apply below_alloc | apply pw_below_drewN | apply below_drew1) | exact HB.out)) hb); clear HB; have HB := n0_; clear n0_; (try clear hb); (try clear hb2); (try clear hk); (try clear hi)) | (go_at_call 11; (with_reducible refine (proofmarklaw13_Great.calls _ _ l1 false _ ?side1 ?side2 A5.out).mono ?_); (case side1 => repeat (first | exact (Kd.C_below HR1.out HB.out) | (with_reducible refine Kd.C_alloc ?_ _) | (with_reducible refine Kd.C_drewN ?_ _) | (with_reducible refine Kd.C_drew ?_))); (case side2 => exact HC1.out); rintro e w' ⟨rfl, ⟨nd, rfl⟩⟩; (try first | exact ⟨rfl, _, World.drewN_drewN _ _ _⟩ | exact ⟨rfl, _, Eq.trans (World.drewN_drewN _ _ _) (congrArg (World.drewN _) (Nat.add_assoc _ _ _))⟩)) | (go_at_call 12; (with_reducible refine (proofmarklaw13_Made.calls k a0 _ _ l1 t297 t298 t301 _ ?side1 ?side2 A8.out).mono ?_); (case side1 => repeat (first | exact (Kd.C_below HR1.out (by repeat (first | (with_reducible first | exact HB.out | apply below_alloc | apply pw_below_drewN | apply below_drew1) | exact HB.out))) | (with_reducible refine Kd.C_alloc ?_ _) | (with_reducible refine Kd.C_drewN ?_ _) | (with_reducible refine Kd.C_drew ?_))); (case side2 => exact HC1.out); rintro e w13 ⟨v299, v302, rfl, ho0, ho1, hb⟩; have n0_ := Aside0.mk (Kd.V_lower (Kd.V_mono (ok' := fun k_ => some k_ ≠ (v302 : Value).ownBlock) ho0 (fun k_ hk_ => hk_.2)) (below_size (by repeat (first | (with_reducible first | exact HB.out | apply below_alloc | apply pw_below_drewN | apply below_drew1) | exact HB.out)))); have n1_ := Aside0.mk (Kd.R_lower (Kd.R_mono (ok' := fun k_ => True) ho1 (fun _ hk_ => trivial)) (below_size (by repeat (first | (with_reducible first | exact HB.out | apply below_alloc | apply pw_below_drewN | apply below_drew1) | exact HB.out)))); have n2_ := Aside0.mk (below_step (by repeat (first | (with_reducible first | exact HB.out | apply below_alloc | apply pw_below_drewN | apply below_drew1) | exact HB.out)) hb); clear HB; have HO300 := n0_; have HO303 := n1_; have HB := n2_; clear n0_ n1_ n2_; (try clear hb); (try clear hb2); (try clear hk); (try clear hi); (try clear ho0); (try clear ho1)) | ((with_reducible refine gate_dst (N := 8) rfl ?_); refine box_event ?hg (N := 8) ?hd (cs := #[.int .i64 0, .slice none 0 0]) (t := 28) ?hr ?_; (case hd => rfl); (case hg => rfl); (case hr => first | (go_simp; done) | (go_simp; rfl)); intro gb304 hg w14 hbox hb; have n0_ := Aside0.mk (Kd.V_below (Kd.V_elderB (by (with_reducible repeat (first | apply Kd.V_alloc | apply Kd.V_drewN | apply Kd.V_drew)); exact HO300.out) gb304 (Nat.le_of_eq hg.symm)) hb); have n1_ := Aside0.mk (Kd.R_below (by (with_reducible repeat (first | apply Kd.R_alloc | apply Kd.R_drewN | apply Kd.R_drew)); exact HO303.out) hb); have n2_ := Aside0.mk (below_step (by repeat (first | (with_reducible first | exact HB.out | apply below_alloc | apply pw_below_drewN | apply below_drew1) | exact HB.out)) hb); have n3_ := Aside0.mk (hbox); have n4_ := Aside0.mk ((by rw [hg]; exact (below_size (by repeat (first | (with_reducible first | exact HB.out | apply below_alloc | apply pw_below_drewN | apply below_drew1) | exact HB.out))) : w.heap.size ≤ gb304)); have n5_ := Aside0.mk ((by rw [hg]; exact (below_size (by repeat (first | (with_reducible first | exact HB.out | apply below_alloc | apply pw_below_drewN | apply below_drew1) | exact HB.out))) : w.heap.size ≤ gb304)); clear HO300; clear HO303; clear HB; have HO300 := n0_; have HO303 := n1_; have HB := n2_; have BK304 := n3_; have GW304 := n4_; have GE304 := n5_; clear n0_ n1_ n2_ n3_ n4_ n5_; clear hb hbox hg; have hcz15_0 : w14.cell? ⟨gb304, 0, none⟩ = some (.int .i64 0) := (blk_cell BK304.out 0).trans rfl; have hcz15_1 : w14.cell? ⟨gb304, 1, none⟩ = some (.slice none 0 0) := (blk_cell BK304.out 1).trans rfl; have hfz15_0 := blk_frozen BK304.out 0; have hfz15_1 := blk_frozen BK304.out 1; obtain ⟨Ao16, co16, eo16⟩ := Kd.V_slice HO300.out; subst eo16) | (go_at_call 18; (with_reducible refine (cnf_Clauses.calls t297 _ _ t298 0 t305 _ ?side1 ?side2 A9.out).mono ?_); (case side1 => refine (Kd.V_reads' (e := 49) (base := w.heap.size) (ok := fun k_ => (some k_ ≠ (v302 : Value).ownBlock ∧ k_ ≠ gb304)) (n := t298.length) (c := co16) ?_).2.2; exact (by (with_reducible repeat (first | apply Kd.V_alloc | apply Kd.V_drewN | apply Kd.V_drew)); exact (Kd.V_mono (Kd.V_far (p := ⟨gb304, 1, none⟩) (Kd.V_far (p := ⟨gb304, 0, none⟩) (Kd.V_mono HO300.out (fun k_ hk => (⟨hk, hk.2⟩ : _ ∧ k_ ≠ gb304))) (fun _ hk => hk.2) (.int .i64 t297)) (fun _ hk => hk.2) (.slice Ao16 t298.length co16)) (fun _ h_ => h_.1)))); (case side2 => exact (Kd.V_reads' HO300.out).2.1); rintro e w17 ⟨v306, rfl, ho0, hb⟩; have n0_ := Aside0.mk (Kd.V_elder' (by (with_reducible repeat (first | apply Kd.V_alloc | apply Kd.V_drewN | apply Kd.V_drew)); exact (Kd.V_mono (Kd.V_far (p := ⟨gb304, 1, none⟩) (Kd.V_far (p := ⟨gb304, 0, none⟩) (Kd.V_mono HO300.out (fun k_ hk => (⟨hk, hk.2⟩ : _ ∧ k_ ≠ gb304))) (fun _ hk => hk.2) (.int .i64 t297)) (fun _ hk => hk.2) (.slice Ao16 t298.length co16)) (fun _ h_ => h_.1))) (Kd.N_base ho0) hb); have n1_ := Aside0.mk (Kd.R_below (by (with_reducible repeat (first | apply Kd.R_alloc | apply Kd.R_drewN | apply Kd.R_drew)); exact (Kd.R_mono (Kd.R_far (p := ⟨gb304, 1, none⟩) (Kd.R_far (p := ⟨gb304, 0, none⟩) (Kd.R_types HO303.out BK304.out (by decide)) (fun _ hk => hk.2) (.int .i64 t297)) (fun _ hk => hk.2) (.slice Ao16 t298.length co16)) (fun _ h_ => h_.1))) hb); have n2_ := Aside0.mk (Kd.N_lower (Kd.N_mono (ok' := fun k_ => some k_ ≠ (v302 : Value).ownBlock ∧ k_ ≠ gb304) ho0 (fun k_ hk_ => ⟨(Kd.fresh' (Kd.R_lt (by (with_reducible repeat (first | apply Kd.R_alloc | apply Kd.R_drewN | apply Kd.R_drew)); exact (Kd.R_mono (Kd.R_far (p := ⟨gb304, 1, none⟩) (Kd.R_far (p := ⟨gb304, 0, none⟩) (Kd.R_types HO303.out BK304.out (by decide)) (fun _ hk => hk.2) (.int .i64 t297)) (fun _ hk => hk.2) (.slice Ao16 t298.length co16)) (fun _ h_ => h_.1)))) k_ hk_), (Kd.freshB (g := gb304) (o := .cells #[.int .i64 t297, .slice Ao16 t298.length co16] 28 (0, 0)) (by (with_reducible repeat (first | refine blk_drewN ?_ _ | refine blk_drew ?_ | refine blk_alloc ?_ _)); refine blk_put (cs := #[.int .i64 t297, .slice none 0 0]) ?_ 1 _ rfl; (with_reducible repeat (first | refine blk_drewN ?_ _ | refine blk_drew ?_ | refine blk_alloc ?_ _)); refine blk_put (cs := #[.int .i64 0, .slice none 0 0]) ?_ 0 _ rfl; (with_reducible repeat (first | refine blk_drewN ?_ _ | refine blk_drew ?_ | refine blk_alloc ?_ _)); exact BK304.out) k_ hk_)⟩)) (below_size (by repeat (first | (with_reducible first | exact HB.out | apply below_alloc | apply pw_below_drewN | apply below_drew1 | refine below_set ?_ GE304.out) | exact HB.out)))); have n3_ := Aside0.mk (blk_below (g := gb304) (o := .cells #[.int .i64 t297, .slice Ao16 t298.length co16] 28 (0, 0)) (by (with_reducible repeat (first | refine blk_drewN ?_ _ | refine blk_drew ?_ | refine blk_alloc ?_ _)); refine blk_put (cs := #[.int .i64 t297, .slice none 0 0]) ?_ 1 _ rfl; (with_reducible repeat (first | refine blk_drewN ?_ _ | refine blk_drew ?_ | refine blk_alloc ?_ _)); refine blk_put (cs := #[.int .i64 0, .slice none 0 0]) ?_ 0 _ rfl; (with_reducible repeat (first | refine blk_drewN ?_ _ | refine blk_drew ?_ | refine blk_alloc ?_ _)); exact BK304.out) hb); have n4_ := Aside0.mk (below_step (by repeat (first | (with_reducible first | exact HB.out | apply below_alloc | apply pw_below_drewN | apply below_drew1 | refine below_set ?_ GE304.out) | exact HB.out)) hb); clear HO300; clear HO303; clear BK304; clear HB; have HO300 := n0_; have HO303 := n1_; have HO307 := n2_; have BK304 := n3_; have HB := n4_; clear n0_ n1_ n2_ n3_ n4_; (try clear hb); (try clear hb2); (try clear hk); (try clear hi); (try clear ho0); have hcz18_0 : w17.cell? ⟨gb304, 0, none⟩ = some (.int .i64 t297) := (blk_cell BK304.out 0).trans rfl; have hcz18_1 : w17.cell? ⟨gb304, 1, none⟩ = some (.slice Ao16 t298.length co16) := (blk_cell BK304.out 1).trans rfl; have hfz18_0 := blk_frozen BK304.out 0; have hfz18_1 := blk_frozen BK304.out 1) | (go_at_call 18; (with_reducible refine (cnf_Clauses.calls t297 _ _ t298 (wrap64 (a2)) t308 _ ?side1 ?side2 A10.out).mono ?_); (case side1 => repeat (first | exact (Kd.V_reads' HO300.out).2.2 | (with_reducible refine Kd.C_alloc ?_ _) | (with_reducible refine Kd.C_drewN ?_ _) | (with_reducible refine Kd.C_drew ?_))); (case side2 => exact (Kd.V_reads' HO300.out).2.1); rintro e w19 ⟨v309, rfl, ho0, hb⟩; have n0_ := Aside0.mk (Kd.V_elder' (by (with_reducible repeat (first | apply Kd.V_alloc | apply Kd.V_drewN | apply Kd.V_drew)); exact HO300.out) (Kd.N_base ho0) hb); have n1_ := Aside0.mk (Kd.R_below (by (with_reducible repeat (first | apply Kd.R_alloc | apply Kd.R_drewN | apply Kd.R_drew)); exact HO303.out) hb); have n2_ := Aside0.mk (Kd.N_elder' (by (with_reducible repeat (first | apply Kd.N_alloc | apply Kd.N_drewN | apply Kd.N_drew)); exact HO307.out) (Kd.N_base ho0) hb); have n3_ := Aside0.mk (Kd.N_lower (Kd.N_mono (ok' := fun k_ => some k_ ≠ (v302 : Value).ownBlock ∧ some k_ ≠ (v306 : Value).ownBlock ∧ k_ ≠ gb304) ho0 (fun k_ hk_ => ⟨(Kd.fresh' (Kd.R_lt (by (with_reducible repeat (first | apply Kd.R_alloc | apply Kd.R_drewN | apply Kd.R_drew)); exact HO303.out)) k_ hk_), (Kd.fresh' (Kd.N_lt (by (with_reducible repeat (first | apply Kd.N_alloc | apply Kd.N_drewN | apply Kd.N_drew)); exact HO307.out)) k_ hk_), (Kd.freshB (g := gb304) (o := .cells #[.int .i64 t297, .slice Ao16 t298.length co16] 28 (0, 0)) (by (with_reducible repeat (first | refine blk_drewN ?_ _ | refine blk_drew ?_ | refine blk_alloc ?_ _)); exact BK304.out) k_ hk_)⟩)) (below_size (by repeat (first | (with_reducible first | exact HB.out | apply below_alloc | apply pw_below_drewN | apply below_drew1 | refine below_set ?_ GE304.out) | exact HB.out)))); have n4_ := Aside0.mk (blk_below (g := gb304) (o := .cells #[.int .i64 t297, .slice Ao16 t298.length co16] 28 (0, 0)) (by (with_reducible repeat (first | refine blk_drewN ?_ _ | refine blk_drew ?_ | refine blk_alloc ?_ _)); exact BK304.out) hb); have n5_ := Aside0.mk (below_step (by repeat (first | (with_reducible first | exact HB.out | apply below_alloc | apply pw_below_drewN | apply below_drew1 | refine below_set ?_ GE304.out) | exact HB.out)) hb); clear HO300; clear HO303; clear HO307; clear BK304; clear HB; have HO300 := n0_; have HO303 := n1_; have HO307 := n2_; have HO310 := n3_; have BK304 := n4_; have HB := n5_; clear n0_ n1_ n2_ n3_ n4_ n5_; (try clear hb); (try clear hb2); (try clear hk); (try clear hi); (try clear ho0))); go_upto_region 8 with (first | (go_at_call 10; (with_reducible refine (proofmarklaw17_head.calls k  t295 _ A4.out).mono ?_); rintro e w12 ⟨rfl, hb⟩; have n0_ := Aside0.mk (below_step (by repeat (first | (with_reducible first | exact HB.out | apply below_alloc | apply pw_below_drewN | apply below_drew1) | exact HB.out)) hb); clear HB; have HB := n0_; clear n0_; (try clear hb); (try clear hb2); (try clear hk); (try clear hi)) | (go_at_call 11; (with_reducible refine (proofmarklaw13_Great.calls _ _ l1 false _ ?side1 ?side2 A5.out).mono ?_); (case side1 => repeat (first | exact (Kd.C_below HR1.out HB.out) | (with_reducible refine Kd.C_alloc ?_ _) | (with_reducible refine Kd.C_drewN ?_ _) | (with_reducible refine Kd.C_drew ?_))); (case side2 => exact HC1.out); rintro e w' ⟨rfl, ⟨nd, rfl⟩⟩; (try first | exact ⟨rfl, _, World.drewN_drewN _ _ _⟩ | exact ⟨rfl, _, Eq.trans (World.drewN_drewN _ _ _) (congrArg (World.drewN _) (Nat.add_assoc _ _ _))⟩)) | (go_at_call 12; (with_reducible refine (proofmarklaw13_Made.calls k a0 _ _ l1 t297 t298 t301 _ ?side1 ?side2 A8.out).mono ?_); (case side1 => repeat (first | exact (Kd.C_below HR1.out (by repeat (first | (with_reducible first | exact HB.out | apply below_alloc | apply pw_below_drewN | apply below_drew1) | exact HB.out))) | (with_reducible refine Kd.C_alloc ?_ _) | (with_reducible refine Kd.C_drewN ?_ _) | (with_reducible refine Kd.C_drew ?_))); (case side2 => exact HC1.out); rintro e w13 ⟨v299, v302, rfl, ho0, ho1, hb⟩; have n0_ := Aside0.mk (Kd.V_lower (Kd.V_mono (ok' := fun k_ => some k_ ≠ (v302 : Value).ownBlock) ho0 (fun k_ hk_ => hk_.2)) (below_size (by repeat (first | (with_reducible first | exact HB.out | apply below_alloc | apply pw_below_drewN | apply below_drew1) | exact HB.out)))); have n1_ := Aside0.mk (Kd.R_lower (Kd.R_mono (ok' := fun k_ => True) ho1 (fun _ hk_ => trivial)) (below_size (by repeat (first | (with_reducible first | exact HB.out | apply below_alloc | apply pw_below_drewN | apply below_drew1) | exact HB.out)))); have n2_ := Aside0.mk (below_step (by repeat (first | (with_reducible first | exact HB.out | apply below_alloc | apply pw_below_drewN | apply below_drew1) | exact HB.out)) hb); clear HB; have HO300 := n0_; have HO303 := n1_; have HB := n2_; clear n0_ n1_ n2_; (try clear hb); (try clear hb2); (try clear hk); (try clear hi); (try clear ho0); (try clear ho1)) | ((with_reducible refine gate_dst (N := 8) rfl ?_); refine box_event ?hg (N := 8) ?hd (cs := #[.int .i64 0, .slice none 0 0]) (t := 28) ?hr ?_; (case hd => rfl); (case hg => rfl); (case hr => first | (go_simp; done) | (go_simp; rfl)); intro gb304 hg w14 hbox hb; have n0_ := Aside0.mk (Kd.V_below (Kd.V_elderB (by (with_reducible repeat (first | apply Kd.V_alloc | apply Kd.V_drewN | apply Kd.V_drew)); exact HO300.out) gb304 (Nat.le_of_eq hg.symm)) hb); have n1_ := Aside0.mk (Kd.R_below (by (with_reducible repeat (first | apply Kd.R_alloc | apply Kd.R_drewN | apply Kd.R_drew)); exact HO303.out) hb); have n2_ := Aside0.mk (below_step (by repeat (first | (with_reducible first | exact HB.out | apply below_alloc | apply pw_below_drewN | apply below_drew1) | exact HB.out)) hb); have n3_ := Aside0.mk (hbox); have n4_ := Aside0.mk ((by rw [hg]; exact (below_size (by repeat (first | (with_reducible first | exact HB.out | apply below_alloc | apply pw_below_drewN | apply below_drew1) | exact HB.out))) : w.heap.size ≤ gb304)); have n5_ := Aside0.mk ((by rw [hg]; exact (below_size (by repeat (first | (with_reducible first | exact HB.out | apply below_alloc | apply pw_below_drewN | apply below_drew1) | exact HB.out))) : w.heap.size ≤ gb304)); clear HO300; clear HO303; clear HB; have HO300 := n0_; have HO303 := n1_; have HB := n2_; have BK304 := n3_; have GW304 := n4_; have GE304 := n5_; clear n0_ n1_ n2_ n3_ n4_ n5_; clear hb hbox hg; have hcz15_0 : w14.cell? ⟨gb304, 0, none⟩ = some (.int .i64 0) := (blk_cell BK304.out 0).trans rfl; have hcz15_1 : w14.cell? ⟨gb304, 1, none⟩ = some (.slice none 0 0) := (blk_cell BK304.out 1).trans rfl; have hfz15_0 := blk_frozen BK304.out 0; have hfz15_1 := blk_frozen BK304.out 1; obtain ⟨Ao16, co16, eo16⟩ := Kd.V_slice HO300.out; subst eo16) | (go_at_call 18; (with_reducible refine (cnf_Clauses.calls t297 _ _ t298 0 t305 _ ?side1 ?side2 A9.out).mono ?_); (case side1 => refine (Kd.V_reads' (e := 49) (base := w.heap.size) (ok := fun k_ => (some k_ ≠ (v302 : Value).ownBlock ∧ k_ ≠ gb304)) (n := t298.length) (c := co16) ?_).2.2; exact (by (with_reducible repeat (first | apply Kd.V_alloc | apply Kd.V_drewN | apply Kd.V_drew)); exact (Kd.V_mono (Kd.V_far (p := ⟨gb304, 1, none⟩) (Kd.V_far (p := ⟨gb304, 0, none⟩) (Kd.V_mono HO300.out (fun k_ hk => (⟨hk, hk.2⟩ : _ ∧ k_ ≠ gb304))) (fun _ hk => hk.2) (.int .i64 t297)) (fun _ hk => hk.2) (.slice Ao16 t298.length co16)) (fun _ h_ => h_.1)))); (case side2 => exact (Kd.V_reads' HO300.out).2.1); rintro e w17 ⟨v306, rfl, ho0, hb⟩; have n0_ := Aside0.mk (Kd.V_elder' (by (with_reducible repeat (first | apply Kd.V_alloc | apply Kd.V_drewN | apply Kd.V_drew)); exact (Kd.V_mono (Kd.V_far (p := ⟨gb304, 1, none⟩) (Kd.V_far (p := ⟨gb304, 0, none⟩) (Kd.V_mono HO300.out (fun k_ hk => (⟨hk, hk.2⟩ : _ ∧ k_ ≠ gb304))) (fun _ hk => hk.2) (.int .i64 t297)) (fun _ hk => hk.2) (.slice Ao16 t298.length co16)) (fun _ h_ => h_.1))) (Kd.N_base ho0) hb); have n1_ := Aside0.mk (Kd.R_below (by (with_reducible repeat (first | apply Kd.R_alloc | apply Kd.R_drewN | apply Kd.R_drew)); exact (Kd.R_mono (Kd.R_far (p := ⟨gb304, 1, none⟩) (Kd.R_far (p := ⟨gb304, 0, none⟩) (Kd.R_types HO303.out BK304.out (by decide)) (fun _ hk => hk.2) (.int .i64 t297)) (fun _ hk => hk.2) (.slice Ao16 t298.length co16)) (fun _ h_ => h_.1))) hb); have n2_ := Aside0.mk (Kd.N_lower (Kd.N_mono (ok' := fun k_ => some k_ ≠ (v302 : Value).ownBlock ∧ k_ ≠ gb304) ho0 (fun k_ hk_ => ⟨(Kd.fresh' (Kd.R_lt (by (with_reducible repeat (first | apply Kd.R_alloc | apply Kd.R_drewN | apply Kd.R_drew)); exact (Kd.R_mono (Kd.R_far (p := ⟨gb304, 1, none⟩) (Kd.R_far (p := ⟨gb304, 0, none⟩) (Kd.R_types HO303.out BK304.out (by decide)) (fun _ hk => hk.2) (.int .i64 t297)) (fun _ hk => hk.2) (.slice Ao16 t298.length co16)) (fun _ h_ => h_.1)))) k_ hk_), (Kd.freshB (g := gb304) (o := .cells #[.int .i64 t297, .slice Ao16 t298.length co16] 28 (0, 0)) (by (with_reducible repeat (first | refine blk_drewN ?_ _ | refine blk_drew ?_ | refine blk_alloc ?_ _)); refine blk_put (cs := #[.int .i64 t297, .slice none 0 0]) ?_ 1 _ rfl; (with_reducible repeat (first | refine blk_drewN ?_ _ | refine blk_drew ?_ | refine blk_alloc ?_ _)); refine blk_put (cs := #[.int .i64 0, .slice none 0 0]) ?_ 0 _ rfl; (with_reducible repeat (first | refine blk_drewN ?_ _ | refine blk_drew ?_ | refine blk_alloc ?_ _)); exact BK304.out) k_ hk_)⟩)) (below_size (by repeat (first | (with_reducible first | exact HB.out | apply below_alloc | apply pw_below_drewN | apply below_drew1 | refine below_set ?_ GE304.out) | exact HB.out)))); have n3_ := Aside0.mk (blk_below (g := gb304) (o := .cells #[.int .i64 t297, .slice Ao16 t298.length co16] 28 (0, 0)) (by (with_reducible repeat (first | refine blk_drewN ?_ _ | refine blk_drew ?_ | refine blk_alloc ?_ _)); refine blk_put (cs := #[.int .i64 t297, .slice none 0 0]) ?_ 1 _ rfl; (with_reducible repeat (first | refine blk_drewN ?_ _ | refine blk_drew ?_ | refine blk_alloc ?_ _)); refine blk_put (cs := #[.int .i64 0, .slice none 0 0]) ?_ 0 _ rfl; (with_reducible repeat (first | refine blk_drewN ?_ _ | refine blk_drew ?_ | refine blk_alloc ?_ _)); exact BK304.out) hb); have n4_ := Aside0.mk (below_step (by repeat (first | (with_reducible first | exact HB.out | apply below_alloc | apply pw_below_drewN | apply below_drew1 | refine below_set ?_ GE304.out) | exact HB.out)) hb); clear HO300; clear HO303; clear BK304; clear HB; have HO300 := n0_; have HO303 := n1_; have HO307 := n2_; have BK304 := n3_; have HB := n4_; clear n0_ n1_ n2_ n3_ n4_; (try clear hb); (try clear hb2); (try clear hk); (try clear hi); (try clear ho0); have hcz18_0 : w17.cell? ⟨gb304, 0, none⟩ = some (.int .i64 t297) := (blk_cell BK304.out 0).trans rfl; have hcz18_1 : w17.cell? ⟨gb304, 1, none⟩ = some (.slice Ao16 t298.length co16) := (blk_cell BK304.out 1).trans rfl; have hfz18_0 := blk_frozen BK304.out 0; have hfz18_1 := blk_frozen BK304.out 1) | (go_at_call 18; (with_reducible refine (cnf_Clauses.calls t297 _ _ t298 (wrap64 (a2)) t308 _ ?side1 ?side2 A10.out).mono ?_); (case side1 => repeat (first | exact (Kd.V_reads' HO300.out).2.2 | (with_reducible refine Kd.C_alloc ?_ _) | (with_reducible refine Kd.C_drewN ?_ _) | (with_reducible refine Kd.C_drew ?_))); (case side2 => exact (Kd.V_reads' HO300.out).2.1); rintro e w19 ⟨v309, rfl, ho0, hb⟩; have n0_ := Aside0.mk (Kd.V_elder' (by (with_reducible repeat (first | apply Kd.V_alloc | apply Kd.V_drewN | apply Kd.V_drew)); exact HO300.out) (Kd.N_base ho0) hb); have n1_ := Aside0.mk (Kd.R_below (by (with_reducible repeat (first | apply Kd.R_alloc | apply Kd.R_drewN | apply Kd.R_drew)); exact HO303.out) hb); have n2_ := Aside0.mk (Kd.N_elder' (by (with_reducible repeat (first | apply Kd.N_alloc | apply Kd.N_drewN | apply Kd.N_drew)); exact HO307.out) (Kd.N_base ho0) hb); have n3_ := Aside0.mk (Kd.N_lower (Kd.N_mono (ok' := fun k_ => some k_ ≠ (v302 : Value).ownBlock ∧ some k_ ≠ (v306 : Value).ownBlock ∧ k_ ≠ gb304) ho0 (fun k_ hk_ => ⟨(Kd.fresh' (Kd.R_lt (by (with_reducible repeat (first | apply Kd.R_alloc | apply Kd.R_drewN | apply Kd.R_drew)); exact HO303.out)) k_ hk_), (Kd.fresh' (Kd.N_lt (by (with_reducible repeat (first | apply Kd.N_alloc | apply Kd.N_drewN | apply Kd.N_drew)); exact HO307.out)) k_ hk_), (Kd.freshB (g := gb304) (o := .cells #[.int .i64 t297, .slice Ao16 t298.length co16] 28 (0, 0)) (by (with_reducible repeat (first | refine blk_drewN ?_ _ | refine blk_drew ?_ | refine blk_alloc ?_ _)); exact BK304.out) k_ hk_)⟩)) (below_size (by repeat (first | (with_reducible first | exact HB.out | apply below_alloc | apply pw_below_drewN | apply below_drew1 | refine below_set ?_ GE304.out) | exact HB.out)))); have n4_ := Aside0.mk (blk_below (g := gb304) (o := .cells #[.int .i64 t297, .slice Ao16 t298.length co16] 28 (0, 0)) (by (with_reducible repeat (first | refine blk_drewN ?_ _ | refine blk_drew ?_ | refine blk_alloc ?_ _)); exact BK304.out) hb); have n5_ := Aside0.mk (below_step (by repeat (first | (with_reducible first | exact HB.out | apply below_alloc | apply pw_below_drewN | apply below_drew1 | refine below_set ?_ GE304.out) | exact HB.out)) hb); clear HO300; clear HO303; clear HO307; clear BK304; clear HB; have HO300 := n0_; have HO303 := n1_; have HO307 := n2_; have HO310 := n3_; have BK304 := n4_; have HB := n5_; clear n0_ n1_ n2_ n3_ n4_ n5_; (try clear hb); (try clear hb2); (try clear hk); (try clear hi); (try clear ho0))))
  (try simp only [Act.put, List.setIfInBounds_toArray, List.set_cons_zero, List.set_cons_succ])
  go_cut [54] (fun v54 wc => ∃ (kq : Nat) (x54_10 : Bool), v54 = .bool x54_10 ∧ Aside0 (proofmarklaw17_CnfApart.j0 kq t295 (wrap64 (a2)) t305 t308 x54_10 = some r) ∧ Aside0 (kq ≤ k) ∧ Aside0 (Kd.N (Kd.slice 3 (Kd.int .i64)) 29 wc w.heap.size (fun k_ => some k_ ≠ (v309 : Value).ownBlock ∧ k_ ≠ gb304) v306 t305) ∧ Aside0 (Kd.N (Kd.slice 3 (Kd.int .i64)) 29 wc w.heap.size (fun k_ => some k_ ≠ (v306 : Value).ownBlock ∧ k_ ≠ gb304) v309 t308) ∧ Aside0 (Kd.V k49 49 wc w.heap.size (fun k_ => some k_ ≠ (v306 : Value).ownBlock ∧ some k_ ≠ (v309 : Value).ownBlock ∧ k_ ≠ gb304) (.slice Ao16 t298.length co16) t298) ∧ Aside0 (wc.heap[gb304]? = some (.cells #[.int .i64 t297, (.slice Ao16 t298.length co16)] 28 (0, 0))) ∧ Aside0 (Below w.heap.size w wc))
  case first =>
   have H := HC11.out
   clear HC11
   by_cases c20 : (t305.length : Int) = (t308.length : Int)
   ·rw [if_pos c20] at H
    have c20b0 : ((t305.length : Int) == (t308.length : Int)) = true := beq_iff_eq.mpr c20
    have c20b1 : ((t305.length : Int) != (t308.length : Int)) = false := bne_eq_false_iff_eq.mpr c20
    have c20b2 : (t305.length == t308.length) = true := by first | simpa using c20 | (simp at c20 ⊢; omega)
    clear c20
    (first | rw [c20b0] | (simp only [i64_w, i32_w]; rw [c20b0]) | skip)
    replace H := Option.bind_eq_some_iff.mp H
    obtain ⟨t311, A210, H⟩ := H
    replace H : ((proofmarklaw17_within.f k t308 (wrap64 (a2)) (wrap64 ((wrap64 (a2)) + t311))).bind fun t312 => (if t312 = true then ((cnf_Vars.f t297 t298).bind fun t311 => ((proofmarklaw17_within.f k t305 0 t311).bind fun t313 => (proofmarklaw17_CnfApart.j0 k t295 (wrap64 (a2)) t305 t308 (!t313)))) else (proofmarklaw17_CnfApart.j0 k t295 (wrap64 (a2)) t305 t308 true))) = some r := H
    have A21 := Aside0.mk A210
    clear A210
    replace H := Option.bind_eq_some_iff.mp H
    obtain ⟨t312, A220, H⟩ := H
    replace H : (if t312 = true then ((cnf_Vars.f t297 t298).bind fun t311 => ((proofmarklaw17_within.f k t305 0 t311).bind fun t313 => (proofmarklaw17_CnfApart.j0 k t295 (wrap64 (a2)) t305 t308 (!t313)))) else (proofmarklaw17_CnfApart.j0 k t295 (wrap64 (a2)) t305 t308 true)) = some r := H
    have A22 := Aside0.mk A220
    clear A220
    by_cases c23 : t312 = true
    ·subst c23
     have H1 : ((cnf_Vars.f t297 t298).bind fun t311 => ((proofmarklaw17_within.f k t305 0 t311).bind fun t313 => (proofmarklaw17_CnfApart.j0 k t295 (wrap64 (a2)) t305 t308 (!t313)))) = some r := by rw [if_pos rfl] at H; exact H
     clear H
     have H := H1
     clear H1
     replace H := Option.bind_eq_some_iff.mp H
     obtain ⟨dup25, A240, H⟩ := H
     have E_ := Option.some.inj (A21.out.symm.trans A240)
     subst E_
     replace H : ((proofmarklaw17_within.f k t305 0 t311).bind fun t313 => (proofmarklaw17_CnfApart.j0 k t295 (wrap64 (a2)) t305 t308 (!t313))) = some r := H
     have A24 := Aside0.mk A240
     clear A240
     replace H := Option.bind_eq_some_iff.mp H
     obtain ⟨t313, A260, H⟩ := H
     replace H : (proofmarklaw17_CnfApart.j0 k t295 (wrap64 (a2)) t305 t308 (!t313)) = some r := H
     have A26 := Aside0.mk A260
     clear A260
     have H' := Aside0.mk H
     clear H
     obtain ⟨Ao27, co27, eo27⟩ := Kd.N_slice HO307.out
     subst eo27
     obtain ⟨Ao28, co28, eo28⟩ := Kd.N_slice HO310.out
     subst eo28
     have hcz29_0 : w19.cell? ⟨gb304, 0, none⟩ = some (.int .i64 t297) := (blk_cell BK304.out 0).trans rfl
     have hcz29_1 : w19.cell? ⟨gb304, 1, none⟩ = some (.slice Ao16 t298.length co16) := (blk_cell BK304.out 1).trans rfl
     have hfz29_0 := blk_frozen BK304.out 0
     have hfz29_1 := blk_frozen BK304.out 1
     go_wp2_with (first | (go_at_call 13; (with_reducible refine (cnf_Vars.calls t297 _ _ t298 t311 _ ?side1 ?side2 A21.out).mono ?_); (case side1 => repeat (first | exact (Kd.V_reads' HO300.out).2.2 | (with_reducible refine Kd.C_alloc ?_ _) | (with_reducible refine Kd.C_drewN ?_ _) | (with_reducible refine Kd.C_drew ?_))); (case side2 => exact (Kd.V_reads' HO300.out).2.1); rintro e w30 ⟨rfl, hb⟩; have n0_ := Aside0.mk (Kd.V_below (by (with_reducible repeat (first | apply Kd.V_alloc | apply Kd.V_drewN | apply Kd.V_drew)); exact HO300.out) hb); have n1_ := Aside0.mk (Kd.R_below (by (with_reducible repeat (first | apply Kd.R_alloc | apply Kd.R_drewN | apply Kd.R_drew)); exact HO303.out) hb); have n2_ := Aside0.mk (Kd.N_below (by (with_reducible repeat (first | apply Kd.N_alloc | apply Kd.N_drewN | apply Kd.N_drew)); exact HO307.out) hb); have n3_ := Aside0.mk (Kd.N_below (by (with_reducible repeat (first | apply Kd.N_alloc | apply Kd.N_drewN | apply Kd.N_drew)); exact HO310.out) hb); have n4_ := Aside0.mk (blk_below (g := gb304) (o := .cells #[.int .i64 t297, .slice Ao16 t298.length co16] 28 (0, 0)) (by (with_reducible repeat (first | refine blk_drewN ?_ _ | refine blk_drew ?_ | refine blk_alloc ?_ _)); exact BK304.out) hb); have n5_ := Aside0.mk (below_step (by repeat (first | (with_reducible first | exact HB.out | apply below_alloc | apply pw_below_drewN | apply below_drew1 | refine below_set ?_ GE304.out) | exact HB.out)) hb); clear HO300; clear HO303; clear HO307; clear HO310; clear BK304; clear HB; have HO300 := n0_; have HO303 := n1_; have HO307 := n2_; have HO310 := n3_; have BK304 := n4_; have HB := n5_; clear n0_ n1_ n2_ n3_ n4_ n5_; (try clear hb); (try clear hb2); (try clear hk); (try clear hi)) | (go_at_call 20; (with_reducible refine (proofmarklaw17_within.calls k _ _ t308 (wrap64 (a2)) (wrap64 ((wrap64 (a2)) + t311)) true _ ?side1 ?side2 A22.out).mono ?_); (case side1 => repeat (first | exact (Kd.N_reads' HO310.out).2.2 | (with_reducible refine Kd.C_alloc ?_ _) | (with_reducible refine Kd.C_drewN ?_ _) | (with_reducible refine Kd.C_drew ?_))); (case side2 => exact (Kd.N_reads' HO310.out).2.1); rintro e w31 ⟨rfl, hb⟩; have n0_ := Aside0.mk (Kd.V_below (by (with_reducible repeat (first | apply Kd.V_alloc | apply Kd.V_drewN | apply Kd.V_drew)); exact HO300.out) hb); have n1_ := Aside0.mk (Kd.R_below (by (with_reducible repeat (first | apply Kd.R_alloc | apply Kd.R_drewN | apply Kd.R_drew)); exact HO303.out) hb); have n2_ := Aside0.mk (Kd.N_below (by (with_reducible repeat (first | apply Kd.N_alloc | apply Kd.N_drewN | apply Kd.N_drew)); exact HO307.out) hb); have n3_ := Aside0.mk (Kd.N_below (by (with_reducible repeat (first | apply Kd.N_alloc | apply Kd.N_drewN | apply Kd.N_drew)); exact HO310.out) hb); have n4_ := Aside0.mk (blk_below (g := gb304) (o := .cells #[.int .i64 t297, .slice Ao16 t298.length co16] 28 (0, 0)) (by (with_reducible repeat (first | refine blk_drewN ?_ _ | refine blk_drew ?_ | refine blk_alloc ?_ _)); exact BK304.out) hb); have n5_ := Aside0.mk (below_step (by repeat (first | (with_reducible first | exact HB.out | apply below_alloc | apply pw_below_drewN | apply below_drew1 | refine below_set ?_ GE304.out) | exact HB.out)) hb); clear HO300; clear HO303; clear HO307; clear HO310; clear BK304; clear HB; have HO300 := n0_; have HO303 := n1_; have HO307 := n2_; have HO310 := n3_; have BK304 := n4_; have HB := n5_; clear n0_ n1_ n2_ n3_ n4_ n5_; (try clear hb); (try clear hb2); (try clear hk); (try clear hi); have hcz32_0 : w31.cell? ⟨gb304, 0, none⟩ = some (.int .i64 t297) := (blk_cell BK304.out 0).trans rfl; have hcz32_1 : w31.cell? ⟨gb304, 1, none⟩ = some (.slice Ao16 t298.length co16) := (blk_cell BK304.out 1).trans rfl; have hfz32_0 := blk_frozen BK304.out 0; have hfz32_1 := blk_frozen BK304.out 1) | (go_at_call 13; (with_reducible refine (cnf_Vars.calls t297 _ _ t298 t311 _ ?side1 ?side2 A24.out).mono ?_); (case side1 => repeat (first | exact (Kd.V_reads' HO300.out).2.2 | (with_reducible refine Kd.C_alloc ?_ _) | (with_reducible refine Kd.C_drewN ?_ _) | (with_reducible refine Kd.C_drew ?_))); (case side2 => exact (Kd.V_reads' HO300.out).2.1); rintro e w33 ⟨rfl, hb⟩; have n0_ := Aside0.mk (Kd.V_below (by (with_reducible repeat (first | apply Kd.V_alloc | apply Kd.V_drewN | apply Kd.V_drew)); exact HO300.out) hb); have n1_ := Aside0.mk (Kd.R_below (by (with_reducible repeat (first | apply Kd.R_alloc | apply Kd.R_drewN | apply Kd.R_drew)); exact HO303.out) hb); have n2_ := Aside0.mk (Kd.N_below (by (with_reducible repeat (first | apply Kd.N_alloc | apply Kd.N_drewN | apply Kd.N_drew)); exact HO307.out) hb); have n3_ := Aside0.mk (Kd.N_below (by (with_reducible repeat (first | apply Kd.N_alloc | apply Kd.N_drewN | apply Kd.N_drew)); exact HO310.out) hb); have n4_ := Aside0.mk (blk_below (g := gb304) (o := .cells #[.int .i64 t297, .slice Ao16 t298.length co16] 28 (0, 0)) (by (with_reducible repeat (first | refine blk_drewN ?_ _ | refine blk_drew ?_ | refine blk_alloc ?_ _)); exact BK304.out) hb); have n5_ := Aside0.mk (below_step (by repeat (first | (with_reducible first | exact HB.out | apply below_alloc | apply pw_below_drewN | apply below_drew1 | refine below_set ?_ GE304.out) | exact HB.out)) hb); clear HO300; clear HO303; clear HO307; clear HO310; clear BK304; clear HB; have HO300 := n0_; have HO303 := n1_; have HO307 := n2_; have HO310 := n3_; have BK304 := n4_; have HB := n5_; clear n0_ n1_ n2_ n3_ n4_ n5_; (try clear hb); (try clear hb2); (try clear hk); (try clear hi)) | (go_at_call 20; (with_reducible refine (proofmarklaw17_within.calls k _ _ t305 0 t311 t313 _ ?side1 ?side2 A26.out).mono ?_); (case side1 => repeat (first | exact (Kd.N_reads' HO307.out).2.2 | (with_reducible refine Kd.C_alloc ?_ _) | (with_reducible refine Kd.C_drewN ?_ _) | (with_reducible refine Kd.C_drew ?_))); (case side2 => exact (Kd.N_reads' HO307.out).2.1); rintro e w34 ⟨rfl, hb⟩; have n0_ := Aside0.mk (Kd.V_below (by (with_reducible repeat (first | apply Kd.V_alloc | apply Kd.V_drewN | apply Kd.V_drew)); exact HO300.out) hb); have n1_ := Aside0.mk (Kd.R_below (by (with_reducible repeat (first | apply Kd.R_alloc | apply Kd.R_drewN | apply Kd.R_drew)); exact HO303.out) hb); have n2_ := Aside0.mk (Kd.N_below (by (with_reducible repeat (first | apply Kd.N_alloc | apply Kd.N_drewN | apply Kd.N_drew)); exact HO307.out) hb); have n3_ := Aside0.mk (Kd.N_below (by (with_reducible repeat (first | apply Kd.N_alloc | apply Kd.N_drewN | apply Kd.N_drew)); exact HO310.out) hb); have n4_ := Aside0.mk (blk_below (g := gb304) (o := .cells #[.int .i64 t297, .slice Ao16 t298.length co16] 28 (0, 0)) (by (with_reducible repeat (first | refine blk_drewN ?_ _ | refine blk_drew ?_ | refine blk_alloc ?_ _)); exact BK304.out) hb); have n5_ := Aside0.mk (below_step (by repeat (first | (with_reducible first | exact HB.out | apply below_alloc | apply pw_below_drewN | apply below_drew1 | refine below_set ?_ GE304.out) | exact HB.out)) hb); clear HO300; clear HO303; clear HO307; clear HO310; clear BK304; clear HB; have HO300 := n0_; have HO303 := n1_; have HO307 := n2_; have HO310 := n3_; have BK304 := n4_; have HB := n5_; clear n0_ n1_ n2_ n3_ n4_ n5_; (try clear hb); (try clear hb2); (try clear hk); (try clear hi)))
     repeat (go_quiet (first | (go_at_call 13; (with_reducible refine (cnf_Vars.calls t297 _ _ t298 t311 _ ?side1 ?side2 A21.out).mono ?_); (case side1 => repeat (first | exact (Kd.V_reads' HO300.out).2.2 | (with_reducible refine Kd.C_alloc ?_ _) | (with_reducible refine Kd.C_drewN ?_ _) | (with_reducible refine Kd.C_drew ?_))); (case side2 => exact (Kd.V_reads' HO300.out).2.1); rintro e w30 ⟨rfl, hb⟩; have n0_ := Aside0.mk (Kd.V_below (by (with_reducible repeat (first | apply Kd.V_alloc | apply Kd.V_drewN | apply Kd.V_drew)); exact HO300.out) hb); have n1_ := Aside0.mk (Kd.R_below (by (with_reducible repeat (first | apply Kd.R_alloc | apply Kd.R_drewN | apply Kd.R_drew)); exact HO303.out) hb); have n2_ := Aside0.mk (Kd.N_below (by (with_reducible repeat (first | apply Kd.N_alloc | apply Kd.N_drewN | apply Kd.N_drew)); exact HO307.out) hb); have n3_ := Aside0.mk (Kd.N_below (by (with_reducible repeat (first | apply Kd.N_alloc | apply Kd.N_drewN | apply Kd.N_drew)); exact HO310.out) hb); have n4_ := Aside0.mk (blk_below (g := gb304) (o := .cells #[.int .i64 t297, .slice Ao16 t298.length co16] 28 (0, 0)) (by (with_reducible repeat (first | refine blk_drewN ?_ _ | refine blk_drew ?_ | refine blk_alloc ?_ _)); exact BK304.out) hb); have n5_ := Aside0.mk (below_step (by repeat (first | (with_reducible first | exact HB.out | apply below_alloc | apply pw_below_drewN | apply below_drew1 | refine below_set ?_ GE304.out) | exact HB.out)) hb); clear HO300; clear HO303; clear HO307; clear HO310; clear BK304; clear HB; have HO300 := n0_; have HO303 := n1_; have HO307 := n2_; have HO310 := n3_; have BK304 := n4_; have HB := n5_; clear n0_ n1_ n2_ n3_ n4_ n5_; (try clear hb); (try clear hb2); (try clear hk); (try clear hi)) | (go_at_call 20; (with_reducible refine (proofmarklaw17_within.calls k _ _ t308 (wrap64 (a2)) (wrap64 ((wrap64 (a2)) + t311)) true _ ?side1 ?side2 A22.out).mono ?_); (case side1 => repeat (first | exact (Kd.N_reads' HO310.out).2.2 | (with_reducible refine Kd.C_alloc ?_ _) | (with_reducible refine Kd.C_drewN ?_ _) | (with_reducible refine Kd.C_drew ?_))); (case side2 => exact (Kd.N_reads' HO310.out).2.1); rintro e w31 ⟨rfl, hb⟩; have n0_ := Aside0.mk (Kd.V_below (by (with_reducible repeat (first | apply Kd.V_alloc | apply Kd.V_drewN | apply Kd.V_drew)); exact HO300.out) hb); have n1_ := Aside0.mk (Kd.R_below (by (with_reducible repeat (first | apply Kd.R_alloc | apply Kd.R_drewN | apply Kd.R_drew)); exact HO303.out) hb); have n2_ := Aside0.mk (Kd.N_below (by (with_reducible repeat (first | apply Kd.N_alloc | apply Kd.N_drewN | apply Kd.N_drew)); exact HO307.out) hb); have n3_ := Aside0.mk (Kd.N_below (by (with_reducible repeat (first | apply Kd.N_alloc | apply Kd.N_drewN | apply Kd.N_drew)); exact HO310.out) hb); have n4_ := Aside0.mk (blk_below (g := gb304) (o := .cells #[.int .i64 t297, .slice Ao16 t298.length co16] 28 (0, 0)) (by (with_reducible repeat (first | refine blk_drewN ?_ _ | refine blk_drew ?_ | refine blk_alloc ?_ _)); exact BK304.out) hb); have n5_ := Aside0.mk (below_step (by repeat (first | (with_reducible first | exact HB.out | apply below_alloc | apply pw_below_drewN | apply below_drew1 | refine below_set ?_ GE304.out) | exact HB.out)) hb); clear HO300; clear HO303; clear HO307; clear HO310; clear BK304; clear HB; have HO300 := n0_; have HO303 := n1_; have HO307 := n2_; have HO310 := n3_; have BK304 := n4_; have HB := n5_; clear n0_ n1_ n2_ n3_ n4_ n5_; (try clear hb); (try clear hb2); (try clear hk); (try clear hi); have hcz32_0 : w31.cell? ⟨gb304, 0, none⟩ = some (.int .i64 t297) := (blk_cell BK304.out 0).trans rfl; have hcz32_1 : w31.cell? ⟨gb304, 1, none⟩ = some (.slice Ao16 t298.length co16) := (blk_cell BK304.out 1).trans rfl; have hfz32_0 := blk_frozen BK304.out 0; have hfz32_1 := blk_frozen BK304.out 1) | (go_at_call 13; (with_reducible refine (cnf_Vars.calls t297 _ _ t298 t311 _ ?side1 ?side2 A24.out).mono ?_); (case side1 => repeat (first | exact (Kd.V_reads' HO300.out).2.2 | (with_reducible refine Kd.C_alloc ?_ _) | (with_reducible refine Kd.C_drewN ?_ _) | (with_reducible refine Kd.C_drew ?_))); (case side2 => exact (Kd.V_reads' HO300.out).2.1); rintro e w33 ⟨rfl, hb⟩; have n0_ := Aside0.mk (Kd.V_below (by (with_reducible repeat (first | apply Kd.V_alloc | apply Kd.V_drewN | apply Kd.V_drew)); exact HO300.out) hb); have n1_ := Aside0.mk (Kd.R_below (by (with_reducible repeat (first | apply Kd.R_alloc | apply Kd.R_drewN | apply Kd.R_drew)); exact HO303.out) hb); have n2_ := Aside0.mk (Kd.N_below (by (with_reducible repeat (first | apply Kd.N_alloc | apply Kd.N_drewN | apply Kd.N_drew)); exact HO307.out) hb); have n3_ := Aside0.mk (Kd.N_below (by (with_reducible repeat (first | apply Kd.N_alloc | apply Kd.N_drewN | apply Kd.N_drew)); exact HO310.out) hb); have n4_ := Aside0.mk (blk_below (g := gb304) (o := .cells #[.int .i64 t297, .slice Ao16 t298.length co16] 28 (0, 0)) (by (with_reducible repeat (first | refine blk_drewN ?_ _ | refine blk_drew ?_ | refine blk_alloc ?_ _)); exact BK304.out) hb); have n5_ := Aside0.mk (below_step (by repeat (first | (with_reducible first | exact HB.out | apply below_alloc | apply pw_below_drewN | apply below_drew1 | refine below_set ?_ GE304.out) | exact HB.out)) hb); clear HO300; clear HO303; clear HO307; clear HO310; clear BK304; clear HB; have HO300 := n0_; have HO303 := n1_; have HO307 := n2_; have HO310 := n3_; have BK304 := n4_; have HB := n5_; clear n0_ n1_ n2_ n3_ n4_ n5_; (try clear hb); (try clear hb2); (try clear hk); (try clear hi)) | (go_at_call 20; (with_reducible refine (proofmarklaw17_within.calls k _ _ t305 0 t311 t313 _ ?side1 ?side2 A26.out).mono ?_); (case side1 => repeat (first | exact (Kd.N_reads' HO307.out).2.2 | (with_reducible refine Kd.C_alloc ?_ _) | (with_reducible refine Kd.C_drewN ?_ _) | (with_reducible refine Kd.C_drew ?_))); (case side2 => exact (Kd.N_reads' HO307.out).2.1); rintro e w34 ⟨rfl, hb⟩; have n0_ := Aside0.mk (Kd.V_below (by (with_reducible repeat (first | apply Kd.V_alloc | apply Kd.V_drewN | apply Kd.V_drew)); exact HO300.out) hb); have n1_ := Aside0.mk (Kd.R_below (by (with_reducible repeat (first | apply Kd.R_alloc | apply Kd.R_drewN | apply Kd.R_drew)); exact HO303.out) hb); have n2_ := Aside0.mk (Kd.N_below (by (with_reducible repeat (first | apply Kd.N_alloc | apply Kd.N_drewN | apply Kd.N_drew)); exact HO307.out) hb); have n3_ := Aside0.mk (Kd.N_below (by (with_reducible repeat (first | apply Kd.N_alloc | apply Kd.N_drewN | apply Kd.N_drew)); exact HO310.out) hb); have n4_ := Aside0.mk (blk_below (g := gb304) (o := .cells #[.int .i64 t297, .slice Ao16 t298.length co16] 28 (0, 0)) (by (with_reducible repeat (first | refine blk_drewN ?_ _ | refine blk_drew ?_ | refine blk_alloc ?_ _)); exact BK304.out) hb); have n5_ := Aside0.mk (below_step (by repeat (first | (with_reducible first | exact HB.out | apply below_alloc | apply pw_below_drewN | apply below_drew1 | refine below_set ?_ GE304.out) | exact HB.out)) hb); clear HO300; clear HO303; clear HO307; clear HO310; clear BK304; clear HB; have HO300 := n0_; have HO303 := n1_; have HO307 := n2_; have HO310 := n3_; have BK304 := n4_; have HB := n5_; clear n0_ n1_ n2_ n3_ n4_ n5_; (try clear hb); (try clear hb2); (try clear hk); (try clear hi))); try go_wp2_with (first | (go_at_call 13; (with_reducible refine (cnf_Vars.calls t297 _ _ t298 t311 _ ?side1 ?side2 A21.out).mono ?_); (case side1 => repeat (first | exact (Kd.V_reads' HO300.out).2.2 | (with_reducible refine Kd.C_alloc ?_ _) | (with_reducible refine Kd.C_drewN ?_ _) | (with_reducible refine Kd.C_drew ?_))); (case side2 => exact (Kd.V_reads' HO300.out).2.1); rintro e w30 ⟨rfl, hb⟩; have n0_ := Aside0.mk (Kd.V_below (by (with_reducible repeat (first | apply Kd.V_alloc | apply Kd.V_drewN | apply Kd.V_drew)); exact HO300.out) hb); have n1_ := Aside0.mk (Kd.R_below (by (with_reducible repeat (first | apply Kd.R_alloc | apply Kd.R_drewN | apply Kd.R_drew)); exact HO303.out) hb); have n2_ := Aside0.mk (Kd.N_below (by (with_reducible repeat (first | apply Kd.N_alloc | apply Kd.N_drewN | apply Kd.N_drew)); exact HO307.out) hb); have n3_ := Aside0.mk (Kd.N_below (by (with_reducible repeat (first | apply Kd.N_alloc | apply Kd.N_drewN | apply Kd.N_drew)); exact HO310.out) hb); have n4_ := Aside0.mk (blk_below (g := gb304) (o := .cells #[.int .i64 t297, .slice Ao16 t298.length co16] 28 (0, 0)) (by (with_reducible repeat (first | refine blk_drewN ?_ _ | refine blk_drew ?_ | refine blk_alloc ?_ _)); exact BK304.out) hb); have n5_ := Aside0.mk (below_step (by repeat (first | (with_reducible first | exact HB.out | apply below_alloc | apply pw_below_drewN | apply below_drew1 | refine below_set ?_ GE304.out) | exact HB.out)) hb); clear HO300; clear HO303; clear HO307; clear HO310; clear BK304; clear HB; have HO300 := n0_; have HO303 := n1_; have HO307 := n2_; have HO310 := n3_; have BK304 := n4_; have HB := n5_; clear n0_ n1_ n2_ n3_ n4_ n5_; (try clear hb); (try clear hb2); (try clear hk); (try clear hi)) | (go_at_call 20; (with_reducible refine (proofmarklaw17_within.calls k _ _ t308 (wrap64 (a2)) (wrap64 ((wrap64 (a2)) + t311)) true _ ?side1 ?side2 A22.out).mono ?_); (case side1 => repeat (first | exact (Kd.N_reads' HO310.out).2.2 | (with_reducible refine Kd.C_alloc ?_ _) | (with_reducible refine Kd.C_drewN ?_ _) | (with_reducible refine Kd.C_drew ?_))); (case side2 => exact (Kd.N_reads' HO310.out).2.1); rintro e w31 ⟨rfl, hb⟩; have n0_ := Aside0.mk (Kd.V_below (by (with_reducible repeat (first | apply Kd.V_alloc | apply Kd.V_drewN | apply Kd.V_drew)); exact HO300.out) hb); have n1_ := Aside0.mk (Kd.R_below (by (with_reducible repeat (first | apply Kd.R_alloc | apply Kd.R_drewN | apply Kd.R_drew)); exact HO303.out) hb); have n2_ := Aside0.mk (Kd.N_below (by (with_reducible repeat (first | apply Kd.N_alloc | apply Kd.N_drewN | apply Kd.N_drew)); exact HO307.out) hb); have n3_ := Aside0.mk (Kd.N_below (by (with_reducible repeat (first | apply Kd.N_alloc | apply Kd.N_drewN | apply Kd.N_drew)); exact HO310.out) hb); have n4_ := Aside0.mk (blk_below (g := gb304) (o := .cells #[.int .i64 t297, .slice Ao16 t298.length co16] 28 (0, 0)) (by (with_reducible repeat (first | refine blk_drewN ?_ _ | refine blk_drew ?_ | refine blk_alloc ?_ _)); exact BK304.out) hb); have n5_ := Aside0.mk (below_step (by repeat (first | (with_reducible first | exact HB.out | apply below_alloc | apply pw_below_drewN | apply below_drew1 | refine below_set ?_ GE304.out) | exact HB.out)) hb); clear HO300; clear HO303; clear HO307; clear HO310; clear BK304; clear HB; have HO300 := n0_; have HO303 := n1_; have HO307 := n2_; have HO310 := n3_; have BK304 := n4_; have HB := n5_; clear n0_ n1_ n2_ n3_ n4_ n5_; (try clear hb); (try clear hb2); (try clear hk); (try clear hi); have hcz32_0 : w31.cell? ⟨gb304, 0, none⟩ = some (.int .i64 t297) := (blk_cell BK304.out 0).trans rfl; have hcz32_1 : w31.cell? ⟨gb304, 1, none⟩ = some (.slice Ao16 t298.length co16) := (blk_cell BK304.out 1).trans rfl; have hfz32_0 := blk_frozen BK304.out 0; have hfz32_1 := blk_frozen BK304.out 1) | (go_at_call 13; (with_reducible refine (cnf_Vars.calls t297 _ _ t298 t311 _ ?side1 ?side2 A24.out).mono ?_); (case side1 => repeat (first | exact (Kd.V_reads' HO300.out).2.2 | (with_reducible refine Kd.C_alloc ?_ _) | (with_reducible refine Kd.C_drewN ?_ _) | (with_reducible refine Kd.C_drew ?_))); (case side2 => exact (Kd.V_reads' HO300.out).2.1); rintro e w33 ⟨rfl, hb⟩; have n0_ := Aside0.mk (Kd.V_below (by (with_reducible repeat (first | apply Kd.V_alloc | apply Kd.V_drewN | apply Kd.V_drew)); exact HO300.out) hb); have n1_ := Aside0.mk (Kd.R_below (by (with_reducible repeat (first | apply Kd.R_alloc | apply Kd.R_drewN | apply Kd.R_drew)); exact HO303.out) hb); have n2_ := Aside0.mk (Kd.N_below (by (with_reducible repeat (first | apply Kd.N_alloc | apply Kd.N_drewN | apply Kd.N_drew)); exact HO307.out) hb); have n3_ := Aside0.mk (Kd.N_below (by (with_reducible repeat (first | apply Kd.N_alloc | apply Kd.N_drewN | apply Kd.N_drew)); exact HO310.out) hb); have n4_ := Aside0.mk (blk_below (g := gb304) (o := .cells #[.int .i64 t297, .slice Ao16 t298.length co16] 28 (0, 0)) (by (with_reducible repeat (first | refine blk_drewN ?_ _ | refine blk_drew ?_ | refine blk_alloc ?_ _)); exact BK304.out) hb); have n5_ := Aside0.mk (below_step (by repeat (first | (with_reducible first | exact HB.out | apply below_alloc | apply pw_below_drewN | apply below_drew1 | refine below_set ?_ GE304.out) | exact HB.out)) hb); clear HO300; clear HO303; clear HO307; clear HO310; clear BK304; clear HB; have HO300 := n0_; have HO303 := n1_; have HO307 := n2_; have HO310 := n3_; have BK304 := n4_; have HB := n5_; clear n0_ n1_ n2_ n3_ n4_ n5_; (try clear hb); (try clear hb2); (try clear hk); (try clear hi)) | (go_at_call 20; (with_reducible refine (proofmarklaw17_within.calls k _ _ t305 0 t311 t313 _ ?side1 ?side2 A26.out).mono ?_); (case side1 => repeat (first | exact (Kd.N_reads' HO307.out).2.2 | (with_reducible refine Kd.C_alloc ?_ _) | (with_reducible refine Kd.C_drewN ?_ _) | (with_reducible refine Kd.C_drew ?_))); (case side2 => exact (Kd.N_reads' HO307.out).2.1); rintro e w34 ⟨rfl, hb⟩; have n0_ := Aside0.mk (Kd.V_below (by (with_reducible repeat (first | apply Kd.V_alloc | apply Kd.V_drewN | apply Kd.V_drew)); exact HO300.out) hb); have n1_ := Aside0.mk (Kd.R_below (by (with_reducible repeat (first | apply Kd.R_alloc | apply Kd.R_drewN | apply Kd.R_drew)); exact HO303.out) hb); have n2_ := Aside0.mk (Kd.N_below (by (with_reducible repeat (first | apply Kd.N_alloc | apply Kd.N_drewN | apply Kd.N_drew)); exact HO307.out) hb); have n3_ := Aside0.mk (Kd.N_below (by (with_reducible repeat (first | apply Kd.N_alloc | apply Kd.N_drewN | apply Kd.N_drew)); exact HO310.out) hb); have n4_ := Aside0.mk (blk_below (g := gb304) (o := .cells #[.int .i64 t297, .slice Ao16 t298.length co16] 28 (0, 0)) (by (with_reducible repeat (first | refine blk_drewN ?_ _ | refine blk_drew ?_ | refine blk_alloc ?_ _)); exact BK304.out) hb); have n5_ := Aside0.mk (below_step (by repeat (first | (with_reducible first | exact HB.out | apply below_alloc | apply pw_below_drewN | apply below_drew1 | refine below_set ?_ GE304.out) | exact HB.out)) hb); clear HO300; clear HO303; clear HO307; clear HO310; clear BK304; clear HB; have HO300 := n0_; have HO303 := n1_; have HO307 := n2_; have HO310 := n3_; have BK304 := n4_; have HB := n5_; clear n0_ n1_ n2_ n3_ n4_ n5_; (try clear hb); (try clear hb2); (try clear hk); (try clear hi))))
     go_meet
     case rel => exact ⟨_, (!t313), (by first | rfl | (simp; done) | (simp [*]; done)), H', ⟨by first | omega | exact Nat.le_refl _⟩, ⟨by (with_reducible repeat (first | apply Kd.N_alloc | apply Kd.N_drewN | apply Kd.N_drew)); exact Kd.N_mono HO307.out (fun _ hk => ⟨hk.2, hk.1.2⟩)⟩, ⟨by (with_reducible repeat (first | apply Kd.N_alloc | apply Kd.N_drewN | apply Kd.N_drew)); exact Kd.N_mono HO310.out (fun _ hk => ⟨hk.2.1, hk.2.2⟩)⟩, ⟨by (with_reducible repeat (first | apply Kd.V_alloc | apply Kd.V_drewN | apply Kd.V_drew)); exact Kd.V_mono HO300.out (fun _ hk => ⟨hk.1.2, ⟨hk.2, hk.1.1.2⟩⟩)⟩, ⟨by (with_reducible repeat (first | refine blk_drewN ?_ _ | refine blk_drew ?_ | refine blk_alloc ?_ _)); exact BK304.out⟩, ⟨by repeat (first | (with_reducible first | exact HB.out | apply below_alloc | apply pw_below_drewN | apply below_drew1 | refine below_set ?_ GE304.out) | exact HB.out)⟩⟩
    ·replace c23 := Bool.eq_false_iff.mpr c23
     subst c23
     have H1 : (proofmarklaw17_CnfApart.j0 k t295 (wrap64 (a2)) t305 t308 true) = some r := by rw [if_neg (show ¬ (false = true) by decide)] at H; exact H
     clear H
     have H := H1
     clear H1
     have H' := Aside0.mk H
     clear H
     obtain ⟨Ao35, co35, eo35⟩ := Kd.N_slice HO307.out
     subst eo35
     obtain ⟨Ao36, co36, eo36⟩ := Kd.N_slice HO310.out
     subst eo36
     have hcz37_0 : w19.cell? ⟨gb304, 0, none⟩ = some (.int .i64 t297) := (blk_cell BK304.out 0).trans rfl
     have hcz37_1 : w19.cell? ⟨gb304, 1, none⟩ = some (.slice Ao16 t298.length co16) := (blk_cell BK304.out 1).trans rfl
     have hfz37_0 := blk_frozen BK304.out 0
     have hfz37_1 := blk_frozen BK304.out 1
     go_wp2_with (first | (go_at_call 13; (with_reducible refine (cnf_Vars.calls t297 _ _ t298 t311 _ ?side1 ?side2 A21.out).mono ?_); (case side1 => repeat (first | exact (Kd.V_reads' HO300.out).2.2 | (with_reducible refine Kd.C_alloc ?_ _) | (with_reducible refine Kd.C_drewN ?_ _) | (with_reducible refine Kd.C_drew ?_))); (case side2 => exact (Kd.V_reads' HO300.out).2.1); rintro e w38 ⟨rfl, hb⟩; have n0_ := Aside0.mk (Kd.V_below (by (with_reducible repeat (first | apply Kd.V_alloc | apply Kd.V_drewN | apply Kd.V_drew)); exact HO300.out) hb); have n1_ := Aside0.mk (Kd.R_below (by (with_reducible repeat (first | apply Kd.R_alloc | apply Kd.R_drewN | apply Kd.R_drew)); exact HO303.out) hb); have n2_ := Aside0.mk (Kd.N_below (by (with_reducible repeat (first | apply Kd.N_alloc | apply Kd.N_drewN | apply Kd.N_drew)); exact HO307.out) hb); have n3_ := Aside0.mk (Kd.N_below (by (with_reducible repeat (first | apply Kd.N_alloc | apply Kd.N_drewN | apply Kd.N_drew)); exact HO310.out) hb); have n4_ := Aside0.mk (blk_below (g := gb304) (o := .cells #[.int .i64 t297, .slice Ao16 t298.length co16] 28 (0, 0)) (by (with_reducible repeat (first | refine blk_drewN ?_ _ | refine blk_drew ?_ | refine blk_alloc ?_ _)); exact BK304.out) hb); have n5_ := Aside0.mk (below_step (by repeat (first | (with_reducible first | exact HB.out | apply below_alloc | apply pw_below_drewN | apply below_drew1 | refine below_set ?_ GE304.out) | exact HB.out)) hb); clear HO300; clear HO303; clear HO307; clear HO310; clear BK304; clear HB; have HO300 := n0_; have HO303 := n1_; have HO307 := n2_; have HO310 := n3_; have BK304 := n4_; have HB := n5_; clear n0_ n1_ n2_ n3_ n4_ n5_; (try clear hb); (try clear hb2); (try clear hk); (try clear hi)) | (go_at_call 20; (with_reducible refine (proofmarklaw17_within.calls k _ _ t308 (wrap64 (a2)) (wrap64 ((wrap64 (a2)) + t311)) false _ ?side1 ?side2 A22.out).mono ?_); (case side1 => repeat (first | exact (Kd.N_reads' HO310.out).2.2 | (with_reducible refine Kd.C_alloc ?_ _) | (with_reducible refine Kd.C_drewN ?_ _) | (with_reducible refine Kd.C_drew ?_))); (case side2 => exact (Kd.N_reads' HO310.out).2.1); rintro e w39 ⟨rfl, hb⟩; have n0_ := Aside0.mk (Kd.V_below (by (with_reducible repeat (first | apply Kd.V_alloc | apply Kd.V_drewN | apply Kd.V_drew)); exact HO300.out) hb); have n1_ := Aside0.mk (Kd.R_below (by (with_reducible repeat (first | apply Kd.R_alloc | apply Kd.R_drewN | apply Kd.R_drew)); exact HO303.out) hb); have n2_ := Aside0.mk (Kd.N_below (by (with_reducible repeat (first | apply Kd.N_alloc | apply Kd.N_drewN | apply Kd.N_drew)); exact HO307.out) hb); have n3_ := Aside0.mk (Kd.N_below (by (with_reducible repeat (first | apply Kd.N_alloc | apply Kd.N_drewN | apply Kd.N_drew)); exact HO310.out) hb); have n4_ := Aside0.mk (blk_below (g := gb304) (o := .cells #[.int .i64 t297, .slice Ao16 t298.length co16] 28 (0, 0)) (by (with_reducible repeat (first | refine blk_drewN ?_ _ | refine blk_drew ?_ | refine blk_alloc ?_ _)); exact BK304.out) hb); have n5_ := Aside0.mk (below_step (by repeat (first | (with_reducible first | exact HB.out | apply below_alloc | apply pw_below_drewN | apply below_drew1 | refine below_set ?_ GE304.out) | exact HB.out)) hb); clear HO300; clear HO303; clear HO307; clear HO310; clear BK304; clear HB; have HO300 := n0_; have HO303 := n1_; have HO307 := n2_; have HO310 := n3_; have BK304 := n4_; have HB := n5_; clear n0_ n1_ n2_ n3_ n4_ n5_; (try clear hb); (try clear hb2); (try clear hk); (try clear hi)))
     repeat (go_quiet (first | (go_at_call 13; (with_reducible refine (cnf_Vars.calls t297 _ _ t298 t311 _ ?side1 ?side2 A21.out).mono ?_); (case side1 => repeat (first | exact (Kd.V_reads' HO300.out).2.2 | (with_reducible refine Kd.C_alloc ?_ _) | (with_reducible refine Kd.C_drewN ?_ _) | (with_reducible refine Kd.C_drew ?_))); (case side2 => exact (Kd.V_reads' HO300.out).2.1); rintro e w38 ⟨rfl, hb⟩; have n0_ := Aside0.mk (Kd.V_below (by (with_reducible repeat (first | apply Kd.V_alloc | apply Kd.V_drewN | apply Kd.V_drew)); exact HO300.out) hb); have n1_ := Aside0.mk (Kd.R_below (by (with_reducible repeat (first | apply Kd.R_alloc | apply Kd.R_drewN | apply Kd.R_drew)); exact HO303.out) hb); have n2_ := Aside0.mk (Kd.N_below (by (with_reducible repeat (first | apply Kd.N_alloc | apply Kd.N_drewN | apply Kd.N_drew)); exact HO307.out) hb); have n3_ := Aside0.mk (Kd.N_below (by (with_reducible repeat (first | apply Kd.N_alloc | apply Kd.N_drewN | apply Kd.N_drew)); exact HO310.out) hb); have n4_ := Aside0.mk (blk_below (g := gb304) (o := .cells #[.int .i64 t297, .slice Ao16 t298.length co16] 28 (0, 0)) (by (with_reducible repeat (first | refine blk_drewN ?_ _ | refine blk_drew ?_ | refine blk_alloc ?_ _)); exact BK304.out) hb); have n5_ := Aside0.mk (below_step (by repeat (first | (with_reducible first | exact HB.out | apply below_alloc | apply pw_below_drewN | apply below_drew1 | refine below_set ?_ GE304.out) | exact HB.out)) hb); clear HO300; clear HO303; clear HO307; clear HO310; clear BK304; clear HB; have HO300 := n0_; have HO303 := n1_; have HO307 := n2_; have HO310 := n3_; have BK304 := n4_; have HB := n5_; clear n0_ n1_ n2_ n3_ n4_ n5_; (try clear hb); (try clear hb2); (try clear hk); (try clear hi)) | (go_at_call 20; (with_reducible refine (proofmarklaw17_within.calls k _ _ t308 (wrap64 (a2)) (wrap64 ((wrap64 (a2)) + t311)) false _ ?side1 ?side2 A22.out).mono ?_); (case side1 => repeat (first | exact (Kd.N_reads' HO310.out).2.2 | (with_reducible refine Kd.C_alloc ?_ _) | (with_reducible refine Kd.C_drewN ?_ _) | (with_reducible refine Kd.C_drew ?_))); (case side2 => exact (Kd.N_reads' HO310.out).2.1); rintro e w39 ⟨rfl, hb⟩; have n0_ := Aside0.mk (Kd.V_below (by (with_reducible repeat (first | apply Kd.V_alloc | apply Kd.V_drewN | apply Kd.V_drew)); exact HO300.out) hb); have n1_ := Aside0.mk (Kd.R_below (by (with_reducible repeat (first | apply Kd.R_alloc | apply Kd.R_drewN | apply Kd.R_drew)); exact HO303.out) hb); have n2_ := Aside0.mk (Kd.N_below (by (with_reducible repeat (first | apply Kd.N_alloc | apply Kd.N_drewN | apply Kd.N_drew)); exact HO307.out) hb); have n3_ := Aside0.mk (Kd.N_below (by (with_reducible repeat (first | apply Kd.N_alloc | apply Kd.N_drewN | apply Kd.N_drew)); exact HO310.out) hb); have n4_ := Aside0.mk (blk_below (g := gb304) (o := .cells #[.int .i64 t297, .slice Ao16 t298.length co16] 28 (0, 0)) (by (with_reducible repeat (first | refine blk_drewN ?_ _ | refine blk_drew ?_ | refine blk_alloc ?_ _)); exact BK304.out) hb); have n5_ := Aside0.mk (below_step (by repeat (first | (with_reducible first | exact HB.out | apply below_alloc | apply pw_below_drewN | apply below_drew1 | refine below_set ?_ GE304.out) | exact HB.out)) hb); clear HO300; clear HO303; clear HO307; clear HO310; clear BK304; clear HB; have HO300 := n0_; have HO303 := n1_; have HO307 := n2_; have HO310 := n3_; have BK304 := n4_; have HB := n5_; clear n0_ n1_ n2_ n3_ n4_ n5_; (try clear hb); (try clear hb2); (try clear hk); (try clear hi))); try go_wp2_with (first | (go_at_call 13; (with_reducible refine (cnf_Vars.calls t297 _ _ t298 t311 _ ?side1 ?side2 A21.out).mono ?_); (case side1 => repeat (first | exact (Kd.V_reads' HO300.out).2.2 | (with_reducible refine Kd.C_alloc ?_ _) | (with_reducible refine Kd.C_drewN ?_ _) | (with_reducible refine Kd.C_drew ?_))); (case side2 => exact (Kd.V_reads' HO300.out).2.1); rintro e w38 ⟨rfl, hb⟩; have n0_ := Aside0.mk (Kd.V_below (by (with_reducible repeat (first | apply Kd.V_alloc | apply Kd.V_drewN | apply Kd.V_drew)); exact HO300.out) hb); have n1_ := Aside0.mk (Kd.R_below (by (with_reducible repeat (first | apply Kd.R_alloc | apply Kd.R_drewN | apply Kd.R_drew)); exact HO303.out) hb); have n2_ := Aside0.mk (Kd.N_below (by (with_reducible repeat (first | apply Kd.N_alloc | apply Kd.N_drewN | apply Kd.N_drew)); exact HO307.out) hb); have n3_ := Aside0.mk (Kd.N_below (by (with_reducible repeat (first | apply Kd.N_alloc | apply Kd.N_drewN | apply Kd.N_drew)); exact HO310.out) hb); have n4_ := Aside0.mk (blk_below (g := gb304) (o := .cells #[.int .i64 t297, .slice Ao16 t298.length co16] 28 (0, 0)) (by (with_reducible repeat (first | refine blk_drewN ?_ _ | refine blk_drew ?_ | refine blk_alloc ?_ _)); exact BK304.out) hb); have n5_ := Aside0.mk (below_step (by repeat (first | (with_reducible first | exact HB.out | apply below_alloc | apply pw_below_drewN | apply below_drew1 | refine below_set ?_ GE304.out) | exact HB.out)) hb); clear HO300; clear HO303; clear HO307; clear HO310; clear BK304; clear HB; have HO300 := n0_; have HO303 := n1_; have HO307 := n2_; have HO310 := n3_; have BK304 := n4_; have HB := n5_; clear n0_ n1_ n2_ n3_ n4_ n5_; (try clear hb); (try clear hb2); (try clear hk); (try clear hi)) | (go_at_call 20; (with_reducible refine (proofmarklaw17_within.calls k _ _ t308 (wrap64 (a2)) (wrap64 ((wrap64 (a2)) + t311)) false _ ?side1 ?side2 A22.out).mono ?_); (case side1 => repeat (first | exact (Kd.N_reads' HO310.out).2.2 | (with_reducible refine Kd.C_alloc ?_ _) | (with_reducible refine Kd.C_drewN ?_ _) | (with_reducible refine Kd.C_drew ?_))); (case side2 => exact (Kd.N_reads' HO310.out).2.1); rintro e w39 ⟨rfl, hb⟩; have n0_ := Aside0.mk (Kd.V_below (by (with_reducible repeat (first | apply Kd.V_alloc | apply Kd.V_drewN | apply Kd.V_drew)); exact HO300.out) hb); have n1_ := Aside0.mk (Kd.R_below (by (with_reducible repeat (first | apply Kd.R_alloc | apply Kd.R_drewN | apply Kd.R_drew)); exact HO303.out) hb); have n2_ := Aside0.mk (Kd.N_below (by (with_reducible repeat (first | apply Kd.N_alloc | apply Kd.N_drewN | apply Kd.N_drew)); exact HO307.out) hb); have n3_ := Aside0.mk (Kd.N_below (by (with_reducible repeat (first | apply Kd.N_alloc | apply Kd.N_drewN | apply Kd.N_drew)); exact HO310.out) hb); have n4_ := Aside0.mk (blk_below (g := gb304) (o := .cells #[.int .i64 t297, .slice Ao16 t298.length co16] 28 (0, 0)) (by (with_reducible repeat (first | refine blk_drewN ?_ _ | refine blk_drew ?_ | refine blk_alloc ?_ _)); exact BK304.out) hb); have n5_ := Aside0.mk (below_step (by repeat (first | (with_reducible first | exact HB.out | apply below_alloc | apply pw_below_drewN | apply below_drew1 | refine below_set ?_ GE304.out) | exact HB.out)) hb); clear HO300; clear HO303; clear HO307; clear HO310; clear BK304; clear HB; have HO300 := n0_; have HO303 := n1_; have HO307 := n2_; have HO310 := n3_; have BK304 := n4_; have HB := n5_; clear n0_ n1_ n2_ n3_ n4_ n5_; (try clear hb); (try clear hb2); (try clear hk); (try clear hi))))
     go_meet
     case rel => exact ⟨_, (true), (by first | rfl | (simp; done) | (simp [*]; done)), H', ⟨by first | omega | exact Nat.le_refl _⟩, ⟨by (with_reducible repeat (first | apply Kd.N_alloc | apply Kd.N_drewN | apply Kd.N_drew)); exact Kd.N_mono HO307.out (fun _ hk => ⟨hk.2, hk.1.2⟩)⟩, ⟨by (with_reducible repeat (first | apply Kd.N_alloc | apply Kd.N_drewN | apply Kd.N_drew)); exact Kd.N_mono HO310.out (fun _ hk => ⟨hk.2.1, hk.2.2⟩)⟩, ⟨by (with_reducible repeat (first | apply Kd.V_alloc | apply Kd.V_drewN | apply Kd.V_drew)); exact Kd.V_mono HO300.out (fun _ hk => ⟨hk.1.2, ⟨hk.2, hk.1.1.2⟩⟩)⟩, ⟨by (with_reducible repeat (first | refine blk_drewN ?_ _ | refine blk_drew ?_ | refine blk_alloc ?_ _)); exact BK304.out⟩, ⟨by repeat (first | (with_reducible first | exact HB.out | apply below_alloc | apply pw_below_drewN | apply below_drew1 | refine below_set ?_ GE304.out) | exact HB.out)⟩⟩
   ·rw [if_neg c20] at H
    have c20b0 : ((t305.length : Int) == (t308.length : Int)) = false := beq_eq_false_iff_ne.mpr c20
    have c20b1 : ((t305.length : Int) != (t308.length : Int)) = true := bne_iff_ne.mpr c20
    have c20b2 : (t305.length == t308.length) = false := by first | simpa using c20 | (simp at c20 ⊢; omega)
    (first | rw [c20b0] | (simp only [i64_w, i32_w]; rw [c20b0]) | skip)
    have H' := Aside0.mk H
    clear H
    obtain ⟨Ao40, co40, eo40⟩ := Kd.N_slice HO307.out
    subst eo40
    obtain ⟨Ao41, co41, eo41⟩ := Kd.N_slice HO310.out
    subst eo41
    go_wp2
    repeat (go_quiet (fail); try go_wp2)
    go_meet
    case rel => exact ⟨_, (true), (by first | rfl | (simp; done) | (simp [*]; done)), H', ⟨by first | omega | exact Nat.le_refl _⟩, ⟨by (with_reducible repeat (first | apply Kd.N_alloc | apply Kd.N_drewN | apply Kd.N_drew)); exact Kd.N_mono HO307.out (fun _ hk => ⟨hk.2, hk.1.2⟩)⟩, ⟨by (with_reducible repeat (first | apply Kd.N_alloc | apply Kd.N_drewN | apply Kd.N_drew)); exact Kd.N_mono HO310.out (fun _ hk => ⟨hk.2.1, hk.2.2⟩)⟩, ⟨by (with_reducible repeat (first | apply Kd.V_alloc | apply Kd.V_drewN | apply Kd.V_drew)); exact Kd.V_mono HO300.out (fun _ hk => ⟨hk.1.2, ⟨hk.2, hk.1.1.2⟩⟩)⟩, ⟨by (with_reducible repeat (first | refine blk_drewN ?_ _ | refine blk_drew ?_ | refine blk_alloc ?_ _)); exact BK304.out⟩, ⟨by repeat (first | (with_reducible first | exact HB.out | apply below_alloc | apply pw_below_drewN | apply below_drew1 | refine below_set ?_ GE304.out) | exact HB.out)⟩⟩
  case rest =>
   clear HC11
   try clear c1
   try clear c2
   try clear p2
   try clear c4
   try clear c6
   try clear p6
   try clear c20
   try clear c20b0
   try clear c20b1
   try clear c20b2
   try clear c23
   try clear p25
   try clear hcz15_0
   try clear hcz15_1
   try clear hcz18_0
   try clear hcz18_1
   try clear hcz29_0
   try clear hcz29_1
   try clear hcz32_0
   try clear hcz32_1
   try clear hcz37_0
   try clear hcz37_1
   try clear hfz15_0
   try clear hfz15_1
   try clear hfz18_0
   try clear hfz18_1
   try clear hfz29_0
   try clear hfz29_1
   try clear hfz32_0
   try clear hfz32_1
   try clear hfz37_0
   try clear hfz37_1
   obtain ⟨kq, x54_10, rfl, HA, HJ10, HO_11, HO_12, HO_305001, BK304, HB⟩ := hcut
   cases kq with
   | zero => exact absurd HA.out (by simp [proofmarklaw17_CnfApart.j0])
   | succ kj10 =>
    have H := HA.out
    clear HA
    simp only [proofmarklaw17_CnfApart.j0] at H
    by_cases c42 : x54_10 = true
    ·subst c42
     have H1 : (some false) = some r := by rw [if_pos rfl] at H; exact H
     clear H
     have H := H1
     clear H1
     obtain rfl := Option.some.inj H
     go_wp2
     repeat (go_quiet (fail); try go_wp2)
     go_ret
     exact ⟨by first | rfl | (simp [errW_none, errW_some] <;> rfl) | (simp [*, errW_none, errW_some] <;> rfl), by repeat (first | (with_reducible first | exact HB.out | apply below_alloc | apply pw_below_drewN | apply below_drew1 | refine below_set ?_ GE304.out) | exact HB.out)⟩
    ·replace c42 := Bool.eq_false_iff.mpr c42
     subst c42
     have H1 : (proofmarklaw17_CnfApart.l0 kj10 t295 (wrap64 (a2)) t305 t308 0) = some r := by rw [if_neg (show ¬ (false = true) by decide)] at H; exact H
     clear H
     have H := H1
     clear H1
     have H' := Aside0.mk H
     clear H
     go_wp2
     repeat (go_quiet (fail); try go_wp2)
     go_loopg [13] kj10 (fun kq v13 w' => ∃ (x13_2 : Int), v13 = .int .i64 x13_2 ∧ Aside0 (proofmarklaw17_CnfApart.l0 kq t295 (wrap64 (a2)) t305 t308 x13_2 = some r) ∧ Aside0 (kq ≤ kj10) ∧ Aside0 (Kd.N (Kd.slice 3 (Kd.int .i64)) 29 w' w.heap.size (fun k_ => some k_ ≠ (v309 : Value).ownBlock ∧ k_ ≠ gb304) v306 t305) ∧ Aside0 (Kd.N (Kd.slice 3 (Kd.int .i64)) 29 w' w.heap.size (fun k_ => some k_ ≠ (v306 : Value).ownBlock ∧ k_ ≠ gb304) v309 t308) ∧ Aside0 (Kd.V k49 49 w' w.heap.size (fun k_ => some k_ ≠ (v306 : Value).ownBlock ∧ some k_ ≠ (v309 : Value).ownBlock ∧ k_ ≠ gb304) (.slice Ao16 t298.length co16) t298) ∧ Aside0 (w'.heap[gb304]? = some (.cells #[.int .i64 t297, (.slice Ao16 t298.length co16)] 28 (0, 0))) ∧ Aside0 (Below w.heap.size w w'))
     case atStart => exact ⟨(0), (by first | rfl | (simp; done) | (simp [*]; done)), H', ⟨Nat.le_refl _⟩, ⟨by (with_reducible repeat (first | apply Kd.N_alloc | apply Kd.N_drewN | apply Kd.N_drew)); exact HO_11.out⟩, ⟨by (with_reducible repeat (first | apply Kd.N_alloc | apply Kd.N_drewN | apply Kd.N_drew)); exact HO_12.out⟩, ⟨by (with_reducible repeat (first | apply Kd.V_alloc | apply Kd.V_drewN | apply Kd.V_drew)); exact HO_305001.out⟩, ⟨by (with_reducible repeat (first | refine blk_drewN ?_ _ | refine blk_drew ?_ | refine blk_alloc ?_ _)); exact BK304.out⟩, ⟨by repeat (first | (with_reducible first | exact HB.out | apply below_alloc | apply pw_below_drewN | apply below_drew1 | refine below_set ?_ GE304.out) | exact HB.out)⟩⟩
     case round =>
      clear H'
      try clear c1
      try clear c2
      try clear p2
      try clear c4
      try clear c6
      try clear p6
      try clear c20
      try clear c20b0
      try clear c20b1
      try clear c20b2
      try clear c23
      try clear p25
      try clear c42
      try clear hcz15_0
      try clear hcz15_1
      try clear hcz18_0
      try clear hcz18_1
      try clear hcz29_0
      try clear hcz29_1
      try clear hcz32_0
      try clear hcz32_1
      try clear hcz37_0
      try clear hcz37_1
      try clear hfz15_0
      try clear hfz15_1
      try clear hfz18_0
      try clear hfz18_1
      try clear hfz29_0
      try clear hfz29_1
      try clear hfz32_0
      try clear hfz32_1
      try clear hfz37_0
      try clear hfz37_1
      try clear p2
      try clear p25
      try clear p6
      obtain ⟨x13_2, rfl, HA, HK2, HO_11, HO_12, HO_305001, BK304, HB⟩ := hrel
      cases gk with
      | zero => exact absurd HA.out (by simp [proofmarklaw17_CnfApart.l0])
      | succ k2 =>
       have H := HA.out
       clear HA
       simp only [proofmarklaw17_CnfApart.l0] at H
       by_cases c43 : x13_2 < (t305.length : Int)
       ·rw [if_pos c43] at H
        have c43b0 : decide (x13_2 < (t305.length : Int)) = true := decide_eq_true c43
        clear c43
        by_cases c44 : 0 ≤ x13_2
        ·rw [if_pos c44] at H
         have c44b0 : decide (0 ≤ x13_2) = true := decide_eq_true c44
         clear c44
         by_cases c45 : x13_2 < (t308.length : Int)
         ·rw [if_pos c45] at H
          have c45b0 : decide (x13_2 < (t308.length : Int)) = true := decide_eq_true c45
          clear c45
          by_cases c46 : ((rd_L2 t305 x13_2).length : Int) = ((rd_L2 t308 x13_2).length : Int)
          ·rw [if_pos c46] at H
           have c46b0 : (((rd_L2 t305 x13_2).length : Int) == ((rd_L2 t308 x13_2).length : Int)) = true := beq_iff_eq.mpr c46
           have c46b1 : (((rd_L2 t305 x13_2).length : Int) != ((rd_L2 t308 x13_2).length : Int)) = false := bne_eq_false_iff_eq.mpr c46
           have c46b2 : ((rd_L2 t305 x13_2).length == (rd_L2 t308 x13_2).length) = true := by first | simpa using c46 | (simp at c46 ⊢; omega)
           clear c46
           have H' := Aside0.mk H
           clear H
           obtain ⟨Ao47, co47, eo47⟩ := Kd.N_slice HO_11.out
           subst eo47
           have p314 : 0 ≤ (x13_2 : Int) := of_decide_eq_true (by first | (with_reducible assumption) | assumption)
           have q314 : x13_2 < (t305.length : Int) := of_decide_eq_true (by first | (with_reducible assumption) | assumption)
           obtain ⟨ad314, A314_0, c314_0, e314, hx314_0, hl314_0, hi314_0⟩ := at_L2 (Kd.N_reads' HO_11.out).2.2 x13_2 p314 q314
           cases e314
           obtain ⟨ce314, hce314, hMe314, hcc314⟩ := Kd.N_get HO_11.out [] x13_2 p314 (by first | exact q314 | exact of_decide_eq_true (by first | (with_reducible assumption) | assumption) | (have e_ := (Kd.N_reads' HO_11.out).1; omega))
           obtain ⟨ua314_0, uc314_0, rfl, ul314_0, ge314_0⟩ := Kd.FK_slice_open hMe314
           have hv314_0 := hcc314 0 _ rfl
           rw [Nat.add_zero, show ((Kd.slice 3 (Kd.int .i64))).sz = 1 from rfl, Nat.mul_one] at hv314_0
           replace hv314_0 := Option.some.inj (hv314_0.symm.trans hx314_0)
           injection hv314_0 with hva_ hvn_ hvc_
           rw [hva_] at ge314_0
           rw [hvc_] at ul314_0
           have HL314_0 := Aside0.mk (show Kd.V (Kd.int .i64) 3 _ w.heap.size _ _ (rd_L2 t305 x13_2) from Kd.V_mk ul314_0 ge314_0)
           clear hva_ hvn_ hvc_ ge314_0 ul314_0
           clear hcc314 hce314
           have HR314_0 := Aside0.mk hi314_0
           have HC314_0 := Aside0.mk hl314_0
           clear hi314_0 hl314_0
           replace p314 := eq_true p314
           replace q314 := eq_true q314
           obtain ⟨Ao48, co48, eo48⟩ := Kd.N_slice HO_12.out
           subst eo48
           have p315 : 0 ≤ (x13_2 : Int) := of_decide_eq_true (by first | (with_reducible assumption) | assumption)
           have q315 : x13_2 < (t308.length : Int) := of_decide_eq_true (by first | (with_reducible assumption) | assumption)
           obtain ⟨ad315, A315_0, c315_0, e315, hx315_0, hl315_0, hi315_0⟩ := at_L2 (Kd.N_reads' HO_12.out).2.2 x13_2 p315 q315
           cases e315
           obtain ⟨ce315, hce315, hMe315, hcc315⟩ := Kd.N_get HO_12.out [] x13_2 p315 (by first | exact q315 | exact of_decide_eq_true (by first | (with_reducible assumption) | assumption) | (have e_ := (Kd.N_reads' HO_12.out).1; omega))
           obtain ⟨ua315_0, uc315_0, rfl, ul315_0, ge315_0⟩ := Kd.FK_slice_open hMe315
           have hv315_0 := hcc315 0 _ rfl
           rw [Nat.add_zero, show ((Kd.slice 3 (Kd.int .i64))).sz = 1 from rfl, Nat.mul_one] at hv315_0
           replace hv315_0 := Option.some.inj (hv315_0.symm.trans hx315_0)
           injection hv315_0 with hva_ hvn_ hvc_
           rw [hva_] at ge315_0
           rw [hvc_] at ul315_0
           have HL315_0 := Aside0.mk (show Kd.V (Kd.int .i64) 3 _ w.heap.size _ _ (rd_L2 t308 x13_2) from Kd.V_mk ul315_0 ge315_0)
           clear hva_ hvn_ hvc_ ge315_0 ul315_0
           clear hcc315 hce315
           have HR315_0 := Aside0.mk hi315_0
           have HC315_0 := Aside0.mk hl315_0
           clear hi315_0 hl315_0
           replace p315 := eq_true p315
           replace q315 := eq_true q315
           go_wp2
           repeat (go_quiet (fail); try go_wp2)
           go_loopg [14] k2 (fun kq v14 w' => ∃ (x14_3 : Int), v14 = .int .i64 x14_3 ∧ Aside0 (proofmarklaw17_CnfApart.l1 kq t295 (wrap64 (a2)) t305 t308 x13_2 x14_3 = some r) ∧ Aside0 (kq ≤ k2) ∧ Aside0 (Kd.N (Kd.slice 3 (Kd.int .i64)) 29 w' w.heap.size (fun k_ => some k_ ≠ ((.slice (some ad315) t308.length co48) : Value).ownBlock ∧ k_ ≠ gb304) (.slice (some ad314) t305.length co47) t305) ∧ Aside0 (Kd.N (Kd.slice 3 (Kd.int .i64)) 29 w' w.heap.size (fun k_ => some k_ ≠ ((.slice (some ad314) t305.length co47) : Value).ownBlock ∧ k_ ≠ gb304) (.slice (some ad315) t308.length co48) t308) ∧ Aside0 (Kd.V k49 49 w' w.heap.size (fun k_ => some k_ ≠ ((.slice (some ad314) t305.length co47) : Value).ownBlock ∧ some k_ ≠ ((.slice (some ad315) t308.length co48) : Value).ownBlock ∧ k_ ≠ gb304) (.slice Ao16 t298.length co16) t298) ∧ Aside0 (w'.heap[gb304]? = some (.cells #[.int .i64 t297, (.slice Ao16 t298.length co16)] 28 (0, 0))) ∧ Aside0 (Kd.C (Kd.int .i64) w' A314_0 (rd_L2 t305 x13_2).length (rd_L2 t305 x13_2)) ∧ Aside0 (Kd.C (Kd.int .i64) w' A315_0 (rd_L2 t308 x13_2).length (rd_L2 t308 x13_2)) ∧ Aside0 (Below w.heap.size w w'))
           case atStart => exact ⟨(0), (by first | rfl | (simp; done) | (simp [*]; done)), H', ⟨Nat.le_refl _⟩, ⟨by (with_reducible repeat (first | apply Kd.N_alloc | apply Kd.N_drewN | apply Kd.N_drew)); exact HO_11.out⟩, ⟨by (with_reducible repeat (first | apply Kd.N_alloc | apply Kd.N_drewN | apply Kd.N_drew)); exact HO_12.out⟩, ⟨by (with_reducible repeat (first | apply Kd.V_alloc | apply Kd.V_drewN | apply Kd.V_drew)); exact HO_305001.out⟩, ⟨by (with_reducible repeat (first | refine blk_drewN ?_ _ | refine blk_drew ?_ | refine blk_alloc ?_ _)); exact BK304.out⟩, ⟨by repeat (first | (with_reducible exact HR314_0.out) | (with_reducible refine Kd.C_alloc ?_ _) | (with_reducible refine Kd.C_drewN ?_ _) | (with_reducible refine Kd.C_drew ?_) | exact HR314_0.out)⟩, ⟨by repeat (first | (with_reducible exact HR315_0.out) | (with_reducible refine Kd.C_alloc ?_ _) | (with_reducible refine Kd.C_drewN ?_ _) | (with_reducible refine Kd.C_drew ?_) | exact HR315_0.out)⟩, ⟨by repeat (first | (with_reducible first | exact HB.out | apply below_alloc | apply pw_below_drewN | apply below_drew1 | refine below_set ?_ GE304.out) | exact HB.out)⟩⟩
           case round =>
            clear H'
            try clear c1
            try clear c2
            try clear p2
            try clear c3
            try clear p3
            try clear q3
            try clear hx3
            try clear c4
            try clear c6
            try clear p6
            try clear c20
            try clear c20b0
            try clear c20b1
            try clear c20b2
            try clear c23
            try clear p25
            try clear c31
            try clear p31
            try clear q31
            try clear hx31
            try clear c42
            try clear c43
            try clear c43b0
            try clear c44
            try clear c44b0
            try clear c45
            try clear c45b0
            try clear c46
            try clear c46b0
            try clear c46b1
            try clear c46b2
            try clear hcz15_0
            try clear hcz15_1
            try clear hcz18_0
            try clear hcz18_1
            try clear hcz29_0
            try clear hcz29_1
            try clear hcz32_0
            try clear hcz32_1
            try clear hcz37_0
            try clear hcz37_1
            try clear hfz15_0
            try clear hfz15_1
            try clear hfz18_0
            try clear hfz18_1
            try clear hfz29_0
            try clear hfz29_1
            try clear hfz32_0
            try clear hfz32_1
            try clear hfz37_0
            try clear hfz37_1
            try clear hx314_0
            try clear hx315_0
            try clear p2
            try clear p25
            try clear p314
            try clear p315
            try clear p6
            try clear q314
            try clear q315
            obtain ⟨x14_3, rfl, HA, HK3, HO_11, HO_12, HO_305001, BK304, HR314_0, HR315_0, HB⟩ := hrel
            cases gk with
            | zero => exact absurd HA.out (by simp [proofmarklaw17_CnfApart.l1])
            | succ k3 =>
             have H := HA.out
             clear HA
             simp only [proofmarklaw17_CnfApart.l1] at H
             by_cases c49 : 0 ≤ x13_2
             ·rw [if_pos c49] at H
              have c49b0 : decide (0 ≤ x13_2) = true := decide_eq_true c49
              clear c49
              by_cases c50 : x13_2 < (t305.length : Int)
              ·rw [if_pos c50] at H
               have c50b0 : decide (x13_2 < (t305.length : Int)) = true := decide_eq_true c50
               clear c50
               by_cases c51 : x14_3 < ((rd_L2 t305 x13_2).length : Int)
               ·rw [if_pos c51] at H
                have c51b0 : decide (x14_3 < ((rd_L2 t305 x13_2).length : Int)) = true := decide_eq_true c51
                clear c51
                by_cases c52 : 0 ≤ x14_3
                ·rw [if_pos c52] at H
                 have c52b0 : decide (0 ≤ x14_3) = true := decide_eq_true c52
                 clear c52
                 by_cases c53 : (rd (rd_L2 t305 x13_2) x14_3) < 0
                 ·rw [if_pos c53] at H
                  have c53b0 : decide ((rd (rd_L2 t305 x13_2) x14_3) < 0) = true := decide_eq_true c53
                  clear c53
                  by_cases c54 : x13_2 < (t308.length : Int)
                  ·rw [if_pos c54] at H
                   have c54b0 : decide (x13_2 < (t308.length : Int)) = true := decide_eq_true c54
                   clear c54
                   by_cases c55 : x14_3 < ((rd_L2 t308 x13_2).length : Int)
                   ·rw [if_pos c55] at H
                    have c55b0 : decide (x14_3 < ((rd_L2 t308 x13_2).length : Int)) = true := decide_eq_true c55
                    clear c55
                    by_cases c56 : (rd (rd_L2 t308 x13_2) x14_3) = (wrap64 ((rd (rd_L2 t305 x13_2) x14_3) - (wrap64 (a2))))
                    ·rw [if_pos c56] at H
                     have c56b0 : ((rd (rd_L2 t308 x13_2) x14_3) == (wrap64 ((rd (rd_L2 t305 x13_2) x14_3) - (wrap64 (a2))))) = true := beq_iff_eq.mpr c56
                     have c56b1 : ((rd (rd_L2 t308 x13_2) x14_3) != (wrap64 ((rd (rd_L2 t305 x13_2) x14_3) - (wrap64 (a2))))) = false := bne_eq_false_iff_eq.mpr c56
                     clear c56
                     have H' := Aside0.mk H
                     clear H
                     have p316 : 0 ≤ (x13_2 : Int) := of_decide_eq_true (by first | (with_reducible assumption) | assumption)
                     have q316 : x13_2 < (t305.length : Int) := of_decide_eq_true (by first | (with_reducible assumption) | assumption)
                     obtain ⟨ad316, A316_0, c316_0, e316, hx316_0, hl316_0, hi316_0⟩ := at_L2 (Kd.N_reads' HO_11.out).2.2 x13_2 p316 q316
                     obtain rfl : ad314 = ad316 := (by injection e316)
                     obtain ⟨ce316, hce316, hMe316, hcc316⟩ := Kd.N_get HO_11.out [] x13_2 p316 (by first | exact q316 | exact of_decide_eq_true (by first | (with_reducible assumption) | assumption) | (have e_ := (Kd.N_reads' HO_11.out).1; omega))
                     obtain ⟨ua316_0, uc316_0, rfl, ul316_0, ge316_0⟩ := Kd.FK_slice_open hMe316
                     have hv316_0 := hcc316 0 _ rfl
                     rw [Nat.add_zero, show ((Kd.slice 3 (Kd.int .i64))).sz = 1 from rfl, Nat.mul_one] at hv316_0
                     replace hv316_0 := Option.some.inj (hv316_0.symm.trans hx316_0)
                     injection hv316_0 with hva_ hvn_ hvc_
                     rw [hva_] at ge316_0
                     rw [hvc_] at ul316_0
                     have HL316_0 := Aside0.mk (show Kd.V (Kd.int .i64) 3 _ w.heap.size _ _ (rd_L2 t305 x13_2) from Kd.V_mk ul316_0 ge316_0)
                     clear hva_ hvn_ hvc_ ge316_0 ul316_0
                     clear hcc316 hce316
                     have HR316_0 := Aside0.mk hi316_0
                     have HC316_0 := Aside0.mk hl316_0
                     clear hi316_0 hl316_0
                     replace p316 := eq_true p316
                     replace q316 := eq_true q316
                     have p317 : 0 ≤ (x13_2 : Int) := of_decide_eq_true (by first | (with_reducible assumption) | assumption)
                     have q317 : x13_2 < (t305.length : Int) := of_decide_eq_true (by first | (with_reducible assumption) | assumption)
                     obtain ⟨ad317, A317_0, c317_0, e317, hx317_0, hl317_0, hi317_0⟩ := at_L2 (Kd.N_reads' HO_11.out).2.2 x13_2 p317 q317
                     obtain rfl : ad314 = ad317 := (by injection e317)
                     obtain ⟨ce317, hce317, hMe317, hcc317⟩ := Kd.N_get HO_11.out [] x13_2 p317 (by first | exact q317 | exact of_decide_eq_true (by first | (with_reducible assumption) | assumption) | (have e_ := (Kd.N_reads' HO_11.out).1; omega))
                     obtain ⟨ua317_0, uc317_0, rfl, ul317_0, ge317_0⟩ := Kd.FK_slice_open hMe317
                     have hv317_0 := hcc317 0 _ rfl
                     rw [Nat.add_zero, show ((Kd.slice 3 (Kd.int .i64))).sz = 1 from rfl, Nat.mul_one] at hv317_0
                     replace hv317_0 := Option.some.inj (hv317_0.symm.trans hx317_0)
                     injection hv317_0 with hva_ hvn_ hvc_
                     rw [hva_] at ge317_0
                     rw [hvc_] at ul317_0
                     have HL317_0 := Aside0.mk (show Kd.V (Kd.int .i64) 3 _ w.heap.size _ _ (rd_L2 t305 x13_2) from Kd.V_mk ul317_0 ge317_0)
                     clear hva_ hvn_ hvc_ ge317_0 ul317_0
                     clear hcc317 hce317
                     have HR317_0 := Aside0.mk hi317_0
                     have HC317_0 := Aside0.mk hl317_0
                     clear hi317_0 hl317_0
                     replace p317 := eq_true p317
                     replace q317 := eq_true q317
                     have ea_ := Option.some.inj (hx316_0.symm.trans hx317_0)
                     injection ea_ with ea_ en_ ec_
                     subst ea_
                     subst ec_
                     clear en_
                     have p318 : 0 ≤ (x14_3 : Int) := of_decide_eq_true (by first | (with_reducible assumption) | assumption)
                     have q318 : x14_3 < ((rd_L2 t305 x13_2).length : Int) := of_decide_eq_true (by first | (with_reducible assumption) | assumption)
                     obtain ⟨ad318, e318, hx318_0⟩ := Kd.at_int (by repeat (first | (with_reducible exact HR317_0.out) | (with_reducible refine Kd.C_alloc ?_ _) | (with_reducible refine Kd.C_drewN ?_ _) | (with_reducible refine Kd.C_drew ?_) | exact HR317_0.out)) x14_3 p318 q318
                     cases e318
                     replace p318 := eq_true p318
                     replace q318 := eq_true q318
                     have p319 : 0 ≤ (x13_2 : Int) := of_decide_eq_true (by first | (with_reducible assumption) | assumption)
                     have q319 : x13_2 < (t305.length : Int) := of_decide_eq_true (by first | (with_reducible assumption) | assumption)
                     obtain ⟨ad319, A319_0, c319_0, e319, hx319_0, hl319_0, hi319_0⟩ := at_L2 (Kd.N_reads' HO_11.out).2.2 x13_2 p319 q319
                     obtain rfl : ad314 = ad319 := (by injection e319)
                     obtain ⟨ce319, hce319, hMe319, hcc319⟩ := Kd.N_get HO_11.out [] x13_2 p319 (by first | exact q319 | exact of_decide_eq_true (by first | (with_reducible assumption) | assumption) | (have e_ := (Kd.N_reads' HO_11.out).1; omega))
                     obtain ⟨ua319_0, uc319_0, rfl, ul319_0, ge319_0⟩ := Kd.FK_slice_open hMe319
                     have hv319_0 := hcc319 0 _ rfl
                     rw [Nat.add_zero, show ((Kd.slice 3 (Kd.int .i64))).sz = 1 from rfl, Nat.mul_one] at hv319_0
                     replace hv319_0 := Option.some.inj (hv319_0.symm.trans hx319_0)
                     injection hv319_0 with hva_ hvn_ hvc_
                     rw [hva_] at ge319_0
                     rw [hvc_] at ul319_0
                     have HL319_0 := Aside0.mk (show Kd.V (Kd.int .i64) 3 _ w.heap.size _ _ (rd_L2 t305 x13_2) from Kd.V_mk ul319_0 ge319_0)
                     clear hva_ hvn_ hvc_ ge319_0 ul319_0
                     clear hcc319 hce319
                     have HR319_0 := Aside0.mk hi319_0
                     have HC319_0 := Aside0.mk hl319_0
                     clear hi319_0 hl319_0
                     replace p319 := eq_true p319
                     replace q319 := eq_true q319
                     have ea_ := Option.some.inj (hx316_0.symm.trans hx319_0)
                     injection ea_ with ea_ en_ ec_
                     subst ea_
                     subst ec_
                     clear en_
                     have p320 : 0 ≤ (x14_3 : Int) := of_decide_eq_true (by first | (with_reducible assumption) | assumption)
                     have q320 : x14_3 < ((rd_L2 t305 x13_2).length : Int) := of_decide_eq_true (by first | (with_reducible assumption) | assumption)
                     obtain ⟨ad320, e320, hx320_0⟩ := Kd.at_int (by repeat (first | (with_reducible exact HR319_0.out) | (with_reducible refine Kd.C_alloc ?_ _) | (with_reducible refine Kd.C_drewN ?_ _) | (with_reducible refine Kd.C_drew ?_) | exact HR319_0.out)) x14_3 p320 q320
                     cases e320
                     replace p320 := eq_true p320
                     replace q320 := eq_true q320
                     have p321 : 0 ≤ (x13_2 : Int) := of_decide_eq_true (by first | (with_reducible assumption) | assumption)
                     have q321 : x13_2 < (t305.length : Int) := of_decide_eq_true (by first | (with_reducible assumption) | assumption)
                     obtain ⟨ad321, A321_0, c321_0, e321, hx321_0, hl321_0, hi321_0⟩ := at_L2 (Kd.N_reads' HO_11.out).2.2 x13_2 p321 q321
                     obtain rfl : ad314 = ad321 := (by injection e321)
                     obtain ⟨ce321, hce321, hMe321, hcc321⟩ := Kd.N_get HO_11.out [] x13_2 p321 (by first | exact q321 | exact of_decide_eq_true (by first | (with_reducible assumption) | assumption) | (have e_ := (Kd.N_reads' HO_11.out).1; omega))
                     obtain ⟨ua321_0, uc321_0, rfl, ul321_0, ge321_0⟩ := Kd.FK_slice_open hMe321
                     have hv321_0 := hcc321 0 _ rfl
                     rw [Nat.add_zero, show ((Kd.slice 3 (Kd.int .i64))).sz = 1 from rfl, Nat.mul_one] at hv321_0
                     replace hv321_0 := Option.some.inj (hv321_0.symm.trans hx321_0)
                     injection hv321_0 with hva_ hvn_ hvc_
                     rw [hva_] at ge321_0
                     rw [hvc_] at ul321_0
                     have HL321_0 := Aside0.mk (show Kd.V (Kd.int .i64) 3 _ w.heap.size _ _ (rd_L2 t305 x13_2) from Kd.V_mk ul321_0 ge321_0)
                     clear hva_ hvn_ hvc_ ge321_0 ul321_0
                     clear hcc321 hce321
                     have HR321_0 := Aside0.mk hi321_0
                     have HC321_0 := Aside0.mk hl321_0
                     clear hi321_0 hl321_0
                     replace p321 := eq_true p321
                     replace q321 := eq_true q321
                     have ea_ := Option.some.inj (hx316_0.symm.trans hx321_0)
                     injection ea_ with ea_ en_ ec_
                     subst ea_
                     subst ec_
                     clear en_
                     have p322 : 0 ≤ (x14_3 : Int) := of_decide_eq_true (by first | (with_reducible assumption) | assumption)
                     have q322 : x14_3 < ((rd_L2 t305 x13_2).length : Int) := of_decide_eq_true (by first | (with_reducible assumption) | assumption)
                     obtain ⟨ad322, e322, hx322_0⟩ := Kd.at_int (by repeat (first | (with_reducible exact HR321_0.out) | (with_reducible refine Kd.C_alloc ?_ _) | (with_reducible refine Kd.C_drewN ?_ _) | (with_reducible refine Kd.C_drew ?_) | exact HR321_0.out)) x14_3 p322 q322
                     cases e322
                     replace p322 := eq_true p322
                     replace q322 := eq_true q322
                     have p323 : 0 ≤ (x13_2 : Int) := of_decide_eq_true (by first | (with_reducible assumption) | assumption)
                     have q323 : x13_2 < (t308.length : Int) := of_decide_eq_true (by first | (with_reducible assumption) | assumption)
                     obtain ⟨ad323, A323_0, c323_0, e323, hx323_0, hl323_0, hi323_0⟩ := at_L2 (Kd.N_reads' HO_12.out).2.2 x13_2 p323 q323
                     obtain rfl : ad315 = ad323 := (by injection e323)
                     obtain ⟨ce323, hce323, hMe323, hcc323⟩ := Kd.N_get HO_12.out [] x13_2 p323 (by first | exact q323 | exact of_decide_eq_true (by first | (with_reducible assumption) | assumption) | (have e_ := (Kd.N_reads' HO_12.out).1; omega))
                     obtain ⟨ua323_0, uc323_0, rfl, ul323_0, ge323_0⟩ := Kd.FK_slice_open hMe323
                     have hv323_0 := hcc323 0 _ rfl
                     rw [Nat.add_zero, show ((Kd.slice 3 (Kd.int .i64))).sz = 1 from rfl, Nat.mul_one] at hv323_0
                     replace hv323_0 := Option.some.inj (hv323_0.symm.trans hx323_0)
                     injection hv323_0 with hva_ hvn_ hvc_
                     rw [hva_] at ge323_0
                     rw [hvc_] at ul323_0
                     have HL323_0 := Aside0.mk (show Kd.V (Kd.int .i64) 3 _ w.heap.size _ _ (rd_L2 t308 x13_2) from Kd.V_mk ul323_0 ge323_0)
                     clear hva_ hvn_ hvc_ ge323_0 ul323_0
                     clear hcc323 hce323
                     have HR323_0 := Aside0.mk hi323_0
                     have HC323_0 := Aside0.mk hl323_0
                     clear hi323_0 hl323_0
                     replace p323 := eq_true p323
                     replace q323 := eq_true q323
                     have p324 : 0 ≤ (x14_3 : Int) := of_decide_eq_true (by first | (with_reducible assumption) | assumption)
                     have q324 : x14_3 < ((rd_L2 t308 x13_2).length : Int) := of_decide_eq_true (by first | (with_reducible assumption) | assumption)
                     obtain ⟨ad324, e324, hx324_0⟩ := Kd.at_int (by repeat (first | (with_reducible exact HR323_0.out) | (with_reducible refine Kd.C_alloc ?_ _) | (with_reducible refine Kd.C_drewN ?_ _) | (with_reducible refine Kd.C_drew ?_) | exact HR323_0.out)) x14_3 p324 q324
                     cases e324
                     replace p324 := eq_true p324
                     replace q324 := eq_true q324
                     go_wp2
                     repeat (go_quiet (fail); try go_wp2)
                     go_roundg k3
                     case measure => have := HJ10.out; have := HK2.out; have := HK3.out; omega
                     case rel => exact ⟨(wrap64 (x14_3 + 1)), (by first | rfl | (simp; done) | (simp [*]; done)), H', ⟨by have := HJ10.out; have := HK2.out; have := HK3.out; omega⟩, ⟨by (with_reducible repeat (first | apply Kd.N_alloc | apply Kd.N_drewN | apply Kd.N_drew)); exact HO_11.out⟩, ⟨by (with_reducible repeat (first | apply Kd.N_alloc | apply Kd.N_drewN | apply Kd.N_drew)); exact HO_12.out⟩, ⟨by (with_reducible repeat (first | apply Kd.V_alloc | apply Kd.V_drewN | apply Kd.V_drew)); exact HO_305001.out⟩, ⟨by (with_reducible repeat (first | refine blk_drewN ?_ _ | refine blk_drew ?_ | refine blk_alloc ?_ _)); exact BK304.out⟩, ⟨by repeat (first | (with_reducible exact HR314_0.out) | (with_reducible refine Kd.C_alloc ?_ _) | (with_reducible refine Kd.C_drewN ?_ _) | (with_reducible refine Kd.C_drew ?_) | exact HR314_0.out)⟩, ⟨by repeat (first | (with_reducible exact HR315_0.out) | (with_reducible refine Kd.C_alloc ?_ _) | (with_reducible refine Kd.C_drewN ?_ _) | (with_reducible refine Kd.C_drew ?_) | exact HR315_0.out)⟩, ⟨by repeat (first | (with_reducible first | exact HB.out | apply below_alloc | apply pw_below_drewN | apply below_drew1 | refine below_set ?_ GE304.out) | exact HB.out)⟩⟩
                    ·rw [if_neg c56] at H
                     have c56b0 : ((rd (rd_L2 t308 x13_2) x14_3) == (wrap64 ((rd (rd_L2 t305 x13_2) x14_3) - (wrap64 (a2))))) = false := beq_eq_false_iff_ne.mpr c56
                     have c56b1 : ((rd (rd_L2 t308 x13_2) x14_3) != (wrap64 ((rd (rd_L2 t305 x13_2) x14_3) - (wrap64 (a2))))) = true := bne_iff_ne.mpr c56
                     obtain rfl := Option.some.inj H
                     have p316 : 0 ≤ (x13_2 : Int) := of_decide_eq_true (by first | (with_reducible assumption) | assumption)
                     have q316 : x13_2 < (t305.length : Int) := of_decide_eq_true (by first | (with_reducible assumption) | assumption)
                     obtain ⟨ad316, A316_0, c316_0, e316, hx316_0, hl316_0, hi316_0⟩ := at_L2 (Kd.N_reads' HO_11.out).2.2 x13_2 p316 q316
                     obtain rfl : ad314 = ad316 := (by injection e316)
                     obtain ⟨ce316, hce316, hMe316, hcc316⟩ := Kd.N_get HO_11.out [] x13_2 p316 (by first | exact q316 | exact of_decide_eq_true (by first | (with_reducible assumption) | assumption) | (have e_ := (Kd.N_reads' HO_11.out).1; omega))
                     obtain ⟨ua316_0, uc316_0, rfl, ul316_0, ge316_0⟩ := Kd.FK_slice_open hMe316
                     have hv316_0 := hcc316 0 _ rfl
                     rw [Nat.add_zero, show ((Kd.slice 3 (Kd.int .i64))).sz = 1 from rfl, Nat.mul_one] at hv316_0
                     replace hv316_0 := Option.some.inj (hv316_0.symm.trans hx316_0)
                     injection hv316_0 with hva_ hvn_ hvc_
                     rw [hva_] at ge316_0
                     rw [hvc_] at ul316_0
                     have HL316_0 := Aside0.mk (show Kd.V (Kd.int .i64) 3 _ w.heap.size _ _ (rd_L2 t305 x13_2) from Kd.V_mk ul316_0 ge316_0)
                     clear hva_ hvn_ hvc_ ge316_0 ul316_0
                     clear hcc316 hce316
                     have HR316_0 := Aside0.mk hi316_0
                     have HC316_0 := Aside0.mk hl316_0
                     clear hi316_0 hl316_0
                     replace p316 := eq_true p316
                     replace q316 := eq_true q316
                     have p317 : 0 ≤ (x13_2 : Int) := of_decide_eq_true (by first | (with_reducible assumption) | assumption)
                     have q317 : x13_2 < (t305.length : Int) := of_decide_eq_true (by first | (with_reducible assumption) | assumption)
                     obtain ⟨ad317, A317_0, c317_0, e317, hx317_0, hl317_0, hi317_0⟩ := at_L2 (Kd.N_reads' HO_11.out).2.2 x13_2 p317 q317
                     obtain rfl : ad314 = ad317 := (by injection e317)
                     obtain ⟨ce317, hce317, hMe317, hcc317⟩ := Kd.N_get HO_11.out [] x13_2 p317 (by first | exact q317 | exact of_decide_eq_true (by first | (with_reducible assumption) | assumption) | (have e_ := (Kd.N_reads' HO_11.out).1; omega))
                     obtain ⟨ua317_0, uc317_0, rfl, ul317_0, ge317_0⟩ := Kd.FK_slice_open hMe317
                     have hv317_0 := hcc317 0 _ rfl
                     rw [Nat.add_zero, show ((Kd.slice 3 (Kd.int .i64))).sz = 1 from rfl, Nat.mul_one] at hv317_0
                     replace hv317_0 := Option.some.inj (hv317_0.symm.trans hx317_0)
                     injection hv317_0 with hva_ hvn_ hvc_
                     rw [hva_] at ge317_0
                     rw [hvc_] at ul317_0
                     have HL317_0 := Aside0.mk (show Kd.V (Kd.int .i64) 3 _ w.heap.size _ _ (rd_L2 t305 x13_2) from Kd.V_mk ul317_0 ge317_0)
                     clear hva_ hvn_ hvc_ ge317_0 ul317_0
                     clear hcc317 hce317
                     have HR317_0 := Aside0.mk hi317_0
                     have HC317_0 := Aside0.mk hl317_0
                     clear hi317_0 hl317_0
                     replace p317 := eq_true p317
                     replace q317 := eq_true q317
                     have ea_ := Option.some.inj (hx316_0.symm.trans hx317_0)
                     injection ea_ with ea_ en_ ec_
                     subst ea_
                     subst ec_
                     clear en_
                     have p318 : 0 ≤ (x14_3 : Int) := of_decide_eq_true (by first | (with_reducible assumption) | assumption)
                     have q318 : x14_3 < ((rd_L2 t305 x13_2).length : Int) := of_decide_eq_true (by first | (with_reducible assumption) | assumption)
                     obtain ⟨ad318, e318, hx318_0⟩ := Kd.at_int (by repeat (first | (with_reducible exact HR317_0.out) | (with_reducible refine Kd.C_alloc ?_ _) | (with_reducible refine Kd.C_drewN ?_ _) | (with_reducible refine Kd.C_drew ?_) | exact HR317_0.out)) x14_3 p318 q318
                     cases e318
                     replace p318 := eq_true p318
                     replace q318 := eq_true q318
                     have p319 : 0 ≤ (x13_2 : Int) := of_decide_eq_true (by first | (with_reducible assumption) | assumption)
                     have q319 : x13_2 < (t305.length : Int) := of_decide_eq_true (by first | (with_reducible assumption) | assumption)
                     obtain ⟨ad319, A319_0, c319_0, e319, hx319_0, hl319_0, hi319_0⟩ := at_L2 (Kd.N_reads' HO_11.out).2.2 x13_2 p319 q319
                     obtain rfl : ad314 = ad319 := (by injection e319)
                     obtain ⟨ce319, hce319, hMe319, hcc319⟩ := Kd.N_get HO_11.out [] x13_2 p319 (by first | exact q319 | exact of_decide_eq_true (by first | (with_reducible assumption) | assumption) | (have e_ := (Kd.N_reads' HO_11.out).1; omega))
                     obtain ⟨ua319_0, uc319_0, rfl, ul319_0, ge319_0⟩ := Kd.FK_slice_open hMe319
                     have hv319_0 := hcc319 0 _ rfl
                     rw [Nat.add_zero, show ((Kd.slice 3 (Kd.int .i64))).sz = 1 from rfl, Nat.mul_one] at hv319_0
                     replace hv319_0 := Option.some.inj (hv319_0.symm.trans hx319_0)
                     injection hv319_0 with hva_ hvn_ hvc_
                     rw [hva_] at ge319_0
                     rw [hvc_] at ul319_0
                     have HL319_0 := Aside0.mk (show Kd.V (Kd.int .i64) 3 _ w.heap.size _ _ (rd_L2 t305 x13_2) from Kd.V_mk ul319_0 ge319_0)
                     clear hva_ hvn_ hvc_ ge319_0 ul319_0
                     clear hcc319 hce319
                     have HR319_0 := Aside0.mk hi319_0
                     have HC319_0 := Aside0.mk hl319_0
                     clear hi319_0 hl319_0
                     replace p319 := eq_true p319
                     replace q319 := eq_true q319
                     have ea_ := Option.some.inj (hx316_0.symm.trans hx319_0)
                     injection ea_ with ea_ en_ ec_
                     subst ea_
                     subst ec_
                     clear en_
                     have p320 : 0 ≤ (x14_3 : Int) := of_decide_eq_true (by first | (with_reducible assumption) | assumption)
                     have q320 : x14_3 < ((rd_L2 t305 x13_2).length : Int) := of_decide_eq_true (by first | (with_reducible assumption) | assumption)
                     obtain ⟨ad320, e320, hx320_0⟩ := Kd.at_int (by repeat (first | (with_reducible exact HR319_0.out) | (with_reducible refine Kd.C_alloc ?_ _) | (with_reducible refine Kd.C_drewN ?_ _) | (with_reducible refine Kd.C_drew ?_) | exact HR319_0.out)) x14_3 p320 q320
                     cases e320
                     replace p320 := eq_true p320
                     replace q320 := eq_true q320
                     have p321 : 0 ≤ (x13_2 : Int) := of_decide_eq_true (by first | (with_reducible assumption) | assumption)
                     have q321 : x13_2 < (t305.length : Int) := of_decide_eq_true (by first | (with_reducible assumption) | assumption)
                     obtain ⟨ad321, A321_0, c321_0, e321, hx321_0, hl321_0, hi321_0⟩ := at_L2 (Kd.N_reads' HO_11.out).2.2 x13_2 p321 q321
                     obtain rfl : ad314 = ad321 := (by injection e321)
                     obtain ⟨ce321, hce321, hMe321, hcc321⟩ := Kd.N_get HO_11.out [] x13_2 p321 (by first | exact q321 | exact of_decide_eq_true (by first | (with_reducible assumption) | assumption) | (have e_ := (Kd.N_reads' HO_11.out).1; omega))
                     obtain ⟨ua321_0, uc321_0, rfl, ul321_0, ge321_0⟩ := Kd.FK_slice_open hMe321
                     have hv321_0 := hcc321 0 _ rfl
                     rw [Nat.add_zero, show ((Kd.slice 3 (Kd.int .i64))).sz = 1 from rfl, Nat.mul_one] at hv321_0
                     replace hv321_0 := Option.some.inj (hv321_0.symm.trans hx321_0)
                     injection hv321_0 with hva_ hvn_ hvc_
                     rw [hva_] at ge321_0
                     rw [hvc_] at ul321_0
                     have HL321_0 := Aside0.mk (show Kd.V (Kd.int .i64) 3 _ w.heap.size _ _ (rd_L2 t305 x13_2) from Kd.V_mk ul321_0 ge321_0)
                     clear hva_ hvn_ hvc_ ge321_0 ul321_0
                     clear hcc321 hce321
                     have HR321_0 := Aside0.mk hi321_0
                     have HC321_0 := Aside0.mk hl321_0
                     clear hi321_0 hl321_0
                     replace p321 := eq_true p321
                     replace q321 := eq_true q321
                     have ea_ := Option.some.inj (hx316_0.symm.trans hx321_0)
                     injection ea_ with ea_ en_ ec_
                     subst ea_
                     subst ec_
                     clear en_
                     have p322 : 0 ≤ (x14_3 : Int) := of_decide_eq_true (by first | (with_reducible assumption) | assumption)
                     have q322 : x14_3 < ((rd_L2 t305 x13_2).length : Int) := of_decide_eq_true (by first | (with_reducible assumption) | assumption)
                     obtain ⟨ad322, e322, hx322_0⟩ := Kd.at_int (by repeat (first | (with_reducible exact HR321_0.out) | (with_reducible refine Kd.C_alloc ?_ _) | (with_reducible refine Kd.C_drewN ?_ _) | (with_reducible refine Kd.C_drew ?_) | exact HR321_0.out)) x14_3 p322 q322
                     cases e322
                     replace p322 := eq_true p322
                     replace q322 := eq_true q322
                     have p323 : 0 ≤ (x13_2 : Int) := of_decide_eq_true (by first | (with_reducible assumption) | assumption)
                     have q323 : x13_2 < (t308.length : Int) := of_decide_eq_true (by first | (with_reducible assumption) | assumption)
                     obtain ⟨ad323, A323_0, c323_0, e323, hx323_0, hl323_0, hi323_0⟩ := at_L2 (Kd.N_reads' HO_12.out).2.2 x13_2 p323 q323
                     obtain rfl : ad315 = ad323 := (by injection e323)
                     obtain ⟨ce323, hce323, hMe323, hcc323⟩ := Kd.N_get HO_12.out [] x13_2 p323 (by first | exact q323 | exact of_decide_eq_true (by first | (with_reducible assumption) | assumption) | (have e_ := (Kd.N_reads' HO_12.out).1; omega))
                     obtain ⟨ua323_0, uc323_0, rfl, ul323_0, ge323_0⟩ := Kd.FK_slice_open hMe323
                     have hv323_0 := hcc323 0 _ rfl
                     rw [Nat.add_zero, show ((Kd.slice 3 (Kd.int .i64))).sz = 1 from rfl, Nat.mul_one] at hv323_0
                     replace hv323_0 := Option.some.inj (hv323_0.symm.trans hx323_0)
                     injection hv323_0 with hva_ hvn_ hvc_
                     rw [hva_] at ge323_0
                     rw [hvc_] at ul323_0
                     have HL323_0 := Aside0.mk (show Kd.V (Kd.int .i64) 3 _ w.heap.size _ _ (rd_L2 t308 x13_2) from Kd.V_mk ul323_0 ge323_0)
                     clear hva_ hvn_ hvc_ ge323_0 ul323_0
                     clear hcc323 hce323
                     have HR323_0 := Aside0.mk hi323_0
                     have HC323_0 := Aside0.mk hl323_0
                     clear hi323_0 hl323_0
                     replace p323 := eq_true p323
                     replace q323 := eq_true q323
                     have p324 : 0 ≤ (x14_3 : Int) := of_decide_eq_true (by first | (with_reducible assumption) | assumption)
                     have q324 : x14_3 < ((rd_L2 t308 x13_2).length : Int) := of_decide_eq_true (by first | (with_reducible assumption) | assumption)
                     obtain ⟨ad324, e324, hx324_0⟩ := Kd.at_int (by repeat (first | (with_reducible exact HR323_0.out) | (with_reducible refine Kd.C_alloc ?_ _) | (with_reducible refine Kd.C_drewN ?_ _) | (with_reducible refine Kd.C_drew ?_) | exact HR323_0.out)) x14_3 p324 q324
                     cases e324
                     replace p324 := eq_true p324
                     replace q324 := eq_true q324
                     go_wp2
                     repeat (go_quiet (fail); try go_wp2)
                     go_ret
                     exact ⟨by first | rfl | (simp [errW_none, errW_some] <;> rfl) | (simp [*, errW_none, errW_some] <;> rfl), by repeat (first | (with_reducible first | exact HB.out | apply below_alloc | apply pw_below_drewN | apply below_drew1 | refine below_set ?_ GE304.out) | exact HB.out)⟩
                   ·rw [if_neg c55] at H
                    exact absurd H (by simp)
                  ·rw [if_neg c54] at H
                   exact absurd H (by simp)
                 ·rw [if_neg c53] at H
                  have c53b0 : decide ((rd (rd_L2 t305 x13_2) x14_3) < 0) = false := decide_eq_false c53
                  clear c53
                  by_cases c57 : x13_2 < (t308.length : Int)
                  ·rw [if_pos c57] at H
                   have c57b0 : decide (x13_2 < (t308.length : Int)) = true := decide_eq_true c57
                   clear c57
                   by_cases c58 : x14_3 < ((rd_L2 t308 x13_2).length : Int)
                   ·rw [if_pos c58] at H
                    have c58b0 : decide (x14_3 < ((rd_L2 t308 x13_2).length : Int)) = true := decide_eq_true c58
                    clear c58
                    by_cases c59 : (rd (rd_L2 t308 x13_2) x14_3) = (wrap64 ((rd (rd_L2 t305 x13_2) x14_3) + (wrap64 (a2))))
                    ·rw [if_pos c59] at H
                     have c59b0 : ((rd (rd_L2 t308 x13_2) x14_3) == (wrap64 ((rd (rd_L2 t305 x13_2) x14_3) + (wrap64 (a2))))) = true := beq_iff_eq.mpr c59
                     have c59b1 : ((rd (rd_L2 t308 x13_2) x14_3) != (wrap64 ((rd (rd_L2 t305 x13_2) x14_3) + (wrap64 (a2))))) = false := bne_eq_false_iff_eq.mpr c59
                     clear c59
                     have H' := Aside0.mk H
                     clear H
                     have p316 : 0 ≤ (x13_2 : Int) := of_decide_eq_true (by first | (with_reducible assumption) | assumption)
                     have q316 : x13_2 < (t305.length : Int) := of_decide_eq_true (by first | (with_reducible assumption) | assumption)
                     obtain ⟨ad316, A316_0, c316_0, e316, hx316_0, hl316_0, hi316_0⟩ := at_L2 (Kd.N_reads' HO_11.out).2.2 x13_2 p316 q316
                     obtain rfl : ad314 = ad316 := (by injection e316)
                     obtain ⟨ce316, hce316, hMe316, hcc316⟩ := Kd.N_get HO_11.out [] x13_2 p316 (by first | exact q316 | exact of_decide_eq_true (by first | (with_reducible assumption) | assumption) | (have e_ := (Kd.N_reads' HO_11.out).1; omega))
                     obtain ⟨ua316_0, uc316_0, rfl, ul316_0, ge316_0⟩ := Kd.FK_slice_open hMe316
                     have hv316_0 := hcc316 0 _ rfl
                     rw [Nat.add_zero, show ((Kd.slice 3 (Kd.int .i64))).sz = 1 from rfl, Nat.mul_one] at hv316_0
                     replace hv316_0 := Option.some.inj (hv316_0.symm.trans hx316_0)
                     injection hv316_0 with hva_ hvn_ hvc_
                     rw [hva_] at ge316_0
                     rw [hvc_] at ul316_0
                     have HL316_0 := Aside0.mk (show Kd.V (Kd.int .i64) 3 _ w.heap.size _ _ (rd_L2 t305 x13_2) from Kd.V_mk ul316_0 ge316_0)
                     clear hva_ hvn_ hvc_ ge316_0 ul316_0
                     clear hcc316 hce316
                     have HR316_0 := Aside0.mk hi316_0
                     have HC316_0 := Aside0.mk hl316_0
                     clear hi316_0 hl316_0
                     replace p316 := eq_true p316
                     replace q316 := eq_true q316
                     have p317 : 0 ≤ (x13_2 : Int) := of_decide_eq_true (by first | (with_reducible assumption) | assumption)
                     have q317 : x13_2 < (t305.length : Int) := of_decide_eq_true (by first | (with_reducible assumption) | assumption)
                     obtain ⟨ad317, A317_0, c317_0, e317, hx317_0, hl317_0, hi317_0⟩ := at_L2 (Kd.N_reads' HO_11.out).2.2 x13_2 p317 q317
                     obtain rfl : ad314 = ad317 := (by injection e317)
                     obtain ⟨ce317, hce317, hMe317, hcc317⟩ := Kd.N_get HO_11.out [] x13_2 p317 (by first | exact q317 | exact of_decide_eq_true (by first | (with_reducible assumption) | assumption) | (have e_ := (Kd.N_reads' HO_11.out).1; omega))
                     obtain ⟨ua317_0, uc317_0, rfl, ul317_0, ge317_0⟩ := Kd.FK_slice_open hMe317
                     have hv317_0 := hcc317 0 _ rfl
                     rw [Nat.add_zero, show ((Kd.slice 3 (Kd.int .i64))).sz = 1 from rfl, Nat.mul_one] at hv317_0
                     replace hv317_0 := Option.some.inj (hv317_0.symm.trans hx317_0)
                     injection hv317_0 with hva_ hvn_ hvc_
                     rw [hva_] at ge317_0
                     rw [hvc_] at ul317_0
                     have HL317_0 := Aside0.mk (show Kd.V (Kd.int .i64) 3 _ w.heap.size _ _ (rd_L2 t305 x13_2) from Kd.V_mk ul317_0 ge317_0)
                     clear hva_ hvn_ hvc_ ge317_0 ul317_0
                     clear hcc317 hce317
                     have HR317_0 := Aside0.mk hi317_0
                     have HC317_0 := Aside0.mk hl317_0
                     clear hi317_0 hl317_0
                     replace p317 := eq_true p317
                     replace q317 := eq_true q317
                     have ea_ := Option.some.inj (hx316_0.symm.trans hx317_0)
                     injection ea_ with ea_ en_ ec_
                     subst ea_
                     subst ec_
                     clear en_
                     have p318 : 0 ≤ (x14_3 : Int) := of_decide_eq_true (by first | (with_reducible assumption) | assumption)
                     have q318 : x14_3 < ((rd_L2 t305 x13_2).length : Int) := of_decide_eq_true (by first | (with_reducible assumption) | assumption)
                     obtain ⟨ad318, e318, hx318_0⟩ := Kd.at_int (by repeat (first | (with_reducible exact HR317_0.out) | (with_reducible refine Kd.C_alloc ?_ _) | (with_reducible refine Kd.C_drewN ?_ _) | (with_reducible refine Kd.C_drew ?_) | exact HR317_0.out)) x14_3 p318 q318
                     cases e318
                     replace p318 := eq_true p318
                     replace q318 := eq_true q318
                     have p319 : 0 ≤ (x13_2 : Int) := of_decide_eq_true (by first | (with_reducible assumption) | assumption)
                     have q319 : x13_2 < (t305.length : Int) := of_decide_eq_true (by first | (with_reducible assumption) | assumption)
                     obtain ⟨ad319, A319_0, c319_0, e319, hx319_0, hl319_0, hi319_0⟩ := at_L2 (Kd.N_reads' HO_11.out).2.2 x13_2 p319 q319
                     obtain rfl : ad314 = ad319 := (by injection e319)
                     obtain ⟨ce319, hce319, hMe319, hcc319⟩ := Kd.N_get HO_11.out [] x13_2 p319 (by first | exact q319 | exact of_decide_eq_true (by first | (with_reducible assumption) | assumption) | (have e_ := (Kd.N_reads' HO_11.out).1; omega))
                     obtain ⟨ua319_0, uc319_0, rfl, ul319_0, ge319_0⟩ := Kd.FK_slice_open hMe319
                     have hv319_0 := hcc319 0 _ rfl
                     rw [Nat.add_zero, show ((Kd.slice 3 (Kd.int .i64))).sz = 1 from rfl, Nat.mul_one] at hv319_0
                     replace hv319_0 := Option.some.inj (hv319_0.symm.trans hx319_0)
                     injection hv319_0 with hva_ hvn_ hvc_
                     rw [hva_] at ge319_0
                     rw [hvc_] at ul319_0
                     have HL319_0 := Aside0.mk (show Kd.V (Kd.int .i64) 3 _ w.heap.size _ _ (rd_L2 t305 x13_2) from Kd.V_mk ul319_0 ge319_0)
                     clear hva_ hvn_ hvc_ ge319_0 ul319_0
                     clear hcc319 hce319
                     have HR319_0 := Aside0.mk hi319_0
                     have HC319_0 := Aside0.mk hl319_0
                     clear hi319_0 hl319_0
                     replace p319 := eq_true p319
                     replace q319 := eq_true q319
                     have ea_ := Option.some.inj (hx316_0.symm.trans hx319_0)
                     injection ea_ with ea_ en_ ec_
                     subst ea_
                     subst ec_
                     clear en_
                     have p320 : 0 ≤ (x14_3 : Int) := of_decide_eq_true (by first | (with_reducible assumption) | assumption)
                     have q320 : x14_3 < ((rd_L2 t305 x13_2).length : Int) := of_decide_eq_true (by first | (with_reducible assumption) | assumption)
                     obtain ⟨ad320, e320, hx320_0⟩ := Kd.at_int (by repeat (first | (with_reducible exact HR319_0.out) | (with_reducible refine Kd.C_alloc ?_ _) | (with_reducible refine Kd.C_drewN ?_ _) | (with_reducible refine Kd.C_drew ?_) | exact HR319_0.out)) x14_3 p320 q320
                     cases e320
                     replace p320 := eq_true p320
                     replace q320 := eq_true q320
                     have p325 : 0 ≤ (x13_2 : Int) := of_decide_eq_true (by first | (with_reducible assumption) | assumption)
                     have q325 : x13_2 < (t308.length : Int) := of_decide_eq_true (by first | (with_reducible assumption) | assumption)
                     obtain ⟨ad325, A325_0, c325_0, e325, hx325_0, hl325_0, hi325_0⟩ := at_L2 (Kd.N_reads' HO_12.out).2.2 x13_2 p325 q325
                     obtain rfl : ad315 = ad325 := (by injection e325)
                     obtain ⟨ce325, hce325, hMe325, hcc325⟩ := Kd.N_get HO_12.out [] x13_2 p325 (by first | exact q325 | exact of_decide_eq_true (by first | (with_reducible assumption) | assumption) | (have e_ := (Kd.N_reads' HO_12.out).1; omega))
                     obtain ⟨ua325_0, uc325_0, rfl, ul325_0, ge325_0⟩ := Kd.FK_slice_open hMe325
                     have hv325_0 := hcc325 0 _ rfl
                     rw [Nat.add_zero, show ((Kd.slice 3 (Kd.int .i64))).sz = 1 from rfl, Nat.mul_one] at hv325_0
                     replace hv325_0 := Option.some.inj (hv325_0.symm.trans hx325_0)
                     injection hv325_0 with hva_ hvn_ hvc_
                     rw [hva_] at ge325_0
                     rw [hvc_] at ul325_0
                     have HL325_0 := Aside0.mk (show Kd.V (Kd.int .i64) 3 _ w.heap.size _ _ (rd_L2 t308 x13_2) from Kd.V_mk ul325_0 ge325_0)
                     clear hva_ hvn_ hvc_ ge325_0 ul325_0
                     clear hcc325 hce325
                     have HR325_0 := Aside0.mk hi325_0
                     have HC325_0 := Aside0.mk hl325_0
                     clear hi325_0 hl325_0
                     replace p325 := eq_true p325
                     replace q325 := eq_true q325
                     have p326 : 0 ≤ (x14_3 : Int) := of_decide_eq_true (by first | (with_reducible assumption) | assumption)
                     have q326 : x14_3 < ((rd_L2 t308 x13_2).length : Int) := of_decide_eq_true (by first | (with_reducible assumption) | assumption)
                     obtain ⟨ad326, e326, hx326_0⟩ := Kd.at_int (by repeat (first | (with_reducible exact HR325_0.out) | (with_reducible refine Kd.C_alloc ?_ _) | (with_reducible refine Kd.C_drewN ?_ _) | (with_reducible refine Kd.C_drew ?_) | exact HR325_0.out)) x14_3 p326 q326
                     cases e326
                     replace p326 := eq_true p326
                     replace q326 := eq_true q326
                     go_wp2
                     repeat (go_quiet (fail); try go_wp2)
                     go_roundg k3
                     case measure => have := HJ10.out; have := HK2.out; have := HK3.out; omega
                     case rel => exact ⟨(wrap64 (x14_3 + 1)), (by first | rfl | (simp; done) | (simp [*]; done)), H', ⟨by have := HJ10.out; have := HK2.out; have := HK3.out; omega⟩, ⟨by (with_reducible repeat (first | apply Kd.N_alloc | apply Kd.N_drewN | apply Kd.N_drew)); exact HO_11.out⟩, ⟨by (with_reducible repeat (first | apply Kd.N_alloc | apply Kd.N_drewN | apply Kd.N_drew)); exact HO_12.out⟩, ⟨by (with_reducible repeat (first | apply Kd.V_alloc | apply Kd.V_drewN | apply Kd.V_drew)); exact HO_305001.out⟩, ⟨by (with_reducible repeat (first | refine blk_drewN ?_ _ | refine blk_drew ?_ | refine blk_alloc ?_ _)); exact BK304.out⟩, ⟨by repeat (first | (with_reducible exact HR314_0.out) | (with_reducible refine Kd.C_alloc ?_ _) | (with_reducible refine Kd.C_drewN ?_ _) | (with_reducible refine Kd.C_drew ?_) | exact HR314_0.out)⟩, ⟨by repeat (first | (with_reducible exact HR315_0.out) | (with_reducible refine Kd.C_alloc ?_ _) | (with_reducible refine Kd.C_drewN ?_ _) | (with_reducible refine Kd.C_drew ?_) | exact HR315_0.out)⟩, ⟨by repeat (first | (with_reducible first | exact HB.out | apply below_alloc | apply pw_below_drewN | apply below_drew1 | refine below_set ?_ GE304.out) | exact HB.out)⟩⟩
                    ·rw [if_neg c59] at H
                     have c59b0 : ((rd (rd_L2 t308 x13_2) x14_3) == (wrap64 ((rd (rd_L2 t305 x13_2) x14_3) + (wrap64 (a2))))) = false := beq_eq_false_iff_ne.mpr c59
                     have c59b1 : ((rd (rd_L2 t308 x13_2) x14_3) != (wrap64 ((rd (rd_L2 t305 x13_2) x14_3) + (wrap64 (a2))))) = true := bne_iff_ne.mpr c59
                     obtain rfl := Option.some.inj H
                     have p316 : 0 ≤ (x13_2 : Int) := of_decide_eq_true (by first | (with_reducible assumption) | assumption)
                     have q316 : x13_2 < (t305.length : Int) := of_decide_eq_true (by first | (with_reducible assumption) | assumption)
                     obtain ⟨ad316, A316_0, c316_0, e316, hx316_0, hl316_0, hi316_0⟩ := at_L2 (Kd.N_reads' HO_11.out).2.2 x13_2 p316 q316
                     obtain rfl : ad314 = ad316 := (by injection e316)
                     obtain ⟨ce316, hce316, hMe316, hcc316⟩ := Kd.N_get HO_11.out [] x13_2 p316 (by first | exact q316 | exact of_decide_eq_true (by first | (with_reducible assumption) | assumption) | (have e_ := (Kd.N_reads' HO_11.out).1; omega))
                     obtain ⟨ua316_0, uc316_0, rfl, ul316_0, ge316_0⟩ := Kd.FK_slice_open hMe316
                     have hv316_0 := hcc316 0 _ rfl
                     rw [Nat.add_zero, show ((Kd.slice 3 (Kd.int .i64))).sz = 1 from rfl, Nat.mul_one] at hv316_0
                     replace hv316_0 := Option.some.inj (hv316_0.symm.trans hx316_0)
                     injection hv316_0 with hva_ hvn_ hvc_
                     rw [hva_] at ge316_0
                     rw [hvc_] at ul316_0
                     have HL316_0 := Aside0.mk (show Kd.V (Kd.int .i64) 3 _ w.heap.size _ _ (rd_L2 t305 x13_2) from Kd.V_mk ul316_0 ge316_0)
                     clear hva_ hvn_ hvc_ ge316_0 ul316_0
                     clear hcc316 hce316
                     have HR316_0 := Aside0.mk hi316_0
                     have HC316_0 := Aside0.mk hl316_0
                     clear hi316_0 hl316_0
                     replace p316 := eq_true p316
                     replace q316 := eq_true q316
                     have p317 : 0 ≤ (x13_2 : Int) := of_decide_eq_true (by first | (with_reducible assumption) | assumption)
                     have q317 : x13_2 < (t305.length : Int) := of_decide_eq_true (by first | (with_reducible assumption) | assumption)
                     obtain ⟨ad317, A317_0, c317_0, e317, hx317_0, hl317_0, hi317_0⟩ := at_L2 (Kd.N_reads' HO_11.out).2.2 x13_2 p317 q317
                     obtain rfl : ad314 = ad317 := (by injection e317)
                     obtain ⟨ce317, hce317, hMe317, hcc317⟩ := Kd.N_get HO_11.out [] x13_2 p317 (by first | exact q317 | exact of_decide_eq_true (by first | (with_reducible assumption) | assumption) | (have e_ := (Kd.N_reads' HO_11.out).1; omega))
                     obtain ⟨ua317_0, uc317_0, rfl, ul317_0, ge317_0⟩ := Kd.FK_slice_open hMe317
                     have hv317_0 := hcc317 0 _ rfl
                     rw [Nat.add_zero, show ((Kd.slice 3 (Kd.int .i64))).sz = 1 from rfl, Nat.mul_one] at hv317_0
                     replace hv317_0 := Option.some.inj (hv317_0.symm.trans hx317_0)
                     injection hv317_0 with hva_ hvn_ hvc_
                     rw [hva_] at ge317_0
                     rw [hvc_] at ul317_0
                     have HL317_0 := Aside0.mk (show Kd.V (Kd.int .i64) 3 _ w.heap.size _ _ (rd_L2 t305 x13_2) from Kd.V_mk ul317_0 ge317_0)
                     clear hva_ hvn_ hvc_ ge317_0 ul317_0
                     clear hcc317 hce317
                     have HR317_0 := Aside0.mk hi317_0
                     have HC317_0 := Aside0.mk hl317_0
                     clear hi317_0 hl317_0
                     replace p317 := eq_true p317
                     replace q317 := eq_true q317
                     have ea_ := Option.some.inj (hx316_0.symm.trans hx317_0)
                     injection ea_ with ea_ en_ ec_
                     subst ea_
                     subst ec_
                     clear en_
                     have p318 : 0 ≤ (x14_3 : Int) := of_decide_eq_true (by first | (with_reducible assumption) | assumption)
                     have q318 : x14_3 < ((rd_L2 t305 x13_2).length : Int) := of_decide_eq_true (by first | (with_reducible assumption) | assumption)
                     obtain ⟨ad318, e318, hx318_0⟩ := Kd.at_int (by repeat (first | (with_reducible exact HR317_0.out) | (with_reducible refine Kd.C_alloc ?_ _) | (with_reducible refine Kd.C_drewN ?_ _) | (with_reducible refine Kd.C_drew ?_) | exact HR317_0.out)) x14_3 p318 q318
                     cases e318
                     replace p318 := eq_true p318
                     replace q318 := eq_true q318
                     have p319 : 0 ≤ (x13_2 : Int) := of_decide_eq_true (by first | (with_reducible assumption) | assumption)
                     have q319 : x13_2 < (t305.length : Int) := of_decide_eq_true (by first | (with_reducible assumption) | assumption)
                     obtain ⟨ad319, A319_0, c319_0, e319, hx319_0, hl319_0, hi319_0⟩ := at_L2 (Kd.N_reads' HO_11.out).2.2 x13_2 p319 q319
                     obtain rfl : ad314 = ad319 := (by injection e319)
                     obtain ⟨ce319, hce319, hMe319, hcc319⟩ := Kd.N_get HO_11.out [] x13_2 p319 (by first | exact q319 | exact of_decide_eq_true (by first | (with_reducible assumption) | assumption) | (have e_ := (Kd.N_reads' HO_11.out).1; omega))
                     obtain ⟨ua319_0, uc319_0, rfl, ul319_0, ge319_0⟩ := Kd.FK_slice_open hMe319
                     have hv319_0 := hcc319 0 _ rfl
                     rw [Nat.add_zero, show ((Kd.slice 3 (Kd.int .i64))).sz = 1 from rfl, Nat.mul_one] at hv319_0
                     replace hv319_0 := Option.some.inj (hv319_0.symm.trans hx319_0)
                     injection hv319_0 with hva_ hvn_ hvc_
                     rw [hva_] at ge319_0
                     rw [hvc_] at ul319_0
                     have HL319_0 := Aside0.mk (show Kd.V (Kd.int .i64) 3 _ w.heap.size _ _ (rd_L2 t305 x13_2) from Kd.V_mk ul319_0 ge319_0)
                     clear hva_ hvn_ hvc_ ge319_0 ul319_0
                     clear hcc319 hce319
                     have HR319_0 := Aside0.mk hi319_0
                     have HC319_0 := Aside0.mk hl319_0
                     clear hi319_0 hl319_0
                     replace p319 := eq_true p319
                     replace q319 := eq_true q319
                     have ea_ := Option.some.inj (hx316_0.symm.trans hx319_0)
                     injection ea_ with ea_ en_ ec_
                     subst ea_
                     subst ec_
                     clear en_
                     have p320 : 0 ≤ (x14_3 : Int) := of_decide_eq_true (by first | (with_reducible assumption) | assumption)
                     have q320 : x14_3 < ((rd_L2 t305 x13_2).length : Int) := of_decide_eq_true (by first | (with_reducible assumption) | assumption)
                     obtain ⟨ad320, e320, hx320_0⟩ := Kd.at_int (by repeat (first | (with_reducible exact HR319_0.out) | (with_reducible refine Kd.C_alloc ?_ _) | (with_reducible refine Kd.C_drewN ?_ _) | (with_reducible refine Kd.C_drew ?_) | exact HR319_0.out)) x14_3 p320 q320
                     cases e320
                     replace p320 := eq_true p320
                     replace q320 := eq_true q320
                     have p325 : 0 ≤ (x13_2 : Int) := of_decide_eq_true (by first | (with_reducible assumption) | assumption)
                     have q325 : x13_2 < (t308.length : Int) := of_decide_eq_true (by first | (with_reducible assumption) | assumption)
                     obtain ⟨ad325, A325_0, c325_0, e325, hx325_0, hl325_0, hi325_0⟩ := at_L2 (Kd.N_reads' HO_12.out).2.2 x13_2 p325 q325
                     obtain rfl : ad315 = ad325 := (by injection e325)
                     obtain ⟨ce325, hce325, hMe325, hcc325⟩ := Kd.N_get HO_12.out [] x13_2 p325 (by first | exact q325 | exact of_decide_eq_true (by first | (with_reducible assumption) | assumption) | (have e_ := (Kd.N_reads' HO_12.out).1; omega))
                     obtain ⟨ua325_0, uc325_0, rfl, ul325_0, ge325_0⟩ := Kd.FK_slice_open hMe325
                     have hv325_0 := hcc325 0 _ rfl
                     rw [Nat.add_zero, show ((Kd.slice 3 (Kd.int .i64))).sz = 1 from rfl, Nat.mul_one] at hv325_0
                     replace hv325_0 := Option.some.inj (hv325_0.symm.trans hx325_0)
                     injection hv325_0 with hva_ hvn_ hvc_
                     rw [hva_] at ge325_0
                     rw [hvc_] at ul325_0
                     have HL325_0 := Aside0.mk (show Kd.V (Kd.int .i64) 3 _ w.heap.size _ _ (rd_L2 t308 x13_2) from Kd.V_mk ul325_0 ge325_0)
                     clear hva_ hvn_ hvc_ ge325_0 ul325_0
                     clear hcc325 hce325
                     have HR325_0 := Aside0.mk hi325_0
                     have HC325_0 := Aside0.mk hl325_0
                     clear hi325_0 hl325_0
                     replace p325 := eq_true p325
                     replace q325 := eq_true q325
                     have p326 : 0 ≤ (x14_3 : Int) := of_decide_eq_true (by first | (with_reducible assumption) | assumption)
                     have q326 : x14_3 < ((rd_L2 t308 x13_2).length : Int) := of_decide_eq_true (by first | (with_reducible assumption) | assumption)
                     obtain ⟨ad326, e326, hx326_0⟩ := Kd.at_int (by repeat (first | (with_reducible exact HR325_0.out) | (with_reducible refine Kd.C_alloc ?_ _) | (with_reducible refine Kd.C_drewN ?_ _) | (with_reducible refine Kd.C_drew ?_) | exact HR325_0.out)) x14_3 p326 q326
                     cases e326
                     replace p326 := eq_true p326
                     replace q326 := eq_true q326
                     go_wp2
                     repeat (go_quiet (fail); try go_wp2)
                     go_ret
                     exact ⟨by first | rfl | (simp [errW_none, errW_some] <;> rfl) | (simp [*, errW_none, errW_some] <;> rfl), by repeat (first | (with_reducible first | exact HB.out | apply below_alloc | apply pw_below_drewN | apply below_drew1 | refine below_set ?_ GE304.out) | exact HB.out)⟩
                   ·rw [if_neg c58] at H
                    exact absurd H (by simp)
                  ·rw [if_neg c57] at H
                   exact absurd H (by simp)
                ·rw [if_neg c52] at H
                 exact absurd H (by simp)
               ·rw [if_neg c51] at H
                have c51b0 : decide (x14_3 < ((rd_L2 t305 x13_2).length : Int)) = false := decide_eq_false c51
                clear c51
                have H' := Aside0.mk H
                clear H
                have p316 : 0 ≤ (x13_2 : Int) := of_decide_eq_true (by first | (with_reducible assumption) | assumption)
                have q316 : x13_2 < (t305.length : Int) := of_decide_eq_true (by first | (with_reducible assumption) | assumption)
                obtain ⟨ad316, A316_0, c316_0, e316, hx316_0, hl316_0, hi316_0⟩ := at_L2 (Kd.N_reads' HO_11.out).2.2 x13_2 p316 q316
                obtain rfl : ad314 = ad316 := (by injection e316)
                obtain ⟨ce316, hce316, hMe316, hcc316⟩ := Kd.N_get HO_11.out [] x13_2 p316 (by first | exact q316 | exact of_decide_eq_true (by first | (with_reducible assumption) | assumption) | (have e_ := (Kd.N_reads' HO_11.out).1; omega))
                obtain ⟨ua316_0, uc316_0, rfl, ul316_0, ge316_0⟩ := Kd.FK_slice_open hMe316
                have hv316_0 := hcc316 0 _ rfl
                rw [Nat.add_zero, show ((Kd.slice 3 (Kd.int .i64))).sz = 1 from rfl, Nat.mul_one] at hv316_0
                replace hv316_0 := Option.some.inj (hv316_0.symm.trans hx316_0)
                injection hv316_0 with hva_ hvn_ hvc_
                rw [hva_] at ge316_0
                rw [hvc_] at ul316_0
                have HL316_0 := Aside0.mk (show Kd.V (Kd.int .i64) 3 _ w.heap.size _ _ (rd_L2 t305 x13_2) from Kd.V_mk ul316_0 ge316_0)
                clear hva_ hvn_ hvc_ ge316_0 ul316_0
                clear hcc316 hce316
                have HR316_0 := Aside0.mk hi316_0
                have HC316_0 := Aside0.mk hl316_0
                clear hi316_0 hl316_0
                replace p316 := eq_true p316
                replace q316 := eq_true q316
                go_wp2
                repeat (go_quiet (fail); try go_wp2)
                go_roundg k3
                case measure => have := HJ10.out; have := HK2.out; have := HK3.out; omega
                case rel => exact ⟨(wrap64 (x13_2 + 1)), (by first | rfl | (simp; done) | (simp [*]; done)), H', ⟨by have := HJ10.out; have := HK2.out; have := HK3.out; omega⟩, ⟨by (with_reducible repeat (first | apply Kd.N_alloc | apply Kd.N_drewN | apply Kd.N_drew)); exact HO_11.out⟩, ⟨by (with_reducible repeat (first | apply Kd.N_alloc | apply Kd.N_drewN | apply Kd.N_drew)); exact HO_12.out⟩, ⟨by (with_reducible repeat (first | apply Kd.V_alloc | apply Kd.V_drewN | apply Kd.V_drew)); exact HO_305001.out⟩, ⟨by (with_reducible repeat (first | refine blk_drewN ?_ _ | refine blk_drew ?_ | refine blk_alloc ?_ _)); exact BK304.out⟩, ⟨by repeat (first | (with_reducible first | exact HB.out | apply below_alloc | apply pw_below_drewN | apply below_drew1 | refine below_set ?_ GE304.out) | exact HB.out)⟩⟩
              ·rw [if_neg c50] at H
               exact absurd H (by simp)
             ·rw [if_neg c49] at H
              exact absurd H (by simp)
          ·rw [if_neg c46] at H
           have c46b0 : (((rd_L2 t305 x13_2).length : Int) == ((rd_L2 t308 x13_2).length : Int)) = false := beq_eq_false_iff_ne.mpr c46
           have c46b1 : (((rd_L2 t305 x13_2).length : Int) != ((rd_L2 t308 x13_2).length : Int)) = true := bne_iff_ne.mpr c46
           have c46b2 : ((rd_L2 t305 x13_2).length == (rd_L2 t308 x13_2).length) = false := by first | simpa using c46 | (simp at c46 ⊢; omega)
           obtain rfl := Option.some.inj H
           obtain ⟨Ao60, co60, eo60⟩ := Kd.N_slice HO_11.out
           subst eo60
           have p314 : 0 ≤ (x13_2 : Int) := of_decide_eq_true (by first | (with_reducible assumption) | assumption)
           have q314 : x13_2 < (t305.length : Int) := of_decide_eq_true (by first | (with_reducible assumption) | assumption)
           obtain ⟨ad314, A314_0, c314_0, e314, hx314_0, hl314_0, hi314_0⟩ := at_L2 (Kd.N_reads' HO_11.out).2.2 x13_2 p314 q314
           cases e314
           obtain ⟨ce314, hce314, hMe314, hcc314⟩ := Kd.N_get HO_11.out [] x13_2 p314 (by first | exact q314 | exact of_decide_eq_true (by first | (with_reducible assumption) | assumption) | (have e_ := (Kd.N_reads' HO_11.out).1; omega))
           obtain ⟨ua314_0, uc314_0, rfl, ul314_0, ge314_0⟩ := Kd.FK_slice_open hMe314
           have hv314_0 := hcc314 0 _ rfl
           rw [Nat.add_zero, show ((Kd.slice 3 (Kd.int .i64))).sz = 1 from rfl, Nat.mul_one] at hv314_0
           replace hv314_0 := Option.some.inj (hv314_0.symm.trans hx314_0)
           injection hv314_0 with hva_ hvn_ hvc_
           rw [hva_] at ge314_0
           rw [hvc_] at ul314_0
           have HL314_0 := Aside0.mk (show Kd.V (Kd.int .i64) 3 _ w.heap.size _ _ (rd_L2 t305 x13_2) from Kd.V_mk ul314_0 ge314_0)
           clear hva_ hvn_ hvc_ ge314_0 ul314_0
           clear hcc314 hce314
           have HR314_0 := Aside0.mk hi314_0
           have HC314_0 := Aside0.mk hl314_0
           clear hi314_0 hl314_0
           replace p314 := eq_true p314
           replace q314 := eq_true q314
           obtain ⟨Ao61, co61, eo61⟩ := Kd.N_slice HO_12.out
           subst eo61
           have p315 : 0 ≤ (x13_2 : Int) := of_decide_eq_true (by first | (with_reducible assumption) | assumption)
           have q315 : x13_2 < (t308.length : Int) := of_decide_eq_true (by first | (with_reducible assumption) | assumption)
           obtain ⟨ad315, A315_0, c315_0, e315, hx315_0, hl315_0, hi315_0⟩ := at_L2 (Kd.N_reads' HO_12.out).2.2 x13_2 p315 q315
           cases e315
           obtain ⟨ce315, hce315, hMe315, hcc315⟩ := Kd.N_get HO_12.out [] x13_2 p315 (by first | exact q315 | exact of_decide_eq_true (by first | (with_reducible assumption) | assumption) | (have e_ := (Kd.N_reads' HO_12.out).1; omega))
           obtain ⟨ua315_0, uc315_0, rfl, ul315_0, ge315_0⟩ := Kd.FK_slice_open hMe315
           have hv315_0 := hcc315 0 _ rfl
           rw [Nat.add_zero, show ((Kd.slice 3 (Kd.int .i64))).sz = 1 from rfl, Nat.mul_one] at hv315_0
           replace hv315_0 := Option.some.inj (hv315_0.symm.trans hx315_0)
           injection hv315_0 with hva_ hvn_ hvc_
           rw [hva_] at ge315_0
           rw [hvc_] at ul315_0
           have HL315_0 := Aside0.mk (show Kd.V (Kd.int .i64) 3 _ w.heap.size _ _ (rd_L2 t308 x13_2) from Kd.V_mk ul315_0 ge315_0)
           clear hva_ hvn_ hvc_ ge315_0 ul315_0
           clear hcc315 hce315
           have HR315_0 := Aside0.mk hi315_0
           have HC315_0 := Aside0.mk hl315_0
           clear hi315_0 hl315_0
           replace p315 := eq_true p315
           replace q315 := eq_true q315
           go_wp2
           repeat (go_quiet (fail); try go_wp2)
           go_ret
           exact ⟨by first | rfl | (simp [errW_none, errW_some] <;> rfl) | (simp [*, errW_none, errW_some] <;> rfl), by repeat (first | (with_reducible first | exact HB.out | apply below_alloc | apply pw_below_drewN | apply below_drew1 | refine below_set ?_ GE304.out) | exact HB.out)⟩
         ·rw [if_neg c45] at H
          exact absurd H (by simp)
        ·rw [if_neg c44] at H
         exact absurd H (by simp)
       ·rw [if_neg c43] at H
        have c43b0 : decide (x13_2 < (t305.length : Int)) = false := decide_eq_false c43
        clear c43
        obtain rfl := Option.some.inj H
        obtain ⟨Ao62, co62, eo62⟩ := Kd.N_slice HO_11.out
        subst eo62
        go_wp2
        repeat (go_quiet (fail); try go_wp2)
        go_ret
        exact ⟨by first | rfl | (simp [errW_none, errW_some] <;> rfl) | (simp [*, errW_none, errW_some] <;> rfl), by repeat (first | (with_reducible first | exact HB.out | apply below_alloc | apply pw_below_drewN | apply below_drew1 | refine below_set ?_ GE304.out) | exact HB.out)⟩

end Go.Proofs.Ytdfbnlmjnollnaa.Xb
