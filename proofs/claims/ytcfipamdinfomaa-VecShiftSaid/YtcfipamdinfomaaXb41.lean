/- Printed by this session's program xprint.py (over the kit's print): the Go functions named below come to the Lean functions of the same names, whatever the world. -/
import Derived.Test.YtcfipamdinfomaaXb0
import Derived.Test.YtcfipamdinfomaaXb23
import Derived.Test.YtcfipamdinfomaaXb27
import Derived.Test.YtcfipamdinfomaaXb28
namespace Go.Proofs.Ytcfipamdinfomaa.Xb
open Go.RowKit Go.Proofs.YtcfipamdinfomaaW.PrintWords Go.Proofs.YtcfipamdinfomaaW.PrintLast Go.Proofs.YtcfipamdinfomaaW.PrintMore
attribute [local go_sem] max2_int min2_int max_two min_two max_three min_three max_four min_four   -- for this text's walks alone
set_option linter.unusedVariables false
set_option linter.unusedSimpArgs false

/-! ### proofmarklaw08_VecShift: function 9 -/
def proofmarklaw08_VecShift.f (k : Nat) (a0 : Int) (a1 : Int) : Option (Bool) := (proofmarklaw08_head.f k).bind fun t283 => ((proofmarkref08_Mask.f (wrap64 ((Int.tmod (wrap64 (a1)) 15) + 2))).bind fun t284 => ((vec_Do.f 18 (wrap64 ((wrap64 ((Int.tmod (wrap64 (a1)) 15) + 2)) - 1)) 0 0 0 (wrap64 ((wrap64 ((Int.tmod (wrap64 (a1)) 15) + 2)) - 2)) 0 (Go.bits .and .i64 (wrap64 (a0)) t284) 0 0 0).bind fun t285 => ((vec_Do.f 17 (wrap64 ((Int.tmod (wrap64 (a1)) 15) + 2)) 0 0 0 0 0 t285 0 0 1).bind fun t286 => ((vec_Do.f 17 (wrap64 ((Int.tmod (wrap64 (a1)) 15) + 2)) 0 0 0 0 0 0 t285 0 (wrap64 ((wrap64 ((Int.tmod (wrap64 (a1)) 15) + 2)) - 1))).bind fun t287 => ((vec_Do.f 5 1 0 0 0 0 (wrap64 ((Int.tmod (wrap64 (a1)) 15) + 2)) (Go.bits .and .i64 (wrap64 (a0)) t284) 0 0 0).bind fun t288 => ((vec_Do.f 3 (wrap64 ((Int.tmod (wrap64 (a1)) 15) + 2)) 0 0 0 0 0 (Go.bits .and .i64 (wrap64 (a0)) t284) 0 0 (wrap64 ((Int.tmod (wrap64 (a1)) 15) + 2))).bind fun t289 => ((vec_Do.f 4 1 0 0 0 0 (wrap64 ((Int.tmod (wrap64 (a1)) 15) + 2)) t289 0 0 0).bind fun t290 => (if t283 = true then ((vec_Do.f 9 (wrap64 ((Int.tmod (wrap64 (a1)) 15) + 2)) 0 0 0 0 0 (Go.bits .and .i64 (wrap64 (a0)) t284) (Go.bits .and .i64 (wrap64 (a0)) t284) 0 (wrap64 ((Int.tmod (wrap64 (a1)) 15) + 2))).bind fun t291 => (if t286 = t291 then (if t287 = t285 then (some (t288 == (wrap64 (1 - t290)))) else (none)) else (none))) else (none)))))))))
theorem proofmarklaw08_VecShift.mono : ∀ a0 a1 k, LeO (proofmarklaw08_VecShift.f k a0 a1) (proofmarklaw08_VecShift.f (k + 1) a0 a1) := by
 intro a0 a1 k
 unfold proofmarklaw08_VecShift.f
 repeat' first
   | (with_reducible exact proofmarklaw08_head.mono _)
   | (with_reducible exact LeO.refl _)
   | (with_reducible exact LeO.none _)
   | (with_reducible refine LeO.ite ?_ ?_)
   | (with_reducible refine LeO.bind ?_ (fun _ => ?_))
   | exact proofmarklaw08_head.mono _
   | exact LeO.none _
   | refine LeO.ite ?_ ?_
   | refine LeO.bind ?_ (fun _ => ?_)
set_option maxHeartbeats 8000000 in
set_option maxRecDepth 100000 in
theorem proofmarklaw08_VecShift.calls (k : Nat) (a0 : Int) (a1 : Int) (r : Bool) (w : World) (h : proofmarklaw08_VecShift.f k a0 a1 = some r) :
  Calls Try.prog 9 #[.int .u16 a0, .int .u8 a1] w fun e w' => e = .returned (.bool r) ∧ Below w.heap.size w w' := by
 have hu28 := Try.underlying28
 have HB := Aside0.mk (Below.refl w.heap.size w)
 have H : ((proofmarklaw08_head.f k).bind fun t283 => ((proofmarkref08_Mask.f (wrap64 ((Int.tmod (wrap64 (a1)) 15) + 2))).bind fun t284 => ((vec_Do.f 18 (wrap64 ((wrap64 ((Int.tmod (wrap64 (a1)) 15) + 2)) - 1)) 0 0 0 (wrap64 ((wrap64 ((Int.tmod (wrap64 (a1)) 15) + 2)) - 2)) 0 (Go.bits .and .i64 (wrap64 (a0)) t284) 0 0 0).bind fun t285 => ((vec_Do.f 17 (wrap64 ((Int.tmod (wrap64 (a1)) 15) + 2)) 0 0 0 0 0 t285 0 0 1).bind fun t286 => ((vec_Do.f 17 (wrap64 ((Int.tmod (wrap64 (a1)) 15) + 2)) 0 0 0 0 0 0 t285 0 (wrap64 ((wrap64 ((Int.tmod (wrap64 (a1)) 15) + 2)) - 1))).bind fun t287 => ((vec_Do.f 5 1 0 0 0 0 (wrap64 ((Int.tmod (wrap64 (a1)) 15) + 2)) (Go.bits .and .i64 (wrap64 (a0)) t284) 0 0 0).bind fun t288 => ((vec_Do.f 3 (wrap64 ((Int.tmod (wrap64 (a1)) 15) + 2)) 0 0 0 0 0 (Go.bits .and .i64 (wrap64 (a0)) t284) 0 0 (wrap64 ((Int.tmod (wrap64 (a1)) 15) + 2))).bind fun t289 => ((vec_Do.f 4 1 0 0 0 0 (wrap64 ((Int.tmod (wrap64 (a1)) 15) + 2)) t289 0 0 0).bind fun t290 => (if t283 = true then ((vec_Do.f 9 (wrap64 ((Int.tmod (wrap64 (a1)) 15) + 2)) 0 0 0 0 0 (Go.bits .and .i64 (wrap64 (a0)) t284) (Go.bits .and .i64 (wrap64 (a0)) t284) 0 (wrap64 ((Int.tmod (wrap64 (a1)) 15) + 2))).bind fun t291 => (if t286 = t291 then (if t287 = t285 then (some (t288 == (wrap64 (1 - t290)))) else (none)) else (none))) else (none)))))))))) = some r := h
 clear h
 replace H := Option.bind_eq_some_iff.mp H
 obtain ⟨t283, A30, H⟩ := H
 replace H : ((proofmarkref08_Mask.f (wrap64 ((Int.tmod (wrap64 (a1)) 15) + 2))).bind fun t284 => ((vec_Do.f 18 (wrap64 ((wrap64 ((Int.tmod (wrap64 (a1)) 15) + 2)) - 1)) 0 0 0 (wrap64 ((wrap64 ((Int.tmod (wrap64 (a1)) 15) + 2)) - 2)) 0 (Go.bits .and .i64 (wrap64 (a0)) t284) 0 0 0).bind fun t285 => ((vec_Do.f 17 (wrap64 ((Int.tmod (wrap64 (a1)) 15) + 2)) 0 0 0 0 0 t285 0 0 1).bind fun t286 => ((vec_Do.f 17 (wrap64 ((Int.tmod (wrap64 (a1)) 15) + 2)) 0 0 0 0 0 0 t285 0 (wrap64 ((wrap64 ((Int.tmod (wrap64 (a1)) 15) + 2)) - 1))).bind fun t287 => ((vec_Do.f 5 1 0 0 0 0 (wrap64 ((Int.tmod (wrap64 (a1)) 15) + 2)) (Go.bits .and .i64 (wrap64 (a0)) t284) 0 0 0).bind fun t288 => ((vec_Do.f 3 (wrap64 ((Int.tmod (wrap64 (a1)) 15) + 2)) 0 0 0 0 0 (Go.bits .and .i64 (wrap64 (a0)) t284) 0 0 (wrap64 ((Int.tmod (wrap64 (a1)) 15) + 2))).bind fun t289 => ((vec_Do.f 4 1 0 0 0 0 (wrap64 ((Int.tmod (wrap64 (a1)) 15) + 2)) t289 0 0 0).bind fun t290 => (if t283 = true then ((vec_Do.f 9 (wrap64 ((Int.tmod (wrap64 (a1)) 15) + 2)) 0 0 0 0 0 (Go.bits .and .i64 (wrap64 (a0)) t284) (Go.bits .and .i64 (wrap64 (a0)) t284) 0 (wrap64 ((Int.tmod (wrap64 (a1)) 15) + 2))).bind fun t291 => (if t286 = t291 then (if t287 = t285 then (some (t288 == (wrap64 (1 - t290)))) else (none)) else (none))) else (none))))))))) = some r := H
 have A3 := Aside0.mk A30
 clear A30
 replace H := Option.bind_eq_some_iff.mp H
 obtain ⟨t284, A40, H⟩ := H
 replace H : ((vec_Do.f 18 (wrap64 ((wrap64 ((Int.tmod (wrap64 (a1)) 15) + 2)) - 1)) 0 0 0 (wrap64 ((wrap64 ((Int.tmod (wrap64 (a1)) 15) + 2)) - 2)) 0 (Go.bits .and .i64 (wrap64 (a0)) t284) 0 0 0).bind fun t285 => ((vec_Do.f 17 (wrap64 ((Int.tmod (wrap64 (a1)) 15) + 2)) 0 0 0 0 0 t285 0 0 1).bind fun t286 => ((vec_Do.f 17 (wrap64 ((Int.tmod (wrap64 (a1)) 15) + 2)) 0 0 0 0 0 0 t285 0 (wrap64 ((wrap64 ((Int.tmod (wrap64 (a1)) 15) + 2)) - 1))).bind fun t287 => ((vec_Do.f 5 1 0 0 0 0 (wrap64 ((Int.tmod (wrap64 (a1)) 15) + 2)) (Go.bits .and .i64 (wrap64 (a0)) t284) 0 0 0).bind fun t288 => ((vec_Do.f 3 (wrap64 ((Int.tmod (wrap64 (a1)) 15) + 2)) 0 0 0 0 0 (Go.bits .and .i64 (wrap64 (a0)) t284) 0 0 (wrap64 ((Int.tmod (wrap64 (a1)) 15) + 2))).bind fun t289 => ((vec_Do.f 4 1 0 0 0 0 (wrap64 ((Int.tmod (wrap64 (a1)) 15) + 2)) t289 0 0 0).bind fun t290 => (if t283 = true then ((vec_Do.f 9 (wrap64 ((Int.tmod (wrap64 (a1)) 15) + 2)) 0 0 0 0 0 (Go.bits .and .i64 (wrap64 (a0)) t284) (Go.bits .and .i64 (wrap64 (a0)) t284) 0 (wrap64 ((Int.tmod (wrap64 (a1)) 15) + 2))).bind fun t291 => (if t286 = t291 then (if t287 = t285 then (some (t288 == (wrap64 (1 - t290)))) else (none)) else (none))) else (none)))))))) = some r := H
 have A4 := Aside0.mk A40
 clear A40
 replace H := Option.bind_eq_some_iff.mp H
 obtain ⟨t285, A50, H⟩ := H
 replace H : ((vec_Do.f 17 (wrap64 ((Int.tmod (wrap64 (a1)) 15) + 2)) 0 0 0 0 0 t285 0 0 1).bind fun t286 => ((vec_Do.f 17 (wrap64 ((Int.tmod (wrap64 (a1)) 15) + 2)) 0 0 0 0 0 0 t285 0 (wrap64 ((wrap64 ((Int.tmod (wrap64 (a1)) 15) + 2)) - 1))).bind fun t287 => ((vec_Do.f 5 1 0 0 0 0 (wrap64 ((Int.tmod (wrap64 (a1)) 15) + 2)) (Go.bits .and .i64 (wrap64 (a0)) t284) 0 0 0).bind fun t288 => ((vec_Do.f 3 (wrap64 ((Int.tmod (wrap64 (a1)) 15) + 2)) 0 0 0 0 0 (Go.bits .and .i64 (wrap64 (a0)) t284) 0 0 (wrap64 ((Int.tmod (wrap64 (a1)) 15) + 2))).bind fun t289 => ((vec_Do.f 4 1 0 0 0 0 (wrap64 ((Int.tmod (wrap64 (a1)) 15) + 2)) t289 0 0 0).bind fun t290 => (if t283 = true then ((vec_Do.f 9 (wrap64 ((Int.tmod (wrap64 (a1)) 15) + 2)) 0 0 0 0 0 (Go.bits .and .i64 (wrap64 (a0)) t284) (Go.bits .and .i64 (wrap64 (a0)) t284) 0 (wrap64 ((Int.tmod (wrap64 (a1)) 15) + 2))).bind fun t291 => (if t286 = t291 then (if t287 = t285 then (some (t288 == (wrap64 (1 - t290)))) else (none)) else (none))) else (none))))))) = some r := H
 have A5 := Aside0.mk A50
 clear A50
 replace H := Option.bind_eq_some_iff.mp H
 obtain ⟨t286, A60, H⟩ := H
 replace H : ((vec_Do.f 17 (wrap64 ((Int.tmod (wrap64 (a1)) 15) + 2)) 0 0 0 0 0 0 t285 0 (wrap64 ((wrap64 ((Int.tmod (wrap64 (a1)) 15) + 2)) - 1))).bind fun t287 => ((vec_Do.f 5 1 0 0 0 0 (wrap64 ((Int.tmod (wrap64 (a1)) 15) + 2)) (Go.bits .and .i64 (wrap64 (a0)) t284) 0 0 0).bind fun t288 => ((vec_Do.f 3 (wrap64 ((Int.tmod (wrap64 (a1)) 15) + 2)) 0 0 0 0 0 (Go.bits .and .i64 (wrap64 (a0)) t284) 0 0 (wrap64 ((Int.tmod (wrap64 (a1)) 15) + 2))).bind fun t289 => ((vec_Do.f 4 1 0 0 0 0 (wrap64 ((Int.tmod (wrap64 (a1)) 15) + 2)) t289 0 0 0).bind fun t290 => (if t283 = true then ((vec_Do.f 9 (wrap64 ((Int.tmod (wrap64 (a1)) 15) + 2)) 0 0 0 0 0 (Go.bits .and .i64 (wrap64 (a0)) t284) (Go.bits .and .i64 (wrap64 (a0)) t284) 0 (wrap64 ((Int.tmod (wrap64 (a1)) 15) + 2))).bind fun t291 => (if t286 = t291 then (if t287 = t285 then (some (t288 == (wrap64 (1 - t290)))) else (none)) else (none))) else (none)))))) = some r := H
 have A6 := Aside0.mk A60
 clear A60
 replace H := Option.bind_eq_some_iff.mp H
 obtain ⟨t287, A70, H⟩ := H
 replace H : ((vec_Do.f 5 1 0 0 0 0 (wrap64 ((Int.tmod (wrap64 (a1)) 15) + 2)) (Go.bits .and .i64 (wrap64 (a0)) t284) 0 0 0).bind fun t288 => ((vec_Do.f 3 (wrap64 ((Int.tmod (wrap64 (a1)) 15) + 2)) 0 0 0 0 0 (Go.bits .and .i64 (wrap64 (a0)) t284) 0 0 (wrap64 ((Int.tmod (wrap64 (a1)) 15) + 2))).bind fun t289 => ((vec_Do.f 4 1 0 0 0 0 (wrap64 ((Int.tmod (wrap64 (a1)) 15) + 2)) t289 0 0 0).bind fun t290 => (if t283 = true then ((vec_Do.f 9 (wrap64 ((Int.tmod (wrap64 (a1)) 15) + 2)) 0 0 0 0 0 (Go.bits .and .i64 (wrap64 (a0)) t284) (Go.bits .and .i64 (wrap64 (a0)) t284) 0 (wrap64 ((Int.tmod (wrap64 (a1)) 15) + 2))).bind fun t291 => (if t286 = t291 then (if t287 = t285 then (some (t288 == (wrap64 (1 - t290)))) else (none)) else (none))) else (none))))) = some r := H
 have A7 := Aside0.mk A70
 clear A70
 replace H := Option.bind_eq_some_iff.mp H
 obtain ⟨t288, A80, H⟩ := H
 replace H : ((vec_Do.f 3 (wrap64 ((Int.tmod (wrap64 (a1)) 15) + 2)) 0 0 0 0 0 (Go.bits .and .i64 (wrap64 (a0)) t284) 0 0 (wrap64 ((Int.tmod (wrap64 (a1)) 15) + 2))).bind fun t289 => ((vec_Do.f 4 1 0 0 0 0 (wrap64 ((Int.tmod (wrap64 (a1)) 15) + 2)) t289 0 0 0).bind fun t290 => (if t283 = true then ((vec_Do.f 9 (wrap64 ((Int.tmod (wrap64 (a1)) 15) + 2)) 0 0 0 0 0 (Go.bits .and .i64 (wrap64 (a0)) t284) (Go.bits .and .i64 (wrap64 (a0)) t284) 0 (wrap64 ((Int.tmod (wrap64 (a1)) 15) + 2))).bind fun t291 => (if t286 = t291 then (if t287 = t285 then (some (t288 == (wrap64 (1 - t290)))) else (none)) else (none))) else (none)))) = some r := H
 have A8 := Aside0.mk A80
 clear A80
 replace H := Option.bind_eq_some_iff.mp H
 obtain ⟨t289, A90, H⟩ := H
 replace H : ((vec_Do.f 4 1 0 0 0 0 (wrap64 ((Int.tmod (wrap64 (a1)) 15) + 2)) t289 0 0 0).bind fun t290 => (if t283 = true then ((vec_Do.f 9 (wrap64 ((Int.tmod (wrap64 (a1)) 15) + 2)) 0 0 0 0 0 (Go.bits .and .i64 (wrap64 (a0)) t284) (Go.bits .and .i64 (wrap64 (a0)) t284) 0 (wrap64 ((Int.tmod (wrap64 (a1)) 15) + 2))).bind fun t291 => (if t286 = t291 then (if t287 = t285 then (some (t288 == (wrap64 (1 - t290)))) else (none)) else (none))) else (none))) = some r := H
 have A9 := Aside0.mk A90
 clear A90
 replace H := Option.bind_eq_some_iff.mp H
 obtain ⟨t290, A100, H⟩ := H
 replace H : (if t283 = true then ((vec_Do.f 9 (wrap64 ((Int.tmod (wrap64 (a1)) 15) + 2)) 0 0 0 0 0 (Go.bits .and .i64 (wrap64 (a0)) t284) (Go.bits .and .i64 (wrap64 (a0)) t284) 0 (wrap64 ((Int.tmod (wrap64 (a1)) 15) + 2))).bind fun t291 => (if t286 = t291 then (if t287 = t285 then (some (t288 == (wrap64 (1 - t290)))) else (none)) else (none))) else (none)) = some r := H
 have A10 := Aside0.mk A100
 clear A100
 by_cases c11 : t283 = true
 ·subst c11
  have H1 : ((vec_Do.f 9 (wrap64 ((Int.tmod (wrap64 (a1)) 15) + 2)) 0 0 0 0 0 (Go.bits .and .i64 (wrap64 (a0)) t284) (Go.bits .and .i64 (wrap64 (a0)) t284) 0 (wrap64 ((Int.tmod (wrap64 (a1)) 15) + 2))).bind fun t291 => (if t286 = t291 then (if t287 = t285 then (some (t288 == (wrap64 (1 - t290)))) else (none)) else (none))) = some r := by rw [if_pos rfl] at H; exact H
  clear H
  have H := H1
  clear H1
  replace H := Option.bind_eq_some_iff.mp H
  obtain ⟨t291, A120, H⟩ := H
  replace H : (if t286 = t291 then (if t287 = t285 then (some (t288 == (wrap64 (1 - t290)))) else (none)) else (none)) = some r := H
  have A12 := Aside0.mk A120
  clear A120
  by_cases c13 : t286 = t291
  ·rw [if_pos c13] at H
   have c13b0 : (t286 == t291) = true := beq_iff_eq.mpr c13
   have c13b1 : (t286 != t291) = false := bne_eq_false_iff_eq.mpr c13
   clear c13
   by_cases c14 : t287 = t285
   ·rw [if_pos c14] at H
    have c14b0 : (t287 == t285) = true := beq_iff_eq.mpr c14
    have c14b1 : (t287 != t285) = false := bne_eq_false_iff_eq.mpr c14
    clear c14
    obtain rfl := Option.some.inj H
    go_enter Try.func9, Try.ntmps9
    go_wp2_with (first | ((with_reducible refine gate_callee (f := 10) rfl ?_); refine goesL_ (some 14) rfl rfl Try.func10 (by kernel_rfl) rfl #[] rfl (by (try simp only [List.map_toArray, List.map_cons, List.map_nil]); first | done | rfl | (simp only [List.length_drop, List.length_take]; rfl)) ?_; (with_reducible refine (proofmarklaw08_head.calls k  true _ A3.out).mono ?_); rintro e w15 ⟨rfl, hb⟩; refine ⟨_, rfl, ?_⟩; have n0_ := Aside0.mk (below_step (by repeat (first | (with_reducible first | exact HB.out | apply below_alloc | apply pw_below_drewN | apply below_drew1) | exact HB.out)) hb); clear HB; have HB := n0_; clear n0_; (try clear hb); (try clear hb2); (try clear hk); (try clear hi)) | ((with_reducible refine gate_callee (f := 15) rfl ?_); refine goesL_ (some 22) rfl rfl Try.func15 (by kernel_rfl) rfl #[.int .i64 (wrap64 ((Int.tmod (wrap64 (a1)) 15) + 2))] rfl (by (try simp only [List.map_toArray, List.map_cons, List.map_nil]); first | done | rfl | (simp only [List.length_drop, List.length_take]; rfl)) ?_; (with_reducible refine (proofmarkref08_Mask.calls (wrap64 ((Int.tmod (wrap64 (a1)) 15) + 2)) t284 _ A4.out).mono ?_); rintro e w' ⟨rfl, ⟨nd, rfl⟩⟩; refine ⟨_, rfl, ?_⟩) | ((with_reducible refine gate_callee (f := 12) rfl ?_); refine goesL_ (some 30) rfl rfl Try.func12 (by kernel_rfl) rfl #[.agg #[.int .i64 18, .int .i64 (wrap64 ((wrap64 ((Int.tmod (wrap64 (a1)) 15) + 2)) - 1)), .int .i64 0, .int .i64 0, .int .i64 0, .int .i64 (wrap64 ((wrap64 ((Int.tmod (wrap64 (a1)) 15) + 2)) - 2)), .int .i64 0], .int .i64 (Go.bits .and .i64 (wrap64 (a0)) t284), .int .i64 0, .int .i64 0, .int .i64 0] rfl (by (try simp only [List.map_toArray, List.map_cons, List.map_nil]); first | done | rfl | (simp only [List.length_drop, List.length_take]; rfl)) ?_; (with_reducible refine (vec_Do.calls 18 (wrap64 ((wrap64 ((Int.tmod (wrap64 (a1)) 15) + 2)) - 1)) 0 0 0 (wrap64 ((wrap64 ((Int.tmod (wrap64 (a1)) 15) + 2)) - 2)) 0 (Go.bits .and .i64 (wrap64 (a0)) t284) 0 0 0 t285 _ A5.out).mono ?_); rintro e w16 ⟨rfl, hb⟩; refine ⟨_, rfl, ?_⟩; have n0_ := Aside0.mk (below_step (by repeat (first | (with_reducible first | exact HB.out | apply below_alloc | apply pw_below_drewN | apply below_drew1) | exact HB.out)) hb); clear HB; have HB := n0_; clear n0_; (try clear hb); (try clear hb2); (try clear hk); (try clear hi)) | ((with_reducible refine gate_callee (f := 12) rfl ?_); refine goesL_ (some 34) rfl rfl Try.func12 (by kernel_rfl) rfl #[.agg #[.int .i64 17, .int .i64 (wrap64 ((Int.tmod (wrap64 (a1)) 15) + 2)), .int .i64 0, .int .i64 0, .int .i64 0, .int .i64 0, .int .i64 0], .int .i64 t285, .int .i64 0, .int .i64 0, .int .i64 1] rfl (by (try simp only [List.map_toArray, List.map_cons, List.map_nil]); first | done | rfl | (simp only [List.length_drop, List.length_take]; rfl)) ?_; (with_reducible refine (vec_Do.calls 17 (wrap64 ((Int.tmod (wrap64 (a1)) 15) + 2)) 0 0 0 0 0 t285 0 0 1 t286 _ A6.out).mono ?_); rintro e w17 ⟨rfl, hb⟩; refine ⟨_, rfl, ?_⟩; have n0_ := Aside0.mk (below_step (by repeat (first | (with_reducible first | exact HB.out | apply below_alloc | apply pw_below_drewN | apply below_drew1) | exact HB.out)) hb); clear HB; have HB := n0_; clear n0_; (try clear hb); (try clear hb2); (try clear hk); (try clear hi)) | ((with_reducible refine gate_callee (f := 12) rfl ?_); refine goesL_ (some 40) rfl rfl Try.func12 (by kernel_rfl) rfl #[.agg #[.int .i64 17, .int .i64 (wrap64 ((Int.tmod (wrap64 (a1)) 15) + 2)), .int .i64 0, .int .i64 0, .int .i64 0, .int .i64 0, .int .i64 0], .int .i64 0, .int .i64 t285, .int .i64 0, .int .i64 (wrap64 ((wrap64 ((Int.tmod (wrap64 (a1)) 15) + 2)) - 1))] rfl (by (try simp only [List.map_toArray, List.map_cons, List.map_nil]); first | done | rfl | (simp only [List.length_drop, List.length_take]; rfl)) ?_; (with_reducible refine (vec_Do.calls 17 (wrap64 ((Int.tmod (wrap64 (a1)) 15) + 2)) 0 0 0 0 0 0 t285 0 (wrap64 ((wrap64 ((Int.tmod (wrap64 (a1)) 15) + 2)) - 1)) t287 _ A7.out).mono ?_); rintro e w18 ⟨rfl, hb⟩; refine ⟨_, rfl, ?_⟩; have n0_ := Aside0.mk (below_step (by repeat (first | (with_reducible first | exact HB.out | apply below_alloc | apply pw_below_drewN | apply below_drew1) | exact HB.out)) hb); clear HB; have HB := n0_; clear n0_; (try clear hb); (try clear hb2); (try clear hk); (try clear hi)) | ((with_reducible refine gate_callee (f := 12) rfl ?_); refine goesL_ (some 44) rfl rfl Try.func12 (by kernel_rfl) rfl #[.agg #[.int .i64 5, .int .i64 1, .int .i64 0, .int .i64 0, .int .i64 0, .int .i64 0, .int .i64 (wrap64 ((Int.tmod (wrap64 (a1)) 15) + 2))], .int .i64 (Go.bits .and .i64 (wrap64 (a0)) t284), .int .i64 0, .int .i64 0, .int .i64 0] rfl (by (try simp only [List.map_toArray, List.map_cons, List.map_nil]); first | done | rfl | (simp only [List.length_drop, List.length_take]; rfl)) ?_; (with_reducible refine (vec_Do.calls 5 1 0 0 0 0 (wrap64 ((Int.tmod (wrap64 (a1)) 15) + 2)) (Go.bits .and .i64 (wrap64 (a0)) t284) 0 0 0 t288 _ A8.out).mono ?_); rintro e w19 ⟨rfl, hb⟩; refine ⟨_, rfl, ?_⟩; have n0_ := Aside0.mk (below_step (by repeat (first | (with_reducible first | exact HB.out | apply below_alloc | apply pw_below_drewN | apply below_drew1) | exact HB.out)) hb); clear HB; have HB := n0_; clear n0_; (try clear hb); (try clear hb2); (try clear hk); (try clear hi)) | ((with_reducible refine gate_callee (f := 12) rfl ?_); refine goesL_ (some 49) rfl rfl Try.func12 (by kernel_rfl) rfl #[.agg #[.int .i64 3, .int .i64 (wrap64 ((Int.tmod (wrap64 (a1)) 15) + 2)), .int .i64 0, .int .i64 0, .int .i64 0, .int .i64 0, .int .i64 0], .int .i64 (Go.bits .and .i64 (wrap64 (a0)) t284), .int .i64 0, .int .i64 0, .int .i64 (wrap64 ((Int.tmod (wrap64 (a1)) 15) + 2))] rfl (by (try simp only [List.map_toArray, List.map_cons, List.map_nil]); first | done | rfl | (simp only [List.length_drop, List.length_take]; rfl)) ?_; (with_reducible refine (vec_Do.calls 3 (wrap64 ((Int.tmod (wrap64 (a1)) 15) + 2)) 0 0 0 0 0 (Go.bits .and .i64 (wrap64 (a0)) t284) 0 0 (wrap64 ((Int.tmod (wrap64 (a1)) 15) + 2)) t289 _ A9.out).mono ?_); rintro e w20 ⟨rfl, hb⟩; refine ⟨_, rfl, ?_⟩; have n0_ := Aside0.mk (below_step (by repeat (first | (with_reducible first | exact HB.out | apply below_alloc | apply pw_below_drewN | apply below_drew1) | exact HB.out)) hb); clear HB; have HB := n0_; clear n0_; (try clear hb); (try clear hb2); (try clear hk); (try clear hi)) | ((with_reducible refine gate_callee (f := 12) rfl ?_); refine goesL_ (some 53) rfl rfl Try.func12 (by kernel_rfl) rfl #[.agg #[.int .i64 4, .int .i64 1, .int .i64 0, .int .i64 0, .int .i64 0, .int .i64 0, .int .i64 (wrap64 ((Int.tmod (wrap64 (a1)) 15) + 2))], .int .i64 t289, .int .i64 0, .int .i64 0, .int .i64 0] rfl (by (try simp only [List.map_toArray, List.map_cons, List.map_nil]); first | done | rfl | (simp only [List.length_drop, List.length_take]; rfl)) ?_; (with_reducible refine (vec_Do.calls 4 1 0 0 0 0 (wrap64 ((Int.tmod (wrap64 (a1)) 15) + 2)) t289 0 0 0 t290 _ A10.out).mono ?_); rintro e w21 ⟨rfl, hb⟩; refine ⟨_, rfl, ?_⟩; have n0_ := Aside0.mk (below_step (by repeat (first | (with_reducible first | exact HB.out | apply below_alloc | apply pw_below_drewN | apply below_drew1) | exact HB.out)) hb); clear HB; have HB := n0_; clear n0_; (try clear hb); (try clear hb2); (try clear hk); (try clear hi)) | (go_at_call 12; (with_reducible refine (vec_Do.calls 9 (wrap64 ((Int.tmod (wrap64 (a1)) 15) + 2)) 0 0 0 0 0 (Go.bits .and .i64 (wrap64 (a0)) t284) (Go.bits .and .i64 (wrap64 (a0)) t284) 0 (wrap64 ((Int.tmod (wrap64 (a1)) 15) + 2)) t291 _ A12.out).mono ?_); rintro e w22 ⟨rfl, hb⟩; have n0_ := Aside0.mk (below_step (by repeat (first | (with_reducible first | exact HB.out | apply below_alloc | apply pw_below_drewN | apply below_drew1) | exact HB.out)) hb); clear HB; have HB := n0_; clear n0_; (try clear hb); (try clear hb2); (try clear hk); (try clear hi)))
    go_ret
    exact ⟨by first | rfl | (simp [errW_none, errW_some] <;> rfl) | (simp [*, errW_none, errW_some] <;> rfl), by repeat (first | (with_reducible first | exact HB.out | apply below_alloc | apply pw_below_drewN | apply below_drew1) | exact HB.out)⟩
   ·rw [if_neg c14] at H
    exact absurd H (by simp)
  ·rw [if_neg c13] at H
   exact absurd H (by simp)
 ·replace c11 := Bool.eq_false_iff.mpr c11
  subst c11
  have H1 : (none) = some r := by rw [if_neg (show ¬ (false = true) by decide)] at H; exact H
  clear H
  have H := H1
  clear H1
  exact absurd H (by simp)

end Go.Proofs.Ytcfipamdinfomaa.Xb
