/- Printed by this session's program xprint.py (over the kit's print): the Go functions named below come to the Lean functions of the same names, whatever the world. -/
import Derived.Test.YtdfbnlmjnollnaaXb0
import Derived.Test.YtdfbnlmjnollnaaXb3
import Derived.Test.YtdfbnlmjnollnaaXb6
namespace Go.Proofs.Ytdfbnlmjnollnaa.Xb
open Go.RowKit Go.Proofs.YtdfbnlmjnollnaaW.PrintWords Go.Proofs.YtdfbnlmjnollnaaW.PrintLast Go.Proofs.YtdfbnlmjnollnaaW.PrintMore
attribute [local go_sem] max2_int min2_int max_two min_two max_three min_three max_four min_four   -- for this text's walks alone
set_option linter.unusedVariables false
set_option linter.unusedSimpArgs false

/-! ### proofmarklaw17_CnfTurn: function 5 -/
def proofmarklaw17_CnfTurn.f (k : Nat) (a0 : Int) (a1 : Int) (a2 : Int) : Option (Bool) := (proofmarklaw17_head.f k).bind fun t327 => ((cnf_Of.f (wrap64 (a0)) (wrap64 (a2))).bind fun t328 => ((cnf_Of.f (wrap64 (a1)) (wrap64 (a2))).bind fun t329 => (if t328 < 0 then (if t327 = true then ((cnf_Of.f (Go.bits .xor .i64 (wrap64 (a0)) 1) (wrap64 (a2))).bind fun t330 => (if t330 = (wrap64 (-t328)) then (if ((t328 == t329) == (a0 == a1)) = true then (if t328 = 0 then (some false) else (some ((wrap64 ((wrap64 (2 * (wrap64 ((wrap64 ((mx t328 (wrap64 (-t328))) - (wrap64 (a2)))) - 1)))) + 1)) == (wrap64 (a0))))) else (some false)) else (some false))) else (some false)) else (if t327 = true then ((cnf_Of.f (Go.bits .xor .i64 (wrap64 (a0)) 1) (wrap64 (a2))).bind fun t331 => (if t331 = (wrap64 (-t328)) then (if ((t328 == t329) == (a0 == a1)) = true then (if t328 = 0 then (some false) else (some ((wrap64 (2 * (wrap64 ((wrap64 ((mx t328 (wrap64 (-t328))) - (wrap64 (a2)))) - 1)))) == (wrap64 (a0))))) else (some false)) else (some false))) else (some false)))))
theorem proofmarklaw17_CnfTurn.mono : ∀ a0 a1 a2 k, LeO (proofmarklaw17_CnfTurn.f k a0 a1 a2) (proofmarklaw17_CnfTurn.f (k + 1) a0 a1 a2) := by
 intro a0 a1 a2 k
 unfold proofmarklaw17_CnfTurn.f
 repeat' first
   | (with_reducible exact proofmarklaw17_head.mono _)
   | (with_reducible exact LeO.refl _)
   | (with_reducible exact LeO.none _)
   | (with_reducible refine LeO.ite ?_ ?_)
   | (with_reducible refine LeO.bind ?_ (fun _ => ?_))
   | exact proofmarklaw17_head.mono _
   | exact LeO.none _
   | refine LeO.ite ?_ ?_
   | refine LeO.bind ?_ (fun _ => ?_)
set_option maxHeartbeats 8000000 in
set_option maxRecDepth 100000 in
theorem proofmarklaw17_CnfTurn.calls (k : Nat) (a0 : Int) (a1 : Int) (a2 : Int) (r : Bool) (w : World) (h : proofmarklaw17_CnfTurn.f k a0 a1 a2 = some r) :
  Calls Try.prog 5 #[.int .u16 a0, .int .u16 a1, .int .u16 a2] w fun e w' => e = .returned (.bool r) ∧ Below w.heap.size w w' := by
 have HB := Aside0.mk (Below.refl w.heap.size w)
 have H : ((proofmarklaw17_head.f k).bind fun t327 => ((cnf_Of.f (wrap64 (a0)) (wrap64 (a2))).bind fun t328 => ((cnf_Of.f (wrap64 (a1)) (wrap64 (a2))).bind fun t329 => (if t328 < 0 then (if t327 = true then ((cnf_Of.f (Go.bits .xor .i64 (wrap64 (a0)) 1) (wrap64 (a2))).bind fun t330 => (if t330 = (wrap64 (-t328)) then (if ((t328 == t329) == (a0 == a1)) = true then (if t328 = 0 then (some false) else (some ((wrap64 ((wrap64 (2 * (wrap64 ((wrap64 ((mx t328 (wrap64 (-t328))) - (wrap64 (a2)))) - 1)))) + 1)) == (wrap64 (a0))))) else (some false)) else (some false))) else (some false)) else (if t327 = true then ((cnf_Of.f (Go.bits .xor .i64 (wrap64 (a0)) 1) (wrap64 (a2))).bind fun t331 => (if t331 = (wrap64 (-t328)) then (if ((t328 == t329) == (a0 == a1)) = true then (if t328 = 0 then (some false) else (some ((wrap64 (2 * (wrap64 ((wrap64 ((mx t328 (wrap64 (-t328))) - (wrap64 (a2)))) - 1)))) == (wrap64 (a0))))) else (some false)) else (some false))) else (some false)))))) = some r := h
 clear h
 replace H := Option.bind_eq_some_iff.mp H
 obtain ⟨t327, A40, H⟩ := H
 replace H : ((cnf_Of.f (wrap64 (a0)) (wrap64 (a2))).bind fun t328 => ((cnf_Of.f (wrap64 (a1)) (wrap64 (a2))).bind fun t329 => (if t328 < 0 then (if t327 = true then ((cnf_Of.f (Go.bits .xor .i64 (wrap64 (a0)) 1) (wrap64 (a2))).bind fun t330 => (if t330 = (wrap64 (-t328)) then (if ((t328 == t329) == (a0 == a1)) = true then (if t328 = 0 then (some false) else (some ((wrap64 ((wrap64 (2 * (wrap64 ((wrap64 ((mx t328 (wrap64 (-t328))) - (wrap64 (a2)))) - 1)))) + 1)) == (wrap64 (a0))))) else (some false)) else (some false))) else (some false)) else (if t327 = true then ((cnf_Of.f (Go.bits .xor .i64 (wrap64 (a0)) 1) (wrap64 (a2))).bind fun t331 => (if t331 = (wrap64 (-t328)) then (if ((t328 == t329) == (a0 == a1)) = true then (if t328 = 0 then (some false) else (some ((wrap64 (2 * (wrap64 ((wrap64 ((mx t328 (wrap64 (-t328))) - (wrap64 (a2)))) - 1)))) == (wrap64 (a0))))) else (some false)) else (some false))) else (some false))))) = some r := H
 have A4 := Aside0.mk A40
 clear A40
 replace H := Option.bind_eq_some_iff.mp H
 obtain ⟨t328, A50, H⟩ := H
 replace H : ((cnf_Of.f (wrap64 (a1)) (wrap64 (a2))).bind fun t329 => (if t328 < 0 then (if t327 = true then ((cnf_Of.f (Go.bits .xor .i64 (wrap64 (a0)) 1) (wrap64 (a2))).bind fun t330 => (if t330 = (wrap64 (-t328)) then (if ((t328 == t329) == (a0 == a1)) = true then (if t328 = 0 then (some false) else (some ((wrap64 ((wrap64 (2 * (wrap64 ((wrap64 ((mx t328 (wrap64 (-t328))) - (wrap64 (a2)))) - 1)))) + 1)) == (wrap64 (a0))))) else (some false)) else (some false))) else (some false)) else (if t327 = true then ((cnf_Of.f (Go.bits .xor .i64 (wrap64 (a0)) 1) (wrap64 (a2))).bind fun t331 => (if t331 = (wrap64 (-t328)) then (if ((t328 == t329) == (a0 == a1)) = true then (if t328 = 0 then (some false) else (some ((wrap64 (2 * (wrap64 ((wrap64 ((mx t328 (wrap64 (-t328))) - (wrap64 (a2)))) - 1)))) == (wrap64 (a0))))) else (some false)) else (some false))) else (some false)))) = some r := H
 have A5 := Aside0.mk A50
 clear A50
 replace H := Option.bind_eq_some_iff.mp H
 obtain ⟨t329, A60, H⟩ := H
 replace H : (if t328 < 0 then (if t327 = true then ((cnf_Of.f (Go.bits .xor .i64 (wrap64 (a0)) 1) (wrap64 (a2))).bind fun t330 => (if t330 = (wrap64 (-t328)) then (if ((t328 == t329) == (a0 == a1)) = true then (if t328 = 0 then (some false) else (some ((wrap64 ((wrap64 (2 * (wrap64 ((wrap64 ((mx t328 (wrap64 (-t328))) - (wrap64 (a2)))) - 1)))) + 1)) == (wrap64 (a0))))) else (some false)) else (some false))) else (some false)) else (if t327 = true then ((cnf_Of.f (Go.bits .xor .i64 (wrap64 (a0)) 1) (wrap64 (a2))).bind fun t331 => (if t331 = (wrap64 (-t328)) then (if ((t328 == t329) == (a0 == a1)) = true then (if t328 = 0 then (some false) else (some ((wrap64 (2 * (wrap64 ((wrap64 ((mx t328 (wrap64 (-t328))) - (wrap64 (a2)))) - 1)))) == (wrap64 (a0))))) else (some false)) else (some false))) else (some false))) = some r := H
 have A6 := Aside0.mk A60
 clear A60
 obtain ⟨ji7, hji7⟩ : ∃ j_ : Int, (mx t328 (wrap64 (-t328))) = j_ := ⟨_, rfl⟩
 replace H : (if t328 < 0 then (if t327 = true then ((cnf_Of.f (Go.bits .xor .i64 (wrap64 (a0)) 1) (wrap64 (a2))).bind fun t330 => (if t330 = (wrap64 (-t328)) then (if ((t328 == t329) == (a0 == a1)) = true then (if t328 = 0 then (some false) else (some ((wrap64 ((wrap64 (2 * (wrap64 ((wrap64 ((ji7) - (wrap64 (a2)))) - 1)))) + 1)) == (wrap64 (a0))))) else (some false)) else (some false))) else (some false)) else (if t327 = true then ((cnf_Of.f (Go.bits .xor .i64 (wrap64 (a0)) 1) (wrap64 (a2))).bind fun t331 => (if t331 = (wrap64 (-t328)) then (if ((t328 == t329) == (a0 == a1)) = true then (if t328 = 0 then (some false) else (some ((wrap64 (2 * (wrap64 ((wrap64 ((ji7) - (wrap64 (a2)))) - 1)))) == (wrap64 (a0))))) else (some false)) else (some false))) else (some false))) = some r := by first | (rw [hji7] at H; exact H) | (simp only [hji7] at H ⊢; exact H)
 (try rw [hji7] at A4)
 (try rw [hji7] at A5)
 (try rw [hji7] at A6)
 have hji7_ : (if t328 < (wrap64 (-t328)) then (wrap64 (-t328)) else t328) = ji7 := hji7
 by_cases c8 : t328 < 0
 ·rw [if_pos c8] at H
  have c8b0 : decide (t328 < 0) = true := decide_eq_true c8
  clear c8
  by_cases c9 : t327 = true
  ·subst c9
   have H1 : ((cnf_Of.f (Go.bits .xor .i64 (wrap64 (a0)) 1) (wrap64 (a2))).bind fun t330 => (if t330 = (wrap64 (-t328)) then (if ((t328 == t329) == (a0 == a1)) = true then (if t328 = 0 then (some false) else (some ((wrap64 ((wrap64 (2 * (wrap64 ((wrap64 ((ji7) - (wrap64 (a2)))) - 1)))) + 1)) == (wrap64 (a0))))) else (some false)) else (some false))) = some r := by rw [if_pos rfl] at H; exact H
   clear H
   have H := H1
   clear H1
   replace H := Option.bind_eq_some_iff.mp H
   obtain ⟨t330, A100, H⟩ := H
   replace H : (if t330 = (wrap64 (-t328)) then (if ((t328 == t329) == (a0 == a1)) = true then (if t328 = 0 then (some false) else (some ((wrap64 ((wrap64 (2 * (wrap64 ((wrap64 ((ji7) - (wrap64 (a2)))) - 1)))) + 1)) == (wrap64 (a0))))) else (some false)) else (some false)) = some r := H
   have A10 := Aside0.mk A100
   clear A100
   by_cases c11 : t330 = (wrap64 (-t328))
   ·rw [if_pos c11] at H
    have c11b0 : (t330 == (wrap64 (-t328))) = true := beq_iff_eq.mpr c11
    have c11b1 : (t330 != (wrap64 (-t328))) = false := bne_eq_false_iff_eq.mpr c11
    clear c11
    by_cases c12 : ((t328 == t329) == (a0 == a1)) = true
    ·rw [if_pos c12] at H
     have c12b0 : ((t328 == t329) == (a0 == a1)) = true := c12
     (try (have c12b1 : decide ((t328 == t329) = (a0 == a1)) = true := by simpa using c12))
     (try (have c12b2 : ((t328 == t329) == (a0 == a1)) = true := by simpa using c12))
     clear c12
     by_cases c13 : t328 = 0
     ·rw [if_pos c13] at H
      have c13b0 : (t328 == 0) = true := beq_iff_eq.mpr c13
      have c13b1 : (t328 != 0) = false := bne_eq_false_iff_eq.mpr c13
      clear c13
      obtain rfl := Option.some.inj H
      go_enter Try.func5, Try.ntmps5
      go_wp2_with (first | ((with_reducible refine gate_callee (f := 10) rfl ?_); refine goesL_ (some 12) rfl rfl Try.func10 (by kernel_rfl) rfl #[] rfl (by (try simp only [List.map_toArray, List.map_cons, List.map_nil]); first | done | rfl | (simp only [List.length_drop, List.length_take]; rfl)) ?_; (with_reducible refine (proofmarklaw17_head.calls k  true _ A4.out).mono ?_); rintro e w14 ⟨rfl, hb⟩; refine ⟨_, rfl, ?_⟩; have n0_ := Aside0.mk (below_step (by repeat (first | (with_reducible first | exact HB.out | apply below_alloc | apply pw_below_drewN | apply below_drew1) | exact HB.out)) hb); clear HB; have HB := n0_; clear n0_; (try clear hb); (try clear hb2); (try clear hk); (try clear hi)) | ((with_reducible refine gate_callee (f := 15) rfl ?_); refine goesL_ (some 17) rfl rfl Try.func15 (by kernel_rfl) rfl #[.int .i64 (wrap64 (a0)), .int .i64 (wrap64 (a2))] rfl (by (try simp only [List.map_toArray, List.map_cons, List.map_nil]); first | done | rfl | (simp only [List.length_drop, List.length_take]; rfl)) ?_; (with_reducible refine (cnf_Of.calls (wrap64 (a0)) (wrap64 (a2)) t328 _ A5.out).mono ?_); rintro e w' ⟨rfl, ⟨nd, rfl⟩⟩; refine ⟨_, rfl, ?_⟩) | ((with_reducible refine gate_callee (f := 15) rfl ?_); refine goesL_ (some 22) rfl rfl Try.func15 (by kernel_rfl) rfl #[.int .i64 (wrap64 (a1)), .int .i64 (wrap64 (a2))] rfl (by (try simp only [List.map_toArray, List.map_cons, List.map_nil]); first | done | rfl | (simp only [List.length_drop, List.length_take]; rfl)) ?_; (with_reducible refine (cnf_Of.calls (wrap64 (a1)) (wrap64 (a2)) t329 _ A6.out).mono ?_); rintro e w' ⟨rfl, ⟨nd, rfl⟩⟩; refine ⟨_, rfl, ?_⟩) | (go_at_call 15; (with_reducible refine (cnf_Of.calls (Go.bits .xor .i64 (wrap64 (a0)) 1) (wrap64 (a2)) t330 _ A10.out).mono ?_); rintro e w' ⟨rfl, ⟨nd, rfl⟩⟩))
      go_ret
      exact ⟨by first | rfl | (simp [errW_none, errW_some] <;> rfl) | (simp only [← hji7]; first | rfl | (simp [errW_none, errW_some] <;> rfl)) | (simp [*, errW_none, errW_some] <;> rfl), by repeat (first | (with_reducible first | exact HB.out | apply below_alloc | apply pw_below_drewN | apply below_drew1) | exact HB.out)⟩
     ·rw [if_neg c13] at H
      have c13b0 : (t328 == 0) = false := beq_eq_false_iff_ne.mpr c13
      have c13b1 : (t328 != 0) = true := bne_iff_ne.mpr c13
      obtain rfl := Option.some.inj H
      go_enter Try.func5, Try.ntmps5
      go_wp2_with (first | ((with_reducible refine gate_callee (f := 10) rfl ?_); refine goesL_ (some 12) rfl rfl Try.func10 (by kernel_rfl) rfl #[] rfl (by (try simp only [List.map_toArray, List.map_cons, List.map_nil]); first | done | rfl | (simp only [List.length_drop, List.length_take]; rfl)) ?_; (with_reducible refine (proofmarklaw17_head.calls k  true _ A4.out).mono ?_); rintro e w15 ⟨rfl, hb⟩; refine ⟨_, rfl, ?_⟩; have n0_ := Aside0.mk (below_step (by repeat (first | (with_reducible first | exact HB.out | apply below_alloc | apply pw_below_drewN | apply below_drew1) | exact HB.out)) hb); clear HB; have HB := n0_; clear n0_; (try clear hb); (try clear hb2); (try clear hk); (try clear hi)) | ((with_reducible refine gate_callee (f := 15) rfl ?_); refine goesL_ (some 17) rfl rfl Try.func15 (by kernel_rfl) rfl #[.int .i64 (wrap64 (a0)), .int .i64 (wrap64 (a2))] rfl (by (try simp only [List.map_toArray, List.map_cons, List.map_nil]); first | done | rfl | (simp only [List.length_drop, List.length_take]; rfl)) ?_; (with_reducible refine (cnf_Of.calls (wrap64 (a0)) (wrap64 (a2)) t328 _ A5.out).mono ?_); rintro e w' ⟨rfl, ⟨nd, rfl⟩⟩; refine ⟨_, rfl, ?_⟩) | ((with_reducible refine gate_callee (f := 15) rfl ?_); refine goesL_ (some 22) rfl rfl Try.func15 (by kernel_rfl) rfl #[.int .i64 (wrap64 (a1)), .int .i64 (wrap64 (a2))] rfl (by (try simp only [List.map_toArray, List.map_cons, List.map_nil]); first | done | rfl | (simp only [List.length_drop, List.length_take]; rfl)) ?_; (with_reducible refine (cnf_Of.calls (wrap64 (a1)) (wrap64 (a2)) t329 _ A6.out).mono ?_); rintro e w' ⟨rfl, ⟨nd, rfl⟩⟩; refine ⟨_, rfl, ?_⟩) | (go_at_call 15; (with_reducible refine (cnf_Of.calls (Go.bits .xor .i64 (wrap64 (a0)) 1) (wrap64 (a2)) t330 _ A10.out).mono ?_); rintro e w' ⟨rfl, ⟨nd, rfl⟩⟩))
      go_ret
      exact ⟨by first | rfl | (simp [errW_none, errW_some] <;> rfl) | (simp only [← hji7]; first | rfl | (simp [errW_none, errW_some] <;> rfl)) | (simp [*, errW_none, errW_some] <;> rfl), by repeat (first | (with_reducible first | exact HB.out | apply below_alloc | apply pw_below_drewN | apply below_drew1) | exact HB.out)⟩
    ·rw [if_neg c12] at H
     have c12b0 : ((t328 == t329) == (a0 == a1)) = false := by simpa using c12
     (try (have c12b1 : decide ((t328 == t329) = (a0 == a1)) = false := by simpa using c12))
     (try (have c12b2 : ((t328 == t329) == (a0 == a1)) = false := by simpa using c12))
     (try (have c12b3 : ¬ ((t328 == t329) = (a0 == a1)) := by simpa using c12))
     clear c12
     obtain rfl := Option.some.inj H
     go_enter Try.func5, Try.ntmps5
     go_wp2_with (first | ((with_reducible refine gate_callee (f := 10) rfl ?_); refine goesL_ (some 12) rfl rfl Try.func10 (by kernel_rfl) rfl #[] rfl (by (try simp only [List.map_toArray, List.map_cons, List.map_nil]); first | done | rfl | (simp only [List.length_drop, List.length_take]; rfl)) ?_; (with_reducible refine (proofmarklaw17_head.calls k  true _ A4.out).mono ?_); rintro e w16 ⟨rfl, hb⟩; refine ⟨_, rfl, ?_⟩; have n0_ := Aside0.mk (below_step (by repeat (first | (with_reducible first | exact HB.out | apply below_alloc | apply pw_below_drewN | apply below_drew1) | exact HB.out)) hb); clear HB; have HB := n0_; clear n0_; (try clear hb); (try clear hb2); (try clear hk); (try clear hi)) | ((with_reducible refine gate_callee (f := 15) rfl ?_); refine goesL_ (some 17) rfl rfl Try.func15 (by kernel_rfl) rfl #[.int .i64 (wrap64 (a0)), .int .i64 (wrap64 (a2))] rfl (by (try simp only [List.map_toArray, List.map_cons, List.map_nil]); first | done | rfl | (simp only [List.length_drop, List.length_take]; rfl)) ?_; (with_reducible refine (cnf_Of.calls (wrap64 (a0)) (wrap64 (a2)) t328 _ A5.out).mono ?_); rintro e w' ⟨rfl, ⟨nd, rfl⟩⟩; refine ⟨_, rfl, ?_⟩) | ((with_reducible refine gate_callee (f := 15) rfl ?_); refine goesL_ (some 22) rfl rfl Try.func15 (by kernel_rfl) rfl #[.int .i64 (wrap64 (a1)), .int .i64 (wrap64 (a2))] rfl (by (try simp only [List.map_toArray, List.map_cons, List.map_nil]); first | done | rfl | (simp only [List.length_drop, List.length_take]; rfl)) ?_; (with_reducible refine (cnf_Of.calls (wrap64 (a1)) (wrap64 (a2)) t329 _ A6.out).mono ?_); rintro e w' ⟨rfl, ⟨nd, rfl⟩⟩; refine ⟨_, rfl, ?_⟩) | (go_at_call 15; (with_reducible refine (cnf_Of.calls (Go.bits .xor .i64 (wrap64 (a0)) 1) (wrap64 (a2)) t330 _ A10.out).mono ?_); rintro e w' ⟨rfl, ⟨nd, rfl⟩⟩))
     go_ret
     exact ⟨by first | rfl | (simp [errW_none, errW_some] <;> rfl) | (simp only [← hji7]; first | rfl | (simp [errW_none, errW_some] <;> rfl)) | (simp [*, errW_none, errW_some] <;> rfl), by repeat (first | (with_reducible first | exact HB.out | apply below_alloc | apply pw_below_drewN | apply below_drew1) | exact HB.out)⟩
   ·rw [if_neg c11] at H
    have c11b0 : (t330 == (wrap64 (-t328))) = false := beq_eq_false_iff_ne.mpr c11
    have c11b1 : (t330 != (wrap64 (-t328))) = true := bne_iff_ne.mpr c11
    obtain rfl := Option.some.inj H
    go_enter Try.func5, Try.ntmps5
    go_wp2_with (first | ((with_reducible refine gate_callee (f := 10) rfl ?_); refine goesL_ (some 12) rfl rfl Try.func10 (by kernel_rfl) rfl #[] rfl (by (try simp only [List.map_toArray, List.map_cons, List.map_nil]); first | done | rfl | (simp only [List.length_drop, List.length_take]; rfl)) ?_; (with_reducible refine (proofmarklaw17_head.calls k  true _ A4.out).mono ?_); rintro e w17 ⟨rfl, hb⟩; refine ⟨_, rfl, ?_⟩; have n0_ := Aside0.mk (below_step (by repeat (first | (with_reducible first | exact HB.out | apply below_alloc | apply pw_below_drewN | apply below_drew1) | exact HB.out)) hb); clear HB; have HB := n0_; clear n0_; (try clear hb); (try clear hb2); (try clear hk); (try clear hi)) | ((with_reducible refine gate_callee (f := 15) rfl ?_); refine goesL_ (some 17) rfl rfl Try.func15 (by kernel_rfl) rfl #[.int .i64 (wrap64 (a0)), .int .i64 (wrap64 (a2))] rfl (by (try simp only [List.map_toArray, List.map_cons, List.map_nil]); first | done | rfl | (simp only [List.length_drop, List.length_take]; rfl)) ?_; (with_reducible refine (cnf_Of.calls (wrap64 (a0)) (wrap64 (a2)) t328 _ A5.out).mono ?_); rintro e w' ⟨rfl, ⟨nd, rfl⟩⟩; refine ⟨_, rfl, ?_⟩) | ((with_reducible refine gate_callee (f := 15) rfl ?_); refine goesL_ (some 22) rfl rfl Try.func15 (by kernel_rfl) rfl #[.int .i64 (wrap64 (a1)), .int .i64 (wrap64 (a2))] rfl (by (try simp only [List.map_toArray, List.map_cons, List.map_nil]); first | done | rfl | (simp only [List.length_drop, List.length_take]; rfl)) ?_; (with_reducible refine (cnf_Of.calls (wrap64 (a1)) (wrap64 (a2)) t329 _ A6.out).mono ?_); rintro e w' ⟨rfl, ⟨nd, rfl⟩⟩; refine ⟨_, rfl, ?_⟩) | (go_at_call 15; (with_reducible refine (cnf_Of.calls (Go.bits .xor .i64 (wrap64 (a0)) 1) (wrap64 (a2)) t330 _ A10.out).mono ?_); rintro e w' ⟨rfl, ⟨nd, rfl⟩⟩))
    go_ret
    exact ⟨by first | rfl | (simp [errW_none, errW_some] <;> rfl) | (simp only [← hji7]; first | rfl | (simp [errW_none, errW_some] <;> rfl)) | (simp [*, errW_none, errW_some] <;> rfl), by repeat (first | (with_reducible first | exact HB.out | apply below_alloc | apply pw_below_drewN | apply below_drew1) | exact HB.out)⟩
  ·replace c9 := Bool.eq_false_iff.mpr c9
   subst c9
   have H1 : (some false) = some r := by rw [if_neg (show ¬ (false = true) by decide)] at H; exact H
   clear H
   have H := H1
   clear H1
   obtain rfl := Option.some.inj H
   go_enter Try.func5, Try.ntmps5
   go_wp2_with (first | ((with_reducible refine gate_callee (f := 10) rfl ?_); refine goesL_ (some 12) rfl rfl Try.func10 (by kernel_rfl) rfl #[] rfl (by (try simp only [List.map_toArray, List.map_cons, List.map_nil]); first | done | rfl | (simp only [List.length_drop, List.length_take]; rfl)) ?_; (with_reducible refine (proofmarklaw17_head.calls k  false _ A4.out).mono ?_); rintro e w18 ⟨rfl, hb⟩; refine ⟨_, rfl, ?_⟩; have n0_ := Aside0.mk (below_step (by repeat (first | (with_reducible first | exact HB.out | apply below_alloc | apply pw_below_drewN | apply below_drew1) | exact HB.out)) hb); clear HB; have HB := n0_; clear n0_; (try clear hb); (try clear hb2); (try clear hk); (try clear hi)) | ((with_reducible refine gate_callee (f := 15) rfl ?_); refine goesL_ (some 17) rfl rfl Try.func15 (by kernel_rfl) rfl #[.int .i64 (wrap64 (a0)), .int .i64 (wrap64 (a2))] rfl (by (try simp only [List.map_toArray, List.map_cons, List.map_nil]); first | done | rfl | (simp only [List.length_drop, List.length_take]; rfl)) ?_; (with_reducible refine (cnf_Of.calls (wrap64 (a0)) (wrap64 (a2)) t328 _ A5.out).mono ?_); rintro e w' ⟨rfl, ⟨nd, rfl⟩⟩; refine ⟨_, rfl, ?_⟩) | ((with_reducible refine gate_callee (f := 15) rfl ?_); refine goesL_ (some 22) rfl rfl Try.func15 (by kernel_rfl) rfl #[.int .i64 (wrap64 (a1)), .int .i64 (wrap64 (a2))] rfl (by (try simp only [List.map_toArray, List.map_cons, List.map_nil]); first | done | rfl | (simp only [List.length_drop, List.length_take]; rfl)) ?_; (with_reducible refine (cnf_Of.calls (wrap64 (a1)) (wrap64 (a2)) t329 _ A6.out).mono ?_); rintro e w' ⟨rfl, ⟨nd, rfl⟩⟩; refine ⟨_, rfl, ?_⟩))
   go_ret
   exact ⟨by first | rfl | (simp [errW_none, errW_some] <;> rfl) | (simp only [← hji7]; first | rfl | (simp [errW_none, errW_some] <;> rfl)) | (simp [*, errW_none, errW_some] <;> rfl), by repeat (first | (with_reducible first | exact HB.out | apply below_alloc | apply pw_below_drewN | apply below_drew1) | exact HB.out)⟩
 ·rw [if_neg c8] at H
  have c8b0 : decide (t328 < 0) = false := decide_eq_false c8
  clear c8
  by_cases c19 : t327 = true
  ·subst c19
   have H1 : ((cnf_Of.f (Go.bits .xor .i64 (wrap64 (a0)) 1) (wrap64 (a2))).bind fun t331 => (if t331 = (wrap64 (-t328)) then (if ((t328 == t329) == (a0 == a1)) = true then (if t328 = 0 then (some false) else (some ((wrap64 (2 * (wrap64 ((wrap64 ((ji7) - (wrap64 (a2)))) - 1)))) == (wrap64 (a0))))) else (some false)) else (some false))) = some r := by rw [if_pos rfl] at H; exact H
   clear H
   have H := H1
   clear H1
   replace H := Option.bind_eq_some_iff.mp H
   obtain ⟨t331, A200, H⟩ := H
   replace H : (if t331 = (wrap64 (-t328)) then (if ((t328 == t329) == (a0 == a1)) = true then (if t328 = 0 then (some false) else (some ((wrap64 (2 * (wrap64 ((wrap64 ((ji7) - (wrap64 (a2)))) - 1)))) == (wrap64 (a0))))) else (some false)) else (some false)) = some r := H
   have A20 := Aside0.mk A200
   clear A200
   by_cases c21 : t331 = (wrap64 (-t328))
   ·rw [if_pos c21] at H
    have c21b0 : (t331 == (wrap64 (-t328))) = true := beq_iff_eq.mpr c21
    have c21b1 : (t331 != (wrap64 (-t328))) = false := bne_eq_false_iff_eq.mpr c21
    clear c21
    by_cases c22 : ((t328 == t329) == (a0 == a1)) = true
    ·rw [if_pos c22] at H
     have c22b0 : ((t328 == t329) == (a0 == a1)) = true := c22
     (try (have c22b1 : decide ((t328 == t329) = (a0 == a1)) = true := by simpa using c22))
     (try (have c22b2 : ((t328 == t329) == (a0 == a1)) = true := by simpa using c22))
     clear c22
     by_cases c23 : t328 = 0
     ·rw [if_pos c23] at H
      have c23b0 : (t328 == 0) = true := beq_iff_eq.mpr c23
      have c23b1 : (t328 != 0) = false := bne_eq_false_iff_eq.mpr c23
      clear c23
      obtain rfl := Option.some.inj H
      go_enter Try.func5, Try.ntmps5
      go_wp2_with (first | ((with_reducible refine gate_callee (f := 10) rfl ?_); refine goesL_ (some 12) rfl rfl Try.func10 (by kernel_rfl) rfl #[] rfl (by (try simp only [List.map_toArray, List.map_cons, List.map_nil]); first | done | rfl | (simp only [List.length_drop, List.length_take]; rfl)) ?_; (with_reducible refine (proofmarklaw17_head.calls k  true _ A4.out).mono ?_); rintro e w24 ⟨rfl, hb⟩; refine ⟨_, rfl, ?_⟩; have n0_ := Aside0.mk (below_step (by repeat (first | (with_reducible first | exact HB.out | apply below_alloc | apply pw_below_drewN | apply below_drew1) | exact HB.out)) hb); clear HB; have HB := n0_; clear n0_; (try clear hb); (try clear hb2); (try clear hk); (try clear hi)) | ((with_reducible refine gate_callee (f := 15) rfl ?_); refine goesL_ (some 17) rfl rfl Try.func15 (by kernel_rfl) rfl #[.int .i64 (wrap64 (a0)), .int .i64 (wrap64 (a2))] rfl (by (try simp only [List.map_toArray, List.map_cons, List.map_nil]); first | done | rfl | (simp only [List.length_drop, List.length_take]; rfl)) ?_; (with_reducible refine (cnf_Of.calls (wrap64 (a0)) (wrap64 (a2)) t328 _ A5.out).mono ?_); rintro e w' ⟨rfl, ⟨nd, rfl⟩⟩; refine ⟨_, rfl, ?_⟩) | ((with_reducible refine gate_callee (f := 15) rfl ?_); refine goesL_ (some 22) rfl rfl Try.func15 (by kernel_rfl) rfl #[.int .i64 (wrap64 (a1)), .int .i64 (wrap64 (a2))] rfl (by (try simp only [List.map_toArray, List.map_cons, List.map_nil]); first | done | rfl | (simp only [List.length_drop, List.length_take]; rfl)) ?_; (with_reducible refine (cnf_Of.calls (wrap64 (a1)) (wrap64 (a2)) t329 _ A6.out).mono ?_); rintro e w' ⟨rfl, ⟨nd, rfl⟩⟩; refine ⟨_, rfl, ?_⟩) | (go_at_call 15; (with_reducible refine (cnf_Of.calls (Go.bits .xor .i64 (wrap64 (a0)) 1) (wrap64 (a2)) t331 _ A20.out).mono ?_); rintro e w' ⟨rfl, ⟨nd, rfl⟩⟩))
      go_ret
      exact ⟨by first | rfl | (simp [errW_none, errW_some] <;> rfl) | (simp only [← hji7]; first | rfl | (simp [errW_none, errW_some] <;> rfl)) | (simp [*, errW_none, errW_some] <;> rfl), by repeat (first | (with_reducible first | exact HB.out | apply below_alloc | apply pw_below_drewN | apply below_drew1) | exact HB.out)⟩
     ·rw [if_neg c23] at H
      have c23b0 : (t328 == 0) = false := beq_eq_false_iff_ne.mpr c23
      have c23b1 : (t328 != 0) = true := bne_iff_ne.mpr c23
      obtain rfl := Option.some.inj H
      go_enter Try.func5, Try.ntmps5
      go_wp2_with (first | ((with_reducible refine gate_callee (f := 10) rfl ?_); refine goesL_ (some 12) rfl rfl Try.func10 (by kernel_rfl) rfl #[] rfl (by (try simp only [List.map_toArray, List.map_cons, List.map_nil]); first | done | rfl | (simp only [List.length_drop, List.length_take]; rfl)) ?_; (with_reducible refine (proofmarklaw17_head.calls k  true _ A4.out).mono ?_); rintro e w25 ⟨rfl, hb⟩; refine ⟨_, rfl, ?_⟩; have n0_ := Aside0.mk (below_step (by repeat (first | (with_reducible first | exact HB.out | apply below_alloc | apply pw_below_drewN | apply below_drew1) | exact HB.out)) hb); clear HB; have HB := n0_; clear n0_; (try clear hb); (try clear hb2); (try clear hk); (try clear hi)) | ((with_reducible refine gate_callee (f := 15) rfl ?_); refine goesL_ (some 17) rfl rfl Try.func15 (by kernel_rfl) rfl #[.int .i64 (wrap64 (a0)), .int .i64 (wrap64 (a2))] rfl (by (try simp only [List.map_toArray, List.map_cons, List.map_nil]); first | done | rfl | (simp only [List.length_drop, List.length_take]; rfl)) ?_; (with_reducible refine (cnf_Of.calls (wrap64 (a0)) (wrap64 (a2)) t328 _ A5.out).mono ?_); rintro e w' ⟨rfl, ⟨nd, rfl⟩⟩; refine ⟨_, rfl, ?_⟩) | ((with_reducible refine gate_callee (f := 15) rfl ?_); refine goesL_ (some 22) rfl rfl Try.func15 (by kernel_rfl) rfl #[.int .i64 (wrap64 (a1)), .int .i64 (wrap64 (a2))] rfl (by (try simp only [List.map_toArray, List.map_cons, List.map_nil]); first | done | rfl | (simp only [List.length_drop, List.length_take]; rfl)) ?_; (with_reducible refine (cnf_Of.calls (wrap64 (a1)) (wrap64 (a2)) t329 _ A6.out).mono ?_); rintro e w' ⟨rfl, ⟨nd, rfl⟩⟩; refine ⟨_, rfl, ?_⟩) | (go_at_call 15; (with_reducible refine (cnf_Of.calls (Go.bits .xor .i64 (wrap64 (a0)) 1) (wrap64 (a2)) t331 _ A20.out).mono ?_); rintro e w' ⟨rfl, ⟨nd, rfl⟩⟩))
      go_ret
      exact ⟨by first | rfl | (simp [errW_none, errW_some] <;> rfl) | (simp only [← hji7]; first | rfl | (simp [errW_none, errW_some] <;> rfl)) | (simp [*, errW_none, errW_some] <;> rfl), by repeat (first | (with_reducible first | exact HB.out | apply below_alloc | apply pw_below_drewN | apply below_drew1) | exact HB.out)⟩
    ·rw [if_neg c22] at H
     have c22b0 : ((t328 == t329) == (a0 == a1)) = false := by simpa using c22
     (try (have c22b1 : decide ((t328 == t329) = (a0 == a1)) = false := by simpa using c22))
     (try (have c22b2 : ((t328 == t329) == (a0 == a1)) = false := by simpa using c22))
     (try (have c22b3 : ¬ ((t328 == t329) = (a0 == a1)) := by simpa using c22))
     clear c22
     obtain rfl := Option.some.inj H
     go_enter Try.func5, Try.ntmps5
     go_wp2_with (first | ((with_reducible refine gate_callee (f := 10) rfl ?_); refine goesL_ (some 12) rfl rfl Try.func10 (by kernel_rfl) rfl #[] rfl (by (try simp only [List.map_toArray, List.map_cons, List.map_nil]); first | done | rfl | (simp only [List.length_drop, List.length_take]; rfl)) ?_; (with_reducible refine (proofmarklaw17_head.calls k  true _ A4.out).mono ?_); rintro e w26 ⟨rfl, hb⟩; refine ⟨_, rfl, ?_⟩; have n0_ := Aside0.mk (below_step (by repeat (first | (with_reducible first | exact HB.out | apply below_alloc | apply pw_below_drewN | apply below_drew1) | exact HB.out)) hb); clear HB; have HB := n0_; clear n0_; (try clear hb); (try clear hb2); (try clear hk); (try clear hi)) | ((with_reducible refine gate_callee (f := 15) rfl ?_); refine goesL_ (some 17) rfl rfl Try.func15 (by kernel_rfl) rfl #[.int .i64 (wrap64 (a0)), .int .i64 (wrap64 (a2))] rfl (by (try simp only [List.map_toArray, List.map_cons, List.map_nil]); first | done | rfl | (simp only [List.length_drop, List.length_take]; rfl)) ?_; (with_reducible refine (cnf_Of.calls (wrap64 (a0)) (wrap64 (a2)) t328 _ A5.out).mono ?_); rintro e w' ⟨rfl, ⟨nd, rfl⟩⟩; refine ⟨_, rfl, ?_⟩) | ((with_reducible refine gate_callee (f := 15) rfl ?_); refine goesL_ (some 22) rfl rfl Try.func15 (by kernel_rfl) rfl #[.int .i64 (wrap64 (a1)), .int .i64 (wrap64 (a2))] rfl (by (try simp only [List.map_toArray, List.map_cons, List.map_nil]); first | done | rfl | (simp only [List.length_drop, List.length_take]; rfl)) ?_; (with_reducible refine (cnf_Of.calls (wrap64 (a1)) (wrap64 (a2)) t329 _ A6.out).mono ?_); rintro e w' ⟨rfl, ⟨nd, rfl⟩⟩; refine ⟨_, rfl, ?_⟩) | (go_at_call 15; (with_reducible refine (cnf_Of.calls (Go.bits .xor .i64 (wrap64 (a0)) 1) (wrap64 (a2)) t331 _ A20.out).mono ?_); rintro e w' ⟨rfl, ⟨nd, rfl⟩⟩))
     go_ret
     exact ⟨by first | rfl | (simp [errW_none, errW_some] <;> rfl) | (simp only [← hji7]; first | rfl | (simp [errW_none, errW_some] <;> rfl)) | (simp [*, errW_none, errW_some] <;> rfl), by repeat (first | (with_reducible first | exact HB.out | apply below_alloc | apply pw_below_drewN | apply below_drew1) | exact HB.out)⟩
   ·rw [if_neg c21] at H
    have c21b0 : (t331 == (wrap64 (-t328))) = false := beq_eq_false_iff_ne.mpr c21
    have c21b1 : (t331 != (wrap64 (-t328))) = true := bne_iff_ne.mpr c21
    obtain rfl := Option.some.inj H
    go_enter Try.func5, Try.ntmps5
    go_wp2_with (first | ((with_reducible refine gate_callee (f := 10) rfl ?_); refine goesL_ (some 12) rfl rfl Try.func10 (by kernel_rfl) rfl #[] rfl (by (try simp only [List.map_toArray, List.map_cons, List.map_nil]); first | done | rfl | (simp only [List.length_drop, List.length_take]; rfl)) ?_; (with_reducible refine (proofmarklaw17_head.calls k  true _ A4.out).mono ?_); rintro e w27 ⟨rfl, hb⟩; refine ⟨_, rfl, ?_⟩; have n0_ := Aside0.mk (below_step (by repeat (first | (with_reducible first | exact HB.out | apply below_alloc | apply pw_below_drewN | apply below_drew1) | exact HB.out)) hb); clear HB; have HB := n0_; clear n0_; (try clear hb); (try clear hb2); (try clear hk); (try clear hi)) | ((with_reducible refine gate_callee (f := 15) rfl ?_); refine goesL_ (some 17) rfl rfl Try.func15 (by kernel_rfl) rfl #[.int .i64 (wrap64 (a0)), .int .i64 (wrap64 (a2))] rfl (by (try simp only [List.map_toArray, List.map_cons, List.map_nil]); first | done | rfl | (simp only [List.length_drop, List.length_take]; rfl)) ?_; (with_reducible refine (cnf_Of.calls (wrap64 (a0)) (wrap64 (a2)) t328 _ A5.out).mono ?_); rintro e w' ⟨rfl, ⟨nd, rfl⟩⟩; refine ⟨_, rfl, ?_⟩) | ((with_reducible refine gate_callee (f := 15) rfl ?_); refine goesL_ (some 22) rfl rfl Try.func15 (by kernel_rfl) rfl #[.int .i64 (wrap64 (a1)), .int .i64 (wrap64 (a2))] rfl (by (try simp only [List.map_toArray, List.map_cons, List.map_nil]); first | done | rfl | (simp only [List.length_drop, List.length_take]; rfl)) ?_; (with_reducible refine (cnf_Of.calls (wrap64 (a1)) (wrap64 (a2)) t329 _ A6.out).mono ?_); rintro e w' ⟨rfl, ⟨nd, rfl⟩⟩; refine ⟨_, rfl, ?_⟩) | (go_at_call 15; (with_reducible refine (cnf_Of.calls (Go.bits .xor .i64 (wrap64 (a0)) 1) (wrap64 (a2)) t331 _ A20.out).mono ?_); rintro e w' ⟨rfl, ⟨nd, rfl⟩⟩))
    go_ret
    exact ⟨by first | rfl | (simp [errW_none, errW_some] <;> rfl) | (simp only [← hji7]; first | rfl | (simp [errW_none, errW_some] <;> rfl)) | (simp [*, errW_none, errW_some] <;> rfl), by repeat (first | (with_reducible first | exact HB.out | apply below_alloc | apply pw_below_drewN | apply below_drew1) | exact HB.out)⟩
  ·replace c19 := Bool.eq_false_iff.mpr c19
   subst c19
   have H1 : (some false) = some r := by rw [if_neg (show ¬ (false = true) by decide)] at H; exact H
   clear H
   have H := H1
   clear H1
   obtain rfl := Option.some.inj H
   go_enter Try.func5, Try.ntmps5
   go_wp2_with (first | ((with_reducible refine gate_callee (f := 10) rfl ?_); refine goesL_ (some 12) rfl rfl Try.func10 (by kernel_rfl) rfl #[] rfl (by (try simp only [List.map_toArray, List.map_cons, List.map_nil]); first | done | rfl | (simp only [List.length_drop, List.length_take]; rfl)) ?_; (with_reducible refine (proofmarklaw17_head.calls k  false _ A4.out).mono ?_); rintro e w28 ⟨rfl, hb⟩; refine ⟨_, rfl, ?_⟩; have n0_ := Aside0.mk (below_step (by repeat (first | (with_reducible first | exact HB.out | apply below_alloc | apply pw_below_drewN | apply below_drew1) | exact HB.out)) hb); clear HB; have HB := n0_; clear n0_; (try clear hb); (try clear hb2); (try clear hk); (try clear hi)) | ((with_reducible refine gate_callee (f := 15) rfl ?_); refine goesL_ (some 17) rfl rfl Try.func15 (by kernel_rfl) rfl #[.int .i64 (wrap64 (a0)), .int .i64 (wrap64 (a2))] rfl (by (try simp only [List.map_toArray, List.map_cons, List.map_nil]); first | done | rfl | (simp only [List.length_drop, List.length_take]; rfl)) ?_; (with_reducible refine (cnf_Of.calls (wrap64 (a0)) (wrap64 (a2)) t328 _ A5.out).mono ?_); rintro e w' ⟨rfl, ⟨nd, rfl⟩⟩; refine ⟨_, rfl, ?_⟩) | ((with_reducible refine gate_callee (f := 15) rfl ?_); refine goesL_ (some 22) rfl rfl Try.func15 (by kernel_rfl) rfl #[.int .i64 (wrap64 (a1)), .int .i64 (wrap64 (a2))] rfl (by (try simp only [List.map_toArray, List.map_cons, List.map_nil]); first | done | rfl | (simp only [List.length_drop, List.length_take]; rfl)) ?_; (with_reducible refine (cnf_Of.calls (wrap64 (a1)) (wrap64 (a2)) t329 _ A6.out).mono ?_); rintro e w' ⟨rfl, ⟨nd, rfl⟩⟩; refine ⟨_, rfl, ?_⟩))
   go_ret
   exact ⟨by first | rfl | (simp [errW_none, errW_some] <;> rfl) | (simp only [← hji7]; first | rfl | (simp [errW_none, errW_some] <;> rfl)) | (simp [*, errW_none, errW_some] <;> rfl), by repeat (first | (with_reducible first | exact HB.out | apply below_alloc | apply pw_below_drewN | apply below_drew1) | exact HB.out)⟩

end Go.Proofs.Ytdfbnlmjnollnaa.Xb
