/- Printed by this session's program xprint.py (over the kit's print): the Go functions named below come to the Lean functions of the same names, whatever the world. -/
import Derived.Test.YtdfbnlmjnollnaaXb0
import Derived.Test.YtdfbnlmjnollnaaXb4
import Derived.Test.YtdfbnlmjnollnaaXb5
import Derived.Test.YtdfbnlmjnollnaaXb6
import Derived.Test.YtdfbnlmjnollnaaXb7
import Derived.Test.YtdfbnlmjnollnaaXb16
namespace Go.Proofs.Ytdfbnlmjnollnaa.Xb
open Go.RowKit Go.Proofs.YtdfbnlmjnollnaaW.PrintWords Go.Proofs.YtdfbnlmjnollnaaW.PrintLast Go.Proofs.YtdfbnlmjnollnaaW.PrintMore
attribute [local go_sem] max2_int min2_int max_two min_two max_three min_three max_four min_four   -- for this text's walks alone
set_option linter.unusedVariables false
set_option linter.unusedSimpArgs false

/-! ### proofmarklaw17_CnfGrows: function 6 -/
def proofmarklaw17_CnfGrows.f (k : Nat) (a0 : Int) (l1 : List (S53)) (a2 : Int) (a3 : Int) : Option (Bool) := (proofmarklaw17_head.f k).bind fun t332 => ((proofmarklaw13_Great.f l1).bind fun t333 => (if t333 = true then (some t332) else ((proofmarklaw13_Made.f k a0 l1).bind fun bt334 => (if (wrap64 ((bt334.2.1.length : Int) + 1)) = 0 then (none) else ((cnf_Clauses.f bt334.1 bt334.2.1 (wrap64 (a2))).bind fun t342 => (if 0 ≤ (Int.tmod (wrap64 (a3)) (wrap64 ((bt334.2.1.length : Int) + 1))) then (if (Int.tmod (wrap64 (a3)) (wrap64 ((bt334.2.1.length : Int) + 1))) ≤ (bt334.2.1.length : Int) then ((cnf_Clauses.f bt334.1 (bt334.2.1.take ((Int.tmod (wrap64 (a3)) (wrap64 ((bt334.2.1.length : Int) + 1))) : Int).toNat) (wrap64 (a2))).bind fun t350 => (if t332 = true then (if (t342.length : Int) = (wrap64 (1 + (wrap64 (3 * (bt334.2.1.length : Int))))) then (if (t350.length : Int) = (wrap64 (1 + (wrap64 (3 * (Int.tmod (wrap64 (a3)) (wrap64 ((bt334.2.1.length : Int) + 1))))))) then (if 0 ≤ (t350.length : Int) then (if (t350.length : Int) ≤ (t342.length : Int) then ((proofmarkref11_SameRows.f k (t342.take ((t350.length : Int) : Int).toNat) t350).bind fun t358 => (some t358)) else (none)) else (none)) else (some false)) else (some false)) else (some false))) else (none)) else (none)))))))
theorem proofmarklaw17_CnfGrows.mono : ∀ a0 a1 a2 a3 k, LeO (proofmarklaw17_CnfGrows.f k a0 a1 a2 a3) (proofmarklaw17_CnfGrows.f (k + 1) a0 a1 a2 a3) := by
 intro a0 a1 a2 a3 k
 unfold proofmarklaw17_CnfGrows.f
 repeat' first
   | (with_reducible exact proofmarklaw13_Made.mono _ _ _)
   | (with_reducible exact proofmarklaw17_head.mono _)
   | (with_reducible exact proofmarkref11_SameRows.mono _ _ _)
   | (with_reducible exact LeO.refl _)
   | (with_reducible exact LeO.none _)
   | (with_reducible refine LeO.ite ?_ ?_)
   | (with_reducible refine LeO.bind ?_ (fun _ => ?_))
   | exact proofmarklaw13_Made.mono _ _ _
   | exact proofmarklaw17_head.mono _
   | exact proofmarkref11_SameRows.mono _ _ _
   | exact LeO.none _
   | refine LeO.ite ?_ ?_
   | refine LeO.bind ?_ (fun _ => ?_)
def proofmarklaw17_CnfGrows.T7 : Bool × List (List Nat × List Nat) := (true, [([], []), ([0], [0]), ([], []), ([2], [2]), ([], []), ([3, 4], [3, 4]), ([1, 5], [1, 5]), ([], []), ([7], [7]), ([6, 8], [6, 8]), ([9, 9, 0, 1, 2, 3, 4, 5, 6, 7, 8, 9], [9])])
def proofmarklaw17_CnfGrows.B7 : List Nat := [0, 1, 0, 4, 0, 28, 63, 0, 128, 511, 1023]
theorem proofmarklaw17_CnfGrows.tab7 : rtab .any (opsOf Try.f6 7) = proofmarklaw17_CnfGrows.T7 := by kernel_rfl
theorem proofmarklaw17_CnfGrows.bits7 : waitsOk proofmarklaw17_CnfGrows.T7.2 proofmarklaw17_CnfGrows.B7 = true := by kernel_rfl
set_option maxHeartbeats 8000000 in
set_option maxRecDepth 100000 in
theorem proofmarklaw17_CnfGrows.calls (k : Nat) (a0 : Int) (A1 : Option Addr) (c1 : Nat) (l1 : List (S53)) (a2 : Int) (a3 : Int) (r : Bool) (w : World) (hr1 : Kd.C k53 w A1 l1.length l1) (hc1 : l1.length ≤ c1) (h : proofmarklaw17_CnfGrows.f k a0 l1 a2 a3 = some r) :
  Calls Try.prog 6 #[.int .u8 a0, .slice A1 l1.length c1, .int .u16 a2, .int .u16 a3] w fun e w' => e = .returned (.bool r) ∧ Below w.heap.size w w' := by
 have hu28 := Try.underlying28
 have HR1 := Aside0.mk hr1
 have HC1 := Aside0.mk hc1
 clear hr1 hc1
 have HB := Aside0.mk (Below.refl w.heap.size w)
 have H : ((proofmarklaw17_head.f k).bind fun t332 => ((proofmarklaw13_Great.f l1).bind fun t333 => (if t333 = true then (some t332) else ((proofmarklaw13_Made.f k a0 l1).bind fun bt334 => (if (wrap64 ((bt334.2.1.length : Int) + 1)) = 0 then (none) else ((cnf_Clauses.f bt334.1 bt334.2.1 (wrap64 (a2))).bind fun t342 => (if 0 ≤ (Int.tmod (wrap64 (a3)) (wrap64 ((bt334.2.1.length : Int) + 1))) then (if (Int.tmod (wrap64 (a3)) (wrap64 ((bt334.2.1.length : Int) + 1))) ≤ (bt334.2.1.length : Int) then ((cnf_Clauses.f bt334.1 (bt334.2.1.take ((Int.tmod (wrap64 (a3)) (wrap64 ((bt334.2.1.length : Int) + 1))) : Int).toNat) (wrap64 (a2))).bind fun t350 => (if t332 = true then (if (t342.length : Int) = (wrap64 (1 + (wrap64 (3 * (bt334.2.1.length : Int))))) then (if (t350.length : Int) = (wrap64 (1 + (wrap64 (3 * (Int.tmod (wrap64 (a3)) (wrap64 ((bt334.2.1.length : Int) + 1))))))) then (if 0 ≤ (t350.length : Int) then (if (t350.length : Int) ≤ (t342.length : Int) then ((proofmarkref11_SameRows.f k (t342.take ((t350.length : Int) : Int).toNat) t350).bind fun t358 => (some t358)) else (none)) else (none)) else (some false)) else (some false)) else (some false))) else (none)) else (none)))))))) = some r := h
 clear h
 replace H := Option.bind_eq_some_iff.mp H
 obtain ⟨t332, A50, H⟩ := H
 replace H : ((proofmarklaw13_Great.f l1).bind fun t333 => (if t333 = true then (some t332) else ((proofmarklaw13_Made.f k a0 l1).bind fun bt334 => (if (wrap64 ((bt334.2.1.length : Int) + 1)) = 0 then (none) else ((cnf_Clauses.f bt334.1 bt334.2.1 (wrap64 (a2))).bind fun t342 => (if 0 ≤ (Int.tmod (wrap64 (a3)) (wrap64 ((bt334.2.1.length : Int) + 1))) then (if (Int.tmod (wrap64 (a3)) (wrap64 ((bt334.2.1.length : Int) + 1))) ≤ (bt334.2.1.length : Int) then ((cnf_Clauses.f bt334.1 (bt334.2.1.take ((Int.tmod (wrap64 (a3)) (wrap64 ((bt334.2.1.length : Int) + 1))) : Int).toNat) (wrap64 (a2))).bind fun t350 => (if t332 = true then (if (t342.length : Int) = (wrap64 (1 + (wrap64 (3 * (bt334.2.1.length : Int))))) then (if (t350.length : Int) = (wrap64 (1 + (wrap64 (3 * (Int.tmod (wrap64 (a3)) (wrap64 ((bt334.2.1.length : Int) + 1))))))) then (if 0 ≤ (t350.length : Int) then (if (t350.length : Int) ≤ (t342.length : Int) then ((proofmarkref11_SameRows.f k (t342.take ((t350.length : Int) : Int).toNat) t350).bind fun t358 => (some t358)) else (none)) else (none)) else (some false)) else (some false)) else (some false))) else (none)) else (none))))))) = some r := H
 have A5 := Aside0.mk A50
 clear A50
 replace H := Option.bind_eq_some_iff.mp H
 obtain ⟨t333, A60, H⟩ := H
 replace H : (if t333 = true then (some t332) else ((proofmarklaw13_Made.f k a0 l1).bind fun bt334 => (if (wrap64 ((bt334.2.1.length : Int) + 1)) = 0 then (none) else ((cnf_Clauses.f bt334.1 bt334.2.1 (wrap64 (a2))).bind fun t342 => (if 0 ≤ (Int.tmod (wrap64 (a3)) (wrap64 ((bt334.2.1.length : Int) + 1))) then (if (Int.tmod (wrap64 (a3)) (wrap64 ((bt334.2.1.length : Int) + 1))) ≤ (bt334.2.1.length : Int) then ((cnf_Clauses.f bt334.1 (bt334.2.1.take ((Int.tmod (wrap64 (a3)) (wrap64 ((bt334.2.1.length : Int) + 1))) : Int).toNat) (wrap64 (a2))).bind fun t350 => (if t332 = true then (if (t342.length : Int) = (wrap64 (1 + (wrap64 (3 * (bt334.2.1.length : Int))))) then (if (t350.length : Int) = (wrap64 (1 + (wrap64 (3 * (Int.tmod (wrap64 (a3)) (wrap64 ((bt334.2.1.length : Int) + 1))))))) then (if 0 ≤ (t350.length : Int) then (if (t350.length : Int) ≤ (t342.length : Int) then ((proofmarkref11_SameRows.f k (t342.take ((t350.length : Int) : Int).toNat) t350).bind fun t358 => (some t358)) else (none)) else (none)) else (some false)) else (some false)) else (some false))) else (none)) else (none)))))) = some r := H
 have A6 := Aside0.mk A60
 clear A60
 by_cases c7 : t333 = true
 ·subst c7
  have H1 : (some t332) = some r := by rw [if_pos rfl] at H; exact H
  clear H
  have H := H1
  clear H1
  obtain rfl := Option.some.inj H
  go_enter Try.func6, Try.ntmps6
  go_wp2_with (first | ((with_reducible refine gate_callee (f := 10) rfl ?_); refine goesL_ (some 15) rfl rfl Try.func10 (by kernel_rfl) rfl #[] rfl (by (try simp only [List.map_toArray, List.map_cons, List.map_nil]); first | done | rfl | (simp only [List.length_drop, List.length_take]; rfl)) ?_; (with_reducible refine (proofmarklaw17_head.calls k  t332 _ A5.out).mono ?_); rintro e w8 ⟨rfl, hb⟩; refine ⟨_, rfl, ?_⟩; have n0_ := Aside0.mk (below_step (by repeat (first | (with_reducible first | exact HB.out | apply below_alloc | apply pw_below_drewN | apply below_drew1) | exact HB.out)) hb); clear HB; have HB := n0_; clear n0_; (try clear hb); (try clear hb2); (try clear hk); (try clear hi)) | ((with_reducible refine gate_callee (f := 11) rfl ?_); refine goesL_ (some 17) rfl rfl Try.func11 (by kernel_rfl) rfl #[.slice A1 l1.length c1] rfl (by (try simp only [List.map_toArray, List.map_cons, List.map_nil]); first | done | rfl | (simp only [List.length_drop, List.length_take]; rfl)) ?_; (with_reducible refine (proofmarklaw13_Great.calls _ _ l1 true _ ?side1 ?side2 A6.out).mono ?_); (case side1 => repeat (first | exact (Kd.C_below HR1.out HB.out) | (with_reducible refine Kd.C_alloc ?_ _) | (with_reducible refine Kd.C_drewN ?_ _) | (with_reducible refine Kd.C_drew ?_))); (case side2 => exact HC1.out); rintro e w' ⟨rfl, ⟨nd, rfl⟩⟩; refine ⟨_, rfl, ?_⟩))
  go_ret
  exact ⟨by first | rfl | (simp [errW_none, errW_some] <;> rfl) | (simp [*, errW_none, errW_some] <;> rfl), by repeat (first | (with_reducible first | exact HB.out | apply below_alloc | apply pw_below_drewN | apply below_drew1) | exact HB.out)⟩
 ·replace c7 := Bool.eq_false_iff.mpr c7
  subst c7
  have H1 : ((proofmarklaw13_Made.f k a0 l1).bind fun bt334 => (if (wrap64 ((bt334.2.1.length : Int) + 1)) = 0 then (none) else ((cnf_Clauses.f bt334.1 bt334.2.1 (wrap64 (a2))).bind fun t342 => (if 0 ≤ (Int.tmod (wrap64 (a3)) (wrap64 ((bt334.2.1.length : Int) + 1))) then (if (Int.tmod (wrap64 (a3)) (wrap64 ((bt334.2.1.length : Int) + 1))) ≤ (bt334.2.1.length : Int) then ((cnf_Clauses.f bt334.1 (bt334.2.1.take ((Int.tmod (wrap64 (a3)) (wrap64 ((bt334.2.1.length : Int) + 1))) : Int).toNat) (wrap64 (a2))).bind fun t350 => (if t332 = true then (if (t342.length : Int) = (wrap64 (1 + (wrap64 (3 * (bt334.2.1.length : Int))))) then (if (t350.length : Int) = (wrap64 (1 + (wrap64 (3 * (Int.tmod (wrap64 (a3)) (wrap64 ((bt334.2.1.length : Int) + 1))))))) then (if 0 ≤ (t350.length : Int) then (if (t350.length : Int) ≤ (t342.length : Int) then ((proofmarkref11_SameRows.f k (t342.take ((t350.length : Int) : Int).toNat) t350).bind fun t358 => (some t358)) else (none)) else (none)) else (some false)) else (some false)) else (some false))) else (none)) else (none))))) = some r := by rw [if_neg (show ¬ (false = true) by decide)] at H; exact H
  clear H
  have H := H1
  clear H1
  replace H := Option.bind_eq_some_iff.mp H
  obtain ⟨⟨t334, t335, t338⟩, A90, H⟩ := H
  replace H : (if (wrap64 ((t335.length : Int) + 1)) = 0 then (none) else ((cnf_Clauses.f t334 t335 (wrap64 (a2))).bind fun t342 => (if 0 ≤ (Int.tmod (wrap64 (a3)) (wrap64 ((t335.length : Int) + 1))) then (if (Int.tmod (wrap64 (a3)) (wrap64 ((t335.length : Int) + 1))) ≤ (t335.length : Int) then ((cnf_Clauses.f t334 (t335.take ((Int.tmod (wrap64 (a3)) (wrap64 ((t335.length : Int) + 1))) : Int).toNat) (wrap64 (a2))).bind fun t350 => (if t332 = true then (if (t342.length : Int) = (wrap64 (1 + (wrap64 (3 * (t335.length : Int))))) then (if (t350.length : Int) = (wrap64 (1 + (wrap64 (3 * (Int.tmod (wrap64 (a3)) (wrap64 ((t335.length : Int) + 1))))))) then (if 0 ≤ (t350.length : Int) then (if (t350.length : Int) ≤ (t342.length : Int) then ((proofmarkref11_SameRows.f k (t342.take ((t350.length : Int) : Int).toNat) t350).bind fun t358 => (some t358)) else (none)) else (none)) else (some false)) else (some false)) else (some false))) else (none)) else (none)))) = some r := H
  have A9 := Aside0.mk A90
  clear A90
  by_cases c10 : (wrap64 ((t335.length : Int) + 1)) = 0
  ·rw [if_pos c10] at H
   exact absurd H (by simp)
  ·rw [if_neg c10] at H
   have c10b0 : ((wrap64 ((t335.length : Int) + 1)) == 0) = false := beq_eq_false_iff_ne.mpr c10
   have c10b1 : ((wrap64 ((t335.length : Int) + 1)) != 0) = true := bne_iff_ne.mpr c10
   replace H := Option.bind_eq_some_iff.mp H
   obtain ⟨t342, A110, H⟩ := H
   replace H : (if 0 ≤ (Int.tmod (wrap64 (a3)) (wrap64 ((t335.length : Int) + 1))) then (if (Int.tmod (wrap64 (a3)) (wrap64 ((t335.length : Int) + 1))) ≤ (t335.length : Int) then ((cnf_Clauses.f t334 (t335.take ((Int.tmod (wrap64 (a3)) (wrap64 ((t335.length : Int) + 1))) : Int).toNat) (wrap64 (a2))).bind fun t350 => (if t332 = true then (if (t342.length : Int) = (wrap64 (1 + (wrap64 (3 * (t335.length : Int))))) then (if (t350.length : Int) = (wrap64 (1 + (wrap64 (3 * (Int.tmod (wrap64 (a3)) (wrap64 ((t335.length : Int) + 1))))))) then (if 0 ≤ (t350.length : Int) then (if (t350.length : Int) ≤ (t342.length : Int) then ((proofmarkref11_SameRows.f k (t342.take ((t350.length : Int) : Int).toNat) t350).bind fun t358 => (some t358)) else (none)) else (none)) else (some false)) else (some false)) else (some false))) else (none)) else (none)) = some r := H
   have A11 := Aside0.mk A110
   clear A110
   obtain ⟨ji12, hji12⟩ : ∃ j_ : Int, (Int.tmod (wrap64 (a3)) (wrap64 ((t335.length : Int) + 1))) = j_ := ⟨_, rfl⟩
   replace H : (if 0 ≤ (ji12) then (if (ji12) ≤ (t335.length : Int) then ((cnf_Clauses.f t334 (t335.take ((ji12) : Int).toNat) (wrap64 (a2))).bind fun t350 => (if t332 = true then (if (t342.length : Int) = (wrap64 (1 + (wrap64 (3 * (t335.length : Int))))) then (if (t350.length : Int) = (wrap64 (1 + (wrap64 (3 * (ji12))))) then (if 0 ≤ (t350.length : Int) then (if (t350.length : Int) ≤ (t342.length : Int) then ((proofmarkref11_SameRows.f k (t342.take ((t350.length : Int) : Int).toNat) t350).bind fun t358 => (some t358)) else (none)) else (none)) else (some false)) else (some false)) else (some false))) else (none)) else (none)) = some r := by first | (rw [hji12] at H; exact H) | (simp only [hji12] at H ⊢; exact H)
   (try rw [hji12] at A5)
   (try rw [hji12] at A6)
   (try rw [hji12] at A9)
   (try rw [hji12] at A11)
   by_cases c13 : 0 ≤ (ji12)
   ·rw [if_pos c13] at H
    have c13b0 := eq_true c13
    have c13b1 : decide (0 ≤ (ji12)) = true := decide_eq_true c13
    clear c13
    by_cases c14 : (ji12) ≤ (t335.length : Int)
    ·rw [if_pos c14] at H
     have c14b0 := eq_true c14
     have c14b1 : decide ((ji12) ≤ (t335.length : Int)) = true := decide_eq_true c14
     clear c14
     obtain ⟨y345, hy345⟩ : ∃ y_ : List (S49), y_ = (t335.take ((ji12) : Int).toNat) := ⟨_, rfl⟩
     replace H : ((cnf_Clauses.f t334 y345 (wrap64 (a2))).bind fun t350 => (if t332 = true then (if (t342.length : Int) = (wrap64 (1 + (wrap64 (3 * (t335.length : Int))))) then (if (t350.length : Int) = (wrap64 (1 + (wrap64 (3 * (ji12))))) then (if 0 ≤ (t350.length : Int) then (if (t350.length : Int) ≤ (t342.length : Int) then ((proofmarkref11_SameRows.f k (t342.take ((t350.length : Int) : Int).toNat) t350).bind fun t358 => (some t358)) else (none)) else (none)) else (some false)) else (some false)) else (some false))) = some r := by first | (rw [hy345]; with_reducible exact H) | (have H2_ := (Option.bind_some _ _).symm.trans H; rw [hy345]; with_reducible exact H2_) | (have H2_ := (Option.bind_some _ _).symm.trans H; with_reducible exact H2_) | with_reducible exact H | (rw [hy345]; exact H) | exact H
     have Ny345 := Aside0.mk hy345
     clear hy345
     replace H := Option.bind_eq_some_iff.mp H
     obtain ⟨t350, A150, H⟩ := H
     replace H : (if t332 = true then (if (t342.length : Int) = (wrap64 (1 + (wrap64 (3 * (t335.length : Int))))) then (if (t350.length : Int) = (wrap64 (1 + (wrap64 (3 * (ji12))))) then (if 0 ≤ (t350.length : Int) then (if (t350.length : Int) ≤ (t342.length : Int) then ((proofmarkref11_SameRows.f k (t342.take ((t350.length : Int) : Int).toNat) t350).bind fun t358 => (some t358)) else (none)) else (none)) else (some false)) else (some false)) else (some false)) = some r := H
     have A15 := Aside0.mk A150
     clear A150
     by_cases c16 : t332 = true
     ·subst c16
      have H1 : (if (t342.length : Int) = (wrap64 (1 + (wrap64 (3 * (t335.length : Int))))) then (if (t350.length : Int) = (wrap64 (1 + (wrap64 (3 * (ji12))))) then (if 0 ≤ (t350.length : Int) then (if (t350.length : Int) ≤ (t342.length : Int) then ((proofmarkref11_SameRows.f k (t342.take ((t350.length : Int) : Int).toNat) t350).bind fun t358 => (some t358)) else (none)) else (none)) else (some false)) else (some false)) = some r := by rw [if_pos rfl] at H; exact H
      clear H
      have H := H1
      clear H1
      by_cases c17 : (t342.length : Int) = (wrap64 (1 + (wrap64 (3 * (t335.length : Int)))))
      ·rw [if_pos c17] at H
       have c17b0 : ((t342.length : Int) == (wrap64 (1 + (wrap64 (3 * (t335.length : Int)))))) = true := beq_iff_eq.mpr c17
       have c17b1 : ((t342.length : Int) != (wrap64 (1 + (wrap64 (3 * (t335.length : Int)))))) = false := bne_eq_false_iff_eq.mpr c17
       clear c17
       by_cases c18 : (t350.length : Int) = (wrap64 (1 + (wrap64 (3 * (ji12)))))
       ·rw [if_pos c18] at H
        have c18b0 : ((t350.length : Int) == (wrap64 (1 + (wrap64 (3 * (ji12)))))) = true := beq_iff_eq.mpr c18
        have c18b1 : ((t350.length : Int) != (wrap64 (1 + (wrap64 (3 * (ji12)))))) = false := bne_eq_false_iff_eq.mpr c18
        clear c18
        by_cases c19 : 0 ≤ (t350.length : Int)
        ·rw [if_pos c19] at H
         have c19b0 := eq_true c19
         have c19b1 : decide (0 ≤ (t350.length : Int)) = true := decide_eq_true c19
         clear c19
         by_cases c20 : (t350.length : Int) ≤ (t342.length : Int)
         ·rw [if_pos c20] at H
          have c20b0 := eq_true c20
          have c20b1 : decide ((t350.length : Int) ≤ (t342.length : Int)) = true := decide_eq_true c20
          clear c20
          obtain ⟨y353, hy353⟩ : ∃ y_ : List (List Int), y_ = (t342.take ((t350.length : Int) : Int).toNat) := ⟨_, rfl⟩
          replace H : ((proofmarkref11_SameRows.f k y353 t350).bind fun t358 => (some t358)) = some r := by first | (rw [hy353]; with_reducible exact H) | (have H2_ := (Option.bind_some _ _).symm.trans H; rw [hy353]; with_reducible exact H2_) | (have H2_ := (Option.bind_some _ _).symm.trans H; with_reducible exact H2_) | with_reducible exact H | (rw [hy353]; exact H) | exact H
          have Ny353 := Aside0.mk hy353
          clear hy353
          replace H := Option.bind_eq_some_iff.mp H
          obtain ⟨t358, A210, H⟩ := H
          replace H : (some t358) = some r := H
          have A21 := Aside0.mk A210
          clear A210
          obtain rfl := Option.some.inj H
          go_enter Try.func6, Try.ntmps6
          try go_wp2_with (first | ((with_reducible refine gate_callee (f := 10) rfl ?_); refine goesL_ (some 15) rfl rfl Try.func10 (by kernel_rfl) rfl #[] rfl (by (try simp only [List.map_toArray, List.map_cons, List.map_nil]); first | done | rfl | (simp only [List.length_drop, List.length_take]; rfl)) ?_; (with_reducible refine (proofmarklaw17_head.calls k  true _ A5.out).mono ?_); rintro e w22 ⟨rfl, hb⟩; refine ⟨_, rfl, ?_⟩; have n0_ := Aside0.mk (below_step (by repeat (first | (with_reducible first | exact HB.out | apply below_alloc | apply pw_below_drewN | apply below_drew1) | exact HB.out)) hb); clear HB; have HB := n0_; clear n0_; (try clear hb); (try clear hb2); (try clear hk); (try clear hi)) | ((with_reducible refine gate_callee (f := 11) rfl ?_); refine goesL_ (some 17) rfl rfl Try.func11 (by kernel_rfl) rfl #[.slice A1 l1.length c1] rfl (by (try simp only [List.map_toArray, List.map_cons, List.map_nil]); first | done | rfl | (simp only [List.length_drop, List.length_take]; rfl)) ?_; (with_reducible refine (proofmarklaw13_Great.calls _ _ l1 false _ ?side1 ?side2 A6.out).mono ?_); (case side1 => repeat (first | exact (Kd.C_below HR1.out HB.out) | (with_reducible refine Kd.C_alloc ?_ _) | (with_reducible refine Kd.C_drewN ?_ _) | (with_reducible refine Kd.C_drew ?_))); (case side2 => exact HC1.out); rintro e w' ⟨rfl, ⟨nd, rfl⟩⟩; refine ⟨_, rfl, ?_⟩; (try (rw [drewN_self w22]; generalize hq_ : World.drewN w22 _ = w22; have n0_ : Aside0 (Below w.heap.size w w22) := ⟨by rw [← hq_]; exact (by repeat (first | (with_reducible first | exact HB.out | apply below_alloc | apply pw_below_drewN | apply below_drew1) | exact HB.out))⟩; clear HB hq_; have HB := n0_; clear n0_))) | ((with_reducible refine gate_callee (f := 12) rfl ?_); refine goesL_ (some 22) rfl rfl Try.func12 (by kernel_rfl) rfl #[.int .u8 a0, .slice A1 l1.length c1] rfl (by (try simp only [List.map_toArray, List.map_cons, List.map_nil]); first | done | rfl | (simp only [List.length_drop, List.length_take]; rfl)) ?_; (with_reducible refine (proofmarklaw13_Made.calls k a0 _ _ l1 t334 t335 t338 _ ?side1 ?side2 A9.out).mono ?_); (case side1 => repeat (first | exact (Kd.C_below HR1.out HB.out) | (with_reducible refine Kd.C_alloc ?_ _) | (with_reducible refine Kd.C_drewN ?_ _) | (with_reducible refine Kd.C_drew ?_))); (case side2 => exact HC1.out); rintro e w23 ⟨v336, v339, rfl, ho0, ho1, hb⟩; refine ⟨_, rfl, ?_⟩; have n0_ := Aside0.mk (Kd.V_lower (Kd.V_mono (ok' := fun k_ => some k_ ≠ (v339 : Value).ownBlock) ho0 (fun k_ hk_ => hk_.2)) (below_size (by repeat (first | (with_reducible first | exact HB.out | apply below_alloc | apply pw_below_drewN | apply below_drew1) | exact HB.out)))); have n1_ := Aside0.mk (Kd.R_lower (Kd.R_mono (ok' := fun k_ => True) ho1 (fun _ hk_ => trivial)) (below_size (by repeat (first | (with_reducible first | exact HB.out | apply below_alloc | apply pw_below_drewN | apply below_drew1) | exact HB.out)))); have n2_ := Aside0.mk (below_step (by repeat (first | (with_reducible first | exact HB.out | apply below_alloc | apply pw_below_drewN | apply below_drew1) | exact HB.out)) hb); clear HB; have HO337 := n0_; have HO340 := n1_; have HB := n2_; clear n0_ n1_ n2_; (try clear hb); (try clear hb2); (try clear hk); (try clear hi); (try clear ho0); (try clear ho1)) | ((with_reducible refine gate_dst (N := 10) rfl ?_); (try (refine gate_guard (by rfl) ?_; dsimp only)); refine box_event ?hg (N := 10) ?hd (cs := #[.int .i64 0, .slice none 0 0]) (t := 28) ?hr ?_; (case hd => rfl); (case hg => rfl); (case hr => first | (go_simp; done) | (go_simp; rfl)); intro gb341 hg w24 hbox hb; have n0_ := Aside0.mk (Kd.V_below (Kd.V_elderB (by (with_reducible repeat (first | apply Kd.V_alloc | apply Kd.V_drewN | apply Kd.V_drew)); exact HO337.out) gb341 (Nat.le_of_eq hg.symm)) hb); have n1_ := Aside0.mk (Kd.R_below (by (with_reducible repeat (first | apply Kd.R_alloc | apply Kd.R_drewN | apply Kd.R_drew)); exact HO340.out) hb); have n2_ := Aside0.mk (below_step (by repeat (first | (with_reducible first | exact HB.out | apply below_alloc | apply pw_below_drewN | apply below_drew1) | exact HB.out)) hb); have n3_ := Aside0.mk (hbox); have n4_ := Aside0.mk ((by rw [hg]; exact (below_size (by repeat (first | (with_reducible first | exact HB.out | apply below_alloc | apply pw_below_drewN | apply below_drew1) | exact HB.out))) : w.heap.size ≤ gb341)); have n5_ := Aside0.mk ((by rw [hg]; exact (below_size (by repeat (first | (with_reducible first | exact HB.out | apply below_alloc | apply pw_below_drewN | apply below_drew1) | exact HB.out))) : w.heap.size ≤ gb341)); clear HO337; clear HO340; clear HB; have HO337 := n0_; have HO340 := n1_; have HB := n2_; have BK341 := n3_; have GW341 := n4_; have GE341 := n5_; clear n0_ n1_ n2_ n3_ n4_ n5_; clear hb hbox hg; have hcz25_0 : w24.cell? ⟨gb341, 0, none⟩ = some (.int .i64 0) := (blk_cell BK341.out 0).trans rfl; have hcz25_1 : w24.cell? ⟨gb341, 1, none⟩ = some (.slice none 0 0) := (blk_cell BK341.out 1).trans rfl; have hfz25_0 := blk_frozen BK341.out 0; have hfz25_1 := blk_frozen BK341.out 1; obtain ⟨Ao26, co26, eo26⟩ := Kd.V_slice HO337.out; subst eo26) | ((with_reducible refine gate_callee (f := 18) rfl ?_); refine goesL_ (some 35) rfl rfl Try.func18 (by kernel_rfl) rfl #[.agg #[.int .i64 t334, .slice Ao26 t335.length co26], .int .i64 (wrap64 (a2))] rfl (by (try simp only [List.map_toArray, List.map_cons, List.map_nil]); first | done | rfl | (simp only [List.length_drop, List.length_take]; rfl)) ?_; (with_reducible refine (cnf_Clauses.calls t334 _ _ t335 (wrap64 (a2)) t342 _ ?side1 ?side2 A11.out).mono ?_); (case side1 => refine (Kd.V_reads' (e := 49) (base := w.heap.size) (ok := fun k_ => (some k_ ≠ (v339 : Value).ownBlock ∧ k_ ≠ gb341)) (n := t335.length) (c := co26) ?_).2.2; exact (by (with_reducible repeat (first | apply Kd.V_alloc | apply Kd.V_drewN | apply Kd.V_drew)); exact (Kd.V_mono (Kd.V_far (p := ⟨gb341, 1, none⟩) (Kd.V_far (p := ⟨gb341, 0, none⟩) (Kd.V_mono HO337.out (fun k_ hk => (⟨hk, hk.2⟩ : _ ∧ k_ ≠ gb341))) (fun _ hk => hk.2) (.int .i64 t334)) (fun _ hk => hk.2) (.slice Ao26 t335.length co26)) (fun _ h_ => h_.1)))); (case side2 => exact (Kd.V_reads' HO337.out).2.1); rintro e w27 ⟨v343, rfl, ho0, hb⟩; refine ⟨_, rfl, ?_⟩; have n0_ := Aside0.mk (Kd.V_elder' (by (with_reducible repeat (first | apply Kd.V_alloc | apply Kd.V_drewN | apply Kd.V_drew)); exact (Kd.V_mono (Kd.V_far (p := ⟨gb341, 1, none⟩) (Kd.V_far (p := ⟨gb341, 0, none⟩) (Kd.V_mono HO337.out (fun k_ hk => (⟨hk, hk.2⟩ : _ ∧ k_ ≠ gb341))) (fun _ hk => hk.2) (.int .i64 t334)) (fun _ hk => hk.2) (.slice Ao26 t335.length co26)) (fun _ h_ => h_.1))) (Kd.N_base ho0) hb); have n1_ := Aside0.mk (Kd.R_below (by (with_reducible repeat (first | apply Kd.R_alloc | apply Kd.R_drewN | apply Kd.R_drew)); exact (Kd.R_mono (Kd.R_far (p := ⟨gb341, 1, none⟩) (Kd.R_far (p := ⟨gb341, 0, none⟩) (Kd.R_types HO340.out BK341.out (by decide)) (fun _ hk => hk.2) (.int .i64 t334)) (fun _ hk => hk.2) (.slice Ao26 t335.length co26)) (fun _ h_ => h_.1))) hb); have n2_ := Aside0.mk (Kd.N_lower (Kd.N_mono (ok' := fun k_ => some k_ ≠ (v339 : Value).ownBlock ∧ k_ ≠ gb341) ho0 (fun k_ hk_ => ⟨(Kd.fresh' (Kd.R_lt (by (with_reducible repeat (first | apply Kd.R_alloc | apply Kd.R_drewN | apply Kd.R_drew)); exact (Kd.R_mono (Kd.R_far (p := ⟨gb341, 1, none⟩) (Kd.R_far (p := ⟨gb341, 0, none⟩) (Kd.R_types HO340.out BK341.out (by decide)) (fun _ hk => hk.2) (.int .i64 t334)) (fun _ hk => hk.2) (.slice Ao26 t335.length co26)) (fun _ h_ => h_.1)))) k_ hk_), (Kd.freshB (g := gb341) (o := .cells #[.int .i64 t334, .slice Ao26 t335.length co26] 28 (0, 0)) (by (with_reducible repeat (first | refine blk_drewN ?_ _ | refine blk_drew ?_ | refine blk_alloc ?_ _)); refine blk_put (cs := #[.int .i64 t334, .slice none 0 0]) ?_ 1 _ rfl; (with_reducible repeat (first | refine blk_drewN ?_ _ | refine blk_drew ?_ | refine blk_alloc ?_ _)); refine blk_put (cs := #[.int .i64 0, .slice none 0 0]) ?_ 0 _ rfl; (with_reducible repeat (first | refine blk_drewN ?_ _ | refine blk_drew ?_ | refine blk_alloc ?_ _)); exact BK341.out) k_ hk_)⟩)) (below_size (by repeat (first | (with_reducible first | exact HB.out | apply below_alloc | apply pw_below_drewN | apply below_drew1 | refine below_set ?_ GE341.out) | exact HB.out)))); have n3_ := Aside0.mk (blk_below (g := gb341) (o := .cells #[.int .i64 t334, .slice Ao26 t335.length co26] 28 (0, 0)) (by (with_reducible repeat (first | refine blk_drewN ?_ _ | refine blk_drew ?_ | refine blk_alloc ?_ _)); refine blk_put (cs := #[.int .i64 t334, .slice none 0 0]) ?_ 1 _ rfl; (with_reducible repeat (first | refine blk_drewN ?_ _ | refine blk_drew ?_ | refine blk_alloc ?_ _)); refine blk_put (cs := #[.int .i64 0, .slice none 0 0]) ?_ 0 _ rfl; (with_reducible repeat (first | refine blk_drewN ?_ _ | refine blk_drew ?_ | refine blk_alloc ?_ _)); exact BK341.out) hb); have n4_ := Aside0.mk (below_step (by repeat (first | (with_reducible first | exact HB.out | apply below_alloc | apply pw_below_drewN | apply below_drew1 | refine below_set ?_ GE341.out) | exact HB.out)) hb); clear HO337; clear HO340; clear BK341; clear HB; have HO337 := n0_; have HO340 := n1_; have HO344 := n2_; have BK341 := n3_; have HB := n4_; clear n0_ n1_ n2_ n3_ n4_; (try clear hb); (try clear hb2); (try clear hk); (try clear hi); (try clear ho0)))
          have n0_ := Aside0.mk (Kd.V_drew HO337.out)
          have n1_ := Aside0.mk (Kd.R_drew HO340.out)
          have n2_ := Aside0.mk (Kd.N_drew HO344.out)
          have n3_ := Aside0.mk (blk_drew BK341.out)
          have n4_ := Aside0.mk (below_drew1 HB.out)
          clear HO337
          clear HO340
          clear HO344
          clear BK341
          clear HB
          have HO337 := n0_
          have HO340 := n1_
          have HO344 := n2_
          have BK341 := n3_
          have HB := n4_
          clear n0_ n1_ n2_ n3_ n4_
          have q29 : ((ji12) : Int) ≤ ((t335.length : Int) : Int) := of_decide_eq_true (by first | (with_reducible assumption) | assumption)
          obtain ⟨i029, hi029, _, hsz29, _⟩ := info_parts info49
          have hroom29 : t335.length ≤ co26 := (Kd.V_reads' HO337.out).2.1
          have hC29 : Kd.F k49 _ _ Ao26 t335.length t335 := (Kd.V_at (base := w.heap.size) HO337.out).2.2
          have hcut29 := cut_to (P := Try.prog) 26 49 .i64 Try.underlying26 hi029 Ao26 t335.length co26 (ji12) (of_decide_eq_true (by first | (with_reducible assumption) | assumption)) q29 hroom29
          have hr29 := Kd.F_take (m := ((ji12) : Int).toNat) hC29 (by omega)
          have hy29 : y345.length = ((ji12) : Int).toNat := (by rw [Ny345.out, List.length_take]; omega)
          rw [← Ny345.out] at hr29
          rw [← hy29] at hcut29
          have HO349 := Aside0.mk (show Kd.V k49 49 _ w.heap.size _ (.slice Ao26 y345.length co26) y345 from Kd.V_mk (by omega) hr29)
          have HC349 := Aside0.mk (show y345.length ≤ co26 from by omega)
          clear hr29 hC29 hroom29 hi029 hsz29
          have KY29 := Aside0.mk hy29
          clear hy29
          replace q29 := eq_true q29
          refine start_ (n := 11) (S := fun w' => w'.cell? ⟨gb341, 0, none⟩ = some (.int .i64 t334) ∧ w'.cell? ⟨gb341, 1, none⟩ = some (.slice Ao26 t335.length co26)) (ds := []) #[false, false, false, false, false, false, false, false, false, false, false] (by kernel_rfl) rfl rfl ⟨(blk_cell BK341.out 0).trans rfl, (blk_cell BK341.out 1).trans rfl⟩ (fun hHeld => ?_); refine with_tabW proofmarklaw17_CnfGrows.tab7 proofmarklaw17_CnfGrows.bits7 (fun HT_ HW_ => ?_)
          generalize w27.drew = w28 at HO337 HO340 HO344 BK341 HB HO349 hHeld ⊢
          refine pure_ (i := 0) (N := some 36) (v := ?_) (a' := ?_) #[true, false, false, false, false, false, false, false, false, false, false] rfl rfl (any_of HT_.out (by kernel_rfl)) (fun _ _ _ h => h) (Or.inl ⟨by rfl, ?_⟩) ?_ ?_
          rotate_left
          ·intro w'
           go_simp
           with_reducible rfl
          rotate_left
          ·simp only [Act.put, List.setIfInBounds_toArray, List.set_cons_zero, List.set_cons_succ, i64_w, i32_w]
           rfl
          refine pure_ (i := 2) (N := some 38) (v := ?_) (a' := ?_) #[true, false, true, false, false, false, false, false, false, false, false] rfl rfl (any_of HT_.out (by kernel_rfl)) (fun _ _ _ h => h) (Or.inl ⟨by rfl, ?_⟩) ?_ ?_
          rotate_left
          ·intro w'
           go_simp
           with_reducible rfl
          rotate_left
          ·simp only [Act.put, List.setIfInBounds_toArray, List.set_cons_zero, List.set_cons_succ, i64_w, i32_w]
           rfl
          refine pure_ (i := 4) (N := some 40) (v := ?_) (a' := ?_) #[true, false, true, false, true, false, false, false, false, false, false] rfl rfl (any_of HT_.out (by kernel_rfl)) (fun _ _ _ h => h) (Or.inl ⟨by rfl, ?_⟩) ?_ ?_
          rotate_left
          ·intro w'
           go_simp
           with_reducible rfl
          rotate_left
          ·simp only [Act.put, List.setIfInBounds_toArray, List.set_cons_zero, List.set_cons_succ, i64_w, i32_w]
           rfl
          refine pure_ (i := 7) (N := some 43) (v := ?_) (a' := ?_) #[true, false, true, false, true, false, false, true, false, false, false] rfl rfl (any_of HT_.out (by kernel_rfl)) (fun _ _ _ h => h) (Or.inl ⟨by rfl, ?_⟩) ?_ ?_
          rotate_left
          ·intro w'
           go_simp
           with_reducible rfl
          rotate_left
          ·simp only [Act.put, List.setIfInBounds_toArray, List.set_cons_zero, List.set_cons_succ, i64_w, i32_w]
           rfl
          refine pure_ (i := 8) (N := some 44) (v := ?_) (a' := ?_) #[true, false, true, false, true, false, false, true, true, false, false] rfl rfl (any_of HT_.out (by kernel_rfl)) (fun _ _ _ h => h) (Or.inl ⟨by rfl, ?_⟩) ?_ ?_
          rotate_left
          ·intro w'
           go_simp
           with_reducible rfl
          rotate_left
          ·simp only [Act.put, List.setIfInBounds_toArray, List.set_cons_zero, List.set_cons_succ, i64_w, i32_w]
           rfl
          refine take_ (i := 1) (N := some 37) (v := ?_) (a' := ?_) #[true, true, true, false, true, false, false, true, true, false, false] rfl rfl (take_ofW HT_.out HW_.out (by kernel_rfl)) (fun _ _ _ h => h) (Or.inl ⟨by rfl, ?_⟩) hHeld ?_ ?_
          rotate_left
          ·rintro w' ⟨s0, s1⟩
           go_simp
           with_reducible rfl
          rotate_left
          ·simp only [Act.put, List.setIfInBounds_toArray, List.set_cons_zero, List.set_cons_succ, i64_w, i32_w]
           rfl
          refine take_ (i := 3) (N := some 39) (v := ?_) (a' := ?_) #[true, true, true, true, true, false, false, true, true, false, false] rfl rfl (take_ofW HT_.out HW_.out (by kernel_rfl)) (fun _ _ _ h => h) (Or.inl ⟨by rfl, ?_⟩) hHeld ?_ ?_
          rotate_left
          ·rintro w' ⟨s0, s1⟩
           go_simp
           with_reducible rfl
          rotate_left
          ·simp only [Act.put, List.setIfInBounds_toArray, List.set_cons_zero, List.set_cons_succ, i64_w, i32_w]
           rfl
          refine pure_ (i := 5) (N := some 41) (v := ?_) (a' := ?_) #[true, true, true, true, true, true, false, true, true, false, false] rfl rfl (any_of HT_.out (by kernel_rfl)) (fun _ _ _ h => h) (Or.inl ⟨by rfl, ?_⟩) ?_ ?_
          rotate_left
          ·intro w'
           go_simp
           with_reducible rfl
          rotate_left
          ·simp only [Act.put, List.setIfInBounds_toArray, List.set_cons_zero, List.set_cons_succ, i64_w, i32_w]
           rfl
          refine pure_ (i := 6) (N := some 42) (v := ?_) (a' := ?_) #[true, true, true, true, true, true, true, true, true, false, false] rfl rfl (any_of HT_.out (by kernel_rfl)) (fun _ _ _ h => h) (Or.inl ⟨by rfl, ?_⟩) ?_ ?_
          rotate_left
          ·intro w'
           go_simp
           with_reducible rfl
          rotate_left
          ·simp only [Act.put, List.setIfInBounds_toArray, List.set_cons_zero, List.set_cons_succ, i64_w, i32_w]
           rfl
          refine one_ (i := 9) (N := some 45) #[true, true, true, true, true, true, true, true, true, true, false] rfl rfl (one_of HT_.out (by kernel_rfl)) (by decide) (fun K hK => ?_)
          refine goes_ Try.func18 (by kernel_rfl) rfl #[.agg #[.int .i64 t334, .slice Ao26 y345.length co26], .int .i64 (wrap64 (a2))] (by rfl) rfl rfl (by (try simp only [List.map_toArray, List.map_cons, List.map_nil]); first | done | rfl | (simp only [List.length_drop, List.length_take]; rfl)) ?_
          with_reducible refine (cnf_Clauses.calls t334 _ _ y345 (wrap64 (a2)) t350 _ ?side1 ?side2 A15.out).mono ?_
          (case side1 => repeat (first | exact (Kd.V_reads' HO349.out).2.2 | (with_reducible refine Kd.C_alloc ?_ _) | (with_reducible refine Kd.C_drewN ?_ _) | (with_reducible refine Kd.C_drew ?_)))
          (case side2 => exact (Kd.V_reads' HO349.out).2.1)
          rintro e w30 ⟨v351, rfl, ho0, hb⟩
          refine ⟨_, rfl, ?_⟩
          have n0_ := Aside0.mk (Kd.V_elder' (by (with_reducible repeat (first | apply Kd.V_alloc | apply Kd.V_drewN | apply Kd.V_drew)); exact HO337.out) (Kd.N_base ho0) hb)
          have n1_ := Aside0.mk (Kd.R_below (by (with_reducible repeat (first | apply Kd.R_alloc | apply Kd.R_drewN | apply Kd.R_drew)); exact HO340.out) hb)
          have n2_ := Aside0.mk (Kd.N_elder' (by (with_reducible repeat (first | apply Kd.N_alloc | apply Kd.N_drewN | apply Kd.N_drew)); exact HO344.out) (Kd.N_base ho0) hb)
          have n3_ := Aside0.mk (Kd.V_elder' (by (with_reducible repeat (first | apply Kd.V_alloc | apply Kd.V_drewN | apply Kd.V_drew)); exact HO349.out) (Kd.N_base ho0) hb)
          have n4_ := Aside0.mk (Kd.N_lower (Kd.N_mono (ok' := fun k_ => some k_ ≠ (v339 : Value).ownBlock ∧ some k_ ≠ (v343 : Value).ownBlock ∧ k_ ≠ gb341) ho0 (fun k_ hk_ => ⟨(Kd.fresh' (Kd.R_lt (by (with_reducible repeat (first | apply Kd.R_alloc | apply Kd.R_drewN | apply Kd.R_drew)); exact HO340.out)) k_ hk_), (Kd.fresh' (Kd.N_lt (by (with_reducible repeat (first | apply Kd.N_alloc | apply Kd.N_drewN | apply Kd.N_drew)); exact HO344.out)) k_ hk_), (Kd.freshB (g := gb341) (o := .cells #[.int .i64 t334, .slice Ao26 t335.length co26] 28 (0, 0)) (by (with_reducible repeat (first | refine blk_drewN ?_ _ | refine blk_drew ?_ | refine blk_alloc ?_ _)); exact BK341.out) k_ hk_)⟩)) (below_size (by repeat (first | (with_reducible first | exact HB.out | apply below_alloc | apply pw_below_drewN | apply below_drew1 | refine below_set ?_ GE341.out) | exact HB.out))))
          have n5_ := Aside0.mk (blk_below (g := gb341) (o := .cells #[.int .i64 t334, .slice Ao26 t335.length co26] 28 (0, 0)) (by (with_reducible repeat (first | refine blk_drewN ?_ _ | refine blk_drew ?_ | refine blk_alloc ?_ _)); exact BK341.out) hb)
          have n6_ := Aside0.mk (below_step (by repeat (first | (with_reducible first | exact HB.out | apply below_alloc | apply pw_below_drewN | apply below_drew1 | refine below_set ?_ GE341.out) | exact HB.out)) hb)
          clear HO337
          clear HO340
          clear HO344
          clear HO349
          clear BK341
          clear HB
          have HO337 := n0_
          have HO340 := n1_
          have HO344 := n2_
          have HO349 := n3_
          have HO352 := n4_
          have BK341 := n5_
          have HB := n6_
          clear n0_ n1_ n2_ n3_ n4_ n5_ n6_
          (try clear hb)
          (try clear hb2)
          (try clear hk)
          (try clear hi)
          (try clear ho0)
          refine hK.out _ _ ⟨(blk_cell BK341.out 0).trans rfl, (blk_cell BK341.out 1).trans rfl⟩ (fun hHeld => ?_)
          clear hK K
          refine norm_ (a' := ?_) ?_ ?_
          rotate_left
          ·show Act.put _ (some 45) _ = _
           simp only [Act.put, List.setIfInBounds_toArray, List.set_cons_zero, List.set_cons_succ, i64_w, i32_w]
           rfl
          refine pure_ (i := 10) (N := some 14) (v := ?_) (a' := ?_) #[true, true, true, true, true, true, true, true, true, true, true] rfl rfl (any_of HT_.out (by kernel_rfl)) (fun _ _ _ h => h) (Or.inl ⟨by rfl, ?_⟩) ?_ ?_
          rotate_left
          ·intro w'
           go_simp
           with_reducible rfl
          rotate_left
          ·simp only [Act.put, List.setIfInBounds_toArray, List.set_cons_zero, List.set_cons_succ, i64_w, i32_w]
           rfl
          refine done_ (done_of HT_.out (by kernel_rfl)) ?_
          obtain ⟨Ao31, co31, eo31⟩ := Kd.N_slice HO344.out
          subst eo31
          have hcz32_0 : w30.cell? ⟨gb341, 0, none⟩ = some (.int .i64 t334) := (blk_cell BK341.out 0).trans rfl
          have hcz32_1 : w30.cell? ⟨gb341, 1, none⟩ = some (.slice Ao26 t335.length co26) := (blk_cell BK341.out 1).trans rfl
          have hfz32_0 := blk_frozen BK341.out 0
          have hfz32_1 := blk_frozen BK341.out 1
          obtain ⟨Ao33, co33, eo33⟩ := Kd.N_slice HO352.out
          subst eo33
          have q34 : ((t350.length : Int) : Int) ≤ ((t342.length : Int) : Int) := of_decide_eq_true (by first | (with_reducible assumption) | assumption)
          obtain ⟨i034, hi034, _, hsz34, _⟩ := info_parts info29
          have hroom34 : t342.length ≤ co31 := (Kd.N_reads' HO344.out).2.1
          have hC34 : Kd.F (Kd.slice 3 (Kd.int .i64)) _ _ Ao31 t342.length t342 := (Kd.V_at (base := w.heap.size) (Kd.N_V HO344.out)).2.2
          have hcut34 := cut_to (P := Try.prog) 35 29 .i64 Try.underlying35 hi034 Ao31 t342.length co31 (t350.length : Int) (of_decide_eq_true (by first | (with_reducible assumption) | assumption)) q34 hroom34
          have hr34 := Kd.F_take (m := ((t350.length : Int) : Int).toNat) hC34 (by omega)
          have hy34 : y353.length = ((t350.length : Int) : Int).toNat := (by rw [Ny353.out, List.length_take]; omega)
          rw [← Ny353.out] at hr34
          rw [← hy34] at hcut34
          have HO357 := Aside0.mk (show Kd.V (Kd.slice 3 (Kd.int .i64)) 29 _ w.heap.size _ (.slice Ao31 y353.length co31) y353 from Kd.V_mk (by omega) hr34)
          have HC357 := Aside0.mk (show y353.length ≤ co31 from by omega)
          clear hr34 hC34 hroom34 hi034 hsz34
          have KY34 := Aside0.mk hy34
          clear hy34
          replace q34 := eq_true q34
          try go_wp2_with (first | (go_at_call 17; (with_reducible refine (proofmarkref11_SameRows.calls k _ _ y353 _ _ t350 t358 _ ?side1 ?side2 ?side3 ?side4 A21.out).mono ?_); (case side1 => repeat (first | exact (Kd.V_reads' HO357.out).2.2 | (with_reducible refine Kd.C_alloc ?_ _) | (with_reducible refine Kd.C_drewN ?_ _) | (with_reducible refine Kd.C_drew ?_))); (case side2 => exact (Kd.V_reads' HO357.out).2.1); (case side3 => repeat (first | exact (Kd.N_reads' HO352.out).2.2 | (with_reducible refine Kd.C_alloc ?_ _) | (with_reducible refine Kd.C_drewN ?_ _) | (with_reducible refine Kd.C_drew ?_))); (case side4 => exact (Kd.N_reads' HO352.out).2.1); rintro e w' ⟨rfl, ⟨nd, rfl⟩⟩))
          go_ret
          exact ⟨by first | rfl | (simp [errW_none, errW_some] <;> rfl) | (simp only [← hji12]; first | rfl | (simp [errW_none, errW_some] <;> rfl)) | (simp [*, errW_none, errW_some] <;> rfl), by repeat (first | (with_reducible first | exact HB.out | apply below_alloc | apply pw_below_drewN | apply below_drew1 | refine below_set ?_ GE341.out) | exact HB.out)⟩
         ·rw [if_neg c20] at H
          exact absurd H (by simp)
        ·rw [if_neg c19] at H
         exact absurd H (by simp)
       ·rw [if_neg c18] at H
        have c18b0 : ((t350.length : Int) == (wrap64 (1 + (wrap64 (3 * (ji12)))))) = false := beq_eq_false_iff_ne.mpr c18
        have c18b1 : ((t350.length : Int) != (wrap64 (1 + (wrap64 (3 * (ji12)))))) = true := bne_iff_ne.mpr c18
        obtain rfl := Option.some.inj H
        go_enter Try.func6, Try.ntmps6
        try go_wp2_with (first | ((with_reducible refine gate_callee (f := 10) rfl ?_); refine goesL_ (some 15) rfl rfl Try.func10 (by kernel_rfl) rfl #[] rfl (by (try simp only [List.map_toArray, List.map_cons, List.map_nil]); first | done | rfl | (simp only [List.length_drop, List.length_take]; rfl)) ?_; (with_reducible refine (proofmarklaw17_head.calls k  true _ A5.out).mono ?_); rintro e w35 ⟨rfl, hb⟩; refine ⟨_, rfl, ?_⟩; have n0_ := Aside0.mk (below_step (by repeat (first | (with_reducible first | exact HB.out | apply below_alloc | apply pw_below_drewN | apply below_drew1) | exact HB.out)) hb); clear HB; have HB := n0_; clear n0_; (try clear hb); (try clear hb2); (try clear hk); (try clear hi)) | ((with_reducible refine gate_callee (f := 11) rfl ?_); refine goesL_ (some 17) rfl rfl Try.func11 (by kernel_rfl) rfl #[.slice A1 l1.length c1] rfl (by (try simp only [List.map_toArray, List.map_cons, List.map_nil]); first | done | rfl | (simp only [List.length_drop, List.length_take]; rfl)) ?_; (with_reducible refine (proofmarklaw13_Great.calls _ _ l1 false _ ?side1 ?side2 A6.out).mono ?_); (case side1 => repeat (first | exact (Kd.C_below HR1.out HB.out) | (with_reducible refine Kd.C_alloc ?_ _) | (with_reducible refine Kd.C_drewN ?_ _) | (with_reducible refine Kd.C_drew ?_))); (case side2 => exact HC1.out); rintro e w' ⟨rfl, ⟨nd, rfl⟩⟩; refine ⟨_, rfl, ?_⟩; (try (rw [drewN_self w35]; generalize hq_ : World.drewN w35 _ = w35; have n0_ : Aside0 (Below w.heap.size w w35) := ⟨by rw [← hq_]; exact (by repeat (first | (with_reducible first | exact HB.out | apply below_alloc | apply pw_below_drewN | apply below_drew1) | exact HB.out))⟩; clear HB hq_; have HB := n0_; clear n0_))) | ((with_reducible refine gate_callee (f := 12) rfl ?_); refine goesL_ (some 22) rfl rfl Try.func12 (by kernel_rfl) rfl #[.int .u8 a0, .slice A1 l1.length c1] rfl (by (try simp only [List.map_toArray, List.map_cons, List.map_nil]); first | done | rfl | (simp only [List.length_drop, List.length_take]; rfl)) ?_; (with_reducible refine (proofmarklaw13_Made.calls k a0 _ _ l1 t334 t335 t338 _ ?side1 ?side2 A9.out).mono ?_); (case side1 => repeat (first | exact (Kd.C_below HR1.out HB.out) | (with_reducible refine Kd.C_alloc ?_ _) | (with_reducible refine Kd.C_drewN ?_ _) | (with_reducible refine Kd.C_drew ?_))); (case side2 => exact HC1.out); rintro e w36 ⟨v336, v339, rfl, ho0, ho1, hb⟩; refine ⟨_, rfl, ?_⟩; have n0_ := Aside0.mk (Kd.V_lower (Kd.V_mono (ok' := fun k_ => some k_ ≠ (v339 : Value).ownBlock) ho0 (fun k_ hk_ => hk_.2)) (below_size (by repeat (first | (with_reducible first | exact HB.out | apply below_alloc | apply pw_below_drewN | apply below_drew1) | exact HB.out)))); have n1_ := Aside0.mk (Kd.R_lower (Kd.R_mono (ok' := fun k_ => True) ho1 (fun _ hk_ => trivial)) (below_size (by repeat (first | (with_reducible first | exact HB.out | apply below_alloc | apply pw_below_drewN | apply below_drew1) | exact HB.out)))); have n2_ := Aside0.mk (below_step (by repeat (first | (with_reducible first | exact HB.out | apply below_alloc | apply pw_below_drewN | apply below_drew1) | exact HB.out)) hb); clear HB; have HO337 := n0_; have HO340 := n1_; have HB := n2_; clear n0_ n1_ n2_; (try clear hb); (try clear hb2); (try clear hk); (try clear hi); (try clear ho0); (try clear ho1)) | ((with_reducible refine gate_dst (N := 10) rfl ?_); (try (refine gate_guard (by rfl) ?_; dsimp only)); refine box_event ?hg (N := 10) ?hd (cs := #[.int .i64 0, .slice none 0 0]) (t := 28) ?hr ?_; (case hd => rfl); (case hg => rfl); (case hr => first | (go_simp; done) | (go_simp; rfl)); intro gb341 hg w37 hbox hb; have n0_ := Aside0.mk (Kd.V_below (Kd.V_elderB (by (with_reducible repeat (first | apply Kd.V_alloc | apply Kd.V_drewN | apply Kd.V_drew)); exact HO337.out) gb341 (Nat.le_of_eq hg.symm)) hb); have n1_ := Aside0.mk (Kd.R_below (by (with_reducible repeat (first | apply Kd.R_alloc | apply Kd.R_drewN | apply Kd.R_drew)); exact HO340.out) hb); have n2_ := Aside0.mk (below_step (by repeat (first | (with_reducible first | exact HB.out | apply below_alloc | apply pw_below_drewN | apply below_drew1) | exact HB.out)) hb); have n3_ := Aside0.mk (hbox); have n4_ := Aside0.mk ((by rw [hg]; exact (below_size (by repeat (first | (with_reducible first | exact HB.out | apply below_alloc | apply pw_below_drewN | apply below_drew1) | exact HB.out))) : w.heap.size ≤ gb341)); have n5_ := Aside0.mk ((by rw [hg]; exact (below_size (by repeat (first | (with_reducible first | exact HB.out | apply below_alloc | apply pw_below_drewN | apply below_drew1) | exact HB.out))) : w.heap.size ≤ gb341)); clear HO337; clear HO340; clear HB; have HO337 := n0_; have HO340 := n1_; have HB := n2_; have BK341 := n3_; have GW341 := n4_; have GE341 := n5_; clear n0_ n1_ n2_ n3_ n4_ n5_; clear hb hbox hg; have hcz38_0 : w37.cell? ⟨gb341, 0, none⟩ = some (.int .i64 0) := (blk_cell BK341.out 0).trans rfl; have hcz38_1 : w37.cell? ⟨gb341, 1, none⟩ = some (.slice none 0 0) := (blk_cell BK341.out 1).trans rfl; have hfz38_0 := blk_frozen BK341.out 0; have hfz38_1 := blk_frozen BK341.out 1; obtain ⟨Ao39, co39, eo39⟩ := Kd.V_slice HO337.out; subst eo39) | ((with_reducible refine gate_callee (f := 18) rfl ?_); refine goesL_ (some 35) rfl rfl Try.func18 (by kernel_rfl) rfl #[.agg #[.int .i64 t334, .slice Ao39 t335.length co39], .int .i64 (wrap64 (a2))] rfl (by (try simp only [List.map_toArray, List.map_cons, List.map_nil]); first | done | rfl | (simp only [List.length_drop, List.length_take]; rfl)) ?_; (with_reducible refine (cnf_Clauses.calls t334 _ _ t335 (wrap64 (a2)) t342 _ ?side1 ?side2 A11.out).mono ?_); (case side1 => refine (Kd.V_reads' (e := 49) (base := w.heap.size) (ok := fun k_ => (some k_ ≠ (v339 : Value).ownBlock ∧ k_ ≠ gb341)) (n := t335.length) (c := co39) ?_).2.2; exact (by (with_reducible repeat (first | apply Kd.V_alloc | apply Kd.V_drewN | apply Kd.V_drew)); exact (Kd.V_mono (Kd.V_far (p := ⟨gb341, 1, none⟩) (Kd.V_far (p := ⟨gb341, 0, none⟩) (Kd.V_mono HO337.out (fun k_ hk => (⟨hk, hk.2⟩ : _ ∧ k_ ≠ gb341))) (fun _ hk => hk.2) (.int .i64 t334)) (fun _ hk => hk.2) (.slice Ao39 t335.length co39)) (fun _ h_ => h_.1)))); (case side2 => exact (Kd.V_reads' HO337.out).2.1); rintro e w40 ⟨v343, rfl, ho0, hb⟩; refine ⟨_, rfl, ?_⟩; have n0_ := Aside0.mk (Kd.V_elder' (by (with_reducible repeat (first | apply Kd.V_alloc | apply Kd.V_drewN | apply Kd.V_drew)); exact (Kd.V_mono (Kd.V_far (p := ⟨gb341, 1, none⟩) (Kd.V_far (p := ⟨gb341, 0, none⟩) (Kd.V_mono HO337.out (fun k_ hk => (⟨hk, hk.2⟩ : _ ∧ k_ ≠ gb341))) (fun _ hk => hk.2) (.int .i64 t334)) (fun _ hk => hk.2) (.slice Ao39 t335.length co39)) (fun _ h_ => h_.1))) (Kd.N_base ho0) hb); have n1_ := Aside0.mk (Kd.R_below (by (with_reducible repeat (first | apply Kd.R_alloc | apply Kd.R_drewN | apply Kd.R_drew)); exact (Kd.R_mono (Kd.R_far (p := ⟨gb341, 1, none⟩) (Kd.R_far (p := ⟨gb341, 0, none⟩) (Kd.R_types HO340.out BK341.out (by decide)) (fun _ hk => hk.2) (.int .i64 t334)) (fun _ hk => hk.2) (.slice Ao39 t335.length co39)) (fun _ h_ => h_.1))) hb); have n2_ := Aside0.mk (Kd.N_lower (Kd.N_mono (ok' := fun k_ => some k_ ≠ (v339 : Value).ownBlock ∧ k_ ≠ gb341) ho0 (fun k_ hk_ => ⟨(Kd.fresh' (Kd.R_lt (by (with_reducible repeat (first | apply Kd.R_alloc | apply Kd.R_drewN | apply Kd.R_drew)); exact (Kd.R_mono (Kd.R_far (p := ⟨gb341, 1, none⟩) (Kd.R_far (p := ⟨gb341, 0, none⟩) (Kd.R_types HO340.out BK341.out (by decide)) (fun _ hk => hk.2) (.int .i64 t334)) (fun _ hk => hk.2) (.slice Ao39 t335.length co39)) (fun _ h_ => h_.1)))) k_ hk_), (Kd.freshB (g := gb341) (o := .cells #[.int .i64 t334, .slice Ao39 t335.length co39] 28 (0, 0)) (by (with_reducible repeat (first | refine blk_drewN ?_ _ | refine blk_drew ?_ | refine blk_alloc ?_ _)); refine blk_put (cs := #[.int .i64 t334, .slice none 0 0]) ?_ 1 _ rfl; (with_reducible repeat (first | refine blk_drewN ?_ _ | refine blk_drew ?_ | refine blk_alloc ?_ _)); refine blk_put (cs := #[.int .i64 0, .slice none 0 0]) ?_ 0 _ rfl; (with_reducible repeat (first | refine blk_drewN ?_ _ | refine blk_drew ?_ | refine blk_alloc ?_ _)); exact BK341.out) k_ hk_)⟩)) (below_size (by repeat (first | (with_reducible first | exact HB.out | apply below_alloc | apply pw_below_drewN | apply below_drew1 | refine below_set ?_ GE341.out) | exact HB.out)))); have n3_ := Aside0.mk (blk_below (g := gb341) (o := .cells #[.int .i64 t334, .slice Ao39 t335.length co39] 28 (0, 0)) (by (with_reducible repeat (first | refine blk_drewN ?_ _ | refine blk_drew ?_ | refine blk_alloc ?_ _)); refine blk_put (cs := #[.int .i64 t334, .slice none 0 0]) ?_ 1 _ rfl; (with_reducible repeat (first | refine blk_drewN ?_ _ | refine blk_drew ?_ | refine blk_alloc ?_ _)); refine blk_put (cs := #[.int .i64 0, .slice none 0 0]) ?_ 0 _ rfl; (with_reducible repeat (first | refine blk_drewN ?_ _ | refine blk_drew ?_ | refine blk_alloc ?_ _)); exact BK341.out) hb); have n4_ := Aside0.mk (below_step (by repeat (first | (with_reducible first | exact HB.out | apply below_alloc | apply pw_below_drewN | apply below_drew1 | refine below_set ?_ GE341.out) | exact HB.out)) hb); clear HO337; clear HO340; clear BK341; clear HB; have HO337 := n0_; have HO340 := n1_; have HO344 := n2_; have BK341 := n3_; have HB := n4_; clear n0_ n1_ n2_ n3_ n4_; (try clear hb); (try clear hb2); (try clear hk); (try clear hi); (try clear ho0)))
        have n0_ := Aside0.mk (Kd.V_drew HO337.out)
        have n1_ := Aside0.mk (Kd.R_drew HO340.out)
        have n2_ := Aside0.mk (Kd.N_drew HO344.out)
        have n3_ := Aside0.mk (blk_drew BK341.out)
        have n4_ := Aside0.mk (below_drew1 HB.out)
        clear HO337
        clear HO340
        clear HO344
        clear BK341
        clear HB
        have HO337 := n0_
        have HO340 := n1_
        have HO344 := n2_
        have BK341 := n3_
        have HB := n4_
        clear n0_ n1_ n2_ n3_ n4_
        have q42 : ((ji12) : Int) ≤ ((t335.length : Int) : Int) := of_decide_eq_true (by first | (with_reducible assumption) | assumption)
        obtain ⟨i042, hi042, _, hsz42, _⟩ := info_parts info49
        have hroom42 : t335.length ≤ co39 := (Kd.V_reads' HO337.out).2.1
        have hC42 : Kd.F k49 _ _ Ao39 t335.length t335 := (Kd.V_at (base := w.heap.size) HO337.out).2.2
        have hcut42 := cut_to (P := Try.prog) 26 49 .i64 Try.underlying26 hi042 Ao39 t335.length co39 (ji12) (of_decide_eq_true (by first | (with_reducible assumption) | assumption)) q42 hroom42
        have hr42 := Kd.F_take (m := ((ji12) : Int).toNat) hC42 (by omega)
        have hy42 : y345.length = ((ji12) : Int).toNat := (by rw [Ny345.out, List.length_take]; omega)
        rw [← Ny345.out] at hr42
        rw [← hy42] at hcut42
        have HO349 := Aside0.mk (show Kd.V k49 49 _ w.heap.size _ (.slice Ao39 y345.length co39) y345 from Kd.V_mk (by omega) hr42)
        have HC349 := Aside0.mk (show y345.length ≤ co39 from by omega)
        clear hr42 hC42 hroom42 hi042 hsz42
        have KY42 := Aside0.mk hy42
        clear hy42
        replace q42 := eq_true q42
        refine start_ (n := 11) (S := fun w' => w'.cell? ⟨gb341, 0, none⟩ = some (.int .i64 t334) ∧ w'.cell? ⟨gb341, 1, none⟩ = some (.slice Ao39 t335.length co39)) (ds := []) #[false, false, false, false, false, false, false, false, false, false, false] (by kernel_rfl) rfl rfl ⟨(blk_cell BK341.out 0).trans rfl, (blk_cell BK341.out 1).trans rfl⟩ (fun hHeld => ?_); refine with_tabW proofmarklaw17_CnfGrows.tab7 proofmarklaw17_CnfGrows.bits7 (fun HT_ HW_ => ?_)
        generalize w40.drew = w41 at HO337 HO340 HO344 BK341 HB HO349 hHeld ⊢
        refine pure_ (i := 0) (N := some 36) (v := ?_) (a' := ?_) #[true, false, false, false, false, false, false, false, false, false, false] rfl rfl (any_of HT_.out (by kernel_rfl)) (fun _ _ _ h => h) (Or.inl ⟨by rfl, ?_⟩) ?_ ?_
        rotate_left
        ·intro w'
         go_simp
         with_reducible rfl
        rotate_left
        ·simp only [Act.put, List.setIfInBounds_toArray, List.set_cons_zero, List.set_cons_succ, i64_w, i32_w]
         rfl
        refine pure_ (i := 2) (N := some 38) (v := ?_) (a' := ?_) #[true, false, true, false, false, false, false, false, false, false, false] rfl rfl (any_of HT_.out (by kernel_rfl)) (fun _ _ _ h => h) (Or.inl ⟨by rfl, ?_⟩) ?_ ?_
        rotate_left
        ·intro w'
         go_simp
         with_reducible rfl
        rotate_left
        ·simp only [Act.put, List.setIfInBounds_toArray, List.set_cons_zero, List.set_cons_succ, i64_w, i32_w]
         rfl
        refine pure_ (i := 4) (N := some 40) (v := ?_) (a' := ?_) #[true, false, true, false, true, false, false, false, false, false, false] rfl rfl (any_of HT_.out (by kernel_rfl)) (fun _ _ _ h => h) (Or.inl ⟨by rfl, ?_⟩) ?_ ?_
        rotate_left
        ·intro w'
         go_simp
         with_reducible rfl
        rotate_left
        ·simp only [Act.put, List.setIfInBounds_toArray, List.set_cons_zero, List.set_cons_succ, i64_w, i32_w]
         rfl
        refine pure_ (i := 7) (N := some 43) (v := ?_) (a' := ?_) #[true, false, true, false, true, false, false, true, false, false, false] rfl rfl (any_of HT_.out (by kernel_rfl)) (fun _ _ _ h => h) (Or.inl ⟨by rfl, ?_⟩) ?_ ?_
        rotate_left
        ·intro w'
         go_simp
         with_reducible rfl
        rotate_left
        ·simp only [Act.put, List.setIfInBounds_toArray, List.set_cons_zero, List.set_cons_succ, i64_w, i32_w]
         rfl
        refine pure_ (i := 8) (N := some 44) (v := ?_) (a' := ?_) #[true, false, true, false, true, false, false, true, true, false, false] rfl rfl (any_of HT_.out (by kernel_rfl)) (fun _ _ _ h => h) (Or.inl ⟨by rfl, ?_⟩) ?_ ?_
        rotate_left
        ·intro w'
         go_simp
         with_reducible rfl
        rotate_left
        ·simp only [Act.put, List.setIfInBounds_toArray, List.set_cons_zero, List.set_cons_succ, i64_w, i32_w]
         rfl
        refine take_ (i := 1) (N := some 37) (v := ?_) (a' := ?_) #[true, true, true, false, true, false, false, true, true, false, false] rfl rfl (take_ofW HT_.out HW_.out (by kernel_rfl)) (fun _ _ _ h => h) (Or.inl ⟨by rfl, ?_⟩) hHeld ?_ ?_
        rotate_left
        ·rintro w' ⟨s0, s1⟩
         go_simp
         with_reducible rfl
        rotate_left
        ·simp only [Act.put, List.setIfInBounds_toArray, List.set_cons_zero, List.set_cons_succ, i64_w, i32_w]
         rfl
        refine take_ (i := 3) (N := some 39) (v := ?_) (a' := ?_) #[true, true, true, true, true, false, false, true, true, false, false] rfl rfl (take_ofW HT_.out HW_.out (by kernel_rfl)) (fun _ _ _ h => h) (Or.inl ⟨by rfl, ?_⟩) hHeld ?_ ?_
        rotate_left
        ·rintro w' ⟨s0, s1⟩
         go_simp
         with_reducible rfl
        rotate_left
        ·simp only [Act.put, List.setIfInBounds_toArray, List.set_cons_zero, List.set_cons_succ, i64_w, i32_w]
         rfl
        refine pure_ (i := 5) (N := some 41) (v := ?_) (a' := ?_) #[true, true, true, true, true, true, false, true, true, false, false] rfl rfl (any_of HT_.out (by kernel_rfl)) (fun _ _ _ h => h) (Or.inl ⟨by rfl, ?_⟩) ?_ ?_
        rotate_left
        ·intro w'
         go_simp
         with_reducible rfl
        rotate_left
        ·simp only [Act.put, List.setIfInBounds_toArray, List.set_cons_zero, List.set_cons_succ, i64_w, i32_w]
         rfl
        refine pure_ (i := 6) (N := some 42) (v := ?_) (a' := ?_) #[true, true, true, true, true, true, true, true, true, false, false] rfl rfl (any_of HT_.out (by kernel_rfl)) (fun _ _ _ h => h) (Or.inl ⟨by rfl, ?_⟩) ?_ ?_
        rotate_left
        ·intro w'
         go_simp
         with_reducible rfl
        rotate_left
        ·simp only [Act.put, List.setIfInBounds_toArray, List.set_cons_zero, List.set_cons_succ, i64_w, i32_w]
         rfl
        refine one_ (i := 9) (N := some 45) #[true, true, true, true, true, true, true, true, true, true, false] rfl rfl (one_of HT_.out (by kernel_rfl)) (by decide) (fun K hK => ?_)
        refine goes_ Try.func18 (by kernel_rfl) rfl #[.agg #[.int .i64 t334, .slice Ao39 y345.length co39], .int .i64 (wrap64 (a2))] (by rfl) rfl rfl (by (try simp only [List.map_toArray, List.map_cons, List.map_nil]); first | done | rfl | (simp only [List.length_drop, List.length_take]; rfl)) ?_
        with_reducible refine (cnf_Clauses.calls t334 _ _ y345 (wrap64 (a2)) t350 _ ?side1 ?side2 A15.out).mono ?_
        (case side1 => repeat (first | exact (Kd.V_reads' HO349.out).2.2 | (with_reducible refine Kd.C_alloc ?_ _) | (with_reducible refine Kd.C_drewN ?_ _) | (with_reducible refine Kd.C_drew ?_)))
        (case side2 => exact (Kd.V_reads' HO349.out).2.1)
        rintro e w43 ⟨v351, rfl, ho0, hb⟩
        refine ⟨_, rfl, ?_⟩
        have n0_ := Aside0.mk (Kd.V_elder' (by (with_reducible repeat (first | apply Kd.V_alloc | apply Kd.V_drewN | apply Kd.V_drew)); exact HO337.out) (Kd.N_base ho0) hb)
        have n1_ := Aside0.mk (Kd.R_below (by (with_reducible repeat (first | apply Kd.R_alloc | apply Kd.R_drewN | apply Kd.R_drew)); exact HO340.out) hb)
        have n2_ := Aside0.mk (Kd.N_elder' (by (with_reducible repeat (first | apply Kd.N_alloc | apply Kd.N_drewN | apply Kd.N_drew)); exact HO344.out) (Kd.N_base ho0) hb)
        have n3_ := Aside0.mk (Kd.V_elder' (by (with_reducible repeat (first | apply Kd.V_alloc | apply Kd.V_drewN | apply Kd.V_drew)); exact HO349.out) (Kd.N_base ho0) hb)
        have n4_ := Aside0.mk (Kd.N_lower (Kd.N_mono (ok' := fun k_ => some k_ ≠ (v339 : Value).ownBlock ∧ some k_ ≠ (v343 : Value).ownBlock ∧ k_ ≠ gb341) ho0 (fun k_ hk_ => ⟨(Kd.fresh' (Kd.R_lt (by (with_reducible repeat (first | apply Kd.R_alloc | apply Kd.R_drewN | apply Kd.R_drew)); exact HO340.out)) k_ hk_), (Kd.fresh' (Kd.N_lt (by (with_reducible repeat (first | apply Kd.N_alloc | apply Kd.N_drewN | apply Kd.N_drew)); exact HO344.out)) k_ hk_), (Kd.freshB (g := gb341) (o := .cells #[.int .i64 t334, .slice Ao39 t335.length co39] 28 (0, 0)) (by (with_reducible repeat (first | refine blk_drewN ?_ _ | refine blk_drew ?_ | refine blk_alloc ?_ _)); exact BK341.out) k_ hk_)⟩)) (below_size (by repeat (first | (with_reducible first | exact HB.out | apply below_alloc | apply pw_below_drewN | apply below_drew1 | refine below_set ?_ GE341.out) | exact HB.out))))
        have n5_ := Aside0.mk (blk_below (g := gb341) (o := .cells #[.int .i64 t334, .slice Ao39 t335.length co39] 28 (0, 0)) (by (with_reducible repeat (first | refine blk_drewN ?_ _ | refine blk_drew ?_ | refine blk_alloc ?_ _)); exact BK341.out) hb)
        have n6_ := Aside0.mk (below_step (by repeat (first | (with_reducible first | exact HB.out | apply below_alloc | apply pw_below_drewN | apply below_drew1 | refine below_set ?_ GE341.out) | exact HB.out)) hb)
        clear HO337
        clear HO340
        clear HO344
        clear HO349
        clear BK341
        clear HB
        have HO337 := n0_
        have HO340 := n1_
        have HO344 := n2_
        have HO349 := n3_
        have HO352 := n4_
        have BK341 := n5_
        have HB := n6_
        clear n0_ n1_ n2_ n3_ n4_ n5_ n6_
        (try clear hb)
        (try clear hb2)
        (try clear hk)
        (try clear hi)
        (try clear ho0)
        refine hK.out _ _ ⟨(blk_cell BK341.out 0).trans rfl, (blk_cell BK341.out 1).trans rfl⟩ (fun hHeld => ?_)
        clear hK K
        refine norm_ (a' := ?_) ?_ ?_
        rotate_left
        ·show Act.put _ (some 45) _ = _
         simp only [Act.put, List.setIfInBounds_toArray, List.set_cons_zero, List.set_cons_succ, i64_w, i32_w]
         rfl
        refine pure_ (i := 10) (N := some 14) (v := ?_) (a' := ?_) #[true, true, true, true, true, true, true, true, true, true, true] rfl rfl (any_of HT_.out (by kernel_rfl)) (fun _ _ _ h => h) (Or.inl ⟨by rfl, ?_⟩) ?_ ?_
        rotate_left
        ·intro w'
         go_simp
         with_reducible rfl
        rotate_left
        ·simp only [Act.put, List.setIfInBounds_toArray, List.set_cons_zero, List.set_cons_succ, i64_w, i32_w]
         rfl
        refine done_ (done_of HT_.out (by kernel_rfl)) ?_
        obtain ⟨Ao44, co44, eo44⟩ := Kd.N_slice HO344.out
        subst eo44
        have hcz45_0 : w43.cell? ⟨gb341, 0, none⟩ = some (.int .i64 t334) := (blk_cell BK341.out 0).trans rfl
        have hcz45_1 : w43.cell? ⟨gb341, 1, none⟩ = some (.slice Ao39 t335.length co39) := (blk_cell BK341.out 1).trans rfl
        have hfz45_0 := blk_frozen BK341.out 0
        have hfz45_1 := blk_frozen BK341.out 1
        obtain ⟨Ao46, co46, eo46⟩ := Kd.N_slice HO352.out
        subst eo46
        try go_wp2
        go_ret
        exact ⟨by first | rfl | (simp [errW_none, errW_some] <;> rfl) | (simp only [← hji12]; first | rfl | (simp [errW_none, errW_some] <;> rfl)) | (simp [*, errW_none, errW_some] <;> rfl), by repeat (first | (with_reducible first | exact HB.out | apply below_alloc | apply pw_below_drewN | apply below_drew1 | refine below_set ?_ GE341.out) | exact HB.out)⟩
      ·rw [if_neg c17] at H
       have c17b0 : ((t342.length : Int) == (wrap64 (1 + (wrap64 (3 * (t335.length : Int)))))) = false := beq_eq_false_iff_ne.mpr c17
       have c17b1 : ((t342.length : Int) != (wrap64 (1 + (wrap64 (3 * (t335.length : Int)))))) = true := bne_iff_ne.mpr c17
       obtain rfl := Option.some.inj H
       go_enter Try.func6, Try.ntmps6
       try go_wp2_with (first | ((with_reducible refine gate_callee (f := 10) rfl ?_); refine goesL_ (some 15) rfl rfl Try.func10 (by kernel_rfl) rfl #[] rfl (by (try simp only [List.map_toArray, List.map_cons, List.map_nil]); first | done | rfl | (simp only [List.length_drop, List.length_take]; rfl)) ?_; (with_reducible refine (proofmarklaw17_head.calls k  true _ A5.out).mono ?_); rintro e w47 ⟨rfl, hb⟩; refine ⟨_, rfl, ?_⟩; have n0_ := Aside0.mk (below_step (by repeat (first | (with_reducible first | exact HB.out | apply below_alloc | apply pw_below_drewN | apply below_drew1) | exact HB.out)) hb); clear HB; have HB := n0_; clear n0_; (try clear hb); (try clear hb2); (try clear hk); (try clear hi)) | ((with_reducible refine gate_callee (f := 11) rfl ?_); refine goesL_ (some 17) rfl rfl Try.func11 (by kernel_rfl) rfl #[.slice A1 l1.length c1] rfl (by (try simp only [List.map_toArray, List.map_cons, List.map_nil]); first | done | rfl | (simp only [List.length_drop, List.length_take]; rfl)) ?_; (with_reducible refine (proofmarklaw13_Great.calls _ _ l1 false _ ?side1 ?side2 A6.out).mono ?_); (case side1 => repeat (first | exact (Kd.C_below HR1.out HB.out) | (with_reducible refine Kd.C_alloc ?_ _) | (with_reducible refine Kd.C_drewN ?_ _) | (with_reducible refine Kd.C_drew ?_))); (case side2 => exact HC1.out); rintro e w' ⟨rfl, ⟨nd, rfl⟩⟩; refine ⟨_, rfl, ?_⟩; (try (rw [drewN_self w47]; generalize hq_ : World.drewN w47 _ = w47; have n0_ : Aside0 (Below w.heap.size w w47) := ⟨by rw [← hq_]; exact (by repeat (first | (with_reducible first | exact HB.out | apply below_alloc | apply pw_below_drewN | apply below_drew1) | exact HB.out))⟩; clear HB hq_; have HB := n0_; clear n0_))) | ((with_reducible refine gate_callee (f := 12) rfl ?_); refine goesL_ (some 22) rfl rfl Try.func12 (by kernel_rfl) rfl #[.int .u8 a0, .slice A1 l1.length c1] rfl (by (try simp only [List.map_toArray, List.map_cons, List.map_nil]); first | done | rfl | (simp only [List.length_drop, List.length_take]; rfl)) ?_; (with_reducible refine (proofmarklaw13_Made.calls k a0 _ _ l1 t334 t335 t338 _ ?side1 ?side2 A9.out).mono ?_); (case side1 => repeat (first | exact (Kd.C_below HR1.out HB.out) | (with_reducible refine Kd.C_alloc ?_ _) | (with_reducible refine Kd.C_drewN ?_ _) | (with_reducible refine Kd.C_drew ?_))); (case side2 => exact HC1.out); rintro e w48 ⟨v336, v339, rfl, ho0, ho1, hb⟩; refine ⟨_, rfl, ?_⟩; have n0_ := Aside0.mk (Kd.V_lower (Kd.V_mono (ok' := fun k_ => some k_ ≠ (v339 : Value).ownBlock) ho0 (fun k_ hk_ => hk_.2)) (below_size (by repeat (first | (with_reducible first | exact HB.out | apply below_alloc | apply pw_below_drewN | apply below_drew1) | exact HB.out)))); have n1_ := Aside0.mk (Kd.R_lower (Kd.R_mono (ok' := fun k_ => True) ho1 (fun _ hk_ => trivial)) (below_size (by repeat (first | (with_reducible first | exact HB.out | apply below_alloc | apply pw_below_drewN | apply below_drew1) | exact HB.out)))); have n2_ := Aside0.mk (below_step (by repeat (first | (with_reducible first | exact HB.out | apply below_alloc | apply pw_below_drewN | apply below_drew1) | exact HB.out)) hb); clear HB; have HO337 := n0_; have HO340 := n1_; have HB := n2_; clear n0_ n1_ n2_; (try clear hb); (try clear hb2); (try clear hk); (try clear hi); (try clear ho0); (try clear ho1)) | ((with_reducible refine gate_dst (N := 10) rfl ?_); (try (refine gate_guard (by rfl) ?_; dsimp only)); refine box_event ?hg (N := 10) ?hd (cs := #[.int .i64 0, .slice none 0 0]) (t := 28) ?hr ?_; (case hd => rfl); (case hg => rfl); (case hr => first | (go_simp; done) | (go_simp; rfl)); intro gb341 hg w49 hbox hb; have n0_ := Aside0.mk (Kd.V_below (Kd.V_elderB (by (with_reducible repeat (first | apply Kd.V_alloc | apply Kd.V_drewN | apply Kd.V_drew)); exact HO337.out) gb341 (Nat.le_of_eq hg.symm)) hb); have n1_ := Aside0.mk (Kd.R_below (by (with_reducible repeat (first | apply Kd.R_alloc | apply Kd.R_drewN | apply Kd.R_drew)); exact HO340.out) hb); have n2_ := Aside0.mk (below_step (by repeat (first | (with_reducible first | exact HB.out | apply below_alloc | apply pw_below_drewN | apply below_drew1) | exact HB.out)) hb); have n3_ := Aside0.mk (hbox); have n4_ := Aside0.mk ((by rw [hg]; exact (below_size (by repeat (first | (with_reducible first | exact HB.out | apply below_alloc | apply pw_below_drewN | apply below_drew1) | exact HB.out))) : w.heap.size ≤ gb341)); have n5_ := Aside0.mk ((by rw [hg]; exact (below_size (by repeat (first | (with_reducible first | exact HB.out | apply below_alloc | apply pw_below_drewN | apply below_drew1) | exact HB.out))) : w.heap.size ≤ gb341)); clear HO337; clear HO340; clear HB; have HO337 := n0_; have HO340 := n1_; have HB := n2_; have BK341 := n3_; have GW341 := n4_; have GE341 := n5_; clear n0_ n1_ n2_ n3_ n4_ n5_; clear hb hbox hg; have hcz50_0 : w49.cell? ⟨gb341, 0, none⟩ = some (.int .i64 0) := (blk_cell BK341.out 0).trans rfl; have hcz50_1 : w49.cell? ⟨gb341, 1, none⟩ = some (.slice none 0 0) := (blk_cell BK341.out 1).trans rfl; have hfz50_0 := blk_frozen BK341.out 0; have hfz50_1 := blk_frozen BK341.out 1; obtain ⟨Ao51, co51, eo51⟩ := Kd.V_slice HO337.out; subst eo51) | ((with_reducible refine gate_callee (f := 18) rfl ?_); refine goesL_ (some 35) rfl rfl Try.func18 (by kernel_rfl) rfl #[.agg #[.int .i64 t334, .slice Ao51 t335.length co51], .int .i64 (wrap64 (a2))] rfl (by (try simp only [List.map_toArray, List.map_cons, List.map_nil]); first | done | rfl | (simp only [List.length_drop, List.length_take]; rfl)) ?_; (with_reducible refine (cnf_Clauses.calls t334 _ _ t335 (wrap64 (a2)) t342 _ ?side1 ?side2 A11.out).mono ?_); (case side1 => refine (Kd.V_reads' (e := 49) (base := w.heap.size) (ok := fun k_ => (some k_ ≠ (v339 : Value).ownBlock ∧ k_ ≠ gb341)) (n := t335.length) (c := co51) ?_).2.2; exact (by (with_reducible repeat (first | apply Kd.V_alloc | apply Kd.V_drewN | apply Kd.V_drew)); exact (Kd.V_mono (Kd.V_far (p := ⟨gb341, 1, none⟩) (Kd.V_far (p := ⟨gb341, 0, none⟩) (Kd.V_mono HO337.out (fun k_ hk => (⟨hk, hk.2⟩ : _ ∧ k_ ≠ gb341))) (fun _ hk => hk.2) (.int .i64 t334)) (fun _ hk => hk.2) (.slice Ao51 t335.length co51)) (fun _ h_ => h_.1)))); (case side2 => exact (Kd.V_reads' HO337.out).2.1); rintro e w52 ⟨v343, rfl, ho0, hb⟩; refine ⟨_, rfl, ?_⟩; have n0_ := Aside0.mk (Kd.V_elder' (by (with_reducible repeat (first | apply Kd.V_alloc | apply Kd.V_drewN | apply Kd.V_drew)); exact (Kd.V_mono (Kd.V_far (p := ⟨gb341, 1, none⟩) (Kd.V_far (p := ⟨gb341, 0, none⟩) (Kd.V_mono HO337.out (fun k_ hk => (⟨hk, hk.2⟩ : _ ∧ k_ ≠ gb341))) (fun _ hk => hk.2) (.int .i64 t334)) (fun _ hk => hk.2) (.slice Ao51 t335.length co51)) (fun _ h_ => h_.1))) (Kd.N_base ho0) hb); have n1_ := Aside0.mk (Kd.R_below (by (with_reducible repeat (first | apply Kd.R_alloc | apply Kd.R_drewN | apply Kd.R_drew)); exact (Kd.R_mono (Kd.R_far (p := ⟨gb341, 1, none⟩) (Kd.R_far (p := ⟨gb341, 0, none⟩) (Kd.R_types HO340.out BK341.out (by decide)) (fun _ hk => hk.2) (.int .i64 t334)) (fun _ hk => hk.2) (.slice Ao51 t335.length co51)) (fun _ h_ => h_.1))) hb); have n2_ := Aside0.mk (Kd.N_lower (Kd.N_mono (ok' := fun k_ => some k_ ≠ (v339 : Value).ownBlock ∧ k_ ≠ gb341) ho0 (fun k_ hk_ => ⟨(Kd.fresh' (Kd.R_lt (by (with_reducible repeat (first | apply Kd.R_alloc | apply Kd.R_drewN | apply Kd.R_drew)); exact (Kd.R_mono (Kd.R_far (p := ⟨gb341, 1, none⟩) (Kd.R_far (p := ⟨gb341, 0, none⟩) (Kd.R_types HO340.out BK341.out (by decide)) (fun _ hk => hk.2) (.int .i64 t334)) (fun _ hk => hk.2) (.slice Ao51 t335.length co51)) (fun _ h_ => h_.1)))) k_ hk_), (Kd.freshB (g := gb341) (o := .cells #[.int .i64 t334, .slice Ao51 t335.length co51] 28 (0, 0)) (by (with_reducible repeat (first | refine blk_drewN ?_ _ | refine blk_drew ?_ | refine blk_alloc ?_ _)); refine blk_put (cs := #[.int .i64 t334, .slice none 0 0]) ?_ 1 _ rfl; (with_reducible repeat (first | refine blk_drewN ?_ _ | refine blk_drew ?_ | refine blk_alloc ?_ _)); refine blk_put (cs := #[.int .i64 0, .slice none 0 0]) ?_ 0 _ rfl; (with_reducible repeat (first | refine blk_drewN ?_ _ | refine blk_drew ?_ | refine blk_alloc ?_ _)); exact BK341.out) k_ hk_)⟩)) (below_size (by repeat (first | (with_reducible first | exact HB.out | apply below_alloc | apply pw_below_drewN | apply below_drew1 | refine below_set ?_ GE341.out) | exact HB.out)))); have n3_ := Aside0.mk (blk_below (g := gb341) (o := .cells #[.int .i64 t334, .slice Ao51 t335.length co51] 28 (0, 0)) (by (with_reducible repeat (first | refine blk_drewN ?_ _ | refine blk_drew ?_ | refine blk_alloc ?_ _)); refine blk_put (cs := #[.int .i64 t334, .slice none 0 0]) ?_ 1 _ rfl; (with_reducible repeat (first | refine blk_drewN ?_ _ | refine blk_drew ?_ | refine blk_alloc ?_ _)); refine blk_put (cs := #[.int .i64 0, .slice none 0 0]) ?_ 0 _ rfl; (with_reducible repeat (first | refine blk_drewN ?_ _ | refine blk_drew ?_ | refine blk_alloc ?_ _)); exact BK341.out) hb); have n4_ := Aside0.mk (below_step (by repeat (first | (with_reducible first | exact HB.out | apply below_alloc | apply pw_below_drewN | apply below_drew1 | refine below_set ?_ GE341.out) | exact HB.out)) hb); clear HO337; clear HO340; clear BK341; clear HB; have HO337 := n0_; have HO340 := n1_; have HO344 := n2_; have BK341 := n3_; have HB := n4_; clear n0_ n1_ n2_ n3_ n4_; (try clear hb); (try clear hb2); (try clear hk); (try clear hi); (try clear ho0)))
       have n0_ := Aside0.mk (Kd.V_drew HO337.out)
       have n1_ := Aside0.mk (Kd.R_drew HO340.out)
       have n2_ := Aside0.mk (Kd.N_drew HO344.out)
       have n3_ := Aside0.mk (blk_drew BK341.out)
       have n4_ := Aside0.mk (below_drew1 HB.out)
       clear HO337
       clear HO340
       clear HO344
       clear BK341
       clear HB
       have HO337 := n0_
       have HO340 := n1_
       have HO344 := n2_
       have BK341 := n3_
       have HB := n4_
       clear n0_ n1_ n2_ n3_ n4_
       have q54 : ((ji12) : Int) ≤ ((t335.length : Int) : Int) := of_decide_eq_true (by first | (with_reducible assumption) | assumption)
       obtain ⟨i054, hi054, _, hsz54, _⟩ := info_parts info49
       have hroom54 : t335.length ≤ co51 := (Kd.V_reads' HO337.out).2.1
       have hC54 : Kd.F k49 _ _ Ao51 t335.length t335 := (Kd.V_at (base := w.heap.size) HO337.out).2.2
       have hcut54 := cut_to (P := Try.prog) 26 49 .i64 Try.underlying26 hi054 Ao51 t335.length co51 (ji12) (of_decide_eq_true (by first | (with_reducible assumption) | assumption)) q54 hroom54
       have hr54 := Kd.F_take (m := ((ji12) : Int).toNat) hC54 (by omega)
       have hy54 : y345.length = ((ji12) : Int).toNat := (by rw [Ny345.out, List.length_take]; omega)
       rw [← Ny345.out] at hr54
       rw [← hy54] at hcut54
       have HO349 := Aside0.mk (show Kd.V k49 49 _ w.heap.size _ (.slice Ao51 y345.length co51) y345 from Kd.V_mk (by omega) hr54)
       have HC349 := Aside0.mk (show y345.length ≤ co51 from by omega)
       clear hr54 hC54 hroom54 hi054 hsz54
       have KY54 := Aside0.mk hy54
       clear hy54
       replace q54 := eq_true q54
       refine start_ (n := 11) (S := fun w' => w'.cell? ⟨gb341, 0, none⟩ = some (.int .i64 t334) ∧ w'.cell? ⟨gb341, 1, none⟩ = some (.slice Ao51 t335.length co51)) (ds := []) #[false, false, false, false, false, false, false, false, false, false, false] (by kernel_rfl) rfl rfl ⟨(blk_cell BK341.out 0).trans rfl, (blk_cell BK341.out 1).trans rfl⟩ (fun hHeld => ?_); refine with_tabW proofmarklaw17_CnfGrows.tab7 proofmarklaw17_CnfGrows.bits7 (fun HT_ HW_ => ?_)
       generalize w52.drew = w53 at HO337 HO340 HO344 BK341 HB HO349 hHeld ⊢
       refine pure_ (i := 0) (N := some 36) (v := ?_) (a' := ?_) #[true, false, false, false, false, false, false, false, false, false, false] rfl rfl (any_of HT_.out (by kernel_rfl)) (fun _ _ _ h => h) (Or.inl ⟨by rfl, ?_⟩) ?_ ?_
       rotate_left
       ·intro w'
        go_simp
        with_reducible rfl
       rotate_left
       ·simp only [Act.put, List.setIfInBounds_toArray, List.set_cons_zero, List.set_cons_succ, i64_w, i32_w]
        rfl
       refine pure_ (i := 2) (N := some 38) (v := ?_) (a' := ?_) #[true, false, true, false, false, false, false, false, false, false, false] rfl rfl (any_of HT_.out (by kernel_rfl)) (fun _ _ _ h => h) (Or.inl ⟨by rfl, ?_⟩) ?_ ?_
       rotate_left
       ·intro w'
        go_simp
        with_reducible rfl
       rotate_left
       ·simp only [Act.put, List.setIfInBounds_toArray, List.set_cons_zero, List.set_cons_succ, i64_w, i32_w]
        rfl
       refine pure_ (i := 4) (N := some 40) (v := ?_) (a' := ?_) #[true, false, true, false, true, false, false, false, false, false, false] rfl rfl (any_of HT_.out (by kernel_rfl)) (fun _ _ _ h => h) (Or.inl ⟨by rfl, ?_⟩) ?_ ?_
       rotate_left
       ·intro w'
        go_simp
        with_reducible rfl
       rotate_left
       ·simp only [Act.put, List.setIfInBounds_toArray, List.set_cons_zero, List.set_cons_succ, i64_w, i32_w]
        rfl
       refine pure_ (i := 7) (N := some 43) (v := ?_) (a' := ?_) #[true, false, true, false, true, false, false, true, false, false, false] rfl rfl (any_of HT_.out (by kernel_rfl)) (fun _ _ _ h => h) (Or.inl ⟨by rfl, ?_⟩) ?_ ?_
       rotate_left
       ·intro w'
        go_simp
        with_reducible rfl
       rotate_left
       ·simp only [Act.put, List.setIfInBounds_toArray, List.set_cons_zero, List.set_cons_succ, i64_w, i32_w]
        rfl
       refine pure_ (i := 8) (N := some 44) (v := ?_) (a' := ?_) #[true, false, true, false, true, false, false, true, true, false, false] rfl rfl (any_of HT_.out (by kernel_rfl)) (fun _ _ _ h => h) (Or.inl ⟨by rfl, ?_⟩) ?_ ?_
       rotate_left
       ·intro w'
        go_simp
        with_reducible rfl
       rotate_left
       ·simp only [Act.put, List.setIfInBounds_toArray, List.set_cons_zero, List.set_cons_succ, i64_w, i32_w]
        rfl
       refine take_ (i := 1) (N := some 37) (v := ?_) (a' := ?_) #[true, true, true, false, true, false, false, true, true, false, false] rfl rfl (take_ofW HT_.out HW_.out (by kernel_rfl)) (fun _ _ _ h => h) (Or.inl ⟨by rfl, ?_⟩) hHeld ?_ ?_
       rotate_left
       ·rintro w' ⟨s0, s1⟩
        go_simp
        with_reducible rfl
       rotate_left
       ·simp only [Act.put, List.setIfInBounds_toArray, List.set_cons_zero, List.set_cons_succ, i64_w, i32_w]
        rfl
       refine take_ (i := 3) (N := some 39) (v := ?_) (a' := ?_) #[true, true, true, true, true, false, false, true, true, false, false] rfl rfl (take_ofW HT_.out HW_.out (by kernel_rfl)) (fun _ _ _ h => h) (Or.inl ⟨by rfl, ?_⟩) hHeld ?_ ?_
       rotate_left
       ·rintro w' ⟨s0, s1⟩
        go_simp
        with_reducible rfl
       rotate_left
       ·simp only [Act.put, List.setIfInBounds_toArray, List.set_cons_zero, List.set_cons_succ, i64_w, i32_w]
        rfl
       refine pure_ (i := 5) (N := some 41) (v := ?_) (a' := ?_) #[true, true, true, true, true, true, false, true, true, false, false] rfl rfl (any_of HT_.out (by kernel_rfl)) (fun _ _ _ h => h) (Or.inl ⟨by rfl, ?_⟩) ?_ ?_
       rotate_left
       ·intro w'
        go_simp
        with_reducible rfl
       rotate_left
       ·simp only [Act.put, List.setIfInBounds_toArray, List.set_cons_zero, List.set_cons_succ, i64_w, i32_w]
        rfl
       refine pure_ (i := 6) (N := some 42) (v := ?_) (a' := ?_) #[true, true, true, true, true, true, true, true, true, false, false] rfl rfl (any_of HT_.out (by kernel_rfl)) (fun _ _ _ h => h) (Or.inl ⟨by rfl, ?_⟩) ?_ ?_
       rotate_left
       ·intro w'
        go_simp
        with_reducible rfl
       rotate_left
       ·simp only [Act.put, List.setIfInBounds_toArray, List.set_cons_zero, List.set_cons_succ, i64_w, i32_w]
        rfl
       refine one_ (i := 9) (N := some 45) #[true, true, true, true, true, true, true, true, true, true, false] rfl rfl (one_of HT_.out (by kernel_rfl)) (by decide) (fun K hK => ?_)
       refine goes_ Try.func18 (by kernel_rfl) rfl #[.agg #[.int .i64 t334, .slice Ao51 y345.length co51], .int .i64 (wrap64 (a2))] (by rfl) rfl rfl (by (try simp only [List.map_toArray, List.map_cons, List.map_nil]); first | done | rfl | (simp only [List.length_drop, List.length_take]; rfl)) ?_
       with_reducible refine (cnf_Clauses.calls t334 _ _ y345 (wrap64 (a2)) t350 _ ?side1 ?side2 A15.out).mono ?_
       (case side1 => repeat (first | exact (Kd.V_reads' HO349.out).2.2 | (with_reducible refine Kd.C_alloc ?_ _) | (with_reducible refine Kd.C_drewN ?_ _) | (with_reducible refine Kd.C_drew ?_)))
       (case side2 => exact (Kd.V_reads' HO349.out).2.1)
       rintro e w55 ⟨v351, rfl, ho0, hb⟩
       refine ⟨_, rfl, ?_⟩
       have n0_ := Aside0.mk (Kd.V_elder' (by (with_reducible repeat (first | apply Kd.V_alloc | apply Kd.V_drewN | apply Kd.V_drew)); exact HO337.out) (Kd.N_base ho0) hb)
       have n1_ := Aside0.mk (Kd.R_below (by (with_reducible repeat (first | apply Kd.R_alloc | apply Kd.R_drewN | apply Kd.R_drew)); exact HO340.out) hb)
       have n2_ := Aside0.mk (Kd.N_elder' (by (with_reducible repeat (first | apply Kd.N_alloc | apply Kd.N_drewN | apply Kd.N_drew)); exact HO344.out) (Kd.N_base ho0) hb)
       have n3_ := Aside0.mk (Kd.V_elder' (by (with_reducible repeat (first | apply Kd.V_alloc | apply Kd.V_drewN | apply Kd.V_drew)); exact HO349.out) (Kd.N_base ho0) hb)
       have n4_ := Aside0.mk (Kd.N_lower (Kd.N_mono (ok' := fun k_ => some k_ ≠ (v339 : Value).ownBlock ∧ some k_ ≠ (v343 : Value).ownBlock ∧ k_ ≠ gb341) ho0 (fun k_ hk_ => ⟨(Kd.fresh' (Kd.R_lt (by (with_reducible repeat (first | apply Kd.R_alloc | apply Kd.R_drewN | apply Kd.R_drew)); exact HO340.out)) k_ hk_), (Kd.fresh' (Kd.N_lt (by (with_reducible repeat (first | apply Kd.N_alloc | apply Kd.N_drewN | apply Kd.N_drew)); exact HO344.out)) k_ hk_), (Kd.freshB (g := gb341) (o := .cells #[.int .i64 t334, .slice Ao51 t335.length co51] 28 (0, 0)) (by (with_reducible repeat (first | refine blk_drewN ?_ _ | refine blk_drew ?_ | refine blk_alloc ?_ _)); exact BK341.out) k_ hk_)⟩)) (below_size (by repeat (first | (with_reducible first | exact HB.out | apply below_alloc | apply pw_below_drewN | apply below_drew1 | refine below_set ?_ GE341.out) | exact HB.out))))
       have n5_ := Aside0.mk (blk_below (g := gb341) (o := .cells #[.int .i64 t334, .slice Ao51 t335.length co51] 28 (0, 0)) (by (with_reducible repeat (first | refine blk_drewN ?_ _ | refine blk_drew ?_ | refine blk_alloc ?_ _)); exact BK341.out) hb)
       have n6_ := Aside0.mk (below_step (by repeat (first | (with_reducible first | exact HB.out | apply below_alloc | apply pw_below_drewN | apply below_drew1 | refine below_set ?_ GE341.out) | exact HB.out)) hb)
       clear HO337
       clear HO340
       clear HO344
       clear HO349
       clear BK341
       clear HB
       have HO337 := n0_
       have HO340 := n1_
       have HO344 := n2_
       have HO349 := n3_
       have HO352 := n4_
       have BK341 := n5_
       have HB := n6_
       clear n0_ n1_ n2_ n3_ n4_ n5_ n6_
       (try clear hb)
       (try clear hb2)
       (try clear hk)
       (try clear hi)
       (try clear ho0)
       refine hK.out _ _ ⟨(blk_cell BK341.out 0).trans rfl, (blk_cell BK341.out 1).trans rfl⟩ (fun hHeld => ?_)
       clear hK K
       refine norm_ (a' := ?_) ?_ ?_
       rotate_left
       ·show Act.put _ (some 45) _ = _
        simp only [Act.put, List.setIfInBounds_toArray, List.set_cons_zero, List.set_cons_succ, i64_w, i32_w]
        rfl
       refine pure_ (i := 10) (N := some 14) (v := ?_) (a' := ?_) #[true, true, true, true, true, true, true, true, true, true, true] rfl rfl (any_of HT_.out (by kernel_rfl)) (fun _ _ _ h => h) (Or.inl ⟨by rfl, ?_⟩) ?_ ?_
       rotate_left
       ·intro w'
        go_simp
        with_reducible rfl
       rotate_left
       ·simp only [Act.put, List.setIfInBounds_toArray, List.set_cons_zero, List.set_cons_succ, i64_w, i32_w]
        rfl
       refine done_ (done_of HT_.out (by kernel_rfl)) ?_
       obtain ⟨Ao56, co56, eo56⟩ := Kd.N_slice HO344.out
       subst eo56
       have hcz57_0 : w55.cell? ⟨gb341, 0, none⟩ = some (.int .i64 t334) := (blk_cell BK341.out 0).trans rfl
       have hcz57_1 : w55.cell? ⟨gb341, 1, none⟩ = some (.slice Ao51 t335.length co51) := (blk_cell BK341.out 1).trans rfl
       have hfz57_0 := blk_frozen BK341.out 0
       have hfz57_1 := blk_frozen BK341.out 1
       try go_wp2
       go_ret
       exact ⟨by first | rfl | (simp [errW_none, errW_some] <;> rfl) | (simp only [← hji12]; first | rfl | (simp [errW_none, errW_some] <;> rfl)) | (simp [*, errW_none, errW_some] <;> rfl), by repeat (first | (with_reducible first | exact HB.out | apply below_alloc | apply pw_below_drewN | apply below_drew1 | refine below_set ?_ GE341.out) | exact HB.out)⟩
     ·replace c16 := Bool.eq_false_iff.mpr c16
      subst c16
      have H1 : (some false) = some r := by rw [if_neg (show ¬ (false = true) by decide)] at H; exact H
      clear H
      have H := H1
      clear H1
      obtain rfl := Option.some.inj H
      go_enter Try.func6, Try.ntmps6
      try go_wp2_with (first | ((with_reducible refine gate_callee (f := 10) rfl ?_); refine goesL_ (some 15) rfl rfl Try.func10 (by kernel_rfl) rfl #[] rfl (by (try simp only [List.map_toArray, List.map_cons, List.map_nil]); first | done | rfl | (simp only [List.length_drop, List.length_take]; rfl)) ?_; (with_reducible refine (proofmarklaw17_head.calls k  false _ A5.out).mono ?_); rintro e w58 ⟨rfl, hb⟩; refine ⟨_, rfl, ?_⟩; have n0_ := Aside0.mk (below_step (by repeat (first | (with_reducible first | exact HB.out | apply below_alloc | apply pw_below_drewN | apply below_drew1) | exact HB.out)) hb); clear HB; have HB := n0_; clear n0_; (try clear hb); (try clear hb2); (try clear hk); (try clear hi)) | ((with_reducible refine gate_callee (f := 11) rfl ?_); refine goesL_ (some 17) rfl rfl Try.func11 (by kernel_rfl) rfl #[.slice A1 l1.length c1] rfl (by (try simp only [List.map_toArray, List.map_cons, List.map_nil]); first | done | rfl | (simp only [List.length_drop, List.length_take]; rfl)) ?_; (with_reducible refine (proofmarklaw13_Great.calls _ _ l1 false _ ?side1 ?side2 A6.out).mono ?_); (case side1 => repeat (first | exact (Kd.C_below HR1.out HB.out) | (with_reducible refine Kd.C_alloc ?_ _) | (with_reducible refine Kd.C_drewN ?_ _) | (with_reducible refine Kd.C_drew ?_))); (case side2 => exact HC1.out); rintro e w' ⟨rfl, ⟨nd, rfl⟩⟩; refine ⟨_, rfl, ?_⟩; (try (rw [drewN_self w58]; generalize hq_ : World.drewN w58 _ = w58; have n0_ : Aside0 (Below w.heap.size w w58) := ⟨by rw [← hq_]; exact (by repeat (first | (with_reducible first | exact HB.out | apply below_alloc | apply pw_below_drewN | apply below_drew1) | exact HB.out))⟩; clear HB hq_; have HB := n0_; clear n0_))) | ((with_reducible refine gate_callee (f := 12) rfl ?_); refine goesL_ (some 22) rfl rfl Try.func12 (by kernel_rfl) rfl #[.int .u8 a0, .slice A1 l1.length c1] rfl (by (try simp only [List.map_toArray, List.map_cons, List.map_nil]); first | done | rfl | (simp only [List.length_drop, List.length_take]; rfl)) ?_; (with_reducible refine (proofmarklaw13_Made.calls k a0 _ _ l1 t334 t335 t338 _ ?side1 ?side2 A9.out).mono ?_); (case side1 => repeat (first | exact (Kd.C_below HR1.out HB.out) | (with_reducible refine Kd.C_alloc ?_ _) | (with_reducible refine Kd.C_drewN ?_ _) | (with_reducible refine Kd.C_drew ?_))); (case side2 => exact HC1.out); rintro e w59 ⟨v336, v339, rfl, ho0, ho1, hb⟩; refine ⟨_, rfl, ?_⟩; have n0_ := Aside0.mk (Kd.V_lower (Kd.V_mono (ok' := fun k_ => some k_ ≠ (v339 : Value).ownBlock) ho0 (fun k_ hk_ => hk_.2)) (below_size (by repeat (first | (with_reducible first | exact HB.out | apply below_alloc | apply pw_below_drewN | apply below_drew1) | exact HB.out)))); have n1_ := Aside0.mk (Kd.R_lower (Kd.R_mono (ok' := fun k_ => True) ho1 (fun _ hk_ => trivial)) (below_size (by repeat (first | (with_reducible first | exact HB.out | apply below_alloc | apply pw_below_drewN | apply below_drew1) | exact HB.out)))); have n2_ := Aside0.mk (below_step (by repeat (first | (with_reducible first | exact HB.out | apply below_alloc | apply pw_below_drewN | apply below_drew1) | exact HB.out)) hb); clear HB; have HO337 := n0_; have HO340 := n1_; have HB := n2_; clear n0_ n1_ n2_; (try clear hb); (try clear hb2); (try clear hk); (try clear hi); (try clear ho0); (try clear ho1)) | ((with_reducible refine gate_dst (N := 10) rfl ?_); (try (refine gate_guard (by rfl) ?_; dsimp only)); refine box_event ?hg (N := 10) ?hd (cs := #[.int .i64 0, .slice none 0 0]) (t := 28) ?hr ?_; (case hd => rfl); (case hg => rfl); (case hr => first | (go_simp; done) | (go_simp; rfl)); intro gb341 hg w60 hbox hb; have n0_ := Aside0.mk (Kd.V_below (Kd.V_elderB (by (with_reducible repeat (first | apply Kd.V_alloc | apply Kd.V_drewN | apply Kd.V_drew)); exact HO337.out) gb341 (Nat.le_of_eq hg.symm)) hb); have n1_ := Aside0.mk (Kd.R_below (by (with_reducible repeat (first | apply Kd.R_alloc | apply Kd.R_drewN | apply Kd.R_drew)); exact HO340.out) hb); have n2_ := Aside0.mk (below_step (by repeat (first | (with_reducible first | exact HB.out | apply below_alloc | apply pw_below_drewN | apply below_drew1) | exact HB.out)) hb); have n3_ := Aside0.mk (hbox); have n4_ := Aside0.mk ((by rw [hg]; exact (below_size (by repeat (first | (with_reducible first | exact HB.out | apply below_alloc | apply pw_below_drewN | apply below_drew1) | exact HB.out))) : w.heap.size ≤ gb341)); have n5_ := Aside0.mk ((by rw [hg]; exact (below_size (by repeat (first | (with_reducible first | exact HB.out | apply below_alloc | apply pw_below_drewN | apply below_drew1) | exact HB.out))) : w.heap.size ≤ gb341)); clear HO337; clear HO340; clear HB; have HO337 := n0_; have HO340 := n1_; have HB := n2_; have BK341 := n3_; have GW341 := n4_; have GE341 := n5_; clear n0_ n1_ n2_ n3_ n4_ n5_; clear hb hbox hg; have hcz61_0 : w60.cell? ⟨gb341, 0, none⟩ = some (.int .i64 0) := (blk_cell BK341.out 0).trans rfl; have hcz61_1 : w60.cell? ⟨gb341, 1, none⟩ = some (.slice none 0 0) := (blk_cell BK341.out 1).trans rfl; have hfz61_0 := blk_frozen BK341.out 0; have hfz61_1 := blk_frozen BK341.out 1; obtain ⟨Ao62, co62, eo62⟩ := Kd.V_slice HO337.out; subst eo62) | ((with_reducible refine gate_callee (f := 18) rfl ?_); refine goesL_ (some 35) rfl rfl Try.func18 (by kernel_rfl) rfl #[.agg #[.int .i64 t334, .slice Ao62 t335.length co62], .int .i64 (wrap64 (a2))] rfl (by (try simp only [List.map_toArray, List.map_cons, List.map_nil]); first | done | rfl | (simp only [List.length_drop, List.length_take]; rfl)) ?_; (with_reducible refine (cnf_Clauses.calls t334 _ _ t335 (wrap64 (a2)) t342 _ ?side1 ?side2 A11.out).mono ?_); (case side1 => refine (Kd.V_reads' (e := 49) (base := w.heap.size) (ok := fun k_ => (some k_ ≠ (v339 : Value).ownBlock ∧ k_ ≠ gb341)) (n := t335.length) (c := co62) ?_).2.2; exact (by (with_reducible repeat (first | apply Kd.V_alloc | apply Kd.V_drewN | apply Kd.V_drew)); exact (Kd.V_mono (Kd.V_far (p := ⟨gb341, 1, none⟩) (Kd.V_far (p := ⟨gb341, 0, none⟩) (Kd.V_mono HO337.out (fun k_ hk => (⟨hk, hk.2⟩ : _ ∧ k_ ≠ gb341))) (fun _ hk => hk.2) (.int .i64 t334)) (fun _ hk => hk.2) (.slice Ao62 t335.length co62)) (fun _ h_ => h_.1)))); (case side2 => exact (Kd.V_reads' HO337.out).2.1); rintro e w63 ⟨v343, rfl, ho0, hb⟩; refine ⟨_, rfl, ?_⟩; have n0_ := Aside0.mk (Kd.V_elder' (by (with_reducible repeat (first | apply Kd.V_alloc | apply Kd.V_drewN | apply Kd.V_drew)); exact (Kd.V_mono (Kd.V_far (p := ⟨gb341, 1, none⟩) (Kd.V_far (p := ⟨gb341, 0, none⟩) (Kd.V_mono HO337.out (fun k_ hk => (⟨hk, hk.2⟩ : _ ∧ k_ ≠ gb341))) (fun _ hk => hk.2) (.int .i64 t334)) (fun _ hk => hk.2) (.slice Ao62 t335.length co62)) (fun _ h_ => h_.1))) (Kd.N_base ho0) hb); have n1_ := Aside0.mk (Kd.R_below (by (with_reducible repeat (first | apply Kd.R_alloc | apply Kd.R_drewN | apply Kd.R_drew)); exact (Kd.R_mono (Kd.R_far (p := ⟨gb341, 1, none⟩) (Kd.R_far (p := ⟨gb341, 0, none⟩) (Kd.R_types HO340.out BK341.out (by decide)) (fun _ hk => hk.2) (.int .i64 t334)) (fun _ hk => hk.2) (.slice Ao62 t335.length co62)) (fun _ h_ => h_.1))) hb); have n2_ := Aside0.mk (Kd.N_lower (Kd.N_mono (ok' := fun k_ => some k_ ≠ (v339 : Value).ownBlock ∧ k_ ≠ gb341) ho0 (fun k_ hk_ => ⟨(Kd.fresh' (Kd.R_lt (by (with_reducible repeat (first | apply Kd.R_alloc | apply Kd.R_drewN | apply Kd.R_drew)); exact (Kd.R_mono (Kd.R_far (p := ⟨gb341, 1, none⟩) (Kd.R_far (p := ⟨gb341, 0, none⟩) (Kd.R_types HO340.out BK341.out (by decide)) (fun _ hk => hk.2) (.int .i64 t334)) (fun _ hk => hk.2) (.slice Ao62 t335.length co62)) (fun _ h_ => h_.1)))) k_ hk_), (Kd.freshB (g := gb341) (o := .cells #[.int .i64 t334, .slice Ao62 t335.length co62] 28 (0, 0)) (by (with_reducible repeat (first | refine blk_drewN ?_ _ | refine blk_drew ?_ | refine blk_alloc ?_ _)); refine blk_put (cs := #[.int .i64 t334, .slice none 0 0]) ?_ 1 _ rfl; (with_reducible repeat (first | refine blk_drewN ?_ _ | refine blk_drew ?_ | refine blk_alloc ?_ _)); refine blk_put (cs := #[.int .i64 0, .slice none 0 0]) ?_ 0 _ rfl; (with_reducible repeat (first | refine blk_drewN ?_ _ | refine blk_drew ?_ | refine blk_alloc ?_ _)); exact BK341.out) k_ hk_)⟩)) (below_size (by repeat (first | (with_reducible first | exact HB.out | apply below_alloc | apply pw_below_drewN | apply below_drew1 | refine below_set ?_ GE341.out) | exact HB.out)))); have n3_ := Aside0.mk (blk_below (g := gb341) (o := .cells #[.int .i64 t334, .slice Ao62 t335.length co62] 28 (0, 0)) (by (with_reducible repeat (first | refine blk_drewN ?_ _ | refine blk_drew ?_ | refine blk_alloc ?_ _)); refine blk_put (cs := #[.int .i64 t334, .slice none 0 0]) ?_ 1 _ rfl; (with_reducible repeat (first | refine blk_drewN ?_ _ | refine blk_drew ?_ | refine blk_alloc ?_ _)); refine blk_put (cs := #[.int .i64 0, .slice none 0 0]) ?_ 0 _ rfl; (with_reducible repeat (first | refine blk_drewN ?_ _ | refine blk_drew ?_ | refine blk_alloc ?_ _)); exact BK341.out) hb); have n4_ := Aside0.mk (below_step (by repeat (first | (with_reducible first | exact HB.out | apply below_alloc | apply pw_below_drewN | apply below_drew1 | refine below_set ?_ GE341.out) | exact HB.out)) hb); clear HO337; clear HO340; clear BK341; clear HB; have HO337 := n0_; have HO340 := n1_; have HO344 := n2_; have BK341 := n3_; have HB := n4_; clear n0_ n1_ n2_ n3_ n4_; (try clear hb); (try clear hb2); (try clear hk); (try clear hi); (try clear ho0)))
      have n0_ := Aside0.mk (Kd.V_drew HO337.out)
      have n1_ := Aside0.mk (Kd.R_drew HO340.out)
      have n2_ := Aside0.mk (Kd.N_drew HO344.out)
      have n3_ := Aside0.mk (blk_drew BK341.out)
      have n4_ := Aside0.mk (below_drew1 HB.out)
      clear HO337
      clear HO340
      clear HO344
      clear BK341
      clear HB
      have HO337 := n0_
      have HO340 := n1_
      have HO344 := n2_
      have BK341 := n3_
      have HB := n4_
      clear n0_ n1_ n2_ n3_ n4_
      have q65 : ((ji12) : Int) ≤ ((t335.length : Int) : Int) := of_decide_eq_true (by first | (with_reducible assumption) | assumption)
      obtain ⟨i065, hi065, _, hsz65, _⟩ := info_parts info49
      have hroom65 : t335.length ≤ co62 := (Kd.V_reads' HO337.out).2.1
      have hC65 : Kd.F k49 _ _ Ao62 t335.length t335 := (Kd.V_at (base := w.heap.size) HO337.out).2.2
      have hcut65 := cut_to (P := Try.prog) 26 49 .i64 Try.underlying26 hi065 Ao62 t335.length co62 (ji12) (of_decide_eq_true (by first | (with_reducible assumption) | assumption)) q65 hroom65
      have hr65 := Kd.F_take (m := ((ji12) : Int).toNat) hC65 (by omega)
      have hy65 : y345.length = ((ji12) : Int).toNat := (by rw [Ny345.out, List.length_take]; omega)
      rw [← Ny345.out] at hr65
      rw [← hy65] at hcut65
      have HO349 := Aside0.mk (show Kd.V k49 49 _ w.heap.size _ (.slice Ao62 y345.length co62) y345 from Kd.V_mk (by omega) hr65)
      have HC349 := Aside0.mk (show y345.length ≤ co62 from by omega)
      clear hr65 hC65 hroom65 hi065 hsz65
      have KY65 := Aside0.mk hy65
      clear hy65
      replace q65 := eq_true q65
      refine start_ (n := 11) (S := fun w' => w'.cell? ⟨gb341, 0, none⟩ = some (.int .i64 t334) ∧ w'.cell? ⟨gb341, 1, none⟩ = some (.slice Ao62 t335.length co62)) (ds := []) #[false, false, false, false, false, false, false, false, false, false, false] (by kernel_rfl) rfl rfl ⟨(blk_cell BK341.out 0).trans rfl, (blk_cell BK341.out 1).trans rfl⟩ (fun hHeld => ?_); refine with_tabW proofmarklaw17_CnfGrows.tab7 proofmarklaw17_CnfGrows.bits7 (fun HT_ HW_ => ?_)
      generalize w63.drew = w64 at HO337 HO340 HO344 BK341 HB HO349 hHeld ⊢
      refine pure_ (i := 0) (N := some 36) (v := ?_) (a' := ?_) #[true, false, false, false, false, false, false, false, false, false, false] rfl rfl (any_of HT_.out (by kernel_rfl)) (fun _ _ _ h => h) (Or.inl ⟨by rfl, ?_⟩) ?_ ?_
      rotate_left
      ·intro w'
       go_simp
       with_reducible rfl
      rotate_left
      ·simp only [Act.put, List.setIfInBounds_toArray, List.set_cons_zero, List.set_cons_succ, i64_w, i32_w]
       rfl
      refine pure_ (i := 2) (N := some 38) (v := ?_) (a' := ?_) #[true, false, true, false, false, false, false, false, false, false, false] rfl rfl (any_of HT_.out (by kernel_rfl)) (fun _ _ _ h => h) (Or.inl ⟨by rfl, ?_⟩) ?_ ?_
      rotate_left
      ·intro w'
       go_simp
       with_reducible rfl
      rotate_left
      ·simp only [Act.put, List.setIfInBounds_toArray, List.set_cons_zero, List.set_cons_succ, i64_w, i32_w]
       rfl
      refine pure_ (i := 4) (N := some 40) (v := ?_) (a' := ?_) #[true, false, true, false, true, false, false, false, false, false, false] rfl rfl (any_of HT_.out (by kernel_rfl)) (fun _ _ _ h => h) (Or.inl ⟨by rfl, ?_⟩) ?_ ?_
      rotate_left
      ·intro w'
       go_simp
       with_reducible rfl
      rotate_left
      ·simp only [Act.put, List.setIfInBounds_toArray, List.set_cons_zero, List.set_cons_succ, i64_w, i32_w]
       rfl
      refine pure_ (i := 7) (N := some 43) (v := ?_) (a' := ?_) #[true, false, true, false, true, false, false, true, false, false, false] rfl rfl (any_of HT_.out (by kernel_rfl)) (fun _ _ _ h => h) (Or.inl ⟨by rfl, ?_⟩) ?_ ?_
      rotate_left
      ·intro w'
       go_simp
       with_reducible rfl
      rotate_left
      ·simp only [Act.put, List.setIfInBounds_toArray, List.set_cons_zero, List.set_cons_succ, i64_w, i32_w]
       rfl
      refine pure_ (i := 8) (N := some 44) (v := ?_) (a' := ?_) #[true, false, true, false, true, false, false, true, true, false, false] rfl rfl (any_of HT_.out (by kernel_rfl)) (fun _ _ _ h => h) (Or.inl ⟨by rfl, ?_⟩) ?_ ?_
      rotate_left
      ·intro w'
       go_simp
       with_reducible rfl
      rotate_left
      ·simp only [Act.put, List.setIfInBounds_toArray, List.set_cons_zero, List.set_cons_succ, i64_w, i32_w]
       rfl
      refine take_ (i := 1) (N := some 37) (v := ?_) (a' := ?_) #[true, true, true, false, true, false, false, true, true, false, false] rfl rfl (take_ofW HT_.out HW_.out (by kernel_rfl)) (fun _ _ _ h => h) (Or.inl ⟨by rfl, ?_⟩) hHeld ?_ ?_
      rotate_left
      ·rintro w' ⟨s0, s1⟩
       go_simp
       with_reducible rfl
      rotate_left
      ·simp only [Act.put, List.setIfInBounds_toArray, List.set_cons_zero, List.set_cons_succ, i64_w, i32_w]
       rfl
      refine take_ (i := 3) (N := some 39) (v := ?_) (a' := ?_) #[true, true, true, true, true, false, false, true, true, false, false] rfl rfl (take_ofW HT_.out HW_.out (by kernel_rfl)) (fun _ _ _ h => h) (Or.inl ⟨by rfl, ?_⟩) hHeld ?_ ?_
      rotate_left
      ·rintro w' ⟨s0, s1⟩
       go_simp
       with_reducible rfl
      rotate_left
      ·simp only [Act.put, List.setIfInBounds_toArray, List.set_cons_zero, List.set_cons_succ, i64_w, i32_w]
       rfl
      refine pure_ (i := 5) (N := some 41) (v := ?_) (a' := ?_) #[true, true, true, true, true, true, false, true, true, false, false] rfl rfl (any_of HT_.out (by kernel_rfl)) (fun _ _ _ h => h) (Or.inl ⟨by rfl, ?_⟩) ?_ ?_
      rotate_left
      ·intro w'
       go_simp
       with_reducible rfl
      rotate_left
      ·simp only [Act.put, List.setIfInBounds_toArray, List.set_cons_zero, List.set_cons_succ, i64_w, i32_w]
       rfl
      refine pure_ (i := 6) (N := some 42) (v := ?_) (a' := ?_) #[true, true, true, true, true, true, true, true, true, false, false] rfl rfl (any_of HT_.out (by kernel_rfl)) (fun _ _ _ h => h) (Or.inl ⟨by rfl, ?_⟩) ?_ ?_
      rotate_left
      ·intro w'
       go_simp
       with_reducible rfl
      rotate_left
      ·simp only [Act.put, List.setIfInBounds_toArray, List.set_cons_zero, List.set_cons_succ, i64_w, i32_w]
       rfl
      refine one_ (i := 9) (N := some 45) #[true, true, true, true, true, true, true, true, true, true, false] rfl rfl (one_of HT_.out (by kernel_rfl)) (by decide) (fun K hK => ?_)
      refine goes_ Try.func18 (by kernel_rfl) rfl #[.agg #[.int .i64 t334, .slice Ao62 y345.length co62], .int .i64 (wrap64 (a2))] (by rfl) rfl rfl (by (try simp only [List.map_toArray, List.map_cons, List.map_nil]); first | done | rfl | (simp only [List.length_drop, List.length_take]; rfl)) ?_
      with_reducible refine (cnf_Clauses.calls t334 _ _ y345 (wrap64 (a2)) t350 _ ?side1 ?side2 A15.out).mono ?_
      (case side1 => repeat (first | exact (Kd.V_reads' HO349.out).2.2 | (with_reducible refine Kd.C_alloc ?_ _) | (with_reducible refine Kd.C_drewN ?_ _) | (with_reducible refine Kd.C_drew ?_)))
      (case side2 => exact (Kd.V_reads' HO349.out).2.1)
      rintro e w66 ⟨v351, rfl, ho0, hb⟩
      refine ⟨_, rfl, ?_⟩
      have n0_ := Aside0.mk (Kd.V_elder' (by (with_reducible repeat (first | apply Kd.V_alloc | apply Kd.V_drewN | apply Kd.V_drew)); exact HO337.out) (Kd.N_base ho0) hb)
      have n1_ := Aside0.mk (Kd.R_below (by (with_reducible repeat (first | apply Kd.R_alloc | apply Kd.R_drewN | apply Kd.R_drew)); exact HO340.out) hb)
      have n2_ := Aside0.mk (Kd.N_elder' (by (with_reducible repeat (first | apply Kd.N_alloc | apply Kd.N_drewN | apply Kd.N_drew)); exact HO344.out) (Kd.N_base ho0) hb)
      have n3_ := Aside0.mk (Kd.V_elder' (by (with_reducible repeat (first | apply Kd.V_alloc | apply Kd.V_drewN | apply Kd.V_drew)); exact HO349.out) (Kd.N_base ho0) hb)
      have n4_ := Aside0.mk (Kd.N_lower (Kd.N_mono (ok' := fun k_ => some k_ ≠ (v339 : Value).ownBlock ∧ some k_ ≠ (v343 : Value).ownBlock ∧ k_ ≠ gb341) ho0 (fun k_ hk_ => ⟨(Kd.fresh' (Kd.R_lt (by (with_reducible repeat (first | apply Kd.R_alloc | apply Kd.R_drewN | apply Kd.R_drew)); exact HO340.out)) k_ hk_), (Kd.fresh' (Kd.N_lt (by (with_reducible repeat (first | apply Kd.N_alloc | apply Kd.N_drewN | apply Kd.N_drew)); exact HO344.out)) k_ hk_), (Kd.freshB (g := gb341) (o := .cells #[.int .i64 t334, .slice Ao62 t335.length co62] 28 (0, 0)) (by (with_reducible repeat (first | refine blk_drewN ?_ _ | refine blk_drew ?_ | refine blk_alloc ?_ _)); exact BK341.out) k_ hk_)⟩)) (below_size (by repeat (first | (with_reducible first | exact HB.out | apply below_alloc | apply pw_below_drewN | apply below_drew1 | refine below_set ?_ GE341.out) | exact HB.out))))
      have n5_ := Aside0.mk (blk_below (g := gb341) (o := .cells #[.int .i64 t334, .slice Ao62 t335.length co62] 28 (0, 0)) (by (with_reducible repeat (first | refine blk_drewN ?_ _ | refine blk_drew ?_ | refine blk_alloc ?_ _)); exact BK341.out) hb)
      have n6_ := Aside0.mk (below_step (by repeat (first | (with_reducible first | exact HB.out | apply below_alloc | apply pw_below_drewN | apply below_drew1 | refine below_set ?_ GE341.out) | exact HB.out)) hb)
      clear HO337
      clear HO340
      clear HO344
      clear HO349
      clear BK341
      clear HB
      have HO337 := n0_
      have HO340 := n1_
      have HO344 := n2_
      have HO349 := n3_
      have HO352 := n4_
      have BK341 := n5_
      have HB := n6_
      clear n0_ n1_ n2_ n3_ n4_ n5_ n6_
      (try clear hb)
      (try clear hb2)
      (try clear hk)
      (try clear hi)
      (try clear ho0)
      refine hK.out _ _ ⟨(blk_cell BK341.out 0).trans rfl, (blk_cell BK341.out 1).trans rfl⟩ (fun hHeld => ?_)
      clear hK K
      refine norm_ (a' := ?_) ?_ ?_
      rotate_left
      ·show Act.put _ (some 45) _ = _
       simp only [Act.put, List.setIfInBounds_toArray, List.set_cons_zero, List.set_cons_succ, i64_w, i32_w]
       rfl
      refine pure_ (i := 10) (N := some 14) (v := ?_) (a' := ?_) #[true, true, true, true, true, true, true, true, true, true, true] rfl rfl (any_of HT_.out (by kernel_rfl)) (fun _ _ _ h => h) (Or.inl ⟨by rfl, ?_⟩) ?_ ?_
      rotate_left
      ·intro w'
       go_simp
       with_reducible rfl
      rotate_left
      ·simp only [Act.put, List.setIfInBounds_toArray, List.set_cons_zero, List.set_cons_succ, i64_w, i32_w]
       rfl
      refine done_ (done_of HT_.out (by kernel_rfl)) ?_
      try go_wp2
      go_ret
      exact ⟨by first | rfl | (simp [errW_none, errW_some] <;> rfl) | (simp only [← hji12]; first | rfl | (simp [errW_none, errW_some] <;> rfl)) | (simp [*, errW_none, errW_some] <;> rfl), by repeat (first | (with_reducible first | exact HB.out | apply below_alloc | apply pw_below_drewN | apply below_drew1 | refine below_set ?_ GE341.out) | exact HB.out)⟩
    ·rw [if_neg c14] at H
     exact absurd H (by simp)
   ·rw [if_neg c13] at H
    exact absurd H (by simp)

end Go.Proofs.Ytdfbnlmjnollnaa.Xb
