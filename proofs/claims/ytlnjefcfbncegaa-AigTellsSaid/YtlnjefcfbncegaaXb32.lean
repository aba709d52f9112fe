/- Slimmed by this session: what nothing names is struck out. -/
import Derived.Test.YtlnjefcfbncegaaXb0
import Derived.Test.YtlnjefcfbncegaaXb5
import Derived.Test.YtlnjefcfbncegaaXb8
import Derived.Test.YtlnjefcfbncegaaXbM
import Derived.Test.YtlnjefcfbncegaaXb16
import Derived.Test.YtlnjefcfbncegaaXb17
import Derived.Test.YtlnjefcfbncegaaXb19
import Derived.Test.YtlnjefcfbncegaaXb20
import Derived.Test.YtlnjefcfbncegaaXb21
import Derived.Test.YtlnjefcfbncegaaXb23
import Derived.Test.YtlnjefcfbncegaaXb24
import Derived.Test.YtlnjefcfbncegaaXb25
import Derived.Test.YtlnjefcfbncegaaXb26
import Derived.Test.YtlnjefcfbncegaaXb27
import Derived.Test.YtlnjefcfbncegaaXb28
import Derived.Test.YtlnjefcfbncegaaXb29
import Derived.Test.YtlnjefcfbncegaaXb30
import Derived.Test.YtlnjefcfbncegaaXb31
namespace Go.Proofs.Ytlnjefcfbncegaa.Xb
open Go.RowKit Go.Proofs.YtlnjefcfbncegaaW.PrintWords Go.Proofs.YtlnjefcfbncegaaW.PrintLast Go.Proofs.YtlnjefcfbncegaaW.PrintMore
attribute [local go_sem] max2_int min2_int max_two min_two max_three min_three max_four min_four
set_option linter.unusedVariables false
set_option linter.unusedSimpArgs false
abbrev b1_32 := @blk_drewN
abbrev b2_32 := @blk_alloc
abbrev b3_32 := @blk_drew
abbrev b4_32 := @below_set
abbrev aM_32 := @Aside0.mk
abbrev v1_32 := @Kd.V_alloc
abbrev v2_32 := @Kd.V_drewN
abbrev v3_32 := @Kd.V_drew
abbrev r1_32 := @Kd.R_alloc
abbrev r2_32 := @Kd.R_drewN
abbrev r3_32 := @Kd.R_drew
abbrev b5_32 := @blk_below
abbrev v4_32 := @Kd.V_mono
abbrev v5_32 := @Kd.V_far
abbrev b6_32 := @pw_below_drewN
abbrev b7_32 := @below_drew1
abbrev b8_32 := @below_alloc
abbrev b9_32 := @below_step
abbrev b0_32 := @below_size
abbrev c1_32 := @blk_put
abbrev c2_32 := @blk_far
abbrev c3_32 := @Kd.C_alloc
abbrev c4_32 := @Kd.C_drewN
abbrev c5_32 := @Kd.C_drew
abbrev v6_32 := @Kd.V_below
abbrev r4_32 := @Kd.R_below
abbrev l1_32 := @List.setIfInBounds_toArray
abbrev l2_32 := @List.set_cons_zero
abbrev l3_32 := @List.set_cons_succ
abbrev v8_32 := @Kd.V_lower
abbrev f1_32 := @Kd.freshB
theorem cells2_32 {w : World} {g : Nat} {t : TypeId} {x0 x1 : Value} (h : w.heap[g]? = some (.cells #[x0, x1] t (0, 0))) : w.cell? ⟨g, 0, none⟩ = some x0 ∧ w.cell? ⟨g, 1, none⟩ = some x1 ∧ w.frozen? ⟨g, 0, none⟩ = false ∧ w.frozen? ⟨g, 1, none⟩ = false := ⟨(blk_cell h 0).trans rfl, (blk_cell h 1).trans rfl, blk_frozen h 0, blk_frozen h 1⟩
theorem cells4_32 {w : World} {g : Nat} {t : TypeId} {x0 x1 x2 x3 : Value} (h : w.heap[g]? = some (.cells #[x0, x1, x2, x3] t (0, 0))) : w.cell? ⟨g, 0, none⟩ = some x0 ∧ w.cell? ⟨g, 1, none⟩ = some x1 ∧ w.cell? ⟨g, 2, none⟩ = some x2 ∧ w.cell? ⟨g, 3, none⟩ = some x3 ∧ w.frozen? ⟨g, 0, none⟩ = false ∧ w.frozen? ⟨g, 1, none⟩ = false ∧ w.frozen? ⟨g, 2, none⟩ = false ∧ w.frozen? ⟨g, 3, none⟩ = false := ⟨(blk_cell h 0).trans rfl, (blk_cell h 1).trans rfl, (blk_cell h 2).trans rfl, (blk_cell h 3).trans rfl, blk_frozen h 0, blk_frozen h 1, blk_frozen h 2, blk_frozen h 3⟩
mutual
def proofmarklaw13_AigTells.j0 : Nat → Int → List (S28) → List Bool → Bool → Bool → Int → List (S50) → Int → Int → Int → Int → Option (Bool)
 | 0, _, _, _, _, _, _, _, _, _, _, _ => none
 | k + 1, x1, x2, x4, x11, x38, x362000, x362001, x363000, x363001, x363002, x363003 => if x38 = true then (if x11 = true then ((proofmarklaw13_Great.f x2).bind fun t367 => (if t367 = true then (some true) else (some (decide ((x362001.length : Int) > 100))))) else (none)) else ((proofmarklaw13_Made.f k x1 x2).bind fun bt368 => ((proofmarklaw13_literal.f bt368.1 bt368.2.1 x363001).bind fun t376 => ((proofmarklaw13_literal.f bt368.1 bt368.2.1 x363002).bind fun t377 => ((proofmarklaw13_literal.f bt368.1 bt368.2.1 x363003).bind fun t378 => ((aig_And.f k bt368.1 bt368.2.1 t376 t377).bind fun bt379 => ((proofmarkref13_And.f k bt368.1 bt368.2.1 t376 t377).bind fun bt385 => ((proofmarkref13_Same.f k bt379.1 bt379.2.1 bt385.1 bt385.2.1).bind fun t391 => (if t391 = true then (proofmarklaw13_AigTells.j1 k x1 x4 x11 t376 t377 t378 (bt379.2.2 != bt385.2.2) bt368.1 bt368.2.1) else (proofmarklaw13_AigTells.j1 k x1 x4 x11 t376 t377 t378 true bt368.1 bt368.2.1)))))))))
def proofmarklaw13_AigTells.j1 : Nat → Int → List Bool → Bool → Int → Int → Int → Bool → Int → List (S50) → Option (Bool)
 | 0, _, _, _, _, _, _, _, _, _ => none
 | k + 1, x1, x4, x11, x14, x15, x16, x90, x376000, x376001 => if x90 = true then (none) else ((aig_Or.f k x376000 x376001 x14 x15).bind fun bt392 => ((proofmarkref13_Or.f k x376000 x376001 x14 x15).bind fun bt397 => ((proofmarkref13_Same.f k bt392.1 bt392.2.1 bt397.1 bt397.2.1).bind fun t402 => (if t402 = true then (proofmarklaw13_AigTells.j2 k x1 x4 x11 x14 x15 x16 (bt392.2.2 != bt397.2.2) x376000 x376001) else (proofmarklaw13_AigTells.j2 k x1 x4 x11 x14 x15 x16 true x376000 x376001)))))
def proofmarklaw13_AigTells.j2 : Nat → Int → List Bool → Bool → Int → Int → Int → Bool → Int → List (S50) → Option (Bool)
 | 0, _, _, _, _, _, _, _, _, _ => none
 | k + 1, x1, x4, x11, x14, x15, x16, x113, x376000, x376001 => if x113 = true then (none) else ((aig_Xor.f k x376000 x376001 x14 x15).bind fun bt403 => ((proofmarkref13_Xor.f k x376000 x376001 x14 x15).bind fun bt408 => ((proofmarkref13_Same.f k bt403.1 bt403.2.1 bt408.1 bt408.2.1).bind fun t413 => (if t413 = true then (proofmarklaw13_AigTells.j3 k x1 x4 x11 x14 x15 x16 (bt403.2.2 != bt408.2.2) x376000 x376001) else (proofmarklaw13_AigTells.j3 k x1 x4 x11 x14 x15 x16 true x376000 x376001)))))
def proofmarklaw13_AigTells.j3 : Nat → Int → List Bool → Bool → Int → Int → Int → Bool → Int → List (S50) → Option (Bool)
 | 0, _, _, _, _, _, _, _, _, _ => none
 | k + 1, x1, x4, x11, x14, x15, x16, x136, x376000, x376001 => if x136 = true then (none) else ((aig_Mux.f k x376000 x376001 x14 x15 x16).bind fun bt414 => ((proofmarkref13_Mux.f k x376000 x376001 x14 x15 x16).bind fun bt419 => ((proofmarklaw13_Bits.f k x376000 x376001 x4).bind fun t424 => ((aig_Eval.f k x376000 x376001 t424).bind fun t427 => ((proofmarklaw13_Bits.f k x376000 x376001 x4).bind fun t430 => ((proofmarkref13_Eval.f k x376000 x376001 t430).bind fun t433 => (if x11 = true then ((proofmarkref13_Same.f k bt414.1 bt414.2.1 bt419.1 bt419.2.1).bind fun t436 => (if t436 = true then (if bt414.2.2 = bt419.2.2 then ((proofmarkref08_Same.f k t427 t433).bind fun t437 => (if t437 = true then ((aig_Lit.f t433 x14).bind fun t438 => ((proofmarkref13_Lit.f t433 x14).bind fun t439 => (if (t438 == t439) = true then ((aig_New.f (wrap64 (x1))).bind fun bt440 => ((proofmarkref13_New.f (wrap64 (x1))).bind fun bt444 => ((proofmarkref13_Same.f k bt440.1 bt440.2 bt444.1 bt444.2).bind fun t448 => (some t448)))) else (none)))) else (none))) else (none)) else (none))) else (none))))))))
end
def proofmarklaw13_AigTells.f (k : Nat) (a0_0 : Int) (l0_1 : List (S50)) (a1 : Int) (l2 : List (S28)) (a3_0 : Int) (a3_1 : Int) (a3_2 : Int) (a3_3 : Int) (l4 : List Bool) : Option (Bool) := (proofmarklaw13_head.f k).bind fun t363 => ((proofmarklaw13_Great.f l2).bind fun t364 => (if t364 = true then (proofmarklaw13_AigTells.j0 k a1 l2 l4 t363 true a0_0 l0_1 a3_0 a3_1 a3_2 a3_3) else (if (l0_1.length : Int) > 100 then (proofmarklaw13_AigTells.j0 k a1 l2 l4 t363 true a0_0 l0_1 a3_0 a3_1 a3_2 a3_3) else ((aig_Right.f k a0_0 l0_1).bind fun t365 => ((proofmarkref13_Right.f k a0_0 l0_1).bind fun t366 => (proofmarklaw13_AigTells.j0 k a1 l2 l4 t363 (t365 != t366) a0_0 l0_1 a3_0 a3_1 a3_2 a3_3))))))
theorem proofmarklaw13_AigTells.mono_l : ∀ k, (∀ y0 y1 y2 y3 y4 y5 y6 y7 y8 y9 y10, LeO (proofmarklaw13_AigTells.j0 k y0 y1 y2 y3 y4 y5 y6 y7 y8 y9 y10) (proofmarklaw13_AigTells.j0 (k + 1) y0 y1 y2 y3 y4 y5 y6 y7 y8 y9 y10)) ∧ (∀ y0 y1 y2 y3 y4 y5 y6 y7 y8, LeO (proofmarklaw13_AigTells.j1 k y0 y1 y2 y3 y4 y5 y6 y7 y8) (proofmarklaw13_AigTells.j1 (k + 1) y0 y1 y2 y3 y4 y5 y6 y7 y8)) ∧ (∀ y0 y1 y2 y3 y4 y5 y6 y7 y8, LeO (proofmarklaw13_AigTells.j2 k y0 y1 y2 y3 y4 y5 y6 y7 y8) (proofmarklaw13_AigTells.j2 (k + 1) y0 y1 y2 y3 y4 y5 y6 y7 y8)) ∧ (∀ y0 y1 y2 y3 y4 y5 y6 y7 y8, LeO (proofmarklaw13_AigTells.j3 k y0 y1 y2 y3 y4 y5 y6 y7 y8) (proofmarklaw13_AigTells.j3 (k + 1) y0 y1 y2 y3 y4 y5 y6 y7 y8))
 | 0 => ⟨fun _ _ _ _ _ _ _ _ _ _ _ r h => by simp [proofmarklaw13_AigTells.j0] at h, fun _ _ _ _ _ _ _ _ _ r h => by simp [proofmarklaw13_AigTells.j1] at h, fun _ _ _ _ _ _ _ _ _ r h => by simp [proofmarklaw13_AigTells.j2] at h, fun _ _ _ _ _ _ _ _ _ r h => by simp [proofmarklaw13_AigTells.j3] at h⟩
 | k + 1 => by
  obtain ⟨ih0, ih1, ih2, ih3⟩ := proofmarklaw13_AigTells.mono_l k
  refine ⟨?_, ?_, ?_, ?_⟩
  ·intro y0 y1 y2 y3 y4 y5 y6 y7 y8 y9 y10
   unfold proofmarklaw13_AigTells.j0
   repeat' first
   | (with_reducible exact ih0 _ _ _ _ _ _ _ _ _ _ _)
   | (with_reducible exact ih1 _ _ _ _ _ _ _ _ _)
   | (with_reducible exact ih2 _ _ _ _ _ _ _ _ _)
   | (with_reducible exact ih3 _ _ _ _ _ _ _ _ _)
   | (with_reducible exact aig_And.mono _ _ _ _ _)
   | (with_reducible exact aig_Eval.mono _ _ _ _)
   | (with_reducible exact aig_Mux.mono _ _ _ _ _ _)
   | (with_reducible exact aig_Or.mono _ _ _ _ _)
   | (with_reducible exact aig_Right.mono _ _ _)
   | (with_reducible exact aig_Xor.mono _ _ _ _ _)
   | (with_reducible exact proofmarklaw13_Bits.mono _ _ _ _)
   | (with_reducible exact proofmarklaw13_Made.mono _ _ _)
   | (with_reducible exact proofmarklaw13_head.mono _)
   | (with_reducible exact proofmarkref08_Same.mono _ _ _)
   | (with_reducible exact proofmarkref13_And.mono _ _ _ _ _)
   | (with_reducible exact proofmarkref13_Eval.mono _ _ _ _)
   | (with_reducible exact proofmarkref13_Mux.mono _ _ _ _ _ _)
   | (with_reducible exact proofmarkref13_Or.mono _ _ _ _ _)
   | (with_reducible exact proofmarkref13_Right.mono _ _ _)
   | (with_reducible exact proofmarkref13_Same.mono _ _ _ _ _)
   | (with_reducible exact proofmarkref13_Xor.mono _ _ _ _ _)
   | (with_reducible exact LeO.refl _)
   | (with_reducible exact LeO.none _)
   | (with_reducible refine LeO.ite ?_ ?_)
   | (with_reducible refine LeO.bind ?_ (fun _ => ?_))
   | exact ih0 _ _ _ _ _ _ _ _ _ _ _
   | exact ih1 _ _ _ _ _ _ _ _ _
   | exact ih2 _ _ _ _ _ _ _ _ _
   | exact ih3 _ _ _ _ _ _ _ _ _
   | exact aig_And.mono _ _ _ _ _
   | exact aig_Eval.mono _ _ _ _
   | exact aig_Mux.mono _ _ _ _ _ _
   | exact aig_Or.mono _ _ _ _ _
   | exact aig_Right.mono _ _ _
   | exact aig_Xor.mono _ _ _ _ _
   | exact proofmarklaw13_Bits.mono _ _ _ _
   | exact proofmarklaw13_Made.mono _ _ _
   | exact proofmarklaw13_head.mono _
   | exact proofmarkref08_Same.mono _ _ _
   | exact proofmarkref13_And.mono _ _ _ _ _
   | exact proofmarkref13_Eval.mono _ _ _ _
   | exact proofmarkref13_Mux.mono _ _ _ _ _ _
   | exact proofmarkref13_Or.mono _ _ _ _ _
   | exact proofmarkref13_Right.mono _ _ _
   | exact proofmarkref13_Same.mono _ _ _ _ _
   | exact proofmarkref13_Xor.mono _ _ _ _ _
   | exact LeO.none _
   | refine LeO.ite ?_ ?_
   | refine LeO.bind ?_ (fun _ => ?_)
  ·intro y0 y1 y2 y3 y4 y5 y6 y7 y8
   unfold proofmarklaw13_AigTells.j1
   repeat' first
   | (with_reducible exact ih0 _ _ _ _ _ _ _ _ _ _ _)
   | (with_reducible exact ih1 _ _ _ _ _ _ _ _ _)
   | (with_reducible exact ih2 _ _ _ _ _ _ _ _ _)
   | (with_reducible exact ih3 _ _ _ _ _ _ _ _ _)
   | (with_reducible exact aig_And.mono _ _ _ _ _)
   | (with_reducible exact aig_Eval.mono _ _ _ _)
   | (with_reducible exact aig_Mux.mono _ _ _ _ _ _)
   | (with_reducible exact aig_Or.mono _ _ _ _ _)
   | (with_reducible exact aig_Right.mono _ _ _)
   | (with_reducible exact aig_Xor.mono _ _ _ _ _)
   | (with_reducible exact proofmarklaw13_Bits.mono _ _ _ _)
   | (with_reducible exact proofmarklaw13_Made.mono _ _ _)
   | (with_reducible exact proofmarklaw13_head.mono _)
   | (with_reducible exact proofmarkref08_Same.mono _ _ _)
   | (with_reducible exact proofmarkref13_And.mono _ _ _ _ _)
   | (with_reducible exact proofmarkref13_Eval.mono _ _ _ _)
   | (with_reducible exact proofmarkref13_Mux.mono _ _ _ _ _ _)
   | (with_reducible exact proofmarkref13_Or.mono _ _ _ _ _)
   | (with_reducible exact proofmarkref13_Right.mono _ _ _)
   | (with_reducible exact proofmarkref13_Same.mono _ _ _ _ _)
   | (with_reducible exact proofmarkref13_Xor.mono _ _ _ _ _)
   | (with_reducible exact LeO.refl _)
   | (with_reducible exact LeO.none _)
   | (with_reducible refine LeO.ite ?_ ?_)
   | (with_reducible refine LeO.bind ?_ (fun _ => ?_))
   | exact ih0 _ _ _ _ _ _ _ _ _ _ _
   | exact ih1 _ _ _ _ _ _ _ _ _
   | exact ih2 _ _ _ _ _ _ _ _ _
   | exact ih3 _ _ _ _ _ _ _ _ _
   | exact aig_And.mono _ _ _ _ _
   | exact aig_Eval.mono _ _ _ _
   | exact aig_Mux.mono _ _ _ _ _ _
   | exact aig_Or.mono _ _ _ _ _
   | exact aig_Right.mono _ _ _
   | exact aig_Xor.mono _ _ _ _ _
   | exact proofmarklaw13_Bits.mono _ _ _ _
   | exact proofmarklaw13_Made.mono _ _ _
   | exact proofmarklaw13_head.mono _
   | exact proofmarkref08_Same.mono _ _ _
   | exact proofmarkref13_And.mono _ _ _ _ _
   | exact proofmarkref13_Eval.mono _ _ _ _
   | exact proofmarkref13_Mux.mono _ _ _ _ _ _
   | exact proofmarkref13_Or.mono _ _ _ _ _
   | exact proofmarkref13_Right.mono _ _ _
   | exact proofmarkref13_Same.mono _ _ _ _ _
   | exact proofmarkref13_Xor.mono _ _ _ _ _
   | exact LeO.none _
   | refine LeO.ite ?_ ?_
   | refine LeO.bind ?_ (fun _ => ?_)
  ·intro y0 y1 y2 y3 y4 y5 y6 y7 y8
   unfold proofmarklaw13_AigTells.j2
   repeat' first
   | (with_reducible exact ih0 _ _ _ _ _ _ _ _ _ _ _)
   | (with_reducible exact ih1 _ _ _ _ _ _ _ _ _)
   | (with_reducible exact ih2 _ _ _ _ _ _ _ _ _)
   | (with_reducible exact ih3 _ _ _ _ _ _ _ _ _)
   | (with_reducible exact aig_And.mono _ _ _ _ _)
   | (with_reducible exact aig_Eval.mono _ _ _ _)
   | (with_reducible exact aig_Mux.mono _ _ _ _ _ _)
   | (with_reducible exact aig_Or.mono _ _ _ _ _)
   | (with_reducible exact aig_Right.mono _ _ _)
   | (with_reducible exact aig_Xor.mono _ _ _ _ _)
   | (with_reducible exact proofmarklaw13_Bits.mono _ _ _ _)
   | (with_reducible exact proofmarklaw13_Made.mono _ _ _)
   | (with_reducible exact proofmarklaw13_head.mono _)
   | (with_reducible exact proofmarkref08_Same.mono _ _ _)
   | (with_reducible exact proofmarkref13_And.mono _ _ _ _ _)
   | (with_reducible exact proofmarkref13_Eval.mono _ _ _ _)
   | (with_reducible exact proofmarkref13_Mux.mono _ _ _ _ _ _)
   | (with_reducible exact proofmarkref13_Or.mono _ _ _ _ _)
   | (with_reducible exact proofmarkref13_Right.mono _ _ _)
   | (with_reducible exact proofmarkref13_Same.mono _ _ _ _ _)
   | (with_reducible exact proofmarkref13_Xor.mono _ _ _ _ _)
   | (with_reducible exact LeO.refl _)
   | (with_reducible exact LeO.none _)
   | (with_reducible refine LeO.ite ?_ ?_)
   | (with_reducible refine LeO.bind ?_ (fun _ => ?_))
   | exact ih0 _ _ _ _ _ _ _ _ _ _ _
   | exact ih1 _ _ _ _ _ _ _ _ _
   | exact ih2 _ _ _ _ _ _ _ _ _
   | exact ih3 _ _ _ _ _ _ _ _ _
   | exact aig_And.mono _ _ _ _ _
   | exact aig_Eval.mono _ _ _ _
   | exact aig_Mux.mono _ _ _ _ _ _
   | exact aig_Or.mono _ _ _ _ _
   | exact aig_Right.mono _ _ _
   | exact aig_Xor.mono _ _ _ _ _
   | exact proofmarklaw13_Bits.mono _ _ _ _
   | exact proofmarklaw13_Made.mono _ _ _
   | exact proofmarklaw13_head.mono _
   | exact proofmarkref08_Same.mono _ _ _
   | exact proofmarkref13_And.mono _ _ _ _ _
   | exact proofmarkref13_Eval.mono _ _ _ _
   | exact proofmarkref13_Mux.mono _ _ _ _ _ _
   | exact proofmarkref13_Or.mono _ _ _ _ _
   | exact proofmarkref13_Right.mono _ _ _
   | exact proofmarkref13_Same.mono _ _ _ _ _
   | exact proofmarkref13_Xor.mono _ _ _ _ _
   | exact LeO.none _
   | refine LeO.ite ?_ ?_
   | refine LeO.bind ?_ (fun _ => ?_)
  ·intro y0 y1 y2 y3 y4 y5 y6 y7 y8
   unfold proofmarklaw13_AigTells.j3
   repeat' first
   | (with_reducible exact ih0 _ _ _ _ _ _ _ _ _ _ _)
   | (with_reducible exact ih1 _ _ _ _ _ _ _ _ _)
   | (with_reducible exact ih2 _ _ _ _ _ _ _ _ _)
   | (with_reducible exact ih3 _ _ _ _ _ _ _ _ _)
   | (with_reducible exact aig_And.mono _ _ _ _ _)
   | (with_reducible exact aig_Eval.mono _ _ _ _)
   | (with_reducible exact aig_Mux.mono _ _ _ _ _ _)
   | (with_reducible exact aig_Or.mono _ _ _ _ _)
   | (with_reducible exact aig_Right.mono _ _ _)
   | (with_reducible exact aig_Xor.mono _ _ _ _ _)
   | (with_reducible exact proofmarklaw13_Bits.mono _ _ _ _)
   | (with_reducible exact proofmarklaw13_Made.mono _ _ _)
   | (with_reducible exact proofmarklaw13_head.mono _)
   | (with_reducible exact proofmarkref08_Same.mono _ _ _)
   | (with_reducible exact proofmarkref13_And.mono _ _ _ _ _)
   | (with_reducible exact proofmarkref13_Eval.mono _ _ _ _)
   | (with_reducible exact proofmarkref13_Mux.mono _ _ _ _ _ _)
   | (with_reducible exact proofmarkref13_Or.mono _ _ _ _ _)
   | (with_reducible exact proofmarkref13_Right.mono _ _ _)
   | (with_reducible exact proofmarkref13_Same.mono _ _ _ _ _)
   | (with_reducible exact proofmarkref13_Xor.mono _ _ _ _ _)
   | (with_reducible exact LeO.refl _)
   | (with_reducible exact LeO.none _)
   | (with_reducible refine LeO.ite ?_ ?_)
   | (with_reducible refine LeO.bind ?_ (fun _ => ?_))
   | exact ih0 _ _ _ _ _ _ _ _ _ _ _
   | exact ih1 _ _ _ _ _ _ _ _ _
   | exact ih2 _ _ _ _ _ _ _ _ _
   | exact ih3 _ _ _ _ _ _ _ _ _
   | exact aig_And.mono _ _ _ _ _
   | exact aig_Eval.mono _ _ _ _
   | exact aig_Mux.mono _ _ _ _ _ _
   | exact aig_Or.mono _ _ _ _ _
   | exact aig_Right.mono _ _ _
   | exact aig_Xor.mono _ _ _ _ _
   | exact proofmarklaw13_Bits.mono _ _ _ _
   | exact proofmarklaw13_Made.mono _ _ _
   | exact proofmarklaw13_head.mono _
   | exact proofmarkref08_Same.mono _ _ _
   | exact proofmarkref13_And.mono _ _ _ _ _
   | exact proofmarkref13_Eval.mono _ _ _ _
   | exact proofmarkref13_Mux.mono _ _ _ _ _ _
   | exact proofmarkref13_Or.mono _ _ _ _ _
   | exact proofmarkref13_Right.mono _ _ _
   | exact proofmarkref13_Same.mono _ _ _ _ _
   | exact proofmarkref13_Xor.mono _ _ _ _ _
   | exact LeO.none _
   | refine LeO.ite ?_ ?_
   | refine LeO.bind ?_ (fun _ => ?_)
theorem proofmarklaw13_AigTells.mono : ∀ a0 a1 a2 a3 a4 a5 a6 a7 a8 k, LeO (proofmarklaw13_AigTells.f k a0 a1 a2 a3 a4 a5 a6 a7 a8) (proofmarklaw13_AigTells.f (k + 1) a0 a1 a2 a3 a4 a5 a6 a7 a8) := by
 intro a0 a1 a2 a3 a4 a5 a6 a7 a8 k
 obtain ⟨ih0, ih1, ih2, ih3⟩ := proofmarklaw13_AigTells.mono_l k
 unfold proofmarklaw13_AigTells.f
 repeat' first
   | (with_reducible exact ih0 _ _ _ _ _ _ _ _ _ _ _)
   | (with_reducible exact ih1 _ _ _ _ _ _ _ _ _)
   | (with_reducible exact ih2 _ _ _ _ _ _ _ _ _)
   | (with_reducible exact ih3 _ _ _ _ _ _ _ _ _)
   | (with_reducible exact aig_And.mono _ _ _ _ _)
   | (with_reducible exact aig_Eval.mono _ _ _ _)
   | (with_reducible exact aig_Mux.mono _ _ _ _ _ _)
   | (with_reducible exact aig_Or.mono _ _ _ _ _)
   | (with_reducible exact aig_Right.mono _ _ _)
   | (with_reducible exact aig_Xor.mono _ _ _ _ _)
   | (with_reducible exact proofmarklaw13_Bits.mono _ _ _ _)
   | (with_reducible exact proofmarklaw13_Made.mono _ _ _)
   | (with_reducible exact proofmarklaw13_head.mono _)
   | (with_reducible exact proofmarkref08_Same.mono _ _ _)
   | (with_reducible exact proofmarkref13_And.mono _ _ _ _ _)
   | (with_reducible exact proofmarkref13_Eval.mono _ _ _ _)
   | (with_reducible exact proofmarkref13_Mux.mono _ _ _ _ _ _)
   | (with_reducible exact proofmarkref13_Or.mono _ _ _ _ _)
   | (with_reducible exact proofmarkref13_Right.mono _ _ _)
   | (with_reducible exact proofmarkref13_Same.mono _ _ _ _ _)
   | (with_reducible exact proofmarkref13_Xor.mono _ _ _ _ _)
   | (with_reducible exact LeO.refl _)
   | (with_reducible exact LeO.none _)
   | (with_reducible refine LeO.ite ?_ ?_)
   | (with_reducible refine LeO.bind ?_ (fun _ => ?_))
   | exact ih0 _ _ _ _ _ _ _ _ _ _ _
   | exact ih1 _ _ _ _ _ _ _ _ _
   | exact ih2 _ _ _ _ _ _ _ _ _
   | exact ih3 _ _ _ _ _ _ _ _ _
   | exact aig_And.mono _ _ _ _ _
   | exact aig_Eval.mono _ _ _ _
   | exact aig_Mux.mono _ _ _ _ _ _
   | exact aig_Or.mono _ _ _ _ _
   | exact aig_Right.mono _ _ _
   | exact aig_Xor.mono _ _ _ _ _
   | exact proofmarklaw13_Bits.mono _ _ _ _
   | exact proofmarklaw13_Made.mono _ _ _
   | exact proofmarklaw13_head.mono _
   | exact proofmarkref08_Same.mono _ _ _
   | exact proofmarkref13_And.mono _ _ _ _ _
   | exact proofmarkref13_Eval.mono _ _ _ _
   | exact proofmarkref13_Mux.mono _ _ _ _ _ _
   | exact proofmarkref13_Or.mono _ _ _ _ _
   | exact proofmarkref13_Right.mono _ _ _
   | exact proofmarkref13_Same.mono _ _ _ _ _
   | exact proofmarkref13_Xor.mono _ _ _ _ _
   | exact LeO.none _
   | refine LeO.ite ?_ ?_
   | refine LeO.bind ?_ (fun _ => ?_)
def proofmarklaw13_AigTells.T2 : Bool × List (List Nat × List Nat) := (true, [([], []), ([0], [0]), ([1, 1], [1]), ([2], [2]), ([3, 2], [2, 3]), ([4, 2], [2, 4]), ([5, 2], [2, 5]), ([2, 6], [2, 6]), ([7, 2], [7]), ([8], [8]), ([9, 8, 8], [8, 9]), ([8], [8]), ([11, 10, 8], [8, 11]), ([10, 12, 8], [8, 10, 12]), ([8, 13], [8, 13])])
def proofmarklaw13_AigTells.B2 : List Nat := [0, 1, 3, 7, 15, 31, 63, 127, 255, 511, 1023, 511, 4095, 8191, 16383]
theorem proofmarklaw13_AigTells.tab2 : rtab .any (opsOf Try.f3 2) = proofmarklaw13_AigTells.T2 := by kernel_rfl
theorem proofmarklaw13_AigTells.bits2 : waitsOk proofmarklaw13_AigTells.T2.2 proofmarklaw13_AigTells.B2 = true := by kernel_rfl
set_option maxHeartbeats 8000000 in
set_option maxRecDepth 100000 in
theorem proofmarklaw13_AigTells.calls (k : Nat) (a0_0 : Int) (A0_1 : Option Addr) (c0_1 : Nat) (l0_1 : List (S50)) (a1 : Int) (A2 : Option Addr) (c2 : Nat) (l2 : List (S28)) (a3_0 : Int) (a3_1 : Int) (a3_2 : Int) (a3_3 : Int) (A4 : Option Addr) (c4 : Nat) (l4 : List Bool) (r : Bool) (w : World) (hr0_1 : Kd.C k50 w A0_1 l0_1.length l0_1) (hc0_1 : l0_1.length ≤ c0_1) (hr2 : Kd.C k28 w A2 l2.length l2) (hc2 : l2.length ≤ c2) (hr4 : Kd.C Kd.bool w A4 l4.length l4) (hc4 : l4.length ≤ c4) (h : proofmarklaw13_AigTells.f k a0_0 l0_1 a1 l2 a3_0 a3_1 a3_2 a3_3 l4 = some r) :
  Calls Try.prog 3 #[.agg #[.int .i64 a0_0, .slice A0_1 l0_1.length c0_1], .int .u8 a1, .slice A2 l2.length c2, .agg #[.int .u8 a3_0, .int .u16 a3_1, .int .u16 a3_2, .int .u16 a3_3], .slice A4 l4.length c4] w fun e w' => e = .returned (.bool r) ∧ Below w.heap.size w w' := by
 have hu24 := Try.underlying24
 have hu28 := Try.underlying28
 have HR0_1 := aM_32 hr0_1
 have HC0_1 := aM_32 hc0_1
 clear hr0_1 hc0_1
 have HR2 := aM_32 hr2
 have HC2 := aM_32 hc2
 clear hr2 hc2
 have HR4 := aM_32 hr4
 have HC4 := aM_32 hc4
 clear hr4 hc4
 have HB := aM_32 (Below.refl w.heap.size w)
 have H : ((proofmarklaw13_head.f k).bind fun t363 => ((proofmarklaw13_Great.f l2).bind fun t364 => (if t364 = true then (proofmarklaw13_AigTells.j0 k a1 l2 l4 t363 true a0_0 l0_1 a3_0 a3_1 a3_2 a3_3) else (if (l0_1.length : Int) > 100 then (proofmarklaw13_AigTells.j0 k a1 l2 l4 t363 true a0_0 l0_1 a3_0 a3_1 a3_2 a3_3) else ((aig_Right.f k a0_0 l0_1).bind fun t365 => ((proofmarkref13_Right.f k a0_0 l0_1).bind fun t366 => (proofmarklaw13_AigTells.j0 k a1 l2 l4 t363 (t365 != t366) a0_0 l0_1 a3_0 a3_1 a3_2 a3_3))))))) = some r := h
 clear h
 replace H := Option.bind_eq_some_iff.mp H
 obtain ⟨t363, A60, H⟩ := H
 replace H : ((proofmarklaw13_Great.f l2).bind fun t364 => (if t364 = true then (proofmarklaw13_AigTells.j0 k a1 l2 l4 t363 true a0_0 l0_1 a3_0 a3_1 a3_2 a3_3) else (if (l0_1.length : Int) > 100 then (proofmarklaw13_AigTells.j0 k a1 l2 l4 t363 true a0_0 l0_1 a3_0 a3_1 a3_2 a3_3) else ((aig_Right.f k a0_0 l0_1).bind fun t365 => ((proofmarkref13_Right.f k a0_0 l0_1).bind fun t366 => (proofmarklaw13_AigTells.j0 k a1 l2 l4 t363 (t365 != t366) a0_0 l0_1 a3_0 a3_1 a3_2 a3_3)))))) = some r := H
 have A6 := aM_32 A60
 clear A60
 have HC7 := aM_32 H
 clear H
 go_enter Try.func3, Try.ntmps3
 go_upto_region 2 with (first | ((with_reducible refine gate_dst (N := 5) rfl ?_); (try (refine gate_guard (by rfl) ?_; dsimp only)); refine box_event ?hg (N := 5) ?hd (cs := #[.int .i64 a0_0, .slice A0_1 l0_1.length c0_1]) (t := 24) ?hr ?_; (case hd => rfl); (case hg => rfl); (case hr => first | (go_simp; done) | (go_simp; rfl)); intro gb361 hg w8 hbox hb; have n0_ := aM_32 (b9_32 (by repeat (first | (with_reducible first | exact HB.out | apply b8_32 | apply b6_32 | apply b7_32) | exact HB.out)) hb); have n1_ := aM_32 (hbox); have n2_ := aM_32 ((by rw [hg]; exact (b0_32 (by repeat (first | (with_reducible first | exact HB.out | apply b8_32 | apply b6_32 | apply b7_32) | exact HB.out))) : w.heap.size ≤ gb361)); have n3_ := aM_32 ((by rw [hg]; exact (b0_32 (by repeat (first | (with_reducible first | exact HB.out | apply b8_32 | apply b6_32 | apply b7_32) | exact HB.out))) : w.heap.size ≤ gb361)); clear HB; have HB := n0_; have BK361 := n1_; have GW361 := n2_; have GE361 := n3_; clear n0_ n1_ n2_ n3_; clear hb hbox hg) | ((with_reducible refine gate_dst (N := 8) rfl ?_); (try (refine gate_guard (by rfl) ?_; dsimp only)); refine box_event ?hg (N := 8) ?hd (cs := #[.int .u8 a3_0, .int .u16 a3_1, .int .u16 a3_2, .int .u16 a3_3]) (t := 28) ?hr ?_; (case hd => rfl); (case hg => rfl); (case hr => first | (go_simp; done) | (go_simp; rfl)); intro gb362 hg w9 hbox hb; have n0_ := aM_32 (b5_32 (by exact BK361.out) hb); have n1_ := aM_32 (b9_32 (by repeat (first | (with_reducible first | exact HB.out | apply b8_32 | apply b6_32 | apply b7_32 | refine b4_32 ?_ GE361.out) | exact HB.out)) hb); have n2_ := aM_32 (hbox); have n3_ := aM_32 ((by rw [hg]; exact (b0_32 (by repeat (first | (with_reducible first | exact HB.out | apply b8_32 | apply b6_32 | apply b7_32 | refine b4_32 ?_ GE361.out) | exact HB.out))) : w.heap.size ≤ gb362)); have n4_ := aM_32 ((by rw [hg]; exact (b0_32 (by repeat (first | (with_reducible first | exact HB.out | apply b8_32 | apply b6_32 | apply b7_32 | refine b4_32 ?_ GE361.out) | exact HB.out))) : w.heap.size ≤ gb362)); have n5_ := aM_32 ((by rw [hg]; exact Nat.ne_of_lt (blk_lt (by exact BK361.out)) : gb361 ≠ gb362)); have n6_ := aM_32 ((by rw [hg]; exact Nat.ne_of_gt (blk_lt (by exact BK361.out)) : gb362 ≠ gb361)); clear BK361 HB; have BK361 := n0_; have HB := n1_; have BK362 := n2_; have GW362 := n3_; have GE362 := n4_; have NB361_362 := n5_; have NB362_361 := n6_; clear n0_ n1_ n2_ n3_ n4_ n5_ n6_; clear hb hbox hg) | ((with_reducible refine gate_callee (f := 10) rfl ?_); refine goesL_ (some 23) rfl rfl Try.func10 (by kernel_rfl) rfl #[] rfl (by (try simp only [List.map_toArray, List.map_cons, List.map_nil]); first | done | rfl | (simp only [List.length_drop, List.length_take]; rfl)) ?_; (with_reducible refine (proofmarklaw13_head.calls k  t363 _ A6.out).mono ?_); rintro e w10 ⟨rfl, hb⟩; refine ⟨_, rfl, ?_⟩; have n0_ := aM_32 (b5_32 (by exact BK361.out) hb); have n1_ := aM_32 (b5_32 (by exact BK362.out) hb); have n2_ := aM_32 (b9_32 (by repeat (first | (with_reducible first | exact HB.out | apply b8_32 | apply b6_32 | apply b7_32 | refine b4_32 ?_ GE361.out | refine b4_32 ?_ GE362.out) | exact HB.out)) hb); clear BK361 BK362 HB; have BK361 := n0_; have BK362 := n1_; have HB := n2_; clear n0_ n1_ n2_; (try clear hb); (try clear hb2); (try clear hk); (try clear hi)))
 (try simp only [Act.put, l1_32, l2_32, l3_32])
 go_cut [38] (fun v38 wc => ∃ (kq : Nat) (x38_6 : Bool), v38 = .bool x38_6 ∧ Aside0 (proofmarklaw13_AigTells.j0 kq a1 l2 l4 t363 x38_6 a0_0 l0_1 a3_0 a3_1 a3_2 a3_3 = some r) ∧ Aside0 (kq ≤ k) ∧ Aside0 (wc.heap[gb361]? = some (.cells #[.int .i64 a0_0, (.slice A0_1 l0_1.length c0_1)] 24 (0, 0))) ∧ Aside0 (wc.heap[gb362]? = some (.cells #[.int .u8 a3_0, .int .u16 a3_1, .int .u16 a3_2, .int .u16 a3_3] 28 (0, 0))) ∧ Aside0 (Below w.heap.size w wc))
 case first =>
  have H := HC7.out
  clear HC7
  replace H := Option.bind_eq_some_iff.mp H
  obtain ⟨t364, A110, H⟩ := H
  replace H : (if t364 = true then (proofmarklaw13_AigTells.j0 k a1 l2 l4 t363 true a0_0 l0_1 a3_0 a3_1 a3_2 a3_3) else (if (l0_1.length : Int) > 100 then (proofmarklaw13_AigTells.j0 k a1 l2 l4 t363 true a0_0 l0_1 a3_0 a3_1 a3_2 a3_3) else ((aig_Right.f k a0_0 l0_1).bind fun t365 => ((proofmarkref13_Right.f k a0_0 l0_1).bind fun t366 => (proofmarklaw13_AigTells.j0 k a1 l2 l4 t363 (t365 != t366) a0_0 l0_1 a3_0 a3_1 a3_2 a3_3))))) = some r := H
  have A11 := aM_32 A110
  clear A110
  by_cases c12 : t364 = true
  ·subst c12
   have H1 : (proofmarklaw13_AigTells.j0 k a1 l2 l4 t363 true a0_0 l0_1 a3_0 a3_1 a3_2 a3_3) = some r := by rw [if_pos rfl] at H; exact H
   clear H
   have H := H1
   clear H1
   have H' := aM_32 H
   clear H
   try go_wp2
   have n0_ := aM_32 (b3_32 BK361.out)
   have n1_ := aM_32 (b3_32 BK362.out)
   have n2_ := aM_32 (b7_32 HB.out)
   clear BK361 BK362 HB
   have BK361 := n0_
   have BK362 := n1_
   have HB := n2_
   clear n0_ n1_ n2_
   refine start_ (n := 15) (S := fun w' => True) (ds := []) #[false, false, false, false, false, false, false, false, false, false, false, false, false, false, false] (by kernel_rfl) rfl rfl trivial (fun hHeld => ?_); refine with_tabW proofmarklaw13_AigTells.tab2 proofmarklaw13_AigTells.bits2 (fun HT_ HW_ => ?_)
   generalize w10.drew = w13 at BK361 BK362 HB hHeld ⊢
   refine pure_ (i := 0) (N := some 24) (v := ?_) (a' := ?_) #[true, false, false, false, false, false, false, false, false, false, false, false, false, false, false] rfl rfl (any_of HT_.out (by kernel_rfl)) (fun _ _ _ h => h) (Or.inl ⟨by rfl, ?_⟩) ?_ ?_
   rotate_left
   ·intro w'
    go_simp
    with_reducible rfl
   rotate_left
   ·simp only [Act.put, l1_32, l2_32, l3_32, i64_w, i32_w]
    rfl
   refine one_ (i := 1) (N := some 25) #[true, true, false, false, false, false, false, false, false, false, false, false, false, false, false] rfl rfl (one_of HT_.out (by kernel_rfl)) (by decide) (fun K hK => ?_)
   refine goes_ Try.func11 (by kernel_rfl) rfl #[.slice A2 l2.length c2] (by rfl) rfl rfl (by (try simp only [List.map_toArray, List.map_cons, List.map_nil]); first | done | rfl | (simp only [List.length_drop, List.length_take]; rfl)) ?_
   with_reducible refine (proofmarklaw13_Great.calls _ _ l2 true _ ?side1 ?side2 A11.out).mono ?_
   (case side1 => repeat (first | exact (Kd.C_below HR2.out HB.out) | (with_reducible refine c3_32 ?_ _) | (with_reducible refine c4_32 ?_ _) | (with_reducible refine c5_32 ?_)))
   (case side2 => exact HC2.out)
   rintro e w' ⟨rfl, ⟨nd, rfl⟩⟩
   refine ⟨_, rfl, ?_⟩
   refine hK.out _ _ trivial (fun hHeld => ?_)
   clear hK K
   refine norm_ (a' := ?_) ?_ ?_
   rotate_left
   ·show Act.put _ (some 25) _ = _
    simp only [Act.put, l1_32, l2_32, l3_32, i64_w, i32_w]
    rfl
   refine pure_ (i := 2) (N := some 26) (v := ?_) (a' := ?_) #[true, true, true, false, false, false, false, false, false, false, false, false, false, false, false] rfl rfl (any_of HT_.out (by kernel_rfl)) (fun _ _ _ h => h) (Or.inl ⟨by rfl, ?_⟩) ?_ ?_
   rotate_left
   ·intro w'
    go_simp
    with_reducible rfl
   rotate_left
   ·simp only [Act.put, l1_32, l2_32, l3_32, i64_w, i32_w]
    rfl
   refine pure_ (i := 3) (N := some 27) (v := undef) (a' := ?_) #[true, true, true, true, false, false, false, false, false, false, false, false, false, false, false] rfl rfl (any_of HT_.out (by kernel_rfl)) (fun _ _ _ h => h) (Or.inr ⟨by rfl, rfl⟩) ?_ ?_
   rotate_left
   ·simp only [Act.put, l1_32, l2_32, l3_32, i64_w, i32_w]
    rfl
   refine pure_ (i := 4) (N := some 28) (v := undef) (a' := ?_) #[true, true, true, true, true, false, false, false, false, false, false, false, false, false, false] rfl rfl (any_of HT_.out (by kernel_rfl)) (fun _ _ _ h => h) (Or.inr ⟨by rfl, rfl⟩) ?_ ?_
   rotate_left
   ·simp only [Act.put, l1_32, l2_32, l3_32, i64_w, i32_w]
    rfl
   refine pure_ (i := 5) (N := some 29) (v := undef) (a' := ?_) #[true, true, true, true, true, true, false, false, false, false, false, false, false, false, false] rfl rfl (any_of HT_.out (by kernel_rfl)) (fun _ _ _ h => h) (Or.inr ⟨by rfl, rfl⟩) ?_ ?_
   rotate_left
   ·simp only [Act.put, l1_32, l2_32, l3_32, i64_w, i32_w]
    rfl
   refine pure_ (i := 6) (N := some 30) (v := undef) (a' := ?_) #[true, true, true, true, true, true, true, false, false, false, false, false, false, false, false] rfl rfl (any_of HT_.out (by kernel_rfl)) (fun _ _ _ h => h) (Or.inr ⟨by rfl, rfl⟩) ?_ ?_
   rotate_left
   ·simp only [Act.put, l1_32, l2_32, l3_32, i64_w, i32_w]
    rfl
   refine pure_ (i := 7) (N := some 31) (v := ?_) (a' := ?_) #[true, true, true, true, true, true, true, true, false, false, false, false, false, false, false] rfl rfl (any_of HT_.out (by kernel_rfl)) (fun _ _ _ h => h) (Or.inl ⟨by rfl, ?_⟩) ?_ ?_
   rotate_left
   ·intro w'
    go_simp
    with_reducible rfl
   rotate_left
   ·simp only [Act.put, l1_32, l2_32, l3_32, i64_w, i32_w]
    rfl
   refine pure_ (i := 8) (N := some 32) (v := ?_) (a' := ?_) #[true, true, true, true, true, true, true, true, true, false, false, false, false, false, false] rfl rfl (any_of HT_.out (by kernel_rfl)) (fun _ _ _ h => h) (Or.inl ⟨by rfl, ?_⟩) ?_ ?_
   rotate_left
   ·intro w'
    go_simp
    with_reducible rfl
   rotate_left
   ·simp only [Act.put, l1_32, l2_32, l3_32, i64_w, i32_w]
    rfl
   refine pure_ (i := 9) (N := some 33) (v := undef) (a' := ?_) #[true, true, true, true, true, true, true, true, true, true, false, false, false, false, false] rfl rfl (any_of HT_.out (by kernel_rfl)) (fun _ _ _ h => h) (Or.inr ⟨by rfl, rfl⟩) ?_ ?_
   rotate_left
   ·simp only [Act.put, l1_32, l2_32, l3_32, i64_w, i32_w]
    rfl
   refine pure_ (i := 10) (N := some 34) (v := undef) (a' := ?_) #[true, true, true, true, true, true, true, true, true, true, true, false, false, false, false] rfl rfl (any_of HT_.out (by kernel_rfl)) (fun _ _ _ h => h) (Or.inr ⟨by rfl, rfl⟩) ?_ ?_
   rotate_left
   ·simp only [Act.put, l1_32, l2_32, l3_32, i64_w, i32_w]
    rfl
   refine pure_ (i := 11) (N := some 35) (v := undef) (a' := ?_) #[true, true, true, true, true, true, true, true, true, true, true, true, false, false, false] rfl rfl (any_of HT_.out (by kernel_rfl)) (fun _ _ _ h => h) (Or.inr ⟨by rfl, rfl⟩) ?_ ?_
   rotate_left
   ·simp only [Act.put, l1_32, l2_32, l3_32, i64_w, i32_w]
    rfl
   refine pure_ (i := 12) (N := some 36) (v := undef) (a' := ?_) #[true, true, true, true, true, true, true, true, true, true, true, true, true, false, false] rfl rfl (any_of HT_.out (by kernel_rfl)) (fun _ _ _ h => h) (Or.inr ⟨by rfl, rfl⟩) ?_ ?_
   rotate_left
   ·simp only [Act.put, l1_32, l2_32, l3_32, i64_w, i32_w]
    rfl
   refine pure_ (i := 13) (N := some 37) (v := undef) (a' := ?_) #[true, true, true, true, true, true, true, true, true, true, true, true, true, true, false] rfl rfl (any_of HT_.out (by kernel_rfl)) (fun _ _ _ h => h) (Or.inr ⟨by rfl, rfl⟩) ?_ ?_
   rotate_left
   ·simp only [Act.put, l1_32, l2_32, l3_32, i64_w, i32_w]
    rfl
   refine pure_ (i := 14) (N := some 38) (v := ?_) (a' := ?_) #[true, true, true, true, true, true, true, true, true, true, true, true, true, true, true] rfl rfl (any_of HT_.out (by kernel_rfl)) (fun _ _ _ h => h) (Or.inl ⟨by rfl, ?_⟩) ?_ ?_
   rotate_left
   ·intro w'
    go_simp
    with_reducible rfl
   rotate_left
   ·simp only [Act.put, l1_32, l2_32, l3_32, i64_w, i32_w]
    rfl
   refine done_ (done_of HT_.out (by kernel_rfl)) ?_
   try go_wp2
   go_meet
   case rel => exact ⟨_, (true), (by first | rfl | (simp; done) | (simp [*]; done)), H', ⟨by first | omega | exact Nat.le_refl _⟩, ⟨by (with_reducible repeat (first | refine b1_32 ?_ _ | refine b3_32 ?_ | refine b2_32 ?_ _)); exact BK361.out⟩, ⟨by (with_reducible repeat (first | refine b1_32 ?_ _ | refine b3_32 ?_ | refine b2_32 ?_ _)); exact BK362.out⟩, ⟨by repeat (first | (with_reducible first | exact HB.out | apply b8_32 | apply b6_32 | apply b7_32 | refine b4_32 ?_ GE361.out | refine b4_32 ?_ GE362.out) | exact HB.out)⟩⟩
  ·replace c12 := Bool.eq_false_iff.mpr c12
   subst c12
   have H1 : (if (l0_1.length : Int) > 100 then (proofmarklaw13_AigTells.j0 k a1 l2 l4 t363 true a0_0 l0_1 a3_0 a3_1 a3_2 a3_3) else ((aig_Right.f k a0_0 l0_1).bind fun t365 => ((proofmarkref13_Right.f k a0_0 l0_1).bind fun t366 => (proofmarklaw13_AigTells.j0 k a1 l2 l4 t363 (t365 != t366) a0_0 l0_1 a3_0 a3_1 a3_2 a3_3)))) = some r := by rw [if_neg (show ¬ (false = true) by decide)] at H; exact H
   clear H
   have H := H1
   clear H1
   by_cases c14 : (l0_1.length : Int) > 100
   ·rw [if_pos c14] at H
    have c14b0 : decide (100 < (l0_1.length : Int)) = true := decide_eq_true c14
    have c14b1 : decide (100 < l0_1.length) = true := decide_eq_true (by omega)
    clear c14
    (first | rw [c14b0] | (simp only [i64_w, i32_w]; rw [c14b0]) | skip)
    have H' := aM_32 H
    clear H
    try go_wp2
    have n0_ := aM_32 (b3_32 BK361.out)
    have n1_ := aM_32 (b3_32 BK362.out)
    have n2_ := aM_32 (b7_32 HB.out)
    clear BK361 BK362 HB
    have BK361 := n0_
    have BK362 := n1_
    have HB := n2_
    clear n0_ n1_ n2_
    refine start_ (n := 15) (S := fun w' => w'.cell? ⟨gb361, 0, none⟩ = some (.int .i64 a0_0) ∧ w'.cell? ⟨gb361, 1, none⟩ = some (.slice A0_1 l0_1.length c0_1)) (ds := []) #[false, false, false, false, false, false, false, false, false, false, false, false, false, false, false] (by kernel_rfl) rfl rfl ⟨(blk_cell BK361.out 0).trans rfl, (blk_cell BK361.out 1).trans rfl⟩ (fun hHeld => ?_); refine with_tabW proofmarklaw13_AigTells.tab2 proofmarklaw13_AigTells.bits2 (fun HT_ HW_ => ?_)
    generalize w10.drew = w15 at BK361 BK362 HB hHeld ⊢
    refine pure_ (i := 0) (N := some 24) (v := ?_) (a' := ?_) #[true, false, false, false, false, false, false, false, false, false, false, false, false, false, false] rfl rfl (any_of HT_.out (by kernel_rfl)) (fun _ _ _ h => h) (Or.inl ⟨by rfl, ?_⟩) ?_ ?_
    rotate_left
    ·intro w'
     go_simp
     with_reducible rfl
    rotate_left
    ·simp only [Act.put, l1_32, l2_32, l3_32, i64_w, i32_w]
     rfl
    refine one_ (i := 1) (N := some 25) #[true, true, false, false, false, false, false, false, false, false, false, false, false, false, false] rfl rfl (one_of HT_.out (by kernel_rfl)) (by decide) (fun K hK => ?_)
    refine goes_ Try.func11 (by kernel_rfl) rfl #[.slice A2 l2.length c2] (by rfl) rfl rfl (by (try simp only [List.map_toArray, List.map_cons, List.map_nil]); first | done | rfl | (simp only [List.length_drop, List.length_take]; rfl)) ?_
    with_reducible refine (proofmarklaw13_Great.calls _ _ l2 false _ ?side1 ?side2 A11.out).mono ?_
    (case side1 => repeat (first | exact (Kd.C_below HR2.out HB.out) | (with_reducible refine c3_32 ?_ _) | (with_reducible refine c4_32 ?_ _) | (with_reducible refine c5_32 ?_)))
    (case side2 => exact HC2.out)
    rintro e w' ⟨rfl, ⟨nd, rfl⟩⟩
    refine ⟨_, rfl, ?_⟩
    refine hK.out _ _ ⟨(blk_cell BK361.out 0).trans rfl, (blk_cell BK361.out 1).trans rfl⟩ (fun hHeld => ?_)
    clear hK K
    refine norm_ (a' := ?_) ?_ ?_
    rotate_left
    ·show Act.put _ (some 25) _ = _
     simp only [Act.put, l1_32, l2_32, l3_32, i64_w, i32_w]
     rfl
    refine pure_ (i := 2) (N := some 26) (v := ?_) (a' := ?_) #[true, true, true, false, false, false, false, false, false, false, false, false, false, false, false] rfl rfl (any_of HT_.out (by kernel_rfl)) (fun _ _ _ h => h) (Or.inl ⟨by rfl, ?_⟩) ?_ ?_
    rotate_left
    ·intro w'
     go_simp
     with_reducible rfl
    rotate_left
    ·simp only [Act.put, l1_32, l2_32, l3_32, i64_w, i32_w]
     rfl
    refine pure_ (i := 3) (N := some 27) (v := ?_) (a' := ?_) #[true, true, true, true, false, false, false, false, false, false, false, false, false, false, false] rfl rfl (any_of HT_.out (by kernel_rfl)) (fun _ _ _ h => h) (Or.inl ⟨by rfl, ?_⟩) ?_ ?_
    rotate_left
    ·intro w'
     go_simp
     with_reducible rfl
    rotate_left
    ·simp only [Act.put, l1_32, l2_32, l3_32, i64_w, i32_w]
     rfl
    refine take_ (i := 4) (N := some 28) (v := ?_) (a' := ?_) #[true, true, true, true, true, false, false, false, false, false, false, false, false, false, false] rfl rfl (take_ofW HT_.out HW_.out (by kernel_rfl)) (fun _ _ _ h => h) (Or.inl ⟨by rfl, ?_⟩) hHeld ?_ ?_
    rotate_left
    ·rintro w' ⟨s0, s1⟩
     go_simp
     with_reducible rfl
    rotate_left
    ·simp only [Act.put, l1_32, l2_32, l3_32, i64_w, i32_w]
     rfl
    refine pure_ (i := 5) (N := some 29) (v := ?_) (a' := ?_) #[true, true, true, true, true, true, false, false, false, false, false, false, false, false, false] rfl rfl (any_of HT_.out (by kernel_rfl)) (fun _ _ _ h => h) (Or.inl ⟨by rfl, ?_⟩) ?_ ?_
    rotate_left
    ·intro w'
     go_simp
     with_reducible rfl
    rotate_left
    ·simp only [Act.put, l1_32, l2_32, l3_32, i64_w, i32_w]
     rfl
    refine pure_ (i := 6) (N := some 30) (v := ?_) (a' := ?_) #[true, true, true, true, true, true, true, false, false, false, false, false, false, false, false] rfl rfl (any_of HT_.out (by kernel_rfl)) (fun _ _ _ h => h) (Or.inl ⟨by rfl, ?_⟩) ?_ ?_
    rotate_left
    ·intro w'
     go_simp
     with_reducible rfl
    rotate_left
    ·simp only [Act.put, l1_32, l2_32, l3_32, i64_w, i32_w]
     rfl
    refine pure_ (i := 7) (N := some 31) (v := ?_) (a' := ?_) #[true, true, true, true, true, true, true, true, false, false, false, false, false, false, false] rfl rfl (any_of HT_.out (by kernel_rfl)) (fun _ _ _ h => h) (Or.inl ⟨by rfl, ?_⟩) ?_ ?_
    rotate_left
    ·intro w'
     go_simp
     with_reducible rfl
    rotate_left
    ·simp only [Act.put, l1_32, l2_32, l3_32, i64_w, i32_w]
     rfl
    refine pure_ (i := 8) (N := some 32) (v := ?_) (a' := ?_) #[true, true, true, true, true, true, true, true, true, false, false, false, false, false, false] rfl rfl (any_of HT_.out (by kernel_rfl)) (fun _ _ _ h => h) (Or.inl ⟨by rfl, ?_⟩) ?_ ?_
    rotate_left
    ·intro w'
     go_simp
     with_reducible rfl
    rotate_left
    ·simp only [Act.put, l1_32, l2_32, l3_32, i64_w, i32_w]
     rfl
    refine pure_ (i := 9) (N := some 33) (v := undef) (a' := ?_) #[true, true, true, true, true, true, true, true, true, true, false, false, false, false, false] rfl rfl (any_of HT_.out (by kernel_rfl)) (fun _ _ _ h => h) (Or.inr ⟨by rfl, rfl⟩) ?_ ?_
    rotate_left
    ·simp only [Act.put, l1_32, l2_32, l3_32, i64_w, i32_w]
     rfl
    refine pure_ (i := 10) (N := some 34) (v := undef) (a' := ?_) #[true, true, true, true, true, true, true, true, true, true, true, false, false, false, false] rfl rfl (any_of HT_.out (by kernel_rfl)) (fun _ _ _ h => h) (Or.inr ⟨by rfl, rfl⟩) ?_ ?_
    rotate_left
    ·simp only [Act.put, l1_32, l2_32, l3_32, i64_w, i32_w]
     rfl
    refine pure_ (i := 11) (N := some 35) (v := undef) (a' := ?_) #[true, true, true, true, true, true, true, true, true, true, true, true, false, false, false] rfl rfl (any_of HT_.out (by kernel_rfl)) (fun _ _ _ h => h) (Or.inr ⟨by rfl, rfl⟩) ?_ ?_
    rotate_left
    ·simp only [Act.put, l1_32, l2_32, l3_32, i64_w, i32_w]
     rfl
    refine pure_ (i := 12) (N := some 36) (v := undef) (a' := ?_) #[true, true, true, true, true, true, true, true, true, true, true, true, true, false, false] rfl rfl (any_of HT_.out (by kernel_rfl)) (fun _ _ _ h => h) (Or.inr ⟨by rfl, rfl⟩) ?_ ?_
    rotate_left
    ·simp only [Act.put, l1_32, l2_32, l3_32, i64_w, i32_w]
     rfl
    refine pure_ (i := 13) (N := some 37) (v := undef) (a' := ?_) #[true, true, true, true, true, true, true, true, true, true, true, true, true, true, false] rfl rfl (any_of HT_.out (by kernel_rfl)) (fun _ _ _ h => h) (Or.inr ⟨by rfl, rfl⟩) ?_ ?_
    rotate_left
    ·simp only [Act.put, l1_32, l2_32, l3_32, i64_w, i32_w]
     rfl
    refine pure_ (i := 14) (N := some 38) (v := ?_) (a' := ?_) #[true, true, true, true, true, true, true, true, true, true, true, true, true, true, true] rfl rfl (any_of HT_.out (by kernel_rfl)) (fun _ _ _ h => h) (Or.inl ⟨by rfl, ?_⟩) ?_ ?_
    rotate_left
    ·intro w'
     go_simp
     with_reducible rfl
    rotate_left
    ·simp only [Act.put, l1_32, l2_32, l3_32, i64_w, i32_w]
     rfl
    refine done_ (done_of HT_.out (by kernel_rfl)) ?_
    try go_wp2
    go_meet
    case rel => exact ⟨_, (true), (by first | rfl | (simp; done) | (simp [*]; done)), H', ⟨by first | omega | exact Nat.le_refl _⟩, ⟨by (with_reducible repeat (first | refine b1_32 ?_ _ | refine b3_32 ?_ | refine b2_32 ?_ _)); exact BK361.out⟩, ⟨by (with_reducible repeat (first | refine b1_32 ?_ _ | refine b3_32 ?_ | refine b2_32 ?_ _)); exact BK362.out⟩, ⟨by repeat (first | (with_reducible first | exact HB.out | apply b8_32 | apply b6_32 | apply b7_32 | refine b4_32 ?_ GE361.out | refine b4_32 ?_ GE362.out) | exact HB.out)⟩⟩
   ·rw [if_neg c14] at H
    have c14b0 : decide (100 < (l0_1.length : Int)) = false := decide_eq_false c14
    have c14b1 : decide (100 < l0_1.length) = false := decide_eq_false (by omega)
    clear c14
    (first | rw [c14b0] | (simp only [i64_w, i32_w]; rw [c14b0]) | skip)
    replace H := Option.bind_eq_some_iff.mp H
    obtain ⟨t365, A160, H⟩ := H
    replace H : ((proofmarkref13_Right.f k a0_0 l0_1).bind fun t366 => (proofmarklaw13_AigTells.j0 k a1 l2 l4 t363 (t365 != t366) a0_0 l0_1 a3_0 a3_1 a3_2 a3_3)) = some r := H
    have A16 := aM_32 A160
    clear A160
    replace H := Option.bind_eq_some_iff.mp H
    obtain ⟨t366, A170, H⟩ := H
    replace H : (proofmarklaw13_AigTells.j0 k a1 l2 l4 t363 (t365 != t366) a0_0 l0_1 a3_0 a3_1 a3_2 a3_3) = some r := H
    have A17 := aM_32 A170
    clear A170
    have H' := aM_32 H
    clear H
    try go_wp2
    have n0_ := aM_32 (b3_32 BK361.out)
    have n1_ := aM_32 (b3_32 BK362.out)
    have n2_ := aM_32 (b7_32 HB.out)
    clear BK361 BK362 HB
    have BK361 := n0_
    have BK362 := n1_
    have HB := n2_
    clear n0_ n1_ n2_
    refine start_ (n := 15) (S := fun w' => w'.cell? ⟨gb361, 0, none⟩ = some (.int .i64 a0_0) ∧ w'.cell? ⟨gb361, 1, none⟩ = some (.slice A0_1 l0_1.length c0_1)) (ds := []) #[false, false, false, false, false, false, false, false, false, false, false, false, false, false, false] (by kernel_rfl) rfl rfl ⟨(blk_cell BK361.out 0).trans rfl, (blk_cell BK361.out 1).trans rfl⟩ (fun hHeld => ?_); refine with_tabW proofmarklaw13_AigTells.tab2 proofmarklaw13_AigTells.bits2 (fun HT_ HW_ => ?_)
    generalize w10.drew = w18 at BK361 BK362 HB hHeld ⊢
    refine pure_ (i := 0) (N := some 24) (v := ?_) (a' := ?_) #[true, false, false, false, false, false, false, false, false, false, false, false, false, false, false] rfl rfl (any_of HT_.out (by kernel_rfl)) (fun _ _ _ h => h) (Or.inl ⟨by rfl, ?_⟩) ?_ ?_
    rotate_left
    ·intro w'
     go_simp
     with_reducible rfl
    rotate_left
    ·simp only [Act.put, l1_32, l2_32, l3_32, i64_w, i32_w]
     rfl
    refine one_ (i := 1) (N := some 25) #[true, true, false, false, false, false, false, false, false, false, false, false, false, false, false] rfl rfl (one_of HT_.out (by kernel_rfl)) (by decide) (fun K hK => ?_)
    refine goes_ Try.func11 (by kernel_rfl) rfl #[.slice A2 l2.length c2] (by rfl) rfl rfl (by (try simp only [List.map_toArray, List.map_cons, List.map_nil]); first | done | rfl | (simp only [List.length_drop, List.length_take]; rfl)) ?_
    with_reducible refine (proofmarklaw13_Great.calls _ _ l2 false _ ?side1 ?side2 A11.out).mono ?_
    (case side1 => repeat (first | exact (Kd.C_below HR2.out HB.out) | (with_reducible refine c3_32 ?_ _) | (with_reducible refine c4_32 ?_ _) | (with_reducible refine c5_32 ?_)))
    (case side2 => exact HC2.out)
    rintro e w' ⟨rfl, ⟨nd, rfl⟩⟩
    refine ⟨_, rfl, ?_⟩
    refine hK.out _ _ ⟨(blk_cell BK361.out 0).trans rfl, (blk_cell BK361.out 1).trans rfl⟩ (fun hHeld => ?_)
    clear hK K
    refine norm_ (a' := ?_) ?_ ?_
    rotate_left
    ·show Act.put _ (some 25) _ = _
     simp only [Act.put, l1_32, l2_32, l3_32, i64_w, i32_w]
     rfl
    refine pure_ (i := 2) (N := some 26) (v := ?_) (a' := ?_) #[true, true, true, false, false, false, false, false, false, false, false, false, false, false, false] rfl rfl (any_of HT_.out (by kernel_rfl)) (fun _ _ _ h => h) (Or.inl ⟨by rfl, ?_⟩) ?_ ?_
    rotate_left
    ·intro w'
     go_simp
     with_reducible rfl
    rotate_left
    ·simp only [Act.put, l1_32, l2_32, l3_32, i64_w, i32_w]
     rfl
    refine pure_ (i := 3) (N := some 27) (v := ?_) (a' := ?_) #[true, true, true, true, false, false, false, false, false, false, false, false, false, false, false] rfl rfl (any_of HT_.out (by kernel_rfl)) (fun _ _ _ h => h) (Or.inl ⟨by rfl, ?_⟩) ?_ ?_
    rotate_left
    ·intro w'
     go_simp
     with_reducible rfl
    rotate_left
    ·simp only [Act.put, l1_32, l2_32, l3_32, i64_w, i32_w]
     rfl
    refine take_ (i := 4) (N := some 28) (v := ?_) (a' := ?_) #[true, true, true, true, true, false, false, false, false, false, false, false, false, false, false] rfl rfl (take_ofW HT_.out HW_.out (by kernel_rfl)) (fun _ _ _ h => h) (Or.inl ⟨by rfl, ?_⟩) hHeld ?_ ?_
    rotate_left
    ·rintro w' ⟨s0, s1⟩
     go_simp
     with_reducible rfl
    rotate_left
    ·simp only [Act.put, l1_32, l2_32, l3_32, i64_w, i32_w]
     rfl
    refine pure_ (i := 5) (N := some 29) (v := ?_) (a' := ?_) #[true, true, true, true, true, true, false, false, false, false, false, false, false, false, false] rfl rfl (any_of HT_.out (by kernel_rfl)) (fun _ _ _ h => h) (Or.inl ⟨by rfl, ?_⟩) ?_ ?_
    rotate_left
    ·intro w'
     go_simp
     with_reducible rfl
    rotate_left
    ·simp only [Act.put, l1_32, l2_32, l3_32, i64_w, i32_w]
     rfl
    refine pure_ (i := 6) (N := some 30) (v := ?_) (a' := ?_) #[true, true, true, true, true, true, true, false, false, false, false, false, false, false, false] rfl rfl (any_of HT_.out (by kernel_rfl)) (fun _ _ _ h => h) (Or.inl ⟨by rfl, ?_⟩) ?_ ?_
    rotate_left
    ·intro w'
     go_simp
     with_reducible rfl
    rotate_left
    ·simp only [Act.put, l1_32, l2_32, l3_32, i64_w, i32_w]
     rfl
    refine pure_ (i := 7) (N := some 31) (v := ?_) (a' := ?_) #[true, true, true, true, true, true, true, true, false, false, false, false, false, false, false] rfl rfl (any_of HT_.out (by kernel_rfl)) (fun _ _ _ h => h) (Or.inl ⟨by rfl, ?_⟩) ?_ ?_
    rotate_left
    ·intro w'
     go_simp
     with_reducible rfl
    rotate_left
    ·simp only [Act.put, l1_32, l2_32, l3_32, i64_w, i32_w]
     rfl
    refine pure_ (i := 8) (N := some 32) (v := ?_) (a' := ?_) #[true, true, true, true, true, true, true, true, true, false, false, false, false, false, false] rfl rfl (any_of HT_.out (by kernel_rfl)) (fun _ _ _ h => h) (Or.inl ⟨by rfl, ?_⟩) ?_ ?_
    rotate_left
    ·intro w'
     go_simp
     with_reducible rfl
    rotate_left
    ·simp only [Act.put, l1_32, l2_32, l3_32, i64_w, i32_w]
     rfl
    refine take_ (i := 9) (N := some 33) (v := ?_) (a' := ?_) #[true, true, true, true, true, true, true, true, true, true, false, false, false, false, false] rfl rfl (take_ofW HT_.out HW_.out (by kernel_rfl)) (fun _ _ _ h => h) (Or.inl ⟨by rfl, ?_⟩) hHeld ?_ ?_
    rotate_left
    ·rintro w' ⟨s0, s1⟩
     go_simp
     with_reducible rfl
    rotate_left
    ·simp only [Act.put, l1_32, l2_32, l3_32, i64_w, i32_w]
     rfl
    refine take_ (i := 11) (N := some 35) (v := ?_) (a' := ?_) #[true, true, true, true, true, true, true, true, true, true, false, true, false, false, false] rfl rfl (take_ofW HT_.out HW_.out (by kernel_rfl)) (fun _ _ _ h => h) (Or.inl ⟨by rfl, ?_⟩) hHeld ?_ ?_
    rotate_left
    ·rintro w' ⟨s0, s1⟩
     go_simp
     with_reducible rfl
    rotate_left
    ·simp only [Act.put, l1_32, l2_32, l3_32, i64_w, i32_w]
     rfl
    refine one_ (i := 10) (N := some 34) #[true, true, true, true, true, true, true, true, true, true, true, true, false, false, false] rfl rfl (one_of HT_.out (by kernel_rfl)) (by decide) (fun K hK => ?_)
    refine goes_ Try.func12 (by kernel_rfl) rfl #[.agg #[.int .i64 a0_0, .slice A0_1 l0_1.length c0_1]] (by rfl) rfl rfl (by (try simp only [List.map_toArray, List.map_cons, List.map_nil]); first | done | rfl | (simp only [List.length_drop, List.length_take]; rfl)) ?_
    with_reducible refine (aig_Right.calls k a0_0 _ _ l0_1 t365 _ ?side1 ?side2 A16.out).mono ?_
    (case side1 => repeat (first | exact (Kd.C_below HR0_1.out (by repeat (first | (with_reducible first | exact HB.out | apply b8_32 | apply b6_32 | apply b7_32 | refine b4_32 ?_ GE361.out | refine b4_32 ?_ GE362.out) | exact HB.out))) | (with_reducible refine c3_32 ?_ _) | (with_reducible refine c4_32 ?_ _) | (with_reducible refine c5_32 ?_)))
    (case side2 => exact HC0_1.out)
    rintro e w19 ⟨rfl, hb⟩
    refine ⟨_, rfl, ?_⟩
    have n0_ := aM_32 (b5_32 (by exact BK361.out) hb)
    have n1_ := aM_32 (b5_32 (by exact BK362.out) hb)
    have n2_ := aM_32 (b9_32 (by repeat (first | (with_reducible first | exact HB.out | apply b8_32 | apply b6_32 | apply b7_32 | refine b4_32 ?_ GE361.out | refine b4_32 ?_ GE362.out) | exact HB.out)) hb)
    clear BK361 BK362 HB
    have BK361 := n0_
    have BK362 := n1_
    have HB := n2_
    clear n0_ n1_ n2_
    (try clear hb)
    (try clear hb2)
    (try clear hk)
    (try clear hi)
    refine hK.out _ _ ⟨(blk_cell BK361.out 0).trans rfl, (blk_cell BK361.out 1).trans rfl⟩ (fun hHeld => ?_)
    clear hK K
    refine norm_ (a' := ?_) ?_ ?_
    rotate_left
    ·show Act.put _ (some 34) _ = _
     simp only [Act.put, l1_32, l2_32, l3_32, i64_w, i32_w]
     rfl
    refine one_ (i := 12) (N := some 36) #[true, true, true, true, true, true, true, true, true, true, true, true, true, false, false] rfl rfl (one_of HT_.out (by kernel_rfl)) (by decide) (fun K hK => ?_)
    refine goes_ Try.func13 (by kernel_rfl) rfl #[.agg #[.int .i64 a0_0, .slice A0_1 l0_1.length c0_1]] (by rfl) rfl rfl (by (try simp only [List.map_toArray, List.map_cons, List.map_nil]); first | done | rfl | (simp only [List.length_drop, List.length_take]; rfl)) ?_
    with_reducible refine (proofmarkref13_Right.calls k a0_0 _ _ l0_1 t366 _ ?side1 ?side2 A17.out).mono ?_
    (case side1 => repeat (first | exact (Kd.C_below HR0_1.out HB.out) | (with_reducible refine c3_32 ?_ _) | (with_reducible refine c4_32 ?_ _) | (with_reducible refine c5_32 ?_)))
    (case side2 => exact HC0_1.out)
    rintro e w20 ⟨rfl, hb⟩
    refine ⟨_, rfl, ?_⟩
    have n0_ := aM_32 (b5_32 (by exact BK361.out) hb)
    have n1_ := aM_32 (b5_32 (by exact BK362.out) hb)
    have n2_ := aM_32 (b9_32 (by repeat (first | (with_reducible first | exact HB.out | apply b8_32 | apply b6_32 | apply b7_32 | refine b4_32 ?_ GE361.out | refine b4_32 ?_ GE362.out) | exact HB.out)) hb)
    clear BK361 BK362 HB
    have BK361 := n0_
    have BK362 := n1_
    have HB := n2_
    clear n0_ n1_ n2_
    (try clear hb)
    (try clear hb2)
    (try clear hk)
    (try clear hi)
    refine hK.out _ _ ⟨(blk_cell BK361.out 0).trans rfl, (blk_cell BK361.out 1).trans rfl⟩ (fun hHeld => ?_)
    clear hK K
    refine norm_ (a' := ?_) ?_ ?_
    rotate_left
    ·show Act.put _ (some 36) _ = _
     simp only [Act.put, l1_32, l2_32, l3_32, i64_w, i32_w]
     rfl
    refine pure_ (i := 13) (N := some 37) (v := ?_) (a' := ?_) #[true, true, true, true, true, true, true, true, true, true, true, true, true, true, false] rfl rfl (any_of HT_.out (by kernel_rfl)) (fun _ _ _ h => h) (Or.inl ⟨by rfl, ?_⟩) ?_ ?_
    rotate_left
    ·intro w'
     go_simp
     with_reducible rfl
    rotate_left
    ·simp only [Act.put, l1_32, l2_32, l3_32, i64_w, i32_w]
     rfl
    refine pure_ (i := 14) (N := some 38) (v := ?_) (a' := ?_) #[true, true, true, true, true, true, true, true, true, true, true, true, true, true, true] rfl rfl (any_of HT_.out (by kernel_rfl)) (fun _ _ _ h => h) (Or.inl ⟨by rfl, ?_⟩) ?_ ?_
    rotate_left
    ·intro w'
     go_simp
     with_reducible rfl
    rotate_left
    ·simp only [Act.put, l1_32, l2_32, l3_32, i64_w, i32_w]
     rfl
    refine done_ (done_of HT_.out (by kernel_rfl)) ?_
    try go_wp2
    go_meet
    case rel => exact ⟨_, ((t365 != t366)), (by first | rfl | (simp; done) | (simp [*]; done)), H', ⟨by first | omega | exact Nat.le_refl _⟩, ⟨by (with_reducible repeat (first | refine b1_32 ?_ _ | refine b3_32 ?_ | refine b2_32 ?_ _)); exact BK361.out⟩, ⟨by (with_reducible repeat (first | refine b1_32 ?_ _ | refine b3_32 ?_ | refine b2_32 ?_ _)); exact BK362.out⟩, ⟨by repeat (first | (with_reducible first | exact HB.out | apply b8_32 | apply b6_32 | apply b7_32 | refine b4_32 ?_ GE361.out | refine b4_32 ?_ GE362.out) | exact HB.out)⟩⟩
 case rest =>
  clear HC7
  try clear c1
  try clear c2
  try clear p2
  try clear c3
  try clear c4
  try clear c10
  try clear c11
  try clear c12
  try clear c13
  try clear c14
  try clear c14b0
  try clear c14b1
  obtain ⟨kq, x38_6, rfl, HA, HJ6, BK361, BK362, HB⟩ := hcut
  cases kq with
  | zero => exact absurd HA.out (by simp [proofmarklaw13_AigTells.j0])
  | succ kj6 =>
   have H := HA.out
   clear HA
   simp only [proofmarklaw13_AigTells.j0] at H
   by_cases c21 : x38_6 = true
   ·subst c21
    have H1 : (if t363 = true then ((proofmarklaw13_Great.f l2).bind fun t367 => (if t367 = true then (some true) else (some (decide ((l0_1.length : Int) > 100))))) else (none)) = some r := by rw [if_pos rfl] at H; exact H
    clear H
    have H := H1
    clear H1
    by_cases c22 : t363 = true
    ·subst c22
     have H1 : ((proofmarklaw13_Great.f l2).bind fun t367 => (if t367 = true then (some true) else (some (decide ((l0_1.length : Int) > 100))))) = some r := by rw [if_pos rfl] at H; exact H
     clear H
     have H := H1
     clear H1
     replace H := Option.bind_eq_some_iff.mp H
     obtain ⟨t367, A230, H⟩ := H
     replace H : (if t367 = true then (some true) else (some (decide ((l0_1.length : Int) > 100)))) = some r := H
     have A23 := aM_32 A230
     clear A230
     by_cases c24 : t367 = true
     ·subst c24
      have H1 : (some true) = some r := by rw [if_pos rfl] at H; exact H
      clear H
      have H := H1
      clear H1
      obtain rfl := Option.some.inj H
      go_wp2_with (first | (go_at_call 11; (with_reducible refine (proofmarklaw13_Great.calls _ _ l2 true _ ?side1 ?side2 A23.out).mono ?_); (case side1 => repeat (first | exact (Kd.C_below HR2.out HB.out) | (with_reducible refine c3_32 ?_ _) | (with_reducible refine c4_32 ?_ _) | (with_reducible refine c5_32 ?_))); (case side2 => exact HC2.out); rintro e w' ⟨rfl, ⟨nd, rfl⟩⟩))
      go_ret
      exact ⟨by first | rfl | (simp [errW_none, errW_some] <;> rfl) | (simp [*, errW_none, errW_some] <;> rfl), by repeat (first | (with_reducible first | exact HB.out | apply b8_32 | apply b6_32 | apply b7_32 | refine b4_32 ?_ GE361.out | refine b4_32 ?_ GE362.out) | exact HB.out)⟩
     ·replace c24 := Bool.eq_false_iff.mpr c24
      subst c24
      have H1 : (some (decide ((l0_1.length : Int) > 100))) = some r := by rw [if_neg (show ¬ (false = true) by decide)] at H; exact H
      clear H
      have H := H1
      clear H1
      obtain rfl := Option.some.inj H
      go_wp2_with (first | (go_at_call 11; (with_reducible refine (proofmarklaw13_Great.calls _ _ l2 false _ ?side1 ?side2 A23.out).mono ?_); (case side1 => repeat (first | exact (Kd.C_below HR2.out HB.out) | (with_reducible refine c3_32 ?_ _) | (with_reducible refine c4_32 ?_ _) | (with_reducible refine c5_32 ?_))); (case side2 => exact HC2.out); rintro e w' ⟨rfl, ⟨nd, rfl⟩⟩; have hnb25 := NB361_362.out; have hnc25 := NB362_361.out; obtain ⟨hcz26_0, hcz26_1, hfz26_0, hfz26_1⟩ := cells2_32 BK361.out))
      go_ret
      exact ⟨by first | rfl | (simp [errW_none, errW_some] <;> rfl) | (simp [*, errW_none, errW_some] <;> rfl), by repeat (first | (with_reducible first | exact HB.out | apply b8_32 | apply b6_32 | apply b7_32 | refine b4_32 ?_ GE361.out | refine b4_32 ?_ GE362.out) | exact HB.out)⟩
    ·replace c22 := Bool.eq_false_iff.mpr c22
     subst c22
     have H1 : (none) = some r := by rw [if_neg (show ¬ (false = true) by decide)] at H; exact H
     clear H
     have H := H1
     clear H1
     exact absurd H (by simp)
   ·replace c21 := Bool.eq_false_iff.mpr c21
    subst c21
    have H1 : ((proofmarklaw13_Made.f kj6 a1 l2).bind fun bt368 => ((proofmarklaw13_literal.f bt368.1 bt368.2.1 a3_1).bind fun t376 => ((proofmarklaw13_literal.f bt368.1 bt368.2.1 a3_2).bind fun t377 => ((proofmarklaw13_literal.f bt368.1 bt368.2.1 a3_3).bind fun t378 => ((aig_And.f kj6 bt368.1 bt368.2.1 t376 t377).bind fun bt379 => ((proofmarkref13_And.f kj6 bt368.1 bt368.2.1 t376 t377).bind fun bt385 => ((proofmarkref13_Same.f kj6 bt379.1 bt379.2.1 bt385.1 bt385.2.1).bind fun t391 => (if t391 = true then (proofmarklaw13_AigTells.j1 kj6 a1 l4 t363 t376 t377 t378 (bt379.2.2 != bt385.2.2) bt368.1 bt368.2.1) else (proofmarklaw13_AigTells.j1 kj6 a1 l4 t363 t376 t377 t378 true bt368.1 bt368.2.1))))))))) = some r := by rw [if_neg (show ¬ (false = true) by decide)] at H; exact H
    clear H
    have H := H1
    clear H1
    replace H := Option.bind_eq_some_iff.mp H
    obtain ⟨⟨t368, t369, t372⟩, A270, H⟩ := H
    replace H : ((proofmarklaw13_literal.f t368 t369 a3_1).bind fun t376 => ((proofmarklaw13_literal.f t368 t369 a3_2).bind fun t377 => ((proofmarklaw13_literal.f t368 t369 a3_3).bind fun t378 => ((aig_And.f kj6 t368 t369 t376 t377).bind fun bt379 => ((proofmarkref13_And.f kj6 t368 t369 t376 t377).bind fun bt385 => ((proofmarkref13_Same.f kj6 bt379.1 bt379.2.1 bt385.1 bt385.2.1).bind fun t391 => (if t391 = true then (proofmarklaw13_AigTells.j1 kj6 a1 l4 t363 t376 t377 t378 (bt379.2.2 != bt385.2.2) t368 t369) else (proofmarklaw13_AigTells.j1 kj6 a1 l4 t363 t376 t377 t378 true t368 t369)))))))) = some r := H
    have A27 := aM_32 A270
    clear A270
    replace H := Option.bind_eq_some_iff.mp H
    obtain ⟨t376, A280, H⟩ := H
    replace H : ((proofmarklaw13_literal.f t368 t369 a3_2).bind fun t377 => ((proofmarklaw13_literal.f t368 t369 a3_3).bind fun t378 => ((aig_And.f kj6 t368 t369 t376 t377).bind fun bt379 => ((proofmarkref13_And.f kj6 t368 t369 t376 t377).bind fun bt385 => ((proofmarkref13_Same.f kj6 bt379.1 bt379.2.1 bt385.1 bt385.2.1).bind fun t391 => (if t391 = true then (proofmarklaw13_AigTells.j1 kj6 a1 l4 t363 t376 t377 t378 (bt379.2.2 != bt385.2.2) t368 t369) else (proofmarklaw13_AigTells.j1 kj6 a1 l4 t363 t376 t377 t378 true t368 t369))))))) = some r := H
    have A28 := aM_32 A280
    clear A280
    replace H := Option.bind_eq_some_iff.mp H
    obtain ⟨t377, A290, H⟩ := H
    replace H : ((proofmarklaw13_literal.f t368 t369 a3_3).bind fun t378 => ((aig_And.f kj6 t368 t369 t376 t377).bind fun bt379 => ((proofmarkref13_And.f kj6 t368 t369 t376 t377).bind fun bt385 => ((proofmarkref13_Same.f kj6 bt379.1 bt379.2.1 bt385.1 bt385.2.1).bind fun t391 => (if t391 = true then (proofmarklaw13_AigTells.j1 kj6 a1 l4 t363 t376 t377 t378 (bt379.2.2 != bt385.2.2) t368 t369) else (proofmarklaw13_AigTells.j1 kj6 a1 l4 t363 t376 t377 t378 true t368 t369)))))) = some r := H
    have A29 := aM_32 A290
    clear A290
    replace H := Option.bind_eq_some_iff.mp H
    obtain ⟨t378, A300, H⟩ := H
    replace H : ((aig_And.f kj6 t368 t369 t376 t377).bind fun bt379 => ((proofmarkref13_And.f kj6 t368 t369 t376 t377).bind fun bt385 => ((proofmarkref13_Same.f kj6 bt379.1 bt379.2.1 bt385.1 bt385.2.1).bind fun t391 => (if t391 = true then (proofmarklaw13_AigTells.j1 kj6 a1 l4 t363 t376 t377 t378 (bt379.2.2 != bt385.2.2) t368 t369) else (proofmarklaw13_AigTells.j1 kj6 a1 l4 t363 t376 t377 t378 true t368 t369))))) = some r := H
    have A30 := aM_32 A300
    clear A300
    replace H := Option.bind_eq_some_iff.mp H
    obtain ⟨⟨t379, t380, t383⟩, A310, H⟩ := H
    replace H : ((proofmarkref13_And.f kj6 t368 t369 t376 t377).bind fun bt385 => ((proofmarkref13_Same.f kj6 t379 t380 bt385.1 bt385.2.1).bind fun t391 => (if t391 = true then (proofmarklaw13_AigTells.j1 kj6 a1 l4 t363 t376 t377 t378 (t383 != bt385.2.2) t368 t369) else (proofmarklaw13_AigTells.j1 kj6 a1 l4 t363 t376 t377 t378 true t368 t369)))) = some r := H
    have A31 := aM_32 A310
    clear A310
    replace H := Option.bind_eq_some_iff.mp H
    obtain ⟨⟨t385, t386, t389⟩, A320, H⟩ := H
    replace H : ((proofmarkref13_Same.f kj6 t379 t380 t385 t386).bind fun t391 => (if t391 = true then (proofmarklaw13_AigTells.j1 kj6 a1 l4 t363 t376 t377 t378 (t383 != t389) t368 t369) else (proofmarklaw13_AigTells.j1 kj6 a1 l4 t363 t376 t377 t378 true t368 t369))) = some r := H
    have A32 := aM_32 A320
    clear A320
    have HC33 := aM_32 H
    clear H
    go_upto_region 10 with (first | ((with_reducible refine gate_callee (f := 14) rfl ?_); refine goesL_ (some 53) rfl rfl Try.func14 (by kernel_rfl) rfl #[.int .u8 a1, .slice A2 l2.length c2] rfl (by (try simp only [List.map_toArray, List.map_cons, List.map_nil]); first | done | rfl | (simp only [List.length_drop, List.length_take]; rfl)) ?_; (with_reducible refine (proofmarklaw13_Made.calls kj6 a1 _ _ l2 t368 t369 t372 _ ?side1 ?side2 A27.out).mono ?_); (case side1 => repeat (first | exact (Kd.C_below HR2.out HB.out) | (with_reducible refine c3_32 ?_ _) | (with_reducible refine c4_32 ?_ _) | (with_reducible refine c5_32 ?_))); (case side2 => exact HC2.out); rintro e w34 ⟨v370, v373, rfl, ho0, ho1, hb⟩; refine ⟨_, rfl, ?_⟩; have n0_ := aM_32 (v8_32 (v4_32 (ok' := fun k_ => some k_ ≠ (v373 : Value).ownBlock ∧ k_ ≠ gb361 ∧ k_ ≠ gb362) ho0 (fun k_ hk_ => ⟨hk_.2, (f1_32 (g := gb361) (o := .cells #[.int .i64 a0_0, .slice A0_1 l0_1.length c0_1] 24 (0, 0)) (by exact BK361.out) k_ hk_.1), (f1_32 (g := gb362) (o := .cells #[.int .u8 a3_0, .int .u16 a3_1, .int .u16 a3_2, .int .u16 a3_3] 28 (0, 0)) (by exact BK362.out) k_ hk_.1)⟩)) (b0_32 (by repeat (first | (with_reducible first | exact HB.out | apply b8_32 | apply b6_32 | apply b7_32 | refine b4_32 ?_ GE361.out | refine b4_32 ?_ GE362.out) | exact HB.out)))); have n1_ := aM_32 (Kd.R_lower (Kd.R_mono (ok' := fun k_ => True) ho1 (fun _ hk_ => trivial)) (b0_32 (by repeat (first | (with_reducible first | exact HB.out | apply b8_32 | apply b6_32 | apply b7_32 | refine b4_32 ?_ GE361.out | refine b4_32 ?_ GE362.out) | exact HB.out)))); have n2_ := aM_32 (b5_32 (by exact BK361.out) hb); have n3_ := aM_32 (b5_32 (by exact BK362.out) hb); have n4_ := aM_32 (b9_32 (by repeat (first | (with_reducible first | exact HB.out | apply b8_32 | apply b6_32 | apply b7_32 | refine b4_32 ?_ GE361.out | refine b4_32 ?_ GE362.out) | exact HB.out)) hb); clear BK361 BK362 HB; have HO371 := n0_; have HO374 := n1_; have BK361 := n2_; have BK362 := n3_; have HB := n4_; clear n0_ n1_ n2_ n3_ n4_; (try clear hb); (try clear hb2); (try clear hk); (try clear hi); (try clear ho0); (try clear ho1)) | ((with_reducible refine gate_dst (N := 12) rfl ?_); (try (refine gate_guard (by rfl) ?_; dsimp only)); refine box_event ?hg (N := 12) ?hd (cs := #[.int .i64 0, .slice none 0 0]) (t := 24) ?hr ?_; (case hd => rfl); (case hg => rfl); (case hr => first | (go_simp; done) | (go_simp; rfl)); intro gb375 hg w35 hbox hb; have n0_ := aM_32 (v6_32 (Kd.V_elderB (by (with_reducible repeat (first | apply v1_32 | apply v2_32 | apply v3_32)); exact HO371.out) gb375 (Nat.le_of_eq hg.symm)) hb); have n1_ := aM_32 (r4_32 (by (with_reducible repeat (first | apply r1_32 | apply r2_32 | apply r3_32)); exact HO374.out) hb); have n2_ := aM_32 (b5_32 (by exact BK361.out) hb); have n3_ := aM_32 (b5_32 (by exact BK362.out) hb); have n4_ := aM_32 (b9_32 (by repeat (first | (with_reducible first | exact HB.out | apply b8_32 | apply b6_32 | apply b7_32 | refine b4_32 ?_ GE361.out | refine b4_32 ?_ GE362.out) | exact HB.out)) hb); have n5_ := aM_32 (hbox); have n6_ := aM_32 ((by rw [hg]; exact (b0_32 (by repeat (first | (with_reducible first | exact HB.out | apply b8_32 | apply b6_32 | apply b7_32 | refine b4_32 ?_ GE361.out | refine b4_32 ?_ GE362.out) | exact HB.out))) : w.heap.size ≤ gb375)); have n7_ := aM_32 ((by rw [hg]; exact (b0_32 (by repeat (first | (with_reducible first | exact HB.out | apply b8_32 | apply b6_32 | apply b7_32 | refine b4_32 ?_ GE361.out | refine b4_32 ?_ GE362.out) | exact HB.out))) : w.heap.size ≤ gb375)); have n8_ := aM_32 ((by rw [hg]; exact Nat.ne_of_lt (blk_lt (by exact BK361.out)) : gb361 ≠ gb375)); have n9_ := aM_32 ((by rw [hg]; exact Nat.ne_of_gt (blk_lt (by exact BK361.out)) : gb375 ≠ gb361)); have n10_ := aM_32 ((by rw [hg]; exact Nat.ne_of_lt (blk_lt (by exact BK362.out)) : gb362 ≠ gb375)); have n11_ := aM_32 ((by rw [hg]; exact Nat.ne_of_gt (blk_lt (by exact BK362.out)) : gb375 ≠ gb362)); clear HO371 HO374 BK361 BK362 HB; have HO371 := n0_; have HO374 := n1_; have BK361 := n2_; have BK362 := n3_; have HB := n4_; have BK375 := n5_; have GW375 := n6_; have GE375 := n7_; have NB361_375 := n8_; have NB375_361 := n9_; have NB362_375 := n10_; have NB375_362 := n11_; clear n0_ n1_ n2_ n3_ n4_ n5_ n6_ n7_ n8_ n9_ n10_ n11_; clear hb hbox hg; have hnb36 := NB375_361.out; have hnc36 := NB361_375.out; have hnb37 := NB375_362.out; have hnc37 := NB362_375.out; obtain ⟨hcz38_0, hcz38_1, hfz38_0, hfz38_1⟩ := cells2_32 BK375.out; obtain ⟨Ao39, co39, eo39⟩ := Kd.V_slice HO371.out; subst eo39; have hnb40 := NB362_361.out; have hnc40 := NB361_362.out; obtain ⟨hcz41_0, hcz41_1, hcz41_2, hcz41_3, hfz41_0, hfz41_1, hfz41_2, hfz41_3⟩ := cells4_32 BK362.out) | ((with_reducible refine gate_callee (f := 15) rfl ?_); refine goesL_ (some 59) rfl rfl Try.func15 (by kernel_rfl) rfl #[.agg #[.int .i64 t368, .slice Ao39 t369.length co39], .int .u16 a3_1] rfl (by (try simp only [List.map_toArray, List.map_cons, List.map_nil]); first | done | rfl | (simp only [List.length_drop, List.length_take]; rfl)) ?_; (with_reducible refine (proofmarklaw13_literal.calls t368 _ _ t369 a3_1 t376 _ ?side1 ?side2 A28.out).mono ?_); (case side1 => refine (Kd.V_reads' (e := 50) (base := w.heap.size) (ok := fun k_ => ((some k_ ≠ (v373 : Value).ownBlock ∧ (k_ ≠ gb361 ∧ k_ ≠ gb362)) ∧ k_ ≠ gb375)) (n := t369.length) (c := co39) ?_).2.2; exact (by (with_reducible repeat (first | apply v1_32 | apply v2_32 | apply v3_32)); exact (v4_32 (v5_32 (p := ⟨gb375, 1, none⟩) (v5_32 (p := ⟨gb375, 0, none⟩) (v4_32 HO371.out (fun k_ hk => (⟨hk, hk.2⟩ : _ ∧ k_ ≠ gb375))) (fun _ hk => hk.2) (.int .i64 t368)) (fun _ hk => hk.2) (.slice Ao39 t369.length co39)) (fun _ h_ => h_.1)))); (case side2 => exact (Kd.V_reads' HO371.out).2.1); rintro e w42 ⟨rfl, hb⟩; refine ⟨_, rfl, ?_⟩; have n0_ := aM_32 (v6_32 (by (with_reducible repeat (first | apply v1_32 | apply v2_32 | apply v3_32)); exact (v4_32 (v5_32 (p := ⟨gb375, 1, none⟩) (v5_32 (p := ⟨gb375, 0, none⟩) (v4_32 HO371.out (fun k_ hk => (⟨hk, hk.2⟩ : _ ∧ k_ ≠ gb375))) (fun _ hk => hk.2) (.int .i64 t368)) (fun _ hk => hk.2) (.slice Ao39 t369.length co39)) (fun _ h_ => h_.1))) hb); have n1_ := aM_32 (r4_32 (by (with_reducible repeat (first | apply r1_32 | apply r2_32 | apply r3_32)); exact (Kd.R_mono (Kd.R_far (p := ⟨gb375, 1, none⟩) (Kd.R_far (p := ⟨gb375, 0, none⟩) (Kd.R_types HO374.out BK375.out (by decide)) (fun _ hk => hk.2) (.int .i64 t368)) (fun _ hk => hk.2) (.slice Ao39 t369.length co39)) (fun _ h_ => h_.1))) hb); have n2_ := aM_32 (b5_32 (g := gb361) (o := .cells #[.int .i64 a0_0, .slice A0_1 l0_1.length c0_1] 24 (0, 0)) (by (with_reducible repeat (first | refine b1_32 ?_ _ | refine b3_32 ?_ | refine b2_32 ?_ _)); refine c2_32 ?_ NB361_375.out _; (with_reducible repeat (first | refine b1_32 ?_ _ | refine b3_32 ?_ | refine b2_32 ?_ _)); refine c2_32 ?_ NB361_375.out _; (with_reducible repeat (first | refine b1_32 ?_ _ | refine b3_32 ?_ | refine b2_32 ?_ _)); exact BK361.out) hb); have n3_ := aM_32 (b5_32 (g := gb362) (o := .cells #[.int .u8 a3_0, .int .u16 a3_1, .int .u16 a3_2, .int .u16 a3_3] 28 (0, 0)) (by (with_reducible repeat (first | refine b1_32 ?_ _ | refine b3_32 ?_ | refine b2_32 ?_ _)); refine c2_32 ?_ NB362_375.out _; (with_reducible repeat (first | refine b1_32 ?_ _ | refine b3_32 ?_ | refine b2_32 ?_ _)); refine c2_32 ?_ NB362_375.out _; (with_reducible repeat (first | refine b1_32 ?_ _ | refine b3_32 ?_ | refine b2_32 ?_ _)); exact BK362.out) hb); have n4_ := aM_32 (b5_32 (g := gb375) (o := .cells #[.int .i64 t368, .slice Ao39 t369.length co39] 24 (0, 0)) (by (with_reducible repeat (first | refine b1_32 ?_ _ | refine b3_32 ?_ | refine b2_32 ?_ _)); refine c1_32 (cs := #[.int .i64 t368, .slice none 0 0]) ?_ 1 _ rfl; (with_reducible repeat (first | refine b1_32 ?_ _ | refine b3_32 ?_ | refine b2_32 ?_ _)); refine c1_32 (cs := #[.int .i64 0, .slice none 0 0]) ?_ 0 _ rfl; (with_reducible repeat (first | refine b1_32 ?_ _ | refine b3_32 ?_ | refine b2_32 ?_ _)); exact BK375.out) hb); have n5_ := aM_32 (b9_32 (by repeat (first | (with_reducible first | exact HB.out | apply b8_32 | apply b6_32 | apply b7_32 | refine b4_32 ?_ GE361.out | refine b4_32 ?_ GE362.out | refine b4_32 ?_ GE375.out) | exact HB.out)) hb); clear HO371 HO374 BK361 BK362 BK375 HB; have HO371 := n0_; have HO374 := n1_; have BK361 := n2_; have BK362 := n3_; have BK375 := n4_; have HB := n5_; clear n0_ n1_ n2_ n3_ n4_ n5_; (try clear hb); (try clear hb2); (try clear hk); (try clear hi); obtain ⟨hcz43_0, hcz43_1, hfz43_0, hfz43_1⟩ := cells2_32 BK375.out; obtain ⟨hcz44_0, hcz44_1, hcz44_2, hcz44_3, hfz44_0, hfz44_1, hfz44_2, hfz44_3⟩ := cells4_32 BK362.out) | ((with_reducible refine gate_callee (f := 15) rfl ?_); refine goesL_ (some 63) rfl rfl Try.func15 (by kernel_rfl) rfl #[.agg #[.int .i64 t368, .slice Ao39 t369.length co39], .int .u16 a3_2] rfl (by (try simp only [List.map_toArray, List.map_cons, List.map_nil]); first | done | rfl | (simp only [List.length_drop, List.length_take]; rfl)) ?_; (with_reducible refine (proofmarklaw13_literal.calls t368 _ _ t369 a3_2 t377 _ ?side1 ?side2 A29.out).mono ?_); (case side1 => repeat (first | exact (Kd.V_reads' HO371.out).2.2 | (with_reducible refine c3_32 ?_ _) | (with_reducible refine c4_32 ?_ _) | (with_reducible refine c5_32 ?_))); (case side2 => exact (Kd.V_reads' HO371.out).2.1); rintro e w45 ⟨rfl, hb⟩; refine ⟨_, rfl, ?_⟩; have n0_ := aM_32 (v6_32 (by (with_reducible repeat (first | apply v1_32 | apply v2_32 | apply v3_32)); exact HO371.out) hb); have n1_ := aM_32 (r4_32 (by (with_reducible repeat (first | apply r1_32 | apply r2_32 | apply r3_32)); exact HO374.out) hb); have n2_ := aM_32 (b5_32 (by exact BK361.out) hb); have n3_ := aM_32 (b5_32 (by exact BK362.out) hb); have n4_ := aM_32 (b5_32 (by exact BK375.out) hb); have n5_ := aM_32 (b9_32 (by repeat (first | (with_reducible first | exact HB.out | apply b8_32 | apply b6_32 | apply b7_32 | refine b4_32 ?_ GE361.out | refine b4_32 ?_ GE362.out | refine b4_32 ?_ GE375.out) | exact HB.out)) hb); clear HO371 HO374 BK361 BK362 BK375 HB; have HO371 := n0_; have HO374 := n1_; have BK361 := n2_; have BK362 := n3_; have BK375 := n4_; have HB := n5_; clear n0_ n1_ n2_ n3_ n4_ n5_; (try clear hb); (try clear hb2); (try clear hk); (try clear hi); obtain ⟨hcz46_0, hcz46_1, hfz46_0, hfz46_1⟩ := cells2_32 BK375.out; obtain ⟨hcz47_0, hcz47_1, hcz47_2, hcz47_3, hfz47_0, hfz47_1, hfz47_2, hfz47_3⟩ := cells4_32 BK362.out) | ((with_reducible refine gate_callee (f := 15) rfl ?_); refine goesL_ (some 67) rfl rfl Try.func15 (by kernel_rfl) rfl #[.agg #[.int .i64 t368, .slice Ao39 t369.length co39], .int .u16 a3_3] rfl (by (try simp only [List.map_toArray, List.map_cons, List.map_nil]); first | done | rfl | (simp only [List.length_drop, List.length_take]; rfl)) ?_; (with_reducible refine (proofmarklaw13_literal.calls t368 _ _ t369 a3_3 t378 _ ?side1 ?side2 A30.out).mono ?_); (case side1 => repeat (first | exact (Kd.V_reads' HO371.out).2.2 | (with_reducible refine c3_32 ?_ _) | (with_reducible refine c4_32 ?_ _) | (with_reducible refine c5_32 ?_))); (case side2 => exact (Kd.V_reads' HO371.out).2.1); rintro e w48 ⟨rfl, hb⟩; refine ⟨_, rfl, ?_⟩; have n0_ := aM_32 (v6_32 (by (with_reducible repeat (first | apply v1_32 | apply v2_32 | apply v3_32)); exact HO371.out) hb); have n1_ := aM_32 (r4_32 (by (with_reducible repeat (first | apply r1_32 | apply r2_32 | apply r3_32)); exact HO374.out) hb); have n2_ := aM_32 (b5_32 (by exact BK361.out) hb); have n3_ := aM_32 (b5_32 (by exact BK362.out) hb); have n4_ := aM_32 (b5_32 (by exact BK375.out) hb); have n5_ := aM_32 (b9_32 (by repeat (first | (with_reducible first | exact HB.out | apply b8_32 | apply b6_32 | apply b7_32 | refine b4_32 ?_ GE361.out | refine b4_32 ?_ GE362.out | refine b4_32 ?_ GE375.out) | exact HB.out)) hb); clear HO371 HO374 BK361 BK362 BK375 HB; have HO371 := n0_; have HO374 := n1_; have BK361 := n2_; have BK362 := n3_; have BK375 := n4_; have HB := n5_; clear n0_ n1_ n2_ n3_ n4_ n5_; (try clear hb); (try clear hb2); (try clear hk); (try clear hi); obtain ⟨hcz49_0, hcz49_1, hfz49_0, hfz49_1⟩ := cells2_32 BK375.out) | ((with_reducible refine gate_callee (f := 16) rfl ?_); refine goesL_ (some 72) rfl rfl Try.func16 (by kernel_rfl) rfl #[.agg #[.int .i64 t368, .slice Ao39 t369.length co39], .int .i64 t376, .int .i64 t377] rfl (by (try simp only [List.map_toArray, List.map_cons, List.map_nil]); first | done | rfl | (simp only [List.length_drop, List.length_take]; rfl)) ?_; (with_reducible refine (aig_And.calls kj6 t368 (fun k_ => ((some k_ ≠ (v373 : Value).ownBlock ∧ (k_ ≠ gb361 ∧ k_ ≠ gb362)) ∧ k_ ≠ gb375)) _ _ t369 t376 t377 t379 t380 t383 _ ?side1 A31.out).mono ?_); (case side1 => exact HO371.out); rintro e w50 ⟨v381, rfl, ho0, hb⟩; refine ⟨_, rfl, ?_⟩; have n0_ := aM_32 (v6_32 (by (with_reducible repeat (first | apply v1_32 | apply v2_32 | apply v3_32)); exact HO371.out) hb); have n1_ := aM_32 (r4_32 (by (with_reducible repeat (first | apply r1_32 | apply r2_32 | apply r3_32)); exact HO374.out) hb); have n2_ := aM_32 (v8_32 (v4_32 (ok' := fun k_ => some k_ ≠ (v373 : Value).ownBlock ∧ k_ ≠ gb361 ∧ k_ ≠ gb362 ∧ k_ ≠ gb375) ho0 (fun k_ hk_ => ⟨Or.elim hk_ (fun hs_ => hs_.1.1) (fun hn_ => (Kd.fresh' (Kd.R_lt (by (with_reducible repeat (first | apply r1_32 | apply r2_32 | apply r3_32)); exact HO374.out)) k_ hn_)), Or.elim hk_ (fun hs_ => hs_.1.2.1) (fun hn_ => (f1_32 (g := gb361) (o := .cells #[.int .i64 a0_0, .slice A0_1 l0_1.length c0_1] 24 (0, 0)) (by exact BK361.out) k_ hn_)), Or.elim hk_ (fun hs_ => hs_.1.2.2) (fun hn_ => (f1_32 (g := gb362) (o := .cells #[.int .u8 a3_0, .int .u16 a3_1, .int .u16 a3_2, .int .u16 a3_3] 28 (0, 0)) (by exact BK362.out) k_ hn_)), Or.elim hk_ (fun hs_ => hs_.2) (fun hn_ => (f1_32 (g := gb375) (o := .cells #[.int .i64 t368, .slice Ao39 t369.length co39] 24 (0, 0)) (by exact BK375.out) k_ hn_))⟩)) (b0_32 (by repeat (first | (with_reducible first | exact HB.out | apply b8_32 | apply b6_32 | apply b7_32 | refine b4_32 ?_ GE361.out | refine b4_32 ?_ GE362.out | refine b4_32 ?_ GE375.out) | exact HB.out)))); have n3_ := aM_32 (b5_32 (by exact BK361.out) hb); have n4_ := aM_32 (b5_32 (by exact BK362.out) hb); have n5_ := aM_32 (b5_32 (by exact BK375.out) hb); have n6_ := aM_32 (b9_32 (by repeat (first | (with_reducible first | exact HB.out | apply b8_32 | apply b6_32 | apply b7_32 | refine b4_32 ?_ GE361.out | refine b4_32 ?_ GE362.out | refine b4_32 ?_ GE375.out) | exact HB.out)) hb); clear HO371 HO374 BK361 BK362 BK375 HB; have HO371 := n0_; have HO374 := n1_; have HO382 := n2_; have BK361 := n3_; have BK362 := n4_; have BK375 := n5_; have HB := n6_; clear n0_ n1_ n2_ n3_ n4_ n5_ n6_; (try clear hb); (try clear hb2); (try clear hk); (try clear hi); (try clear ho0)) | ((with_reducible refine gate_dst (N := 17) rfl ?_); (try (refine gate_guard (by rfl) ?_; dsimp only)); refine box_event ?hg (N := 17) ?hd (cs := #[.int .i64 0, .slice none 0 0]) (t := 24) ?hr ?_; (case hd => rfl); (case hg => rfl); (case hr => first | (go_simp; done) | (go_simp; rfl)); intro gb384 hg w51 hbox hb; have n0_ := aM_32 (v6_32 (Kd.V_elderB (by (with_reducible repeat (first | apply v1_32 | apply v2_32 | apply v3_32)); exact HO371.out) gb384 (Nat.le_of_eq hg.symm)) hb); have n1_ := aM_32 (r4_32 (by (with_reducible repeat (first | apply r1_32 | apply r2_32 | apply r3_32)); exact HO374.out) hb); have n2_ := aM_32 (v6_32 (Kd.V_elderB (by (with_reducible repeat (first | apply v1_32 | apply v2_32 | apply v3_32)); exact HO382.out) gb384 (Nat.le_of_eq hg.symm)) hb); have n3_ := aM_32 (b5_32 (by exact BK361.out) hb); have n4_ := aM_32 (b5_32 (by exact BK362.out) hb); have n5_ := aM_32 (b5_32 (by exact BK375.out) hb); have n6_ := aM_32 (b9_32 (by repeat (first | (with_reducible first | exact HB.out | apply b8_32 | apply b6_32 | apply b7_32 | refine b4_32 ?_ GE361.out | refine b4_32 ?_ GE362.out | refine b4_32 ?_ GE375.out) | exact HB.out)) hb); have n7_ := aM_32 (hbox); have n8_ := aM_32 ((by rw [hg]; exact (b0_32 (by repeat (first | (with_reducible first | exact HB.out | apply b8_32 | apply b6_32 | apply b7_32 | refine b4_32 ?_ GE361.out | refine b4_32 ?_ GE362.out | refine b4_32 ?_ GE375.out) | exact HB.out))) : w.heap.size ≤ gb384)); have n9_ := aM_32 ((by rw [hg]; exact (b0_32 (by repeat (first | (with_reducible first | exact HB.out | apply b8_32 | apply b6_32 | apply b7_32 | refine b4_32 ?_ GE361.out | refine b4_32 ?_ GE362.out | refine b4_32 ?_ GE375.out) | exact HB.out))) : w.heap.size ≤ gb384)); have n10_ := aM_32 ((by rw [hg]; exact Nat.ne_of_lt (blk_lt (by exact BK361.out)) : gb361 ≠ gb384)); have n11_ := aM_32 ((by rw [hg]; exact Nat.ne_of_gt (blk_lt (by exact BK361.out)) : gb384 ≠ gb361)); have n12_ := aM_32 ((by rw [hg]; exact Nat.ne_of_lt (blk_lt (by exact BK362.out)) : gb362 ≠ gb384)); have n13_ := aM_32 ((by rw [hg]; exact Nat.ne_of_gt (blk_lt (by exact BK362.out)) : gb384 ≠ gb362)); have n14_ := aM_32 ((by rw [hg]; exact Nat.ne_of_lt (blk_lt (by exact BK375.out)) : gb375 ≠ gb384)); have n15_ := aM_32 ((by rw [hg]; exact Nat.ne_of_gt (blk_lt (by exact BK375.out)) : gb384 ≠ gb375)); clear HO371 HO374 HO382 BK361 BK362 BK375 HB; have HO371 := n0_; have HO374 := n1_; have HO382 := n2_; have BK361 := n3_; have BK362 := n4_; have BK375 := n5_; have HB := n6_; have BK384 := n7_; have GW384 := n8_; have GE384 := n9_; have NB361_384 := n10_; have NB384_361 := n11_; have NB362_384 := n12_; have NB384_362 := n13_; have NB375_384 := n14_; have NB384_375 := n15_; clear n0_ n1_ n2_ n3_ n4_ n5_ n6_ n7_ n8_ n9_ n10_ n11_ n12_ n13_ n14_ n15_; clear hb hbox hg; have hnb52 := NB384_361.out; have hnc52 := NB361_384.out; have hnb53 := NB384_362.out; have hnc53 := NB362_384.out; have hnb54 := NB384_375.out; have hnc54 := NB375_384.out; obtain ⟨hcz55_0, hcz55_1, hfz55_0, hfz55_1⟩ := cells2_32 BK384.out; obtain ⟨Ao56, co56, eo56⟩ := Kd.V_slice HO382.out; subst eo56) | ((with_reducible refine gate_store (t := 24) (p := 17) rfl ?_); refine store_event (t := 24) (p := 17) (v := ?vo_w57) (w1 := ((w51.setCell ⟨gb384, 0, none⟩ (.int .i64 t379)).setCell ⟨gb384, 1, none⟩ (.slice Ao56 t380.length co56))) ?hg ?ho ?hn ?hr ?_; (case ho => rfl); (case hg => rfl); (case hn => rfl); (case hr => first | (go_simp; done) | (go_simp; rfl)); intro w57 hw; have n0_ : Aside0 (Kd.V k50 50 w57 w.heap.size (fun k_ => some k_ ≠ (v373 : Value).ownBlock ∧ k_ ≠ gb361 ∧ k_ ≠ gb362 ∧ k_ ≠ gb375 ∧ k_ ≠ gb384) (.slice Ao39 t369.length co39) t369) := ⟨(by rw [hw]; exact (by (with_reducible repeat (first | apply v1_32 | apply v2_32 | apply v3_32)); exact v4_32 (v5_32 (p := ⟨gb384, 1, none⟩) (v5_32 (p := ⟨gb384, 0, none⟩) (v4_32 HO371.out (fun k_ hk => (⟨hk, hk.2⟩ : _ ∧ k_ ≠ gb384))) (fun _ hk => hk.2) (.int .i64 t379)) (fun _ hk => hk.2) (.slice Ao56 t380.length co56)) (fun _ hk => ⟨hk.1.1.1.1, ⟨hk.1.1.1.2.1, ⟨hk.1.1.1.2.2, ⟨hk.1.1.2, hk.1.2⟩⟩⟩⟩)))⟩; have n1_ : Aside0 (Kd.R (Kd.int .i64) 3 w57 w.heap.size (fun _ => True) v373 t372) := ⟨(by rw [hw]; exact (by (with_reducible repeat (first | apply r1_32 | apply r2_32 | apply r3_32)); exact Kd.R_mono (Kd.R_far (p := ⟨gb384, 1, none⟩) (Kd.R_far (p := ⟨gb384, 0, none⟩) (Kd.R_types HO374.out BK384.out (by decide)) (fun _ hk => hk.2) (.int .i64 t379)) (fun _ hk => hk.2) (.slice Ao56 t380.length co56)) (fun _ hk => trivial)))⟩; have n2_ : Aside0 (Kd.V k50 50 w57 w.heap.size (fun k_ => some k_ ≠ (v373 : Value).ownBlock ∧ k_ ≠ gb361 ∧ k_ ≠ gb362 ∧ k_ ≠ gb375 ∧ k_ ≠ gb384) (.slice Ao56 t380.length co56) t380) := ⟨(by rw [hw]; exact (by (with_reducible repeat (first | apply v1_32 | apply v2_32 | apply v3_32)); exact v4_32 (v5_32 (p := ⟨gb384, 1, none⟩) (v5_32 (p := ⟨gb384, 0, none⟩) (v4_32 HO382.out (fun k_ hk => (⟨hk, hk.2⟩ : _ ∧ k_ ≠ gb384))) (fun _ hk => hk.2) (.int .i64 t379)) (fun _ hk => hk.2) (.slice Ao56 t380.length co56)) (fun _ hk => ⟨hk.1.1.1, ⟨hk.1.1.2.1, ⟨hk.1.1.2.2.1, ⟨hk.1.1.2.2.2, hk.1.2⟩⟩⟩⟩)))⟩; have n3_ : Aside0 (w57.heap[gb361]? = some (.cells #[.int .i64 a0_0, .slice A0_1 l0_1.length c0_1] 24 (0, 0))) := ⟨(by rw [hw]; exact (by (with_reducible repeat (first | refine b1_32 ?_ _ | refine b3_32 ?_ | refine b2_32 ?_ _)); refine c2_32 ?_ NB361_384.out _; (with_reducible repeat (first | refine b1_32 ?_ _ | refine b3_32 ?_ | refine b2_32 ?_ _)); refine c2_32 ?_ NB361_384.out _; (with_reducible repeat (first | refine b1_32 ?_ _ | refine b3_32 ?_ | refine b2_32 ?_ _)); exact BK361.out))⟩; have n4_ : Aside0 (w57.heap[gb362]? = some (.cells #[.int .u8 a3_0, .int .u16 a3_1, .int .u16 a3_2, .int .u16 a3_3] 28 (0, 0))) := ⟨(by rw [hw]; exact (by (with_reducible repeat (first | refine b1_32 ?_ _ | refine b3_32 ?_ | refine b2_32 ?_ _)); refine c2_32 ?_ NB362_384.out _; (with_reducible repeat (first | refine b1_32 ?_ _ | refine b3_32 ?_ | refine b2_32 ?_ _)); refine c2_32 ?_ NB362_384.out _; (with_reducible repeat (first | refine b1_32 ?_ _ | refine b3_32 ?_ | refine b2_32 ?_ _)); exact BK362.out))⟩; have n5_ : Aside0 (w57.heap[gb375]? = some (.cells #[.int .i64 t368, .slice Ao39 t369.length co39] 24 (0, 0))) := ⟨(by rw [hw]; exact (by (with_reducible repeat (first | refine b1_32 ?_ _ | refine b3_32 ?_ | refine b2_32 ?_ _)); refine c2_32 ?_ NB375_384.out _; (with_reducible repeat (first | refine b1_32 ?_ _ | refine b3_32 ?_ | refine b2_32 ?_ _)); refine c2_32 ?_ NB375_384.out _; (with_reducible repeat (first | refine b1_32 ?_ _ | refine b3_32 ?_ | refine b2_32 ?_ _)); exact BK375.out))⟩; have n6_ : Aside0 (w57.heap[gb384]? = some (.cells #[.int .i64 t379, .slice Ao56 t380.length co56] 24 (0, 0))) := ⟨(by rw [hw]; exact (by (with_reducible repeat (first | refine b1_32 ?_ _ | refine b3_32 ?_ | refine b2_32 ?_ _)); refine c1_32 (cs := #[.int .i64 t379, .slice none 0 0]) ?_ 1 _ rfl; (with_reducible repeat (first | refine b1_32 ?_ _ | refine b3_32 ?_ | refine b2_32 ?_ _)); refine c1_32 (cs := #[.int .i64 0, .slice none 0 0]) ?_ 0 _ rfl; (with_reducible repeat (first | refine b1_32 ?_ _ | refine b3_32 ?_ | refine b2_32 ?_ _)); exact BK384.out))⟩; have n7_ : Aside0 (Below w.heap.size w w57) := ⟨(by rw [hw]; exact (by repeat (first | (with_reducible first | exact HB.out | apply b8_32 | apply b6_32 | apply b7_32 | refine b4_32 ?_ GE361.out | refine b4_32 ?_ GE362.out | refine b4_32 ?_ GE375.out | refine b4_32 ?_ GE384.out) | exact HB.out)))⟩; clear hw HO371 HO374 HO382 BK361 BK362 BK375 BK384 HB; have HO371 := n0_; have HO374 := n1_; have HO382 := n2_; have BK361 := n3_; have BK362 := n4_; have BK375 := n5_; have BK384 := n6_; have HB := n7_; clear n0_ n1_ n2_ n3_ n4_ n5_ n6_ n7_; obtain ⟨hcz58_0, hcz58_1, hfz58_0, hfz58_1⟩ := cells2_32 BK375.out) | ((with_reducible refine gate_callee (f := 17) rfl ?_); refine goesL_ (some 79) rfl rfl Try.func17 (by kernel_rfl) rfl #[.agg #[.int .i64 t368, .slice Ao39 t369.length co39], .int .i64 t376, .int .i64 t377] rfl (by (try simp only [List.map_toArray, List.map_cons, List.map_nil]); first | done | rfl | (simp only [List.length_drop, List.length_take]; rfl)) ?_; (with_reducible refine (proofmarkref13_And.calls kj6 t368 (fun k_ => (some k_ ≠ (v373 : Value).ownBlock ∧ (k_ ≠ gb361 ∧ (k_ ≠ gb362 ∧ (k_ ≠ gb375 ∧ k_ ≠ gb384))))) _ _ t369 t376 t377 t385 t386 t389 _ ?side1 A32.out).mono ?_); (case side1 => exact HO371.out); rintro e w59 ⟨v387, rfl, ho0, hb⟩; refine ⟨_, rfl, ?_⟩; have n0_ := aM_32 (v6_32 (by (with_reducible repeat (first | apply v1_32 | apply v2_32 | apply v3_32)); exact HO371.out) hb); have n1_ := aM_32 (r4_32 (by (with_reducible repeat (first | apply r1_32 | apply r2_32 | apply r3_32)); exact HO374.out) hb); have n2_ := aM_32 (v6_32 (by (with_reducible repeat (first | apply v1_32 | apply v2_32 | apply v3_32)); exact HO382.out) hb); have n3_ := aM_32 (v8_32 (v4_32 (ok' := fun k_ => some k_ ≠ (v373 : Value).ownBlock ∧ k_ ≠ gb361 ∧ k_ ≠ gb362 ∧ k_ ≠ gb375 ∧ k_ ≠ gb384) ho0 (fun k_ hk_ => ⟨Or.elim hk_ (fun hs_ => hs_.1) (fun hn_ => (Kd.fresh' (Kd.R_lt (by (with_reducible repeat (first | apply r1_32 | apply r2_32 | apply r3_32)); exact HO374.out)) k_ hn_)), Or.elim hk_ (fun hs_ => hs_.2.1) (fun hn_ => (f1_32 (g := gb361) (o := .cells #[.int .i64 a0_0, .slice A0_1 l0_1.length c0_1] 24 (0, 0)) (by exact BK361.out) k_ hn_)), Or.elim hk_ (fun hs_ => hs_.2.2.1) (fun hn_ => (f1_32 (g := gb362) (o := .cells #[.int .u8 a3_0, .int .u16 a3_1, .int .u16 a3_2, .int .u16 a3_3] 28 (0, 0)) (by exact BK362.out) k_ hn_)), Or.elim hk_ (fun hs_ => hs_.2.2.2.1) (fun hn_ => (f1_32 (g := gb375) (o := .cells #[.int .i64 t368, .slice Ao39 t369.length co39] 24 (0, 0)) (by exact BK375.out) k_ hn_)), Or.elim hk_ (fun hs_ => hs_.2.2.2.2) (fun hn_ => (f1_32 (g := gb384) (o := .cells #[.int .i64 t379, .slice Ao56 t380.length co56] 24 (0, 0)) (by exact BK384.out) k_ hn_))⟩)) (b0_32 (by repeat (first | (with_reducible first | exact HB.out | apply b8_32 | apply b6_32 | apply b7_32 | refine b4_32 ?_ GE361.out | refine b4_32 ?_ GE362.out | refine b4_32 ?_ GE375.out | refine b4_32 ?_ GE384.out) | exact HB.out)))); have n4_ := aM_32 (b5_32 (by exact BK361.out) hb); have n5_ := aM_32 (b5_32 (by exact BK362.out) hb); have n6_ := aM_32 (b5_32 (by exact BK375.out) hb); have n7_ := aM_32 (b5_32 (by exact BK384.out) hb); have n8_ := aM_32 (b9_32 (by repeat (first | (with_reducible first | exact HB.out | apply b8_32 | apply b6_32 | apply b7_32 | refine b4_32 ?_ GE361.out | refine b4_32 ?_ GE362.out | refine b4_32 ?_ GE375.out | refine b4_32 ?_ GE384.out) | exact HB.out)) hb); clear HO371 HO374 HO382 BK361 BK362 BK375 BK384 HB; have HO371 := n0_; have HO374 := n1_; have HO382 := n2_; have HO388 := n3_; have BK361 := n4_; have BK362 := n5_; have BK375 := n6_; have BK384 := n7_; have HB := n8_; clear n0_ n1_ n2_ n3_ n4_ n5_ n6_ n7_ n8_; (try clear hb); (try clear hb2); (try clear hk); (try clear hi); (try clear ho0)) | ((with_reducible refine gate_dst (N := 19) rfl ?_); (try (refine gate_guard (by rfl) ?_; dsimp only)); refine box_event ?hg (N := 19) ?hd (cs := #[.int .i64 0, .slice none 0 0]) (t := 24) ?hr ?_; (case hd => rfl); (case hg => rfl); (case hr => first | (go_simp; done) | (go_simp; rfl)); intro gb390 hg w60 hbox hb; have n0_ := aM_32 (v6_32 (Kd.V_elderB (by (with_reducible repeat (first | apply v1_32 | apply v2_32 | apply v3_32)); exact HO371.out) gb390 (Nat.le_of_eq hg.symm)) hb); have n1_ := aM_32 (r4_32 (by (with_reducible repeat (first | apply r1_32 | apply r2_32 | apply r3_32)); exact HO374.out) hb); have n2_ := aM_32 (v6_32 (Kd.V_elderB (by (with_reducible repeat (first | apply v1_32 | apply v2_32 | apply v3_32)); exact HO382.out) gb390 (Nat.le_of_eq hg.symm)) hb); have n3_ := aM_32 (v6_32 (Kd.V_elderB (by (with_reducible repeat (first | apply v1_32 | apply v2_32 | apply v3_32)); exact HO388.out) gb390 (Nat.le_of_eq hg.symm)) hb); have n4_ := aM_32 (b5_32 (by exact BK361.out) hb); have n5_ := aM_32 (b5_32 (by exact BK362.out) hb); have n6_ := aM_32 (b5_32 (by exact BK375.out) hb); have n7_ := aM_32 (b5_32 (by exact BK384.out) hb); have n8_ := aM_32 (b9_32 (by repeat (first | (with_reducible first | exact HB.out | apply b8_32 | apply b6_32 | apply b7_32 | refine b4_32 ?_ GE361.out | refine b4_32 ?_ GE362.out | refine b4_32 ?_ GE375.out | refine b4_32 ?_ GE384.out) | exact HB.out)) hb); have n9_ := aM_32 (hbox); have n10_ := aM_32 ((by rw [hg]; exact (b0_32 (by repeat (first | (with_reducible first | exact HB.out | apply b8_32 | apply b6_32 | apply b7_32 | refine b4_32 ?_ GE361.out | refine b4_32 ?_ GE362.out | refine b4_32 ?_ GE375.out | refine b4_32 ?_ GE384.out) | exact HB.out))) : w.heap.size ≤ gb390)); have n11_ := aM_32 ((by rw [hg]; exact (b0_32 (by repeat (first | (with_reducible first | exact HB.out | apply b8_32 | apply b6_32 | apply b7_32 | refine b4_32 ?_ GE361.out | refine b4_32 ?_ GE362.out | refine b4_32 ?_ GE375.out | refine b4_32 ?_ GE384.out) | exact HB.out))) : w.heap.size ≤ gb390)); have n12_ := aM_32 ((by rw [hg]; exact Nat.ne_of_lt (blk_lt (by exact BK361.out)) : gb361 ≠ gb390)); have n13_ := aM_32 ((by rw [hg]; exact Nat.ne_of_gt (blk_lt (by exact BK361.out)) : gb390 ≠ gb361)); have n14_ := aM_32 ((by rw [hg]; exact Nat.ne_of_lt (blk_lt (by exact BK362.out)) : gb362 ≠ gb390)); have n15_ := aM_32 ((by rw [hg]; exact Nat.ne_of_gt (blk_lt (by exact BK362.out)) : gb390 ≠ gb362)); have n16_ := aM_32 ((by rw [hg]; exact Nat.ne_of_lt (blk_lt (by exact BK375.out)) : gb375 ≠ gb390)); have n17_ := aM_32 ((by rw [hg]; exact Nat.ne_of_gt (blk_lt (by exact BK375.out)) : gb390 ≠ gb375)); have n18_ := aM_32 ((by rw [hg]; exact Nat.ne_of_lt (blk_lt (by exact BK384.out)) : gb384 ≠ gb390)); have n19_ := aM_32 ((by rw [hg]; exact Nat.ne_of_gt (blk_lt (by exact BK384.out)) : gb390 ≠ gb384)); clear HO371 HO374 HO382 HO388 BK361 BK362 BK375 BK384 HB; have HO371 := n0_; have HO374 := n1_; have HO382 := n2_; have HO388 := n3_; have BK361 := n4_; have BK362 := n5_; have BK375 := n6_; have BK384 := n7_; have HB := n8_; have BK390 := n9_; have GW390 := n10_; have GE390 := n11_; have NB361_390 := n12_; have NB390_361 := n13_; have NB362_390 := n14_; have NB390_362 := n15_; have NB375_390 := n16_; have NB390_375 := n17_; have NB384_390 := n18_; have NB390_384 := n19_; clear n0_ n1_ n2_ n3_ n4_ n5_ n6_ n7_ n8_ n9_ n10_ n11_ n12_ n13_ n14_ n15_ n16_ n17_ n18_ n19_; clear hb hbox hg; have hnb61 := NB390_361.out; have hnc61 := NB361_390.out; have hnb62 := NB390_362.out; have hnc62 := NB362_390.out; have hnb63 := NB390_375.out; have hnc63 := NB375_390.out; have hnb64 := NB390_384.out; have hnc64 := NB384_390.out; obtain ⟨hcz65_0, hcz65_1, hfz65_0, hfz65_1⟩ := cells2_32 BK390.out; obtain ⟨Ao66, co66, eo66⟩ := Kd.V_slice HO388.out; subst eo66))
    (try simp only [Act.put, l1_32, l2_32, l3_32])
    go_cut [90] (fun v90 wc => ∃ (kq : Nat) (x90_32 : Bool), v90 = .bool x90_32 ∧ Aside0 (proofmarklaw13_AigTells.j1 kq a1 l4 t363 t376 t377 t378 x90_32 t368 t369 = some r) ∧ Aside0 (kq ≤ kj6) ∧ Aside0 (Kd.V k50 50 wc w.heap.size (fun k_ => k_ ≠ gb361 ∧ k_ ≠ gb362 ∧ k_ ≠ gb375 ∧ k_ ≠ gb384 ∧ k_ ≠ gb390) (.slice Ao39 t369.length co39) t369) ∧ Aside0 (Kd.V k50 50 wc w.heap.size (fun k_ => k_ ≠ gb361 ∧ k_ ≠ gb362 ∧ k_ ≠ gb375 ∧ k_ ≠ gb384 ∧ k_ ≠ gb390) (.slice Ao56 t380.length co56) t380) ∧ Aside0 (Kd.V k50 50 wc w.heap.size (fun k_ => k_ ≠ gb361 ∧ k_ ≠ gb362 ∧ k_ ≠ gb375 ∧ k_ ≠ gb384 ∧ k_ ≠ gb390) (.slice Ao66 t386.length co66) t386) ∧ Aside0 (wc.heap[gb361]? = some (.cells #[.int .i64 a0_0, (.slice A0_1 l0_1.length c0_1)] 24 (0, 0))) ∧ Aside0 (wc.heap[gb362]? = some (.cells #[.int .u8 a3_0, .int .u16 a3_1, .int .u16 a3_2, .int .u16 a3_3] 28 (0, 0))) ∧ Aside0 (wc.heap[gb375]? = some (.cells #[.int .i64 t368, (.slice Ao39 t369.length co39)] 24 (0, 0))) ∧ Aside0 (wc.heap[gb384]? = some (.cells #[.int .i64 t379, (.slice Ao56 t380.length co56)] 24 (0, 0))) ∧ Aside0 (wc.heap[gb390]? = some (.cells #[.int .i64 t385, (.slice Ao66 t386.length co66)] 24 (0, 0))) ∧ Aside0 (Below w.heap.size w wc))
    case first =>
     have H := HC33.out
     clear HC33
     replace H := Option.bind_eq_some_iff.mp H
     obtain ⟨t391, A670, H⟩ := H
     replace H : (if t391 = true then (proofmarklaw13_AigTells.j1 kj6 a1 l4 t363 t376 t377 t378 (t383 != t389) t368 t369) else (proofmarklaw13_AigTells.j1 kj6 a1 l4 t363 t376 t377 t378 true t368 t369)) = some r := H
     have A67 := aM_32 A670
     clear A670
     by_cases c68 : t391 = true
     ·subst c68
      have H1 : (proofmarklaw13_AigTells.j1 kj6 a1 l4 t363 t376 t377 t378 (t383 != t389) t368 t369) = some r := by rw [if_pos rfl] at H; exact H
      clear H
      have H := H1
      clear H1
      have H' := aM_32 H
      clear H
      have hnb69 := NB384_361.out
      have hnc69 := NB361_384.out
      have hnb70 := NB384_362.out
      have hnc70 := NB362_384.out
      have hnb71 := NB384_375.out
      have hnc71 := NB375_384.out
      have hnb72 := NB384_390.out
      have hnc72 := NB390_384.out
      obtain ⟨hcz73_0, hcz73_1, hfz73_0, hfz73_1⟩ := cells2_32 BK384.out
      have hnb74 := NB390_361.out
      have hnc74 := NB361_390.out
      have hnb75 := NB390_362.out
      have hnc75 := NB362_390.out
      have hnb76 := NB390_375.out
      have hnc76 := NB375_390.out
      obtain ⟨hcz77_0, hcz77_1, hfz77_0, hfz77_1⟩ := cells2_32 BK390.out
      go_wp2_with (first | ((with_reducible refine gate_callee (f := 18) rfl ?_); refine goesL_ (some 84) rfl rfl Try.func18 (by kernel_rfl) rfl #[.agg #[.int .i64 t379, .slice Ao56 t380.length co56], .agg #[.int .i64 t385, .slice Ao66 t386.length co66]] rfl (by (try simp only [List.map_toArray, List.map_cons, List.map_nil]); first | done | rfl | (simp only [List.length_drop, List.length_take]; rfl)) ?_; (with_reducible refine (proofmarkref13_Same.calls kj6 t379 _ _ t380 t385 _ _ t386 true _ ?side1 ?side2 ?side3 ?side4 A67.out).mono ?_); (case side1 => refine (Kd.V_reads' (e := 50) (base := w.heap.size) (ok := fun k_ => ((some k_ ≠ (v373 : Value).ownBlock ∧ (k_ ≠ gb361 ∧ (k_ ≠ gb362 ∧ (k_ ≠ gb375 ∧ k_ ≠ gb384)))) ∧ k_ ≠ gb390)) (n := t380.length) (c := co56) ?_).2.2; exact (by (with_reducible repeat (first | apply v1_32 | apply v2_32 | apply v3_32)); exact (v4_32 (v5_32 (p := ⟨gb390, 1, none⟩) (v5_32 (p := ⟨gb390, 0, none⟩) (v4_32 HO382.out (fun k_ hk => (⟨hk, hk.2⟩ : _ ∧ k_ ≠ gb390))) (fun _ hk => hk.2) (.int .i64 t385)) (fun _ hk => hk.2) (.slice Ao66 t386.length co66)) (fun _ h_ => h_.1)))); (case side2 => exact (Kd.V_reads' HO382.out).2.1); (case side3 => refine (Kd.V_reads' (e := 50) (base := w.heap.size) (ok := fun k_ => ((some k_ ≠ (v373 : Value).ownBlock ∧ (k_ ≠ gb361 ∧ (k_ ≠ gb362 ∧ (k_ ≠ gb375 ∧ k_ ≠ gb384)))) ∧ k_ ≠ gb390)) (n := t386.length) (c := co66) ?_).2.2; exact (by (with_reducible repeat (first | apply v1_32 | apply v2_32 | apply v3_32)); exact (v4_32 (v5_32 (p := ⟨gb390, 1, none⟩) (v5_32 (p := ⟨gb390, 0, none⟩) (v4_32 HO388.out (fun k_ hk => (⟨hk, hk.2⟩ : _ ∧ k_ ≠ gb390))) (fun _ hk => hk.2) (.int .i64 t385)) (fun _ hk => hk.2) (.slice Ao66 t386.length co66)) (fun _ h_ => h_.1)))); (case side4 => exact (Kd.V_reads' HO388.out).2.1); rintro e w78 ⟨rfl, hb⟩; refine ⟨_, rfl, ?_⟩; have n0_ := aM_32 (v6_32 (by (with_reducible repeat (first | apply v1_32 | apply v2_32 | apply v3_32)); exact (v4_32 (v5_32 (p := ⟨gb390, 1, none⟩) (v5_32 (p := ⟨gb390, 0, none⟩) (v4_32 HO371.out (fun k_ hk => (⟨hk, hk.2⟩ : _ ∧ k_ ≠ gb390))) (fun _ hk => hk.2) (.int .i64 t385)) (fun _ hk => hk.2) (.slice Ao66 t386.length co66)) (fun _ h_ => h_.1))) hb); have n1_ := aM_32 (r4_32 (by (with_reducible repeat (first | apply r1_32 | apply r2_32 | apply r3_32)); exact (Kd.R_mono (Kd.R_far (p := ⟨gb390, 1, none⟩) (Kd.R_far (p := ⟨gb390, 0, none⟩) (Kd.R_types HO374.out BK390.out (by decide)) (fun _ hk => hk.2) (.int .i64 t385)) (fun _ hk => hk.2) (.slice Ao66 t386.length co66)) (fun _ h_ => h_.1))) hb); have n2_ := aM_32 (v6_32 (by (with_reducible repeat (first | apply v1_32 | apply v2_32 | apply v3_32)); exact (v4_32 (v5_32 (p := ⟨gb390, 1, none⟩) (v5_32 (p := ⟨gb390, 0, none⟩) (v4_32 HO382.out (fun k_ hk => (⟨hk, hk.2⟩ : _ ∧ k_ ≠ gb390))) (fun _ hk => hk.2) (.int .i64 t385)) (fun _ hk => hk.2) (.slice Ao66 t386.length co66)) (fun _ h_ => h_.1))) hb); have n3_ := aM_32 (v6_32 (by (with_reducible repeat (first | apply v1_32 | apply v2_32 | apply v3_32)); exact (v4_32 (v5_32 (p := ⟨gb390, 1, none⟩) (v5_32 (p := ⟨gb390, 0, none⟩) (v4_32 HO388.out (fun k_ hk => (⟨hk, hk.2⟩ : _ ∧ k_ ≠ gb390))) (fun _ hk => hk.2) (.int .i64 t385)) (fun _ hk => hk.2) (.slice Ao66 t386.length co66)) (fun _ h_ => h_.1))) hb); have n4_ := aM_32 (b5_32 (g := gb361) (o := .cells #[.int .i64 a0_0, .slice A0_1 l0_1.length c0_1] 24 (0, 0)) (by (with_reducible repeat (first | refine b1_32 ?_ _ | refine b3_32 ?_ | refine b2_32 ?_ _)); refine c2_32 ?_ NB361_390.out _; (with_reducible repeat (first | refine b1_32 ?_ _ | refine b3_32 ?_ | refine b2_32 ?_ _)); refine c2_32 ?_ NB361_390.out _; (with_reducible repeat (first | refine b1_32 ?_ _ | refine b3_32 ?_ | refine b2_32 ?_ _)); exact BK361.out) hb); have n5_ := aM_32 (b5_32 (g := gb362) (o := .cells #[.int .u8 a3_0, .int .u16 a3_1, .int .u16 a3_2, .int .u16 a3_3] 28 (0, 0)) (by (with_reducible repeat (first | refine b1_32 ?_ _ | refine b3_32 ?_ | refine b2_32 ?_ _)); refine c2_32 ?_ NB362_390.out _; (with_reducible repeat (first | refine b1_32 ?_ _ | refine b3_32 ?_ | refine b2_32 ?_ _)); refine c2_32 ?_ NB362_390.out _; (with_reducible repeat (first | refine b1_32 ?_ _ | refine b3_32 ?_ | refine b2_32 ?_ _)); exact BK362.out) hb); have n6_ := aM_32 (b5_32 (g := gb375) (o := .cells #[.int .i64 t368, .slice Ao39 t369.length co39] 24 (0, 0)) (by (with_reducible repeat (first | refine b1_32 ?_ _ | refine b3_32 ?_ | refine b2_32 ?_ _)); refine c2_32 ?_ NB375_390.out _; (with_reducible repeat (first | refine b1_32 ?_ _ | refine b3_32 ?_ | refine b2_32 ?_ _)); refine c2_32 ?_ NB375_390.out _; (with_reducible repeat (first | refine b1_32 ?_ _ | refine b3_32 ?_ | refine b2_32 ?_ _)); exact BK375.out) hb); have n7_ := aM_32 (b5_32 (g := gb384) (o := .cells #[.int .i64 t379, .slice Ao56 t380.length co56] 24 (0, 0)) (by (with_reducible repeat (first | refine b1_32 ?_ _ | refine b3_32 ?_ | refine b2_32 ?_ _)); refine c2_32 ?_ NB384_390.out _; (with_reducible repeat (first | refine b1_32 ?_ _ | refine b3_32 ?_ | refine b2_32 ?_ _)); refine c2_32 ?_ NB384_390.out _; (with_reducible repeat (first | refine b1_32 ?_ _ | refine b3_32 ?_ | refine b2_32 ?_ _)); exact BK384.out) hb); have n8_ := aM_32 (b5_32 (g := gb390) (o := .cells #[.int .i64 t385, .slice Ao66 t386.length co66] 24 (0, 0)) (by (with_reducible repeat (first | refine b1_32 ?_ _ | refine b3_32 ?_ | refine b2_32 ?_ _)); refine c1_32 (cs := #[.int .i64 t385, .slice none 0 0]) ?_ 1 _ rfl; (with_reducible repeat (first | refine b1_32 ?_ _ | refine b3_32 ?_ | refine b2_32 ?_ _)); refine c1_32 (cs := #[.int .i64 0, .slice none 0 0]) ?_ 0 _ rfl; (with_reducible repeat (first | refine b1_32 ?_ _ | refine b3_32 ?_ | refine b2_32 ?_ _)); exact BK390.out) hb); have n9_ := aM_32 (b9_32 (by repeat (first | (with_reducible first | exact HB.out | apply b8_32 | apply b6_32 | apply b7_32 | refine b4_32 ?_ GE361.out | refine b4_32 ?_ GE362.out | refine b4_32 ?_ GE375.out | refine b4_32 ?_ GE384.out | refine b4_32 ?_ GE390.out) | exact HB.out)) hb); clear HO371 HO374 HO382 HO388 BK361 BK362 BK375 BK384 BK390 HB; have HO371 := n0_; have HO374 := n1_; have HO382 := n2_; have HO388 := n3_; have BK361 := n4_; have BK362 := n5_; have BK375 := n6_; have BK384 := n7_; have BK390 := n8_; have HB := n9_; clear n0_ n1_ n2_ n3_ n4_ n5_ n6_ n7_ n8_ n9_; (try clear hb); (try clear hb2); (try clear hk); (try clear hi)))
      go_meet
      case rel => exact ⟨_, ((t383 != t389)), (by first | rfl | (simp; done) | (simp [*]; done)), H', ⟨by have := HJ6.out; first | omega | exact Nat.le_refl _⟩, ⟨by (with_reducible repeat (first | apply v1_32 | apply v2_32 | apply v3_32)); exact v4_32 HO371.out (fun _ hk => ⟨hk.1.2.1, ⟨hk.1.2.2.1, ⟨hk.1.2.2.2.1, ⟨hk.1.2.2.2.2, hk.2⟩⟩⟩⟩)⟩, ⟨by (with_reducible repeat (first | apply v1_32 | apply v2_32 | apply v3_32)); exact v4_32 HO382.out (fun _ hk => ⟨hk.1.2.1, ⟨hk.1.2.2.1, ⟨hk.1.2.2.2.1, ⟨hk.1.2.2.2.2, hk.2⟩⟩⟩⟩)⟩, ⟨by (with_reducible repeat (first | apply v1_32 | apply v2_32 | apply v3_32)); exact v4_32 HO388.out (fun _ hk => ⟨hk.1.2.1, ⟨hk.1.2.2.1, ⟨hk.1.2.2.2.1, ⟨hk.1.2.2.2.2, hk.2⟩⟩⟩⟩)⟩, ⟨by (with_reducible repeat (first | refine b1_32 ?_ _ | refine b3_32 ?_ | refine b2_32 ?_ _)); exact BK361.out⟩, ⟨by (with_reducible repeat (first | refine b1_32 ?_ _ | refine b3_32 ?_ | refine b2_32 ?_ _)); exact BK362.out⟩, ⟨by (with_reducible repeat (first | refine b1_32 ?_ _ | refine b3_32 ?_ | refine b2_32 ?_ _)); exact BK375.out⟩, ⟨by (with_reducible repeat (first | refine b1_32 ?_ _ | refine b3_32 ?_ | refine b2_32 ?_ _)); exact BK384.out⟩, ⟨by (with_reducible repeat (first | refine b1_32 ?_ _ | refine b3_32 ?_ | refine b2_32 ?_ _)); exact BK390.out⟩, ⟨by repeat (first | (with_reducible first | exact HB.out | apply b8_32 | apply b6_32 | apply b7_32 | refine b4_32 ?_ GE361.out | refine b4_32 ?_ GE362.out | refine b4_32 ?_ GE375.out | refine b4_32 ?_ GE384.out | refine b4_32 ?_ GE390.out) | exact HB.out)⟩⟩
     ·replace c68 := Bool.eq_false_iff.mpr c68
      subst c68
      have H1 : (proofmarklaw13_AigTells.j1 kj6 a1 l4 t363 t376 t377 t378 true t368 t369) = some r := by rw [if_neg (show ¬ (false = true) by decide)] at H; exact H
      clear H
      have H := H1
      clear H1
      have H' := aM_32 H
      clear H
      have hnb79 := NB384_361.out
      have hnc79 := NB361_384.out
      have hnb80 := NB384_362.out
      have hnc80 := NB362_384.out
      have hnb81 := NB384_375.out
      have hnc81 := NB375_384.out
      have hnb82 := NB384_390.out
      have hnc82 := NB390_384.out
      obtain ⟨hcz83_0, hcz83_1, hfz83_0, hfz83_1⟩ := cells2_32 BK384.out
      have hnb84 := NB390_361.out
      have hnc84 := NB361_390.out
      have hnb85 := NB390_362.out
      have hnc85 := NB362_390.out
      have hnb86 := NB390_375.out
      have hnc86 := NB375_390.out
      obtain ⟨hcz87_0, hcz87_1, hfz87_0, hfz87_1⟩ := cells2_32 BK390.out
      go_wp2_with (first | ((with_reducible refine gate_callee (f := 18) rfl ?_); refine goesL_ (some 84) rfl rfl Try.func18 (by kernel_rfl) rfl #[.agg #[.int .i64 t379, .slice Ao56 t380.length co56], .agg #[.int .i64 t385, .slice Ao66 t386.length co66]] rfl (by (try simp only [List.map_toArray, List.map_cons, List.map_nil]); first | done | rfl | (simp only [List.length_drop, List.length_take]; rfl)) ?_; (with_reducible refine (proofmarkref13_Same.calls kj6 t379 _ _ t380 t385 _ _ t386 false _ ?side1 ?side2 ?side3 ?side4 A67.out).mono ?_); (case side1 => refine (Kd.V_reads' (e := 50) (base := w.heap.size) (ok := fun k_ => ((some k_ ≠ (v373 : Value).ownBlock ∧ (k_ ≠ gb361 ∧ (k_ ≠ gb362 ∧ (k_ ≠ gb375 ∧ k_ ≠ gb384)))) ∧ k_ ≠ gb390)) (n := t380.length) (c := co56) ?_).2.2; exact (by (with_reducible repeat (first | apply v1_32 | apply v2_32 | apply v3_32)); exact (v4_32 (v5_32 (p := ⟨gb390, 1, none⟩) (v5_32 (p := ⟨gb390, 0, none⟩) (v4_32 HO382.out (fun k_ hk => (⟨hk, hk.2⟩ : _ ∧ k_ ≠ gb390))) (fun _ hk => hk.2) (.int .i64 t385)) (fun _ hk => hk.2) (.slice Ao66 t386.length co66)) (fun _ h_ => h_.1)))); (case side2 => exact (Kd.V_reads' HO382.out).2.1); (case side3 => refine (Kd.V_reads' (e := 50) (base := w.heap.size) (ok := fun k_ => ((some k_ ≠ (v373 : Value).ownBlock ∧ (k_ ≠ gb361 ∧ (k_ ≠ gb362 ∧ (k_ ≠ gb375 ∧ k_ ≠ gb384)))) ∧ k_ ≠ gb390)) (n := t386.length) (c := co66) ?_).2.2; exact (by (with_reducible repeat (first | apply v1_32 | apply v2_32 | apply v3_32)); exact (v4_32 (v5_32 (p := ⟨gb390, 1, none⟩) (v5_32 (p := ⟨gb390, 0, none⟩) (v4_32 HO388.out (fun k_ hk => (⟨hk, hk.2⟩ : _ ∧ k_ ≠ gb390))) (fun _ hk => hk.2) (.int .i64 t385)) (fun _ hk => hk.2) (.slice Ao66 t386.length co66)) (fun _ h_ => h_.1)))); (case side4 => exact (Kd.V_reads' HO388.out).2.1); rintro e w88 ⟨rfl, hb⟩; refine ⟨_, rfl, ?_⟩; have n0_ := aM_32 (v6_32 (by (with_reducible repeat (first | apply v1_32 | apply v2_32 | apply v3_32)); exact (v4_32 (v5_32 (p := ⟨gb390, 1, none⟩) (v5_32 (p := ⟨gb390, 0, none⟩) (v4_32 HO371.out (fun k_ hk => (⟨hk, hk.2⟩ : _ ∧ k_ ≠ gb390))) (fun _ hk => hk.2) (.int .i64 t385)) (fun _ hk => hk.2) (.slice Ao66 t386.length co66)) (fun _ h_ => h_.1))) hb); have n1_ := aM_32 (r4_32 (by (with_reducible repeat (first | apply r1_32 | apply r2_32 | apply r3_32)); exact (Kd.R_mono (Kd.R_far (p := ⟨gb390, 1, none⟩) (Kd.R_far (p := ⟨gb390, 0, none⟩) (Kd.R_types HO374.out BK390.out (by decide)) (fun _ hk => hk.2) (.int .i64 t385)) (fun _ hk => hk.2) (.slice Ao66 t386.length co66)) (fun _ h_ => h_.1))) hb); have n2_ := aM_32 (v6_32 (by (with_reducible repeat (first | apply v1_32 | apply v2_32 | apply v3_32)); exact (v4_32 (v5_32 (p := ⟨gb390, 1, none⟩) (v5_32 (p := ⟨gb390, 0, none⟩) (v4_32 HO382.out (fun k_ hk => (⟨hk, hk.2⟩ : _ ∧ k_ ≠ gb390))) (fun _ hk => hk.2) (.int .i64 t385)) (fun _ hk => hk.2) (.slice Ao66 t386.length co66)) (fun _ h_ => h_.1))) hb); have n3_ := aM_32 (v6_32 (by (with_reducible repeat (first | apply v1_32 | apply v2_32 | apply v3_32)); exact (v4_32 (v5_32 (p := ⟨gb390, 1, none⟩) (v5_32 (p := ⟨gb390, 0, none⟩) (v4_32 HO388.out (fun k_ hk => (⟨hk, hk.2⟩ : _ ∧ k_ ≠ gb390))) (fun _ hk => hk.2) (.int .i64 t385)) (fun _ hk => hk.2) (.slice Ao66 t386.length co66)) (fun _ h_ => h_.1))) hb); have n4_ := aM_32 (b5_32 (g := gb361) (o := .cells #[.int .i64 a0_0, .slice A0_1 l0_1.length c0_1] 24 (0, 0)) (by (with_reducible repeat (first | refine b1_32 ?_ _ | refine b3_32 ?_ | refine b2_32 ?_ _)); refine c2_32 ?_ NB361_390.out _; (with_reducible repeat (first | refine b1_32 ?_ _ | refine b3_32 ?_ | refine b2_32 ?_ _)); refine c2_32 ?_ NB361_390.out _; (with_reducible repeat (first | refine b1_32 ?_ _ | refine b3_32 ?_ | refine b2_32 ?_ _)); exact BK361.out) hb); have n5_ := aM_32 (b5_32 (g := gb362) (o := .cells #[.int .u8 a3_0, .int .u16 a3_1, .int .u16 a3_2, .int .u16 a3_3] 28 (0, 0)) (by (with_reducible repeat (first | refine b1_32 ?_ _ | refine b3_32 ?_ | refine b2_32 ?_ _)); refine c2_32 ?_ NB362_390.out _; (with_reducible repeat (first | refine b1_32 ?_ _ | refine b3_32 ?_ | refine b2_32 ?_ _)); refine c2_32 ?_ NB362_390.out _; (with_reducible repeat (first | refine b1_32 ?_ _ | refine b3_32 ?_ | refine b2_32 ?_ _)); exact BK362.out) hb); have n6_ := aM_32 (b5_32 (g := gb375) (o := .cells #[.int .i64 t368, .slice Ao39 t369.length co39] 24 (0, 0)) (by (with_reducible repeat (first | refine b1_32 ?_ _ | refine b3_32 ?_ | refine b2_32 ?_ _)); refine c2_32 ?_ NB375_390.out _; (with_reducible repeat (first | refine b1_32 ?_ _ | refine b3_32 ?_ | refine b2_32 ?_ _)); refine c2_32 ?_ NB375_390.out _; (with_reducible repeat (first | refine b1_32 ?_ _ | refine b3_32 ?_ | refine b2_32 ?_ _)); exact BK375.out) hb); have n7_ := aM_32 (b5_32 (g := gb384) (o := .cells #[.int .i64 t379, .slice Ao56 t380.length co56] 24 (0, 0)) (by (with_reducible repeat (first | refine b1_32 ?_ _ | refine b3_32 ?_ | refine b2_32 ?_ _)); refine c2_32 ?_ NB384_390.out _; (with_reducible repeat (first | refine b1_32 ?_ _ | refine b3_32 ?_ | refine b2_32 ?_ _)); refine c2_32 ?_ NB384_390.out _; (with_reducible repeat (first | refine b1_32 ?_ _ | refine b3_32 ?_ | refine b2_32 ?_ _)); exact BK384.out) hb); have n8_ := aM_32 (b5_32 (g := gb390) (o := .cells #[.int .i64 t385, .slice Ao66 t386.length co66] 24 (0, 0)) (by (with_reducible repeat (first | refine b1_32 ?_ _ | refine b3_32 ?_ | refine b2_32 ?_ _)); refine c1_32 (cs := #[.int .i64 t385, .slice none 0 0]) ?_ 1 _ rfl; (with_reducible repeat (first | refine b1_32 ?_ _ | refine b3_32 ?_ | refine b2_32 ?_ _)); refine c1_32 (cs := #[.int .i64 0, .slice none 0 0]) ?_ 0 _ rfl; (with_reducible repeat (first | refine b1_32 ?_ _ | refine b3_32 ?_ | refine b2_32 ?_ _)); exact BK390.out) hb); have n9_ := aM_32 (b9_32 (by repeat (first | (with_reducible first | exact HB.out | apply b8_32 | apply b6_32 | apply b7_32 | refine b4_32 ?_ GE361.out | refine b4_32 ?_ GE362.out | refine b4_32 ?_ GE375.out | refine b4_32 ?_ GE384.out | refine b4_32 ?_ GE390.out) | exact HB.out)) hb); clear HO371 HO374 HO382 HO388 BK361 BK362 BK375 BK384 BK390 HB; have HO371 := n0_; have HO374 := n1_; have HO382 := n2_; have HO388 := n3_; have BK361 := n4_; have BK362 := n5_; have BK375 := n6_; have BK384 := n7_; have BK390 := n8_; have HB := n9_; clear n0_ n1_ n2_ n3_ n4_ n5_ n6_ n7_ n8_ n9_; (try clear hb); (try clear hb2); (try clear hk); (try clear hi)))
      go_meet
      case rel => exact ⟨_, (true), (by first | rfl | (simp; done) | (simp [*]; done)), H', ⟨by have := HJ6.out; first | omega | exact Nat.le_refl _⟩, ⟨by (with_reducible repeat (first | apply v1_32 | apply v2_32 | apply v3_32)); exact v4_32 HO371.out (fun _ hk => ⟨hk.1.2.1, ⟨hk.1.2.2.1, ⟨hk.1.2.2.2.1, ⟨hk.1.2.2.2.2, hk.2⟩⟩⟩⟩)⟩, ⟨by (with_reducible repeat (first | apply v1_32 | apply v2_32 | apply v3_32)); exact v4_32 HO382.out (fun _ hk => ⟨hk.1.2.1, ⟨hk.1.2.2.1, ⟨hk.1.2.2.2.1, ⟨hk.1.2.2.2.2, hk.2⟩⟩⟩⟩)⟩, ⟨by (with_reducible repeat (first | apply v1_32 | apply v2_32 | apply v3_32)); exact v4_32 HO388.out (fun _ hk => ⟨hk.1.2.1, ⟨hk.1.2.2.1, ⟨hk.1.2.2.2.1, ⟨hk.1.2.2.2.2, hk.2⟩⟩⟩⟩)⟩, ⟨by (with_reducible repeat (first | refine b1_32 ?_ _ | refine b3_32 ?_ | refine b2_32 ?_ _)); exact BK361.out⟩, ⟨by (with_reducible repeat (first | refine b1_32 ?_ _ | refine b3_32 ?_ | refine b2_32 ?_ _)); exact BK362.out⟩, ⟨by (with_reducible repeat (first | refine b1_32 ?_ _ | refine b3_32 ?_ | refine b2_32 ?_ _)); exact BK375.out⟩, ⟨by (with_reducible repeat (first | refine b1_32 ?_ _ | refine b3_32 ?_ | refine b2_32 ?_ _)); exact BK384.out⟩, ⟨by (with_reducible repeat (first | refine b1_32 ?_ _ | refine b3_32 ?_ | refine b2_32 ?_ _)); exact BK390.out⟩, ⟨by repeat (first | (with_reducible first | exact HB.out | apply b8_32 | apply b6_32 | apply b7_32 | refine b4_32 ?_ GE361.out | refine b4_32 ?_ GE362.out | refine b4_32 ?_ GE375.out | refine b4_32 ?_ GE384.out | refine b4_32 ?_ GE390.out) | exact HB.out)⟩⟩
    case rest =>
     clear HC33
     try clear c1
     try clear c2
     try clear p2
     try clear c3
     try clear c4
     try clear c5
     try clear c6
     try clear c7
     try clear c8
     try clear c10
     try clear c11
     try clear c12
     try clear c13
     try clear c14
     try clear c14b0
     try clear c14b1
     try clear c15
     try clear c16
     try clear c17
     try clear c18
     try clear c21
     try clear c22
     try clear c24
     try clear c25
     try clear c36
     try clear c37
     try clear c40
     try clear c52
     try clear c53
     try clear c54
     try clear c61
     try clear c62
     try clear c63
     try clear c64
     try clear c68
     try clear c69
     try clear c70
     try clear c71
     try clear c72
     try clear c74
     try clear c75
     try clear c76
     try clear c79
     try clear c80
     try clear c81
     try clear c82
     try clear c84
     try clear c85
     try clear c86
     try clear hcz26_0
     try clear hcz26_1
     try clear hcz38_0
     try clear hcz38_1
     try clear hcz41_0
     try clear hcz41_1
     try clear hcz41_2
     try clear hcz41_3
     try clear hcz43_0
     try clear hcz43_1
     try clear hcz44_0
     try clear hcz44_1
     try clear hcz44_2
     try clear hcz44_3
     try clear hcz46_0
     try clear hcz46_1
     try clear hcz47_0
     try clear hcz47_1
     try clear hcz47_2
     try clear hcz47_3
     try clear hcz49_0
     try clear hcz49_1
     try clear hcz55_0
     try clear hcz55_1
     try clear hcz58_0
     try clear hcz58_1
     try clear hcz65_0
     try clear hcz65_1
     try clear hcz73_0
     try clear hcz73_1
     try clear hcz77_0
     try clear hcz77_1
     try clear hcz83_0
     try clear hcz83_1
     try clear hcz87_0
     try clear hcz87_1
     try clear hfz26_0
     try clear hfz26_1
     try clear hfz38_0
     try clear hfz38_1
     try clear hfz41_0
     try clear hfz41_1
     try clear hfz41_2
     try clear hfz41_3
     try clear hfz43_0
     try clear hfz43_1
     try clear hfz44_0
     try clear hfz44_1
     try clear hfz44_2
     try clear hfz44_3
     try clear hfz46_0
     try clear hfz46_1
     try clear hfz47_0
     try clear hfz47_1
     try clear hfz47_2
     try clear hfz47_3
     try clear hfz49_0
     try clear hfz49_1
     try clear hfz55_0
     try clear hfz55_1
     try clear hfz58_0
     try clear hfz58_1
     try clear hfz65_0
     try clear hfz65_1
     try clear hfz73_0
     try clear hfz73_1
     try clear hfz77_0
     try clear hfz77_1
     try clear hfz83_0
     try clear hfz83_1
     try clear hfz87_0
     try clear hfz87_1
     try clear p2
     obtain ⟨kq, x90_32, rfl, HA, HJ32, HO_376001, HO_385001, HO_391001, BK361, BK362, BK375, BK384, BK390, HB⟩ := hcut
     cases kq with
     | zero => exact absurd HA.out (by simp [proofmarklaw13_AigTells.j1])
     | succ kj32 =>
      have H := HA.out
      clear HA
      simp only [proofmarklaw13_AigTells.j1] at H
      by_cases c89 : x90_32 = true
      ·subst c89
       have H1 : (none) = some r := by rw [if_pos rfl] at H; exact H
       clear H
       have H := H1
       clear H1
       exact absurd H (by simp)
      ·replace c89 := Bool.eq_false_iff.mpr c89
       subst c89
       have H1 : ((aig_Or.f kj32 t368 t369 t376 t377).bind fun bt392 => ((proofmarkref13_Or.f kj32 t368 t369 t376 t377).bind fun bt397 => ((proofmarkref13_Same.f kj32 bt392.1 bt392.2.1 bt397.1 bt397.2.1).bind fun t402 => (if t402 = true then (proofmarklaw13_AigTells.j2 kj32 a1 l4 t363 t376 t377 t378 (bt392.2.2 != bt397.2.2) t368 t369) else (proofmarklaw13_AigTells.j2 kj32 a1 l4 t363 t376 t377 t378 true t368 t369))))) = some r := by rw [if_neg (show ¬ (false = true) by decide)] at H; exact H
       clear H
       have H := H1
       clear H1
       replace H := Option.bind_eq_some_iff.mp H
       obtain ⟨⟨t392, t393, t396⟩, A900, H⟩ := H
       replace H : ((proofmarkref13_Or.f kj32 t368 t369 t376 t377).bind fun bt397 => ((proofmarkref13_Same.f kj32 t392 t393 bt397.1 bt397.2.1).bind fun t402 => (if t402 = true then (proofmarklaw13_AigTells.j2 kj32 a1 l4 t363 t376 t377 t378 (t396 != bt397.2.2) t368 t369) else (proofmarklaw13_AigTells.j2 kj32 a1 l4 t363 t376 t377 t378 true t368 t369)))) = some r := H
       have A90 := aM_32 A900
       clear A900
       replace H := Option.bind_eq_some_iff.mp H
       obtain ⟨⟨t397, t398, t401⟩, A910, H⟩ := H
       replace H : ((proofmarkref13_Same.f kj32 t392 t393 t397 t398).bind fun t402 => (if t402 = true then (proofmarklaw13_AigTells.j2 kj32 a1 l4 t363 t376 t377 t378 (t396 != t401) t368 t369) else (proofmarklaw13_AigTells.j2 kj32 a1 l4 t363 t376 t377 t378 true t368 t369))) = some r := H
       have A91 := aM_32 A910
       clear A910
       have HC92 := aM_32 H
       clear H
       have hnb93 := NB375_361.out
       have hnc93 := NB361_375.out
       have hnb94 := NB375_362.out
       have hnc94 := NB362_375.out
       have hnb95 := NB375_384.out
       have hnc95 := NB384_375.out
       have hnb96 := NB375_390.out
       have hnc96 := NB390_375.out
       obtain ⟨hcz97_0, hcz97_1, hfz97_0, hfz97_1⟩ := cells2_32 BK375.out
       go_upto_region 14 with (first | ((with_reducible refine gate_callee (f := 19) rfl ?_); refine goesL_ (some 95) rfl rfl Try.func19 (by kernel_rfl) rfl #[.agg #[.int .i64 t368, .slice Ao39 t369.length co39], .int .i64 t376, .int .i64 t377] rfl (by (try simp only [List.map_toArray, List.map_cons, List.map_nil]); first | done | rfl | (simp only [List.length_drop, List.length_take]; rfl)) ?_; (with_reducible refine (aig_Or.calls kj32 t368 (fun k_ => (k_ ≠ gb361 ∧ (k_ ≠ gb362 ∧ (k_ ≠ gb375 ∧ (k_ ≠ gb384 ∧ k_ ≠ gb390))))) _ _ t369 t376 t377 t392 t393 t396 _ ?side1 A90.out).mono ?_); (case side1 => exact HO_376001.out); rintro e w98 ⟨v394, rfl, ho0, hb⟩; refine ⟨_, rfl, ?_⟩; have n0_ := aM_32 (v6_32 (by (with_reducible repeat (first | apply v1_32 | apply v2_32 | apply v3_32)); exact HO_376001.out) hb); have n1_ := aM_32 (v6_32 (by (with_reducible repeat (first | apply v1_32 | apply v2_32 | apply v3_32)); exact HO_385001.out) hb); have n2_ := aM_32 (v6_32 (by (with_reducible repeat (first | apply v1_32 | apply v2_32 | apply v3_32)); exact HO_391001.out) hb); have n3_ := aM_32 (v8_32 (v4_32 (ok' := fun k_ => k_ ≠ gb361 ∧ k_ ≠ gb362 ∧ k_ ≠ gb375 ∧ k_ ≠ gb384 ∧ k_ ≠ gb390) ho0 (fun k_ hk_ => ⟨Or.elim hk_ (fun hs_ => hs_.1) (fun hn_ => (f1_32 (g := gb361) (o := .cells #[.int .i64 a0_0, .slice A0_1 l0_1.length c0_1] 24 (0, 0)) (by exact BK361.out) k_ hn_)), Or.elim hk_ (fun hs_ => hs_.2.1) (fun hn_ => (f1_32 (g := gb362) (o := .cells #[.int .u8 a3_0, .int .u16 a3_1, .int .u16 a3_2, .int .u16 a3_3] 28 (0, 0)) (by exact BK362.out) k_ hn_)), Or.elim hk_ (fun hs_ => hs_.2.2.1) (fun hn_ => (f1_32 (g := gb375) (o := .cells #[.int .i64 t368, .slice Ao39 t369.length co39] 24 (0, 0)) (by exact BK375.out) k_ hn_)), Or.elim hk_ (fun hs_ => hs_.2.2.2.1) (fun hn_ => (f1_32 (g := gb384) (o := .cells #[.int .i64 t379, .slice Ao56 t380.length co56] 24 (0, 0)) (by exact BK384.out) k_ hn_)), Or.elim hk_ (fun hs_ => hs_.2.2.2.2) (fun hn_ => (f1_32 (g := gb390) (o := .cells #[.int .i64 t385, .slice Ao66 t386.length co66] 24 (0, 0)) (by exact BK390.out) k_ hn_))⟩)) (b0_32 (by repeat (first | (with_reducible first | exact HB.out | apply b8_32 | apply b6_32 | apply b7_32 | refine b4_32 ?_ GE361.out | refine b4_32 ?_ GE362.out | refine b4_32 ?_ GE375.out | refine b4_32 ?_ GE384.out | refine b4_32 ?_ GE390.out) | exact HB.out)))); have n4_ := aM_32 (b5_32 (by exact BK361.out) hb); have n5_ := aM_32 (b5_32 (by exact BK362.out) hb); have n6_ := aM_32 (b5_32 (by exact BK375.out) hb); have n7_ := aM_32 (b5_32 (by exact BK384.out) hb); have n8_ := aM_32 (b5_32 (by exact BK390.out) hb); have n9_ := aM_32 (b9_32 (by repeat (first | (with_reducible first | exact HB.out | apply b8_32 | apply b6_32 | apply b7_32 | refine b4_32 ?_ GE361.out | refine b4_32 ?_ GE362.out | refine b4_32 ?_ GE375.out | refine b4_32 ?_ GE384.out | refine b4_32 ?_ GE390.out) | exact HB.out)) hb); clear HO_376001 HO_385001 HO_391001 BK361 BK362 BK375 BK384 BK390 HB; have HO_376001 := n0_; have HO_385001 := n1_; have HO_391001 := n2_; have HO395 := n3_; have BK361 := n4_; have BK362 := n5_; have BK375 := n6_; have BK384 := n7_; have BK390 := n8_; have HB := n9_; clear n0_ n1_ n2_ n3_ n4_ n5_ n6_ n7_ n8_ n9_; (try clear hb); (try clear hb2); (try clear hk); (try clear hi); (try clear ho0); have hnb99 := NB384_361.out; have hnc99 := NB361_384.out; have hnb100 := NB384_362.out; have hnc100 := NB362_384.out; have hnb101 := NB384_390.out; have hnc101 := NB390_384.out; obtain ⟨hcz102_0, hcz102_1, hfz102_0, hfz102_1⟩ := cells2_32 BK384.out; obtain ⟨Ao103, co103, eo103⟩ := Kd.V_slice HO395.out; subst eo103) | ((with_reducible refine gate_store (t := 24) (p := 17) rfl ?_); refine store_event (t := 24) (p := 17) (v := ?vo_w104) (w1 := ((w98.setCell ⟨gb384, 0, none⟩ (.int .i64 t392)).setCell ⟨gb384, 1, none⟩ (.slice Ao103 t393.length co103))) ?hg ?ho ?hn ?hr ?_; (case ho => rfl); (case hg => rfl); (case hn => rfl); (case hr => first | (go_simp; done) | (go_simp; rfl)); intro w104 hw; have n0_ : Aside0 (Kd.V k50 50 w104 w.heap.size (fun k_ => k_ ≠ gb361 ∧ k_ ≠ gb362 ∧ k_ ≠ gb375 ∧ k_ ≠ gb384 ∧ k_ ≠ gb390) (.slice Ao39 t369.length co39) t369) := ⟨(by rw [hw]; exact (by (with_reducible repeat (first | apply v1_32 | apply v2_32 | apply v3_32)); exact v4_32 (v5_32 (p := ⟨gb384, 1, none⟩) (v5_32 (p := ⟨gb384, 0, none⟩) (v4_32 HO_376001.out (fun k_ hk => (⟨hk, hk.2.2.2.1⟩ : _ ∧ k_ ≠ gb384))) (fun _ hk => hk.2) (.int .i64 t392)) (fun _ hk => hk.2) (.slice Ao103 t393.length co103)) (fun _ hk => ⟨hk.1.1, ⟨hk.1.2.1, ⟨hk.1.2.2.1, ⟨hk.1.2.2.2.1, hk.1.2.2.2.2⟩⟩⟩⟩)))⟩; have n1_ : Aside0 (Kd.V k50 50 w104 w.heap.size (fun k_ => k_ ≠ gb361 ∧ k_ ≠ gb362 ∧ k_ ≠ gb375 ∧ k_ ≠ gb384 ∧ k_ ≠ gb390) (.slice Ao56 t380.length co56) t380) := ⟨(by rw [hw]; exact (by (with_reducible repeat (first | apply v1_32 | apply v2_32 | apply v3_32)); exact v4_32 (v5_32 (p := ⟨gb384, 1, none⟩) (v5_32 (p := ⟨gb384, 0, none⟩) (v4_32 HO_385001.out (fun k_ hk => (⟨hk, hk.2.2.2.1⟩ : _ ∧ k_ ≠ gb384))) (fun _ hk => hk.2) (.int .i64 t392)) (fun _ hk => hk.2) (.slice Ao103 t393.length co103)) (fun _ hk => ⟨hk.1.1, ⟨hk.1.2.1, ⟨hk.1.2.2.1, ⟨hk.1.2.2.2.1, hk.1.2.2.2.2⟩⟩⟩⟩)))⟩; have n2_ : Aside0 (Kd.V k50 50 w104 w.heap.size (fun k_ => k_ ≠ gb361 ∧ k_ ≠ gb362 ∧ k_ ≠ gb375 ∧ k_ ≠ gb384 ∧ k_ ≠ gb390) (.slice Ao66 t386.length co66) t386) := ⟨(by rw [hw]; exact (by (with_reducible repeat (first | apply v1_32 | apply v2_32 | apply v3_32)); exact v4_32 (v5_32 (p := ⟨gb384, 1, none⟩) (v5_32 (p := ⟨gb384, 0, none⟩) (v4_32 HO_391001.out (fun k_ hk => (⟨hk, hk.2.2.2.1⟩ : _ ∧ k_ ≠ gb384))) (fun _ hk => hk.2) (.int .i64 t392)) (fun _ hk => hk.2) (.slice Ao103 t393.length co103)) (fun _ hk => ⟨hk.1.1, ⟨hk.1.2.1, ⟨hk.1.2.2.1, ⟨hk.1.2.2.2.1, hk.1.2.2.2.2⟩⟩⟩⟩)))⟩; have n3_ : Aside0 (Kd.V k50 50 w104 w.heap.size (fun k_ => k_ ≠ gb361 ∧ k_ ≠ gb362 ∧ k_ ≠ gb375 ∧ k_ ≠ gb384 ∧ k_ ≠ gb390) (.slice Ao103 t393.length co103) t393) := ⟨(by rw [hw]; exact (by (with_reducible repeat (first | apply v1_32 | apply v2_32 | apply v3_32)); exact v4_32 (v5_32 (p := ⟨gb384, 1, none⟩) (v5_32 (p := ⟨gb384, 0, none⟩) (v4_32 HO395.out (fun k_ hk => (⟨hk, hk.2.2.2.1⟩ : _ ∧ k_ ≠ gb384))) (fun _ hk => hk.2) (.int .i64 t392)) (fun _ hk => hk.2) (.slice Ao103 t393.length co103)) (fun _ hk => ⟨hk.1.1, ⟨hk.1.2.1, ⟨hk.1.2.2.1, ⟨hk.1.2.2.2.1, hk.1.2.2.2.2⟩⟩⟩⟩)))⟩; have n4_ : Aside0 (w104.heap[gb361]? = some (.cells #[.int .i64 a0_0, .slice A0_1 l0_1.length c0_1] 24 (0, 0))) := ⟨(by rw [hw]; exact (by (with_reducible repeat (first | refine b1_32 ?_ _ | refine b3_32 ?_ | refine b2_32 ?_ _)); refine c2_32 ?_ NB361_384.out _; (with_reducible repeat (first | refine b1_32 ?_ _ | refine b3_32 ?_ | refine b2_32 ?_ _)); refine c2_32 ?_ NB361_384.out _; (with_reducible repeat (first | refine b1_32 ?_ _ | refine b3_32 ?_ | refine b2_32 ?_ _)); exact BK361.out))⟩; have n5_ : Aside0 (w104.heap[gb362]? = some (.cells #[.int .u8 a3_0, .int .u16 a3_1, .int .u16 a3_2, .int .u16 a3_3] 28 (0, 0))) := ⟨(by rw [hw]; exact (by (with_reducible repeat (first | refine b1_32 ?_ _ | refine b3_32 ?_ | refine b2_32 ?_ _)); refine c2_32 ?_ NB362_384.out _; (with_reducible repeat (first | refine b1_32 ?_ _ | refine b3_32 ?_ | refine b2_32 ?_ _)); refine c2_32 ?_ NB362_384.out _; (with_reducible repeat (first | refine b1_32 ?_ _ | refine b3_32 ?_ | refine b2_32 ?_ _)); exact BK362.out))⟩; have n6_ : Aside0 (w104.heap[gb375]? = some (.cells #[.int .i64 t368, .slice Ao39 t369.length co39] 24 (0, 0))) := ⟨(by rw [hw]; exact (by (with_reducible repeat (first | refine b1_32 ?_ _ | refine b3_32 ?_ | refine b2_32 ?_ _)); refine c2_32 ?_ NB375_384.out _; (with_reducible repeat (first | refine b1_32 ?_ _ | refine b3_32 ?_ | refine b2_32 ?_ _)); refine c2_32 ?_ NB375_384.out _; (with_reducible repeat (first | refine b1_32 ?_ _ | refine b3_32 ?_ | refine b2_32 ?_ _)); exact BK375.out))⟩; have n7_ : Aside0 (w104.heap[gb384]? = some (.cells #[.int .i64 t392, .slice Ao103 t393.length co103] 24 (0, 0))) := ⟨(by rw [hw]; exact (by (with_reducible repeat (first | refine b1_32 ?_ _ | refine b3_32 ?_ | refine b2_32 ?_ _)); refine c1_32 (cs := #[.int .i64 t392, .slice Ao56 t380.length co56]) ?_ 1 _ rfl; (with_reducible repeat (first | refine b1_32 ?_ _ | refine b3_32 ?_ | refine b2_32 ?_ _)); refine c1_32 (cs := #[.int .i64 t379, .slice Ao56 t380.length co56]) ?_ 0 _ rfl; (with_reducible repeat (first | refine b1_32 ?_ _ | refine b3_32 ?_ | refine b2_32 ?_ _)); exact BK384.out))⟩; have n8_ : Aside0 (w104.heap[gb390]? = some (.cells #[.int .i64 t385, .slice Ao66 t386.length co66] 24 (0, 0))) := ⟨(by rw [hw]; exact (by (with_reducible repeat (first | refine b1_32 ?_ _ | refine b3_32 ?_ | refine b2_32 ?_ _)); refine c2_32 ?_ NB390_384.out _; (with_reducible repeat (first | refine b1_32 ?_ _ | refine b3_32 ?_ | refine b2_32 ?_ _)); refine c2_32 ?_ NB390_384.out _; (with_reducible repeat (first | refine b1_32 ?_ _ | refine b3_32 ?_ | refine b2_32 ?_ _)); exact BK390.out))⟩; have n9_ : Aside0 (Below w.heap.size w w104) := ⟨(by rw [hw]; exact (by repeat (first | (with_reducible first | exact HB.out | apply b8_32 | apply b6_32 | apply b7_32 | refine b4_32 ?_ GE361.out | refine b4_32 ?_ GE362.out | refine b4_32 ?_ GE375.out | refine b4_32 ?_ GE384.out | refine b4_32 ?_ GE390.out) | exact HB.out)))⟩; clear hw HO_376001 HO_385001 HO_391001 HO395 BK361 BK362 BK375 BK384 BK390 HB; have HO_376001 := n0_; have HO_385001 := n1_; have HO_391001 := n2_; have HO395 := n3_; have BK361 := n4_; have BK362 := n5_; have BK375 := n6_; have BK384 := n7_; have BK390 := n8_; have HB := n9_; clear n0_ n1_ n2_ n3_ n4_ n5_ n6_ n7_ n8_ n9_; obtain ⟨hcz105_0, hcz105_1, hfz105_0, hfz105_1⟩ := cells2_32 BK375.out) | ((with_reducible refine gate_callee (f := 20) rfl ?_); refine goesL_ (some 102) rfl rfl Try.func20 (by kernel_rfl) rfl #[.agg #[.int .i64 t368, .slice Ao39 t369.length co39], .int .i64 t376, .int .i64 t377] rfl (by (try simp only [List.map_toArray, List.map_cons, List.map_nil]); first | done | rfl | (simp only [List.length_drop, List.length_take]; rfl)) ?_; (with_reducible refine (proofmarkref13_Or.calls kj32 t368 (fun k_ => (k_ ≠ gb361 ∧ (k_ ≠ gb362 ∧ (k_ ≠ gb375 ∧ (k_ ≠ gb384 ∧ k_ ≠ gb390))))) _ _ t369 t376 t377 t397 t398 t401 _ ?side1 A91.out).mono ?_); (case side1 => exact HO_376001.out); rintro e w106 ⟨v399, rfl, ho0, hb⟩; refine ⟨_, rfl, ?_⟩; have n0_ := aM_32 (v6_32 (by (with_reducible repeat (first | apply v1_32 | apply v2_32 | apply v3_32)); exact HO_376001.out) hb); have n1_ := aM_32 (v6_32 (by (with_reducible repeat (first | apply v1_32 | apply v2_32 | apply v3_32)); exact HO_385001.out) hb); have n2_ := aM_32 (v6_32 (by (with_reducible repeat (first | apply v1_32 | apply v2_32 | apply v3_32)); exact HO_391001.out) hb); have n3_ := aM_32 (v6_32 (by (with_reducible repeat (first | apply v1_32 | apply v2_32 | apply v3_32)); exact HO395.out) hb); have n4_ := aM_32 (v8_32 (v4_32 (ok' := fun k_ => k_ ≠ gb361 ∧ k_ ≠ gb362 ∧ k_ ≠ gb375 ∧ k_ ≠ gb384 ∧ k_ ≠ gb390) ho0 (fun k_ hk_ => ⟨Or.elim hk_ (fun hs_ => hs_.1) (fun hn_ => (f1_32 (g := gb361) (o := .cells #[.int .i64 a0_0, .slice A0_1 l0_1.length c0_1] 24 (0, 0)) (by exact BK361.out) k_ hn_)), Or.elim hk_ (fun hs_ => hs_.2.1) (fun hn_ => (f1_32 (g := gb362) (o := .cells #[.int .u8 a3_0, .int .u16 a3_1, .int .u16 a3_2, .int .u16 a3_3] 28 (0, 0)) (by exact BK362.out) k_ hn_)), Or.elim hk_ (fun hs_ => hs_.2.2.1) (fun hn_ => (f1_32 (g := gb375) (o := .cells #[.int .i64 t368, .slice Ao39 t369.length co39] 24 (0, 0)) (by exact BK375.out) k_ hn_)), Or.elim hk_ (fun hs_ => hs_.2.2.2.1) (fun hn_ => (f1_32 (g := gb384) (o := .cells #[.int .i64 t392, .slice Ao103 t393.length co103] 24 (0, 0)) (by exact BK384.out) k_ hn_)), Or.elim hk_ (fun hs_ => hs_.2.2.2.2) (fun hn_ => (f1_32 (g := gb390) (o := .cells #[.int .i64 t385, .slice Ao66 t386.length co66] 24 (0, 0)) (by exact BK390.out) k_ hn_))⟩)) (b0_32 (by repeat (first | (with_reducible first | exact HB.out | apply b8_32 | apply b6_32 | apply b7_32 | refine b4_32 ?_ GE361.out | refine b4_32 ?_ GE362.out | refine b4_32 ?_ GE375.out | refine b4_32 ?_ GE384.out | refine b4_32 ?_ GE390.out) | exact HB.out)))); have n5_ := aM_32 (b5_32 (by exact BK361.out) hb); have n6_ := aM_32 (b5_32 (by exact BK362.out) hb); have n7_ := aM_32 (b5_32 (by exact BK375.out) hb); have n8_ := aM_32 (b5_32 (by exact BK384.out) hb); have n9_ := aM_32 (b5_32 (by exact BK390.out) hb); have n10_ := aM_32 (b9_32 (by repeat (first | (with_reducible first | exact HB.out | apply b8_32 | apply b6_32 | apply b7_32 | refine b4_32 ?_ GE361.out | refine b4_32 ?_ GE362.out | refine b4_32 ?_ GE375.out | refine b4_32 ?_ GE384.out | refine b4_32 ?_ GE390.out) | exact HB.out)) hb); clear HO_376001 HO_385001 HO_391001 HO395 BK361 BK362 BK375 BK384 BK390 HB; have HO_376001 := n0_; have HO_385001 := n1_; have HO_391001 := n2_; have HO395 := n3_; have HO400 := n4_; have BK361 := n5_; have BK362 := n6_; have BK375 := n7_; have BK384 := n8_; have BK390 := n9_; have HB := n10_; clear n0_ n1_ n2_ n3_ n4_ n5_ n6_ n7_ n8_ n9_ n10_; (try clear hb); (try clear hb2); (try clear hk); (try clear hi); (try clear ho0); have hnb107 := NB390_361.out; have hnc107 := NB361_390.out; have hnb108 := NB390_362.out; have hnc108 := NB362_390.out; obtain ⟨hcz109_0, hcz109_1, hfz109_0, hfz109_1⟩ := cells2_32 BK390.out; obtain ⟨Ao110, co110, eo110⟩ := Kd.V_slice HO400.out; subst eo110))
       (try simp only [Act.put, l1_32, l2_32, l3_32])
       go_cut [113] (fun v113 wc => ∃ (kq : Nat) (x113_91 : Bool), v113 = .bool x113_91 ∧ Aside0 (proofmarklaw13_AigTells.j2 kq a1 l4 t363 t376 t377 t378 x113_91 t368 t369 = some r) ∧ Aside0 (kq ≤ kj32) ∧ Aside0 (Kd.V k50 50 wc w.heap.size (fun k_ => k_ ≠ gb361 ∧ k_ ≠ gb362 ∧ k_ ≠ gb375 ∧ k_ ≠ gb384 ∧ k_ ≠ gb390) (.slice Ao39 t369.length co39) t369) ∧ Aside0 (Kd.V k50 50 wc w.heap.size (fun k_ => k_ ≠ gb361 ∧ k_ ≠ gb362 ∧ k_ ≠ gb375 ∧ k_ ≠ gb384 ∧ k_ ≠ gb390) (.slice Ao103 t393.length co103) t393) ∧ Aside0 (Kd.V k50 50 wc w.heap.size (fun k_ => k_ ≠ gb361 ∧ k_ ≠ gb362 ∧ k_ ≠ gb375 ∧ k_ ≠ gb384 ∧ k_ ≠ gb390) (.slice Ao110 t398.length co110) t398) ∧ Aside0 (wc.heap[gb361]? = some (.cells #[.int .i64 a0_0, (.slice A0_1 l0_1.length c0_1)] 24 (0, 0))) ∧ Aside0 (wc.heap[gb362]? = some (.cells #[.int .u8 a3_0, .int .u16 a3_1, .int .u16 a3_2, .int .u16 a3_3] 28 (0, 0))) ∧ Aside0 (wc.heap[gb375]? = some (.cells #[.int .i64 t368, (.slice Ao39 t369.length co39)] 24 (0, 0))) ∧ Aside0 (wc.heap[gb384]? = some (.cells #[.int .i64 t392, (.slice Ao103 t393.length co103)] 24 (0, 0))) ∧ Aside0 (wc.heap[gb390]? = some (.cells #[.int .i64 t397, (.slice Ao110 t398.length co110)] 24 (0, 0))) ∧ Aside0 (Below w.heap.size w wc))
       case first =>
        have H := HC92.out
        clear HC92
        replace H := Option.bind_eq_some_iff.mp H
        obtain ⟨t402, A1110, H⟩ := H
        replace H : (if t402 = true then (proofmarklaw13_AigTells.j2 kj32 a1 l4 t363 t376 t377 t378 (t396 != t401) t368 t369) else (proofmarklaw13_AigTells.j2 kj32 a1 l4 t363 t376 t377 t378 true t368 t369)) = some r := H
        have A111 := aM_32 A1110
        clear A1110
        by_cases c112 : t402 = true
        ·subst c112
         have H1 : (proofmarklaw13_AigTells.j2 kj32 a1 l4 t363 t376 t377 t378 (t396 != t401) t368 t369) = some r := by rw [if_pos rfl] at H; exact H
         clear H
         have H := H1
         clear H1
         have H' := aM_32 H
         clear H
         have hnb113 := NB384_361.out
         have hnc113 := NB361_384.out
         have hnb114 := NB384_362.out
         have hnc114 := NB362_384.out
         have hnb115 := NB384_375.out
         have hnc115 := NB375_384.out
         have hnb116 := NB384_390.out
         have hnc116 := NB390_384.out
         obtain ⟨hcz117_0, hcz117_1, hfz117_0, hfz117_1⟩ := cells2_32 BK384.out
         have hnb118 := NB390_361.out
         have hnc118 := NB361_390.out
         have hnb119 := NB390_362.out
         have hnc119 := NB362_390.out
         have hnb120 := NB390_375.out
         have hnc120 := NB375_390.out
         obtain ⟨hcz121_0, hcz121_1, hfz121_0, hfz121_1⟩ := cells2_32 BK390.out
         go_wp2_with (first | ((with_reducible refine gate_callee (f := 18) rfl ?_); refine goesL_ (some 107) rfl rfl Try.func18 (by kernel_rfl) rfl #[.agg #[.int .i64 t392, .slice Ao103 t393.length co103], .agg #[.int .i64 t397, .slice Ao110 t398.length co110]] rfl (by (try simp only [List.map_toArray, List.map_cons, List.map_nil]); first | done | rfl | (simp only [List.length_drop, List.length_take]; rfl)) ?_; (with_reducible refine (proofmarkref13_Same.calls kj32 t392 _ _ t393 t397 _ _ t398 true _ ?side1 ?side2 ?side3 ?side4 A111.out).mono ?_); (case side1 => refine (Kd.V_reads' (e := 50) (base := w.heap.size) (ok := fun k_ => (k_ ≠ gb361 ∧ (k_ ≠ gb362 ∧ (k_ ≠ gb375 ∧ (k_ ≠ gb384 ∧ k_ ≠ gb390))))) (n := t393.length) (c := co103) ?_).2.2; exact (by (with_reducible repeat (first | apply v1_32 | apply v2_32 | apply v3_32)); exact (v4_32 (v5_32 (p := ⟨gb390, 1, none⟩) (v5_32 (p := ⟨gb390, 0, none⟩) (v4_32 HO395.out (fun k_ hk => (⟨hk, hk.2.2.2.2⟩ : _ ∧ k_ ≠ gb390))) (fun _ hk => hk.2) (.int .i64 t397)) (fun _ hk => hk.2) (.slice Ao110 t398.length co110)) (fun _ h_ => h_.1)))); (case side2 => exact (Kd.V_reads' HO395.out).2.1); (case side3 => refine (Kd.V_reads' (e := 50) (base := w.heap.size) (ok := fun k_ => (k_ ≠ gb361 ∧ (k_ ≠ gb362 ∧ (k_ ≠ gb375 ∧ (k_ ≠ gb384 ∧ k_ ≠ gb390))))) (n := t398.length) (c := co110) ?_).2.2; exact (by (with_reducible repeat (first | apply v1_32 | apply v2_32 | apply v3_32)); exact (v4_32 (v5_32 (p := ⟨gb390, 1, none⟩) (v5_32 (p := ⟨gb390, 0, none⟩) (v4_32 HO400.out (fun k_ hk => (⟨hk, hk.2.2.2.2⟩ : _ ∧ k_ ≠ gb390))) (fun _ hk => hk.2) (.int .i64 t397)) (fun _ hk => hk.2) (.slice Ao110 t398.length co110)) (fun _ h_ => h_.1)))); (case side4 => exact (Kd.V_reads' HO400.out).2.1); rintro e w122 ⟨rfl, hb⟩; refine ⟨_, rfl, ?_⟩; have n0_ := aM_32 (v6_32 (by (with_reducible repeat (first | apply v1_32 | apply v2_32 | apply v3_32)); exact (v4_32 (v5_32 (p := ⟨gb390, 1, none⟩) (v5_32 (p := ⟨gb390, 0, none⟩) (v4_32 HO_376001.out (fun k_ hk => (⟨hk, hk.2.2.2.2⟩ : _ ∧ k_ ≠ gb390))) (fun _ hk => hk.2) (.int .i64 t397)) (fun _ hk => hk.2) (.slice Ao110 t398.length co110)) (fun _ h_ => h_.1))) hb); have n1_ := aM_32 (v6_32 (by (with_reducible repeat (first | apply v1_32 | apply v2_32 | apply v3_32)); exact (v4_32 (v5_32 (p := ⟨gb390, 1, none⟩) (v5_32 (p := ⟨gb390, 0, none⟩) (v4_32 HO_385001.out (fun k_ hk => (⟨hk, hk.2.2.2.2⟩ : _ ∧ k_ ≠ gb390))) (fun _ hk => hk.2) (.int .i64 t397)) (fun _ hk => hk.2) (.slice Ao110 t398.length co110)) (fun _ h_ => h_.1))) hb); have n2_ := aM_32 (v6_32 (by (with_reducible repeat (first | apply v1_32 | apply v2_32 | apply v3_32)); exact (v4_32 (v5_32 (p := ⟨gb390, 1, none⟩) (v5_32 (p := ⟨gb390, 0, none⟩) (v4_32 HO_391001.out (fun k_ hk => (⟨hk, hk.2.2.2.2⟩ : _ ∧ k_ ≠ gb390))) (fun _ hk => hk.2) (.int .i64 t397)) (fun _ hk => hk.2) (.slice Ao110 t398.length co110)) (fun _ h_ => h_.1))) hb); have n3_ := aM_32 (v6_32 (by (with_reducible repeat (first | apply v1_32 | apply v2_32 | apply v3_32)); exact (v4_32 (v5_32 (p := ⟨gb390, 1, none⟩) (v5_32 (p := ⟨gb390, 0, none⟩) (v4_32 HO395.out (fun k_ hk => (⟨hk, hk.2.2.2.2⟩ : _ ∧ k_ ≠ gb390))) (fun _ hk => hk.2) (.int .i64 t397)) (fun _ hk => hk.2) (.slice Ao110 t398.length co110)) (fun _ h_ => h_.1))) hb); have n4_ := aM_32 (v6_32 (by (with_reducible repeat (first | apply v1_32 | apply v2_32 | apply v3_32)); exact (v4_32 (v5_32 (p := ⟨gb390, 1, none⟩) (v5_32 (p := ⟨gb390, 0, none⟩) (v4_32 HO400.out (fun k_ hk => (⟨hk, hk.2.2.2.2⟩ : _ ∧ k_ ≠ gb390))) (fun _ hk => hk.2) (.int .i64 t397)) (fun _ hk => hk.2) (.slice Ao110 t398.length co110)) (fun _ h_ => h_.1))) hb); have n5_ := aM_32 (b5_32 (g := gb361) (o := .cells #[.int .i64 a0_0, .slice A0_1 l0_1.length c0_1] 24 (0, 0)) (by (with_reducible repeat (first | refine b1_32 ?_ _ | refine b3_32 ?_ | refine b2_32 ?_ _)); refine c2_32 ?_ NB361_390.out _; (with_reducible repeat (first | refine b1_32 ?_ _ | refine b3_32 ?_ | refine b2_32 ?_ _)); refine c2_32 ?_ NB361_390.out _; (with_reducible repeat (first | refine b1_32 ?_ _ | refine b3_32 ?_ | refine b2_32 ?_ _)); exact BK361.out) hb); have n6_ := aM_32 (b5_32 (g := gb362) (o := .cells #[.int .u8 a3_0, .int .u16 a3_1, .int .u16 a3_2, .int .u16 a3_3] 28 (0, 0)) (by (with_reducible repeat (first | refine b1_32 ?_ _ | refine b3_32 ?_ | refine b2_32 ?_ _)); refine c2_32 ?_ NB362_390.out _; (with_reducible repeat (first | refine b1_32 ?_ _ | refine b3_32 ?_ | refine b2_32 ?_ _)); refine c2_32 ?_ NB362_390.out _; (with_reducible repeat (first | refine b1_32 ?_ _ | refine b3_32 ?_ | refine b2_32 ?_ _)); exact BK362.out) hb); have n7_ := aM_32 (b5_32 (g := gb375) (o := .cells #[.int .i64 t368, .slice Ao39 t369.length co39] 24 (0, 0)) (by (with_reducible repeat (first | refine b1_32 ?_ _ | refine b3_32 ?_ | refine b2_32 ?_ _)); refine c2_32 ?_ NB375_390.out _; (with_reducible repeat (first | refine b1_32 ?_ _ | refine b3_32 ?_ | refine b2_32 ?_ _)); refine c2_32 ?_ NB375_390.out _; (with_reducible repeat (first | refine b1_32 ?_ _ | refine b3_32 ?_ | refine b2_32 ?_ _)); exact BK375.out) hb); have n8_ := aM_32 (b5_32 (g := gb384) (o := .cells #[.int .i64 t392, .slice Ao103 t393.length co103] 24 (0, 0)) (by (with_reducible repeat (first | refine b1_32 ?_ _ | refine b3_32 ?_ | refine b2_32 ?_ _)); refine c2_32 ?_ NB384_390.out _; (with_reducible repeat (first | refine b1_32 ?_ _ | refine b3_32 ?_ | refine b2_32 ?_ _)); refine c2_32 ?_ NB384_390.out _; (with_reducible repeat (first | refine b1_32 ?_ _ | refine b3_32 ?_ | refine b2_32 ?_ _)); exact BK384.out) hb); have n9_ := aM_32 (b5_32 (g := gb390) (o := .cells #[.int .i64 t397, .slice Ao110 t398.length co110] 24 (0, 0)) (by (with_reducible repeat (first | refine b1_32 ?_ _ | refine b3_32 ?_ | refine b2_32 ?_ _)); refine c1_32 (cs := #[.int .i64 t397, .slice Ao66 t386.length co66]) ?_ 1 _ rfl; (with_reducible repeat (first | refine b1_32 ?_ _ | refine b3_32 ?_ | refine b2_32 ?_ _)); refine c1_32 (cs := #[.int .i64 t385, .slice Ao66 t386.length co66]) ?_ 0 _ rfl; (with_reducible repeat (first | refine b1_32 ?_ _ | refine b3_32 ?_ | refine b2_32 ?_ _)); exact BK390.out) hb); have n10_ := aM_32 (b9_32 (by repeat (first | (with_reducible first | exact HB.out | apply b8_32 | apply b6_32 | apply b7_32 | refine b4_32 ?_ GE361.out | refine b4_32 ?_ GE362.out | refine b4_32 ?_ GE375.out | refine b4_32 ?_ GE384.out | refine b4_32 ?_ GE390.out) | exact HB.out)) hb); clear HO_376001 HO_385001 HO_391001 HO395 HO400 BK361 BK362 BK375 BK384 BK390 HB; have HO_376001 := n0_; have HO_385001 := n1_; have HO_391001 := n2_; have HO395 := n3_; have HO400 := n4_; have BK361 := n5_; have BK362 := n6_; have BK375 := n7_; have BK384 := n8_; have BK390 := n9_; have HB := n10_; clear n0_ n1_ n2_ n3_ n4_ n5_ n6_ n7_ n8_ n9_ n10_; (try clear hb); (try clear hb2); (try clear hk); (try clear hi)))
         go_meet
         case rel => exact ⟨_, ((t396 != t401)), (by first | rfl | (simp; done) | (simp [*]; done)), H', ⟨by have := HJ6.out; have := HJ32.out; first | omega | exact Nat.le_refl _⟩, ⟨by (with_reducible repeat (first | apply v1_32 | apply v2_32 | apply v3_32)); exact HO_376001.out⟩, ⟨by (with_reducible repeat (first | apply v1_32 | apply v2_32 | apply v3_32)); exact HO395.out⟩, ⟨by (with_reducible repeat (first | apply v1_32 | apply v2_32 | apply v3_32)); exact HO400.out⟩, ⟨by (with_reducible repeat (first | refine b1_32 ?_ _ | refine b3_32 ?_ | refine b2_32 ?_ _)); exact BK361.out⟩, ⟨by (with_reducible repeat (first | refine b1_32 ?_ _ | refine b3_32 ?_ | refine b2_32 ?_ _)); exact BK362.out⟩, ⟨by (with_reducible repeat (first | refine b1_32 ?_ _ | refine b3_32 ?_ | refine b2_32 ?_ _)); exact BK375.out⟩, ⟨by (with_reducible repeat (first | refine b1_32 ?_ _ | refine b3_32 ?_ | refine b2_32 ?_ _)); exact BK384.out⟩, ⟨by (with_reducible repeat (first | refine b1_32 ?_ _ | refine b3_32 ?_ | refine b2_32 ?_ _)); exact BK390.out⟩, ⟨by repeat (first | (with_reducible first | exact HB.out | apply b8_32 | apply b6_32 | apply b7_32 | refine b4_32 ?_ GE361.out | refine b4_32 ?_ GE362.out | refine b4_32 ?_ GE375.out | refine b4_32 ?_ GE384.out | refine b4_32 ?_ GE390.out) | exact HB.out)⟩⟩
        ·replace c112 := Bool.eq_false_iff.mpr c112
         subst c112
         have H1 : (proofmarklaw13_AigTells.j2 kj32 a1 l4 t363 t376 t377 t378 true t368 t369) = some r := by rw [if_neg (show ¬ (false = true) by decide)] at H; exact H
         clear H
         have H := H1
         clear H1
         have H' := aM_32 H
         clear H
         have hnb123 := NB384_361.out
         have hnc123 := NB361_384.out
         have hnb124 := NB384_362.out
         have hnc124 := NB362_384.out
         have hnb125 := NB384_375.out
         have hnc125 := NB375_384.out
         have hnb126 := NB384_390.out
         have hnc126 := NB390_384.out
         obtain ⟨hcz127_0, hcz127_1, hfz127_0, hfz127_1⟩ := cells2_32 BK384.out
         have hnb128 := NB390_361.out
         have hnc128 := NB361_390.out
         have hnb129 := NB390_362.out
         have hnc129 := NB362_390.out
         have hnb130 := NB390_375.out
         have hnc130 := NB375_390.out
         obtain ⟨hcz131_0, hcz131_1, hfz131_0, hfz131_1⟩ := cells2_32 BK390.out
         go_wp2_with (first | ((with_reducible refine gate_callee (f := 18) rfl ?_); refine goesL_ (some 107) rfl rfl Try.func18 (by kernel_rfl) rfl #[.agg #[.int .i64 t392, .slice Ao103 t393.length co103], .agg #[.int .i64 t397, .slice Ao110 t398.length co110]] rfl (by (try simp only [List.map_toArray, List.map_cons, List.map_nil]); first | done | rfl | (simp only [List.length_drop, List.length_take]; rfl)) ?_; (with_reducible refine (proofmarkref13_Same.calls kj32 t392 _ _ t393 t397 _ _ t398 false _ ?side1 ?side2 ?side3 ?side4 A111.out).mono ?_); (case side1 => refine (Kd.V_reads' (e := 50) (base := w.heap.size) (ok := fun k_ => (k_ ≠ gb361 ∧ (k_ ≠ gb362 ∧ (k_ ≠ gb375 ∧ (k_ ≠ gb384 ∧ k_ ≠ gb390))))) (n := t393.length) (c := co103) ?_).2.2; exact (by (with_reducible repeat (first | apply v1_32 | apply v2_32 | apply v3_32)); exact (v4_32 (v5_32 (p := ⟨gb390, 1, none⟩) (v5_32 (p := ⟨gb390, 0, none⟩) (v4_32 HO395.out (fun k_ hk => (⟨hk, hk.2.2.2.2⟩ : _ ∧ k_ ≠ gb390))) (fun _ hk => hk.2) (.int .i64 t397)) (fun _ hk => hk.2) (.slice Ao110 t398.length co110)) (fun _ h_ => h_.1)))); (case side2 => exact (Kd.V_reads' HO395.out).2.1); (case side3 => refine (Kd.V_reads' (e := 50) (base := w.heap.size) (ok := fun k_ => (k_ ≠ gb361 ∧ (k_ ≠ gb362 ∧ (k_ ≠ gb375 ∧ (k_ ≠ gb384 ∧ k_ ≠ gb390))))) (n := t398.length) (c := co110) ?_).2.2; exact (by (with_reducible repeat (first | apply v1_32 | apply v2_32 | apply v3_32)); exact (v4_32 (v5_32 (p := ⟨gb390, 1, none⟩) (v5_32 (p := ⟨gb390, 0, none⟩) (v4_32 HO400.out (fun k_ hk => (⟨hk, hk.2.2.2.2⟩ : _ ∧ k_ ≠ gb390))) (fun _ hk => hk.2) (.int .i64 t397)) (fun _ hk => hk.2) (.slice Ao110 t398.length co110)) (fun _ h_ => h_.1)))); (case side4 => exact (Kd.V_reads' HO400.out).2.1); rintro e w132 ⟨rfl, hb⟩; refine ⟨_, rfl, ?_⟩; have n0_ := aM_32 (v6_32 (by (with_reducible repeat (first | apply v1_32 | apply v2_32 | apply v3_32)); exact (v4_32 (v5_32 (p := ⟨gb390, 1, none⟩) (v5_32 (p := ⟨gb390, 0, none⟩) (v4_32 HO_376001.out (fun k_ hk => (⟨hk, hk.2.2.2.2⟩ : _ ∧ k_ ≠ gb390))) (fun _ hk => hk.2) (.int .i64 t397)) (fun _ hk => hk.2) (.slice Ao110 t398.length co110)) (fun _ h_ => h_.1))) hb); have n1_ := aM_32 (v6_32 (by (with_reducible repeat (first | apply v1_32 | apply v2_32 | apply v3_32)); exact (v4_32 (v5_32 (p := ⟨gb390, 1, none⟩) (v5_32 (p := ⟨gb390, 0, none⟩) (v4_32 HO_385001.out (fun k_ hk => (⟨hk, hk.2.2.2.2⟩ : _ ∧ k_ ≠ gb390))) (fun _ hk => hk.2) (.int .i64 t397)) (fun _ hk => hk.2) (.slice Ao110 t398.length co110)) (fun _ h_ => h_.1))) hb); have n2_ := aM_32 (v6_32 (by (with_reducible repeat (first | apply v1_32 | apply v2_32 | apply v3_32)); exact (v4_32 (v5_32 (p := ⟨gb390, 1, none⟩) (v5_32 (p := ⟨gb390, 0, none⟩) (v4_32 HO_391001.out (fun k_ hk => (⟨hk, hk.2.2.2.2⟩ : _ ∧ k_ ≠ gb390))) (fun _ hk => hk.2) (.int .i64 t397)) (fun _ hk => hk.2) (.slice Ao110 t398.length co110)) (fun _ h_ => h_.1))) hb); have n3_ := aM_32 (v6_32 (by (with_reducible repeat (first | apply v1_32 | apply v2_32 | apply v3_32)); exact (v4_32 (v5_32 (p := ⟨gb390, 1, none⟩) (v5_32 (p := ⟨gb390, 0, none⟩) (v4_32 HO395.out (fun k_ hk => (⟨hk, hk.2.2.2.2⟩ : _ ∧ k_ ≠ gb390))) (fun _ hk => hk.2) (.int .i64 t397)) (fun _ hk => hk.2) (.slice Ao110 t398.length co110)) (fun _ h_ => h_.1))) hb); have n4_ := aM_32 (v6_32 (by (with_reducible repeat (first | apply v1_32 | apply v2_32 | apply v3_32)); exact (v4_32 (v5_32 (p := ⟨gb390, 1, none⟩) (v5_32 (p := ⟨gb390, 0, none⟩) (v4_32 HO400.out (fun k_ hk => (⟨hk, hk.2.2.2.2⟩ : _ ∧ k_ ≠ gb390))) (fun _ hk => hk.2) (.int .i64 t397)) (fun _ hk => hk.2) (.slice Ao110 t398.length co110)) (fun _ h_ => h_.1))) hb); have n5_ := aM_32 (b5_32 (g := gb361) (o := .cells #[.int .i64 a0_0, .slice A0_1 l0_1.length c0_1] 24 (0, 0)) (by (with_reducible repeat (first | refine b1_32 ?_ _ | refine b3_32 ?_ | refine b2_32 ?_ _)); refine c2_32 ?_ NB361_390.out _; (with_reducible repeat (first | refine b1_32 ?_ _ | refine b3_32 ?_ | refine b2_32 ?_ _)); refine c2_32 ?_ NB361_390.out _; (with_reducible repeat (first | refine b1_32 ?_ _ | refine b3_32 ?_ | refine b2_32 ?_ _)); exact BK361.out) hb); have n6_ := aM_32 (b5_32 (g := gb362) (o := .cells #[.int .u8 a3_0, .int .u16 a3_1, .int .u16 a3_2, .int .u16 a3_3] 28 (0, 0)) (by (with_reducible repeat (first | refine b1_32 ?_ _ | refine b3_32 ?_ | refine b2_32 ?_ _)); refine c2_32 ?_ NB362_390.out _; (with_reducible repeat (first | refine b1_32 ?_ _ | refine b3_32 ?_ | refine b2_32 ?_ _)); refine c2_32 ?_ NB362_390.out _; (with_reducible repeat (first | refine b1_32 ?_ _ | refine b3_32 ?_ | refine b2_32 ?_ _)); exact BK362.out) hb); have n7_ := aM_32 (b5_32 (g := gb375) (o := .cells #[.int .i64 t368, .slice Ao39 t369.length co39] 24 (0, 0)) (by (with_reducible repeat (first | refine b1_32 ?_ _ | refine b3_32 ?_ | refine b2_32 ?_ _)); refine c2_32 ?_ NB375_390.out _; (with_reducible repeat (first | refine b1_32 ?_ _ | refine b3_32 ?_ | refine b2_32 ?_ _)); refine c2_32 ?_ NB375_390.out _; (with_reducible repeat (first | refine b1_32 ?_ _ | refine b3_32 ?_ | refine b2_32 ?_ _)); exact BK375.out) hb); have n8_ := aM_32 (b5_32 (g := gb384) (o := .cells #[.int .i64 t392, .slice Ao103 t393.length co103] 24 (0, 0)) (by (with_reducible repeat (first | refine b1_32 ?_ _ | refine b3_32 ?_ | refine b2_32 ?_ _)); refine c2_32 ?_ NB384_390.out _; (with_reducible repeat (first | refine b1_32 ?_ _ | refine b3_32 ?_ | refine b2_32 ?_ _)); refine c2_32 ?_ NB384_390.out _; (with_reducible repeat (first | refine b1_32 ?_ _ | refine b3_32 ?_ | refine b2_32 ?_ _)); exact BK384.out) hb); have n9_ := aM_32 (b5_32 (g := gb390) (o := .cells #[.int .i64 t397, .slice Ao110 t398.length co110] 24 (0, 0)) (by (with_reducible repeat (first | refine b1_32 ?_ _ | refine b3_32 ?_ | refine b2_32 ?_ _)); refine c1_32 (cs := #[.int .i64 t397, .slice Ao66 t386.length co66]) ?_ 1 _ rfl; (with_reducible repeat (first | refine b1_32 ?_ _ | refine b3_32 ?_ | refine b2_32 ?_ _)); refine c1_32 (cs := #[.int .i64 t385, .slice Ao66 t386.length co66]) ?_ 0 _ rfl; (with_reducible repeat (first | refine b1_32 ?_ _ | refine b3_32 ?_ | refine b2_32 ?_ _)); exact BK390.out) hb); have n10_ := aM_32 (b9_32 (by repeat (first | (with_reducible first | exact HB.out | apply b8_32 | apply b6_32 | apply b7_32 | refine b4_32 ?_ GE361.out | refine b4_32 ?_ GE362.out | refine b4_32 ?_ GE375.out | refine b4_32 ?_ GE384.out | refine b4_32 ?_ GE390.out) | exact HB.out)) hb); clear HO_376001 HO_385001 HO_391001 HO395 HO400 BK361 BK362 BK375 BK384 BK390 HB; have HO_376001 := n0_; have HO_385001 := n1_; have HO_391001 := n2_; have HO395 := n3_; have HO400 := n4_; have BK361 := n5_; have BK362 := n6_; have BK375 := n7_; have BK384 := n8_; have BK390 := n9_; have HB := n10_; clear n0_ n1_ n2_ n3_ n4_ n5_ n6_ n7_ n8_ n9_ n10_; (try clear hb); (try clear hb2); (try clear hk); (try clear hi)))
         go_meet
         case rel => exact ⟨_, (true), (by first | rfl | (simp; done) | (simp [*]; done)), H', ⟨by have := HJ6.out; have := HJ32.out; first | omega | exact Nat.le_refl _⟩, ⟨by (with_reducible repeat (first | apply v1_32 | apply v2_32 | apply v3_32)); exact HO_376001.out⟩, ⟨by (with_reducible repeat (first | apply v1_32 | apply v2_32 | apply v3_32)); exact HO395.out⟩, ⟨by (with_reducible repeat (first | apply v1_32 | apply v2_32 | apply v3_32)); exact HO400.out⟩, ⟨by (with_reducible repeat (first | refine b1_32 ?_ _ | refine b3_32 ?_ | refine b2_32 ?_ _)); exact BK361.out⟩, ⟨by (with_reducible repeat (first | refine b1_32 ?_ _ | refine b3_32 ?_ | refine b2_32 ?_ _)); exact BK362.out⟩, ⟨by (with_reducible repeat (first | refine b1_32 ?_ _ | refine b3_32 ?_ | refine b2_32 ?_ _)); exact BK375.out⟩, ⟨by (with_reducible repeat (first | refine b1_32 ?_ _ | refine b3_32 ?_ | refine b2_32 ?_ _)); exact BK384.out⟩, ⟨by (with_reducible repeat (first | refine b1_32 ?_ _ | refine b3_32 ?_ | refine b2_32 ?_ _)); exact BK390.out⟩, ⟨by repeat (first | (with_reducible first | exact HB.out | apply b8_32 | apply b6_32 | apply b7_32 | refine b4_32 ?_ GE361.out | refine b4_32 ?_ GE362.out | refine b4_32 ?_ GE375.out | refine b4_32 ?_ GE384.out | refine b4_32 ?_ GE390.out) | exact HB.out)⟩⟩
       case rest =>
        clear HC92
        try clear c1
        try clear c2
        try clear p2
        try clear c3
        try clear c4
        try clear c5
        try clear c6
        try clear c7
        try clear c8
        try clear c9
        try clear c10
        try clear c11
        try clear c12
        try clear c13
        try clear c14
        try clear c14b0
        try clear c14b1
        try clear c15
        try clear c16
        try clear c17
        try clear c18
        try clear c19
        try clear c20
        try clear c21
        try clear c22
        try clear c24
        try clear c25
        try clear c36
        try clear c37
        try clear c40
        try clear c52
        try clear c53
        try clear c54
        try clear c61
        try clear c62
        try clear c63
        try clear c64
        try clear c68
        try clear c69
        try clear c70
        try clear c71
        try clear c72
        try clear c74
        try clear c75
        try clear c76
        try clear c79
        try clear c80
        try clear c81
        try clear c82
        try clear c84
        try clear c85
        try clear c86
        try clear c89
        try clear c93
        try clear c94
        try clear c95
        try clear c96
        try clear c99
        try clear c100
        try clear c101
        try clear c107
        try clear c108
        try clear c112
        try clear c113
        try clear c114
        try clear c115
        try clear c116
        try clear c118
        try clear c119
        try clear c120
        try clear c123
        try clear c124
        try clear c125
        try clear c126
        try clear c128
        try clear c129
        try clear c130
        try clear hcz102_0
        try clear hcz102_1
        try clear hcz105_0
        try clear hcz105_1
        try clear hcz109_0
        try clear hcz109_1
        try clear hcz117_0
        try clear hcz117_1
        try clear hcz121_0
        try clear hcz121_1
        try clear hcz127_0
        try clear hcz127_1
        try clear hcz131_0
        try clear hcz131_1
        try clear hcz26_0
        try clear hcz26_1
        try clear hcz38_0
        try clear hcz38_1
        try clear hcz41_0
        try clear hcz41_1
        try clear hcz41_2
        try clear hcz41_3
        try clear hcz43_0
        try clear hcz43_1
        try clear hcz44_0
        try clear hcz44_1
        try clear hcz44_2
        try clear hcz44_3
        try clear hcz46_0
        try clear hcz46_1
        try clear hcz47_0
        try clear hcz47_1
        try clear hcz47_2
        try clear hcz47_3
        try clear hcz49_0
        try clear hcz49_1
        try clear hcz55_0
        try clear hcz55_1
        try clear hcz58_0
        try clear hcz58_1
        try clear hcz65_0
        try clear hcz65_1
        try clear hcz73_0
        try clear hcz73_1
        try clear hcz77_0
        try clear hcz77_1
        try clear hcz83_0
        try clear hcz83_1
        try clear hcz87_0
        try clear hcz87_1
        try clear hcz97_0
        try clear hcz97_1
        try clear hfz102_0
        try clear hfz102_1
        try clear hfz105_0
        try clear hfz105_1
        try clear hfz109_0
        try clear hfz109_1
        try clear hfz117_0
        try clear hfz117_1
        try clear hfz121_0
        try clear hfz121_1
        try clear hfz127_0
        try clear hfz127_1
        try clear hfz131_0
        try clear hfz131_1
        try clear hfz26_0
        try clear hfz26_1
        try clear hfz38_0
        try clear hfz38_1
        try clear hfz41_0
        try clear hfz41_1
        try clear hfz41_2
        try clear hfz41_3
        try clear hfz43_0
        try clear hfz43_1
        try clear hfz44_0
        try clear hfz44_1
        try clear hfz44_2
        try clear hfz44_3
        try clear hfz46_0
        try clear hfz46_1
        try clear hfz47_0
        try clear hfz47_1
        try clear hfz47_2
        try clear hfz47_3
        try clear hfz49_0
        try clear hfz49_1
        try clear hfz55_0
        try clear hfz55_1
        try clear hfz58_0
        try clear hfz58_1
        try clear hfz65_0
        try clear hfz65_1
        try clear hfz73_0
        try clear hfz73_1
        try clear hfz77_0
        try clear hfz77_1
        try clear hfz83_0
        try clear hfz83_1
        try clear hfz87_0
        try clear hfz87_1
        try clear hfz97_0
        try clear hfz97_1
        try clear p2
        obtain ⟨kq, x113_91, rfl, HA, HJ91, HO_376001, HO_385001, HO_391001, BK361, BK362, BK375, BK384, BK390, HB⟩ := hcut
        cases kq with
        | zero => exact absurd HA.out (by simp [proofmarklaw13_AigTells.j2])
        | succ kj91 =>
         have H := HA.out
         clear HA
         simp only [proofmarklaw13_AigTells.j2] at H
         by_cases c133 : x113_91 = true
         ·subst c133
          have H1 : (none) = some r := by rw [if_pos rfl] at H; exact H
          clear H
          have H := H1
          clear H1
          exact absurd H (by simp)
         ·replace c133 := Bool.eq_false_iff.mpr c133
          subst c133
          have H1 : ((aig_Xor.f kj91 t368 t369 t376 t377).bind fun bt403 => ((proofmarkref13_Xor.f kj91 t368 t369 t376 t377).bind fun bt408 => ((proofmarkref13_Same.f kj91 bt403.1 bt403.2.1 bt408.1 bt408.2.1).bind fun t413 => (if t413 = true then (proofmarklaw13_AigTells.j3 kj91 a1 l4 t363 t376 t377 t378 (bt403.2.2 != bt408.2.2) t368 t369) else (proofmarklaw13_AigTells.j3 kj91 a1 l4 t363 t376 t377 t378 true t368 t369))))) = some r := by rw [if_neg (show ¬ (false = true) by decide)] at H; exact H
          clear H
          have H := H1
          clear H1
          replace H := Option.bind_eq_some_iff.mp H
          obtain ⟨⟨t403, t404, t407⟩, A1340, H⟩ := H
          replace H : ((proofmarkref13_Xor.f kj91 t368 t369 t376 t377).bind fun bt408 => ((proofmarkref13_Same.f kj91 t403 t404 bt408.1 bt408.2.1).bind fun t413 => (if t413 = true then (proofmarklaw13_AigTells.j3 kj91 a1 l4 t363 t376 t377 t378 (t407 != bt408.2.2) t368 t369) else (proofmarklaw13_AigTells.j3 kj91 a1 l4 t363 t376 t377 t378 true t368 t369)))) = some r := H
          have A134 := aM_32 A1340
          clear A1340
          replace H := Option.bind_eq_some_iff.mp H
          obtain ⟨⟨t408, t409, t412⟩, A1350, H⟩ := H
          replace H : ((proofmarkref13_Same.f kj91 t403 t404 t408 t409).bind fun t413 => (if t413 = true then (proofmarklaw13_AigTells.j3 kj91 a1 l4 t363 t376 t377 t378 (t407 != t412) t368 t369) else (proofmarklaw13_AigTells.j3 kj91 a1 l4 t363 t376 t377 t378 true t368 t369))) = some r := H
          have A135 := aM_32 A1350
          clear A1350
          have HC136 := aM_32 H
          clear H
          have hnb137 := NB375_361.out
          have hnc137 := NB361_375.out
          have hnb138 := NB375_362.out
          have hnc138 := NB362_375.out
          have hnb139 := NB375_384.out
          have hnc139 := NB384_375.out
          have hnb140 := NB375_390.out
          have hnc140 := NB390_375.out
          obtain ⟨hcz141_0, hcz141_1, hfz141_0, hfz141_1⟩ := cells2_32 BK375.out
          go_upto_region 18 with (first | ((with_reducible refine gate_callee (f := 21) rfl ?_); refine goesL_ (some 118) rfl rfl Try.func21 (by kernel_rfl) rfl #[.agg #[.int .i64 t368, .slice Ao39 t369.length co39], .int .i64 t376, .int .i64 t377] rfl (by (try simp only [List.map_toArray, List.map_cons, List.map_nil]); first | done | rfl | (simp only [List.length_drop, List.length_take]; rfl)) ?_; (with_reducible refine (aig_Xor.calls kj91 t368 (fun k_ => (k_ ≠ gb361 ∧ (k_ ≠ gb362 ∧ (k_ ≠ gb375 ∧ (k_ ≠ gb384 ∧ k_ ≠ gb390))))) _ _ t369 t376 t377 t403 t404 t407 _ ?side1 A134.out).mono ?_); (case side1 => exact HO_376001.out); rintro e w142 ⟨v405, rfl, ho0, hb⟩; refine ⟨_, rfl, ?_⟩; have n0_ := aM_32 (v6_32 (by (with_reducible repeat (first | apply v1_32 | apply v2_32 | apply v3_32)); exact HO_376001.out) hb); have n1_ := aM_32 (v6_32 (by (with_reducible repeat (first | apply v1_32 | apply v2_32 | apply v3_32)); exact HO_385001.out) hb); have n2_ := aM_32 (v6_32 (by (with_reducible repeat (first | apply v1_32 | apply v2_32 | apply v3_32)); exact HO_391001.out) hb); have n3_ := aM_32 (v8_32 (v4_32 (ok' := fun k_ => k_ ≠ gb361 ∧ k_ ≠ gb362 ∧ k_ ≠ gb375 ∧ k_ ≠ gb384 ∧ k_ ≠ gb390) ho0 (fun k_ hk_ => ⟨Or.elim hk_ (fun hs_ => hs_.1) (fun hn_ => (f1_32 (g := gb361) (o := .cells #[.int .i64 a0_0, .slice A0_1 l0_1.length c0_1] 24 (0, 0)) (by exact BK361.out) k_ hn_)), Or.elim hk_ (fun hs_ => hs_.2.1) (fun hn_ => (f1_32 (g := gb362) (o := .cells #[.int .u8 a3_0, .int .u16 a3_1, .int .u16 a3_2, .int .u16 a3_3] 28 (0, 0)) (by exact BK362.out) k_ hn_)), Or.elim hk_ (fun hs_ => hs_.2.2.1) (fun hn_ => (f1_32 (g := gb375) (o := .cells #[.int .i64 t368, .slice Ao39 t369.length co39] 24 (0, 0)) (by exact BK375.out) k_ hn_)), Or.elim hk_ (fun hs_ => hs_.2.2.2.1) (fun hn_ => (f1_32 (g := gb384) (o := .cells #[.int .i64 t392, .slice Ao103 t393.length co103] 24 (0, 0)) (by exact BK384.out) k_ hn_)), Or.elim hk_ (fun hs_ => hs_.2.2.2.2) (fun hn_ => (f1_32 (g := gb390) (o := .cells #[.int .i64 t397, .slice Ao110 t398.length co110] 24 (0, 0)) (by exact BK390.out) k_ hn_))⟩)) (b0_32 (by repeat (first | (with_reducible first | exact HB.out | apply b8_32 | apply b6_32 | apply b7_32 | refine b4_32 ?_ GE361.out | refine b4_32 ?_ GE362.out | refine b4_32 ?_ GE375.out | refine b4_32 ?_ GE384.out | refine b4_32 ?_ GE390.out) | exact HB.out)))); have n4_ := aM_32 (b5_32 (by exact BK361.out) hb); have n5_ := aM_32 (b5_32 (by exact BK362.out) hb); have n6_ := aM_32 (b5_32 (by exact BK375.out) hb); have n7_ := aM_32 (b5_32 (by exact BK384.out) hb); have n8_ := aM_32 (b5_32 (by exact BK390.out) hb); have n9_ := aM_32 (b9_32 (by repeat (first | (with_reducible first | exact HB.out | apply b8_32 | apply b6_32 | apply b7_32 | refine b4_32 ?_ GE361.out | refine b4_32 ?_ GE362.out | refine b4_32 ?_ GE375.out | refine b4_32 ?_ GE384.out | refine b4_32 ?_ GE390.out) | exact HB.out)) hb); clear HO_376001 HO_385001 HO_391001 BK361 BK362 BK375 BK384 BK390 HB; have HO_376001 := n0_; have HO_385001 := n1_; have HO_391001 := n2_; have HO406 := n3_; have BK361 := n4_; have BK362 := n5_; have BK375 := n6_; have BK384 := n7_; have BK390 := n8_; have HB := n9_; clear n0_ n1_ n2_ n3_ n4_ n5_ n6_ n7_ n8_ n9_; (try clear hb); (try clear hb2); (try clear hk); (try clear hi); (try clear ho0); have hnb143 := NB384_361.out; have hnc143 := NB361_384.out; have hnb144 := NB384_362.out; have hnc144 := NB362_384.out; have hnb145 := NB384_390.out; have hnc145 := NB390_384.out; obtain ⟨hcz146_0, hcz146_1, hfz146_0, hfz146_1⟩ := cells2_32 BK384.out; obtain ⟨Ao147, co147, eo147⟩ := Kd.V_slice HO406.out; subst eo147) | ((with_reducible refine gate_store (t := 24) (p := 17) rfl ?_); refine store_event (t := 24) (p := 17) (v := ?vo_w148) (w1 := ((w142.setCell ⟨gb384, 0, none⟩ (.int .i64 t403)).setCell ⟨gb384, 1, none⟩ (.slice Ao147 t404.length co147))) ?hg ?ho ?hn ?hr ?_; (case ho => rfl); (case hg => rfl); (case hn => rfl); (case hr => first | (go_simp; done) | (go_simp; rfl)); intro w148 hw; have n0_ : Aside0 (Kd.V k50 50 w148 w.heap.size (fun k_ => k_ ≠ gb361 ∧ k_ ≠ gb362 ∧ k_ ≠ gb375 ∧ k_ ≠ gb384 ∧ k_ ≠ gb390) (.slice Ao39 t369.length co39) t369) := ⟨(by rw [hw]; exact (by (with_reducible repeat (first | apply v1_32 | apply v2_32 | apply v3_32)); exact v4_32 (v5_32 (p := ⟨gb384, 1, none⟩) (v5_32 (p := ⟨gb384, 0, none⟩) (v4_32 HO_376001.out (fun k_ hk => (⟨hk, hk.2.2.2.1⟩ : _ ∧ k_ ≠ gb384))) (fun _ hk => hk.2) (.int .i64 t403)) (fun _ hk => hk.2) (.slice Ao147 t404.length co147)) (fun _ hk => ⟨hk.1.1, ⟨hk.1.2.1, ⟨hk.1.2.2.1, ⟨hk.1.2.2.2.1, hk.1.2.2.2.2⟩⟩⟩⟩)))⟩; have n1_ : Aside0 (Kd.V k50 50 w148 w.heap.size (fun k_ => k_ ≠ gb361 ∧ k_ ≠ gb362 ∧ k_ ≠ gb375 ∧ k_ ≠ gb384 ∧ k_ ≠ gb390) (.slice Ao103 t393.length co103) t393) := ⟨(by rw [hw]; exact (by (with_reducible repeat (first | apply v1_32 | apply v2_32 | apply v3_32)); exact v4_32 (v5_32 (p := ⟨gb384, 1, none⟩) (v5_32 (p := ⟨gb384, 0, none⟩) (v4_32 HO_385001.out (fun k_ hk => (⟨hk, hk.2.2.2.1⟩ : _ ∧ k_ ≠ gb384))) (fun _ hk => hk.2) (.int .i64 t403)) (fun _ hk => hk.2) (.slice Ao147 t404.length co147)) (fun _ hk => ⟨hk.1.1, ⟨hk.1.2.1, ⟨hk.1.2.2.1, ⟨hk.1.2.2.2.1, hk.1.2.2.2.2⟩⟩⟩⟩)))⟩; have n2_ : Aside0 (Kd.V k50 50 w148 w.heap.size (fun k_ => k_ ≠ gb361 ∧ k_ ≠ gb362 ∧ k_ ≠ gb375 ∧ k_ ≠ gb384 ∧ k_ ≠ gb390) (.slice Ao110 t398.length co110) t398) := ⟨(by rw [hw]; exact (by (with_reducible repeat (first | apply v1_32 | apply v2_32 | apply v3_32)); exact v4_32 (v5_32 (p := ⟨gb384, 1, none⟩) (v5_32 (p := ⟨gb384, 0, none⟩) (v4_32 HO_391001.out (fun k_ hk => (⟨hk, hk.2.2.2.1⟩ : _ ∧ k_ ≠ gb384))) (fun _ hk => hk.2) (.int .i64 t403)) (fun _ hk => hk.2) (.slice Ao147 t404.length co147)) (fun _ hk => ⟨hk.1.1, ⟨hk.1.2.1, ⟨hk.1.2.2.1, ⟨hk.1.2.2.2.1, hk.1.2.2.2.2⟩⟩⟩⟩)))⟩; have n3_ : Aside0 (Kd.V k50 50 w148 w.heap.size (fun k_ => k_ ≠ gb361 ∧ k_ ≠ gb362 ∧ k_ ≠ gb375 ∧ k_ ≠ gb384 ∧ k_ ≠ gb390) (.slice Ao147 t404.length co147) t404) := ⟨(by rw [hw]; exact (by (with_reducible repeat (first | apply v1_32 | apply v2_32 | apply v3_32)); exact v4_32 (v5_32 (p := ⟨gb384, 1, none⟩) (v5_32 (p := ⟨gb384, 0, none⟩) (v4_32 HO406.out (fun k_ hk => (⟨hk, hk.2.2.2.1⟩ : _ ∧ k_ ≠ gb384))) (fun _ hk => hk.2) (.int .i64 t403)) (fun _ hk => hk.2) (.slice Ao147 t404.length co147)) (fun _ hk => ⟨hk.1.1, ⟨hk.1.2.1, ⟨hk.1.2.2.1, ⟨hk.1.2.2.2.1, hk.1.2.2.2.2⟩⟩⟩⟩)))⟩; have n4_ : Aside0 (w148.heap[gb361]? = some (.cells #[.int .i64 a0_0, .slice A0_1 l0_1.length c0_1] 24 (0, 0))) := ⟨(by rw [hw]; exact (by (with_reducible repeat (first | refine b1_32 ?_ _ | refine b3_32 ?_ | refine b2_32 ?_ _)); refine c2_32 ?_ NB361_384.out _; (with_reducible repeat (first | refine b1_32 ?_ _ | refine b3_32 ?_ | refine b2_32 ?_ _)); refine c2_32 ?_ NB361_384.out _; (with_reducible repeat (first | refine b1_32 ?_ _ | refine b3_32 ?_ | refine b2_32 ?_ _)); exact BK361.out))⟩; have n5_ : Aside0 (w148.heap[gb362]? = some (.cells #[.int .u8 a3_0, .int .u16 a3_1, .int .u16 a3_2, .int .u16 a3_3] 28 (0, 0))) := ⟨(by rw [hw]; exact (by (with_reducible repeat (first | refine b1_32 ?_ _ | refine b3_32 ?_ | refine b2_32 ?_ _)); refine c2_32 ?_ NB362_384.out _; (with_reducible repeat (first | refine b1_32 ?_ _ | refine b3_32 ?_ | refine b2_32 ?_ _)); refine c2_32 ?_ NB362_384.out _; (with_reducible repeat (first | refine b1_32 ?_ _ | refine b3_32 ?_ | refine b2_32 ?_ _)); exact BK362.out))⟩; have n6_ : Aside0 (w148.heap[gb375]? = some (.cells #[.int .i64 t368, .slice Ao39 t369.length co39] 24 (0, 0))) := ⟨(by rw [hw]; exact (by (with_reducible repeat (first | refine b1_32 ?_ _ | refine b3_32 ?_ | refine b2_32 ?_ _)); refine c2_32 ?_ NB375_384.out _; (with_reducible repeat (first | refine b1_32 ?_ _ | refine b3_32 ?_ | refine b2_32 ?_ _)); refine c2_32 ?_ NB375_384.out _; (with_reducible repeat (first | refine b1_32 ?_ _ | refine b3_32 ?_ | refine b2_32 ?_ _)); exact BK375.out))⟩; have n7_ : Aside0 (w148.heap[gb384]? = some (.cells #[.int .i64 t403, .slice Ao147 t404.length co147] 24 (0, 0))) := ⟨(by rw [hw]; exact (by (with_reducible repeat (first | refine b1_32 ?_ _ | refine b3_32 ?_ | refine b2_32 ?_ _)); refine c1_32 (cs := #[.int .i64 t403, .slice Ao103 t393.length co103]) ?_ 1 _ rfl; (with_reducible repeat (first | refine b1_32 ?_ _ | refine b3_32 ?_ | refine b2_32 ?_ _)); refine c1_32 (cs := #[.int .i64 t392, .slice Ao103 t393.length co103]) ?_ 0 _ rfl; (with_reducible repeat (first | refine b1_32 ?_ _ | refine b3_32 ?_ | refine b2_32 ?_ _)); exact BK384.out))⟩; have n8_ : Aside0 (w148.heap[gb390]? = some (.cells #[.int .i64 t397, .slice Ao110 t398.length co110] 24 (0, 0))) := ⟨(by rw [hw]; exact (by (with_reducible repeat (first | refine b1_32 ?_ _ | refine b3_32 ?_ | refine b2_32 ?_ _)); refine c2_32 ?_ NB390_384.out _; (with_reducible repeat (first | refine b1_32 ?_ _ | refine b3_32 ?_ | refine b2_32 ?_ _)); refine c2_32 ?_ NB390_384.out _; (with_reducible repeat (first | refine b1_32 ?_ _ | refine b3_32 ?_ | refine b2_32 ?_ _)); exact BK390.out))⟩; have n9_ : Aside0 (Below w.heap.size w w148) := ⟨(by rw [hw]; exact (by repeat (first | (with_reducible first | exact HB.out | apply b8_32 | apply b6_32 | apply b7_32 | refine b4_32 ?_ GE361.out | refine b4_32 ?_ GE362.out | refine b4_32 ?_ GE375.out | refine b4_32 ?_ GE384.out | refine b4_32 ?_ GE390.out) | exact HB.out)))⟩; clear hw HO_376001 HO_385001 HO_391001 HO406 BK361 BK362 BK375 BK384 BK390 HB; have HO_376001 := n0_; have HO_385001 := n1_; have HO_391001 := n2_; have HO406 := n3_; have BK361 := n4_; have BK362 := n5_; have BK375 := n6_; have BK384 := n7_; have BK390 := n8_; have HB := n9_; clear n0_ n1_ n2_ n3_ n4_ n5_ n6_ n7_ n8_ n9_; obtain ⟨hcz149_0, hcz149_1, hfz149_0, hfz149_1⟩ := cells2_32 BK375.out) | ((with_reducible refine gate_callee (f := 22) rfl ?_); refine goesL_ (some 125) rfl rfl Try.func22 (by kernel_rfl) rfl #[.agg #[.int .i64 t368, .slice Ao39 t369.length co39], .int .i64 t376, .int .i64 t377] rfl (by (try simp only [List.map_toArray, List.map_cons, List.map_nil]); first | done | rfl | (simp only [List.length_drop, List.length_take]; rfl)) ?_; (with_reducible refine (proofmarkref13_Xor.calls kj91 t368 (fun k_ => (k_ ≠ gb361 ∧ (k_ ≠ gb362 ∧ (k_ ≠ gb375 ∧ (k_ ≠ gb384 ∧ k_ ≠ gb390))))) _ _ t369 t376 t377 t408 t409 t412 _ ?side1 A135.out).mono ?_); (case side1 => exact HO_376001.out); rintro e w150 ⟨v410, rfl, ho0, hb⟩; refine ⟨_, rfl, ?_⟩; have n0_ := aM_32 (v6_32 (by (with_reducible repeat (first | apply v1_32 | apply v2_32 | apply v3_32)); exact HO_376001.out) hb); have n1_ := aM_32 (v6_32 (by (with_reducible repeat (first | apply v1_32 | apply v2_32 | apply v3_32)); exact HO_385001.out) hb); have n2_ := aM_32 (v6_32 (by (with_reducible repeat (first | apply v1_32 | apply v2_32 | apply v3_32)); exact HO_391001.out) hb); have n3_ := aM_32 (v6_32 (by (with_reducible repeat (first | apply v1_32 | apply v2_32 | apply v3_32)); exact HO406.out) hb); have n4_ := aM_32 (v8_32 (v4_32 (ok' := fun k_ => k_ ≠ gb361 ∧ k_ ≠ gb362 ∧ k_ ≠ gb375 ∧ k_ ≠ gb384 ∧ k_ ≠ gb390) ho0 (fun k_ hk_ => ⟨Or.elim hk_ (fun hs_ => hs_.1) (fun hn_ => (f1_32 (g := gb361) (o := .cells #[.int .i64 a0_0, .slice A0_1 l0_1.length c0_1] 24 (0, 0)) (by exact BK361.out) k_ hn_)), Or.elim hk_ (fun hs_ => hs_.2.1) (fun hn_ => (f1_32 (g := gb362) (o := .cells #[.int .u8 a3_0, .int .u16 a3_1, .int .u16 a3_2, .int .u16 a3_3] 28 (0, 0)) (by exact BK362.out) k_ hn_)), Or.elim hk_ (fun hs_ => hs_.2.2.1) (fun hn_ => (f1_32 (g := gb375) (o := .cells #[.int .i64 t368, .slice Ao39 t369.length co39] 24 (0, 0)) (by exact BK375.out) k_ hn_)), Or.elim hk_ (fun hs_ => hs_.2.2.2.1) (fun hn_ => (f1_32 (g := gb384) (o := .cells #[.int .i64 t403, .slice Ao147 t404.length co147] 24 (0, 0)) (by exact BK384.out) k_ hn_)), Or.elim hk_ (fun hs_ => hs_.2.2.2.2) (fun hn_ => (f1_32 (g := gb390) (o := .cells #[.int .i64 t397, .slice Ao110 t398.length co110] 24 (0, 0)) (by exact BK390.out) k_ hn_))⟩)) (b0_32 (by repeat (first | (with_reducible first | exact HB.out | apply b8_32 | apply b6_32 | apply b7_32 | refine b4_32 ?_ GE361.out | refine b4_32 ?_ GE362.out | refine b4_32 ?_ GE375.out | refine b4_32 ?_ GE384.out | refine b4_32 ?_ GE390.out) | exact HB.out)))); have n5_ := aM_32 (b5_32 (by exact BK361.out) hb); have n6_ := aM_32 (b5_32 (by exact BK362.out) hb); have n7_ := aM_32 (b5_32 (by exact BK375.out) hb); have n8_ := aM_32 (b5_32 (by exact BK384.out) hb); have n9_ := aM_32 (b5_32 (by exact BK390.out) hb); have n10_ := aM_32 (b9_32 (by repeat (first | (with_reducible first | exact HB.out | apply b8_32 | apply b6_32 | apply b7_32 | refine b4_32 ?_ GE361.out | refine b4_32 ?_ GE362.out | refine b4_32 ?_ GE375.out | refine b4_32 ?_ GE384.out | refine b4_32 ?_ GE390.out) | exact HB.out)) hb); clear HO_376001 HO_385001 HO_391001 HO406 BK361 BK362 BK375 BK384 BK390 HB; have HO_376001 := n0_; have HO_385001 := n1_; have HO_391001 := n2_; have HO406 := n3_; have HO411 := n4_; have BK361 := n5_; have BK362 := n6_; have BK375 := n7_; have BK384 := n8_; have BK390 := n9_; have HB := n10_; clear n0_ n1_ n2_ n3_ n4_ n5_ n6_ n7_ n8_ n9_ n10_; (try clear hb); (try clear hb2); (try clear hk); (try clear hi); (try clear ho0); have hnb151 := NB390_361.out; have hnc151 := NB361_390.out; have hnb152 := NB390_362.out; have hnc152 := NB362_390.out; obtain ⟨hcz153_0, hcz153_1, hfz153_0, hfz153_1⟩ := cells2_32 BK390.out; obtain ⟨Ao154, co154, eo154⟩ := Kd.V_slice HO411.out; subst eo154))
          (try simp only [Act.put, l1_32, l2_32, l3_32])
          go_cut [136] (fun v136 wc => ∃ (kq : Nat) (x136_135 : Bool), v136 = .bool x136_135 ∧ Aside0 (proofmarklaw13_AigTells.j3 kq a1 l4 t363 t376 t377 t378 x136_135 t368 t369 = some r) ∧ Aside0 (kq ≤ kj91) ∧ Aside0 (Kd.V k50 50 wc w.heap.size (fun k_ => k_ ≠ gb361 ∧ k_ ≠ gb362 ∧ k_ ≠ gb375 ∧ k_ ≠ gb384 ∧ k_ ≠ gb390) (.slice Ao39 t369.length co39) t369) ∧ Aside0 (Kd.V k50 50 wc w.heap.size (fun k_ => k_ ≠ gb361 ∧ k_ ≠ gb362 ∧ k_ ≠ gb375 ∧ k_ ≠ gb384 ∧ k_ ≠ gb390) (.slice Ao147 t404.length co147) t404) ∧ Aside0 (Kd.V k50 50 wc w.heap.size (fun k_ => k_ ≠ gb361 ∧ k_ ≠ gb362 ∧ k_ ≠ gb375 ∧ k_ ≠ gb384 ∧ k_ ≠ gb390) (.slice Ao154 t409.length co154) t409) ∧ Aside0 (wc.heap[gb361]? = some (.cells #[.int .i64 a0_0, (.slice A0_1 l0_1.length c0_1)] 24 (0, 0))) ∧ Aside0 (wc.heap[gb362]? = some (.cells #[.int .u8 a3_0, .int .u16 a3_1, .int .u16 a3_2, .int .u16 a3_3] 28 (0, 0))) ∧ Aside0 (wc.heap[gb375]? = some (.cells #[.int .i64 t368, (.slice Ao39 t369.length co39)] 24 (0, 0))) ∧ Aside0 (wc.heap[gb384]? = some (.cells #[.int .i64 t403, (.slice Ao147 t404.length co147)] 24 (0, 0))) ∧ Aside0 (wc.heap[gb390]? = some (.cells #[.int .i64 t408, (.slice Ao154 t409.length co154)] 24 (0, 0))) ∧ Aside0 (Below w.heap.size w wc))
          case first =>
           have H := HC136.out
           clear HC136
           replace H := Option.bind_eq_some_iff.mp H
           obtain ⟨t413, A1550, H⟩ := H
           replace H : (if t413 = true then (proofmarklaw13_AigTells.j3 kj91 a1 l4 t363 t376 t377 t378 (t407 != t412) t368 t369) else (proofmarklaw13_AigTells.j3 kj91 a1 l4 t363 t376 t377 t378 true t368 t369)) = some r := H
           have A155 := aM_32 A1550
           clear A1550
           by_cases c156 : t413 = true
           ·subst c156
            have H1 : (proofmarklaw13_AigTells.j3 kj91 a1 l4 t363 t376 t377 t378 (t407 != t412) t368 t369) = some r := by rw [if_pos rfl] at H; exact H
            clear H
            have H := H1
            clear H1
            have H' := aM_32 H
            clear H
            have hnb157 := NB384_361.out
            have hnc157 := NB361_384.out
            have hnb158 := NB384_362.out
            have hnc158 := NB362_384.out
            have hnb159 := NB384_375.out
            have hnc159 := NB375_384.out
            have hnb160 := NB384_390.out
            have hnc160 := NB390_384.out
            obtain ⟨hcz161_0, hcz161_1, hfz161_0, hfz161_1⟩ := cells2_32 BK384.out
            have hnb162 := NB390_361.out
            have hnc162 := NB361_390.out
            have hnb163 := NB390_362.out
            have hnc163 := NB362_390.out
            have hnb164 := NB390_375.out
            have hnc164 := NB375_390.out
            obtain ⟨hcz165_0, hcz165_1, hfz165_0, hfz165_1⟩ := cells2_32 BK390.out
            go_wp2_with (first | ((with_reducible refine gate_callee (f := 18) rfl ?_); refine goesL_ (some 130) rfl rfl Try.func18 (by kernel_rfl) rfl #[.agg #[.int .i64 t403, .slice Ao147 t404.length co147], .agg #[.int .i64 t408, .slice Ao154 t409.length co154]] rfl (by (try simp only [List.map_toArray, List.map_cons, List.map_nil]); first | done | rfl | (simp only [List.length_drop, List.length_take]; rfl)) ?_; (with_reducible refine (proofmarkref13_Same.calls kj91 t403 _ _ t404 t408 _ _ t409 true _ ?side1 ?side2 ?side3 ?side4 A155.out).mono ?_); (case side1 => refine (Kd.V_reads' (e := 50) (base := w.heap.size) (ok := fun k_ => (k_ ≠ gb361 ∧ (k_ ≠ gb362 ∧ (k_ ≠ gb375 ∧ (k_ ≠ gb384 ∧ k_ ≠ gb390))))) (n := t404.length) (c := co147) ?_).2.2; exact (by (with_reducible repeat (first | apply v1_32 | apply v2_32 | apply v3_32)); exact (v4_32 (v5_32 (p := ⟨gb390, 1, none⟩) (v5_32 (p := ⟨gb390, 0, none⟩) (v4_32 HO406.out (fun k_ hk => (⟨hk, hk.2.2.2.2⟩ : _ ∧ k_ ≠ gb390))) (fun _ hk => hk.2) (.int .i64 t408)) (fun _ hk => hk.2) (.slice Ao154 t409.length co154)) (fun _ h_ => h_.1)))); (case side2 => exact (Kd.V_reads' HO406.out).2.1); (case side3 => refine (Kd.V_reads' (e := 50) (base := w.heap.size) (ok := fun k_ => (k_ ≠ gb361 ∧ (k_ ≠ gb362 ∧ (k_ ≠ gb375 ∧ (k_ ≠ gb384 ∧ k_ ≠ gb390))))) (n := t409.length) (c := co154) ?_).2.2; exact (by (with_reducible repeat (first | apply v1_32 | apply v2_32 | apply v3_32)); exact (v4_32 (v5_32 (p := ⟨gb390, 1, none⟩) (v5_32 (p := ⟨gb390, 0, none⟩) (v4_32 HO411.out (fun k_ hk => (⟨hk, hk.2.2.2.2⟩ : _ ∧ k_ ≠ gb390))) (fun _ hk => hk.2) (.int .i64 t408)) (fun _ hk => hk.2) (.slice Ao154 t409.length co154)) (fun _ h_ => h_.1)))); (case side4 => exact (Kd.V_reads' HO411.out).2.1); rintro e w166 ⟨rfl, hb⟩; refine ⟨_, rfl, ?_⟩; have n0_ := aM_32 (v6_32 (by (with_reducible repeat (first | apply v1_32 | apply v2_32 | apply v3_32)); exact (v4_32 (v5_32 (p := ⟨gb390, 1, none⟩) (v5_32 (p := ⟨gb390, 0, none⟩) (v4_32 HO_376001.out (fun k_ hk => (⟨hk, hk.2.2.2.2⟩ : _ ∧ k_ ≠ gb390))) (fun _ hk => hk.2) (.int .i64 t408)) (fun _ hk => hk.2) (.slice Ao154 t409.length co154)) (fun _ h_ => h_.1))) hb); have n1_ := aM_32 (v6_32 (by (with_reducible repeat (first | apply v1_32 | apply v2_32 | apply v3_32)); exact (v4_32 (v5_32 (p := ⟨gb390, 1, none⟩) (v5_32 (p := ⟨gb390, 0, none⟩) (v4_32 HO_385001.out (fun k_ hk => (⟨hk, hk.2.2.2.2⟩ : _ ∧ k_ ≠ gb390))) (fun _ hk => hk.2) (.int .i64 t408)) (fun _ hk => hk.2) (.slice Ao154 t409.length co154)) (fun _ h_ => h_.1))) hb); have n2_ := aM_32 (v6_32 (by (with_reducible repeat (first | apply v1_32 | apply v2_32 | apply v3_32)); exact (v4_32 (v5_32 (p := ⟨gb390, 1, none⟩) (v5_32 (p := ⟨gb390, 0, none⟩) (v4_32 HO_391001.out (fun k_ hk => (⟨hk, hk.2.2.2.2⟩ : _ ∧ k_ ≠ gb390))) (fun _ hk => hk.2) (.int .i64 t408)) (fun _ hk => hk.2) (.slice Ao154 t409.length co154)) (fun _ h_ => h_.1))) hb); have n3_ := aM_32 (v6_32 (by (with_reducible repeat (first | apply v1_32 | apply v2_32 | apply v3_32)); exact (v4_32 (v5_32 (p := ⟨gb390, 1, none⟩) (v5_32 (p := ⟨gb390, 0, none⟩) (v4_32 HO406.out (fun k_ hk => (⟨hk, hk.2.2.2.2⟩ : _ ∧ k_ ≠ gb390))) (fun _ hk => hk.2) (.int .i64 t408)) (fun _ hk => hk.2) (.slice Ao154 t409.length co154)) (fun _ h_ => h_.1))) hb); have n4_ := aM_32 (v6_32 (by (with_reducible repeat (first | apply v1_32 | apply v2_32 | apply v3_32)); exact (v4_32 (v5_32 (p := ⟨gb390, 1, none⟩) (v5_32 (p := ⟨gb390, 0, none⟩) (v4_32 HO411.out (fun k_ hk => (⟨hk, hk.2.2.2.2⟩ : _ ∧ k_ ≠ gb390))) (fun _ hk => hk.2) (.int .i64 t408)) (fun _ hk => hk.2) (.slice Ao154 t409.length co154)) (fun _ h_ => h_.1))) hb); have n5_ := aM_32 (b5_32 (g := gb361) (o := .cells #[.int .i64 a0_0, .slice A0_1 l0_1.length c0_1] 24 (0, 0)) (by (with_reducible repeat (first | refine b1_32 ?_ _ | refine b3_32 ?_ | refine b2_32 ?_ _)); refine c2_32 ?_ NB361_390.out _; (with_reducible repeat (first | refine b1_32 ?_ _ | refine b3_32 ?_ | refine b2_32 ?_ _)); refine c2_32 ?_ NB361_390.out _; (with_reducible repeat (first | refine b1_32 ?_ _ | refine b3_32 ?_ | refine b2_32 ?_ _)); exact BK361.out) hb); have n6_ := aM_32 (b5_32 (g := gb362) (o := .cells #[.int .u8 a3_0, .int .u16 a3_1, .int .u16 a3_2, .int .u16 a3_3] 28 (0, 0)) (by (with_reducible repeat (first | refine b1_32 ?_ _ | refine b3_32 ?_ | refine b2_32 ?_ _)); refine c2_32 ?_ NB362_390.out _; (with_reducible repeat (first | refine b1_32 ?_ _ | refine b3_32 ?_ | refine b2_32 ?_ _)); refine c2_32 ?_ NB362_390.out _; (with_reducible repeat (first | refine b1_32 ?_ _ | refine b3_32 ?_ | refine b2_32 ?_ _)); exact BK362.out) hb); have n7_ := aM_32 (b5_32 (g := gb375) (o := .cells #[.int .i64 t368, .slice Ao39 t369.length co39] 24 (0, 0)) (by (with_reducible repeat (first | refine b1_32 ?_ _ | refine b3_32 ?_ | refine b2_32 ?_ _)); refine c2_32 ?_ NB375_390.out _; (with_reducible repeat (first | refine b1_32 ?_ _ | refine b3_32 ?_ | refine b2_32 ?_ _)); refine c2_32 ?_ NB375_390.out _; (with_reducible repeat (first | refine b1_32 ?_ _ | refine b3_32 ?_ | refine b2_32 ?_ _)); exact BK375.out) hb); have n8_ := aM_32 (b5_32 (g := gb384) (o := .cells #[.int .i64 t403, .slice Ao147 t404.length co147] 24 (0, 0)) (by (with_reducible repeat (first | refine b1_32 ?_ _ | refine b3_32 ?_ | refine b2_32 ?_ _)); refine c2_32 ?_ NB384_390.out _; (with_reducible repeat (first | refine b1_32 ?_ _ | refine b3_32 ?_ | refine b2_32 ?_ _)); refine c2_32 ?_ NB384_390.out _; (with_reducible repeat (first | refine b1_32 ?_ _ | refine b3_32 ?_ | refine b2_32 ?_ _)); exact BK384.out) hb); have n9_ := aM_32 (b5_32 (g := gb390) (o := .cells #[.int .i64 t408, .slice Ao154 t409.length co154] 24 (0, 0)) (by (with_reducible repeat (first | refine b1_32 ?_ _ | refine b3_32 ?_ | refine b2_32 ?_ _)); refine c1_32 (cs := #[.int .i64 t408, .slice Ao110 t398.length co110]) ?_ 1 _ rfl; (with_reducible repeat (first | refine b1_32 ?_ _ | refine b3_32 ?_ | refine b2_32 ?_ _)); refine c1_32 (cs := #[.int .i64 t397, .slice Ao110 t398.length co110]) ?_ 0 _ rfl; (with_reducible repeat (first | refine b1_32 ?_ _ | refine b3_32 ?_ | refine b2_32 ?_ _)); exact BK390.out) hb); have n10_ := aM_32 (b9_32 (by repeat (first | (with_reducible first | exact HB.out | apply b8_32 | apply b6_32 | apply b7_32 | refine b4_32 ?_ GE361.out | refine b4_32 ?_ GE362.out | refine b4_32 ?_ GE375.out | refine b4_32 ?_ GE384.out | refine b4_32 ?_ GE390.out) | exact HB.out)) hb); clear HO_376001 HO_385001 HO_391001 HO406 HO411 BK361 BK362 BK375 BK384 BK390 HB; have HO_376001 := n0_; have HO_385001 := n1_; have HO_391001 := n2_; have HO406 := n3_; have HO411 := n4_; have BK361 := n5_; have BK362 := n6_; have BK375 := n7_; have BK384 := n8_; have BK390 := n9_; have HB := n10_; clear n0_ n1_ n2_ n3_ n4_ n5_ n6_ n7_ n8_ n9_ n10_; (try clear hb); (try clear hb2); (try clear hk); (try clear hi)))
            go_meet
            case rel => exact ⟨_, ((t407 != t412)), (by first | rfl | (simp; done) | (simp [*]; done)), H', ⟨by have := HJ6.out; have := HJ32.out; have := HJ91.out; first | omega | exact Nat.le_refl _⟩, ⟨by (with_reducible repeat (first | apply v1_32 | apply v2_32 | apply v3_32)); exact HO_376001.out⟩, ⟨by (with_reducible repeat (first | apply v1_32 | apply v2_32 | apply v3_32)); exact HO406.out⟩, ⟨by (with_reducible repeat (first | apply v1_32 | apply v2_32 | apply v3_32)); exact HO411.out⟩, ⟨by (with_reducible repeat (first | refine b1_32 ?_ _ | refine b3_32 ?_ | refine b2_32 ?_ _)); exact BK361.out⟩, ⟨by (with_reducible repeat (first | refine b1_32 ?_ _ | refine b3_32 ?_ | refine b2_32 ?_ _)); exact BK362.out⟩, ⟨by (with_reducible repeat (first | refine b1_32 ?_ _ | refine b3_32 ?_ | refine b2_32 ?_ _)); exact BK375.out⟩, ⟨by (with_reducible repeat (first | refine b1_32 ?_ _ | refine b3_32 ?_ | refine b2_32 ?_ _)); exact BK384.out⟩, ⟨by (with_reducible repeat (first | refine b1_32 ?_ _ | refine b3_32 ?_ | refine b2_32 ?_ _)); exact BK390.out⟩, ⟨by repeat (first | (with_reducible first | exact HB.out | apply b8_32 | apply b6_32 | apply b7_32 | refine b4_32 ?_ GE361.out | refine b4_32 ?_ GE362.out | refine b4_32 ?_ GE375.out | refine b4_32 ?_ GE384.out | refine b4_32 ?_ GE390.out) | exact HB.out)⟩⟩
           ·replace c156 := Bool.eq_false_iff.mpr c156
            subst c156
            have H1 : (proofmarklaw13_AigTells.j3 kj91 a1 l4 t363 t376 t377 t378 true t368 t369) = some r := by rw [if_neg (show ¬ (false = true) by decide)] at H; exact H
            clear H
            have H := H1
            clear H1
            have H' := aM_32 H
            clear H
            have hnb167 := NB384_361.out
            have hnc167 := NB361_384.out
            have hnb168 := NB384_362.out
            have hnc168 := NB362_384.out
            have hnb169 := NB384_375.out
            have hnc169 := NB375_384.out
            have hnb170 := NB384_390.out
            have hnc170 := NB390_384.out
            obtain ⟨hcz171_0, hcz171_1, hfz171_0, hfz171_1⟩ := cells2_32 BK384.out
            have hnb172 := NB390_361.out
            have hnc172 := NB361_390.out
            have hnb173 := NB390_362.out
            have hnc173 := NB362_390.out
            have hnb174 := NB390_375.out
            have hnc174 := NB375_390.out
            obtain ⟨hcz175_0, hcz175_1, hfz175_0, hfz175_1⟩ := cells2_32 BK390.out
            go_wp2_with (first | ((with_reducible refine gate_callee (f := 18) rfl ?_); refine goesL_ (some 130) rfl rfl Try.func18 (by kernel_rfl) rfl #[.agg #[.int .i64 t403, .slice Ao147 t404.length co147], .agg #[.int .i64 t408, .slice Ao154 t409.length co154]] rfl (by (try simp only [List.map_toArray, List.map_cons, List.map_nil]); first | done | rfl | (simp only [List.length_drop, List.length_take]; rfl)) ?_; (with_reducible refine (proofmarkref13_Same.calls kj91 t403 _ _ t404 t408 _ _ t409 false _ ?side1 ?side2 ?side3 ?side4 A155.out).mono ?_); (case side1 => refine (Kd.V_reads' (e := 50) (base := w.heap.size) (ok := fun k_ => (k_ ≠ gb361 ∧ (k_ ≠ gb362 ∧ (k_ ≠ gb375 ∧ (k_ ≠ gb384 ∧ k_ ≠ gb390))))) (n := t404.length) (c := co147) ?_).2.2; exact (by (with_reducible repeat (first | apply v1_32 | apply v2_32 | apply v3_32)); exact (v4_32 (v5_32 (p := ⟨gb390, 1, none⟩) (v5_32 (p := ⟨gb390, 0, none⟩) (v4_32 HO406.out (fun k_ hk => (⟨hk, hk.2.2.2.2⟩ : _ ∧ k_ ≠ gb390))) (fun _ hk => hk.2) (.int .i64 t408)) (fun _ hk => hk.2) (.slice Ao154 t409.length co154)) (fun _ h_ => h_.1)))); (case side2 => exact (Kd.V_reads' HO406.out).2.1); (case side3 => refine (Kd.V_reads' (e := 50) (base := w.heap.size) (ok := fun k_ => (k_ ≠ gb361 ∧ (k_ ≠ gb362 ∧ (k_ ≠ gb375 ∧ (k_ ≠ gb384 ∧ k_ ≠ gb390))))) (n := t409.length) (c := co154) ?_).2.2; exact (by (with_reducible repeat (first | apply v1_32 | apply v2_32 | apply v3_32)); exact (v4_32 (v5_32 (p := ⟨gb390, 1, none⟩) (v5_32 (p := ⟨gb390, 0, none⟩) (v4_32 HO411.out (fun k_ hk => (⟨hk, hk.2.2.2.2⟩ : _ ∧ k_ ≠ gb390))) (fun _ hk => hk.2) (.int .i64 t408)) (fun _ hk => hk.2) (.slice Ao154 t409.length co154)) (fun _ h_ => h_.1)))); (case side4 => exact (Kd.V_reads' HO411.out).2.1); rintro e w176 ⟨rfl, hb⟩; refine ⟨_, rfl, ?_⟩; have n0_ := aM_32 (v6_32 (by (with_reducible repeat (first | apply v1_32 | apply v2_32 | apply v3_32)); exact (v4_32 (v5_32 (p := ⟨gb390, 1, none⟩) (v5_32 (p := ⟨gb390, 0, none⟩) (v4_32 HO_376001.out (fun k_ hk => (⟨hk, hk.2.2.2.2⟩ : _ ∧ k_ ≠ gb390))) (fun _ hk => hk.2) (.int .i64 t408)) (fun _ hk => hk.2) (.slice Ao154 t409.length co154)) (fun _ h_ => h_.1))) hb); have n1_ := aM_32 (v6_32 (by (with_reducible repeat (first | apply v1_32 | apply v2_32 | apply v3_32)); exact (v4_32 (v5_32 (p := ⟨gb390, 1, none⟩) (v5_32 (p := ⟨gb390, 0, none⟩) (v4_32 HO_385001.out (fun k_ hk => (⟨hk, hk.2.2.2.2⟩ : _ ∧ k_ ≠ gb390))) (fun _ hk => hk.2) (.int .i64 t408)) (fun _ hk => hk.2) (.slice Ao154 t409.length co154)) (fun _ h_ => h_.1))) hb); have n2_ := aM_32 (v6_32 (by (with_reducible repeat (first | apply v1_32 | apply v2_32 | apply v3_32)); exact (v4_32 (v5_32 (p := ⟨gb390, 1, none⟩) (v5_32 (p := ⟨gb390, 0, none⟩) (v4_32 HO_391001.out (fun k_ hk => (⟨hk, hk.2.2.2.2⟩ : _ ∧ k_ ≠ gb390))) (fun _ hk => hk.2) (.int .i64 t408)) (fun _ hk => hk.2) (.slice Ao154 t409.length co154)) (fun _ h_ => h_.1))) hb); have n3_ := aM_32 (v6_32 (by (with_reducible repeat (first | apply v1_32 | apply v2_32 | apply v3_32)); exact (v4_32 (v5_32 (p := ⟨gb390, 1, none⟩) (v5_32 (p := ⟨gb390, 0, none⟩) (v4_32 HO406.out (fun k_ hk => (⟨hk, hk.2.2.2.2⟩ : _ ∧ k_ ≠ gb390))) (fun _ hk => hk.2) (.int .i64 t408)) (fun _ hk => hk.2) (.slice Ao154 t409.length co154)) (fun _ h_ => h_.1))) hb); have n4_ := aM_32 (v6_32 (by (with_reducible repeat (first | apply v1_32 | apply v2_32 | apply v3_32)); exact (v4_32 (v5_32 (p := ⟨gb390, 1, none⟩) (v5_32 (p := ⟨gb390, 0, none⟩) (v4_32 HO411.out (fun k_ hk => (⟨hk, hk.2.2.2.2⟩ : _ ∧ k_ ≠ gb390))) (fun _ hk => hk.2) (.int .i64 t408)) (fun _ hk => hk.2) (.slice Ao154 t409.length co154)) (fun _ h_ => h_.1))) hb); have n5_ := aM_32 (b5_32 (g := gb361) (o := .cells #[.int .i64 a0_0, .slice A0_1 l0_1.length c0_1] 24 (0, 0)) (by (with_reducible repeat (first | refine b1_32 ?_ _ | refine b3_32 ?_ | refine b2_32 ?_ _)); refine c2_32 ?_ NB361_390.out _; (with_reducible repeat (first | refine b1_32 ?_ _ | refine b3_32 ?_ | refine b2_32 ?_ _)); refine c2_32 ?_ NB361_390.out _; (with_reducible repeat (first | refine b1_32 ?_ _ | refine b3_32 ?_ | refine b2_32 ?_ _)); exact BK361.out) hb); have n6_ := aM_32 (b5_32 (g := gb362) (o := .cells #[.int .u8 a3_0, .int .u16 a3_1, .int .u16 a3_2, .int .u16 a3_3] 28 (0, 0)) (by (with_reducible repeat (first | refine b1_32 ?_ _ | refine b3_32 ?_ | refine b2_32 ?_ _)); refine c2_32 ?_ NB362_390.out _; (with_reducible repeat (first | refine b1_32 ?_ _ | refine b3_32 ?_ | refine b2_32 ?_ _)); refine c2_32 ?_ NB362_390.out _; (with_reducible repeat (first | refine b1_32 ?_ _ | refine b3_32 ?_ | refine b2_32 ?_ _)); exact BK362.out) hb); have n7_ := aM_32 (b5_32 (g := gb375) (o := .cells #[.int .i64 t368, .slice Ao39 t369.length co39] 24 (0, 0)) (by (with_reducible repeat (first | refine b1_32 ?_ _ | refine b3_32 ?_ | refine b2_32 ?_ _)); refine c2_32 ?_ NB375_390.out _; (with_reducible repeat (first | refine b1_32 ?_ _ | refine b3_32 ?_ | refine b2_32 ?_ _)); refine c2_32 ?_ NB375_390.out _; (with_reducible repeat (first | refine b1_32 ?_ _ | refine b3_32 ?_ | refine b2_32 ?_ _)); exact BK375.out) hb); have n8_ := aM_32 (b5_32 (g := gb384) (o := .cells #[.int .i64 t403, .slice Ao147 t404.length co147] 24 (0, 0)) (by (with_reducible repeat (first | refine b1_32 ?_ _ | refine b3_32 ?_ | refine b2_32 ?_ _)); refine c2_32 ?_ NB384_390.out _; (with_reducible repeat (first | refine b1_32 ?_ _ | refine b3_32 ?_ | refine b2_32 ?_ _)); refine c2_32 ?_ NB384_390.out _; (with_reducible repeat (first | refine b1_32 ?_ _ | refine b3_32 ?_ | refine b2_32 ?_ _)); exact BK384.out) hb); have n9_ := aM_32 (b5_32 (g := gb390) (o := .cells #[.int .i64 t408, .slice Ao154 t409.length co154] 24 (0, 0)) (by (with_reducible repeat (first | refine b1_32 ?_ _ | refine b3_32 ?_ | refine b2_32 ?_ _)); refine c1_32 (cs := #[.int .i64 t408, .slice Ao110 t398.length co110]) ?_ 1 _ rfl; (with_reducible repeat (first | refine b1_32 ?_ _ | refine b3_32 ?_ | refine b2_32 ?_ _)); refine c1_32 (cs := #[.int .i64 t397, .slice Ao110 t398.length co110]) ?_ 0 _ rfl; (with_reducible repeat (first | refine b1_32 ?_ _ | refine b3_32 ?_ | refine b2_32 ?_ _)); exact BK390.out) hb); have n10_ := aM_32 (b9_32 (by repeat (first | (with_reducible first | exact HB.out | apply b8_32 | apply b6_32 | apply b7_32 | refine b4_32 ?_ GE361.out | refine b4_32 ?_ GE362.out | refine b4_32 ?_ GE375.out | refine b4_32 ?_ GE384.out | refine b4_32 ?_ GE390.out) | exact HB.out)) hb); clear HO_376001 HO_385001 HO_391001 HO406 HO411 BK361 BK362 BK375 BK384 BK390 HB; have HO_376001 := n0_; have HO_385001 := n1_; have HO_391001 := n2_; have HO406 := n3_; have HO411 := n4_; have BK361 := n5_; have BK362 := n6_; have BK375 := n7_; have BK384 := n8_; have BK390 := n9_; have HB := n10_; clear n0_ n1_ n2_ n3_ n4_ n5_ n6_ n7_ n8_ n9_ n10_; (try clear hb); (try clear hb2); (try clear hk); (try clear hi)))
            go_meet
            case rel => exact ⟨_, (true), (by first | rfl | (simp; done) | (simp [*]; done)), H', ⟨by have := HJ6.out; have := HJ32.out; have := HJ91.out; first | omega | exact Nat.le_refl _⟩, ⟨by (with_reducible repeat (first | apply v1_32 | apply v2_32 | apply v3_32)); exact HO_376001.out⟩, ⟨by (with_reducible repeat (first | apply v1_32 | apply v2_32 | apply v3_32)); exact HO406.out⟩, ⟨by (with_reducible repeat (first | apply v1_32 | apply v2_32 | apply v3_32)); exact HO411.out⟩, ⟨by (with_reducible repeat (first | refine b1_32 ?_ _ | refine b3_32 ?_ | refine b2_32 ?_ _)); exact BK361.out⟩, ⟨by (with_reducible repeat (first | refine b1_32 ?_ _ | refine b3_32 ?_ | refine b2_32 ?_ _)); exact BK362.out⟩, ⟨by (with_reducible repeat (first | refine b1_32 ?_ _ | refine b3_32 ?_ | refine b2_32 ?_ _)); exact BK375.out⟩, ⟨by (with_reducible repeat (first | refine b1_32 ?_ _ | refine b3_32 ?_ | refine b2_32 ?_ _)); exact BK384.out⟩, ⟨by (with_reducible repeat (first | refine b1_32 ?_ _ | refine b3_32 ?_ | refine b2_32 ?_ _)); exact BK390.out⟩, ⟨by repeat (first | (with_reducible first | exact HB.out | apply b8_32 | apply b6_32 | apply b7_32 | refine b4_32 ?_ GE361.out | refine b4_32 ?_ GE362.out | refine b4_32 ?_ GE375.out | refine b4_32 ?_ GE384.out | refine b4_32 ?_ GE390.out) | exact HB.out)⟩⟩
          case rest =>
           clear HC136
           try clear c1
           try clear c2
           try clear p2
           try clear c3
           try clear c4
           try clear c5
           try clear c6
           try clear c7
           try clear c8
           try clear c9
           try clear c10
           try clear c11
           try clear c12
           try clear c13
           try clear c14
           try clear c14b0
           try clear c14b1
           try clear c15
           try clear c16
           try clear c17
           try clear c18
           try clear c19
           try clear c20
           try clear c21
           try clear c22
           try clear c24
           try clear c25
           try clear c36
           try clear c37
           try clear c40
           try clear c52
           try clear c53
           try clear c54
           try clear c61
           try clear c62
           try clear c63
           try clear c64
           try clear c68
           try clear c69
           try clear c70
           try clear c71
           try clear c72
           try clear c74
           try clear c75
           try clear c76
           try clear c79
           try clear c80
           try clear c81
           try clear c82
           try clear c84
           try clear c85
           try clear c86
           try clear c89
           try clear c93
           try clear c94
           try clear c95
           try clear c96
           try clear c99
           try clear c100
           try clear c101
           try clear c107
           try clear c108
           try clear c112
           try clear c113
           try clear c114
           try clear c115
           try clear c116
           try clear c118
           try clear c119
           try clear c120
           try clear c123
           try clear c124
           try clear c125
           try clear c126
           try clear c128
           try clear c129
           try clear c130
           try clear c133
           try clear c137
           try clear c138
           try clear c139
           try clear c140
           try clear c143
           try clear c144
           try clear c145
           try clear c151
           try clear c152
           try clear c156
           try clear c157
           try clear c158
           try clear c159
           try clear c160
           try clear c162
           try clear c163
           try clear c164
           try clear c167
           try clear c168
           try clear c169
           try clear c170
           try clear c172
           try clear c173
           try clear c174
           try clear hcz102_0
           try clear hcz102_1
           try clear hcz105_0
           try clear hcz105_1
           try clear hcz109_0
           try clear hcz109_1
           try clear hcz117_0
           try clear hcz117_1
           try clear hcz121_0
           try clear hcz121_1
           try clear hcz127_0
           try clear hcz127_1
           try clear hcz131_0
           try clear hcz131_1
           try clear hcz141_0
           try clear hcz141_1
           try clear hcz146_0
           try clear hcz146_1
           try clear hcz149_0
           try clear hcz149_1
           try clear hcz153_0
           try clear hcz153_1
           try clear hcz161_0
           try clear hcz161_1
           try clear hcz165_0
           try clear hcz165_1
           try clear hcz171_0
           try clear hcz171_1
           try clear hcz175_0
           try clear hcz175_1
           try clear hcz26_0
           try clear hcz26_1
           try clear hcz38_0
           try clear hcz38_1
           try clear hcz41_0
           try clear hcz41_1
           try clear hcz41_2
           try clear hcz41_3
           try clear hcz43_0
           try clear hcz43_1
           try clear hcz44_0
           try clear hcz44_1
           try clear hcz44_2
           try clear hcz44_3
           try clear hcz46_0
           try clear hcz46_1
           try clear hcz47_0
           try clear hcz47_1
           try clear hcz47_2
           try clear hcz47_3
           try clear hcz49_0
           try clear hcz49_1
           try clear hcz55_0
           try clear hcz55_1
           try clear hcz58_0
           try clear hcz58_1
           try clear hcz65_0
           try clear hcz65_1
           try clear hcz73_0
           try clear hcz73_1
           try clear hcz77_0
           try clear hcz77_1
           try clear hcz83_0
           try clear hcz83_1
           try clear hcz87_0
           try clear hcz87_1
           try clear hcz97_0
           try clear hcz97_1
           try clear hfz102_0
           try clear hfz102_1
           try clear hfz105_0
           try clear hfz105_1
           try clear hfz109_0
           try clear hfz109_1
           try clear hfz117_0
           try clear hfz117_1
           try clear hfz121_0
           try clear hfz121_1
           try clear hfz127_0
           try clear hfz127_1
           try clear hfz131_0
           try clear hfz131_1
           try clear hfz141_0
           try clear hfz141_1
           try clear hfz146_0
           try clear hfz146_1
           try clear hfz149_0
           try clear hfz149_1
           try clear hfz153_0
           try clear hfz153_1
           try clear hfz161_0
           try clear hfz161_1
           try clear hfz165_0
           try clear hfz165_1
           try clear hfz171_0
           try clear hfz171_1
           try clear hfz175_0
           try clear hfz175_1
           try clear hfz26_0
           try clear hfz26_1
           try clear hfz38_0
           try clear hfz38_1
           try clear hfz41_0
           try clear hfz41_1
           try clear hfz41_2
           try clear hfz41_3
           try clear hfz43_0
           try clear hfz43_1
           try clear hfz44_0
           try clear hfz44_1
           try clear hfz44_2
           try clear hfz44_3
           try clear hfz46_0
           try clear hfz46_1
           try clear hfz47_0
           try clear hfz47_1
           try clear hfz47_2
           try clear hfz47_3
           try clear hfz49_0
           try clear hfz49_1
           try clear hfz55_0
           try clear hfz55_1
           try clear hfz58_0
           try clear hfz58_1
           try clear hfz65_0
           try clear hfz65_1
           try clear hfz73_0
           try clear hfz73_1
           try clear hfz77_0
           try clear hfz77_1
           try clear hfz83_0
           try clear hfz83_1
           try clear hfz87_0
           try clear hfz87_1
           try clear hfz97_0
           try clear hfz97_1
           try clear p2
           obtain ⟨kq, x136_135, rfl, HA, HJ135, HO_376001, HO_385001, HO_391001, BK361, BK362, BK375, BK384, BK390, HB⟩ := hcut
           cases kq with
           | zero => exact absurd HA.out (by simp [proofmarklaw13_AigTells.j3])
           | succ kj135 =>
            have H := HA.out
            clear HA
            simp only [proofmarklaw13_AigTells.j3] at H
            by_cases c177 : x136_135 = true
            ·subst c177
             have H1 : (none) = some r := by rw [if_pos rfl] at H; exact H
             clear H
             have H := H1
             clear H1
             exact absurd H (by simp)
            ·replace c177 := Bool.eq_false_iff.mpr c177
             subst c177
             have H1 : ((aig_Mux.f kj135 t368 t369 t376 t377 t378).bind fun bt414 => ((proofmarkref13_Mux.f kj135 t368 t369 t376 t377 t378).bind fun bt419 => ((proofmarklaw13_Bits.f kj135 t368 t369 l4).bind fun t424 => ((aig_Eval.f kj135 t368 t369 t424).bind fun t427 => ((proofmarklaw13_Bits.f kj135 t368 t369 l4).bind fun t430 => ((proofmarkref13_Eval.f kj135 t368 t369 t430).bind fun t433 => (if t363 = true then ((proofmarkref13_Same.f kj135 bt414.1 bt414.2.1 bt419.1 bt419.2.1).bind fun t436 => (if t436 = true then (if bt414.2.2 = bt419.2.2 then ((proofmarkref08_Same.f kj135 t427 t433).bind fun t437 => (if t437 = true then ((aig_Lit.f t433 t376).bind fun t438 => ((proofmarkref13_Lit.f t433 t376).bind fun t439 => (if (t438 == t439) = true then ((aig_New.f (wrap64 (a1))).bind fun bt440 => ((proofmarkref13_New.f (wrap64 (a1))).bind fun bt444 => ((proofmarkref13_Same.f kj135 bt440.1 bt440.2 bt444.1 bt444.2).bind fun t448 => (some t448)))) else (none)))) else (none))) else (none)) else (none))) else (none)))))))) = some r := by rw [if_neg (show ¬ (false = true) by decide)] at H; exact H
             clear H
             have H := H1
             clear H1
             replace H := Option.bind_eq_some_iff.mp H
             obtain ⟨⟨t414, t415, t418⟩, A1780, H⟩ := H
             replace H : ((proofmarkref13_Mux.f kj135 t368 t369 t376 t377 t378).bind fun bt419 => ((proofmarklaw13_Bits.f kj135 t368 t369 l4).bind fun t424 => ((aig_Eval.f kj135 t368 t369 t424).bind fun t427 => ((proofmarklaw13_Bits.f kj135 t368 t369 l4).bind fun t430 => ((proofmarkref13_Eval.f kj135 t368 t369 t430).bind fun t433 => (if t363 = true then ((proofmarkref13_Same.f kj135 t414 t415 bt419.1 bt419.2.1).bind fun t436 => (if t436 = true then (if t418 = bt419.2.2 then ((proofmarkref08_Same.f kj135 t427 t433).bind fun t437 => (if t437 = true then ((aig_Lit.f t433 t376).bind fun t438 => ((proofmarkref13_Lit.f t433 t376).bind fun t439 => (if (t438 == t439) = true then ((aig_New.f (wrap64 (a1))).bind fun bt440 => ((proofmarkref13_New.f (wrap64 (a1))).bind fun bt444 => ((proofmarkref13_Same.f kj135 bt440.1 bt440.2 bt444.1 bt444.2).bind fun t448 => (some t448)))) else (none)))) else (none))) else (none)) else (none))) else (none))))))) = some r := H
             have A178 := aM_32 A1780
             clear A1780
             replace H := Option.bind_eq_some_iff.mp H
             obtain ⟨⟨t419, t420, t423⟩, A1790, H⟩ := H
             replace H : ((proofmarklaw13_Bits.f kj135 t368 t369 l4).bind fun t424 => ((aig_Eval.f kj135 t368 t369 t424).bind fun t427 => ((proofmarklaw13_Bits.f kj135 t368 t369 l4).bind fun t430 => ((proofmarkref13_Eval.f kj135 t368 t369 t430).bind fun t433 => (if t363 = true then ((proofmarkref13_Same.f kj135 t414 t415 t419 t420).bind fun t436 => (if t436 = true then (if t418 = t423 then ((proofmarkref08_Same.f kj135 t427 t433).bind fun t437 => (if t437 = true then ((aig_Lit.f t433 t376).bind fun t438 => ((proofmarkref13_Lit.f t433 t376).bind fun t439 => (if (t438 == t439) = true then ((aig_New.f (wrap64 (a1))).bind fun bt440 => ((proofmarkref13_New.f (wrap64 (a1))).bind fun bt444 => ((proofmarkref13_Same.f kj135 bt440.1 bt440.2 bt444.1 bt444.2).bind fun t448 => (some t448)))) else (none)))) else (none))) else (none)) else (none))) else (none)))))) = some r := H
             have A179 := aM_32 A1790
             clear A1790
             replace H := Option.bind_eq_some_iff.mp H
             obtain ⟨t424, A1800, H⟩ := H
             replace H : ((aig_Eval.f kj135 t368 t369 t424).bind fun t427 => ((proofmarklaw13_Bits.f kj135 t368 t369 l4).bind fun t430 => ((proofmarkref13_Eval.f kj135 t368 t369 t430).bind fun t433 => (if t363 = true then ((proofmarkref13_Same.f kj135 t414 t415 t419 t420).bind fun t436 => (if t436 = true then (if t418 = t423 then ((proofmarkref08_Same.f kj135 t427 t433).bind fun t437 => (if t437 = true then ((aig_Lit.f t433 t376).bind fun t438 => ((proofmarkref13_Lit.f t433 t376).bind fun t439 => (if (t438 == t439) = true then ((aig_New.f (wrap64 (a1))).bind fun bt440 => ((proofmarkref13_New.f (wrap64 (a1))).bind fun bt444 => ((proofmarkref13_Same.f kj135 bt440.1 bt440.2 bt444.1 bt444.2).bind fun t448 => (some t448)))) else (none)))) else (none))) else (none)) else (none))) else (none))))) = some r := H
             have A180 := aM_32 A1800
             clear A1800
             replace H := Option.bind_eq_some_iff.mp H
             obtain ⟨t427, A1810, H⟩ := H
             replace H : ((proofmarklaw13_Bits.f kj135 t368 t369 l4).bind fun t430 => ((proofmarkref13_Eval.f kj135 t368 t369 t430).bind fun t433 => (if t363 = true then ((proofmarkref13_Same.f kj135 t414 t415 t419 t420).bind fun t436 => (if t436 = true then (if t418 = t423 then ((proofmarkref08_Same.f kj135 t427 t433).bind fun t437 => (if t437 = true then ((aig_Lit.f t433 t376).bind fun t438 => ((proofmarkref13_Lit.f t433 t376).bind fun t439 => (if (t438 == t439) = true then ((aig_New.f (wrap64 (a1))).bind fun bt440 => ((proofmarkref13_New.f (wrap64 (a1))).bind fun bt444 => ((proofmarkref13_Same.f kj135 bt440.1 bt440.2 bt444.1 bt444.2).bind fun t448 => (some t448)))) else (none)))) else (none))) else (none)) else (none))) else (none)))) = some r := H
             have A181 := aM_32 A1810
             clear A1810
             replace H := Option.bind_eq_some_iff.mp H
             obtain ⟨t430, A1820, H⟩ := H
             replace H : ((proofmarkref13_Eval.f kj135 t368 t369 t430).bind fun t433 => (if t363 = true then ((proofmarkref13_Same.f kj135 t414 t415 t419 t420).bind fun t436 => (if t436 = true then (if t418 = t423 then ((proofmarkref08_Same.f kj135 t427 t433).bind fun t437 => (if t437 = true then ((aig_Lit.f t433 t376).bind fun t438 => ((proofmarkref13_Lit.f t433 t376).bind fun t439 => (if (t438 == t439) = true then ((aig_New.f (wrap64 (a1))).bind fun bt440 => ((proofmarkref13_New.f (wrap64 (a1))).bind fun bt444 => ((proofmarkref13_Same.f kj135 bt440.1 bt440.2 bt444.1 bt444.2).bind fun t448 => (some t448)))) else (none)))) else (none))) else (none)) else (none))) else (none))) = some r := H
             have A182 := aM_32 A1820
             clear A1820
             replace H := Option.bind_eq_some_iff.mp H
             obtain ⟨t433, A1830, H⟩ := H
             replace H : (if t363 = true then ((proofmarkref13_Same.f kj135 t414 t415 t419 t420).bind fun t436 => (if t436 = true then (if t418 = t423 then ((proofmarkref08_Same.f kj135 t427 t433).bind fun t437 => (if t437 = true then ((aig_Lit.f t433 t376).bind fun t438 => ((proofmarkref13_Lit.f t433 t376).bind fun t439 => (if (t438 == t439) = true then ((aig_New.f (wrap64 (a1))).bind fun bt440 => ((proofmarkref13_New.f (wrap64 (a1))).bind fun bt444 => ((proofmarkref13_Same.f kj135 bt440.1 bt440.2 bt444.1 bt444.2).bind fun t448 => (some t448)))) else (none)))) else (none))) else (none)) else (none))) else (none)) = some r := H
             have A183 := aM_32 A1830
             clear A1830
             by_cases c184 : t363 = true
             ·subst c184
              have H1 : ((proofmarkref13_Same.f kj135 t414 t415 t419 t420).bind fun t436 => (if t436 = true then (if t418 = t423 then ((proofmarkref08_Same.f kj135 t427 t433).bind fun t437 => (if t437 = true then ((aig_Lit.f t433 t376).bind fun t438 => ((proofmarkref13_Lit.f t433 t376).bind fun t439 => (if (t438 == t439) = true then ((aig_New.f (wrap64 (a1))).bind fun bt440 => ((proofmarkref13_New.f (wrap64 (a1))).bind fun bt444 => ((proofmarkref13_Same.f kj135 bt440.1 bt440.2 bt444.1 bt444.2).bind fun t448 => (some t448)))) else (none)))) else (none))) else (none)) else (none))) = some r := by rw [if_pos rfl] at H; exact H
              clear H
              have H := H1
              clear H1
              replace H := Option.bind_eq_some_iff.mp H
              obtain ⟨t436, A1850, H⟩ := H
              replace H : (if t436 = true then (if t418 = t423 then ((proofmarkref08_Same.f kj135 t427 t433).bind fun t437 => (if t437 = true then ((aig_Lit.f t433 t376).bind fun t438 => ((proofmarkref13_Lit.f t433 t376).bind fun t439 => (if (t438 == t439) = true then ((aig_New.f (wrap64 (a1))).bind fun bt440 => ((proofmarkref13_New.f (wrap64 (a1))).bind fun bt444 => ((proofmarkref13_Same.f kj135 bt440.1 bt440.2 bt444.1 bt444.2).bind fun t448 => (some t448)))) else (none)))) else (none))) else (none)) else (none)) = some r := H
              have A185 := aM_32 A1850
              clear A1850
              by_cases c186 : t436 = true
              ·subst c186
               have H1 : (if t418 = t423 then ((proofmarkref08_Same.f kj135 t427 t433).bind fun t437 => (if t437 = true then ((aig_Lit.f t433 t376).bind fun t438 => ((proofmarkref13_Lit.f t433 t376).bind fun t439 => (if (t438 == t439) = true then ((aig_New.f (wrap64 (a1))).bind fun bt440 => ((proofmarkref13_New.f (wrap64 (a1))).bind fun bt444 => ((proofmarkref13_Same.f kj135 bt440.1 bt440.2 bt444.1 bt444.2).bind fun t448 => (some t448)))) else (none)))) else (none))) else (none)) = some r := by rw [if_pos rfl] at H; exact H
               clear H
               have H := H1
               clear H1
               by_cases c187 : t418 = t423
               ·rw [if_pos c187] at H
                have c187b0 : (t418 == t423) = true := beq_iff_eq.mpr c187
                have c187b1 : (t418 != t423) = false := bne_eq_false_iff_eq.mpr c187
                clear c187
                replace H := Option.bind_eq_some_iff.mp H
                obtain ⟨t437, A1880, H⟩ := H
                replace H : (if t437 = true then ((aig_Lit.f t433 t376).bind fun t438 => ((proofmarkref13_Lit.f t433 t376).bind fun t439 => (if (t438 == t439) = true then ((aig_New.f (wrap64 (a1))).bind fun bt440 => ((proofmarkref13_New.f (wrap64 (a1))).bind fun bt444 => ((proofmarkref13_Same.f kj135 bt440.1 bt440.2 bt444.1 bt444.2).bind fun t448 => (some t448)))) else (none)))) else (none)) = some r := H
                have A188 := aM_32 A1880
                clear A1880
                by_cases c189 : t437 = true
                ·subst c189
                 have H1 : ((aig_Lit.f t433 t376).bind fun t438 => ((proofmarkref13_Lit.f t433 t376).bind fun t439 => (if (t438 == t439) = true then ((aig_New.f (wrap64 (a1))).bind fun bt440 => ((proofmarkref13_New.f (wrap64 (a1))).bind fun bt444 => ((proofmarkref13_Same.f kj135 bt440.1 bt440.2 bt444.1 bt444.2).bind fun t448 => (some t448)))) else (none)))) = some r := by rw [if_pos rfl] at H; exact H
                 clear H
                 have H := H1
                 clear H1
                 replace H := Option.bind_eq_some_iff.mp H
                 obtain ⟨t438, A1900, H⟩ := H
                 replace H : ((proofmarkref13_Lit.f t433 t376).bind fun t439 => (if (t438 == t439) = true then ((aig_New.f (wrap64 (a1))).bind fun bt440 => ((proofmarkref13_New.f (wrap64 (a1))).bind fun bt444 => ((proofmarkref13_Same.f kj135 bt440.1 bt440.2 bt444.1 bt444.2).bind fun t448 => (some t448)))) else (none))) = some r := H
                 have A190 := aM_32 A1900
                 clear A1900
                 replace H := Option.bind_eq_some_iff.mp H
                 obtain ⟨t439, A1910, H⟩ := H
                 replace H : (if (t438 == t439) = true then ((aig_New.f (wrap64 (a1))).bind fun bt440 => ((proofmarkref13_New.f (wrap64 (a1))).bind fun bt444 => ((proofmarkref13_Same.f kj135 bt440.1 bt440.2 bt444.1 bt444.2).bind fun t448 => (some t448)))) else (none)) = some r := H
                 have A191 := aM_32 A1910
                 clear A1910
                 by_cases c192 : (t438 == t439) = true
                 ·rw [if_pos c192] at H
                  have c192b0 : (t438 == t439) = true := c192
                  (try (have c192b1 : decide (t438 = t439) = true := by simpa using c192))
                  (try (have c192b2 : (t438 == t439) = true := by simpa using c192))
                  clear c192
                  replace H := Option.bind_eq_some_iff.mp H
                  obtain ⟨⟨t440, t441⟩, A1930, H⟩ := H
                  replace H : ((proofmarkref13_New.f (wrap64 (a1))).bind fun bt444 => ((proofmarkref13_Same.f kj135 t440 t441 bt444.1 bt444.2).bind fun t448 => (some t448))) = some r := H
                  have A193 := aM_32 A1930
                  clear A1930
                  replace H := Option.bind_eq_some_iff.mp H
                  obtain ⟨⟨t444, t445⟩, A1940, H⟩ := H
                  replace H : ((proofmarkref13_Same.f kj135 t440 t441 t444 t445).bind fun t448 => (some t448)) = some r := H
                  have A194 := aM_32 A1940
                  clear A1940
                  replace H := Option.bind_eq_some_iff.mp H
                  obtain ⟨t448, A1950, H⟩ := H
                  replace H : (some t448) = some r := H
                  have A195 := aM_32 A1950
                  clear A1950
                  obtain rfl := Option.some.inj H
                  have hnb196 := NB375_361.out
                  have hnc196 := NB361_375.out
                  have hnb197 := NB375_362.out
                  have hnc197 := NB362_375.out
                  have hnb198 := NB375_384.out
                  have hnc198 := NB384_375.out
                  have hnb199 := NB375_390.out
                  have hnc199 := NB390_375.out
                  obtain ⟨hcz200_0, hcz200_1, hfz200_0, hfz200_1⟩ := cells2_32 BK375.out
                  try go_wp2_with (first | ((with_reducible refine gate_callee (f := 23) rfl ?_); refine goesL_ (some 142) rfl rfl Try.func23 (by kernel_rfl) rfl #[.agg #[.int .i64 t368, .slice Ao39 t369.length co39], .int .i64 t376, .int .i64 t377, .int .i64 t378] rfl (by (try simp only [List.map_toArray, List.map_cons, List.map_nil]); first | done | rfl | (simp only [List.length_drop, List.length_take]; rfl)) ?_; (with_reducible refine (aig_Mux.calls kj135 t368 (fun k_ => (k_ ≠ gb361 ∧ (k_ ≠ gb362 ∧ (k_ ≠ gb375 ∧ (k_ ≠ gb384 ∧ k_ ≠ gb390))))) _ _ t369 t376 t377 t378 t414 t415 t418 _ ?side1 A178.out).mono ?_); (case side1 => exact HO_376001.out); rintro e w201 ⟨v416, rfl, ho0, hb⟩; refine ⟨_, rfl, ?_⟩; have n0_ := aM_32 (v6_32 (by (with_reducible repeat (first | apply v1_32 | apply v2_32 | apply v3_32)); exact HO_376001.out) hb); have n1_ := aM_32 (v6_32 (by (with_reducible repeat (first | apply v1_32 | apply v2_32 | apply v3_32)); exact HO_385001.out) hb); have n2_ := aM_32 (v6_32 (by (with_reducible repeat (first | apply v1_32 | apply v2_32 | apply v3_32)); exact HO_391001.out) hb); have n3_ := aM_32 (v8_32 (v4_32 (ok' := fun k_ => k_ ≠ gb361 ∧ k_ ≠ gb362 ∧ k_ ≠ gb375 ∧ k_ ≠ gb384 ∧ k_ ≠ gb390) ho0 (fun k_ hk_ => ⟨Or.elim hk_ (fun hs_ => hs_.1) (fun hn_ => (f1_32 (g := gb361) (o := .cells #[.int .i64 a0_0, .slice A0_1 l0_1.length c0_1] 24 (0, 0)) (by exact BK361.out) k_ hn_)), Or.elim hk_ (fun hs_ => hs_.2.1) (fun hn_ => (f1_32 (g := gb362) (o := .cells #[.int .u8 a3_0, .int .u16 a3_1, .int .u16 a3_2, .int .u16 a3_3] 28 (0, 0)) (by exact BK362.out) k_ hn_)), Or.elim hk_ (fun hs_ => hs_.2.2.1) (fun hn_ => (f1_32 (g := gb375) (o := .cells #[.int .i64 t368, .slice Ao39 t369.length co39] 24 (0, 0)) (by exact BK375.out) k_ hn_)), Or.elim hk_ (fun hs_ => hs_.2.2.2.1) (fun hn_ => (f1_32 (g := gb384) (o := .cells #[.int .i64 t403, .slice Ao147 t404.length co147] 24 (0, 0)) (by exact BK384.out) k_ hn_)), Or.elim hk_ (fun hs_ => hs_.2.2.2.2) (fun hn_ => (f1_32 (g := gb390) (o := .cells #[.int .i64 t408, .slice Ao154 t409.length co154] 24 (0, 0)) (by exact BK390.out) k_ hn_))⟩)) (b0_32 (by repeat (first | (with_reducible first | exact HB.out | apply b8_32 | apply b6_32 | apply b7_32 | refine b4_32 ?_ GE361.out | refine b4_32 ?_ GE362.out | refine b4_32 ?_ GE375.out | refine b4_32 ?_ GE384.out | refine b4_32 ?_ GE390.out) | exact HB.out)))); have n4_ := aM_32 (b5_32 (by exact BK361.out) hb); have n5_ := aM_32 (b5_32 (by exact BK362.out) hb); have n6_ := aM_32 (b5_32 (by exact BK375.out) hb); have n7_ := aM_32 (b5_32 (by exact BK384.out) hb); have n8_ := aM_32 (b5_32 (by exact BK390.out) hb); have n9_ := aM_32 (b9_32 (by repeat (first | (with_reducible first | exact HB.out | apply b8_32 | apply b6_32 | apply b7_32 | refine b4_32 ?_ GE361.out | refine b4_32 ?_ GE362.out | refine b4_32 ?_ GE375.out | refine b4_32 ?_ GE384.out | refine b4_32 ?_ GE390.out) | exact HB.out)) hb); clear HO_376001 HO_385001 HO_391001 BK361 BK362 BK375 BK384 BK390 HB; have HO_376001 := n0_; have HO_385001 := n1_; have HO_391001 := n2_; have HO417 := n3_; have BK361 := n4_; have BK362 := n5_; have BK375 := n6_; have BK384 := n7_; have BK390 := n8_; have HB := n9_; clear n0_ n1_ n2_ n3_ n4_ n5_ n6_ n7_ n8_ n9_; (try clear hb); (try clear hb2); (try clear hk); (try clear hi); (try clear ho0); have hnb202 := NB384_361.out; have hnc202 := NB361_384.out; have hnb203 := NB384_362.out; have hnc203 := NB362_384.out; have hnb204 := NB384_390.out; have hnc204 := NB390_384.out; obtain ⟨hcz205_0, hcz205_1, hfz205_0, hfz205_1⟩ := cells2_32 BK384.out; obtain ⟨Ao206, co206, eo206⟩ := Kd.V_slice HO417.out; subst eo206) | ((with_reducible refine gate_store (t := 24) (p := 17) rfl ?_); refine store_event (t := 24) (p := 17) (v := ?vo_w207) (w1 := ((w201.setCell ⟨gb384, 0, none⟩ (.int .i64 t414)).setCell ⟨gb384, 1, none⟩ (.slice Ao206 t415.length co206))) ?hg ?ho ?hn ?hr ?_; (case ho => rfl); (case hg => rfl); (case hn => rfl); (case hr => first | (go_simp; done) | (go_simp; rfl)); intro w207 hw; have n0_ : Aside0 (Kd.V k50 50 w207 w.heap.size (fun k_ => k_ ≠ gb361 ∧ k_ ≠ gb362 ∧ k_ ≠ gb375 ∧ k_ ≠ gb384 ∧ k_ ≠ gb390) (.slice Ao39 t369.length co39) t369) := ⟨(by rw [hw]; exact (by (with_reducible repeat (first | apply v1_32 | apply v2_32 | apply v3_32)); exact v4_32 (v5_32 (p := ⟨gb384, 1, none⟩) (v5_32 (p := ⟨gb384, 0, none⟩) (v4_32 HO_376001.out (fun k_ hk => (⟨hk, hk.2.2.2.1⟩ : _ ∧ k_ ≠ gb384))) (fun _ hk => hk.2) (.int .i64 t414)) (fun _ hk => hk.2) (.slice Ao206 t415.length co206)) (fun _ hk => ⟨hk.1.1, ⟨hk.1.2.1, ⟨hk.1.2.2.1, ⟨hk.1.2.2.2.1, hk.1.2.2.2.2⟩⟩⟩⟩)))⟩; have n1_ : Aside0 (Kd.V k50 50 w207 w.heap.size (fun k_ => k_ ≠ gb361 ∧ k_ ≠ gb362 ∧ k_ ≠ gb375 ∧ k_ ≠ gb384 ∧ k_ ≠ gb390) (.slice Ao147 t404.length co147) t404) := ⟨(by rw [hw]; exact (by (with_reducible repeat (first | apply v1_32 | apply v2_32 | apply v3_32)); exact v4_32 (v5_32 (p := ⟨gb384, 1, none⟩) (v5_32 (p := ⟨gb384, 0, none⟩) (v4_32 HO_385001.out (fun k_ hk => (⟨hk, hk.2.2.2.1⟩ : _ ∧ k_ ≠ gb384))) (fun _ hk => hk.2) (.int .i64 t414)) (fun _ hk => hk.2) (.slice Ao206 t415.length co206)) (fun _ hk => ⟨hk.1.1, ⟨hk.1.2.1, ⟨hk.1.2.2.1, ⟨hk.1.2.2.2.1, hk.1.2.2.2.2⟩⟩⟩⟩)))⟩; have n2_ : Aside0 (Kd.V k50 50 w207 w.heap.size (fun k_ => k_ ≠ gb361 ∧ k_ ≠ gb362 ∧ k_ ≠ gb375 ∧ k_ ≠ gb384 ∧ k_ ≠ gb390) (.slice Ao154 t409.length co154) t409) := ⟨(by rw [hw]; exact (by (with_reducible repeat (first | apply v1_32 | apply v2_32 | apply v3_32)); exact v4_32 (v5_32 (p := ⟨gb384, 1, none⟩) (v5_32 (p := ⟨gb384, 0, none⟩) (v4_32 HO_391001.out (fun k_ hk => (⟨hk, hk.2.2.2.1⟩ : _ ∧ k_ ≠ gb384))) (fun _ hk => hk.2) (.int .i64 t414)) (fun _ hk => hk.2) (.slice Ao206 t415.length co206)) (fun _ hk => ⟨hk.1.1, ⟨hk.1.2.1, ⟨hk.1.2.2.1, ⟨hk.1.2.2.2.1, hk.1.2.2.2.2⟩⟩⟩⟩)))⟩; have n3_ : Aside0 (Kd.V k50 50 w207 w.heap.size (fun k_ => k_ ≠ gb361 ∧ k_ ≠ gb362 ∧ k_ ≠ gb375 ∧ k_ ≠ gb384 ∧ k_ ≠ gb390) (.slice Ao206 t415.length co206) t415) := ⟨(by rw [hw]; exact (by (with_reducible repeat (first | apply v1_32 | apply v2_32 | apply v3_32)); exact v4_32 (v5_32 (p := ⟨gb384, 1, none⟩) (v5_32 (p := ⟨gb384, 0, none⟩) (v4_32 HO417.out (fun k_ hk => (⟨hk, hk.2.2.2.1⟩ : _ ∧ k_ ≠ gb384))) (fun _ hk => hk.2) (.int .i64 t414)) (fun _ hk => hk.2) (.slice Ao206 t415.length co206)) (fun _ hk => ⟨hk.1.1, ⟨hk.1.2.1, ⟨hk.1.2.2.1, ⟨hk.1.2.2.2.1, hk.1.2.2.2.2⟩⟩⟩⟩)))⟩; have n4_ : Aside0 (w207.heap[gb361]? = some (.cells #[.int .i64 a0_0, .slice A0_1 l0_1.length c0_1] 24 (0, 0))) := ⟨(by rw [hw]; exact (by (with_reducible repeat (first | refine b1_32 ?_ _ | refine b3_32 ?_ | refine b2_32 ?_ _)); refine c2_32 ?_ NB361_384.out _; (with_reducible repeat (first | refine b1_32 ?_ _ | refine b3_32 ?_ | refine b2_32 ?_ _)); refine c2_32 ?_ NB361_384.out _; (with_reducible repeat (first | refine b1_32 ?_ _ | refine b3_32 ?_ | refine b2_32 ?_ _)); exact BK361.out))⟩; have n5_ : Aside0 (w207.heap[gb362]? = some (.cells #[.int .u8 a3_0, .int .u16 a3_1, .int .u16 a3_2, .int .u16 a3_3] 28 (0, 0))) := ⟨(by rw [hw]; exact (by (with_reducible repeat (first | refine b1_32 ?_ _ | refine b3_32 ?_ | refine b2_32 ?_ _)); refine c2_32 ?_ NB362_384.out _; (with_reducible repeat (first | refine b1_32 ?_ _ | refine b3_32 ?_ | refine b2_32 ?_ _)); refine c2_32 ?_ NB362_384.out _; (with_reducible repeat (first | refine b1_32 ?_ _ | refine b3_32 ?_ | refine b2_32 ?_ _)); exact BK362.out))⟩; have n6_ : Aside0 (w207.heap[gb375]? = some (.cells #[.int .i64 t368, .slice Ao39 t369.length co39] 24 (0, 0))) := ⟨(by rw [hw]; exact (by (with_reducible repeat (first | refine b1_32 ?_ _ | refine b3_32 ?_ | refine b2_32 ?_ _)); refine c2_32 ?_ NB375_384.out _; (with_reducible repeat (first | refine b1_32 ?_ _ | refine b3_32 ?_ | refine b2_32 ?_ _)); refine c2_32 ?_ NB375_384.out _; (with_reducible repeat (first | refine b1_32 ?_ _ | refine b3_32 ?_ | refine b2_32 ?_ _)); exact BK375.out))⟩; have n7_ : Aside0 (w207.heap[gb384]? = some (.cells #[.int .i64 t414, .slice Ao206 t415.length co206] 24 (0, 0))) := ⟨(by rw [hw]; exact (by (with_reducible repeat (first | refine b1_32 ?_ _ | refine b3_32 ?_ | refine b2_32 ?_ _)); refine c1_32 (cs := #[.int .i64 t414, .slice Ao147 t404.length co147]) ?_ 1 _ rfl; (with_reducible repeat (first | refine b1_32 ?_ _ | refine b3_32 ?_ | refine b2_32 ?_ _)); refine c1_32 (cs := #[.int .i64 t403, .slice Ao147 t404.length co147]) ?_ 0 _ rfl; (with_reducible repeat (first | refine b1_32 ?_ _ | refine b3_32 ?_ | refine b2_32 ?_ _)); exact BK384.out))⟩; have n8_ : Aside0 (w207.heap[gb390]? = some (.cells #[.int .i64 t408, .slice Ao154 t409.length co154] 24 (0, 0))) := ⟨(by rw [hw]; exact (by (with_reducible repeat (first | refine b1_32 ?_ _ | refine b3_32 ?_ | refine b2_32 ?_ _)); refine c2_32 ?_ NB390_384.out _; (with_reducible repeat (first | refine b1_32 ?_ _ | refine b3_32 ?_ | refine b2_32 ?_ _)); refine c2_32 ?_ NB390_384.out _; (with_reducible repeat (first | refine b1_32 ?_ _ | refine b3_32 ?_ | refine b2_32 ?_ _)); exact BK390.out))⟩; have n9_ : Aside0 (Below w.heap.size w w207) := ⟨(by rw [hw]; exact (by repeat (first | (with_reducible first | exact HB.out | apply b8_32 | apply b6_32 | apply b7_32 | refine b4_32 ?_ GE361.out | refine b4_32 ?_ GE362.out | refine b4_32 ?_ GE375.out | refine b4_32 ?_ GE384.out | refine b4_32 ?_ GE390.out) | exact HB.out)))⟩; clear hw HO_376001 HO_385001 HO_391001 HO417 BK361 BK362 BK375 BK384 BK390 HB; have HO_376001 := n0_; have HO_385001 := n1_; have HO_391001 := n2_; have HO417 := n3_; have BK361 := n4_; have BK362 := n5_; have BK375 := n6_; have BK384 := n7_; have BK390 := n8_; have HB := n9_; clear n0_ n1_ n2_ n3_ n4_ n5_ n6_ n7_ n8_ n9_; obtain ⟨hcz208_0, hcz208_1, hfz208_0, hfz208_1⟩ := cells2_32 BK375.out) | ((with_reducible refine gate_callee (f := 24) rfl ?_); refine goesL_ (some 150) rfl rfl Try.func24 (by kernel_rfl) rfl #[.agg #[.int .i64 t368, .slice Ao39 t369.length co39], .int .i64 t376, .int .i64 t377, .int .i64 t378] rfl (by (try simp only [List.map_toArray, List.map_cons, List.map_nil]); first | done | rfl | (simp only [List.length_drop, List.length_take]; rfl)) ?_; (with_reducible refine (proofmarkref13_Mux.calls kj135 t368 (fun k_ => (k_ ≠ gb361 ∧ (k_ ≠ gb362 ∧ (k_ ≠ gb375 ∧ (k_ ≠ gb384 ∧ k_ ≠ gb390))))) _ _ t369 t376 t377 t378 t419 t420 t423 _ ?side1 A179.out).mono ?_); (case side1 => exact HO_376001.out); rintro e w209 ⟨v421, rfl, ho0, hb⟩; refine ⟨_, rfl, ?_⟩; have n0_ := aM_32 (v6_32 (by (with_reducible repeat (first | apply v1_32 | apply v2_32 | apply v3_32)); exact HO_376001.out) hb); have n1_ := aM_32 (v6_32 (by (with_reducible repeat (first | apply v1_32 | apply v2_32 | apply v3_32)); exact HO_385001.out) hb); have n2_ := aM_32 (v6_32 (by (with_reducible repeat (first | apply v1_32 | apply v2_32 | apply v3_32)); exact HO_391001.out) hb); have n3_ := aM_32 (v6_32 (by (with_reducible repeat (first | apply v1_32 | apply v2_32 | apply v3_32)); exact HO417.out) hb); have n4_ := aM_32 (v8_32 (v4_32 (ok' := fun k_ => k_ ≠ gb361 ∧ k_ ≠ gb362 ∧ k_ ≠ gb375 ∧ k_ ≠ gb384 ∧ k_ ≠ gb390) ho0 (fun k_ hk_ => ⟨Or.elim hk_ (fun hs_ => hs_.1) (fun hn_ => (f1_32 (g := gb361) (o := .cells #[.int .i64 a0_0, .slice A0_1 l0_1.length c0_1] 24 (0, 0)) (by exact BK361.out) k_ hn_)), Or.elim hk_ (fun hs_ => hs_.2.1) (fun hn_ => (f1_32 (g := gb362) (o := .cells #[.int .u8 a3_0, .int .u16 a3_1, .int .u16 a3_2, .int .u16 a3_3] 28 (0, 0)) (by exact BK362.out) k_ hn_)), Or.elim hk_ (fun hs_ => hs_.2.2.1) (fun hn_ => (f1_32 (g := gb375) (o := .cells #[.int .i64 t368, .slice Ao39 t369.length co39] 24 (0, 0)) (by exact BK375.out) k_ hn_)), Or.elim hk_ (fun hs_ => hs_.2.2.2.1) (fun hn_ => (f1_32 (g := gb384) (o := .cells #[.int .i64 t414, .slice Ao206 t415.length co206] 24 (0, 0)) (by exact BK384.out) k_ hn_)), Or.elim hk_ (fun hs_ => hs_.2.2.2.2) (fun hn_ => (f1_32 (g := gb390) (o := .cells #[.int .i64 t408, .slice Ao154 t409.length co154] 24 (0, 0)) (by exact BK390.out) k_ hn_))⟩)) (b0_32 (by repeat (first | (with_reducible first | exact HB.out | apply b8_32 | apply b6_32 | apply b7_32 | refine b4_32 ?_ GE361.out | refine b4_32 ?_ GE362.out | refine b4_32 ?_ GE375.out | refine b4_32 ?_ GE384.out | refine b4_32 ?_ GE390.out) | exact HB.out)))); have n5_ := aM_32 (b5_32 (by exact BK361.out) hb); have n6_ := aM_32 (b5_32 (by exact BK362.out) hb); have n7_ := aM_32 (b5_32 (by exact BK375.out) hb); have n8_ := aM_32 (b5_32 (by exact BK384.out) hb); have n9_ := aM_32 (b5_32 (by exact BK390.out) hb); have n10_ := aM_32 (b9_32 (by repeat (first | (with_reducible first | exact HB.out | apply b8_32 | apply b6_32 | apply b7_32 | refine b4_32 ?_ GE361.out | refine b4_32 ?_ GE362.out | refine b4_32 ?_ GE375.out | refine b4_32 ?_ GE384.out | refine b4_32 ?_ GE390.out) | exact HB.out)) hb); clear HO_376001 HO_385001 HO_391001 HO417 BK361 BK362 BK375 BK384 BK390 HB; have HO_376001 := n0_; have HO_385001 := n1_; have HO_391001 := n2_; have HO417 := n3_; have HO422 := n4_; have BK361 := n5_; have BK362 := n6_; have BK375 := n7_; have BK384 := n8_; have BK390 := n9_; have HB := n10_; clear n0_ n1_ n2_ n3_ n4_ n5_ n6_ n7_ n8_ n9_ n10_; (try clear hb); (try clear hb2); (try clear hk); (try clear hi); (try clear ho0); have hnb210 := NB390_361.out; have hnc210 := NB361_390.out; have hnb211 := NB390_362.out; have hnc211 := NB362_390.out; obtain ⟨hcz212_0, hcz212_1, hfz212_0, hfz212_1⟩ := cells2_32 BK390.out; obtain ⟨Ao213, co213, eo213⟩ := Kd.V_slice HO422.out; subst eo213))
                  have n0_ : Aside0 (Kd.V k50 50 ((w209.setCell ⟨gb390, 0, none⟩ (.int .i64 t419)).setCell ⟨gb390, 1, none⟩ (.slice Ao213 t420.length co213)) w.heap.size (fun k_ => k_ ≠ gb361 ∧ k_ ≠ gb362 ∧ k_ ≠ gb375 ∧ k_ ≠ gb384 ∧ k_ ≠ gb390) (.slice Ao39 t369.length co39) t369) := ⟨by (with_reducible repeat (first | apply v1_32 | apply v2_32 | apply v3_32)); exact v4_32 (v5_32 (p := ⟨gb390, 1, none⟩) (v5_32 (p := ⟨gb390, 0, none⟩) (v4_32 HO_376001.out (fun k_ hk => (⟨hk, hk.2.2.2.2⟩ : _ ∧ k_ ≠ gb390))) (fun _ hk => hk.2) (.int .i64 t419)) (fun _ hk => hk.2) (.slice Ao213 t420.length co213)) (fun _ hk => ⟨hk.1.1, ⟨hk.1.2.1, ⟨hk.1.2.2.1, ⟨hk.1.2.2.2.1, hk.1.2.2.2.2⟩⟩⟩⟩)⟩
                  have n1_ : Aside0 (Kd.V k50 50 ((w209.setCell ⟨gb390, 0, none⟩ (.int .i64 t419)).setCell ⟨gb390, 1, none⟩ (.slice Ao213 t420.length co213)) w.heap.size (fun k_ => k_ ≠ gb361 ∧ k_ ≠ gb362 ∧ k_ ≠ gb375 ∧ k_ ≠ gb384 ∧ k_ ≠ gb390) (.slice Ao147 t404.length co147) t404) := ⟨by (with_reducible repeat (first | apply v1_32 | apply v2_32 | apply v3_32)); exact v4_32 (v5_32 (p := ⟨gb390, 1, none⟩) (v5_32 (p := ⟨gb390, 0, none⟩) (v4_32 HO_385001.out (fun k_ hk => (⟨hk, hk.2.2.2.2⟩ : _ ∧ k_ ≠ gb390))) (fun _ hk => hk.2) (.int .i64 t419)) (fun _ hk => hk.2) (.slice Ao213 t420.length co213)) (fun _ hk => ⟨hk.1.1, ⟨hk.1.2.1, ⟨hk.1.2.2.1, ⟨hk.1.2.2.2.1, hk.1.2.2.2.2⟩⟩⟩⟩)⟩
                  have n2_ : Aside0 (Kd.V k50 50 ((w209.setCell ⟨gb390, 0, none⟩ (.int .i64 t419)).setCell ⟨gb390, 1, none⟩ (.slice Ao213 t420.length co213)) w.heap.size (fun k_ => k_ ≠ gb361 ∧ k_ ≠ gb362 ∧ k_ ≠ gb375 ∧ k_ ≠ gb384 ∧ k_ ≠ gb390) (.slice Ao154 t409.length co154) t409) := ⟨by (with_reducible repeat (first | apply v1_32 | apply v2_32 | apply v3_32)); exact v4_32 (v5_32 (p := ⟨gb390, 1, none⟩) (v5_32 (p := ⟨gb390, 0, none⟩) (v4_32 HO_391001.out (fun k_ hk => (⟨hk, hk.2.2.2.2⟩ : _ ∧ k_ ≠ gb390))) (fun _ hk => hk.2) (.int .i64 t419)) (fun _ hk => hk.2) (.slice Ao213 t420.length co213)) (fun _ hk => ⟨hk.1.1, ⟨hk.1.2.1, ⟨hk.1.2.2.1, ⟨hk.1.2.2.2.1, hk.1.2.2.2.2⟩⟩⟩⟩)⟩
                  have n3_ : Aside0 (Kd.V k50 50 ((w209.setCell ⟨gb390, 0, none⟩ (.int .i64 t419)).setCell ⟨gb390, 1, none⟩ (.slice Ao213 t420.length co213)) w.heap.size (fun k_ => k_ ≠ gb361 ∧ k_ ≠ gb362 ∧ k_ ≠ gb375 ∧ k_ ≠ gb384 ∧ k_ ≠ gb390) (.slice Ao206 t415.length co206) t415) := ⟨by (with_reducible repeat (first | apply v1_32 | apply v2_32 | apply v3_32)); exact v4_32 (v5_32 (p := ⟨gb390, 1, none⟩) (v5_32 (p := ⟨gb390, 0, none⟩) (v4_32 HO417.out (fun k_ hk => (⟨hk, hk.2.2.2.2⟩ : _ ∧ k_ ≠ gb390))) (fun _ hk => hk.2) (.int .i64 t419)) (fun _ hk => hk.2) (.slice Ao213 t420.length co213)) (fun _ hk => ⟨hk.1.1, ⟨hk.1.2.1, ⟨hk.1.2.2.1, ⟨hk.1.2.2.2.1, hk.1.2.2.2.2⟩⟩⟩⟩)⟩
                  have n4_ : Aside0 (Kd.V k50 50 ((w209.setCell ⟨gb390, 0, none⟩ (.int .i64 t419)).setCell ⟨gb390, 1, none⟩ (.slice Ao213 t420.length co213)) w.heap.size (fun k_ => k_ ≠ gb361 ∧ k_ ≠ gb362 ∧ k_ ≠ gb375 ∧ k_ ≠ gb384 ∧ k_ ≠ gb390) (.slice Ao213 t420.length co213) t420) := ⟨by (with_reducible repeat (first | apply v1_32 | apply v2_32 | apply v3_32)); exact v4_32 (v5_32 (p := ⟨gb390, 1, none⟩) (v5_32 (p := ⟨gb390, 0, none⟩) (v4_32 HO422.out (fun k_ hk => (⟨hk, hk.2.2.2.2⟩ : _ ∧ k_ ≠ gb390))) (fun _ hk => hk.2) (.int .i64 t419)) (fun _ hk => hk.2) (.slice Ao213 t420.length co213)) (fun _ hk => ⟨hk.1.1, ⟨hk.1.2.1, ⟨hk.1.2.2.1, ⟨hk.1.2.2.2.1, hk.1.2.2.2.2⟩⟩⟩⟩)⟩
                  have n5_ : Aside0 (((w209.setCell ⟨gb390, 0, none⟩ (.int .i64 t419)).setCell ⟨gb390, 1, none⟩ (.slice Ao213 t420.length co213)).heap[gb361]? = some (.cells #[.int .i64 a0_0, .slice A0_1 l0_1.length c0_1] 24 (0, 0))) := ⟨by (with_reducible repeat (first | refine b1_32 ?_ _ | refine b3_32 ?_ | refine b2_32 ?_ _)); refine c2_32 ?_ NB361_390.out _; (with_reducible repeat (first | refine b1_32 ?_ _ | refine b3_32 ?_ | refine b2_32 ?_ _)); refine c2_32 ?_ NB361_390.out _; (with_reducible repeat (first | refine b1_32 ?_ _ | refine b3_32 ?_ | refine b2_32 ?_ _)); exact BK361.out⟩
                  have n6_ : Aside0 (((w209.setCell ⟨gb390, 0, none⟩ (.int .i64 t419)).setCell ⟨gb390, 1, none⟩ (.slice Ao213 t420.length co213)).heap[gb362]? = some (.cells #[.int .u8 a3_0, .int .u16 a3_1, .int .u16 a3_2, .int .u16 a3_3] 28 (0, 0))) := ⟨by (with_reducible repeat (first | refine b1_32 ?_ _ | refine b3_32 ?_ | refine b2_32 ?_ _)); refine c2_32 ?_ NB362_390.out _; (with_reducible repeat (first | refine b1_32 ?_ _ | refine b3_32 ?_ | refine b2_32 ?_ _)); refine c2_32 ?_ NB362_390.out _; (with_reducible repeat (first | refine b1_32 ?_ _ | refine b3_32 ?_ | refine b2_32 ?_ _)); exact BK362.out⟩
                  have n7_ : Aside0 (((w209.setCell ⟨gb390, 0, none⟩ (.int .i64 t419)).setCell ⟨gb390, 1, none⟩ (.slice Ao213 t420.length co213)).heap[gb375]? = some (.cells #[.int .i64 t368, .slice Ao39 t369.length co39] 24 (0, 0))) := ⟨by (with_reducible repeat (first | refine b1_32 ?_ _ | refine b3_32 ?_ | refine b2_32 ?_ _)); refine c2_32 ?_ NB375_390.out _; (with_reducible repeat (first | refine b1_32 ?_ _ | refine b3_32 ?_ | refine b2_32 ?_ _)); refine c2_32 ?_ NB375_390.out _; (with_reducible repeat (first | refine b1_32 ?_ _ | refine b3_32 ?_ | refine b2_32 ?_ _)); exact BK375.out⟩
                  have n8_ : Aside0 (((w209.setCell ⟨gb390, 0, none⟩ (.int .i64 t419)).setCell ⟨gb390, 1, none⟩ (.slice Ao213 t420.length co213)).heap[gb384]? = some (.cells #[.int .i64 t414, .slice Ao206 t415.length co206] 24 (0, 0))) := ⟨by (with_reducible repeat (first | refine b1_32 ?_ _ | refine b3_32 ?_ | refine b2_32 ?_ _)); refine c2_32 ?_ NB384_390.out _; (with_reducible repeat (first | refine b1_32 ?_ _ | refine b3_32 ?_ | refine b2_32 ?_ _)); refine c2_32 ?_ NB384_390.out _; (with_reducible repeat (first | refine b1_32 ?_ _ | refine b3_32 ?_ | refine b2_32 ?_ _)); exact BK384.out⟩
                  have n9_ : Aside0 (((w209.setCell ⟨gb390, 0, none⟩ (.int .i64 t419)).setCell ⟨gb390, 1, none⟩ (.slice Ao213 t420.length co213)).heap[gb390]? = some (.cells #[.int .i64 t419, .slice Ao213 t420.length co213] 24 (0, 0))) := ⟨by (with_reducible repeat (first | refine b1_32 ?_ _ | refine b3_32 ?_ | refine b2_32 ?_ _)); refine c1_32 (cs := #[.int .i64 t419, .slice Ao154 t409.length co154]) ?_ 1 _ rfl; (with_reducible repeat (first | refine b1_32 ?_ _ | refine b3_32 ?_ | refine b2_32 ?_ _)); refine c1_32 (cs := #[.int .i64 t408, .slice Ao154 t409.length co154]) ?_ 0 _ rfl; (with_reducible repeat (first | refine b1_32 ?_ _ | refine b3_32 ?_ | refine b2_32 ?_ _)); exact BK390.out⟩
                  have n10_ : Aside0 (Below w.heap.size w ((w209.setCell ⟨gb390, 0, none⟩ (.int .i64 t419)).setCell ⟨gb390, 1, none⟩ (.slice Ao213 t420.length co213))) := ⟨by repeat (first | (with_reducible first | exact HB.out | apply b8_32 | apply b6_32 | apply b7_32 | refine b4_32 ?_ GE361.out | refine b4_32 ?_ GE362.out | refine b4_32 ?_ GE375.out | refine b4_32 ?_ GE384.out | refine b4_32 ?_ GE390.out) | exact HB.out)⟩
                  (try clear HO_376001)
                  (try clear HO_385001)
                  (try clear HO_391001)
                  (try clear HO417)
                  (try clear HO422)
                  (try clear BK361)
                  (try clear BK362)
                  (try clear BK375)
                  (try clear BK384)
                  (try clear BK390)
                  (try clear HB)
                  generalize ((w209.setCell ⟨gb390, 0, none⟩ (.int .i64 t419)).setCell ⟨gb390, 1, none⟩ (.slice Ao213 t420.length co213)) = w214 at n0_ n1_ n2_ n3_ n4_ n5_ n6_ n7_ n8_ n9_ n10_ ⊢
                  have HO_376001 := n0_
                  have HO_385001 := n1_
                  have HO_391001 := n2_
                  have HO417 := n3_
                  have HO422 := n4_
                  have BK361 := n5_
                  have BK362 := n6_
                  have BK375 := n7_
                  have BK384 := n8_
                  have BK390 := n9_
                  have HB := n10_
                  clear n0_ n1_ n2_ n3_ n4_ n5_ n6_ n7_ n8_ n9_ n10_
                  have n0_ := aM_32 (v3_32 HO_376001.out)
                  have n1_ := aM_32 (v3_32 HO_385001.out)
                  have n2_ := aM_32 (v3_32 HO_391001.out)
                  have n3_ := aM_32 (v3_32 HO417.out)
                  have n4_ := aM_32 (v3_32 HO422.out)
                  have n5_ := aM_32 (b3_32 BK361.out)
                  have n6_ := aM_32 (b3_32 BK362.out)
                  have n7_ := aM_32 (b3_32 BK375.out)
                  have n8_ := aM_32 (b3_32 BK384.out)
                  have n9_ := aM_32 (b3_32 BK390.out)
                  have n10_ := aM_32 (b7_32 HB.out)
                  clear HO_376001 HO_385001 HO_391001 HO417 HO422 BK361 BK362 BK375 BK384 BK390 HB
                  have HO_376001 := n0_
                  have HO_385001 := n1_
                  have HO_391001 := n2_
                  have HO417 := n3_
                  have HO422 := n4_
                  have BK361 := n5_
                  have BK362 := n6_
                  have BK375 := n7_
                  have BK384 := n8_
                  have BK390 := n9_
                  have HB := n10_
                  clear n0_ n1_ n2_ n3_ n4_ n5_ n6_ n7_ n8_ n9_ n10_
                  refine start_ (n := 6) (S := fun w' => w'.cell? ⟨gb375, 0, none⟩ = some (.int .i64 t368) ∧ w'.cell? ⟨gb375, 1, none⟩ = some (.slice Ao39 t369.length co39)) (ds := []) #[false, false, false, false, false, false] (by kernel_rfl) rfl rfl ⟨(blk_cell BK375.out 0).trans rfl, (blk_cell BK375.out 1).trans rfl⟩ (fun hHeld => ?_)
                  generalize w214.drew = w215 at HO_376001 HO_385001 HO_391001 HO417 HO422 BK361 BK362 BK375 BK384 BK390 HB hHeld ⊢
                  refine pure_ (i := 2) (N := some 155) (v := ?_) (a' := ?_) #[false, false, true, false, false, false] rfl rfl (by kernel_rfl) (fun _ _ _ h => h) (Or.inl ⟨by rfl, ?_⟩) ?_ ?_
                  rotate_left
                  ·intro w'
                   go_simp
                   with_reducible rfl
                  rotate_left
                  ·simp only [Act.put, l1_32, l2_32, l3_32, i64_w, i32_w]
                   rfl
                  refine take_ (i := 0) (N := some 153) (v := ?_) (a' := ?_) #[true, false, true, false, false, false] rfl rfl (by kernel_rfl) (fun _ _ _ h => h) (Or.inl ⟨by rfl, ?_⟩) hHeld ?_ ?_
                  rotate_left
                  ·rintro w' ⟨s0, s1⟩
                   go_simp
                   with_reducible rfl
                  rotate_left
                  ·simp only [Act.put, l1_32, l2_32, l3_32, i64_w, i32_w]
                   rfl
                  refine take_ (i := 1) (N := some 154) (v := ?_) (a' := ?_) #[true, true, true, false, false, false] rfl rfl (by kernel_rfl) (fun _ _ _ h => h) (Or.inl ⟨by rfl, ?_⟩) hHeld ?_ ?_
                  rotate_left
                  ·rintro w' ⟨s0, s1⟩
                   go_simp
                   with_reducible rfl
                  rotate_left
                  ·simp only [Act.put, l1_32, l2_32, l3_32, i64_w, i32_w]
                   rfl
                  refine one_ (i := 3) (N := some 156) #[true, true, true, true, false, false] rfl rfl (by kernel_rfl) (by decide) (fun K hK => ?_)
                  refine goes_ Try.func26 (by kernel_rfl) rfl #[.agg #[.int .i64 t368, .slice Ao39 t369.length co39], .slice A4 l4.length c4] (by rfl) rfl rfl (by (try simp only [List.map_toArray, List.map_cons, List.map_nil]); first | done | rfl | (simp only [List.length_drop, List.length_take]; rfl)) ?_
                  with_reducible refine (proofmarklaw13_Bits.calls kj135 t368 _ _ t369 _ _ l4 t424 _ ?side1 ?side2 ?side3 ?side4 A180.out).mono ?_
                  (case side1 => repeat (first | exact (Kd.V_reads' HO_376001.out).2.2 | (with_reducible refine c3_32 ?_ _) | (with_reducible refine c4_32 ?_ _) | (with_reducible refine c5_32 ?_)))
                  (case side2 => exact (Kd.V_reads' HO_376001.out).2.1)
                  (case side3 => repeat (first | exact (Kd.C_below HR4.out HB.out) | (with_reducible refine c3_32 ?_ _) | (with_reducible refine c4_32 ?_ _) | (with_reducible refine c5_32 ?_)))
                  (case side4 => exact HC4.out)
                  rintro e w216 ⟨v425, rfl, ho0, hb⟩
                  refine ⟨_, rfl, ?_⟩
                  have n0_ := aM_32 (Kd.V_elder' (by (with_reducible repeat (first | apply v1_32 | apply v2_32 | apply v3_32)); exact HO_376001.out) (Kd.R_base ho0) hb)
                  have n1_ := aM_32 (Kd.V_elder' (by (with_reducible repeat (first | apply v1_32 | apply v2_32 | apply v3_32)); exact HO_385001.out) (Kd.R_base ho0) hb)
                  have n2_ := aM_32 (Kd.V_elder' (by (with_reducible repeat (first | apply v1_32 | apply v2_32 | apply v3_32)); exact HO_391001.out) (Kd.R_base ho0) hb)
                  have n3_ := aM_32 (Kd.V_elder' (by (with_reducible repeat (first | apply v1_32 | apply v2_32 | apply v3_32)); exact HO417.out) (Kd.R_base ho0) hb)
                  have n4_ := aM_32 (Kd.V_elder' (by (with_reducible repeat (first | apply v1_32 | apply v2_32 | apply v3_32)); exact HO422.out) (Kd.R_base ho0) hb)
                  have n5_ := aM_32 (Kd.R_lower ho0 (b0_32 (by repeat (first | (with_reducible first | exact HB.out | apply b8_32 | apply b6_32 | apply b7_32 | refine b4_32 ?_ GE361.out | refine b4_32 ?_ GE362.out | refine b4_32 ?_ GE375.out | refine b4_32 ?_ GE384.out | refine b4_32 ?_ GE390.out) | exact HB.out))))
                  have n6_ := aM_32 (b5_32 (by exact BK361.out) hb)
                  have n7_ := aM_32 (b5_32 (by exact BK362.out) hb)
                  have n8_ := aM_32 (b5_32 (by exact BK375.out) hb)
                  have n9_ := aM_32 (b5_32 (by exact BK384.out) hb)
                  have n10_ := aM_32 (b5_32 (by exact BK390.out) hb)
                  have n11_ := aM_32 (b9_32 (by repeat (first | (with_reducible first | exact HB.out | apply b8_32 | apply b6_32 | apply b7_32 | refine b4_32 ?_ GE361.out | refine b4_32 ?_ GE362.out | refine b4_32 ?_ GE375.out | refine b4_32 ?_ GE384.out | refine b4_32 ?_ GE390.out) | exact HB.out)) hb)
                  clear HO_376001 HO_385001 HO_391001 HO417 HO422 BK361 BK362 BK375 BK384 BK390 HB
                  have HO_376001 := n0_
                  have HO_385001 := n1_
                  have HO_391001 := n2_
                  have HO417 := n3_
                  have HO422 := n4_
                  have HO426 := n5_
                  have BK361 := n6_
                  have BK362 := n7_
                  have BK375 := n8_
                  have BK384 := n9_
                  have BK390 := n10_
                  have HB := n11_
                  clear n0_ n1_ n2_ n3_ n4_ n5_ n6_ n7_ n8_ n9_ n10_ n11_
                  (try clear hb)
                  (try clear hb2)
                  (try clear hk)
                  (try clear hi)
                  (try clear ho0)
                  obtain ⟨Ao217, co217, eo217⟩ := Kd.R_slice HO426.out
                  (first | subst eo217 | (injection eo217 with f1_ f2_ f3_; have f4_ := f1_.symm; have f5_ := f3_.symm; clear f1_ f2_ f3_; subst f4_; subst f5_))
                  refine hK.out _ _ ⟨(blk_cell BK375.out 0).trans rfl, (blk_cell BK375.out 1).trans rfl⟩ (fun hHeld => ?_)
                  clear hK K
                  refine norm_ (a' := ?_) ?_ ?_
                  rotate_left
                  ·show Act.put _ (some 156) _ = _
                   simp only [Act.put, l1_32, l2_32, l3_32, i64_w, i32_w]
                   rfl
                  refine one_ (i := 4) (N := some 157) #[true, true, true, true, true, false] rfl rfl (by kernel_rfl) (by decide) (fun K hK => ?_)
                  refine goes_ Try.func25 (by kernel_rfl) rfl #[.agg #[.int .i64 t368, .slice Ao39 t369.length co39], .slice Ao217 t424.length co217] (by rfl) rfl rfl (by (try simp only [List.map_toArray, List.map_cons, List.map_nil]); first | done | rfl | (simp only [List.length_drop, List.length_take]; rfl)) ?_
                  with_reducible refine (aig_Eval.calls kj135 t368 _ _ t369 _ _ t424 t427 _ ?side1 ?side2 ?side3 ?side4 A181.out).mono ?_
                  (case side1 => repeat (first | exact (Kd.V_reads' HO_376001.out).2.2 | (with_reducible refine c3_32 ?_ _) | (with_reducible refine c4_32 ?_ _) | (with_reducible refine c5_32 ?_)))
                  (case side2 => exact (Kd.V_reads' HO_376001.out).2.1)
                  (case side3 => repeat (first | exact (Kd.R_reads' HO426.out).2.2 | (with_reducible refine c3_32 ?_ _) | (with_reducible refine c4_32 ?_ _) | (with_reducible refine c5_32 ?_)))
                  (case side4 => exact (Kd.R_reads' HO426.out).2.1)
                  rintro e w218 ⟨v428, rfl, ho0, hb⟩
                  refine ⟨_, rfl, ?_⟩
                  have n0_ := aM_32 (Kd.V_elder' (by (with_reducible repeat (first | apply v1_32 | apply v2_32 | apply v3_32)); exact HO_376001.out) (Kd.R_base ho0) hb)
                  have n1_ := aM_32 (Kd.V_elder' (by (with_reducible repeat (first | apply v1_32 | apply v2_32 | apply v3_32)); exact HO_385001.out) (Kd.R_base ho0) hb)
                  have n2_ := aM_32 (Kd.V_elder' (by (with_reducible repeat (first | apply v1_32 | apply v2_32 | apply v3_32)); exact HO_391001.out) (Kd.R_base ho0) hb)
                  have n3_ := aM_32 (Kd.V_elder' (by (with_reducible repeat (first | apply v1_32 | apply v2_32 | apply v3_32)); exact HO417.out) (Kd.R_base ho0) hb)
                  have n4_ := aM_32 (Kd.V_elder' (by (with_reducible repeat (first | apply v1_32 | apply v2_32 | apply v3_32)); exact HO422.out) (Kd.R_base ho0) hb)
                  have n5_ := aM_32 (Kd.R_elder' (by (with_reducible repeat (first | apply r1_32 | apply r2_32 | apply r3_32)); exact HO426.out) (Kd.R_base ho0) hb)
                  have n6_ := aM_32 (Kd.R_lower (Kd.R_new' ho0 (Kd.R_lt (by (with_reducible repeat (first | apply r1_32 | apply r2_32 | apply r3_32)); exact HO426.out))) (b0_32 (by repeat (first | (with_reducible first | exact HB.out | apply b8_32 | apply b6_32 | apply b7_32 | refine b4_32 ?_ GE361.out | refine b4_32 ?_ GE362.out | refine b4_32 ?_ GE375.out | refine b4_32 ?_ GE384.out | refine b4_32 ?_ GE390.out) | exact HB.out))))
                  have n7_ := aM_32 (b5_32 (by exact BK361.out) hb)
                  have n8_ := aM_32 (b5_32 (by exact BK362.out) hb)
                  have n9_ := aM_32 (b5_32 (by exact BK375.out) hb)
                  have n10_ := aM_32 (b5_32 (by exact BK384.out) hb)
                  have n11_ := aM_32 (b5_32 (by exact BK390.out) hb)
                  have n12_ := aM_32 (b9_32 (by repeat (first | (with_reducible first | exact HB.out | apply b8_32 | apply b6_32 | apply b7_32 | refine b4_32 ?_ GE361.out | refine b4_32 ?_ GE362.out | refine b4_32 ?_ GE375.out | refine b4_32 ?_ GE384.out | refine b4_32 ?_ GE390.out) | exact HB.out)) hb)
                  clear HO_376001 HO_385001 HO_391001 HO417 HO422 HO426 BK361 BK362 BK375 BK384 BK390 HB
                  have HO_376001 := n0_
                  have HO_385001 := n1_
                  have HO_391001 := n2_
                  have HO417 := n3_
                  have HO422 := n4_
                  have HO426 := n5_
                  have HO429 := n6_
                  have BK361 := n7_
                  have BK362 := n8_
                  have BK375 := n9_
                  have BK384 := n10_
                  have BK390 := n11_
                  have HB := n12_
                  clear n0_ n1_ n2_ n3_ n4_ n5_ n6_ n7_ n8_ n9_ n10_ n11_ n12_
                  (try clear hb)
                  (try clear hb2)
                  (try clear hk)
                  (try clear hi)
                  (try clear ho0)
                  refine hK.out _ _ ⟨(blk_cell BK375.out 0).trans rfl, (blk_cell BK375.out 1).trans rfl⟩ (fun hHeld => ?_)
                  clear hK K
                  refine norm_ (a' := ?_) ?_ ?_
                  rotate_left
                  ·show Act.put _ (some 157) _ = _
                   simp only [Act.put, l1_32, l2_32, l3_32, i64_w, i32_w]
                   rfl
                  refine pure_ (i := 5) (N := some 21) (v := ?_) (a' := ?_) #[true, true, true, true, true, true] rfl rfl (by kernel_rfl) (fun _ _ _ h => h) (Or.inl ⟨by rfl, ?_⟩) ?_ ?_
                  rotate_left
                  ·intro w'
                   go_simp
                   with_reducible rfl
                  rotate_left
                  ·simp only [Act.put, l1_32, l2_32, l3_32, i64_w, i32_w]
                   rfl
                  refine done_ (by kernel_rfl) ?_
                  try go_wp2
                  have n0_ := aM_32 (v3_32 HO_376001.out)
                  have n1_ := aM_32 (v3_32 HO_385001.out)
                  have n2_ := aM_32 (v3_32 HO_391001.out)
                  have n3_ := aM_32 (v3_32 HO417.out)
                  have n4_ := aM_32 (v3_32 HO422.out)
                  have n5_ := aM_32 (r3_32 HO426.out)
                  have n6_ := aM_32 (r3_32 HO429.out)
                  have n7_ := aM_32 (b3_32 BK361.out)
                  have n8_ := aM_32 (b3_32 BK362.out)
                  have n9_ := aM_32 (b3_32 BK375.out)
                  have n10_ := aM_32 (b3_32 BK384.out)
                  have n11_ := aM_32 (b3_32 BK390.out)
                  have n12_ := aM_32 (b7_32 HB.out)
                  clear HO_376001 HO_385001 HO_391001 HO417 HO422 HO426 HO429 BK361 BK362 BK375 BK384 BK390 HB
                  have HO_376001 := n0_
                  have HO_385001 := n1_
                  have HO_391001 := n2_
                  have HO417 := n3_
                  have HO422 := n4_
                  have HO426 := n5_
                  have HO429 := n6_
                  have BK361 := n7_
                  have BK362 := n8_
                  have BK375 := n9_
                  have BK384 := n10_
                  have BK390 := n11_
                  have HB := n12_
                  clear n0_ n1_ n2_ n3_ n4_ n5_ n6_ n7_ n8_ n9_ n10_ n11_ n12_
                  refine start_ (n := 6) (S := fun w' => w'.cell? ⟨gb375, 0, none⟩ = some (.int .i64 t368) ∧ w'.cell? ⟨gb375, 1, none⟩ = some (.slice Ao39 t369.length co39)) (ds := []) #[false, false, false, false, false, false] (by kernel_rfl) rfl rfl ⟨(blk_cell BK375.out 0).trans rfl, (blk_cell BK375.out 1).trans rfl⟩ (fun hHeld => ?_)
                  generalize w218.drew = w219 at HO_376001 HO_385001 HO_391001 HO417 HO422 HO426 HO429 BK361 BK362 BK375 BK384 BK390 HB hHeld ⊢
                  refine pure_ (i := 2) (N := some 160) (v := ?_) (a' := ?_) #[false, false, true, false, false, false] rfl rfl (by kernel_rfl) (fun _ _ _ h => h) (Or.inl ⟨by rfl, ?_⟩) ?_ ?_
                  rotate_left
                  ·intro w'
                   go_simp
                   with_reducible rfl
                  rotate_left
                  ·simp only [Act.put, l1_32, l2_32, l3_32, i64_w, i32_w]
                   rfl
                  refine take_ (i := 0) (N := some 158) (v := ?_) (a' := ?_) #[true, false, true, false, false, false] rfl rfl (by kernel_rfl) (fun _ _ _ h => h) (Or.inl ⟨by rfl, ?_⟩) hHeld ?_ ?_
                  rotate_left
                  ·rintro w' ⟨s0, s1⟩
                   go_simp
                   with_reducible rfl
                  rotate_left
                  ·simp only [Act.put, l1_32, l2_32, l3_32, i64_w, i32_w]
                   rfl
                  refine take_ (i := 1) (N := some 159) (v := ?_) (a' := ?_) #[true, true, true, false, false, false] rfl rfl (by kernel_rfl) (fun _ _ _ h => h) (Or.inl ⟨by rfl, ?_⟩) hHeld ?_ ?_
                  rotate_left
                  ·rintro w' ⟨s0, s1⟩
                   go_simp
                   with_reducible rfl
                  rotate_left
                  ·simp only [Act.put, l1_32, l2_32, l3_32, i64_w, i32_w]
                   rfl
                  refine one_ (i := 3) (N := some 161) #[true, true, true, true, false, false] rfl rfl (by kernel_rfl) (by decide) (fun K hK => ?_)
                  refine goes_ Try.func26 (by kernel_rfl) rfl #[.agg #[.int .i64 t368, .slice Ao39 t369.length co39], .slice A4 l4.length c4] (by rfl) rfl rfl (by (try simp only [List.map_toArray, List.map_cons, List.map_nil]); first | done | rfl | (simp only [List.length_drop, List.length_take]; rfl)) ?_
                  with_reducible refine (proofmarklaw13_Bits.calls kj135 t368 _ _ t369 _ _ l4 t430 _ ?side1 ?side2 ?side3 ?side4 A182.out).mono ?_
                  (case side1 => repeat (first | exact (Kd.V_reads' HO_376001.out).2.2 | (with_reducible refine c3_32 ?_ _) | (with_reducible refine c4_32 ?_ _) | (with_reducible refine c5_32 ?_)))
                  (case side2 => exact (Kd.V_reads' HO_376001.out).2.1)
                  (case side3 => repeat (first | exact (Kd.C_below HR4.out HB.out) | (with_reducible refine c3_32 ?_ _) | (with_reducible refine c4_32 ?_ _) | (with_reducible refine c5_32 ?_)))
                  (case side4 => exact HC4.out)
                  rintro e w220 ⟨v431, rfl, ho0, hb⟩
                  refine ⟨_, rfl, ?_⟩
                  have n0_ := aM_32 (Kd.V_elder' (by (with_reducible repeat (first | apply v1_32 | apply v2_32 | apply v3_32)); exact HO_376001.out) (Kd.R_base ho0) hb)
                  have n1_ := aM_32 (Kd.V_elder' (by (with_reducible repeat (first | apply v1_32 | apply v2_32 | apply v3_32)); exact HO_385001.out) (Kd.R_base ho0) hb)
                  have n2_ := aM_32 (Kd.V_elder' (by (with_reducible repeat (first | apply v1_32 | apply v2_32 | apply v3_32)); exact HO_391001.out) (Kd.R_base ho0) hb)
                  have n3_ := aM_32 (Kd.V_elder' (by (with_reducible repeat (first | apply v1_32 | apply v2_32 | apply v3_32)); exact HO417.out) (Kd.R_base ho0) hb)
                  have n4_ := aM_32 (Kd.V_elder' (by (with_reducible repeat (first | apply v1_32 | apply v2_32 | apply v3_32)); exact HO422.out) (Kd.R_base ho0) hb)
                  have n5_ := aM_32 (Kd.R_elder' (by (with_reducible repeat (first | apply r1_32 | apply r2_32 | apply r3_32)); exact HO426.out) (Kd.R_base ho0) hb)
                  have n6_ := aM_32 (Kd.R_elder' (by (with_reducible repeat (first | apply r1_32 | apply r2_32 | apply r3_32)); exact HO429.out) (Kd.R_base ho0) hb)
                  have n7_ := aM_32 (Kd.R_lower (Kd.R_new' (Kd.R_new' ho0 (Kd.R_lt (by (with_reducible repeat (first | apply r1_32 | apply r2_32 | apply r3_32)); exact HO426.out))) (Kd.R_lt (by (with_reducible repeat (first | apply r1_32 | apply r2_32 | apply r3_32)); exact HO429.out))) (b0_32 (by repeat (first | (with_reducible first | exact HB.out | apply b8_32 | apply b6_32 | apply b7_32 | refine b4_32 ?_ GE361.out | refine b4_32 ?_ GE362.out | refine b4_32 ?_ GE375.out | refine b4_32 ?_ GE384.out | refine b4_32 ?_ GE390.out) | exact HB.out))))
                  have n8_ := aM_32 (b5_32 (by exact BK361.out) hb)
                  have n9_ := aM_32 (b5_32 (by exact BK362.out) hb)
                  have n10_ := aM_32 (b5_32 (by exact BK375.out) hb)
                  have n11_ := aM_32 (b5_32 (by exact BK384.out) hb)
                  have n12_ := aM_32 (b5_32 (by exact BK390.out) hb)
                  have n13_ := aM_32 (b9_32 (by repeat (first | (with_reducible first | exact HB.out | apply b8_32 | apply b6_32 | apply b7_32 | refine b4_32 ?_ GE361.out | refine b4_32 ?_ GE362.out | refine b4_32 ?_ GE375.out | refine b4_32 ?_ GE384.out | refine b4_32 ?_ GE390.out) | exact HB.out)) hb)
                  clear HO_376001 HO_385001 HO_391001 HO417 HO422 HO426 HO429 BK361 BK362 BK375 BK384 BK390 HB
                  have HO_376001 := n0_
                  have HO_385001 := n1_
                  have HO_391001 := n2_
                  have HO417 := n3_
                  have HO422 := n4_
                  have HO426 := n5_
                  have HO429 := n6_
                  have HO432 := n7_
                  have BK361 := n8_
                  have BK362 := n9_
                  have BK375 := n10_
                  have BK384 := n11_
                  have BK390 := n12_
                  have HB := n13_
                  clear n0_ n1_ n2_ n3_ n4_ n5_ n6_ n7_ n8_ n9_ n10_ n11_ n12_ n13_
                  (try clear hb)
                  (try clear hb2)
                  (try clear hk)
                  (try clear hi)
                  (try clear ho0)
                  obtain ⟨Ao221, co221, eo221⟩ := Kd.R_slice HO432.out
                  (first | subst eo221 | (injection eo221 with f1_ f2_ f3_; have f4_ := f1_.symm; have f5_ := f3_.symm; clear f1_ f2_ f3_; subst f4_; subst f5_))
                  refine hK.out _ _ ⟨(blk_cell BK375.out 0).trans rfl, (blk_cell BK375.out 1).trans rfl⟩ (fun hHeld => ?_)
                  clear hK K
                  refine norm_ (a' := ?_) ?_ ?_
                  rotate_left
                  ·show Act.put _ (some 161) _ = _
                   simp only [Act.put, l1_32, l2_32, l3_32, i64_w, i32_w]
                   rfl
                  refine one_ (i := 4) (N := some 162) #[true, true, true, true, true, false] rfl rfl (by kernel_rfl) (by decide) (fun K hK => ?_)
                  refine goes_ Try.func27 (by kernel_rfl) rfl #[.agg #[.int .i64 t368, .slice Ao39 t369.length co39], .slice Ao221 t430.length co221] (by rfl) rfl rfl (by (try simp only [List.map_toArray, List.map_cons, List.map_nil]); first | done | rfl | (simp only [List.length_drop, List.length_take]; rfl)) ?_
                  with_reducible refine (proofmarkref13_Eval.calls kj135 t368 _ _ t369 _ _ t430 t433 _ ?side1 ?side2 ?side3 ?side4 A183.out).mono ?_
                  (case side1 => repeat (first | exact (Kd.V_reads' HO_376001.out).2.2 | (with_reducible refine c3_32 ?_ _) | (with_reducible refine c4_32 ?_ _) | (with_reducible refine c5_32 ?_)))
                  (case side2 => exact (Kd.V_reads' HO_376001.out).2.1)
                  (case side3 => repeat (first | exact (Kd.R_reads' HO432.out).2.2 | (with_reducible refine c3_32 ?_ _) | (with_reducible refine c4_32 ?_ _) | (with_reducible refine c5_32 ?_)))
                  (case side4 => exact (Kd.R_reads' HO432.out).2.1)
                  rintro e w222 ⟨v434, rfl, ho0, hb⟩
                  refine ⟨_, rfl, ?_⟩
                  have n0_ := aM_32 (Kd.V_elder' (by (with_reducible repeat (first | apply v1_32 | apply v2_32 | apply v3_32)); exact HO_376001.out) (Kd.R_base ho0) hb)
                  have n1_ := aM_32 (Kd.V_elder' (by (with_reducible repeat (first | apply v1_32 | apply v2_32 | apply v3_32)); exact HO_385001.out) (Kd.R_base ho0) hb)
                  have n2_ := aM_32 (Kd.V_elder' (by (with_reducible repeat (first | apply v1_32 | apply v2_32 | apply v3_32)); exact HO_391001.out) (Kd.R_base ho0) hb)
                  have n3_ := aM_32 (Kd.V_elder' (by (with_reducible repeat (first | apply v1_32 | apply v2_32 | apply v3_32)); exact HO417.out) (Kd.R_base ho0) hb)
                  have n4_ := aM_32 (Kd.V_elder' (by (with_reducible repeat (first | apply v1_32 | apply v2_32 | apply v3_32)); exact HO422.out) (Kd.R_base ho0) hb)
                  have n5_ := aM_32 (Kd.R_elder' (by (with_reducible repeat (first | apply r1_32 | apply r2_32 | apply r3_32)); exact HO426.out) (Kd.R_base ho0) hb)
                  have n6_ := aM_32 (Kd.R_elder' (by (with_reducible repeat (first | apply r1_32 | apply r2_32 | apply r3_32)); exact HO429.out) (Kd.R_base ho0) hb)
                  have n7_ := aM_32 (Kd.R_elder' (by (with_reducible repeat (first | apply r1_32 | apply r2_32 | apply r3_32)); exact HO432.out) (Kd.R_base ho0) hb)
                  have n8_ := aM_32 (Kd.R_lower (Kd.R_new' (Kd.R_new' (Kd.R_new' ho0 (Kd.R_lt (by (with_reducible repeat (first | apply r1_32 | apply r2_32 | apply r3_32)); exact HO426.out))) (Kd.R_lt (by (with_reducible repeat (first | apply r1_32 | apply r2_32 | apply r3_32)); exact HO429.out))) (Kd.R_lt (by (with_reducible repeat (first | apply r1_32 | apply r2_32 | apply r3_32)); exact HO432.out))) (b0_32 (by repeat (first | (with_reducible first | exact HB.out | apply b8_32 | apply b6_32 | apply b7_32 | refine b4_32 ?_ GE361.out | refine b4_32 ?_ GE362.out | refine b4_32 ?_ GE375.out | refine b4_32 ?_ GE384.out | refine b4_32 ?_ GE390.out) | exact HB.out))))
                  have n9_ := aM_32 (b5_32 (by exact BK361.out) hb)
                  have n10_ := aM_32 (b5_32 (by exact BK362.out) hb)
                  have n11_ := aM_32 (b5_32 (by exact BK375.out) hb)
                  have n12_ := aM_32 (b5_32 (by exact BK384.out) hb)
                  have n13_ := aM_32 (b5_32 (by exact BK390.out) hb)
                  have n14_ := aM_32 (b9_32 (by repeat (first | (with_reducible first | exact HB.out | apply b8_32 | apply b6_32 | apply b7_32 | refine b4_32 ?_ GE361.out | refine b4_32 ?_ GE362.out | refine b4_32 ?_ GE375.out | refine b4_32 ?_ GE384.out | refine b4_32 ?_ GE390.out) | exact HB.out)) hb)
                  clear HO_376001 HO_385001 HO_391001 HO417 HO422 HO426 HO429 HO432 BK361 BK362 BK375 BK384 BK390 HB
                  have HO_376001 := n0_
                  have HO_385001 := n1_
                  have HO_391001 := n2_
                  have HO417 := n3_
                  have HO422 := n4_
                  have HO426 := n5_
                  have HO429 := n6_
                  have HO432 := n7_
                  have HO435 := n8_
                  have BK361 := n9_
                  have BK362 := n10_
                  have BK375 := n11_
                  have BK384 := n12_
                  have BK390 := n13_
                  have HB := n14_
                  clear n0_ n1_ n2_ n3_ n4_ n5_ n6_ n7_ n8_ n9_ n10_ n11_ n12_ n13_ n14_
                  (try clear hb)
                  (try clear hb2)
                  (try clear hk)
                  (try clear hi)
                  (try clear ho0)
                  refine hK.out _ _ ⟨(blk_cell BK375.out 0).trans rfl, (blk_cell BK375.out 1).trans rfl⟩ (fun hHeld => ?_)
                  clear hK K
                  refine norm_ (a' := ?_) ?_ ?_
                  rotate_left
                  ·show Act.put _ (some 162) _ = _
                   simp only [Act.put, l1_32, l2_32, l3_32, i64_w, i32_w]
                   rfl
                  refine pure_ (i := 5) (N := some 22) (v := ?_) (a' := ?_) #[true, true, true, true, true, true] rfl rfl (by kernel_rfl) (fun _ _ _ h => h) (Or.inl ⟨by rfl, ?_⟩) ?_ ?_
                  rotate_left
                  ·intro w'
                   go_simp
                   with_reducible rfl
                  rotate_left
                  ·simp only [Act.put, l1_32, l2_32, l3_32, i64_w, i32_w]
                   rfl
                  refine done_ (by kernel_rfl) ?_
                  obtain ⟨hcz223_0, hcz223_1, hfz223_0, hfz223_1⟩ := cells2_32 BK384.out
                  obtain ⟨hcz224_0, hcz224_1, hfz224_0, hfz224_1⟩ := cells2_32 BK390.out
                  try go_wp2_with (first | (go_at_call 18; (with_reducible refine (proofmarkref13_Same.calls kj135 t414 _ _ t415 t419 _ _ t420 true _ ?side1 ?side2 ?side3 ?side4 A185.out).mono ?_); (case side1 => repeat (first | exact (Kd.V_reads' HO417.out).2.2 | (with_reducible refine c3_32 ?_ _) | (with_reducible refine c4_32 ?_ _) | (with_reducible refine c5_32 ?_))); (case side2 => exact (Kd.V_reads' HO417.out).2.1); (case side3 => repeat (first | exact (Kd.V_reads' HO422.out).2.2 | (with_reducible refine c3_32 ?_ _) | (with_reducible refine c4_32 ?_ _) | (with_reducible refine c5_32 ?_))); (case side4 => exact (Kd.V_reads' HO422.out).2.1); rintro e w225 ⟨rfl, hb⟩; have n0_ := aM_32 (v6_32 (by (with_reducible repeat (first | apply v1_32 | apply v2_32 | apply v3_32)); exact HO_376001.out) hb); have n1_ := aM_32 (v6_32 (by (with_reducible repeat (first | apply v1_32 | apply v2_32 | apply v3_32)); exact HO_385001.out) hb); have n2_ := aM_32 (v6_32 (by (with_reducible repeat (first | apply v1_32 | apply v2_32 | apply v3_32)); exact HO_391001.out) hb); have n3_ := aM_32 (v6_32 (by (with_reducible repeat (first | apply v1_32 | apply v2_32 | apply v3_32)); exact HO417.out) hb); have n4_ := aM_32 (v6_32 (by (with_reducible repeat (first | apply v1_32 | apply v2_32 | apply v3_32)); exact HO422.out) hb); have n5_ := aM_32 (r4_32 (by (with_reducible repeat (first | apply r1_32 | apply r2_32 | apply r3_32)); exact HO426.out) hb); have n6_ := aM_32 (r4_32 (by (with_reducible repeat (first | apply r1_32 | apply r2_32 | apply r3_32)); exact HO429.out) hb); have n7_ := aM_32 (r4_32 (by (with_reducible repeat (first | apply r1_32 | apply r2_32 | apply r3_32)); exact HO432.out) hb); have n8_ := aM_32 (r4_32 (by (with_reducible repeat (first | apply r1_32 | apply r2_32 | apply r3_32)); exact HO435.out) hb); have n9_ := aM_32 (b5_32 (by exact BK361.out) hb); have n10_ := aM_32 (b5_32 (by exact BK362.out) hb); have n11_ := aM_32 (b5_32 (by exact BK375.out) hb); have n12_ := aM_32 (b5_32 (by exact BK384.out) hb); have n13_ := aM_32 (b5_32 (by exact BK390.out) hb); have n14_ := aM_32 (b9_32 (by repeat (first | (with_reducible first | exact HB.out | apply b8_32 | apply b6_32 | apply b7_32 | refine b4_32 ?_ GE361.out | refine b4_32 ?_ GE362.out | refine b4_32 ?_ GE375.out | refine b4_32 ?_ GE384.out | refine b4_32 ?_ GE390.out) | exact HB.out)) hb); clear HO_376001 HO_385001 HO_391001 HO417 HO422 HO426 HO429 HO432 HO435 BK361 BK362 BK375 BK384 BK390 HB; have HO_376001 := n0_; have HO_385001 := n1_; have HO_391001 := n2_; have HO417 := n3_; have HO422 := n4_; have HO426 := n5_; have HO429 := n6_; have HO432 := n7_; have HO435 := n8_; have BK361 := n9_; have BK362 := n10_; have BK375 := n11_; have BK384 := n12_; have BK390 := n13_; have HB := n14_; clear n0_ n1_ n2_ n3_ n4_ n5_ n6_ n7_ n8_ n9_ n10_ n11_ n12_ n13_ n14_; (try clear hb); (try clear hb2); (try clear hk); (try clear hi); obtain ⟨Ao226, co226, eo226⟩ := Kd.R_slice HO429.out; subst eo226; obtain ⟨Ao227, co227, eo227⟩ := Kd.R_slice HO435.out; subst eo227) | (go_at_call 28; (with_reducible refine (proofmarkref08_Same.calls kj135 _ _ t427 _ _ t433 true _ ?side1 ?side2 ?side3 ?side4 A188.out).mono ?_); (case side1 => repeat (first | exact (Kd.R_reads' HO429.out).2.2 | (with_reducible refine c3_32 ?_ _) | (with_reducible refine c4_32 ?_ _) | (with_reducible refine c5_32 ?_))); (case side2 => exact (Kd.R_reads' HO429.out).2.1); (case side3 => repeat (first | exact (Kd.R_reads' HO435.out).2.2 | (with_reducible refine c3_32 ?_ _) | (with_reducible refine c4_32 ?_ _) | (with_reducible refine c5_32 ?_))); (case side4 => exact (Kd.R_reads' HO435.out).2.1); rintro e w' ⟨rfl, ⟨nd, rfl⟩⟩) | (go_at_call 29; (with_reducible refine (aig_Lit.calls _ _ t433 t376 t438 _ ?side1 ?side2 A190.out).mono ?_); (case side1 => repeat (first | exact (Kd.R_reads' HO435.out).2.2 | (with_reducible refine c3_32 ?_ _) | (with_reducible refine c4_32 ?_ _) | (with_reducible refine c5_32 ?_))); (case side2 => exact (Kd.R_reads' HO435.out).2.1); rintro e w' ⟨rfl, ⟨nd, rfl⟩⟩) | (go_at_call 30; (with_reducible refine (proofmarkref13_Lit.calls _ _ t433 t376 t439 _ ?side1 ?side2 A191.out).mono ?_); (case side1 => repeat (first | exact (Kd.R_reads' HO435.out).2.2 | (with_reducible refine c3_32 ?_ _) | (with_reducible refine c4_32 ?_ _) | (with_reducible refine c5_32 ?_))); (case side2 => exact (Kd.R_reads' HO435.out).2.1); rintro e w' ⟨rfl, ⟨nd, rfl⟩⟩) | (go_at_call 31; (with_reducible refine (aig_New.calls (wrap64 (a1)) t440 t441 _ A193.out).mono ?_); rintro e w228 ⟨v442, rfl, ho0, hb⟩; have n0_ := aM_32 (Kd.V_elder' (by (with_reducible repeat (first | apply v1_32 | apply v2_32 | apply v3_32)); exact HO_376001.out) (Kd.R_base ho0) hb); have n1_ := aM_32 (Kd.V_elder' (by (with_reducible repeat (first | apply v1_32 | apply v2_32 | apply v3_32)); exact HO_385001.out) (Kd.R_base ho0) hb); have n2_ := aM_32 (Kd.V_elder' (by (with_reducible repeat (first | apply v1_32 | apply v2_32 | apply v3_32)); exact HO_391001.out) (Kd.R_base ho0) hb); have n3_ := aM_32 (Kd.V_elder' (by (with_reducible repeat (first | apply v1_32 | apply v2_32 | apply v3_32)); exact HO417.out) (Kd.R_base ho0) hb); have n4_ := aM_32 (Kd.V_elder' (by (with_reducible repeat (first | apply v1_32 | apply v2_32 | apply v3_32)); exact HO422.out) (Kd.R_base ho0) hb); have n5_ := aM_32 (r4_32 (by (with_reducible repeat (first | apply r1_32 | apply r2_32 | apply r3_32)); exact HO426.out) hb); have n6_ := aM_32 (r4_32 (by (with_reducible repeat (first | apply r1_32 | apply r2_32 | apply r3_32)); exact HO429.out) hb); have n7_ := aM_32 (r4_32 (by (with_reducible repeat (first | apply r1_32 | apply r2_32 | apply r3_32)); exact HO432.out) hb); have n8_ := aM_32 (r4_32 (by (with_reducible repeat (first | apply r1_32 | apply r2_32 | apply r3_32)); exact HO435.out) hb); have n9_ := aM_32 (Kd.R_lower ho0 (b0_32 (by repeat (first | (with_reducible first | exact HB.out | apply b8_32 | apply b6_32 | apply b7_32 | refine b4_32 ?_ GE361.out | refine b4_32 ?_ GE362.out | refine b4_32 ?_ GE375.out | refine b4_32 ?_ GE384.out | refine b4_32 ?_ GE390.out) | exact HB.out)))); have n10_ := aM_32 (b5_32 (by exact BK361.out) hb); have n11_ := aM_32 (b5_32 (by exact BK362.out) hb); have n12_ := aM_32 (b5_32 (by exact BK375.out) hb); have n13_ := aM_32 (b5_32 (by exact BK384.out) hb); have n14_ := aM_32 (b5_32 (by exact BK390.out) hb); have n15_ := aM_32 (b9_32 (by repeat (first | (with_reducible first | exact HB.out | apply b8_32 | apply b6_32 | apply b7_32 | refine b4_32 ?_ GE361.out | refine b4_32 ?_ GE362.out | refine b4_32 ?_ GE375.out | refine b4_32 ?_ GE384.out | refine b4_32 ?_ GE390.out) | exact HB.out)) hb); clear HO_376001 HO_385001 HO_391001 HO417 HO422 HO426 HO429 HO432 HO435 BK361 BK362 BK375 BK384 BK390 HB; have HO_376001 := n0_; have HO_385001 := n1_; have HO_391001 := n2_; have HO417 := n3_; have HO422 := n4_; have HO426 := n5_; have HO429 := n6_; have HO432 := n7_; have HO435 := n8_; have HO443 := n9_; have BK361 := n10_; have BK362 := n11_; have BK375 := n12_; have BK384 := n13_; have BK390 := n14_; have HB := n15_; clear n0_ n1_ n2_ n3_ n4_ n5_ n6_ n7_ n8_ n9_ n10_ n11_ n12_ n13_ n14_ n15_; (try clear hb); (try clear hb2); (try clear hk); (try clear hi); (try clear ho0)) | (go_at_call 32; (with_reducible refine (proofmarkref13_New.calls (wrap64 (a1)) t444 t445 _ A194.out).mono ?_); rintro e w229 ⟨v446, rfl, ho0, hb⟩; have n0_ := aM_32 (Kd.V_elder' (by (with_reducible repeat (first | apply v1_32 | apply v2_32 | apply v3_32)); exact HO_376001.out) (Kd.R_base ho0) hb); have n1_ := aM_32 (Kd.V_elder' (by (with_reducible repeat (first | apply v1_32 | apply v2_32 | apply v3_32)); exact HO_385001.out) (Kd.R_base ho0) hb); have n2_ := aM_32 (Kd.V_elder' (by (with_reducible repeat (first | apply v1_32 | apply v2_32 | apply v3_32)); exact HO_391001.out) (Kd.R_base ho0) hb); have n3_ := aM_32 (Kd.V_elder' (by (with_reducible repeat (first | apply v1_32 | apply v2_32 | apply v3_32)); exact HO417.out) (Kd.R_base ho0) hb); have n4_ := aM_32 (Kd.V_elder' (by (with_reducible repeat (first | apply v1_32 | apply v2_32 | apply v3_32)); exact HO422.out) (Kd.R_base ho0) hb); have n5_ := aM_32 (r4_32 (by (with_reducible repeat (first | apply r1_32 | apply r2_32 | apply r3_32)); exact HO426.out) hb); have n6_ := aM_32 (r4_32 (by (with_reducible repeat (first | apply r1_32 | apply r2_32 | apply r3_32)); exact HO429.out) hb); have n7_ := aM_32 (r4_32 (by (with_reducible repeat (first | apply r1_32 | apply r2_32 | apply r3_32)); exact HO432.out) hb); have n8_ := aM_32 (r4_32 (by (with_reducible repeat (first | apply r1_32 | apply r2_32 | apply r3_32)); exact HO435.out) hb); have n9_ := aM_32 (Kd.R_elder' (by (with_reducible repeat (first | apply r1_32 | apply r2_32 | apply r3_32)); exact HO443.out) (Kd.R_base ho0) hb); have n10_ := aM_32 (Kd.R_lower (Kd.R_new' ho0 (Kd.R_lt (by (with_reducible repeat (first | apply r1_32 | apply r2_32 | apply r3_32)); exact HO443.out))) (b0_32 (by repeat (first | (with_reducible first | exact HB.out | apply b8_32 | apply b6_32 | apply b7_32 | refine b4_32 ?_ GE361.out | refine b4_32 ?_ GE362.out | refine b4_32 ?_ GE375.out | refine b4_32 ?_ GE384.out | refine b4_32 ?_ GE390.out) | exact HB.out)))); have n11_ := aM_32 (b5_32 (by exact BK361.out) hb); have n12_ := aM_32 (b5_32 (by exact BK362.out) hb); have n13_ := aM_32 (b5_32 (by exact BK375.out) hb); have n14_ := aM_32 (b5_32 (by exact BK384.out) hb); have n15_ := aM_32 (b5_32 (by exact BK390.out) hb); have n16_ := aM_32 (b9_32 (by repeat (first | (with_reducible first | exact HB.out | apply b8_32 | apply b6_32 | apply b7_32 | refine b4_32 ?_ GE361.out | refine b4_32 ?_ GE362.out | refine b4_32 ?_ GE375.out | refine b4_32 ?_ GE384.out | refine b4_32 ?_ GE390.out) | exact HB.out)) hb); clear HO_376001 HO_385001 HO_391001 HO417 HO422 HO426 HO429 HO432 HO435 HO443 BK361 BK362 BK375 BK384 BK390 HB; have HO_376001 := n0_; have HO_385001 := n1_; have HO_391001 := n2_; have HO417 := n3_; have HO422 := n4_; have HO426 := n5_; have HO429 := n6_; have HO432 := n7_; have HO435 := n8_; have HO443 := n9_; have HO447 := n10_; have BK361 := n11_; have BK362 := n12_; have BK375 := n13_; have BK384 := n14_; have BK390 := n15_; have HB := n16_; clear n0_ n1_ n2_ n3_ n4_ n5_ n6_ n7_ n8_ n9_ n10_ n11_ n12_ n13_ n14_ n15_ n16_; (try clear hb); (try clear hb2); (try clear hk); (try clear hi); (try clear ho0); obtain ⟨Ao230, co230, eo230⟩ := Kd.R_slice HO443.out; subst eo230; obtain ⟨Ao231, co231, eo231⟩ := Kd.R_slice HO447.out; subst eo231) | (go_at_call 18; (with_reducible refine (proofmarkref13_Same.calls kj135 t440 _ _ t441 t444 _ _ t445 t448 _ ?side1 ?side2 ?side3 ?side4 A195.out).mono ?_); (case side1 => repeat (first | exact (Kd.R_reads' HO443.out).2.2 | (with_reducible refine c3_32 ?_ _) | (with_reducible refine c4_32 ?_ _) | (with_reducible refine c5_32 ?_))); (case side2 => exact (Kd.R_reads' HO443.out).2.1); (case side3 => repeat (first | exact (Kd.R_reads' HO447.out).2.2 | (with_reducible refine c3_32 ?_ _) | (with_reducible refine c4_32 ?_ _) | (with_reducible refine c5_32 ?_))); (case side4 => exact (Kd.R_reads' HO447.out).2.1); rintro e w232 ⟨rfl, hb⟩; have n0_ := aM_32 (v6_32 (by (with_reducible repeat (first | apply v1_32 | apply v2_32 | apply v3_32)); exact HO_376001.out) hb); have n1_ := aM_32 (v6_32 (by (with_reducible repeat (first | apply v1_32 | apply v2_32 | apply v3_32)); exact HO_385001.out) hb); have n2_ := aM_32 (v6_32 (by (with_reducible repeat (first | apply v1_32 | apply v2_32 | apply v3_32)); exact HO_391001.out) hb); have n3_ := aM_32 (v6_32 (by (with_reducible repeat (first | apply v1_32 | apply v2_32 | apply v3_32)); exact HO417.out) hb); have n4_ := aM_32 (v6_32 (by (with_reducible repeat (first | apply v1_32 | apply v2_32 | apply v3_32)); exact HO422.out) hb); have n5_ := aM_32 (r4_32 (by (with_reducible repeat (first | apply r1_32 | apply r2_32 | apply r3_32)); exact HO426.out) hb); have n6_ := aM_32 (r4_32 (by (with_reducible repeat (first | apply r1_32 | apply r2_32 | apply r3_32)); exact HO429.out) hb); have n7_ := aM_32 (r4_32 (by (with_reducible repeat (first | apply r1_32 | apply r2_32 | apply r3_32)); exact HO432.out) hb); have n8_ := aM_32 (r4_32 (by (with_reducible repeat (first | apply r1_32 | apply r2_32 | apply r3_32)); exact HO435.out) hb); have n9_ := aM_32 (r4_32 (by (with_reducible repeat (first | apply r1_32 | apply r2_32 | apply r3_32)); exact HO443.out) hb); have n10_ := aM_32 (r4_32 (by (with_reducible repeat (first | apply r1_32 | apply r2_32 | apply r3_32)); exact HO447.out) hb); have n11_ := aM_32 (b5_32 (by exact BK361.out) hb); have n12_ := aM_32 (b5_32 (by exact BK362.out) hb); have n13_ := aM_32 (b5_32 (by exact BK375.out) hb); have n14_ := aM_32 (b5_32 (by exact BK384.out) hb); have n15_ := aM_32 (b5_32 (by exact BK390.out) hb); have n16_ := aM_32 (b9_32 (by repeat (first | (with_reducible first | exact HB.out | apply b8_32 | apply b6_32 | apply b7_32 | refine b4_32 ?_ GE361.out | refine b4_32 ?_ GE362.out | refine b4_32 ?_ GE375.out | refine b4_32 ?_ GE384.out | refine b4_32 ?_ GE390.out) | exact HB.out)) hb); clear HO_376001 HO_385001 HO_391001 HO417 HO422 HO426 HO429 HO432 HO435 HO443 HO447 BK361 BK362 BK375 BK384 BK390 HB; have HO_376001 := n0_; have HO_385001 := n1_; have HO_391001 := n2_; have HO417 := n3_; have HO422 := n4_; have HO426 := n5_; have HO429 := n6_; have HO432 := n7_; have HO435 := n8_; have HO443 := n9_; have HO447 := n10_; have BK361 := n11_; have BK362 := n12_; have BK375 := n13_; have BK384 := n14_; have BK390 := n15_; have HB := n16_; clear n0_ n1_ n2_ n3_ n4_ n5_ n6_ n7_ n8_ n9_ n10_ n11_ n12_ n13_ n14_ n15_ n16_; (try clear hb); (try clear hb2); (try clear hk); (try clear hi)))
                  go_ret
                  exact ⟨by first | rfl | (simp [errW_none, errW_some] <;> rfl) | (simp [*, errW_none, errW_some] <;> rfl), by repeat (first | (with_reducible first | exact HB.out | apply b8_32 | apply b6_32 | apply b7_32 | refine b4_32 ?_ GE361.out | refine b4_32 ?_ GE362.out | refine b4_32 ?_ GE375.out | refine b4_32 ?_ GE384.out | refine b4_32 ?_ GE390.out) | exact HB.out)⟩
                 ·rw [if_neg c192] at H
                  exact absurd H (by simp)
                ·replace c189 := Bool.eq_false_iff.mpr c189
                 subst c189
                 have H1 : (none) = some r := by rw [if_neg (show ¬ (false = true) by decide)] at H; exact H
                 clear H
                 have H := H1
                 clear H1
                 exact absurd H (by simp)
               ·rw [if_neg c187] at H
                exact absurd H (by simp)
              ·replace c186 := Bool.eq_false_iff.mpr c186
               subst c186
               have H1 : (none) = some r := by rw [if_neg (show ¬ (false = true) by decide)] at H; exact H
               clear H
               have H := H1
               clear H1
               exact absurd H (by simp)
             ·replace c184 := Bool.eq_false_iff.mpr c184
              subst c184
              have H1 : (none) = some r := by rw [if_neg (show ¬ (false = true) by decide)] at H; exact H
              clear H
              have H := H1
              clear H1
              exact absurd H (by simp)
end Go.Proofs.Ytlnjefcfbncegaa.Xb
