/- Slimmed by this session: what nothing names is struck out. -/
import Derived.Test.YtlnjefcfbncegaaXb0
import Derived.Test.YtlnjefcfbncegaaXb5
import Derived.Test.YtlnjefcfbncegaaXb16
import Derived.Test.YtlnjefcfbncegaaXb17
import Derived.Test.YtlnjefcfbncegaaXb27
namespace Go.Proofs.Ytlnjefcfbncegaa.Xb
open Go.RowKit Go.Proofs.YtlnjefcfbncegaaW.PrintWords Go.Proofs.YtlnjefcfbncegaaW.PrintLast Go.Proofs.YtlnjefcfbncegaaW.PrintMore
attribute [local go_sem] max2_int min2_int max_two min_two max_three min_three max_four min_four
set_option linter.unusedVariables false
set_option linter.unusedSimpArgs false
theorem V_okb {α : Type} {d : Kd α} {e base n c : Nat} {ok : Nat → Prop} {W : World} {ad : Addr} {xs : List α} (h : Kd.V d e W base ok (.slice (some ad) n c) xs) (z : α) (i : Int) (h0 : 0 ≤ i) (h1 : i < n) (hs : 0 < d.sz) : ok ad.block := by
 obtain ⟨ad', cs, he, _, _, _, hin⟩ := Kd.F_get (Kd.V_F h) z i h0 h1
 injection he with he
 subst he
 exact hin hs
abbrev b1_37 := @blk_drewN
abbrev b2_37 := @blk_alloc
abbrev b3_37 := @blk_drew
abbrev b4_37 := @below_set
abbrev aM_37 := @Aside0.mk
abbrev v1_37 := @Kd.V_alloc
abbrev v2_37 := @Kd.V_drewN
abbrev v3_37 := @Kd.V_drew
abbrev r1_37 := @Kd.R_alloc
abbrev r2_37 := @Kd.R_drewN
abbrev r3_37 := @Kd.R_drew
abbrev b5_37 := @blk_below
abbrev v4_37 := @Kd.V_mono
abbrev v5_37 := @Kd.V_far
abbrev b6_37 := @pw_below_drewN
abbrev b7_37 := @below_drew1
abbrev b8_37 := @below_alloc
abbrev b9_37 := @below_step
abbrev b0_37 := @below_size
abbrev c1_37 := @blk_put
abbrev c2_37 := @blk_far
abbrev c3_37 := @Kd.C_alloc
abbrev c4_37 := @Kd.C_drewN
abbrev c5_37 := @Kd.C_drew
abbrev v6_37 := @Kd.V_below
abbrev r4_37 := @Kd.R_below
abbrev l1_37 := @List.setIfInBounds_toArray
abbrev l2_37 := @List.set_cons_zero
abbrev l3_37 := @List.set_cons_succ
theorem cells2_37 {w : World} {g : Nat} {t : TypeId} {x0 x1 : Value} (h : w.heap[g]? = some (.cells #[x0, x1] t (0, 0))) : w.cell? ⟨g, 0, none⟩ = some x0 ∧ w.cell? ⟨g, 1, none⟩ = some x1 ∧ w.frozen? ⟨g, 0, none⟩ = false ∧ w.frozen? ⟨g, 1, none⟩ = false := ⟨(blk_cell h 0).trans rfl, (blk_cell h 1).trans rfl, blk_frozen h 0, blk_frozen h 1⟩
def proofmarklaw13_AigOdd.f (k : Nat) (a0 : Int) (l1 : List (S28)) (a2 : Int) (a3 : Int) : Option (Bool) := (proofmarklaw13_head.f k).bind fun t647 => ((proofmarklaw13_Great.f l1).bind fun t648 => (if t648 = true then (some t647) else ((proofmarklaw13_Made.f k a0 l1).bind fun bt649 => (if (bt649.2.1.length : Int) = 0 then (if t647 = true then ((aig_Right.f k bt649.1 bt649.2.1).bind fun t657 => (some t657)) else (none)) else ((some (([] : List (S50)) : List (S50))).bind fun y658 => (if y658.length + bt649.2.1.length < 8796093022208 then ((some (y658 ++ bt649.2.1 : List (S50))).bind fun y661 => (if 0 ≤ (Int.tmod (wrap64 (a2)) (bt649.2.1.length : Int)) then (if (Int.tmod (wrap64 (a2)) (bt649.2.1.length : Int)) < (bt649.2.1.length : Int) then (if (Int.tmod a3 4) = 0 then (if y661.length < 8796093022208 then (if t647 = true then ((aig_Right.f k bt649.1 (y661 ++ [(⟨(rd_T50 bt649.2.1 (Int.tmod (wrap64 (a2)) (bt649.2.1.length : Int))).f0, (rd_T50 bt649.2.1 (Int.tmod (wrap64 (a2)) (bt649.2.1.length : Int))).f1⟩ : S50)])).bind fun t670 => (if t670 = true then (none) else ((aig_Right.f k bt649.1 bt649.2.1).bind fun t671 => (some t671)))) else (none)) else (none)) else (if (Int.tmod a3 4) = 1 then (if (Int.tmod (wrap64 (a2)) (bt649.2.1.length : Int)) < (y661.length : Int) then (if t647 = true then ((aig_Right.f k bt649.1 (y661.set ((Int.tmod (wrap64 (a2)) (bt649.2.1.length : Int)) : Int).toNat (⟨(rd_T50 bt649.2.1 (Int.tmod (wrap64 (a2)) (bt649.2.1.length : Int))).f1, (rd_T50 bt649.2.1 (Int.tmod (wrap64 (a2)) (bt649.2.1.length : Int))).f0⟩ : S50))).bind fun t673 => (if t673 = true then (none) else ((aig_Right.f k bt649.1 bt649.2.1).bind fun t674 => (some t674)))) else (none)) else (none)) else (if (Int.tmod a3 4) = 2 then (if (Int.tmod (wrap64 (a2)) (bt649.2.1.length : Int)) < (y661.length : Int) then (if t647 = true then ((aig_Right.f k bt649.1 (y661.set ((Int.tmod (wrap64 (a2)) (bt649.2.1.length : Int)) : Int).toNat (⟨(rd_T50 bt649.2.1 (Int.tmod (wrap64 (a2)) (bt649.2.1.length : Int))).f0, wrap64 (2 * (wrap64 ((wrap64 (bt649.1 + 1)) + (Int.tmod (wrap64 (a2)) (bt649.2.1.length : Int)))))⟩ : S50))).bind fun t676 => (if t676 = true then (none) else ((aig_Right.f k bt649.1 bt649.2.1).bind fun t677 => (some t677)))) else (none)) else (none)) else (if (Int.tmod a3 4) = 3 then (if (Int.tmod (wrap64 (a2)) (bt649.2.1.length : Int)) < (y661.length : Int) then (if t647 = true then ((aig_Right.f k bt649.1 (y661.set ((Int.tmod (wrap64 (a2)) (bt649.2.1.length : Int)) : Int).toNat (⟨1, (rd_T50 bt649.2.1 (Int.tmod (wrap64 (a2)) (bt649.2.1.length : Int))).f1⟩ : S50))).bind fun t679 => (if t679 = true then (none) else ((aig_Right.f k bt649.1 bt649.2.1).bind fun t680 => (some t680)))) else (none)) else (none)) else (none))))) else (none)) else (none))) else (none)))))))
theorem proofmarklaw13_AigOdd.mono : ∀ a0 a1 a2 a3 k, LeO (proofmarklaw13_AigOdd.f k a0 a1 a2 a3) (proofmarklaw13_AigOdd.f (k + 1) a0 a1 a2 a3) := by
 intro a0 a1 a2 a3 k
 unfold proofmarklaw13_AigOdd.f
 repeat' first
   | (with_reducible exact aig_Right.mono _ _ _)
   | (with_reducible exact proofmarklaw13_Made.mono _ _ _)
   | (with_reducible exact proofmarklaw13_head.mono _)
   | (with_reducible exact LeO.refl _)
   | (with_reducible exact LeO.none _)
   | (with_reducible refine LeO.ite ?_ ?_)
   | (with_reducible refine LeO.bind ?_ (fun _ => ?_))
   | exact aig_Right.mono _ _ _
   | exact proofmarklaw13_Made.mono _ _ _
   | exact proofmarklaw13_head.mono _
   | exact LeO.none _
   | refine LeO.ite ?_ ?_
   | refine LeO.bind ?_ (fun _ => ?_)
def proofmarklaw13_AigOdd.T8 : Bool × List (List Nat × List Nat) := (true, [([], []), ([0], [0]), ([], []), ([], []), ([3], [3]), ([2, 4], [2, 4]), ([1, 5], [1, 5]), ([], []), ([7, 6, 5, 0, 1, 2, 3, 4, 5, 6, 7], [6, 7])])
def proofmarklaw13_AigOdd.B8 : List Nat := [0, 1, 0, 0, 8, 28, 63, 0, 255]
theorem proofmarklaw13_AigOdd.tab8 : rtab .any (opsOf Try.f8 8) = proofmarklaw13_AigOdd.T8 := by kernel_rfl
theorem proofmarklaw13_AigOdd.bits8 : waitsOk proofmarklaw13_AigOdd.T8.2 proofmarklaw13_AigOdd.B8 = true := by kernel_rfl
set_option maxHeartbeats 8000000 in
set_option maxRecDepth 100000 in
theorem proofmarklaw13_AigOdd.calls (k : Nat) (a0 : Int) (A1 : Option Addr) (c1 : Nat) (l1 : List (S28)) (a2 : Int) (a3 : Int) (r : Bool) (w : World) (hr1 : Kd.C k28 w A1 l1.length l1) (hc1 : l1.length ≤ c1) (h : proofmarklaw13_AigOdd.f k a0 l1 a2 a3 = some r) :
  Calls Try.prog 8 #[.int .u8 a0, .slice A1 l1.length c1, .int .u16 a2, .int .u8 a3] w fun e w' => e = .returned (.bool r) ∧ Below w.heap.size w w' := by
 have hu24 := Try.underlying24
 have hu50 := Try.underlying50
 have hix50_0 : ∀ (x0_ x1_ : Value) (W_ : World), (Instr.index 50 (.agg #[x0_, x1_]) (.int .i64 0)).run Try.prog W_ = .ok x0_ W_ := fun _ _ _ => by kernel_rfl
 have hix50_1 : ∀ (x0_ x1_ : Value) (W_ : World), (Instr.index 50 (.agg #[x0_, x1_]) (.int .i64 1)).run Try.prog W_ = .ok x1_ W_ := fun _ _ _ => by kernel_rfl
 have HR1 := aM_37 hr1
 have HC1 := aM_37 hc1
 clear hr1 hc1
 have HB := aM_37 (Below.refl w.heap.size w)
 have H : ((proofmarklaw13_head.f k).bind fun t647 => ((proofmarklaw13_Great.f l1).bind fun t648 => (if t648 = true then (some t647) else ((proofmarklaw13_Made.f k a0 l1).bind fun bt649 => (if (bt649.2.1.length : Int) = 0 then (if t647 = true then ((aig_Right.f k bt649.1 bt649.2.1).bind fun t657 => (some t657)) else (none)) else ((some (([] : List (S50)) : List (S50))).bind fun y658 => (if y658.length + bt649.2.1.length < 8796093022208 then ((some (y658 ++ bt649.2.1 : List (S50))).bind fun y661 => (if 0 ≤ (Int.tmod (wrap64 (a2)) (bt649.2.1.length : Int)) then (if (Int.tmod (wrap64 (a2)) (bt649.2.1.length : Int)) < (bt649.2.1.length : Int) then (if (Int.tmod a3 4) = 0 then (if y661.length < 8796093022208 then (if t647 = true then ((aig_Right.f k bt649.1 (y661 ++ [(⟨(rd_T50 bt649.2.1 (Int.tmod (wrap64 (a2)) (bt649.2.1.length : Int))).f0, (rd_T50 bt649.2.1 (Int.tmod (wrap64 (a2)) (bt649.2.1.length : Int))).f1⟩ : S50)])).bind fun t670 => (if t670 = true then (none) else ((aig_Right.f k bt649.1 bt649.2.1).bind fun t671 => (some t671)))) else (none)) else (none)) else (if (Int.tmod a3 4) = 1 then (if (Int.tmod (wrap64 (a2)) (bt649.2.1.length : Int)) < (y661.length : Int) then (if t647 = true then ((aig_Right.f k bt649.1 (y661.set ((Int.tmod (wrap64 (a2)) (bt649.2.1.length : Int)) : Int).toNat (⟨(rd_T50 bt649.2.1 (Int.tmod (wrap64 (a2)) (bt649.2.1.length : Int))).f1, (rd_T50 bt649.2.1 (Int.tmod (wrap64 (a2)) (bt649.2.1.length : Int))).f0⟩ : S50))).bind fun t673 => (if t673 = true then (none) else ((aig_Right.f k bt649.1 bt649.2.1).bind fun t674 => (some t674)))) else (none)) else (none)) else (if (Int.tmod a3 4) = 2 then (if (Int.tmod (wrap64 (a2)) (bt649.2.1.length : Int)) < (y661.length : Int) then (if t647 = true then ((aig_Right.f k bt649.1 (y661.set ((Int.tmod (wrap64 (a2)) (bt649.2.1.length : Int)) : Int).toNat (⟨(rd_T50 bt649.2.1 (Int.tmod (wrap64 (a2)) (bt649.2.1.length : Int))).f0, wrap64 (2 * (wrap64 ((wrap64 (bt649.1 + 1)) + (Int.tmod (wrap64 (a2)) (bt649.2.1.length : Int)))))⟩ : S50))).bind fun t676 => (if t676 = true then (none) else ((aig_Right.f k bt649.1 bt649.2.1).bind fun t677 => (some t677)))) else (none)) else (none)) else (if (Int.tmod a3 4) = 3 then (if (Int.tmod (wrap64 (a2)) (bt649.2.1.length : Int)) < (y661.length : Int) then (if t647 = true then ((aig_Right.f k bt649.1 (y661.set ((Int.tmod (wrap64 (a2)) (bt649.2.1.length : Int)) : Int).toNat (⟨1, (rd_T50 bt649.2.1 (Int.tmod (wrap64 (a2)) (bt649.2.1.length : Int))).f1⟩ : S50))).bind fun t679 => (if t679 = true then (none) else ((aig_Right.f k bt649.1 bt649.2.1).bind fun t680 => (some t680)))) else (none)) else (none)) else (none))))) else (none)) else (none))) else (none)))))))) = some r := h
 clear h
 replace H := Option.bind_eq_some_iff.mp H
 obtain ⟨t647, A50, H⟩ := H
 replace H : ((proofmarklaw13_Great.f l1).bind fun t648 => (if t648 = true then (some t647) else ((proofmarklaw13_Made.f k a0 l1).bind fun bt649 => (if (bt649.2.1.length : Int) = 0 then (if t647 = true then ((aig_Right.f k bt649.1 bt649.2.1).bind fun t657 => (some t657)) else (none)) else ((some (([] : List (S50)) : List (S50))).bind fun y658 => (if y658.length + bt649.2.1.length < 8796093022208 then ((some (y658 ++ bt649.2.1 : List (S50))).bind fun y661 => (if 0 ≤ (Int.tmod (wrap64 (a2)) (bt649.2.1.length : Int)) then (if (Int.tmod (wrap64 (a2)) (bt649.2.1.length : Int)) < (bt649.2.1.length : Int) then (if (Int.tmod a3 4) = 0 then (if y661.length < 8796093022208 then (if t647 = true then ((aig_Right.f k bt649.1 (y661 ++ [(⟨(rd_T50 bt649.2.1 (Int.tmod (wrap64 (a2)) (bt649.2.1.length : Int))).f0, (rd_T50 bt649.2.1 (Int.tmod (wrap64 (a2)) (bt649.2.1.length : Int))).f1⟩ : S50)])).bind fun t670 => (if t670 = true then (none) else ((aig_Right.f k bt649.1 bt649.2.1).bind fun t671 => (some t671)))) else (none)) else (none)) else (if (Int.tmod a3 4) = 1 then (if (Int.tmod (wrap64 (a2)) (bt649.2.1.length : Int)) < (y661.length : Int) then (if t647 = true then ((aig_Right.f k bt649.1 (y661.set ((Int.tmod (wrap64 (a2)) (bt649.2.1.length : Int)) : Int).toNat (⟨(rd_T50 bt649.2.1 (Int.tmod (wrap64 (a2)) (bt649.2.1.length : Int))).f1, (rd_T50 bt649.2.1 (Int.tmod (wrap64 (a2)) (bt649.2.1.length : Int))).f0⟩ : S50))).bind fun t673 => (if t673 = true then (none) else ((aig_Right.f k bt649.1 bt649.2.1).bind fun t674 => (some t674)))) else (none)) else (none)) else (if (Int.tmod a3 4) = 2 then (if (Int.tmod (wrap64 (a2)) (bt649.2.1.length : Int)) < (y661.length : Int) then (if t647 = true then ((aig_Right.f k bt649.1 (y661.set ((Int.tmod (wrap64 (a2)) (bt649.2.1.length : Int)) : Int).toNat (⟨(rd_T50 bt649.2.1 (Int.tmod (wrap64 (a2)) (bt649.2.1.length : Int))).f0, wrap64 (2 * (wrap64 ((wrap64 (bt649.1 + 1)) + (Int.tmod (wrap64 (a2)) (bt649.2.1.length : Int)))))⟩ : S50))).bind fun t676 => (if t676 = true then (none) else ((aig_Right.f k bt649.1 bt649.2.1).bind fun t677 => (some t677)))) else (none)) else (none)) else (if (Int.tmod a3 4) = 3 then (if (Int.tmod (wrap64 (a2)) (bt649.2.1.length : Int)) < (y661.length : Int) then (if t647 = true then ((aig_Right.f k bt649.1 (y661.set ((Int.tmod (wrap64 (a2)) (bt649.2.1.length : Int)) : Int).toNat (⟨1, (rd_T50 bt649.2.1 (Int.tmod (wrap64 (a2)) (bt649.2.1.length : Int))).f1⟩ : S50))).bind fun t679 => (if t679 = true then (none) else ((aig_Right.f k bt649.1 bt649.2.1).bind fun t680 => (some t680)))) else (none)) else (none)) else (none))))) else (none)) else (none))) else (none))))))) = some r := H
 have A5 := aM_37 A50
 clear A50
 replace H := Option.bind_eq_some_iff.mp H
 obtain ⟨t648, A60, H⟩ := H
 replace H : (if t648 = true then (some t647) else ((proofmarklaw13_Made.f k a0 l1).bind fun bt649 => (if (bt649.2.1.length : Int) = 0 then (if t647 = true then ((aig_Right.f k bt649.1 bt649.2.1).bind fun t657 => (some t657)) else (none)) else ((some (([] : List (S50)) : List (S50))).bind fun y658 => (if y658.length + bt649.2.1.length < 8796093022208 then ((some (y658 ++ bt649.2.1 : List (S50))).bind fun y661 => (if 0 ≤ (Int.tmod (wrap64 (a2)) (bt649.2.1.length : Int)) then (if (Int.tmod (wrap64 (a2)) (bt649.2.1.length : Int)) < (bt649.2.1.length : Int) then (if (Int.tmod a3 4) = 0 then (if y661.length < 8796093022208 then (if t647 = true then ((aig_Right.f k bt649.1 (y661 ++ [(⟨(rd_T50 bt649.2.1 (Int.tmod (wrap64 (a2)) (bt649.2.1.length : Int))).f0, (rd_T50 bt649.2.1 (Int.tmod (wrap64 (a2)) (bt649.2.1.length : Int))).f1⟩ : S50)])).bind fun t670 => (if t670 = true then (none) else ((aig_Right.f k bt649.1 bt649.2.1).bind fun t671 => (some t671)))) else (none)) else (none)) else (if (Int.tmod a3 4) = 1 then (if (Int.tmod (wrap64 (a2)) (bt649.2.1.length : Int)) < (y661.length : Int) then (if t647 = true then ((aig_Right.f k bt649.1 (y661.set ((Int.tmod (wrap64 (a2)) (bt649.2.1.length : Int)) : Int).toNat (⟨(rd_T50 bt649.2.1 (Int.tmod (wrap64 (a2)) (bt649.2.1.length : Int))).f1, (rd_T50 bt649.2.1 (Int.tmod (wrap64 (a2)) (bt649.2.1.length : Int))).f0⟩ : S50))).bind fun t673 => (if t673 = true then (none) else ((aig_Right.f k bt649.1 bt649.2.1).bind fun t674 => (some t674)))) else (none)) else (none)) else (if (Int.tmod a3 4) = 2 then (if (Int.tmod (wrap64 (a2)) (bt649.2.1.length : Int)) < (y661.length : Int) then (if t647 = true then ((aig_Right.f k bt649.1 (y661.set ((Int.tmod (wrap64 (a2)) (bt649.2.1.length : Int)) : Int).toNat (⟨(rd_T50 bt649.2.1 (Int.tmod (wrap64 (a2)) (bt649.2.1.length : Int))).f0, wrap64 (2 * (wrap64 ((wrap64 (bt649.1 + 1)) + (Int.tmod (wrap64 (a2)) (bt649.2.1.length : Int)))))⟩ : S50))).bind fun t676 => (if t676 = true then (none) else ((aig_Right.f k bt649.1 bt649.2.1).bind fun t677 => (some t677)))) else (none)) else (none)) else (if (Int.tmod a3 4) = 3 then (if (Int.tmod (wrap64 (a2)) (bt649.2.1.length : Int)) < (y661.length : Int) then (if t647 = true then ((aig_Right.f k bt649.1 (y661.set ((Int.tmod (wrap64 (a2)) (bt649.2.1.length : Int)) : Int).toNat (⟨1, (rd_T50 bt649.2.1 (Int.tmod (wrap64 (a2)) (bt649.2.1.length : Int))).f1⟩ : S50))).bind fun t679 => (if t679 = true then (none) else ((aig_Right.f k bt649.1 bt649.2.1).bind fun t680 => (some t680)))) else (none)) else (none)) else (none))))) else (none)) else (none))) else (none)))))) = some r := H
 have A6 := aM_37 A60
 clear A60
 by_cases c7 : t648 = true
 ·subst c7
  have H1 : (some t647) = some r := by rw [if_pos rfl] at H; exact H
  clear H
  have H := H1
  clear H1
  obtain rfl := Option.some.inj H
  go_enter Try.func8, Try.ntmps8
  go_wp2_with (first | ((with_reducible refine gate_callee (f := 10) rfl ?_); refine goesL_ (some 15) rfl rfl Try.func10 (by kernel_rfl) rfl #[] rfl (by (try simp only [List.map_toArray, List.map_cons, List.map_nil]); first | done | rfl | (simp only [List.length_drop, List.length_take]; rfl)) ?_; (with_reducible refine (proofmarklaw13_head.calls k  t647 _ A5.out).mono ?_); rintro e w8 ⟨rfl, hb⟩; refine ⟨_, rfl, ?_⟩; have n0_ := aM_37 (b9_37 (by repeat (first | (with_reducible first | exact HB.out | apply b8_37 | apply b6_37 | apply b7_37) | exact HB.out)) hb); clear HB; have HB := n0_; clear n0_; (try clear hb); (try clear hb2); (try clear hk); (try clear hi)) | ((with_reducible refine gate_callee (f := 11) rfl ?_); refine goesL_ (some 17) rfl rfl Try.func11 (by kernel_rfl) rfl #[.slice A1 l1.length c1] rfl (by (try simp only [List.map_toArray, List.map_cons, List.map_nil]); first | done | rfl | (simp only [List.length_drop, List.length_take]; rfl)) ?_; (with_reducible refine (proofmarklaw13_Great.calls _ _ l1 true _ ?side1 ?side2 A6.out).mono ?_); (case side1 => repeat (first | exact (Kd.C_below HR1.out HB.out) | (with_reducible refine c3_37 ?_ _) | (with_reducible refine c4_37 ?_ _) | (with_reducible refine c5_37 ?_))); (case side2 => exact HC1.out); rintro e w' ⟨rfl, ⟨nd, rfl⟩⟩; refine ⟨_, rfl, ?_⟩))
  go_ret
  exact ⟨by first | rfl | (simp [errW_none, errW_some] <;> rfl) | (simp [*, errW_none, errW_some] <;> rfl), by repeat (first | (with_reducible first | exact HB.out | apply b8_37 | apply b6_37 | apply b7_37) | exact HB.out)⟩
 ·replace c7 := Bool.eq_false_iff.mpr c7
  subst c7
  have H1 : ((proofmarklaw13_Made.f k a0 l1).bind fun bt649 => (if (bt649.2.1.length : Int) = 0 then (if t647 = true then ((aig_Right.f k bt649.1 bt649.2.1).bind fun t657 => (some t657)) else (none)) else ((some (([] : List (S50)) : List (S50))).bind fun y658 => (if y658.length + bt649.2.1.length < 8796093022208 then ((some (y658 ++ bt649.2.1 : List (S50))).bind fun y661 => (if 0 ≤ (Int.tmod (wrap64 (a2)) (bt649.2.1.length : Int)) then (if (Int.tmod (wrap64 (a2)) (bt649.2.1.length : Int)) < (bt649.2.1.length : Int) then (if (Int.tmod a3 4) = 0 then (if y661.length < 8796093022208 then (if t647 = true then ((aig_Right.f k bt649.1 (y661 ++ [(⟨(rd_T50 bt649.2.1 (Int.tmod (wrap64 (a2)) (bt649.2.1.length : Int))).f0, (rd_T50 bt649.2.1 (Int.tmod (wrap64 (a2)) (bt649.2.1.length : Int))).f1⟩ : S50)])).bind fun t670 => (if t670 = true then (none) else ((aig_Right.f k bt649.1 bt649.2.1).bind fun t671 => (some t671)))) else (none)) else (none)) else (if (Int.tmod a3 4) = 1 then (if (Int.tmod (wrap64 (a2)) (bt649.2.1.length : Int)) < (y661.length : Int) then (if t647 = true then ((aig_Right.f k bt649.1 (y661.set ((Int.tmod (wrap64 (a2)) (bt649.2.1.length : Int)) : Int).toNat (⟨(rd_T50 bt649.2.1 (Int.tmod (wrap64 (a2)) (bt649.2.1.length : Int))).f1, (rd_T50 bt649.2.1 (Int.tmod (wrap64 (a2)) (bt649.2.1.length : Int))).f0⟩ : S50))).bind fun t673 => (if t673 = true then (none) else ((aig_Right.f k bt649.1 bt649.2.1).bind fun t674 => (some t674)))) else (none)) else (none)) else (if (Int.tmod a3 4) = 2 then (if (Int.tmod (wrap64 (a2)) (bt649.2.1.length : Int)) < (y661.length : Int) then (if t647 = true then ((aig_Right.f k bt649.1 (y661.set ((Int.tmod (wrap64 (a2)) (bt649.2.1.length : Int)) : Int).toNat (⟨(rd_T50 bt649.2.1 (Int.tmod (wrap64 (a2)) (bt649.2.1.length : Int))).f0, wrap64 (2 * (wrap64 ((wrap64 (bt649.1 + 1)) + (Int.tmod (wrap64 (a2)) (bt649.2.1.length : Int)))))⟩ : S50))).bind fun t676 => (if t676 = true then (none) else ((aig_Right.f k bt649.1 bt649.2.1).bind fun t677 => (some t677)))) else (none)) else (none)) else (if (Int.tmod a3 4) = 3 then (if (Int.tmod (wrap64 (a2)) (bt649.2.1.length : Int)) < (y661.length : Int) then (if t647 = true then ((aig_Right.f k bt649.1 (y661.set ((Int.tmod (wrap64 (a2)) (bt649.2.1.length : Int)) : Int).toNat (⟨1, (rd_T50 bt649.2.1 (Int.tmod (wrap64 (a2)) (bt649.2.1.length : Int))).f1⟩ : S50))).bind fun t679 => (if t679 = true then (none) else ((aig_Right.f k bt649.1 bt649.2.1).bind fun t680 => (some t680)))) else (none)) else (none)) else (none))))) else (none)) else (none))) else (none))))) = some r := by rw [if_neg (show ¬ (false = true) by decide)] at H; exact H
  clear H
  have H := H1
  clear H1
  replace H := Option.bind_eq_some_iff.mp H
  obtain ⟨⟨t649, t650, t653⟩, A90, H⟩ := H
  replace H : (if (t650.length : Int) = 0 then (if t647 = true then ((aig_Right.f k t649 t650).bind fun t657 => (some t657)) else (none)) else ((some (([] : List (S50)) : List (S50))).bind fun y658 => (if y658.length + t650.length < 8796093022208 then ((some (y658 ++ t650 : List (S50))).bind fun y661 => (if 0 ≤ (Int.tmod (wrap64 (a2)) (t650.length : Int)) then (if (Int.tmod (wrap64 (a2)) (t650.length : Int)) < (t650.length : Int) then (if (Int.tmod a3 4) = 0 then (if y661.length < 8796093022208 then (if t647 = true then ((aig_Right.f k t649 (y661 ++ [(⟨(rd_T50 t650 (Int.tmod (wrap64 (a2)) (t650.length : Int))).f0, (rd_T50 t650 (Int.tmod (wrap64 (a2)) (t650.length : Int))).f1⟩ : S50)])).bind fun t670 => (if t670 = true then (none) else ((aig_Right.f k t649 t650).bind fun t671 => (some t671)))) else (none)) else (none)) else (if (Int.tmod a3 4) = 1 then (if (Int.tmod (wrap64 (a2)) (t650.length : Int)) < (y661.length : Int) then (if t647 = true then ((aig_Right.f k t649 (y661.set ((Int.tmod (wrap64 (a2)) (t650.length : Int)) : Int).toNat (⟨(rd_T50 t650 (Int.tmod (wrap64 (a2)) (t650.length : Int))).f1, (rd_T50 t650 (Int.tmod (wrap64 (a2)) (t650.length : Int))).f0⟩ : S50))).bind fun t673 => (if t673 = true then (none) else ((aig_Right.f k t649 t650).bind fun t674 => (some t674)))) else (none)) else (none)) else (if (Int.tmod a3 4) = 2 then (if (Int.tmod (wrap64 (a2)) (t650.length : Int)) < (y661.length : Int) then (if t647 = true then ((aig_Right.f k t649 (y661.set ((Int.tmod (wrap64 (a2)) (t650.length : Int)) : Int).toNat (⟨(rd_T50 t650 (Int.tmod (wrap64 (a2)) (t650.length : Int))).f0, wrap64 (2 * (wrap64 ((wrap64 (t649 + 1)) + (Int.tmod (wrap64 (a2)) (t650.length : Int)))))⟩ : S50))).bind fun t676 => (if t676 = true then (none) else ((aig_Right.f k t649 t650).bind fun t677 => (some t677)))) else (none)) else (none)) else (if (Int.tmod a3 4) = 3 then (if (Int.tmod (wrap64 (a2)) (t650.length : Int)) < (y661.length : Int) then (if t647 = true then ((aig_Right.f k t649 (y661.set ((Int.tmod (wrap64 (a2)) (t650.length : Int)) : Int).toNat (⟨1, (rd_T50 t650 (Int.tmod (wrap64 (a2)) (t650.length : Int))).f1⟩ : S50))).bind fun t679 => (if t679 = true then (none) else ((aig_Right.f k t649 t650).bind fun t680 => (some t680)))) else (none)) else (none)) else (none))))) else (none)) else (none))) else (none)))) = some r := H
  have A9 := aM_37 A90
  clear A90
  by_cases c10 : (t650.length : Int) = 0
  ·rw [if_pos c10] at H
   have c10b0 : ((t650.length : Int) == 0) = true := beq_iff_eq.mpr c10
   have c10b1 : ((t650.length : Int) != 0) = false := bne_eq_false_iff_eq.mpr c10
   clear c10
   by_cases c11 : t647 = true
   ·subst c11
    have H1 : ((aig_Right.f k t649 t650).bind fun t657 => (some t657)) = some r := by rw [if_pos rfl] at H; exact H
    clear H
    have H := H1
    clear H1
    replace H := Option.bind_eq_some_iff.mp H
    obtain ⟨t657, A120, H⟩ := H
    replace H : (some t657) = some r := H
    have A12 := aM_37 A120
    clear A120
    obtain rfl := Option.some.inj H
    go_enter Try.func8, Try.ntmps8
    go_wp2_with (first | ((with_reducible refine gate_callee (f := 10) rfl ?_); refine goesL_ (some 15) rfl rfl Try.func10 (by kernel_rfl) rfl #[] rfl (by (try simp only [List.map_toArray, List.map_cons, List.map_nil]); first | done | rfl | (simp only [List.length_drop, List.length_take]; rfl)) ?_; (with_reducible refine (proofmarklaw13_head.calls k  true _ A5.out).mono ?_); rintro e w13 ⟨rfl, hb⟩; refine ⟨_, rfl, ?_⟩; have n0_ := aM_37 (b9_37 (by repeat (first | (with_reducible first | exact HB.out | apply b8_37 | apply b6_37 | apply b7_37) | exact HB.out)) hb); clear HB; have HB := n0_; clear n0_; (try clear hb); (try clear hb2); (try clear hk); (try clear hi)) | ((with_reducible refine gate_callee (f := 11) rfl ?_); refine goesL_ (some 17) rfl rfl Try.func11 (by kernel_rfl) rfl #[.slice A1 l1.length c1] rfl (by (try simp only [List.map_toArray, List.map_cons, List.map_nil]); first | done | rfl | (simp only [List.length_drop, List.length_take]; rfl)) ?_; (with_reducible refine (proofmarklaw13_Great.calls _ _ l1 false _ ?side1 ?side2 A6.out).mono ?_); (case side1 => repeat (first | exact (Kd.C_below HR1.out HB.out) | (with_reducible refine c3_37 ?_ _) | (with_reducible refine c4_37 ?_ _) | (with_reducible refine c5_37 ?_))); (case side2 => exact HC1.out); rintro e w' ⟨rfl, ⟨nd, rfl⟩⟩; refine ⟨_, rfl, ?_⟩; (try (rw [drewN_self w13]; generalize hq_ : World.drewN w13 _ = w13; have n0_ : Aside0 (Below w.heap.size w w13) := ⟨by rw [← hq_]; exact (by repeat (first | (with_reducible first | exact HB.out | apply b8_37 | apply b6_37 | apply b7_37) | exact HB.out))⟩; clear HB hq_; have HB := n0_; clear n0_))) | ((with_reducible refine gate_callee (f := 14) rfl ?_); refine goesL_ (some 22) rfl rfl Try.func14 (by kernel_rfl) rfl #[.int .u8 a0, .slice A1 l1.length c1] rfl (by (try simp only [List.map_toArray, List.map_cons, List.map_nil]); first | done | rfl | (simp only [List.length_drop, List.length_take]; rfl)) ?_; (with_reducible refine (proofmarklaw13_Made.calls k a0 _ _ l1 t649 t650 t653 _ ?side1 ?side2 A9.out).mono ?_); (case side1 => repeat (first | exact (Kd.C_below HR1.out HB.out) | (with_reducible refine c3_37 ?_ _) | (with_reducible refine c4_37 ?_ _) | (with_reducible refine c5_37 ?_))); (case side2 => exact HC1.out); rintro e w14 ⟨v651, v654, rfl, ho0, ho1, hb⟩; refine ⟨_, rfl, ?_⟩; have n0_ := aM_37 (Kd.V_lower (v4_37 (ok' := fun k_ => some k_ ≠ (v654 : Value).ownBlock) ho0 (fun k_ hk_ => hk_.2)) (b0_37 (by repeat (first | (with_reducible first | exact HB.out | apply b8_37 | apply b6_37 | apply b7_37) | exact HB.out)))); have n1_ := aM_37 (Kd.R_lower (Kd.R_mono (ok' := fun k_ => True) ho1 (fun _ hk_ => trivial)) (b0_37 (by repeat (first | (with_reducible first | exact HB.out | apply b8_37 | apply b6_37 | apply b7_37) | exact HB.out)))); have n2_ := aM_37 (b9_37 (by repeat (first | (with_reducible first | exact HB.out | apply b8_37 | apply b6_37 | apply b7_37) | exact HB.out)) hb); clear HB; have HO652 := n0_; have HO655 := n1_; have HB := n2_; clear n0_ n1_ n2_; (try clear hb); (try clear hb2); (try clear hk); (try clear hi); (try clear ho0); (try clear ho1)) | ((with_reducible refine gate_dst (N := 10) rfl ?_); refine box_event ?hg (N := 10) ?hd (cs := #[.int .i64 0, .slice none 0 0]) (t := 24) ?hr ?_; (case hd => rfl); (case hg => rfl); (case hr => first | (go_simp; done) | (go_simp; rfl)); intro gb656 hg w15 hbox hb; have n0_ := aM_37 (v6_37 (Kd.V_elderB (by (with_reducible repeat (first | apply v1_37 | apply v2_37 | apply v3_37)); exact HO652.out) gb656 (Nat.le_of_eq hg.symm)) hb); have n1_ := aM_37 (r4_37 (by (with_reducible repeat (first | apply r1_37 | apply r2_37 | apply r3_37)); exact HO655.out) hb); have n2_ := aM_37 (b9_37 (by repeat (first | (with_reducible first | exact HB.out | apply b8_37 | apply b6_37 | apply b7_37) | exact HB.out)) hb); have n3_ := aM_37 (hbox); have n4_ := aM_37 ((by rw [hg]; exact (b0_37 (by repeat (first | (with_reducible first | exact HB.out | apply b8_37 | apply b6_37 | apply b7_37) | exact HB.out))) : w.heap.size ≤ gb656)); have n5_ := aM_37 ((by rw [hg]; exact (b0_37 (by repeat (first | (with_reducible first | exact HB.out | apply b8_37 | apply b6_37 | apply b7_37) | exact HB.out))) : w.heap.size ≤ gb656)); clear HO652 HO655 HB; have HO652 := n0_; have HO655 := n1_; have HB := n2_; have BK656 := n3_; have GW656 := n4_; have GE656 := n5_; clear n0_ n1_ n2_ n3_ n4_ n5_; clear hb hbox hg; obtain ⟨hcz16_0, hcz16_1, hfz16_0, hfz16_1⟩ := cells2_37 BK656.out; obtain ⟨Ao17, co17, eo17⟩ := Kd.V_slice HO652.out; subst eo17) | (go_at_call 12; (with_reducible refine (aig_Right.calls k t649 _ _ t650 t657 _ ?side1 ?side2 A12.out).mono ?_); (case side1 => refine (Kd.V_reads' (e := 50) (base := w.heap.size) (ok := fun k_ => (some k_ ≠ (v654 : Value).ownBlock ∧ k_ ≠ gb656)) (n := t650.length) (c := co17) ?_).2.2; exact (by (with_reducible repeat (first | apply v1_37 | apply v2_37 | apply v3_37)); exact (v4_37 (v5_37 (p := ⟨gb656, 1, none⟩) (v5_37 (p := ⟨gb656, 0, none⟩) (v4_37 HO652.out (fun k_ hk => (⟨hk, hk.2⟩ : _ ∧ k_ ≠ gb656))) (fun _ hk => hk.2) (.int .i64 t649)) (fun _ hk => hk.2) (.slice Ao17 t650.length co17)) (fun _ h_ => h_.1)))); (case side2 => exact (Kd.V_reads' HO652.out).2.1); rintro e w18 ⟨rfl, hb⟩; have n0_ := aM_37 (v6_37 (by (with_reducible repeat (first | apply v1_37 | apply v2_37 | apply v3_37)); exact (v4_37 (v5_37 (p := ⟨gb656, 1, none⟩) (v5_37 (p := ⟨gb656, 0, none⟩) (v4_37 HO652.out (fun k_ hk => (⟨hk, hk.2⟩ : _ ∧ k_ ≠ gb656))) (fun _ hk => hk.2) (.int .i64 t649)) (fun _ hk => hk.2) (.slice Ao17 t650.length co17)) (fun _ h_ => h_.1))) hb); have n1_ := aM_37 (r4_37 (by (with_reducible repeat (first | apply r1_37 | apply r2_37 | apply r3_37)); exact (Kd.R_mono (Kd.R_far (p := ⟨gb656, 1, none⟩) (Kd.R_far (p := ⟨gb656, 0, none⟩) (Kd.R_types HO655.out BK656.out (by decide)) (fun _ hk => hk.2) (.int .i64 t649)) (fun _ hk => hk.2) (.slice Ao17 t650.length co17)) (fun _ h_ => h_.1))) hb); have n2_ := aM_37 (b5_37 (g := gb656) (o := .cells #[.int .i64 t649, .slice Ao17 t650.length co17] 24 (0, 0)) (by (with_reducible repeat (first | refine b1_37 ?_ _ | refine b3_37 ?_ | refine b2_37 ?_ _)); refine c1_37 (cs := #[.int .i64 t649, .slice none 0 0]) ?_ 1 _ rfl; (with_reducible repeat (first | refine b1_37 ?_ _ | refine b3_37 ?_ | refine b2_37 ?_ _)); refine c1_37 (cs := #[.int .i64 0, .slice none 0 0]) ?_ 0 _ rfl; (with_reducible repeat (first | refine b1_37 ?_ _ | refine b3_37 ?_ | refine b2_37 ?_ _)); exact BK656.out) hb); have n3_ := aM_37 (b9_37 (by repeat (first | (with_reducible first | exact HB.out | apply b8_37 | apply b6_37 | apply b7_37 | refine b4_37 ?_ GE656.out) | exact HB.out)) hb); clear HO652 HO655 BK656 HB; have HO652 := n0_; have HO655 := n1_; have BK656 := n2_; have HB := n3_; clear n0_ n1_ n2_ n3_; (try clear hb); (try clear hb2); (try clear hk); (try clear hi)))
    go_ret
    exact ⟨by first | rfl | (simp [errW_none, errW_some] <;> rfl) | (simp [*, errW_none, errW_some] <;> rfl), by repeat (first | (with_reducible first | exact HB.out | apply b8_37 | apply b6_37 | apply b7_37 | refine b4_37 ?_ GE656.out) | exact HB.out)⟩
   ·replace c11 := Bool.eq_false_iff.mpr c11
    subst c11
    have H1 : (none) = some r := by rw [if_neg (show ¬ (false = true) by decide)] at H; exact H
    clear H
    have H := H1
    clear H1
    exact absurd H (by simp)
  ·rw [if_neg c10] at H
   have c10b0 : ((t650.length : Int) == 0) = false := beq_eq_false_iff_ne.mpr c10
   have c10b1 : ((t650.length : Int) != 0) = true := bne_iff_ne.mpr c10
   have c10b2 : ¬ (t650 = []) := fun h_ => c10 (by rw [h_]; rfl)
   obtain ⟨y658, hy658⟩ : ∃ y_ : List (S50), y_ = (([] : List (S50))) := ⟨_, rfl⟩
   replace H : (if y658.length + t650.length < 8796093022208 then ((some (y658 ++ t650 : List (S50))).bind fun y661 => (if 0 ≤ (Int.tmod (wrap64 (a2)) (t650.length : Int)) then (if (Int.tmod (wrap64 (a2)) (t650.length : Int)) < (t650.length : Int) then (if (Int.tmod a3 4) = 0 then (if y661.length < 8796093022208 then (if t647 = true then ((aig_Right.f k t649 (y661 ++ [(⟨(rd_T50 t650 (Int.tmod (wrap64 (a2)) (t650.length : Int))).f0, (rd_T50 t650 (Int.tmod (wrap64 (a2)) (t650.length : Int))).f1⟩ : S50)])).bind fun t670 => (if t670 = true then (none) else ((aig_Right.f k t649 t650).bind fun t671 => (some t671)))) else (none)) else (none)) else (if (Int.tmod a3 4) = 1 then (if (Int.tmod (wrap64 (a2)) (t650.length : Int)) < (y661.length : Int) then (if t647 = true then ((aig_Right.f k t649 (y661.set ((Int.tmod (wrap64 (a2)) (t650.length : Int)) : Int).toNat (⟨(rd_T50 t650 (Int.tmod (wrap64 (a2)) (t650.length : Int))).f1, (rd_T50 t650 (Int.tmod (wrap64 (a2)) (t650.length : Int))).f0⟩ : S50))).bind fun t673 => (if t673 = true then (none) else ((aig_Right.f k t649 t650).bind fun t674 => (some t674)))) else (none)) else (none)) else (if (Int.tmod a3 4) = 2 then (if (Int.tmod (wrap64 (a2)) (t650.length : Int)) < (y661.length : Int) then (if t647 = true then ((aig_Right.f k t649 (y661.set ((Int.tmod (wrap64 (a2)) (t650.length : Int)) : Int).toNat (⟨(rd_T50 t650 (Int.tmod (wrap64 (a2)) (t650.length : Int))).f0, wrap64 (2 * (wrap64 ((wrap64 (t649 + 1)) + (Int.tmod (wrap64 (a2)) (t650.length : Int)))))⟩ : S50))).bind fun t676 => (if t676 = true then (none) else ((aig_Right.f k t649 t650).bind fun t677 => (some t677)))) else (none)) else (none)) else (if (Int.tmod a3 4) = 3 then (if (Int.tmod (wrap64 (a2)) (t650.length : Int)) < (y661.length : Int) then (if t647 = true then ((aig_Right.f k t649 (y661.set ((Int.tmod (wrap64 (a2)) (t650.length : Int)) : Int).toNat (⟨1, (rd_T50 t650 (Int.tmod (wrap64 (a2)) (t650.length : Int))).f1⟩ : S50))).bind fun t679 => (if t679 = true then (none) else ((aig_Right.f k t649 t650).bind fun t680 => (some t680)))) else (none)) else (none)) else (none))))) else (none)) else (none))) else (none)) = some r := by first | (rw [hy658]; with_reducible exact H) | (have H2_ := (Option.bind_some _ _).symm.trans H; rw [hy658]; with_reducible exact H2_) | (have H2_ := (Option.bind_some _ _).symm.trans H; with_reducible exact H2_) | with_reducible exact H | (rw [hy658]; exact H) | exact H
   have Ny658 := aM_37 hy658
   clear hy658
   by_cases c19 : y658.length + t650.length < 8796093022208
   ·rw [if_pos c19] at H
    have LMc19 := aM_37 c19
    clear c19
    obtain ⟨y661, hy661⟩ : ∃ y_ : List (S50), y_ = (y658 ++ t650) := ⟨_, rfl⟩
    replace H : (if 0 ≤ (Int.tmod (wrap64 (a2)) (t650.length : Int)) then (if (Int.tmod (wrap64 (a2)) (t650.length : Int)) < (t650.length : Int) then (if (Int.tmod a3 4) = 0 then (if y661.length < 8796093022208 then (if t647 = true then ((aig_Right.f k t649 (y661 ++ [(⟨(rd_T50 t650 (Int.tmod (wrap64 (a2)) (t650.length : Int))).f0, (rd_T50 t650 (Int.tmod (wrap64 (a2)) (t650.length : Int))).f1⟩ : S50)])).bind fun t670 => (if t670 = true then (none) else ((aig_Right.f k t649 t650).bind fun t671 => (some t671)))) else (none)) else (none)) else (if (Int.tmod a3 4) = 1 then (if (Int.tmod (wrap64 (a2)) (t650.length : Int)) < (y661.length : Int) then (if t647 = true then ((aig_Right.f k t649 (y661.set ((Int.tmod (wrap64 (a2)) (t650.length : Int)) : Int).toNat (⟨(rd_T50 t650 (Int.tmod (wrap64 (a2)) (t650.length : Int))).f1, (rd_T50 t650 (Int.tmod (wrap64 (a2)) (t650.length : Int))).f0⟩ : S50))).bind fun t673 => (if t673 = true then (none) else ((aig_Right.f k t649 t650).bind fun t674 => (some t674)))) else (none)) else (none)) else (if (Int.tmod a3 4) = 2 then (if (Int.tmod (wrap64 (a2)) (t650.length : Int)) < (y661.length : Int) then (if t647 = true then ((aig_Right.f k t649 (y661.set ((Int.tmod (wrap64 (a2)) (t650.length : Int)) : Int).toNat (⟨(rd_T50 t650 (Int.tmod (wrap64 (a2)) (t650.length : Int))).f0, wrap64 (2 * (wrap64 ((wrap64 (t649 + 1)) + (Int.tmod (wrap64 (a2)) (t650.length : Int)))))⟩ : S50))).bind fun t676 => (if t676 = true then (none) else ((aig_Right.f k t649 t650).bind fun t677 => (some t677)))) else (none)) else (none)) else (if (Int.tmod a3 4) = 3 then (if (Int.tmod (wrap64 (a2)) (t650.length : Int)) < (y661.length : Int) then (if t647 = true then ((aig_Right.f k t649 (y661.set ((Int.tmod (wrap64 (a2)) (t650.length : Int)) : Int).toNat (⟨1, (rd_T50 t650 (Int.tmod (wrap64 (a2)) (t650.length : Int))).f1⟩ : S50))).bind fun t679 => (if t679 = true then (none) else ((aig_Right.f k t649 t650).bind fun t680 => (some t680)))) else (none)) else (none)) else (none))))) else (none)) else (none)) = some r := by first | (rw [hy661]; with_reducible exact H) | (have H2_ := (Option.bind_some _ _).symm.trans H; rw [hy661]; with_reducible exact H2_) | (have H2_ := (Option.bind_some _ _).symm.trans H; with_reducible exact H2_) | with_reducible exact H | (rw [hy661]; exact H) | exact H
    have Ny661 := aM_37 hy661
    clear hy661
    obtain ⟨ji20, hji20⟩ : ∃ j_ : Int, (Int.tmod (wrap64 (a2)) (t650.length : Int)) = j_ := ⟨_, rfl⟩
    replace H : (if 0 ≤ (ji20) then (if (ji20) < (t650.length : Int) then (if (Int.tmod a3 4) = 0 then (if y661.length < 8796093022208 then (if t647 = true then ((aig_Right.f k t649 (y661 ++ [(⟨(rd_T50 t650 (ji20)).f0, (rd_T50 t650 (ji20)).f1⟩ : S50)])).bind fun t670 => (if t670 = true then (none) else ((aig_Right.f k t649 t650).bind fun t671 => (some t671)))) else (none)) else (none)) else (if (Int.tmod a3 4) = 1 then (if (ji20) < (y661.length : Int) then (if t647 = true then ((aig_Right.f k t649 (y661.set ((ji20) : Int).toNat (⟨(rd_T50 t650 (ji20)).f1, (rd_T50 t650 (ji20)).f0⟩ : S50))).bind fun t673 => (if t673 = true then (none) else ((aig_Right.f k t649 t650).bind fun t674 => (some t674)))) else (none)) else (none)) else (if (Int.tmod a3 4) = 2 then (if (ji20) < (y661.length : Int) then (if t647 = true then ((aig_Right.f k t649 (y661.set ((ji20) : Int).toNat (⟨(rd_T50 t650 (ji20)).f0, wrap64 (2 * (wrap64 ((wrap64 (t649 + 1)) + (ji20))))⟩ : S50))).bind fun t676 => (if t676 = true then (none) else ((aig_Right.f k t649 t650).bind fun t677 => (some t677)))) else (none)) else (none)) else (if (Int.tmod a3 4) = 3 then (if (ji20) < (y661.length : Int) then (if t647 = true then ((aig_Right.f k t649 (y661.set ((ji20) : Int).toNat (⟨1, (rd_T50 t650 (ji20)).f1⟩ : S50))).bind fun t679 => (if t679 = true then (none) else ((aig_Right.f k t649 t650).bind fun t680 => (some t680)))) else (none)) else (none)) else (none))))) else (none)) else (none)) = some r := by first | (rw [hji20] at H; exact H) | (simp only [hji20] at H ⊢; exact H)
    (try rw [hji20] at A5)
    (try rw [hji20] at A6)
    (try rw [hji20] at A9)
    by_cases c21 : 0 ≤ (ji20)
    ·rw [if_pos c21] at H
     have c21b0 : decide (0 ≤ (ji20)) = true := decide_eq_true c21
     clear c21
     by_cases c22 : (ji20) < (t650.length : Int)
     ·rw [if_pos c22] at H
      have c22b0 : decide ((ji20) < (t650.length : Int)) = true := decide_eq_true c22
      clear c22
      by_cases c23 : (Int.tmod a3 4) = 0
      ·rw [if_pos c23] at H
       have c23b0 : ((Int.tmod a3 4) == 0) = true := beq_iff_eq.mpr c23
       have c23b1 : ((Int.tmod a3 4) != 0) = false := bne_eq_false_iff_eq.mpr c23
       clear c23
       by_cases c24 : y661.length < 8796093022208
       ·rw [if_pos c24] at H
        have LMc24 := aM_37 c24
        clear c24
        obtain ⟨y667, hy667⟩ : ∃ y_ : List (S50), y_ = (y661 ++ [(⟨(rd_T50 t650 (ji20)).f0, (rd_T50 t650 (ji20)).f1⟩ : S50)]) := ⟨_, rfl⟩
        replace H : (if t647 = true then ((aig_Right.f k t649 y667).bind fun t670 => (if t670 = true then (none) else ((aig_Right.f k t649 t650).bind fun t671 => (some t671)))) else (none)) = some r := by first | (rw [hy667]; with_reducible exact H) | (have H2_ := (Option.bind_some _ _).symm.trans H; rw [hy667]; with_reducible exact H2_) | (have H2_ := (Option.bind_some _ _).symm.trans H; with_reducible exact H2_) | with_reducible exact H | (rw [hy667]; exact H) | exact H
        have Ny667 := aM_37 hy667
        clear hy667
        by_cases c25 : t647 = true
        ·subst c25
         have H1 : ((aig_Right.f k t649 y667).bind fun t670 => (if t670 = true then (none) else ((aig_Right.f k t649 t650).bind fun t671 => (some t671)))) = some r := by rw [if_pos rfl] at H; exact H
         clear H
         have H := H1
         clear H1
         replace H := Option.bind_eq_some_iff.mp H
         obtain ⟨t670, A260, H⟩ := H
         replace H : (if t670 = true then (none) else ((aig_Right.f k t649 t650).bind fun t671 => (some t671))) = some r := H
         have A26 := aM_37 A260
         clear A260
         by_cases c27 : t670 = true
         ·subst c27
          have H1 : (none) = some r := by rw [if_pos rfl] at H; exact H
          clear H
          have H := H1
          clear H1
          exact absurd H (by simp)
         ·replace c27 := Bool.eq_false_iff.mpr c27
          subst c27
          have H1 : ((aig_Right.f k t649 t650).bind fun t671 => (some t671)) = some r := by rw [if_neg (show ¬ (false = true) by decide)] at H; exact H
          clear H
          have H := H1
          clear H1
          replace H := Option.bind_eq_some_iff.mp H
          obtain ⟨t671, A280, H⟩ := H
          replace H : (some t671) = some r := H
          have A28 := aM_37 A280
          clear A280
          obtain rfl := Option.some.inj H
          go_enter Try.func8, Try.ntmps8
          try go_wp2_with (first | ((with_reducible refine gate_callee (f := 10) rfl ?_); refine goesL_ (some 15) rfl rfl Try.func10 (by kernel_rfl) rfl #[] rfl (by (try simp only [List.map_toArray, List.map_cons, List.map_nil]); first | done | rfl | (simp only [List.length_drop, List.length_take]; rfl)) ?_; (with_reducible refine (proofmarklaw13_head.calls k  true _ A5.out).mono ?_); rintro e w29 ⟨rfl, hb⟩; refine ⟨_, rfl, ?_⟩; have n0_ := aM_37 (b9_37 (by repeat (first | (with_reducible first | exact HB.out | apply b8_37 | apply b6_37 | apply b7_37) | exact HB.out)) hb); clear HB; have HB := n0_; clear n0_; (try clear hb); (try clear hb2); (try clear hk); (try clear hi)) | ((with_reducible refine gate_callee (f := 11) rfl ?_); refine goesL_ (some 17) rfl rfl Try.func11 (by kernel_rfl) rfl #[.slice A1 l1.length c1] rfl (by (try simp only [List.map_toArray, List.map_cons, List.map_nil]); first | done | rfl | (simp only [List.length_drop, List.length_take]; rfl)) ?_; (with_reducible refine (proofmarklaw13_Great.calls _ _ l1 false _ ?side1 ?side2 A6.out).mono ?_); (case side1 => repeat (first | exact (Kd.C_below HR1.out HB.out) | (with_reducible refine c3_37 ?_ _) | (with_reducible refine c4_37 ?_ _) | (with_reducible refine c5_37 ?_))); (case side2 => exact HC1.out); rintro e w' ⟨rfl, ⟨nd, rfl⟩⟩; refine ⟨_, rfl, ?_⟩; (try (rw [drewN_self w29]; generalize hq_ : World.drewN w29 _ = w29; have n0_ : Aside0 (Below w.heap.size w w29) := ⟨by rw [← hq_]; exact (by repeat (first | (with_reducible first | exact HB.out | apply b8_37 | apply b6_37 | apply b7_37) | exact HB.out))⟩; clear HB hq_; have HB := n0_; clear n0_))) | ((with_reducible refine gate_callee (f := 14) rfl ?_); refine goesL_ (some 22) rfl rfl Try.func14 (by kernel_rfl) rfl #[.int .u8 a0, .slice A1 l1.length c1] rfl (by (try simp only [List.map_toArray, List.map_cons, List.map_nil]); first | done | rfl | (simp only [List.length_drop, List.length_take]; rfl)) ?_; (with_reducible refine (proofmarklaw13_Made.calls k a0 _ _ l1 t649 t650 t653 _ ?side1 ?side2 A9.out).mono ?_); (case side1 => repeat (first | exact (Kd.C_below HR1.out HB.out) | (with_reducible refine c3_37 ?_ _) | (with_reducible refine c4_37 ?_ _) | (with_reducible refine c5_37 ?_))); (case side2 => exact HC1.out); rintro e w30 ⟨v651, v654, rfl, ho0, ho1, hb⟩; refine ⟨_, rfl, ?_⟩; have n0_ := aM_37 (Kd.V_lower (v4_37 (ok' := fun k_ => some k_ ≠ (v654 : Value).ownBlock) ho0 (fun k_ hk_ => hk_.2)) (b0_37 (by repeat (first | (with_reducible first | exact HB.out | apply b8_37 | apply b6_37 | apply b7_37) | exact HB.out)))); have n1_ := aM_37 (Kd.R_lower (Kd.R_mono (ok' := fun k_ => True) ho1 (fun _ hk_ => trivial)) (b0_37 (by repeat (first | (with_reducible first | exact HB.out | apply b8_37 | apply b6_37 | apply b7_37) | exact HB.out)))); have n2_ := aM_37 (b9_37 (by repeat (first | (with_reducible first | exact HB.out | apply b8_37 | apply b6_37 | apply b7_37) | exact HB.out)) hb); clear HB; have HO652 := n0_; have HO655 := n1_; have HB := n2_; clear n0_ n1_ n2_; (try clear hb); (try clear hb2); (try clear hk); (try clear hi); (try clear ho0); (try clear ho1)) | ((with_reducible refine gate_dst (N := 10) rfl ?_); refine box_event ?hg (N := 10) ?hd (cs := #[.int .i64 0, .slice none 0 0]) (t := 24) ?hr ?_; (case hd => rfl); (case hg => rfl); (case hr => first | (go_simp; done) | (go_simp; rfl)); intro gb656 hg w31 hbox hb; have n0_ := aM_37 (v6_37 (Kd.V_elderB (by (with_reducible repeat (first | apply v1_37 | apply v2_37 | apply v3_37)); exact HO652.out) gb656 (Nat.le_of_eq hg.symm)) hb); have n1_ := aM_37 (r4_37 (by (with_reducible repeat (first | apply r1_37 | apply r2_37 | apply r3_37)); exact HO655.out) hb); have n2_ := aM_37 (b9_37 (by repeat (first | (with_reducible first | exact HB.out | apply b8_37 | apply b6_37 | apply b7_37) | exact HB.out)) hb); have n3_ := aM_37 (hbox); have n4_ := aM_37 ((by rw [hg]; exact (b0_37 (by repeat (first | (with_reducible first | exact HB.out | apply b8_37 | apply b6_37 | apply b7_37) | exact HB.out))) : w.heap.size ≤ gb656)); have n5_ := aM_37 ((by rw [hg]; exact (b0_37 (by repeat (first | (with_reducible first | exact HB.out | apply b8_37 | apply b6_37 | apply b7_37) | exact HB.out))) : w.heap.size ≤ gb656)); clear HO652 HO655 HB; have HO652 := n0_; have HO655 := n1_; have HB := n2_; have BK656 := n3_; have GW656 := n4_; have GE656 := n5_; clear n0_ n1_ n2_ n3_ n4_ n5_; clear hb hbox hg; obtain ⟨hcz32_0, hcz32_1, hfz32_0, hfz32_1⟩ := cells2_37 BK656.out; obtain ⟨Ao33, co33, eo33⟩ := Kd.V_slice HO652.out; subst eo33))
          have n0_ : Aside0 (Kd.V k50 50 ((w31.setCell ⟨gb656, 0, none⟩ (.int .i64 t649)).setCell ⟨gb656, 1, none⟩ (.slice Ao33 t650.length co33)) w.heap.size (fun k_ => some k_ ≠ (v654 : Value).ownBlock ∧ k_ ≠ gb656) (.slice Ao33 t650.length co33) t650) := ⟨by (with_reducible repeat (first | apply v1_37 | apply v2_37 | apply v3_37)); exact v4_37 (v5_37 (p := ⟨gb656, 1, none⟩) (v5_37 (p := ⟨gb656, 0, none⟩) (v4_37 HO652.out (fun k_ hk => (⟨hk, hk.2⟩ : _ ∧ k_ ≠ gb656))) (fun _ hk => hk.2) (.int .i64 t649)) (fun _ hk => hk.2) (.slice Ao33 t650.length co33)) (fun _ hk => ⟨hk.1.1, hk.1.2⟩)⟩
          have n1_ : Aside0 (Kd.R (Kd.int .i64) 3 ((w31.setCell ⟨gb656, 0, none⟩ (.int .i64 t649)).setCell ⟨gb656, 1, none⟩ (.slice Ao33 t650.length co33)) w.heap.size (fun _ => True) v654 t653) := ⟨by (with_reducible repeat (first | apply r1_37 | apply r2_37 | apply r3_37)); exact Kd.R_mono (Kd.R_far (p := ⟨gb656, 1, none⟩) (Kd.R_far (p := ⟨gb656, 0, none⟩) (Kd.R_types HO655.out BK656.out (by decide)) (fun _ hk => hk.2) (.int .i64 t649)) (fun _ hk => hk.2) (.slice Ao33 t650.length co33)) (fun _ hk => trivial)⟩
          have n2_ : Aside0 (((w31.setCell ⟨gb656, 0, none⟩ (.int .i64 t649)).setCell ⟨gb656, 1, none⟩ (.slice Ao33 t650.length co33)).heap[gb656]? = some (.cells #[.int .i64 t649, .slice Ao33 t650.length co33] 24 (0, 0))) := ⟨by (with_reducible repeat (first | refine b1_37 ?_ _ | refine b3_37 ?_ | refine b2_37 ?_ _)); refine c1_37 (cs := #[.int .i64 t649, .slice none 0 0]) ?_ 1 _ rfl; (with_reducible repeat (first | refine b1_37 ?_ _ | refine b3_37 ?_ | refine b2_37 ?_ _)); refine c1_37 (cs := #[.int .i64 0, .slice none 0 0]) ?_ 0 _ rfl; (with_reducible repeat (first | refine b1_37 ?_ _ | refine b3_37 ?_ | refine b2_37 ?_ _)); exact BK656.out⟩
          have n3_ : Aside0 (Below w.heap.size w ((w31.setCell ⟨gb656, 0, none⟩ (.int .i64 t649)).setCell ⟨gb656, 1, none⟩ (.slice Ao33 t650.length co33))) := ⟨by repeat (first | (with_reducible first | exact HB.out | apply b8_37 | apply b6_37 | apply b7_37 | refine b4_37 ?_ GE656.out) | exact HB.out)⟩
          (try clear HO652)
          (try clear HO655)
          (try clear BK656)
          (try clear HB)
          generalize ((w31.setCell ⟨gb656, 0, none⟩ (.int .i64 t649)).setCell ⟨gb656, 1, none⟩ (.slice Ao33 t650.length co33)) = w34 at n0_ n1_ n2_ n3_ ⊢
          have HO652 := n0_
          have HO655 := n1_
          have BK656 := n2_
          have HB := n3_
          clear n0_ n1_ n2_ n3_
          have n0_ := aM_37 (v3_37 HO652.out)
          have n1_ := aM_37 (r3_37 HO655.out)
          have n2_ := aM_37 (b3_37 BK656.out)
          have n3_ := aM_37 (b7_37 HB.out)
          clear HO652 HO655 BK656 HB
          have HO652 := n0_
          have HO655 := n1_
          have BK656 := n2_
          have HB := n3_
          clear n0_ n1_ n2_ n3_
          refine start_ (n := 9) (S := fun w' => w'.cell? ⟨gb656, 0, none⟩ = some (.int .i64 t649) ∧ w'.cell? ⟨gb656, 1, none⟩ = some (.slice Ao33 t650.length co33)) (ds := []) #[false, false, false, false, false, false, false, false, false] (by kernel_rfl) rfl rfl ⟨(blk_cell BK656.out 0).trans rfl, (blk_cell BK656.out 1).trans rfl⟩ (fun hHeld => ?_); refine with_tabW proofmarklaw13_AigOdd.tab8 proofmarklaw13_AigOdd.bits8 (fun HT_ HW_ => ?_)
          generalize w34.drew = w35 at HO652 HO655 BK656 HB hHeld ⊢
          refine pure_ (i := 0) (N := some 40) (v := ?_) (a' := ?_) #[true, false, false, false, false, false, false, false, false] rfl rfl (any_of HT_.out (by kernel_rfl)) (fun _ _ _ h => h) (Or.inl ⟨by rfl, ?_⟩) ?_ ?_
          rotate_left
          ·intro w'
           go_simp
           with_reducible rfl
          rotate_left
          ·simp only [Act.put, l1_37, l2_37, l3_37, i64_w, i32_w]
           rfl
          refine pure_ (i := 3) (N := some 43) (v := ?_) (a' := ?_) #[true, false, false, true, false, false, false, false, false] rfl rfl (any_of HT_.out (by kernel_rfl)) (fun _ _ _ h => h) (Or.inl ⟨by rfl, ?_⟩) ?_ ?_
          rotate_left
          ·intro w'
           go_simp
           with_reducible rfl
          rotate_left
          ·simp only [Act.put, l1_37, l2_37, l3_37, i64_w, i32_w]
           rfl
          refine take_ (i := 1) (N := some 41) (v := ?_) (a' := ?_) #[true, true, false, true, false, false, false, false, false] rfl rfl (take_ofW HT_.out HW_.out (by kernel_rfl)) (fun _ _ _ h => h) (Or.inl ⟨by rfl, ?_⟩) hHeld ?_ ?_
          rotate_left
          ·rintro w' ⟨s0, s1⟩
           go_simp
           with_reducible rfl
          rotate_left
          ·simp only [Act.put, l1_37, l2_37, l3_37, i64_w, i32_w]
           rfl
          refine take_ (i := 4) (N := some 44) (v := ?_) (a' := ?_) #[true, true, false, true, true, false, false, false, false] rfl rfl (take_ofW HT_.out HW_.out (by kernel_rfl)) (fun _ _ _ h => h) (Or.inl ⟨by rfl, ?_⟩) hHeld ?_ ?_
          rotate_left
          ·rintro w' ⟨s0, s1⟩
           go_simp
           with_reducible rfl
          rotate_left
          ·simp only [Act.put, l1_37, l2_37, l3_37, i64_w, i32_w]
           rfl
          refine join_ (σ := Value × Value × Nat) 1 #[true, true, true, true, true, true, true, true, false] (fun s_ => [(42, s_.1), (45, s_.2.1), (13, .pointer (some ⟨s_.2.2, 0, none⟩)), (46, .agg #[.int .i64 t649, s_.2.1])]) (fun s_ w' => (w'.cell? ⟨gb656, 0, none⟩ = some (.int .i64 t649) ∧ w'.cell? ⟨gb656, 1, none⟩ = some (.slice Ao33 t650.length co33)) ∧ (Kd.V k50 50 w' w.heap.size (fun k_ => some k_ ≠ (v654 : Value).ownBlock ∧ some k_ ≠ (s_.2.1 : Value).ownBlock ∧ k_ ≠ gb656 ∧ k_ ≠ s_.2.2) (.slice Ao33 t650.length co33) t650) ∧ (Kd.R (Kd.int .i64) 3 w' w.heap.size (fun _ => True) v654 t653) ∧ (Kd.R k50 50 w' w.heap.size (fun _ => True) s_.2.1 y661) ∧ (w'.heap[gb656]? = some (.cells #[.int .i64 t649, .slice Ao33 t650.length co33] 24 (0, 0))) ∧ (w'.heap[s_.2.2]? = some (.cells #[.int .i64 0, .slice none 0 0] 24 (0, 0))) ∧ (w.heap.size ≤ s_.2.2) ∧ (w.heap.size ≤ s_.2.2) ∧ (gb656 ≠ s_.2.2) ∧ (s_.2.2 ≠ gb656) ∧ (Below w.heap.size w w')) ?_ ?_
          rotate_left
          ·intro hCont
           refine two_ (i := 2) (j := 7) (Ni := some 42) (Nj := some 13) #[true, true, true, true, true, false, false, false, false] #[true, true, false, true, true, false, false, true, false] rfl rfl rfl rfl (two_of HT_.out (by kernel_rfl)) (by decide) (by decide) (fun K hK => ?_) (fun K hK => ?_)
           ·skip
            refine Kd.R_lit_step k50 _ 50 ?hg (N := 42) ?hd (xs := ([] : List (S50))) (inner := []) (ok := fun _ => True) (okp := fun _ => True) ?hr ?hp (fun _ hk => hk) trivial (Below.refl _ _) (Nat.le_refl _) (by simp) ?_; (case hd => rfl); (case hg => rfl); (case hr => first | (go_simp; done) | (go_simp; rfl)); (case hp => exact (Reps.none _ _))
            intro v659 w36 ho37 hb hg_ hnew_
            clear hg_ hnew_
            (first | rw [← Ny658.out] at ho37 | (simp only [Int.reduceToNat] at ho37; rw [← Ny658.out] at ho37))
            have n0_ := aM_37 (Kd.V_elder' (by (with_reducible repeat (first | apply v1_37 | apply v2_37 | apply v3_37)); exact HO652.out) (Kd.R_base ho37) hb)
            have n1_ := aM_37 (r4_37 (by (with_reducible repeat (first | apply r1_37 | apply r2_37 | apply r3_37)); exact HO655.out) hb)
            have n2_ := aM_37 (Kd.R_lower ho37 (b0_37 (by repeat (first | (with_reducible first | exact HB.out | apply b8_37 | apply b6_37 | apply b7_37 | refine b4_37 ?_ GE656.out) | exact HB.out))))
            have n3_ := aM_37 (b5_37 (by exact BK656.out) hb)
            have n4_ := aM_37 (b9_37 (by repeat (first | (with_reducible first | exact HB.out | apply b8_37 | apply b6_37 | apply b7_37 | refine b4_37 ?_ GE656.out) | exact HB.out)) hb)
            clear HO652 HO655 BK656 HB
            have HO652 := n0_
            have HO655 := n1_
            have HO660 := n2_
            have BK656 := n3_
            have HB := n4_
            clear n0_ n1_ n2_ n3_ n4_
            clear hb ho37
            refine hK.out _ _ ⟨(blk_cell BK656.out 0).trans rfl, (blk_cell BK656.out 1).trans rfl⟩ (fun hHeld => ?_)
            clear hK K
            refine norm_ (a' := ?_) ?_ ?_
            rotate_left
            ·show Act.put _ (some 42) _ = _
             simp only [Act.put, l1_37, l2_37, l3_37, i64_w, i32_w]
             rfl
            refine two_ (i := 5) (j := 7) (Ni := some 45) (Nj := some 13) #[true, true, true, true, true, true, false, false, false] #[true, true, true, true, true, false, false, true, false] rfl rfl rfl rfl (two_of HT_.out (by kernel_rfl)) (by decide) (by decide) (fun K hK => ?_) (fun K hK => ?_)
            ·skip
             refine Kd.R_append_rows_step k50 (w0 := w) w.heap.size (by rfl) (.tmp 42) (.tmp 44) 22 50 (.agg #[(.int .i64 0), (.int .i64 0)]) 16 rfl Try.underlying22 info50 rfl (by decide) (by omega) v659 y658 t650 _ _ _ (fun _ => True) (fun _ => False) rfl rfl ?aO ?aR (fun _ _ h => h) (fun _ h => h.elim) ?aF ?aB ?aS ?aL ?_
             (case aR => repeat (first | exact (Kd.V_reads' HO652.out).2.2 | (with_reducible refine c3_37 ?_ _) | (with_reducible refine c4_37 ?_ _) | (with_reducible refine c5_37 ?_)))
             (case aB => exact (by repeat (first | (with_reducible first | exact HB.out | apply b8_37 | apply b6_37 | apply b7_37 | refine b4_37 ?_ GE656.out) | exact HB.out)))
             (case aF => exact (fun _ _ => trivial))
             (case aO => exact (by (with_reducible repeat (first | apply r1_37 | apply r2_37 | apply r3_37)); exact HO660.out))
             (case aS => exact (b0_37 (by repeat (first | (with_reducible first | exact HB.out | apply b8_37 | apply b6_37 | apply b7_37 | refine b4_37 ?_ GE656.out) | exact HB.out))))
             (case aL => have := LMc19.out; omega)
             intro v662 w38 ho hb hg hat
             rw [← Ny661.out] at ho
             have n0_ := aM_37 (Kd.V_afterv (ok := (fun k_ => some k_ ≠ (v654 : Value).ownBlock ∧ k_ ≠ gb656)) (by (with_reducible repeat (first | apply v1_37 | apply v2_37 | apply v3_37)); exact HO652.out) hg hat)
             have n1_ := aM_37 (Kd.R_over' (by (with_reducible repeat (first | apply r1_37 | apply r2_37 | apply r3_37)); exact HO655.out) (Kd.R_typed (by (with_reducible repeat (first | apply r1_37 | apply r2_37 | apply r3_37)); exact HO660.out)) (by decide) hg)
             have n2_ := aM_37 (blk_grown (g := gb656) (o := .cells #[.int .i64 t649, .slice Ao33 t650.length co33] 24 (0, 0)) (by exact BK656.out) hg (Kd.R_ne HO660.out BK656.out (by decide)))
             have n3_ := aM_37 (hb)
             have n4_ := aM_37 (ho)
             clear HO652 HO655 BK656 HB HO660
             have HO652 := n0_
             have HO655 := n1_
             have BK656 := n2_
             have HB := n3_
             have HO663 := n4_
             clear n0_ n1_ n2_ n3_ n4_
             clear ho hb hg hat
             obtain ⟨Ao39, co39, eo39⟩ := Kd.R_slice HO663.out
             (first | subst eo39 | (injection eo39 with f1_ f2_ f3_; have f4_ := f1_.symm; have f5_ := f3_.symm; clear f1_ f2_ f3_; subst f4_; subst f5_))
             refine hK.out _ _ ⟨(blk_cell BK656.out 0).trans rfl, (blk_cell BK656.out 1).trans rfl⟩ (fun hHeld => ?_)
             clear hK K
             refine norm_ (a' := ?_) ?_ ?_
             rotate_left
             ·show Act.put _ (some 45) _ = _
              simp only [Act.put, l1_37, l2_37, l3_37, i64_w, i32_w]
              rfl
             refine pure_ (i := 6) (N := some 46) (v := ?_) (a' := ?_) #[true, true, true, true, true, true, true, false, false] rfl rfl (any_of HT_.out (by kernel_rfl)) (fun _ _ _ h => h) (Or.inl ⟨by rfl, ?_⟩) ?_ ?_
             rotate_left
             ·intro w'
              go_simp
              with_reducible rfl
             rotate_left
             ·simp only [Act.put, l1_37, l2_37, l3_37, i64_w, i32_w]
              rfl
             refine one_ (i := 7) (N := some 13) #[true, true, true, true, true, true, true, true, false] rfl rfl (one_of HT_.out (by kernel_rfl)) (by decide) (fun K hK => ?_)
             refine box_step ?hg (N := 13) ?hd (cs := #[.int .i64 0, .slice none 0 0]) (t := 24) ?hr ?_; (case hd => rfl); (case hg => rfl); (case hr => first | (go_simp; done) | (go_simp; rfl))
             intro gb664 hg w40 hbox hb
             have n0_ := aM_37 (v6_37 (Kd.V_elderB (by (with_reducible repeat (first | apply v1_37 | apply v2_37 | apply v3_37)); exact HO652.out) gb664 (Nat.le_of_eq hg.symm)) hb)
             have n1_ := aM_37 (r4_37 (by (with_reducible repeat (first | apply r1_37 | apply r2_37 | apply r3_37)); exact HO655.out) hb)
             have n2_ := aM_37 (r4_37 (by (with_reducible repeat (first | apply r1_37 | apply r2_37 | apply r3_37)); exact HO663.out) hb)
             have n3_ := aM_37 (b5_37 (by exact BK656.out) hb)
             have n4_ := aM_37 (b9_37 (by repeat (first | (with_reducible first | exact HB.out | apply b8_37 | apply b6_37 | apply b7_37 | refine b4_37 ?_ GE656.out) | exact HB.out)) hb)
             have n5_ := aM_37 (hbox)
             have n6_ := aM_37 ((by rw [hg]; exact (b0_37 (by repeat (first | (with_reducible first | exact HB.out | apply b8_37 | apply b6_37 | apply b7_37 | refine b4_37 ?_ GE656.out) | exact HB.out))) : w.heap.size ≤ gb664))
             have n7_ := aM_37 ((by rw [hg]; exact (b0_37 (by repeat (first | (with_reducible first | exact HB.out | apply b8_37 | apply b6_37 | apply b7_37 | refine b4_37 ?_ GE656.out) | exact HB.out))) : w.heap.size ≤ gb664))
             have n8_ := aM_37 ((by rw [hg]; exact Nat.ne_of_lt (blk_lt (by exact BK656.out)) : gb656 ≠ gb664))
             have n9_ := aM_37 ((by rw [hg]; exact Nat.ne_of_gt (blk_lt (by exact BK656.out)) : gb664 ≠ gb656))
             clear HO652 HO655 HO663 BK656 HB
             have HO652 := n0_
             have HO655 := n1_
             have HO663 := n2_
             have BK656 := n3_
             have HB := n4_
             have BK664 := n5_
             have GW664 := n6_
             have GE664 := n7_
             have NB656_664 := n8_
             have NB664_656 := n9_
             clear n0_ n1_ n2_ n3_ n4_ n5_ n6_ n7_ n8_ n9_
             clear hb hbox hg
             refine hK.out _ _ ⟨(blk_cell BK656.out 0).trans rfl, (blk_cell BK656.out 1).trans rfl⟩ (fun hHeld => ?_)
             clear hK K
             refine norm_ (a' := ?_) ?_ ?_
             rotate_left
             ·show Act.put _ (some 13) _ = _
              simp only [Act.put, l1_37, l2_37, l3_37, i64_w, i32_w]
              rfl
             exact norm_ (by simp only [putAll, Act.put, l1_37, l2_37, l3_37]) (hCont (v659, .slice Ao39 y661.length co39, gb664) _ ⟨hHeld, (by (with_reducible repeat (first | apply v1_37 | apply v2_37 | apply v3_37)); exact v4_37 HO652.out (fun _ hk => ⟨hk.1.1.1, ⟨hk.1.2, ⟨hk.1.1.2, hk.2⟩⟩⟩)), (by (with_reducible repeat (first | apply r1_37 | apply r2_37 | apply r3_37)); exact HO655.out), (by (with_reducible repeat (first | apply r1_37 | apply r2_37 | apply r3_37)); exact HO663.out), (by exact BK656.out), (by exact BK664.out), GW664.out, GE664.out, NB656_664.out, NB664_656.out, (by repeat (first | (with_reducible first | exact HB.out | apply b8_37 | apply b6_37 | apply b7_37 | refine b4_37 ?_ GE656.out | refine b4_37 ?_ GE664.out) | exact HB.out))⟩)
            ·skip
             refine box_step ?hg (N := 13) ?hd (cs := #[.int .i64 0, .slice none 0 0]) (t := 24) ?hr ?_; (case hd => rfl); (case hg => rfl); (case hr => first | (go_simp; done) | (go_simp; rfl))
             intro gb664 hg w38 hbox hb
             have n0_ := aM_37 (v6_37 (Kd.V_elderB (by (with_reducible repeat (first | apply v1_37 | apply v2_37 | apply v3_37)); exact HO652.out) gb664 (Nat.le_of_eq hg.symm)) hb)
             have n1_ := aM_37 (r4_37 (by (with_reducible repeat (first | apply r1_37 | apply r2_37 | apply r3_37)); exact HO655.out) hb)
             have n2_ := aM_37 (r4_37 (by (with_reducible repeat (first | apply r1_37 | apply r2_37 | apply r3_37)); exact HO660.out) hb)
             have n3_ := aM_37 (b5_37 (by exact BK656.out) hb)
             have n4_ := aM_37 (b9_37 (by repeat (first | (with_reducible first | exact HB.out | apply b8_37 | apply b6_37 | apply b7_37 | refine b4_37 ?_ GE656.out) | exact HB.out)) hb)
             have n5_ := aM_37 (hbox)
             have n6_ := aM_37 ((by rw [hg]; exact (b0_37 (by repeat (first | (with_reducible first | exact HB.out | apply b8_37 | apply b6_37 | apply b7_37 | refine b4_37 ?_ GE656.out) | exact HB.out))) : w.heap.size ≤ gb664))
             have n7_ := aM_37 ((by rw [hg]; exact (b0_37 (by repeat (first | (with_reducible first | exact HB.out | apply b8_37 | apply b6_37 | apply b7_37 | refine b4_37 ?_ GE656.out) | exact HB.out))) : w.heap.size ≤ gb664))
             have n8_ := aM_37 ((by rw [hg]; exact Nat.ne_of_lt (blk_lt (by exact BK656.out)) : gb656 ≠ gb664))
             have n9_ := aM_37 ((by rw [hg]; exact Nat.ne_of_gt (blk_lt (by exact BK656.out)) : gb664 ≠ gb656))
             clear HO652 HO655 HO660 BK656 HB
             have HO652 := n0_
             have HO655 := n1_
             have HO660 := n2_
             have BK656 := n3_
             have HB := n4_
             have BK664 := n5_
             have GW664 := n6_
             have GE664 := n7_
             have NB656_664 := n8_
             have NB664_656 := n9_
             clear n0_ n1_ n2_ n3_ n4_ n5_ n6_ n7_ n8_ n9_
             clear hb hbox hg
             refine hK.out _ _ ⟨(blk_cell BK656.out 0).trans rfl, (blk_cell BK656.out 1).trans rfl⟩ (fun hHeld => ?_)
             clear hK K
             refine norm_ (a' := ?_) ?_ ?_
             rotate_left
             ·show Act.put _ (some 13) _ = _
              simp only [Act.put, l1_37, l2_37, l3_37, i64_w, i32_w]
              rfl
             refine one_ (i := 5) (N := some 45) #[true, true, true, true, true, true, false, true, false] rfl rfl (one_of HT_.out (by kernel_rfl)) (by decide) (fun K hK => ?_)
             refine Kd.R_append_rows_step k50 (w0 := w) w.heap.size (by rfl) (.tmp 42) (.tmp 44) 22 50 (.agg #[(.int .i64 0), (.int .i64 0)]) 16 rfl Try.underlying22 info50 rfl (by decide) (by omega) v659 y658 t650 _ _ _ (fun _ => True) (fun _ => False) rfl rfl ?aO ?aR (fun _ _ h => h) (fun _ h => h.elim) ?aF ?aB ?aS ?aL ?_
             (case aR => repeat (first | exact (Kd.V_reads' HO652.out).2.2 | (with_reducible refine c3_37 ?_ _) | (with_reducible refine c4_37 ?_ _) | (with_reducible refine c5_37 ?_)))
             (case aB => exact (by repeat (first | (with_reducible first | exact HB.out | apply b8_37 | apply b6_37 | apply b7_37 | refine b4_37 ?_ GE656.out | refine b4_37 ?_ GE664.out) | exact HB.out)))
             (case aF => exact (fun _ _ => trivial))
             (case aO => exact (by (with_reducible repeat (first | apply r1_37 | apply r2_37 | apply r3_37)); exact HO660.out))
             (case aS => exact (b0_37 (by repeat (first | (with_reducible first | exact HB.out | apply b8_37 | apply b6_37 | apply b7_37 | refine b4_37 ?_ GE656.out | refine b4_37 ?_ GE664.out) | exact HB.out))))
             (case aL => have := LMc19.out; omega)
             intro v662 w39 ho hb hg hat
             rw [← Ny661.out] at ho
             have n0_ := aM_37 (Kd.V_afterv (ok := (fun k_ => some k_ ≠ (v654 : Value).ownBlock ∧ k_ ≠ gb656 ∧ k_ ≠ gb664)) (by (with_reducible repeat (first | apply v1_37 | apply v2_37 | apply v3_37)); exact v4_37 HO652.out (fun _ hk => ⟨⟨hk.1.1.1, ⟨hk.1.1.2, hk.2⟩⟩, hk.1.2⟩)) hg hat)
             have n1_ := aM_37 (Kd.R_over' (by (with_reducible repeat (first | apply r1_37 | apply r2_37 | apply r3_37)); exact HO655.out) (Kd.R_typed (by (with_reducible repeat (first | apply r1_37 | apply r2_37 | apply r3_37)); exact HO660.out)) (by decide) hg)
             have n2_ := aM_37 (blk_grown (g := gb656) (o := .cells #[.int .i64 t649, .slice Ao33 t650.length co33] 24 (0, 0)) (by exact BK656.out) hg (Kd.R_ne HO660.out BK656.out (by decide)))
             have n3_ := aM_37 (blk_grown (g := gb664) (o := .cells #[.int .i64 0, .slice none 0 0] 24 (0, 0)) (by exact BK664.out) hg (Kd.R_ne HO660.out BK664.out (by decide)))
             have n4_ := aM_37 (hb)
             have n5_ := aM_37 (ho)
             clear HO652 HO655 BK656 BK664 HB HO660
             have HO652 := n0_
             have HO655 := n1_
             have BK656 := n2_
             have BK664 := n3_
             have HB := n4_
             have HO663 := n5_
             clear n0_ n1_ n2_ n3_ n4_ n5_
             clear ho hb hg hat
             obtain ⟨Ao40, co40, eo40⟩ := Kd.R_slice HO663.out
             (first | subst eo40 | (injection eo40 with f1_ f2_ f3_; have f4_ := f1_.symm; have f5_ := f3_.symm; clear f1_ f2_ f3_; subst f4_; subst f5_))
             refine hK.out _ _ ⟨(blk_cell BK656.out 0).trans rfl, (blk_cell BK656.out 1).trans rfl⟩ (fun hHeld => ?_)
             clear hK K
             refine norm_ (a' := ?_) ?_ ?_
             rotate_left
             ·show Act.put _ (some 45) _ = _
              simp only [Act.put, l1_37, l2_37, l3_37, i64_w, i32_w]
              rfl
             refine pure_ (i := 6) (N := some 46) (v := ?_) (a' := ?_) #[true, true, true, true, true, true, true, true, false] rfl rfl (any_of HT_.out (by kernel_rfl)) (fun _ _ _ h => h) (Or.inl ⟨by rfl, ?_⟩) ?_ ?_
             rotate_left
             ·intro w'
              go_simp
              with_reducible rfl
             rotate_left
             ·simp only [Act.put, l1_37, l2_37, l3_37, i64_w, i32_w]
              rfl
             exact norm_ (by simp only [putAll, Act.put, l1_37, l2_37, l3_37]) (hCont (v659, .slice Ao40 y661.length co40, gb664) _ ⟨hHeld, (by (with_reducible repeat (first | apply v1_37 | apply v2_37 | apply v3_37)); exact v4_37 HO652.out (fun _ hk => ⟨hk.1.1, ⟨hk.2, ⟨hk.1.2.1, hk.1.2.2⟩⟩⟩)), (by (with_reducible repeat (first | apply r1_37 | apply r2_37 | apply r3_37)); exact HO655.out), (by (with_reducible repeat (first | apply r1_37 | apply r2_37 | apply r3_37)); exact HO663.out), (by exact BK656.out), (by exact BK664.out), GW664.out, GE664.out, NB656_664.out, NB664_656.out, (by repeat (first | (with_reducible first | exact HB.out | apply b8_37 | apply b6_37 | apply b7_37 | refine b4_37 ?_ GE656.out | refine b4_37 ?_ GE664.out) | exact HB.out))⟩)
           ·skip
            refine box_step ?hg (N := 13) ?hd (cs := #[.int .i64 0, .slice none 0 0]) (t := 24) ?hr ?_; (case hd => rfl); (case hg => rfl); (case hr => first | (go_simp; done) | (go_simp; rfl))
            intro gb664 hg w36 hbox hb
            have n0_ := aM_37 (v6_37 (Kd.V_elderB (by (with_reducible repeat (first | apply v1_37 | apply v2_37 | apply v3_37)); exact HO652.out) gb664 (Nat.le_of_eq hg.symm)) hb)
            have n1_ := aM_37 (r4_37 (by (with_reducible repeat (first | apply r1_37 | apply r2_37 | apply r3_37)); exact HO655.out) hb)
            have n2_ := aM_37 (b5_37 (by exact BK656.out) hb)
            have n3_ := aM_37 (b9_37 (by repeat (first | (with_reducible first | exact HB.out | apply b8_37 | apply b6_37 | apply b7_37 | refine b4_37 ?_ GE656.out) | exact HB.out)) hb)
            have n4_ := aM_37 (hbox)
            have n5_ := aM_37 ((by rw [hg]; exact (b0_37 (by repeat (first | (with_reducible first | exact HB.out | apply b8_37 | apply b6_37 | apply b7_37 | refine b4_37 ?_ GE656.out) | exact HB.out))) : w.heap.size ≤ gb664))
            have n6_ := aM_37 ((by rw [hg]; exact (b0_37 (by repeat (first | (with_reducible first | exact HB.out | apply b8_37 | apply b6_37 | apply b7_37 | refine b4_37 ?_ GE656.out) | exact HB.out))) : w.heap.size ≤ gb664))
            have n7_ := aM_37 ((by rw [hg]; exact Nat.ne_of_lt (blk_lt (by exact BK656.out)) : gb656 ≠ gb664))
            have n8_ := aM_37 ((by rw [hg]; exact Nat.ne_of_gt (blk_lt (by exact BK656.out)) : gb664 ≠ gb656))
            clear HO652 HO655 BK656 HB
            have HO652 := n0_
            have HO655 := n1_
            have BK656 := n2_
            have HB := n3_
            have BK664 := n4_
            have GW664 := n5_
            have GE664 := n6_
            have NB656_664 := n7_
            have NB664_656 := n8_
            clear n0_ n1_ n2_ n3_ n4_ n5_ n6_ n7_ n8_
            clear hb hbox hg
            refine hK.out _ _ ⟨(blk_cell BK656.out 0).trans rfl, (blk_cell BK656.out 1).trans rfl⟩ (fun hHeld => ?_)
            clear hK K
            refine norm_ (a' := ?_) ?_ ?_
            rotate_left
            ·show Act.put _ (some 13) _ = _
             simp only [Act.put, l1_37, l2_37, l3_37, i64_w, i32_w]
             rfl
            refine one_ (i := 2) (N := some 42) #[true, true, true, true, true, false, false, true, false] rfl rfl (one_of HT_.out (by kernel_rfl)) (by decide) (fun K hK => ?_)
            refine Kd.R_lit_step k50 _ 50 ?hg (N := 42) ?hd (xs := ([] : List (S50))) (inner := []) (ok := fun _ => True) (okp := fun _ => True) ?hr ?hp (fun _ hk => hk) trivial (Below.refl _ _) (Nat.le_refl _) (by simp) ?_; (case hd => rfl); (case hg => rfl); (case hr => first | (go_simp; done) | (go_simp; rfl)); (case hp => exact (Reps.none _ _))
            intro v659 w37 ho38 hb hg_ hnew_
            clear hg_ hnew_
            (first | rw [← Ny658.out] at ho38 | (simp only [Int.reduceToNat] at ho38; rw [← Ny658.out] at ho38))
            have n0_ := aM_37 (Kd.V_elder' (by (with_reducible repeat (first | apply v1_37 | apply v2_37 | apply v3_37)); exact HO652.out) (Kd.R_base ho38) hb)
            have n1_ := aM_37 (r4_37 (by (with_reducible repeat (first | apply r1_37 | apply r2_37 | apply r3_37)); exact HO655.out) hb)
            have n2_ := aM_37 (Kd.R_lower ho38 (b0_37 (by repeat (first | (with_reducible first | exact HB.out | apply b8_37 | apply b6_37 | apply b7_37 | refine b4_37 ?_ GE656.out | refine b4_37 ?_ GE664.out) | exact HB.out))))
            have n3_ := aM_37 (b5_37 (by exact BK656.out) hb)
            have n4_ := aM_37 (b5_37 (by exact BK664.out) hb)
            have n5_ := aM_37 (b9_37 (by repeat (first | (with_reducible first | exact HB.out | apply b8_37 | apply b6_37 | apply b7_37 | refine b4_37 ?_ GE656.out | refine b4_37 ?_ GE664.out) | exact HB.out)) hb)
            clear HO652 HO655 BK656 BK664 HB
            have HO652 := n0_
            have HO655 := n1_
            have HO660 := n2_
            have BK656 := n3_
            have BK664 := n4_
            have HB := n5_
            clear n0_ n1_ n2_ n3_ n4_ n5_
            clear hb ho38
            refine hK.out _ _ ⟨(blk_cell BK656.out 0).trans rfl, (blk_cell BK656.out 1).trans rfl⟩ (fun hHeld => ?_)
            clear hK K
            refine norm_ (a' := ?_) ?_ ?_
            rotate_left
            ·show Act.put _ (some 42) _ = _
             simp only [Act.put, l1_37, l2_37, l3_37, i64_w, i32_w]
             rfl
            refine one_ (i := 5) (N := some 45) #[true, true, true, true, true, true, false, true, false] rfl rfl (one_of HT_.out (by kernel_rfl)) (by decide) (fun K hK => ?_)
            refine Kd.R_append_rows_step k50 (w0 := w) w.heap.size (by rfl) (.tmp 42) (.tmp 44) 22 50 (.agg #[(.int .i64 0), (.int .i64 0)]) 16 rfl Try.underlying22 info50 rfl (by decide) (by omega) v659 y658 t650 _ _ _ (fun _ => True) (fun _ => False) rfl rfl ?aO ?aR (fun _ _ h => h) (fun _ h => h.elim) ?aF ?aB ?aS ?aL ?_
            (case aR => repeat (first | exact (Kd.V_reads' HO652.out).2.2 | (with_reducible refine c3_37 ?_ _) | (with_reducible refine c4_37 ?_ _) | (with_reducible refine c5_37 ?_)))
            (case aB => exact (by repeat (first | (with_reducible first | exact HB.out | apply b8_37 | apply b6_37 | apply b7_37 | refine b4_37 ?_ GE656.out | refine b4_37 ?_ GE664.out) | exact HB.out)))
            (case aF => exact (fun _ _ => trivial))
            (case aO => exact (by (with_reducible repeat (first | apply r1_37 | apply r2_37 | apply r3_37)); exact HO660.out))
            (case aS => exact (b0_37 (by repeat (first | (with_reducible first | exact HB.out | apply b8_37 | apply b6_37 | apply b7_37 | refine b4_37 ?_ GE656.out | refine b4_37 ?_ GE664.out) | exact HB.out))))
            (case aL => have := LMc19.out; omega)
            intro v662 w39 ho hb hg hat
            rw [← Ny661.out] at ho
            have n0_ := aM_37 (Kd.V_afterv (ok := (fun k_ => some k_ ≠ (v654 : Value).ownBlock ∧ k_ ≠ gb656 ∧ k_ ≠ gb664)) (by (with_reducible repeat (first | apply v1_37 | apply v2_37 | apply v3_37)); exact v4_37 HO652.out (fun _ hk => ⟨⟨hk.1.1.1, ⟨hk.1.1.2, hk.1.2⟩⟩, hk.2⟩)) hg hat)
            have n1_ := aM_37 (Kd.R_over' (by (with_reducible repeat (first | apply r1_37 | apply r2_37 | apply r3_37)); exact HO655.out) (Kd.R_typed (by (with_reducible repeat (first | apply r1_37 | apply r2_37 | apply r3_37)); exact HO660.out)) (by decide) hg)
            have n2_ := aM_37 (blk_grown (g := gb656) (o := .cells #[.int .i64 t649, .slice Ao33 t650.length co33] 24 (0, 0)) (by exact BK656.out) hg (Kd.R_ne HO660.out BK656.out (by decide)))
            have n3_ := aM_37 (blk_grown (g := gb664) (o := .cells #[.int .i64 0, .slice none 0 0] 24 (0, 0)) (by exact BK664.out) hg (Kd.R_ne HO660.out BK664.out (by decide)))
            have n4_ := aM_37 (hb)
            have n5_ := aM_37 (ho)
            clear HO652 HO655 BK656 BK664 HB HO660
            have HO652 := n0_
            have HO655 := n1_
            have BK656 := n2_
            have BK664 := n3_
            have HB := n4_
            have HO663 := n5_
            clear n0_ n1_ n2_ n3_ n4_ n5_
            clear ho hb hg hat
            obtain ⟨Ao40, co40, eo40⟩ := Kd.R_slice HO663.out
            (first | subst eo40 | (injection eo40 with f1_ f2_ f3_; have f4_ := f1_.symm; have f5_ := f3_.symm; clear f1_ f2_ f3_; subst f4_; subst f5_))
            refine hK.out _ _ ⟨(blk_cell BK656.out 0).trans rfl, (blk_cell BK656.out 1).trans rfl⟩ (fun hHeld => ?_)
            clear hK K
            refine norm_ (a' := ?_) ?_ ?_
            rotate_left
            ·show Act.put _ (some 45) _ = _
             simp only [Act.put, l1_37, l2_37, l3_37, i64_w, i32_w]
             rfl
            refine pure_ (i := 6) (N := some 46) (v := ?_) (a' := ?_) #[true, true, true, true, true, true, true, true, false] rfl rfl (any_of HT_.out (by kernel_rfl)) (fun _ _ _ h => h) (Or.inl ⟨by rfl, ?_⟩) ?_ ?_
            rotate_left
            ·intro w'
             go_simp
             with_reducible rfl
            rotate_left
            ·simp only [Act.put, l1_37, l2_37, l3_37, i64_w, i32_w]
             rfl
            exact norm_ (by simp only [putAll, Act.put, l1_37, l2_37, l3_37]) (hCont (v659, .slice Ao40 y661.length co40, gb664) _ ⟨hHeld, (by (with_reducible repeat (first | apply v1_37 | apply v2_37 | apply v3_37)); exact v4_37 HO652.out (fun _ hk => ⟨hk.1.1, ⟨hk.2, ⟨hk.1.2.1, hk.1.2.2⟩⟩⟩)), (by (with_reducible repeat (first | apply r1_37 | apply r2_37 | apply r3_37)); exact HO655.out), (by (with_reducible repeat (first | apply r1_37 | apply r2_37 | apply r3_37)); exact HO663.out), (by exact BK656.out), (by exact BK664.out), GW664.out, GE664.out, NB656_664.out, NB664_656.out, (by repeat (first | (with_reducible first | exact HB.out | apply b8_37 | apply b6_37 | apply b7_37 | refine b4_37 ?_ GE656.out | refine b4_37 ?_ GE664.out) | exact HB.out))⟩)
          rintro ⟨v659, v662, gb664⟩ w41 ⟨hS_, h0_, h1_, h2_, h3_, h4_, h5_, h6_, h7_, h8_, h9_⟩
          have n0_ : Aside0 (Kd.V k50 50 w41 w.heap.size (fun k_ => some k_ ≠ (v654 : Value).ownBlock ∧ some k_ ≠ (v662 : Value).ownBlock ∧ k_ ≠ gb656 ∧ k_ ≠ gb664) (.slice Ao33 t650.length co33) t650) := ⟨h0_⟩
          have n1_ : Aside0 (Kd.R (Kd.int .i64) 3 w41 w.heap.size (fun _ => True) v654 t653) := ⟨h1_⟩
          have n2_ : Aside0 (Kd.R k50 50 w41 w.heap.size (fun _ => True) v662 y661) := ⟨h2_⟩
          have n3_ : Aside0 (w41.heap[gb656]? = some (.cells #[.int .i64 t649, .slice Ao33 t650.length co33] 24 (0, 0))) := ⟨h3_⟩
          have n4_ : Aside0 (w41.heap[gb664]? = some (.cells #[.int .i64 0, .slice none 0 0] 24 (0, 0))) := ⟨h4_⟩
          have n5_ : Aside0 (w.heap.size ≤ gb664) := ⟨h5_⟩
          have n6_ : Aside0 (w.heap.size ≤ gb664) := ⟨h6_⟩
          have n7_ : Aside0 (gb656 ≠ gb664) := ⟨h7_⟩
          have n8_ : Aside0 (gb664 ≠ gb656) := ⟨h8_⟩
          have n9_ : Aside0 (Below w.heap.size w w41) := ⟨h9_⟩
          clear HO652 HO655 BK656 HB
          clear h0_ h1_ h2_ h3_ h4_ h5_ h6_ h7_ h8_ h9_
          have HO652 := n0_
          have HO655 := n1_
          have HO663 := n2_
          have BK656 := n3_
          have BK664 := n4_
          have GW664 := n5_
          have GE664 := n6_
          have NB656_664 := n7_
          have NB664_656 := n8_
          have HB := n9_
          clear n0_ n1_ n2_ n3_ n4_ n5_ n6_ n7_ n8_ n9_
          have hHeld : w41.cell? ⟨gb656, 0, none⟩ = some (.int .i64 t649) ∧ w41.cell? ⟨gb656, 1, none⟩ = some (.slice Ao33 t650.length co33) := hS_
          obtain ⟨Ao42, co42, eo42⟩ := Kd.R_slice HO663.out
          (first | subst eo42 | (injection eo42 with f1_ f2_ f3_; have f4_ := f1_.symm; have f5_ := f3_.symm; clear f1_ f2_ f3_; subst f4_; subst f5_))
          refine norm_ (a' := ?_) ?_ ?_
          rotate_left
          ·simp only [putAll, Act.put, l1_37, l2_37, l3_37]
           rfl
          refine one_ (i := 8) (N := none) #[true, true, true, true, true, true, true, true, true] rfl rfl (one_of HT_.out (by kernel_rfl)) (by decide) (fun K hK => ?_)
          have hs43 : w41.cell? ⟨gb664, 0, none⟩ = some (.int .i64 0) := (blk_cell BK664.out 0).trans rfl
          have hfs43 := blk_frozen BK664.out 0
          have hns43_0 := NB656_664.out
          have hms43_0 := NB664_656.out
          have hs44 : w41.cell? ⟨gb664, 1, none⟩ = some (.slice none 0 0) := (blk_cell BK664.out 1).trans rfl
          have hfs44 := blk_frozen BK664.out 1
          have hns44_0 := NB656_664.out
          have hms44_0 := NB664_656.out
          refine skip_ (w1 := ?_) (by rfl) rfl ?_ ?_
          rotate_left
          ·go_simp
           rfl
          refine hK.out _ _ ⟨((cell_far (p := ⟨gb664, _, none⟩) NB656_664.out _).trans (((cell_far (p := ⟨gb664, _, none⟩) NB656_664.out _).trans (hHeld.1)))), ((cell_far (p := ⟨gb664, _, none⟩) NB656_664.out _).trans (((cell_far (p := ⟨gb664, _, none⟩) NB656_664.out _).trans (hHeld.2))))⟩ (fun hHeld => ?_)
          clear hK K
          refine done_ (done_of HT_.out (by kernel_rfl)) ?_
          have hnb45 := NB656_664.out
          have hnc45 := NB664_656.out
          obtain ⟨hcz46_0, hcz46_1, hfz46_0, hfz46_1⟩ := cells2_37 BK656.out
          have p665 : 0 ≤ ((ji20) : Int) := of_decide_eq_true (by first | (with_reducible assumption) | assumption)
          have q665 : (ji20) < (t650.length : Int) := of_decide_eq_true (by first | (with_reducible assumption) | assumption)
          obtain ⟨ad665, e665, hx665_0, hx665_1⟩ := at_T50 (Kd.V_reads' HO652.out).2.2 (ji20) p665 q665
          cases e665
          have hn665_0 : ad665.block ≠ gb664 := (by have z_ := V_okb HO652.out z50 (ji20) p665 q665 (by decide); first | exact z_.2.2.2 | exact z_.2.2.1 | exact z_.2.1 | exact z_.2.2 | exact z_.2 | exact z_.1)
          have hn665_1 : ad665.block ≠ gb664 := (by have z_ := V_okb HO652.out z50 (ji20) p665 q665 (by decide); first | exact z_.2.2.2 | exact z_.2.2.1 | exact z_.2.1 | exact z_.2.2 | exact z_.2 | exact z_.1)
          replace hx665_0 := (cell_far (p := ⟨gb664, 0, none⟩) (by first | (rw [add_block]; exact hn665_0) | (show (Addr.add _ _).block ≠ _; rw [add_block]; exact hn665_0) | exact hn665_0) (.int .i64 t649)).trans hx665_0
          replace hx665_1 := (cell_far (p := ⟨gb664, 0, none⟩) (by first | (rw [add_block]; exact hn665_0) | (show (Addr.add _ _).block ≠ _; rw [add_block]; exact hn665_0) | exact hn665_0) (.int .i64 t649)).trans hx665_1
          replace hx665_0 := (cell_far (p := ⟨gb664, 1, none⟩) (by first | (rw [add_block]; exact hn665_1) | (show (Addr.add _ _).block ≠ _; rw [add_block]; exact hn665_1) | exact hn665_1) (.slice Ao42 y661.length co42)).trans hx665_0
          replace hx665_1 := (cell_far (p := ⟨gb664, 1, none⟩) (by first | (rw [add_block]; exact hn665_1) | (show (Addr.add _ _).block ≠ _; rw [add_block]; exact hn665_1) | exact hn665_1) (.slice Ao42 y661.length co42)).trans hx665_1
          clear hn665_0 hn665_1
          replace p665 := eq_true p665
          replace q665 := eq_true q665
          try go_wp2_with (first | ((with_reducible refine gate_dst (N := 14) rfl ?_); refine box_event ?hg (N := 14) ?hd (cs := #[.int .i64 0, .int .i64 0]) (t := 50) ?hr ?_; (case hd => rfl); (case hg => rfl); (case hr => first | (go_simp; done) | (go_simp; rfl)); intro gb666 hg w47 hbox hb; have n0_ := aM_37 (v6_37 (Kd.V_elderB (by (with_reducible repeat (first | apply v1_37 | apply v2_37 | apply v3_37)); exact (v4_37 (v5_37 (p := ⟨gb664, 1, none⟩) (v5_37 (p := ⟨gb664, 0, none⟩) (v4_37 HO652.out (fun k_ hk => (⟨hk, hk.2.2.2⟩ : _ ∧ k_ ≠ gb664))) (fun _ hk => hk.2) (.int .i64 t649)) (fun _ hk => hk.2) (.slice Ao42 y661.length co42)) (fun _ h_ => h_.1))) gb666 (Nat.le_of_eq hg.symm)) hb); have n1_ := aM_37 (r4_37 (by (with_reducible repeat (first | apply r1_37 | apply r2_37 | apply r3_37)); exact (Kd.R_mono (Kd.R_far (p := ⟨gb664, 1, none⟩) (Kd.R_far (p := ⟨gb664, 0, none⟩) (Kd.R_types HO655.out BK664.out (by decide)) (fun _ hk => hk.2) (.int .i64 t649)) (fun _ hk => hk.2) (.slice Ao42 y661.length co42)) (fun _ h_ => h_.1))) hb); have n2_ := aM_37 (r4_37 (Kd.R_elderB (by (with_reducible repeat (first | apply r1_37 | apply r2_37 | apply r3_37)); exact (Kd.R_mono (Kd.R_far (p := ⟨gb664, 1, none⟩) (Kd.R_far (p := ⟨gb664, 0, none⟩) (Kd.R_types HO663.out BK664.out (by decide)) (fun _ hk => hk.2) (.int .i64 t649)) (fun _ hk => hk.2) (.slice Ao42 y661.length co42)) (fun _ h_ => h_.1))) gb666 (Nat.le_of_eq hg.symm)) hb); have n3_ := aM_37 (b5_37 (g := gb656) (o := .cells #[.int .i64 t649, .slice (some ad665) t650.length co33] 24 (0, 0)) (by (with_reducible repeat (first | refine b1_37 ?_ _ | refine b3_37 ?_ | refine b2_37 ?_ _)); refine c2_37 ?_ NB656_664.out _; (with_reducible repeat (first | refine b1_37 ?_ _ | refine b3_37 ?_ | refine b2_37 ?_ _)); refine c2_37 ?_ NB656_664.out _; (with_reducible repeat (first | refine b1_37 ?_ _ | refine b3_37 ?_ | refine b2_37 ?_ _)); exact BK656.out) hb); have n4_ := aM_37 (b5_37 (g := gb664) (o := .cells #[.int .i64 t649, .slice Ao42 y661.length co42] 24 (0, 0)) (by (with_reducible repeat (first | refine b1_37 ?_ _ | refine b3_37 ?_ | refine b2_37 ?_ _)); refine c1_37 (cs := #[.int .i64 t649, .slice none 0 0]) ?_ 1 _ rfl; (with_reducible repeat (first | refine b1_37 ?_ _ | refine b3_37 ?_ | refine b2_37 ?_ _)); refine c1_37 (cs := #[.int .i64 0, .slice none 0 0]) ?_ 0 _ rfl; (with_reducible repeat (first | refine b1_37 ?_ _ | refine b3_37 ?_ | refine b2_37 ?_ _)); exact BK664.out) hb); have n5_ := aM_37 (b9_37 (by repeat (first | (with_reducible first | exact HB.out | apply b8_37 | apply b6_37 | apply b7_37 | refine b4_37 ?_ GE656.out | refine b4_37 ?_ GE664.out) | exact HB.out)) hb); have n6_ := aM_37 (hbox); have n7_ := aM_37 ((by rw [hg]; exact (b0_37 (by repeat (first | (with_reducible first | exact HB.out | apply b8_37 | apply b6_37 | apply b7_37 | refine b4_37 ?_ GE656.out | refine b4_37 ?_ GE664.out) | exact HB.out))) : w.heap.size ≤ gb666)); have n8_ := aM_37 ((by rw [hg]; exact (b0_37 (by repeat (first | (with_reducible first | exact HB.out | apply b8_37 | apply b6_37 | apply b7_37 | refine b4_37 ?_ GE656.out | refine b4_37 ?_ GE664.out) | exact HB.out))) : w.heap.size ≤ gb666)); have n9_ := aM_37 ((by rw [hg]; exact Nat.ne_of_lt (blk_lt (g := gb656) (o := .cells #[.int .i64 t649, .slice (some ad665) t650.length co33] 24 (0, 0)) (by (with_reducible repeat (first | refine b1_37 ?_ _ | refine b3_37 ?_ | refine b2_37 ?_ _)); refine c2_37 ?_ NB656_664.out _; (with_reducible repeat (first | refine b1_37 ?_ _ | refine b3_37 ?_ | refine b2_37 ?_ _)); refine c2_37 ?_ NB656_664.out _; (with_reducible repeat (first | refine b1_37 ?_ _ | refine b3_37 ?_ | refine b2_37 ?_ _)); exact BK656.out)) : gb656 ≠ gb666)); have n10_ := aM_37 ((by rw [hg]; exact Nat.ne_of_gt (blk_lt (g := gb656) (o := .cells #[.int .i64 t649, .slice (some ad665) t650.length co33] 24 (0, 0)) (by (with_reducible repeat (first | refine b1_37 ?_ _ | refine b3_37 ?_ | refine b2_37 ?_ _)); refine c2_37 ?_ NB656_664.out _; (with_reducible repeat (first | refine b1_37 ?_ _ | refine b3_37 ?_ | refine b2_37 ?_ _)); refine c2_37 ?_ NB656_664.out _; (with_reducible repeat (first | refine b1_37 ?_ _ | refine b3_37 ?_ | refine b2_37 ?_ _)); exact BK656.out)) : gb666 ≠ gb656)); have n11_ := aM_37 ((by rw [hg]; exact Nat.ne_of_lt (blk_lt (g := gb664) (o := .cells #[.int .i64 t649, .slice Ao42 y661.length co42] 24 (0, 0)) (by (with_reducible repeat (first | refine b1_37 ?_ _ | refine b3_37 ?_ | refine b2_37 ?_ _)); refine c1_37 (cs := #[.int .i64 t649, .slice none 0 0]) ?_ 1 _ rfl; (with_reducible repeat (first | refine b1_37 ?_ _ | refine b3_37 ?_ | refine b2_37 ?_ _)); refine c1_37 (cs := #[.int .i64 0, .slice none 0 0]) ?_ 0 _ rfl; (with_reducible repeat (first | refine b1_37 ?_ _ | refine b3_37 ?_ | refine b2_37 ?_ _)); exact BK664.out)) : gb664 ≠ gb666)); have n12_ := aM_37 ((by rw [hg]; exact Nat.ne_of_gt (blk_lt (g := gb664) (o := .cells #[.int .i64 t649, .slice Ao42 y661.length co42] 24 (0, 0)) (by (with_reducible repeat (first | refine b1_37 ?_ _ | refine b3_37 ?_ | refine b2_37 ?_ _)); refine c1_37 (cs := #[.int .i64 t649, .slice none 0 0]) ?_ 1 _ rfl; (with_reducible repeat (first | refine b1_37 ?_ _ | refine b3_37 ?_ | refine b2_37 ?_ _)); refine c1_37 (cs := #[.int .i64 0, .slice none 0 0]) ?_ 0 _ rfl; (with_reducible repeat (first | refine b1_37 ?_ _ | refine b3_37 ?_ | refine b2_37 ?_ _)); exact BK664.out)) : gb666 ≠ gb664)); clear HO652 HO655 HO663 BK656 BK664 HB; have HO652 := n0_; have HO655 := n1_; have HO663 := n2_; have BK656 := n3_; have BK664 := n4_; have HB := n5_; have BK666 := n6_; have GW666 := n7_; have GE666 := n8_; have NB656_666 := n9_; have NB666_656 := n10_; have NB664_666 := n11_; have NB666_664 := n12_; clear n0_ n1_ n2_ n3_ n4_ n5_ n6_ n7_ n8_ n9_ n10_ n11_ n12_; clear hb hbox hg; have hnb48 := NB666_656.out; have hnc48 := NB656_666.out; have hnb49 := NB666_664.out; have hnc49 := NB664_666.out; obtain ⟨hcz50_0, hcz50_1, hfz50_0, hfz50_1⟩ := cells2_37 BK666.out; obtain ⟨hcz51_0, hcz51_1, hfz51_0, hfz51_1⟩ := cells2_37 BK664.out) | ((with_reducible refine gate_builtin (b := .append) (xs := #[.tmp 57, .tmp 59]) rfl ?_); at_builtin; refine Kd.R_append k50 (w0 := w) w.heap.size rfl (.tmp 57) (.tmp 59) 22 50 (.agg #[(.int .i64 0), (.int .i64 0)]) 16 rfl Try.underlying22 info50 rfl (by decide) (by omega) (.slice Ao42 y661.length co42) y661 (⟨(rd_T50 t650 (ji20)).f0, (rd_T50 t650 (ji20)).f1⟩ : S50) [.int .i64 ((rd_T50 t650 (ji20)).f0), .int .i64 ((rd_T50 t650 (ji20)).f1)] (fun k_ => k_ ≠ gb666) (fun _ => False) rfl (by first | (go_simp; done) | (go_simp; rfl)) ?aP (fun _ hk => hk.elim) ?aF ?aO ?aB ?aS ?aL ?_; (case aP => exact k50_mkM _ _ _ (⟨(rd_T50 t650 (ji20)).f0, (rd_T50 t650 (ji20)).f1⟩ : S50)); (case aB => exact (by repeat (first | (with_reducible first | exact HB.out | apply b8_37 | apply b6_37 | apply b7_37 | refine b4_37 ?_ GE656.out | refine b4_37 ?_ GE664.out | refine b4_37 ?_ GE666.out) | exact HB.out))); (case aF => exact (fun k_ hk => Kd.freshB (g := gb666) (o := .cells #[.int .i64 ((rd_T50 t650 (ji20)).f0), .int .i64 ((rd_T50 t650 (ji20)).f1)] 50 (0, 0)) (by (with_reducible repeat (first | refine b1_37 ?_ _ | refine b3_37 ?_ | refine b2_37 ?_ _)); refine c1_37 (cs := #[.int .i64 ((rd_T50 t650 (ji20)).f0), .int .i64 0]) ?_ 1 _ rfl; (with_reducible repeat (first | refine b1_37 ?_ _ | refine b3_37 ?_ | refine b2_37 ?_ _)); refine c1_37 (cs := #[.int .i64 0, .int .i64 0]) ?_ 0 _ rfl; (with_reducible repeat (first | refine b1_37 ?_ _ | refine b3_37 ?_ | refine b2_37 ?_ _)); exact BK666.out) k_ hk)); (case aO => exact (by (with_reducible repeat (first | apply r1_37 | apply r2_37 | apply r3_37)); exact Kd.R_mono (Kd.R_far (p := ⟨gb666, 1, none⟩) (Kd.R_far (p := ⟨gb666, 0, none⟩) (Kd.R_mono HO663.out (fun k_ hk => (⟨hk, hk.2⟩ : _ ∧ k_ ≠ gb666))) (fun _ hk => hk.2) (.int .i64 ((rd_T50 t650 (ji20)).f0))) (fun _ hk => hk.2) (.int .i64 ((rd_T50 t650 (ji20)).f1))) (fun _ hk => hk.1.2))); (case aS => exact (b0_37 (by repeat (first | (with_reducible first | exact HB.out | apply b8_37 | apply b6_37 | apply b7_37 | refine b4_37 ?_ GE656.out | refine b4_37 ?_ GE664.out | refine b4_37 ?_ GE666.out) | exact HB.out)))); (case aL => have := LMc24.out; omega); intro v668 w52 ho hb hg hat; rw [← Ny667.out] at ho; have n0_ := aM_37 (Kd.V_afterv (ok := (fun k_ => some k_ ≠ (v654 : Value).ownBlock ∧ k_ ≠ gb656 ∧ k_ ≠ gb664 ∧ k_ ≠ gb666)) (by (with_reducible repeat (first | apply v1_37 | apply v2_37 | apply v3_37)); exact v4_37 (v5_37 (p := ⟨gb666, 1, none⟩) (v5_37 (p := ⟨gb666, 0, none⟩) (v4_37 HO652.out (fun k_ hk => (⟨hk, hk.2⟩ : _ ∧ k_ ≠ gb666))) (fun _ hk => hk.2) (.int .i64 ((rd_T50 t650 (ji20)).f0))) (fun _ hk => hk.2) (.int .i64 ((rd_T50 t650 (ji20)).f1))) (fun _ hk => ⟨⟨hk.1.1.1, ⟨hk.1.1.2.2.1, ⟨hk.1.1.2.2.2, hk.1.2⟩⟩⟩, hk.1.1.2.1⟩)) hg hat); have n1_ := aM_37 (Kd.R_over' (by (with_reducible repeat (first | apply r1_37 | apply r2_37 | apply r3_37)); exact (Kd.R_mono (Kd.R_far (p := ⟨gb666, 1, none⟩) (Kd.R_far (p := ⟨gb666, 0, none⟩) (Kd.R_types HO655.out BK666.out (by decide)) (fun _ hk => hk.2) (.int .i64 ((rd_T50 t650 (ji20)).f0))) (fun _ hk => hk.2) (.int .i64 ((rd_T50 t650 (ji20)).f1))) (fun _ h_ => h_.1))) (Kd.R_typed (by (with_reducible repeat (first | apply r1_37 | apply r2_37 | apply r3_37)); exact (Kd.R_mono (Kd.R_far (p := ⟨gb666, 1, none⟩) (Kd.R_far (p := ⟨gb666, 0, none⟩) (Kd.R_mono HO663.out (fun k_ hk => (⟨hk, hk.2⟩ : _ ∧ k_ ≠ gb666))) (fun _ hk => hk.2) (.int .i64 ((rd_T50 t650 (ji20)).f0))) (fun _ hk => hk.2) (.int .i64 ((rd_T50 t650 (ji20)).f1))) (fun _ h_ => h_.1)))) (by decide) hg); have n2_ := aM_37 (blk_grown (g := gb656) (o := .cells #[.int .i64 t649, .slice (some ad665) t650.length co33] 24 (0, 0)) (by (with_reducible repeat (first | refine b1_37 ?_ _ | refine b3_37 ?_ | refine b2_37 ?_ _)); refine c2_37 ?_ NB656_666.out _; (with_reducible repeat (first | refine b1_37 ?_ _ | refine b3_37 ?_ | refine b2_37 ?_ _)); refine c2_37 ?_ NB656_666.out _; (with_reducible repeat (first | refine b1_37 ?_ _ | refine b3_37 ?_ | refine b2_37 ?_ _)); exact BK656.out) hg (Kd.R_ne HO663.out BK656.out (by decide))); have n3_ := aM_37 (blk_grown (g := gb664) (o := .cells #[.int .i64 t649, .slice Ao42 y661.length co42] 24 (0, 0)) (by (with_reducible repeat (first | refine b1_37 ?_ _ | refine b3_37 ?_ | refine b2_37 ?_ _)); refine c2_37 ?_ NB664_666.out _; (with_reducible repeat (first | refine b1_37 ?_ _ | refine b3_37 ?_ | refine b2_37 ?_ _)); refine c2_37 ?_ NB664_666.out _; (with_reducible repeat (first | refine b1_37 ?_ _ | refine b3_37 ?_ | refine b2_37 ?_ _)); exact BK664.out) hg (Kd.R_ne HO663.out BK664.out (by decide))); have n4_ := aM_37 (blk_grown (g := gb666) (o := .cells #[.int .i64 ((rd_T50 t650 (ji20)).f0), .int .i64 ((rd_T50 t650 (ji20)).f1)] 50 (0, 0)) (by (with_reducible repeat (first | refine b1_37 ?_ _ | refine b3_37 ?_ | refine b2_37 ?_ _)); refine c1_37 (cs := #[.int .i64 ((rd_T50 t650 (ji20)).f0), .int .i64 0]) ?_ 1 _ rfl; (with_reducible repeat (first | refine b1_37 ?_ _ | refine b3_37 ?_ | refine b2_37 ?_ _)); refine c1_37 (cs := #[.int .i64 0, .int .i64 0]) ?_ 0 _ rfl; (with_reducible repeat (first | refine b1_37 ?_ _ | refine b3_37 ?_ | refine b2_37 ?_ _)); exact BK666.out) hg (Kd.R_away HO663.out (fun _ hk => hk.2))); have n5_ := aM_37 (hb); have n6_ := aM_37 (ho); clear HO652 HO655 BK656 BK664 BK666 HB HO663; have HO652 := n0_; have HO655 := n1_; have BK656 := n2_; have BK664 := n3_; have BK666 := n4_; have HB := n5_; have HO669 := n6_; clear n0_ n1_ n2_ n3_ n4_ n5_ n6_; clear ho hb hg hat; obtain ⟨Ao53, co53, eo53⟩ := Kd.R_slice HO669.out; subst eo53; obtain ⟨hcz54_0, hcz54_1, hfz54_0, hfz54_1⟩ := cells2_37 BK664.out) | (go_at_call 12; (with_reducible refine (aig_Right.calls k t649 _ _ y667 false _ ?side1 ?side2 A26.out).mono ?_); (case side1 => refine (Kd.R_reads' (e := 50) (base := w.heap.size) (ok := fun k_ => k_ ≠ gb666) (n := y667.length) (c := co53) ?_).2.2; exact (by (with_reducible repeat (first | apply r1_37 | apply r2_37 | apply r3_37)); exact (Kd.R_mono (Kd.R_far (p := ⟨gb664, 1, none⟩) (Kd.R_types HO669.out BK664.out (by decide)) (fun _ hk => hk.2) (.slice Ao53 y667.length co53)) (fun _ h_ => h_.1)))); (case side2 => exact (Kd.R_reads' HO669.out).2.1); rintro e w55 ⟨rfl, hb⟩; have n0_ := aM_37 (v6_37 (by (with_reducible repeat (first | apply v1_37 | apply v2_37 | apply v3_37)); exact (v4_37 (v5_37 (p := ⟨gb664, 1, none⟩) (v4_37 HO652.out (fun k_ hk => (⟨hk, hk.1.2.2.1⟩ : _ ∧ k_ ≠ gb664))) (fun _ hk => hk.2) (.slice Ao53 y667.length co53)) (fun _ h_ => h_.1))) hb); have n1_ := aM_37 (r4_37 (by (with_reducible repeat (first | apply r1_37 | apply r2_37 | apply r3_37)); exact (Kd.R_mono (Kd.R_far (p := ⟨gb664, 1, none⟩) (Kd.R_types HO655.out BK664.out (by decide)) (fun _ hk => hk.2) (.slice Ao53 y667.length co53)) (fun _ h_ => h_.1))) hb); have n2_ := aM_37 (r4_37 (by (with_reducible repeat (first | apply r1_37 | apply r2_37 | apply r3_37)); exact (Kd.R_mono (Kd.R_far (p := ⟨gb664, 1, none⟩) (Kd.R_types HO669.out BK664.out (by decide)) (fun _ hk => hk.2) (.slice Ao53 y667.length co53)) (fun _ h_ => h_.1))) hb); have n3_ := aM_37 (b5_37 (g := gb656) (o := .cells #[.int .i64 t649, .slice (some ad665) t650.length co33] 24 (0, 0)) (by (with_reducible repeat (first | refine b1_37 ?_ _ | refine b3_37 ?_ | refine b2_37 ?_ _)); refine c2_37 ?_ NB656_664.out _; (with_reducible repeat (first | refine b1_37 ?_ _ | refine b3_37 ?_ | refine b2_37 ?_ _)); exact BK656.out) hb); have n4_ := aM_37 (b5_37 (g := gb664) (o := .cells #[.int .i64 t649, .slice Ao53 y667.length co53] 24 (0, 0)) (by (with_reducible repeat (first | refine b1_37 ?_ _ | refine b3_37 ?_ | refine b2_37 ?_ _)); refine c1_37 (cs := #[.int .i64 t649, .slice Ao42 y661.length co42]) ?_ 1 _ rfl; (with_reducible repeat (first | refine b1_37 ?_ _ | refine b3_37 ?_ | refine b2_37 ?_ _)); exact BK664.out) hb); have n5_ := aM_37 (b5_37 (g := gb666) (o := .cells #[.int .i64 ((rd_T50 t650 (ji20)).f0), .int .i64 ((rd_T50 t650 (ji20)).f1)] 50 (0, 0)) (by (with_reducible repeat (first | refine b1_37 ?_ _ | refine b3_37 ?_ | refine b2_37 ?_ _)); refine c2_37 ?_ NB666_664.out _; (with_reducible repeat (first | refine b1_37 ?_ _ | refine b3_37 ?_ | refine b2_37 ?_ _)); exact BK666.out) hb); have n6_ := aM_37 (b9_37 (by repeat (first | (with_reducible first | exact HB.out | apply b8_37 | apply b6_37 | apply b7_37 | refine b4_37 ?_ GE656.out | refine b4_37 ?_ GE664.out | refine b4_37 ?_ GE666.out) | exact HB.out)) hb); clear HO652 HO655 HO669 BK656 BK664 BK666 HB; have HO652 := n0_; have HO655 := n1_; have HO669 := n2_; have BK656 := n3_; have BK664 := n4_; have BK666 := n5_; have HB := n6_; clear n0_ n1_ n2_ n3_ n4_ n5_ n6_; (try clear hb); (try clear hb2); (try clear hk); (try clear hi); obtain ⟨hcz56_0, hcz56_1, hfz56_0, hfz56_1⟩ := cells2_37 BK656.out) | (go_at_call 12; (with_reducible refine (aig_Right.calls k t649 _ _ t650 t671 _ ?side1 ?side2 A28.out).mono ?_); (case side1 => repeat (first | exact (Kd.V_reads' HO652.out).2.2 | (with_reducible refine c3_37 ?_ _) | (with_reducible refine c4_37 ?_ _) | (with_reducible refine c5_37 ?_))); (case side2 => exact (Kd.V_reads' HO652.out).2.1); rintro e w57 ⟨rfl, hb⟩; have n0_ := aM_37 (v6_37 (by (with_reducible repeat (first | apply v1_37 | apply v2_37 | apply v3_37)); exact HO652.out) hb); have n1_ := aM_37 (r4_37 (by (with_reducible repeat (first | apply r1_37 | apply r2_37 | apply r3_37)); exact HO655.out) hb); have n2_ := aM_37 (r4_37 (by (with_reducible repeat (first | apply r1_37 | apply r2_37 | apply r3_37)); exact HO669.out) hb); have n3_ := aM_37 (b5_37 (by exact BK656.out) hb); have n4_ := aM_37 (b5_37 (by exact BK664.out) hb); have n5_ := aM_37 (b5_37 (by exact BK666.out) hb); have n6_ := aM_37 (b9_37 (by repeat (first | (with_reducible first | exact HB.out | apply b8_37 | apply b6_37 | apply b7_37 | refine b4_37 ?_ GE656.out | refine b4_37 ?_ GE664.out | refine b4_37 ?_ GE666.out) | exact HB.out)) hb); clear HO652 HO655 HO669 BK656 BK664 BK666 HB; have HO652 := n0_; have HO655 := n1_; have HO669 := n2_; have BK656 := n3_; have BK664 := n4_; have BK666 := n5_; have HB := n6_; clear n0_ n1_ n2_ n3_ n4_ n5_ n6_; (try clear hb); (try clear hb2); (try clear hk); (try clear hi)))
          go_ret
          exact ⟨by first | rfl | (simp [errW_none, errW_some] <;> rfl) | (simp only [← hji20]; first | rfl | (simp [errW_none, errW_some] <;> rfl)) | (simp [*, errW_none, errW_some] <;> rfl), by repeat (first | (with_reducible first | exact HB.out | apply b8_37 | apply b6_37 | apply b7_37 | refine b4_37 ?_ GE656.out | refine b4_37 ?_ GE664.out | refine b4_37 ?_ GE666.out) | exact HB.out)⟩
        ·replace c25 := Bool.eq_false_iff.mpr c25
         subst c25
         have H1 : (none) = some r := by rw [if_neg (show ¬ (false = true) by decide)] at H; exact H
         clear H
         have H := H1
         clear H1
         exact absurd H (by simp)
       ·rw [if_neg c24] at H
        exact absurd H (by simp)
      ·rw [if_neg c23] at H
       have c23b0 : ((Int.tmod a3 4) == 0) = false := beq_eq_false_iff_ne.mpr c23
       have c23b1 : ((Int.tmod a3 4) != 0) = true := bne_iff_ne.mpr c23
       by_cases c58 : (Int.tmod a3 4) = 1
       ·rw [if_pos c58] at H
        have c58b0 : ((Int.tmod a3 4) == 1) = true := beq_iff_eq.mpr c58
        have c58b1 : ((Int.tmod a3 4) != 1) = false := bne_eq_false_iff_eq.mpr c58
        clear c58
        by_cases c59 : (ji20) < (y661.length : Int)
        ·rw [if_pos c59] at H
         have c59b0 : decide ((ji20) < (y661.length : Int)) = true := decide_eq_true c59
         clear c59
         obtain ⟨y672, hy672⟩ : ∃ y_ : List (S50), y_ = (y661.set ((ji20) : Int).toNat (⟨(rd_T50 t650 (ji20)).f1, (rd_T50 t650 (ji20)).f0⟩ : S50)) := ⟨_, rfl⟩
         replace H : (if t647 = true then ((aig_Right.f k t649 y672).bind fun t673 => (if t673 = true then (none) else ((aig_Right.f k t649 t650).bind fun t674 => (some t674)))) else (none)) = some r := by first | (rw [hy672]; with_reducible exact H) | (have H2_ := (Option.bind_some _ _).symm.trans H; rw [hy672]; with_reducible exact H2_) | (have H2_ := (Option.bind_some _ _).symm.trans H; with_reducible exact H2_) | with_reducible exact H | (rw [hy672]; exact H) | exact H
         have Ny672 := aM_37 hy672
         clear hy672
         by_cases c61 : t647 = true
         ·subst c61
          have H1 : ((aig_Right.f k t649 y672).bind fun t673 => (if t673 = true then (none) else ((aig_Right.f k t649 t650).bind fun t674 => (some t674)))) = some r := by rw [if_pos rfl] at H; exact H
          clear H
          have H := H1
          clear H1
          replace H := Option.bind_eq_some_iff.mp H
          obtain ⟨t673, A620, H⟩ := H
          replace H : (if t673 = true then (none) else ((aig_Right.f k t649 t650).bind fun t674 => (some t674))) = some r := H
          have A62 := aM_37 A620
          clear A620
          by_cases c63 : t673 = true
          ·subst c63
           have H1 : (none) = some r := by rw [if_pos rfl] at H; exact H
           clear H
           have H := H1
           clear H1
           exact absurd H (by simp)
          ·replace c63 := Bool.eq_false_iff.mpr c63
           subst c63
           have H1 : ((aig_Right.f k t649 t650).bind fun t674 => (some t674)) = some r := by rw [if_neg (show ¬ (false = true) by decide)] at H; exact H
           clear H
           have H := H1
           clear H1
           replace H := Option.bind_eq_some_iff.mp H
           obtain ⟨t674, A640, H⟩ := H
           replace H : (some t674) = some r := H
           have A64 := aM_37 A640
           clear A640
           obtain rfl := Option.some.inj H
           go_enter Try.func8, Try.ntmps8
           try go_wp2_with (first | ((with_reducible refine gate_callee (f := 10) rfl ?_); refine goesL_ (some 15) rfl rfl Try.func10 (by kernel_rfl) rfl #[] rfl (by (try simp only [List.map_toArray, List.map_cons, List.map_nil]); first | done | rfl | (simp only [List.length_drop, List.length_take]; rfl)) ?_; (with_reducible refine (proofmarklaw13_head.calls k  true _ A5.out).mono ?_); rintro e w65 ⟨rfl, hb⟩; refine ⟨_, rfl, ?_⟩; have n0_ := aM_37 (b9_37 (by repeat (first | (with_reducible first | exact HB.out | apply b8_37 | apply b6_37 | apply b7_37) | exact HB.out)) hb); clear HB; have HB := n0_; clear n0_; (try clear hb); (try clear hb2); (try clear hk); (try clear hi)) | ((with_reducible refine gate_callee (f := 11) rfl ?_); refine goesL_ (some 17) rfl rfl Try.func11 (by kernel_rfl) rfl #[.slice A1 l1.length c1] rfl (by (try simp only [List.map_toArray, List.map_cons, List.map_nil]); first | done | rfl | (simp only [List.length_drop, List.length_take]; rfl)) ?_; (with_reducible refine (proofmarklaw13_Great.calls _ _ l1 false _ ?side1 ?side2 A6.out).mono ?_); (case side1 => repeat (first | exact (Kd.C_below HR1.out HB.out) | (with_reducible refine c3_37 ?_ _) | (with_reducible refine c4_37 ?_ _) | (with_reducible refine c5_37 ?_))); (case side2 => exact HC1.out); rintro e w' ⟨rfl, ⟨nd, rfl⟩⟩; refine ⟨_, rfl, ?_⟩; (try (rw [drewN_self w65]; generalize hq_ : World.drewN w65 _ = w65; have n0_ : Aside0 (Below w.heap.size w w65) := ⟨by rw [← hq_]; exact (by repeat (first | (with_reducible first | exact HB.out | apply b8_37 | apply b6_37 | apply b7_37) | exact HB.out))⟩; clear HB hq_; have HB := n0_; clear n0_))) | ((with_reducible refine gate_callee (f := 14) rfl ?_); refine goesL_ (some 22) rfl rfl Try.func14 (by kernel_rfl) rfl #[.int .u8 a0, .slice A1 l1.length c1] rfl (by (try simp only [List.map_toArray, List.map_cons, List.map_nil]); first | done | rfl | (simp only [List.length_drop, List.length_take]; rfl)) ?_; (with_reducible refine (proofmarklaw13_Made.calls k a0 _ _ l1 t649 t650 t653 _ ?side1 ?side2 A9.out).mono ?_); (case side1 => repeat (first | exact (Kd.C_below HR1.out HB.out) | (with_reducible refine c3_37 ?_ _) | (with_reducible refine c4_37 ?_ _) | (with_reducible refine c5_37 ?_))); (case side2 => exact HC1.out); rintro e w66 ⟨v651, v654, rfl, ho0, ho1, hb⟩; refine ⟨_, rfl, ?_⟩; have n0_ := aM_37 (Kd.V_lower (v4_37 (ok' := fun k_ => some k_ ≠ (v654 : Value).ownBlock) ho0 (fun k_ hk_ => hk_.2)) (b0_37 (by repeat (first | (with_reducible first | exact HB.out | apply b8_37 | apply b6_37 | apply b7_37) | exact HB.out)))); have n1_ := aM_37 (Kd.R_lower (Kd.R_mono (ok' := fun k_ => True) ho1 (fun _ hk_ => trivial)) (b0_37 (by repeat (first | (with_reducible first | exact HB.out | apply b8_37 | apply b6_37 | apply b7_37) | exact HB.out)))); have n2_ := aM_37 (b9_37 (by repeat (first | (with_reducible first | exact HB.out | apply b8_37 | apply b6_37 | apply b7_37) | exact HB.out)) hb); clear HB; have HO652 := n0_; have HO655 := n1_; have HB := n2_; clear n0_ n1_ n2_; (try clear hb); (try clear hb2); (try clear hk); (try clear hi); (try clear ho0); (try clear ho1)) | ((with_reducible refine gate_dst (N := 10) rfl ?_); refine box_event ?hg (N := 10) ?hd (cs := #[.int .i64 0, .slice none 0 0]) (t := 24) ?hr ?_; (case hd => rfl); (case hg => rfl); (case hr => first | (go_simp; done) | (go_simp; rfl)); intro gb656 hg w67 hbox hb; have n0_ := aM_37 (v6_37 (Kd.V_elderB (by (with_reducible repeat (first | apply v1_37 | apply v2_37 | apply v3_37)); exact HO652.out) gb656 (Nat.le_of_eq hg.symm)) hb); have n1_ := aM_37 (r4_37 (by (with_reducible repeat (first | apply r1_37 | apply r2_37 | apply r3_37)); exact HO655.out) hb); have n2_ := aM_37 (b9_37 (by repeat (first | (with_reducible first | exact HB.out | apply b8_37 | apply b6_37 | apply b7_37) | exact HB.out)) hb); have n3_ := aM_37 (hbox); have n4_ := aM_37 ((by rw [hg]; exact (b0_37 (by repeat (first | (with_reducible first | exact HB.out | apply b8_37 | apply b6_37 | apply b7_37) | exact HB.out))) : w.heap.size ≤ gb656)); have n5_ := aM_37 ((by rw [hg]; exact (b0_37 (by repeat (first | (with_reducible first | exact HB.out | apply b8_37 | apply b6_37 | apply b7_37) | exact HB.out))) : w.heap.size ≤ gb656)); clear HO652 HO655 HB; have HO652 := n0_; have HO655 := n1_; have HB := n2_; have BK656 := n3_; have GW656 := n4_; have GE656 := n5_; clear n0_ n1_ n2_ n3_ n4_ n5_; clear hb hbox hg; obtain ⟨hcz68_0, hcz68_1, hfz68_0, hfz68_1⟩ := cells2_37 BK656.out; obtain ⟨Ao69, co69, eo69⟩ := Kd.V_slice HO652.out; subst eo69))
           have n0_ : Aside0 (Kd.V k50 50 ((w67.setCell ⟨gb656, 0, none⟩ (.int .i64 t649)).setCell ⟨gb656, 1, none⟩ (.slice Ao69 t650.length co69)) w.heap.size (fun k_ => some k_ ≠ (v654 : Value).ownBlock ∧ k_ ≠ gb656) (.slice Ao69 t650.length co69) t650) := ⟨by (with_reducible repeat (first | apply v1_37 | apply v2_37 | apply v3_37)); exact v4_37 (v5_37 (p := ⟨gb656, 1, none⟩) (v5_37 (p := ⟨gb656, 0, none⟩) (v4_37 HO652.out (fun k_ hk => (⟨hk, hk.2⟩ : _ ∧ k_ ≠ gb656))) (fun _ hk => hk.2) (.int .i64 t649)) (fun _ hk => hk.2) (.slice Ao69 t650.length co69)) (fun _ hk => ⟨hk.1.1, hk.1.2⟩)⟩
           have n1_ : Aside0 (Kd.R (Kd.int .i64) 3 ((w67.setCell ⟨gb656, 0, none⟩ (.int .i64 t649)).setCell ⟨gb656, 1, none⟩ (.slice Ao69 t650.length co69)) w.heap.size (fun _ => True) v654 t653) := ⟨by (with_reducible repeat (first | apply r1_37 | apply r2_37 | apply r3_37)); exact Kd.R_mono (Kd.R_far (p := ⟨gb656, 1, none⟩) (Kd.R_far (p := ⟨gb656, 0, none⟩) (Kd.R_types HO655.out BK656.out (by decide)) (fun _ hk => hk.2) (.int .i64 t649)) (fun _ hk => hk.2) (.slice Ao69 t650.length co69)) (fun _ hk => trivial)⟩
           have n2_ : Aside0 (((w67.setCell ⟨gb656, 0, none⟩ (.int .i64 t649)).setCell ⟨gb656, 1, none⟩ (.slice Ao69 t650.length co69)).heap[gb656]? = some (.cells #[.int .i64 t649, .slice Ao69 t650.length co69] 24 (0, 0))) := ⟨by (with_reducible repeat (first | refine b1_37 ?_ _ | refine b3_37 ?_ | refine b2_37 ?_ _)); refine c1_37 (cs := #[.int .i64 t649, .slice none 0 0]) ?_ 1 _ rfl; (with_reducible repeat (first | refine b1_37 ?_ _ | refine b3_37 ?_ | refine b2_37 ?_ _)); refine c1_37 (cs := #[.int .i64 0, .slice none 0 0]) ?_ 0 _ rfl; (with_reducible repeat (first | refine b1_37 ?_ _ | refine b3_37 ?_ | refine b2_37 ?_ _)); exact BK656.out⟩
           have n3_ : Aside0 (Below w.heap.size w ((w67.setCell ⟨gb656, 0, none⟩ (.int .i64 t649)).setCell ⟨gb656, 1, none⟩ (.slice Ao69 t650.length co69))) := ⟨by repeat (first | (with_reducible first | exact HB.out | apply b8_37 | apply b6_37 | apply b7_37 | refine b4_37 ?_ GE656.out) | exact HB.out)⟩
           (try clear HO652)
           (try clear HO655)
           (try clear BK656)
           (try clear HB)
           generalize ((w67.setCell ⟨gb656, 0, none⟩ (.int .i64 t649)).setCell ⟨gb656, 1, none⟩ (.slice Ao69 t650.length co69)) = w70 at n0_ n1_ n2_ n3_ ⊢
           have HO652 := n0_
           have HO655 := n1_
           have BK656 := n2_
           have HB := n3_
           clear n0_ n1_ n2_ n3_
           have n0_ := aM_37 (v3_37 HO652.out)
           have n1_ := aM_37 (r3_37 HO655.out)
           have n2_ := aM_37 (b3_37 BK656.out)
           have n3_ := aM_37 (b7_37 HB.out)
           clear HO652 HO655 BK656 HB
           have HO652 := n0_
           have HO655 := n1_
           have BK656 := n2_
           have HB := n3_
           clear n0_ n1_ n2_ n3_
           refine start_ (n := 9) (S := fun w' => w'.cell? ⟨gb656, 0, none⟩ = some (.int .i64 t649) ∧ w'.cell? ⟨gb656, 1, none⟩ = some (.slice Ao69 t650.length co69)) (ds := []) #[false, false, false, false, false, false, false, false, false] (by kernel_rfl) rfl rfl ⟨(blk_cell BK656.out 0).trans rfl, (blk_cell BK656.out 1).trans rfl⟩ (fun hHeld => ?_); refine with_tabW proofmarklaw13_AigOdd.tab8 proofmarklaw13_AigOdd.bits8 (fun HT_ HW_ => ?_)
           generalize w70.drew = w71 at HO652 HO655 BK656 HB hHeld ⊢
           refine pure_ (i := 0) (N := some 40) (v := ?_) (a' := ?_) #[true, false, false, false, false, false, false, false, false] rfl rfl (any_of HT_.out (by kernel_rfl)) (fun _ _ _ h => h) (Or.inl ⟨by rfl, ?_⟩) ?_ ?_
           rotate_left
           ·intro w'
            go_simp
            with_reducible rfl
           rotate_left
           ·simp only [Act.put, l1_37, l2_37, l3_37, i64_w, i32_w]
            rfl
           refine pure_ (i := 3) (N := some 43) (v := ?_) (a' := ?_) #[true, false, false, true, false, false, false, false, false] rfl rfl (any_of HT_.out (by kernel_rfl)) (fun _ _ _ h => h) (Or.inl ⟨by rfl, ?_⟩) ?_ ?_
           rotate_left
           ·intro w'
            go_simp
            with_reducible rfl
           rotate_left
           ·simp only [Act.put, l1_37, l2_37, l3_37, i64_w, i32_w]
            rfl
           refine take_ (i := 1) (N := some 41) (v := ?_) (a' := ?_) #[true, true, false, true, false, false, false, false, false] rfl rfl (take_ofW HT_.out HW_.out (by kernel_rfl)) (fun _ _ _ h => h) (Or.inl ⟨by rfl, ?_⟩) hHeld ?_ ?_
           rotate_left
           ·rintro w' ⟨s0, s1⟩
            go_simp
            with_reducible rfl
           rotate_left
           ·simp only [Act.put, l1_37, l2_37, l3_37, i64_w, i32_w]
            rfl
           refine take_ (i := 4) (N := some 44) (v := ?_) (a' := ?_) #[true, true, false, true, true, false, false, false, false] rfl rfl (take_ofW HT_.out HW_.out (by kernel_rfl)) (fun _ _ _ h => h) (Or.inl ⟨by rfl, ?_⟩) hHeld ?_ ?_
           rotate_left
           ·rintro w' ⟨s0, s1⟩
            go_simp
            with_reducible rfl
           rotate_left
           ·simp only [Act.put, l1_37, l2_37, l3_37, i64_w, i32_w]
            rfl
           refine join_ (σ := Value × Value × Nat) 1 #[true, true, true, true, true, true, true, true, false] (fun s_ => [(42, s_.1), (45, s_.2.1), (13, .pointer (some ⟨s_.2.2, 0, none⟩)), (46, .agg #[.int .i64 t649, s_.2.1])]) (fun s_ w' => (w'.cell? ⟨gb656, 0, none⟩ = some (.int .i64 t649) ∧ w'.cell? ⟨gb656, 1, none⟩ = some (.slice Ao69 t650.length co69)) ∧ (Kd.V k50 50 w' w.heap.size (fun k_ => some k_ ≠ (v654 : Value).ownBlock ∧ some k_ ≠ (s_.2.1 : Value).ownBlock ∧ k_ ≠ gb656 ∧ k_ ≠ s_.2.2) (.slice Ao69 t650.length co69) t650) ∧ (Kd.R (Kd.int .i64) 3 w' w.heap.size (fun _ => True) v654 t653) ∧ (Kd.R k50 50 w' w.heap.size (fun _ => True) s_.2.1 y661) ∧ (w'.heap[gb656]? = some (.cells #[.int .i64 t649, .slice Ao69 t650.length co69] 24 (0, 0))) ∧ (w'.heap[s_.2.2]? = some (.cells #[.int .i64 0, .slice none 0 0] 24 (0, 0))) ∧ (w.heap.size ≤ s_.2.2) ∧ (w.heap.size ≤ s_.2.2) ∧ (gb656 ≠ s_.2.2) ∧ (s_.2.2 ≠ gb656) ∧ (Below w.heap.size w w')) ?_ ?_
           rotate_left
           ·intro hCont
            refine two_ (i := 2) (j := 7) (Ni := some 42) (Nj := some 13) #[true, true, true, true, true, false, false, false, false] #[true, true, false, true, true, false, false, true, false] rfl rfl rfl rfl (two_of HT_.out (by kernel_rfl)) (by decide) (by decide) (fun K hK => ?_) (fun K hK => ?_)
            ·skip
             refine Kd.R_lit_step k50 _ 50 ?hg (N := 42) ?hd (xs := ([] : List (S50))) (inner := []) (ok := fun _ => True) (okp := fun _ => True) ?hr ?hp (fun _ hk => hk) trivial (Below.refl _ _) (Nat.le_refl _) (by simp) ?_; (case hd => rfl); (case hg => rfl); (case hr => first | (go_simp; done) | (go_simp; rfl)); (case hp => exact (Reps.none _ _))
             intro v659 w72 ho73 hb hg_ hnew_
             clear hg_ hnew_
             (first | rw [← Ny658.out] at ho73 | (simp only [Int.reduceToNat] at ho73; rw [← Ny658.out] at ho73))
             have n0_ := aM_37 (Kd.V_elder' (by (with_reducible repeat (first | apply v1_37 | apply v2_37 | apply v3_37)); exact HO652.out) (Kd.R_base ho73) hb)
             have n1_ := aM_37 (r4_37 (by (with_reducible repeat (first | apply r1_37 | apply r2_37 | apply r3_37)); exact HO655.out) hb)
             have n2_ := aM_37 (Kd.R_lower ho73 (b0_37 (by repeat (first | (with_reducible first | exact HB.out | apply b8_37 | apply b6_37 | apply b7_37 | refine b4_37 ?_ GE656.out) | exact HB.out))))
             have n3_ := aM_37 (b5_37 (by exact BK656.out) hb)
             have n4_ := aM_37 (b9_37 (by repeat (first | (with_reducible first | exact HB.out | apply b8_37 | apply b6_37 | apply b7_37 | refine b4_37 ?_ GE656.out) | exact HB.out)) hb)
             clear HO652 HO655 BK656 HB
             have HO652 := n0_
             have HO655 := n1_
             have HO660 := n2_
             have BK656 := n3_
             have HB := n4_
             clear n0_ n1_ n2_ n3_ n4_
             clear hb ho73
             refine hK.out _ _ ⟨(blk_cell BK656.out 0).trans rfl, (blk_cell BK656.out 1).trans rfl⟩ (fun hHeld => ?_)
             clear hK K
             refine norm_ (a' := ?_) ?_ ?_
             rotate_left
             ·show Act.put _ (some 42) _ = _
              simp only [Act.put, l1_37, l2_37, l3_37, i64_w, i32_w]
              rfl
             refine two_ (i := 5) (j := 7) (Ni := some 45) (Nj := some 13) #[true, true, true, true, true, true, false, false, false] #[true, true, true, true, true, false, false, true, false] rfl rfl rfl rfl (two_of HT_.out (by kernel_rfl)) (by decide) (by decide) (fun K hK => ?_) (fun K hK => ?_)
             ·skip
              refine Kd.R_append_rows_step k50 (w0 := w) w.heap.size (by rfl) (.tmp 42) (.tmp 44) 22 50 (.agg #[(.int .i64 0), (.int .i64 0)]) 16 rfl Try.underlying22 info50 rfl (by decide) (by omega) v659 y658 t650 _ _ _ (fun _ => True) (fun _ => False) rfl rfl ?aO ?aR (fun _ _ h => h) (fun _ h => h.elim) ?aF ?aB ?aS ?aL ?_
              (case aR => repeat (first | exact (Kd.V_reads' HO652.out).2.2 | (with_reducible refine c3_37 ?_ _) | (with_reducible refine c4_37 ?_ _) | (with_reducible refine c5_37 ?_)))
              (case aB => exact (by repeat (first | (with_reducible first | exact HB.out | apply b8_37 | apply b6_37 | apply b7_37 | refine b4_37 ?_ GE656.out) | exact HB.out)))
              (case aF => exact (fun _ _ => trivial))
              (case aO => exact (by (with_reducible repeat (first | apply r1_37 | apply r2_37 | apply r3_37)); exact HO660.out))
              (case aS => exact (b0_37 (by repeat (first | (with_reducible first | exact HB.out | apply b8_37 | apply b6_37 | apply b7_37 | refine b4_37 ?_ GE656.out) | exact HB.out))))
              (case aL => have := LMc19.out; omega)
              intro v662 w74 ho hb hg hat
              rw [← Ny661.out] at ho
              have n0_ := aM_37 (Kd.V_afterv (ok := (fun k_ => some k_ ≠ (v654 : Value).ownBlock ∧ k_ ≠ gb656)) (by (with_reducible repeat (first | apply v1_37 | apply v2_37 | apply v3_37)); exact HO652.out) hg hat)
              have n1_ := aM_37 (Kd.R_over' (by (with_reducible repeat (first | apply r1_37 | apply r2_37 | apply r3_37)); exact HO655.out) (Kd.R_typed (by (with_reducible repeat (first | apply r1_37 | apply r2_37 | apply r3_37)); exact HO660.out)) (by decide) hg)
              have n2_ := aM_37 (blk_grown (g := gb656) (o := .cells #[.int .i64 t649, .slice Ao69 t650.length co69] 24 (0, 0)) (by exact BK656.out) hg (Kd.R_ne HO660.out BK656.out (by decide)))
              have n3_ := aM_37 (hb)
              have n4_ := aM_37 (ho)
              clear HO652 HO655 BK656 HB HO660
              have HO652 := n0_
              have HO655 := n1_
              have BK656 := n2_
              have HB := n3_
              have HO663 := n4_
              clear n0_ n1_ n2_ n3_ n4_
              clear ho hb hg hat
              obtain ⟨Ao75, co75, eo75⟩ := Kd.R_slice HO663.out
              (first | subst eo75 | (injection eo75 with f1_ f2_ f3_; have f4_ := f1_.symm; have f5_ := f3_.symm; clear f1_ f2_ f3_; subst f4_; subst f5_))
              refine hK.out _ _ ⟨(blk_cell BK656.out 0).trans rfl, (blk_cell BK656.out 1).trans rfl⟩ (fun hHeld => ?_)
              clear hK K
              refine norm_ (a' := ?_) ?_ ?_
              rotate_left
              ·show Act.put _ (some 45) _ = _
               simp only [Act.put, l1_37, l2_37, l3_37, i64_w, i32_w]
               rfl
              refine pure_ (i := 6) (N := some 46) (v := ?_) (a' := ?_) #[true, true, true, true, true, true, true, false, false] rfl rfl (any_of HT_.out (by kernel_rfl)) (fun _ _ _ h => h) (Or.inl ⟨by rfl, ?_⟩) ?_ ?_
              rotate_left
              ·intro w'
               go_simp
               with_reducible rfl
              rotate_left
              ·simp only [Act.put, l1_37, l2_37, l3_37, i64_w, i32_w]
               rfl
              refine one_ (i := 7) (N := some 13) #[true, true, true, true, true, true, true, true, false] rfl rfl (one_of HT_.out (by kernel_rfl)) (by decide) (fun K hK => ?_)
              refine box_step ?hg (N := 13) ?hd (cs := #[.int .i64 0, .slice none 0 0]) (t := 24) ?hr ?_; (case hd => rfl); (case hg => rfl); (case hr => first | (go_simp; done) | (go_simp; rfl))
              intro gb664 hg w76 hbox hb
              have n0_ := aM_37 (v6_37 (Kd.V_elderB (by (with_reducible repeat (first | apply v1_37 | apply v2_37 | apply v3_37)); exact HO652.out) gb664 (Nat.le_of_eq hg.symm)) hb)
              have n1_ := aM_37 (r4_37 (by (with_reducible repeat (first | apply r1_37 | apply r2_37 | apply r3_37)); exact HO655.out) hb)
              have n2_ := aM_37 (r4_37 (by (with_reducible repeat (first | apply r1_37 | apply r2_37 | apply r3_37)); exact HO663.out) hb)
              have n3_ := aM_37 (b5_37 (by exact BK656.out) hb)
              have n4_ := aM_37 (b9_37 (by repeat (first | (with_reducible first | exact HB.out | apply b8_37 | apply b6_37 | apply b7_37 | refine b4_37 ?_ GE656.out) | exact HB.out)) hb)
              have n5_ := aM_37 (hbox)
              have n6_ := aM_37 ((by rw [hg]; exact (b0_37 (by repeat (first | (with_reducible first | exact HB.out | apply b8_37 | apply b6_37 | apply b7_37 | refine b4_37 ?_ GE656.out) | exact HB.out))) : w.heap.size ≤ gb664))
              have n7_ := aM_37 ((by rw [hg]; exact (b0_37 (by repeat (first | (with_reducible first | exact HB.out | apply b8_37 | apply b6_37 | apply b7_37 | refine b4_37 ?_ GE656.out) | exact HB.out))) : w.heap.size ≤ gb664))
              have n8_ := aM_37 ((by rw [hg]; exact Nat.ne_of_lt (blk_lt (by exact BK656.out)) : gb656 ≠ gb664))
              have n9_ := aM_37 ((by rw [hg]; exact Nat.ne_of_gt (blk_lt (by exact BK656.out)) : gb664 ≠ gb656))
              clear HO652 HO655 HO663 BK656 HB
              have HO652 := n0_
              have HO655 := n1_
              have HO663 := n2_
              have BK656 := n3_
              have HB := n4_
              have BK664 := n5_
              have GW664 := n6_
              have GE664 := n7_
              have NB656_664 := n8_
              have NB664_656 := n9_
              clear n0_ n1_ n2_ n3_ n4_ n5_ n6_ n7_ n8_ n9_
              clear hb hbox hg
              refine hK.out _ _ ⟨(blk_cell BK656.out 0).trans rfl, (blk_cell BK656.out 1).trans rfl⟩ (fun hHeld => ?_)
              clear hK K
              refine norm_ (a' := ?_) ?_ ?_
              rotate_left
              ·show Act.put _ (some 13) _ = _
               simp only [Act.put, l1_37, l2_37, l3_37, i64_w, i32_w]
               rfl
              exact norm_ (by simp only [putAll, Act.put, l1_37, l2_37, l3_37]) (hCont (v659, .slice Ao75 y661.length co75, gb664) _ ⟨hHeld, (by (with_reducible repeat (first | apply v1_37 | apply v2_37 | apply v3_37)); exact v4_37 HO652.out (fun _ hk => ⟨hk.1.1.1, ⟨hk.1.2, ⟨hk.1.1.2, hk.2⟩⟩⟩)), (by (with_reducible repeat (first | apply r1_37 | apply r2_37 | apply r3_37)); exact HO655.out), (by (with_reducible repeat (first | apply r1_37 | apply r2_37 | apply r3_37)); exact HO663.out), (by exact BK656.out), (by exact BK664.out), GW664.out, GE664.out, NB656_664.out, NB664_656.out, (by repeat (first | (with_reducible first | exact HB.out | apply b8_37 | apply b6_37 | apply b7_37 | refine b4_37 ?_ GE656.out | refine b4_37 ?_ GE664.out) | exact HB.out))⟩)
             ·skip
              refine box_step ?hg (N := 13) ?hd (cs := #[.int .i64 0, .slice none 0 0]) (t := 24) ?hr ?_; (case hd => rfl); (case hg => rfl); (case hr => first | (go_simp; done) | (go_simp; rfl))
              intro gb664 hg w74 hbox hb
              have n0_ := aM_37 (v6_37 (Kd.V_elderB (by (with_reducible repeat (first | apply v1_37 | apply v2_37 | apply v3_37)); exact HO652.out) gb664 (Nat.le_of_eq hg.symm)) hb)
              have n1_ := aM_37 (r4_37 (by (with_reducible repeat (first | apply r1_37 | apply r2_37 | apply r3_37)); exact HO655.out) hb)
              have n2_ := aM_37 (r4_37 (by (with_reducible repeat (first | apply r1_37 | apply r2_37 | apply r3_37)); exact HO660.out) hb)
              have n3_ := aM_37 (b5_37 (by exact BK656.out) hb)
              have n4_ := aM_37 (b9_37 (by repeat (first | (with_reducible first | exact HB.out | apply b8_37 | apply b6_37 | apply b7_37 | refine b4_37 ?_ GE656.out) | exact HB.out)) hb)
              have n5_ := aM_37 (hbox)
              have n6_ := aM_37 ((by rw [hg]; exact (b0_37 (by repeat (first | (with_reducible first | exact HB.out | apply b8_37 | apply b6_37 | apply b7_37 | refine b4_37 ?_ GE656.out) | exact HB.out))) : w.heap.size ≤ gb664))
              have n7_ := aM_37 ((by rw [hg]; exact (b0_37 (by repeat (first | (with_reducible first | exact HB.out | apply b8_37 | apply b6_37 | apply b7_37 | refine b4_37 ?_ GE656.out) | exact HB.out))) : w.heap.size ≤ gb664))
              have n8_ := aM_37 ((by rw [hg]; exact Nat.ne_of_lt (blk_lt (by exact BK656.out)) : gb656 ≠ gb664))
              have n9_ := aM_37 ((by rw [hg]; exact Nat.ne_of_gt (blk_lt (by exact BK656.out)) : gb664 ≠ gb656))
              clear HO652 HO655 HO660 BK656 HB
              have HO652 := n0_
              have HO655 := n1_
              have HO660 := n2_
              have BK656 := n3_
              have HB := n4_
              have BK664 := n5_
              have GW664 := n6_
              have GE664 := n7_
              have NB656_664 := n8_
              have NB664_656 := n9_
              clear n0_ n1_ n2_ n3_ n4_ n5_ n6_ n7_ n8_ n9_
              clear hb hbox hg
              refine hK.out _ _ ⟨(blk_cell BK656.out 0).trans rfl, (blk_cell BK656.out 1).trans rfl⟩ (fun hHeld => ?_)
              clear hK K
              refine norm_ (a' := ?_) ?_ ?_
              rotate_left
              ·show Act.put _ (some 13) _ = _
               simp only [Act.put, l1_37, l2_37, l3_37, i64_w, i32_w]
               rfl
              refine one_ (i := 5) (N := some 45) #[true, true, true, true, true, true, false, true, false] rfl rfl (one_of HT_.out (by kernel_rfl)) (by decide) (fun K hK => ?_)
              refine Kd.R_append_rows_step k50 (w0 := w) w.heap.size (by rfl) (.tmp 42) (.tmp 44) 22 50 (.agg #[(.int .i64 0), (.int .i64 0)]) 16 rfl Try.underlying22 info50 rfl (by decide) (by omega) v659 y658 t650 _ _ _ (fun _ => True) (fun _ => False) rfl rfl ?aO ?aR (fun _ _ h => h) (fun _ h => h.elim) ?aF ?aB ?aS ?aL ?_
              (case aR => repeat (first | exact (Kd.V_reads' HO652.out).2.2 | (with_reducible refine c3_37 ?_ _) | (with_reducible refine c4_37 ?_ _) | (with_reducible refine c5_37 ?_)))
              (case aB => exact (by repeat (first | (with_reducible first | exact HB.out | apply b8_37 | apply b6_37 | apply b7_37 | refine b4_37 ?_ GE656.out | refine b4_37 ?_ GE664.out) | exact HB.out)))
              (case aF => exact (fun _ _ => trivial))
              (case aO => exact (by (with_reducible repeat (first | apply r1_37 | apply r2_37 | apply r3_37)); exact HO660.out))
              (case aS => exact (b0_37 (by repeat (first | (with_reducible first | exact HB.out | apply b8_37 | apply b6_37 | apply b7_37 | refine b4_37 ?_ GE656.out | refine b4_37 ?_ GE664.out) | exact HB.out))))
              (case aL => have := LMc19.out; omega)
              intro v662 w75 ho hb hg hat
              rw [← Ny661.out] at ho
              have n0_ := aM_37 (Kd.V_afterv (ok := (fun k_ => some k_ ≠ (v654 : Value).ownBlock ∧ k_ ≠ gb656 ∧ k_ ≠ gb664)) (by (with_reducible repeat (first | apply v1_37 | apply v2_37 | apply v3_37)); exact v4_37 HO652.out (fun _ hk => ⟨⟨hk.1.1.1, ⟨hk.1.1.2, hk.2⟩⟩, hk.1.2⟩)) hg hat)
              have n1_ := aM_37 (Kd.R_over' (by (with_reducible repeat (first | apply r1_37 | apply r2_37 | apply r3_37)); exact HO655.out) (Kd.R_typed (by (with_reducible repeat (first | apply r1_37 | apply r2_37 | apply r3_37)); exact HO660.out)) (by decide) hg)
              have n2_ := aM_37 (blk_grown (g := gb656) (o := .cells #[.int .i64 t649, .slice Ao69 t650.length co69] 24 (0, 0)) (by exact BK656.out) hg (Kd.R_ne HO660.out BK656.out (by decide)))
              have n3_ := aM_37 (blk_grown (g := gb664) (o := .cells #[.int .i64 0, .slice none 0 0] 24 (0, 0)) (by exact BK664.out) hg (Kd.R_ne HO660.out BK664.out (by decide)))
              have n4_ := aM_37 (hb)
              have n5_ := aM_37 (ho)
              clear HO652 HO655 BK656 BK664 HB HO660
              have HO652 := n0_
              have HO655 := n1_
              have BK656 := n2_
              have BK664 := n3_
              have HB := n4_
              have HO663 := n5_
              clear n0_ n1_ n2_ n3_ n4_ n5_
              clear ho hb hg hat
              obtain ⟨Ao76, co76, eo76⟩ := Kd.R_slice HO663.out
              (first | subst eo76 | (injection eo76 with f1_ f2_ f3_; have f4_ := f1_.symm; have f5_ := f3_.symm; clear f1_ f2_ f3_; subst f4_; subst f5_))
              refine hK.out _ _ ⟨(blk_cell BK656.out 0).trans rfl, (blk_cell BK656.out 1).trans rfl⟩ (fun hHeld => ?_)
              clear hK K
              refine norm_ (a' := ?_) ?_ ?_
              rotate_left
              ·show Act.put _ (some 45) _ = _
               simp only [Act.put, l1_37, l2_37, l3_37, i64_w, i32_w]
               rfl
              refine pure_ (i := 6) (N := some 46) (v := ?_) (a' := ?_) #[true, true, true, true, true, true, true, true, false] rfl rfl (any_of HT_.out (by kernel_rfl)) (fun _ _ _ h => h) (Or.inl ⟨by rfl, ?_⟩) ?_ ?_
              rotate_left
              ·intro w'
               go_simp
               with_reducible rfl
              rotate_left
              ·simp only [Act.put, l1_37, l2_37, l3_37, i64_w, i32_w]
               rfl
              exact norm_ (by simp only [putAll, Act.put, l1_37, l2_37, l3_37]) (hCont (v659, .slice Ao76 y661.length co76, gb664) _ ⟨hHeld, (by (with_reducible repeat (first | apply v1_37 | apply v2_37 | apply v3_37)); exact v4_37 HO652.out (fun _ hk => ⟨hk.1.1, ⟨hk.2, ⟨hk.1.2.1, hk.1.2.2⟩⟩⟩)), (by (with_reducible repeat (first | apply r1_37 | apply r2_37 | apply r3_37)); exact HO655.out), (by (with_reducible repeat (first | apply r1_37 | apply r2_37 | apply r3_37)); exact HO663.out), (by exact BK656.out), (by exact BK664.out), GW664.out, GE664.out, NB656_664.out, NB664_656.out, (by repeat (first | (with_reducible first | exact HB.out | apply b8_37 | apply b6_37 | apply b7_37 | refine b4_37 ?_ GE656.out | refine b4_37 ?_ GE664.out) | exact HB.out))⟩)
            ·skip
             refine box_step ?hg (N := 13) ?hd (cs := #[.int .i64 0, .slice none 0 0]) (t := 24) ?hr ?_; (case hd => rfl); (case hg => rfl); (case hr => first | (go_simp; done) | (go_simp; rfl))
             intro gb664 hg w72 hbox hb
             have n0_ := aM_37 (v6_37 (Kd.V_elderB (by (with_reducible repeat (first | apply v1_37 | apply v2_37 | apply v3_37)); exact HO652.out) gb664 (Nat.le_of_eq hg.symm)) hb)
             have n1_ := aM_37 (r4_37 (by (with_reducible repeat (first | apply r1_37 | apply r2_37 | apply r3_37)); exact HO655.out) hb)
             have n2_ := aM_37 (b5_37 (by exact BK656.out) hb)
             have n3_ := aM_37 (b9_37 (by repeat (first | (with_reducible first | exact HB.out | apply b8_37 | apply b6_37 | apply b7_37 | refine b4_37 ?_ GE656.out) | exact HB.out)) hb)
             have n4_ := aM_37 (hbox)
             have n5_ := aM_37 ((by rw [hg]; exact (b0_37 (by repeat (first | (with_reducible first | exact HB.out | apply b8_37 | apply b6_37 | apply b7_37 | refine b4_37 ?_ GE656.out) | exact HB.out))) : w.heap.size ≤ gb664))
             have n6_ := aM_37 ((by rw [hg]; exact (b0_37 (by repeat (first | (with_reducible first | exact HB.out | apply b8_37 | apply b6_37 | apply b7_37 | refine b4_37 ?_ GE656.out) | exact HB.out))) : w.heap.size ≤ gb664))
             have n7_ := aM_37 ((by rw [hg]; exact Nat.ne_of_lt (blk_lt (by exact BK656.out)) : gb656 ≠ gb664))
             have n8_ := aM_37 ((by rw [hg]; exact Nat.ne_of_gt (blk_lt (by exact BK656.out)) : gb664 ≠ gb656))
             clear HO652 HO655 BK656 HB
             have HO652 := n0_
             have HO655 := n1_
             have BK656 := n2_
             have HB := n3_
             have BK664 := n4_
             have GW664 := n5_
             have GE664 := n6_
             have NB656_664 := n7_
             have NB664_656 := n8_
             clear n0_ n1_ n2_ n3_ n4_ n5_ n6_ n7_ n8_
             clear hb hbox hg
             refine hK.out _ _ ⟨(blk_cell BK656.out 0).trans rfl, (blk_cell BK656.out 1).trans rfl⟩ (fun hHeld => ?_)
             clear hK K
             refine norm_ (a' := ?_) ?_ ?_
             rotate_left
             ·show Act.put _ (some 13) _ = _
              simp only [Act.put, l1_37, l2_37, l3_37, i64_w, i32_w]
              rfl
             refine one_ (i := 2) (N := some 42) #[true, true, true, true, true, false, false, true, false] rfl rfl (one_of HT_.out (by kernel_rfl)) (by decide) (fun K hK => ?_)
             refine Kd.R_lit_step k50 _ 50 ?hg (N := 42) ?hd (xs := ([] : List (S50))) (inner := []) (ok := fun _ => True) (okp := fun _ => True) ?hr ?hp (fun _ hk => hk) trivial (Below.refl _ _) (Nat.le_refl _) (by simp) ?_; (case hd => rfl); (case hg => rfl); (case hr => first | (go_simp; done) | (go_simp; rfl)); (case hp => exact (Reps.none _ _))
             intro v659 w73 ho74 hb hg_ hnew_
             clear hg_ hnew_
             (first | rw [← Ny658.out] at ho74 | (simp only [Int.reduceToNat] at ho74; rw [← Ny658.out] at ho74))
             have n0_ := aM_37 (Kd.V_elder' (by (with_reducible repeat (first | apply v1_37 | apply v2_37 | apply v3_37)); exact HO652.out) (Kd.R_base ho74) hb)
             have n1_ := aM_37 (r4_37 (by (with_reducible repeat (first | apply r1_37 | apply r2_37 | apply r3_37)); exact HO655.out) hb)
             have n2_ := aM_37 (Kd.R_lower ho74 (b0_37 (by repeat (first | (with_reducible first | exact HB.out | apply b8_37 | apply b6_37 | apply b7_37 | refine b4_37 ?_ GE656.out | refine b4_37 ?_ GE664.out) | exact HB.out))))
             have n3_ := aM_37 (b5_37 (by exact BK656.out) hb)
             have n4_ := aM_37 (b5_37 (by exact BK664.out) hb)
             have n5_ := aM_37 (b9_37 (by repeat (first | (with_reducible first | exact HB.out | apply b8_37 | apply b6_37 | apply b7_37 | refine b4_37 ?_ GE656.out | refine b4_37 ?_ GE664.out) | exact HB.out)) hb)
             clear HO652 HO655 BK656 BK664 HB
             have HO652 := n0_
             have HO655 := n1_
             have HO660 := n2_
             have BK656 := n3_
             have BK664 := n4_
             have HB := n5_
             clear n0_ n1_ n2_ n3_ n4_ n5_
             clear hb ho74
             refine hK.out _ _ ⟨(blk_cell BK656.out 0).trans rfl, (blk_cell BK656.out 1).trans rfl⟩ (fun hHeld => ?_)
             clear hK K
             refine norm_ (a' := ?_) ?_ ?_
             rotate_left
             ·show Act.put _ (some 42) _ = _
              simp only [Act.put, l1_37, l2_37, l3_37, i64_w, i32_w]
              rfl
             refine one_ (i := 5) (N := some 45) #[true, true, true, true, true, true, false, true, false] rfl rfl (one_of HT_.out (by kernel_rfl)) (by decide) (fun K hK => ?_)
             refine Kd.R_append_rows_step k50 (w0 := w) w.heap.size (by rfl) (.tmp 42) (.tmp 44) 22 50 (.agg #[(.int .i64 0), (.int .i64 0)]) 16 rfl Try.underlying22 info50 rfl (by decide) (by omega) v659 y658 t650 _ _ _ (fun _ => True) (fun _ => False) rfl rfl ?aO ?aR (fun _ _ h => h) (fun _ h => h.elim) ?aF ?aB ?aS ?aL ?_
             (case aR => repeat (first | exact (Kd.V_reads' HO652.out).2.2 | (with_reducible refine c3_37 ?_ _) | (with_reducible refine c4_37 ?_ _) | (with_reducible refine c5_37 ?_)))
             (case aB => exact (by repeat (first | (with_reducible first | exact HB.out | apply b8_37 | apply b6_37 | apply b7_37 | refine b4_37 ?_ GE656.out | refine b4_37 ?_ GE664.out) | exact HB.out)))
             (case aF => exact (fun _ _ => trivial))
             (case aO => exact (by (with_reducible repeat (first | apply r1_37 | apply r2_37 | apply r3_37)); exact HO660.out))
             (case aS => exact (b0_37 (by repeat (first | (with_reducible first | exact HB.out | apply b8_37 | apply b6_37 | apply b7_37 | refine b4_37 ?_ GE656.out | refine b4_37 ?_ GE664.out) | exact HB.out))))
             (case aL => have := LMc19.out; omega)
             intro v662 w75 ho hb hg hat
             rw [← Ny661.out] at ho
             have n0_ := aM_37 (Kd.V_afterv (ok := (fun k_ => some k_ ≠ (v654 : Value).ownBlock ∧ k_ ≠ gb656 ∧ k_ ≠ gb664)) (by (with_reducible repeat (first | apply v1_37 | apply v2_37 | apply v3_37)); exact v4_37 HO652.out (fun _ hk => ⟨⟨hk.1.1.1, ⟨hk.1.1.2, hk.1.2⟩⟩, hk.2⟩)) hg hat)
             have n1_ := aM_37 (Kd.R_over' (by (with_reducible repeat (first | apply r1_37 | apply r2_37 | apply r3_37)); exact HO655.out) (Kd.R_typed (by (with_reducible repeat (first | apply r1_37 | apply r2_37 | apply r3_37)); exact HO660.out)) (by decide) hg)
             have n2_ := aM_37 (blk_grown (g := gb656) (o := .cells #[.int .i64 t649, .slice Ao69 t650.length co69] 24 (0, 0)) (by exact BK656.out) hg (Kd.R_ne HO660.out BK656.out (by decide)))
             have n3_ := aM_37 (blk_grown (g := gb664) (o := .cells #[.int .i64 0, .slice none 0 0] 24 (0, 0)) (by exact BK664.out) hg (Kd.R_ne HO660.out BK664.out (by decide)))
             have n4_ := aM_37 (hb)
             have n5_ := aM_37 (ho)
             clear HO652 HO655 BK656 BK664 HB HO660
             have HO652 := n0_
             have HO655 := n1_
             have BK656 := n2_
             have BK664 := n3_
             have HB := n4_
             have HO663 := n5_
             clear n0_ n1_ n2_ n3_ n4_ n5_
             clear ho hb hg hat
             obtain ⟨Ao76, co76, eo76⟩ := Kd.R_slice HO663.out
             (first | subst eo76 | (injection eo76 with f1_ f2_ f3_; have f4_ := f1_.symm; have f5_ := f3_.symm; clear f1_ f2_ f3_; subst f4_; subst f5_))
             refine hK.out _ _ ⟨(blk_cell BK656.out 0).trans rfl, (blk_cell BK656.out 1).trans rfl⟩ (fun hHeld => ?_)
             clear hK K
             refine norm_ (a' := ?_) ?_ ?_
             rotate_left
             ·show Act.put _ (some 45) _ = _
              simp only [Act.put, l1_37, l2_37, l3_37, i64_w, i32_w]
              rfl
             refine pure_ (i := 6) (N := some 46) (v := ?_) (a' := ?_) #[true, true, true, true, true, true, true, true, false] rfl rfl (any_of HT_.out (by kernel_rfl)) (fun _ _ _ h => h) (Or.inl ⟨by rfl, ?_⟩) ?_ ?_
             rotate_left
             ·intro w'
              go_simp
              with_reducible rfl
             rotate_left
             ·simp only [Act.put, l1_37, l2_37, l3_37, i64_w, i32_w]
              rfl
             exact norm_ (by simp only [putAll, Act.put, l1_37, l2_37, l3_37]) (hCont (v659, .slice Ao76 y661.length co76, gb664) _ ⟨hHeld, (by (with_reducible repeat (first | apply v1_37 | apply v2_37 | apply v3_37)); exact v4_37 HO652.out (fun _ hk => ⟨hk.1.1, ⟨hk.2, ⟨hk.1.2.1, hk.1.2.2⟩⟩⟩)), (by (with_reducible repeat (first | apply r1_37 | apply r2_37 | apply r3_37)); exact HO655.out), (by (with_reducible repeat (first | apply r1_37 | apply r2_37 | apply r3_37)); exact HO663.out), (by exact BK656.out), (by exact BK664.out), GW664.out, GE664.out, NB656_664.out, NB664_656.out, (by repeat (first | (with_reducible first | exact HB.out | apply b8_37 | apply b6_37 | apply b7_37 | refine b4_37 ?_ GE656.out | refine b4_37 ?_ GE664.out) | exact HB.out))⟩)
           rintro ⟨v659, v662, gb664⟩ w77 ⟨hS_, h0_, h1_, h2_, h3_, h4_, h5_, h6_, h7_, h8_, h9_⟩
           have n0_ : Aside0 (Kd.V k50 50 w77 w.heap.size (fun k_ => some k_ ≠ (v654 : Value).ownBlock ∧ some k_ ≠ (v662 : Value).ownBlock ∧ k_ ≠ gb656 ∧ k_ ≠ gb664) (.slice Ao69 t650.length co69) t650) := ⟨h0_⟩
           have n1_ : Aside0 (Kd.R (Kd.int .i64) 3 w77 w.heap.size (fun _ => True) v654 t653) := ⟨h1_⟩
           have n2_ : Aside0 (Kd.R k50 50 w77 w.heap.size (fun _ => True) v662 y661) := ⟨h2_⟩
           have n3_ : Aside0 (w77.heap[gb656]? = some (.cells #[.int .i64 t649, .slice Ao69 t650.length co69] 24 (0, 0))) := ⟨h3_⟩
           have n4_ : Aside0 (w77.heap[gb664]? = some (.cells #[.int .i64 0, .slice none 0 0] 24 (0, 0))) := ⟨h4_⟩
           have n5_ : Aside0 (w.heap.size ≤ gb664) := ⟨h5_⟩
           have n6_ : Aside0 (w.heap.size ≤ gb664) := ⟨h6_⟩
           have n7_ : Aside0 (gb656 ≠ gb664) := ⟨h7_⟩
           have n8_ : Aside0 (gb664 ≠ gb656) := ⟨h8_⟩
           have n9_ : Aside0 (Below w.heap.size w w77) := ⟨h9_⟩
           clear HO652 HO655 BK656 HB
           clear h0_ h1_ h2_ h3_ h4_ h5_ h6_ h7_ h8_ h9_
           have HO652 := n0_
           have HO655 := n1_
           have HO663 := n2_
           have BK656 := n3_
           have BK664 := n4_
           have GW664 := n5_
           have GE664 := n6_
           have NB656_664 := n7_
           have NB664_656 := n8_
           have HB := n9_
           clear n0_ n1_ n2_ n3_ n4_ n5_ n6_ n7_ n8_ n9_
           have hHeld : w77.cell? ⟨gb656, 0, none⟩ = some (.int .i64 t649) ∧ w77.cell? ⟨gb656, 1, none⟩ = some (.slice Ao69 t650.length co69) := hS_
           obtain ⟨Ao78, co78, eo78⟩ := Kd.R_slice HO663.out
           (first | subst eo78 | (injection eo78 with f1_ f2_ f3_; have f4_ := f1_.symm; have f5_ := f3_.symm; clear f1_ f2_ f3_; subst f4_; subst f5_))
           refine norm_ (a' := ?_) ?_ ?_
           rotate_left
           ·simp only [putAll, Act.put, l1_37, l2_37, l3_37]
            rfl
           refine one_ (i := 8) (N := none) #[true, true, true, true, true, true, true, true, true] rfl rfl (one_of HT_.out (by kernel_rfl)) (by decide) (fun K hK => ?_)
           have hs79 : w77.cell? ⟨gb664, 0, none⟩ = some (.int .i64 0) := (blk_cell BK664.out 0).trans rfl
           have hfs79 := blk_frozen BK664.out 0
           have hns79_0 := NB656_664.out
           have hms79_0 := NB664_656.out
           have hs80 : w77.cell? ⟨gb664, 1, none⟩ = some (.slice none 0 0) := (blk_cell BK664.out 1).trans rfl
           have hfs80 := blk_frozen BK664.out 1
           have hns80_0 := NB656_664.out
           have hms80_0 := NB664_656.out
           refine skip_ (w1 := ?_) (by rfl) rfl ?_ ?_
           rotate_left
           ·go_simp
            rfl
           refine hK.out _ _ ⟨((cell_far (p := ⟨gb664, _, none⟩) NB656_664.out _).trans (((cell_far (p := ⟨gb664, _, none⟩) NB656_664.out _).trans (hHeld.1)))), ((cell_far (p := ⟨gb664, _, none⟩) NB656_664.out _).trans (((cell_far (p := ⟨gb664, _, none⟩) NB656_664.out _).trans (hHeld.2))))⟩ (fun hHeld => ?_)
           clear hK K
           refine done_ (done_of HT_.out (by kernel_rfl)) ?_
           have hnb81 := NB656_664.out
           have hnc81 := NB664_656.out
           obtain ⟨hcz82_0, hcz82_1, hfz82_0, hfz82_1⟩ := cells2_37 BK656.out
           have p665 : 0 ≤ ((ji20) : Int) := of_decide_eq_true (by first | (with_reducible assumption) | assumption)
           have q665 : (ji20) < (t650.length : Int) := of_decide_eq_true (by first | (with_reducible assumption) | assumption)
           obtain ⟨ad665, e665, hx665_0, hx665_1⟩ := at_T50 (Kd.V_reads' HO652.out).2.2 (ji20) p665 q665
           cases e665
           have hn665_0 : ad665.block ≠ gb664 := (by have z_ := V_okb HO652.out z50 (ji20) p665 q665 (by decide); first | exact z_.2.2.2 | exact z_.2.2.1 | exact z_.2.1 | exact z_.2.2 | exact z_.2 | exact z_.1)
           have hn665_1 : ad665.block ≠ gb664 := (by have z_ := V_okb HO652.out z50 (ji20) p665 q665 (by decide); first | exact z_.2.2.2 | exact z_.2.2.1 | exact z_.2.1 | exact z_.2.2 | exact z_.2 | exact z_.1)
           replace hx665_0 := (cell_far (p := ⟨gb664, 0, none⟩) (by first | (rw [add_block]; exact hn665_0) | (show (Addr.add _ _).block ≠ _; rw [add_block]; exact hn665_0) | exact hn665_0) (.int .i64 t649)).trans hx665_0
           replace hx665_1 := (cell_far (p := ⟨gb664, 0, none⟩) (by first | (rw [add_block]; exact hn665_0) | (show (Addr.add _ _).block ≠ _; rw [add_block]; exact hn665_0) | exact hn665_0) (.int .i64 t649)).trans hx665_1
           replace hx665_0 := (cell_far (p := ⟨gb664, 1, none⟩) (by first | (rw [add_block]; exact hn665_1) | (show (Addr.add _ _).block ≠ _; rw [add_block]; exact hn665_1) | exact hn665_1) (.slice Ao78 y661.length co78)).trans hx665_0
           replace hx665_1 := (cell_far (p := ⟨gb664, 1, none⟩) (by first | (rw [add_block]; exact hn665_1) | (show (Addr.add _ _).block ≠ _; rw [add_block]; exact hn665_1) | exact hn665_1) (.slice Ao78 y661.length co78)).trans hx665_1
           clear hn665_0 hn665_1
           replace p665 := eq_true p665
           replace q665 := eq_true q665
           try go_wp2_with (first | ((with_reducible refine gate_dst (N := 14) rfl ?_); refine box_event ?hg (N := 14) ?hd (cs := #[.int .i64 0, .int .i64 0]) (t := 50) ?hr ?_; (case hd => rfl); (case hg => rfl); (case hr => first | (go_simp; done) | (go_simp; rfl)); intro gb666 hg w83 hbox hb; have n0_ := aM_37 (v6_37 (Kd.V_elderB (by (with_reducible repeat (first | apply v1_37 | apply v2_37 | apply v3_37)); exact (v4_37 (v5_37 (p := ⟨gb664, 1, none⟩) (v5_37 (p := ⟨gb664, 0, none⟩) (v4_37 HO652.out (fun k_ hk => (⟨hk, hk.2.2.2⟩ : _ ∧ k_ ≠ gb664))) (fun _ hk => hk.2) (.int .i64 t649)) (fun _ hk => hk.2) (.slice Ao78 y661.length co78)) (fun _ h_ => h_.1))) gb666 (Nat.le_of_eq hg.symm)) hb); have n1_ := aM_37 (r4_37 (by (with_reducible repeat (first | apply r1_37 | apply r2_37 | apply r3_37)); exact (Kd.R_mono (Kd.R_far (p := ⟨gb664, 1, none⟩) (Kd.R_far (p := ⟨gb664, 0, none⟩) (Kd.R_types HO655.out BK664.out (by decide)) (fun _ hk => hk.2) (.int .i64 t649)) (fun _ hk => hk.2) (.slice Ao78 y661.length co78)) (fun _ h_ => h_.1))) hb); have n2_ := aM_37 (r4_37 (Kd.R_elderB (by (with_reducible repeat (first | apply r1_37 | apply r2_37 | apply r3_37)); exact (Kd.R_mono (Kd.R_far (p := ⟨gb664, 1, none⟩) (Kd.R_far (p := ⟨gb664, 0, none⟩) (Kd.R_types HO663.out BK664.out (by decide)) (fun _ hk => hk.2) (.int .i64 t649)) (fun _ hk => hk.2) (.slice Ao78 y661.length co78)) (fun _ h_ => h_.1))) gb666 (Nat.le_of_eq hg.symm)) hb); have n3_ := aM_37 (b5_37 (g := gb656) (o := .cells #[.int .i64 t649, .slice (some ad665) t650.length co69] 24 (0, 0)) (by (with_reducible repeat (first | refine b1_37 ?_ _ | refine b3_37 ?_ | refine b2_37 ?_ _)); refine c2_37 ?_ NB656_664.out _; (with_reducible repeat (first | refine b1_37 ?_ _ | refine b3_37 ?_ | refine b2_37 ?_ _)); refine c2_37 ?_ NB656_664.out _; (with_reducible repeat (first | refine b1_37 ?_ _ | refine b3_37 ?_ | refine b2_37 ?_ _)); exact BK656.out) hb); have n4_ := aM_37 (b5_37 (g := gb664) (o := .cells #[.int .i64 t649, .slice Ao78 y661.length co78] 24 (0, 0)) (by (with_reducible repeat (first | refine b1_37 ?_ _ | refine b3_37 ?_ | refine b2_37 ?_ _)); refine c1_37 (cs := #[.int .i64 t649, .slice none 0 0]) ?_ 1 _ rfl; (with_reducible repeat (first | refine b1_37 ?_ _ | refine b3_37 ?_ | refine b2_37 ?_ _)); refine c1_37 (cs := #[.int .i64 0, .slice none 0 0]) ?_ 0 _ rfl; (with_reducible repeat (first | refine b1_37 ?_ _ | refine b3_37 ?_ | refine b2_37 ?_ _)); exact BK664.out) hb); have n5_ := aM_37 (b9_37 (by repeat (first | (with_reducible first | exact HB.out | apply b8_37 | apply b6_37 | apply b7_37 | refine b4_37 ?_ GE656.out | refine b4_37 ?_ GE664.out) | exact HB.out)) hb); have n6_ := aM_37 (hbox); have n7_ := aM_37 ((by rw [hg]; exact (b0_37 (by repeat (first | (with_reducible first | exact HB.out | apply b8_37 | apply b6_37 | apply b7_37 | refine b4_37 ?_ GE656.out | refine b4_37 ?_ GE664.out) | exact HB.out))) : w.heap.size ≤ gb666)); have n8_ := aM_37 ((by rw [hg]; exact (b0_37 (by repeat (first | (with_reducible first | exact HB.out | apply b8_37 | apply b6_37 | apply b7_37 | refine b4_37 ?_ GE656.out | refine b4_37 ?_ GE664.out) | exact HB.out))) : w.heap.size ≤ gb666)); have n9_ := aM_37 ((by rw [hg]; exact Nat.ne_of_lt (blk_lt (g := gb656) (o := .cells #[.int .i64 t649, .slice (some ad665) t650.length co69] 24 (0, 0)) (by (with_reducible repeat (first | refine b1_37 ?_ _ | refine b3_37 ?_ | refine b2_37 ?_ _)); refine c2_37 ?_ NB656_664.out _; (with_reducible repeat (first | refine b1_37 ?_ _ | refine b3_37 ?_ | refine b2_37 ?_ _)); refine c2_37 ?_ NB656_664.out _; (with_reducible repeat (first | refine b1_37 ?_ _ | refine b3_37 ?_ | refine b2_37 ?_ _)); exact BK656.out)) : gb656 ≠ gb666)); have n10_ := aM_37 ((by rw [hg]; exact Nat.ne_of_gt (blk_lt (g := gb656) (o := .cells #[.int .i64 t649, .slice (some ad665) t650.length co69] 24 (0, 0)) (by (with_reducible repeat (first | refine b1_37 ?_ _ | refine b3_37 ?_ | refine b2_37 ?_ _)); refine c2_37 ?_ NB656_664.out _; (with_reducible repeat (first | refine b1_37 ?_ _ | refine b3_37 ?_ | refine b2_37 ?_ _)); refine c2_37 ?_ NB656_664.out _; (with_reducible repeat (first | refine b1_37 ?_ _ | refine b3_37 ?_ | refine b2_37 ?_ _)); exact BK656.out)) : gb666 ≠ gb656)); have n11_ := aM_37 ((by rw [hg]; exact Nat.ne_of_lt (blk_lt (g := gb664) (o := .cells #[.int .i64 t649, .slice Ao78 y661.length co78] 24 (0, 0)) (by (with_reducible repeat (first | refine b1_37 ?_ _ | refine b3_37 ?_ | refine b2_37 ?_ _)); refine c1_37 (cs := #[.int .i64 t649, .slice none 0 0]) ?_ 1 _ rfl; (with_reducible repeat (first | refine b1_37 ?_ _ | refine b3_37 ?_ | refine b2_37 ?_ _)); refine c1_37 (cs := #[.int .i64 0, .slice none 0 0]) ?_ 0 _ rfl; (with_reducible repeat (first | refine b1_37 ?_ _ | refine b3_37 ?_ | refine b2_37 ?_ _)); exact BK664.out)) : gb664 ≠ gb666)); have n12_ := aM_37 ((by rw [hg]; exact Nat.ne_of_gt (blk_lt (g := gb664) (o := .cells #[.int .i64 t649, .slice Ao78 y661.length co78] 24 (0, 0)) (by (with_reducible repeat (first | refine b1_37 ?_ _ | refine b3_37 ?_ | refine b2_37 ?_ _)); refine c1_37 (cs := #[.int .i64 t649, .slice none 0 0]) ?_ 1 _ rfl; (with_reducible repeat (first | refine b1_37 ?_ _ | refine b3_37 ?_ | refine b2_37 ?_ _)); refine c1_37 (cs := #[.int .i64 0, .slice none 0 0]) ?_ 0 _ rfl; (with_reducible repeat (first | refine b1_37 ?_ _ | refine b3_37 ?_ | refine b2_37 ?_ _)); exact BK664.out)) : gb666 ≠ gb664)); clear HO652 HO655 HO663 BK656 BK664 HB; have HO652 := n0_; have HO655 := n1_; have HO663 := n2_; have BK656 := n3_; have BK664 := n4_; have HB := n5_; have BK666 := n6_; have GW666 := n7_; have GE666 := n8_; have NB656_666 := n9_; have NB666_656 := n10_; have NB664_666 := n11_; have NB666_664 := n12_; clear n0_ n1_ n2_ n3_ n4_ n5_ n6_ n7_ n8_ n9_ n10_ n11_ n12_; clear hb hbox hg; have hnb84 := NB666_656.out; have hnc84 := NB656_666.out; have hnb85 := NB666_664.out; have hnc85 := NB664_666.out; obtain ⟨hcz86_0, hcz86_1, hfz86_0, hfz86_1⟩ := cells2_37 BK666.out) | ((with_reducible refine gate_store (t := 50) (p := 14) rfl ?_); refine store_event (t := 50) (p := 14) (v := ?vo_w87) (w1 := ((w83.setCell ⟨gb666, 0, none⟩ (.int .i64 ((rd_T50 t650 (ji20)).f0))).setCell ⟨gb666, 1, none⟩ (.int .i64 ((rd_T50 t650 (ji20)).f1)))) ?hg ?ho ?hn ?hr ?_; (case ho => rfl); (case hg => rfl); (case hn => rfl); (case hr => first | (go_simp; done) | (go_simp; rfl)); intro w87 hw; have n0_ : Aside0 (Kd.V k50 50 w87 w.heap.size (fun k_ => some k_ ≠ (v654 : Value).ownBlock ∧ some k_ ≠ (.slice Ao78 y661.length co78 : Value).ownBlock ∧ k_ ≠ gb656 ∧ k_ ≠ gb664 ∧ k_ ≠ gb666) (.slice (some ad665) t650.length co69) t650) := ⟨(by rw [hw]; exact (by (with_reducible repeat (first | apply v1_37 | apply v2_37 | apply v3_37)); exact v4_37 (v5_37 (p := ⟨gb666, 1, none⟩) (v5_37 (p := ⟨gb666, 0, none⟩) (v4_37 HO652.out (fun k_ hk => (⟨hk, hk.2⟩ : _ ∧ k_ ≠ gb666))) (fun _ hk => hk.2) (.int .i64 ((rd_T50 t650 (ji20)).f0))) (fun _ hk => hk.2) (.int .i64 ((rd_T50 t650 (ji20)).f1))) (fun _ hk => ⟨hk.1.1.1, ⟨hk.1.1.2.1, ⟨hk.1.1.2.2.1, ⟨hk.1.1.2.2.2, hk.1.2⟩⟩⟩⟩)))⟩; have n1_ : Aside0 (Kd.R (Kd.int .i64) 3 w87 w.heap.size (fun _ => True) v654 t653) := ⟨(by rw [hw]; exact (by (with_reducible repeat (first | apply r1_37 | apply r2_37 | apply r3_37)); exact Kd.R_mono (Kd.R_far (p := ⟨gb666, 1, none⟩) (Kd.R_far (p := ⟨gb666, 0, none⟩) (Kd.R_types HO655.out BK666.out (by decide)) (fun _ hk => hk.2) (.int .i64 ((rd_T50 t650 (ji20)).f0))) (fun _ hk => hk.2) (.int .i64 ((rd_T50 t650 (ji20)).f1))) (fun _ hk => trivial)))⟩; have n2_ : Aside0 (Kd.R k50 50 w87 w.heap.size (fun k_ => k_ ≠ gb666) (.slice Ao78 y661.length co78) y661) := ⟨(by rw [hw]; exact (by (with_reducible repeat (first | apply r1_37 | apply r2_37 | apply r3_37)); exact Kd.R_mono (Kd.R_far (p := ⟨gb666, 1, none⟩) (Kd.R_far (p := ⟨gb666, 0, none⟩) (Kd.R_mono HO663.out (fun k_ hk => (⟨hk, hk.2⟩ : _ ∧ k_ ≠ gb666))) (fun _ hk => hk.2) (.int .i64 ((rd_T50 t650 (ji20)).f0))) (fun _ hk => hk.2) (.int .i64 ((rd_T50 t650 (ji20)).f1))) (fun _ hk => hk.1.2)))⟩; have n3_ : Aside0 (w87.heap[gb656]? = some (.cells #[.int .i64 t649, .slice (some ad665) t650.length co69] 24 (0, 0))) := ⟨(by rw [hw]; exact (by (with_reducible repeat (first | refine b1_37 ?_ _ | refine b3_37 ?_ | refine b2_37 ?_ _)); refine c2_37 ?_ NB656_666.out _; (with_reducible repeat (first | refine b1_37 ?_ _ | refine b3_37 ?_ | refine b2_37 ?_ _)); refine c2_37 ?_ NB656_666.out _; (with_reducible repeat (first | refine b1_37 ?_ _ | refine b3_37 ?_ | refine b2_37 ?_ _)); exact BK656.out))⟩; have n4_ : Aside0 (w87.heap[gb664]? = some (.cells #[.int .i64 t649, .slice Ao78 y661.length co78] 24 (0, 0))) := ⟨(by rw [hw]; exact (by (with_reducible repeat (first | refine b1_37 ?_ _ | refine b3_37 ?_ | refine b2_37 ?_ _)); refine c2_37 ?_ NB664_666.out _; (with_reducible repeat (first | refine b1_37 ?_ _ | refine b3_37 ?_ | refine b2_37 ?_ _)); refine c2_37 ?_ NB664_666.out _; (with_reducible repeat (first | refine b1_37 ?_ _ | refine b3_37 ?_ | refine b2_37 ?_ _)); exact BK664.out))⟩; have n5_ : Aside0 (w87.heap[gb666]? = some (.cells #[.int .i64 ((rd_T50 t650 (ji20)).f0), .int .i64 ((rd_T50 t650 (ji20)).f1)] 50 (0, 0))) := ⟨(by rw [hw]; exact (by (with_reducible repeat (first | refine b1_37 ?_ _ | refine b3_37 ?_ | refine b2_37 ?_ _)); refine c1_37 (cs := #[.int .i64 ((rd_T50 t650 (ji20)).f0), .int .i64 0]) ?_ 1 _ rfl; (with_reducible repeat (first | refine b1_37 ?_ _ | refine b3_37 ?_ | refine b2_37 ?_ _)); refine c1_37 (cs := #[.int .i64 0, .int .i64 0]) ?_ 0 _ rfl; (with_reducible repeat (first | refine b1_37 ?_ _ | refine b3_37 ?_ | refine b2_37 ?_ _)); exact BK666.out))⟩; have n6_ : Aside0 (Below w.heap.size w w87) := ⟨(by rw [hw]; exact (by repeat (first | (with_reducible first | exact HB.out | apply b8_37 | apply b6_37 | apply b7_37 | refine b4_37 ?_ GE656.out | refine b4_37 ?_ GE664.out | refine b4_37 ?_ GE666.out) | exact HB.out)))⟩; clear hw HO652 HO655 HO663 BK656 BK664 BK666 HB; have HO652 := n0_; have HO655 := n1_; have HO663 := n2_; have BK656 := n3_; have BK664 := n4_; have BK666 := n5_; have HB := n6_; clear n0_ n1_ n2_ n3_ n4_ n5_ n6_; obtain ⟨hcz88_0, hcz88_1, hfz88_0, hfz88_1⟩ := cells2_37 BK664.out; obtain ⟨hcz89_0, hcz89_1, hfz89_0, hfz89_1⟩ := cells2_37 BK666.out; have p60 : 0 ≤ ((ji20) : Int) := of_decide_eq_true (by first | (with_reducible assumption) | assumption); have q60 : ((ji20) : Int) < ((y661.length : Int) : Int) := of_decide_eq_true (by first | (with_reducible assumption) | assumption); obtain ⟨go60, co60, eo60, gb60, gl60, cl60, HG60⟩ := Kd.R_form HO663.out (by omega); (first | cases eo60 | (injection eo60 with ea_ en_ ec_; (first | subst ea_ | (injection ea_ with ea_; subst ea_)); subst ec_; clear en_)); have GB60 := aM_37 gb60; have GG60 := aM_37 HG60; clear gb60 gl60 HG60; obtain ⟨ce60, hcl60, hM60, hcc60, hfr60⟩ := Kd.R_elem HO663.out z50 ((ji20) : Int) p60 q60; obtain rfl := k50_openM hM60; have hx60_0 : w87.cell? ⟨go60, ((ji20) : Int).toNat * 2, none⟩ = some (.int .i64 ((rd_T50 y661 (ji20)).f0)) := hcc60 0 _ rfl; have hx60_1 : w87.cell? ⟨go60, ((ji20) : Int).toNat * 2 + 1, none⟩ = some (.int .i64 ((rd_T50 y661 (ji20)).f1)) := hcc60 1 _ rfl; have hf60_0 : w87.frozen? ⟨go60, ((ji20) : Int).toNat * 2, none⟩ = false := hfr60 0; have hf60_1 : w87.frozen? ⟨go60, ((ji20) : Int).toNat * 2 + 1, none⟩ = false := hfr60 1; clear hcl60 hcc60 hfr60 hM60; replace p60 := eq_true p60; replace q60 := eq_true q60; have HX90 := aM_37 (show Kd.R k50 50 w87 w.heap.size (fun k_ => k_ ≠ gb666) (.slice (some ⟨go60, 0, none⟩) y661.length co78) y661 from (by (with_reducible repeat (first | apply r1_37 | apply r2_37 | apply r3_37)); exact HO663.out)); obtain ⟨ce90, hcl90, hM90, hcc90, hfr90⟩ := Kd.R_elem HX90.out z50 ((ji20) : Int) (of_decide_eq_true (by first | (with_reducible assumption) | assumption)) (by have h_ : ((ji20) : Int) < ((y661.length : Int) : Int) := of_decide_eq_true (by first | (with_reducible assumption) | assumption); first | exact h_ | (have e_ := (Kd.R_reads' HO663.out).1; omega) | simpa using h_); obtain rfl := k50_openM hM90; have HP90 := Kd.R_seg HX90.out ((ji20) : Int) (of_decide_eq_true (by first | (with_reducible assumption) | assumption)) (by have h_ : ((ji20) : Int) < ((y661.length : Int) : Int) := of_decide_eq_true (by first | (with_reducible assumption) | assumption); first | exact h_ | (have e_ := (Kd.R_reads' HO663.out).1; omega) | simpa using h_) (seg := [.int .i64 ((rd_T50 t650 (ji20)).f1), .int .i64 ((rd_T50 t650 (ji20)).f0)]) (j := 0) hcl90 hcc90 (show 2 ≤ 2 from by decide) (x' := (⟨(rd_T50 t650 (ji20)).f1, (rd_T50 t650 (ji20)).f0⟩ : S50)) (k50_mkM _ _ _ (⟨(rd_T50 t650 (ji20)).f1, (rd_T50 t650 (ji20)).f0⟩ : S50) ) (fun _ hk => hk); have hx90_0 := hcc90 0 _ rfl; (try simp only [show (k50).sz = 2 from rfl, Nat.mul_one, Nat.add_zero] at hx90_0); have hf90_0 := hfr90 0; (try simp only [show (k50).sz = 2 from rfl, Nat.mul_one, Nat.add_zero] at hf90_0); have hx90_1 := hcc90 1 _ rfl; (try simp only [show (k50).sz = 2 from rfl, Nat.mul_one, Nat.add_zero] at hx90_1); have hf90_1 := hfr90 1; (try simp only [show (k50).sz = 2 from rfl, Nat.mul_one, Nat.add_zero] at hf90_1); clear hcl90 hcc90 hfr90 hM90) | ((with_reducible refine gate_store (t := 50) (p := 72) rfl ?_); refine store_event (t := 50) (p := 72) (v := ?vo_w91) (w1 := ((w87.setCell ⟨go60, ((ji20) : Int).toNat * 2, none⟩ (.int .i64 ((rd_T50 t650 (ji20)).f1))).setCell ⟨go60, ((ji20) : Int).toNat * 2 + 1, none⟩ (.int .i64 ((rd_T50 t650 (ji20)).f0)))) ?hg ?ho ?hn ?hr ?_; (case ho => rfl); (case hg => rfl); (case hn => rfl); (case hr => first | (go_simp; done) | (go_simp; rfl)); intro w91 hw; have hg : w87.grownBy w91 (some go60) := (by rw [hw]; exact HP90.2); have hp_ : Kd.R k50 50 w91 w.heap.size (fun k_ => k_ ≠ gb666) (.slice (some ⟨go60, 0, none⟩) y661.length co78) y672 := (by rw [hw, Ny672.out]; exact HP90.1); clear HP90; have n0_ := aM_37 (Kd.V_afterv (v := (.slice (some ⟨go60, 0, none⟩) y661.length co78)) (v1 := (.slice (some ⟨go60, 0, none⟩) y661.length co78)) (ok := (fun k_ => some k_ ≠ (v654 : Value).ownBlock ∧ k_ ≠ gb656 ∧ k_ ≠ gb664 ∧ k_ ≠ gb666)) (by (with_reducible repeat (first | apply v1_37 | apply v2_37 | apply v3_37)); exact v4_37 HO652.out (fun _ hk => ⟨⟨hk.1, ⟨hk.2.2.1, ⟨hk.2.2.2.1, hk.2.2.2.2⟩⟩⟩, hk.2.1⟩)) hg (.inl rfl)); have n1_ := aM_37 (Kd.R_over' (v := (.slice (some ⟨go60, 0, none⟩) y661.length co78)) (by (with_reducible repeat (first | apply r1_37 | apply r2_37 | apply r3_37)); exact HO655.out) (Kd.R_typed HO663.out) (by decide) hg); have n2_ := aM_37 (blk_grown (g := gb656) (o := .cells #[.int .i64 t649, .slice (some ad665) t650.length co69] 24 (0, 0)) (by exact BK656.out) hg (Kd.R_ne HO663.out BK656.out (by decide))); have n3_ := aM_37 (hp_); have n4_ := aM_37 (blk_grown (g := gb664) (o := .cells #[.int .i64 t649, .slice (some ⟨go60, 0, none⟩) y661.length co78] 24 (0, 0)) (by exact BK664.out) hg (Kd.R_ne HO663.out BK664.out (by decide))); have n5_ := aM_37 (blk_grown (g := gb666) (o := .cells #[.int .i64 ((rd_T50 t650 (ji20)).f0), .int .i64 ((rd_T50 t650 (ji20)).f1)] 50 (0, 0)) (by exact BK666.out) hg (Kd.R_away HO663.out (fun _ hk => hk))); have n6_ := aM_37 ((by rw [hw]; exact b4_37 (b4_37 (HB.out) GB60.out) GB60.out : Below w.heap.size w w91)); clear HO652 HO655 BK656 HO663 BK664 BK666 HB; have HO652 := n0_; have HO655 := n1_; have BK656 := n2_; have HO663 := n3_; have BK664 := n4_; have BK666 := n5_; have HB := n6_; clear n0_ n1_ n2_ n3_ n4_ n5_ n6_; clear hg hw hp_; obtain ⟨hcz92_0, hcz92_1, hfz92_0, hfz92_1⟩ := cells2_37 BK664.out) | (go_at_call 12; refine calls_of_args (args' := #[.agg #[.int .i64 t649, .slice (some ⟨go60, 0, none⟩) y672.length co78]]) (by first | (rw [show y672.length = y661.length from (Kd.R_reads' HO663.out).1.symm] <;> rfl) | rfl) ?_; (with_reducible refine (aig_Right.calls k t649 _ _ y672 false _ ?side1 ?side2 A62.out).mono ?_); (case side1 => repeat (first | exact (Kd.R_reads' HO663.out).2.2 | (with_reducible refine c3_37 ?_ _) | (with_reducible refine c4_37 ?_ _) | (with_reducible refine c5_37 ?_))); (case side2 => rw [show y672.length = y661.length from (Kd.R_reads' HO663.out).1.symm]; exact (Kd.R_reads' HO663.out).2.1); rintro e w93 ⟨rfl, hb⟩; have n0_ := aM_37 (v6_37 (by (with_reducible repeat (first | apply v1_37 | apply v2_37 | apply v3_37)); exact HO652.out) hb); have n1_ := aM_37 (r4_37 (by (with_reducible repeat (first | apply r1_37 | apply r2_37 | apply r3_37)); exact HO655.out) hb); have n2_ := aM_37 (r4_37 (by (with_reducible repeat (first | apply r1_37 | apply r2_37 | apply r3_37)); exact HO663.out) hb); have n3_ := aM_37 (b5_37 (by exact BK656.out) hb); have n4_ := aM_37 (b5_37 (by exact BK664.out) hb); have n5_ := aM_37 (b5_37 (by exact BK666.out) hb); have n6_ := aM_37 (b9_37 (by repeat (first | (with_reducible first | exact HB.out | apply b8_37 | apply b6_37 | apply b7_37 | refine b4_37 ?_ GE656.out | refine b4_37 ?_ GE664.out | refine b4_37 ?_ GE666.out) | exact HB.out)) hb); clear HO652 HO655 HO663 BK656 BK664 BK666 HB; have HO652 := n0_; have HO655 := n1_; have HO663 := n2_; have BK656 := n3_; have BK664 := n4_; have BK666 := n5_; have HB := n6_; clear n0_ n1_ n2_ n3_ n4_ n5_ n6_; (try clear hb); (try clear hb2); (try clear hk); (try clear hi); obtain ⟨hcz94_0, hcz94_1, hfz94_0, hfz94_1⟩ := cells2_37 BK656.out) | (go_at_call 12; (with_reducible refine (aig_Right.calls k t649 _ _ t650 t674 _ ?side1 ?side2 A64.out).mono ?_); (case side1 => repeat (first | exact (Kd.V_reads' HO652.out).2.2 | (with_reducible refine c3_37 ?_ _) | (with_reducible refine c4_37 ?_ _) | (with_reducible refine c5_37 ?_))); (case side2 => exact (Kd.V_reads' HO652.out).2.1); rintro e w95 ⟨rfl, hb⟩; have n0_ := aM_37 (v6_37 (by (with_reducible repeat (first | apply v1_37 | apply v2_37 | apply v3_37)); exact HO652.out) hb); have n1_ := aM_37 (r4_37 (by (with_reducible repeat (first | apply r1_37 | apply r2_37 | apply r3_37)); exact HO655.out) hb); have n2_ := aM_37 (r4_37 (by (with_reducible repeat (first | apply r1_37 | apply r2_37 | apply r3_37)); exact HO663.out) hb); have n3_ := aM_37 (b5_37 (by exact BK656.out) hb); have n4_ := aM_37 (b5_37 (by exact BK664.out) hb); have n5_ := aM_37 (b5_37 (by exact BK666.out) hb); have n6_ := aM_37 (b9_37 (by repeat (first | (with_reducible first | exact HB.out | apply b8_37 | apply b6_37 | apply b7_37 | refine b4_37 ?_ GE656.out | refine b4_37 ?_ GE664.out | refine b4_37 ?_ GE666.out) | exact HB.out)) hb); clear HO652 HO655 HO663 BK656 BK664 BK666 HB; have HO652 := n0_; have HO655 := n1_; have HO663 := n2_; have BK656 := n3_; have BK664 := n4_; have BK666 := n5_; have HB := n6_; clear n0_ n1_ n2_ n3_ n4_ n5_ n6_; (try clear hb); (try clear hb2); (try clear hk); (try clear hi)))
           go_ret
           exact ⟨by first | rfl | (simp [errW_none, errW_some] <;> rfl) | (simp only [← hji20]; first | rfl | (simp [errW_none, errW_some] <;> rfl)) | (simp [*, errW_none, errW_some] <;> rfl), by repeat (first | (with_reducible first | exact HB.out | apply b8_37 | apply b6_37 | apply b7_37 | refine b4_37 ?_ GE656.out | refine b4_37 ?_ GE664.out | refine b4_37 ?_ GE666.out) | exact HB.out)⟩
         ·replace c61 := Bool.eq_false_iff.mpr c61
          subst c61
          have H1 : (none) = some r := by rw [if_neg (show ¬ (false = true) by decide)] at H; exact H
          clear H
          have H := H1
          clear H1
          exact absurd H (by simp)
        ·rw [if_neg c59] at H
         exact absurd H (by simp)
       ·rw [if_neg c58] at H
        have c58b0 : ((Int.tmod a3 4) == 1) = false := beq_eq_false_iff_ne.mpr c58
        have c58b1 : ((Int.tmod a3 4) != 1) = true := bne_iff_ne.mpr c58
        by_cases c96 : (Int.tmod a3 4) = 2
        ·rw [if_pos c96] at H
         have c96b0 : ((Int.tmod a3 4) == 2) = true := beq_iff_eq.mpr c96
         have c96b1 : ((Int.tmod a3 4) != 2) = false := bne_eq_false_iff_eq.mpr c96
         clear c96
         by_cases c97 : (ji20) < (y661.length : Int)
         ·rw [if_pos c97] at H
          have c97b0 : decide ((ji20) < (y661.length : Int)) = true := decide_eq_true c97
          clear c97
          obtain ⟨y675, hy675⟩ : ∃ y_ : List (S50), y_ = (y661.set ((ji20) : Int).toNat (⟨(rd_T50 t650 (ji20)).f0, wrap64 (2 * (wrap64 ((wrap64 (t649 + 1)) + (ji20))))⟩ : S50)) := ⟨_, rfl⟩
          replace H : (if t647 = true then ((aig_Right.f k t649 y675).bind fun t676 => (if t676 = true then (none) else ((aig_Right.f k t649 t650).bind fun t677 => (some t677)))) else (none)) = some r := by first | (rw [hy675]; with_reducible exact H) | (have H2_ := (Option.bind_some _ _).symm.trans H; rw [hy675]; with_reducible exact H2_) | (have H2_ := (Option.bind_some _ _).symm.trans H; with_reducible exact H2_) | with_reducible exact H | (rw [hy675]; exact H) | exact H
          have Ny675 := aM_37 hy675
          clear hy675
          by_cases c99 : t647 = true
          ·subst c99
           have H1 : ((aig_Right.f k t649 y675).bind fun t676 => (if t676 = true then (none) else ((aig_Right.f k t649 t650).bind fun t677 => (some t677)))) = some r := by rw [if_pos rfl] at H; exact H
           clear H
           have H := H1
           clear H1
           replace H := Option.bind_eq_some_iff.mp H
           obtain ⟨t676, A1000, H⟩ := H
           replace H : (if t676 = true then (none) else ((aig_Right.f k t649 t650).bind fun t677 => (some t677))) = some r := H
           have A100 := aM_37 A1000
           clear A1000
           by_cases c101 : t676 = true
           ·subst c101
            have H1 : (none) = some r := by rw [if_pos rfl] at H; exact H
            clear H
            have H := H1
            clear H1
            exact absurd H (by simp)
           ·replace c101 := Bool.eq_false_iff.mpr c101
            subst c101
            have H1 : ((aig_Right.f k t649 t650).bind fun t677 => (some t677)) = some r := by rw [if_neg (show ¬ (false = true) by decide)] at H; exact H
            clear H
            have H := H1
            clear H1
            replace H := Option.bind_eq_some_iff.mp H
            obtain ⟨t677, A1020, H⟩ := H
            replace H : (some t677) = some r := H
            have A102 := aM_37 A1020
            clear A1020
            obtain rfl := Option.some.inj H
            go_enter Try.func8, Try.ntmps8
            try go_wp2_with (first | ((with_reducible refine gate_callee (f := 10) rfl ?_); refine goesL_ (some 15) rfl rfl Try.func10 (by kernel_rfl) rfl #[] rfl (by (try simp only [List.map_toArray, List.map_cons, List.map_nil]); first | done | rfl | (simp only [List.length_drop, List.length_take]; rfl)) ?_; (with_reducible refine (proofmarklaw13_head.calls k  true _ A5.out).mono ?_); rintro e w103 ⟨rfl, hb⟩; refine ⟨_, rfl, ?_⟩; have n0_ := aM_37 (b9_37 (by repeat (first | (with_reducible first | exact HB.out | apply b8_37 | apply b6_37 | apply b7_37) | exact HB.out)) hb); clear HB; have HB := n0_; clear n0_; (try clear hb); (try clear hb2); (try clear hk); (try clear hi)) | ((with_reducible refine gate_callee (f := 11) rfl ?_); refine goesL_ (some 17) rfl rfl Try.func11 (by kernel_rfl) rfl #[.slice A1 l1.length c1] rfl (by (try simp only [List.map_toArray, List.map_cons, List.map_nil]); first | done | rfl | (simp only [List.length_drop, List.length_take]; rfl)) ?_; (with_reducible refine (proofmarklaw13_Great.calls _ _ l1 false _ ?side1 ?side2 A6.out).mono ?_); (case side1 => repeat (first | exact (Kd.C_below HR1.out HB.out) | (with_reducible refine c3_37 ?_ _) | (with_reducible refine c4_37 ?_ _) | (with_reducible refine c5_37 ?_))); (case side2 => exact HC1.out); rintro e w' ⟨rfl, ⟨nd, rfl⟩⟩; refine ⟨_, rfl, ?_⟩; (try (rw [drewN_self w103]; generalize hq_ : World.drewN w103 _ = w103; have n0_ : Aside0 (Below w.heap.size w w103) := ⟨by rw [← hq_]; exact (by repeat (first | (with_reducible first | exact HB.out | apply b8_37 | apply b6_37 | apply b7_37) | exact HB.out))⟩; clear HB hq_; have HB := n0_; clear n0_))) | ((with_reducible refine gate_callee (f := 14) rfl ?_); refine goesL_ (some 22) rfl rfl Try.func14 (by kernel_rfl) rfl #[.int .u8 a0, .slice A1 l1.length c1] rfl (by (try simp only [List.map_toArray, List.map_cons, List.map_nil]); first | done | rfl | (simp only [List.length_drop, List.length_take]; rfl)) ?_; (with_reducible refine (proofmarklaw13_Made.calls k a0 _ _ l1 t649 t650 t653 _ ?side1 ?side2 A9.out).mono ?_); (case side1 => repeat (first | exact (Kd.C_below HR1.out HB.out) | (with_reducible refine c3_37 ?_ _) | (with_reducible refine c4_37 ?_ _) | (with_reducible refine c5_37 ?_))); (case side2 => exact HC1.out); rintro e w104 ⟨v651, v654, rfl, ho0, ho1, hb⟩; refine ⟨_, rfl, ?_⟩; have n0_ := aM_37 (Kd.V_lower (v4_37 (ok' := fun k_ => some k_ ≠ (v654 : Value).ownBlock) ho0 (fun k_ hk_ => hk_.2)) (b0_37 (by repeat (first | (with_reducible first | exact HB.out | apply b8_37 | apply b6_37 | apply b7_37) | exact HB.out)))); have n1_ := aM_37 (Kd.R_lower (Kd.R_mono (ok' := fun k_ => True) ho1 (fun _ hk_ => trivial)) (b0_37 (by repeat (first | (with_reducible first | exact HB.out | apply b8_37 | apply b6_37 | apply b7_37) | exact HB.out)))); have n2_ := aM_37 (b9_37 (by repeat (first | (with_reducible first | exact HB.out | apply b8_37 | apply b6_37 | apply b7_37) | exact HB.out)) hb); clear HB; have HO652 := n0_; have HO655 := n1_; have HB := n2_; clear n0_ n1_ n2_; (try clear hb); (try clear hb2); (try clear hk); (try clear hi); (try clear ho0); (try clear ho1)) | ((with_reducible refine gate_dst (N := 10) rfl ?_); refine box_event ?hg (N := 10) ?hd (cs := #[.int .i64 0, .slice none 0 0]) (t := 24) ?hr ?_; (case hd => rfl); (case hg => rfl); (case hr => first | (go_simp; done) | (go_simp; rfl)); intro gb656 hg w105 hbox hb; have n0_ := aM_37 (v6_37 (Kd.V_elderB (by (with_reducible repeat (first | apply v1_37 | apply v2_37 | apply v3_37)); exact HO652.out) gb656 (Nat.le_of_eq hg.symm)) hb); have n1_ := aM_37 (r4_37 (by (with_reducible repeat (first | apply r1_37 | apply r2_37 | apply r3_37)); exact HO655.out) hb); have n2_ := aM_37 (b9_37 (by repeat (first | (with_reducible first | exact HB.out | apply b8_37 | apply b6_37 | apply b7_37) | exact HB.out)) hb); have n3_ := aM_37 (hbox); have n4_ := aM_37 ((by rw [hg]; exact (b0_37 (by repeat (first | (with_reducible first | exact HB.out | apply b8_37 | apply b6_37 | apply b7_37) | exact HB.out))) : w.heap.size ≤ gb656)); have n5_ := aM_37 ((by rw [hg]; exact (b0_37 (by repeat (first | (with_reducible first | exact HB.out | apply b8_37 | apply b6_37 | apply b7_37) | exact HB.out))) : w.heap.size ≤ gb656)); clear HO652 HO655 HB; have HO652 := n0_; have HO655 := n1_; have HB := n2_; have BK656 := n3_; have GW656 := n4_; have GE656 := n5_; clear n0_ n1_ n2_ n3_ n4_ n5_; clear hb hbox hg; obtain ⟨hcz106_0, hcz106_1, hfz106_0, hfz106_1⟩ := cells2_37 BK656.out; obtain ⟨Ao107, co107, eo107⟩ := Kd.V_slice HO652.out; subst eo107))
            have n0_ : Aside0 (Kd.V k50 50 ((w105.setCell ⟨gb656, 0, none⟩ (.int .i64 t649)).setCell ⟨gb656, 1, none⟩ (.slice Ao107 t650.length co107)) w.heap.size (fun k_ => some k_ ≠ (v654 : Value).ownBlock ∧ k_ ≠ gb656) (.slice Ao107 t650.length co107) t650) := ⟨by (with_reducible repeat (first | apply v1_37 | apply v2_37 | apply v3_37)); exact v4_37 (v5_37 (p := ⟨gb656, 1, none⟩) (v5_37 (p := ⟨gb656, 0, none⟩) (v4_37 HO652.out (fun k_ hk => (⟨hk, hk.2⟩ : _ ∧ k_ ≠ gb656))) (fun _ hk => hk.2) (.int .i64 t649)) (fun _ hk => hk.2) (.slice Ao107 t650.length co107)) (fun _ hk => ⟨hk.1.1, hk.1.2⟩)⟩
            have n1_ : Aside0 (Kd.R (Kd.int .i64) 3 ((w105.setCell ⟨gb656, 0, none⟩ (.int .i64 t649)).setCell ⟨gb656, 1, none⟩ (.slice Ao107 t650.length co107)) w.heap.size (fun _ => True) v654 t653) := ⟨by (with_reducible repeat (first | apply r1_37 | apply r2_37 | apply r3_37)); exact Kd.R_mono (Kd.R_far (p := ⟨gb656, 1, none⟩) (Kd.R_far (p := ⟨gb656, 0, none⟩) (Kd.R_types HO655.out BK656.out (by decide)) (fun _ hk => hk.2) (.int .i64 t649)) (fun _ hk => hk.2) (.slice Ao107 t650.length co107)) (fun _ hk => trivial)⟩
            have n2_ : Aside0 (((w105.setCell ⟨gb656, 0, none⟩ (.int .i64 t649)).setCell ⟨gb656, 1, none⟩ (.slice Ao107 t650.length co107)).heap[gb656]? = some (.cells #[.int .i64 t649, .slice Ao107 t650.length co107] 24 (0, 0))) := ⟨by (with_reducible repeat (first | refine b1_37 ?_ _ | refine b3_37 ?_ | refine b2_37 ?_ _)); refine c1_37 (cs := #[.int .i64 t649, .slice none 0 0]) ?_ 1 _ rfl; (with_reducible repeat (first | refine b1_37 ?_ _ | refine b3_37 ?_ | refine b2_37 ?_ _)); refine c1_37 (cs := #[.int .i64 0, .slice none 0 0]) ?_ 0 _ rfl; (with_reducible repeat (first | refine b1_37 ?_ _ | refine b3_37 ?_ | refine b2_37 ?_ _)); exact BK656.out⟩
            have n3_ : Aside0 (Below w.heap.size w ((w105.setCell ⟨gb656, 0, none⟩ (.int .i64 t649)).setCell ⟨gb656, 1, none⟩ (.slice Ao107 t650.length co107))) := ⟨by repeat (first | (with_reducible first | exact HB.out | apply b8_37 | apply b6_37 | apply b7_37 | refine b4_37 ?_ GE656.out) | exact HB.out)⟩
            (try clear HO652)
            (try clear HO655)
            (try clear BK656)
            (try clear HB)
            generalize ((w105.setCell ⟨gb656, 0, none⟩ (.int .i64 t649)).setCell ⟨gb656, 1, none⟩ (.slice Ao107 t650.length co107)) = w108 at n0_ n1_ n2_ n3_ ⊢
            have HO652 := n0_
            have HO655 := n1_
            have BK656 := n2_
            have HB := n3_
            clear n0_ n1_ n2_ n3_
            have n0_ := aM_37 (v3_37 HO652.out)
            have n1_ := aM_37 (r3_37 HO655.out)
            have n2_ := aM_37 (b3_37 BK656.out)
            have n3_ := aM_37 (b7_37 HB.out)
            clear HO652 HO655 BK656 HB
            have HO652 := n0_
            have HO655 := n1_
            have BK656 := n2_
            have HB := n3_
            clear n0_ n1_ n2_ n3_
            refine start_ (n := 9) (S := fun w' => w'.cell? ⟨gb656, 0, none⟩ = some (.int .i64 t649) ∧ w'.cell? ⟨gb656, 1, none⟩ = some (.slice Ao107 t650.length co107)) (ds := []) #[false, false, false, false, false, false, false, false, false] (by kernel_rfl) rfl rfl ⟨(blk_cell BK656.out 0).trans rfl, (blk_cell BK656.out 1).trans rfl⟩ (fun hHeld => ?_); refine with_tabW proofmarklaw13_AigOdd.tab8 proofmarklaw13_AigOdd.bits8 (fun HT_ HW_ => ?_)
            generalize w108.drew = w109 at HO652 HO655 BK656 HB hHeld ⊢
            refine pure_ (i := 0) (N := some 40) (v := ?_) (a' := ?_) #[true, false, false, false, false, false, false, false, false] rfl rfl (any_of HT_.out (by kernel_rfl)) (fun _ _ _ h => h) (Or.inl ⟨by rfl, ?_⟩) ?_ ?_
            rotate_left
            ·intro w'
             go_simp
             with_reducible rfl
            rotate_left
            ·simp only [Act.put, l1_37, l2_37, l3_37, i64_w, i32_w]
             rfl
            refine pure_ (i := 3) (N := some 43) (v := ?_) (a' := ?_) #[true, false, false, true, false, false, false, false, false] rfl rfl (any_of HT_.out (by kernel_rfl)) (fun _ _ _ h => h) (Or.inl ⟨by rfl, ?_⟩) ?_ ?_
            rotate_left
            ·intro w'
             go_simp
             with_reducible rfl
            rotate_left
            ·simp only [Act.put, l1_37, l2_37, l3_37, i64_w, i32_w]
             rfl
            refine take_ (i := 1) (N := some 41) (v := ?_) (a' := ?_) #[true, true, false, true, false, false, false, false, false] rfl rfl (take_ofW HT_.out HW_.out (by kernel_rfl)) (fun _ _ _ h => h) (Or.inl ⟨by rfl, ?_⟩) hHeld ?_ ?_
            rotate_left
            ·rintro w' ⟨s0, s1⟩
             go_simp
             with_reducible rfl
            rotate_left
            ·simp only [Act.put, l1_37, l2_37, l3_37, i64_w, i32_w]
             rfl
            refine take_ (i := 4) (N := some 44) (v := ?_) (a' := ?_) #[true, true, false, true, true, false, false, false, false] rfl rfl (take_ofW HT_.out HW_.out (by kernel_rfl)) (fun _ _ _ h => h) (Or.inl ⟨by rfl, ?_⟩) hHeld ?_ ?_
            rotate_left
            ·rintro w' ⟨s0, s1⟩
             go_simp
             with_reducible rfl
            rotate_left
            ·simp only [Act.put, l1_37, l2_37, l3_37, i64_w, i32_w]
             rfl
            refine join_ (σ := Value × Value × Nat) 1 #[true, true, true, true, true, true, true, true, false] (fun s_ => [(42, s_.1), (45, s_.2.1), (13, .pointer (some ⟨s_.2.2, 0, none⟩)), (46, .agg #[.int .i64 t649, s_.2.1])]) (fun s_ w' => (w'.cell? ⟨gb656, 0, none⟩ = some (.int .i64 t649) ∧ w'.cell? ⟨gb656, 1, none⟩ = some (.slice Ao107 t650.length co107)) ∧ (Kd.V k50 50 w' w.heap.size (fun k_ => some k_ ≠ (v654 : Value).ownBlock ∧ some k_ ≠ (s_.2.1 : Value).ownBlock ∧ k_ ≠ gb656 ∧ k_ ≠ s_.2.2) (.slice Ao107 t650.length co107) t650) ∧ (Kd.R (Kd.int .i64) 3 w' w.heap.size (fun _ => True) v654 t653) ∧ (Kd.R k50 50 w' w.heap.size (fun _ => True) s_.2.1 y661) ∧ (w'.heap[gb656]? = some (.cells #[.int .i64 t649, .slice Ao107 t650.length co107] 24 (0, 0))) ∧ (w'.heap[s_.2.2]? = some (.cells #[.int .i64 0, .slice none 0 0] 24 (0, 0))) ∧ (w.heap.size ≤ s_.2.2) ∧ (w.heap.size ≤ s_.2.2) ∧ (gb656 ≠ s_.2.2) ∧ (s_.2.2 ≠ gb656) ∧ (Below w.heap.size w w')) ?_ ?_
            rotate_left
            ·intro hCont
             refine two_ (i := 2) (j := 7) (Ni := some 42) (Nj := some 13) #[true, true, true, true, true, false, false, false, false] #[true, true, false, true, true, false, false, true, false] rfl rfl rfl rfl (two_of HT_.out (by kernel_rfl)) (by decide) (by decide) (fun K hK => ?_) (fun K hK => ?_)
             ·skip
              refine Kd.R_lit_step k50 _ 50 ?hg (N := 42) ?hd (xs := ([] : List (S50))) (inner := []) (ok := fun _ => True) (okp := fun _ => True) ?hr ?hp (fun _ hk => hk) trivial (Below.refl _ _) (Nat.le_refl _) (by simp) ?_; (case hd => rfl); (case hg => rfl); (case hr => first | (go_simp; done) | (go_simp; rfl)); (case hp => exact (Reps.none _ _))
              intro v659 w110 ho111 hb hg_ hnew_
              clear hg_ hnew_
              (first | rw [← Ny658.out] at ho111 | (simp only [Int.reduceToNat] at ho111; rw [← Ny658.out] at ho111))
              have n0_ := aM_37 (Kd.V_elder' (by (with_reducible repeat (first | apply v1_37 | apply v2_37 | apply v3_37)); exact HO652.out) (Kd.R_base ho111) hb)
              have n1_ := aM_37 (r4_37 (by (with_reducible repeat (first | apply r1_37 | apply r2_37 | apply r3_37)); exact HO655.out) hb)
              have n2_ := aM_37 (Kd.R_lower ho111 (b0_37 (by repeat (first | (with_reducible first | exact HB.out | apply b8_37 | apply b6_37 | apply b7_37 | refine b4_37 ?_ GE656.out) | exact HB.out))))
              have n3_ := aM_37 (b5_37 (by exact BK656.out) hb)
              have n4_ := aM_37 (b9_37 (by repeat (first | (with_reducible first | exact HB.out | apply b8_37 | apply b6_37 | apply b7_37 | refine b4_37 ?_ GE656.out) | exact HB.out)) hb)
              clear HO652 HO655 BK656 HB
              have HO652 := n0_
              have HO655 := n1_
              have HO660 := n2_
              have BK656 := n3_
              have HB := n4_
              clear n0_ n1_ n2_ n3_ n4_
              clear hb ho111
              refine hK.out _ _ ⟨(blk_cell BK656.out 0).trans rfl, (blk_cell BK656.out 1).trans rfl⟩ (fun hHeld => ?_)
              clear hK K
              refine norm_ (a' := ?_) ?_ ?_
              rotate_left
              ·show Act.put _ (some 42) _ = _
               simp only [Act.put, l1_37, l2_37, l3_37, i64_w, i32_w]
               rfl
              refine two_ (i := 5) (j := 7) (Ni := some 45) (Nj := some 13) #[true, true, true, true, true, true, false, false, false] #[true, true, true, true, true, false, false, true, false] rfl rfl rfl rfl (two_of HT_.out (by kernel_rfl)) (by decide) (by decide) (fun K hK => ?_) (fun K hK => ?_)
              ·skip
               refine Kd.R_append_rows_step k50 (w0 := w) w.heap.size (by rfl) (.tmp 42) (.tmp 44) 22 50 (.agg #[(.int .i64 0), (.int .i64 0)]) 16 rfl Try.underlying22 info50 rfl (by decide) (by omega) v659 y658 t650 _ _ _ (fun _ => True) (fun _ => False) rfl rfl ?aO ?aR (fun _ _ h => h) (fun _ h => h.elim) ?aF ?aB ?aS ?aL ?_
               (case aR => repeat (first | exact (Kd.V_reads' HO652.out).2.2 | (with_reducible refine c3_37 ?_ _) | (with_reducible refine c4_37 ?_ _) | (with_reducible refine c5_37 ?_)))
               (case aB => exact (by repeat (first | (with_reducible first | exact HB.out | apply b8_37 | apply b6_37 | apply b7_37 | refine b4_37 ?_ GE656.out) | exact HB.out)))
               (case aF => exact (fun _ _ => trivial))
               (case aO => exact (by (with_reducible repeat (first | apply r1_37 | apply r2_37 | apply r3_37)); exact HO660.out))
               (case aS => exact (b0_37 (by repeat (first | (with_reducible first | exact HB.out | apply b8_37 | apply b6_37 | apply b7_37 | refine b4_37 ?_ GE656.out) | exact HB.out))))
               (case aL => have := LMc19.out; omega)
               intro v662 w112 ho hb hg hat
               rw [← Ny661.out] at ho
               have n0_ := aM_37 (Kd.V_afterv (ok := (fun k_ => some k_ ≠ (v654 : Value).ownBlock ∧ k_ ≠ gb656)) (by (with_reducible repeat (first | apply v1_37 | apply v2_37 | apply v3_37)); exact HO652.out) hg hat)
               have n1_ := aM_37 (Kd.R_over' (by (with_reducible repeat (first | apply r1_37 | apply r2_37 | apply r3_37)); exact HO655.out) (Kd.R_typed (by (with_reducible repeat (first | apply r1_37 | apply r2_37 | apply r3_37)); exact HO660.out)) (by decide) hg)
               have n2_ := aM_37 (blk_grown (g := gb656) (o := .cells #[.int .i64 t649, .slice Ao107 t650.length co107] 24 (0, 0)) (by exact BK656.out) hg (Kd.R_ne HO660.out BK656.out (by decide)))
               have n3_ := aM_37 (hb)
               have n4_ := aM_37 (ho)
               clear HO652 HO655 BK656 HB HO660
               have HO652 := n0_
               have HO655 := n1_
               have BK656 := n2_
               have HB := n3_
               have HO663 := n4_
               clear n0_ n1_ n2_ n3_ n4_
               clear ho hb hg hat
               obtain ⟨Ao113, co113, eo113⟩ := Kd.R_slice HO663.out
               (first | subst eo113 | (injection eo113 with f1_ f2_ f3_; have f4_ := f1_.symm; have f5_ := f3_.symm; clear f1_ f2_ f3_; subst f4_; subst f5_))
               refine hK.out _ _ ⟨(blk_cell BK656.out 0).trans rfl, (blk_cell BK656.out 1).trans rfl⟩ (fun hHeld => ?_)
               clear hK K
               refine norm_ (a' := ?_) ?_ ?_
               rotate_left
               ·show Act.put _ (some 45) _ = _
                simp only [Act.put, l1_37, l2_37, l3_37, i64_w, i32_w]
                rfl
               refine pure_ (i := 6) (N := some 46) (v := ?_) (a' := ?_) #[true, true, true, true, true, true, true, false, false] rfl rfl (any_of HT_.out (by kernel_rfl)) (fun _ _ _ h => h) (Or.inl ⟨by rfl, ?_⟩) ?_ ?_
               rotate_left
               ·intro w'
                go_simp
                with_reducible rfl
               rotate_left
               ·simp only [Act.put, l1_37, l2_37, l3_37, i64_w, i32_w]
                rfl
               refine one_ (i := 7) (N := some 13) #[true, true, true, true, true, true, true, true, false] rfl rfl (one_of HT_.out (by kernel_rfl)) (by decide) (fun K hK => ?_)
               refine box_step ?hg (N := 13) ?hd (cs := #[.int .i64 0, .slice none 0 0]) (t := 24) ?hr ?_; (case hd => rfl); (case hg => rfl); (case hr => first | (go_simp; done) | (go_simp; rfl))
               intro gb664 hg w114 hbox hb
               have n0_ := aM_37 (v6_37 (Kd.V_elderB (by (with_reducible repeat (first | apply v1_37 | apply v2_37 | apply v3_37)); exact HO652.out) gb664 (Nat.le_of_eq hg.symm)) hb)
               have n1_ := aM_37 (r4_37 (by (with_reducible repeat (first | apply r1_37 | apply r2_37 | apply r3_37)); exact HO655.out) hb)
               have n2_ := aM_37 (r4_37 (by (with_reducible repeat (first | apply r1_37 | apply r2_37 | apply r3_37)); exact HO663.out) hb)
               have n3_ := aM_37 (b5_37 (by exact BK656.out) hb)
               have n4_ := aM_37 (b9_37 (by repeat (first | (with_reducible first | exact HB.out | apply b8_37 | apply b6_37 | apply b7_37 | refine b4_37 ?_ GE656.out) | exact HB.out)) hb)
               have n5_ := aM_37 (hbox)
               have n6_ := aM_37 ((by rw [hg]; exact (b0_37 (by repeat (first | (with_reducible first | exact HB.out | apply b8_37 | apply b6_37 | apply b7_37 | refine b4_37 ?_ GE656.out) | exact HB.out))) : w.heap.size ≤ gb664))
               have n7_ := aM_37 ((by rw [hg]; exact (b0_37 (by repeat (first | (with_reducible first | exact HB.out | apply b8_37 | apply b6_37 | apply b7_37 | refine b4_37 ?_ GE656.out) | exact HB.out))) : w.heap.size ≤ gb664))
               have n8_ := aM_37 ((by rw [hg]; exact Nat.ne_of_lt (blk_lt (by exact BK656.out)) : gb656 ≠ gb664))
               have n9_ := aM_37 ((by rw [hg]; exact Nat.ne_of_gt (blk_lt (by exact BK656.out)) : gb664 ≠ gb656))
               clear HO652 HO655 HO663 BK656 HB
               have HO652 := n0_
               have HO655 := n1_
               have HO663 := n2_
               have BK656 := n3_
               have HB := n4_
               have BK664 := n5_
               have GW664 := n6_
               have GE664 := n7_
               have NB656_664 := n8_
               have NB664_656 := n9_
               clear n0_ n1_ n2_ n3_ n4_ n5_ n6_ n7_ n8_ n9_
               clear hb hbox hg
               refine hK.out _ _ ⟨(blk_cell BK656.out 0).trans rfl, (blk_cell BK656.out 1).trans rfl⟩ (fun hHeld => ?_)
               clear hK K
               refine norm_ (a' := ?_) ?_ ?_
               rotate_left
               ·show Act.put _ (some 13) _ = _
                simp only [Act.put, l1_37, l2_37, l3_37, i64_w, i32_w]
                rfl
               exact norm_ (by simp only [putAll, Act.put, l1_37, l2_37, l3_37]) (hCont (v659, .slice Ao113 y661.length co113, gb664) _ ⟨hHeld, (by (with_reducible repeat (first | apply v1_37 | apply v2_37 | apply v3_37)); exact v4_37 HO652.out (fun _ hk => ⟨hk.1.1.1, ⟨hk.1.2, ⟨hk.1.1.2, hk.2⟩⟩⟩)), (by (with_reducible repeat (first | apply r1_37 | apply r2_37 | apply r3_37)); exact HO655.out), (by (with_reducible repeat (first | apply r1_37 | apply r2_37 | apply r3_37)); exact HO663.out), (by exact BK656.out), (by exact BK664.out), GW664.out, GE664.out, NB656_664.out, NB664_656.out, (by repeat (first | (with_reducible first | exact HB.out | apply b8_37 | apply b6_37 | apply b7_37 | refine b4_37 ?_ GE656.out | refine b4_37 ?_ GE664.out) | exact HB.out))⟩)
              ·skip
               refine box_step ?hg (N := 13) ?hd (cs := #[.int .i64 0, .slice none 0 0]) (t := 24) ?hr ?_; (case hd => rfl); (case hg => rfl); (case hr => first | (go_simp; done) | (go_simp; rfl))
               intro gb664 hg w112 hbox hb
               have n0_ := aM_37 (v6_37 (Kd.V_elderB (by (with_reducible repeat (first | apply v1_37 | apply v2_37 | apply v3_37)); exact HO652.out) gb664 (Nat.le_of_eq hg.symm)) hb)
               have n1_ := aM_37 (r4_37 (by (with_reducible repeat (first | apply r1_37 | apply r2_37 | apply r3_37)); exact HO655.out) hb)
               have n2_ := aM_37 (r4_37 (by (with_reducible repeat (first | apply r1_37 | apply r2_37 | apply r3_37)); exact HO660.out) hb)
               have n3_ := aM_37 (b5_37 (by exact BK656.out) hb)
               have n4_ := aM_37 (b9_37 (by repeat (first | (with_reducible first | exact HB.out | apply b8_37 | apply b6_37 | apply b7_37 | refine b4_37 ?_ GE656.out) | exact HB.out)) hb)
               have n5_ := aM_37 (hbox)
               have n6_ := aM_37 ((by rw [hg]; exact (b0_37 (by repeat (first | (with_reducible first | exact HB.out | apply b8_37 | apply b6_37 | apply b7_37 | refine b4_37 ?_ GE656.out) | exact HB.out))) : w.heap.size ≤ gb664))
               have n7_ := aM_37 ((by rw [hg]; exact (b0_37 (by repeat (first | (with_reducible first | exact HB.out | apply b8_37 | apply b6_37 | apply b7_37 | refine b4_37 ?_ GE656.out) | exact HB.out))) : w.heap.size ≤ gb664))
               have n8_ := aM_37 ((by rw [hg]; exact Nat.ne_of_lt (blk_lt (by exact BK656.out)) : gb656 ≠ gb664))
               have n9_ := aM_37 ((by rw [hg]; exact Nat.ne_of_gt (blk_lt (by exact BK656.out)) : gb664 ≠ gb656))
               clear HO652 HO655 HO660 BK656 HB
               have HO652 := n0_
               have HO655 := n1_
               have HO660 := n2_
               have BK656 := n3_
               have HB := n4_
               have BK664 := n5_
               have GW664 := n6_
               have GE664 := n7_
               have NB656_664 := n8_
               have NB664_656 := n9_
               clear n0_ n1_ n2_ n3_ n4_ n5_ n6_ n7_ n8_ n9_
               clear hb hbox hg
               refine hK.out _ _ ⟨(blk_cell BK656.out 0).trans rfl, (blk_cell BK656.out 1).trans rfl⟩ (fun hHeld => ?_)
               clear hK K
               refine norm_ (a' := ?_) ?_ ?_
               rotate_left
               ·show Act.put _ (some 13) _ = _
                simp only [Act.put, l1_37, l2_37, l3_37, i64_w, i32_w]
                rfl
               refine one_ (i := 5) (N := some 45) #[true, true, true, true, true, true, false, true, false] rfl rfl (one_of HT_.out (by kernel_rfl)) (by decide) (fun K hK => ?_)
               refine Kd.R_append_rows_step k50 (w0 := w) w.heap.size (by rfl) (.tmp 42) (.tmp 44) 22 50 (.agg #[(.int .i64 0), (.int .i64 0)]) 16 rfl Try.underlying22 info50 rfl (by decide) (by omega) v659 y658 t650 _ _ _ (fun _ => True) (fun _ => False) rfl rfl ?aO ?aR (fun _ _ h => h) (fun _ h => h.elim) ?aF ?aB ?aS ?aL ?_
               (case aR => repeat (first | exact (Kd.V_reads' HO652.out).2.2 | (with_reducible refine c3_37 ?_ _) | (with_reducible refine c4_37 ?_ _) | (with_reducible refine c5_37 ?_)))
               (case aB => exact (by repeat (first | (with_reducible first | exact HB.out | apply b8_37 | apply b6_37 | apply b7_37 | refine b4_37 ?_ GE656.out | refine b4_37 ?_ GE664.out) | exact HB.out)))
               (case aF => exact (fun _ _ => trivial))
               (case aO => exact (by (with_reducible repeat (first | apply r1_37 | apply r2_37 | apply r3_37)); exact HO660.out))
               (case aS => exact (b0_37 (by repeat (first | (with_reducible first | exact HB.out | apply b8_37 | apply b6_37 | apply b7_37 | refine b4_37 ?_ GE656.out | refine b4_37 ?_ GE664.out) | exact HB.out))))
               (case aL => have := LMc19.out; omega)
               intro v662 w113 ho hb hg hat
               rw [← Ny661.out] at ho
               have n0_ := aM_37 (Kd.V_afterv (ok := (fun k_ => some k_ ≠ (v654 : Value).ownBlock ∧ k_ ≠ gb656 ∧ k_ ≠ gb664)) (by (with_reducible repeat (first | apply v1_37 | apply v2_37 | apply v3_37)); exact v4_37 HO652.out (fun _ hk => ⟨⟨hk.1.1.1, ⟨hk.1.1.2, hk.2⟩⟩, hk.1.2⟩)) hg hat)
               have n1_ := aM_37 (Kd.R_over' (by (with_reducible repeat (first | apply r1_37 | apply r2_37 | apply r3_37)); exact HO655.out) (Kd.R_typed (by (with_reducible repeat (first | apply r1_37 | apply r2_37 | apply r3_37)); exact HO660.out)) (by decide) hg)
               have n2_ := aM_37 (blk_grown (g := gb656) (o := .cells #[.int .i64 t649, .slice Ao107 t650.length co107] 24 (0, 0)) (by exact BK656.out) hg (Kd.R_ne HO660.out BK656.out (by decide)))
               have n3_ := aM_37 (blk_grown (g := gb664) (o := .cells #[.int .i64 0, .slice none 0 0] 24 (0, 0)) (by exact BK664.out) hg (Kd.R_ne HO660.out BK664.out (by decide)))
               have n4_ := aM_37 (hb)
               have n5_ := aM_37 (ho)
               clear HO652 HO655 BK656 BK664 HB HO660
               have HO652 := n0_
               have HO655 := n1_
               have BK656 := n2_
               have BK664 := n3_
               have HB := n4_
               have HO663 := n5_
               clear n0_ n1_ n2_ n3_ n4_ n5_
               clear ho hb hg hat
               obtain ⟨Ao114, co114, eo114⟩ := Kd.R_slice HO663.out
               (first | subst eo114 | (injection eo114 with f1_ f2_ f3_; have f4_ := f1_.symm; have f5_ := f3_.symm; clear f1_ f2_ f3_; subst f4_; subst f5_))
               refine hK.out _ _ ⟨(blk_cell BK656.out 0).trans rfl, (blk_cell BK656.out 1).trans rfl⟩ (fun hHeld => ?_)
               clear hK K
               refine norm_ (a' := ?_) ?_ ?_
               rotate_left
               ·show Act.put _ (some 45) _ = _
                simp only [Act.put, l1_37, l2_37, l3_37, i64_w, i32_w]
                rfl
               refine pure_ (i := 6) (N := some 46) (v := ?_) (a' := ?_) #[true, true, true, true, true, true, true, true, false] rfl rfl (any_of HT_.out (by kernel_rfl)) (fun _ _ _ h => h) (Or.inl ⟨by rfl, ?_⟩) ?_ ?_
               rotate_left
               ·intro w'
                go_simp
                with_reducible rfl
               rotate_left
               ·simp only [Act.put, l1_37, l2_37, l3_37, i64_w, i32_w]
                rfl
               exact norm_ (by simp only [putAll, Act.put, l1_37, l2_37, l3_37]) (hCont (v659, .slice Ao114 y661.length co114, gb664) _ ⟨hHeld, (by (with_reducible repeat (first | apply v1_37 | apply v2_37 | apply v3_37)); exact v4_37 HO652.out (fun _ hk => ⟨hk.1.1, ⟨hk.2, ⟨hk.1.2.1, hk.1.2.2⟩⟩⟩)), (by (with_reducible repeat (first | apply r1_37 | apply r2_37 | apply r3_37)); exact HO655.out), (by (with_reducible repeat (first | apply r1_37 | apply r2_37 | apply r3_37)); exact HO663.out), (by exact BK656.out), (by exact BK664.out), GW664.out, GE664.out, NB656_664.out, NB664_656.out, (by repeat (first | (with_reducible first | exact HB.out | apply b8_37 | apply b6_37 | apply b7_37 | refine b4_37 ?_ GE656.out | refine b4_37 ?_ GE664.out) | exact HB.out))⟩)
             ·skip
              refine box_step ?hg (N := 13) ?hd (cs := #[.int .i64 0, .slice none 0 0]) (t := 24) ?hr ?_; (case hd => rfl); (case hg => rfl); (case hr => first | (go_simp; done) | (go_simp; rfl))
              intro gb664 hg w110 hbox hb
              have n0_ := aM_37 (v6_37 (Kd.V_elderB (by (with_reducible repeat (first | apply v1_37 | apply v2_37 | apply v3_37)); exact HO652.out) gb664 (Nat.le_of_eq hg.symm)) hb)
              have n1_ := aM_37 (r4_37 (by (with_reducible repeat (first | apply r1_37 | apply r2_37 | apply r3_37)); exact HO655.out) hb)
              have n2_ := aM_37 (b5_37 (by exact BK656.out) hb)
              have n3_ := aM_37 (b9_37 (by repeat (first | (with_reducible first | exact HB.out | apply b8_37 | apply b6_37 | apply b7_37 | refine b4_37 ?_ GE656.out) | exact HB.out)) hb)
              have n4_ := aM_37 (hbox)
              have n5_ := aM_37 ((by rw [hg]; exact (b0_37 (by repeat (first | (with_reducible first | exact HB.out | apply b8_37 | apply b6_37 | apply b7_37 | refine b4_37 ?_ GE656.out) | exact HB.out))) : w.heap.size ≤ gb664))
              have n6_ := aM_37 ((by rw [hg]; exact (b0_37 (by repeat (first | (with_reducible first | exact HB.out | apply b8_37 | apply b6_37 | apply b7_37 | refine b4_37 ?_ GE656.out) | exact HB.out))) : w.heap.size ≤ gb664))
              have n7_ := aM_37 ((by rw [hg]; exact Nat.ne_of_lt (blk_lt (by exact BK656.out)) : gb656 ≠ gb664))
              have n8_ := aM_37 ((by rw [hg]; exact Nat.ne_of_gt (blk_lt (by exact BK656.out)) : gb664 ≠ gb656))
              clear HO652 HO655 BK656 HB
              have HO652 := n0_
              have HO655 := n1_
              have BK656 := n2_
              have HB := n3_
              have BK664 := n4_
              have GW664 := n5_
              have GE664 := n6_
              have NB656_664 := n7_
              have NB664_656 := n8_
              clear n0_ n1_ n2_ n3_ n4_ n5_ n6_ n7_ n8_
              clear hb hbox hg
              refine hK.out _ _ ⟨(blk_cell BK656.out 0).trans rfl, (blk_cell BK656.out 1).trans rfl⟩ (fun hHeld => ?_)
              clear hK K
              refine norm_ (a' := ?_) ?_ ?_
              rotate_left
              ·show Act.put _ (some 13) _ = _
               simp only [Act.put, l1_37, l2_37, l3_37, i64_w, i32_w]
               rfl
              refine one_ (i := 2) (N := some 42) #[true, true, true, true, true, false, false, true, false] rfl rfl (one_of HT_.out (by kernel_rfl)) (by decide) (fun K hK => ?_)
              refine Kd.R_lit_step k50 _ 50 ?hg (N := 42) ?hd (xs := ([] : List (S50))) (inner := []) (ok := fun _ => True) (okp := fun _ => True) ?hr ?hp (fun _ hk => hk) trivial (Below.refl _ _) (Nat.le_refl _) (by simp) ?_; (case hd => rfl); (case hg => rfl); (case hr => first | (go_simp; done) | (go_simp; rfl)); (case hp => exact (Reps.none _ _))
              intro v659 w111 ho112 hb hg_ hnew_
              clear hg_ hnew_
              (first | rw [← Ny658.out] at ho112 | (simp only [Int.reduceToNat] at ho112; rw [← Ny658.out] at ho112))
              have n0_ := aM_37 (Kd.V_elder' (by (with_reducible repeat (first | apply v1_37 | apply v2_37 | apply v3_37)); exact HO652.out) (Kd.R_base ho112) hb)
              have n1_ := aM_37 (r4_37 (by (with_reducible repeat (first | apply r1_37 | apply r2_37 | apply r3_37)); exact HO655.out) hb)
              have n2_ := aM_37 (Kd.R_lower ho112 (b0_37 (by repeat (first | (with_reducible first | exact HB.out | apply b8_37 | apply b6_37 | apply b7_37 | refine b4_37 ?_ GE656.out | refine b4_37 ?_ GE664.out) | exact HB.out))))
              have n3_ := aM_37 (b5_37 (by exact BK656.out) hb)
              have n4_ := aM_37 (b5_37 (by exact BK664.out) hb)
              have n5_ := aM_37 (b9_37 (by repeat (first | (with_reducible first | exact HB.out | apply b8_37 | apply b6_37 | apply b7_37 | refine b4_37 ?_ GE656.out | refine b4_37 ?_ GE664.out) | exact HB.out)) hb)
              clear HO652 HO655 BK656 BK664 HB
              have HO652 := n0_
              have HO655 := n1_
              have HO660 := n2_
              have BK656 := n3_
              have BK664 := n4_
              have HB := n5_
              clear n0_ n1_ n2_ n3_ n4_ n5_
              clear hb ho112
              refine hK.out _ _ ⟨(blk_cell BK656.out 0).trans rfl, (blk_cell BK656.out 1).trans rfl⟩ (fun hHeld => ?_)
              clear hK K
              refine norm_ (a' := ?_) ?_ ?_
              rotate_left
              ·show Act.put _ (some 42) _ = _
               simp only [Act.put, l1_37, l2_37, l3_37, i64_w, i32_w]
               rfl
              refine one_ (i := 5) (N := some 45) #[true, true, true, true, true, true, false, true, false] rfl rfl (one_of HT_.out (by kernel_rfl)) (by decide) (fun K hK => ?_)
              refine Kd.R_append_rows_step k50 (w0 := w) w.heap.size (by rfl) (.tmp 42) (.tmp 44) 22 50 (.agg #[(.int .i64 0), (.int .i64 0)]) 16 rfl Try.underlying22 info50 rfl (by decide) (by omega) v659 y658 t650 _ _ _ (fun _ => True) (fun _ => False) rfl rfl ?aO ?aR (fun _ _ h => h) (fun _ h => h.elim) ?aF ?aB ?aS ?aL ?_
              (case aR => repeat (first | exact (Kd.V_reads' HO652.out).2.2 | (with_reducible refine c3_37 ?_ _) | (with_reducible refine c4_37 ?_ _) | (with_reducible refine c5_37 ?_)))
              (case aB => exact (by repeat (first | (with_reducible first | exact HB.out | apply b8_37 | apply b6_37 | apply b7_37 | refine b4_37 ?_ GE656.out | refine b4_37 ?_ GE664.out) | exact HB.out)))
              (case aF => exact (fun _ _ => trivial))
              (case aO => exact (by (with_reducible repeat (first | apply r1_37 | apply r2_37 | apply r3_37)); exact HO660.out))
              (case aS => exact (b0_37 (by repeat (first | (with_reducible first | exact HB.out | apply b8_37 | apply b6_37 | apply b7_37 | refine b4_37 ?_ GE656.out | refine b4_37 ?_ GE664.out) | exact HB.out))))
              (case aL => have := LMc19.out; omega)
              intro v662 w113 ho hb hg hat
              rw [← Ny661.out] at ho
              have n0_ := aM_37 (Kd.V_afterv (ok := (fun k_ => some k_ ≠ (v654 : Value).ownBlock ∧ k_ ≠ gb656 ∧ k_ ≠ gb664)) (by (with_reducible repeat (first | apply v1_37 | apply v2_37 | apply v3_37)); exact v4_37 HO652.out (fun _ hk => ⟨⟨hk.1.1.1, ⟨hk.1.1.2, hk.1.2⟩⟩, hk.2⟩)) hg hat)
              have n1_ := aM_37 (Kd.R_over' (by (with_reducible repeat (first | apply r1_37 | apply r2_37 | apply r3_37)); exact HO655.out) (Kd.R_typed (by (with_reducible repeat (first | apply r1_37 | apply r2_37 | apply r3_37)); exact HO660.out)) (by decide) hg)
              have n2_ := aM_37 (blk_grown (g := gb656) (o := .cells #[.int .i64 t649, .slice Ao107 t650.length co107] 24 (0, 0)) (by exact BK656.out) hg (Kd.R_ne HO660.out BK656.out (by decide)))
              have n3_ := aM_37 (blk_grown (g := gb664) (o := .cells #[.int .i64 0, .slice none 0 0] 24 (0, 0)) (by exact BK664.out) hg (Kd.R_ne HO660.out BK664.out (by decide)))
              have n4_ := aM_37 (hb)
              have n5_ := aM_37 (ho)
              clear HO652 HO655 BK656 BK664 HB HO660
              have HO652 := n0_
              have HO655 := n1_
              have BK656 := n2_
              have BK664 := n3_
              have HB := n4_
              have HO663 := n5_
              clear n0_ n1_ n2_ n3_ n4_ n5_
              clear ho hb hg hat
              obtain ⟨Ao114, co114, eo114⟩ := Kd.R_slice HO663.out
              (first | subst eo114 | (injection eo114 with f1_ f2_ f3_; have f4_ := f1_.symm; have f5_ := f3_.symm; clear f1_ f2_ f3_; subst f4_; subst f5_))
              refine hK.out _ _ ⟨(blk_cell BK656.out 0).trans rfl, (blk_cell BK656.out 1).trans rfl⟩ (fun hHeld => ?_)
              clear hK K
              refine norm_ (a' := ?_) ?_ ?_
              rotate_left
              ·show Act.put _ (some 45) _ = _
               simp only [Act.put, l1_37, l2_37, l3_37, i64_w, i32_w]
               rfl
              refine pure_ (i := 6) (N := some 46) (v := ?_) (a' := ?_) #[true, true, true, true, true, true, true, true, false] rfl rfl (any_of HT_.out (by kernel_rfl)) (fun _ _ _ h => h) (Or.inl ⟨by rfl, ?_⟩) ?_ ?_
              rotate_left
              ·intro w'
               go_simp
               with_reducible rfl
              rotate_left
              ·simp only [Act.put, l1_37, l2_37, l3_37, i64_w, i32_w]
               rfl
              exact norm_ (by simp only [putAll, Act.put, l1_37, l2_37, l3_37]) (hCont (v659, .slice Ao114 y661.length co114, gb664) _ ⟨hHeld, (by (with_reducible repeat (first | apply v1_37 | apply v2_37 | apply v3_37)); exact v4_37 HO652.out (fun _ hk => ⟨hk.1.1, ⟨hk.2, ⟨hk.1.2.1, hk.1.2.2⟩⟩⟩)), (by (with_reducible repeat (first | apply r1_37 | apply r2_37 | apply r3_37)); exact HO655.out), (by (with_reducible repeat (first | apply r1_37 | apply r2_37 | apply r3_37)); exact HO663.out), (by exact BK656.out), (by exact BK664.out), GW664.out, GE664.out, NB656_664.out, NB664_656.out, (by repeat (first | (with_reducible first | exact HB.out | apply b8_37 | apply b6_37 | apply b7_37 | refine b4_37 ?_ GE656.out | refine b4_37 ?_ GE664.out) | exact HB.out))⟩)
            rintro ⟨v659, v662, gb664⟩ w115 ⟨hS_, h0_, h1_, h2_, h3_, h4_, h5_, h6_, h7_, h8_, h9_⟩
            have n0_ : Aside0 (Kd.V k50 50 w115 w.heap.size (fun k_ => some k_ ≠ (v654 : Value).ownBlock ∧ some k_ ≠ (v662 : Value).ownBlock ∧ k_ ≠ gb656 ∧ k_ ≠ gb664) (.slice Ao107 t650.length co107) t650) := ⟨h0_⟩
            have n1_ : Aside0 (Kd.R (Kd.int .i64) 3 w115 w.heap.size (fun _ => True) v654 t653) := ⟨h1_⟩
            have n2_ : Aside0 (Kd.R k50 50 w115 w.heap.size (fun _ => True) v662 y661) := ⟨h2_⟩
            have n3_ : Aside0 (w115.heap[gb656]? = some (.cells #[.int .i64 t649, .slice Ao107 t650.length co107] 24 (0, 0))) := ⟨h3_⟩
            have n4_ : Aside0 (w115.heap[gb664]? = some (.cells #[.int .i64 0, .slice none 0 0] 24 (0, 0))) := ⟨h4_⟩
            have n5_ : Aside0 (w.heap.size ≤ gb664) := ⟨h5_⟩
            have n6_ : Aside0 (w.heap.size ≤ gb664) := ⟨h6_⟩
            have n7_ : Aside0 (gb656 ≠ gb664) := ⟨h7_⟩
            have n8_ : Aside0 (gb664 ≠ gb656) := ⟨h8_⟩
            have n9_ : Aside0 (Below w.heap.size w w115) := ⟨h9_⟩
            clear HO652 HO655 BK656 HB
            clear h0_ h1_ h2_ h3_ h4_ h5_ h6_ h7_ h8_ h9_
            have HO652 := n0_
            have HO655 := n1_
            have HO663 := n2_
            have BK656 := n3_
            have BK664 := n4_
            have GW664 := n5_
            have GE664 := n6_
            have NB656_664 := n7_
            have NB664_656 := n8_
            have HB := n9_
            clear n0_ n1_ n2_ n3_ n4_ n5_ n6_ n7_ n8_ n9_
            have hHeld : w115.cell? ⟨gb656, 0, none⟩ = some (.int .i64 t649) ∧ w115.cell? ⟨gb656, 1, none⟩ = some (.slice Ao107 t650.length co107) := hS_
            obtain ⟨Ao116, co116, eo116⟩ := Kd.R_slice HO663.out
            (first | subst eo116 | (injection eo116 with f1_ f2_ f3_; have f4_ := f1_.symm; have f5_ := f3_.symm; clear f1_ f2_ f3_; subst f4_; subst f5_))
            refine norm_ (a' := ?_) ?_ ?_
            rotate_left
            ·simp only [putAll, Act.put, l1_37, l2_37, l3_37]
             rfl
            refine one_ (i := 8) (N := none) #[true, true, true, true, true, true, true, true, true] rfl rfl (one_of HT_.out (by kernel_rfl)) (by decide) (fun K hK => ?_)
            have hs117 : w115.cell? ⟨gb664, 0, none⟩ = some (.int .i64 0) := (blk_cell BK664.out 0).trans rfl
            have hfs117 := blk_frozen BK664.out 0
            have hns117_0 := NB656_664.out
            have hms117_0 := NB664_656.out
            have hs118 : w115.cell? ⟨gb664, 1, none⟩ = some (.slice none 0 0) := (blk_cell BK664.out 1).trans rfl
            have hfs118 := blk_frozen BK664.out 1
            have hns118_0 := NB656_664.out
            have hms118_0 := NB664_656.out
            refine skip_ (w1 := ?_) (by rfl) rfl ?_ ?_
            rotate_left
            ·go_simp
             rfl
            refine hK.out _ _ ⟨((cell_far (p := ⟨gb664, _, none⟩) NB656_664.out _).trans (((cell_far (p := ⟨gb664, _, none⟩) NB656_664.out _).trans (hHeld.1)))), ((cell_far (p := ⟨gb664, _, none⟩) NB656_664.out _).trans (((cell_far (p := ⟨gb664, _, none⟩) NB656_664.out _).trans (hHeld.2))))⟩ (fun hHeld => ?_)
            clear hK K
            refine done_ (done_of HT_.out (by kernel_rfl)) ?_
            have hnb119 := NB656_664.out
            have hnc119 := NB664_656.out
            obtain ⟨hcz120_0, hcz120_1, hfz120_0, hfz120_1⟩ := cells2_37 BK656.out
            have p665 : 0 ≤ ((ji20) : Int) := of_decide_eq_true (by first | (with_reducible assumption) | assumption)
            have q665 : (ji20) < (t650.length : Int) := of_decide_eq_true (by first | (with_reducible assumption) | assumption)
            obtain ⟨ad665, e665, hx665_0, hx665_1⟩ := at_T50 (Kd.V_reads' HO652.out).2.2 (ji20) p665 q665
            cases e665
            have hn665_0 : ad665.block ≠ gb664 := (by have z_ := V_okb HO652.out z50 (ji20) p665 q665 (by decide); first | exact z_.2.2.2 | exact z_.2.2.1 | exact z_.2.1 | exact z_.2.2 | exact z_.2 | exact z_.1)
            have hn665_1 : ad665.block ≠ gb664 := (by have z_ := V_okb HO652.out z50 (ji20) p665 q665 (by decide); first | exact z_.2.2.2 | exact z_.2.2.1 | exact z_.2.1 | exact z_.2.2 | exact z_.2 | exact z_.1)
            replace hx665_0 := (cell_far (p := ⟨gb664, 0, none⟩) (by first | (rw [add_block]; exact hn665_0) | (show (Addr.add _ _).block ≠ _; rw [add_block]; exact hn665_0) | exact hn665_0) (.int .i64 t649)).trans hx665_0
            replace hx665_1 := (cell_far (p := ⟨gb664, 0, none⟩) (by first | (rw [add_block]; exact hn665_0) | (show (Addr.add _ _).block ≠ _; rw [add_block]; exact hn665_0) | exact hn665_0) (.int .i64 t649)).trans hx665_1
            replace hx665_0 := (cell_far (p := ⟨gb664, 1, none⟩) (by first | (rw [add_block]; exact hn665_1) | (show (Addr.add _ _).block ≠ _; rw [add_block]; exact hn665_1) | exact hn665_1) (.slice Ao116 y661.length co116)).trans hx665_0
            replace hx665_1 := (cell_far (p := ⟨gb664, 1, none⟩) (by first | (rw [add_block]; exact hn665_1) | (show (Addr.add _ _).block ≠ _; rw [add_block]; exact hn665_1) | exact hn665_1) (.slice Ao116 y661.length co116)).trans hx665_1
            clear hn665_0 hn665_1
            replace p665 := eq_true p665
            replace q665 := eq_true q665
            try go_wp2_with (first | ((with_reducible refine gate_dst (N := 14) rfl ?_); refine box_event ?hg (N := 14) ?hd (cs := #[.int .i64 0, .int .i64 0]) (t := 50) ?hr ?_; (case hd => rfl); (case hg => rfl); (case hr => first | (go_simp; done) | (go_simp; rfl)); intro gb666 hg w121 hbox hb; have n0_ := aM_37 (v6_37 (Kd.V_elderB (by (with_reducible repeat (first | apply v1_37 | apply v2_37 | apply v3_37)); exact (v4_37 (v5_37 (p := ⟨gb664, 1, none⟩) (v5_37 (p := ⟨gb664, 0, none⟩) (v4_37 HO652.out (fun k_ hk => (⟨hk, hk.2.2.2⟩ : _ ∧ k_ ≠ gb664))) (fun _ hk => hk.2) (.int .i64 t649)) (fun _ hk => hk.2) (.slice Ao116 y661.length co116)) (fun _ h_ => h_.1))) gb666 (Nat.le_of_eq hg.symm)) hb); have n1_ := aM_37 (r4_37 (by (with_reducible repeat (first | apply r1_37 | apply r2_37 | apply r3_37)); exact (Kd.R_mono (Kd.R_far (p := ⟨gb664, 1, none⟩) (Kd.R_far (p := ⟨gb664, 0, none⟩) (Kd.R_types HO655.out BK664.out (by decide)) (fun _ hk => hk.2) (.int .i64 t649)) (fun _ hk => hk.2) (.slice Ao116 y661.length co116)) (fun _ h_ => h_.1))) hb); have n2_ := aM_37 (r4_37 (Kd.R_elderB (by (with_reducible repeat (first | apply r1_37 | apply r2_37 | apply r3_37)); exact (Kd.R_mono (Kd.R_far (p := ⟨gb664, 1, none⟩) (Kd.R_far (p := ⟨gb664, 0, none⟩) (Kd.R_types HO663.out BK664.out (by decide)) (fun _ hk => hk.2) (.int .i64 t649)) (fun _ hk => hk.2) (.slice Ao116 y661.length co116)) (fun _ h_ => h_.1))) gb666 (Nat.le_of_eq hg.symm)) hb); have n3_ := aM_37 (b5_37 (g := gb656) (o := .cells #[.int .i64 t649, .slice (some ad665) t650.length co107] 24 (0, 0)) (by (with_reducible repeat (first | refine b1_37 ?_ _ | refine b3_37 ?_ | refine b2_37 ?_ _)); refine c2_37 ?_ NB656_664.out _; (with_reducible repeat (first | refine b1_37 ?_ _ | refine b3_37 ?_ | refine b2_37 ?_ _)); refine c2_37 ?_ NB656_664.out _; (with_reducible repeat (first | refine b1_37 ?_ _ | refine b3_37 ?_ | refine b2_37 ?_ _)); exact BK656.out) hb); have n4_ := aM_37 (b5_37 (g := gb664) (o := .cells #[.int .i64 t649, .slice Ao116 y661.length co116] 24 (0, 0)) (by (with_reducible repeat (first | refine b1_37 ?_ _ | refine b3_37 ?_ | refine b2_37 ?_ _)); refine c1_37 (cs := #[.int .i64 t649, .slice none 0 0]) ?_ 1 _ rfl; (with_reducible repeat (first | refine b1_37 ?_ _ | refine b3_37 ?_ | refine b2_37 ?_ _)); refine c1_37 (cs := #[.int .i64 0, .slice none 0 0]) ?_ 0 _ rfl; (with_reducible repeat (first | refine b1_37 ?_ _ | refine b3_37 ?_ | refine b2_37 ?_ _)); exact BK664.out) hb); have n5_ := aM_37 (b9_37 (by repeat (first | (with_reducible first | exact HB.out | apply b8_37 | apply b6_37 | apply b7_37 | refine b4_37 ?_ GE656.out | refine b4_37 ?_ GE664.out) | exact HB.out)) hb); have n6_ := aM_37 (hbox); have n7_ := aM_37 ((by rw [hg]; exact (b0_37 (by repeat (first | (with_reducible first | exact HB.out | apply b8_37 | apply b6_37 | apply b7_37 | refine b4_37 ?_ GE656.out | refine b4_37 ?_ GE664.out) | exact HB.out))) : w.heap.size ≤ gb666)); have n8_ := aM_37 ((by rw [hg]; exact (b0_37 (by repeat (first | (with_reducible first | exact HB.out | apply b8_37 | apply b6_37 | apply b7_37 | refine b4_37 ?_ GE656.out | refine b4_37 ?_ GE664.out) | exact HB.out))) : w.heap.size ≤ gb666)); have n9_ := aM_37 ((by rw [hg]; exact Nat.ne_of_lt (blk_lt (g := gb656) (o := .cells #[.int .i64 t649, .slice (some ad665) t650.length co107] 24 (0, 0)) (by (with_reducible repeat (first | refine b1_37 ?_ _ | refine b3_37 ?_ | refine b2_37 ?_ _)); refine c2_37 ?_ NB656_664.out _; (with_reducible repeat (first | refine b1_37 ?_ _ | refine b3_37 ?_ | refine b2_37 ?_ _)); refine c2_37 ?_ NB656_664.out _; (with_reducible repeat (first | refine b1_37 ?_ _ | refine b3_37 ?_ | refine b2_37 ?_ _)); exact BK656.out)) : gb656 ≠ gb666)); have n10_ := aM_37 ((by rw [hg]; exact Nat.ne_of_gt (blk_lt (g := gb656) (o := .cells #[.int .i64 t649, .slice (some ad665) t650.length co107] 24 (0, 0)) (by (with_reducible repeat (first | refine b1_37 ?_ _ | refine b3_37 ?_ | refine b2_37 ?_ _)); refine c2_37 ?_ NB656_664.out _; (with_reducible repeat (first | refine b1_37 ?_ _ | refine b3_37 ?_ | refine b2_37 ?_ _)); refine c2_37 ?_ NB656_664.out _; (with_reducible repeat (first | refine b1_37 ?_ _ | refine b3_37 ?_ | refine b2_37 ?_ _)); exact BK656.out)) : gb666 ≠ gb656)); have n11_ := aM_37 ((by rw [hg]; exact Nat.ne_of_lt (blk_lt (g := gb664) (o := .cells #[.int .i64 t649, .slice Ao116 y661.length co116] 24 (0, 0)) (by (with_reducible repeat (first | refine b1_37 ?_ _ | refine b3_37 ?_ | refine b2_37 ?_ _)); refine c1_37 (cs := #[.int .i64 t649, .slice none 0 0]) ?_ 1 _ rfl; (with_reducible repeat (first | refine b1_37 ?_ _ | refine b3_37 ?_ | refine b2_37 ?_ _)); refine c1_37 (cs := #[.int .i64 0, .slice none 0 0]) ?_ 0 _ rfl; (with_reducible repeat (first | refine b1_37 ?_ _ | refine b3_37 ?_ | refine b2_37 ?_ _)); exact BK664.out)) : gb664 ≠ gb666)); have n12_ := aM_37 ((by rw [hg]; exact Nat.ne_of_gt (blk_lt (g := gb664) (o := .cells #[.int .i64 t649, .slice Ao116 y661.length co116] 24 (0, 0)) (by (with_reducible repeat (first | refine b1_37 ?_ _ | refine b3_37 ?_ | refine b2_37 ?_ _)); refine c1_37 (cs := #[.int .i64 t649, .slice none 0 0]) ?_ 1 _ rfl; (with_reducible repeat (first | refine b1_37 ?_ _ | refine b3_37 ?_ | refine b2_37 ?_ _)); refine c1_37 (cs := #[.int .i64 0, .slice none 0 0]) ?_ 0 _ rfl; (with_reducible repeat (first | refine b1_37 ?_ _ | refine b3_37 ?_ | refine b2_37 ?_ _)); exact BK664.out)) : gb666 ≠ gb664)); clear HO652 HO655 HO663 BK656 BK664 HB; have HO652 := n0_; have HO655 := n1_; have HO663 := n2_; have BK656 := n3_; have BK664 := n4_; have HB := n5_; have BK666 := n6_; have GW666 := n7_; have GE666 := n8_; have NB656_666 := n9_; have NB666_656 := n10_; have NB664_666 := n11_; have NB666_664 := n12_; clear n0_ n1_ n2_ n3_ n4_ n5_ n6_ n7_ n8_ n9_ n10_ n11_ n12_; clear hb hbox hg; have hnb122 := NB666_656.out; have hnc122 := NB656_666.out; have hnb123 := NB666_664.out; have hnc123 := NB664_666.out; obtain ⟨hcz124_0, hcz124_1, hfz124_0, hfz124_1⟩ := cells2_37 BK666.out) | ((with_reducible refine gate_store (t := 50) (p := 14) rfl ?_); refine store_event (t := 50) (p := 14) (v := ?vo_w125) (w1 := ((w121.setCell ⟨gb666, 0, none⟩ (.int .i64 ((rd_T50 t650 (ji20)).f0))).setCell ⟨gb666, 1, none⟩ (.int .i64 ((rd_T50 t650 (ji20)).f1)))) ?hg ?ho ?hn ?hr ?_; (case ho => rfl); (case hg => rfl); (case hn => rfl); (case hr => first | (go_simp; done) | (go_simp; rfl)); intro w125 hw; have n0_ : Aside0 (Kd.V k50 50 w125 w.heap.size (fun k_ => some k_ ≠ (v654 : Value).ownBlock ∧ some k_ ≠ (.slice Ao116 y661.length co116 : Value).ownBlock ∧ k_ ≠ gb656 ∧ k_ ≠ gb664 ∧ k_ ≠ gb666) (.slice (some ad665) t650.length co107) t650) := ⟨(by rw [hw]; exact (by (with_reducible repeat (first | apply v1_37 | apply v2_37 | apply v3_37)); exact v4_37 (v5_37 (p := ⟨gb666, 1, none⟩) (v5_37 (p := ⟨gb666, 0, none⟩) (v4_37 HO652.out (fun k_ hk => (⟨hk, hk.2⟩ : _ ∧ k_ ≠ gb666))) (fun _ hk => hk.2) (.int .i64 ((rd_T50 t650 (ji20)).f0))) (fun _ hk => hk.2) (.int .i64 ((rd_T50 t650 (ji20)).f1))) (fun _ hk => ⟨hk.1.1.1, ⟨hk.1.1.2.1, ⟨hk.1.1.2.2.1, ⟨hk.1.1.2.2.2, hk.1.2⟩⟩⟩⟩)))⟩; have n1_ : Aside0 (Kd.R (Kd.int .i64) 3 w125 w.heap.size (fun _ => True) v654 t653) := ⟨(by rw [hw]; exact (by (with_reducible repeat (first | apply r1_37 | apply r2_37 | apply r3_37)); exact Kd.R_mono (Kd.R_far (p := ⟨gb666, 1, none⟩) (Kd.R_far (p := ⟨gb666, 0, none⟩) (Kd.R_types HO655.out BK666.out (by decide)) (fun _ hk => hk.2) (.int .i64 ((rd_T50 t650 (ji20)).f0))) (fun _ hk => hk.2) (.int .i64 ((rd_T50 t650 (ji20)).f1))) (fun _ hk => trivial)))⟩; have n2_ : Aside0 (Kd.R k50 50 w125 w.heap.size (fun k_ => k_ ≠ gb666) (.slice Ao116 y661.length co116) y661) := ⟨(by rw [hw]; exact (by (with_reducible repeat (first | apply r1_37 | apply r2_37 | apply r3_37)); exact Kd.R_mono (Kd.R_far (p := ⟨gb666, 1, none⟩) (Kd.R_far (p := ⟨gb666, 0, none⟩) (Kd.R_mono HO663.out (fun k_ hk => (⟨hk, hk.2⟩ : _ ∧ k_ ≠ gb666))) (fun _ hk => hk.2) (.int .i64 ((rd_T50 t650 (ji20)).f0))) (fun _ hk => hk.2) (.int .i64 ((rd_T50 t650 (ji20)).f1))) (fun _ hk => hk.1.2)))⟩; have n3_ : Aside0 (w125.heap[gb656]? = some (.cells #[.int .i64 t649, .slice (some ad665) t650.length co107] 24 (0, 0))) := ⟨(by rw [hw]; exact (by (with_reducible repeat (first | refine b1_37 ?_ _ | refine b3_37 ?_ | refine b2_37 ?_ _)); refine c2_37 ?_ NB656_666.out _; (with_reducible repeat (first | refine b1_37 ?_ _ | refine b3_37 ?_ | refine b2_37 ?_ _)); refine c2_37 ?_ NB656_666.out _; (with_reducible repeat (first | refine b1_37 ?_ _ | refine b3_37 ?_ | refine b2_37 ?_ _)); exact BK656.out))⟩; have n4_ : Aside0 (w125.heap[gb664]? = some (.cells #[.int .i64 t649, .slice Ao116 y661.length co116] 24 (0, 0))) := ⟨(by rw [hw]; exact (by (with_reducible repeat (first | refine b1_37 ?_ _ | refine b3_37 ?_ | refine b2_37 ?_ _)); refine c2_37 ?_ NB664_666.out _; (with_reducible repeat (first | refine b1_37 ?_ _ | refine b3_37 ?_ | refine b2_37 ?_ _)); refine c2_37 ?_ NB664_666.out _; (with_reducible repeat (first | refine b1_37 ?_ _ | refine b3_37 ?_ | refine b2_37 ?_ _)); exact BK664.out))⟩; have n5_ : Aside0 (w125.heap[gb666]? = some (.cells #[.int .i64 ((rd_T50 t650 (ji20)).f0), .int .i64 ((rd_T50 t650 (ji20)).f1)] 50 (0, 0))) := ⟨(by rw [hw]; exact (by (with_reducible repeat (first | refine b1_37 ?_ _ | refine b3_37 ?_ | refine b2_37 ?_ _)); refine c1_37 (cs := #[.int .i64 ((rd_T50 t650 (ji20)).f0), .int .i64 0]) ?_ 1 _ rfl; (with_reducible repeat (first | refine b1_37 ?_ _ | refine b3_37 ?_ | refine b2_37 ?_ _)); refine c1_37 (cs := #[.int .i64 0, .int .i64 0]) ?_ 0 _ rfl; (with_reducible repeat (first | refine b1_37 ?_ _ | refine b3_37 ?_ | refine b2_37 ?_ _)); exact BK666.out))⟩; have n6_ : Aside0 (Below w.heap.size w w125) := ⟨(by rw [hw]; exact (by repeat (first | (with_reducible first | exact HB.out | apply b8_37 | apply b6_37 | apply b7_37 | refine b4_37 ?_ GE656.out | refine b4_37 ?_ GE664.out | refine b4_37 ?_ GE666.out) | exact HB.out)))⟩; clear hw HO652 HO655 HO663 BK656 BK664 BK666 HB; have HO652 := n0_; have HO655 := n1_; have HO663 := n2_; have BK656 := n3_; have BK664 := n4_; have BK666 := n5_; have HB := n6_; clear n0_ n1_ n2_ n3_ n4_ n5_ n6_; obtain ⟨hcz126_0, hcz126_1, hfz126_0, hfz126_1⟩ := cells2_37 BK664.out; obtain ⟨hcz127_0, hcz127_1, hfz127_0, hfz127_1⟩ := cells2_37 BK666.out; obtain ⟨hcz128_0, hcz128_1, hfz128_0, hfz128_1⟩ := cells2_37 BK656.out; have p98 : 0 ≤ ((ji20) : Int) := of_decide_eq_true (by first | (with_reducible assumption) | assumption); have q98 : ((ji20) : Int) < ((y661.length : Int) : Int) := of_decide_eq_true (by first | (with_reducible assumption) | assumption); obtain ⟨go98, co98, eo98, gb98, gl98, cl98, HG98⟩ := Kd.R_form HO663.out (by omega); (first | cases eo98 | (injection eo98 with ea_ en_ ec_; (first | subst ea_ | (injection ea_ with ea_; subst ea_)); subst ec_; clear en_)); have GB98 := aM_37 gb98; have GG98 := aM_37 HG98; clear gb98 gl98 HG98; obtain ⟨ce98, hcl98, hM98, hcc98, hfr98⟩ := Kd.R_elem HO663.out z50 ((ji20) : Int) p98 q98; obtain rfl := k50_openM hM98; have hx98_0 : w125.cell? ⟨go98, ((ji20) : Int).toNat * 2, none⟩ = some (.int .i64 ((rd_T50 y661 (ji20)).f0)) := hcc98 0 _ rfl; have hx98_1 : w125.cell? ⟨go98, ((ji20) : Int).toNat * 2 + 1, none⟩ = some (.int .i64 ((rd_T50 y661 (ji20)).f1)) := hcc98 1 _ rfl; have hf98_0 : w125.frozen? ⟨go98, ((ji20) : Int).toNat * 2, none⟩ = false := hfr98 0; have hf98_1 : w125.frozen? ⟨go98, ((ji20) : Int).toNat * 2 + 1, none⟩ = false := hfr98 1; clear hcl98 hcc98 hfr98 hM98; replace p98 := eq_true p98; replace q98 := eq_true q98; have HX129 := aM_37 (show Kd.R k50 50 w125 w.heap.size (fun k_ => k_ ≠ gb666) (.slice (some ⟨go98, 0, none⟩) y661.length co116) y661 from (by (with_reducible repeat (first | apply r1_37 | apply r2_37 | apply r3_37)); exact HO663.out)); obtain ⟨ce129, hcl129, hM129, hcc129, hfr129⟩ := Kd.R_elem HX129.out z50 ((ji20) : Int) (of_decide_eq_true (by first | (with_reducible assumption) | assumption)) (by have h_ : ((ji20) : Int) < ((y661.length : Int) : Int) := of_decide_eq_true (by first | (with_reducible assumption) | assumption); first | exact h_ | (have e_ := (Kd.R_reads' HO663.out).1; omega) | simpa using h_); obtain rfl := k50_openM hM129; have HP129 := Kd.R_seg HX129.out ((ji20) : Int) (of_decide_eq_true (by first | (with_reducible assumption) | assumption)) (by have h_ : ((ji20) : Int) < ((y661.length : Int) : Int) := of_decide_eq_true (by first | (with_reducible assumption) | assumption); first | exact h_ | (have e_ := (Kd.R_reads' HO663.out).1; omega) | simpa using h_) (seg := [.int .i64 ((rd_T50 t650 (ji20)).f0), .int .i64 (wrap64 (2 * (wrap64 ((wrap64 (t649 + 1)) + (ji20)))))]) (j := 0) hcl129 hcc129 (show 2 ≤ 2 from by decide) (x' := (⟨(rd_T50 t650 (ji20)).f0, wrap64 (2 * (wrap64 ((wrap64 (t649 + 1)) + (ji20))))⟩ : S50)) (k50_mkM _ _ _ (⟨(rd_T50 t650 (ji20)).f0, wrap64 (2 * (wrap64 ((wrap64 (t649 + 1)) + (ji20))))⟩ : S50) ) (fun _ hk => hk); have hx129_0 := hcc129 0 _ rfl; (try simp only [show (k50).sz = 2 from rfl, Nat.mul_one, Nat.add_zero] at hx129_0); have hf129_0 := hfr129 0; (try simp only [show (k50).sz = 2 from rfl, Nat.mul_one, Nat.add_zero] at hf129_0); have hx129_1 := hcc129 1 _ rfl; (try simp only [show (k50).sz = 2 from rfl, Nat.mul_one, Nat.add_zero] at hx129_1); have hf129_1 := hfr129 1; (try simp only [show (k50).sz = 2 from rfl, Nat.mul_one, Nat.add_zero] at hf129_1); clear hcl129 hcc129 hfr129 hM129) | ((with_reducible refine gate_store (t := 50) (p := 87) rfl ?_); refine store_event (t := 50) (p := 87) (v := ?vo_w130) (w1 := ((w125.setCell ⟨go98, ((ji20) : Int).toNat * 2, none⟩ (.int .i64 ((rd_T50 t650 (ji20)).f0))).setCell ⟨go98, ((ji20) : Int).toNat * 2 + 1, none⟩ (.int .i64 (wrap64 (2 * (wrap64 ((wrap64 (t649 + 1)) + (ji20)))))))) ?hg ?ho ?hn ?hr ?_; (case ho => rfl); (case hg => rfl); (case hn => rfl); (case hr => first | (go_simp; done) | (go_simp; rfl)); intro w130 hw; have hg : w125.grownBy w130 (some go98) := (by rw [hw]; exact HP129.2); have hp_ : Kd.R k50 50 w130 w.heap.size (fun k_ => k_ ≠ gb666) (.slice (some ⟨go98, 0, none⟩) y661.length co116) y675 := (by rw [hw, Ny675.out]; exact HP129.1); clear HP129; have n0_ := aM_37 (Kd.V_afterv (v := (.slice (some ⟨go98, 0, none⟩) y661.length co116)) (v1 := (.slice (some ⟨go98, 0, none⟩) y661.length co116)) (ok := (fun k_ => some k_ ≠ (v654 : Value).ownBlock ∧ k_ ≠ gb656 ∧ k_ ≠ gb664 ∧ k_ ≠ gb666)) (by (with_reducible repeat (first | apply v1_37 | apply v2_37 | apply v3_37)); exact v4_37 HO652.out (fun _ hk => ⟨⟨hk.1, ⟨hk.2.2.1, ⟨hk.2.2.2.1, hk.2.2.2.2⟩⟩⟩, hk.2.1⟩)) hg (.inl rfl)); have n1_ := aM_37 (Kd.R_over' (v := (.slice (some ⟨go98, 0, none⟩) y661.length co116)) (by (with_reducible repeat (first | apply r1_37 | apply r2_37 | apply r3_37)); exact HO655.out) (Kd.R_typed HO663.out) (by decide) hg); have n2_ := aM_37 (blk_grown (g := gb656) (o := .cells #[.int .i64 t649, .slice (some ad665) t650.length co107] 24 (0, 0)) (by exact BK656.out) hg (Kd.R_ne HO663.out BK656.out (by decide))); have n3_ := aM_37 (hp_); have n4_ := aM_37 (blk_grown (g := gb664) (o := .cells #[.int .i64 t649, .slice (some ⟨go98, 0, none⟩) y661.length co116] 24 (0, 0)) (by exact BK664.out) hg (Kd.R_ne HO663.out BK664.out (by decide))); have n5_ := aM_37 (blk_grown (g := gb666) (o := .cells #[.int .i64 ((rd_T50 t650 (ji20)).f0), .int .i64 ((rd_T50 t650 (ji20)).f1)] 50 (0, 0)) (by exact BK666.out) hg (Kd.R_away HO663.out (fun _ hk => hk))); have n6_ := aM_37 ((by rw [hw]; exact b4_37 (b4_37 (HB.out) GB98.out) GB98.out : Below w.heap.size w w130)); clear HO652 HO655 BK656 HO663 BK664 BK666 HB; have HO652 := n0_; have HO655 := n1_; have BK656 := n2_; have HO663 := n3_; have BK664 := n4_; have BK666 := n5_; have HB := n6_; clear n0_ n1_ n2_ n3_ n4_ n5_ n6_; clear hg hw hp_; obtain ⟨hcz131_0, hcz131_1, hfz131_0, hfz131_1⟩ := cells2_37 BK664.out) | (go_at_call 12; refine calls_of_args (args' := #[.agg #[.int .i64 t649, .slice (some ⟨go98, 0, none⟩) y675.length co116]]) (by first | (rw [show y675.length = y661.length from (Kd.R_reads' HO663.out).1.symm] <;> rfl) | rfl) ?_; (with_reducible refine (aig_Right.calls k t649 _ _ y675 false _ ?side1 ?side2 A100.out).mono ?_); (case side1 => repeat (first | exact (Kd.R_reads' HO663.out).2.2 | (with_reducible refine c3_37 ?_ _) | (with_reducible refine c4_37 ?_ _) | (with_reducible refine c5_37 ?_))); (case side2 => rw [show y675.length = y661.length from (Kd.R_reads' HO663.out).1.symm]; exact (Kd.R_reads' HO663.out).2.1); rintro e w132 ⟨rfl, hb⟩; have n0_ := aM_37 (v6_37 (by (with_reducible repeat (first | apply v1_37 | apply v2_37 | apply v3_37)); exact HO652.out) hb); have n1_ := aM_37 (r4_37 (by (with_reducible repeat (first | apply r1_37 | apply r2_37 | apply r3_37)); exact HO655.out) hb); have n2_ := aM_37 (r4_37 (by (with_reducible repeat (first | apply r1_37 | apply r2_37 | apply r3_37)); exact HO663.out) hb); have n3_ := aM_37 (b5_37 (by exact BK656.out) hb); have n4_ := aM_37 (b5_37 (by exact BK664.out) hb); have n5_ := aM_37 (b5_37 (by exact BK666.out) hb); have n6_ := aM_37 (b9_37 (by repeat (first | (with_reducible first | exact HB.out | apply b8_37 | apply b6_37 | apply b7_37 | refine b4_37 ?_ GE656.out | refine b4_37 ?_ GE664.out | refine b4_37 ?_ GE666.out) | exact HB.out)) hb); clear HO652 HO655 HO663 BK656 BK664 BK666 HB; have HO652 := n0_; have HO655 := n1_; have HO663 := n2_; have BK656 := n3_; have BK664 := n4_; have BK666 := n5_; have HB := n6_; clear n0_ n1_ n2_ n3_ n4_ n5_ n6_; (try clear hb); (try clear hb2); (try clear hk); (try clear hi); obtain ⟨hcz133_0, hcz133_1, hfz133_0, hfz133_1⟩ := cells2_37 BK656.out) | (go_at_call 12; (with_reducible refine (aig_Right.calls k t649 _ _ t650 t677 _ ?side1 ?side2 A102.out).mono ?_); (case side1 => repeat (first | exact (Kd.V_reads' HO652.out).2.2 | (with_reducible refine c3_37 ?_ _) | (with_reducible refine c4_37 ?_ _) | (with_reducible refine c5_37 ?_))); (case side2 => exact (Kd.V_reads' HO652.out).2.1); rintro e w134 ⟨rfl, hb⟩; have n0_ := aM_37 (v6_37 (by (with_reducible repeat (first | apply v1_37 | apply v2_37 | apply v3_37)); exact HO652.out) hb); have n1_ := aM_37 (r4_37 (by (with_reducible repeat (first | apply r1_37 | apply r2_37 | apply r3_37)); exact HO655.out) hb); have n2_ := aM_37 (r4_37 (by (with_reducible repeat (first | apply r1_37 | apply r2_37 | apply r3_37)); exact HO663.out) hb); have n3_ := aM_37 (b5_37 (by exact BK656.out) hb); have n4_ := aM_37 (b5_37 (by exact BK664.out) hb); have n5_ := aM_37 (b5_37 (by exact BK666.out) hb); have n6_ := aM_37 (b9_37 (by repeat (first | (with_reducible first | exact HB.out | apply b8_37 | apply b6_37 | apply b7_37 | refine b4_37 ?_ GE656.out | refine b4_37 ?_ GE664.out | refine b4_37 ?_ GE666.out) | exact HB.out)) hb); clear HO652 HO655 HO663 BK656 BK664 BK666 HB; have HO652 := n0_; have HO655 := n1_; have HO663 := n2_; have BK656 := n3_; have BK664 := n4_; have BK666 := n5_; have HB := n6_; clear n0_ n1_ n2_ n3_ n4_ n5_ n6_; (try clear hb); (try clear hb2); (try clear hk); (try clear hi)))
            go_ret
            exact ⟨by first | rfl | (simp [errW_none, errW_some] <;> rfl) | (simp only [← hji20]; first | rfl | (simp [errW_none, errW_some] <;> rfl)) | (simp [*, errW_none, errW_some] <;> rfl), by repeat (first | (with_reducible first | exact HB.out | apply b8_37 | apply b6_37 | apply b7_37 | refine b4_37 ?_ GE656.out | refine b4_37 ?_ GE664.out | refine b4_37 ?_ GE666.out) | exact HB.out)⟩
          ·replace c99 := Bool.eq_false_iff.mpr c99
           subst c99
           have H1 : (none) = some r := by rw [if_neg (show ¬ (false = true) by decide)] at H; exact H
           clear H
           have H := H1
           clear H1
           exact absurd H (by simp)
         ·rw [if_neg c97] at H
          exact absurd H (by simp)
        ·rw [if_neg c96] at H
         have c96b0 : ((Int.tmod a3 4) == 2) = false := beq_eq_false_iff_ne.mpr c96
         have c96b1 : ((Int.tmod a3 4) != 2) = true := bne_iff_ne.mpr c96
         by_cases c135 : (Int.tmod a3 4) = 3
         ·rw [if_pos c135] at H
          have c135b0 : ((Int.tmod a3 4) == 3) = true := beq_iff_eq.mpr c135
          have c135b1 : ((Int.tmod a3 4) != 3) = false := bne_eq_false_iff_eq.mpr c135
          clear c135
          by_cases c136 : (ji20) < (y661.length : Int)
          ·rw [if_pos c136] at H
           have c136b0 : decide ((ji20) < (y661.length : Int)) = true := decide_eq_true c136
           clear c136
           obtain ⟨y678, hy678⟩ : ∃ y_ : List (S50), y_ = (y661.set ((ji20) : Int).toNat (⟨1, (rd_T50 t650 (ji20)).f1⟩ : S50)) := ⟨_, rfl⟩
           replace H : (if t647 = true then ((aig_Right.f k t649 y678).bind fun t679 => (if t679 = true then (none) else ((aig_Right.f k t649 t650).bind fun t680 => (some t680)))) else (none)) = some r := by first | (rw [hy678]; with_reducible exact H) | (have H2_ := (Option.bind_some _ _).symm.trans H; rw [hy678]; with_reducible exact H2_) | (have H2_ := (Option.bind_some _ _).symm.trans H; with_reducible exact H2_) | with_reducible exact H | (rw [hy678]; exact H) | exact H
           have Ny678 := aM_37 hy678
           clear hy678
           by_cases c138 : t647 = true
           ·subst c138
            have H1 : ((aig_Right.f k t649 y678).bind fun t679 => (if t679 = true then (none) else ((aig_Right.f k t649 t650).bind fun t680 => (some t680)))) = some r := by rw [if_pos rfl] at H; exact H
            clear H
            have H := H1
            clear H1
            replace H := Option.bind_eq_some_iff.mp H
            obtain ⟨t679, A1390, H⟩ := H
            replace H : (if t679 = true then (none) else ((aig_Right.f k t649 t650).bind fun t680 => (some t680))) = some r := H
            have A139 := aM_37 A1390
            clear A1390
            by_cases c140 : t679 = true
            ·subst c140
             have H1 : (none) = some r := by rw [if_pos rfl] at H; exact H
             clear H
             have H := H1
             clear H1
             exact absurd H (by simp)
            ·replace c140 := Bool.eq_false_iff.mpr c140
             subst c140
             have H1 : ((aig_Right.f k t649 t650).bind fun t680 => (some t680)) = some r := by rw [if_neg (show ¬ (false = true) by decide)] at H; exact H
             clear H
             have H := H1
             clear H1
             replace H := Option.bind_eq_some_iff.mp H
             obtain ⟨t680, A1410, H⟩ := H
             replace H : (some t680) = some r := H
             have A141 := aM_37 A1410
             clear A1410
             obtain rfl := Option.some.inj H
             go_enter Try.func8, Try.ntmps8
             try go_wp2_with (first | ((with_reducible refine gate_callee (f := 10) rfl ?_); refine goesL_ (some 15) rfl rfl Try.func10 (by kernel_rfl) rfl #[] rfl (by (try simp only [List.map_toArray, List.map_cons, List.map_nil]); first | done | rfl | (simp only [List.length_drop, List.length_take]; rfl)) ?_; (with_reducible refine (proofmarklaw13_head.calls k  true _ A5.out).mono ?_); rintro e w142 ⟨rfl, hb⟩; refine ⟨_, rfl, ?_⟩; have n0_ := aM_37 (b9_37 (by repeat (first | (with_reducible first | exact HB.out | apply b8_37 | apply b6_37 | apply b7_37) | exact HB.out)) hb); clear HB; have HB := n0_; clear n0_; (try clear hb); (try clear hb2); (try clear hk); (try clear hi)) | ((with_reducible refine gate_callee (f := 11) rfl ?_); refine goesL_ (some 17) rfl rfl Try.func11 (by kernel_rfl) rfl #[.slice A1 l1.length c1] rfl (by (try simp only [List.map_toArray, List.map_cons, List.map_nil]); first | done | rfl | (simp only [List.length_drop, List.length_take]; rfl)) ?_; (with_reducible refine (proofmarklaw13_Great.calls _ _ l1 false _ ?side1 ?side2 A6.out).mono ?_); (case side1 => repeat (first | exact (Kd.C_below HR1.out HB.out) | (with_reducible refine c3_37 ?_ _) | (with_reducible refine c4_37 ?_ _) | (with_reducible refine c5_37 ?_))); (case side2 => exact HC1.out); rintro e w' ⟨rfl, ⟨nd, rfl⟩⟩; refine ⟨_, rfl, ?_⟩; (try (rw [drewN_self w142]; generalize hq_ : World.drewN w142 _ = w142; have n0_ : Aside0 (Below w.heap.size w w142) := ⟨by rw [← hq_]; exact (by repeat (first | (with_reducible first | exact HB.out | apply b8_37 | apply b6_37 | apply b7_37) | exact HB.out))⟩; clear HB hq_; have HB := n0_; clear n0_))) | ((with_reducible refine gate_callee (f := 14) rfl ?_); refine goesL_ (some 22) rfl rfl Try.func14 (by kernel_rfl) rfl #[.int .u8 a0, .slice A1 l1.length c1] rfl (by (try simp only [List.map_toArray, List.map_cons, List.map_nil]); first | done | rfl | (simp only [List.length_drop, List.length_take]; rfl)) ?_; (with_reducible refine (proofmarklaw13_Made.calls k a0 _ _ l1 t649 t650 t653 _ ?side1 ?side2 A9.out).mono ?_); (case side1 => repeat (first | exact (Kd.C_below HR1.out HB.out) | (with_reducible refine c3_37 ?_ _) | (with_reducible refine c4_37 ?_ _) | (with_reducible refine c5_37 ?_))); (case side2 => exact HC1.out); rintro e w143 ⟨v651, v654, rfl, ho0, ho1, hb⟩; refine ⟨_, rfl, ?_⟩; have n0_ := aM_37 (Kd.V_lower (v4_37 (ok' := fun k_ => some k_ ≠ (v654 : Value).ownBlock) ho0 (fun k_ hk_ => hk_.2)) (b0_37 (by repeat (first | (with_reducible first | exact HB.out | apply b8_37 | apply b6_37 | apply b7_37) | exact HB.out)))); have n1_ := aM_37 (Kd.R_lower (Kd.R_mono (ok' := fun k_ => True) ho1 (fun _ hk_ => trivial)) (b0_37 (by repeat (first | (with_reducible first | exact HB.out | apply b8_37 | apply b6_37 | apply b7_37) | exact HB.out)))); have n2_ := aM_37 (b9_37 (by repeat (first | (with_reducible first | exact HB.out | apply b8_37 | apply b6_37 | apply b7_37) | exact HB.out)) hb); clear HB; have HO652 := n0_; have HO655 := n1_; have HB := n2_; clear n0_ n1_ n2_; (try clear hb); (try clear hb2); (try clear hk); (try clear hi); (try clear ho0); (try clear ho1)) | ((with_reducible refine gate_dst (N := 10) rfl ?_); refine box_event ?hg (N := 10) ?hd (cs := #[.int .i64 0, .slice none 0 0]) (t := 24) ?hr ?_; (case hd => rfl); (case hg => rfl); (case hr => first | (go_simp; done) | (go_simp; rfl)); intro gb656 hg w144 hbox hb; have n0_ := aM_37 (v6_37 (Kd.V_elderB (by (with_reducible repeat (first | apply v1_37 | apply v2_37 | apply v3_37)); exact HO652.out) gb656 (Nat.le_of_eq hg.symm)) hb); have n1_ := aM_37 (r4_37 (by (with_reducible repeat (first | apply r1_37 | apply r2_37 | apply r3_37)); exact HO655.out) hb); have n2_ := aM_37 (b9_37 (by repeat (first | (with_reducible first | exact HB.out | apply b8_37 | apply b6_37 | apply b7_37) | exact HB.out)) hb); have n3_ := aM_37 (hbox); have n4_ := aM_37 ((by rw [hg]; exact (b0_37 (by repeat (first | (with_reducible first | exact HB.out | apply b8_37 | apply b6_37 | apply b7_37) | exact HB.out))) : w.heap.size ≤ gb656)); have n5_ := aM_37 ((by rw [hg]; exact (b0_37 (by repeat (first | (with_reducible first | exact HB.out | apply b8_37 | apply b6_37 | apply b7_37) | exact HB.out))) : w.heap.size ≤ gb656)); clear HO652 HO655 HB; have HO652 := n0_; have HO655 := n1_; have HB := n2_; have BK656 := n3_; have GW656 := n4_; have GE656 := n5_; clear n0_ n1_ n2_ n3_ n4_ n5_; clear hb hbox hg; obtain ⟨hcz145_0, hcz145_1, hfz145_0, hfz145_1⟩ := cells2_37 BK656.out; obtain ⟨Ao146, co146, eo146⟩ := Kd.V_slice HO652.out; subst eo146))
             have n0_ : Aside0 (Kd.V k50 50 ((w144.setCell ⟨gb656, 0, none⟩ (.int .i64 t649)).setCell ⟨gb656, 1, none⟩ (.slice Ao146 t650.length co146)) w.heap.size (fun k_ => some k_ ≠ (v654 : Value).ownBlock ∧ k_ ≠ gb656) (.slice Ao146 t650.length co146) t650) := ⟨by (with_reducible repeat (first | apply v1_37 | apply v2_37 | apply v3_37)); exact v4_37 (v5_37 (p := ⟨gb656, 1, none⟩) (v5_37 (p := ⟨gb656, 0, none⟩) (v4_37 HO652.out (fun k_ hk => (⟨hk, hk.2⟩ : _ ∧ k_ ≠ gb656))) (fun _ hk => hk.2) (.int .i64 t649)) (fun _ hk => hk.2) (.slice Ao146 t650.length co146)) (fun _ hk => ⟨hk.1.1, hk.1.2⟩)⟩
             have n1_ : Aside0 (Kd.R (Kd.int .i64) 3 ((w144.setCell ⟨gb656, 0, none⟩ (.int .i64 t649)).setCell ⟨gb656, 1, none⟩ (.slice Ao146 t650.length co146)) w.heap.size (fun _ => True) v654 t653) := ⟨by (with_reducible repeat (first | apply r1_37 | apply r2_37 | apply r3_37)); exact Kd.R_mono (Kd.R_far (p := ⟨gb656, 1, none⟩) (Kd.R_far (p := ⟨gb656, 0, none⟩) (Kd.R_types HO655.out BK656.out (by decide)) (fun _ hk => hk.2) (.int .i64 t649)) (fun _ hk => hk.2) (.slice Ao146 t650.length co146)) (fun _ hk => trivial)⟩
             have n2_ : Aside0 (((w144.setCell ⟨gb656, 0, none⟩ (.int .i64 t649)).setCell ⟨gb656, 1, none⟩ (.slice Ao146 t650.length co146)).heap[gb656]? = some (.cells #[.int .i64 t649, .slice Ao146 t650.length co146] 24 (0, 0))) := ⟨by (with_reducible repeat (first | refine b1_37 ?_ _ | refine b3_37 ?_ | refine b2_37 ?_ _)); refine c1_37 (cs := #[.int .i64 t649, .slice none 0 0]) ?_ 1 _ rfl; (with_reducible repeat (first | refine b1_37 ?_ _ | refine b3_37 ?_ | refine b2_37 ?_ _)); refine c1_37 (cs := #[.int .i64 0, .slice none 0 0]) ?_ 0 _ rfl; (with_reducible repeat (first | refine b1_37 ?_ _ | refine b3_37 ?_ | refine b2_37 ?_ _)); exact BK656.out⟩
             have n3_ : Aside0 (Below w.heap.size w ((w144.setCell ⟨gb656, 0, none⟩ (.int .i64 t649)).setCell ⟨gb656, 1, none⟩ (.slice Ao146 t650.length co146))) := ⟨by repeat (first | (with_reducible first | exact HB.out | apply b8_37 | apply b6_37 | apply b7_37 | refine b4_37 ?_ GE656.out) | exact HB.out)⟩
             (try clear HO652)
             (try clear HO655)
             (try clear BK656)
             (try clear HB)
             generalize ((w144.setCell ⟨gb656, 0, none⟩ (.int .i64 t649)).setCell ⟨gb656, 1, none⟩ (.slice Ao146 t650.length co146)) = w147 at n0_ n1_ n2_ n3_ ⊢
             have HO652 := n0_
             have HO655 := n1_
             have BK656 := n2_
             have HB := n3_
             clear n0_ n1_ n2_ n3_
             have n0_ := aM_37 (v3_37 HO652.out)
             have n1_ := aM_37 (r3_37 HO655.out)
             have n2_ := aM_37 (b3_37 BK656.out)
             have n3_ := aM_37 (b7_37 HB.out)
             clear HO652 HO655 BK656 HB
             have HO652 := n0_
             have HO655 := n1_
             have BK656 := n2_
             have HB := n3_
             clear n0_ n1_ n2_ n3_
             refine start_ (n := 9) (S := fun w' => w'.cell? ⟨gb656, 0, none⟩ = some (.int .i64 t649) ∧ w'.cell? ⟨gb656, 1, none⟩ = some (.slice Ao146 t650.length co146)) (ds := []) #[false, false, false, false, false, false, false, false, false] (by kernel_rfl) rfl rfl ⟨(blk_cell BK656.out 0).trans rfl, (blk_cell BK656.out 1).trans rfl⟩ (fun hHeld => ?_); refine with_tabW proofmarklaw13_AigOdd.tab8 proofmarklaw13_AigOdd.bits8 (fun HT_ HW_ => ?_)
             generalize w147.drew = w148 at HO652 HO655 BK656 HB hHeld ⊢
             refine pure_ (i := 0) (N := some 40) (v := ?_) (a' := ?_) #[true, false, false, false, false, false, false, false, false] rfl rfl (any_of HT_.out (by kernel_rfl)) (fun _ _ _ h => h) (Or.inl ⟨by rfl, ?_⟩) ?_ ?_
             rotate_left
             ·intro w'
              go_simp
              with_reducible rfl
             rotate_left
             ·simp only [Act.put, l1_37, l2_37, l3_37, i64_w, i32_w]
              rfl
             refine pure_ (i := 3) (N := some 43) (v := ?_) (a' := ?_) #[true, false, false, true, false, false, false, false, false] rfl rfl (any_of HT_.out (by kernel_rfl)) (fun _ _ _ h => h) (Or.inl ⟨by rfl, ?_⟩) ?_ ?_
             rotate_left
             ·intro w'
              go_simp
              with_reducible rfl
             rotate_left
             ·simp only [Act.put, l1_37, l2_37, l3_37, i64_w, i32_w]
              rfl
             refine take_ (i := 1) (N := some 41) (v := ?_) (a' := ?_) #[true, true, false, true, false, false, false, false, false] rfl rfl (take_ofW HT_.out HW_.out (by kernel_rfl)) (fun _ _ _ h => h) (Or.inl ⟨by rfl, ?_⟩) hHeld ?_ ?_
             rotate_left
             ·rintro w' ⟨s0, s1⟩
              go_simp
              with_reducible rfl
             rotate_left
             ·simp only [Act.put, l1_37, l2_37, l3_37, i64_w, i32_w]
              rfl
             refine take_ (i := 4) (N := some 44) (v := ?_) (a' := ?_) #[true, true, false, true, true, false, false, false, false] rfl rfl (take_ofW HT_.out HW_.out (by kernel_rfl)) (fun _ _ _ h => h) (Or.inl ⟨by rfl, ?_⟩) hHeld ?_ ?_
             rotate_left
             ·rintro w' ⟨s0, s1⟩
              go_simp
              with_reducible rfl
             rotate_left
             ·simp only [Act.put, l1_37, l2_37, l3_37, i64_w, i32_w]
              rfl
             refine join_ (σ := Value × Value × Nat) 1 #[true, true, true, true, true, true, true, true, false] (fun s_ => [(42, s_.1), (45, s_.2.1), (13, .pointer (some ⟨s_.2.2, 0, none⟩)), (46, .agg #[.int .i64 t649, s_.2.1])]) (fun s_ w' => (w'.cell? ⟨gb656, 0, none⟩ = some (.int .i64 t649) ∧ w'.cell? ⟨gb656, 1, none⟩ = some (.slice Ao146 t650.length co146)) ∧ (Kd.V k50 50 w' w.heap.size (fun k_ => some k_ ≠ (v654 : Value).ownBlock ∧ some k_ ≠ (s_.2.1 : Value).ownBlock ∧ k_ ≠ gb656 ∧ k_ ≠ s_.2.2) (.slice Ao146 t650.length co146) t650) ∧ (Kd.R (Kd.int .i64) 3 w' w.heap.size (fun _ => True) v654 t653) ∧ (Kd.R k50 50 w' w.heap.size (fun _ => True) s_.2.1 y661) ∧ (w'.heap[gb656]? = some (.cells #[.int .i64 t649, .slice Ao146 t650.length co146] 24 (0, 0))) ∧ (w'.heap[s_.2.2]? = some (.cells #[.int .i64 0, .slice none 0 0] 24 (0, 0))) ∧ (w.heap.size ≤ s_.2.2) ∧ (w.heap.size ≤ s_.2.2) ∧ (gb656 ≠ s_.2.2) ∧ (s_.2.2 ≠ gb656) ∧ (Below w.heap.size w w')) ?_ ?_
             rotate_left
             ·intro hCont
              refine two_ (i := 2) (j := 7) (Ni := some 42) (Nj := some 13) #[true, true, true, true, true, false, false, false, false] #[true, true, false, true, true, false, false, true, false] rfl rfl rfl rfl (two_of HT_.out (by kernel_rfl)) (by decide) (by decide) (fun K hK => ?_) (fun K hK => ?_)
              ·skip
               refine Kd.R_lit_step k50 _ 50 ?hg (N := 42) ?hd (xs := ([] : List (S50))) (inner := []) (ok := fun _ => True) (okp := fun _ => True) ?hr ?hp (fun _ hk => hk) trivial (Below.refl _ _) (Nat.le_refl _) (by simp) ?_; (case hd => rfl); (case hg => rfl); (case hr => first | (go_simp; done) | (go_simp; rfl)); (case hp => exact (Reps.none _ _))
               intro v659 w149 ho150 hb hg_ hnew_
               clear hg_ hnew_
               (first | rw [← Ny658.out] at ho150 | (simp only [Int.reduceToNat] at ho150; rw [← Ny658.out] at ho150))
               have n0_ := aM_37 (Kd.V_elder' (by (with_reducible repeat (first | apply v1_37 | apply v2_37 | apply v3_37)); exact HO652.out) (Kd.R_base ho150) hb)
               have n1_ := aM_37 (r4_37 (by (with_reducible repeat (first | apply r1_37 | apply r2_37 | apply r3_37)); exact HO655.out) hb)
               have n2_ := aM_37 (Kd.R_lower ho150 (b0_37 (by repeat (first | (with_reducible first | exact HB.out | apply b8_37 | apply b6_37 | apply b7_37 | refine b4_37 ?_ GE656.out) | exact HB.out))))
               have n3_ := aM_37 (b5_37 (by exact BK656.out) hb)
               have n4_ := aM_37 (b9_37 (by repeat (first | (with_reducible first | exact HB.out | apply b8_37 | apply b6_37 | apply b7_37 | refine b4_37 ?_ GE656.out) | exact HB.out)) hb)
               clear HO652 HO655 BK656 HB
               have HO652 := n0_
               have HO655 := n1_
               have HO660 := n2_
               have BK656 := n3_
               have HB := n4_
               clear n0_ n1_ n2_ n3_ n4_
               clear hb ho150
               refine hK.out _ _ ⟨(blk_cell BK656.out 0).trans rfl, (blk_cell BK656.out 1).trans rfl⟩ (fun hHeld => ?_)
               clear hK K
               refine norm_ (a' := ?_) ?_ ?_
               rotate_left
               ·show Act.put _ (some 42) _ = _
                simp only [Act.put, l1_37, l2_37, l3_37, i64_w, i32_w]
                rfl
               refine two_ (i := 5) (j := 7) (Ni := some 45) (Nj := some 13) #[true, true, true, true, true, true, false, false, false] #[true, true, true, true, true, false, false, true, false] rfl rfl rfl rfl (two_of HT_.out (by kernel_rfl)) (by decide) (by decide) (fun K hK => ?_) (fun K hK => ?_)
               ·skip
                refine Kd.R_append_rows_step k50 (w0 := w) w.heap.size (by rfl) (.tmp 42) (.tmp 44) 22 50 (.agg #[(.int .i64 0), (.int .i64 0)]) 16 rfl Try.underlying22 info50 rfl (by decide) (by omega) v659 y658 t650 _ _ _ (fun _ => True) (fun _ => False) rfl rfl ?aO ?aR (fun _ _ h => h) (fun _ h => h.elim) ?aF ?aB ?aS ?aL ?_
                (case aR => repeat (first | exact (Kd.V_reads' HO652.out).2.2 | (with_reducible refine c3_37 ?_ _) | (with_reducible refine c4_37 ?_ _) | (with_reducible refine c5_37 ?_)))
                (case aB => exact (by repeat (first | (with_reducible first | exact HB.out | apply b8_37 | apply b6_37 | apply b7_37 | refine b4_37 ?_ GE656.out) | exact HB.out)))
                (case aF => exact (fun _ _ => trivial))
                (case aO => exact (by (with_reducible repeat (first | apply r1_37 | apply r2_37 | apply r3_37)); exact HO660.out))
                (case aS => exact (b0_37 (by repeat (first | (with_reducible first | exact HB.out | apply b8_37 | apply b6_37 | apply b7_37 | refine b4_37 ?_ GE656.out) | exact HB.out))))
                (case aL => have := LMc19.out; omega)
                intro v662 w151 ho hb hg hat
                rw [← Ny661.out] at ho
                have n0_ := aM_37 (Kd.V_afterv (ok := (fun k_ => some k_ ≠ (v654 : Value).ownBlock ∧ k_ ≠ gb656)) (by (with_reducible repeat (first | apply v1_37 | apply v2_37 | apply v3_37)); exact HO652.out) hg hat)
                have n1_ := aM_37 (Kd.R_over' (by (with_reducible repeat (first | apply r1_37 | apply r2_37 | apply r3_37)); exact HO655.out) (Kd.R_typed (by (with_reducible repeat (first | apply r1_37 | apply r2_37 | apply r3_37)); exact HO660.out)) (by decide) hg)
                have n2_ := aM_37 (blk_grown (g := gb656) (o := .cells #[.int .i64 t649, .slice Ao146 t650.length co146] 24 (0, 0)) (by exact BK656.out) hg (Kd.R_ne HO660.out BK656.out (by decide)))
                have n3_ := aM_37 (hb)
                have n4_ := aM_37 (ho)
                clear HO652 HO655 BK656 HB HO660
                have HO652 := n0_
                have HO655 := n1_
                have BK656 := n2_
                have HB := n3_
                have HO663 := n4_
                clear n0_ n1_ n2_ n3_ n4_
                clear ho hb hg hat
                obtain ⟨Ao152, co152, eo152⟩ := Kd.R_slice HO663.out
                (first | subst eo152 | (injection eo152 with f1_ f2_ f3_; have f4_ := f1_.symm; have f5_ := f3_.symm; clear f1_ f2_ f3_; subst f4_; subst f5_))
                refine hK.out _ _ ⟨(blk_cell BK656.out 0).trans rfl, (blk_cell BK656.out 1).trans rfl⟩ (fun hHeld => ?_)
                clear hK K
                refine norm_ (a' := ?_) ?_ ?_
                rotate_left
                ·show Act.put _ (some 45) _ = _
                 simp only [Act.put, l1_37, l2_37, l3_37, i64_w, i32_w]
                 rfl
                refine pure_ (i := 6) (N := some 46) (v := ?_) (a' := ?_) #[true, true, true, true, true, true, true, false, false] rfl rfl (any_of HT_.out (by kernel_rfl)) (fun _ _ _ h => h) (Or.inl ⟨by rfl, ?_⟩) ?_ ?_
                rotate_left
                ·intro w'
                 go_simp
                 with_reducible rfl
                rotate_left
                ·simp only [Act.put, l1_37, l2_37, l3_37, i64_w, i32_w]
                 rfl
                refine one_ (i := 7) (N := some 13) #[true, true, true, true, true, true, true, true, false] rfl rfl (one_of HT_.out (by kernel_rfl)) (by decide) (fun K hK => ?_)
                refine box_step ?hg (N := 13) ?hd (cs := #[.int .i64 0, .slice none 0 0]) (t := 24) ?hr ?_; (case hd => rfl); (case hg => rfl); (case hr => first | (go_simp; done) | (go_simp; rfl))
                intro gb664 hg w153 hbox hb
                have n0_ := aM_37 (v6_37 (Kd.V_elderB (by (with_reducible repeat (first | apply v1_37 | apply v2_37 | apply v3_37)); exact HO652.out) gb664 (Nat.le_of_eq hg.symm)) hb)
                have n1_ := aM_37 (r4_37 (by (with_reducible repeat (first | apply r1_37 | apply r2_37 | apply r3_37)); exact HO655.out) hb)
                have n2_ := aM_37 (r4_37 (by (with_reducible repeat (first | apply r1_37 | apply r2_37 | apply r3_37)); exact HO663.out) hb)
                have n3_ := aM_37 (b5_37 (by exact BK656.out) hb)
                have n4_ := aM_37 (b9_37 (by repeat (first | (with_reducible first | exact HB.out | apply b8_37 | apply b6_37 | apply b7_37 | refine b4_37 ?_ GE656.out) | exact HB.out)) hb)
                have n5_ := aM_37 (hbox)
                have n6_ := aM_37 ((by rw [hg]; exact (b0_37 (by repeat (first | (with_reducible first | exact HB.out | apply b8_37 | apply b6_37 | apply b7_37 | refine b4_37 ?_ GE656.out) | exact HB.out))) : w.heap.size ≤ gb664))
                have n7_ := aM_37 ((by rw [hg]; exact (b0_37 (by repeat (first | (with_reducible first | exact HB.out | apply b8_37 | apply b6_37 | apply b7_37 | refine b4_37 ?_ GE656.out) | exact HB.out))) : w.heap.size ≤ gb664))
                have n8_ := aM_37 ((by rw [hg]; exact Nat.ne_of_lt (blk_lt (by exact BK656.out)) : gb656 ≠ gb664))
                have n9_ := aM_37 ((by rw [hg]; exact Nat.ne_of_gt (blk_lt (by exact BK656.out)) : gb664 ≠ gb656))
                clear HO652 HO655 HO663 BK656 HB
                have HO652 := n0_
                have HO655 := n1_
                have HO663 := n2_
                have BK656 := n3_
                have HB := n4_
                have BK664 := n5_
                have GW664 := n6_
                have GE664 := n7_
                have NB656_664 := n8_
                have NB664_656 := n9_
                clear n0_ n1_ n2_ n3_ n4_ n5_ n6_ n7_ n8_ n9_
                clear hb hbox hg
                refine hK.out _ _ ⟨(blk_cell BK656.out 0).trans rfl, (blk_cell BK656.out 1).trans rfl⟩ (fun hHeld => ?_)
                clear hK K
                refine norm_ (a' := ?_) ?_ ?_
                rotate_left
                ·show Act.put _ (some 13) _ = _
                 simp only [Act.put, l1_37, l2_37, l3_37, i64_w, i32_w]
                 rfl
                exact norm_ (by simp only [putAll, Act.put, l1_37, l2_37, l3_37]) (hCont (v659, .slice Ao152 y661.length co152, gb664) _ ⟨hHeld, (by (with_reducible repeat (first | apply v1_37 | apply v2_37 | apply v3_37)); exact v4_37 HO652.out (fun _ hk => ⟨hk.1.1.1, ⟨hk.1.2, ⟨hk.1.1.2, hk.2⟩⟩⟩)), (by (with_reducible repeat (first | apply r1_37 | apply r2_37 | apply r3_37)); exact HO655.out), (by (with_reducible repeat (first | apply r1_37 | apply r2_37 | apply r3_37)); exact HO663.out), (by exact BK656.out), (by exact BK664.out), GW664.out, GE664.out, NB656_664.out, NB664_656.out, (by repeat (first | (with_reducible first | exact HB.out | apply b8_37 | apply b6_37 | apply b7_37 | refine b4_37 ?_ GE656.out | refine b4_37 ?_ GE664.out) | exact HB.out))⟩)
               ·skip
                refine box_step ?hg (N := 13) ?hd (cs := #[.int .i64 0, .slice none 0 0]) (t := 24) ?hr ?_; (case hd => rfl); (case hg => rfl); (case hr => first | (go_simp; done) | (go_simp; rfl))
                intro gb664 hg w151 hbox hb
                have n0_ := aM_37 (v6_37 (Kd.V_elderB (by (with_reducible repeat (first | apply v1_37 | apply v2_37 | apply v3_37)); exact HO652.out) gb664 (Nat.le_of_eq hg.symm)) hb)
                have n1_ := aM_37 (r4_37 (by (with_reducible repeat (first | apply r1_37 | apply r2_37 | apply r3_37)); exact HO655.out) hb)
                have n2_ := aM_37 (r4_37 (by (with_reducible repeat (first | apply r1_37 | apply r2_37 | apply r3_37)); exact HO660.out) hb)
                have n3_ := aM_37 (b5_37 (by exact BK656.out) hb)
                have n4_ := aM_37 (b9_37 (by repeat (first | (with_reducible first | exact HB.out | apply b8_37 | apply b6_37 | apply b7_37 | refine b4_37 ?_ GE656.out) | exact HB.out)) hb)
                have n5_ := aM_37 (hbox)
                have n6_ := aM_37 ((by rw [hg]; exact (b0_37 (by repeat (first | (with_reducible first | exact HB.out | apply b8_37 | apply b6_37 | apply b7_37 | refine b4_37 ?_ GE656.out) | exact HB.out))) : w.heap.size ≤ gb664))
                have n7_ := aM_37 ((by rw [hg]; exact (b0_37 (by repeat (first | (with_reducible first | exact HB.out | apply b8_37 | apply b6_37 | apply b7_37 | refine b4_37 ?_ GE656.out) | exact HB.out))) : w.heap.size ≤ gb664))
                have n8_ := aM_37 ((by rw [hg]; exact Nat.ne_of_lt (blk_lt (by exact BK656.out)) : gb656 ≠ gb664))
                have n9_ := aM_37 ((by rw [hg]; exact Nat.ne_of_gt (blk_lt (by exact BK656.out)) : gb664 ≠ gb656))
                clear HO652 HO655 HO660 BK656 HB
                have HO652 := n0_
                have HO655 := n1_
                have HO660 := n2_
                have BK656 := n3_
                have HB := n4_
                have BK664 := n5_
                have GW664 := n6_
                have GE664 := n7_
                have NB656_664 := n8_
                have NB664_656 := n9_
                clear n0_ n1_ n2_ n3_ n4_ n5_ n6_ n7_ n8_ n9_
                clear hb hbox hg
                refine hK.out _ _ ⟨(blk_cell BK656.out 0).trans rfl, (blk_cell BK656.out 1).trans rfl⟩ (fun hHeld => ?_)
                clear hK K
                refine norm_ (a' := ?_) ?_ ?_
                rotate_left
                ·show Act.put _ (some 13) _ = _
                 simp only [Act.put, l1_37, l2_37, l3_37, i64_w, i32_w]
                 rfl
                refine one_ (i := 5) (N := some 45) #[true, true, true, true, true, true, false, true, false] rfl rfl (one_of HT_.out (by kernel_rfl)) (by decide) (fun K hK => ?_)
                refine Kd.R_append_rows_step k50 (w0 := w) w.heap.size (by rfl) (.tmp 42) (.tmp 44) 22 50 (.agg #[(.int .i64 0), (.int .i64 0)]) 16 rfl Try.underlying22 info50 rfl (by decide) (by omega) v659 y658 t650 _ _ _ (fun _ => True) (fun _ => False) rfl rfl ?aO ?aR (fun _ _ h => h) (fun _ h => h.elim) ?aF ?aB ?aS ?aL ?_
                (case aR => repeat (first | exact (Kd.V_reads' HO652.out).2.2 | (with_reducible refine c3_37 ?_ _) | (with_reducible refine c4_37 ?_ _) | (with_reducible refine c5_37 ?_)))
                (case aB => exact (by repeat (first | (with_reducible first | exact HB.out | apply b8_37 | apply b6_37 | apply b7_37 | refine b4_37 ?_ GE656.out | refine b4_37 ?_ GE664.out) | exact HB.out)))
                (case aF => exact (fun _ _ => trivial))
                (case aO => exact (by (with_reducible repeat (first | apply r1_37 | apply r2_37 | apply r3_37)); exact HO660.out))
                (case aS => exact (b0_37 (by repeat (first | (with_reducible first | exact HB.out | apply b8_37 | apply b6_37 | apply b7_37 | refine b4_37 ?_ GE656.out | refine b4_37 ?_ GE664.out) | exact HB.out))))
                (case aL => have := LMc19.out; omega)
                intro v662 w152 ho hb hg hat
                rw [← Ny661.out] at ho
                have n0_ := aM_37 (Kd.V_afterv (ok := (fun k_ => some k_ ≠ (v654 : Value).ownBlock ∧ k_ ≠ gb656 ∧ k_ ≠ gb664)) (by (with_reducible repeat (first | apply v1_37 | apply v2_37 | apply v3_37)); exact v4_37 HO652.out (fun _ hk => ⟨⟨hk.1.1.1, ⟨hk.1.1.2, hk.2⟩⟩, hk.1.2⟩)) hg hat)
                have n1_ := aM_37 (Kd.R_over' (by (with_reducible repeat (first | apply r1_37 | apply r2_37 | apply r3_37)); exact HO655.out) (Kd.R_typed (by (with_reducible repeat (first | apply r1_37 | apply r2_37 | apply r3_37)); exact HO660.out)) (by decide) hg)
                have n2_ := aM_37 (blk_grown (g := gb656) (o := .cells #[.int .i64 t649, .slice Ao146 t650.length co146] 24 (0, 0)) (by exact BK656.out) hg (Kd.R_ne HO660.out BK656.out (by decide)))
                have n3_ := aM_37 (blk_grown (g := gb664) (o := .cells #[.int .i64 0, .slice none 0 0] 24 (0, 0)) (by exact BK664.out) hg (Kd.R_ne HO660.out BK664.out (by decide)))
                have n4_ := aM_37 (hb)
                have n5_ := aM_37 (ho)
                clear HO652 HO655 BK656 BK664 HB HO660
                have HO652 := n0_
                have HO655 := n1_
                have BK656 := n2_
                have BK664 := n3_
                have HB := n4_
                have HO663 := n5_
                clear n0_ n1_ n2_ n3_ n4_ n5_
                clear ho hb hg hat
                obtain ⟨Ao153, co153, eo153⟩ := Kd.R_slice HO663.out
                (first | subst eo153 | (injection eo153 with f1_ f2_ f3_; have f4_ := f1_.symm; have f5_ := f3_.symm; clear f1_ f2_ f3_; subst f4_; subst f5_))
                refine hK.out _ _ ⟨(blk_cell BK656.out 0).trans rfl, (blk_cell BK656.out 1).trans rfl⟩ (fun hHeld => ?_)
                clear hK K
                refine norm_ (a' := ?_) ?_ ?_
                rotate_left
                ·show Act.put _ (some 45) _ = _
                 simp only [Act.put, l1_37, l2_37, l3_37, i64_w, i32_w]
                 rfl
                refine pure_ (i := 6) (N := some 46) (v := ?_) (a' := ?_) #[true, true, true, true, true, true, true, true, false] rfl rfl (any_of HT_.out (by kernel_rfl)) (fun _ _ _ h => h) (Or.inl ⟨by rfl, ?_⟩) ?_ ?_
                rotate_left
                ·intro w'
                 go_simp
                 with_reducible rfl
                rotate_left
                ·simp only [Act.put, l1_37, l2_37, l3_37, i64_w, i32_w]
                 rfl
                exact norm_ (by simp only [putAll, Act.put, l1_37, l2_37, l3_37]) (hCont (v659, .slice Ao153 y661.length co153, gb664) _ ⟨hHeld, (by (with_reducible repeat (first | apply v1_37 | apply v2_37 | apply v3_37)); exact v4_37 HO652.out (fun _ hk => ⟨hk.1.1, ⟨hk.2, ⟨hk.1.2.1, hk.1.2.2⟩⟩⟩)), (by (with_reducible repeat (first | apply r1_37 | apply r2_37 | apply r3_37)); exact HO655.out), (by (with_reducible repeat (first | apply r1_37 | apply r2_37 | apply r3_37)); exact HO663.out), (by exact BK656.out), (by exact BK664.out), GW664.out, GE664.out, NB656_664.out, NB664_656.out, (by repeat (first | (with_reducible first | exact HB.out | apply b8_37 | apply b6_37 | apply b7_37 | refine b4_37 ?_ GE656.out | refine b4_37 ?_ GE664.out) | exact HB.out))⟩)
              ·skip
               refine box_step ?hg (N := 13) ?hd (cs := #[.int .i64 0, .slice none 0 0]) (t := 24) ?hr ?_; (case hd => rfl); (case hg => rfl); (case hr => first | (go_simp; done) | (go_simp; rfl))
               intro gb664 hg w149 hbox hb
               have n0_ := aM_37 (v6_37 (Kd.V_elderB (by (with_reducible repeat (first | apply v1_37 | apply v2_37 | apply v3_37)); exact HO652.out) gb664 (Nat.le_of_eq hg.symm)) hb)
               have n1_ := aM_37 (r4_37 (by (with_reducible repeat (first | apply r1_37 | apply r2_37 | apply r3_37)); exact HO655.out) hb)
               have n2_ := aM_37 (b5_37 (by exact BK656.out) hb)
               have n3_ := aM_37 (b9_37 (by repeat (first | (with_reducible first | exact HB.out | apply b8_37 | apply b6_37 | apply b7_37 | refine b4_37 ?_ GE656.out) | exact HB.out)) hb)
               have n4_ := aM_37 (hbox)
               have n5_ := aM_37 ((by rw [hg]; exact (b0_37 (by repeat (first | (with_reducible first | exact HB.out | apply b8_37 | apply b6_37 | apply b7_37 | refine b4_37 ?_ GE656.out) | exact HB.out))) : w.heap.size ≤ gb664))
               have n6_ := aM_37 ((by rw [hg]; exact (b0_37 (by repeat (first | (with_reducible first | exact HB.out | apply b8_37 | apply b6_37 | apply b7_37 | refine b4_37 ?_ GE656.out) | exact HB.out))) : w.heap.size ≤ gb664))
               have n7_ := aM_37 ((by rw [hg]; exact Nat.ne_of_lt (blk_lt (by exact BK656.out)) : gb656 ≠ gb664))
               have n8_ := aM_37 ((by rw [hg]; exact Nat.ne_of_gt (blk_lt (by exact BK656.out)) : gb664 ≠ gb656))
               clear HO652 HO655 BK656 HB
               have HO652 := n0_
               have HO655 := n1_
               have BK656 := n2_
               have HB := n3_
               have BK664 := n4_
               have GW664 := n5_
               have GE664 := n6_
               have NB656_664 := n7_
               have NB664_656 := n8_
               clear n0_ n1_ n2_ n3_ n4_ n5_ n6_ n7_ n8_
               clear hb hbox hg
               refine hK.out _ _ ⟨(blk_cell BK656.out 0).trans rfl, (blk_cell BK656.out 1).trans rfl⟩ (fun hHeld => ?_)
               clear hK K
               refine norm_ (a' := ?_) ?_ ?_
               rotate_left
               ·show Act.put _ (some 13) _ = _
                simp only [Act.put, l1_37, l2_37, l3_37, i64_w, i32_w]
                rfl
               refine one_ (i := 2) (N := some 42) #[true, true, true, true, true, false, false, true, false] rfl rfl (one_of HT_.out (by kernel_rfl)) (by decide) (fun K hK => ?_)
               refine Kd.R_lit_step k50 _ 50 ?hg (N := 42) ?hd (xs := ([] : List (S50))) (inner := []) (ok := fun _ => True) (okp := fun _ => True) ?hr ?hp (fun _ hk => hk) trivial (Below.refl _ _) (Nat.le_refl _) (by simp) ?_; (case hd => rfl); (case hg => rfl); (case hr => first | (go_simp; done) | (go_simp; rfl)); (case hp => exact (Reps.none _ _))
               intro v659 w150 ho151 hb hg_ hnew_
               clear hg_ hnew_
               (first | rw [← Ny658.out] at ho151 | (simp only [Int.reduceToNat] at ho151; rw [← Ny658.out] at ho151))
               have n0_ := aM_37 (Kd.V_elder' (by (with_reducible repeat (first | apply v1_37 | apply v2_37 | apply v3_37)); exact HO652.out) (Kd.R_base ho151) hb)
               have n1_ := aM_37 (r4_37 (by (with_reducible repeat (first | apply r1_37 | apply r2_37 | apply r3_37)); exact HO655.out) hb)
               have n2_ := aM_37 (Kd.R_lower ho151 (b0_37 (by repeat (first | (with_reducible first | exact HB.out | apply b8_37 | apply b6_37 | apply b7_37 | refine b4_37 ?_ GE656.out | refine b4_37 ?_ GE664.out) | exact HB.out))))
               have n3_ := aM_37 (b5_37 (by exact BK656.out) hb)
               have n4_ := aM_37 (b5_37 (by exact BK664.out) hb)
               have n5_ := aM_37 (b9_37 (by repeat (first | (with_reducible first | exact HB.out | apply b8_37 | apply b6_37 | apply b7_37 | refine b4_37 ?_ GE656.out | refine b4_37 ?_ GE664.out) | exact HB.out)) hb)
               clear HO652 HO655 BK656 BK664 HB
               have HO652 := n0_
               have HO655 := n1_
               have HO660 := n2_
               have BK656 := n3_
               have BK664 := n4_
               have HB := n5_
               clear n0_ n1_ n2_ n3_ n4_ n5_
               clear hb ho151
               refine hK.out _ _ ⟨(blk_cell BK656.out 0).trans rfl, (blk_cell BK656.out 1).trans rfl⟩ (fun hHeld => ?_)
               clear hK K
               refine norm_ (a' := ?_) ?_ ?_
               rotate_left
               ·show Act.put _ (some 42) _ = _
                simp only [Act.put, l1_37, l2_37, l3_37, i64_w, i32_w]
                rfl
               refine one_ (i := 5) (N := some 45) #[true, true, true, true, true, true, false, true, false] rfl rfl (one_of HT_.out (by kernel_rfl)) (by decide) (fun K hK => ?_)
               refine Kd.R_append_rows_step k50 (w0 := w) w.heap.size (by rfl) (.tmp 42) (.tmp 44) 22 50 (.agg #[(.int .i64 0), (.int .i64 0)]) 16 rfl Try.underlying22 info50 rfl (by decide) (by omega) v659 y658 t650 _ _ _ (fun _ => True) (fun _ => False) rfl rfl ?aO ?aR (fun _ _ h => h) (fun _ h => h.elim) ?aF ?aB ?aS ?aL ?_
               (case aR => repeat (first | exact (Kd.V_reads' HO652.out).2.2 | (with_reducible refine c3_37 ?_ _) | (with_reducible refine c4_37 ?_ _) | (with_reducible refine c5_37 ?_)))
               (case aB => exact (by repeat (first | (with_reducible first | exact HB.out | apply b8_37 | apply b6_37 | apply b7_37 | refine b4_37 ?_ GE656.out | refine b4_37 ?_ GE664.out) | exact HB.out)))
               (case aF => exact (fun _ _ => trivial))
               (case aO => exact (by (with_reducible repeat (first | apply r1_37 | apply r2_37 | apply r3_37)); exact HO660.out))
               (case aS => exact (b0_37 (by repeat (first | (with_reducible first | exact HB.out | apply b8_37 | apply b6_37 | apply b7_37 | refine b4_37 ?_ GE656.out | refine b4_37 ?_ GE664.out) | exact HB.out))))
               (case aL => have := LMc19.out; omega)
               intro v662 w152 ho hb hg hat
               rw [← Ny661.out] at ho
               have n0_ := aM_37 (Kd.V_afterv (ok := (fun k_ => some k_ ≠ (v654 : Value).ownBlock ∧ k_ ≠ gb656 ∧ k_ ≠ gb664)) (by (with_reducible repeat (first | apply v1_37 | apply v2_37 | apply v3_37)); exact v4_37 HO652.out (fun _ hk => ⟨⟨hk.1.1.1, ⟨hk.1.1.2, hk.1.2⟩⟩, hk.2⟩)) hg hat)
               have n1_ := aM_37 (Kd.R_over' (by (with_reducible repeat (first | apply r1_37 | apply r2_37 | apply r3_37)); exact HO655.out) (Kd.R_typed (by (with_reducible repeat (first | apply r1_37 | apply r2_37 | apply r3_37)); exact HO660.out)) (by decide) hg)
               have n2_ := aM_37 (blk_grown (g := gb656) (o := .cells #[.int .i64 t649, .slice Ao146 t650.length co146] 24 (0, 0)) (by exact BK656.out) hg (Kd.R_ne HO660.out BK656.out (by decide)))
               have n3_ := aM_37 (blk_grown (g := gb664) (o := .cells #[.int .i64 0, .slice none 0 0] 24 (0, 0)) (by exact BK664.out) hg (Kd.R_ne HO660.out BK664.out (by decide)))
               have n4_ := aM_37 (hb)
               have n5_ := aM_37 (ho)
               clear HO652 HO655 BK656 BK664 HB HO660
               have HO652 := n0_
               have HO655 := n1_
               have BK656 := n2_
               have BK664 := n3_
               have HB := n4_
               have HO663 := n5_
               clear n0_ n1_ n2_ n3_ n4_ n5_
               clear ho hb hg hat
               obtain ⟨Ao153, co153, eo153⟩ := Kd.R_slice HO663.out
               (first | subst eo153 | (injection eo153 with f1_ f2_ f3_; have f4_ := f1_.symm; have f5_ := f3_.symm; clear f1_ f2_ f3_; subst f4_; subst f5_))
               refine hK.out _ _ ⟨(blk_cell BK656.out 0).trans rfl, (blk_cell BK656.out 1).trans rfl⟩ (fun hHeld => ?_)
               clear hK K
               refine norm_ (a' := ?_) ?_ ?_
               rotate_left
               ·show Act.put _ (some 45) _ = _
                simp only [Act.put, l1_37, l2_37, l3_37, i64_w, i32_w]
                rfl
               refine pure_ (i := 6) (N := some 46) (v := ?_) (a' := ?_) #[true, true, true, true, true, true, true, true, false] rfl rfl (any_of HT_.out (by kernel_rfl)) (fun _ _ _ h => h) (Or.inl ⟨by rfl, ?_⟩) ?_ ?_
               rotate_left
               ·intro w'
                go_simp
                with_reducible rfl
               rotate_left
               ·simp only [Act.put, l1_37, l2_37, l3_37, i64_w, i32_w]
                rfl
               exact norm_ (by simp only [putAll, Act.put, l1_37, l2_37, l3_37]) (hCont (v659, .slice Ao153 y661.length co153, gb664) _ ⟨hHeld, (by (with_reducible repeat (first | apply v1_37 | apply v2_37 | apply v3_37)); exact v4_37 HO652.out (fun _ hk => ⟨hk.1.1, ⟨hk.2, ⟨hk.1.2.1, hk.1.2.2⟩⟩⟩)), (by (with_reducible repeat (first | apply r1_37 | apply r2_37 | apply r3_37)); exact HO655.out), (by (with_reducible repeat (first | apply r1_37 | apply r2_37 | apply r3_37)); exact HO663.out), (by exact BK656.out), (by exact BK664.out), GW664.out, GE664.out, NB656_664.out, NB664_656.out, (by repeat (first | (with_reducible first | exact HB.out | apply b8_37 | apply b6_37 | apply b7_37 | refine b4_37 ?_ GE656.out | refine b4_37 ?_ GE664.out) | exact HB.out))⟩)
             rintro ⟨v659, v662, gb664⟩ w154 ⟨hS_, h0_, h1_, h2_, h3_, h4_, h5_, h6_, h7_, h8_, h9_⟩
             have n0_ : Aside0 (Kd.V k50 50 w154 w.heap.size (fun k_ => some k_ ≠ (v654 : Value).ownBlock ∧ some k_ ≠ (v662 : Value).ownBlock ∧ k_ ≠ gb656 ∧ k_ ≠ gb664) (.slice Ao146 t650.length co146) t650) := ⟨h0_⟩
             have n1_ : Aside0 (Kd.R (Kd.int .i64) 3 w154 w.heap.size (fun _ => True) v654 t653) := ⟨h1_⟩
             have n2_ : Aside0 (Kd.R k50 50 w154 w.heap.size (fun _ => True) v662 y661) := ⟨h2_⟩
             have n3_ : Aside0 (w154.heap[gb656]? = some (.cells #[.int .i64 t649, .slice Ao146 t650.length co146] 24 (0, 0))) := ⟨h3_⟩
             have n4_ : Aside0 (w154.heap[gb664]? = some (.cells #[.int .i64 0, .slice none 0 0] 24 (0, 0))) := ⟨h4_⟩
             have n5_ : Aside0 (w.heap.size ≤ gb664) := ⟨h5_⟩
             have n6_ : Aside0 (w.heap.size ≤ gb664) := ⟨h6_⟩
             have n7_ : Aside0 (gb656 ≠ gb664) := ⟨h7_⟩
             have n8_ : Aside0 (gb664 ≠ gb656) := ⟨h8_⟩
             have n9_ : Aside0 (Below w.heap.size w w154) := ⟨h9_⟩
             clear HO652 HO655 BK656 HB
             clear h0_ h1_ h2_ h3_ h4_ h5_ h6_ h7_ h8_ h9_
             have HO652 := n0_
             have HO655 := n1_
             have HO663 := n2_
             have BK656 := n3_
             have BK664 := n4_
             have GW664 := n5_
             have GE664 := n6_
             have NB656_664 := n7_
             have NB664_656 := n8_
             have HB := n9_
             clear n0_ n1_ n2_ n3_ n4_ n5_ n6_ n7_ n8_ n9_
             have hHeld : w154.cell? ⟨gb656, 0, none⟩ = some (.int .i64 t649) ∧ w154.cell? ⟨gb656, 1, none⟩ = some (.slice Ao146 t650.length co146) := hS_
             obtain ⟨Ao155, co155, eo155⟩ := Kd.R_slice HO663.out
             (first | subst eo155 | (injection eo155 with f1_ f2_ f3_; have f4_ := f1_.symm; have f5_ := f3_.symm; clear f1_ f2_ f3_; subst f4_; subst f5_))
             refine norm_ (a' := ?_) ?_ ?_
             rotate_left
             ·simp only [putAll, Act.put, l1_37, l2_37, l3_37]
              rfl
             refine one_ (i := 8) (N := none) #[true, true, true, true, true, true, true, true, true] rfl rfl (one_of HT_.out (by kernel_rfl)) (by decide) (fun K hK => ?_)
             have hs156 : w154.cell? ⟨gb664, 0, none⟩ = some (.int .i64 0) := (blk_cell BK664.out 0).trans rfl
             have hfs156 := blk_frozen BK664.out 0
             have hns156_0 := NB656_664.out
             have hms156_0 := NB664_656.out
             have hs157 : w154.cell? ⟨gb664, 1, none⟩ = some (.slice none 0 0) := (blk_cell BK664.out 1).trans rfl
             have hfs157 := blk_frozen BK664.out 1
             have hns157_0 := NB656_664.out
             have hms157_0 := NB664_656.out
             refine skip_ (w1 := ?_) (by rfl) rfl ?_ ?_
             rotate_left
             ·go_simp
              rfl
             refine hK.out _ _ ⟨((cell_far (p := ⟨gb664, _, none⟩) NB656_664.out _).trans (((cell_far (p := ⟨gb664, _, none⟩) NB656_664.out _).trans (hHeld.1)))), ((cell_far (p := ⟨gb664, _, none⟩) NB656_664.out _).trans (((cell_far (p := ⟨gb664, _, none⟩) NB656_664.out _).trans (hHeld.2))))⟩ (fun hHeld => ?_)
             clear hK K
             refine done_ (done_of HT_.out (by kernel_rfl)) ?_
             have hnb158 := NB656_664.out
             have hnc158 := NB664_656.out
             obtain ⟨hcz159_0, hcz159_1, hfz159_0, hfz159_1⟩ := cells2_37 BK656.out
             have p665 : 0 ≤ ((ji20) : Int) := of_decide_eq_true (by first | (with_reducible assumption) | assumption)
             have q665 : (ji20) < (t650.length : Int) := of_decide_eq_true (by first | (with_reducible assumption) | assumption)
             obtain ⟨ad665, e665, hx665_0, hx665_1⟩ := at_T50 (Kd.V_reads' HO652.out).2.2 (ji20) p665 q665
             cases e665
             have hn665_0 : ad665.block ≠ gb664 := (by have z_ := V_okb HO652.out z50 (ji20) p665 q665 (by decide); first | exact z_.2.2.2 | exact z_.2.2.1 | exact z_.2.1 | exact z_.2.2 | exact z_.2 | exact z_.1)
             have hn665_1 : ad665.block ≠ gb664 := (by have z_ := V_okb HO652.out z50 (ji20) p665 q665 (by decide); first | exact z_.2.2.2 | exact z_.2.2.1 | exact z_.2.1 | exact z_.2.2 | exact z_.2 | exact z_.1)
             replace hx665_0 := (cell_far (p := ⟨gb664, 0, none⟩) (by first | (rw [add_block]; exact hn665_0) | (show (Addr.add _ _).block ≠ _; rw [add_block]; exact hn665_0) | exact hn665_0) (.int .i64 t649)).trans hx665_0
             replace hx665_1 := (cell_far (p := ⟨gb664, 0, none⟩) (by first | (rw [add_block]; exact hn665_0) | (show (Addr.add _ _).block ≠ _; rw [add_block]; exact hn665_0) | exact hn665_0) (.int .i64 t649)).trans hx665_1
             replace hx665_0 := (cell_far (p := ⟨gb664, 1, none⟩) (by first | (rw [add_block]; exact hn665_1) | (show (Addr.add _ _).block ≠ _; rw [add_block]; exact hn665_1) | exact hn665_1) (.slice Ao155 y661.length co155)).trans hx665_0
             replace hx665_1 := (cell_far (p := ⟨gb664, 1, none⟩) (by first | (rw [add_block]; exact hn665_1) | (show (Addr.add _ _).block ≠ _; rw [add_block]; exact hn665_1) | exact hn665_1) (.slice Ao155 y661.length co155)).trans hx665_1
             clear hn665_0 hn665_1
             replace p665 := eq_true p665
             replace q665 := eq_true q665
             try go_wp2_with (first | ((with_reducible refine gate_dst (N := 14) rfl ?_); refine box_event ?hg (N := 14) ?hd (cs := #[.int .i64 0, .int .i64 0]) (t := 50) ?hr ?_; (case hd => rfl); (case hg => rfl); (case hr => first | (go_simp; done) | (go_simp; rfl)); intro gb666 hg w160 hbox hb; have n0_ := aM_37 (v6_37 (Kd.V_elderB (by (with_reducible repeat (first | apply v1_37 | apply v2_37 | apply v3_37)); exact (v4_37 (v5_37 (p := ⟨gb664, 1, none⟩) (v5_37 (p := ⟨gb664, 0, none⟩) (v4_37 HO652.out (fun k_ hk => (⟨hk, hk.2.2.2⟩ : _ ∧ k_ ≠ gb664))) (fun _ hk => hk.2) (.int .i64 t649)) (fun _ hk => hk.2) (.slice Ao155 y661.length co155)) (fun _ h_ => h_.1))) gb666 (Nat.le_of_eq hg.symm)) hb); have n1_ := aM_37 (r4_37 (by (with_reducible repeat (first | apply r1_37 | apply r2_37 | apply r3_37)); exact (Kd.R_mono (Kd.R_far (p := ⟨gb664, 1, none⟩) (Kd.R_far (p := ⟨gb664, 0, none⟩) (Kd.R_types HO655.out BK664.out (by decide)) (fun _ hk => hk.2) (.int .i64 t649)) (fun _ hk => hk.2) (.slice Ao155 y661.length co155)) (fun _ h_ => h_.1))) hb); have n2_ := aM_37 (r4_37 (Kd.R_elderB (by (with_reducible repeat (first | apply r1_37 | apply r2_37 | apply r3_37)); exact (Kd.R_mono (Kd.R_far (p := ⟨gb664, 1, none⟩) (Kd.R_far (p := ⟨gb664, 0, none⟩) (Kd.R_types HO663.out BK664.out (by decide)) (fun _ hk => hk.2) (.int .i64 t649)) (fun _ hk => hk.2) (.slice Ao155 y661.length co155)) (fun _ h_ => h_.1))) gb666 (Nat.le_of_eq hg.symm)) hb); have n3_ := aM_37 (b5_37 (g := gb656) (o := .cells #[.int .i64 t649, .slice (some ad665) t650.length co146] 24 (0, 0)) (by (with_reducible repeat (first | refine b1_37 ?_ _ | refine b3_37 ?_ | refine b2_37 ?_ _)); refine c2_37 ?_ NB656_664.out _; (with_reducible repeat (first | refine b1_37 ?_ _ | refine b3_37 ?_ | refine b2_37 ?_ _)); refine c2_37 ?_ NB656_664.out _; (with_reducible repeat (first | refine b1_37 ?_ _ | refine b3_37 ?_ | refine b2_37 ?_ _)); exact BK656.out) hb); have n4_ := aM_37 (b5_37 (g := gb664) (o := .cells #[.int .i64 t649, .slice Ao155 y661.length co155] 24 (0, 0)) (by (with_reducible repeat (first | refine b1_37 ?_ _ | refine b3_37 ?_ | refine b2_37 ?_ _)); refine c1_37 (cs := #[.int .i64 t649, .slice none 0 0]) ?_ 1 _ rfl; (with_reducible repeat (first | refine b1_37 ?_ _ | refine b3_37 ?_ | refine b2_37 ?_ _)); refine c1_37 (cs := #[.int .i64 0, .slice none 0 0]) ?_ 0 _ rfl; (with_reducible repeat (first | refine b1_37 ?_ _ | refine b3_37 ?_ | refine b2_37 ?_ _)); exact BK664.out) hb); have n5_ := aM_37 (b9_37 (by repeat (first | (with_reducible first | exact HB.out | apply b8_37 | apply b6_37 | apply b7_37 | refine b4_37 ?_ GE656.out | refine b4_37 ?_ GE664.out) | exact HB.out)) hb); have n6_ := aM_37 (hbox); have n7_ := aM_37 ((by rw [hg]; exact (b0_37 (by repeat (first | (with_reducible first | exact HB.out | apply b8_37 | apply b6_37 | apply b7_37 | refine b4_37 ?_ GE656.out | refine b4_37 ?_ GE664.out) | exact HB.out))) : w.heap.size ≤ gb666)); have n8_ := aM_37 ((by rw [hg]; exact (b0_37 (by repeat (first | (with_reducible first | exact HB.out | apply b8_37 | apply b6_37 | apply b7_37 | refine b4_37 ?_ GE656.out | refine b4_37 ?_ GE664.out) | exact HB.out))) : w.heap.size ≤ gb666)); have n9_ := aM_37 ((by rw [hg]; exact Nat.ne_of_lt (blk_lt (g := gb656) (o := .cells #[.int .i64 t649, .slice (some ad665) t650.length co146] 24 (0, 0)) (by (with_reducible repeat (first | refine b1_37 ?_ _ | refine b3_37 ?_ | refine b2_37 ?_ _)); refine c2_37 ?_ NB656_664.out _; (with_reducible repeat (first | refine b1_37 ?_ _ | refine b3_37 ?_ | refine b2_37 ?_ _)); refine c2_37 ?_ NB656_664.out _; (with_reducible repeat (first | refine b1_37 ?_ _ | refine b3_37 ?_ | refine b2_37 ?_ _)); exact BK656.out)) : gb656 ≠ gb666)); have n10_ := aM_37 ((by rw [hg]; exact Nat.ne_of_gt (blk_lt (g := gb656) (o := .cells #[.int .i64 t649, .slice (some ad665) t650.length co146] 24 (0, 0)) (by (with_reducible repeat (first | refine b1_37 ?_ _ | refine b3_37 ?_ | refine b2_37 ?_ _)); refine c2_37 ?_ NB656_664.out _; (with_reducible repeat (first | refine b1_37 ?_ _ | refine b3_37 ?_ | refine b2_37 ?_ _)); refine c2_37 ?_ NB656_664.out _; (with_reducible repeat (first | refine b1_37 ?_ _ | refine b3_37 ?_ | refine b2_37 ?_ _)); exact BK656.out)) : gb666 ≠ gb656)); have n11_ := aM_37 ((by rw [hg]; exact Nat.ne_of_lt (blk_lt (g := gb664) (o := .cells #[.int .i64 t649, .slice Ao155 y661.length co155] 24 (0, 0)) (by (with_reducible repeat (first | refine b1_37 ?_ _ | refine b3_37 ?_ | refine b2_37 ?_ _)); refine c1_37 (cs := #[.int .i64 t649, .slice none 0 0]) ?_ 1 _ rfl; (with_reducible repeat (first | refine b1_37 ?_ _ | refine b3_37 ?_ | refine b2_37 ?_ _)); refine c1_37 (cs := #[.int .i64 0, .slice none 0 0]) ?_ 0 _ rfl; (with_reducible repeat (first | refine b1_37 ?_ _ | refine b3_37 ?_ | refine b2_37 ?_ _)); exact BK664.out)) : gb664 ≠ gb666)); have n12_ := aM_37 ((by rw [hg]; exact Nat.ne_of_gt (blk_lt (g := gb664) (o := .cells #[.int .i64 t649, .slice Ao155 y661.length co155] 24 (0, 0)) (by (with_reducible repeat (first | refine b1_37 ?_ _ | refine b3_37 ?_ | refine b2_37 ?_ _)); refine c1_37 (cs := #[.int .i64 t649, .slice none 0 0]) ?_ 1 _ rfl; (with_reducible repeat (first | refine b1_37 ?_ _ | refine b3_37 ?_ | refine b2_37 ?_ _)); refine c1_37 (cs := #[.int .i64 0, .slice none 0 0]) ?_ 0 _ rfl; (with_reducible repeat (first | refine b1_37 ?_ _ | refine b3_37 ?_ | refine b2_37 ?_ _)); exact BK664.out)) : gb666 ≠ gb664)); clear HO652 HO655 HO663 BK656 BK664 HB; have HO652 := n0_; have HO655 := n1_; have HO663 := n2_; have BK656 := n3_; have BK664 := n4_; have HB := n5_; have BK666 := n6_; have GW666 := n7_; have GE666 := n8_; have NB656_666 := n9_; have NB666_656 := n10_; have NB664_666 := n11_; have NB666_664 := n12_; clear n0_ n1_ n2_ n3_ n4_ n5_ n6_ n7_ n8_ n9_ n10_ n11_ n12_; clear hb hbox hg; have hnb161 := NB666_656.out; have hnc161 := NB656_666.out; have hnb162 := NB666_664.out; have hnc162 := NB664_666.out; obtain ⟨hcz163_0, hcz163_1, hfz163_0, hfz163_1⟩ := cells2_37 BK666.out) | ((with_reducible refine gate_store (t := 50) (p := 14) rfl ?_); refine store_event (t := 50) (p := 14) (v := ?vo_w164) (w1 := ((w160.setCell ⟨gb666, 0, none⟩ (.int .i64 ((rd_T50 t650 (ji20)).f0))).setCell ⟨gb666, 1, none⟩ (.int .i64 ((rd_T50 t650 (ji20)).f1)))) ?hg ?ho ?hn ?hr ?_; (case ho => rfl); (case hg => rfl); (case hn => rfl); (case hr => first | (go_simp; done) | (go_simp; rfl)); intro w164 hw; have n0_ : Aside0 (Kd.V k50 50 w164 w.heap.size (fun k_ => some k_ ≠ (v654 : Value).ownBlock ∧ some k_ ≠ (.slice Ao155 y661.length co155 : Value).ownBlock ∧ k_ ≠ gb656 ∧ k_ ≠ gb664 ∧ k_ ≠ gb666) (.slice (some ad665) t650.length co146) t650) := ⟨(by rw [hw]; exact (by (with_reducible repeat (first | apply v1_37 | apply v2_37 | apply v3_37)); exact v4_37 (v5_37 (p := ⟨gb666, 1, none⟩) (v5_37 (p := ⟨gb666, 0, none⟩) (v4_37 HO652.out (fun k_ hk => (⟨hk, hk.2⟩ : _ ∧ k_ ≠ gb666))) (fun _ hk => hk.2) (.int .i64 ((rd_T50 t650 (ji20)).f0))) (fun _ hk => hk.2) (.int .i64 ((rd_T50 t650 (ji20)).f1))) (fun _ hk => ⟨hk.1.1.1, ⟨hk.1.1.2.1, ⟨hk.1.1.2.2.1, ⟨hk.1.1.2.2.2, hk.1.2⟩⟩⟩⟩)))⟩; have n1_ : Aside0 (Kd.R (Kd.int .i64) 3 w164 w.heap.size (fun _ => True) v654 t653) := ⟨(by rw [hw]; exact (by (with_reducible repeat (first | apply r1_37 | apply r2_37 | apply r3_37)); exact Kd.R_mono (Kd.R_far (p := ⟨gb666, 1, none⟩) (Kd.R_far (p := ⟨gb666, 0, none⟩) (Kd.R_types HO655.out BK666.out (by decide)) (fun _ hk => hk.2) (.int .i64 ((rd_T50 t650 (ji20)).f0))) (fun _ hk => hk.2) (.int .i64 ((rd_T50 t650 (ji20)).f1))) (fun _ hk => trivial)))⟩; have n2_ : Aside0 (Kd.R k50 50 w164 w.heap.size (fun k_ => k_ ≠ gb666) (.slice Ao155 y661.length co155) y661) := ⟨(by rw [hw]; exact (by (with_reducible repeat (first | apply r1_37 | apply r2_37 | apply r3_37)); exact Kd.R_mono (Kd.R_far (p := ⟨gb666, 1, none⟩) (Kd.R_far (p := ⟨gb666, 0, none⟩) (Kd.R_mono HO663.out (fun k_ hk => (⟨hk, hk.2⟩ : _ ∧ k_ ≠ gb666))) (fun _ hk => hk.2) (.int .i64 ((rd_T50 t650 (ji20)).f0))) (fun _ hk => hk.2) (.int .i64 ((rd_T50 t650 (ji20)).f1))) (fun _ hk => hk.1.2)))⟩; have n3_ : Aside0 (w164.heap[gb656]? = some (.cells #[.int .i64 t649, .slice (some ad665) t650.length co146] 24 (0, 0))) := ⟨(by rw [hw]; exact (by (with_reducible repeat (first | refine b1_37 ?_ _ | refine b3_37 ?_ | refine b2_37 ?_ _)); refine c2_37 ?_ NB656_666.out _; (with_reducible repeat (first | refine b1_37 ?_ _ | refine b3_37 ?_ | refine b2_37 ?_ _)); refine c2_37 ?_ NB656_666.out _; (with_reducible repeat (first | refine b1_37 ?_ _ | refine b3_37 ?_ | refine b2_37 ?_ _)); exact BK656.out))⟩; have n4_ : Aside0 (w164.heap[gb664]? = some (.cells #[.int .i64 t649, .slice Ao155 y661.length co155] 24 (0, 0))) := ⟨(by rw [hw]; exact (by (with_reducible repeat (first | refine b1_37 ?_ _ | refine b3_37 ?_ | refine b2_37 ?_ _)); refine c2_37 ?_ NB664_666.out _; (with_reducible repeat (first | refine b1_37 ?_ _ | refine b3_37 ?_ | refine b2_37 ?_ _)); refine c2_37 ?_ NB664_666.out _; (with_reducible repeat (first | refine b1_37 ?_ _ | refine b3_37 ?_ | refine b2_37 ?_ _)); exact BK664.out))⟩; have n5_ : Aside0 (w164.heap[gb666]? = some (.cells #[.int .i64 ((rd_T50 t650 (ji20)).f0), .int .i64 ((rd_T50 t650 (ji20)).f1)] 50 (0, 0))) := ⟨(by rw [hw]; exact (by (with_reducible repeat (first | refine b1_37 ?_ _ | refine b3_37 ?_ | refine b2_37 ?_ _)); refine c1_37 (cs := #[.int .i64 ((rd_T50 t650 (ji20)).f0), .int .i64 0]) ?_ 1 _ rfl; (with_reducible repeat (first | refine b1_37 ?_ _ | refine b3_37 ?_ | refine b2_37 ?_ _)); refine c1_37 (cs := #[.int .i64 0, .int .i64 0]) ?_ 0 _ rfl; (with_reducible repeat (first | refine b1_37 ?_ _ | refine b3_37 ?_ | refine b2_37 ?_ _)); exact BK666.out))⟩; have n6_ : Aside0 (Below w.heap.size w w164) := ⟨(by rw [hw]; exact (by repeat (first | (with_reducible first | exact HB.out | apply b8_37 | apply b6_37 | apply b7_37 | refine b4_37 ?_ GE656.out | refine b4_37 ?_ GE664.out | refine b4_37 ?_ GE666.out) | exact HB.out)))⟩; clear hw HO652 HO655 HO663 BK656 BK664 BK666 HB; have HO652 := n0_; have HO655 := n1_; have HO663 := n2_; have BK656 := n3_; have BK664 := n4_; have BK666 := n5_; have HB := n6_; clear n0_ n1_ n2_ n3_ n4_ n5_ n6_; obtain ⟨hcz165_0, hcz165_1, hfz165_0, hfz165_1⟩ := cells2_37 BK664.out; obtain ⟨hcz166_0, hcz166_1, hfz166_0, hfz166_1⟩ := cells2_37 BK666.out; have p137 : 0 ≤ ((ji20) : Int) := of_decide_eq_true (by first | (with_reducible assumption) | assumption); have q137 : ((ji20) : Int) < ((y661.length : Int) : Int) := of_decide_eq_true (by first | (with_reducible assumption) | assumption); obtain ⟨go137, co137, eo137, gb137, gl137, cl137, HG137⟩ := Kd.R_form HO663.out (by omega); (first | cases eo137 | (injection eo137 with ea_ en_ ec_; (first | subst ea_ | (injection ea_ with ea_; subst ea_)); subst ec_; clear en_)); have GB137 := aM_37 gb137; have GG137 := aM_37 HG137; clear gb137 gl137 HG137; obtain ⟨ce137, hcl137, hM137, hcc137, hfr137⟩ := Kd.R_elem HO663.out z50 ((ji20) : Int) p137 q137; obtain rfl := k50_openM hM137; have hx137_0 : w164.cell? ⟨go137, ((ji20) : Int).toNat * 2, none⟩ = some (.int .i64 ((rd_T50 y661 (ji20)).f0)) := hcc137 0 _ rfl; have hx137_1 : w164.cell? ⟨go137, ((ji20) : Int).toNat * 2 + 1, none⟩ = some (.int .i64 ((rd_T50 y661 (ji20)).f1)) := hcc137 1 _ rfl; have hf137_0 : w164.frozen? ⟨go137, ((ji20) : Int).toNat * 2, none⟩ = false := hfr137 0; have hf137_1 : w164.frozen? ⟨go137, ((ji20) : Int).toNat * 2 + 1, none⟩ = false := hfr137 1; clear hcl137 hcc137 hfr137 hM137; replace p137 := eq_true p137; replace q137 := eq_true q137; have HX167 := aM_37 (show Kd.R k50 50 w164 w.heap.size (fun k_ => k_ ≠ gb666) (.slice (some ⟨go137, 0, none⟩) y661.length co155) y661 from (by (with_reducible repeat (first | apply r1_37 | apply r2_37 | apply r3_37)); exact HO663.out)); obtain ⟨ce167, hcl167, hM167, hcc167, hfr167⟩ := Kd.R_elem HX167.out z50 ((ji20) : Int) (of_decide_eq_true (by first | (with_reducible assumption) | assumption)) (by have h_ : ((ji20) : Int) < ((y661.length : Int) : Int) := of_decide_eq_true (by first | (with_reducible assumption) | assumption); first | exact h_ | (have e_ := (Kd.R_reads' HO663.out).1; omega) | simpa using h_); obtain rfl := k50_openM hM167; have HP167 := Kd.R_seg HX167.out ((ji20) : Int) (of_decide_eq_true (by first | (with_reducible assumption) | assumption)) (by have h_ : ((ji20) : Int) < ((y661.length : Int) : Int) := of_decide_eq_true (by first | (with_reducible assumption) | assumption); first | exact h_ | (have e_ := (Kd.R_reads' HO663.out).1; omega) | simpa using h_) (seg := [.int .i64 1, .int .i64 ((rd_T50 t650 (ji20)).f1)]) (j := 0) hcl167 hcc167 (show 2 ≤ 2 from by decide) (x' := (⟨1, (rd_T50 t650 (ji20)).f1⟩ : S50)) (k50_mkM _ _ _ (⟨1, (rd_T50 t650 (ji20)).f1⟩ : S50) ) (fun _ hk => hk); have hx167_0 := hcc167 0 _ rfl; (try simp only [show (k50).sz = 2 from rfl, Nat.mul_one, Nat.add_zero] at hx167_0); have hf167_0 := hfr167 0; (try simp only [show (k50).sz = 2 from rfl, Nat.mul_one, Nat.add_zero] at hf167_0); have hx167_1 := hcc167 1 _ rfl; (try simp only [show (k50).sz = 2 from rfl, Nat.mul_one, Nat.add_zero] at hx167_1); have hf167_1 := hfr167 1; (try simp only [show (k50).sz = 2 from rfl, Nat.mul_one, Nat.add_zero] at hf167_1); clear hcl167 hcc167 hfr167 hM167) | ((with_reducible refine gate_store (t := 50) (p := 96) rfl ?_); refine store_event (t := 50) (p := 96) (v := ?vo_w168) (w1 := ((w164.setCell ⟨go137, ((ji20) : Int).toNat * 2, none⟩ (.int .i64 1)).setCell ⟨go137, ((ji20) : Int).toNat * 2 + 1, none⟩ (.int .i64 ((rd_T50 t650 (ji20)).f1)))) ?hg ?ho ?hn ?hr ?_; (case ho => rfl); (case hg => rfl); (case hn => rfl); (case hr => first | (go_simp; done) | (go_simp; rfl)); intro w168 hw; have hg : w164.grownBy w168 (some go137) := (by rw [hw]; exact HP167.2); have hp_ : Kd.R k50 50 w168 w.heap.size (fun k_ => k_ ≠ gb666) (.slice (some ⟨go137, 0, none⟩) y661.length co155) y678 := (by rw [hw, Ny678.out]; exact HP167.1); clear HP167; have n0_ := aM_37 (Kd.V_afterv (v := (.slice (some ⟨go137, 0, none⟩) y661.length co155)) (v1 := (.slice (some ⟨go137, 0, none⟩) y661.length co155)) (ok := (fun k_ => some k_ ≠ (v654 : Value).ownBlock ∧ k_ ≠ gb656 ∧ k_ ≠ gb664 ∧ k_ ≠ gb666)) (by (with_reducible repeat (first | apply v1_37 | apply v2_37 | apply v3_37)); exact v4_37 HO652.out (fun _ hk => ⟨⟨hk.1, ⟨hk.2.2.1, ⟨hk.2.2.2.1, hk.2.2.2.2⟩⟩⟩, hk.2.1⟩)) hg (.inl rfl)); have n1_ := aM_37 (Kd.R_over' (v := (.slice (some ⟨go137, 0, none⟩) y661.length co155)) (by (with_reducible repeat (first | apply r1_37 | apply r2_37 | apply r3_37)); exact HO655.out) (Kd.R_typed HO663.out) (by decide) hg); have n2_ := aM_37 (blk_grown (g := gb656) (o := .cells #[.int .i64 t649, .slice (some ad665) t650.length co146] 24 (0, 0)) (by exact BK656.out) hg (Kd.R_ne HO663.out BK656.out (by decide))); have n3_ := aM_37 (hp_); have n4_ := aM_37 (blk_grown (g := gb664) (o := .cells #[.int .i64 t649, .slice (some ⟨go137, 0, none⟩) y661.length co155] 24 (0, 0)) (by exact BK664.out) hg (Kd.R_ne HO663.out BK664.out (by decide))); have n5_ := aM_37 (blk_grown (g := gb666) (o := .cells #[.int .i64 ((rd_T50 t650 (ji20)).f0), .int .i64 ((rd_T50 t650 (ji20)).f1)] 50 (0, 0)) (by exact BK666.out) hg (Kd.R_away HO663.out (fun _ hk => hk))); have n6_ := aM_37 ((by rw [hw]; exact b4_37 (b4_37 (HB.out) GB137.out) GB137.out : Below w.heap.size w w168)); clear HO652 HO655 BK656 HO663 BK664 BK666 HB; have HO652 := n0_; have HO655 := n1_; have BK656 := n2_; have HO663 := n3_; have BK664 := n4_; have BK666 := n5_; have HB := n6_; clear n0_ n1_ n2_ n3_ n4_ n5_ n6_; clear hg hw hp_; obtain ⟨hcz169_0, hcz169_1, hfz169_0, hfz169_1⟩ := cells2_37 BK664.out) | (go_at_call 12; refine calls_of_args (args' := #[.agg #[.int .i64 t649, .slice (some ⟨go137, 0, none⟩) y678.length co155]]) (by first | (rw [show y678.length = y661.length from (Kd.R_reads' HO663.out).1.symm] <;> rfl) | rfl) ?_; (with_reducible refine (aig_Right.calls k t649 _ _ y678 false _ ?side1 ?side2 A139.out).mono ?_); (case side1 => repeat (first | exact (Kd.R_reads' HO663.out).2.2 | (with_reducible refine c3_37 ?_ _) | (with_reducible refine c4_37 ?_ _) | (with_reducible refine c5_37 ?_))); (case side2 => rw [show y678.length = y661.length from (Kd.R_reads' HO663.out).1.symm]; exact (Kd.R_reads' HO663.out).2.1); rintro e w170 ⟨rfl, hb⟩; have n0_ := aM_37 (v6_37 (by (with_reducible repeat (first | apply v1_37 | apply v2_37 | apply v3_37)); exact HO652.out) hb); have n1_ := aM_37 (r4_37 (by (with_reducible repeat (first | apply r1_37 | apply r2_37 | apply r3_37)); exact HO655.out) hb); have n2_ := aM_37 (r4_37 (by (with_reducible repeat (first | apply r1_37 | apply r2_37 | apply r3_37)); exact HO663.out) hb); have n3_ := aM_37 (b5_37 (by exact BK656.out) hb); have n4_ := aM_37 (b5_37 (by exact BK664.out) hb); have n5_ := aM_37 (b5_37 (by exact BK666.out) hb); have n6_ := aM_37 (b9_37 (by repeat (first | (with_reducible first | exact HB.out | apply b8_37 | apply b6_37 | apply b7_37 | refine b4_37 ?_ GE656.out | refine b4_37 ?_ GE664.out | refine b4_37 ?_ GE666.out) | exact HB.out)) hb); clear HO652 HO655 HO663 BK656 BK664 BK666 HB; have HO652 := n0_; have HO655 := n1_; have HO663 := n2_; have BK656 := n3_; have BK664 := n4_; have BK666 := n5_; have HB := n6_; clear n0_ n1_ n2_ n3_ n4_ n5_ n6_; (try clear hb); (try clear hb2); (try clear hk); (try clear hi); obtain ⟨hcz171_0, hcz171_1, hfz171_0, hfz171_1⟩ := cells2_37 BK656.out) | (go_at_call 12; (with_reducible refine (aig_Right.calls k t649 _ _ t650 t680 _ ?side1 ?side2 A141.out).mono ?_); (case side1 => repeat (first | exact (Kd.V_reads' HO652.out).2.2 | (with_reducible refine c3_37 ?_ _) | (with_reducible refine c4_37 ?_ _) | (with_reducible refine c5_37 ?_))); (case side2 => exact (Kd.V_reads' HO652.out).2.1); rintro e w172 ⟨rfl, hb⟩; have n0_ := aM_37 (v6_37 (by (with_reducible repeat (first | apply v1_37 | apply v2_37 | apply v3_37)); exact HO652.out) hb); have n1_ := aM_37 (r4_37 (by (with_reducible repeat (first | apply r1_37 | apply r2_37 | apply r3_37)); exact HO655.out) hb); have n2_ := aM_37 (r4_37 (by (with_reducible repeat (first | apply r1_37 | apply r2_37 | apply r3_37)); exact HO663.out) hb); have n3_ := aM_37 (b5_37 (by exact BK656.out) hb); have n4_ := aM_37 (b5_37 (by exact BK664.out) hb); have n5_ := aM_37 (b5_37 (by exact BK666.out) hb); have n6_ := aM_37 (b9_37 (by repeat (first | (with_reducible first | exact HB.out | apply b8_37 | apply b6_37 | apply b7_37 | refine b4_37 ?_ GE656.out | refine b4_37 ?_ GE664.out | refine b4_37 ?_ GE666.out) | exact HB.out)) hb); clear HO652 HO655 HO663 BK656 BK664 BK666 HB; have HO652 := n0_; have HO655 := n1_; have HO663 := n2_; have BK656 := n3_; have BK664 := n4_; have BK666 := n5_; have HB := n6_; clear n0_ n1_ n2_ n3_ n4_ n5_ n6_; (try clear hb); (try clear hb2); (try clear hk); (try clear hi)))
             go_ret
             exact ⟨by first | rfl | (simp [errW_none, errW_some] <;> rfl) | (simp only [← hji20]; first | rfl | (simp [errW_none, errW_some] <;> rfl)) | (simp [*, errW_none, errW_some] <;> rfl), by repeat (first | (with_reducible first | exact HB.out | apply b8_37 | apply b6_37 | apply b7_37 | refine b4_37 ?_ GE656.out | refine b4_37 ?_ GE664.out | refine b4_37 ?_ GE666.out) | exact HB.out)⟩
           ·replace c138 := Bool.eq_false_iff.mpr c138
            subst c138
            have H1 : (none) = some r := by rw [if_neg (show ¬ (false = true) by decide)] at H; exact H
            clear H
            have H := H1
            clear H1
            exact absurd H (by simp)
          ·rw [if_neg c136] at H
           exact absurd H (by simp)
         ·rw [if_neg c135] at H
          exact absurd H (by simp)
     ·rw [if_neg c22] at H
      exact absurd H (by simp)
    ·rw [if_neg c21] at H
     exact absurd H (by simp)
   ·rw [if_neg c19] at H
    exact absurd H (by simp)
end Go.Proofs.Ytlnjefcfbncegaa.Xb
