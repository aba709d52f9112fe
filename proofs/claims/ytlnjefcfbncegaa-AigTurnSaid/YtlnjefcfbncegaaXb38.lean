/- Slimmed by this session: what nothing names is struck out. -/
import Derived.Test.YtlnjefcfbncegaaXb0
import Derived.Test.YtlnjefcfbncegaaXb8
import Derived.Test.YtlnjefcfbncegaaXb9
import Derived.Test.YtlnjefcfbncegaaXb10
import Derived.Test.YtlnjefcfbncegaaXb11
import Derived.Test.YtlnjefcfbncegaaXb12
import Derived.Test.YtlnjefcfbncegaaXb13
import Derived.Test.YtlnjefcfbncegaaXb16
import Derived.Test.YtlnjefcfbncegaaXb17
import Derived.Test.YtlnjefcfbncegaaXb20
import Derived.Test.YtlnjefcfbncegaaXb27
import Derived.Test.YtlnjefcfbncegaaXb29
namespace Go.Proofs.Ytlnjefcfbncegaa.Xb
open Go.RowKit Go.Proofs.YtlnjefcfbncegaaW.PrintWords Go.Proofs.YtlnjefcfbncegaaW.PrintLast Go.Proofs.YtlnjefcfbncegaaW.PrintMore
attribute [local go_sem] max2_int min2_int max_two min_two max_three min_three max_four min_four
set_option linter.unusedVariables false
set_option linter.unusedSimpArgs false
theorem max_of_5_YtlnjefcfbncegaaXb38 (ats : Array TypeId) (ty : TypeId) (a0 a1 a2 a3 a4 : Value) : Builtin.max_ ats ty #[a0, a1, a2, a3, a4] = (Builtin.max2 a0 a1 >>= fun s => Builtin.max2 s a2 >>= fun s => Builtin.max2 s a3 >>= fun s => Builtin.max2 s a4 >>= fun s => pure s) := by simp only [Builtin.max_, List.foldlM_cons, List.foldlM_nil]
attribute [local go_sem] max_of_5_YtlnjefcfbncegaaXb38
theorem min_of_5_YtlnjefcfbncegaaXb38 (ats : Array TypeId) (ty : TypeId) (a0 a1 a2 a3 a4 : Value) : Builtin.min_ ats ty #[a0, a1, a2, a3, a4] = (Builtin.min2 a0 a1 >>= fun s => Builtin.min2 s a2 >>= fun s => Builtin.min2 s a3 >>= fun s => Builtin.min2 s a4 >>= fun s => pure s) := by simp only [Builtin.min_, List.foldlM_cons, List.foldlM_nil]
attribute [local go_sem] min_of_5_YtlnjefcfbncegaaXb38
theorem max_of_6_YtlnjefcfbncegaaXb38 (ats : Array TypeId) (ty : TypeId) (a0 a1 a2 a3 a4 a5 : Value) : Builtin.max_ ats ty #[a0, a1, a2, a3, a4, a5] = (Builtin.max2 a0 a1 >>= fun s => Builtin.max2 s a2 >>= fun s => Builtin.max2 s a3 >>= fun s => Builtin.max2 s a4 >>= fun s => Builtin.max2 s a5 >>= fun s => pure s) := by simp only [Builtin.max_, List.foldlM_cons, List.foldlM_nil]
attribute [local go_sem] max_of_6_YtlnjefcfbncegaaXb38
theorem min_of_6_YtlnjefcfbncegaaXb38 (ats : Array TypeId) (ty : TypeId) (a0 a1 a2 a3 a4 a5 : Value) : Builtin.min_ ats ty #[a0, a1, a2, a3, a4, a5] = (Builtin.min2 a0 a1 >>= fun s => Builtin.min2 s a2 >>= fun s => Builtin.min2 s a3 >>= fun s => Builtin.min2 s a4 >>= fun s => Builtin.min2 s a5 >>= fun s => pure s) := by simp only [Builtin.min_, List.foldlM_cons, List.foldlM_nil]
attribute [local go_sem] min_of_6_YtlnjefcfbncegaaXb38
def proofmarklaw13_AigTurn.j0 : Nat → Bool → Int → Int → Int → Int → Int → Int → List Bool → Bool → Option (Bool)
 | 0, _, _, _, _, _, _, _, _, _ => none
 | k + 1, x9, x16, x17, x18, x19, x20, x21, x22, x137 => if x137 = true then (none) else (if x9 = true then ((aig_Lit.f x22 x16).bind fun t734 => ((aig_Lit.f x22 x17).bind fun t735 => (if (t734 != t735) = true then ((aig_Lit.f x22 x18).bind fun t736 => ((aig_Lit.f x22 x19).bind fun t737 => (if (t736 == t737) = true then ((aig_Lit.f x22 x20).bind fun t738 => ((aig_Lit.f x22 x21).bind fun t739 => (some (t738 != t739)))) else (none)))) else (none)))) else (none))
def proofmarklaw13_AigTurn.f (k : Nat) (a0 : Int) (l1 : List (S28)) (a2_0 : Int) (a2_1 : Int) (a2_2 : Int) (a2_3 : Int) (l3 : List Bool) : Option (Bool) := (proofmarklaw13_head.f k).bind fun t684 => ((proofmarklaw13_Great.f l1).bind fun t685 => (if t685 = true then (some t684) else ((proofmarklaw13_Made.f k a0 l1).bind fun bt686 => ((proofmarklaw13_literal.f bt686.1 bt686.2.1 a2_1).bind fun t694 => ((proofmarklaw13_literal.f bt686.1 bt686.2.1 a2_2).bind fun t695 => ((proofmarklaw13_literal.f bt686.1 bt686.2.1 a2_3).bind fun t696 => ((aig_Or.f k bt686.1 bt686.2.1 t694 t695).bind fun bt697 => ((aig_And.f k bt697.1 bt697.2.1 (Go.bits .xor .i64 t694 1) (Go.bits .xor .i64 t695 1)).bind fun bt703 => ((aig_Mux.f k bt703.1 bt703.2.1 t694 t695 t696).bind fun bt708 => ((aig_Mux.f k bt708.1 bt708.2.1 (Go.bits .xor .i64 t694 1) t696 t695).bind fun bt713 => ((aig_Xor.f k bt713.1 bt713.2.1 t694 t695).bind fun bt718 => ((aig_Xor.f k bt718.1 bt718.2.1 (Go.bits .xor .i64 t694 1) t695).bind fun bt723 => ((proofmarklaw13_Bits.f k bt686.1 bt686.2.1 l3).bind fun t728 => ((aig_Eval.f k bt723.1 bt723.2.1 t728).bind fun t731 => (if bt723.1 = bt686.1 then (if (t731.length : Int) = (wrap64 ((wrap64 (1 + bt723.1)) + (bt723.2.1.length : Int))) then (if (mx (mx (mx (mx (mx bt697.2.2 bt703.2.2) bt708.2.2) bt713.2.2) bt718.2.2) bt723.2.2) ≥ (wrap64 (2 * (t731.length : Int))) then (proofmarklaw13_AigTurn.j0 k t684 bt697.2.2 bt703.2.2 bt708.2.2 bt713.2.2 bt718.2.2 bt723.2.2 t731 true) else (proofmarklaw13_AigTurn.j0 k t684 bt697.2.2 bt703.2.2 bt708.2.2 bt713.2.2 bt718.2.2 bt723.2.2 t731 (decide ((mn (mn (mn (mn (mn bt697.2.2 bt703.2.2) bt708.2.2) bt713.2.2) bt718.2.2) bt723.2.2) < 0)))) else (proofmarklaw13_AigTurn.j0 k t684 bt697.2.2 bt703.2.2 bt708.2.2 bt713.2.2 bt718.2.2 bt723.2.2 t731 true)) else (proofmarklaw13_AigTurn.j0 k t684 bt697.2.2 bt703.2.2 bt708.2.2 bt713.2.2 bt718.2.2 bt723.2.2 t731 true))))))))))))))))
theorem proofmarklaw13_AigTurn.mono_l : ∀ k, (∀ y0 y1 y2 y3 y4 y5 y6 y7 y8, LeO (proofmarklaw13_AigTurn.j0 k y0 y1 y2 y3 y4 y5 y6 y7 y8) (proofmarklaw13_AigTurn.j0 (k + 1) y0 y1 y2 y3 y4 y5 y6 y7 y8))
 | 0 => fun _ _ _ _ _ _ _ _ _ r h => by simp [proofmarklaw13_AigTurn.j0] at h
 | k + 1 => by
  have ih0 := proofmarklaw13_AigTurn.mono_l k
  ·intro y0 y1 y2 y3 y4 y5 y6 y7 y8
   unfold proofmarklaw13_AigTurn.j0
   repeat' first
   | (with_reducible exact ih0 _ _ _ _ _ _ _ _ _)
   | (with_reducible exact aig_And.mono _ _ _ _ _)
   | (with_reducible exact aig_Eval.mono _ _ _ _)
   | (with_reducible exact aig_Mux.mono _ _ _ _ _ _)
   | (with_reducible exact aig_Or.mono _ _ _ _ _)
   | (with_reducible exact aig_Xor.mono _ _ _ _ _)
   | (with_reducible exact proofmarklaw13_Bits.mono _ _ _ _)
   | (with_reducible exact proofmarklaw13_Made.mono _ _ _)
   | (with_reducible exact proofmarklaw13_head.mono _)
   | (with_reducible exact LeO.refl _)
   | (with_reducible exact LeO.none _)
   | (with_reducible refine LeO.ite ?_ ?_)
   | (with_reducible refine LeO.bind ?_ (fun _ => ?_))
   | exact ih0 _ _ _ _ _ _ _ _ _
   | exact aig_And.mono _ _ _ _ _
   | exact aig_Eval.mono _ _ _ _
   | exact aig_Mux.mono _ _ _ _ _ _
   | exact aig_Or.mono _ _ _ _ _
   | exact aig_Xor.mono _ _ _ _ _
   | exact proofmarklaw13_Bits.mono _ _ _ _
   | exact proofmarklaw13_Made.mono _ _ _
   | exact proofmarklaw13_head.mono _
   | exact LeO.none _
   | refine LeO.ite ?_ ?_
   | refine LeO.bind ?_ (fun _ => ?_)
theorem proofmarklaw13_AigTurn.mono : ∀ a0 a1 a2 a3 a4 a5 a6 k, LeO (proofmarklaw13_AigTurn.f k a0 a1 a2 a3 a4 a5 a6) (proofmarklaw13_AigTurn.f (k + 1) a0 a1 a2 a3 a4 a5 a6) := by
 intro a0 a1 a2 a3 a4 a5 a6 k
 have ih0 := proofmarklaw13_AigTurn.mono_l k
 unfold proofmarklaw13_AigTurn.f
 repeat' first
   | (with_reducible exact ih0 _ _ _ _ _ _ _ _ _)
   | (with_reducible exact aig_And.mono _ _ _ _ _)
   | (with_reducible exact aig_Eval.mono _ _ _ _)
   | (with_reducible exact aig_Mux.mono _ _ _ _ _ _)
   | (with_reducible exact aig_Or.mono _ _ _ _ _)
   | (with_reducible exact aig_Xor.mono _ _ _ _ _)
   | (with_reducible exact proofmarklaw13_Bits.mono _ _ _ _)
   | (with_reducible exact proofmarklaw13_Made.mono _ _ _)
   | (with_reducible exact proofmarklaw13_head.mono _)
   | (with_reducible exact LeO.refl _)
   | (with_reducible exact LeO.none _)
   | (with_reducible refine LeO.ite ?_ ?_)
   | (with_reducible refine LeO.bind ?_ (fun _ => ?_))
   | exact ih0 _ _ _ _ _ _ _ _ _
   | exact aig_And.mono _ _ _ _ _
   | exact aig_Eval.mono _ _ _ _
   | exact aig_Mux.mono _ _ _ _ _ _
   | exact aig_Or.mono _ _ _ _ _
   | exact aig_Xor.mono _ _ _ _ _
   | exact proofmarklaw13_Bits.mono _ _ _ _
   | exact proofmarklaw13_Made.mono _ _ _
   | exact proofmarklaw13_head.mono _
   | exact LeO.none _
   | refine LeO.ite ?_ ?_
   | refine LeO.bind ?_ (fun _ => ?_)
set_option maxHeartbeats 8000000 in
set_option maxRecDepth 100000 in
theorem proofmarklaw13_AigTurn.calls (k : Nat) (a0 : Int) (A1 : Option Addr) (c1 : Nat) (l1 : List (S28)) (a2_0 : Int) (a2_1 : Int) (a2_2 : Int) (a2_3 : Int) (A3 : Option Addr) (c3 : Nat) (l3 : List Bool) (r : Bool) (w : World) (hr1 : Kd.C k28 w A1 l1.length l1) (hc1 : l1.length ≤ c1) (hr3 : Kd.C Kd.bool w A3 l3.length l3) (hc3 : l3.length ≤ c3) (h : proofmarklaw13_AigTurn.f k a0 l1 a2_0 a2_1 a2_2 a2_3 l3 = some r) :
  Calls Try.prog 9 #[.int .u8 a0, .slice A1 l1.length c1, .agg #[.int .u8 a2_0, .int .u16 a2_1, .int .u16 a2_2, .int .u16 a2_3], .slice A3 l3.length c3] w fun e w' => e = .returned (.bool r) ∧ Below w.heap.size w w' := by
 have hu28 := Try.underlying28
 have hu24 := Try.underlying24
 have HR1 := Aside0.mk hr1
 have HC1 := Aside0.mk hc1
 clear hr1 hc1
 have HR3 := Aside0.mk hr3
 have HC3 := Aside0.mk hc3
 clear hr3 hc3
 have HB := Aside0.mk (Below.refl w.heap.size w)
 have H : ((proofmarklaw13_head.f k).bind fun t684 => ((proofmarklaw13_Great.f l1).bind fun t685 => (if t685 = true then (some t684) else ((proofmarklaw13_Made.f k a0 l1).bind fun bt686 => ((proofmarklaw13_literal.f bt686.1 bt686.2.1 a2_1).bind fun t694 => ((proofmarklaw13_literal.f bt686.1 bt686.2.1 a2_2).bind fun t695 => ((proofmarklaw13_literal.f bt686.1 bt686.2.1 a2_3).bind fun t696 => ((aig_Or.f k bt686.1 bt686.2.1 t694 t695).bind fun bt697 => ((aig_And.f k bt697.1 bt697.2.1 (Go.bits .xor .i64 t694 1) (Go.bits .xor .i64 t695 1)).bind fun bt703 => ((aig_Mux.f k bt703.1 bt703.2.1 t694 t695 t696).bind fun bt708 => ((aig_Mux.f k bt708.1 bt708.2.1 (Go.bits .xor .i64 t694 1) t696 t695).bind fun bt713 => ((aig_Xor.f k bt713.1 bt713.2.1 t694 t695).bind fun bt718 => ((aig_Xor.f k bt718.1 bt718.2.1 (Go.bits .xor .i64 t694 1) t695).bind fun bt723 => ((proofmarklaw13_Bits.f k bt686.1 bt686.2.1 l3).bind fun t728 => ((aig_Eval.f k bt723.1 bt723.2.1 t728).bind fun t731 => (if bt723.1 = bt686.1 then (if (t731.length : Int) = (wrap64 ((wrap64 (1 + bt723.1)) + (bt723.2.1.length : Int))) then (if (mx (mx (mx (mx (mx bt697.2.2 bt703.2.2) bt708.2.2) bt713.2.2) bt718.2.2) bt723.2.2) ≥ (wrap64 (2 * (t731.length : Int))) then (proofmarklaw13_AigTurn.j0 k t684 bt697.2.2 bt703.2.2 bt708.2.2 bt713.2.2 bt718.2.2 bt723.2.2 t731 true) else (proofmarklaw13_AigTurn.j0 k t684 bt697.2.2 bt703.2.2 bt708.2.2 bt713.2.2 bt718.2.2 bt723.2.2 t731 (decide ((mn (mn (mn (mn (mn bt697.2.2 bt703.2.2) bt708.2.2) bt713.2.2) bt718.2.2) bt723.2.2) < 0)))) else (proofmarklaw13_AigTurn.j0 k t684 bt697.2.2 bt703.2.2 bt708.2.2 bt713.2.2 bt718.2.2 bt723.2.2 t731 true)) else (proofmarklaw13_AigTurn.j0 k t684 bt697.2.2 bt703.2.2 bt708.2.2 bt713.2.2 bt718.2.2 bt723.2.2 t731 true))))))))))))))))) = some r := h
 clear h
 replace H := Option.bind_eq_some_iff.mp H
 obtain ⟨t684, A50, H⟩ := H
 replace H : ((proofmarklaw13_Great.f l1).bind fun t685 => (if t685 = true then (some t684) else ((proofmarklaw13_Made.f k a0 l1).bind fun bt686 => ((proofmarklaw13_literal.f bt686.1 bt686.2.1 a2_1).bind fun t694 => ((proofmarklaw13_literal.f bt686.1 bt686.2.1 a2_2).bind fun t695 => ((proofmarklaw13_literal.f bt686.1 bt686.2.1 a2_3).bind fun t696 => ((aig_Or.f k bt686.1 bt686.2.1 t694 t695).bind fun bt697 => ((aig_And.f k bt697.1 bt697.2.1 (Go.bits .xor .i64 t694 1) (Go.bits .xor .i64 t695 1)).bind fun bt703 => ((aig_Mux.f k bt703.1 bt703.2.1 t694 t695 t696).bind fun bt708 => ((aig_Mux.f k bt708.1 bt708.2.1 (Go.bits .xor .i64 t694 1) t696 t695).bind fun bt713 => ((aig_Xor.f k bt713.1 bt713.2.1 t694 t695).bind fun bt718 => ((aig_Xor.f k bt718.1 bt718.2.1 (Go.bits .xor .i64 t694 1) t695).bind fun bt723 => ((proofmarklaw13_Bits.f k bt686.1 bt686.2.1 l3).bind fun t728 => ((aig_Eval.f k bt723.1 bt723.2.1 t728).bind fun t731 => (if bt723.1 = bt686.1 then (if (t731.length : Int) = (wrap64 ((wrap64 (1 + bt723.1)) + (bt723.2.1.length : Int))) then (if (mx (mx (mx (mx (mx bt697.2.2 bt703.2.2) bt708.2.2) bt713.2.2) bt718.2.2) bt723.2.2) ≥ (wrap64 (2 * (t731.length : Int))) then (proofmarklaw13_AigTurn.j0 k t684 bt697.2.2 bt703.2.2 bt708.2.2 bt713.2.2 bt718.2.2 bt723.2.2 t731 true) else (proofmarklaw13_AigTurn.j0 k t684 bt697.2.2 bt703.2.2 bt708.2.2 bt713.2.2 bt718.2.2 bt723.2.2 t731 (decide ((mn (mn (mn (mn (mn bt697.2.2 bt703.2.2) bt708.2.2) bt713.2.2) bt718.2.2) bt723.2.2) < 0)))) else (proofmarklaw13_AigTurn.j0 k t684 bt697.2.2 bt703.2.2 bt708.2.2 bt713.2.2 bt718.2.2 bt723.2.2 t731 true)) else (proofmarklaw13_AigTurn.j0 k t684 bt697.2.2 bt703.2.2 bt708.2.2 bt713.2.2 bt718.2.2 bt723.2.2 t731 true)))))))))))))))) = some r := H
 have A5 := Aside0.mk A50
 clear A50
 replace H := Option.bind_eq_some_iff.mp H
 obtain ⟨t685, A60, H⟩ := H
 replace H : (if t685 = true then (some t684) else ((proofmarklaw13_Made.f k a0 l1).bind fun bt686 => ((proofmarklaw13_literal.f bt686.1 bt686.2.1 a2_1).bind fun t694 => ((proofmarklaw13_literal.f bt686.1 bt686.2.1 a2_2).bind fun t695 => ((proofmarklaw13_literal.f bt686.1 bt686.2.1 a2_3).bind fun t696 => ((aig_Or.f k bt686.1 bt686.2.1 t694 t695).bind fun bt697 => ((aig_And.f k bt697.1 bt697.2.1 (Go.bits .xor .i64 t694 1) (Go.bits .xor .i64 t695 1)).bind fun bt703 => ((aig_Mux.f k bt703.1 bt703.2.1 t694 t695 t696).bind fun bt708 => ((aig_Mux.f k bt708.1 bt708.2.1 (Go.bits .xor .i64 t694 1) t696 t695).bind fun bt713 => ((aig_Xor.f k bt713.1 bt713.2.1 t694 t695).bind fun bt718 => ((aig_Xor.f k bt718.1 bt718.2.1 (Go.bits .xor .i64 t694 1) t695).bind fun bt723 => ((proofmarklaw13_Bits.f k bt686.1 bt686.2.1 l3).bind fun t728 => ((aig_Eval.f k bt723.1 bt723.2.1 t728).bind fun t731 => (if bt723.1 = bt686.1 then (if (t731.length : Int) = (wrap64 ((wrap64 (1 + bt723.1)) + (bt723.2.1.length : Int))) then (if (mx (mx (mx (mx (mx bt697.2.2 bt703.2.2) bt708.2.2) bt713.2.2) bt718.2.2) bt723.2.2) ≥ (wrap64 (2 * (t731.length : Int))) then (proofmarklaw13_AigTurn.j0 k t684 bt697.2.2 bt703.2.2 bt708.2.2 bt713.2.2 bt718.2.2 bt723.2.2 t731 true) else (proofmarklaw13_AigTurn.j0 k t684 bt697.2.2 bt703.2.2 bt708.2.2 bt713.2.2 bt718.2.2 bt723.2.2 t731 (decide ((mn (mn (mn (mn (mn bt697.2.2 bt703.2.2) bt708.2.2) bt713.2.2) bt718.2.2) bt723.2.2) < 0)))) else (proofmarklaw13_AigTurn.j0 k t684 bt697.2.2 bt703.2.2 bt708.2.2 bt713.2.2 bt718.2.2 bt723.2.2 t731 true)) else (proofmarklaw13_AigTurn.j0 k t684 bt697.2.2 bt703.2.2 bt708.2.2 bt713.2.2 bt718.2.2 bt723.2.2 t731 true))))))))))))))) = some r := H
 have A6 := Aside0.mk A60
 clear A60
 by_cases c7 : t685 = true
 ·subst c7
  have H1 : (some t684) = some r := by rw [if_pos rfl] at H; exact H
  clear H
  have H := H1
  clear H1
  obtain rfl := Option.some.inj H
  go_enter Try.func9, Try.ntmps9
  go_wp2_with (first | ((with_reducible refine gate_dst (N := 6) rfl ?_); (try (refine gate_guard (by rfl) ?_; dsimp only)); refine box_event ?hg (N := 6) ?hd (cs := #[.int .u8 a2_0, .int .u16 a2_1, .int .u16 a2_2, .int .u16 a2_3]) (t := 28) ?hr ?_; (case hd => rfl); (case hg => rfl); (case hr => first | (go_simp; done) | (go_simp; rfl)); intro gb683 hg w8 hbox hb; have n0_ := Aside0.mk (below_step (by repeat (first | (with_reducible first | exact HB.out | apply below_alloc | apply pw_below_drewN | apply below_drew1) | exact HB.out)) hb); have n1_ := Aside0.mk (hbox); have n2_ := Aside0.mk ((by rw [hg]; exact (below_size (by repeat (first | (with_reducible first | exact HB.out | apply below_alloc | apply pw_below_drewN | apply below_drew1) | exact HB.out))) : w.heap.size ≤ gb683)); have n3_ := Aside0.mk ((by rw [hg]; exact (below_size (by repeat (first | (with_reducible first | exact HB.out | apply below_alloc | apply pw_below_drewN | apply below_drew1) | exact HB.out))) : w.heap.size ≤ gb683)); clear HB; have HB := n0_; have BK683 := n1_; have GW683 := n2_; have GE683 := n3_; clear n0_ n1_ n2_ n3_; clear hb hbox hg) | ((with_reducible refine gate_callee (f := 10) rfl ?_); refine goesL_ (some 23) rfl rfl Try.func10 (by kernel_rfl) rfl #[] rfl (by (try simp only [List.map_toArray, List.map_cons, List.map_nil]); first | done | rfl | (simp only [List.length_drop, List.length_take]; rfl)) ?_; (with_reducible refine (proofmarklaw13_head.calls k  t684 _ A5.out).mono ?_); rintro e w9 ⟨rfl, hb⟩; refine ⟨_, rfl, ?_⟩; have n0_ := Aside0.mk (blk_below (g := gb683) (o := .cells #[.int .u8 a2_0, .int .u16 a2_1, .int .u16 a2_2, .int .u16 a2_3] 28 (0, 0)) (by (with_reducible repeat (first | refine blk_drewN ?_ _ | refine blk_drew ?_ | refine blk_alloc ?_ _)); exact BK683.out) hb); have n1_ := Aside0.mk (below_step (by repeat (first | (with_reducible first | exact HB.out | apply below_alloc | apply pw_below_drewN | apply below_drew1 | refine below_set ?_ GE683.out) | exact HB.out)) hb); clear BK683; clear HB; have BK683 := n0_; have HB := n1_; clear n0_ n1_; (try clear hb); (try clear hb2); (try clear hk); (try clear hi)) | ((with_reducible refine gate_callee (f := 11) rfl ?_); refine goesL_ (some 25) rfl rfl Try.func11 (by kernel_rfl) rfl #[.slice A1 l1.length c1] rfl (by (try simp only [List.map_toArray, List.map_cons, List.map_nil]); first | done | rfl | (simp only [List.length_drop, List.length_take]; rfl)) ?_; (with_reducible refine (proofmarklaw13_Great.calls _ _ l1 true _ ?side1 ?side2 A6.out).mono ?_); (case side1 => repeat (first | exact (Kd.C_below HR1.out HB.out) | (with_reducible refine Kd.C_alloc ?_ _) | (with_reducible refine Kd.C_drewN ?_ _) | (with_reducible refine Kd.C_drew ?_))); (case side2 => exact HC1.out); rintro e w' ⟨rfl, ⟨nd, rfl⟩⟩; refine ⟨_, rfl, ?_⟩))
  go_ret
  exact ⟨by first | rfl | (simp [errW_none, errW_some] <;> rfl) | (simp [*, errW_none, errW_some] <;> rfl), by repeat (first | (with_reducible first | exact HB.out | apply below_alloc | apply pw_below_drewN | apply below_drew1 | refine below_set ?_ GE683.out) | exact HB.out)⟩
 ·replace c7 := Bool.eq_false_iff.mpr c7
  subst c7
  have H1 : ((proofmarklaw13_Made.f k a0 l1).bind fun bt686 => ((proofmarklaw13_literal.f bt686.1 bt686.2.1 a2_1).bind fun t694 => ((proofmarklaw13_literal.f bt686.1 bt686.2.1 a2_2).bind fun t695 => ((proofmarklaw13_literal.f bt686.1 bt686.2.1 a2_3).bind fun t696 => ((aig_Or.f k bt686.1 bt686.2.1 t694 t695).bind fun bt697 => ((aig_And.f k bt697.1 bt697.2.1 (Go.bits .xor .i64 t694 1) (Go.bits .xor .i64 t695 1)).bind fun bt703 => ((aig_Mux.f k bt703.1 bt703.2.1 t694 t695 t696).bind fun bt708 => ((aig_Mux.f k bt708.1 bt708.2.1 (Go.bits .xor .i64 t694 1) t696 t695).bind fun bt713 => ((aig_Xor.f k bt713.1 bt713.2.1 t694 t695).bind fun bt718 => ((aig_Xor.f k bt718.1 bt718.2.1 (Go.bits .xor .i64 t694 1) t695).bind fun bt723 => ((proofmarklaw13_Bits.f k bt686.1 bt686.2.1 l3).bind fun t728 => ((aig_Eval.f k bt723.1 bt723.2.1 t728).bind fun t731 => (if bt723.1 = bt686.1 then (if (t731.length : Int) = (wrap64 ((wrap64 (1 + bt723.1)) + (bt723.2.1.length : Int))) then (if (mx (mx (mx (mx (mx bt697.2.2 bt703.2.2) bt708.2.2) bt713.2.2) bt718.2.2) bt723.2.2) ≥ (wrap64 (2 * (t731.length : Int))) then (proofmarklaw13_AigTurn.j0 k t684 bt697.2.2 bt703.2.2 bt708.2.2 bt713.2.2 bt718.2.2 bt723.2.2 t731 true) else (proofmarklaw13_AigTurn.j0 k t684 bt697.2.2 bt703.2.2 bt708.2.2 bt713.2.2 bt718.2.2 bt723.2.2 t731 (decide ((mn (mn (mn (mn (mn bt697.2.2 bt703.2.2) bt708.2.2) bt713.2.2) bt718.2.2) bt723.2.2) < 0)))) else (proofmarklaw13_AigTurn.j0 k t684 bt697.2.2 bt703.2.2 bt708.2.2 bt713.2.2 bt718.2.2 bt723.2.2 t731 true)) else (proofmarklaw13_AigTurn.j0 k t684 bt697.2.2 bt703.2.2 bt708.2.2 bt713.2.2 bt718.2.2 bt723.2.2 t731 true)))))))))))))) = some r := by rw [if_neg (show ¬ (false = true) by decide)] at H; exact H
  clear H
  have H := H1
  clear H1
  replace H := Option.bind_eq_some_iff.mp H
  obtain ⟨⟨t686, t687, t690⟩, A100, H⟩ := H
  replace H : ((proofmarklaw13_literal.f t686 t687 a2_1).bind fun t694 => ((proofmarklaw13_literal.f t686 t687 a2_2).bind fun t695 => ((proofmarklaw13_literal.f t686 t687 a2_3).bind fun t696 => ((aig_Or.f k t686 t687 t694 t695).bind fun bt697 => ((aig_And.f k bt697.1 bt697.2.1 (Go.bits .xor .i64 t694 1) (Go.bits .xor .i64 t695 1)).bind fun bt703 => ((aig_Mux.f k bt703.1 bt703.2.1 t694 t695 t696).bind fun bt708 => ((aig_Mux.f k bt708.1 bt708.2.1 (Go.bits .xor .i64 t694 1) t696 t695).bind fun bt713 => ((aig_Xor.f k bt713.1 bt713.2.1 t694 t695).bind fun bt718 => ((aig_Xor.f k bt718.1 bt718.2.1 (Go.bits .xor .i64 t694 1) t695).bind fun bt723 => ((proofmarklaw13_Bits.f k t686 t687 l3).bind fun t728 => ((aig_Eval.f k bt723.1 bt723.2.1 t728).bind fun t731 => (if bt723.1 = t686 then (if (t731.length : Int) = (wrap64 ((wrap64 (1 + bt723.1)) + (bt723.2.1.length : Int))) then (if (mx (mx (mx (mx (mx bt697.2.2 bt703.2.2) bt708.2.2) bt713.2.2) bt718.2.2) bt723.2.2) ≥ (wrap64 (2 * (t731.length : Int))) then (proofmarklaw13_AigTurn.j0 k t684 bt697.2.2 bt703.2.2 bt708.2.2 bt713.2.2 bt718.2.2 bt723.2.2 t731 true) else (proofmarklaw13_AigTurn.j0 k t684 bt697.2.2 bt703.2.2 bt708.2.2 bt713.2.2 bt718.2.2 bt723.2.2 t731 (decide ((mn (mn (mn (mn (mn bt697.2.2 bt703.2.2) bt708.2.2) bt713.2.2) bt718.2.2) bt723.2.2) < 0)))) else (proofmarklaw13_AigTurn.j0 k t684 bt697.2.2 bt703.2.2 bt708.2.2 bt713.2.2 bt718.2.2 bt723.2.2 t731 true)) else (proofmarklaw13_AigTurn.j0 k t684 bt697.2.2 bt703.2.2 bt708.2.2 bt713.2.2 bt718.2.2 bt723.2.2 t731 true))))))))))))) = some r := H
  have A10 := Aside0.mk A100
  clear A100
  replace H := Option.bind_eq_some_iff.mp H
  obtain ⟨t694, A110, H⟩ := H
  replace H : ((proofmarklaw13_literal.f t686 t687 a2_2).bind fun t695 => ((proofmarklaw13_literal.f t686 t687 a2_3).bind fun t696 => ((aig_Or.f k t686 t687 t694 t695).bind fun bt697 => ((aig_And.f k bt697.1 bt697.2.1 (Go.bits .xor .i64 t694 1) (Go.bits .xor .i64 t695 1)).bind fun bt703 => ((aig_Mux.f k bt703.1 bt703.2.1 t694 t695 t696).bind fun bt708 => ((aig_Mux.f k bt708.1 bt708.2.1 (Go.bits .xor .i64 t694 1) t696 t695).bind fun bt713 => ((aig_Xor.f k bt713.1 bt713.2.1 t694 t695).bind fun bt718 => ((aig_Xor.f k bt718.1 bt718.2.1 (Go.bits .xor .i64 t694 1) t695).bind fun bt723 => ((proofmarklaw13_Bits.f k t686 t687 l3).bind fun t728 => ((aig_Eval.f k bt723.1 bt723.2.1 t728).bind fun t731 => (if bt723.1 = t686 then (if (t731.length : Int) = (wrap64 ((wrap64 (1 + bt723.1)) + (bt723.2.1.length : Int))) then (if (mx (mx (mx (mx (mx bt697.2.2 bt703.2.2) bt708.2.2) bt713.2.2) bt718.2.2) bt723.2.2) ≥ (wrap64 (2 * (t731.length : Int))) then (proofmarklaw13_AigTurn.j0 k t684 bt697.2.2 bt703.2.2 bt708.2.2 bt713.2.2 bt718.2.2 bt723.2.2 t731 true) else (proofmarklaw13_AigTurn.j0 k t684 bt697.2.2 bt703.2.2 bt708.2.2 bt713.2.2 bt718.2.2 bt723.2.2 t731 (decide ((mn (mn (mn (mn (mn bt697.2.2 bt703.2.2) bt708.2.2) bt713.2.2) bt718.2.2) bt723.2.2) < 0)))) else (proofmarklaw13_AigTurn.j0 k t684 bt697.2.2 bt703.2.2 bt708.2.2 bt713.2.2 bt718.2.2 bt723.2.2 t731 true)) else (proofmarklaw13_AigTurn.j0 k t684 bt697.2.2 bt703.2.2 bt708.2.2 bt713.2.2 bt718.2.2 bt723.2.2 t731 true)))))))))))) = some r := H
  have A11 := Aside0.mk A110
  clear A110
  replace H := Option.bind_eq_some_iff.mp H
  obtain ⟨t695, A120, H⟩ := H
  replace H : ((proofmarklaw13_literal.f t686 t687 a2_3).bind fun t696 => ((aig_Or.f k t686 t687 t694 t695).bind fun bt697 => ((aig_And.f k bt697.1 bt697.2.1 (Go.bits .xor .i64 t694 1) (Go.bits .xor .i64 t695 1)).bind fun bt703 => ((aig_Mux.f k bt703.1 bt703.2.1 t694 t695 t696).bind fun bt708 => ((aig_Mux.f k bt708.1 bt708.2.1 (Go.bits .xor .i64 t694 1) t696 t695).bind fun bt713 => ((aig_Xor.f k bt713.1 bt713.2.1 t694 t695).bind fun bt718 => ((aig_Xor.f k bt718.1 bt718.2.1 (Go.bits .xor .i64 t694 1) t695).bind fun bt723 => ((proofmarklaw13_Bits.f k t686 t687 l3).bind fun t728 => ((aig_Eval.f k bt723.1 bt723.2.1 t728).bind fun t731 => (if bt723.1 = t686 then (if (t731.length : Int) = (wrap64 ((wrap64 (1 + bt723.1)) + (bt723.2.1.length : Int))) then (if (mx (mx (mx (mx (mx bt697.2.2 bt703.2.2) bt708.2.2) bt713.2.2) bt718.2.2) bt723.2.2) ≥ (wrap64 (2 * (t731.length : Int))) then (proofmarklaw13_AigTurn.j0 k t684 bt697.2.2 bt703.2.2 bt708.2.2 bt713.2.2 bt718.2.2 bt723.2.2 t731 true) else (proofmarklaw13_AigTurn.j0 k t684 bt697.2.2 bt703.2.2 bt708.2.2 bt713.2.2 bt718.2.2 bt723.2.2 t731 (decide ((mn (mn (mn (mn (mn bt697.2.2 bt703.2.2) bt708.2.2) bt713.2.2) bt718.2.2) bt723.2.2) < 0)))) else (proofmarklaw13_AigTurn.j0 k t684 bt697.2.2 bt703.2.2 bt708.2.2 bt713.2.2 bt718.2.2 bt723.2.2 t731 true)) else (proofmarklaw13_AigTurn.j0 k t684 bt697.2.2 bt703.2.2 bt708.2.2 bt713.2.2 bt718.2.2 bt723.2.2 t731 true))))))))))) = some r := H
  have A12 := Aside0.mk A120
  clear A120
  replace H := Option.bind_eq_some_iff.mp H
  obtain ⟨t696, A130, H⟩ := H
  replace H : ((aig_Or.f k t686 t687 t694 t695).bind fun bt697 => ((aig_And.f k bt697.1 bt697.2.1 (Go.bits .xor .i64 t694 1) (Go.bits .xor .i64 t695 1)).bind fun bt703 => ((aig_Mux.f k bt703.1 bt703.2.1 t694 t695 t696).bind fun bt708 => ((aig_Mux.f k bt708.1 bt708.2.1 (Go.bits .xor .i64 t694 1) t696 t695).bind fun bt713 => ((aig_Xor.f k bt713.1 bt713.2.1 t694 t695).bind fun bt718 => ((aig_Xor.f k bt718.1 bt718.2.1 (Go.bits .xor .i64 t694 1) t695).bind fun bt723 => ((proofmarklaw13_Bits.f k t686 t687 l3).bind fun t728 => ((aig_Eval.f k bt723.1 bt723.2.1 t728).bind fun t731 => (if bt723.1 = t686 then (if (t731.length : Int) = (wrap64 ((wrap64 (1 + bt723.1)) + (bt723.2.1.length : Int))) then (if (mx (mx (mx (mx (mx bt697.2.2 bt703.2.2) bt708.2.2) bt713.2.2) bt718.2.2) bt723.2.2) ≥ (wrap64 (2 * (t731.length : Int))) then (proofmarklaw13_AigTurn.j0 k t684 bt697.2.2 bt703.2.2 bt708.2.2 bt713.2.2 bt718.2.2 bt723.2.2 t731 true) else (proofmarklaw13_AigTurn.j0 k t684 bt697.2.2 bt703.2.2 bt708.2.2 bt713.2.2 bt718.2.2 bt723.2.2 t731 (decide ((mn (mn (mn (mn (mn bt697.2.2 bt703.2.2) bt708.2.2) bt713.2.2) bt718.2.2) bt723.2.2) < 0)))) else (proofmarklaw13_AigTurn.j0 k t684 bt697.2.2 bt703.2.2 bt708.2.2 bt713.2.2 bt718.2.2 bt723.2.2 t731 true)) else (proofmarklaw13_AigTurn.j0 k t684 bt697.2.2 bt703.2.2 bt708.2.2 bt713.2.2 bt718.2.2 bt723.2.2 t731 true)))))))))) = some r := H
  have A13 := Aside0.mk A130
  clear A130
  replace H := Option.bind_eq_some_iff.mp H
  obtain ⟨⟨t697, t698, t701⟩, A140, H⟩ := H
  replace H : ((aig_And.f k t697 t698 (Go.bits .xor .i64 t694 1) (Go.bits .xor .i64 t695 1)).bind fun bt703 => ((aig_Mux.f k bt703.1 bt703.2.1 t694 t695 t696).bind fun bt708 => ((aig_Mux.f k bt708.1 bt708.2.1 (Go.bits .xor .i64 t694 1) t696 t695).bind fun bt713 => ((aig_Xor.f k bt713.1 bt713.2.1 t694 t695).bind fun bt718 => ((aig_Xor.f k bt718.1 bt718.2.1 (Go.bits .xor .i64 t694 1) t695).bind fun bt723 => ((proofmarklaw13_Bits.f k t686 t687 l3).bind fun t728 => ((aig_Eval.f k bt723.1 bt723.2.1 t728).bind fun t731 => (if bt723.1 = t686 then (if (t731.length : Int) = (wrap64 ((wrap64 (1 + bt723.1)) + (bt723.2.1.length : Int))) then (if (mx (mx (mx (mx (mx t701 bt703.2.2) bt708.2.2) bt713.2.2) bt718.2.2) bt723.2.2) ≥ (wrap64 (2 * (t731.length : Int))) then (proofmarklaw13_AigTurn.j0 k t684 t701 bt703.2.2 bt708.2.2 bt713.2.2 bt718.2.2 bt723.2.2 t731 true) else (proofmarklaw13_AigTurn.j0 k t684 t701 bt703.2.2 bt708.2.2 bt713.2.2 bt718.2.2 bt723.2.2 t731 (decide ((mn (mn (mn (mn (mn t701 bt703.2.2) bt708.2.2) bt713.2.2) bt718.2.2) bt723.2.2) < 0)))) else (proofmarklaw13_AigTurn.j0 k t684 t701 bt703.2.2 bt708.2.2 bt713.2.2 bt718.2.2 bt723.2.2 t731 true)) else (proofmarklaw13_AigTurn.j0 k t684 t701 bt703.2.2 bt708.2.2 bt713.2.2 bt718.2.2 bt723.2.2 t731 true))))))))) = some r := H
  have A14 := Aside0.mk A140
  clear A140
  replace H := Option.bind_eq_some_iff.mp H
  obtain ⟨⟨t703, t704, t707⟩, A150, H⟩ := H
  replace H : ((aig_Mux.f k t703 t704 t694 t695 t696).bind fun bt708 => ((aig_Mux.f k bt708.1 bt708.2.1 (Go.bits .xor .i64 t694 1) t696 t695).bind fun bt713 => ((aig_Xor.f k bt713.1 bt713.2.1 t694 t695).bind fun bt718 => ((aig_Xor.f k bt718.1 bt718.2.1 (Go.bits .xor .i64 t694 1) t695).bind fun bt723 => ((proofmarklaw13_Bits.f k t686 t687 l3).bind fun t728 => ((aig_Eval.f k bt723.1 bt723.2.1 t728).bind fun t731 => (if bt723.1 = t686 then (if (t731.length : Int) = (wrap64 ((wrap64 (1 + bt723.1)) + (bt723.2.1.length : Int))) then (if (mx (mx (mx (mx (mx t701 t707) bt708.2.2) bt713.2.2) bt718.2.2) bt723.2.2) ≥ (wrap64 (2 * (t731.length : Int))) then (proofmarklaw13_AigTurn.j0 k t684 t701 t707 bt708.2.2 bt713.2.2 bt718.2.2 bt723.2.2 t731 true) else (proofmarklaw13_AigTurn.j0 k t684 t701 t707 bt708.2.2 bt713.2.2 bt718.2.2 bt723.2.2 t731 (decide ((mn (mn (mn (mn (mn t701 t707) bt708.2.2) bt713.2.2) bt718.2.2) bt723.2.2) < 0)))) else (proofmarklaw13_AigTurn.j0 k t684 t701 t707 bt708.2.2 bt713.2.2 bt718.2.2 bt723.2.2 t731 true)) else (proofmarklaw13_AigTurn.j0 k t684 t701 t707 bt708.2.2 bt713.2.2 bt718.2.2 bt723.2.2 t731 true)))))))) = some r := H
  have A15 := Aside0.mk A150
  clear A150
  replace H := Option.bind_eq_some_iff.mp H
  obtain ⟨⟨t708, t709, t712⟩, A160, H⟩ := H
  replace H : ((aig_Mux.f k t708 t709 (Go.bits .xor .i64 t694 1) t696 t695).bind fun bt713 => ((aig_Xor.f k bt713.1 bt713.2.1 t694 t695).bind fun bt718 => ((aig_Xor.f k bt718.1 bt718.2.1 (Go.bits .xor .i64 t694 1) t695).bind fun bt723 => ((proofmarklaw13_Bits.f k t686 t687 l3).bind fun t728 => ((aig_Eval.f k bt723.1 bt723.2.1 t728).bind fun t731 => (if bt723.1 = t686 then (if (t731.length : Int) = (wrap64 ((wrap64 (1 + bt723.1)) + (bt723.2.1.length : Int))) then (if (mx (mx (mx (mx (mx t701 t707) t712) bt713.2.2) bt718.2.2) bt723.2.2) ≥ (wrap64 (2 * (t731.length : Int))) then (proofmarklaw13_AigTurn.j0 k t684 t701 t707 t712 bt713.2.2 bt718.2.2 bt723.2.2 t731 true) else (proofmarklaw13_AigTurn.j0 k t684 t701 t707 t712 bt713.2.2 bt718.2.2 bt723.2.2 t731 (decide ((mn (mn (mn (mn (mn t701 t707) t712) bt713.2.2) bt718.2.2) bt723.2.2) < 0)))) else (proofmarklaw13_AigTurn.j0 k t684 t701 t707 t712 bt713.2.2 bt718.2.2 bt723.2.2 t731 true)) else (proofmarklaw13_AigTurn.j0 k t684 t701 t707 t712 bt713.2.2 bt718.2.2 bt723.2.2 t731 true))))))) = some r := H
  have A16 := Aside0.mk A160
  clear A160
  replace H := Option.bind_eq_some_iff.mp H
  obtain ⟨⟨t713, t714, t717⟩, A170, H⟩ := H
  replace H : ((aig_Xor.f k t713 t714 t694 t695).bind fun bt718 => ((aig_Xor.f k bt718.1 bt718.2.1 (Go.bits .xor .i64 t694 1) t695).bind fun bt723 => ((proofmarklaw13_Bits.f k t686 t687 l3).bind fun t728 => ((aig_Eval.f k bt723.1 bt723.2.1 t728).bind fun t731 => (if bt723.1 = t686 then (if (t731.length : Int) = (wrap64 ((wrap64 (1 + bt723.1)) + (bt723.2.1.length : Int))) then (if (mx (mx (mx (mx (mx t701 t707) t712) t717) bt718.2.2) bt723.2.2) ≥ (wrap64 (2 * (t731.length : Int))) then (proofmarklaw13_AigTurn.j0 k t684 t701 t707 t712 t717 bt718.2.2 bt723.2.2 t731 true) else (proofmarklaw13_AigTurn.j0 k t684 t701 t707 t712 t717 bt718.2.2 bt723.2.2 t731 (decide ((mn (mn (mn (mn (mn t701 t707) t712) t717) bt718.2.2) bt723.2.2) < 0)))) else (proofmarklaw13_AigTurn.j0 k t684 t701 t707 t712 t717 bt718.2.2 bt723.2.2 t731 true)) else (proofmarklaw13_AigTurn.j0 k t684 t701 t707 t712 t717 bt718.2.2 bt723.2.2 t731 true)))))) = some r := H
  have A17 := Aside0.mk A170
  clear A170
  replace H := Option.bind_eq_some_iff.mp H
  obtain ⟨⟨t718, t719, t722⟩, A180, H⟩ := H
  replace H : ((aig_Xor.f k t718 t719 (Go.bits .xor .i64 t694 1) t695).bind fun bt723 => ((proofmarklaw13_Bits.f k t686 t687 l3).bind fun t728 => ((aig_Eval.f k bt723.1 bt723.2.1 t728).bind fun t731 => (if bt723.1 = t686 then (if (t731.length : Int) = (wrap64 ((wrap64 (1 + bt723.1)) + (bt723.2.1.length : Int))) then (if (mx (mx (mx (mx (mx t701 t707) t712) t717) t722) bt723.2.2) ≥ (wrap64 (2 * (t731.length : Int))) then (proofmarklaw13_AigTurn.j0 k t684 t701 t707 t712 t717 t722 bt723.2.2 t731 true) else (proofmarklaw13_AigTurn.j0 k t684 t701 t707 t712 t717 t722 bt723.2.2 t731 (decide ((mn (mn (mn (mn (mn t701 t707) t712) t717) t722) bt723.2.2) < 0)))) else (proofmarklaw13_AigTurn.j0 k t684 t701 t707 t712 t717 t722 bt723.2.2 t731 true)) else (proofmarklaw13_AigTurn.j0 k t684 t701 t707 t712 t717 t722 bt723.2.2 t731 true))))) = some r := H
  have A18 := Aside0.mk A180
  clear A180
  replace H := Option.bind_eq_some_iff.mp H
  obtain ⟨⟨t723, t724, t727⟩, A190, H⟩ := H
  replace H : ((proofmarklaw13_Bits.f k t686 t687 l3).bind fun t728 => ((aig_Eval.f k t723 t724 t728).bind fun t731 => (if t723 = t686 then (if (t731.length : Int) = (wrap64 ((wrap64 (1 + t723)) + (t724.length : Int))) then (if (mx (mx (mx (mx (mx t701 t707) t712) t717) t722) t727) ≥ (wrap64 (2 * (t731.length : Int))) then (proofmarklaw13_AigTurn.j0 k t684 t701 t707 t712 t717 t722 t727 t731 true) else (proofmarklaw13_AigTurn.j0 k t684 t701 t707 t712 t717 t722 t727 t731 (decide ((mn (mn (mn (mn (mn t701 t707) t712) t717) t722) t727) < 0)))) else (proofmarklaw13_AigTurn.j0 k t684 t701 t707 t712 t717 t722 t727 t731 true)) else (proofmarklaw13_AigTurn.j0 k t684 t701 t707 t712 t717 t722 t727 t731 true)))) = some r := H
  have A19 := Aside0.mk A190
  clear A190
  replace H := Option.bind_eq_some_iff.mp H
  obtain ⟨t728, A200, H⟩ := H
  replace H : ((aig_Eval.f k t723 t724 t728).bind fun t731 => (if t723 = t686 then (if (t731.length : Int) = (wrap64 ((wrap64 (1 + t723)) + (t724.length : Int))) then (if (mx (mx (mx (mx (mx t701 t707) t712) t717) t722) t727) ≥ (wrap64 (2 * (t731.length : Int))) then (proofmarklaw13_AigTurn.j0 k t684 t701 t707 t712 t717 t722 t727 t731 true) else (proofmarklaw13_AigTurn.j0 k t684 t701 t707 t712 t717 t722 t727 t731 (decide ((mn (mn (mn (mn (mn t701 t707) t712) t717) t722) t727) < 0)))) else (proofmarklaw13_AigTurn.j0 k t684 t701 t707 t712 t717 t722 t727 t731 true)) else (proofmarklaw13_AigTurn.j0 k t684 t701 t707 t712 t717 t722 t727 t731 true))) = some r := H
  have A20 := Aside0.mk A200
  clear A200
  replace H := Option.bind_eq_some_iff.mp H
  obtain ⟨t731, A210, H⟩ := H
  replace H : (if t723 = t686 then (if (t731.length : Int) = (wrap64 ((wrap64 (1 + t723)) + (t724.length : Int))) then (if (mx (mx (mx (mx (mx t701 t707) t712) t717) t722) t727) ≥ (wrap64 (2 * (t731.length : Int))) then (proofmarklaw13_AigTurn.j0 k t684 t701 t707 t712 t717 t722 t727 t731 true) else (proofmarklaw13_AigTurn.j0 k t684 t701 t707 t712 t717 t722 t727 t731 (decide ((mn (mn (mn (mn (mn t701 t707) t712) t717) t722) t727) < 0)))) else (proofmarklaw13_AigTurn.j0 k t684 t701 t707 t712 t717 t722 t727 t731 true)) else (proofmarklaw13_AigTurn.j0 k t684 t701 t707 t712 t717 t722 t727 t731 true)) = some r := H
  have A21 := Aside0.mk A210
  clear A210
  have HC22 := Aside0.mk H
  clear H
  go_enter Try.func9, Try.ntmps9
  try go_wp2_with (first | ((with_reducible refine gate_dst (N := 6) rfl ?_); (try (refine gate_guard (by rfl) ?_; dsimp only)); refine box_event ?hg (N := 6) ?hd (cs := #[.int .u8 a2_0, .int .u16 a2_1, .int .u16 a2_2, .int .u16 a2_3]) (t := 28) ?hr ?_; (case hd => rfl); (case hg => rfl); (case hr => first | (go_simp; done) | (go_simp; rfl)); intro gb683 hg w23 hbox hb; have n0_ := Aside0.mk (below_step (by repeat (first | (with_reducible first | exact HB.out | apply below_alloc | apply pw_below_drewN | apply below_drew1) | exact HB.out)) hb); have n1_ := Aside0.mk (hbox); have n2_ := Aside0.mk ((by rw [hg]; exact (below_size (by repeat (first | (with_reducible first | exact HB.out | apply below_alloc | apply pw_below_drewN | apply below_drew1) | exact HB.out))) : w.heap.size ≤ gb683)); have n3_ := Aside0.mk ((by rw [hg]; exact (below_size (by repeat (first | (with_reducible first | exact HB.out | apply below_alloc | apply pw_below_drewN | apply below_drew1) | exact HB.out))) : w.heap.size ≤ gb683)); clear HB; have HB := n0_; have BK683 := n1_; have GW683 := n2_; have GE683 := n3_; clear n0_ n1_ n2_ n3_; clear hb hbox hg) | ((with_reducible refine gate_callee (f := 10) rfl ?_); refine goesL_ (some 23) rfl rfl Try.func10 (by kernel_rfl) rfl #[] rfl (by (try simp only [List.map_toArray, List.map_cons, List.map_nil]); first | done | rfl | (simp only [List.length_drop, List.length_take]; rfl)) ?_; (with_reducible refine (proofmarklaw13_head.calls k  t684 _ A5.out).mono ?_); rintro e w24 ⟨rfl, hb⟩; refine ⟨_, rfl, ?_⟩; have n0_ := Aside0.mk (blk_below (g := gb683) (o := .cells #[.int .u8 a2_0, .int .u16 a2_1, .int .u16 a2_2, .int .u16 a2_3] 28 (0, 0)) (by (with_reducible repeat (first | refine blk_drewN ?_ _ | refine blk_drew ?_ | refine blk_alloc ?_ _)); exact BK683.out) hb); have n1_ := Aside0.mk (below_step (by repeat (first | (with_reducible first | exact HB.out | apply below_alloc | apply pw_below_drewN | apply below_drew1 | refine below_set ?_ GE683.out) | exact HB.out)) hb); clear BK683; clear HB; have BK683 := n0_; have HB := n1_; clear n0_ n1_; (try clear hb); (try clear hb2); (try clear hk); (try clear hi)) | ((with_reducible refine gate_callee (f := 11) rfl ?_); refine goesL_ (some 25) rfl rfl Try.func11 (by kernel_rfl) rfl #[.slice A1 l1.length c1] rfl (by (try simp only [List.map_toArray, List.map_cons, List.map_nil]); first | done | rfl | (simp only [List.length_drop, List.length_take]; rfl)) ?_; (with_reducible refine (proofmarklaw13_Great.calls _ _ l1 false _ ?side1 ?side2 A6.out).mono ?_); (case side1 => repeat (first | exact (Kd.C_below HR1.out HB.out) | (with_reducible refine Kd.C_alloc ?_ _) | (with_reducible refine Kd.C_drewN ?_ _) | (with_reducible refine Kd.C_drew ?_))); (case side2 => exact HC1.out); rintro e w' ⟨rfl, ⟨nd, rfl⟩⟩; refine ⟨_, rfl, ?_⟩; (try (rw [drewN_self w24]; generalize hq_ : World.drewN w24 _ = w24; have n0_ : Aside0 (w24.heap[gb683]? = some (.cells #[.int .u8 a2_0, .int .u16 a2_1, .int .u16 a2_2, .int .u16 a2_3] 28 (0, 0))) := ⟨by rw [← hq_]; exact (by (with_reducible repeat (first | refine blk_drewN ?_ _ | refine blk_drew ?_ | refine blk_alloc ?_ _)); exact BK683.out)⟩; have n1_ : Aside0 (Below w.heap.size w w24) := ⟨by rw [← hq_]; exact (by repeat (first | (with_reducible first | exact HB.out | apply below_alloc | apply pw_below_drewN | apply below_drew1 | refine below_set ?_ GE683.out) | exact HB.out))⟩; clear BK683 HB hq_; have BK683 := n0_; have HB := n1_; clear n0_ n1_))) | ((with_reducible refine gate_callee (f := 14) rfl ?_); refine goesL_ (some 30) rfl rfl Try.func14 (by kernel_rfl) rfl #[.int .u8 a0, .slice A1 l1.length c1] rfl (by (try simp only [List.map_toArray, List.map_cons, List.map_nil]); first | done | rfl | (simp only [List.length_drop, List.length_take]; rfl)) ?_; (with_reducible refine (proofmarklaw13_Made.calls k a0 _ _ l1 t686 t687 t690 _ ?side1 ?side2 A10.out).mono ?_); (case side1 => repeat (first | exact (Kd.C_below HR1.out HB.out) | (with_reducible refine Kd.C_alloc ?_ _) | (with_reducible refine Kd.C_drewN ?_ _) | (with_reducible refine Kd.C_drew ?_))); (case side2 => exact HC1.out); rintro e w25 ⟨v688, v691, rfl, ho0, ho1, hb⟩; refine ⟨_, rfl, ?_⟩; have n0_ := Aside0.mk (Kd.V_lower (Kd.V_mono (ok' := fun k_ => some k_ ≠ (v691 : Value).ownBlock ∧ k_ ≠ gb683) ho0 (fun k_ hk_ => ⟨hk_.2, (Kd.freshB (g := gb683) (o := .cells #[.int .u8 a2_0, .int .u16 a2_1, .int .u16 a2_2, .int .u16 a2_3] 28 (0, 0)) (by (with_reducible repeat (first | refine blk_drewN ?_ _ | refine blk_drew ?_ | refine blk_alloc ?_ _)); exact BK683.out) k_ hk_.1)⟩)) (below_size (by repeat (first | (with_reducible first | exact HB.out | apply below_alloc | apply pw_below_drewN | apply below_drew1 | refine below_set ?_ GE683.out) | exact HB.out)))); have n1_ := Aside0.mk (Kd.R_lower (Kd.R_mono (ok' := fun k_ => True) ho1 (fun _ hk_ => trivial)) (below_size (by repeat (first | (with_reducible first | exact HB.out | apply below_alloc | apply pw_below_drewN | apply below_drew1 | refine below_set ?_ GE683.out) | exact HB.out)))); have n2_ := Aside0.mk (blk_below (g := gb683) (o := .cells #[.int .u8 a2_0, .int .u16 a2_1, .int .u16 a2_2, .int .u16 a2_3] 28 (0, 0)) (by (with_reducible repeat (first | refine blk_drewN ?_ _ | refine blk_drew ?_ | refine blk_alloc ?_ _)); exact BK683.out) hb); have n3_ := Aside0.mk (below_step (by repeat (first | (with_reducible first | exact HB.out | apply below_alloc | apply pw_below_drewN | apply below_drew1 | refine below_set ?_ GE683.out) | exact HB.out)) hb); clear BK683; clear HB; have HO689 := n0_; have HO692 := n1_; have BK683 := n2_; have HB := n3_; clear n0_ n1_ n2_ n3_; (try clear hb); (try clear hb2); (try clear hk); (try clear hi); (try clear ho0); (try clear ho1)) | ((with_reducible refine gate_dst (N := 10) rfl ?_); (try (refine gate_guard (by rfl) ?_; dsimp only)); refine box_event ?hg (N := 10) ?hd (cs := #[.int .i64 0, .slice none 0 0]) (t := 24) ?hr ?_; (case hd => rfl); (case hg => rfl); (case hr => first | (go_simp; done) | (go_simp; rfl)); intro gb693 hg w26 hbox hb; have n0_ := Aside0.mk (Kd.V_below (Kd.V_elderB (by (with_reducible repeat (first | apply Kd.V_alloc | apply Kd.V_drewN | apply Kd.V_drew)); exact HO689.out) gb693 (Nat.le_of_eq hg.symm)) hb); have n1_ := Aside0.mk (Kd.R_below (by (with_reducible repeat (first | apply Kd.R_alloc | apply Kd.R_drewN | apply Kd.R_drew)); exact HO692.out) hb); have n2_ := Aside0.mk (blk_below (g := gb683) (o := .cells #[.int .u8 a2_0, .int .u16 a2_1, .int .u16 a2_2, .int .u16 a2_3] 28 (0, 0)) (by (with_reducible repeat (first | refine blk_drewN ?_ _ | refine blk_drew ?_ | refine blk_alloc ?_ _)); exact BK683.out) hb); have n3_ := Aside0.mk (below_step (by repeat (first | (with_reducible first | exact HB.out | apply below_alloc | apply pw_below_drewN | apply below_drew1 | refine below_set ?_ GE683.out) | exact HB.out)) hb); have n4_ := Aside0.mk (hbox); have n5_ := Aside0.mk ((by rw [hg]; exact (below_size (by repeat (first | (with_reducible first | exact HB.out | apply below_alloc | apply pw_below_drewN | apply below_drew1 | refine below_set ?_ GE683.out) | exact HB.out))) : w.heap.size ≤ gb693)); have n6_ := Aside0.mk ((by rw [hg]; exact (below_size (by repeat (first | (with_reducible first | exact HB.out | apply below_alloc | apply pw_below_drewN | apply below_drew1 | refine below_set ?_ GE683.out) | exact HB.out))) : w.heap.size ≤ gb693)); have n7_ := Aside0.mk ((by rw [hg]; exact Nat.ne_of_lt (blk_lt (g := gb683) (o := .cells #[.int .u8 a2_0, .int .u16 a2_1, .int .u16 a2_2, .int .u16 a2_3] 28 (0, 0)) (by (with_reducible repeat (first | refine blk_drewN ?_ _ | refine blk_drew ?_ | refine blk_alloc ?_ _)); exact BK683.out)) : gb683 ≠ gb693)); have n8_ := Aside0.mk ((by rw [hg]; exact Nat.ne_of_gt (blk_lt (g := gb683) (o := .cells #[.int .u8 a2_0, .int .u16 a2_1, .int .u16 a2_2, .int .u16 a2_3] 28 (0, 0)) (by (with_reducible repeat (first | refine blk_drewN ?_ _ | refine blk_drew ?_ | refine blk_alloc ?_ _)); exact BK683.out)) : gb693 ≠ gb683)); clear HO689; clear HO692; clear BK683; clear HB; have HO689 := n0_; have HO692 := n1_; have BK683 := n2_; have HB := n3_; have BK693 := n4_; have GW693 := n5_; have GE693 := n6_; have NB683_693 := n7_; have NB693_683 := n8_; clear n0_ n1_ n2_ n3_ n4_ n5_ n6_ n7_ n8_; clear hb hbox hg; have hnb27 := NB693_683.out; have hnc27 := NB683_693.out; have hcz28_0 : w26.cell? ⟨gb693, 0, none⟩ = some (.int .i64 0) := (blk_cell BK693.out 0).trans rfl; have hcz28_1 : w26.cell? ⟨gb693, 1, none⟩ = some (.slice none 0 0) := (blk_cell BK693.out 1).trans rfl; have hfz28_0 := blk_frozen BK693.out 0; have hfz28_1 := blk_frozen BK693.out 1; obtain ⟨Ao29, co29, eo29⟩ := Kd.V_slice HO689.out; subst eo29; have hcz30_0 : w26.cell? ⟨gb683, 0, none⟩ = some (.int .u8 a2_0) := (blk_cell BK683.out 0).trans rfl; have hcz30_1 : w26.cell? ⟨gb683, 1, none⟩ = some (.int .u16 a2_1) := (blk_cell BK683.out 1).trans rfl; have hcz30_2 : w26.cell? ⟨gb683, 2, none⟩ = some (.int .u16 a2_2) := (blk_cell BK683.out 2).trans rfl; have hcz30_3 : w26.cell? ⟨gb683, 3, none⟩ = some (.int .u16 a2_3) := (blk_cell BK683.out 3).trans rfl; have hfz30_0 := blk_frozen BK683.out 0; have hfz30_1 := blk_frozen BK683.out 1; have hfz30_2 := blk_frozen BK683.out 2; have hfz30_3 := blk_frozen BK683.out 3) | ((with_reducible refine gate_callee (f := 15) rfl ?_); refine goesL_ (some 36) rfl rfl Try.func15 (by kernel_rfl) rfl #[.agg #[.int .i64 t686, .slice Ao29 t687.length co29], .int .u16 a2_1] rfl (by (try simp only [List.map_toArray, List.map_cons, List.map_nil]); first | done | rfl | (simp only [List.length_drop, List.length_take]; rfl)) ?_; (with_reducible refine (proofmarklaw13_literal.calls t686 _ _ t687 a2_1 t694 _ ?side1 ?side2 A11.out).mono ?_); (case side1 => refine (Kd.V_reads' (e := 50) (base := w.heap.size) (ok := fun k_ => ((some k_ ≠ (v691 : Value).ownBlock ∧ k_ ≠ gb683) ∧ k_ ≠ gb693)) (n := t687.length) (c := co29) ?_).2.2; exact (by (with_reducible repeat (first | apply Kd.V_alloc | apply Kd.V_drewN | apply Kd.V_drew)); exact (Kd.V_mono (Kd.V_far (p := ⟨gb693, 1, none⟩) (Kd.V_far (p := ⟨gb693, 0, none⟩) (Kd.V_mono HO689.out (fun k_ hk => (⟨hk, hk.2⟩ : _ ∧ k_ ≠ gb693))) (fun _ hk => hk.2) (.int .i64 t686)) (fun _ hk => hk.2) (.slice Ao29 t687.length co29)) (fun _ h_ => h_.1)))); (case side2 => exact (Kd.V_reads' HO689.out).2.1); rintro e w31 ⟨rfl, hb⟩; refine ⟨_, rfl, ?_⟩; have n0_ := Aside0.mk (Kd.V_below (by (with_reducible repeat (first | apply Kd.V_alloc | apply Kd.V_drewN | apply Kd.V_drew)); exact (Kd.V_mono (Kd.V_far (p := ⟨gb693, 1, none⟩) (Kd.V_far (p := ⟨gb693, 0, none⟩) (Kd.V_mono HO689.out (fun k_ hk => (⟨hk, hk.2⟩ : _ ∧ k_ ≠ gb693))) (fun _ hk => hk.2) (.int .i64 t686)) (fun _ hk => hk.2) (.slice Ao29 t687.length co29)) (fun _ h_ => h_.1))) hb); have n1_ := Aside0.mk (Kd.R_below (by (with_reducible repeat (first | apply Kd.R_alloc | apply Kd.R_drewN | apply Kd.R_drew)); exact (Kd.R_mono (Kd.R_far (p := ⟨gb693, 1, none⟩) (Kd.R_far (p := ⟨gb693, 0, none⟩) (Kd.R_types HO692.out BK693.out (by decide)) (fun _ hk => hk.2) (.int .i64 t686)) (fun _ hk => hk.2) (.slice Ao29 t687.length co29)) (fun _ h_ => h_.1))) hb); have n2_ := Aside0.mk (blk_below (g := gb683) (o := .cells #[.int .u8 a2_0, .int .u16 a2_1, .int .u16 a2_2, .int .u16 a2_3] 28 (0, 0)) (by (with_reducible repeat (first | refine blk_drewN ?_ _ | refine blk_drew ?_ | refine blk_alloc ?_ _)); refine blk_far ?_ NB683_693.out _; (with_reducible repeat (first | refine blk_drewN ?_ _ | refine blk_drew ?_ | refine blk_alloc ?_ _)); refine blk_far ?_ NB683_693.out _; (with_reducible repeat (first | refine blk_drewN ?_ _ | refine blk_drew ?_ | refine blk_alloc ?_ _)); exact BK683.out) hb); have n3_ := Aside0.mk (blk_below (g := gb693) (o := .cells #[.int .i64 t686, .slice Ao29 t687.length co29] 24 (0, 0)) (by (with_reducible repeat (first | refine blk_drewN ?_ _ | refine blk_drew ?_ | refine blk_alloc ?_ _)); refine blk_put (cs := #[.int .i64 t686, .slice none 0 0]) ?_ 1 _ rfl; (with_reducible repeat (first | refine blk_drewN ?_ _ | refine blk_drew ?_ | refine blk_alloc ?_ _)); refine blk_put (cs := #[.int .i64 0, .slice none 0 0]) ?_ 0 _ rfl; (with_reducible repeat (first | refine blk_drewN ?_ _ | refine blk_drew ?_ | refine blk_alloc ?_ _)); exact BK693.out) hb); have n4_ := Aside0.mk (below_step (by repeat (first | (with_reducible first | exact HB.out | apply below_alloc | apply pw_below_drewN | apply below_drew1 | refine below_set ?_ GE683.out | refine below_set ?_ GE693.out) | exact HB.out)) hb); clear HO689; clear HO692; clear BK683; clear BK693; clear HB; have HO689 := n0_; have HO692 := n1_; have BK683 := n2_; have BK693 := n3_; have HB := n4_; clear n0_ n1_ n2_ n3_ n4_; (try clear hb); (try clear hb2); (try clear hk); (try clear hi); have hcz32_0 : w31.cell? ⟨gb693, 0, none⟩ = some (.int .i64 t686) := (blk_cell BK693.out 0).trans rfl; have hcz32_1 : w31.cell? ⟨gb693, 1, none⟩ = some (.slice Ao29 t687.length co29) := (blk_cell BK693.out 1).trans rfl; have hfz32_0 := blk_frozen BK693.out 0; have hfz32_1 := blk_frozen BK693.out 1; have hcz33_0 : w31.cell? ⟨gb683, 0, none⟩ = some (.int .u8 a2_0) := (blk_cell BK683.out 0).trans rfl; have hcz33_1 : w31.cell? ⟨gb683, 1, none⟩ = some (.int .u16 a2_1) := (blk_cell BK683.out 1).trans rfl; have hcz33_2 : w31.cell? ⟨gb683, 2, none⟩ = some (.int .u16 a2_2) := (blk_cell BK683.out 2).trans rfl; have hcz33_3 : w31.cell? ⟨gb683, 3, none⟩ = some (.int .u16 a2_3) := (blk_cell BK683.out 3).trans rfl; have hfz33_0 := blk_frozen BK683.out 0; have hfz33_1 := blk_frozen BK683.out 1; have hfz33_2 := blk_frozen BK683.out 2; have hfz33_3 := blk_frozen BK683.out 3) | ((with_reducible refine gate_callee (f := 15) rfl ?_); refine goesL_ (some 40) rfl rfl Try.func15 (by kernel_rfl) rfl #[.agg #[.int .i64 t686, .slice Ao29 t687.length co29], .int .u16 a2_2] rfl (by (try simp only [List.map_toArray, List.map_cons, List.map_nil]); first | done | rfl | (simp only [List.length_drop, List.length_take]; rfl)) ?_; (with_reducible refine (proofmarklaw13_literal.calls t686 _ _ t687 a2_2 t695 _ ?side1 ?side2 A12.out).mono ?_); (case side1 => repeat (first | exact (Kd.V_reads' HO689.out).2.2 | (with_reducible refine Kd.C_alloc ?_ _) | (with_reducible refine Kd.C_drewN ?_ _) | (with_reducible refine Kd.C_drew ?_))); (case side2 => exact (Kd.V_reads' HO689.out).2.1); rintro e w34 ⟨rfl, hb⟩; refine ⟨_, rfl, ?_⟩; have n0_ := Aside0.mk (Kd.V_below (by (with_reducible repeat (first | apply Kd.V_alloc | apply Kd.V_drewN | apply Kd.V_drew)); exact HO689.out) hb); have n1_ := Aside0.mk (Kd.R_below (by (with_reducible repeat (first | apply Kd.R_alloc | apply Kd.R_drewN | apply Kd.R_drew)); exact HO692.out) hb); have n2_ := Aside0.mk (blk_below (g := gb683) (o := .cells #[.int .u8 a2_0, .int .u16 a2_1, .int .u16 a2_2, .int .u16 a2_3] 28 (0, 0)) (by (with_reducible repeat (first | refine blk_drewN ?_ _ | refine blk_drew ?_ | refine blk_alloc ?_ _)); exact BK683.out) hb); have n3_ := Aside0.mk (blk_below (g := gb693) (o := .cells #[.int .i64 t686, .slice Ao29 t687.length co29] 24 (0, 0)) (by (with_reducible repeat (first | refine blk_drewN ?_ _ | refine blk_drew ?_ | refine blk_alloc ?_ _)); exact BK693.out) hb); have n4_ := Aside0.mk (below_step (by repeat (first | (with_reducible first | exact HB.out | apply below_alloc | apply pw_below_drewN | apply below_drew1 | refine below_set ?_ GE683.out | refine below_set ?_ GE693.out) | exact HB.out)) hb); clear HO689; clear HO692; clear BK683; clear BK693; clear HB; have HO689 := n0_; have HO692 := n1_; have BK683 := n2_; have BK693 := n3_; have HB := n4_; clear n0_ n1_ n2_ n3_ n4_; (try clear hb); (try clear hb2); (try clear hk); (try clear hi); have hcz35_0 : w34.cell? ⟨gb693, 0, none⟩ = some (.int .i64 t686) := (blk_cell BK693.out 0).trans rfl; have hcz35_1 : w34.cell? ⟨gb693, 1, none⟩ = some (.slice Ao29 t687.length co29) := (blk_cell BK693.out 1).trans rfl; have hfz35_0 := blk_frozen BK693.out 0; have hfz35_1 := blk_frozen BK693.out 1; have hcz36_0 : w34.cell? ⟨gb683, 0, none⟩ = some (.int .u8 a2_0) := (blk_cell BK683.out 0).trans rfl; have hcz36_1 : w34.cell? ⟨gb683, 1, none⟩ = some (.int .u16 a2_1) := (blk_cell BK683.out 1).trans rfl; have hcz36_2 : w34.cell? ⟨gb683, 2, none⟩ = some (.int .u16 a2_2) := (blk_cell BK683.out 2).trans rfl; have hcz36_3 : w34.cell? ⟨gb683, 3, none⟩ = some (.int .u16 a2_3) := (blk_cell BK683.out 3).trans rfl; have hfz36_0 := blk_frozen BK683.out 0; have hfz36_1 := blk_frozen BK683.out 1; have hfz36_2 := blk_frozen BK683.out 2; have hfz36_3 := blk_frozen BK683.out 3) | ((with_reducible refine gate_callee (f := 15) rfl ?_); refine goesL_ (some 44) rfl rfl Try.func15 (by kernel_rfl) rfl #[.agg #[.int .i64 t686, .slice Ao29 t687.length co29], .int .u16 a2_3] rfl (by (try simp only [List.map_toArray, List.map_cons, List.map_nil]); first | done | rfl | (simp only [List.length_drop, List.length_take]; rfl)) ?_; (with_reducible refine (proofmarklaw13_literal.calls t686 _ _ t687 a2_3 t696 _ ?side1 ?side2 A13.out).mono ?_); (case side1 => repeat (first | exact (Kd.V_reads' HO689.out).2.2 | (with_reducible refine Kd.C_alloc ?_ _) | (with_reducible refine Kd.C_drewN ?_ _) | (with_reducible refine Kd.C_drew ?_))); (case side2 => exact (Kd.V_reads' HO689.out).2.1); rintro e w37 ⟨rfl, hb⟩; refine ⟨_, rfl, ?_⟩; have n0_ := Aside0.mk (Kd.V_below (by (with_reducible repeat (first | apply Kd.V_alloc | apply Kd.V_drewN | apply Kd.V_drew)); exact HO689.out) hb); have n1_ := Aside0.mk (Kd.R_below (by (with_reducible repeat (first | apply Kd.R_alloc | apply Kd.R_drewN | apply Kd.R_drew)); exact HO692.out) hb); have n2_ := Aside0.mk (blk_below (g := gb683) (o := .cells #[.int .u8 a2_0, .int .u16 a2_1, .int .u16 a2_2, .int .u16 a2_3] 28 (0, 0)) (by (with_reducible repeat (first | refine blk_drewN ?_ _ | refine blk_drew ?_ | refine blk_alloc ?_ _)); exact BK683.out) hb); have n3_ := Aside0.mk (blk_below (g := gb693) (o := .cells #[.int .i64 t686, .slice Ao29 t687.length co29] 24 (0, 0)) (by (with_reducible repeat (first | refine blk_drewN ?_ _ | refine blk_drew ?_ | refine blk_alloc ?_ _)); exact BK693.out) hb); have n4_ := Aside0.mk (below_step (by repeat (first | (with_reducible first | exact HB.out | apply below_alloc | apply pw_below_drewN | apply below_drew1 | refine below_set ?_ GE683.out | refine below_set ?_ GE693.out) | exact HB.out)) hb); clear HO689; clear HO692; clear BK683; clear BK693; clear HB; have HO689 := n0_; have HO692 := n1_; have BK683 := n2_; have BK693 := n3_; have HB := n4_; clear n0_ n1_ n2_ n3_ n4_; (try clear hb); (try clear hb2); (try clear hk); (try clear hi); have hcz38_0 : w37.cell? ⟨gb693, 0, none⟩ = some (.int .i64 t686) := (blk_cell BK693.out 0).trans rfl; have hcz38_1 : w37.cell? ⟨gb693, 1, none⟩ = some (.slice Ao29 t687.length co29) := (blk_cell BK693.out 1).trans rfl; have hfz38_0 := blk_frozen BK693.out 0; have hfz38_1 := blk_frozen BK693.out 1) | ((with_reducible refine gate_callee (f := 19) rfl ?_); refine goesL_ (some 49) rfl rfl Try.func19 (by kernel_rfl) rfl #[.agg #[.int .i64 t686, .slice Ao29 t687.length co29], .int .i64 t694, .int .i64 t695] rfl (by (try simp only [List.map_toArray, List.map_cons, List.map_nil]); first | done | rfl | (simp only [List.length_drop, List.length_take]; rfl)) ?_; (with_reducible refine (aig_Or.calls k t686 (fun k_ => ((some k_ ≠ (v691 : Value).ownBlock ∧ k_ ≠ gb683) ∧ k_ ≠ gb693)) _ _ t687 t694 t695 t697 t698 t701 _ ?side1 A14.out).mono ?_); (case side1 => exact HO689.out); rintro e w39 ⟨v699, rfl, ho0, hb⟩; refine ⟨_, rfl, ?_⟩; have n0_ := Aside0.mk (Kd.V_below (by (with_reducible repeat (first | apply Kd.V_alloc | apply Kd.V_drewN | apply Kd.V_drew)); exact HO689.out) hb); have n1_ := Aside0.mk (Kd.R_below (by (with_reducible repeat (first | apply Kd.R_alloc | apply Kd.R_drewN | apply Kd.R_drew)); exact HO692.out) hb); have n2_ := Aside0.mk (Kd.V_lower (Kd.V_mono (ok' := fun k_ => some k_ ≠ (v691 : Value).ownBlock ∧ k_ ≠ gb683 ∧ k_ ≠ gb693) ho0 (fun k_ hk_ => ⟨Or.elim hk_ (fun hs_ => hs_.1.1) (fun hn_ => (Kd.fresh' (Kd.R_lt (by (with_reducible repeat (first | apply Kd.R_alloc | apply Kd.R_drewN | apply Kd.R_drew)); exact HO692.out)) k_ hn_)), Or.elim hk_ (fun hs_ => hs_.1.2) (fun hn_ => (Kd.freshB (g := gb683) (o := .cells #[.int .u8 a2_0, .int .u16 a2_1, .int .u16 a2_2, .int .u16 a2_3] 28 (0, 0)) (by (with_reducible repeat (first | refine blk_drewN ?_ _ | refine blk_drew ?_ | refine blk_alloc ?_ _)); exact BK683.out) k_ hn_)), Or.elim hk_ (fun hs_ => hs_.2) (fun hn_ => (Kd.freshB (g := gb693) (o := .cells #[.int .i64 t686, .slice Ao29 t687.length co29] 24 (0, 0)) (by (with_reducible repeat (first | refine blk_drewN ?_ _ | refine blk_drew ?_ | refine blk_alloc ?_ _)); exact BK693.out) k_ hn_))⟩)) (below_size (by repeat (first | (with_reducible first | exact HB.out | apply below_alloc | apply pw_below_drewN | apply below_drew1 | refine below_set ?_ GE683.out | refine below_set ?_ GE693.out) | exact HB.out)))); have n3_ := Aside0.mk (blk_below (g := gb683) (o := .cells #[.int .u8 a2_0, .int .u16 a2_1, .int .u16 a2_2, .int .u16 a2_3] 28 (0, 0)) (by (with_reducible repeat (first | refine blk_drewN ?_ _ | refine blk_drew ?_ | refine blk_alloc ?_ _)); exact BK683.out) hb); have n4_ := Aside0.mk (blk_below (g := gb693) (o := .cells #[.int .i64 t686, .slice Ao29 t687.length co29] 24 (0, 0)) (by (with_reducible repeat (first | refine blk_drewN ?_ _ | refine blk_drew ?_ | refine blk_alloc ?_ _)); exact BK693.out) hb); have n5_ := Aside0.mk (below_step (by repeat (first | (with_reducible first | exact HB.out | apply below_alloc | apply pw_below_drewN | apply below_drew1 | refine below_set ?_ GE683.out | refine below_set ?_ GE693.out) | exact HB.out)) hb); clear HO689; clear HO692; clear BK683; clear BK693; clear HB; have HO689 := n0_; have HO692 := n1_; have HO700 := n2_; have BK683 := n3_; have BK693 := n4_; have HB := n5_; clear n0_ n1_ n2_ n3_ n4_ n5_; (try clear hb); (try clear hb2); (try clear hk); (try clear hi); (try clear ho0)) | ((with_reducible refine gate_dst (N := 15) rfl ?_); (try (refine gate_guard (by rfl) ?_; dsimp only)); refine box_event ?hg (N := 15) ?hd (cs := #[.int .i64 0, .slice none 0 0]) (t := 24) ?hr ?_; (case hd => rfl); (case hg => rfl); (case hr => first | (go_simp; done) | (go_simp; rfl)); intro gb702 hg w40 hbox hb; have n0_ := Aside0.mk (Kd.V_below (Kd.V_elderB (by (with_reducible repeat (first | apply Kd.V_alloc | apply Kd.V_drewN | apply Kd.V_drew)); exact HO689.out) gb702 (Nat.le_of_eq hg.symm)) hb); have n1_ := Aside0.mk (Kd.R_below (by (with_reducible repeat (first | apply Kd.R_alloc | apply Kd.R_drewN | apply Kd.R_drew)); exact HO692.out) hb); have n2_ := Aside0.mk (Kd.V_below (Kd.V_elderB (by (with_reducible repeat (first | apply Kd.V_alloc | apply Kd.V_drewN | apply Kd.V_drew)); exact HO700.out) gb702 (Nat.le_of_eq hg.symm)) hb); have n3_ := Aside0.mk (blk_below (g := gb683) (o := .cells #[.int .u8 a2_0, .int .u16 a2_1, .int .u16 a2_2, .int .u16 a2_3] 28 (0, 0)) (by (with_reducible repeat (first | refine blk_drewN ?_ _ | refine blk_drew ?_ | refine blk_alloc ?_ _)); exact BK683.out) hb); have n4_ := Aside0.mk (blk_below (g := gb693) (o := .cells #[.int .i64 t686, .slice Ao29 t687.length co29] 24 (0, 0)) (by (with_reducible repeat (first | refine blk_drewN ?_ _ | refine blk_drew ?_ | refine blk_alloc ?_ _)); exact BK693.out) hb); have n5_ := Aside0.mk (below_step (by repeat (first | (with_reducible first | exact HB.out | apply below_alloc | apply pw_below_drewN | apply below_drew1 | refine below_set ?_ GE683.out | refine below_set ?_ GE693.out) | exact HB.out)) hb); have n6_ := Aside0.mk (hbox); have n7_ := Aside0.mk ((by rw [hg]; exact (below_size (by repeat (first | (with_reducible first | exact HB.out | apply below_alloc | apply pw_below_drewN | apply below_drew1 | refine below_set ?_ GE683.out | refine below_set ?_ GE693.out) | exact HB.out))) : w.heap.size ≤ gb702)); have n8_ := Aside0.mk ((by rw [hg]; exact (below_size (by repeat (first | (with_reducible first | exact HB.out | apply below_alloc | apply pw_below_drewN | apply below_drew1 | refine below_set ?_ GE683.out | refine below_set ?_ GE693.out) | exact HB.out))) : w.heap.size ≤ gb702)); have n9_ := Aside0.mk ((by rw [hg]; exact Nat.ne_of_lt (blk_lt (g := gb683) (o := .cells #[.int .u8 a2_0, .int .u16 a2_1, .int .u16 a2_2, .int .u16 a2_3] 28 (0, 0)) (by (with_reducible repeat (first | refine blk_drewN ?_ _ | refine blk_drew ?_ | refine blk_alloc ?_ _)); exact BK683.out)) : gb683 ≠ gb702)); have n10_ := Aside0.mk ((by rw [hg]; exact Nat.ne_of_gt (blk_lt (g := gb683) (o := .cells #[.int .u8 a2_0, .int .u16 a2_1, .int .u16 a2_2, .int .u16 a2_3] 28 (0, 0)) (by (with_reducible repeat (first | refine blk_drewN ?_ _ | refine blk_drew ?_ | refine blk_alloc ?_ _)); exact BK683.out)) : gb702 ≠ gb683)); have n11_ := Aside0.mk ((by rw [hg]; exact Nat.ne_of_lt (blk_lt (g := gb693) (o := .cells #[.int .i64 t686, .slice Ao29 t687.length co29] 24 (0, 0)) (by (with_reducible repeat (first | refine blk_drewN ?_ _ | refine blk_drew ?_ | refine blk_alloc ?_ _)); exact BK693.out)) : gb693 ≠ gb702)); have n12_ := Aside0.mk ((by rw [hg]; exact Nat.ne_of_gt (blk_lt (g := gb693) (o := .cells #[.int .i64 t686, .slice Ao29 t687.length co29] 24 (0, 0)) (by (with_reducible repeat (first | refine blk_drewN ?_ _ | refine blk_drew ?_ | refine blk_alloc ?_ _)); exact BK693.out)) : gb702 ≠ gb693)); clear HO689; clear HO692; clear HO700; clear BK683; clear BK693; clear HB; have HO689 := n0_; have HO692 := n1_; have HO700 := n2_; have BK683 := n3_; have BK693 := n4_; have HB := n5_; have BK702 := n6_; have GW702 := n7_; have GE702 := n8_; have NB683_702 := n9_; have NB702_683 := n10_; have NB693_702 := n11_; have NB702_693 := n12_; clear n0_ n1_ n2_ n3_ n4_ n5_ n6_ n7_ n8_ n9_ n10_ n11_ n12_; clear hb hbox hg; have hnb41 := NB702_683.out; have hnc41 := NB683_702.out; have hnb42 := NB702_693.out; have hnc42 := NB693_702.out; have hcz43_0 : w40.cell? ⟨gb702, 0, none⟩ = some (.int .i64 0) := (blk_cell BK702.out 0).trans rfl; have hcz43_1 : w40.cell? ⟨gb702, 1, none⟩ = some (.slice none 0 0) := (blk_cell BK702.out 1).trans rfl; have hfz43_0 := blk_frozen BK702.out 0; have hfz43_1 := blk_frozen BK702.out 1; obtain ⟨Ao44, co44, eo44⟩ := Kd.V_slice HO700.out; subst eo44) | ((with_reducible refine gate_store (t := 24) (p := 15) rfl ?_); refine store_event (t := 24) (p := 15) (v := ?vo_w45) (w1 := ((w40.setCell ⟨gb702, 0, none⟩ (.int .i64 t697)).setCell ⟨gb702, 1, none⟩ (.slice Ao44 t698.length co44))) ?hg ?ho ?hn ?hr ?_; (case ho => rfl); (case hg => rfl); (case hn => rfl); (case hr => first | (go_simp; done) | (go_simp; rfl)); intro w45 hw; have n0_ : Aside0 (Kd.V k50 50 w45 w.heap.size (fun k_ => some k_ ≠ (v691 : Value).ownBlock ∧ k_ ≠ gb683 ∧ k_ ≠ gb693 ∧ k_ ≠ gb702) (.slice Ao29 t687.length co29) t687) := ⟨(by rw [hw]; exact (by (with_reducible repeat (first | apply Kd.V_alloc | apply Kd.V_drewN | apply Kd.V_drew)); exact Kd.V_mono (Kd.V_far (p := ⟨gb702, 1, none⟩) (Kd.V_far (p := ⟨gb702, 0, none⟩) (Kd.V_mono HO689.out (fun k_ hk => (⟨hk, hk.2⟩ : _ ∧ k_ ≠ gb702))) (fun _ hk => hk.2) (.int .i64 t697)) (fun _ hk => hk.2) (.slice Ao44 t698.length co44)) (fun _ hk => ⟨hk.1.1.1.1, ⟨hk.1.1.1.2, ⟨hk.1.1.2, hk.1.2⟩⟩⟩)))⟩; have n1_ : Aside0 (Kd.R (Kd.int .i64) 3 w45 w.heap.size (fun _ => True) v691 t690) := ⟨(by rw [hw]; exact (by (with_reducible repeat (first | apply Kd.R_alloc | apply Kd.R_drewN | apply Kd.R_drew)); exact Kd.R_mono (Kd.R_far (p := ⟨gb702, 1, none⟩) (Kd.R_far (p := ⟨gb702, 0, none⟩) (Kd.R_types HO692.out BK702.out (by decide)) (fun _ hk => hk.2) (.int .i64 t697)) (fun _ hk => hk.2) (.slice Ao44 t698.length co44)) (fun _ hk => trivial)))⟩; have n2_ : Aside0 (Kd.V k50 50 w45 w.heap.size (fun k_ => some k_ ≠ (v691 : Value).ownBlock ∧ k_ ≠ gb683 ∧ k_ ≠ gb693 ∧ k_ ≠ gb702) (.slice Ao44 t698.length co44) t698) := ⟨(by rw [hw]; exact (by (with_reducible repeat (first | apply Kd.V_alloc | apply Kd.V_drewN | apply Kd.V_drew)); exact Kd.V_mono (Kd.V_far (p := ⟨gb702, 1, none⟩) (Kd.V_far (p := ⟨gb702, 0, none⟩) (Kd.V_mono HO700.out (fun k_ hk => (⟨hk, hk.2⟩ : _ ∧ k_ ≠ gb702))) (fun _ hk => hk.2) (.int .i64 t697)) (fun _ hk => hk.2) (.slice Ao44 t698.length co44)) (fun _ hk => ⟨hk.1.1.1, ⟨hk.1.1.2.1, ⟨hk.1.1.2.2, hk.1.2⟩⟩⟩)))⟩; have n3_ : Aside0 (w45.heap[gb683]? = some (.cells #[.int .u8 a2_0, .int .u16 a2_1, .int .u16 a2_2, .int .u16 a2_3] 28 (0, 0))) := ⟨(by rw [hw]; exact (by (with_reducible repeat (first | refine blk_drewN ?_ _ | refine blk_drew ?_ | refine blk_alloc ?_ _)); refine blk_far ?_ NB683_702.out _; (with_reducible repeat (first | refine blk_drewN ?_ _ | refine blk_drew ?_ | refine blk_alloc ?_ _)); refine blk_far ?_ NB683_702.out _; (with_reducible repeat (first | refine blk_drewN ?_ _ | refine blk_drew ?_ | refine blk_alloc ?_ _)); exact BK683.out))⟩; have n4_ : Aside0 (w45.heap[gb693]? = some (.cells #[.int .i64 t686, .slice Ao29 t687.length co29] 24 (0, 0))) := ⟨(by rw [hw]; exact (by (with_reducible repeat (first | refine blk_drewN ?_ _ | refine blk_drew ?_ | refine blk_alloc ?_ _)); refine blk_far ?_ NB693_702.out _; (with_reducible repeat (first | refine blk_drewN ?_ _ | refine blk_drew ?_ | refine blk_alloc ?_ _)); refine blk_far ?_ NB693_702.out _; (with_reducible repeat (first | refine blk_drewN ?_ _ | refine blk_drew ?_ | refine blk_alloc ?_ _)); exact BK693.out))⟩; have n5_ : Aside0 (w45.heap[gb702]? = some (.cells #[.int .i64 t697, .slice Ao44 t698.length co44] 24 (0, 0))) := ⟨(by rw [hw]; exact (by (with_reducible repeat (first | refine blk_drewN ?_ _ | refine blk_drew ?_ | refine blk_alloc ?_ _)); refine blk_put (cs := #[.int .i64 t697, .slice none 0 0]) ?_ 1 _ rfl; (with_reducible repeat (first | refine blk_drewN ?_ _ | refine blk_drew ?_ | refine blk_alloc ?_ _)); refine blk_put (cs := #[.int .i64 0, .slice none 0 0]) ?_ 0 _ rfl; (with_reducible repeat (first | refine blk_drewN ?_ _ | refine blk_drew ?_ | refine blk_alloc ?_ _)); exact BK702.out))⟩; have n6_ : Aside0 (Below w.heap.size w w45) := ⟨(by rw [hw]; exact (by repeat (first | (with_reducible first | exact HB.out | apply below_alloc | apply pw_below_drewN | apply below_drew1 | refine below_set ?_ GE683.out | refine below_set ?_ GE693.out | refine below_set ?_ GE702.out) | exact HB.out)))⟩; clear hw; clear HO689; clear HO692; clear HO700; clear BK683; clear BK693; clear BK702; clear HB; have HO689 := n0_; have HO692 := n1_; have HO700 := n2_; have BK683 := n3_; have BK693 := n4_; have BK702 := n5_; have HB := n6_; clear n0_ n1_ n2_ n3_ n4_ n5_ n6_; have hcz46_0 : w45.cell? ⟨gb702, 0, none⟩ = some (.int .i64 t697) := (blk_cell BK702.out 0).trans rfl; have hcz46_1 : w45.cell? ⟨gb702, 1, none⟩ = some (.slice Ao44 t698.length co44) := (blk_cell BK702.out 1).trans rfl; have hfz46_0 := blk_frozen BK702.out 0; have hfz46_1 := blk_frozen BK702.out 1) | ((with_reducible refine gate_callee (f := 16) rfl ?_); refine goesL_ (some 58) rfl rfl Try.func16 (by kernel_rfl) rfl #[.agg #[.int .i64 t697, .slice Ao44 t698.length co44], .int .i64 (Go.bits .xor .i64 t694 1), .int .i64 (Go.bits .xor .i64 t695 1)] rfl (by (try simp only [List.map_toArray, List.map_cons, List.map_nil]); first | done | rfl | (simp only [List.length_drop, List.length_take]; rfl)) ?_; (with_reducible refine (aig_And.calls k t697 (fun k_ => (some k_ ≠ (v691 : Value).ownBlock ∧ (k_ ≠ gb683 ∧ (k_ ≠ gb693 ∧ k_ ≠ gb702)))) _ _ t698 (Go.bits .xor .i64 t694 1) (Go.bits .xor .i64 t695 1) t703 t704 t707 _ ?side1 A15.out).mono ?_); (case side1 => exact HO700.out); rintro e w47 ⟨v705, rfl, ho0, hb⟩; refine ⟨_, rfl, ?_⟩; have n0_ := Aside0.mk (Kd.V_below (by (with_reducible repeat (first | apply Kd.V_alloc | apply Kd.V_drewN | apply Kd.V_drew)); exact HO689.out) hb); have n1_ := Aside0.mk (Kd.R_below (by (with_reducible repeat (first | apply Kd.R_alloc | apply Kd.R_drewN | apply Kd.R_drew)); exact HO692.out) hb); have n2_ := Aside0.mk (Kd.V_below (by (with_reducible repeat (first | apply Kd.V_alloc | apply Kd.V_drewN | apply Kd.V_drew)); exact HO700.out) hb); have n3_ := Aside0.mk (Kd.V_lower (Kd.V_mono (ok' := fun k_ => some k_ ≠ (v691 : Value).ownBlock ∧ k_ ≠ gb683 ∧ k_ ≠ gb693 ∧ k_ ≠ gb702) ho0 (fun k_ hk_ => ⟨Or.elim hk_ (fun hs_ => hs_.1) (fun hn_ => (Kd.fresh' (Kd.R_lt (by (with_reducible repeat (first | apply Kd.R_alloc | apply Kd.R_drewN | apply Kd.R_drew)); exact HO692.out)) k_ hn_)), Or.elim hk_ (fun hs_ => hs_.2.1) (fun hn_ => (Kd.freshB (g := gb683) (o := .cells #[.int .u8 a2_0, .int .u16 a2_1, .int .u16 a2_2, .int .u16 a2_3] 28 (0, 0)) (by (with_reducible repeat (first | refine blk_drewN ?_ _ | refine blk_drew ?_ | refine blk_alloc ?_ _)); exact BK683.out) k_ hn_)), Or.elim hk_ (fun hs_ => hs_.2.2.1) (fun hn_ => (Kd.freshB (g := gb693) (o := .cells #[.int .i64 t686, .slice Ao29 t687.length co29] 24 (0, 0)) (by (with_reducible repeat (first | refine blk_drewN ?_ _ | refine blk_drew ?_ | refine blk_alloc ?_ _)); exact BK693.out) k_ hn_)), Or.elim hk_ (fun hs_ => hs_.2.2.2) (fun hn_ => (Kd.freshB (g := gb702) (o := .cells #[.int .i64 t697, .slice Ao44 t698.length co44] 24 (0, 0)) (by (with_reducible repeat (first | refine blk_drewN ?_ _ | refine blk_drew ?_ | refine blk_alloc ?_ _)); exact BK702.out) k_ hn_))⟩)) (below_size (by repeat (first | (with_reducible first | exact HB.out | apply below_alloc | apply pw_below_drewN | apply below_drew1 | refine below_set ?_ GE683.out | refine below_set ?_ GE693.out | refine below_set ?_ GE702.out) | exact HB.out)))); have n4_ := Aside0.mk (blk_below (g := gb683) (o := .cells #[.int .u8 a2_0, .int .u16 a2_1, .int .u16 a2_2, .int .u16 a2_3] 28 (0, 0)) (by (with_reducible repeat (first | refine blk_drewN ?_ _ | refine blk_drew ?_ | refine blk_alloc ?_ _)); exact BK683.out) hb); have n5_ := Aside0.mk (blk_below (g := gb693) (o := .cells #[.int .i64 t686, .slice Ao29 t687.length co29] 24 (0, 0)) (by (with_reducible repeat (first | refine blk_drewN ?_ _ | refine blk_drew ?_ | refine blk_alloc ?_ _)); exact BK693.out) hb); have n6_ := Aside0.mk (blk_below (g := gb702) (o := .cells #[.int .i64 t697, .slice Ao44 t698.length co44] 24 (0, 0)) (by (with_reducible repeat (first | refine blk_drewN ?_ _ | refine blk_drew ?_ | refine blk_alloc ?_ _)); exact BK702.out) hb); have n7_ := Aside0.mk (below_step (by repeat (first | (with_reducible first | exact HB.out | apply below_alloc | apply pw_below_drewN | apply below_drew1 | refine below_set ?_ GE683.out | refine below_set ?_ GE693.out | refine below_set ?_ GE702.out) | exact HB.out)) hb); clear HO689; clear HO692; clear HO700; clear BK683; clear BK693; clear BK702; clear HB; have HO689 := n0_; have HO692 := n1_; have HO700 := n2_; have HO706 := n3_; have BK683 := n4_; have BK693 := n5_; have BK702 := n6_; have HB := n7_; clear n0_ n1_ n2_ n3_ n4_ n5_ n6_ n7_; (try clear hb); (try clear hb2); (try clear hk); (try clear hi); (try clear ho0); have hcz48_0 : w47.cell? ⟨gb702, 0, none⟩ = some (.int .i64 t697) := (blk_cell BK702.out 0).trans rfl; have hcz48_1 : w47.cell? ⟨gb702, 1, none⟩ = some (.slice Ao44 t698.length co44) := (blk_cell BK702.out 1).trans rfl; have hfz48_0 := blk_frozen BK702.out 0; have hfz48_1 := blk_frozen BK702.out 1; obtain ⟨Ao49, co49, eo49⟩ := Kd.V_slice HO706.out; subst eo49) | ((with_reducible refine gate_store (t := 24) (p := 15) rfl ?_); refine store_event (t := 24) (p := 15) (v := ?vo_w50) (w1 := ((w47.setCell ⟨gb702, 0, none⟩ (.int .i64 t703)).setCell ⟨gb702, 1, none⟩ (.slice Ao49 t704.length co49))) ?hg ?ho ?hn ?hr ?_; (case ho => rfl); (case hg => rfl); (case hn => rfl); (case hr => first | (go_simp; done) | (go_simp; rfl)); intro w50 hw; have n0_ : Aside0 (Kd.V k50 50 w50 w.heap.size (fun k_ => some k_ ≠ (v691 : Value).ownBlock ∧ k_ ≠ gb683 ∧ k_ ≠ gb693 ∧ k_ ≠ gb702) (.slice Ao29 t687.length co29) t687) := ⟨(by rw [hw]; exact (by (with_reducible repeat (first | apply Kd.V_alloc | apply Kd.V_drewN | apply Kd.V_drew)); exact Kd.V_mono (Kd.V_far (p := ⟨gb702, 1, none⟩) (Kd.V_far (p := ⟨gb702, 0, none⟩) (Kd.V_mono HO689.out (fun k_ hk => (⟨hk, hk.2.2.2⟩ : _ ∧ k_ ≠ gb702))) (fun _ hk => hk.2) (.int .i64 t703)) (fun _ hk => hk.2) (.slice Ao49 t704.length co49)) (fun _ hk => ⟨hk.1.1, ⟨hk.1.2.1, ⟨hk.1.2.2.1, hk.1.2.2.2⟩⟩⟩)))⟩; have n1_ : Aside0 (Kd.R (Kd.int .i64) 3 w50 w.heap.size (fun _ => True) v691 t690) := ⟨(by rw [hw]; exact (by (with_reducible repeat (first | apply Kd.R_alloc | apply Kd.R_drewN | apply Kd.R_drew)); exact Kd.R_mono (Kd.R_far (p := ⟨gb702, 1, none⟩) (Kd.R_far (p := ⟨gb702, 0, none⟩) (Kd.R_types HO692.out BK702.out (by decide)) (fun _ hk => hk.2) (.int .i64 t703)) (fun _ hk => hk.2) (.slice Ao49 t704.length co49)) (fun _ hk => trivial)))⟩; have n2_ : Aside0 (Kd.V k50 50 w50 w.heap.size (fun k_ => some k_ ≠ (v691 : Value).ownBlock ∧ k_ ≠ gb683 ∧ k_ ≠ gb693 ∧ k_ ≠ gb702) (.slice Ao44 t698.length co44) t698) := ⟨(by rw [hw]; exact (by (with_reducible repeat (first | apply Kd.V_alloc | apply Kd.V_drewN | apply Kd.V_drew)); exact Kd.V_mono (Kd.V_far (p := ⟨gb702, 1, none⟩) (Kd.V_far (p := ⟨gb702, 0, none⟩) (Kd.V_mono HO700.out (fun k_ hk => (⟨hk, hk.2.2.2⟩ : _ ∧ k_ ≠ gb702))) (fun _ hk => hk.2) (.int .i64 t703)) (fun _ hk => hk.2) (.slice Ao49 t704.length co49)) (fun _ hk => ⟨hk.1.1, ⟨hk.1.2.1, ⟨hk.1.2.2.1, hk.1.2.2.2⟩⟩⟩)))⟩; have n3_ : Aside0 (Kd.V k50 50 w50 w.heap.size (fun k_ => some k_ ≠ (v691 : Value).ownBlock ∧ k_ ≠ gb683 ∧ k_ ≠ gb693 ∧ k_ ≠ gb702) (.slice Ao49 t704.length co49) t704) := ⟨(by rw [hw]; exact (by (with_reducible repeat (first | apply Kd.V_alloc | apply Kd.V_drewN | apply Kd.V_drew)); exact Kd.V_mono (Kd.V_far (p := ⟨gb702, 1, none⟩) (Kd.V_far (p := ⟨gb702, 0, none⟩) (Kd.V_mono HO706.out (fun k_ hk => (⟨hk, hk.2.2.2⟩ : _ ∧ k_ ≠ gb702))) (fun _ hk => hk.2) (.int .i64 t703)) (fun _ hk => hk.2) (.slice Ao49 t704.length co49)) (fun _ hk => ⟨hk.1.1, ⟨hk.1.2.1, ⟨hk.1.2.2.1, hk.1.2.2.2⟩⟩⟩)))⟩; have n4_ : Aside0 (w50.heap[gb683]? = some (.cells #[.int .u8 a2_0, .int .u16 a2_1, .int .u16 a2_2, .int .u16 a2_3] 28 (0, 0))) := ⟨(by rw [hw]; exact (by (with_reducible repeat (first | refine blk_drewN ?_ _ | refine blk_drew ?_ | refine blk_alloc ?_ _)); refine blk_far ?_ NB683_702.out _; (with_reducible repeat (first | refine blk_drewN ?_ _ | refine blk_drew ?_ | refine blk_alloc ?_ _)); refine blk_far ?_ NB683_702.out _; (with_reducible repeat (first | refine blk_drewN ?_ _ | refine blk_drew ?_ | refine blk_alloc ?_ _)); exact BK683.out))⟩; have n5_ : Aside0 (w50.heap[gb693]? = some (.cells #[.int .i64 t686, .slice Ao29 t687.length co29] 24 (0, 0))) := ⟨(by rw [hw]; exact (by (with_reducible repeat (first | refine blk_drewN ?_ _ | refine blk_drew ?_ | refine blk_alloc ?_ _)); refine blk_far ?_ NB693_702.out _; (with_reducible repeat (first | refine blk_drewN ?_ _ | refine blk_drew ?_ | refine blk_alloc ?_ _)); refine blk_far ?_ NB693_702.out _; (with_reducible repeat (first | refine blk_drewN ?_ _ | refine blk_drew ?_ | refine blk_alloc ?_ _)); exact BK693.out))⟩; have n6_ : Aside0 (w50.heap[gb702]? = some (.cells #[.int .i64 t703, .slice Ao49 t704.length co49] 24 (0, 0))) := ⟨(by rw [hw]; exact (by (with_reducible repeat (first | refine blk_drewN ?_ _ | refine blk_drew ?_ | refine blk_alloc ?_ _)); refine blk_put (cs := #[.int .i64 t703, .slice Ao44 t698.length co44]) ?_ 1 _ rfl; (with_reducible repeat (first | refine blk_drewN ?_ _ | refine blk_drew ?_ | refine blk_alloc ?_ _)); refine blk_put (cs := #[.int .i64 t697, .slice Ao44 t698.length co44]) ?_ 0 _ rfl; (with_reducible repeat (first | refine blk_drewN ?_ _ | refine blk_drew ?_ | refine blk_alloc ?_ _)); exact BK702.out))⟩; have n7_ : Aside0 (Below w.heap.size w w50) := ⟨(by rw [hw]; exact (by repeat (first | (with_reducible first | exact HB.out | apply below_alloc | apply pw_below_drewN | apply below_drew1 | refine below_set ?_ GE683.out | refine below_set ?_ GE693.out | refine below_set ?_ GE702.out) | exact HB.out)))⟩; clear hw; clear HO689; clear HO692; clear HO700; clear HO706; clear BK683; clear BK693; clear BK702; clear HB; have HO689 := n0_; have HO692 := n1_; have HO700 := n2_; have HO706 := n3_; have BK683 := n4_; have BK693 := n5_; have BK702 := n6_; have HB := n7_; clear n0_ n1_ n2_ n3_ n4_ n5_ n6_ n7_; have hcz51_0 : w50.cell? ⟨gb702, 0, none⟩ = some (.int .i64 t703) := (blk_cell BK702.out 0).trans rfl; have hcz51_1 : w50.cell? ⟨gb702, 1, none⟩ = some (.slice Ao49 t704.length co49) := (blk_cell BK702.out 1).trans rfl; have hfz51_0 := blk_frozen BK702.out 0; have hfz51_1 := blk_frozen BK702.out 1) | ((with_reducible refine gate_callee (f := 23) rfl ?_); refine goesL_ (some 66) rfl rfl Try.func23 (by kernel_rfl) rfl #[.agg #[.int .i64 t703, .slice Ao49 t704.length co49], .int .i64 t694, .int .i64 t695, .int .i64 t696] rfl (by (try simp only [List.map_toArray, List.map_cons, List.map_nil]); first | done | rfl | (simp only [List.length_drop, List.length_take]; rfl)) ?_; (with_reducible refine (aig_Mux.calls k t703 (fun k_ => (some k_ ≠ (v691 : Value).ownBlock ∧ (k_ ≠ gb683 ∧ (k_ ≠ gb693 ∧ k_ ≠ gb702)))) _ _ t704 t694 t695 t696 t708 t709 t712 _ ?side1 A16.out).mono ?_); (case side1 => exact HO706.out); rintro e w52 ⟨v710, rfl, ho0, hb⟩; refine ⟨_, rfl, ?_⟩; have n0_ := Aside0.mk (Kd.V_below (by (with_reducible repeat (first | apply Kd.V_alloc | apply Kd.V_drewN | apply Kd.V_drew)); exact HO689.out) hb); have n1_ := Aside0.mk (Kd.R_below (by (with_reducible repeat (first | apply Kd.R_alloc | apply Kd.R_drewN | apply Kd.R_drew)); exact HO692.out) hb); have n2_ := Aside0.mk (Kd.V_below (by (with_reducible repeat (first | apply Kd.V_alloc | apply Kd.V_drewN | apply Kd.V_drew)); exact HO700.out) hb); have n3_ := Aside0.mk (Kd.V_below (by (with_reducible repeat (first | apply Kd.V_alloc | apply Kd.V_drewN | apply Kd.V_drew)); exact HO706.out) hb); have n4_ := Aside0.mk (Kd.V_lower (Kd.V_mono (ok' := fun k_ => some k_ ≠ (v691 : Value).ownBlock ∧ k_ ≠ gb683 ∧ k_ ≠ gb693 ∧ k_ ≠ gb702) ho0 (fun k_ hk_ => ⟨Or.elim hk_ (fun hs_ => hs_.1) (fun hn_ => (Kd.fresh' (Kd.R_lt (by (with_reducible repeat (first | apply Kd.R_alloc | apply Kd.R_drewN | apply Kd.R_drew)); exact HO692.out)) k_ hn_)), Or.elim hk_ (fun hs_ => hs_.2.1) (fun hn_ => (Kd.freshB (g := gb683) (o := .cells #[.int .u8 a2_0, .int .u16 a2_1, .int .u16 a2_2, .int .u16 a2_3] 28 (0, 0)) (by (with_reducible repeat (first | refine blk_drewN ?_ _ | refine blk_drew ?_ | refine blk_alloc ?_ _)); exact BK683.out) k_ hn_)), Or.elim hk_ (fun hs_ => hs_.2.2.1) (fun hn_ => (Kd.freshB (g := gb693) (o := .cells #[.int .i64 t686, .slice Ao29 t687.length co29] 24 (0, 0)) (by (with_reducible repeat (first | refine blk_drewN ?_ _ | refine blk_drew ?_ | refine blk_alloc ?_ _)); exact BK693.out) k_ hn_)), Or.elim hk_ (fun hs_ => hs_.2.2.2) (fun hn_ => (Kd.freshB (g := gb702) (o := .cells #[.int .i64 t703, .slice Ao49 t704.length co49] 24 (0, 0)) (by (with_reducible repeat (first | refine blk_drewN ?_ _ | refine blk_drew ?_ | refine blk_alloc ?_ _)); exact BK702.out) k_ hn_))⟩)) (below_size (by repeat (first | (with_reducible first | exact HB.out | apply below_alloc | apply pw_below_drewN | apply below_drew1 | refine below_set ?_ GE683.out | refine below_set ?_ GE693.out | refine below_set ?_ GE702.out) | exact HB.out)))); have n5_ := Aside0.mk (blk_below (g := gb683) (o := .cells #[.int .u8 a2_0, .int .u16 a2_1, .int .u16 a2_2, .int .u16 a2_3] 28 (0, 0)) (by (with_reducible repeat (first | refine blk_drewN ?_ _ | refine blk_drew ?_ | refine blk_alloc ?_ _)); exact BK683.out) hb); have n6_ := Aside0.mk (blk_below (g := gb693) (o := .cells #[.int .i64 t686, .slice Ao29 t687.length co29] 24 (0, 0)) (by (with_reducible repeat (first | refine blk_drewN ?_ _ | refine blk_drew ?_ | refine blk_alloc ?_ _)); exact BK693.out) hb); have n7_ := Aside0.mk (blk_below (g := gb702) (o := .cells #[.int .i64 t703, .slice Ao49 t704.length co49] 24 (0, 0)) (by (with_reducible repeat (first | refine blk_drewN ?_ _ | refine blk_drew ?_ | refine blk_alloc ?_ _)); exact BK702.out) hb); have n8_ := Aside0.mk (below_step (by repeat (first | (with_reducible first | exact HB.out | apply below_alloc | apply pw_below_drewN | apply below_drew1 | refine below_set ?_ GE683.out | refine below_set ?_ GE693.out | refine below_set ?_ GE702.out) | exact HB.out)) hb); clear HO689; clear HO692; clear HO700; clear HO706; clear BK683; clear BK693; clear BK702; clear HB; have HO689 := n0_; have HO692 := n1_; have HO700 := n2_; have HO706 := n3_; have HO711 := n4_; have BK683 := n5_; have BK693 := n6_; have BK702 := n7_; have HB := n8_; clear n0_ n1_ n2_ n3_ n4_ n5_ n6_ n7_ n8_; (try clear hb); (try clear hb2); (try clear hk); (try clear hi); (try clear ho0); have hcz53_0 : w52.cell? ⟨gb702, 0, none⟩ = some (.int .i64 t703) := (blk_cell BK702.out 0).trans rfl; have hcz53_1 : w52.cell? ⟨gb702, 1, none⟩ = some (.slice Ao49 t704.length co49) := (blk_cell BK702.out 1).trans rfl; have hfz53_0 := blk_frozen BK702.out 0; have hfz53_1 := blk_frozen BK702.out 1; obtain ⟨Ao54, co54, eo54⟩ := Kd.V_slice HO711.out; subst eo54) | ((with_reducible refine gate_store (t := 24) (p := 15) rfl ?_); refine store_event (t := 24) (p := 15) (v := ?vo_w55) (w1 := ((w52.setCell ⟨gb702, 0, none⟩ (.int .i64 t708)).setCell ⟨gb702, 1, none⟩ (.slice Ao54 t709.length co54))) ?hg ?ho ?hn ?hr ?_; (case ho => rfl); (case hg => rfl); (case hn => rfl); (case hr => first | (go_simp; done) | (go_simp; rfl)); intro w55 hw; have n0_ : Aside0 (Kd.V k50 50 w55 w.heap.size (fun k_ => some k_ ≠ (v691 : Value).ownBlock ∧ k_ ≠ gb683 ∧ k_ ≠ gb693 ∧ k_ ≠ gb702) (.slice Ao29 t687.length co29) t687) := ⟨(by rw [hw]; exact (by (with_reducible repeat (first | apply Kd.V_alloc | apply Kd.V_drewN | apply Kd.V_drew)); exact Kd.V_mono (Kd.V_far (p := ⟨gb702, 1, none⟩) (Kd.V_far (p := ⟨gb702, 0, none⟩) (Kd.V_mono HO689.out (fun k_ hk => (⟨hk, hk.2.2.2⟩ : _ ∧ k_ ≠ gb702))) (fun _ hk => hk.2) (.int .i64 t708)) (fun _ hk => hk.2) (.slice Ao54 t709.length co54)) (fun _ hk => ⟨hk.1.1, ⟨hk.1.2.1, ⟨hk.1.2.2.1, hk.1.2.2.2⟩⟩⟩)))⟩; have n1_ : Aside0 (Kd.R (Kd.int .i64) 3 w55 w.heap.size (fun _ => True) v691 t690) := ⟨(by rw [hw]; exact (by (with_reducible repeat (first | apply Kd.R_alloc | apply Kd.R_drewN | apply Kd.R_drew)); exact Kd.R_mono (Kd.R_far (p := ⟨gb702, 1, none⟩) (Kd.R_far (p := ⟨gb702, 0, none⟩) (Kd.R_types HO692.out BK702.out (by decide)) (fun _ hk => hk.2) (.int .i64 t708)) (fun _ hk => hk.2) (.slice Ao54 t709.length co54)) (fun _ hk => trivial)))⟩; have n2_ : Aside0 (Kd.V k50 50 w55 w.heap.size (fun k_ => some k_ ≠ (v691 : Value).ownBlock ∧ k_ ≠ gb683 ∧ k_ ≠ gb693 ∧ k_ ≠ gb702) (.slice Ao44 t698.length co44) t698) := ⟨(by rw [hw]; exact (by (with_reducible repeat (first | apply Kd.V_alloc | apply Kd.V_drewN | apply Kd.V_drew)); exact Kd.V_mono (Kd.V_far (p := ⟨gb702, 1, none⟩) (Kd.V_far (p := ⟨gb702, 0, none⟩) (Kd.V_mono HO700.out (fun k_ hk => (⟨hk, hk.2.2.2⟩ : _ ∧ k_ ≠ gb702))) (fun _ hk => hk.2) (.int .i64 t708)) (fun _ hk => hk.2) (.slice Ao54 t709.length co54)) (fun _ hk => ⟨hk.1.1, ⟨hk.1.2.1, ⟨hk.1.2.2.1, hk.1.2.2.2⟩⟩⟩)))⟩; have n3_ : Aside0 (Kd.V k50 50 w55 w.heap.size (fun k_ => some k_ ≠ (v691 : Value).ownBlock ∧ k_ ≠ gb683 ∧ k_ ≠ gb693 ∧ k_ ≠ gb702) (.slice Ao49 t704.length co49) t704) := ⟨(by rw [hw]; exact (by (with_reducible repeat (first | apply Kd.V_alloc | apply Kd.V_drewN | apply Kd.V_drew)); exact Kd.V_mono (Kd.V_far (p := ⟨gb702, 1, none⟩) (Kd.V_far (p := ⟨gb702, 0, none⟩) (Kd.V_mono HO706.out (fun k_ hk => (⟨hk, hk.2.2.2⟩ : _ ∧ k_ ≠ gb702))) (fun _ hk => hk.2) (.int .i64 t708)) (fun _ hk => hk.2) (.slice Ao54 t709.length co54)) (fun _ hk => ⟨hk.1.1, ⟨hk.1.2.1, ⟨hk.1.2.2.1, hk.1.2.2.2⟩⟩⟩)))⟩; have n4_ : Aside0 (Kd.V k50 50 w55 w.heap.size (fun k_ => some k_ ≠ (v691 : Value).ownBlock ∧ k_ ≠ gb683 ∧ k_ ≠ gb693 ∧ k_ ≠ gb702) (.slice Ao54 t709.length co54) t709) := ⟨(by rw [hw]; exact (by (with_reducible repeat (first | apply Kd.V_alloc | apply Kd.V_drewN | apply Kd.V_drew)); exact Kd.V_mono (Kd.V_far (p := ⟨gb702, 1, none⟩) (Kd.V_far (p := ⟨gb702, 0, none⟩) (Kd.V_mono HO711.out (fun k_ hk => (⟨hk, hk.2.2.2⟩ : _ ∧ k_ ≠ gb702))) (fun _ hk => hk.2) (.int .i64 t708)) (fun _ hk => hk.2) (.slice Ao54 t709.length co54)) (fun _ hk => ⟨hk.1.1, ⟨hk.1.2.1, ⟨hk.1.2.2.1, hk.1.2.2.2⟩⟩⟩)))⟩; have n5_ : Aside0 (w55.heap[gb683]? = some (.cells #[.int .u8 a2_0, .int .u16 a2_1, .int .u16 a2_2, .int .u16 a2_3] 28 (0, 0))) := ⟨(by rw [hw]; exact (by (with_reducible repeat (first | refine blk_drewN ?_ _ | refine blk_drew ?_ | refine blk_alloc ?_ _)); refine blk_far ?_ NB683_702.out _; (with_reducible repeat (first | refine blk_drewN ?_ _ | refine blk_drew ?_ | refine blk_alloc ?_ _)); refine blk_far ?_ NB683_702.out _; (with_reducible repeat (first | refine blk_drewN ?_ _ | refine blk_drew ?_ | refine blk_alloc ?_ _)); exact BK683.out))⟩; have n6_ : Aside0 (w55.heap[gb693]? = some (.cells #[.int .i64 t686, .slice Ao29 t687.length co29] 24 (0, 0))) := ⟨(by rw [hw]; exact (by (with_reducible repeat (first | refine blk_drewN ?_ _ | refine blk_drew ?_ | refine blk_alloc ?_ _)); refine blk_far ?_ NB693_702.out _; (with_reducible repeat (first | refine blk_drewN ?_ _ | refine blk_drew ?_ | refine blk_alloc ?_ _)); refine blk_far ?_ NB693_702.out _; (with_reducible repeat (first | refine blk_drewN ?_ _ | refine blk_drew ?_ | refine blk_alloc ?_ _)); exact BK693.out))⟩; have n7_ : Aside0 (w55.heap[gb702]? = some (.cells #[.int .i64 t708, .slice Ao54 t709.length co54] 24 (0, 0))) := ⟨(by rw [hw]; exact (by (with_reducible repeat (first | refine blk_drewN ?_ _ | refine blk_drew ?_ | refine blk_alloc ?_ _)); refine blk_put (cs := #[.int .i64 t708, .slice Ao49 t704.length co49]) ?_ 1 _ rfl; (with_reducible repeat (first | refine blk_drewN ?_ _ | refine blk_drew ?_ | refine blk_alloc ?_ _)); refine blk_put (cs := #[.int .i64 t703, .slice Ao49 t704.length co49]) ?_ 0 _ rfl; (with_reducible repeat (first | refine blk_drewN ?_ _ | refine blk_drew ?_ | refine blk_alloc ?_ _)); exact BK702.out))⟩; have n8_ : Aside0 (Below w.heap.size w w55) := ⟨(by rw [hw]; exact (by repeat (first | (with_reducible first | exact HB.out | apply below_alloc | apply pw_below_drewN | apply below_drew1 | refine below_set ?_ GE683.out | refine below_set ?_ GE693.out | refine below_set ?_ GE702.out) | exact HB.out)))⟩; clear hw; clear HO689; clear HO692; clear HO700; clear HO706; clear HO711; clear BK683; clear BK693; clear BK702; clear HB; have HO689 := n0_; have HO692 := n1_; have HO700 := n2_; have HO706 := n3_; have HO711 := n4_; have BK683 := n5_; have BK693 := n6_; have BK702 := n7_; have HB := n8_; clear n0_ n1_ n2_ n3_ n4_ n5_ n6_ n7_ n8_; have hcz56_0 : w55.cell? ⟨gb702, 0, none⟩ = some (.int .i64 t708) := (blk_cell BK702.out 0).trans rfl; have hcz56_1 : w55.cell? ⟨gb702, 1, none⟩ = some (.slice Ao54 t709.length co54) := (blk_cell BK702.out 1).trans rfl; have hfz56_0 := blk_frozen BK702.out 0; have hfz56_1 := blk_frozen BK702.out 1) | ((with_reducible refine gate_callee (f := 23) rfl ?_); refine goesL_ (some 75) rfl rfl Try.func23 (by kernel_rfl) rfl #[.agg #[.int .i64 t708, .slice Ao54 t709.length co54], .int .i64 (Go.bits .xor .i64 t694 1), .int .i64 t696, .int .i64 t695] rfl (by (try simp only [List.map_toArray, List.map_cons, List.map_nil]); first | done | rfl | (simp only [List.length_drop, List.length_take]; rfl)) ?_; (with_reducible refine (aig_Mux.calls k t708 (fun k_ => (some k_ ≠ (v691 : Value).ownBlock ∧ (k_ ≠ gb683 ∧ (k_ ≠ gb693 ∧ k_ ≠ gb702)))) _ _ t709 (Go.bits .xor .i64 t694 1) t696 t695 t713 t714 t717 _ ?side1 A17.out).mono ?_); (case side1 => exact HO711.out); rintro e w57 ⟨v715, rfl, ho0, hb⟩; refine ⟨_, rfl, ?_⟩; have n0_ := Aside0.mk (Kd.V_below (by (with_reducible repeat (first | apply Kd.V_alloc | apply Kd.V_drewN | apply Kd.V_drew)); exact HO689.out) hb); have n1_ := Aside0.mk (Kd.R_below (by (with_reducible repeat (first | apply Kd.R_alloc | apply Kd.R_drewN | apply Kd.R_drew)); exact HO692.out) hb); have n2_ := Aside0.mk (Kd.V_below (by (with_reducible repeat (first | apply Kd.V_alloc | apply Kd.V_drewN | apply Kd.V_drew)); exact HO700.out) hb); have n3_ := Aside0.mk (Kd.V_below (by (with_reducible repeat (first | apply Kd.V_alloc | apply Kd.V_drewN | apply Kd.V_drew)); exact HO706.out) hb); have n4_ := Aside0.mk (Kd.V_below (by (with_reducible repeat (first | apply Kd.V_alloc | apply Kd.V_drewN | apply Kd.V_drew)); exact HO711.out) hb); have n5_ := Aside0.mk (Kd.V_lower (Kd.V_mono (ok' := fun k_ => some k_ ≠ (v691 : Value).ownBlock ∧ k_ ≠ gb683 ∧ k_ ≠ gb693 ∧ k_ ≠ gb702) ho0 (fun k_ hk_ => ⟨Or.elim hk_ (fun hs_ => hs_.1) (fun hn_ => (Kd.fresh' (Kd.R_lt (by (with_reducible repeat (first | apply Kd.R_alloc | apply Kd.R_drewN | apply Kd.R_drew)); exact HO692.out)) k_ hn_)), Or.elim hk_ (fun hs_ => hs_.2.1) (fun hn_ => (Kd.freshB (g := gb683) (o := .cells #[.int .u8 a2_0, .int .u16 a2_1, .int .u16 a2_2, .int .u16 a2_3] 28 (0, 0)) (by (with_reducible repeat (first | refine blk_drewN ?_ _ | refine blk_drew ?_ | refine blk_alloc ?_ _)); exact BK683.out) k_ hn_)), Or.elim hk_ (fun hs_ => hs_.2.2.1) (fun hn_ => (Kd.freshB (g := gb693) (o := .cells #[.int .i64 t686, .slice Ao29 t687.length co29] 24 (0, 0)) (by (with_reducible repeat (first | refine blk_drewN ?_ _ | refine blk_drew ?_ | refine blk_alloc ?_ _)); exact BK693.out) k_ hn_)), Or.elim hk_ (fun hs_ => hs_.2.2.2) (fun hn_ => (Kd.freshB (g := gb702) (o := .cells #[.int .i64 t708, .slice Ao54 t709.length co54] 24 (0, 0)) (by (with_reducible repeat (first | refine blk_drewN ?_ _ | refine blk_drew ?_ | refine blk_alloc ?_ _)); exact BK702.out) k_ hn_))⟩)) (below_size (by repeat (first | (with_reducible first | exact HB.out | apply below_alloc | apply pw_below_drewN | apply below_drew1 | refine below_set ?_ GE683.out | refine below_set ?_ GE693.out | refine below_set ?_ GE702.out) | exact HB.out)))); have n6_ := Aside0.mk (blk_below (g := gb683) (o := .cells #[.int .u8 a2_0, .int .u16 a2_1, .int .u16 a2_2, .int .u16 a2_3] 28 (0, 0)) (by (with_reducible repeat (first | refine blk_drewN ?_ _ | refine blk_drew ?_ | refine blk_alloc ?_ _)); exact BK683.out) hb); have n7_ := Aside0.mk (blk_below (g := gb693) (o := .cells #[.int .i64 t686, .slice Ao29 t687.length co29] 24 (0, 0)) (by (with_reducible repeat (first | refine blk_drewN ?_ _ | refine blk_drew ?_ | refine blk_alloc ?_ _)); exact BK693.out) hb); have n8_ := Aside0.mk (blk_below (g := gb702) (o := .cells #[.int .i64 t708, .slice Ao54 t709.length co54] 24 (0, 0)) (by (with_reducible repeat (first | refine blk_drewN ?_ _ | refine blk_drew ?_ | refine blk_alloc ?_ _)); exact BK702.out) hb); have n9_ := Aside0.mk (below_step (by repeat (first | (with_reducible first | exact HB.out | apply below_alloc | apply pw_below_drewN | apply below_drew1 | refine below_set ?_ GE683.out | refine below_set ?_ GE693.out | refine below_set ?_ GE702.out) | exact HB.out)) hb); clear HO689; clear HO692; clear HO700; clear HO706; clear HO711; clear BK683; clear BK693; clear BK702; clear HB; have HO689 := n0_; have HO692 := n1_; have HO700 := n2_; have HO706 := n3_; have HO711 := n4_; have HO716 := n5_; have BK683 := n6_; have BK693 := n7_; have BK702 := n8_; have HB := n9_; clear n0_ n1_ n2_ n3_ n4_ n5_ n6_ n7_ n8_ n9_; (try clear hb); (try clear hb2); (try clear hk); (try clear hi); (try clear ho0); have hcz58_0 : w57.cell? ⟨gb702, 0, none⟩ = some (.int .i64 t708) := (blk_cell BK702.out 0).trans rfl; have hcz58_1 : w57.cell? ⟨gb702, 1, none⟩ = some (.slice Ao54 t709.length co54) := (blk_cell BK702.out 1).trans rfl; have hfz58_0 := blk_frozen BK702.out 0; have hfz58_1 := blk_frozen BK702.out 1; obtain ⟨Ao59, co59, eo59⟩ := Kd.V_slice HO716.out; subst eo59) | ((with_reducible refine gate_store (t := 24) (p := 15) rfl ?_); refine store_event (t := 24) (p := 15) (v := ?vo_w60) (w1 := ((w57.setCell ⟨gb702, 0, none⟩ (.int .i64 t713)).setCell ⟨gb702, 1, none⟩ (.slice Ao59 t714.length co59))) ?hg ?ho ?hn ?hr ?_; (case ho => rfl); (case hg => rfl); (case hn => rfl); (case hr => first | (go_simp; done) | (go_simp; rfl)); intro w60 hw; have n0_ : Aside0 (Kd.V k50 50 w60 w.heap.size (fun k_ => some k_ ≠ (v691 : Value).ownBlock ∧ k_ ≠ gb683 ∧ k_ ≠ gb693 ∧ k_ ≠ gb702) (.slice Ao29 t687.length co29) t687) := ⟨(by rw [hw]; exact (by (with_reducible repeat (first | apply Kd.V_alloc | apply Kd.V_drewN | apply Kd.V_drew)); exact Kd.V_mono (Kd.V_far (p := ⟨gb702, 1, none⟩) (Kd.V_far (p := ⟨gb702, 0, none⟩) (Kd.V_mono HO689.out (fun k_ hk => (⟨hk, hk.2.2.2⟩ : _ ∧ k_ ≠ gb702))) (fun _ hk => hk.2) (.int .i64 t713)) (fun _ hk => hk.2) (.slice Ao59 t714.length co59)) (fun _ hk => ⟨hk.1.1, ⟨hk.1.2.1, ⟨hk.1.2.2.1, hk.1.2.2.2⟩⟩⟩)))⟩; have n1_ : Aside0 (Kd.R (Kd.int .i64) 3 w60 w.heap.size (fun _ => True) v691 t690) := ⟨(by rw [hw]; exact (by (with_reducible repeat (first | apply Kd.R_alloc | apply Kd.R_drewN | apply Kd.R_drew)); exact Kd.R_mono (Kd.R_far (p := ⟨gb702, 1, none⟩) (Kd.R_far (p := ⟨gb702, 0, none⟩) (Kd.R_types HO692.out BK702.out (by decide)) (fun _ hk => hk.2) (.int .i64 t713)) (fun _ hk => hk.2) (.slice Ao59 t714.length co59)) (fun _ hk => trivial)))⟩; have n2_ : Aside0 (Kd.V k50 50 w60 w.heap.size (fun k_ => some k_ ≠ (v691 : Value).ownBlock ∧ k_ ≠ gb683 ∧ k_ ≠ gb693 ∧ k_ ≠ gb702) (.slice Ao44 t698.length co44) t698) := ⟨(by rw [hw]; exact (by (with_reducible repeat (first | apply Kd.V_alloc | apply Kd.V_drewN | apply Kd.V_drew)); exact Kd.V_mono (Kd.V_far (p := ⟨gb702, 1, none⟩) (Kd.V_far (p := ⟨gb702, 0, none⟩) (Kd.V_mono HO700.out (fun k_ hk => (⟨hk, hk.2.2.2⟩ : _ ∧ k_ ≠ gb702))) (fun _ hk => hk.2) (.int .i64 t713)) (fun _ hk => hk.2) (.slice Ao59 t714.length co59)) (fun _ hk => ⟨hk.1.1, ⟨hk.1.2.1, ⟨hk.1.2.2.1, hk.1.2.2.2⟩⟩⟩)))⟩; have n3_ : Aside0 (Kd.V k50 50 w60 w.heap.size (fun k_ => some k_ ≠ (v691 : Value).ownBlock ∧ k_ ≠ gb683 ∧ k_ ≠ gb693 ∧ k_ ≠ gb702) (.slice Ao49 t704.length co49) t704) := ⟨(by rw [hw]; exact (by (with_reducible repeat (first | apply Kd.V_alloc | apply Kd.V_drewN | apply Kd.V_drew)); exact Kd.V_mono (Kd.V_far (p := ⟨gb702, 1, none⟩) (Kd.V_far (p := ⟨gb702, 0, none⟩) (Kd.V_mono HO706.out (fun k_ hk => (⟨hk, hk.2.2.2⟩ : _ ∧ k_ ≠ gb702))) (fun _ hk => hk.2) (.int .i64 t713)) (fun _ hk => hk.2) (.slice Ao59 t714.length co59)) (fun _ hk => ⟨hk.1.1, ⟨hk.1.2.1, ⟨hk.1.2.2.1, hk.1.2.2.2⟩⟩⟩)))⟩; have n4_ : Aside0 (Kd.V k50 50 w60 w.heap.size (fun k_ => some k_ ≠ (v691 : Value).ownBlock ∧ k_ ≠ gb683 ∧ k_ ≠ gb693 ∧ k_ ≠ gb702) (.slice Ao54 t709.length co54) t709) := ⟨(by rw [hw]; exact (by (with_reducible repeat (first | apply Kd.V_alloc | apply Kd.V_drewN | apply Kd.V_drew)); exact Kd.V_mono (Kd.V_far (p := ⟨gb702, 1, none⟩) (Kd.V_far (p := ⟨gb702, 0, none⟩) (Kd.V_mono HO711.out (fun k_ hk => (⟨hk, hk.2.2.2⟩ : _ ∧ k_ ≠ gb702))) (fun _ hk => hk.2) (.int .i64 t713)) (fun _ hk => hk.2) (.slice Ao59 t714.length co59)) (fun _ hk => ⟨hk.1.1, ⟨hk.1.2.1, ⟨hk.1.2.2.1, hk.1.2.2.2⟩⟩⟩)))⟩; have n5_ : Aside0 (Kd.V k50 50 w60 w.heap.size (fun k_ => some k_ ≠ (v691 : Value).ownBlock ∧ k_ ≠ gb683 ∧ k_ ≠ gb693 ∧ k_ ≠ gb702) (.slice Ao59 t714.length co59) t714) := ⟨(by rw [hw]; exact (by (with_reducible repeat (first | apply Kd.V_alloc | apply Kd.V_drewN | apply Kd.V_drew)); exact Kd.V_mono (Kd.V_far (p := ⟨gb702, 1, none⟩) (Kd.V_far (p := ⟨gb702, 0, none⟩) (Kd.V_mono HO716.out (fun k_ hk => (⟨hk, hk.2.2.2⟩ : _ ∧ k_ ≠ gb702))) (fun _ hk => hk.2) (.int .i64 t713)) (fun _ hk => hk.2) (.slice Ao59 t714.length co59)) (fun _ hk => ⟨hk.1.1, ⟨hk.1.2.1, ⟨hk.1.2.2.1, hk.1.2.2.2⟩⟩⟩)))⟩; have n6_ : Aside0 (w60.heap[gb683]? = some (.cells #[.int .u8 a2_0, .int .u16 a2_1, .int .u16 a2_2, .int .u16 a2_3] 28 (0, 0))) := ⟨(by rw [hw]; exact (by (with_reducible repeat (first | refine blk_drewN ?_ _ | refine blk_drew ?_ | refine blk_alloc ?_ _)); refine blk_far ?_ NB683_702.out _; (with_reducible repeat (first | refine blk_drewN ?_ _ | refine blk_drew ?_ | refine blk_alloc ?_ _)); refine blk_far ?_ NB683_702.out _; (with_reducible repeat (first | refine blk_drewN ?_ _ | refine blk_drew ?_ | refine blk_alloc ?_ _)); exact BK683.out))⟩; have n7_ : Aside0 (w60.heap[gb693]? = some (.cells #[.int .i64 t686, .slice Ao29 t687.length co29] 24 (0, 0))) := ⟨(by rw [hw]; exact (by (with_reducible repeat (first | refine blk_drewN ?_ _ | refine blk_drew ?_ | refine blk_alloc ?_ _)); refine blk_far ?_ NB693_702.out _; (with_reducible repeat (first | refine blk_drewN ?_ _ | refine blk_drew ?_ | refine blk_alloc ?_ _)); refine blk_far ?_ NB693_702.out _; (with_reducible repeat (first | refine blk_drewN ?_ _ | refine blk_drew ?_ | refine blk_alloc ?_ _)); exact BK693.out))⟩; have n8_ : Aside0 (w60.heap[gb702]? = some (.cells #[.int .i64 t713, .slice Ao59 t714.length co59] 24 (0, 0))) := ⟨(by rw [hw]; exact (by (with_reducible repeat (first | refine blk_drewN ?_ _ | refine blk_drew ?_ | refine blk_alloc ?_ _)); refine blk_put (cs := #[.int .i64 t713, .slice Ao54 t709.length co54]) ?_ 1 _ rfl; (with_reducible repeat (first | refine blk_drewN ?_ _ | refine blk_drew ?_ | refine blk_alloc ?_ _)); refine blk_put (cs := #[.int .i64 t708, .slice Ao54 t709.length co54]) ?_ 0 _ rfl; (with_reducible repeat (first | refine blk_drewN ?_ _ | refine blk_drew ?_ | refine blk_alloc ?_ _)); exact BK702.out))⟩; have n9_ : Aside0 (Below w.heap.size w w60) := ⟨(by rw [hw]; exact (by repeat (first | (with_reducible first | exact HB.out | apply below_alloc | apply pw_below_drewN | apply below_drew1 | refine below_set ?_ GE683.out | refine below_set ?_ GE693.out | refine below_set ?_ GE702.out) | exact HB.out)))⟩; clear hw; clear HO689; clear HO692; clear HO700; clear HO706; clear HO711; clear HO716; clear BK683; clear BK693; clear BK702; clear HB; have HO689 := n0_; have HO692 := n1_; have HO700 := n2_; have HO706 := n3_; have HO711 := n4_; have HO716 := n5_; have BK683 := n6_; have BK693 := n7_; have BK702 := n8_; have HB := n9_; clear n0_ n1_ n2_ n3_ n4_ n5_ n6_ n7_ n8_ n9_; have hcz61_0 : w60.cell? ⟨gb702, 0, none⟩ = some (.int .i64 t713) := (blk_cell BK702.out 0).trans rfl; have hcz61_1 : w60.cell? ⟨gb702, 1, none⟩ = some (.slice Ao59 t714.length co59) := (blk_cell BK702.out 1).trans rfl; have hfz61_0 := blk_frozen BK702.out 0; have hfz61_1 := blk_frozen BK702.out 1) | ((with_reducible refine gate_callee (f := 21) rfl ?_); refine goesL_ (some 82) rfl rfl Try.func21 (by kernel_rfl) rfl #[.agg #[.int .i64 t713, .slice Ao59 t714.length co59], .int .i64 t694, .int .i64 t695] rfl (by (try simp only [List.map_toArray, List.map_cons, List.map_nil]); first | done | rfl | (simp only [List.length_drop, List.length_take]; rfl)) ?_; (with_reducible refine (aig_Xor.calls k t713 (fun k_ => (some k_ ≠ (v691 : Value).ownBlock ∧ (k_ ≠ gb683 ∧ (k_ ≠ gb693 ∧ k_ ≠ gb702)))) _ _ t714 t694 t695 t718 t719 t722 _ ?side1 A18.out).mono ?_); (case side1 => exact HO716.out); rintro e w62 ⟨v720, rfl, ho0, hb⟩; refine ⟨_, rfl, ?_⟩; have n0_ := Aside0.mk (Kd.V_below (by (with_reducible repeat (first | apply Kd.V_alloc | apply Kd.V_drewN | apply Kd.V_drew)); exact HO689.out) hb); have n1_ := Aside0.mk (Kd.R_below (by (with_reducible repeat (first | apply Kd.R_alloc | apply Kd.R_drewN | apply Kd.R_drew)); exact HO692.out) hb); have n2_ := Aside0.mk (Kd.V_below (by (with_reducible repeat (first | apply Kd.V_alloc | apply Kd.V_drewN | apply Kd.V_drew)); exact HO700.out) hb); have n3_ := Aside0.mk (Kd.V_below (by (with_reducible repeat (first | apply Kd.V_alloc | apply Kd.V_drewN | apply Kd.V_drew)); exact HO706.out) hb); have n4_ := Aside0.mk (Kd.V_below (by (with_reducible repeat (first | apply Kd.V_alloc | apply Kd.V_drewN | apply Kd.V_drew)); exact HO711.out) hb); have n5_ := Aside0.mk (Kd.V_below (by (with_reducible repeat (first | apply Kd.V_alloc | apply Kd.V_drewN | apply Kd.V_drew)); exact HO716.out) hb); have n6_ := Aside0.mk (Kd.V_lower (Kd.V_mono (ok' := fun k_ => some k_ ≠ (v691 : Value).ownBlock ∧ k_ ≠ gb683 ∧ k_ ≠ gb693 ∧ k_ ≠ gb702) ho0 (fun k_ hk_ => ⟨Or.elim hk_ (fun hs_ => hs_.1) (fun hn_ => (Kd.fresh' (Kd.R_lt (by (with_reducible repeat (first | apply Kd.R_alloc | apply Kd.R_drewN | apply Kd.R_drew)); exact HO692.out)) k_ hn_)), Or.elim hk_ (fun hs_ => hs_.2.1) (fun hn_ => (Kd.freshB (g := gb683) (o := .cells #[.int .u8 a2_0, .int .u16 a2_1, .int .u16 a2_2, .int .u16 a2_3] 28 (0, 0)) (by (with_reducible repeat (first | refine blk_drewN ?_ _ | refine blk_drew ?_ | refine blk_alloc ?_ _)); exact BK683.out) k_ hn_)), Or.elim hk_ (fun hs_ => hs_.2.2.1) (fun hn_ => (Kd.freshB (g := gb693) (o := .cells #[.int .i64 t686, .slice Ao29 t687.length co29] 24 (0, 0)) (by (with_reducible repeat (first | refine blk_drewN ?_ _ | refine blk_drew ?_ | refine blk_alloc ?_ _)); exact BK693.out) k_ hn_)), Or.elim hk_ (fun hs_ => hs_.2.2.2) (fun hn_ => (Kd.freshB (g := gb702) (o := .cells #[.int .i64 t713, .slice Ao59 t714.length co59] 24 (0, 0)) (by (with_reducible repeat (first | refine blk_drewN ?_ _ | refine blk_drew ?_ | refine blk_alloc ?_ _)); exact BK702.out) k_ hn_))⟩)) (below_size (by repeat (first | (with_reducible first | exact HB.out | apply below_alloc | apply pw_below_drewN | apply below_drew1 | refine below_set ?_ GE683.out | refine below_set ?_ GE693.out | refine below_set ?_ GE702.out) | exact HB.out)))); have n7_ := Aside0.mk (blk_below (g := gb683) (o := .cells #[.int .u8 a2_0, .int .u16 a2_1, .int .u16 a2_2, .int .u16 a2_3] 28 (0, 0)) (by (with_reducible repeat (first | refine blk_drewN ?_ _ | refine blk_drew ?_ | refine blk_alloc ?_ _)); exact BK683.out) hb); have n8_ := Aside0.mk (blk_below (g := gb693) (o := .cells #[.int .i64 t686, .slice Ao29 t687.length co29] 24 (0, 0)) (by (with_reducible repeat (first | refine blk_drewN ?_ _ | refine blk_drew ?_ | refine blk_alloc ?_ _)); exact BK693.out) hb); have n9_ := Aside0.mk (blk_below (g := gb702) (o := .cells #[.int .i64 t713, .slice Ao59 t714.length co59] 24 (0, 0)) (by (with_reducible repeat (first | refine blk_drewN ?_ _ | refine blk_drew ?_ | refine blk_alloc ?_ _)); exact BK702.out) hb); have n10_ := Aside0.mk (below_step (by repeat (first | (with_reducible first | exact HB.out | apply below_alloc | apply pw_below_drewN | apply below_drew1 | refine below_set ?_ GE683.out | refine below_set ?_ GE693.out | refine below_set ?_ GE702.out) | exact HB.out)) hb); clear HO689; clear HO692; clear HO700; clear HO706; clear HO711; clear HO716; clear BK683; clear BK693; clear BK702; clear HB; have HO689 := n0_; have HO692 := n1_; have HO700 := n2_; have HO706 := n3_; have HO711 := n4_; have HO716 := n5_; have HO721 := n6_; have BK683 := n7_; have BK693 := n8_; have BK702 := n9_; have HB := n10_; clear n0_ n1_ n2_ n3_ n4_ n5_ n6_ n7_ n8_ n9_ n10_; (try clear hb); (try clear hb2); (try clear hk); (try clear hi); (try clear ho0); have hcz63_0 : w62.cell? ⟨gb702, 0, none⟩ = some (.int .i64 t713) := (blk_cell BK702.out 0).trans rfl; have hcz63_1 : w62.cell? ⟨gb702, 1, none⟩ = some (.slice Ao59 t714.length co59) := (blk_cell BK702.out 1).trans rfl; have hfz63_0 := blk_frozen BK702.out 0; have hfz63_1 := blk_frozen BK702.out 1; obtain ⟨Ao64, co64, eo64⟩ := Kd.V_slice HO721.out; subst eo64) | ((with_reducible refine gate_store (t := 24) (p := 15) rfl ?_); refine store_event (t := 24) (p := 15) (v := ?vo_w65) (w1 := ((w62.setCell ⟨gb702, 0, none⟩ (.int .i64 t718)).setCell ⟨gb702, 1, none⟩ (.slice Ao64 t719.length co64))) ?hg ?ho ?hn ?hr ?_; (case ho => rfl); (case hg => rfl); (case hn => rfl); (case hr => first | (go_simp; done) | (go_simp; rfl)); intro w65 hw; have n0_ : Aside0 (Kd.V k50 50 w65 w.heap.size (fun k_ => some k_ ≠ (v691 : Value).ownBlock ∧ k_ ≠ gb683 ∧ k_ ≠ gb693 ∧ k_ ≠ gb702) (.slice Ao29 t687.length co29) t687) := ⟨(by rw [hw]; exact (by (with_reducible repeat (first | apply Kd.V_alloc | apply Kd.V_drewN | apply Kd.V_drew)); exact Kd.V_mono (Kd.V_far (p := ⟨gb702, 1, none⟩) (Kd.V_far (p := ⟨gb702, 0, none⟩) (Kd.V_mono HO689.out (fun k_ hk => (⟨hk, hk.2.2.2⟩ : _ ∧ k_ ≠ gb702))) (fun _ hk => hk.2) (.int .i64 t718)) (fun _ hk => hk.2) (.slice Ao64 t719.length co64)) (fun _ hk => ⟨hk.1.1, ⟨hk.1.2.1, ⟨hk.1.2.2.1, hk.1.2.2.2⟩⟩⟩)))⟩; have n1_ : Aside0 (Kd.R (Kd.int .i64) 3 w65 w.heap.size (fun _ => True) v691 t690) := ⟨(by rw [hw]; exact (by (with_reducible repeat (first | apply Kd.R_alloc | apply Kd.R_drewN | apply Kd.R_drew)); exact Kd.R_mono (Kd.R_far (p := ⟨gb702, 1, none⟩) (Kd.R_far (p := ⟨gb702, 0, none⟩) (Kd.R_types HO692.out BK702.out (by decide)) (fun _ hk => hk.2) (.int .i64 t718)) (fun _ hk => hk.2) (.slice Ao64 t719.length co64)) (fun _ hk => trivial)))⟩; have n2_ : Aside0 (Kd.V k50 50 w65 w.heap.size (fun k_ => some k_ ≠ (v691 : Value).ownBlock ∧ k_ ≠ gb683 ∧ k_ ≠ gb693 ∧ k_ ≠ gb702) (.slice Ao44 t698.length co44) t698) := ⟨(by rw [hw]; exact (by (with_reducible repeat (first | apply Kd.V_alloc | apply Kd.V_drewN | apply Kd.V_drew)); exact Kd.V_mono (Kd.V_far (p := ⟨gb702, 1, none⟩) (Kd.V_far (p := ⟨gb702, 0, none⟩) (Kd.V_mono HO700.out (fun k_ hk => (⟨hk, hk.2.2.2⟩ : _ ∧ k_ ≠ gb702))) (fun _ hk => hk.2) (.int .i64 t718)) (fun _ hk => hk.2) (.slice Ao64 t719.length co64)) (fun _ hk => ⟨hk.1.1, ⟨hk.1.2.1, ⟨hk.1.2.2.1, hk.1.2.2.2⟩⟩⟩)))⟩; have n3_ : Aside0 (Kd.V k50 50 w65 w.heap.size (fun k_ => some k_ ≠ (v691 : Value).ownBlock ∧ k_ ≠ gb683 ∧ k_ ≠ gb693 ∧ k_ ≠ gb702) (.slice Ao49 t704.length co49) t704) := ⟨(by rw [hw]; exact (by (with_reducible repeat (first | apply Kd.V_alloc | apply Kd.V_drewN | apply Kd.V_drew)); exact Kd.V_mono (Kd.V_far (p := ⟨gb702, 1, none⟩) (Kd.V_far (p := ⟨gb702, 0, none⟩) (Kd.V_mono HO706.out (fun k_ hk => (⟨hk, hk.2.2.2⟩ : _ ∧ k_ ≠ gb702))) (fun _ hk => hk.2) (.int .i64 t718)) (fun _ hk => hk.2) (.slice Ao64 t719.length co64)) (fun _ hk => ⟨hk.1.1, ⟨hk.1.2.1, ⟨hk.1.2.2.1, hk.1.2.2.2⟩⟩⟩)))⟩; have n4_ : Aside0 (Kd.V k50 50 w65 w.heap.size (fun k_ => some k_ ≠ (v691 : Value).ownBlock ∧ k_ ≠ gb683 ∧ k_ ≠ gb693 ∧ k_ ≠ gb702) (.slice Ao54 t709.length co54) t709) := ⟨(by rw [hw]; exact (by (with_reducible repeat (first | apply Kd.V_alloc | apply Kd.V_drewN | apply Kd.V_drew)); exact Kd.V_mono (Kd.V_far (p := ⟨gb702, 1, none⟩) (Kd.V_far (p := ⟨gb702, 0, none⟩) (Kd.V_mono HO711.out (fun k_ hk => (⟨hk, hk.2.2.2⟩ : _ ∧ k_ ≠ gb702))) (fun _ hk => hk.2) (.int .i64 t718)) (fun _ hk => hk.2) (.slice Ao64 t719.length co64)) (fun _ hk => ⟨hk.1.1, ⟨hk.1.2.1, ⟨hk.1.2.2.1, hk.1.2.2.2⟩⟩⟩)))⟩; have n5_ : Aside0 (Kd.V k50 50 w65 w.heap.size (fun k_ => some k_ ≠ (v691 : Value).ownBlock ∧ k_ ≠ gb683 ∧ k_ ≠ gb693 ∧ k_ ≠ gb702) (.slice Ao59 t714.length co59) t714) := ⟨(by rw [hw]; exact (by (with_reducible repeat (first | apply Kd.V_alloc | apply Kd.V_drewN | apply Kd.V_drew)); exact Kd.V_mono (Kd.V_far (p := ⟨gb702, 1, none⟩) (Kd.V_far (p := ⟨gb702, 0, none⟩) (Kd.V_mono HO716.out (fun k_ hk => (⟨hk, hk.2.2.2⟩ : _ ∧ k_ ≠ gb702))) (fun _ hk => hk.2) (.int .i64 t718)) (fun _ hk => hk.2) (.slice Ao64 t719.length co64)) (fun _ hk => ⟨hk.1.1, ⟨hk.1.2.1, ⟨hk.1.2.2.1, hk.1.2.2.2⟩⟩⟩)))⟩; have n6_ : Aside0 (Kd.V k50 50 w65 w.heap.size (fun k_ => some k_ ≠ (v691 : Value).ownBlock ∧ k_ ≠ gb683 ∧ k_ ≠ gb693 ∧ k_ ≠ gb702) (.slice Ao64 t719.length co64) t719) := ⟨(by rw [hw]; exact (by (with_reducible repeat (first | apply Kd.V_alloc | apply Kd.V_drewN | apply Kd.V_drew)); exact Kd.V_mono (Kd.V_far (p := ⟨gb702, 1, none⟩) (Kd.V_far (p := ⟨gb702, 0, none⟩) (Kd.V_mono HO721.out (fun k_ hk => (⟨hk, hk.2.2.2⟩ : _ ∧ k_ ≠ gb702))) (fun _ hk => hk.2) (.int .i64 t718)) (fun _ hk => hk.2) (.slice Ao64 t719.length co64)) (fun _ hk => ⟨hk.1.1, ⟨hk.1.2.1, ⟨hk.1.2.2.1, hk.1.2.2.2⟩⟩⟩)))⟩; have n7_ : Aside0 (w65.heap[gb683]? = some (.cells #[.int .u8 a2_0, .int .u16 a2_1, .int .u16 a2_2, .int .u16 a2_3] 28 (0, 0))) := ⟨(by rw [hw]; exact (by (with_reducible repeat (first | refine blk_drewN ?_ _ | refine blk_drew ?_ | refine blk_alloc ?_ _)); refine blk_far ?_ NB683_702.out _; (with_reducible repeat (first | refine blk_drewN ?_ _ | refine blk_drew ?_ | refine blk_alloc ?_ _)); refine blk_far ?_ NB683_702.out _; (with_reducible repeat (first | refine blk_drewN ?_ _ | refine blk_drew ?_ | refine blk_alloc ?_ _)); exact BK683.out))⟩; have n8_ : Aside0 (w65.heap[gb693]? = some (.cells #[.int .i64 t686, .slice Ao29 t687.length co29] 24 (0, 0))) := ⟨(by rw [hw]; exact (by (with_reducible repeat (first | refine blk_drewN ?_ _ | refine blk_drew ?_ | refine blk_alloc ?_ _)); refine blk_far ?_ NB693_702.out _; (with_reducible repeat (first | refine blk_drewN ?_ _ | refine blk_drew ?_ | refine blk_alloc ?_ _)); refine blk_far ?_ NB693_702.out _; (with_reducible repeat (first | refine blk_drewN ?_ _ | refine blk_drew ?_ | refine blk_alloc ?_ _)); exact BK693.out))⟩; have n9_ : Aside0 (w65.heap[gb702]? = some (.cells #[.int .i64 t718, .slice Ao64 t719.length co64] 24 (0, 0))) := ⟨(by rw [hw]; exact (by (with_reducible repeat (first | refine blk_drewN ?_ _ | refine blk_drew ?_ | refine blk_alloc ?_ _)); refine blk_put (cs := #[.int .i64 t718, .slice Ao59 t714.length co59]) ?_ 1 _ rfl; (with_reducible repeat (first | refine blk_drewN ?_ _ | refine blk_drew ?_ | refine blk_alloc ?_ _)); refine blk_put (cs := #[.int .i64 t713, .slice Ao59 t714.length co59]) ?_ 0 _ rfl; (with_reducible repeat (first | refine blk_drewN ?_ _ | refine blk_drew ?_ | refine blk_alloc ?_ _)); exact BK702.out))⟩; have n10_ : Aside0 (Below w.heap.size w w65) := ⟨(by rw [hw]; exact (by repeat (first | (with_reducible first | exact HB.out | apply below_alloc | apply pw_below_drewN | apply below_drew1 | refine below_set ?_ GE683.out | refine below_set ?_ GE693.out | refine below_set ?_ GE702.out) | exact HB.out)))⟩; clear hw; clear HO689; clear HO692; clear HO700; clear HO706; clear HO711; clear HO716; clear HO721; clear BK683; clear BK693; clear BK702; clear HB; have HO689 := n0_; have HO692 := n1_; have HO700 := n2_; have HO706 := n3_; have HO711 := n4_; have HO716 := n5_; have HO721 := n6_; have BK683 := n7_; have BK693 := n8_; have BK702 := n9_; have HB := n10_; clear n0_ n1_ n2_ n3_ n4_ n5_ n6_ n7_ n8_ n9_ n10_; have hcz66_0 : w65.cell? ⟨gb702, 0, none⟩ = some (.int .i64 t718) := (blk_cell BK702.out 0).trans rfl; have hcz66_1 : w65.cell? ⟨gb702, 1, none⟩ = some (.slice Ao64 t719.length co64) := (blk_cell BK702.out 1).trans rfl; have hfz66_0 := blk_frozen BK702.out 0; have hfz66_1 := blk_frozen BK702.out 1) | ((with_reducible refine gate_callee (f := 21) rfl ?_); refine goesL_ (some 90) rfl rfl Try.func21 (by kernel_rfl) rfl #[.agg #[.int .i64 t718, .slice Ao64 t719.length co64], .int .i64 (Go.bits .xor .i64 t694 1), .int .i64 t695] rfl (by (try simp only [List.map_toArray, List.map_cons, List.map_nil]); first | done | rfl | (simp only [List.length_drop, List.length_take]; rfl)) ?_; (with_reducible refine (aig_Xor.calls k t718 (fun k_ => (some k_ ≠ (v691 : Value).ownBlock ∧ (k_ ≠ gb683 ∧ (k_ ≠ gb693 ∧ k_ ≠ gb702)))) _ _ t719 (Go.bits .xor .i64 t694 1) t695 t723 t724 t727 _ ?side1 A19.out).mono ?_); (case side1 => exact HO721.out); rintro e w67 ⟨v725, rfl, ho0, hb⟩; refine ⟨_, rfl, ?_⟩; have n0_ := Aside0.mk (Kd.V_below (by (with_reducible repeat (first | apply Kd.V_alloc | apply Kd.V_drewN | apply Kd.V_drew)); exact HO689.out) hb); have n1_ := Aside0.mk (Kd.R_below (by (with_reducible repeat (first | apply Kd.R_alloc | apply Kd.R_drewN | apply Kd.R_drew)); exact HO692.out) hb); have n2_ := Aside0.mk (Kd.V_below (by (with_reducible repeat (first | apply Kd.V_alloc | apply Kd.V_drewN | apply Kd.V_drew)); exact HO700.out) hb); have n3_ := Aside0.mk (Kd.V_below (by (with_reducible repeat (first | apply Kd.V_alloc | apply Kd.V_drewN | apply Kd.V_drew)); exact HO706.out) hb); have n4_ := Aside0.mk (Kd.V_below (by (with_reducible repeat (first | apply Kd.V_alloc | apply Kd.V_drewN | apply Kd.V_drew)); exact HO711.out) hb); have n5_ := Aside0.mk (Kd.V_below (by (with_reducible repeat (first | apply Kd.V_alloc | apply Kd.V_drewN | apply Kd.V_drew)); exact HO716.out) hb); have n6_ := Aside0.mk (Kd.V_below (by (with_reducible repeat (first | apply Kd.V_alloc | apply Kd.V_drewN | apply Kd.V_drew)); exact HO721.out) hb); have n7_ := Aside0.mk (Kd.V_lower (Kd.V_mono (ok' := fun k_ => some k_ ≠ (v691 : Value).ownBlock ∧ k_ ≠ gb683 ∧ k_ ≠ gb693 ∧ k_ ≠ gb702) ho0 (fun k_ hk_ => ⟨Or.elim hk_ (fun hs_ => hs_.1) (fun hn_ => (Kd.fresh' (Kd.R_lt (by (with_reducible repeat (first | apply Kd.R_alloc | apply Kd.R_drewN | apply Kd.R_drew)); exact HO692.out)) k_ hn_)), Or.elim hk_ (fun hs_ => hs_.2.1) (fun hn_ => (Kd.freshB (g := gb683) (o := .cells #[.int .u8 a2_0, .int .u16 a2_1, .int .u16 a2_2, .int .u16 a2_3] 28 (0, 0)) (by (with_reducible repeat (first | refine blk_drewN ?_ _ | refine blk_drew ?_ | refine blk_alloc ?_ _)); exact BK683.out) k_ hn_)), Or.elim hk_ (fun hs_ => hs_.2.2.1) (fun hn_ => (Kd.freshB (g := gb693) (o := .cells #[.int .i64 t686, .slice Ao29 t687.length co29] 24 (0, 0)) (by (with_reducible repeat (first | refine blk_drewN ?_ _ | refine blk_drew ?_ | refine blk_alloc ?_ _)); exact BK693.out) k_ hn_)), Or.elim hk_ (fun hs_ => hs_.2.2.2) (fun hn_ => (Kd.freshB (g := gb702) (o := .cells #[.int .i64 t718, .slice Ao64 t719.length co64] 24 (0, 0)) (by (with_reducible repeat (first | refine blk_drewN ?_ _ | refine blk_drew ?_ | refine blk_alloc ?_ _)); exact BK702.out) k_ hn_))⟩)) (below_size (by repeat (first | (with_reducible first | exact HB.out | apply below_alloc | apply pw_below_drewN | apply below_drew1 | refine below_set ?_ GE683.out | refine below_set ?_ GE693.out | refine below_set ?_ GE702.out) | exact HB.out)))); have n8_ := Aside0.mk (blk_below (g := gb683) (o := .cells #[.int .u8 a2_0, .int .u16 a2_1, .int .u16 a2_2, .int .u16 a2_3] 28 (0, 0)) (by (with_reducible repeat (first | refine blk_drewN ?_ _ | refine blk_drew ?_ | refine blk_alloc ?_ _)); exact BK683.out) hb); have n9_ := Aside0.mk (blk_below (g := gb693) (o := .cells #[.int .i64 t686, .slice Ao29 t687.length co29] 24 (0, 0)) (by (with_reducible repeat (first | refine blk_drewN ?_ _ | refine blk_drew ?_ | refine blk_alloc ?_ _)); exact BK693.out) hb); have n10_ := Aside0.mk (blk_below (g := gb702) (o := .cells #[.int .i64 t718, .slice Ao64 t719.length co64] 24 (0, 0)) (by (with_reducible repeat (first | refine blk_drewN ?_ _ | refine blk_drew ?_ | refine blk_alloc ?_ _)); exact BK702.out) hb); have n11_ := Aside0.mk (below_step (by repeat (first | (with_reducible first | exact HB.out | apply below_alloc | apply pw_below_drewN | apply below_drew1 | refine below_set ?_ GE683.out | refine below_set ?_ GE693.out | refine below_set ?_ GE702.out) | exact HB.out)) hb); clear HO689; clear HO692; clear HO700; clear HO706; clear HO711; clear HO716; clear HO721; clear BK683; clear BK693; clear BK702; clear HB; have HO689 := n0_; have HO692 := n1_; have HO700 := n2_; have HO706 := n3_; have HO711 := n4_; have HO716 := n5_; have HO721 := n6_; have HO726 := n7_; have BK683 := n8_; have BK693 := n9_; have BK702 := n10_; have HB := n11_; clear n0_ n1_ n2_ n3_ n4_ n5_ n6_ n7_ n8_ n9_ n10_ n11_; (try clear hb); (try clear hb2); (try clear hk); (try clear hi); (try clear ho0); have hcz68_0 : w67.cell? ⟨gb702, 0, none⟩ = some (.int .i64 t718) := (blk_cell BK702.out 0).trans rfl; have hcz68_1 : w67.cell? ⟨gb702, 1, none⟩ = some (.slice Ao64 t719.length co64) := (blk_cell BK702.out 1).trans rfl; have hfz68_0 := blk_frozen BK702.out 0; have hfz68_1 := blk_frozen BK702.out 1; obtain ⟨Ao69, co69, eo69⟩ := Kd.V_slice HO726.out; subst eo69))
  have n0_ : Aside0 (Kd.V k50 50 ((w67.setCell ⟨gb702, 0, none⟩ (.int .i64 t723)).setCell ⟨gb702, 1, none⟩ (.slice Ao69 t724.length co69)) w.heap.size (fun k_ => some k_ ≠ (v691 : Value).ownBlock ∧ k_ ≠ gb683 ∧ k_ ≠ gb693 ∧ k_ ≠ gb702) (.slice Ao29 t687.length co29) t687) := ⟨by (with_reducible repeat (first | apply Kd.V_alloc | apply Kd.V_drewN | apply Kd.V_drew)); exact Kd.V_mono (Kd.V_far (p := ⟨gb702, 1, none⟩) (Kd.V_far (p := ⟨gb702, 0, none⟩) (Kd.V_mono HO689.out (fun k_ hk => (⟨hk, hk.2.2.2⟩ : _ ∧ k_ ≠ gb702))) (fun _ hk => hk.2) (.int .i64 t723)) (fun _ hk => hk.2) (.slice Ao69 t724.length co69)) (fun _ hk => ⟨hk.1.1, ⟨hk.1.2.1, ⟨hk.1.2.2.1, hk.1.2.2.2⟩⟩⟩)⟩
  have n1_ : Aside0 (Kd.R (Kd.int .i64) 3 ((w67.setCell ⟨gb702, 0, none⟩ (.int .i64 t723)).setCell ⟨gb702, 1, none⟩ (.slice Ao69 t724.length co69)) w.heap.size (fun _ => True) v691 t690) := ⟨by (with_reducible repeat (first | apply Kd.R_alloc | apply Kd.R_drewN | apply Kd.R_drew)); exact Kd.R_mono (Kd.R_far (p := ⟨gb702, 1, none⟩) (Kd.R_far (p := ⟨gb702, 0, none⟩) (Kd.R_types HO692.out BK702.out (by decide)) (fun _ hk => hk.2) (.int .i64 t723)) (fun _ hk => hk.2) (.slice Ao69 t724.length co69)) (fun _ hk => trivial)⟩
  have n2_ : Aside0 (Kd.V k50 50 ((w67.setCell ⟨gb702, 0, none⟩ (.int .i64 t723)).setCell ⟨gb702, 1, none⟩ (.slice Ao69 t724.length co69)) w.heap.size (fun k_ => some k_ ≠ (v691 : Value).ownBlock ∧ k_ ≠ gb683 ∧ k_ ≠ gb693 ∧ k_ ≠ gb702) (.slice Ao44 t698.length co44) t698) := ⟨by (with_reducible repeat (first | apply Kd.V_alloc | apply Kd.V_drewN | apply Kd.V_drew)); exact Kd.V_mono (Kd.V_far (p := ⟨gb702, 1, none⟩) (Kd.V_far (p := ⟨gb702, 0, none⟩) (Kd.V_mono HO700.out (fun k_ hk => (⟨hk, hk.2.2.2⟩ : _ ∧ k_ ≠ gb702))) (fun _ hk => hk.2) (.int .i64 t723)) (fun _ hk => hk.2) (.slice Ao69 t724.length co69)) (fun _ hk => ⟨hk.1.1, ⟨hk.1.2.1, ⟨hk.1.2.2.1, hk.1.2.2.2⟩⟩⟩)⟩
  have n3_ : Aside0 (Kd.V k50 50 ((w67.setCell ⟨gb702, 0, none⟩ (.int .i64 t723)).setCell ⟨gb702, 1, none⟩ (.slice Ao69 t724.length co69)) w.heap.size (fun k_ => some k_ ≠ (v691 : Value).ownBlock ∧ k_ ≠ gb683 ∧ k_ ≠ gb693 ∧ k_ ≠ gb702) (.slice Ao49 t704.length co49) t704) := ⟨by (with_reducible repeat (first | apply Kd.V_alloc | apply Kd.V_drewN | apply Kd.V_drew)); exact Kd.V_mono (Kd.V_far (p := ⟨gb702, 1, none⟩) (Kd.V_far (p := ⟨gb702, 0, none⟩) (Kd.V_mono HO706.out (fun k_ hk => (⟨hk, hk.2.2.2⟩ : _ ∧ k_ ≠ gb702))) (fun _ hk => hk.2) (.int .i64 t723)) (fun _ hk => hk.2) (.slice Ao69 t724.length co69)) (fun _ hk => ⟨hk.1.1, ⟨hk.1.2.1, ⟨hk.1.2.2.1, hk.1.2.2.2⟩⟩⟩)⟩
  have n4_ : Aside0 (Kd.V k50 50 ((w67.setCell ⟨gb702, 0, none⟩ (.int .i64 t723)).setCell ⟨gb702, 1, none⟩ (.slice Ao69 t724.length co69)) w.heap.size (fun k_ => some k_ ≠ (v691 : Value).ownBlock ∧ k_ ≠ gb683 ∧ k_ ≠ gb693 ∧ k_ ≠ gb702) (.slice Ao54 t709.length co54) t709) := ⟨by (with_reducible repeat (first | apply Kd.V_alloc | apply Kd.V_drewN | apply Kd.V_drew)); exact Kd.V_mono (Kd.V_far (p := ⟨gb702, 1, none⟩) (Kd.V_far (p := ⟨gb702, 0, none⟩) (Kd.V_mono HO711.out (fun k_ hk => (⟨hk, hk.2.2.2⟩ : _ ∧ k_ ≠ gb702))) (fun _ hk => hk.2) (.int .i64 t723)) (fun _ hk => hk.2) (.slice Ao69 t724.length co69)) (fun _ hk => ⟨hk.1.1, ⟨hk.1.2.1, ⟨hk.1.2.2.1, hk.1.2.2.2⟩⟩⟩)⟩
  have n5_ : Aside0 (Kd.V k50 50 ((w67.setCell ⟨gb702, 0, none⟩ (.int .i64 t723)).setCell ⟨gb702, 1, none⟩ (.slice Ao69 t724.length co69)) w.heap.size (fun k_ => some k_ ≠ (v691 : Value).ownBlock ∧ k_ ≠ gb683 ∧ k_ ≠ gb693 ∧ k_ ≠ gb702) (.slice Ao59 t714.length co59) t714) := ⟨by (with_reducible repeat (first | apply Kd.V_alloc | apply Kd.V_drewN | apply Kd.V_drew)); exact Kd.V_mono (Kd.V_far (p := ⟨gb702, 1, none⟩) (Kd.V_far (p := ⟨gb702, 0, none⟩) (Kd.V_mono HO716.out (fun k_ hk => (⟨hk, hk.2.2.2⟩ : _ ∧ k_ ≠ gb702))) (fun _ hk => hk.2) (.int .i64 t723)) (fun _ hk => hk.2) (.slice Ao69 t724.length co69)) (fun _ hk => ⟨hk.1.1, ⟨hk.1.2.1, ⟨hk.1.2.2.1, hk.1.2.2.2⟩⟩⟩)⟩
  have n6_ : Aside0 (Kd.V k50 50 ((w67.setCell ⟨gb702, 0, none⟩ (.int .i64 t723)).setCell ⟨gb702, 1, none⟩ (.slice Ao69 t724.length co69)) w.heap.size (fun k_ => some k_ ≠ (v691 : Value).ownBlock ∧ k_ ≠ gb683 ∧ k_ ≠ gb693 ∧ k_ ≠ gb702) (.slice Ao64 t719.length co64) t719) := ⟨by (with_reducible repeat (first | apply Kd.V_alloc | apply Kd.V_drewN | apply Kd.V_drew)); exact Kd.V_mono (Kd.V_far (p := ⟨gb702, 1, none⟩) (Kd.V_far (p := ⟨gb702, 0, none⟩) (Kd.V_mono HO721.out (fun k_ hk => (⟨hk, hk.2.2.2⟩ : _ ∧ k_ ≠ gb702))) (fun _ hk => hk.2) (.int .i64 t723)) (fun _ hk => hk.2) (.slice Ao69 t724.length co69)) (fun _ hk => ⟨hk.1.1, ⟨hk.1.2.1, ⟨hk.1.2.2.1, hk.1.2.2.2⟩⟩⟩)⟩
  have n7_ : Aside0 (Kd.V k50 50 ((w67.setCell ⟨gb702, 0, none⟩ (.int .i64 t723)).setCell ⟨gb702, 1, none⟩ (.slice Ao69 t724.length co69)) w.heap.size (fun k_ => some k_ ≠ (v691 : Value).ownBlock ∧ k_ ≠ gb683 ∧ k_ ≠ gb693 ∧ k_ ≠ gb702) (.slice Ao69 t724.length co69) t724) := ⟨by (with_reducible repeat (first | apply Kd.V_alloc | apply Kd.V_drewN | apply Kd.V_drew)); exact Kd.V_mono (Kd.V_far (p := ⟨gb702, 1, none⟩) (Kd.V_far (p := ⟨gb702, 0, none⟩) (Kd.V_mono HO726.out (fun k_ hk => (⟨hk, hk.2.2.2⟩ : _ ∧ k_ ≠ gb702))) (fun _ hk => hk.2) (.int .i64 t723)) (fun _ hk => hk.2) (.slice Ao69 t724.length co69)) (fun _ hk => ⟨hk.1.1, ⟨hk.1.2.1, ⟨hk.1.2.2.1, hk.1.2.2.2⟩⟩⟩)⟩
  have n8_ : Aside0 (((w67.setCell ⟨gb702, 0, none⟩ (.int .i64 t723)).setCell ⟨gb702, 1, none⟩ (.slice Ao69 t724.length co69)).heap[gb683]? = some (.cells #[.int .u8 a2_0, .int .u16 a2_1, .int .u16 a2_2, .int .u16 a2_3] 28 (0, 0))) := ⟨by (with_reducible repeat (first | refine blk_drewN ?_ _ | refine blk_drew ?_ | refine blk_alloc ?_ _)); refine blk_far ?_ NB683_702.out _; (with_reducible repeat (first | refine blk_drewN ?_ _ | refine blk_drew ?_ | refine blk_alloc ?_ _)); refine blk_far ?_ NB683_702.out _; (with_reducible repeat (first | refine blk_drewN ?_ _ | refine blk_drew ?_ | refine blk_alloc ?_ _)); exact BK683.out⟩
  have n9_ : Aside0 (((w67.setCell ⟨gb702, 0, none⟩ (.int .i64 t723)).setCell ⟨gb702, 1, none⟩ (.slice Ao69 t724.length co69)).heap[gb693]? = some (.cells #[.int .i64 t686, .slice Ao29 t687.length co29] 24 (0, 0))) := ⟨by (with_reducible repeat (first | refine blk_drewN ?_ _ | refine blk_drew ?_ | refine blk_alloc ?_ _)); refine blk_far ?_ NB693_702.out _; (with_reducible repeat (first | refine blk_drewN ?_ _ | refine blk_drew ?_ | refine blk_alloc ?_ _)); refine blk_far ?_ NB693_702.out _; (with_reducible repeat (first | refine blk_drewN ?_ _ | refine blk_drew ?_ | refine blk_alloc ?_ _)); exact BK693.out⟩
  have n10_ : Aside0 (((w67.setCell ⟨gb702, 0, none⟩ (.int .i64 t723)).setCell ⟨gb702, 1, none⟩ (.slice Ao69 t724.length co69)).heap[gb702]? = some (.cells #[.int .i64 t723, .slice Ao69 t724.length co69] 24 (0, 0))) := ⟨by (with_reducible repeat (first | refine blk_drewN ?_ _ | refine blk_drew ?_ | refine blk_alloc ?_ _)); refine blk_put (cs := #[.int .i64 t723, .slice Ao64 t719.length co64]) ?_ 1 _ rfl; (with_reducible repeat (first | refine blk_drewN ?_ _ | refine blk_drew ?_ | refine blk_alloc ?_ _)); refine blk_put (cs := #[.int .i64 t718, .slice Ao64 t719.length co64]) ?_ 0 _ rfl; (with_reducible repeat (first | refine blk_drewN ?_ _ | refine blk_drew ?_ | refine blk_alloc ?_ _)); exact BK702.out⟩
  have n11_ : Aside0 (Below w.heap.size w ((w67.setCell ⟨gb702, 0, none⟩ (.int .i64 t723)).setCell ⟨gb702, 1, none⟩ (.slice Ao69 t724.length co69))) := ⟨by repeat (first | (with_reducible first | exact HB.out | apply below_alloc | apply pw_below_drewN | apply below_drew1 | refine below_set ?_ GE683.out | refine below_set ?_ GE693.out | refine below_set ?_ GE702.out) | exact HB.out)⟩
  (try clear HO689)
  (try clear HO692)
  (try clear HO700)
  (try clear HO706)
  (try clear HO711)
  (try clear HO716)
  (try clear HO721)
  (try clear HO726)
  (try clear BK683)
  (try clear BK693)
  (try clear BK702)
  (try clear HB)
  generalize ((w67.setCell ⟨gb702, 0, none⟩ (.int .i64 t723)).setCell ⟨gb702, 1, none⟩ (.slice Ao69 t724.length co69)) = w70 at n0_ n1_ n2_ n3_ n4_ n5_ n6_ n7_ n8_ n9_ n10_ n11_ ⊢
  have HO689 := n0_
  have HO692 := n1_
  have HO700 := n2_
  have HO706 := n3_
  have HO711 := n4_
  have HO716 := n5_
  have HO721 := n6_
  have HO726 := n7_
  have BK683 := n8_
  have BK693 := n9_
  have BK702 := n10_
  have HB := n11_
  clear n0_ n1_ n2_ n3_ n4_ n5_ n6_ n7_ n8_ n9_ n10_ n11_
  have n0_ := Aside0.mk (Kd.V_drew HO689.out)
  have n1_ := Aside0.mk (Kd.R_drew HO692.out)
  have n2_ := Aside0.mk (Kd.V_drew HO700.out)
  have n3_ := Aside0.mk (Kd.V_drew HO706.out)
  have n4_ := Aside0.mk (Kd.V_drew HO711.out)
  have n5_ := Aside0.mk (Kd.V_drew HO716.out)
  have n6_ := Aside0.mk (Kd.V_drew HO721.out)
  have n7_ := Aside0.mk (Kd.V_drew HO726.out)
  have n8_ := Aside0.mk (blk_drew BK683.out)
  have n9_ := Aside0.mk (blk_drew BK693.out)
  have n10_ := Aside0.mk (blk_drew BK702.out)
  have n11_ := Aside0.mk (below_drew1 HB.out)
  clear HO689
  clear HO692
  clear HO700
  clear HO706
  clear HO711
  clear HO716
  clear HO721
  clear HO726
  clear BK683
  clear BK693
  clear BK702
  clear HB
  have HO689 := n0_
  have HO692 := n1_
  have HO700 := n2_
  have HO706 := n3_
  have HO711 := n4_
  have HO716 := n5_
  have HO721 := n6_
  have HO726 := n7_
  have BK683 := n8_
  have BK693 := n9_
  have BK702 := n10_
  have HB := n11_
  clear n0_ n1_ n2_ n3_ n4_ n5_ n6_ n7_ n8_ n9_ n10_ n11_
  refine start_ (n := 6) (S := fun w' => w'.cell? ⟨gb702, 0, none⟩ = some (.int .i64 t723) ∧ w'.cell? ⟨gb702, 1, none⟩ = some (.slice Ao69 t724.length co69) ∧ w'.cell? ⟨gb693, 0, none⟩ = some (.int .i64 t686) ∧ w'.cell? ⟨gb693, 1, none⟩ = some (.slice Ao29 t687.length co29)) (ds := []) #[false, false, false, false, false, false] (by kernel_rfl) rfl rfl ⟨(blk_cell BK702.out 0).trans rfl, (blk_cell BK702.out 1).trans rfl, (blk_cell BK693.out 0).trans rfl, (blk_cell BK693.out 1).trans rfl⟩ (fun hHeld => ?_)
  generalize w70.drew = w71 at HO689 HO692 HO700 HO706 HO711 HO716 HO721 HO726 BK683 BK693 BK702 HB hHeld ⊢
  refine pure_ (i := 2) (N := some 95) (v := ?_) (a' := ?_) #[false, false, true, false, false, false] rfl rfl (by kernel_rfl) (fun _ _ _ h => h) (Or.inl ⟨by rfl, ?_⟩) ?_ ?_
  rotate_left
  ·intro w'
   go_simp
   with_reducible rfl
  rotate_left
  ·simp only [Act.put, List.setIfInBounds_toArray, List.set_cons_zero, List.set_cons_succ, i64_w, i32_w]
   rfl
  refine take_ (i := 0) (N := some 93) (v := ?_) (a' := ?_) #[true, false, true, false, false, false] rfl rfl (by kernel_rfl) (fun _ _ _ h => h) (Or.inl ⟨by rfl, ?_⟩) hHeld ?_ ?_
  rotate_left
  ·rintro w' ⟨s0, s1, s2, s3⟩
   go_simp
   with_reducible rfl
  rotate_left
  ·simp only [Act.put, List.setIfInBounds_toArray, List.set_cons_zero, List.set_cons_succ, i64_w, i32_w]
   rfl
  refine take_ (i := 1) (N := some 94) (v := ?_) (a' := ?_) #[true, true, true, false, false, false] rfl rfl (by kernel_rfl) (fun _ _ _ h => h) (Or.inl ⟨by rfl, ?_⟩) hHeld ?_ ?_
  rotate_left
  ·rintro w' ⟨s0, s1, s2, s3⟩
   go_simp
   with_reducible rfl
  rotate_left
  ·simp only [Act.put, List.setIfInBounds_toArray, List.set_cons_zero, List.set_cons_succ, i64_w, i32_w]
   rfl
  refine one_ (i := 3) (N := some 96) #[true, true, true, true, false, false] rfl rfl (by kernel_rfl) (by decide) (fun K hK => ?_)
  refine goes_ Try.func26 (by kernel_rfl) rfl #[.agg #[.int .i64 t686, .slice Ao29 t687.length co29], .slice A3 l3.length c3] (by rfl) rfl rfl (by (try simp only [List.map_toArray, List.map_cons, List.map_nil]); first | done | rfl | (simp only [List.length_drop, List.length_take]; rfl)) ?_
  with_reducible refine (proofmarklaw13_Bits.calls k t686 _ _ t687 _ _ l3 t728 _ ?side1 ?side2 ?side3 ?side4 A20.out).mono ?_
  (case side1 => repeat (first | exact (Kd.V_reads' HO689.out).2.2 | (with_reducible refine Kd.C_alloc ?_ _) | (with_reducible refine Kd.C_drewN ?_ _) | (with_reducible refine Kd.C_drew ?_)))
  (case side2 => exact (Kd.V_reads' HO689.out).2.1)
  (case side3 => repeat (first | exact (Kd.C_below HR3.out HB.out) | (with_reducible refine Kd.C_alloc ?_ _) | (with_reducible refine Kd.C_drewN ?_ _) | (with_reducible refine Kd.C_drew ?_)))
  (case side4 => exact HC3.out)
  rintro e w72 ⟨v729, rfl, ho0, hb⟩
  refine ⟨_, rfl, ?_⟩
  have n0_ := Aside0.mk (Kd.V_elder' (by (with_reducible repeat (first | apply Kd.V_alloc | apply Kd.V_drewN | apply Kd.V_drew)); exact HO689.out) (Kd.R_base ho0) hb)
  have n1_ := Aside0.mk (Kd.R_below (by (with_reducible repeat (first | apply Kd.R_alloc | apply Kd.R_drewN | apply Kd.R_drew)); exact HO692.out) hb)
  have n2_ := Aside0.mk (Kd.V_elder' (by (with_reducible repeat (first | apply Kd.V_alloc | apply Kd.V_drewN | apply Kd.V_drew)); exact HO700.out) (Kd.R_base ho0) hb)
  have n3_ := Aside0.mk (Kd.V_elder' (by (with_reducible repeat (first | apply Kd.V_alloc | apply Kd.V_drewN | apply Kd.V_drew)); exact HO706.out) (Kd.R_base ho0) hb)
  have n4_ := Aside0.mk (Kd.V_elder' (by (with_reducible repeat (first | apply Kd.V_alloc | apply Kd.V_drewN | apply Kd.V_drew)); exact HO711.out) (Kd.R_base ho0) hb)
  have n5_ := Aside0.mk (Kd.V_elder' (by (with_reducible repeat (first | apply Kd.V_alloc | apply Kd.V_drewN | apply Kd.V_drew)); exact HO716.out) (Kd.R_base ho0) hb)
  have n6_ := Aside0.mk (Kd.V_elder' (by (with_reducible repeat (first | apply Kd.V_alloc | apply Kd.V_drewN | apply Kd.V_drew)); exact HO721.out) (Kd.R_base ho0) hb)
  have n7_ := Aside0.mk (Kd.V_elder' (by (with_reducible repeat (first | apply Kd.V_alloc | apply Kd.V_drewN | apply Kd.V_drew)); exact HO726.out) (Kd.R_base ho0) hb)
  have n8_ := Aside0.mk (Kd.R_lower ho0 (below_size (by repeat (first | (with_reducible first | exact HB.out | apply below_alloc | apply pw_below_drewN | apply below_drew1 | refine below_set ?_ GE683.out | refine below_set ?_ GE693.out | refine below_set ?_ GE702.out) | exact HB.out))))
  have n9_ := Aside0.mk (blk_below (g := gb683) (o := .cells #[.int .u8 a2_0, .int .u16 a2_1, .int .u16 a2_2, .int .u16 a2_3] 28 (0, 0)) (by (with_reducible repeat (first | refine blk_drewN ?_ _ | refine blk_drew ?_ | refine blk_alloc ?_ _)); exact BK683.out) hb)
  have n10_ := Aside0.mk (blk_below (g := gb693) (o := .cells #[.int .i64 t686, .slice Ao29 t687.length co29] 24 (0, 0)) (by (with_reducible repeat (first | refine blk_drewN ?_ _ | refine blk_drew ?_ | refine blk_alloc ?_ _)); exact BK693.out) hb)
  have n11_ := Aside0.mk (blk_below (g := gb702) (o := .cells #[.int .i64 t723, .slice Ao69 t724.length co69] 24 (0, 0)) (by (with_reducible repeat (first | refine blk_drewN ?_ _ | refine blk_drew ?_ | refine blk_alloc ?_ _)); exact BK702.out) hb)
  have n12_ := Aside0.mk (below_step (by repeat (first | (with_reducible first | exact HB.out | apply below_alloc | apply pw_below_drewN | apply below_drew1 | refine below_set ?_ GE683.out | refine below_set ?_ GE693.out | refine below_set ?_ GE702.out) | exact HB.out)) hb)
  clear HO689
  clear HO692
  clear HO700
  clear HO706
  clear HO711
  clear HO716
  clear HO721
  clear HO726
  clear BK683
  clear BK693
  clear BK702
  clear HB
  have HO689 := n0_
  have HO692 := n1_
  have HO700 := n2_
  have HO706 := n3_
  have HO711 := n4_
  have HO716 := n5_
  have HO721 := n6_
  have HO726 := n7_
  have HO730 := n8_
  have BK683 := n9_
  have BK693 := n10_
  have BK702 := n11_
  have HB := n12_
  clear n0_ n1_ n2_ n3_ n4_ n5_ n6_ n7_ n8_ n9_ n10_ n11_ n12_
  (try clear hb)
  (try clear hb2)
  (try clear hk)
  (try clear hi)
  (try clear ho0)
  obtain ⟨Ao73, co73, eo73⟩ := Kd.R_slice HO730.out
  (first | subst eo73 | (injection eo73 with f1_ f2_ f3_; have f4_ := f1_.symm; have f5_ := f3_.symm; clear f1_ f2_ f3_; subst f4_; subst f5_))
  refine hK.out _ _ ⟨(blk_cell BK702.out 0).trans rfl, (blk_cell BK702.out 1).trans rfl, (blk_cell BK693.out 0).trans rfl, (blk_cell BK693.out 1).trans rfl⟩ (fun hHeld => ?_)
  clear hK K
  refine norm_ (a' := ?_) ?_ ?_
  rotate_left
  ·show Act.put _ (some 96) _ = _
   simp only [Act.put, List.setIfInBounds_toArray, List.set_cons_zero, List.set_cons_succ, i64_w, i32_w]
   rfl
  refine one_ (i := 4) (N := some 97) #[true, true, true, true, true, false] rfl rfl (by kernel_rfl) (by decide) (fun K hK => ?_)
  refine goes_ Try.func25 (by kernel_rfl) rfl #[.agg #[.int .i64 t723, .slice Ao69 t724.length co69], .slice Ao73 t728.length co73] (by rfl) rfl rfl (by (try simp only [List.map_toArray, List.map_cons, List.map_nil]); first | done | rfl | (simp only [List.length_drop, List.length_take]; rfl)) ?_
  with_reducible refine (aig_Eval.calls k t723 _ _ t724 _ _ t728 t731 _ ?side1 ?side2 ?side3 ?side4 A21.out).mono ?_
  (case side1 => repeat (first | exact (Kd.V_reads' HO726.out).2.2 | (with_reducible refine Kd.C_alloc ?_ _) | (with_reducible refine Kd.C_drewN ?_ _) | (with_reducible refine Kd.C_drew ?_)))
  (case side2 => exact (Kd.V_reads' HO726.out).2.1)
  (case side3 => repeat (first | exact (Kd.R_reads' HO730.out).2.2 | (with_reducible refine Kd.C_alloc ?_ _) | (with_reducible refine Kd.C_drewN ?_ _) | (with_reducible refine Kd.C_drew ?_)))
  (case side4 => exact (Kd.R_reads' HO730.out).2.1)
  rintro e w74 ⟨v732, rfl, ho0, hb⟩
  refine ⟨_, rfl, ?_⟩
  have n0_ := Aside0.mk (Kd.V_elder' (by (with_reducible repeat (first | apply Kd.V_alloc | apply Kd.V_drewN | apply Kd.V_drew)); exact HO689.out) (Kd.R_base ho0) hb)
  have n1_ := Aside0.mk (Kd.R_below (by (with_reducible repeat (first | apply Kd.R_alloc | apply Kd.R_drewN | apply Kd.R_drew)); exact HO692.out) hb)
  have n2_ := Aside0.mk (Kd.V_elder' (by (with_reducible repeat (first | apply Kd.V_alloc | apply Kd.V_drewN | apply Kd.V_drew)); exact HO700.out) (Kd.R_base ho0) hb)
  have n3_ := Aside0.mk (Kd.V_elder' (by (with_reducible repeat (first | apply Kd.V_alloc | apply Kd.V_drewN | apply Kd.V_drew)); exact HO706.out) (Kd.R_base ho0) hb)
  have n4_ := Aside0.mk (Kd.V_elder' (by (with_reducible repeat (first | apply Kd.V_alloc | apply Kd.V_drewN | apply Kd.V_drew)); exact HO711.out) (Kd.R_base ho0) hb)
  have n5_ := Aside0.mk (Kd.V_elder' (by (with_reducible repeat (first | apply Kd.V_alloc | apply Kd.V_drewN | apply Kd.V_drew)); exact HO716.out) (Kd.R_base ho0) hb)
  have n6_ := Aside0.mk (Kd.V_elder' (by (with_reducible repeat (first | apply Kd.V_alloc | apply Kd.V_drewN | apply Kd.V_drew)); exact HO721.out) (Kd.R_base ho0) hb)
  have n7_ := Aside0.mk (Kd.V_elder' (by (with_reducible repeat (first | apply Kd.V_alloc | apply Kd.V_drewN | apply Kd.V_drew)); exact HO726.out) (Kd.R_base ho0) hb)
  have n8_ := Aside0.mk (Kd.R_elder' (by (with_reducible repeat (first | apply Kd.R_alloc | apply Kd.R_drewN | apply Kd.R_drew)); exact HO730.out) (Kd.R_base ho0) hb)
  have n9_ := Aside0.mk (Kd.R_lower (Kd.R_new' ho0 (Kd.R_lt (by (with_reducible repeat (first | apply Kd.R_alloc | apply Kd.R_drewN | apply Kd.R_drew)); exact HO730.out))) (below_size (by repeat (first | (with_reducible first | exact HB.out | apply below_alloc | apply pw_below_drewN | apply below_drew1 | refine below_set ?_ GE683.out | refine below_set ?_ GE693.out | refine below_set ?_ GE702.out) | exact HB.out))))
  have n10_ := Aside0.mk (blk_below (g := gb683) (o := .cells #[.int .u8 a2_0, .int .u16 a2_1, .int .u16 a2_2, .int .u16 a2_3] 28 (0, 0)) (by (with_reducible repeat (first | refine blk_drewN ?_ _ | refine blk_drew ?_ | refine blk_alloc ?_ _)); exact BK683.out) hb)
  have n11_ := Aside0.mk (blk_below (g := gb693) (o := .cells #[.int .i64 t686, .slice Ao29 t687.length co29] 24 (0, 0)) (by (with_reducible repeat (first | refine blk_drewN ?_ _ | refine blk_drew ?_ | refine blk_alloc ?_ _)); exact BK693.out) hb)
  have n12_ := Aside0.mk (blk_below (g := gb702) (o := .cells #[.int .i64 t723, .slice Ao69 t724.length co69] 24 (0, 0)) (by (with_reducible repeat (first | refine blk_drewN ?_ _ | refine blk_drew ?_ | refine blk_alloc ?_ _)); exact BK702.out) hb)
  have n13_ := Aside0.mk (below_step (by repeat (first | (with_reducible first | exact HB.out | apply below_alloc | apply pw_below_drewN | apply below_drew1 | refine below_set ?_ GE683.out | refine below_set ?_ GE693.out | refine below_set ?_ GE702.out) | exact HB.out)) hb)
  clear HO689
  clear HO692
  clear HO700
  clear HO706
  clear HO711
  clear HO716
  clear HO721
  clear HO726
  clear HO730
  clear BK683
  clear BK693
  clear BK702
  clear HB
  have HO689 := n0_
  have HO692 := n1_
  have HO700 := n2_
  have HO706 := n3_
  have HO711 := n4_
  have HO716 := n5_
  have HO721 := n6_
  have HO726 := n7_
  have HO730 := n8_
  have HO733 := n9_
  have BK683 := n10_
  have BK693 := n11_
  have BK702 := n12_
  have HB := n13_
  clear n0_ n1_ n2_ n3_ n4_ n5_ n6_ n7_ n8_ n9_ n10_ n11_ n12_ n13_
  (try clear hb)
  (try clear hb2)
  (try clear hk)
  (try clear hi)
  (try clear ho0)
  refine hK.out _ _ ⟨(blk_cell BK702.out 0).trans rfl, (blk_cell BK702.out 1).trans rfl, (blk_cell BK693.out 0).trans rfl, (blk_cell BK693.out 1).trans rfl⟩ (fun hHeld => ?_)
  clear hK K
  refine norm_ (a' := ?_) ?_ ?_
  rotate_left
  ·show Act.put _ (some 97) _ = _
   simp only [Act.put, List.setIfInBounds_toArray, List.set_cons_zero, List.set_cons_succ, i64_w, i32_w]
   rfl
  refine pure_ (i := 5) (N := some 22) (v := ?_) (a' := ?_) #[true, true, true, true, true, true] rfl rfl (by kernel_rfl) (fun _ _ _ h => h) (Or.inl ⟨by rfl, ?_⟩) ?_ ?_
  rotate_left
  ·intro w'
   go_simp
   with_reducible rfl
  rotate_left
  ·simp only [Act.put, List.setIfInBounds_toArray, List.set_cons_zero, List.set_cons_succ, i64_w, i32_w]
   rfl
  refine done_ (by kernel_rfl) ?_
  go_upto_region 15 with (fail)
  go_cut [137] (fun v137 wc => ∃ (kq : Nat) (x137_21 : Bool), v137 = .bool x137_21 ∧ Aside0 (proofmarklaw13_AigTurn.j0 kq t684 t701 t707 t712 t717 t722 t727 t731 x137_21 = some r) ∧ Aside0 (kq ≤ k) ∧ Aside0 (Kd.R Kd.bool 4 wc w.heap.size (fun _ => True) v732 t731) ∧ Aside0 (Kd.V k50 50 wc w.heap.size (fun k_ => some k_ ≠ (v732 : Value).ownBlock ∧ k_ ≠ gb683 ∧ k_ ≠ gb693 ∧ k_ ≠ gb702) (.slice Ao29 t687.length co29) t687) ∧ Aside0 (Kd.V k50 50 wc w.heap.size (fun k_ => some k_ ≠ (v732 : Value).ownBlock ∧ k_ ≠ gb683 ∧ k_ ≠ gb693 ∧ k_ ≠ gb702) (.slice Ao69 t724.length co69) t724) ∧ Aside0 (wc.heap[gb683]? = some (.cells #[.int .u8 a2_0, .int .u16 a2_1, .int .u16 a2_2, .int .u16 a2_3] 28 (0, 0))) ∧ Aside0 (wc.heap[gb693]? = some (.cells #[.int .i64 t686, (.slice Ao29 t687.length co29)] 24 (0, 0))) ∧ Aside0 (wc.heap[gb702]? = some (.cells #[.int .i64 t723, (.slice Ao69 t724.length co69)] 24 (0, 0))) ∧ Aside0 (Below w.heap.size w wc))
  case first =>
   have H := HC22.out
   clear HC22
   by_cases c75 : t723 = t686
   ·rw [if_pos c75] at H
    have c75b0 : (t723 == t686) = true := beq_iff_eq.mpr c75
    have c75b1 : (t723 != t686) = false := bne_eq_false_iff_eq.mpr c75
    clear c75
    (first | rw [c75b0] | (simp only [i64_w, i32_w]; rw [c75b0]) | skip)
    by_cases c76 : (t731.length : Int) = (wrap64 ((wrap64 (1 + t723)) + (t724.length : Int)))
    ·rw [if_pos c76] at H
     have c76b0 : ((t731.length : Int) == (wrap64 ((wrap64 (1 + t723)) + (t724.length : Int)))) = true := beq_iff_eq.mpr c76
     have c76b1 : ((t731.length : Int) != (wrap64 ((wrap64 (1 + t723)) + (t724.length : Int)))) = false := bne_eq_false_iff_eq.mpr c76
     clear c76
     obtain ⟨ji77, hji77⟩ : ∃ j_ : Int, (mx t701 t707) = j_ := ⟨_, rfl⟩
     replace H : (if (mx (mx (mx (mx (ji77) t712) t717) t722) t727) ≥ (wrap64 (2 * (t731.length : Int))) then (proofmarklaw13_AigTurn.j0 k t684 t701 t707 t712 t717 t722 t727 t731 true) else (proofmarklaw13_AigTurn.j0 k t684 t701 t707 t712 t717 t722 t727 t731 (decide ((mn (mn (mn (mn (mn t701 t707) t712) t717) t722) t727) < 0)))) = some r := by first | (rw [hji77] at H; exact H) | (simp only [hji77] at H ⊢; exact H)
     have hji77_ : (if t701 < t707 then t707 else t701) = ji77 := hji77
     obtain ⟨ji78, hji78⟩ : ∃ j_ : Int, (mx (ji77) t712) = j_ := ⟨_, rfl⟩
     replace H : (if (mx (mx (mx (ji78) t717) t722) t727) ≥ (wrap64 (2 * (t731.length : Int))) then (proofmarklaw13_AigTurn.j0 k t684 t701 t707 t712 t717 t722 t727 t731 true) else (proofmarklaw13_AigTurn.j0 k t684 t701 t707 t712 t717 t722 t727 t731 (decide ((mn (mn (mn (mn (mn t701 t707) t712) t717) t722) t727) < 0)))) = some r := by first | (rw [hji78] at H; exact H) | (simp only [hji78] at H ⊢; exact H)
     have hji78_ : (if (ji77) < t712 then t712 else (ji77)) = ji78 := hji78
     obtain ⟨ji79, hji79⟩ : ∃ j_ : Int, (mx (ji78) t717) = j_ := ⟨_, rfl⟩
     replace H : (if (mx (mx (ji79) t722) t727) ≥ (wrap64 (2 * (t731.length : Int))) then (proofmarklaw13_AigTurn.j0 k t684 t701 t707 t712 t717 t722 t727 t731 true) else (proofmarklaw13_AigTurn.j0 k t684 t701 t707 t712 t717 t722 t727 t731 (decide ((mn (mn (mn (mn (mn t701 t707) t712) t717) t722) t727) < 0)))) = some r := by first | (rw [hji79] at H; exact H) | (simp only [hji79] at H ⊢; exact H)
     have hji79_ : (if (ji78) < t717 then t717 else (ji78)) = ji79 := hji79
     obtain ⟨ji80, hji80⟩ : ∃ j_ : Int, (mx (ji79) t722) = j_ := ⟨_, rfl⟩
     replace H : (if (mx (ji80) t727) ≥ (wrap64 (2 * (t731.length : Int))) then (proofmarklaw13_AigTurn.j0 k t684 t701 t707 t712 t717 t722 t727 t731 true) else (proofmarklaw13_AigTurn.j0 k t684 t701 t707 t712 t717 t722 t727 t731 (decide ((mn (mn (mn (mn (mn t701 t707) t712) t717) t722) t727) < 0)))) = some r := by first | (rw [hji80] at H; exact H) | (simp only [hji80] at H ⊢; exact H)
     have hji80_ : (if (ji79) < t722 then t722 else (ji79)) = ji80 := hji80
     obtain ⟨ji81, hji81⟩ : ∃ j_ : Int, (mx (ji80) t727) = j_ := ⟨_, rfl⟩
     replace H : (if (ji81) ≥ (wrap64 (2 * (t731.length : Int))) then (proofmarklaw13_AigTurn.j0 k t684 t701 t707 t712 t717 t722 t727 t731 true) else (proofmarklaw13_AigTurn.j0 k t684 t701 t707 t712 t717 t722 t727 t731 (decide ((mn (mn (mn (mn (mn t701 t707) t712) t717) t722) t727) < 0)))) = some r := by first | (rw [hji81] at H; exact H) | (simp only [hji81] at H ⊢; exact H)
     have hji81_ : (if (ji80) < t727 then t727 else (ji80)) = ji81 := hji81
     by_cases c82 : (ji81) ≥ (wrap64 (2 * (t731.length : Int)))
     ·rw [if_pos c82] at H
      have c82b0 : decide ((wrap64 (2 * (t731.length : Int))) ≤ (ji81)) = true := decide_eq_true c82
      clear c82
      have H' := Aside0.mk H
      clear H
      have hnb83 := NB702_683.out
      have hnc83 := NB683_702.out
      have hnb84 := NB702_693.out
      have hnc84 := NB693_702.out
      have hcz85_0 : w74.cell? ⟨gb702, 0, none⟩ = some (.int .i64 t723) := (blk_cell BK702.out 0).trans rfl
      have hcz85_1 : w74.cell? ⟨gb702, 1, none⟩ = some (.slice Ao69 t724.length co69) := (blk_cell BK702.out 1).trans rfl
      have hfz85_0 := blk_frozen BK702.out 0
      have hfz85_1 := blk_frozen BK702.out 1
      have hnb86 := NB693_683.out
      have hnc86 := NB683_693.out
      have hcz87_0 : w74.cell? ⟨gb693, 0, none⟩ = some (.int .i64 t686) := (blk_cell BK693.out 0).trans rfl
      have hcz87_1 : w74.cell? ⟨gb693, 1, none⟩ = some (.slice Ao29 t687.length co29) := (blk_cell BK693.out 1).trans rfl
      have hfz87_0 := blk_frozen BK693.out 0
      have hfz87_1 := blk_frozen BK693.out 1
      obtain ⟨Ao88, co88, eo88⟩ := Kd.R_slice HO733.out
      subst eo88
      go_wp2
      go_meet
      case rel => exact ⟨_, (true), (by first | rfl | (simp; done) | (simp [*]; done)), H', ⟨by first | omega | exact Nat.le_refl _⟩, ⟨by (with_reducible repeat (first | apply Kd.R_alloc | apply Kd.R_drewN | apply Kd.R_drew)); exact Kd.R_mono HO733.out (fun _ hk => trivial)⟩, ⟨by (with_reducible repeat (first | apply Kd.V_alloc | apply Kd.V_drewN | apply Kd.V_drew)); exact Kd.V_mono HO689.out (fun _ hk => ⟨hk.2, ⟨hk.1.1.2.1, ⟨hk.1.1.2.2.1, hk.1.1.2.2.2⟩⟩⟩)⟩, ⟨by (with_reducible repeat (first | apply Kd.V_alloc | apply Kd.V_drewN | apply Kd.V_drew)); exact Kd.V_mono HO726.out (fun _ hk => ⟨hk.2, ⟨hk.1.1.2.1, ⟨hk.1.1.2.2.1, hk.1.1.2.2.2⟩⟩⟩)⟩, ⟨by (with_reducible repeat (first | refine blk_drewN ?_ _ | refine blk_drew ?_ | refine blk_alloc ?_ _)); exact BK683.out⟩, ⟨by (with_reducible repeat (first | refine blk_drewN ?_ _ | refine blk_drew ?_ | refine blk_alloc ?_ _)); exact BK693.out⟩, ⟨by (with_reducible repeat (first | refine blk_drewN ?_ _ | refine blk_drew ?_ | refine blk_alloc ?_ _)); exact BK702.out⟩, ⟨by repeat (first | (with_reducible first | exact HB.out | apply below_alloc | apply pw_below_drewN | apply below_drew1 | refine below_set ?_ GE683.out | refine below_set ?_ GE693.out | refine below_set ?_ GE702.out) | exact HB.out)⟩⟩
     ·rw [if_neg c82] at H
      have c82b0 : decide ((wrap64 (2 * (t731.length : Int))) ≤ (ji81)) = false := decide_eq_false c82
      clear c82
      obtain ⟨ji89, hji89⟩ : ∃ j_ : Int, (mn t701 t707) = j_ := ⟨_, rfl⟩
      replace H : (proofmarklaw13_AigTurn.j0 k t684 t701 t707 t712 t717 t722 t727 t731 (decide ((mn (mn (mn (mn (ji89) t712) t717) t722) t727) < 0))) = some r := by first | (rw [hji89] at H; exact H) | (simp only [hji89] at H ⊢; exact H)
      have hji89_ : (if t707 < t701 then t707 else t701) = ji89 := hji89
      obtain ⟨ji90, hji90⟩ : ∃ j_ : Int, (mn (ji89) t712) = j_ := ⟨_, rfl⟩
      replace H : (proofmarklaw13_AigTurn.j0 k t684 t701 t707 t712 t717 t722 t727 t731 (decide ((mn (mn (mn (ji90) t717) t722) t727) < 0))) = some r := by first | (rw [hji90] at H; exact H) | (simp only [hji90] at H ⊢; exact H)
      have hji90_ : (if t712 < (ji89) then t712 else (ji89)) = ji90 := hji90
      obtain ⟨ji91, hji91⟩ : ∃ j_ : Int, (mn (ji90) t717) = j_ := ⟨_, rfl⟩
      replace H : (proofmarklaw13_AigTurn.j0 k t684 t701 t707 t712 t717 t722 t727 t731 (decide ((mn (mn (ji91) t722) t727) < 0))) = some r := by first | (rw [hji91] at H; exact H) | (simp only [hji91] at H ⊢; exact H)
      have hji91_ : (if t717 < (ji90) then t717 else (ji90)) = ji91 := hji91
      obtain ⟨ji92, hji92⟩ : ∃ j_ : Int, (mn (ji91) t722) = j_ := ⟨_, rfl⟩
      replace H : (proofmarklaw13_AigTurn.j0 k t684 t701 t707 t712 t717 t722 t727 t731 (decide ((mn (ji92) t727) < 0))) = some r := by first | (rw [hji92] at H; exact H) | (simp only [hji92] at H ⊢; exact H)
      have hji92_ : (if t722 < (ji91) then t722 else (ji91)) = ji92 := hji92
      obtain ⟨ji93, hji93⟩ : ∃ j_ : Int, (mn (ji92) t727) = j_ := ⟨_, rfl⟩
      replace H : (proofmarklaw13_AigTurn.j0 k t684 t701 t707 t712 t717 t722 t727 t731 (decide ((ji93) < 0))) = some r := by first | (rw [hji93] at H; exact H) | (simp only [hji93] at H ⊢; exact H)
      have hji93_ : (if t727 < (ji92) then t727 else (ji92)) = ji93 := hji93
      have H' := Aside0.mk H
      clear H
      have hnb94 := NB702_683.out
      have hnc94 := NB683_702.out
      have hnb95 := NB702_693.out
      have hnc95 := NB693_702.out
      have hcz96_0 : w74.cell? ⟨gb702, 0, none⟩ = some (.int .i64 t723) := (blk_cell BK702.out 0).trans rfl
      have hcz96_1 : w74.cell? ⟨gb702, 1, none⟩ = some (.slice Ao69 t724.length co69) := (blk_cell BK702.out 1).trans rfl
      have hfz96_0 := blk_frozen BK702.out 0
      have hfz96_1 := blk_frozen BK702.out 1
      have hnb97 := NB693_683.out
      have hnc97 := NB683_693.out
      have hcz98_0 : w74.cell? ⟨gb693, 0, none⟩ = some (.int .i64 t686) := (blk_cell BK693.out 0).trans rfl
      have hcz98_1 : w74.cell? ⟨gb693, 1, none⟩ = some (.slice Ao29 t687.length co29) := (blk_cell BK693.out 1).trans rfl
      have hfz98_0 := blk_frozen BK693.out 0
      have hfz98_1 := blk_frozen BK693.out 1
      obtain ⟨Ao99, co99, eo99⟩ := Kd.R_slice HO733.out
      subst eo99
      go_wp2
      go_meet
      case rel => exact ⟨_, (decide ((ji93) < 0)), (by first | rfl | (simp; done) | (simp only [← hji93] <;> (first | rfl | simp)) | (simp [*]; done)), H', ⟨by first | omega | exact Nat.le_refl _⟩, ⟨by (with_reducible repeat (first | apply Kd.R_alloc | apply Kd.R_drewN | apply Kd.R_drew)); exact Kd.R_mono HO733.out (fun _ hk => trivial)⟩, ⟨by (with_reducible repeat (first | apply Kd.V_alloc | apply Kd.V_drewN | apply Kd.V_drew)); exact Kd.V_mono HO689.out (fun _ hk => ⟨hk.2, ⟨hk.1.1.2.1, ⟨hk.1.1.2.2.1, hk.1.1.2.2.2⟩⟩⟩)⟩, ⟨by (with_reducible repeat (first | apply Kd.V_alloc | apply Kd.V_drewN | apply Kd.V_drew)); exact Kd.V_mono HO726.out (fun _ hk => ⟨hk.2, ⟨hk.1.1.2.1, ⟨hk.1.1.2.2.1, hk.1.1.2.2.2⟩⟩⟩)⟩, ⟨by (with_reducible repeat (first | refine blk_drewN ?_ _ | refine blk_drew ?_ | refine blk_alloc ?_ _)); exact BK683.out⟩, ⟨by (with_reducible repeat (first | refine blk_drewN ?_ _ | refine blk_drew ?_ | refine blk_alloc ?_ _)); exact BK693.out⟩, ⟨by (with_reducible repeat (first | refine blk_drewN ?_ _ | refine blk_drew ?_ | refine blk_alloc ?_ _)); exact BK702.out⟩, ⟨by repeat (first | (with_reducible first | exact HB.out | apply below_alloc | apply pw_below_drewN | apply below_drew1 | refine below_set ?_ GE683.out | refine below_set ?_ GE693.out | refine below_set ?_ GE702.out) | exact HB.out)⟩⟩
    ·rw [if_neg c76] at H
     have c76b0 : ((t731.length : Int) == (wrap64 ((wrap64 (1 + t723)) + (t724.length : Int)))) = false := beq_eq_false_iff_ne.mpr c76
     have c76b1 : ((t731.length : Int) != (wrap64 ((wrap64 (1 + t723)) + (t724.length : Int)))) = true := bne_iff_ne.mpr c76
     have H' := Aside0.mk H
     clear H
     have hnb100 := NB702_683.out
     have hnc100 := NB683_702.out
     have hnb101 := NB702_693.out
     have hnc101 := NB693_702.out
     have hcz102_0 : w74.cell? ⟨gb702, 0, none⟩ = some (.int .i64 t723) := (blk_cell BK702.out 0).trans rfl
     have hcz102_1 : w74.cell? ⟨gb702, 1, none⟩ = some (.slice Ao69 t724.length co69) := (blk_cell BK702.out 1).trans rfl
     have hfz102_0 := blk_frozen BK702.out 0
     have hfz102_1 := blk_frozen BK702.out 1
     have hnb103 := NB693_683.out
     have hnc103 := NB683_693.out
     have hcz104_0 : w74.cell? ⟨gb693, 0, none⟩ = some (.int .i64 t686) := (blk_cell BK693.out 0).trans rfl
     have hcz104_1 : w74.cell? ⟨gb693, 1, none⟩ = some (.slice Ao29 t687.length co29) := (blk_cell BK693.out 1).trans rfl
     have hfz104_0 := blk_frozen BK693.out 0
     have hfz104_1 := blk_frozen BK693.out 1
     obtain ⟨Ao105, co105, eo105⟩ := Kd.R_slice HO733.out
     subst eo105
     go_wp2
     go_meet
     case rel => exact ⟨_, (true), (by first | rfl | (simp; done) | (simp [*]; done)), H', ⟨by first | omega | exact Nat.le_refl _⟩, ⟨by (with_reducible repeat (first | apply Kd.R_alloc | apply Kd.R_drewN | apply Kd.R_drew)); exact Kd.R_mono HO733.out (fun _ hk => trivial)⟩, ⟨by (with_reducible repeat (first | apply Kd.V_alloc | apply Kd.V_drewN | apply Kd.V_drew)); exact Kd.V_mono HO689.out (fun _ hk => ⟨hk.2, ⟨hk.1.1.2.1, ⟨hk.1.1.2.2.1, hk.1.1.2.2.2⟩⟩⟩)⟩, ⟨by (with_reducible repeat (first | apply Kd.V_alloc | apply Kd.V_drewN | apply Kd.V_drew)); exact Kd.V_mono HO726.out (fun _ hk => ⟨hk.2, ⟨hk.1.1.2.1, ⟨hk.1.1.2.2.1, hk.1.1.2.2.2⟩⟩⟩)⟩, ⟨by (with_reducible repeat (first | refine blk_drewN ?_ _ | refine blk_drew ?_ | refine blk_alloc ?_ _)); exact BK683.out⟩, ⟨by (with_reducible repeat (first | refine blk_drewN ?_ _ | refine blk_drew ?_ | refine blk_alloc ?_ _)); exact BK693.out⟩, ⟨by (with_reducible repeat (first | refine blk_drewN ?_ _ | refine blk_drew ?_ | refine blk_alloc ?_ _)); exact BK702.out⟩, ⟨by repeat (first | (with_reducible first | exact HB.out | apply below_alloc | apply pw_below_drewN | apply below_drew1 | refine below_set ?_ GE683.out | refine below_set ?_ GE693.out | refine below_set ?_ GE702.out) | exact HB.out)⟩⟩
   ·rw [if_neg c75] at H
    have c75b0 : (t723 == t686) = false := beq_eq_false_iff_ne.mpr c75
    have c75b1 : (t723 != t686) = true := bne_iff_ne.mpr c75
    (first | rw [c75b0] | (simp only [i64_w, i32_w]; rw [c75b0]) | skip)
    have H' := Aside0.mk H
    clear H
    have hnb106 := NB702_683.out
    have hnc106 := NB683_702.out
    have hnb107 := NB702_693.out
    have hnc107 := NB693_702.out
    have hcz108_0 : w74.cell? ⟨gb702, 0, none⟩ = some (.int .i64 t723) := (blk_cell BK702.out 0).trans rfl
    have hcz108_1 : w74.cell? ⟨gb702, 1, none⟩ = some (.slice Ao69 t724.length co69) := (blk_cell BK702.out 1).trans rfl
    have hfz108_0 := blk_frozen BK702.out 0
    have hfz108_1 := blk_frozen BK702.out 1
    have hnb109 := NB693_683.out
    have hnc109 := NB683_693.out
    have hcz110_0 : w74.cell? ⟨gb693, 0, none⟩ = some (.int .i64 t686) := (blk_cell BK693.out 0).trans rfl
    have hcz110_1 : w74.cell? ⟨gb693, 1, none⟩ = some (.slice Ao29 t687.length co29) := (blk_cell BK693.out 1).trans rfl
    have hfz110_0 := blk_frozen BK693.out 0
    have hfz110_1 := blk_frozen BK693.out 1
    go_wp2
    go_meet
    case rel => exact ⟨_, (true), (by first | rfl | (simp; done) | (simp [*]; done)), H', ⟨by first | omega | exact Nat.le_refl _⟩, ⟨by (with_reducible repeat (first | apply Kd.R_alloc | apply Kd.R_drewN | apply Kd.R_drew)); exact Kd.R_mono HO733.out (fun _ hk => trivial)⟩, ⟨by (with_reducible repeat (first | apply Kd.V_alloc | apply Kd.V_drewN | apply Kd.V_drew)); exact Kd.V_mono HO689.out (fun _ hk => ⟨hk.2, ⟨hk.1.1.2.1, ⟨hk.1.1.2.2.1, hk.1.1.2.2.2⟩⟩⟩)⟩, ⟨by (with_reducible repeat (first | apply Kd.V_alloc | apply Kd.V_drewN | apply Kd.V_drew)); exact Kd.V_mono HO726.out (fun _ hk => ⟨hk.2, ⟨hk.1.1.2.1, ⟨hk.1.1.2.2.1, hk.1.1.2.2.2⟩⟩⟩)⟩, ⟨by (with_reducible repeat (first | refine blk_drewN ?_ _ | refine blk_drew ?_ | refine blk_alloc ?_ _)); exact BK683.out⟩, ⟨by (with_reducible repeat (first | refine blk_drewN ?_ _ | refine blk_drew ?_ | refine blk_alloc ?_ _)); exact BK693.out⟩, ⟨by (with_reducible repeat (first | refine blk_drewN ?_ _ | refine blk_drew ?_ | refine blk_alloc ?_ _)); exact BK702.out⟩, ⟨by repeat (first | (with_reducible first | exact HB.out | apply below_alloc | apply pw_below_drewN | apply below_drew1 | refine below_set ?_ GE683.out | refine below_set ?_ GE693.out | refine below_set ?_ GE702.out) | exact HB.out)⟩⟩
  case rest =>
   clear HC22
   try clear c1
   try clear c2
   try clear p2
   try clear c3
   try clear c4
   try clear p6
   try clear c7
   try clear c8
   try clear c9
   try clear c10
   try clear c11
   try clear c14
   try clear c15
   try clear c16
   try clear c19
   try clear c21
   try clear c23
   try clear c25
   try clear c26
   try clear c27
   try clear c41
   try clear c42
   try clear p64
   try clear c75
   try clear c75b0
   try clear c75b1
   try clear c76
   try clear c76b0
   try clear c76b1
   try clear c82
   try clear c82b0
   try clear c83
   try clear c84
   try clear c86
   try clear c94
   try clear c95
   try clear c97
   try clear c100
   try clear c101
   try clear c103
   try clear c106
   try clear c107
   try clear c109
   try clear hcz102_0
   try clear hcz102_1
   try clear hcz104_0
   try clear hcz104_1
   try clear hcz108_0
   try clear hcz108_1
   try clear hcz110_0
   try clear hcz110_1
   try clear hcz28_0
   try clear hcz28_1
   try clear hcz30_0
   try clear hcz30_1
   try clear hcz30_2
   try clear hcz30_3
   try clear hcz32_0
   try clear hcz32_1
   try clear hcz33_0
   try clear hcz33_1
   try clear hcz33_2
   try clear hcz33_3
   try clear hcz35_0
   try clear hcz35_1
   try clear hcz36_0
   try clear hcz36_1
   try clear hcz36_2
   try clear hcz36_3
   try clear hcz38_0
   try clear hcz38_1
   try clear hcz43_0
   try clear hcz43_1
   try clear hcz46_0
   try clear hcz46_1
   try clear hcz48_0
   try clear hcz48_1
   try clear hcz51_0
   try clear hcz51_1
   try clear hcz53_0
   try clear hcz53_1
   try clear hcz56_0
   try clear hcz56_1
   try clear hcz58_0
   try clear hcz58_1
   try clear hcz61_0
   try clear hcz61_1
   try clear hcz63_0
   try clear hcz63_1
   try clear hcz66_0
   try clear hcz66_1
   try clear hcz68_0
   try clear hcz68_1
   try clear hcz85_0
   try clear hcz85_1
   try clear hcz87_0
   try clear hcz87_1
   try clear hcz96_0
   try clear hcz96_1
   try clear hcz98_0
   try clear hcz98_1
   try clear hfz102_0
   try clear hfz102_1
   try clear hfz104_0
   try clear hfz104_1
   try clear hfz108_0
   try clear hfz108_1
   try clear hfz110_0
   try clear hfz110_1
   try clear hfz28_0
   try clear hfz28_1
   try clear hfz30_0
   try clear hfz30_1
   try clear hfz30_2
   try clear hfz30_3
   try clear hfz32_0
   try clear hfz32_1
   try clear hfz33_0
   try clear hfz33_1
   try clear hfz33_2
   try clear hfz33_3
   try clear hfz35_0
   try clear hfz35_1
   try clear hfz36_0
   try clear hfz36_1
   try clear hfz36_2
   try clear hfz36_3
   try clear hfz38_0
   try clear hfz38_1
   try clear hfz43_0
   try clear hfz43_1
   try clear hfz46_0
   try clear hfz46_1
   try clear hfz48_0
   try clear hfz48_1
   try clear hfz51_0
   try clear hfz51_1
   try clear hfz53_0
   try clear hfz53_1
   try clear hfz56_0
   try clear hfz56_1
   try clear hfz58_0
   try clear hfz58_1
   try clear hfz61_0
   try clear hfz61_1
   try clear hfz63_0
   try clear hfz63_1
   try clear hfz66_0
   try clear hfz66_1
   try clear hfz68_0
   try clear hfz68_1
   try clear hfz85_0
   try clear hfz85_1
   try clear hfz87_0
   try clear hfz87_1
   try clear hfz96_0
   try clear hfz96_1
   try clear hfz98_0
   try clear hfz98_1
   obtain ⟨kq, x137_21, rfl, HA, HJ21, HO_22, HO_694001, HO_703001, BK683, BK693, BK702, HB⟩ := hcut
   cases kq with
   | zero => exact absurd HA.out (by simp [proofmarklaw13_AigTurn.j0])
   | succ kj21 =>
    have H := HA.out
    clear HA
    simp only [proofmarklaw13_AigTurn.j0] at H
    by_cases c111 : x137_21 = true
    ·subst c111
     have H1 : (none) = some r := by rw [if_pos rfl] at H; exact H
     clear H
     have H := H1
     clear H1
     exact absurd H (by simp)
    ·replace c111 := Bool.eq_false_iff.mpr c111
     subst c111
     have H1 : (if t684 = true then ((aig_Lit.f t731 t701).bind fun t734 => ((aig_Lit.f t731 t707).bind fun t735 => (if (t734 != t735) = true then ((aig_Lit.f t731 t712).bind fun t736 => ((aig_Lit.f t731 t717).bind fun t737 => (if (t736 == t737) = true then ((aig_Lit.f t731 t722).bind fun t738 => ((aig_Lit.f t731 t727).bind fun t739 => (some (t738 != t739)))) else (none)))) else (none)))) else (none)) = some r := by rw [if_neg (show ¬ (false = true) by decide)] at H; exact H
     clear H
     have H := H1
     clear H1
     by_cases c112 : t684 = true
     ·subst c112
      have H1 : ((aig_Lit.f t731 t701).bind fun t734 => ((aig_Lit.f t731 t707).bind fun t735 => (if (t734 != t735) = true then ((aig_Lit.f t731 t712).bind fun t736 => ((aig_Lit.f t731 t717).bind fun t737 => (if (t736 == t737) = true then ((aig_Lit.f t731 t722).bind fun t738 => ((aig_Lit.f t731 t727).bind fun t739 => (some (t738 != t739)))) else (none)))) else (none)))) = some r := by rw [if_pos rfl] at H; exact H
      clear H
      have H := H1
      clear H1
      replace H := Option.bind_eq_some_iff.mp H
      obtain ⟨t734, A1130, H⟩ := H
      replace H : ((aig_Lit.f t731 t707).bind fun t735 => (if (t734 != t735) = true then ((aig_Lit.f t731 t712).bind fun t736 => ((aig_Lit.f t731 t717).bind fun t737 => (if (t736 == t737) = true then ((aig_Lit.f t731 t722).bind fun t738 => ((aig_Lit.f t731 t727).bind fun t739 => (some (t738 != t739)))) else (none)))) else (none))) = some r := H
      have A113 := Aside0.mk A1130
      clear A1130
      replace H := Option.bind_eq_some_iff.mp H
      obtain ⟨t735, A1140, H⟩ := H
      replace H : (if (t734 != t735) = true then ((aig_Lit.f t731 t712).bind fun t736 => ((aig_Lit.f t731 t717).bind fun t737 => (if (t736 == t737) = true then ((aig_Lit.f t731 t722).bind fun t738 => ((aig_Lit.f t731 t727).bind fun t739 => (some (t738 != t739)))) else (none)))) else (none)) = some r := H
      have A114 := Aside0.mk A1140
      clear A1140
      by_cases c115 : (t734 != t735) = true
      ·rw [if_pos c115] at H
       have c115b0 : (t734 != t735) = true := c115
       (try (have c115b1 : decide (t734 = t735) = false := by simpa using c115))
       (try (have c115b2 : (t734 == t735) = false := by simpa using c115))
       (try (have c115b3 : ¬ (t734 = t735) := by simpa using c115))
       clear c115
       replace H := Option.bind_eq_some_iff.mp H
       obtain ⟨t736, A1160, H⟩ := H
       replace H : ((aig_Lit.f t731 t717).bind fun t737 => (if (t736 == t737) = true then ((aig_Lit.f t731 t722).bind fun t738 => ((aig_Lit.f t731 t727).bind fun t739 => (some (t738 != t739)))) else (none))) = some r := H
       have A116 := Aside0.mk A1160
       clear A1160
       replace H := Option.bind_eq_some_iff.mp H
       obtain ⟨t737, A1170, H⟩ := H
       replace H : (if (t736 == t737) = true then ((aig_Lit.f t731 t722).bind fun t738 => ((aig_Lit.f t731 t727).bind fun t739 => (some (t738 != t739)))) else (none)) = some r := H
       have A117 := Aside0.mk A1170
       clear A1170
       by_cases c118 : (t736 == t737) = true
       ·rw [if_pos c118] at H
        have c118b0 : (t736 == t737) = true := c118
        (try (have c118b1 : decide (t736 = t737) = true := by simpa using c118))
        (try (have c118b2 : (t736 == t737) = true := by simpa using c118))
        clear c118
        replace H := Option.bind_eq_some_iff.mp H
        obtain ⟨t738, A1190, H⟩ := H
        replace H : ((aig_Lit.f t731 t727).bind fun t739 => (some (t738 != t739))) = some r := H
        have A119 := Aside0.mk A1190
        clear A1190
        replace H := Option.bind_eq_some_iff.mp H
        obtain ⟨t739, A1200, H⟩ := H
        replace H : (some (t738 != t739)) = some r := H
        have A120 := Aside0.mk A1200
        clear A1200
        obtain rfl := Option.some.inj H
        obtain ⟨Ao121, co121, eo121⟩ := Kd.R_slice HO_22.out
        subst eo121
        go_wp2_with (first | (go_at_call 29; (with_reducible refine (aig_Lit.calls _ _ t731 t701 t734 _ ?side1 ?side2 A113.out).mono ?_); (case side1 => repeat (first | exact (Kd.R_reads' HO_22.out).2.2 | (with_reducible refine Kd.C_alloc ?_ _) | (with_reducible refine Kd.C_drewN ?_ _) | (with_reducible refine Kd.C_drew ?_))); (case side2 => exact (Kd.R_reads' HO_22.out).2.1); rintro e w' ⟨rfl, ⟨nd, rfl⟩⟩) | (go_at_call 29; (with_reducible refine (aig_Lit.calls _ _ t731 t707 t735 _ ?side1 ?side2 A114.out).mono ?_); (case side1 => repeat (first | exact (Kd.R_reads' HO_22.out).2.2 | (with_reducible refine Kd.C_alloc ?_ _) | (with_reducible refine Kd.C_drewN ?_ _) | (with_reducible refine Kd.C_drew ?_))); (case side2 => exact (Kd.R_reads' HO_22.out).2.1); rintro e w' ⟨rfl, ⟨nd, rfl⟩⟩) | (go_at_call 29; (with_reducible refine (aig_Lit.calls _ _ t731 t712 t736 _ ?side1 ?side2 A116.out).mono ?_); (case side1 => repeat (first | exact (Kd.R_reads' HO_22.out).2.2 | (with_reducible refine Kd.C_alloc ?_ _) | (with_reducible refine Kd.C_drewN ?_ _) | (with_reducible refine Kd.C_drew ?_))); (case side2 => exact (Kd.R_reads' HO_22.out).2.1); rintro e w' ⟨rfl, ⟨nd, rfl⟩⟩) | (go_at_call 29; (with_reducible refine (aig_Lit.calls _ _ t731 t717 t737 _ ?side1 ?side2 A117.out).mono ?_); (case side1 => repeat (first | exact (Kd.R_reads' HO_22.out).2.2 | (with_reducible refine Kd.C_alloc ?_ _) | (with_reducible refine Kd.C_drewN ?_ _) | (with_reducible refine Kd.C_drew ?_))); (case side2 => exact (Kd.R_reads' HO_22.out).2.1); rintro e w' ⟨rfl, ⟨nd, rfl⟩⟩) | (go_at_call 29; (with_reducible refine (aig_Lit.calls _ _ t731 t722 t738 _ ?side1 ?side2 A119.out).mono ?_); (case side1 => repeat (first | exact (Kd.R_reads' HO_22.out).2.2 | (with_reducible refine Kd.C_alloc ?_ _) | (with_reducible refine Kd.C_drewN ?_ _) | (with_reducible refine Kd.C_drew ?_))); (case side2 => exact (Kd.R_reads' HO_22.out).2.1); rintro e w' ⟨rfl, ⟨nd, rfl⟩⟩) | (go_at_call 29; (with_reducible refine (aig_Lit.calls _ _ t731 t727 t739 _ ?side1 ?side2 A120.out).mono ?_); (case side1 => repeat (first | exact (Kd.R_reads' HO_22.out).2.2 | (with_reducible refine Kd.C_alloc ?_ _) | (with_reducible refine Kd.C_drewN ?_ _) | (with_reducible refine Kd.C_drew ?_))); (case side2 => exact (Kd.R_reads' HO_22.out).2.1); rintro e w' ⟨rfl, ⟨nd, rfl⟩⟩))
        go_ret
        exact ⟨by first | rfl | (simp [errW_none, errW_some] <;> rfl) | (simp [*, errW_none, errW_some] <;> rfl), by repeat (first | (with_reducible first | exact HB.out | apply below_alloc | apply pw_below_drewN | apply below_drew1 | refine below_set ?_ GE683.out | refine below_set ?_ GE693.out | refine below_set ?_ GE702.out) | exact HB.out)⟩
       ·rw [if_neg c118] at H
        exact absurd H (by simp)
      ·rw [if_neg c115] at H
       exact absurd H (by simp)
     ·replace c112 := Bool.eq_false_iff.mpr c112
      subst c112
      have H1 : (none) = some r := by rw [if_neg (show ¬ (false = true) by decide)] at H; exact H
      clear H
      have H := H1
      clear H1
      exact absurd H (by simp)
end Go.Proofs.Ytlnjefcfbncegaa.Xb
