/- Slimmed by this session: what nothing names is struck out. -/
import Derived.Test.YtlnjefcfbncegaaXb0
import Derived.Test.YtlnjefcfbncegaaXb8
import Derived.Test.YtlnjefcfbncegaaXb9
import Derived.Test.YtlnjefcfbncegaaXb10
import Derived.Test.YtlnjefcfbncegaaXb11
import Derived.Test.YtlnjefcfbncegaaXb12
import Derived.Test.YtlnjefcfbncegaaXb13
import Derived.Test.YtlnjefcfbncegaaXb16
import Derived.Test.YtlnjefcfbncegaaXb17
import Derived.Test.YtlnjefcfbncegaaXb20
import Derived.Test.YtlnjefcfbncegaaXb27
import Derived.Test.YtlnjefcfbncegaaXb29
namespace Go.Proofs.Ytlnjefcfbncegaa.Xb
open Go.RowKit Go.Proofs.YtlnjefcfbncegaaW.PrintWords Go.Proofs.YtlnjefcfbncegaaW.PrintLast Go.Proofs.YtlnjefcfbncegaaW.PrintMore
attribute [local go_sem] max2_int min2_int max_two min_two max_three min_three max_four min_four
set_option linter.unusedVariables false
set_option linter.unusedSimpArgs false
theorem max_of_5_YtlnjefcfbncegaaXb33 (ats : Array TypeId) (ty : TypeId) (a0 a1 a2 a3 a4 : Value) : Builtin.max_ ats ty #[a0, a1, a2, a3, a4] = (Builtin.max2 a0 a1 >>= fun s => Builtin.max2 s a2 >>= fun s => Builtin.max2 s a3 >>= fun s => Builtin.max2 s a4 >>= fun s => pure s) := by simp only [Builtin.max_, List.foldlM_cons, List.foldlM_nil]
attribute [local go_sem] max_of_5_YtlnjefcfbncegaaXb33
theorem min_of_5_YtlnjefcfbncegaaXb33 (ats : Array TypeId) (ty : TypeId) (a0 a1 a2 a3 a4 : Value) : Builtin.min_ ats ty #[a0, a1, a2, a3, a4] = (Builtin.min2 a0 a1 >>= fun s => Builtin.min2 s a2 >>= fun s => Builtin.min2 s a3 >>= fun s => Builtin.min2 s a4 >>= fun s => pure s) := by simp only [Builtin.min_, List.foldlM_cons, List.foldlM_nil]
attribute [local go_sem] min_of_5_YtlnjefcfbncegaaXb33
theorem max_of_6_YtlnjefcfbncegaaXb33 (ats : Array TypeId) (ty : TypeId) (a0 a1 a2 a3 a4 a5 : Value) : Builtin.max_ ats ty #[a0, a1, a2, a3, a4, a5] = (Builtin.max2 a0 a1 >>= fun s => Builtin.max2 s a2 >>= fun s => Builtin.max2 s a3 >>= fun s => Builtin.max2 s a4 >>= fun s => Builtin.max2 s a5 >>= fun s => pure s) := by simp only [Builtin.max_, List.foldlM_cons, List.foldlM_nil]
attribute [local go_sem] max_of_6_YtlnjefcfbncegaaXb33
theorem min_of_6_YtlnjefcfbncegaaXb33 (ats : Array TypeId) (ty : TypeId) (a0 a1 a2 a3 a4 a5 : Value) : Builtin.min_ ats ty #[a0, a1, a2, a3, a4, a5] = (Builtin.min2 a0 a1 >>= fun s => Builtin.min2 s a2 >>= fun s => Builtin.min2 s a3 >>= fun s => Builtin.min2 s a4 >>= fun s => Builtin.min2 s a5 >>= fun s => pure s) := by simp only [Builtin.min_, List.foldlM_cons, List.foldlM_nil]
attribute [local go_sem] min_of_6_YtlnjefcfbncegaaXb33
def proofmarklaw13_AigMeans.j0 : Nat → Bool → Int → Int → Int → Int → Int → Int → Int → List Bool → Bool → Option (Bool)
 | 0, _, _, _, _, _, _, _, _, _, _ => none
 | k + 1, x9, x12, x13, x14, x16, x18, x20, x22, x23, x118 => if x118 = true then (none) else ((aig_Lit.f x23 x12).bind fun t493 => ((aig_Lit.f x23 x13).bind fun t494 => ((aig_Lit.f x23 x14).bind fun t495 => (if x9 = true then ((aig_Lit.f x23 x16).bind fun t496 => (if t493 = true then (if (t496 == t494) = true then ((aig_Lit.f x23 x18).bind fun t497 => (if (t497 == true) = true then ((aig_Lit.f x23 x20).bind fun t498 => (if (t498 == (t493 != t494)) = true then ((aig_Lit.f x23 x22).bind fun t499 => (if t494 = true then (some (t499 == true)) else (some (t499 == false)))) else (none))) else (none))) else (none)) else (if (t496 == false) = true then ((aig_Lit.f x23 x18).bind fun t500 => (if (t500 == t494) = true then ((aig_Lit.f x23 x20).bind fun t501 => (if (t501 == (t493 != t494)) = true then ((aig_Lit.f x23 x22).bind fun t502 => (some (t502 == t495))) else (none))) else (none))) else (none)))) else (none)))))
def proofmarklaw13_AigMeans.f (k : Nat) (a0 : Int) (l1 : List (S28)) (a2_0 : Int) (a2_1 : Int) (a2_2 : Int) (a2_3 : Int) (l3 : List Bool) : Option (Bool) := (proofmarklaw13_head.f k).bind fun t450 => ((proofmarklaw13_Great.f l1).bind fun t451 => (if t451 = true then (some t450) else ((proofmarklaw13_Made.f k a0 l1).bind fun bt452 => ((proofmarklaw13_literal.f bt452.1 bt452.2.1 a2_1).bind fun t460 => ((proofmarklaw13_literal.f bt452.1 bt452.2.1 a2_2).bind fun t461 => ((proofmarklaw13_literal.f bt452.1 bt452.2.1 a2_3).bind fun t462 => ((aig_And.f k bt452.1 bt452.2.1 t460 t461).bind fun bt463 => ((aig_Or.f k bt463.1 bt463.2.1 t460 t461).bind fun bt469 => ((aig_Xor.f k bt469.1 bt469.2.1 t460 t461).bind fun bt475 => ((aig_Mux.f k bt475.1 bt475.2.1 t460 t461 t462).bind fun bt481 => ((proofmarklaw13_Bits.f k bt452.1 bt452.2.1 l3).bind fun t487 => ((aig_Eval.f k bt481.1 bt481.2.1 t487).bind fun t490 => (if bt481.1 = bt452.1 then (if (t490.length : Int) = (wrap64 ((wrap64 (1 + bt481.1)) + (bt481.2.1.length : Int))) then (if (mx (mx (mx bt463.2.2 bt469.2.2) bt475.2.2) bt481.2.2) ≥ (wrap64 (2 * (t490.length : Int))) then (proofmarklaw13_AigMeans.j0 k t450 t460 t461 t462 bt463.2.2 bt469.2.2 bt475.2.2 bt481.2.2 t490 true) else (proofmarklaw13_AigMeans.j0 k t450 t460 t461 t462 bt463.2.2 bt469.2.2 bt475.2.2 bt481.2.2 t490 (decide ((mn (mn (mn bt463.2.2 bt469.2.2) bt475.2.2) bt481.2.2) < 0)))) else (proofmarklaw13_AigMeans.j0 k t450 t460 t461 t462 bt463.2.2 bt469.2.2 bt475.2.2 bt481.2.2 t490 true)) else (proofmarklaw13_AigMeans.j0 k t450 t460 t461 t462 bt463.2.2 bt469.2.2 bt475.2.2 bt481.2.2 t490 true))))))))))))))
theorem proofmarklaw13_AigMeans.mono_l : ∀ k, (∀ y0 y1 y2 y3 y4 y5 y6 y7 y8 y9, LeO (proofmarklaw13_AigMeans.j0 k y0 y1 y2 y3 y4 y5 y6 y7 y8 y9) (proofmarklaw13_AigMeans.j0 (k + 1) y0 y1 y2 y3 y4 y5 y6 y7 y8 y9))
 | 0 => fun _ _ _ _ _ _ _ _ _ _ r h => by simp [proofmarklaw13_AigMeans.j0] at h
 | k + 1 => by
  have ih0 := proofmarklaw13_AigMeans.mono_l k
  ·intro y0 y1 y2 y3 y4 y5 y6 y7 y8 y9
   unfold proofmarklaw13_AigMeans.j0
   repeat' first
   | (with_reducible exact ih0 _ _ _ _ _ _ _ _ _ _)
   | (with_reducible exact aig_And.mono _ _ _ _ _)
   | (with_reducible exact aig_Eval.mono _ _ _ _)
   | (with_reducible exact aig_Mux.mono _ _ _ _ _ _)
   | (with_reducible exact aig_Or.mono _ _ _ _ _)
   | (with_reducible exact aig_Xor.mono _ _ _ _ _)
   | (with_reducible exact proofmarklaw13_Bits.mono _ _ _ _)
   | (with_reducible exact proofmarklaw13_Made.mono _ _ _)
   | (with_reducible exact proofmarklaw13_head.mono _)
   | (with_reducible exact LeO.refl _)
   | (with_reducible exact LeO.none _)
   | (with_reducible refine LeO.ite ?_ ?_)
   | (with_reducible refine LeO.bind ?_ (fun _ => ?_))
   | exact ih0 _ _ _ _ _ _ _ _ _ _
   | exact aig_And.mono _ _ _ _ _
   | exact aig_Eval.mono _ _ _ _
   | exact aig_Mux.mono _ _ _ _ _ _
   | exact aig_Or.mono _ _ _ _ _
   | exact aig_Xor.mono _ _ _ _ _
   | exact proofmarklaw13_Bits.mono _ _ _ _
   | exact proofmarklaw13_Made.mono _ _ _
   | exact proofmarklaw13_head.mono _
   | exact LeO.none _
   | refine LeO.ite ?_ ?_
   | refine LeO.bind ?_ (fun _ => ?_)
theorem proofmarklaw13_AigMeans.mono : ∀ a0 a1 a2 a3 a4 a5 a6 k, LeO (proofmarklaw13_AigMeans.f k a0 a1 a2 a3 a4 a5 a6) (proofmarklaw13_AigMeans.f (k + 1) a0 a1 a2 a3 a4 a5 a6) := by
 intro a0 a1 a2 a3 a4 a5 a6 k
 have ih0 := proofmarklaw13_AigMeans.mono_l k
 unfold proofmarklaw13_AigMeans.f
 repeat' first
   | (with_reducible exact ih0 _ _ _ _ _ _ _ _ _ _)
   | (with_reducible exact aig_And.mono _ _ _ _ _)
   | (with_reducible exact aig_Eval.mono _ _ _ _)
   | (with_reducible exact aig_Mux.mono _ _ _ _ _ _)
   | (with_reducible exact aig_Or.mono _ _ _ _ _)
   | (with_reducible exact aig_Xor.mono _ _ _ _ _)
   | (with_reducible exact proofmarklaw13_Bits.mono _ _ _ _)
   | (with_reducible exact proofmarklaw13_Made.mono _ _ _)
   | (with_reducible exact proofmarklaw13_head.mono _)
   | (with_reducible exact LeO.refl _)
   | (with_reducible exact LeO.none _)
   | (with_reducible refine LeO.ite ?_ ?_)
   | (with_reducible refine LeO.bind ?_ (fun _ => ?_))
   | exact ih0 _ _ _ _ _ _ _ _ _ _
   | exact aig_And.mono _ _ _ _ _
   | exact aig_Eval.mono _ _ _ _
   | exact aig_Mux.mono _ _ _ _ _ _
   | exact aig_Or.mono _ _ _ _ _
   | exact aig_Xor.mono _ _ _ _ _
   | exact proofmarklaw13_Bits.mono _ _ _ _
   | exact proofmarklaw13_Made.mono _ _ _
   | exact proofmarklaw13_head.mono _
   | exact LeO.none _
   | refine LeO.ite ?_ ?_
   | refine LeO.bind ?_ (fun _ => ?_)
set_option maxHeartbeats 8000000 in
set_option maxRecDepth 100000 in
theorem proofmarklaw13_AigMeans.calls (k : Nat) (a0 : Int) (A1 : Option Addr) (c1 : Nat) (l1 : List (S28)) (a2_0 : Int) (a2_1 : Int) (a2_2 : Int) (a2_3 : Int) (A3 : Option Addr) (c3 : Nat) (l3 : List Bool) (r : Bool) (w : World) (hr1 : Kd.C k28 w A1 l1.length l1) (hc1 : l1.length ≤ c1) (hr3 : Kd.C Kd.bool w A3 l3.length l3) (hc3 : l3.length ≤ c3) (h : proofmarklaw13_AigMeans.f k a0 l1 a2_0 a2_1 a2_2 a2_3 l3 = some r) :
  Calls Try.prog 4 #[.int .u8 a0, .slice A1 l1.length c1, .agg #[.int .u8 a2_0, .int .u16 a2_1, .int .u16 a2_2, .int .u16 a2_3], .slice A3 l3.length c3] w fun e w' => e = .returned (.bool r) ∧ Below w.heap.size w w' := by
 have hu28 := Try.underlying28
 have hu24 := Try.underlying24
 have HR1 := Aside0.mk hr1
 have HC1 := Aside0.mk hc1
 clear hr1 hc1
 have HR3 := Aside0.mk hr3
 have HC3 := Aside0.mk hc3
 clear hr3 hc3
 have HB := Aside0.mk (Below.refl w.heap.size w)
 have H : ((proofmarklaw13_head.f k).bind fun t450 => ((proofmarklaw13_Great.f l1).bind fun t451 => (if t451 = true then (some t450) else ((proofmarklaw13_Made.f k a0 l1).bind fun bt452 => ((proofmarklaw13_literal.f bt452.1 bt452.2.1 a2_1).bind fun t460 => ((proofmarklaw13_literal.f bt452.1 bt452.2.1 a2_2).bind fun t461 => ((proofmarklaw13_literal.f bt452.1 bt452.2.1 a2_3).bind fun t462 => ((aig_And.f k bt452.1 bt452.2.1 t460 t461).bind fun bt463 => ((aig_Or.f k bt463.1 bt463.2.1 t460 t461).bind fun bt469 => ((aig_Xor.f k bt469.1 bt469.2.1 t460 t461).bind fun bt475 => ((aig_Mux.f k bt475.1 bt475.2.1 t460 t461 t462).bind fun bt481 => ((proofmarklaw13_Bits.f k bt452.1 bt452.2.1 l3).bind fun t487 => ((aig_Eval.f k bt481.1 bt481.2.1 t487).bind fun t490 => (if bt481.1 = bt452.1 then (if (t490.length : Int) = (wrap64 ((wrap64 (1 + bt481.1)) + (bt481.2.1.length : Int))) then (if (mx (mx (mx bt463.2.2 bt469.2.2) bt475.2.2) bt481.2.2) ≥ (wrap64 (2 * (t490.length : Int))) then (proofmarklaw13_AigMeans.j0 k t450 t460 t461 t462 bt463.2.2 bt469.2.2 bt475.2.2 bt481.2.2 t490 true) else (proofmarklaw13_AigMeans.j0 k t450 t460 t461 t462 bt463.2.2 bt469.2.2 bt475.2.2 bt481.2.2 t490 (decide ((mn (mn (mn bt463.2.2 bt469.2.2) bt475.2.2) bt481.2.2) < 0)))) else (proofmarklaw13_AigMeans.j0 k t450 t460 t461 t462 bt463.2.2 bt469.2.2 bt475.2.2 bt481.2.2 t490 true)) else (proofmarklaw13_AigMeans.j0 k t450 t460 t461 t462 bt463.2.2 bt469.2.2 bt475.2.2 bt481.2.2 t490 true))))))))))))))) = some r := h
 clear h
 replace H := Option.bind_eq_some_iff.mp H
 obtain ⟨t450, A50, H⟩ := H
 replace H : ((proofmarklaw13_Great.f l1).bind fun t451 => (if t451 = true then (some t450) else ((proofmarklaw13_Made.f k a0 l1).bind fun bt452 => ((proofmarklaw13_literal.f bt452.1 bt452.2.1 a2_1).bind fun t460 => ((proofmarklaw13_literal.f bt452.1 bt452.2.1 a2_2).bind fun t461 => ((proofmarklaw13_literal.f bt452.1 bt452.2.1 a2_3).bind fun t462 => ((aig_And.f k bt452.1 bt452.2.1 t460 t461).bind fun bt463 => ((aig_Or.f k bt463.1 bt463.2.1 t460 t461).bind fun bt469 => ((aig_Xor.f k bt469.1 bt469.2.1 t460 t461).bind fun bt475 => ((aig_Mux.f k bt475.1 bt475.2.1 t460 t461 t462).bind fun bt481 => ((proofmarklaw13_Bits.f k bt452.1 bt452.2.1 l3).bind fun t487 => ((aig_Eval.f k bt481.1 bt481.2.1 t487).bind fun t490 => (if bt481.1 = bt452.1 then (if (t490.length : Int) = (wrap64 ((wrap64 (1 + bt481.1)) + (bt481.2.1.length : Int))) then (if (mx (mx (mx bt463.2.2 bt469.2.2) bt475.2.2) bt481.2.2) ≥ (wrap64 (2 * (t490.length : Int))) then (proofmarklaw13_AigMeans.j0 k t450 t460 t461 t462 bt463.2.2 bt469.2.2 bt475.2.2 bt481.2.2 t490 true) else (proofmarklaw13_AigMeans.j0 k t450 t460 t461 t462 bt463.2.2 bt469.2.2 bt475.2.2 bt481.2.2 t490 (decide ((mn (mn (mn bt463.2.2 bt469.2.2) bt475.2.2) bt481.2.2) < 0)))) else (proofmarklaw13_AigMeans.j0 k t450 t460 t461 t462 bt463.2.2 bt469.2.2 bt475.2.2 bt481.2.2 t490 true)) else (proofmarklaw13_AigMeans.j0 k t450 t460 t461 t462 bt463.2.2 bt469.2.2 bt475.2.2 bt481.2.2 t490 true)))))))))))))) = some r := H
 have A5 := Aside0.mk A50
 clear A50
 replace H := Option.bind_eq_some_iff.mp H
 obtain ⟨t451, A60, H⟩ := H
 replace H : (if t451 = true then (some t450) else ((proofmarklaw13_Made.f k a0 l1).bind fun bt452 => ((proofmarklaw13_literal.f bt452.1 bt452.2.1 a2_1).bind fun t460 => ((proofmarklaw13_literal.f bt452.1 bt452.2.1 a2_2).bind fun t461 => ((proofmarklaw13_literal.f bt452.1 bt452.2.1 a2_3).bind fun t462 => ((aig_And.f k bt452.1 bt452.2.1 t460 t461).bind fun bt463 => ((aig_Or.f k bt463.1 bt463.2.1 t460 t461).bind fun bt469 => ((aig_Xor.f k bt469.1 bt469.2.1 t460 t461).bind fun bt475 => ((aig_Mux.f k bt475.1 bt475.2.1 t460 t461 t462).bind fun bt481 => ((proofmarklaw13_Bits.f k bt452.1 bt452.2.1 l3).bind fun t487 => ((aig_Eval.f k bt481.1 bt481.2.1 t487).bind fun t490 => (if bt481.1 = bt452.1 then (if (t490.length : Int) = (wrap64 ((wrap64 (1 + bt481.1)) + (bt481.2.1.length : Int))) then (if (mx (mx (mx bt463.2.2 bt469.2.2) bt475.2.2) bt481.2.2) ≥ (wrap64 (2 * (t490.length : Int))) then (proofmarklaw13_AigMeans.j0 k t450 t460 t461 t462 bt463.2.2 bt469.2.2 bt475.2.2 bt481.2.2 t490 true) else (proofmarklaw13_AigMeans.j0 k t450 t460 t461 t462 bt463.2.2 bt469.2.2 bt475.2.2 bt481.2.2 t490 (decide ((mn (mn (mn bt463.2.2 bt469.2.2) bt475.2.2) bt481.2.2) < 0)))) else (proofmarklaw13_AigMeans.j0 k t450 t460 t461 t462 bt463.2.2 bt469.2.2 bt475.2.2 bt481.2.2 t490 true)) else (proofmarklaw13_AigMeans.j0 k t450 t460 t461 t462 bt463.2.2 bt469.2.2 bt475.2.2 bt481.2.2 t490 true))))))))))))) = some r := H
 have A6 := Aside0.mk A60
 clear A60
 by_cases c7 : t451 = true
 ·subst c7
  have H1 : (some t450) = some r := by rw [if_pos rfl] at H; exact H
  clear H
  have H := H1
  clear H1
  obtain rfl := Option.some.inj H
  go_enter Try.func4, Try.ntmps4
  go_wp2_with (first | ((with_reducible refine gate_dst (N := 6) rfl ?_); (try (refine gate_guard (by rfl) ?_; dsimp only)); refine box_event ?hg (N := 6) ?hd (cs := #[.int .u8 a2_0, .int .u16 a2_1, .int .u16 a2_2, .int .u16 a2_3]) (t := 28) ?hr ?_; (case hd => rfl); (case hg => rfl); (case hr => first | (go_simp; done) | (go_simp; rfl)); intro gb449 hg w8 hbox hb; have n0_ := Aside0.mk (below_step (by repeat (first | (with_reducible first | exact HB.out | apply below_alloc | apply pw_below_drewN | apply below_drew1) | exact HB.out)) hb); have n1_ := Aside0.mk (hbox); have n2_ := Aside0.mk ((by rw [hg]; exact (below_size (by repeat (first | (with_reducible first | exact HB.out | apply below_alloc | apply pw_below_drewN | apply below_drew1) | exact HB.out))) : w.heap.size ≤ gb449)); have n3_ := Aside0.mk ((by rw [hg]; exact (below_size (by repeat (first | (with_reducible first | exact HB.out | apply below_alloc | apply pw_below_drewN | apply below_drew1) | exact HB.out))) : w.heap.size ≤ gb449)); clear HB; have HB := n0_; have BK449 := n1_; have GW449 := n2_; have GE449 := n3_; clear n0_ n1_ n2_ n3_; clear hb hbox hg) | ((with_reducible refine gate_callee (f := 10) rfl ?_); refine goesL_ (some 27) rfl rfl Try.func10 (by kernel_rfl) rfl #[] rfl (by (try simp only [List.map_toArray, List.map_cons, List.map_nil]); first | done | rfl | (simp only [List.length_drop, List.length_take]; rfl)) ?_; (with_reducible refine (proofmarklaw13_head.calls k  t450 _ A5.out).mono ?_); rintro e w9 ⟨rfl, hb⟩; refine ⟨_, rfl, ?_⟩; have n0_ := Aside0.mk (blk_below (g := gb449) (o := .cells #[.int .u8 a2_0, .int .u16 a2_1, .int .u16 a2_2, .int .u16 a2_3] 28 (0, 0)) (by (with_reducible repeat (first | refine blk_drewN ?_ _ | refine blk_drew ?_ | refine blk_alloc ?_ _)); exact BK449.out) hb); have n1_ := Aside0.mk (below_step (by repeat (first | (with_reducible first | exact HB.out | apply below_alloc | apply pw_below_drewN | apply below_drew1 | refine below_set ?_ GE449.out) | exact HB.out)) hb); clear BK449; clear HB; have BK449 := n0_; have HB := n1_; clear n0_ n1_; (try clear hb); (try clear hb2); (try clear hk); (try clear hi)) | ((with_reducible refine gate_callee (f := 11) rfl ?_); refine goesL_ (some 29) rfl rfl Try.func11 (by kernel_rfl) rfl #[.slice A1 l1.length c1] rfl (by (try simp only [List.map_toArray, List.map_cons, List.map_nil]); first | done | rfl | (simp only [List.length_drop, List.length_take]; rfl)) ?_; (with_reducible refine (proofmarklaw13_Great.calls _ _ l1 true _ ?side1 ?side2 A6.out).mono ?_); (case side1 => repeat (first | exact (Kd.C_below HR1.out HB.out) | (with_reducible refine Kd.C_alloc ?_ _) | (with_reducible refine Kd.C_drewN ?_ _) | (with_reducible refine Kd.C_drew ?_))); (case side2 => exact HC1.out); rintro e w' ⟨rfl, ⟨nd, rfl⟩⟩; refine ⟨_, rfl, ?_⟩))
  go_ret
  exact ⟨by first | rfl | (simp [errW_none, errW_some] <;> rfl) | (simp [*, errW_none, errW_some] <;> rfl), by repeat (first | (with_reducible first | exact HB.out | apply below_alloc | apply pw_below_drewN | apply below_drew1 | refine below_set ?_ GE449.out) | exact HB.out)⟩
 ·replace c7 := Bool.eq_false_iff.mpr c7
  subst c7
  have H1 : ((proofmarklaw13_Made.f k a0 l1).bind fun bt452 => ((proofmarklaw13_literal.f bt452.1 bt452.2.1 a2_1).bind fun t460 => ((proofmarklaw13_literal.f bt452.1 bt452.2.1 a2_2).bind fun t461 => ((proofmarklaw13_literal.f bt452.1 bt452.2.1 a2_3).bind fun t462 => ((aig_And.f k bt452.1 bt452.2.1 t460 t461).bind fun bt463 => ((aig_Or.f k bt463.1 bt463.2.1 t460 t461).bind fun bt469 => ((aig_Xor.f k bt469.1 bt469.2.1 t460 t461).bind fun bt475 => ((aig_Mux.f k bt475.1 bt475.2.1 t460 t461 t462).bind fun bt481 => ((proofmarklaw13_Bits.f k bt452.1 bt452.2.1 l3).bind fun t487 => ((aig_Eval.f k bt481.1 bt481.2.1 t487).bind fun t490 => (if bt481.1 = bt452.1 then (if (t490.length : Int) = (wrap64 ((wrap64 (1 + bt481.1)) + (bt481.2.1.length : Int))) then (if (mx (mx (mx bt463.2.2 bt469.2.2) bt475.2.2) bt481.2.2) ≥ (wrap64 (2 * (t490.length : Int))) then (proofmarklaw13_AigMeans.j0 k t450 t460 t461 t462 bt463.2.2 bt469.2.2 bt475.2.2 bt481.2.2 t490 true) else (proofmarklaw13_AigMeans.j0 k t450 t460 t461 t462 bt463.2.2 bt469.2.2 bt475.2.2 bt481.2.2 t490 (decide ((mn (mn (mn bt463.2.2 bt469.2.2) bt475.2.2) bt481.2.2) < 0)))) else (proofmarklaw13_AigMeans.j0 k t450 t460 t461 t462 bt463.2.2 bt469.2.2 bt475.2.2 bt481.2.2 t490 true)) else (proofmarklaw13_AigMeans.j0 k t450 t460 t461 t462 bt463.2.2 bt469.2.2 bt475.2.2 bt481.2.2 t490 true)))))))))))) = some r := by rw [if_neg (show ¬ (false = true) by decide)] at H; exact H
  clear H
  have H := H1
  clear H1
  replace H := Option.bind_eq_some_iff.mp H
  obtain ⟨⟨t452, t453, t456⟩, A100, H⟩ := H
  replace H : ((proofmarklaw13_literal.f t452 t453 a2_1).bind fun t460 => ((proofmarklaw13_literal.f t452 t453 a2_2).bind fun t461 => ((proofmarklaw13_literal.f t452 t453 a2_3).bind fun t462 => ((aig_And.f k t452 t453 t460 t461).bind fun bt463 => ((aig_Or.f k bt463.1 bt463.2.1 t460 t461).bind fun bt469 => ((aig_Xor.f k bt469.1 bt469.2.1 t460 t461).bind fun bt475 => ((aig_Mux.f k bt475.1 bt475.2.1 t460 t461 t462).bind fun bt481 => ((proofmarklaw13_Bits.f k t452 t453 l3).bind fun t487 => ((aig_Eval.f k bt481.1 bt481.2.1 t487).bind fun t490 => (if bt481.1 = t452 then (if (t490.length : Int) = (wrap64 ((wrap64 (1 + bt481.1)) + (bt481.2.1.length : Int))) then (if (mx (mx (mx bt463.2.2 bt469.2.2) bt475.2.2) bt481.2.2) ≥ (wrap64 (2 * (t490.length : Int))) then (proofmarklaw13_AigMeans.j0 k t450 t460 t461 t462 bt463.2.2 bt469.2.2 bt475.2.2 bt481.2.2 t490 true) else (proofmarklaw13_AigMeans.j0 k t450 t460 t461 t462 bt463.2.2 bt469.2.2 bt475.2.2 bt481.2.2 t490 (decide ((mn (mn (mn bt463.2.2 bt469.2.2) bt475.2.2) bt481.2.2) < 0)))) else (proofmarklaw13_AigMeans.j0 k t450 t460 t461 t462 bt463.2.2 bt469.2.2 bt475.2.2 bt481.2.2 t490 true)) else (proofmarklaw13_AigMeans.j0 k t450 t460 t461 t462 bt463.2.2 bt469.2.2 bt475.2.2 bt481.2.2 t490 true))))))))))) = some r := H
  have A10 := Aside0.mk A100
  clear A100
  replace H := Option.bind_eq_some_iff.mp H
  obtain ⟨t460, A110, H⟩ := H
  replace H : ((proofmarklaw13_literal.f t452 t453 a2_2).bind fun t461 => ((proofmarklaw13_literal.f t452 t453 a2_3).bind fun t462 => ((aig_And.f k t452 t453 t460 t461).bind fun bt463 => ((aig_Or.f k bt463.1 bt463.2.1 t460 t461).bind fun bt469 => ((aig_Xor.f k bt469.1 bt469.2.1 t460 t461).bind fun bt475 => ((aig_Mux.f k bt475.1 bt475.2.1 t460 t461 t462).bind fun bt481 => ((proofmarklaw13_Bits.f k t452 t453 l3).bind fun t487 => ((aig_Eval.f k bt481.1 bt481.2.1 t487).bind fun t490 => (if bt481.1 = t452 then (if (t490.length : Int) = (wrap64 ((wrap64 (1 + bt481.1)) + (bt481.2.1.length : Int))) then (if (mx (mx (mx bt463.2.2 bt469.2.2) bt475.2.2) bt481.2.2) ≥ (wrap64 (2 * (t490.length : Int))) then (proofmarklaw13_AigMeans.j0 k t450 t460 t461 t462 bt463.2.2 bt469.2.2 bt475.2.2 bt481.2.2 t490 true) else (proofmarklaw13_AigMeans.j0 k t450 t460 t461 t462 bt463.2.2 bt469.2.2 bt475.2.2 bt481.2.2 t490 (decide ((mn (mn (mn bt463.2.2 bt469.2.2) bt475.2.2) bt481.2.2) < 0)))) else (proofmarklaw13_AigMeans.j0 k t450 t460 t461 t462 bt463.2.2 bt469.2.2 bt475.2.2 bt481.2.2 t490 true)) else (proofmarklaw13_AigMeans.j0 k t450 t460 t461 t462 bt463.2.2 bt469.2.2 bt475.2.2 bt481.2.2 t490 true)))))))))) = some r := H
  have A11 := Aside0.mk A110
  clear A110
  replace H := Option.bind_eq_some_iff.mp H
  obtain ⟨t461, A120, H⟩ := H
  replace H : ((proofmarklaw13_literal.f t452 t453 a2_3).bind fun t462 => ((aig_And.f k t452 t453 t460 t461).bind fun bt463 => ((aig_Or.f k bt463.1 bt463.2.1 t460 t461).bind fun bt469 => ((aig_Xor.f k bt469.1 bt469.2.1 t460 t461).bind fun bt475 => ((aig_Mux.f k bt475.1 bt475.2.1 t460 t461 t462).bind fun bt481 => ((proofmarklaw13_Bits.f k t452 t453 l3).bind fun t487 => ((aig_Eval.f k bt481.1 bt481.2.1 t487).bind fun t490 => (if bt481.1 = t452 then (if (t490.length : Int) = (wrap64 ((wrap64 (1 + bt481.1)) + (bt481.2.1.length : Int))) then (if (mx (mx (mx bt463.2.2 bt469.2.2) bt475.2.2) bt481.2.2) ≥ (wrap64 (2 * (t490.length : Int))) then (proofmarklaw13_AigMeans.j0 k t450 t460 t461 t462 bt463.2.2 bt469.2.2 bt475.2.2 bt481.2.2 t490 true) else (proofmarklaw13_AigMeans.j0 k t450 t460 t461 t462 bt463.2.2 bt469.2.2 bt475.2.2 bt481.2.2 t490 (decide ((mn (mn (mn bt463.2.2 bt469.2.2) bt475.2.2) bt481.2.2) < 0)))) else (proofmarklaw13_AigMeans.j0 k t450 t460 t461 t462 bt463.2.2 bt469.2.2 bt475.2.2 bt481.2.2 t490 true)) else (proofmarklaw13_AigMeans.j0 k t450 t460 t461 t462 bt463.2.2 bt469.2.2 bt475.2.2 bt481.2.2 t490 true))))))))) = some r := H
  have A12 := Aside0.mk A120
  clear A120
  replace H := Option.bind_eq_some_iff.mp H
  obtain ⟨t462, A130, H⟩ := H
  replace H : ((aig_And.f k t452 t453 t460 t461).bind fun bt463 => ((aig_Or.f k bt463.1 bt463.2.1 t460 t461).bind fun bt469 => ((aig_Xor.f k bt469.1 bt469.2.1 t460 t461).bind fun bt475 => ((aig_Mux.f k bt475.1 bt475.2.1 t460 t461 t462).bind fun bt481 => ((proofmarklaw13_Bits.f k t452 t453 l3).bind fun t487 => ((aig_Eval.f k bt481.1 bt481.2.1 t487).bind fun t490 => (if bt481.1 = t452 then (if (t490.length : Int) = (wrap64 ((wrap64 (1 + bt481.1)) + (bt481.2.1.length : Int))) then (if (mx (mx (mx bt463.2.2 bt469.2.2) bt475.2.2) bt481.2.2) ≥ (wrap64 (2 * (t490.length : Int))) then (proofmarklaw13_AigMeans.j0 k t450 t460 t461 t462 bt463.2.2 bt469.2.2 bt475.2.2 bt481.2.2 t490 true) else (proofmarklaw13_AigMeans.j0 k t450 t460 t461 t462 bt463.2.2 bt469.2.2 bt475.2.2 bt481.2.2 t490 (decide ((mn (mn (mn bt463.2.2 bt469.2.2) bt475.2.2) bt481.2.2) < 0)))) else (proofmarklaw13_AigMeans.j0 k t450 t460 t461 t462 bt463.2.2 bt469.2.2 bt475.2.2 bt481.2.2 t490 true)) else (proofmarklaw13_AigMeans.j0 k t450 t460 t461 t462 bt463.2.2 bt469.2.2 bt475.2.2 bt481.2.2 t490 true)))))))) = some r := H
  have A13 := Aside0.mk A130
  clear A130
  replace H := Option.bind_eq_some_iff.mp H
  obtain ⟨⟨t463, t464, t467⟩, A140, H⟩ := H
  replace H : ((aig_Or.f k t463 t464 t460 t461).bind fun bt469 => ((aig_Xor.f k bt469.1 bt469.2.1 t460 t461).bind fun bt475 => ((aig_Mux.f k bt475.1 bt475.2.1 t460 t461 t462).bind fun bt481 => ((proofmarklaw13_Bits.f k t452 t453 l3).bind fun t487 => ((aig_Eval.f k bt481.1 bt481.2.1 t487).bind fun t490 => (if bt481.1 = t452 then (if (t490.length : Int) = (wrap64 ((wrap64 (1 + bt481.1)) + (bt481.2.1.length : Int))) then (if (mx (mx (mx t467 bt469.2.2) bt475.2.2) bt481.2.2) ≥ (wrap64 (2 * (t490.length : Int))) then (proofmarklaw13_AigMeans.j0 k t450 t460 t461 t462 t467 bt469.2.2 bt475.2.2 bt481.2.2 t490 true) else (proofmarklaw13_AigMeans.j0 k t450 t460 t461 t462 t467 bt469.2.2 bt475.2.2 bt481.2.2 t490 (decide ((mn (mn (mn t467 bt469.2.2) bt475.2.2) bt481.2.2) < 0)))) else (proofmarklaw13_AigMeans.j0 k t450 t460 t461 t462 t467 bt469.2.2 bt475.2.2 bt481.2.2 t490 true)) else (proofmarklaw13_AigMeans.j0 k t450 t460 t461 t462 t467 bt469.2.2 bt475.2.2 bt481.2.2 t490 true))))))) = some r := H
  have A14 := Aside0.mk A140
  clear A140
  replace H := Option.bind_eq_some_iff.mp H
  obtain ⟨⟨t469, t470, t473⟩, A150, H⟩ := H
  replace H : ((aig_Xor.f k t469 t470 t460 t461).bind fun bt475 => ((aig_Mux.f k bt475.1 bt475.2.1 t460 t461 t462).bind fun bt481 => ((proofmarklaw13_Bits.f k t452 t453 l3).bind fun t487 => ((aig_Eval.f k bt481.1 bt481.2.1 t487).bind fun t490 => (if bt481.1 = t452 then (if (t490.length : Int) = (wrap64 ((wrap64 (1 + bt481.1)) + (bt481.2.1.length : Int))) then (if (mx (mx (mx t467 t473) bt475.2.2) bt481.2.2) ≥ (wrap64 (2 * (t490.length : Int))) then (proofmarklaw13_AigMeans.j0 k t450 t460 t461 t462 t467 t473 bt475.2.2 bt481.2.2 t490 true) else (proofmarklaw13_AigMeans.j0 k t450 t460 t461 t462 t467 t473 bt475.2.2 bt481.2.2 t490 (decide ((mn (mn (mn t467 t473) bt475.2.2) bt481.2.2) < 0)))) else (proofmarklaw13_AigMeans.j0 k t450 t460 t461 t462 t467 t473 bt475.2.2 bt481.2.2 t490 true)) else (proofmarklaw13_AigMeans.j0 k t450 t460 t461 t462 t467 t473 bt475.2.2 bt481.2.2 t490 true)))))) = some r := H
  have A15 := Aside0.mk A150
  clear A150
  replace H := Option.bind_eq_some_iff.mp H
  obtain ⟨⟨t475, t476, t479⟩, A160, H⟩ := H
  replace H : ((aig_Mux.f k t475 t476 t460 t461 t462).bind fun bt481 => ((proofmarklaw13_Bits.f k t452 t453 l3).bind fun t487 => ((aig_Eval.f k bt481.1 bt481.2.1 t487).bind fun t490 => (if bt481.1 = t452 then (if (t490.length : Int) = (wrap64 ((wrap64 (1 + bt481.1)) + (bt481.2.1.length : Int))) then (if (mx (mx (mx t467 t473) t479) bt481.2.2) ≥ (wrap64 (2 * (t490.length : Int))) then (proofmarklaw13_AigMeans.j0 k t450 t460 t461 t462 t467 t473 t479 bt481.2.2 t490 true) else (proofmarklaw13_AigMeans.j0 k t450 t460 t461 t462 t467 t473 t479 bt481.2.2 t490 (decide ((mn (mn (mn t467 t473) t479) bt481.2.2) < 0)))) else (proofmarklaw13_AigMeans.j0 k t450 t460 t461 t462 t467 t473 t479 bt481.2.2 t490 true)) else (proofmarklaw13_AigMeans.j0 k t450 t460 t461 t462 t467 t473 t479 bt481.2.2 t490 true))))) = some r := H
  have A16 := Aside0.mk A160
  clear A160
  replace H := Option.bind_eq_some_iff.mp H
  obtain ⟨⟨t481, t482, t485⟩, A170, H⟩ := H
  replace H : ((proofmarklaw13_Bits.f k t452 t453 l3).bind fun t487 => ((aig_Eval.f k t481 t482 t487).bind fun t490 => (if t481 = t452 then (if (t490.length : Int) = (wrap64 ((wrap64 (1 + t481)) + (t482.length : Int))) then (if (mx (mx (mx t467 t473) t479) t485) ≥ (wrap64 (2 * (t490.length : Int))) then (proofmarklaw13_AigMeans.j0 k t450 t460 t461 t462 t467 t473 t479 t485 t490 true) else (proofmarklaw13_AigMeans.j0 k t450 t460 t461 t462 t467 t473 t479 t485 t490 (decide ((mn (mn (mn t467 t473) t479) t485) < 0)))) else (proofmarklaw13_AigMeans.j0 k t450 t460 t461 t462 t467 t473 t479 t485 t490 true)) else (proofmarklaw13_AigMeans.j0 k t450 t460 t461 t462 t467 t473 t479 t485 t490 true)))) = some r := H
  have A17 := Aside0.mk A170
  clear A170
  replace H := Option.bind_eq_some_iff.mp H
  obtain ⟨t487, A180, H⟩ := H
  replace H : ((aig_Eval.f k t481 t482 t487).bind fun t490 => (if t481 = t452 then (if (t490.length : Int) = (wrap64 ((wrap64 (1 + t481)) + (t482.length : Int))) then (if (mx (mx (mx t467 t473) t479) t485) ≥ (wrap64 (2 * (t490.length : Int))) then (proofmarklaw13_AigMeans.j0 k t450 t460 t461 t462 t467 t473 t479 t485 t490 true) else (proofmarklaw13_AigMeans.j0 k t450 t460 t461 t462 t467 t473 t479 t485 t490 (decide ((mn (mn (mn t467 t473) t479) t485) < 0)))) else (proofmarklaw13_AigMeans.j0 k t450 t460 t461 t462 t467 t473 t479 t485 t490 true)) else (proofmarklaw13_AigMeans.j0 k t450 t460 t461 t462 t467 t473 t479 t485 t490 true))) = some r := H
  have A18 := Aside0.mk A180
  clear A180
  replace H := Option.bind_eq_some_iff.mp H
  obtain ⟨t490, A190, H⟩ := H
  replace H : (if t481 = t452 then (if (t490.length : Int) = (wrap64 ((wrap64 (1 + t481)) + (t482.length : Int))) then (if (mx (mx (mx t467 t473) t479) t485) ≥ (wrap64 (2 * (t490.length : Int))) then (proofmarklaw13_AigMeans.j0 k t450 t460 t461 t462 t467 t473 t479 t485 t490 true) else (proofmarklaw13_AigMeans.j0 k t450 t460 t461 t462 t467 t473 t479 t485 t490 (decide ((mn (mn (mn t467 t473) t479) t485) < 0)))) else (proofmarklaw13_AigMeans.j0 k t450 t460 t461 t462 t467 t473 t479 t485 t490 true)) else (proofmarklaw13_AigMeans.j0 k t450 t460 t461 t462 t467 t473 t479 t485 t490 true)) = some r := H
  have A19 := Aside0.mk A190
  clear A190
  have HC20 := Aside0.mk H
  clear H
  go_enter Try.func4, Try.ntmps4
  try go_wp2_with (first | ((with_reducible refine gate_dst (N := 6) rfl ?_); (try (refine gate_guard (by rfl) ?_; dsimp only)); refine box_event ?hg (N := 6) ?hd (cs := #[.int .u8 a2_0, .int .u16 a2_1, .int .u16 a2_2, .int .u16 a2_3]) (t := 28) ?hr ?_; (case hd => rfl); (case hg => rfl); (case hr => first | (go_simp; done) | (go_simp; rfl)); intro gb449 hg w21 hbox hb; have n0_ := Aside0.mk (below_step (by repeat (first | (with_reducible first | exact HB.out | apply below_alloc | apply pw_below_drewN | apply below_drew1) | exact HB.out)) hb); have n1_ := Aside0.mk (hbox); have n2_ := Aside0.mk ((by rw [hg]; exact (below_size (by repeat (first | (with_reducible first | exact HB.out | apply below_alloc | apply pw_below_drewN | apply below_drew1) | exact HB.out))) : w.heap.size ≤ gb449)); have n3_ := Aside0.mk ((by rw [hg]; exact (below_size (by repeat (first | (with_reducible first | exact HB.out | apply below_alloc | apply pw_below_drewN | apply below_drew1) | exact HB.out))) : w.heap.size ≤ gb449)); clear HB; have HB := n0_; have BK449 := n1_; have GW449 := n2_; have GE449 := n3_; clear n0_ n1_ n2_ n3_; clear hb hbox hg) | ((with_reducible refine gate_callee (f := 10) rfl ?_); refine goesL_ (some 27) rfl rfl Try.func10 (by kernel_rfl) rfl #[] rfl (by (try simp only [List.map_toArray, List.map_cons, List.map_nil]); first | done | rfl | (simp only [List.length_drop, List.length_take]; rfl)) ?_; (with_reducible refine (proofmarklaw13_head.calls k  t450 _ A5.out).mono ?_); rintro e w22 ⟨rfl, hb⟩; refine ⟨_, rfl, ?_⟩; have n0_ := Aside0.mk (blk_below (g := gb449) (o := .cells #[.int .u8 a2_0, .int .u16 a2_1, .int .u16 a2_2, .int .u16 a2_3] 28 (0, 0)) (by (with_reducible repeat (first | refine blk_drewN ?_ _ | refine blk_drew ?_ | refine blk_alloc ?_ _)); exact BK449.out) hb); have n1_ := Aside0.mk (below_step (by repeat (first | (with_reducible first | exact HB.out | apply below_alloc | apply pw_below_drewN | apply below_drew1 | refine below_set ?_ GE449.out) | exact HB.out)) hb); clear BK449; clear HB; have BK449 := n0_; have HB := n1_; clear n0_ n1_; (try clear hb); (try clear hb2); (try clear hk); (try clear hi)) | ((with_reducible refine gate_callee (f := 11) rfl ?_); refine goesL_ (some 29) rfl rfl Try.func11 (by kernel_rfl) rfl #[.slice A1 l1.length c1] rfl (by (try simp only [List.map_toArray, List.map_cons, List.map_nil]); first | done | rfl | (simp only [List.length_drop, List.length_take]; rfl)) ?_; (with_reducible refine (proofmarklaw13_Great.calls _ _ l1 false _ ?side1 ?side2 A6.out).mono ?_); (case side1 => repeat (first | exact (Kd.C_below HR1.out HB.out) | (with_reducible refine Kd.C_alloc ?_ _) | (with_reducible refine Kd.C_drewN ?_ _) | (with_reducible refine Kd.C_drew ?_))); (case side2 => exact HC1.out); rintro e w' ⟨rfl, ⟨nd, rfl⟩⟩; refine ⟨_, rfl, ?_⟩; (try (rw [drewN_self w22]; generalize hq_ : World.drewN w22 _ = w22; have n0_ : Aside0 (w22.heap[gb449]? = some (.cells #[.int .u8 a2_0, .int .u16 a2_1, .int .u16 a2_2, .int .u16 a2_3] 28 (0, 0))) := ⟨by rw [← hq_]; exact (by (with_reducible repeat (first | refine blk_drewN ?_ _ | refine blk_drew ?_ | refine blk_alloc ?_ _)); exact BK449.out)⟩; have n1_ : Aside0 (Below w.heap.size w w22) := ⟨by rw [← hq_]; exact (by repeat (first | (with_reducible first | exact HB.out | apply below_alloc | apply pw_below_drewN | apply below_drew1 | refine below_set ?_ GE449.out) | exact HB.out))⟩; clear BK449 HB hq_; have BK449 := n0_; have HB := n1_; clear n0_ n1_))) | ((with_reducible refine gate_callee (f := 14) rfl ?_); refine goesL_ (some 34) rfl rfl Try.func14 (by kernel_rfl) rfl #[.int .u8 a0, .slice A1 l1.length c1] rfl (by (try simp only [List.map_toArray, List.map_cons, List.map_nil]); first | done | rfl | (simp only [List.length_drop, List.length_take]; rfl)) ?_; (with_reducible refine (proofmarklaw13_Made.calls k a0 _ _ l1 t452 t453 t456 _ ?side1 ?side2 A10.out).mono ?_); (case side1 => repeat (first | exact (Kd.C_below HR1.out HB.out) | (with_reducible refine Kd.C_alloc ?_ _) | (with_reducible refine Kd.C_drewN ?_ _) | (with_reducible refine Kd.C_drew ?_))); (case side2 => exact HC1.out); rintro e w23 ⟨v454, v457, rfl, ho0, ho1, hb⟩; refine ⟨_, rfl, ?_⟩; have n0_ := Aside0.mk (Kd.V_lower (Kd.V_mono (ok' := fun k_ => some k_ ≠ (v457 : Value).ownBlock ∧ k_ ≠ gb449) ho0 (fun k_ hk_ => ⟨hk_.2, (Kd.freshB (g := gb449) (o := .cells #[.int .u8 a2_0, .int .u16 a2_1, .int .u16 a2_2, .int .u16 a2_3] 28 (0, 0)) (by (with_reducible repeat (first | refine blk_drewN ?_ _ | refine blk_drew ?_ | refine blk_alloc ?_ _)); exact BK449.out) k_ hk_.1)⟩)) (below_size (by repeat (first | (with_reducible first | exact HB.out | apply below_alloc | apply pw_below_drewN | apply below_drew1 | refine below_set ?_ GE449.out) | exact HB.out)))); have n1_ := Aside0.mk (Kd.R_lower (Kd.R_mono (ok' := fun k_ => True) ho1 (fun _ hk_ => trivial)) (below_size (by repeat (first | (with_reducible first | exact HB.out | apply below_alloc | apply pw_below_drewN | apply below_drew1 | refine below_set ?_ GE449.out) | exact HB.out)))); have n2_ := Aside0.mk (blk_below (g := gb449) (o := .cells #[.int .u8 a2_0, .int .u16 a2_1, .int .u16 a2_2, .int .u16 a2_3] 28 (0, 0)) (by (with_reducible repeat (first | refine blk_drewN ?_ _ | refine blk_drew ?_ | refine blk_alloc ?_ _)); exact BK449.out) hb); have n3_ := Aside0.mk (below_step (by repeat (first | (with_reducible first | exact HB.out | apply below_alloc | apply pw_below_drewN | apply below_drew1 | refine below_set ?_ GE449.out) | exact HB.out)) hb); clear BK449; clear HB; have HO455 := n0_; have HO458 := n1_; have BK449 := n2_; have HB := n3_; clear n0_ n1_ n2_ n3_; (try clear hb); (try clear hb2); (try clear hk); (try clear hi); (try clear ho0); (try clear ho1)) | ((with_reducible refine gate_dst (N := 10) rfl ?_); (try (refine gate_guard (by rfl) ?_; dsimp only)); refine box_event ?hg (N := 10) ?hd (cs := #[.int .i64 0, .slice none 0 0]) (t := 24) ?hr ?_; (case hd => rfl); (case hg => rfl); (case hr => first | (go_simp; done) | (go_simp; rfl)); intro gb459 hg w24 hbox hb; have n0_ := Aside0.mk (Kd.V_below (Kd.V_elderB (by (with_reducible repeat (first | apply Kd.V_alloc | apply Kd.V_drewN | apply Kd.V_drew)); exact HO455.out) gb459 (Nat.le_of_eq hg.symm)) hb); have n1_ := Aside0.mk (Kd.R_below (by (with_reducible repeat (first | apply Kd.R_alloc | apply Kd.R_drewN | apply Kd.R_drew)); exact HO458.out) hb); have n2_ := Aside0.mk (blk_below (g := gb449) (o := .cells #[.int .u8 a2_0, .int .u16 a2_1, .int .u16 a2_2, .int .u16 a2_3] 28 (0, 0)) (by (with_reducible repeat (first | refine blk_drewN ?_ _ | refine blk_drew ?_ | refine blk_alloc ?_ _)); exact BK449.out) hb); have n3_ := Aside0.mk (below_step (by repeat (first | (with_reducible first | exact HB.out | apply below_alloc | apply pw_below_drewN | apply below_drew1 | refine below_set ?_ GE449.out) | exact HB.out)) hb); have n4_ := Aside0.mk (hbox); have n5_ := Aside0.mk ((by rw [hg]; exact (below_size (by repeat (first | (with_reducible first | exact HB.out | apply below_alloc | apply pw_below_drewN | apply below_drew1 | refine below_set ?_ GE449.out) | exact HB.out))) : w.heap.size ≤ gb459)); have n6_ := Aside0.mk ((by rw [hg]; exact (below_size (by repeat (first | (with_reducible first | exact HB.out | apply below_alloc | apply pw_below_drewN | apply below_drew1 | refine below_set ?_ GE449.out) | exact HB.out))) : w.heap.size ≤ gb459)); have n7_ := Aside0.mk ((by rw [hg]; exact Nat.ne_of_lt (blk_lt (g := gb449) (o := .cells #[.int .u8 a2_0, .int .u16 a2_1, .int .u16 a2_2, .int .u16 a2_3] 28 (0, 0)) (by (with_reducible repeat (first | refine blk_drewN ?_ _ | refine blk_drew ?_ | refine blk_alloc ?_ _)); exact BK449.out)) : gb449 ≠ gb459)); have n8_ := Aside0.mk ((by rw [hg]; exact Nat.ne_of_gt (blk_lt (g := gb449) (o := .cells #[.int .u8 a2_0, .int .u16 a2_1, .int .u16 a2_2, .int .u16 a2_3] 28 (0, 0)) (by (with_reducible repeat (first | refine blk_drewN ?_ _ | refine blk_drew ?_ | refine blk_alloc ?_ _)); exact BK449.out)) : gb459 ≠ gb449)); clear HO455; clear HO458; clear BK449; clear HB; have HO455 := n0_; have HO458 := n1_; have BK449 := n2_; have HB := n3_; have BK459 := n4_; have GW459 := n5_; have GE459 := n6_; have NB449_459 := n7_; have NB459_449 := n8_; clear n0_ n1_ n2_ n3_ n4_ n5_ n6_ n7_ n8_; clear hb hbox hg; have hnb25 := NB459_449.out; have hnc25 := NB449_459.out; have hcz26_0 : w24.cell? ⟨gb459, 0, none⟩ = some (.int .i64 0) := (blk_cell BK459.out 0).trans rfl; have hcz26_1 : w24.cell? ⟨gb459, 1, none⟩ = some (.slice none 0 0) := (blk_cell BK459.out 1).trans rfl; have hfz26_0 := blk_frozen BK459.out 0; have hfz26_1 := blk_frozen BK459.out 1; obtain ⟨Ao27, co27, eo27⟩ := Kd.V_slice HO455.out; subst eo27; have hcz28_0 : w24.cell? ⟨gb449, 0, none⟩ = some (.int .u8 a2_0) := (blk_cell BK449.out 0).trans rfl; have hcz28_1 : w24.cell? ⟨gb449, 1, none⟩ = some (.int .u16 a2_1) := (blk_cell BK449.out 1).trans rfl; have hcz28_2 : w24.cell? ⟨gb449, 2, none⟩ = some (.int .u16 a2_2) := (blk_cell BK449.out 2).trans rfl; have hcz28_3 : w24.cell? ⟨gb449, 3, none⟩ = some (.int .u16 a2_3) := (blk_cell BK449.out 3).trans rfl; have hfz28_0 := blk_frozen BK449.out 0; have hfz28_1 := blk_frozen BK449.out 1; have hfz28_2 := blk_frozen BK449.out 2; have hfz28_3 := blk_frozen BK449.out 3) | ((with_reducible refine gate_callee (f := 15) rfl ?_); refine goesL_ (some 40) rfl rfl Try.func15 (by kernel_rfl) rfl #[.agg #[.int .i64 t452, .slice Ao27 t453.length co27], .int .u16 a2_1] rfl (by (try simp only [List.map_toArray, List.map_cons, List.map_nil]); first | done | rfl | (simp only [List.length_drop, List.length_take]; rfl)) ?_; (with_reducible refine (proofmarklaw13_literal.calls t452 _ _ t453 a2_1 t460 _ ?side1 ?side2 A11.out).mono ?_); (case side1 => refine (Kd.V_reads' (e := 50) (base := w.heap.size) (ok := fun k_ => ((some k_ ≠ (v457 : Value).ownBlock ∧ k_ ≠ gb449) ∧ k_ ≠ gb459)) (n := t453.length) (c := co27) ?_).2.2; exact (by (with_reducible repeat (first | apply Kd.V_alloc | apply Kd.V_drewN | apply Kd.V_drew)); exact (Kd.V_mono (Kd.V_far (p := ⟨gb459, 1, none⟩) (Kd.V_far (p := ⟨gb459, 0, none⟩) (Kd.V_mono HO455.out (fun k_ hk => (⟨hk, hk.2⟩ : _ ∧ k_ ≠ gb459))) (fun _ hk => hk.2) (.int .i64 t452)) (fun _ hk => hk.2) (.slice Ao27 t453.length co27)) (fun _ h_ => h_.1)))); (case side2 => exact (Kd.V_reads' HO455.out).2.1); rintro e w29 ⟨rfl, hb⟩; refine ⟨_, rfl, ?_⟩; have n0_ := Aside0.mk (Kd.V_below (by (with_reducible repeat (first | apply Kd.V_alloc | apply Kd.V_drewN | apply Kd.V_drew)); exact (Kd.V_mono (Kd.V_far (p := ⟨gb459, 1, none⟩) (Kd.V_far (p := ⟨gb459, 0, none⟩) (Kd.V_mono HO455.out (fun k_ hk => (⟨hk, hk.2⟩ : _ ∧ k_ ≠ gb459))) (fun _ hk => hk.2) (.int .i64 t452)) (fun _ hk => hk.2) (.slice Ao27 t453.length co27)) (fun _ h_ => h_.1))) hb); have n1_ := Aside0.mk (Kd.R_below (by (with_reducible repeat (first | apply Kd.R_alloc | apply Kd.R_drewN | apply Kd.R_drew)); exact (Kd.R_mono (Kd.R_far (p := ⟨gb459, 1, none⟩) (Kd.R_far (p := ⟨gb459, 0, none⟩) (Kd.R_types HO458.out BK459.out (by decide)) (fun _ hk => hk.2) (.int .i64 t452)) (fun _ hk => hk.2) (.slice Ao27 t453.length co27)) (fun _ h_ => h_.1))) hb); have n2_ := Aside0.mk (blk_below (g := gb449) (o := .cells #[.int .u8 a2_0, .int .u16 a2_1, .int .u16 a2_2, .int .u16 a2_3] 28 (0, 0)) (by (with_reducible repeat (first | refine blk_drewN ?_ _ | refine blk_drew ?_ | refine blk_alloc ?_ _)); refine blk_far ?_ NB449_459.out _; (with_reducible repeat (first | refine blk_drewN ?_ _ | refine blk_drew ?_ | refine blk_alloc ?_ _)); refine blk_far ?_ NB449_459.out _; (with_reducible repeat (first | refine blk_drewN ?_ _ | refine blk_drew ?_ | refine blk_alloc ?_ _)); exact BK449.out) hb); have n3_ := Aside0.mk (blk_below (g := gb459) (o := .cells #[.int .i64 t452, .slice Ao27 t453.length co27] 24 (0, 0)) (by (with_reducible repeat (first | refine blk_drewN ?_ _ | refine blk_drew ?_ | refine blk_alloc ?_ _)); refine blk_put (cs := #[.int .i64 t452, .slice none 0 0]) ?_ 1 _ rfl; (with_reducible repeat (first | refine blk_drewN ?_ _ | refine blk_drew ?_ | refine blk_alloc ?_ _)); refine blk_put (cs := #[.int .i64 0, .slice none 0 0]) ?_ 0 _ rfl; (with_reducible repeat (first | refine blk_drewN ?_ _ | refine blk_drew ?_ | refine blk_alloc ?_ _)); exact BK459.out) hb); have n4_ := Aside0.mk (below_step (by repeat (first | (with_reducible first | exact HB.out | apply below_alloc | apply pw_below_drewN | apply below_drew1 | refine below_set ?_ GE449.out | refine below_set ?_ GE459.out) | exact HB.out)) hb); clear HO455; clear HO458; clear BK449; clear BK459; clear HB; have HO455 := n0_; have HO458 := n1_; have BK449 := n2_; have BK459 := n3_; have HB := n4_; clear n0_ n1_ n2_ n3_ n4_; (try clear hb); (try clear hb2); (try clear hk); (try clear hi); have hcz30_0 : w29.cell? ⟨gb459, 0, none⟩ = some (.int .i64 t452) := (blk_cell BK459.out 0).trans rfl; have hcz30_1 : w29.cell? ⟨gb459, 1, none⟩ = some (.slice Ao27 t453.length co27) := (blk_cell BK459.out 1).trans rfl; have hfz30_0 := blk_frozen BK459.out 0; have hfz30_1 := blk_frozen BK459.out 1; have hcz31_0 : w29.cell? ⟨gb449, 0, none⟩ = some (.int .u8 a2_0) := (blk_cell BK449.out 0).trans rfl; have hcz31_1 : w29.cell? ⟨gb449, 1, none⟩ = some (.int .u16 a2_1) := (blk_cell BK449.out 1).trans rfl; have hcz31_2 : w29.cell? ⟨gb449, 2, none⟩ = some (.int .u16 a2_2) := (blk_cell BK449.out 2).trans rfl; have hcz31_3 : w29.cell? ⟨gb449, 3, none⟩ = some (.int .u16 a2_3) := (blk_cell BK449.out 3).trans rfl; have hfz31_0 := blk_frozen BK449.out 0; have hfz31_1 := blk_frozen BK449.out 1; have hfz31_2 := blk_frozen BK449.out 2; have hfz31_3 := blk_frozen BK449.out 3) | ((with_reducible refine gate_callee (f := 15) rfl ?_); refine goesL_ (some 44) rfl rfl Try.func15 (by kernel_rfl) rfl #[.agg #[.int .i64 t452, .slice Ao27 t453.length co27], .int .u16 a2_2] rfl (by (try simp only [List.map_toArray, List.map_cons, List.map_nil]); first | done | rfl | (simp only [List.length_drop, List.length_take]; rfl)) ?_; (with_reducible refine (proofmarklaw13_literal.calls t452 _ _ t453 a2_2 t461 _ ?side1 ?side2 A12.out).mono ?_); (case side1 => repeat (first | exact (Kd.V_reads' HO455.out).2.2 | (with_reducible refine Kd.C_alloc ?_ _) | (with_reducible refine Kd.C_drewN ?_ _) | (with_reducible refine Kd.C_drew ?_))); (case side2 => exact (Kd.V_reads' HO455.out).2.1); rintro e w32 ⟨rfl, hb⟩; refine ⟨_, rfl, ?_⟩; have n0_ := Aside0.mk (Kd.V_below (by (with_reducible repeat (first | apply Kd.V_alloc | apply Kd.V_drewN | apply Kd.V_drew)); exact HO455.out) hb); have n1_ := Aside0.mk (Kd.R_below (by (with_reducible repeat (first | apply Kd.R_alloc | apply Kd.R_drewN | apply Kd.R_drew)); exact HO458.out) hb); have n2_ := Aside0.mk (blk_below (g := gb449) (o := .cells #[.int .u8 a2_0, .int .u16 a2_1, .int .u16 a2_2, .int .u16 a2_3] 28 (0, 0)) (by (with_reducible repeat (first | refine blk_drewN ?_ _ | refine blk_drew ?_ | refine blk_alloc ?_ _)); exact BK449.out) hb); have n3_ := Aside0.mk (blk_below (g := gb459) (o := .cells #[.int .i64 t452, .slice Ao27 t453.length co27] 24 (0, 0)) (by (with_reducible repeat (first | refine blk_drewN ?_ _ | refine blk_drew ?_ | refine blk_alloc ?_ _)); exact BK459.out) hb); have n4_ := Aside0.mk (below_step (by repeat (first | (with_reducible first | exact HB.out | apply below_alloc | apply pw_below_drewN | apply below_drew1 | refine below_set ?_ GE449.out | refine below_set ?_ GE459.out) | exact HB.out)) hb); clear HO455; clear HO458; clear BK449; clear BK459; clear HB; have HO455 := n0_; have HO458 := n1_; have BK449 := n2_; have BK459 := n3_; have HB := n4_; clear n0_ n1_ n2_ n3_ n4_; (try clear hb); (try clear hb2); (try clear hk); (try clear hi); have hcz33_0 : w32.cell? ⟨gb459, 0, none⟩ = some (.int .i64 t452) := (blk_cell BK459.out 0).trans rfl; have hcz33_1 : w32.cell? ⟨gb459, 1, none⟩ = some (.slice Ao27 t453.length co27) := (blk_cell BK459.out 1).trans rfl; have hfz33_0 := blk_frozen BK459.out 0; have hfz33_1 := blk_frozen BK459.out 1; have hcz34_0 : w32.cell? ⟨gb449, 0, none⟩ = some (.int .u8 a2_0) := (blk_cell BK449.out 0).trans rfl; have hcz34_1 : w32.cell? ⟨gb449, 1, none⟩ = some (.int .u16 a2_1) := (blk_cell BK449.out 1).trans rfl; have hcz34_2 : w32.cell? ⟨gb449, 2, none⟩ = some (.int .u16 a2_2) := (blk_cell BK449.out 2).trans rfl; have hcz34_3 : w32.cell? ⟨gb449, 3, none⟩ = some (.int .u16 a2_3) := (blk_cell BK449.out 3).trans rfl; have hfz34_0 := blk_frozen BK449.out 0; have hfz34_1 := blk_frozen BK449.out 1; have hfz34_2 := blk_frozen BK449.out 2; have hfz34_3 := blk_frozen BK449.out 3) | ((with_reducible refine gate_callee (f := 15) rfl ?_); refine goesL_ (some 48) rfl rfl Try.func15 (by kernel_rfl) rfl #[.agg #[.int .i64 t452, .slice Ao27 t453.length co27], .int .u16 a2_3] rfl (by (try simp only [List.map_toArray, List.map_cons, List.map_nil]); first | done | rfl | (simp only [List.length_drop, List.length_take]; rfl)) ?_; (with_reducible refine (proofmarklaw13_literal.calls t452 _ _ t453 a2_3 t462 _ ?side1 ?side2 A13.out).mono ?_); (case side1 => repeat (first | exact (Kd.V_reads' HO455.out).2.2 | (with_reducible refine Kd.C_alloc ?_ _) | (with_reducible refine Kd.C_drewN ?_ _) | (with_reducible refine Kd.C_drew ?_))); (case side2 => exact (Kd.V_reads' HO455.out).2.1); rintro e w35 ⟨rfl, hb⟩; refine ⟨_, rfl, ?_⟩; have n0_ := Aside0.mk (Kd.V_below (by (with_reducible repeat (first | apply Kd.V_alloc | apply Kd.V_drewN | apply Kd.V_drew)); exact HO455.out) hb); have n1_ := Aside0.mk (Kd.R_below (by (with_reducible repeat (first | apply Kd.R_alloc | apply Kd.R_drewN | apply Kd.R_drew)); exact HO458.out) hb); have n2_ := Aside0.mk (blk_below (g := gb449) (o := .cells #[.int .u8 a2_0, .int .u16 a2_1, .int .u16 a2_2, .int .u16 a2_3] 28 (0, 0)) (by (with_reducible repeat (first | refine blk_drewN ?_ _ | refine blk_drew ?_ | refine blk_alloc ?_ _)); exact BK449.out) hb); have n3_ := Aside0.mk (blk_below (g := gb459) (o := .cells #[.int .i64 t452, .slice Ao27 t453.length co27] 24 (0, 0)) (by (with_reducible repeat (first | refine blk_drewN ?_ _ | refine blk_drew ?_ | refine blk_alloc ?_ _)); exact BK459.out) hb); have n4_ := Aside0.mk (below_step (by repeat (first | (with_reducible first | exact HB.out | apply below_alloc | apply pw_below_drewN | apply below_drew1 | refine below_set ?_ GE449.out | refine below_set ?_ GE459.out) | exact HB.out)) hb); clear HO455; clear HO458; clear BK449; clear BK459; clear HB; have HO455 := n0_; have HO458 := n1_; have BK449 := n2_; have BK459 := n3_; have HB := n4_; clear n0_ n1_ n2_ n3_ n4_; (try clear hb); (try clear hb2); (try clear hk); (try clear hi); have hcz36_0 : w35.cell? ⟨gb459, 0, none⟩ = some (.int .i64 t452) := (blk_cell BK459.out 0).trans rfl; have hcz36_1 : w35.cell? ⟨gb459, 1, none⟩ = some (.slice Ao27 t453.length co27) := (blk_cell BK459.out 1).trans rfl; have hfz36_0 := blk_frozen BK459.out 0; have hfz36_1 := blk_frozen BK459.out 1) | ((with_reducible refine gate_callee (f := 16) rfl ?_); refine goesL_ (some 53) rfl rfl Try.func16 (by kernel_rfl) rfl #[.agg #[.int .i64 t452, .slice Ao27 t453.length co27], .int .i64 t460, .int .i64 t461] rfl (by (try simp only [List.map_toArray, List.map_cons, List.map_nil]); first | done | rfl | (simp only [List.length_drop, List.length_take]; rfl)) ?_; (with_reducible refine (aig_And.calls k t452 (fun k_ => ((some k_ ≠ (v457 : Value).ownBlock ∧ k_ ≠ gb449) ∧ k_ ≠ gb459)) _ _ t453 t460 t461 t463 t464 t467 _ ?side1 A14.out).mono ?_); (case side1 => exact HO455.out); rintro e w37 ⟨v465, rfl, ho0, hb⟩; refine ⟨_, rfl, ?_⟩; have n0_ := Aside0.mk (Kd.V_below (by (with_reducible repeat (first | apply Kd.V_alloc | apply Kd.V_drewN | apply Kd.V_drew)); exact HO455.out) hb); have n1_ := Aside0.mk (Kd.R_below (by (with_reducible repeat (first | apply Kd.R_alloc | apply Kd.R_drewN | apply Kd.R_drew)); exact HO458.out) hb); have n2_ := Aside0.mk (Kd.V_lower (Kd.V_mono (ok' := fun k_ => some k_ ≠ (v457 : Value).ownBlock ∧ k_ ≠ gb449 ∧ k_ ≠ gb459) ho0 (fun k_ hk_ => ⟨Or.elim hk_ (fun hs_ => hs_.1.1) (fun hn_ => (Kd.fresh' (Kd.R_lt (by (with_reducible repeat (first | apply Kd.R_alloc | apply Kd.R_drewN | apply Kd.R_drew)); exact HO458.out)) k_ hn_)), Or.elim hk_ (fun hs_ => hs_.1.2) (fun hn_ => (Kd.freshB (g := gb449) (o := .cells #[.int .u8 a2_0, .int .u16 a2_1, .int .u16 a2_2, .int .u16 a2_3] 28 (0, 0)) (by (with_reducible repeat (first | refine blk_drewN ?_ _ | refine blk_drew ?_ | refine blk_alloc ?_ _)); exact BK449.out) k_ hn_)), Or.elim hk_ (fun hs_ => hs_.2) (fun hn_ => (Kd.freshB (g := gb459) (o := .cells #[.int .i64 t452, .slice Ao27 t453.length co27] 24 (0, 0)) (by (with_reducible repeat (first | refine blk_drewN ?_ _ | refine blk_drew ?_ | refine blk_alloc ?_ _)); exact BK459.out) k_ hn_))⟩)) (below_size (by repeat (first | (with_reducible first | exact HB.out | apply below_alloc | apply pw_below_drewN | apply below_drew1 | refine below_set ?_ GE449.out | refine below_set ?_ GE459.out) | exact HB.out)))); have n3_ := Aside0.mk (blk_below (g := gb449) (o := .cells #[.int .u8 a2_0, .int .u16 a2_1, .int .u16 a2_2, .int .u16 a2_3] 28 (0, 0)) (by (with_reducible repeat (first | refine blk_drewN ?_ _ | refine blk_drew ?_ | refine blk_alloc ?_ _)); exact BK449.out) hb); have n4_ := Aside0.mk (blk_below (g := gb459) (o := .cells #[.int .i64 t452, .slice Ao27 t453.length co27] 24 (0, 0)) (by (with_reducible repeat (first | refine blk_drewN ?_ _ | refine blk_drew ?_ | refine blk_alloc ?_ _)); exact BK459.out) hb); have n5_ := Aside0.mk (below_step (by repeat (first | (with_reducible first | exact HB.out | apply below_alloc | apply pw_below_drewN | apply below_drew1 | refine below_set ?_ GE449.out | refine below_set ?_ GE459.out) | exact HB.out)) hb); clear HO455; clear HO458; clear BK449; clear BK459; clear HB; have HO455 := n0_; have HO458 := n1_; have HO466 := n2_; have BK449 := n3_; have BK459 := n4_; have HB := n5_; clear n0_ n1_ n2_ n3_ n4_ n5_; (try clear hb); (try clear hb2); (try clear hk); (try clear hi); (try clear ho0)) | ((with_reducible refine gate_dst (N := 15) rfl ?_); (try (refine gate_guard (by rfl) ?_; dsimp only)); refine box_event ?hg (N := 15) ?hd (cs := #[.int .i64 0, .slice none 0 0]) (t := 24) ?hr ?_; (case hd => rfl); (case hg => rfl); (case hr => first | (go_simp; done) | (go_simp; rfl)); intro gb468 hg w38 hbox hb; have n0_ := Aside0.mk (Kd.V_below (Kd.V_elderB (by (with_reducible repeat (first | apply Kd.V_alloc | apply Kd.V_drewN | apply Kd.V_drew)); exact HO455.out) gb468 (Nat.le_of_eq hg.symm)) hb); have n1_ := Aside0.mk (Kd.R_below (by (with_reducible repeat (first | apply Kd.R_alloc | apply Kd.R_drewN | apply Kd.R_drew)); exact HO458.out) hb); have n2_ := Aside0.mk (Kd.V_below (Kd.V_elderB (by (with_reducible repeat (first | apply Kd.V_alloc | apply Kd.V_drewN | apply Kd.V_drew)); exact HO466.out) gb468 (Nat.le_of_eq hg.symm)) hb); have n3_ := Aside0.mk (blk_below (g := gb449) (o := .cells #[.int .u8 a2_0, .int .u16 a2_1, .int .u16 a2_2, .int .u16 a2_3] 28 (0, 0)) (by (with_reducible repeat (first | refine blk_drewN ?_ _ | refine blk_drew ?_ | refine blk_alloc ?_ _)); exact BK449.out) hb); have n4_ := Aside0.mk (blk_below (g := gb459) (o := .cells #[.int .i64 t452, .slice Ao27 t453.length co27] 24 (0, 0)) (by (with_reducible repeat (first | refine blk_drewN ?_ _ | refine blk_drew ?_ | refine blk_alloc ?_ _)); exact BK459.out) hb); have n5_ := Aside0.mk (below_step (by repeat (first | (with_reducible first | exact HB.out | apply below_alloc | apply pw_below_drewN | apply below_drew1 | refine below_set ?_ GE449.out | refine below_set ?_ GE459.out) | exact HB.out)) hb); have n6_ := Aside0.mk (hbox); have n7_ := Aside0.mk ((by rw [hg]; exact (below_size (by repeat (first | (with_reducible first | exact HB.out | apply below_alloc | apply pw_below_drewN | apply below_drew1 | refine below_set ?_ GE449.out | refine below_set ?_ GE459.out) | exact HB.out))) : w.heap.size ≤ gb468)); have n8_ := Aside0.mk ((by rw [hg]; exact (below_size (by repeat (first | (with_reducible first | exact HB.out | apply below_alloc | apply pw_below_drewN | apply below_drew1 | refine below_set ?_ GE449.out | refine below_set ?_ GE459.out) | exact HB.out))) : w.heap.size ≤ gb468)); have n9_ := Aside0.mk ((by rw [hg]; exact Nat.ne_of_lt (blk_lt (g := gb449) (o := .cells #[.int .u8 a2_0, .int .u16 a2_1, .int .u16 a2_2, .int .u16 a2_3] 28 (0, 0)) (by (with_reducible repeat (first | refine blk_drewN ?_ _ | refine blk_drew ?_ | refine blk_alloc ?_ _)); exact BK449.out)) : gb449 ≠ gb468)); have n10_ := Aside0.mk ((by rw [hg]; exact Nat.ne_of_gt (blk_lt (g := gb449) (o := .cells #[.int .u8 a2_0, .int .u16 a2_1, .int .u16 a2_2, .int .u16 a2_3] 28 (0, 0)) (by (with_reducible repeat (first | refine blk_drewN ?_ _ | refine blk_drew ?_ | refine blk_alloc ?_ _)); exact BK449.out)) : gb468 ≠ gb449)); have n11_ := Aside0.mk ((by rw [hg]; exact Nat.ne_of_lt (blk_lt (g := gb459) (o := .cells #[.int .i64 t452, .slice Ao27 t453.length co27] 24 (0, 0)) (by (with_reducible repeat (first | refine blk_drewN ?_ _ | refine blk_drew ?_ | refine blk_alloc ?_ _)); exact BK459.out)) : gb459 ≠ gb468)); have n12_ := Aside0.mk ((by rw [hg]; exact Nat.ne_of_gt (blk_lt (g := gb459) (o := .cells #[.int .i64 t452, .slice Ao27 t453.length co27] 24 (0, 0)) (by (with_reducible repeat (first | refine blk_drewN ?_ _ | refine blk_drew ?_ | refine blk_alloc ?_ _)); exact BK459.out)) : gb468 ≠ gb459)); clear HO455; clear HO458; clear HO466; clear BK449; clear BK459; clear HB; have HO455 := n0_; have HO458 := n1_; have HO466 := n2_; have BK449 := n3_; have BK459 := n4_; have HB := n5_; have BK468 := n6_; have GW468 := n7_; have GE468 := n8_; have NB449_468 := n9_; have NB468_449 := n10_; have NB459_468 := n11_; have NB468_459 := n12_; clear n0_ n1_ n2_ n3_ n4_ n5_ n6_ n7_ n8_ n9_ n10_ n11_ n12_; clear hb hbox hg; have hnb39 := NB468_449.out; have hnc39 := NB449_468.out; have hnb40 := NB468_459.out; have hnc40 := NB459_468.out; have hcz41_0 : w38.cell? ⟨gb468, 0, none⟩ = some (.int .i64 0) := (blk_cell BK468.out 0).trans rfl; have hcz41_1 : w38.cell? ⟨gb468, 1, none⟩ = some (.slice none 0 0) := (blk_cell BK468.out 1).trans rfl; have hfz41_0 := blk_frozen BK468.out 0; have hfz41_1 := blk_frozen BK468.out 1; obtain ⟨Ao42, co42, eo42⟩ := Kd.V_slice HO466.out; subst eo42) | ((with_reducible refine gate_store (t := 24) (p := 15) rfl ?_); refine store_event (t := 24) (p := 15) (v := ?vo_w43) (w1 := ((w38.setCell ⟨gb468, 0, none⟩ (.int .i64 t463)).setCell ⟨gb468, 1, none⟩ (.slice Ao42 t464.length co42))) ?hg ?ho ?hn ?hr ?_; (case ho => rfl); (case hg => rfl); (case hn => rfl); (case hr => first | (go_simp; done) | (go_simp; rfl)); intro w43 hw; have n0_ : Aside0 (Kd.V k50 50 w43 w.heap.size (fun k_ => some k_ ≠ (v457 : Value).ownBlock ∧ k_ ≠ gb449 ∧ k_ ≠ gb459 ∧ k_ ≠ gb468) (.slice Ao27 t453.length co27) t453) := ⟨(by rw [hw]; exact (by (with_reducible repeat (first | apply Kd.V_alloc | apply Kd.V_drewN | apply Kd.V_drew)); exact Kd.V_mono (Kd.V_far (p := ⟨gb468, 1, none⟩) (Kd.V_far (p := ⟨gb468, 0, none⟩) (Kd.V_mono HO455.out (fun k_ hk => (⟨hk, hk.2⟩ : _ ∧ k_ ≠ gb468))) (fun _ hk => hk.2) (.int .i64 t463)) (fun _ hk => hk.2) (.slice Ao42 t464.length co42)) (fun _ hk => ⟨hk.1.1.1.1, ⟨hk.1.1.1.2, ⟨hk.1.1.2, hk.1.2⟩⟩⟩)))⟩; have n1_ : Aside0 (Kd.R (Kd.int .i64) 3 w43 w.heap.size (fun _ => True) v457 t456) := ⟨(by rw [hw]; exact (by (with_reducible repeat (first | apply Kd.R_alloc | apply Kd.R_drewN | apply Kd.R_drew)); exact Kd.R_mono (Kd.R_far (p := ⟨gb468, 1, none⟩) (Kd.R_far (p := ⟨gb468, 0, none⟩) (Kd.R_types HO458.out BK468.out (by decide)) (fun _ hk => hk.2) (.int .i64 t463)) (fun _ hk => hk.2) (.slice Ao42 t464.length co42)) (fun _ hk => trivial)))⟩; have n2_ : Aside0 (Kd.V k50 50 w43 w.heap.size (fun k_ => some k_ ≠ (v457 : Value).ownBlock ∧ k_ ≠ gb449 ∧ k_ ≠ gb459 ∧ k_ ≠ gb468) (.slice Ao42 t464.length co42) t464) := ⟨(by rw [hw]; exact (by (with_reducible repeat (first | apply Kd.V_alloc | apply Kd.V_drewN | apply Kd.V_drew)); exact Kd.V_mono (Kd.V_far (p := ⟨gb468, 1, none⟩) (Kd.V_far (p := ⟨gb468, 0, none⟩) (Kd.V_mono HO466.out (fun k_ hk => (⟨hk, hk.2⟩ : _ ∧ k_ ≠ gb468))) (fun _ hk => hk.2) (.int .i64 t463)) (fun _ hk => hk.2) (.slice Ao42 t464.length co42)) (fun _ hk => ⟨hk.1.1.1, ⟨hk.1.1.2.1, ⟨hk.1.1.2.2, hk.1.2⟩⟩⟩)))⟩; have n3_ : Aside0 (w43.heap[gb449]? = some (.cells #[.int .u8 a2_0, .int .u16 a2_1, .int .u16 a2_2, .int .u16 a2_3] 28 (0, 0))) := ⟨(by rw [hw]; exact (by (with_reducible repeat (first | refine blk_drewN ?_ _ | refine blk_drew ?_ | refine blk_alloc ?_ _)); refine blk_far ?_ NB449_468.out _; (with_reducible repeat (first | refine blk_drewN ?_ _ | refine blk_drew ?_ | refine blk_alloc ?_ _)); refine blk_far ?_ NB449_468.out _; (with_reducible repeat (first | refine blk_drewN ?_ _ | refine blk_drew ?_ | refine blk_alloc ?_ _)); exact BK449.out))⟩; have n4_ : Aside0 (w43.heap[gb459]? = some (.cells #[.int .i64 t452, .slice Ao27 t453.length co27] 24 (0, 0))) := ⟨(by rw [hw]; exact (by (with_reducible repeat (first | refine blk_drewN ?_ _ | refine blk_drew ?_ | refine blk_alloc ?_ _)); refine blk_far ?_ NB459_468.out _; (with_reducible repeat (first | refine blk_drewN ?_ _ | refine blk_drew ?_ | refine blk_alloc ?_ _)); refine blk_far ?_ NB459_468.out _; (with_reducible repeat (first | refine blk_drewN ?_ _ | refine blk_drew ?_ | refine blk_alloc ?_ _)); exact BK459.out))⟩; have n5_ : Aside0 (w43.heap[gb468]? = some (.cells #[.int .i64 t463, .slice Ao42 t464.length co42] 24 (0, 0))) := ⟨(by rw [hw]; exact (by (with_reducible repeat (first | refine blk_drewN ?_ _ | refine blk_drew ?_ | refine blk_alloc ?_ _)); refine blk_put (cs := #[.int .i64 t463, .slice none 0 0]) ?_ 1 _ rfl; (with_reducible repeat (first | refine blk_drewN ?_ _ | refine blk_drew ?_ | refine blk_alloc ?_ _)); refine blk_put (cs := #[.int .i64 0, .slice none 0 0]) ?_ 0 _ rfl; (with_reducible repeat (first | refine blk_drewN ?_ _ | refine blk_drew ?_ | refine blk_alloc ?_ _)); exact BK468.out))⟩; have n6_ : Aside0 (Below w.heap.size w w43) := ⟨(by rw [hw]; exact (by repeat (first | (with_reducible first | exact HB.out | apply below_alloc | apply pw_below_drewN | apply below_drew1 | refine below_set ?_ GE449.out | refine below_set ?_ GE459.out | refine below_set ?_ GE468.out) | exact HB.out)))⟩; clear hw; clear HO455; clear HO458; clear HO466; clear BK449; clear BK459; clear BK468; clear HB; have HO455 := n0_; have HO458 := n1_; have HO466 := n2_; have BK449 := n3_; have BK459 := n4_; have BK468 := n5_; have HB := n6_; clear n0_ n1_ n2_ n3_ n4_ n5_ n6_; have hcz44_0 : w43.cell? ⟨gb468, 0, none⟩ = some (.int .i64 t463) := (blk_cell BK468.out 0).trans rfl; have hcz44_1 : w43.cell? ⟨gb468, 1, none⟩ = some (.slice Ao42 t464.length co42) := (blk_cell BK468.out 1).trans rfl; have hfz44_0 := blk_frozen BK468.out 0; have hfz44_1 := blk_frozen BK468.out 1) | ((with_reducible refine gate_callee (f := 19) rfl ?_); refine goesL_ (some 60) rfl rfl Try.func19 (by kernel_rfl) rfl #[.agg #[.int .i64 t463, .slice Ao42 t464.length co42], .int .i64 t460, .int .i64 t461] rfl (by (try simp only [List.map_toArray, List.map_cons, List.map_nil]); first | done | rfl | (simp only [List.length_drop, List.length_take]; rfl)) ?_; (with_reducible refine (aig_Or.calls k t463 (fun k_ => (some k_ ≠ (v457 : Value).ownBlock ∧ (k_ ≠ gb449 ∧ (k_ ≠ gb459 ∧ k_ ≠ gb468)))) _ _ t464 t460 t461 t469 t470 t473 _ ?side1 A15.out).mono ?_); (case side1 => exact HO466.out); rintro e w45 ⟨v471, rfl, ho0, hb⟩; refine ⟨_, rfl, ?_⟩; have n0_ := Aside0.mk (Kd.V_below (by (with_reducible repeat (first | apply Kd.V_alloc | apply Kd.V_drewN | apply Kd.V_drew)); exact HO455.out) hb); have n1_ := Aside0.mk (Kd.R_below (by (with_reducible repeat (first | apply Kd.R_alloc | apply Kd.R_drewN | apply Kd.R_drew)); exact HO458.out) hb); have n2_ := Aside0.mk (Kd.V_below (by (with_reducible repeat (first | apply Kd.V_alloc | apply Kd.V_drewN | apply Kd.V_drew)); exact HO466.out) hb); have n3_ := Aside0.mk (Kd.V_lower (Kd.V_mono (ok' := fun k_ => some k_ ≠ (v457 : Value).ownBlock ∧ k_ ≠ gb449 ∧ k_ ≠ gb459 ∧ k_ ≠ gb468) ho0 (fun k_ hk_ => ⟨Or.elim hk_ (fun hs_ => hs_.1) (fun hn_ => (Kd.fresh' (Kd.R_lt (by (with_reducible repeat (first | apply Kd.R_alloc | apply Kd.R_drewN | apply Kd.R_drew)); exact HO458.out)) k_ hn_)), Or.elim hk_ (fun hs_ => hs_.2.1) (fun hn_ => (Kd.freshB (g := gb449) (o := .cells #[.int .u8 a2_0, .int .u16 a2_1, .int .u16 a2_2, .int .u16 a2_3] 28 (0, 0)) (by (with_reducible repeat (first | refine blk_drewN ?_ _ | refine blk_drew ?_ | refine blk_alloc ?_ _)); exact BK449.out) k_ hn_)), Or.elim hk_ (fun hs_ => hs_.2.2.1) (fun hn_ => (Kd.freshB (g := gb459) (o := .cells #[.int .i64 t452, .slice Ao27 t453.length co27] 24 (0, 0)) (by (with_reducible repeat (first | refine blk_drewN ?_ _ | refine blk_drew ?_ | refine blk_alloc ?_ _)); exact BK459.out) k_ hn_)), Or.elim hk_ (fun hs_ => hs_.2.2.2) (fun hn_ => (Kd.freshB (g := gb468) (o := .cells #[.int .i64 t463, .slice Ao42 t464.length co42] 24 (0, 0)) (by (with_reducible repeat (first | refine blk_drewN ?_ _ | refine blk_drew ?_ | refine blk_alloc ?_ _)); exact BK468.out) k_ hn_))⟩)) (below_size (by repeat (first | (with_reducible first | exact HB.out | apply below_alloc | apply pw_below_drewN | apply below_drew1 | refine below_set ?_ GE449.out | refine below_set ?_ GE459.out | refine below_set ?_ GE468.out) | exact HB.out)))); have n4_ := Aside0.mk (blk_below (g := gb449) (o := .cells #[.int .u8 a2_0, .int .u16 a2_1, .int .u16 a2_2, .int .u16 a2_3] 28 (0, 0)) (by (with_reducible repeat (first | refine blk_drewN ?_ _ | refine blk_drew ?_ | refine blk_alloc ?_ _)); exact BK449.out) hb); have n5_ := Aside0.mk (blk_below (g := gb459) (o := .cells #[.int .i64 t452, .slice Ao27 t453.length co27] 24 (0, 0)) (by (with_reducible repeat (first | refine blk_drewN ?_ _ | refine blk_drew ?_ | refine blk_alloc ?_ _)); exact BK459.out) hb); have n6_ := Aside0.mk (blk_below (g := gb468) (o := .cells #[.int .i64 t463, .slice Ao42 t464.length co42] 24 (0, 0)) (by (with_reducible repeat (first | refine blk_drewN ?_ _ | refine blk_drew ?_ | refine blk_alloc ?_ _)); exact BK468.out) hb); have n7_ := Aside0.mk (below_step (by repeat (first | (with_reducible first | exact HB.out | apply below_alloc | apply pw_below_drewN | apply below_drew1 | refine below_set ?_ GE449.out | refine below_set ?_ GE459.out | refine below_set ?_ GE468.out) | exact HB.out)) hb); clear HO455; clear HO458; clear HO466; clear BK449; clear BK459; clear BK468; clear HB; have HO455 := n0_; have HO458 := n1_; have HO466 := n2_; have HO472 := n3_; have BK449 := n4_; have BK459 := n5_; have BK468 := n6_; have HB := n7_; clear n0_ n1_ n2_ n3_ n4_ n5_ n6_ n7_; (try clear hb); (try clear hb2); (try clear hk); (try clear hi); (try clear ho0)) | ((with_reducible refine gate_dst (N := 17) rfl ?_); (try (refine gate_guard (by rfl) ?_; dsimp only)); refine box_event ?hg (N := 17) ?hd (cs := #[.int .i64 0, .slice none 0 0]) (t := 24) ?hr ?_; (case hd => rfl); (case hg => rfl); (case hr => first | (go_simp; done) | (go_simp; rfl)); intro gb474 hg w46 hbox hb; have n0_ := Aside0.mk (Kd.V_below (Kd.V_elderB (by (with_reducible repeat (first | apply Kd.V_alloc | apply Kd.V_drewN | apply Kd.V_drew)); exact HO455.out) gb474 (Nat.le_of_eq hg.symm)) hb); have n1_ := Aside0.mk (Kd.R_below (by (with_reducible repeat (first | apply Kd.R_alloc | apply Kd.R_drewN | apply Kd.R_drew)); exact HO458.out) hb); have n2_ := Aside0.mk (Kd.V_below (Kd.V_elderB (by (with_reducible repeat (first | apply Kd.V_alloc | apply Kd.V_drewN | apply Kd.V_drew)); exact HO466.out) gb474 (Nat.le_of_eq hg.symm)) hb); have n3_ := Aside0.mk (Kd.V_below (Kd.V_elderB (by (with_reducible repeat (first | apply Kd.V_alloc | apply Kd.V_drewN | apply Kd.V_drew)); exact HO472.out) gb474 (Nat.le_of_eq hg.symm)) hb); have n4_ := Aside0.mk (blk_below (g := gb449) (o := .cells #[.int .u8 a2_0, .int .u16 a2_1, .int .u16 a2_2, .int .u16 a2_3] 28 (0, 0)) (by (with_reducible repeat (first | refine blk_drewN ?_ _ | refine blk_drew ?_ | refine blk_alloc ?_ _)); exact BK449.out) hb); have n5_ := Aside0.mk (blk_below (g := gb459) (o := .cells #[.int .i64 t452, .slice Ao27 t453.length co27] 24 (0, 0)) (by (with_reducible repeat (first | refine blk_drewN ?_ _ | refine blk_drew ?_ | refine blk_alloc ?_ _)); exact BK459.out) hb); have n6_ := Aside0.mk (blk_below (g := gb468) (o := .cells #[.int .i64 t463, .slice Ao42 t464.length co42] 24 (0, 0)) (by (with_reducible repeat (first | refine blk_drewN ?_ _ | refine blk_drew ?_ | refine blk_alloc ?_ _)); exact BK468.out) hb); have n7_ := Aside0.mk (below_step (by repeat (first | (with_reducible first | exact HB.out | apply below_alloc | apply pw_below_drewN | apply below_drew1 | refine below_set ?_ GE449.out | refine below_set ?_ GE459.out | refine below_set ?_ GE468.out) | exact HB.out)) hb); have n8_ := Aside0.mk (hbox); have n9_ := Aside0.mk ((by rw [hg]; exact (below_size (by repeat (first | (with_reducible first | exact HB.out | apply below_alloc | apply pw_below_drewN | apply below_drew1 | refine below_set ?_ GE449.out | refine below_set ?_ GE459.out | refine below_set ?_ GE468.out) | exact HB.out))) : w.heap.size ≤ gb474)); have n10_ := Aside0.mk ((by rw [hg]; exact (below_size (by repeat (first | (with_reducible first | exact HB.out | apply below_alloc | apply pw_below_drewN | apply below_drew1 | refine below_set ?_ GE449.out | refine below_set ?_ GE459.out | refine below_set ?_ GE468.out) | exact HB.out))) : w.heap.size ≤ gb474)); have n11_ := Aside0.mk ((by rw [hg]; exact Nat.ne_of_lt (blk_lt (g := gb449) (o := .cells #[.int .u8 a2_0, .int .u16 a2_1, .int .u16 a2_2, .int .u16 a2_3] 28 (0, 0)) (by (with_reducible repeat (first | refine blk_drewN ?_ _ | refine blk_drew ?_ | refine blk_alloc ?_ _)); exact BK449.out)) : gb449 ≠ gb474)); have n12_ := Aside0.mk ((by rw [hg]; exact Nat.ne_of_gt (blk_lt (g := gb449) (o := .cells #[.int .u8 a2_0, .int .u16 a2_1, .int .u16 a2_2, .int .u16 a2_3] 28 (0, 0)) (by (with_reducible repeat (first | refine blk_drewN ?_ _ | refine blk_drew ?_ | refine blk_alloc ?_ _)); exact BK449.out)) : gb474 ≠ gb449)); have n13_ := Aside0.mk ((by rw [hg]; exact Nat.ne_of_lt (blk_lt (g := gb459) (o := .cells #[.int .i64 t452, .slice Ao27 t453.length co27] 24 (0, 0)) (by (with_reducible repeat (first | refine blk_drewN ?_ _ | refine blk_drew ?_ | refine blk_alloc ?_ _)); exact BK459.out)) : gb459 ≠ gb474)); have n14_ := Aside0.mk ((by rw [hg]; exact Nat.ne_of_gt (blk_lt (g := gb459) (o := .cells #[.int .i64 t452, .slice Ao27 t453.length co27] 24 (0, 0)) (by (with_reducible repeat (first | refine blk_drewN ?_ _ | refine blk_drew ?_ | refine blk_alloc ?_ _)); exact BK459.out)) : gb474 ≠ gb459)); have n15_ := Aside0.mk ((by rw [hg]; exact Nat.ne_of_lt (blk_lt (g := gb468) (o := .cells #[.int .i64 t463, .slice Ao42 t464.length co42] 24 (0, 0)) (by (with_reducible repeat (first | refine blk_drewN ?_ _ | refine blk_drew ?_ | refine blk_alloc ?_ _)); exact BK468.out)) : gb468 ≠ gb474)); have n16_ := Aside0.mk ((by rw [hg]; exact Nat.ne_of_gt (blk_lt (g := gb468) (o := .cells #[.int .i64 t463, .slice Ao42 t464.length co42] 24 (0, 0)) (by (with_reducible repeat (first | refine blk_drewN ?_ _ | refine blk_drew ?_ | refine blk_alloc ?_ _)); exact BK468.out)) : gb474 ≠ gb468)); clear HO455; clear HO458; clear HO466; clear HO472; clear BK449; clear BK459; clear BK468; clear HB; have HO455 := n0_; have HO458 := n1_; have HO466 := n2_; have HO472 := n3_; have BK449 := n4_; have BK459 := n5_; have BK468 := n6_; have HB := n7_; have BK474 := n8_; have GW474 := n9_; have GE474 := n10_; have NB449_474 := n11_; have NB474_449 := n12_; have NB459_474 := n13_; have NB474_459 := n14_; have NB468_474 := n15_; have NB474_468 := n16_; clear n0_ n1_ n2_ n3_ n4_ n5_ n6_ n7_ n8_ n9_ n10_ n11_ n12_ n13_ n14_ n15_ n16_; clear hb hbox hg; have hnb47 := NB474_449.out; have hnc47 := NB449_474.out; have hnb48 := NB474_459.out; have hnc48 := NB459_474.out; have hnb49 := NB474_468.out; have hnc49 := NB468_474.out; have hcz50_0 : w46.cell? ⟨gb474, 0, none⟩ = some (.int .i64 0) := (blk_cell BK474.out 0).trans rfl; have hcz50_1 : w46.cell? ⟨gb474, 1, none⟩ = some (.slice none 0 0) := (blk_cell BK474.out 1).trans rfl; have hfz50_0 := blk_frozen BK474.out 0; have hfz50_1 := blk_frozen BK474.out 1; obtain ⟨Ao51, co51, eo51⟩ := Kd.V_slice HO472.out; subst eo51) | ((with_reducible refine gate_store (t := 24) (p := 17) rfl ?_); refine store_event (t := 24) (p := 17) (v := ?vo_w52) (w1 := ((w46.setCell ⟨gb474, 0, none⟩ (.int .i64 t469)).setCell ⟨gb474, 1, none⟩ (.slice Ao51 t470.length co51))) ?hg ?ho ?hn ?hr ?_; (case ho => rfl); (case hg => rfl); (case hn => rfl); (case hr => first | (go_simp; done) | (go_simp; rfl)); intro w52 hw; have n0_ : Aside0 (Kd.V k50 50 w52 w.heap.size (fun k_ => some k_ ≠ (v457 : Value).ownBlock ∧ k_ ≠ gb449 ∧ k_ ≠ gb459 ∧ k_ ≠ gb468 ∧ k_ ≠ gb474) (.slice Ao27 t453.length co27) t453) := ⟨(by rw [hw]; exact (by (with_reducible repeat (first | apply Kd.V_alloc | apply Kd.V_drewN | apply Kd.V_drew)); exact Kd.V_mono (Kd.V_far (p := ⟨gb474, 1, none⟩) (Kd.V_far (p := ⟨gb474, 0, none⟩) (Kd.V_mono HO455.out (fun k_ hk => (⟨hk, hk.2⟩ : _ ∧ k_ ≠ gb474))) (fun _ hk => hk.2) (.int .i64 t469)) (fun _ hk => hk.2) (.slice Ao51 t470.length co51)) (fun _ hk => ⟨hk.1.1.1, ⟨hk.1.1.2.1, ⟨hk.1.1.2.2.1, ⟨hk.1.1.2.2.2, hk.1.2⟩⟩⟩⟩)))⟩; have n1_ : Aside0 (Kd.R (Kd.int .i64) 3 w52 w.heap.size (fun _ => True) v457 t456) := ⟨(by rw [hw]; exact (by (with_reducible repeat (first | apply Kd.R_alloc | apply Kd.R_drewN | apply Kd.R_drew)); exact Kd.R_mono (Kd.R_far (p := ⟨gb474, 1, none⟩) (Kd.R_far (p := ⟨gb474, 0, none⟩) (Kd.R_types HO458.out BK474.out (by decide)) (fun _ hk => hk.2) (.int .i64 t469)) (fun _ hk => hk.2) (.slice Ao51 t470.length co51)) (fun _ hk => trivial)))⟩; have n2_ : Aside0 (Kd.V k50 50 w52 w.heap.size (fun k_ => some k_ ≠ (v457 : Value).ownBlock ∧ k_ ≠ gb449 ∧ k_ ≠ gb459 ∧ k_ ≠ gb468 ∧ k_ ≠ gb474) (.slice Ao42 t464.length co42) t464) := ⟨(by rw [hw]; exact (by (with_reducible repeat (first | apply Kd.V_alloc | apply Kd.V_drewN | apply Kd.V_drew)); exact Kd.V_mono (Kd.V_far (p := ⟨gb474, 1, none⟩) (Kd.V_far (p := ⟨gb474, 0, none⟩) (Kd.V_mono HO466.out (fun k_ hk => (⟨hk, hk.2⟩ : _ ∧ k_ ≠ gb474))) (fun _ hk => hk.2) (.int .i64 t469)) (fun _ hk => hk.2) (.slice Ao51 t470.length co51)) (fun _ hk => ⟨hk.1.1.1, ⟨hk.1.1.2.1, ⟨hk.1.1.2.2.1, ⟨hk.1.1.2.2.2, hk.1.2⟩⟩⟩⟩)))⟩; have n3_ : Aside0 (Kd.V k50 50 w52 w.heap.size (fun k_ => some k_ ≠ (v457 : Value).ownBlock ∧ k_ ≠ gb449 ∧ k_ ≠ gb459 ∧ k_ ≠ gb468 ∧ k_ ≠ gb474) (.slice Ao51 t470.length co51) t470) := ⟨(by rw [hw]; exact (by (with_reducible repeat (first | apply Kd.V_alloc | apply Kd.V_drewN | apply Kd.V_drew)); exact Kd.V_mono (Kd.V_far (p := ⟨gb474, 1, none⟩) (Kd.V_far (p := ⟨gb474, 0, none⟩) (Kd.V_mono HO472.out (fun k_ hk => (⟨hk, hk.2⟩ : _ ∧ k_ ≠ gb474))) (fun _ hk => hk.2) (.int .i64 t469)) (fun _ hk => hk.2) (.slice Ao51 t470.length co51)) (fun _ hk => ⟨hk.1.1.1, ⟨hk.1.1.2.1, ⟨hk.1.1.2.2.1, ⟨hk.1.1.2.2.2, hk.1.2⟩⟩⟩⟩)))⟩; have n4_ : Aside0 (w52.heap[gb449]? = some (.cells #[.int .u8 a2_0, .int .u16 a2_1, .int .u16 a2_2, .int .u16 a2_3] 28 (0, 0))) := ⟨(by rw [hw]; exact (by (with_reducible repeat (first | refine blk_drewN ?_ _ | refine blk_drew ?_ | refine blk_alloc ?_ _)); refine blk_far ?_ NB449_474.out _; (with_reducible repeat (first | refine blk_drewN ?_ _ | refine blk_drew ?_ | refine blk_alloc ?_ _)); refine blk_far ?_ NB449_474.out _; (with_reducible repeat (first | refine blk_drewN ?_ _ | refine blk_drew ?_ | refine blk_alloc ?_ _)); exact BK449.out))⟩; have n5_ : Aside0 (w52.heap[gb459]? = some (.cells #[.int .i64 t452, .slice Ao27 t453.length co27] 24 (0, 0))) := ⟨(by rw [hw]; exact (by (with_reducible repeat (first | refine blk_drewN ?_ _ | refine blk_drew ?_ | refine blk_alloc ?_ _)); refine blk_far ?_ NB459_474.out _; (with_reducible repeat (first | refine blk_drewN ?_ _ | refine blk_drew ?_ | refine blk_alloc ?_ _)); refine blk_far ?_ NB459_474.out _; (with_reducible repeat (first | refine blk_drewN ?_ _ | refine blk_drew ?_ | refine blk_alloc ?_ _)); exact BK459.out))⟩; have n6_ : Aside0 (w52.heap[gb468]? = some (.cells #[.int .i64 t463, .slice Ao42 t464.length co42] 24 (0, 0))) := ⟨(by rw [hw]; exact (by (with_reducible repeat (first | refine blk_drewN ?_ _ | refine blk_drew ?_ | refine blk_alloc ?_ _)); refine blk_far ?_ NB468_474.out _; (with_reducible repeat (first | refine blk_drewN ?_ _ | refine blk_drew ?_ | refine blk_alloc ?_ _)); refine blk_far ?_ NB468_474.out _; (with_reducible repeat (first | refine blk_drewN ?_ _ | refine blk_drew ?_ | refine blk_alloc ?_ _)); exact BK468.out))⟩; have n7_ : Aside0 (w52.heap[gb474]? = some (.cells #[.int .i64 t469, .slice Ao51 t470.length co51] 24 (0, 0))) := ⟨(by rw [hw]; exact (by (with_reducible repeat (first | refine blk_drewN ?_ _ | refine blk_drew ?_ | refine blk_alloc ?_ _)); refine blk_put (cs := #[.int .i64 t469, .slice none 0 0]) ?_ 1 _ rfl; (with_reducible repeat (first | refine blk_drewN ?_ _ | refine blk_drew ?_ | refine blk_alloc ?_ _)); refine blk_put (cs := #[.int .i64 0, .slice none 0 0]) ?_ 0 _ rfl; (with_reducible repeat (first | refine blk_drewN ?_ _ | refine blk_drew ?_ | refine blk_alloc ?_ _)); exact BK474.out))⟩; have n8_ : Aside0 (Below w.heap.size w w52) := ⟨(by rw [hw]; exact (by repeat (first | (with_reducible first | exact HB.out | apply below_alloc | apply pw_below_drewN | apply below_drew1 | refine below_set ?_ GE449.out | refine below_set ?_ GE459.out | refine below_set ?_ GE468.out | refine below_set ?_ GE474.out) | exact HB.out)))⟩; clear hw; clear HO455; clear HO458; clear HO466; clear HO472; clear BK449; clear BK459; clear BK468; clear BK474; clear HB; have HO455 := n0_; have HO458 := n1_; have HO466 := n2_; have HO472 := n3_; have BK449 := n4_; have BK459 := n5_; have BK468 := n6_; have BK474 := n7_; have HB := n8_; clear n0_ n1_ n2_ n3_ n4_ n5_ n6_ n7_ n8_; have hcz53_0 : w52.cell? ⟨gb474, 0, none⟩ = some (.int .i64 t469) := (blk_cell BK474.out 0).trans rfl; have hcz53_1 : w52.cell? ⟨gb474, 1, none⟩ = some (.slice Ao51 t470.length co51) := (blk_cell BK474.out 1).trans rfl; have hfz53_0 := blk_frozen BK474.out 0; have hfz53_1 := blk_frozen BK474.out 1) | ((with_reducible refine gate_callee (f := 21) rfl ?_); refine goesL_ (some 67) rfl rfl Try.func21 (by kernel_rfl) rfl #[.agg #[.int .i64 t469, .slice Ao51 t470.length co51], .int .i64 t460, .int .i64 t461] rfl (by (try simp only [List.map_toArray, List.map_cons, List.map_nil]); first | done | rfl | (simp only [List.length_drop, List.length_take]; rfl)) ?_; (with_reducible refine (aig_Xor.calls k t469 (fun k_ => (some k_ ≠ (v457 : Value).ownBlock ∧ (k_ ≠ gb449 ∧ (k_ ≠ gb459 ∧ (k_ ≠ gb468 ∧ k_ ≠ gb474))))) _ _ t470 t460 t461 t475 t476 t479 _ ?side1 A16.out).mono ?_); (case side1 => exact HO472.out); rintro e w54 ⟨v477, rfl, ho0, hb⟩; refine ⟨_, rfl, ?_⟩; have n0_ := Aside0.mk (Kd.V_below (by (with_reducible repeat (first | apply Kd.V_alloc | apply Kd.V_drewN | apply Kd.V_drew)); exact HO455.out) hb); have n1_ := Aside0.mk (Kd.R_below (by (with_reducible repeat (first | apply Kd.R_alloc | apply Kd.R_drewN | apply Kd.R_drew)); exact HO458.out) hb); have n2_ := Aside0.mk (Kd.V_below (by (with_reducible repeat (first | apply Kd.V_alloc | apply Kd.V_drewN | apply Kd.V_drew)); exact HO466.out) hb); have n3_ := Aside0.mk (Kd.V_below (by (with_reducible repeat (first | apply Kd.V_alloc | apply Kd.V_drewN | apply Kd.V_drew)); exact HO472.out) hb); have n4_ := Aside0.mk (Kd.V_lower (Kd.V_mono (ok' := fun k_ => some k_ ≠ (v457 : Value).ownBlock ∧ k_ ≠ gb449 ∧ k_ ≠ gb459 ∧ k_ ≠ gb468 ∧ k_ ≠ gb474) ho0 (fun k_ hk_ => ⟨Or.elim hk_ (fun hs_ => hs_.1) (fun hn_ => (Kd.fresh' (Kd.R_lt (by (with_reducible repeat (first | apply Kd.R_alloc | apply Kd.R_drewN | apply Kd.R_drew)); exact HO458.out)) k_ hn_)), Or.elim hk_ (fun hs_ => hs_.2.1) (fun hn_ => (Kd.freshB (g := gb449) (o := .cells #[.int .u8 a2_0, .int .u16 a2_1, .int .u16 a2_2, .int .u16 a2_3] 28 (0, 0)) (by (with_reducible repeat (first | refine blk_drewN ?_ _ | refine blk_drew ?_ | refine blk_alloc ?_ _)); exact BK449.out) k_ hn_)), Or.elim hk_ (fun hs_ => hs_.2.2.1) (fun hn_ => (Kd.freshB (g := gb459) (o := .cells #[.int .i64 t452, .slice Ao27 t453.length co27] 24 (0, 0)) (by (with_reducible repeat (first | refine blk_drewN ?_ _ | refine blk_drew ?_ | refine blk_alloc ?_ _)); exact BK459.out) k_ hn_)), Or.elim hk_ (fun hs_ => hs_.2.2.2.1) (fun hn_ => (Kd.freshB (g := gb468) (o := .cells #[.int .i64 t463, .slice Ao42 t464.length co42] 24 (0, 0)) (by (with_reducible repeat (first | refine blk_drewN ?_ _ | refine blk_drew ?_ | refine blk_alloc ?_ _)); exact BK468.out) k_ hn_)), Or.elim hk_ (fun hs_ => hs_.2.2.2.2) (fun hn_ => (Kd.freshB (g := gb474) (o := .cells #[.int .i64 t469, .slice Ao51 t470.length co51] 24 (0, 0)) (by (with_reducible repeat (first | refine blk_drewN ?_ _ | refine blk_drew ?_ | refine blk_alloc ?_ _)); exact BK474.out) k_ hn_))⟩)) (below_size (by repeat (first | (with_reducible first | exact HB.out | apply below_alloc | apply pw_below_drewN | apply below_drew1 | refine below_set ?_ GE449.out | refine below_set ?_ GE459.out | refine below_set ?_ GE468.out | refine below_set ?_ GE474.out) | exact HB.out)))); have n5_ := Aside0.mk (blk_below (g := gb449) (o := .cells #[.int .u8 a2_0, .int .u16 a2_1, .int .u16 a2_2, .int .u16 a2_3] 28 (0, 0)) (by (with_reducible repeat (first | refine blk_drewN ?_ _ | refine blk_drew ?_ | refine blk_alloc ?_ _)); exact BK449.out) hb); have n6_ := Aside0.mk (blk_below (g := gb459) (o := .cells #[.int .i64 t452, .slice Ao27 t453.length co27] 24 (0, 0)) (by (with_reducible repeat (first | refine blk_drewN ?_ _ | refine blk_drew ?_ | refine blk_alloc ?_ _)); exact BK459.out) hb); have n7_ := Aside0.mk (blk_below (g := gb468) (o := .cells #[.int .i64 t463, .slice Ao42 t464.length co42] 24 (0, 0)) (by (with_reducible repeat (first | refine blk_drewN ?_ _ | refine blk_drew ?_ | refine blk_alloc ?_ _)); exact BK468.out) hb); have n8_ := Aside0.mk (blk_below (g := gb474) (o := .cells #[.int .i64 t469, .slice Ao51 t470.length co51] 24 (0, 0)) (by (with_reducible repeat (first | refine blk_drewN ?_ _ | refine blk_drew ?_ | refine blk_alloc ?_ _)); exact BK474.out) hb); have n9_ := Aside0.mk (below_step (by repeat (first | (with_reducible first | exact HB.out | apply below_alloc | apply pw_below_drewN | apply below_drew1 | refine below_set ?_ GE449.out | refine below_set ?_ GE459.out | refine below_set ?_ GE468.out | refine below_set ?_ GE474.out) | exact HB.out)) hb); clear HO455; clear HO458; clear HO466; clear HO472; clear BK449; clear BK459; clear BK468; clear BK474; clear HB; have HO455 := n0_; have HO458 := n1_; have HO466 := n2_; have HO472 := n3_; have HO478 := n4_; have BK449 := n5_; have BK459 := n6_; have BK468 := n7_; have BK474 := n8_; have HB := n9_; clear n0_ n1_ n2_ n3_ n4_ n5_ n6_ n7_ n8_ n9_; (try clear hb); (try clear hb2); (try clear hk); (try clear hi); (try clear ho0)) | ((with_reducible refine gate_dst (N := 19) rfl ?_); (try (refine gate_guard (by rfl) ?_; dsimp only)); refine box_event ?hg (N := 19) ?hd (cs := #[.int .i64 0, .slice none 0 0]) (t := 24) ?hr ?_; (case hd => rfl); (case hg => rfl); (case hr => first | (go_simp; done) | (go_simp; rfl)); intro gb480 hg w55 hbox hb; have n0_ := Aside0.mk (Kd.V_below (Kd.V_elderB (by (with_reducible repeat (first | apply Kd.V_alloc | apply Kd.V_drewN | apply Kd.V_drew)); exact HO455.out) gb480 (Nat.le_of_eq hg.symm)) hb); have n1_ := Aside0.mk (Kd.R_below (by (with_reducible repeat (first | apply Kd.R_alloc | apply Kd.R_drewN | apply Kd.R_drew)); exact HO458.out) hb); have n2_ := Aside0.mk (Kd.V_below (Kd.V_elderB (by (with_reducible repeat (first | apply Kd.V_alloc | apply Kd.V_drewN | apply Kd.V_drew)); exact HO466.out) gb480 (Nat.le_of_eq hg.symm)) hb); have n3_ := Aside0.mk (Kd.V_below (Kd.V_elderB (by (with_reducible repeat (first | apply Kd.V_alloc | apply Kd.V_drewN | apply Kd.V_drew)); exact HO472.out) gb480 (Nat.le_of_eq hg.symm)) hb); have n4_ := Aside0.mk (Kd.V_below (Kd.V_elderB (by (with_reducible repeat (first | apply Kd.V_alloc | apply Kd.V_drewN | apply Kd.V_drew)); exact HO478.out) gb480 (Nat.le_of_eq hg.symm)) hb); have n5_ := Aside0.mk (blk_below (g := gb449) (o := .cells #[.int .u8 a2_0, .int .u16 a2_1, .int .u16 a2_2, .int .u16 a2_3] 28 (0, 0)) (by (with_reducible repeat (first | refine blk_drewN ?_ _ | refine blk_drew ?_ | refine blk_alloc ?_ _)); exact BK449.out) hb); have n6_ := Aside0.mk (blk_below (g := gb459) (o := .cells #[.int .i64 t452, .slice Ao27 t453.length co27] 24 (0, 0)) (by (with_reducible repeat (first | refine blk_drewN ?_ _ | refine blk_drew ?_ | refine blk_alloc ?_ _)); exact BK459.out) hb); have n7_ := Aside0.mk (blk_below (g := gb468) (o := .cells #[.int .i64 t463, .slice Ao42 t464.length co42] 24 (0, 0)) (by (with_reducible repeat (first | refine blk_drewN ?_ _ | refine blk_drew ?_ | refine blk_alloc ?_ _)); exact BK468.out) hb); have n8_ := Aside0.mk (blk_below (g := gb474) (o := .cells #[.int .i64 t469, .slice Ao51 t470.length co51] 24 (0, 0)) (by (with_reducible repeat (first | refine blk_drewN ?_ _ | refine blk_drew ?_ | refine blk_alloc ?_ _)); exact BK474.out) hb); have n9_ := Aside0.mk (below_step (by repeat (first | (with_reducible first | exact HB.out | apply below_alloc | apply pw_below_drewN | apply below_drew1 | refine below_set ?_ GE449.out | refine below_set ?_ GE459.out | refine below_set ?_ GE468.out | refine below_set ?_ GE474.out) | exact HB.out)) hb); have n10_ := Aside0.mk (hbox); have n11_ := Aside0.mk ((by rw [hg]; exact (below_size (by repeat (first | (with_reducible first | exact HB.out | apply below_alloc | apply pw_below_drewN | apply below_drew1 | refine below_set ?_ GE449.out | refine below_set ?_ GE459.out | refine below_set ?_ GE468.out | refine below_set ?_ GE474.out) | exact HB.out))) : w.heap.size ≤ gb480)); have n12_ := Aside0.mk ((by rw [hg]; exact (below_size (by repeat (first | (with_reducible first | exact HB.out | apply below_alloc | apply pw_below_drewN | apply below_drew1 | refine below_set ?_ GE449.out | refine below_set ?_ GE459.out | refine below_set ?_ GE468.out | refine below_set ?_ GE474.out) | exact HB.out))) : w.heap.size ≤ gb480)); have n13_ := Aside0.mk ((by rw [hg]; exact Nat.ne_of_lt (blk_lt (g := gb449) (o := .cells #[.int .u8 a2_0, .int .u16 a2_1, .int .u16 a2_2, .int .u16 a2_3] 28 (0, 0)) (by (with_reducible repeat (first | refine blk_drewN ?_ _ | refine blk_drew ?_ | refine blk_alloc ?_ _)); exact BK449.out)) : gb449 ≠ gb480)); have n14_ := Aside0.mk ((by rw [hg]; exact Nat.ne_of_gt (blk_lt (g := gb449) (o := .cells #[.int .u8 a2_0, .int .u16 a2_1, .int .u16 a2_2, .int .u16 a2_3] 28 (0, 0)) (by (with_reducible repeat (first | refine blk_drewN ?_ _ | refine blk_drew ?_ | refine blk_alloc ?_ _)); exact BK449.out)) : gb480 ≠ gb449)); have n15_ := Aside0.mk ((by rw [hg]; exact Nat.ne_of_lt (blk_lt (g := gb459) (o := .cells #[.int .i64 t452, .slice Ao27 t453.length co27] 24 (0, 0)) (by (with_reducible repeat (first | refine blk_drewN ?_ _ | refine blk_drew ?_ | refine blk_alloc ?_ _)); exact BK459.out)) : gb459 ≠ gb480)); have n16_ := Aside0.mk ((by rw [hg]; exact Nat.ne_of_gt (blk_lt (g := gb459) (o := .cells #[.int .i64 t452, .slice Ao27 t453.length co27] 24 (0, 0)) (by (with_reducible repeat (first | refine blk_drewN ?_ _ | refine blk_drew ?_ | refine blk_alloc ?_ _)); exact BK459.out)) : gb480 ≠ gb459)); have n17_ := Aside0.mk ((by rw [hg]; exact Nat.ne_of_lt (blk_lt (g := gb468) (o := .cells #[.int .i64 t463, .slice Ao42 t464.length co42] 24 (0, 0)) (by (with_reducible repeat (first | refine blk_drewN ?_ _ | refine blk_drew ?_ | refine blk_alloc ?_ _)); exact BK468.out)) : gb468 ≠ gb480)); have n18_ := Aside0.mk ((by rw [hg]; exact Nat.ne_of_gt (blk_lt (g := gb468) (o := .cells #[.int .i64 t463, .slice Ao42 t464.length co42] 24 (0, 0)) (by (with_reducible repeat (first | refine blk_drewN ?_ _ | refine blk_drew ?_ | refine blk_alloc ?_ _)); exact BK468.out)) : gb480 ≠ gb468)); have n19_ := Aside0.mk ((by rw [hg]; exact Nat.ne_of_lt (blk_lt (g := gb474) (o := .cells #[.int .i64 t469, .slice Ao51 t470.length co51] 24 (0, 0)) (by (with_reducible repeat (first | refine blk_drewN ?_ _ | refine blk_drew ?_ | refine blk_alloc ?_ _)); exact BK474.out)) : gb474 ≠ gb480)); have n20_ := Aside0.mk ((by rw [hg]; exact Nat.ne_of_gt (blk_lt (g := gb474) (o := .cells #[.int .i64 t469, .slice Ao51 t470.length co51] 24 (0, 0)) (by (with_reducible repeat (first | refine blk_drewN ?_ _ | refine blk_drew ?_ | refine blk_alloc ?_ _)); exact BK474.out)) : gb480 ≠ gb474)); clear HO455; clear HO458; clear HO466; clear HO472; clear HO478; clear BK449; clear BK459; clear BK468; clear BK474; clear HB; have HO455 := n0_; have HO458 := n1_; have HO466 := n2_; have HO472 := n3_; have HO478 := n4_; have BK449 := n5_; have BK459 := n6_; have BK468 := n7_; have BK474 := n8_; have HB := n9_; have BK480 := n10_; have GW480 := n11_; have GE480 := n12_; have NB449_480 := n13_; have NB480_449 := n14_; have NB459_480 := n15_; have NB480_459 := n16_; have NB468_480 := n17_; have NB480_468 := n18_; have NB474_480 := n19_; have NB480_474 := n20_; clear n0_ n1_ n2_ n3_ n4_ n5_ n6_ n7_ n8_ n9_ n10_ n11_ n12_ n13_ n14_ n15_ n16_ n17_ n18_ n19_ n20_; clear hb hbox hg; have hnb56 := NB480_449.out; have hnc56 := NB449_480.out; have hnb57 := NB480_459.out; have hnc57 := NB459_480.out; have hnb58 := NB480_468.out; have hnc58 := NB468_480.out; have hnb59 := NB480_474.out; have hnc59 := NB474_480.out; have hcz60_0 : w55.cell? ⟨gb480, 0, none⟩ = some (.int .i64 0) := (blk_cell BK480.out 0).trans rfl; have hcz60_1 : w55.cell? ⟨gb480, 1, none⟩ = some (.slice none 0 0) := (blk_cell BK480.out 1).trans rfl; have hfz60_0 := blk_frozen BK480.out 0; have hfz60_1 := blk_frozen BK480.out 1; obtain ⟨Ao61, co61, eo61⟩ := Kd.V_slice HO478.out; subst eo61) | ((with_reducible refine gate_store (t := 24) (p := 19) rfl ?_); refine store_event (t := 24) (p := 19) (v := ?vo_w62) (w1 := ((w55.setCell ⟨gb480, 0, none⟩ (.int .i64 t475)).setCell ⟨gb480, 1, none⟩ (.slice Ao61 t476.length co61))) ?hg ?ho ?hn ?hr ?_; (case ho => rfl); (case hg => rfl); (case hn => rfl); (case hr => first | (go_simp; done) | (go_simp; rfl)); intro w62 hw; have n0_ : Aside0 (Kd.V k50 50 w62 w.heap.size (fun k_ => some k_ ≠ (v457 : Value).ownBlock ∧ k_ ≠ gb449 ∧ k_ ≠ gb459 ∧ k_ ≠ gb468 ∧ k_ ≠ gb474 ∧ k_ ≠ gb480) (.slice Ao27 t453.length co27) t453) := ⟨(by rw [hw]; exact (by (with_reducible repeat (first | apply Kd.V_alloc | apply Kd.V_drewN | apply Kd.V_drew)); exact Kd.V_mono (Kd.V_far (p := ⟨gb480, 1, none⟩) (Kd.V_far (p := ⟨gb480, 0, none⟩) (Kd.V_mono HO455.out (fun k_ hk => (⟨hk, hk.2⟩ : _ ∧ k_ ≠ gb480))) (fun _ hk => hk.2) (.int .i64 t475)) (fun _ hk => hk.2) (.slice Ao61 t476.length co61)) (fun _ hk => ⟨hk.1.1.1, ⟨hk.1.1.2.1, ⟨hk.1.1.2.2.1, ⟨hk.1.1.2.2.2.1, ⟨hk.1.1.2.2.2.2, hk.1.2⟩⟩⟩⟩⟩)))⟩; have n1_ : Aside0 (Kd.R (Kd.int .i64) 3 w62 w.heap.size (fun _ => True) v457 t456) := ⟨(by rw [hw]; exact (by (with_reducible repeat (first | apply Kd.R_alloc | apply Kd.R_drewN | apply Kd.R_drew)); exact Kd.R_mono (Kd.R_far (p := ⟨gb480, 1, none⟩) (Kd.R_far (p := ⟨gb480, 0, none⟩) (Kd.R_types HO458.out BK480.out (by decide)) (fun _ hk => hk.2) (.int .i64 t475)) (fun _ hk => hk.2) (.slice Ao61 t476.length co61)) (fun _ hk => trivial)))⟩; have n2_ : Aside0 (Kd.V k50 50 w62 w.heap.size (fun k_ => some k_ ≠ (v457 : Value).ownBlock ∧ k_ ≠ gb449 ∧ k_ ≠ gb459 ∧ k_ ≠ gb468 ∧ k_ ≠ gb474 ∧ k_ ≠ gb480) (.slice Ao42 t464.length co42) t464) := ⟨(by rw [hw]; exact (by (with_reducible repeat (first | apply Kd.V_alloc | apply Kd.V_drewN | apply Kd.V_drew)); exact Kd.V_mono (Kd.V_far (p := ⟨gb480, 1, none⟩) (Kd.V_far (p := ⟨gb480, 0, none⟩) (Kd.V_mono HO466.out (fun k_ hk => (⟨hk, hk.2⟩ : _ ∧ k_ ≠ gb480))) (fun _ hk => hk.2) (.int .i64 t475)) (fun _ hk => hk.2) (.slice Ao61 t476.length co61)) (fun _ hk => ⟨hk.1.1.1, ⟨hk.1.1.2.1, ⟨hk.1.1.2.2.1, ⟨hk.1.1.2.2.2.1, ⟨hk.1.1.2.2.2.2, hk.1.2⟩⟩⟩⟩⟩)))⟩; have n3_ : Aside0 (Kd.V k50 50 w62 w.heap.size (fun k_ => some k_ ≠ (v457 : Value).ownBlock ∧ k_ ≠ gb449 ∧ k_ ≠ gb459 ∧ k_ ≠ gb468 ∧ k_ ≠ gb474 ∧ k_ ≠ gb480) (.slice Ao51 t470.length co51) t470) := ⟨(by rw [hw]; exact (by (with_reducible repeat (first | apply Kd.V_alloc | apply Kd.V_drewN | apply Kd.V_drew)); exact Kd.V_mono (Kd.V_far (p := ⟨gb480, 1, none⟩) (Kd.V_far (p := ⟨gb480, 0, none⟩) (Kd.V_mono HO472.out (fun k_ hk => (⟨hk, hk.2⟩ : _ ∧ k_ ≠ gb480))) (fun _ hk => hk.2) (.int .i64 t475)) (fun _ hk => hk.2) (.slice Ao61 t476.length co61)) (fun _ hk => ⟨hk.1.1.1, ⟨hk.1.1.2.1, ⟨hk.1.1.2.2.1, ⟨hk.1.1.2.2.2.1, ⟨hk.1.1.2.2.2.2, hk.1.2⟩⟩⟩⟩⟩)))⟩; have n4_ : Aside0 (Kd.V k50 50 w62 w.heap.size (fun k_ => some k_ ≠ (v457 : Value).ownBlock ∧ k_ ≠ gb449 ∧ k_ ≠ gb459 ∧ k_ ≠ gb468 ∧ k_ ≠ gb474 ∧ k_ ≠ gb480) (.slice Ao61 t476.length co61) t476) := ⟨(by rw [hw]; exact (by (with_reducible repeat (first | apply Kd.V_alloc | apply Kd.V_drewN | apply Kd.V_drew)); exact Kd.V_mono (Kd.V_far (p := ⟨gb480, 1, none⟩) (Kd.V_far (p := ⟨gb480, 0, none⟩) (Kd.V_mono HO478.out (fun k_ hk => (⟨hk, hk.2⟩ : _ ∧ k_ ≠ gb480))) (fun _ hk => hk.2) (.int .i64 t475)) (fun _ hk => hk.2) (.slice Ao61 t476.length co61)) (fun _ hk => ⟨hk.1.1.1, ⟨hk.1.1.2.1, ⟨hk.1.1.2.2.1, ⟨hk.1.1.2.2.2.1, ⟨hk.1.1.2.2.2.2, hk.1.2⟩⟩⟩⟩⟩)))⟩; have n5_ : Aside0 (w62.heap[gb449]? = some (.cells #[.int .u8 a2_0, .int .u16 a2_1, .int .u16 a2_2, .int .u16 a2_3] 28 (0, 0))) := ⟨(by rw [hw]; exact (by (with_reducible repeat (first | refine blk_drewN ?_ _ | refine blk_drew ?_ | refine blk_alloc ?_ _)); refine blk_far ?_ NB449_480.out _; (with_reducible repeat (first | refine blk_drewN ?_ _ | refine blk_drew ?_ | refine blk_alloc ?_ _)); refine blk_far ?_ NB449_480.out _; (with_reducible repeat (first | refine blk_drewN ?_ _ | refine blk_drew ?_ | refine blk_alloc ?_ _)); exact BK449.out))⟩; have n6_ : Aside0 (w62.heap[gb459]? = some (.cells #[.int .i64 t452, .slice Ao27 t453.length co27] 24 (0, 0))) := ⟨(by rw [hw]; exact (by (with_reducible repeat (first | refine blk_drewN ?_ _ | refine blk_drew ?_ | refine blk_alloc ?_ _)); refine blk_far ?_ NB459_480.out _; (with_reducible repeat (first | refine blk_drewN ?_ _ | refine blk_drew ?_ | refine blk_alloc ?_ _)); refine blk_far ?_ NB459_480.out _; (with_reducible repeat (first | refine blk_drewN ?_ _ | refine blk_drew ?_ | refine blk_alloc ?_ _)); exact BK459.out))⟩; have n7_ : Aside0 (w62.heap[gb468]? = some (.cells #[.int .i64 t463, .slice Ao42 t464.length co42] 24 (0, 0))) := ⟨(by rw [hw]; exact (by (with_reducible repeat (first | refine blk_drewN ?_ _ | refine blk_drew ?_ | refine blk_alloc ?_ _)); refine blk_far ?_ NB468_480.out _; (with_reducible repeat (first | refine blk_drewN ?_ _ | refine blk_drew ?_ | refine blk_alloc ?_ _)); refine blk_far ?_ NB468_480.out _; (with_reducible repeat (first | refine blk_drewN ?_ _ | refine blk_drew ?_ | refine blk_alloc ?_ _)); exact BK468.out))⟩; have n8_ : Aside0 (w62.heap[gb474]? = some (.cells #[.int .i64 t469, .slice Ao51 t470.length co51] 24 (0, 0))) := ⟨(by rw [hw]; exact (by (with_reducible repeat (first | refine blk_drewN ?_ _ | refine blk_drew ?_ | refine blk_alloc ?_ _)); refine blk_far ?_ NB474_480.out _; (with_reducible repeat (first | refine blk_drewN ?_ _ | refine blk_drew ?_ | refine blk_alloc ?_ _)); refine blk_far ?_ NB474_480.out _; (with_reducible repeat (first | refine blk_drewN ?_ _ | refine blk_drew ?_ | refine blk_alloc ?_ _)); exact BK474.out))⟩; have n9_ : Aside0 (w62.heap[gb480]? = some (.cells #[.int .i64 t475, .slice Ao61 t476.length co61] 24 (0, 0))) := ⟨(by rw [hw]; exact (by (with_reducible repeat (first | refine blk_drewN ?_ _ | refine blk_drew ?_ | refine blk_alloc ?_ _)); refine blk_put (cs := #[.int .i64 t475, .slice none 0 0]) ?_ 1 _ rfl; (with_reducible repeat (first | refine blk_drewN ?_ _ | refine blk_drew ?_ | refine blk_alloc ?_ _)); refine blk_put (cs := #[.int .i64 0, .slice none 0 0]) ?_ 0 _ rfl; (with_reducible repeat (first | refine blk_drewN ?_ _ | refine blk_drew ?_ | refine blk_alloc ?_ _)); exact BK480.out))⟩; have n10_ : Aside0 (Below w.heap.size w w62) := ⟨(by rw [hw]; exact (by repeat (first | (with_reducible first | exact HB.out | apply below_alloc | apply pw_below_drewN | apply below_drew1 | refine below_set ?_ GE449.out | refine below_set ?_ GE459.out | refine below_set ?_ GE468.out | refine below_set ?_ GE474.out | refine below_set ?_ GE480.out) | exact HB.out)))⟩; clear hw; clear HO455; clear HO458; clear HO466; clear HO472; clear HO478; clear BK449; clear BK459; clear BK468; clear BK474; clear BK480; clear HB; have HO455 := n0_; have HO458 := n1_; have HO466 := n2_; have HO472 := n3_; have HO478 := n4_; have BK449 := n5_; have BK459 := n6_; have BK468 := n7_; have BK474 := n8_; have BK480 := n9_; have HB := n10_; clear n0_ n1_ n2_ n3_ n4_ n5_ n6_ n7_ n8_ n9_ n10_; have hcz63_0 : w62.cell? ⟨gb480, 0, none⟩ = some (.int .i64 t475) := (blk_cell BK480.out 0).trans rfl; have hcz63_1 : w62.cell? ⟨gb480, 1, none⟩ = some (.slice Ao61 t476.length co61) := (blk_cell BK480.out 1).trans rfl; have hfz63_0 := blk_frozen BK480.out 0; have hfz63_1 := blk_frozen BK480.out 1) | ((with_reducible refine gate_callee (f := 23) rfl ?_); refine goesL_ (some 75) rfl rfl Try.func23 (by kernel_rfl) rfl #[.agg #[.int .i64 t475, .slice Ao61 t476.length co61], .int .i64 t460, .int .i64 t461, .int .i64 t462] rfl (by (try simp only [List.map_toArray, List.map_cons, List.map_nil]); first | done | rfl | (simp only [List.length_drop, List.length_take]; rfl)) ?_; (with_reducible refine (aig_Mux.calls k t475 (fun k_ => (some k_ ≠ (v457 : Value).ownBlock ∧ (k_ ≠ gb449 ∧ (k_ ≠ gb459 ∧ (k_ ≠ gb468 ∧ (k_ ≠ gb474 ∧ k_ ≠ gb480)))))) _ _ t476 t460 t461 t462 t481 t482 t485 _ ?side1 A17.out).mono ?_); (case side1 => exact HO478.out); rintro e w64 ⟨v483, rfl, ho0, hb⟩; refine ⟨_, rfl, ?_⟩; have n0_ := Aside0.mk (Kd.V_below (by (with_reducible repeat (first | apply Kd.V_alloc | apply Kd.V_drewN | apply Kd.V_drew)); exact HO455.out) hb); have n1_ := Aside0.mk (Kd.R_below (by (with_reducible repeat (first | apply Kd.R_alloc | apply Kd.R_drewN | apply Kd.R_drew)); exact HO458.out) hb); have n2_ := Aside0.mk (Kd.V_below (by (with_reducible repeat (first | apply Kd.V_alloc | apply Kd.V_drewN | apply Kd.V_drew)); exact HO466.out) hb); have n3_ := Aside0.mk (Kd.V_below (by (with_reducible repeat (first | apply Kd.V_alloc | apply Kd.V_drewN | apply Kd.V_drew)); exact HO472.out) hb); have n4_ := Aside0.mk (Kd.V_below (by (with_reducible repeat (first | apply Kd.V_alloc | apply Kd.V_drewN | apply Kd.V_drew)); exact HO478.out) hb); have n5_ := Aside0.mk (Kd.V_lower (Kd.V_mono (ok' := fun k_ => some k_ ≠ (v457 : Value).ownBlock ∧ k_ ≠ gb449 ∧ k_ ≠ gb459 ∧ k_ ≠ gb468 ∧ k_ ≠ gb474 ∧ k_ ≠ gb480) ho0 (fun k_ hk_ => ⟨Or.elim hk_ (fun hs_ => hs_.1) (fun hn_ => (Kd.fresh' (Kd.R_lt (by (with_reducible repeat (first | apply Kd.R_alloc | apply Kd.R_drewN | apply Kd.R_drew)); exact HO458.out)) k_ hn_)), Or.elim hk_ (fun hs_ => hs_.2.1) (fun hn_ => (Kd.freshB (g := gb449) (o := .cells #[.int .u8 a2_0, .int .u16 a2_1, .int .u16 a2_2, .int .u16 a2_3] 28 (0, 0)) (by (with_reducible repeat (first | refine blk_drewN ?_ _ | refine blk_drew ?_ | refine blk_alloc ?_ _)); exact BK449.out) k_ hn_)), Or.elim hk_ (fun hs_ => hs_.2.2.1) (fun hn_ => (Kd.freshB (g := gb459) (o := .cells #[.int .i64 t452, .slice Ao27 t453.length co27] 24 (0, 0)) (by (with_reducible repeat (first | refine blk_drewN ?_ _ | refine blk_drew ?_ | refine blk_alloc ?_ _)); exact BK459.out) k_ hn_)), Or.elim hk_ (fun hs_ => hs_.2.2.2.1) (fun hn_ => (Kd.freshB (g := gb468) (o := .cells #[.int .i64 t463, .slice Ao42 t464.length co42] 24 (0, 0)) (by (with_reducible repeat (first | refine blk_drewN ?_ _ | refine blk_drew ?_ | refine blk_alloc ?_ _)); exact BK468.out) k_ hn_)), Or.elim hk_ (fun hs_ => hs_.2.2.2.2.1) (fun hn_ => (Kd.freshB (g := gb474) (o := .cells #[.int .i64 t469, .slice Ao51 t470.length co51] 24 (0, 0)) (by (with_reducible repeat (first | refine blk_drewN ?_ _ | refine blk_drew ?_ | refine blk_alloc ?_ _)); exact BK474.out) k_ hn_)), Or.elim hk_ (fun hs_ => hs_.2.2.2.2.2) (fun hn_ => (Kd.freshB (g := gb480) (o := .cells #[.int .i64 t475, .slice Ao61 t476.length co61] 24 (0, 0)) (by (with_reducible repeat (first | refine blk_drewN ?_ _ | refine blk_drew ?_ | refine blk_alloc ?_ _)); exact BK480.out) k_ hn_))⟩)) (below_size (by repeat (first | (with_reducible first | exact HB.out | apply below_alloc | apply pw_below_drewN | apply below_drew1 | refine below_set ?_ GE449.out | refine below_set ?_ GE459.out | refine below_set ?_ GE468.out | refine below_set ?_ GE474.out | refine below_set ?_ GE480.out) | exact HB.out)))); have n6_ := Aside0.mk (blk_below (g := gb449) (o := .cells #[.int .u8 a2_0, .int .u16 a2_1, .int .u16 a2_2, .int .u16 a2_3] 28 (0, 0)) (by (with_reducible repeat (first | refine blk_drewN ?_ _ | refine blk_drew ?_ | refine blk_alloc ?_ _)); exact BK449.out) hb); have n7_ := Aside0.mk (blk_below (g := gb459) (o := .cells #[.int .i64 t452, .slice Ao27 t453.length co27] 24 (0, 0)) (by (with_reducible repeat (first | refine blk_drewN ?_ _ | refine blk_drew ?_ | refine blk_alloc ?_ _)); exact BK459.out) hb); have n8_ := Aside0.mk (blk_below (g := gb468) (o := .cells #[.int .i64 t463, .slice Ao42 t464.length co42] 24 (0, 0)) (by (with_reducible repeat (first | refine blk_drewN ?_ _ | refine blk_drew ?_ | refine blk_alloc ?_ _)); exact BK468.out) hb); have n9_ := Aside0.mk (blk_below (g := gb474) (o := .cells #[.int .i64 t469, .slice Ao51 t470.length co51] 24 (0, 0)) (by (with_reducible repeat (first | refine blk_drewN ?_ _ | refine blk_drew ?_ | refine blk_alloc ?_ _)); exact BK474.out) hb); have n10_ := Aside0.mk (blk_below (g := gb480) (o := .cells #[.int .i64 t475, .slice Ao61 t476.length co61] 24 (0, 0)) (by (with_reducible repeat (first | refine blk_drewN ?_ _ | refine blk_drew ?_ | refine blk_alloc ?_ _)); exact BK480.out) hb); have n11_ := Aside0.mk (below_step (by repeat (first | (with_reducible first | exact HB.out | apply below_alloc | apply pw_below_drewN | apply below_drew1 | refine below_set ?_ GE449.out | refine below_set ?_ GE459.out | refine below_set ?_ GE468.out | refine below_set ?_ GE474.out | refine below_set ?_ GE480.out) | exact HB.out)) hb); clear HO455; clear HO458; clear HO466; clear HO472; clear HO478; clear BK449; clear BK459; clear BK468; clear BK474; clear BK480; clear HB; have HO455 := n0_; have HO458 := n1_; have HO466 := n2_; have HO472 := n3_; have HO478 := n4_; have HO484 := n5_; have BK449 := n6_; have BK459 := n7_; have BK468 := n8_; have BK474 := n9_; have BK480 := n10_; have HB := n11_; clear n0_ n1_ n2_ n3_ n4_ n5_ n6_ n7_ n8_ n9_ n10_ n11_; (try clear hb); (try clear hb2); (try clear hk); (try clear hi); (try clear ho0)) | ((with_reducible refine gate_dst (N := 21) rfl ?_); (try (refine gate_guard (by rfl) ?_; dsimp only)); refine box_event ?hg (N := 21) ?hd (cs := #[.int .i64 0, .slice none 0 0]) (t := 24) ?hr ?_; (case hd => rfl); (case hg => rfl); (case hr => first | (go_simp; done) | (go_simp; rfl)); intro gb486 hg w65 hbox hb; have n0_ := Aside0.mk (Kd.V_below (Kd.V_elderB (by (with_reducible repeat (first | apply Kd.V_alloc | apply Kd.V_drewN | apply Kd.V_drew)); exact HO455.out) gb486 (Nat.le_of_eq hg.symm)) hb); have n1_ := Aside0.mk (Kd.R_below (by (with_reducible repeat (first | apply Kd.R_alloc | apply Kd.R_drewN | apply Kd.R_drew)); exact HO458.out) hb); have n2_ := Aside0.mk (Kd.V_below (Kd.V_elderB (by (with_reducible repeat (first | apply Kd.V_alloc | apply Kd.V_drewN | apply Kd.V_drew)); exact HO466.out) gb486 (Nat.le_of_eq hg.symm)) hb); have n3_ := Aside0.mk (Kd.V_below (Kd.V_elderB (by (with_reducible repeat (first | apply Kd.V_alloc | apply Kd.V_drewN | apply Kd.V_drew)); exact HO472.out) gb486 (Nat.le_of_eq hg.symm)) hb); have n4_ := Aside0.mk (Kd.V_below (Kd.V_elderB (by (with_reducible repeat (first | apply Kd.V_alloc | apply Kd.V_drewN | apply Kd.V_drew)); exact HO478.out) gb486 (Nat.le_of_eq hg.symm)) hb); have n5_ := Aside0.mk (Kd.V_below (Kd.V_elderB (by (with_reducible repeat (first | apply Kd.V_alloc | apply Kd.V_drewN | apply Kd.V_drew)); exact HO484.out) gb486 (Nat.le_of_eq hg.symm)) hb); have n6_ := Aside0.mk (blk_below (g := gb449) (o := .cells #[.int .u8 a2_0, .int .u16 a2_1, .int .u16 a2_2, .int .u16 a2_3] 28 (0, 0)) (by (with_reducible repeat (first | refine blk_drewN ?_ _ | refine blk_drew ?_ | refine blk_alloc ?_ _)); exact BK449.out) hb); have n7_ := Aside0.mk (blk_below (g := gb459) (o := .cells #[.int .i64 t452, .slice Ao27 t453.length co27] 24 (0, 0)) (by (with_reducible repeat (first | refine blk_drewN ?_ _ | refine blk_drew ?_ | refine blk_alloc ?_ _)); exact BK459.out) hb); have n8_ := Aside0.mk (blk_below (g := gb468) (o := .cells #[.int .i64 t463, .slice Ao42 t464.length co42] 24 (0, 0)) (by (with_reducible repeat (first | refine blk_drewN ?_ _ | refine blk_drew ?_ | refine blk_alloc ?_ _)); exact BK468.out) hb); have n9_ := Aside0.mk (blk_below (g := gb474) (o := .cells #[.int .i64 t469, .slice Ao51 t470.length co51] 24 (0, 0)) (by (with_reducible repeat (first | refine blk_drewN ?_ _ | refine blk_drew ?_ | refine blk_alloc ?_ _)); exact BK474.out) hb); have n10_ := Aside0.mk (blk_below (g := gb480) (o := .cells #[.int .i64 t475, .slice Ao61 t476.length co61] 24 (0, 0)) (by (with_reducible repeat (first | refine blk_drewN ?_ _ | refine blk_drew ?_ | refine blk_alloc ?_ _)); exact BK480.out) hb); have n11_ := Aside0.mk (below_step (by repeat (first | (with_reducible first | exact HB.out | apply below_alloc | apply pw_below_drewN | apply below_drew1 | refine below_set ?_ GE449.out | refine below_set ?_ GE459.out | refine below_set ?_ GE468.out | refine below_set ?_ GE474.out | refine below_set ?_ GE480.out) | exact HB.out)) hb); have n12_ := Aside0.mk (hbox); have n13_ := Aside0.mk ((by rw [hg]; exact (below_size (by repeat (first | (with_reducible first | exact HB.out | apply below_alloc | apply pw_below_drewN | apply below_drew1 | refine below_set ?_ GE449.out | refine below_set ?_ GE459.out | refine below_set ?_ GE468.out | refine below_set ?_ GE474.out | refine below_set ?_ GE480.out) | exact HB.out))) : w.heap.size ≤ gb486)); have n14_ := Aside0.mk ((by rw [hg]; exact (below_size (by repeat (first | (with_reducible first | exact HB.out | apply below_alloc | apply pw_below_drewN | apply below_drew1 | refine below_set ?_ GE449.out | refine below_set ?_ GE459.out | refine below_set ?_ GE468.out | refine below_set ?_ GE474.out | refine below_set ?_ GE480.out) | exact HB.out))) : w.heap.size ≤ gb486)); have n15_ := Aside0.mk ((by rw [hg]; exact Nat.ne_of_lt (blk_lt (g := gb449) (o := .cells #[.int .u8 a2_0, .int .u16 a2_1, .int .u16 a2_2, .int .u16 a2_3] 28 (0, 0)) (by (with_reducible repeat (first | refine blk_drewN ?_ _ | refine blk_drew ?_ | refine blk_alloc ?_ _)); exact BK449.out)) : gb449 ≠ gb486)); have n16_ := Aside0.mk ((by rw [hg]; exact Nat.ne_of_gt (blk_lt (g := gb449) (o := .cells #[.int .u8 a2_0, .int .u16 a2_1, .int .u16 a2_2, .int .u16 a2_3] 28 (0, 0)) (by (with_reducible repeat (first | refine blk_drewN ?_ _ | refine blk_drew ?_ | refine blk_alloc ?_ _)); exact BK449.out)) : gb486 ≠ gb449)); have n17_ := Aside0.mk ((by rw [hg]; exact Nat.ne_of_lt (blk_lt (g := gb459) (o := .cells #[.int .i64 t452, .slice Ao27 t453.length co27] 24 (0, 0)) (by (with_reducible repeat (first | refine blk_drewN ?_ _ | refine blk_drew ?_ | refine blk_alloc ?_ _)); exact BK459.out)) : gb459 ≠ gb486)); have n18_ := Aside0.mk ((by rw [hg]; exact Nat.ne_of_gt (blk_lt (g := gb459) (o := .cells #[.int .i64 t452, .slice Ao27 t453.length co27] 24 (0, 0)) (by (with_reducible repeat (first | refine blk_drewN ?_ _ | refine blk_drew ?_ | refine blk_alloc ?_ _)); exact BK459.out)) : gb486 ≠ gb459)); have n19_ := Aside0.mk ((by rw [hg]; exact Nat.ne_of_lt (blk_lt (g := gb468) (o := .cells #[.int .i64 t463, .slice Ao42 t464.length co42] 24 (0, 0)) (by (with_reducible repeat (first | refine blk_drewN ?_ _ | refine blk_drew ?_ | refine blk_alloc ?_ _)); exact BK468.out)) : gb468 ≠ gb486)); have n20_ := Aside0.mk ((by rw [hg]; exact Nat.ne_of_gt (blk_lt (g := gb468) (o := .cells #[.int .i64 t463, .slice Ao42 t464.length co42] 24 (0, 0)) (by (with_reducible repeat (first | refine blk_drewN ?_ _ | refine blk_drew ?_ | refine blk_alloc ?_ _)); exact BK468.out)) : gb486 ≠ gb468)); have n21_ := Aside0.mk ((by rw [hg]; exact Nat.ne_of_lt (blk_lt (g := gb474) (o := .cells #[.int .i64 t469, .slice Ao51 t470.length co51] 24 (0, 0)) (by (with_reducible repeat (first | refine blk_drewN ?_ _ | refine blk_drew ?_ | refine blk_alloc ?_ _)); exact BK474.out)) : gb474 ≠ gb486)); have n22_ := Aside0.mk ((by rw [hg]; exact Nat.ne_of_gt (blk_lt (g := gb474) (o := .cells #[.int .i64 t469, .slice Ao51 t470.length co51] 24 (0, 0)) (by (with_reducible repeat (first | refine blk_drewN ?_ _ | refine blk_drew ?_ | refine blk_alloc ?_ _)); exact BK474.out)) : gb486 ≠ gb474)); have n23_ := Aside0.mk ((by rw [hg]; exact Nat.ne_of_lt (blk_lt (g := gb480) (o := .cells #[.int .i64 t475, .slice Ao61 t476.length co61] 24 (0, 0)) (by (with_reducible repeat (first | refine blk_drewN ?_ _ | refine blk_drew ?_ | refine blk_alloc ?_ _)); exact BK480.out)) : gb480 ≠ gb486)); have n24_ := Aside0.mk ((by rw [hg]; exact Nat.ne_of_gt (blk_lt (g := gb480) (o := .cells #[.int .i64 t475, .slice Ao61 t476.length co61] 24 (0, 0)) (by (with_reducible repeat (first | refine blk_drewN ?_ _ | refine blk_drew ?_ | refine blk_alloc ?_ _)); exact BK480.out)) : gb486 ≠ gb480)); clear HO455; clear HO458; clear HO466; clear HO472; clear HO478; clear HO484; clear BK449; clear BK459; clear BK468; clear BK474; clear BK480; clear HB; have HO455 := n0_; have HO458 := n1_; have HO466 := n2_; have HO472 := n3_; have HO478 := n4_; have HO484 := n5_; have BK449 := n6_; have BK459 := n7_; have BK468 := n8_; have BK474 := n9_; have BK480 := n10_; have HB := n11_; have BK486 := n12_; have GW486 := n13_; have GE486 := n14_; have NB449_486 := n15_; have NB486_449 := n16_; have NB459_486 := n17_; have NB486_459 := n18_; have NB468_486 := n19_; have NB486_468 := n20_; have NB474_486 := n21_; have NB486_474 := n22_; have NB480_486 := n23_; have NB486_480 := n24_; clear n0_ n1_ n2_ n3_ n4_ n5_ n6_ n7_ n8_ n9_ n10_ n11_ n12_ n13_ n14_ n15_ n16_ n17_ n18_ n19_ n20_ n21_ n22_ n23_ n24_; clear hb hbox hg; have hnb66 := NB486_449.out; have hnc66 := NB449_486.out; have hnb67 := NB486_459.out; have hnc67 := NB459_486.out; have hnb68 := NB486_468.out; have hnc68 := NB468_486.out; have hnb69 := NB486_474.out; have hnc69 := NB474_486.out; have hnb70 := NB486_480.out; have hnc70 := NB480_486.out; have hcz71_0 : w65.cell? ⟨gb486, 0, none⟩ = some (.int .i64 0) := (blk_cell BK486.out 0).trans rfl; have hcz71_1 : w65.cell? ⟨gb486, 1, none⟩ = some (.slice none 0 0) := (blk_cell BK486.out 1).trans rfl; have hfz71_0 := blk_frozen BK486.out 0; have hfz71_1 := blk_frozen BK486.out 1; obtain ⟨Ao72, co72, eo72⟩ := Kd.V_slice HO484.out; subst eo72))
  have n0_ : Aside0 (Kd.V k50 50 ((w65.setCell ⟨gb486, 0, none⟩ (.int .i64 t481)).setCell ⟨gb486, 1, none⟩ (.slice Ao72 t482.length co72)) w.heap.size (fun k_ => some k_ ≠ (v457 : Value).ownBlock ∧ k_ ≠ gb449 ∧ k_ ≠ gb459 ∧ k_ ≠ gb468 ∧ k_ ≠ gb474 ∧ k_ ≠ gb480 ∧ k_ ≠ gb486) (.slice Ao27 t453.length co27) t453) := ⟨by (with_reducible repeat (first | apply Kd.V_alloc | apply Kd.V_drewN | apply Kd.V_drew)); exact Kd.V_mono (Kd.V_far (p := ⟨gb486, 1, none⟩) (Kd.V_far (p := ⟨gb486, 0, none⟩) (Kd.V_mono HO455.out (fun k_ hk => (⟨hk, hk.2⟩ : _ ∧ k_ ≠ gb486))) (fun _ hk => hk.2) (.int .i64 t481)) (fun _ hk => hk.2) (.slice Ao72 t482.length co72)) (fun _ hk => ⟨hk.1.1.1, ⟨hk.1.1.2.1, ⟨hk.1.1.2.2.1, ⟨hk.1.1.2.2.2.1, ⟨hk.1.1.2.2.2.2.1, ⟨hk.1.1.2.2.2.2.2, hk.1.2⟩⟩⟩⟩⟩⟩)⟩
  have n1_ : Aside0 (Kd.R (Kd.int .i64) 3 ((w65.setCell ⟨gb486, 0, none⟩ (.int .i64 t481)).setCell ⟨gb486, 1, none⟩ (.slice Ao72 t482.length co72)) w.heap.size (fun _ => True) v457 t456) := ⟨by (with_reducible repeat (first | apply Kd.R_alloc | apply Kd.R_drewN | apply Kd.R_drew)); exact Kd.R_mono (Kd.R_far (p := ⟨gb486, 1, none⟩) (Kd.R_far (p := ⟨gb486, 0, none⟩) (Kd.R_types HO458.out BK486.out (by decide)) (fun _ hk => hk.2) (.int .i64 t481)) (fun _ hk => hk.2) (.slice Ao72 t482.length co72)) (fun _ hk => trivial)⟩
  have n2_ : Aside0 (Kd.V k50 50 ((w65.setCell ⟨gb486, 0, none⟩ (.int .i64 t481)).setCell ⟨gb486, 1, none⟩ (.slice Ao72 t482.length co72)) w.heap.size (fun k_ => some k_ ≠ (v457 : Value).ownBlock ∧ k_ ≠ gb449 ∧ k_ ≠ gb459 ∧ k_ ≠ gb468 ∧ k_ ≠ gb474 ∧ k_ ≠ gb480 ∧ k_ ≠ gb486) (.slice Ao42 t464.length co42) t464) := ⟨by (with_reducible repeat (first | apply Kd.V_alloc | apply Kd.V_drewN | apply Kd.V_drew)); exact Kd.V_mono (Kd.V_far (p := ⟨gb486, 1, none⟩) (Kd.V_far (p := ⟨gb486, 0, none⟩) (Kd.V_mono HO466.out (fun k_ hk => (⟨hk, hk.2⟩ : _ ∧ k_ ≠ gb486))) (fun _ hk => hk.2) (.int .i64 t481)) (fun _ hk => hk.2) (.slice Ao72 t482.length co72)) (fun _ hk => ⟨hk.1.1.1, ⟨hk.1.1.2.1, ⟨hk.1.1.2.2.1, ⟨hk.1.1.2.2.2.1, ⟨hk.1.1.2.2.2.2.1, ⟨hk.1.1.2.2.2.2.2, hk.1.2⟩⟩⟩⟩⟩⟩)⟩
  have n3_ : Aside0 (Kd.V k50 50 ((w65.setCell ⟨gb486, 0, none⟩ (.int .i64 t481)).setCell ⟨gb486, 1, none⟩ (.slice Ao72 t482.length co72)) w.heap.size (fun k_ => some k_ ≠ (v457 : Value).ownBlock ∧ k_ ≠ gb449 ∧ k_ ≠ gb459 ∧ k_ ≠ gb468 ∧ k_ ≠ gb474 ∧ k_ ≠ gb480 ∧ k_ ≠ gb486) (.slice Ao51 t470.length co51) t470) := ⟨by (with_reducible repeat (first | apply Kd.V_alloc | apply Kd.V_drewN | apply Kd.V_drew)); exact Kd.V_mono (Kd.V_far (p := ⟨gb486, 1, none⟩) (Kd.V_far (p := ⟨gb486, 0, none⟩) (Kd.V_mono HO472.out (fun k_ hk => (⟨hk, hk.2⟩ : _ ∧ k_ ≠ gb486))) (fun _ hk => hk.2) (.int .i64 t481)) (fun _ hk => hk.2) (.slice Ao72 t482.length co72)) (fun _ hk => ⟨hk.1.1.1, ⟨hk.1.1.2.1, ⟨hk.1.1.2.2.1, ⟨hk.1.1.2.2.2.1, ⟨hk.1.1.2.2.2.2.1, ⟨hk.1.1.2.2.2.2.2, hk.1.2⟩⟩⟩⟩⟩⟩)⟩
  have n4_ : Aside0 (Kd.V k50 50 ((w65.setCell ⟨gb486, 0, none⟩ (.int .i64 t481)).setCell ⟨gb486, 1, none⟩ (.slice Ao72 t482.length co72)) w.heap.size (fun k_ => some k_ ≠ (v457 : Value).ownBlock ∧ k_ ≠ gb449 ∧ k_ ≠ gb459 ∧ k_ ≠ gb468 ∧ k_ ≠ gb474 ∧ k_ ≠ gb480 ∧ k_ ≠ gb486) (.slice Ao61 t476.length co61) t476) := ⟨by (with_reducible repeat (first | apply Kd.V_alloc | apply Kd.V_drewN | apply Kd.V_drew)); exact Kd.V_mono (Kd.V_far (p := ⟨gb486, 1, none⟩) (Kd.V_far (p := ⟨gb486, 0, none⟩) (Kd.V_mono HO478.out (fun k_ hk => (⟨hk, hk.2⟩ : _ ∧ k_ ≠ gb486))) (fun _ hk => hk.2) (.int .i64 t481)) (fun _ hk => hk.2) (.slice Ao72 t482.length co72)) (fun _ hk => ⟨hk.1.1.1, ⟨hk.1.1.2.1, ⟨hk.1.1.2.2.1, ⟨hk.1.1.2.2.2.1, ⟨hk.1.1.2.2.2.2.1, ⟨hk.1.1.2.2.2.2.2, hk.1.2⟩⟩⟩⟩⟩⟩)⟩
  have n5_ : Aside0 (Kd.V k50 50 ((w65.setCell ⟨gb486, 0, none⟩ (.int .i64 t481)).setCell ⟨gb486, 1, none⟩ (.slice Ao72 t482.length co72)) w.heap.size (fun k_ => some k_ ≠ (v457 : Value).ownBlock ∧ k_ ≠ gb449 ∧ k_ ≠ gb459 ∧ k_ ≠ gb468 ∧ k_ ≠ gb474 ∧ k_ ≠ gb480 ∧ k_ ≠ gb486) (.slice Ao72 t482.length co72) t482) := ⟨by (with_reducible repeat (first | apply Kd.V_alloc | apply Kd.V_drewN | apply Kd.V_drew)); exact Kd.V_mono (Kd.V_far (p := ⟨gb486, 1, none⟩) (Kd.V_far (p := ⟨gb486, 0, none⟩) (Kd.V_mono HO484.out (fun k_ hk => (⟨hk, hk.2⟩ : _ ∧ k_ ≠ gb486))) (fun _ hk => hk.2) (.int .i64 t481)) (fun _ hk => hk.2) (.slice Ao72 t482.length co72)) (fun _ hk => ⟨hk.1.1.1, ⟨hk.1.1.2.1, ⟨hk.1.1.2.2.1, ⟨hk.1.1.2.2.2.1, ⟨hk.1.1.2.2.2.2.1, ⟨hk.1.1.2.2.2.2.2, hk.1.2⟩⟩⟩⟩⟩⟩)⟩
  have n6_ : Aside0 (((w65.setCell ⟨gb486, 0, none⟩ (.int .i64 t481)).setCell ⟨gb486, 1, none⟩ (.slice Ao72 t482.length co72)).heap[gb449]? = some (.cells #[.int .u8 a2_0, .int .u16 a2_1, .int .u16 a2_2, .int .u16 a2_3] 28 (0, 0))) := ⟨by (with_reducible repeat (first | refine blk_drewN ?_ _ | refine blk_drew ?_ | refine blk_alloc ?_ _)); refine blk_far ?_ NB449_486.out _; (with_reducible repeat (first | refine blk_drewN ?_ _ | refine blk_drew ?_ | refine blk_alloc ?_ _)); refine blk_far ?_ NB449_486.out _; (with_reducible repeat (first | refine blk_drewN ?_ _ | refine blk_drew ?_ | refine blk_alloc ?_ _)); exact BK449.out⟩
  have n7_ : Aside0 (((w65.setCell ⟨gb486, 0, none⟩ (.int .i64 t481)).setCell ⟨gb486, 1, none⟩ (.slice Ao72 t482.length co72)).heap[gb459]? = some (.cells #[.int .i64 t452, .slice Ao27 t453.length co27] 24 (0, 0))) := ⟨by (with_reducible repeat (first | refine blk_drewN ?_ _ | refine blk_drew ?_ | refine blk_alloc ?_ _)); refine blk_far ?_ NB459_486.out _; (with_reducible repeat (first | refine blk_drewN ?_ _ | refine blk_drew ?_ | refine blk_alloc ?_ _)); refine blk_far ?_ NB459_486.out _; (with_reducible repeat (first | refine blk_drewN ?_ _ | refine blk_drew ?_ | refine blk_alloc ?_ _)); exact BK459.out⟩
  have n8_ : Aside0 (((w65.setCell ⟨gb486, 0, none⟩ (.int .i64 t481)).setCell ⟨gb486, 1, none⟩ (.slice Ao72 t482.length co72)).heap[gb468]? = some (.cells #[.int .i64 t463, .slice Ao42 t464.length co42] 24 (0, 0))) := ⟨by (with_reducible repeat (first | refine blk_drewN ?_ _ | refine blk_drew ?_ | refine blk_alloc ?_ _)); refine blk_far ?_ NB468_486.out _; (with_reducible repeat (first | refine blk_drewN ?_ _ | refine blk_drew ?_ | refine blk_alloc ?_ _)); refine blk_far ?_ NB468_486.out _; (with_reducible repeat (first | refine blk_drewN ?_ _ | refine blk_drew ?_ | refine blk_alloc ?_ _)); exact BK468.out⟩
  have n9_ : Aside0 (((w65.setCell ⟨gb486, 0, none⟩ (.int .i64 t481)).setCell ⟨gb486, 1, none⟩ (.slice Ao72 t482.length co72)).heap[gb474]? = some (.cells #[.int .i64 t469, .slice Ao51 t470.length co51] 24 (0, 0))) := ⟨by (with_reducible repeat (first | refine blk_drewN ?_ _ | refine blk_drew ?_ | refine blk_alloc ?_ _)); refine blk_far ?_ NB474_486.out _; (with_reducible repeat (first | refine blk_drewN ?_ _ | refine blk_drew ?_ | refine blk_alloc ?_ _)); refine blk_far ?_ NB474_486.out _; (with_reducible repeat (first | refine blk_drewN ?_ _ | refine blk_drew ?_ | refine blk_alloc ?_ _)); exact BK474.out⟩
  have n10_ : Aside0 (((w65.setCell ⟨gb486, 0, none⟩ (.int .i64 t481)).setCell ⟨gb486, 1, none⟩ (.slice Ao72 t482.length co72)).heap[gb480]? = some (.cells #[.int .i64 t475, .slice Ao61 t476.length co61] 24 (0, 0))) := ⟨by (with_reducible repeat (first | refine blk_drewN ?_ _ | refine blk_drew ?_ | refine blk_alloc ?_ _)); refine blk_far ?_ NB480_486.out _; (with_reducible repeat (first | refine blk_drewN ?_ _ | refine blk_drew ?_ | refine blk_alloc ?_ _)); refine blk_far ?_ NB480_486.out _; (with_reducible repeat (first | refine blk_drewN ?_ _ | refine blk_drew ?_ | refine blk_alloc ?_ _)); exact BK480.out⟩
  have n11_ : Aside0 (((w65.setCell ⟨gb486, 0, none⟩ (.int .i64 t481)).setCell ⟨gb486, 1, none⟩ (.slice Ao72 t482.length co72)).heap[gb486]? = some (.cells #[.int .i64 t481, .slice Ao72 t482.length co72] 24 (0, 0))) := ⟨by (with_reducible repeat (first | refine blk_drewN ?_ _ | refine blk_drew ?_ | refine blk_alloc ?_ _)); refine blk_put (cs := #[.int .i64 t481, .slice none 0 0]) ?_ 1 _ rfl; (with_reducible repeat (first | refine blk_drewN ?_ _ | refine blk_drew ?_ | refine blk_alloc ?_ _)); refine blk_put (cs := #[.int .i64 0, .slice none 0 0]) ?_ 0 _ rfl; (with_reducible repeat (first | refine blk_drewN ?_ _ | refine blk_drew ?_ | refine blk_alloc ?_ _)); exact BK486.out⟩
  have n12_ : Aside0 (Below w.heap.size w ((w65.setCell ⟨gb486, 0, none⟩ (.int .i64 t481)).setCell ⟨gb486, 1, none⟩ (.slice Ao72 t482.length co72))) := ⟨by repeat (first | (with_reducible first | exact HB.out | apply below_alloc | apply pw_below_drewN | apply below_drew1 | refine below_set ?_ GE449.out | refine below_set ?_ GE459.out | refine below_set ?_ GE468.out | refine below_set ?_ GE474.out | refine below_set ?_ GE480.out | refine below_set ?_ GE486.out) | exact HB.out)⟩
  (try clear HO455)
  (try clear HO458)
  (try clear HO466)
  (try clear HO472)
  (try clear HO478)
  (try clear HO484)
  (try clear BK449)
  (try clear BK459)
  (try clear BK468)
  (try clear BK474)
  (try clear BK480)
  (try clear BK486)
  (try clear HB)
  generalize ((w65.setCell ⟨gb486, 0, none⟩ (.int .i64 t481)).setCell ⟨gb486, 1, none⟩ (.slice Ao72 t482.length co72)) = w73 at n0_ n1_ n2_ n3_ n4_ n5_ n6_ n7_ n8_ n9_ n10_ n11_ n12_ ⊢
  have HO455 := n0_
  have HO458 := n1_
  have HO466 := n2_
  have HO472 := n3_
  have HO478 := n4_
  have HO484 := n5_
  have BK449 := n6_
  have BK459 := n7_
  have BK468 := n8_
  have BK474 := n9_
  have BK480 := n10_
  have BK486 := n11_
  have HB := n12_
  clear n0_ n1_ n2_ n3_ n4_ n5_ n6_ n7_ n8_ n9_ n10_ n11_ n12_
  have n0_ := Aside0.mk (Kd.V_drew HO455.out)
  have n1_ := Aside0.mk (Kd.R_drew HO458.out)
  have n2_ := Aside0.mk (Kd.V_drew HO466.out)
  have n3_ := Aside0.mk (Kd.V_drew HO472.out)
  have n4_ := Aside0.mk (Kd.V_drew HO478.out)
  have n5_ := Aside0.mk (Kd.V_drew HO484.out)
  have n6_ := Aside0.mk (blk_drew BK449.out)
  have n7_ := Aside0.mk (blk_drew BK459.out)
  have n8_ := Aside0.mk (blk_drew BK468.out)
  have n9_ := Aside0.mk (blk_drew BK474.out)
  have n10_ := Aside0.mk (blk_drew BK480.out)
  have n11_ := Aside0.mk (blk_drew BK486.out)
  have n12_ := Aside0.mk (below_drew1 HB.out)
  clear HO455
  clear HO458
  clear HO466
  clear HO472
  clear HO478
  clear HO484
  clear BK449
  clear BK459
  clear BK468
  clear BK474
  clear BK480
  clear BK486
  clear HB
  have HO455 := n0_
  have HO458 := n1_
  have HO466 := n2_
  have HO472 := n3_
  have HO478 := n4_
  have HO484 := n5_
  have BK449 := n6_
  have BK459 := n7_
  have BK468 := n8_
  have BK474 := n9_
  have BK480 := n10_
  have BK486 := n11_
  have HB := n12_
  clear n0_ n1_ n2_ n3_ n4_ n5_ n6_ n7_ n8_ n9_ n10_ n11_ n12_
  refine start_ (n := 6) (S := fun w' => w'.cell? ⟨gb486, 0, none⟩ = some (.int .i64 t481) ∧ w'.cell? ⟨gb486, 1, none⟩ = some (.slice Ao72 t482.length co72) ∧ w'.cell? ⟨gb459, 0, none⟩ = some (.int .i64 t452) ∧ w'.cell? ⟨gb459, 1, none⟩ = some (.slice Ao27 t453.length co27)) (ds := []) #[false, false, false, false, false, false] (by kernel_rfl) rfl rfl ⟨(blk_cell BK486.out 0).trans rfl, (blk_cell BK486.out 1).trans rfl, (blk_cell BK459.out 0).trans rfl, (blk_cell BK459.out 1).trans rfl⟩ (fun hHeld => ?_)
  generalize w73.drew = w74 at HO455 HO458 HO466 HO472 HO478 HO484 BK449 BK459 BK468 BK474 BK480 BK486 HB hHeld ⊢
  refine pure_ (i := 2) (N := some 80) (v := ?_) (a' := ?_) #[false, false, true, false, false, false] rfl rfl (by kernel_rfl) (fun _ _ _ h => h) (Or.inl ⟨by rfl, ?_⟩) ?_ ?_
  rotate_left
  ·intro w'
   go_simp
   with_reducible rfl
  rotate_left
  ·simp only [Act.put, List.setIfInBounds_toArray, List.set_cons_zero, List.set_cons_succ, i64_w, i32_w]
   rfl
  refine take_ (i := 0) (N := some 78) (v := ?_) (a' := ?_) #[true, false, true, false, false, false] rfl rfl (by kernel_rfl) (fun _ _ _ h => h) (Or.inl ⟨by rfl, ?_⟩) hHeld ?_ ?_
  rotate_left
  ·rintro w' ⟨s0, s1, s2, s3⟩
   go_simp
   with_reducible rfl
  rotate_left
  ·simp only [Act.put, List.setIfInBounds_toArray, List.set_cons_zero, List.set_cons_succ, i64_w, i32_w]
   rfl
  refine take_ (i := 1) (N := some 79) (v := ?_) (a' := ?_) #[true, true, true, false, false, false] rfl rfl (by kernel_rfl) (fun _ _ _ h => h) (Or.inl ⟨by rfl, ?_⟩) hHeld ?_ ?_
  rotate_left
  ·rintro w' ⟨s0, s1, s2, s3⟩
   go_simp
   with_reducible rfl
  rotate_left
  ·simp only [Act.put, List.setIfInBounds_toArray, List.set_cons_zero, List.set_cons_succ, i64_w, i32_w]
   rfl
  refine one_ (i := 3) (N := some 81) #[true, true, true, true, false, false] rfl rfl (by kernel_rfl) (by decide) (fun K hK => ?_)
  refine goes_ Try.func26 (by kernel_rfl) rfl #[.agg #[.int .i64 t452, .slice Ao27 t453.length co27], .slice A3 l3.length c3] (by rfl) rfl rfl (by (try simp only [List.map_toArray, List.map_cons, List.map_nil]); first | done | rfl | (simp only [List.length_drop, List.length_take]; rfl)) ?_
  with_reducible refine (proofmarklaw13_Bits.calls k t452 _ _ t453 _ _ l3 t487 _ ?side1 ?side2 ?side3 ?side4 A18.out).mono ?_
  (case side1 => repeat (first | exact (Kd.V_reads' HO455.out).2.2 | (with_reducible refine Kd.C_alloc ?_ _) | (with_reducible refine Kd.C_drewN ?_ _) | (with_reducible refine Kd.C_drew ?_)))
  (case side2 => exact (Kd.V_reads' HO455.out).2.1)
  (case side3 => repeat (first | exact (Kd.C_below HR3.out HB.out) | (with_reducible refine Kd.C_alloc ?_ _) | (with_reducible refine Kd.C_drewN ?_ _) | (with_reducible refine Kd.C_drew ?_)))
  (case side4 => exact HC3.out)
  rintro e w75 ⟨v488, rfl, ho0, hb⟩
  refine ⟨_, rfl, ?_⟩
  have n0_ := Aside0.mk (Kd.V_elder' (by (with_reducible repeat (first | apply Kd.V_alloc | apply Kd.V_drewN | apply Kd.V_drew)); exact HO455.out) (Kd.R_base ho0) hb)
  have n1_ := Aside0.mk (Kd.R_below (by (with_reducible repeat (first | apply Kd.R_alloc | apply Kd.R_drewN | apply Kd.R_drew)); exact HO458.out) hb)
  have n2_ := Aside0.mk (Kd.V_elder' (by (with_reducible repeat (first | apply Kd.V_alloc | apply Kd.V_drewN | apply Kd.V_drew)); exact HO466.out) (Kd.R_base ho0) hb)
  have n3_ := Aside0.mk (Kd.V_elder' (by (with_reducible repeat (first | apply Kd.V_alloc | apply Kd.V_drewN | apply Kd.V_drew)); exact HO472.out) (Kd.R_base ho0) hb)
  have n4_ := Aside0.mk (Kd.V_elder' (by (with_reducible repeat (first | apply Kd.V_alloc | apply Kd.V_drewN | apply Kd.V_drew)); exact HO478.out) (Kd.R_base ho0) hb)
  have n5_ := Aside0.mk (Kd.V_elder' (by (with_reducible repeat (first | apply Kd.V_alloc | apply Kd.V_drewN | apply Kd.V_drew)); exact HO484.out) (Kd.R_base ho0) hb)
  have n6_ := Aside0.mk (Kd.R_lower ho0 (below_size (by repeat (first | (with_reducible first | exact HB.out | apply below_alloc | apply pw_below_drewN | apply below_drew1 | refine below_set ?_ GE449.out | refine below_set ?_ GE459.out | refine below_set ?_ GE468.out | refine below_set ?_ GE474.out | refine below_set ?_ GE480.out | refine below_set ?_ GE486.out) | exact HB.out))))
  have n7_ := Aside0.mk (blk_below (g := gb449) (o := .cells #[.int .u8 a2_0, .int .u16 a2_1, .int .u16 a2_2, .int .u16 a2_3] 28 (0, 0)) (by (with_reducible repeat (first | refine blk_drewN ?_ _ | refine blk_drew ?_ | refine blk_alloc ?_ _)); exact BK449.out) hb)
  have n8_ := Aside0.mk (blk_below (g := gb459) (o := .cells #[.int .i64 t452, .slice Ao27 t453.length co27] 24 (0, 0)) (by (with_reducible repeat (first | refine blk_drewN ?_ _ | refine blk_drew ?_ | refine blk_alloc ?_ _)); exact BK459.out) hb)
  have n9_ := Aside0.mk (blk_below (g := gb468) (o := .cells #[.int .i64 t463, .slice Ao42 t464.length co42] 24 (0, 0)) (by (with_reducible repeat (first | refine blk_drewN ?_ _ | refine blk_drew ?_ | refine blk_alloc ?_ _)); exact BK468.out) hb)
  have n10_ := Aside0.mk (blk_below (g := gb474) (o := .cells #[.int .i64 t469, .slice Ao51 t470.length co51] 24 (0, 0)) (by (with_reducible repeat (first | refine blk_drewN ?_ _ | refine blk_drew ?_ | refine blk_alloc ?_ _)); exact BK474.out) hb)
  have n11_ := Aside0.mk (blk_below (g := gb480) (o := .cells #[.int .i64 t475, .slice Ao61 t476.length co61] 24 (0, 0)) (by (with_reducible repeat (first | refine blk_drewN ?_ _ | refine blk_drew ?_ | refine blk_alloc ?_ _)); exact BK480.out) hb)
  have n12_ := Aside0.mk (blk_below (g := gb486) (o := .cells #[.int .i64 t481, .slice Ao72 t482.length co72] 24 (0, 0)) (by (with_reducible repeat (first | refine blk_drewN ?_ _ | refine blk_drew ?_ | refine blk_alloc ?_ _)); exact BK486.out) hb)
  have n13_ := Aside0.mk (below_step (by repeat (first | (with_reducible first | exact HB.out | apply below_alloc | apply pw_below_drewN | apply below_drew1 | refine below_set ?_ GE449.out | refine below_set ?_ GE459.out | refine below_set ?_ GE468.out | refine below_set ?_ GE474.out | refine below_set ?_ GE480.out | refine below_set ?_ GE486.out) | exact HB.out)) hb)
  clear HO455
  clear HO458
  clear HO466
  clear HO472
  clear HO478
  clear HO484
  clear BK449
  clear BK459
  clear BK468
  clear BK474
  clear BK480
  clear BK486
  clear HB
  have HO455 := n0_
  have HO458 := n1_
  have HO466 := n2_
  have HO472 := n3_
  have HO478 := n4_
  have HO484 := n5_
  have HO489 := n6_
  have BK449 := n7_
  have BK459 := n8_
  have BK468 := n9_
  have BK474 := n10_
  have BK480 := n11_
  have BK486 := n12_
  have HB := n13_
  clear n0_ n1_ n2_ n3_ n4_ n5_ n6_ n7_ n8_ n9_ n10_ n11_ n12_ n13_
  (try clear hb)
  (try clear hb2)
  (try clear hk)
  (try clear hi)
  (try clear ho0)
  obtain ⟨Ao76, co76, eo76⟩ := Kd.R_slice HO489.out
  (first | subst eo76 | (injection eo76 with f1_ f2_ f3_; have f4_ := f1_.symm; have f5_ := f3_.symm; clear f1_ f2_ f3_; subst f4_; subst f5_))
  refine hK.out _ _ ⟨(blk_cell BK486.out 0).trans rfl, (blk_cell BK486.out 1).trans rfl, (blk_cell BK459.out 0).trans rfl, (blk_cell BK459.out 1).trans rfl⟩ (fun hHeld => ?_)
  clear hK K
  refine norm_ (a' := ?_) ?_ ?_
  rotate_left
  ·show Act.put _ (some 81) _ = _
   simp only [Act.put, List.setIfInBounds_toArray, List.set_cons_zero, List.set_cons_succ, i64_w, i32_w]
   rfl
  refine one_ (i := 4) (N := some 82) #[true, true, true, true, true, false] rfl rfl (by kernel_rfl) (by decide) (fun K hK => ?_)
  refine goes_ Try.func25 (by kernel_rfl) rfl #[.agg #[.int .i64 t481, .slice Ao72 t482.length co72], .slice Ao76 t487.length co76] (by rfl) rfl rfl (by (try simp only [List.map_toArray, List.map_cons, List.map_nil]); first | done | rfl | (simp only [List.length_drop, List.length_take]; rfl)) ?_
  with_reducible refine (aig_Eval.calls k t481 _ _ t482 _ _ t487 t490 _ ?side1 ?side2 ?side3 ?side4 A19.out).mono ?_
  (case side1 => repeat (first | exact (Kd.V_reads' HO484.out).2.2 | (with_reducible refine Kd.C_alloc ?_ _) | (with_reducible refine Kd.C_drewN ?_ _) | (with_reducible refine Kd.C_drew ?_)))
  (case side2 => exact (Kd.V_reads' HO484.out).2.1)
  (case side3 => repeat (first | exact (Kd.R_reads' HO489.out).2.2 | (with_reducible refine Kd.C_alloc ?_ _) | (with_reducible refine Kd.C_drewN ?_ _) | (with_reducible refine Kd.C_drew ?_)))
  (case side4 => exact (Kd.R_reads' HO489.out).2.1)
  rintro e w77 ⟨v491, rfl, ho0, hb⟩
  refine ⟨_, rfl, ?_⟩
  have n0_ := Aside0.mk (Kd.V_elder' (by (with_reducible repeat (first | apply Kd.V_alloc | apply Kd.V_drewN | apply Kd.V_drew)); exact HO455.out) (Kd.R_base ho0) hb)
  have n1_ := Aside0.mk (Kd.R_below (by (with_reducible repeat (first | apply Kd.R_alloc | apply Kd.R_drewN | apply Kd.R_drew)); exact HO458.out) hb)
  have n2_ := Aside0.mk (Kd.V_elder' (by (with_reducible repeat (first | apply Kd.V_alloc | apply Kd.V_drewN | apply Kd.V_drew)); exact HO466.out) (Kd.R_base ho0) hb)
  have n3_ := Aside0.mk (Kd.V_elder' (by (with_reducible repeat (first | apply Kd.V_alloc | apply Kd.V_drewN | apply Kd.V_drew)); exact HO472.out) (Kd.R_base ho0) hb)
  have n4_ := Aside0.mk (Kd.V_elder' (by (with_reducible repeat (first | apply Kd.V_alloc | apply Kd.V_drewN | apply Kd.V_drew)); exact HO478.out) (Kd.R_base ho0) hb)
  have n5_ := Aside0.mk (Kd.V_elder' (by (with_reducible repeat (first | apply Kd.V_alloc | apply Kd.V_drewN | apply Kd.V_drew)); exact HO484.out) (Kd.R_base ho0) hb)
  have n6_ := Aside0.mk (Kd.R_elder' (by (with_reducible repeat (first | apply Kd.R_alloc | apply Kd.R_drewN | apply Kd.R_drew)); exact HO489.out) (Kd.R_base ho0) hb)
  have n7_ := Aside0.mk (Kd.R_lower (Kd.R_new' ho0 (Kd.R_lt (by (with_reducible repeat (first | apply Kd.R_alloc | apply Kd.R_drewN | apply Kd.R_drew)); exact HO489.out))) (below_size (by repeat (first | (with_reducible first | exact HB.out | apply below_alloc | apply pw_below_drewN | apply below_drew1 | refine below_set ?_ GE449.out | refine below_set ?_ GE459.out | refine below_set ?_ GE468.out | refine below_set ?_ GE474.out | refine below_set ?_ GE480.out | refine below_set ?_ GE486.out) | exact HB.out))))
  have n8_ := Aside0.mk (blk_below (g := gb449) (o := .cells #[.int .u8 a2_0, .int .u16 a2_1, .int .u16 a2_2, .int .u16 a2_3] 28 (0, 0)) (by (with_reducible repeat (first | refine blk_drewN ?_ _ | refine blk_drew ?_ | refine blk_alloc ?_ _)); exact BK449.out) hb)
  have n9_ := Aside0.mk (blk_below (g := gb459) (o := .cells #[.int .i64 t452, .slice Ao27 t453.length co27] 24 (0, 0)) (by (with_reducible repeat (first | refine blk_drewN ?_ _ | refine blk_drew ?_ | refine blk_alloc ?_ _)); exact BK459.out) hb)
  have n10_ := Aside0.mk (blk_below (g := gb468) (o := .cells #[.int .i64 t463, .slice Ao42 t464.length co42] 24 (0, 0)) (by (with_reducible repeat (first | refine blk_drewN ?_ _ | refine blk_drew ?_ | refine blk_alloc ?_ _)); exact BK468.out) hb)
  have n11_ := Aside0.mk (blk_below (g := gb474) (o := .cells #[.int .i64 t469, .slice Ao51 t470.length co51] 24 (0, 0)) (by (with_reducible repeat (first | refine blk_drewN ?_ _ | refine blk_drew ?_ | refine blk_alloc ?_ _)); exact BK474.out) hb)
  have n12_ := Aside0.mk (blk_below (g := gb480) (o := .cells #[.int .i64 t475, .slice Ao61 t476.length co61] 24 (0, 0)) (by (with_reducible repeat (first | refine blk_drewN ?_ _ | refine blk_drew ?_ | refine blk_alloc ?_ _)); exact BK480.out) hb)
  have n13_ := Aside0.mk (blk_below (g := gb486) (o := .cells #[.int .i64 t481, .slice Ao72 t482.length co72] 24 (0, 0)) (by (with_reducible repeat (first | refine blk_drewN ?_ _ | refine blk_drew ?_ | refine blk_alloc ?_ _)); exact BK486.out) hb)
  have n14_ := Aside0.mk (below_step (by repeat (first | (with_reducible first | exact HB.out | apply below_alloc | apply pw_below_drewN | apply below_drew1 | refine below_set ?_ GE449.out | refine below_set ?_ GE459.out | refine below_set ?_ GE468.out | refine below_set ?_ GE474.out | refine below_set ?_ GE480.out | refine below_set ?_ GE486.out) | exact HB.out)) hb)
  clear HO455
  clear HO458
  clear HO466
  clear HO472
  clear HO478
  clear HO484
  clear HO489
  clear BK449
  clear BK459
  clear BK468
  clear BK474
  clear BK480
  clear BK486
  clear HB
  have HO455 := n0_
  have HO458 := n1_
  have HO466 := n2_
  have HO472 := n3_
  have HO478 := n4_
  have HO484 := n5_
  have HO489 := n6_
  have HO492 := n7_
  have BK449 := n8_
  have BK459 := n9_
  have BK468 := n10_
  have BK474 := n11_
  have BK480 := n12_
  have BK486 := n13_
  have HB := n14_
  clear n0_ n1_ n2_ n3_ n4_ n5_ n6_ n7_ n8_ n9_ n10_ n11_ n12_ n13_ n14_
  (try clear hb)
  (try clear hb2)
  (try clear hk)
  (try clear hi)
  (try clear ho0)
  refine hK.out _ _ ⟨(blk_cell BK486.out 0).trans rfl, (blk_cell BK486.out 1).trans rfl, (blk_cell BK459.out 0).trans rfl, (blk_cell BK459.out 1).trans rfl⟩ (fun hHeld => ?_)
  clear hK K
  refine norm_ (a' := ?_) ?_ ?_
  rotate_left
  ·show Act.put _ (some 82) _ = _
   simp only [Act.put, List.setIfInBounds_toArray, List.set_cons_zero, List.set_cons_succ, i64_w, i32_w]
   rfl
  refine pure_ (i := 5) (N := some 23) (v := ?_) (a' := ?_) #[true, true, true, true, true, true] rfl rfl (by kernel_rfl) (fun _ _ _ h => h) (Or.inl ⟨by rfl, ?_⟩) ?_ ?_
  rotate_left
  ·intro w'
   go_simp
   with_reducible rfl
  rotate_left
  ·simp only [Act.put, List.setIfInBounds_toArray, List.set_cons_zero, List.set_cons_succ, i64_w, i32_w]
   rfl
  refine done_ (by kernel_rfl) ?_
  go_upto_region 13 with (fail)
  go_cut [118] (fun v118 wc => ∃ (kq : Nat) (x118_19 : Bool), v118 = .bool x118_19 ∧ Aside0 (proofmarklaw13_AigMeans.j0 kq t450 t460 t461 t462 t467 t473 t479 t485 t490 x118_19 = some r) ∧ Aside0 (kq ≤ k) ∧ Aside0 (Kd.R Kd.bool 4 wc w.heap.size (fun _ => True) v491 t490) ∧ Aside0 (Kd.V k50 50 wc w.heap.size (fun k_ => some k_ ≠ (v491 : Value).ownBlock ∧ k_ ≠ gb449 ∧ k_ ≠ gb459 ∧ k_ ≠ gb468 ∧ k_ ≠ gb474 ∧ k_ ≠ gb480 ∧ k_ ≠ gb486) (.slice Ao27 t453.length co27) t453) ∧ Aside0 (Kd.V k50 50 wc w.heap.size (fun k_ => some k_ ≠ (v491 : Value).ownBlock ∧ k_ ≠ gb449 ∧ k_ ≠ gb459 ∧ k_ ≠ gb468 ∧ k_ ≠ gb474 ∧ k_ ≠ gb480 ∧ k_ ≠ gb486) (.slice Ao42 t464.length co42) t464) ∧ Aside0 (Kd.V k50 50 wc w.heap.size (fun k_ => some k_ ≠ (v491 : Value).ownBlock ∧ k_ ≠ gb449 ∧ k_ ≠ gb459 ∧ k_ ≠ gb468 ∧ k_ ≠ gb474 ∧ k_ ≠ gb480 ∧ k_ ≠ gb486) (.slice Ao51 t470.length co51) t470) ∧ Aside0 (Kd.V k50 50 wc w.heap.size (fun k_ => some k_ ≠ (v491 : Value).ownBlock ∧ k_ ≠ gb449 ∧ k_ ≠ gb459 ∧ k_ ≠ gb468 ∧ k_ ≠ gb474 ∧ k_ ≠ gb480 ∧ k_ ≠ gb486) (.slice Ao61 t476.length co61) t476) ∧ Aside0 (Kd.V k50 50 wc w.heap.size (fun k_ => some k_ ≠ (v491 : Value).ownBlock ∧ k_ ≠ gb449 ∧ k_ ≠ gb459 ∧ k_ ≠ gb468 ∧ k_ ≠ gb474 ∧ k_ ≠ gb480 ∧ k_ ≠ gb486) (.slice Ao72 t482.length co72) t482) ∧ Aside0 (wc.heap[gb449]? = some (.cells #[.int .u8 a2_0, .int .u16 a2_1, .int .u16 a2_2, .int .u16 a2_3] 28 (0, 0))) ∧ Aside0 (wc.heap[gb459]? = some (.cells #[.int .i64 t452, (.slice Ao27 t453.length co27)] 24 (0, 0))) ∧ Aside0 (wc.heap[gb468]? = some (.cells #[.int .i64 t463, (.slice Ao42 t464.length co42)] 24 (0, 0))) ∧ Aside0 (wc.heap[gb474]? = some (.cells #[.int .i64 t469, (.slice Ao51 t470.length co51)] 24 (0, 0))) ∧ Aside0 (wc.heap[gb480]? = some (.cells #[.int .i64 t475, (.slice Ao61 t476.length co61)] 24 (0, 0))) ∧ Aside0 (wc.heap[gb486]? = some (.cells #[.int .i64 t481, (.slice Ao72 t482.length co72)] 24 (0, 0))) ∧ Aside0 (Below w.heap.size w wc))
  case first =>
   have H := HC20.out
   clear HC20
   by_cases c78 : t481 = t452
   ·rw [if_pos c78] at H
    have c78b0 : (t481 == t452) = true := beq_iff_eq.mpr c78
    have c78b1 : (t481 != t452) = false := bne_eq_false_iff_eq.mpr c78
    clear c78
    (first | rw [c78b0] | (simp only [i64_w, i32_w]; rw [c78b0]) | skip)
    by_cases c79 : (t490.length : Int) = (wrap64 ((wrap64 (1 + t481)) + (t482.length : Int)))
    ·rw [if_pos c79] at H
     have c79b0 : ((t490.length : Int) == (wrap64 ((wrap64 (1 + t481)) + (t482.length : Int)))) = true := beq_iff_eq.mpr c79
     have c79b1 : ((t490.length : Int) != (wrap64 ((wrap64 (1 + t481)) + (t482.length : Int)))) = false := bne_eq_false_iff_eq.mpr c79
     clear c79
     obtain ⟨ji80, hji80⟩ : ∃ j_ : Int, (mx t467 t473) = j_ := ⟨_, rfl⟩
     replace H : (if (mx (mx (ji80) t479) t485) ≥ (wrap64 (2 * (t490.length : Int))) then (proofmarklaw13_AigMeans.j0 k t450 t460 t461 t462 t467 t473 t479 t485 t490 true) else (proofmarklaw13_AigMeans.j0 k t450 t460 t461 t462 t467 t473 t479 t485 t490 (decide ((mn (mn (mn t467 t473) t479) t485) < 0)))) = some r := by first | (rw [hji80] at H; exact H) | (simp only [hji80] at H ⊢; exact H)
     have hji80_ : (if t467 < t473 then t473 else t467) = ji80 := hji80
     obtain ⟨ji81, hji81⟩ : ∃ j_ : Int, (mx (ji80) t479) = j_ := ⟨_, rfl⟩
     replace H : (if (mx (ji81) t485) ≥ (wrap64 (2 * (t490.length : Int))) then (proofmarklaw13_AigMeans.j0 k t450 t460 t461 t462 t467 t473 t479 t485 t490 true) else (proofmarklaw13_AigMeans.j0 k t450 t460 t461 t462 t467 t473 t479 t485 t490 (decide ((mn (mn (mn t467 t473) t479) t485) < 0)))) = some r := by first | (rw [hji81] at H; exact H) | (simp only [hji81] at H ⊢; exact H)
     have hji81_ : (if (ji80) < t479 then t479 else (ji80)) = ji81 := hji81
     obtain ⟨ji82, hji82⟩ : ∃ j_ : Int, (mx (ji81) t485) = j_ := ⟨_, rfl⟩
     replace H : (if (ji82) ≥ (wrap64 (2 * (t490.length : Int))) then (proofmarklaw13_AigMeans.j0 k t450 t460 t461 t462 t467 t473 t479 t485 t490 true) else (proofmarklaw13_AigMeans.j0 k t450 t460 t461 t462 t467 t473 t479 t485 t490 (decide ((mn (mn (mn t467 t473) t479) t485) < 0)))) = some r := by first | (rw [hji82] at H; exact H) | (simp only [hji82] at H ⊢; exact H)
     have hji82_ : (if (ji81) < t485 then t485 else (ji81)) = ji82 := hji82
     by_cases c83 : (ji82) ≥ (wrap64 (2 * (t490.length : Int)))
     ·rw [if_pos c83] at H
      have c83b0 : decide ((wrap64 (2 * (t490.length : Int))) ≤ (ji82)) = true := decide_eq_true c83
      clear c83
      have H' := Aside0.mk H
      clear H
      have hnb84 := NB486_449.out
      have hnc84 := NB449_486.out
      have hnb85 := NB486_459.out
      have hnc85 := NB459_486.out
      have hnb86 := NB486_468.out
      have hnc86 := NB468_486.out
      have hnb87 := NB486_474.out
      have hnc87 := NB474_486.out
      have hnb88 := NB486_480.out
      have hnc88 := NB480_486.out
      have hcz89_0 : w77.cell? ⟨gb486, 0, none⟩ = some (.int .i64 t481) := (blk_cell BK486.out 0).trans rfl
      have hcz89_1 : w77.cell? ⟨gb486, 1, none⟩ = some (.slice Ao72 t482.length co72) := (blk_cell BK486.out 1).trans rfl
      have hfz89_0 := blk_frozen BK486.out 0
      have hfz89_1 := blk_frozen BK486.out 1
      have hnb90 := NB459_449.out
      have hnc90 := NB449_459.out
      have hnb91 := NB459_468.out
      have hnc91 := NB468_459.out
      have hnb92 := NB459_474.out
      have hnc92 := NB474_459.out
      have hnb93 := NB459_480.out
      have hnc93 := NB480_459.out
      have hcz94_0 : w77.cell? ⟨gb459, 0, none⟩ = some (.int .i64 t452) := (blk_cell BK459.out 0).trans rfl
      have hcz94_1 : w77.cell? ⟨gb459, 1, none⟩ = some (.slice Ao27 t453.length co27) := (blk_cell BK459.out 1).trans rfl
      have hfz94_0 := blk_frozen BK459.out 0
      have hfz94_1 := blk_frozen BK459.out 1
      obtain ⟨Ao95, co95, eo95⟩ := Kd.R_slice HO492.out
      subst eo95
      go_wp2
      go_meet
      case rel => exact ⟨_, (true), (by first | rfl | (simp; done) | (simp [*]; done)), H', ⟨by first | omega | exact Nat.le_refl _⟩, ⟨by (with_reducible repeat (first | apply Kd.R_alloc | apply Kd.R_drewN | apply Kd.R_drew)); exact Kd.R_mono HO492.out (fun _ hk => trivial)⟩, ⟨by (with_reducible repeat (first | apply Kd.V_alloc | apply Kd.V_drewN | apply Kd.V_drew)); exact Kd.V_mono HO455.out (fun _ hk => ⟨hk.2, ⟨hk.1.1.2.1, ⟨hk.1.1.2.2.1, ⟨hk.1.1.2.2.2.1, ⟨hk.1.1.2.2.2.2.1, ⟨hk.1.1.2.2.2.2.2.1, hk.1.1.2.2.2.2.2.2⟩⟩⟩⟩⟩⟩)⟩, ⟨by (with_reducible repeat (first | apply Kd.V_alloc | apply Kd.V_drewN | apply Kd.V_drew)); exact Kd.V_mono HO466.out (fun _ hk => ⟨hk.2, ⟨hk.1.1.2.1, ⟨hk.1.1.2.2.1, ⟨hk.1.1.2.2.2.1, ⟨hk.1.1.2.2.2.2.1, ⟨hk.1.1.2.2.2.2.2.1, hk.1.1.2.2.2.2.2.2⟩⟩⟩⟩⟩⟩)⟩, ⟨by (with_reducible repeat (first | apply Kd.V_alloc | apply Kd.V_drewN | apply Kd.V_drew)); exact Kd.V_mono HO472.out (fun _ hk => ⟨hk.2, ⟨hk.1.1.2.1, ⟨hk.1.1.2.2.1, ⟨hk.1.1.2.2.2.1, ⟨hk.1.1.2.2.2.2.1, ⟨hk.1.1.2.2.2.2.2.1, hk.1.1.2.2.2.2.2.2⟩⟩⟩⟩⟩⟩)⟩, ⟨by (with_reducible repeat (first | apply Kd.V_alloc | apply Kd.V_drewN | apply Kd.V_drew)); exact Kd.V_mono HO478.out (fun _ hk => ⟨hk.2, ⟨hk.1.1.2.1, ⟨hk.1.1.2.2.1, ⟨hk.1.1.2.2.2.1, ⟨hk.1.1.2.2.2.2.1, ⟨hk.1.1.2.2.2.2.2.1, hk.1.1.2.2.2.2.2.2⟩⟩⟩⟩⟩⟩)⟩, ⟨by (with_reducible repeat (first | apply Kd.V_alloc | apply Kd.V_drewN | apply Kd.V_drew)); exact Kd.V_mono HO484.out (fun _ hk => ⟨hk.2, ⟨hk.1.1.2.1, ⟨hk.1.1.2.2.1, ⟨hk.1.1.2.2.2.1, ⟨hk.1.1.2.2.2.2.1, ⟨hk.1.1.2.2.2.2.2.1, hk.1.1.2.2.2.2.2.2⟩⟩⟩⟩⟩⟩)⟩, ⟨by (with_reducible repeat (first | refine blk_drewN ?_ _ | refine blk_drew ?_ | refine blk_alloc ?_ _)); exact BK449.out⟩, ⟨by (with_reducible repeat (first | refine blk_drewN ?_ _ | refine blk_drew ?_ | refine blk_alloc ?_ _)); exact BK459.out⟩, ⟨by (with_reducible repeat (first | refine blk_drewN ?_ _ | refine blk_drew ?_ | refine blk_alloc ?_ _)); exact BK468.out⟩, ⟨by (with_reducible repeat (first | refine blk_drewN ?_ _ | refine blk_drew ?_ | refine blk_alloc ?_ _)); exact BK474.out⟩, ⟨by (with_reducible repeat (first | refine blk_drewN ?_ _ | refine blk_drew ?_ | refine blk_alloc ?_ _)); exact BK480.out⟩, ⟨by (with_reducible repeat (first | refine blk_drewN ?_ _ | refine blk_drew ?_ | refine blk_alloc ?_ _)); exact BK486.out⟩, ⟨by repeat (first | (with_reducible first | exact HB.out | apply below_alloc | apply pw_below_drewN | apply below_drew1 | refine below_set ?_ GE449.out | refine below_set ?_ GE459.out | refine below_set ?_ GE468.out | refine below_set ?_ GE474.out | refine below_set ?_ GE480.out | refine below_set ?_ GE486.out) | exact HB.out)⟩⟩
     ·rw [if_neg c83] at H
      have c83b0 : decide ((wrap64 (2 * (t490.length : Int))) ≤ (ji82)) = false := decide_eq_false c83
      clear c83
      obtain ⟨ji96, hji96⟩ : ∃ j_ : Int, (mn t467 t473) = j_ := ⟨_, rfl⟩
      replace H : (proofmarklaw13_AigMeans.j0 k t450 t460 t461 t462 t467 t473 t479 t485 t490 (decide ((mn (mn (ji96) t479) t485) < 0))) = some r := by first | (rw [hji96] at H; exact H) | (simp only [hji96] at H ⊢; exact H)
      have hji96_ : (if t473 < t467 then t473 else t467) = ji96 := hji96
      obtain ⟨ji97, hji97⟩ : ∃ j_ : Int, (mn (ji96) t479) = j_ := ⟨_, rfl⟩
      replace H : (proofmarklaw13_AigMeans.j0 k t450 t460 t461 t462 t467 t473 t479 t485 t490 (decide ((mn (ji97) t485) < 0))) = some r := by first | (rw [hji97] at H; exact H) | (simp only [hji97] at H ⊢; exact H)
      have hji97_ : (if t479 < (ji96) then t479 else (ji96)) = ji97 := hji97
      obtain ⟨ji98, hji98⟩ : ∃ j_ : Int, (mn (ji97) t485) = j_ := ⟨_, rfl⟩
      replace H : (proofmarklaw13_AigMeans.j0 k t450 t460 t461 t462 t467 t473 t479 t485 t490 (decide ((ji98) < 0))) = some r := by first | (rw [hji98] at H; exact H) | (simp only [hji98] at H ⊢; exact H)
      have hji98_ : (if t485 < (ji97) then t485 else (ji97)) = ji98 := hji98
      have H' := Aside0.mk H
      clear H
      have hnb99 := NB486_449.out
      have hnc99 := NB449_486.out
      have hnb100 := NB486_459.out
      have hnc100 := NB459_486.out
      have hnb101 := NB486_468.out
      have hnc101 := NB468_486.out
      have hnb102 := NB486_474.out
      have hnc102 := NB474_486.out
      have hnb103 := NB486_480.out
      have hnc103 := NB480_486.out
      have hcz104_0 : w77.cell? ⟨gb486, 0, none⟩ = some (.int .i64 t481) := (blk_cell BK486.out 0).trans rfl
      have hcz104_1 : w77.cell? ⟨gb486, 1, none⟩ = some (.slice Ao72 t482.length co72) := (blk_cell BK486.out 1).trans rfl
      have hfz104_0 := blk_frozen BK486.out 0
      have hfz104_1 := blk_frozen BK486.out 1
      have hnb105 := NB459_449.out
      have hnc105 := NB449_459.out
      have hnb106 := NB459_468.out
      have hnc106 := NB468_459.out
      have hnb107 := NB459_474.out
      have hnc107 := NB474_459.out
      have hnb108 := NB459_480.out
      have hnc108 := NB480_459.out
      have hcz109_0 : w77.cell? ⟨gb459, 0, none⟩ = some (.int .i64 t452) := (blk_cell BK459.out 0).trans rfl
      have hcz109_1 : w77.cell? ⟨gb459, 1, none⟩ = some (.slice Ao27 t453.length co27) := (blk_cell BK459.out 1).trans rfl
      have hfz109_0 := blk_frozen BK459.out 0
      have hfz109_1 := blk_frozen BK459.out 1
      obtain ⟨Ao110, co110, eo110⟩ := Kd.R_slice HO492.out
      subst eo110
      go_wp2
      go_meet
      case rel => exact ⟨_, (decide ((ji98) < 0)), (by first | rfl | (simp; done) | (simp only [← hji98] <;> (first | rfl | simp)) | (simp [*]; done)), H', ⟨by first | omega | exact Nat.le_refl _⟩, ⟨by (with_reducible repeat (first | apply Kd.R_alloc | apply Kd.R_drewN | apply Kd.R_drew)); exact Kd.R_mono HO492.out (fun _ hk => trivial)⟩, ⟨by (with_reducible repeat (first | apply Kd.V_alloc | apply Kd.V_drewN | apply Kd.V_drew)); exact Kd.V_mono HO455.out (fun _ hk => ⟨hk.2, ⟨hk.1.1.2.1, ⟨hk.1.1.2.2.1, ⟨hk.1.1.2.2.2.1, ⟨hk.1.1.2.2.2.2.1, ⟨hk.1.1.2.2.2.2.2.1, hk.1.1.2.2.2.2.2.2⟩⟩⟩⟩⟩⟩)⟩, ⟨by (with_reducible repeat (first | apply Kd.V_alloc | apply Kd.V_drewN | apply Kd.V_drew)); exact Kd.V_mono HO466.out (fun _ hk => ⟨hk.2, ⟨hk.1.1.2.1, ⟨hk.1.1.2.2.1, ⟨hk.1.1.2.2.2.1, ⟨hk.1.1.2.2.2.2.1, ⟨hk.1.1.2.2.2.2.2.1, hk.1.1.2.2.2.2.2.2⟩⟩⟩⟩⟩⟩)⟩, ⟨by (with_reducible repeat (first | apply Kd.V_alloc | apply Kd.V_drewN | apply Kd.V_drew)); exact Kd.V_mono HO472.out (fun _ hk => ⟨hk.2, ⟨hk.1.1.2.1, ⟨hk.1.1.2.2.1, ⟨hk.1.1.2.2.2.1, ⟨hk.1.1.2.2.2.2.1, ⟨hk.1.1.2.2.2.2.2.1, hk.1.1.2.2.2.2.2.2⟩⟩⟩⟩⟩⟩)⟩, ⟨by (with_reducible repeat (first | apply Kd.V_alloc | apply Kd.V_drewN | apply Kd.V_drew)); exact Kd.V_mono HO478.out (fun _ hk => ⟨hk.2, ⟨hk.1.1.2.1, ⟨hk.1.1.2.2.1, ⟨hk.1.1.2.2.2.1, ⟨hk.1.1.2.2.2.2.1, ⟨hk.1.1.2.2.2.2.2.1, hk.1.1.2.2.2.2.2.2⟩⟩⟩⟩⟩⟩)⟩, ⟨by (with_reducible repeat (first | apply Kd.V_alloc | apply Kd.V_drewN | apply Kd.V_drew)); exact Kd.V_mono HO484.out (fun _ hk => ⟨hk.2, ⟨hk.1.1.2.1, ⟨hk.1.1.2.2.1, ⟨hk.1.1.2.2.2.1, ⟨hk.1.1.2.2.2.2.1, ⟨hk.1.1.2.2.2.2.2.1, hk.1.1.2.2.2.2.2.2⟩⟩⟩⟩⟩⟩)⟩, ⟨by (with_reducible repeat (first | refine blk_drewN ?_ _ | refine blk_drew ?_ | refine blk_alloc ?_ _)); exact BK449.out⟩, ⟨by (with_reducible repeat (first | refine blk_drewN ?_ _ | refine blk_drew ?_ | refine blk_alloc ?_ _)); exact BK459.out⟩, ⟨by (with_reducible repeat (first | refine blk_drewN ?_ _ | refine blk_drew ?_ | refine blk_alloc ?_ _)); exact BK468.out⟩, ⟨by (with_reducible repeat (first | refine blk_drewN ?_ _ | refine blk_drew ?_ | refine blk_alloc ?_ _)); exact BK474.out⟩, ⟨by (with_reducible repeat (first | refine blk_drewN ?_ _ | refine blk_drew ?_ | refine blk_alloc ?_ _)); exact BK480.out⟩, ⟨by (with_reducible repeat (first | refine blk_drewN ?_ _ | refine blk_drew ?_ | refine blk_alloc ?_ _)); exact BK486.out⟩, ⟨by repeat (first | (with_reducible first | exact HB.out | apply below_alloc | apply pw_below_drewN | apply below_drew1 | refine below_set ?_ GE449.out | refine below_set ?_ GE459.out | refine below_set ?_ GE468.out | refine below_set ?_ GE474.out | refine below_set ?_ GE480.out | refine below_set ?_ GE486.out) | exact HB.out)⟩⟩
    ·rw [if_neg c79] at H
     have c79b0 : ((t490.length : Int) == (wrap64 ((wrap64 (1 + t481)) + (t482.length : Int)))) = false := beq_eq_false_iff_ne.mpr c79
     have c79b1 : ((t490.length : Int) != (wrap64 ((wrap64 (1 + t481)) + (t482.length : Int)))) = true := bne_iff_ne.mpr c79
     have H' := Aside0.mk H
     clear H
     have hnb111 := NB486_449.out
     have hnc111 := NB449_486.out
     have hnb112 := NB486_459.out
     have hnc112 := NB459_486.out
     have hnb113 := NB486_468.out
     have hnc113 := NB468_486.out
     have hnb114 := NB486_474.out
     have hnc114 := NB474_486.out
     have hnb115 := NB486_480.out
     have hnc115 := NB480_486.out
     have hcz116_0 : w77.cell? ⟨gb486, 0, none⟩ = some (.int .i64 t481) := (blk_cell BK486.out 0).trans rfl
     have hcz116_1 : w77.cell? ⟨gb486, 1, none⟩ = some (.slice Ao72 t482.length co72) := (blk_cell BK486.out 1).trans rfl
     have hfz116_0 := blk_frozen BK486.out 0
     have hfz116_1 := blk_frozen BK486.out 1
     have hnb117 := NB459_449.out
     have hnc117 := NB449_459.out
     have hnb118 := NB459_468.out
     have hnc118 := NB468_459.out
     have hnb119 := NB459_474.out
     have hnc119 := NB474_459.out
     have hnb120 := NB459_480.out
     have hnc120 := NB480_459.out
     have hcz121_0 : w77.cell? ⟨gb459, 0, none⟩ = some (.int .i64 t452) := (blk_cell BK459.out 0).trans rfl
     have hcz121_1 : w77.cell? ⟨gb459, 1, none⟩ = some (.slice Ao27 t453.length co27) := (blk_cell BK459.out 1).trans rfl
     have hfz121_0 := blk_frozen BK459.out 0
     have hfz121_1 := blk_frozen BK459.out 1
     obtain ⟨Ao122, co122, eo122⟩ := Kd.R_slice HO492.out
     subst eo122
     go_wp2
     go_meet
     case rel => exact ⟨_, (true), (by first | rfl | (simp; done) | (simp [*]; done)), H', ⟨by first | omega | exact Nat.le_refl _⟩, ⟨by (with_reducible repeat (first | apply Kd.R_alloc | apply Kd.R_drewN | apply Kd.R_drew)); exact Kd.R_mono HO492.out (fun _ hk => trivial)⟩, ⟨by (with_reducible repeat (first | apply Kd.V_alloc | apply Kd.V_drewN | apply Kd.V_drew)); exact Kd.V_mono HO455.out (fun _ hk => ⟨hk.2, ⟨hk.1.1.2.1, ⟨hk.1.1.2.2.1, ⟨hk.1.1.2.2.2.1, ⟨hk.1.1.2.2.2.2.1, ⟨hk.1.1.2.2.2.2.2.1, hk.1.1.2.2.2.2.2.2⟩⟩⟩⟩⟩⟩)⟩, ⟨by (with_reducible repeat (first | apply Kd.V_alloc | apply Kd.V_drewN | apply Kd.V_drew)); exact Kd.V_mono HO466.out (fun _ hk => ⟨hk.2, ⟨hk.1.1.2.1, ⟨hk.1.1.2.2.1, ⟨hk.1.1.2.2.2.1, ⟨hk.1.1.2.2.2.2.1, ⟨hk.1.1.2.2.2.2.2.1, hk.1.1.2.2.2.2.2.2⟩⟩⟩⟩⟩⟩)⟩, ⟨by (with_reducible repeat (first | apply Kd.V_alloc | apply Kd.V_drewN | apply Kd.V_drew)); exact Kd.V_mono HO472.out (fun _ hk => ⟨hk.2, ⟨hk.1.1.2.1, ⟨hk.1.1.2.2.1, ⟨hk.1.1.2.2.2.1, ⟨hk.1.1.2.2.2.2.1, ⟨hk.1.1.2.2.2.2.2.1, hk.1.1.2.2.2.2.2.2⟩⟩⟩⟩⟩⟩)⟩, ⟨by (with_reducible repeat (first | apply Kd.V_alloc | apply Kd.V_drewN | apply Kd.V_drew)); exact Kd.V_mono HO478.out (fun _ hk => ⟨hk.2, ⟨hk.1.1.2.1, ⟨hk.1.1.2.2.1, ⟨hk.1.1.2.2.2.1, ⟨hk.1.1.2.2.2.2.1, ⟨hk.1.1.2.2.2.2.2.1, hk.1.1.2.2.2.2.2.2⟩⟩⟩⟩⟩⟩)⟩, ⟨by (with_reducible repeat (first | apply Kd.V_alloc | apply Kd.V_drewN | apply Kd.V_drew)); exact Kd.V_mono HO484.out (fun _ hk => ⟨hk.2, ⟨hk.1.1.2.1, ⟨hk.1.1.2.2.1, ⟨hk.1.1.2.2.2.1, ⟨hk.1.1.2.2.2.2.1, ⟨hk.1.1.2.2.2.2.2.1, hk.1.1.2.2.2.2.2.2⟩⟩⟩⟩⟩⟩)⟩, ⟨by (with_reducible repeat (first | refine blk_drewN ?_ _ | refine blk_drew ?_ | refine blk_alloc ?_ _)); exact BK449.out⟩, ⟨by (with_reducible repeat (first | refine blk_drewN ?_ _ | refine blk_drew ?_ | refine blk_alloc ?_ _)); exact BK459.out⟩, ⟨by (with_reducible repeat (first | refine blk_drewN ?_ _ | refine blk_drew ?_ | refine blk_alloc ?_ _)); exact BK468.out⟩, ⟨by (with_reducible repeat (first | refine blk_drewN ?_ _ | refine blk_drew ?_ | refine blk_alloc ?_ _)); exact BK474.out⟩, ⟨by (with_reducible repeat (first | refine blk_drewN ?_ _ | refine blk_drew ?_ | refine blk_alloc ?_ _)); exact BK480.out⟩, ⟨by (with_reducible repeat (first | refine blk_drewN ?_ _ | refine blk_drew ?_ | refine blk_alloc ?_ _)); exact BK486.out⟩, ⟨by repeat (first | (with_reducible first | exact HB.out | apply below_alloc | apply pw_below_drewN | apply below_drew1 | refine below_set ?_ GE449.out | refine below_set ?_ GE459.out | refine below_set ?_ GE468.out | refine below_set ?_ GE474.out | refine below_set ?_ GE480.out | refine below_set ?_ GE486.out) | exact HB.out)⟩⟩
   ·rw [if_neg c78] at H
    have c78b0 : (t481 == t452) = false := beq_eq_false_iff_ne.mpr c78
    have c78b1 : (t481 != t452) = true := bne_iff_ne.mpr c78
    (first | rw [c78b0] | (simp only [i64_w, i32_w]; rw [c78b0]) | skip)
    have H' := Aside0.mk H
    clear H
    have hnb123 := NB486_449.out
    have hnc123 := NB449_486.out
    have hnb124 := NB486_459.out
    have hnc124 := NB459_486.out
    have hnb125 := NB486_468.out
    have hnc125 := NB468_486.out
    have hnb126 := NB486_474.out
    have hnc126 := NB474_486.out
    have hnb127 := NB486_480.out
    have hnc127 := NB480_486.out
    have hcz128_0 : w77.cell? ⟨gb486, 0, none⟩ = some (.int .i64 t481) := (blk_cell BK486.out 0).trans rfl
    have hcz128_1 : w77.cell? ⟨gb486, 1, none⟩ = some (.slice Ao72 t482.length co72) := (blk_cell BK486.out 1).trans rfl
    have hfz128_0 := blk_frozen BK486.out 0
    have hfz128_1 := blk_frozen BK486.out 1
    have hnb129 := NB459_449.out
    have hnc129 := NB449_459.out
    have hnb130 := NB459_468.out
    have hnc130 := NB468_459.out
    have hnb131 := NB459_474.out
    have hnc131 := NB474_459.out
    have hnb132 := NB459_480.out
    have hnc132 := NB480_459.out
    have hcz133_0 : w77.cell? ⟨gb459, 0, none⟩ = some (.int .i64 t452) := (blk_cell BK459.out 0).trans rfl
    have hcz133_1 : w77.cell? ⟨gb459, 1, none⟩ = some (.slice Ao27 t453.length co27) := (blk_cell BK459.out 1).trans rfl
    have hfz133_0 := blk_frozen BK459.out 0
    have hfz133_1 := blk_frozen BK459.out 1
    go_wp2
    go_meet
    case rel => exact ⟨_, (true), (by first | rfl | (simp; done) | (simp [*]; done)), H', ⟨by first | omega | exact Nat.le_refl _⟩, ⟨by (with_reducible repeat (first | apply Kd.R_alloc | apply Kd.R_drewN | apply Kd.R_drew)); exact Kd.R_mono HO492.out (fun _ hk => trivial)⟩, ⟨by (with_reducible repeat (first | apply Kd.V_alloc | apply Kd.V_drewN | apply Kd.V_drew)); exact Kd.V_mono HO455.out (fun _ hk => ⟨hk.2, ⟨hk.1.1.2.1, ⟨hk.1.1.2.2.1, ⟨hk.1.1.2.2.2.1, ⟨hk.1.1.2.2.2.2.1, ⟨hk.1.1.2.2.2.2.2.1, hk.1.1.2.2.2.2.2.2⟩⟩⟩⟩⟩⟩)⟩, ⟨by (with_reducible repeat (first | apply Kd.V_alloc | apply Kd.V_drewN | apply Kd.V_drew)); exact Kd.V_mono HO466.out (fun _ hk => ⟨hk.2, ⟨hk.1.1.2.1, ⟨hk.1.1.2.2.1, ⟨hk.1.1.2.2.2.1, ⟨hk.1.1.2.2.2.2.1, ⟨hk.1.1.2.2.2.2.2.1, hk.1.1.2.2.2.2.2.2⟩⟩⟩⟩⟩⟩)⟩, ⟨by (with_reducible repeat (first | apply Kd.V_alloc | apply Kd.V_drewN | apply Kd.V_drew)); exact Kd.V_mono HO472.out (fun _ hk => ⟨hk.2, ⟨hk.1.1.2.1, ⟨hk.1.1.2.2.1, ⟨hk.1.1.2.2.2.1, ⟨hk.1.1.2.2.2.2.1, ⟨hk.1.1.2.2.2.2.2.1, hk.1.1.2.2.2.2.2.2⟩⟩⟩⟩⟩⟩)⟩, ⟨by (with_reducible repeat (first | apply Kd.V_alloc | apply Kd.V_drewN | apply Kd.V_drew)); exact Kd.V_mono HO478.out (fun _ hk => ⟨hk.2, ⟨hk.1.1.2.1, ⟨hk.1.1.2.2.1, ⟨hk.1.1.2.2.2.1, ⟨hk.1.1.2.2.2.2.1, ⟨hk.1.1.2.2.2.2.2.1, hk.1.1.2.2.2.2.2.2⟩⟩⟩⟩⟩⟩)⟩, ⟨by (with_reducible repeat (first | apply Kd.V_alloc | apply Kd.V_drewN | apply Kd.V_drew)); exact Kd.V_mono HO484.out (fun _ hk => ⟨hk.2, ⟨hk.1.1.2.1, ⟨hk.1.1.2.2.1, ⟨hk.1.1.2.2.2.1, ⟨hk.1.1.2.2.2.2.1, ⟨hk.1.1.2.2.2.2.2.1, hk.1.1.2.2.2.2.2.2⟩⟩⟩⟩⟩⟩)⟩, ⟨by (with_reducible repeat (first | refine blk_drewN ?_ _ | refine blk_drew ?_ | refine blk_alloc ?_ _)); exact BK449.out⟩, ⟨by (with_reducible repeat (first | refine blk_drewN ?_ _ | refine blk_drew ?_ | refine blk_alloc ?_ _)); exact BK459.out⟩, ⟨by (with_reducible repeat (first | refine blk_drewN ?_ _ | refine blk_drew ?_ | refine blk_alloc ?_ _)); exact BK468.out⟩, ⟨by (with_reducible repeat (first | refine blk_drewN ?_ _ | refine blk_drew ?_ | refine blk_alloc ?_ _)); exact BK474.out⟩, ⟨by (with_reducible repeat (first | refine blk_drewN ?_ _ | refine blk_drew ?_ | refine blk_alloc ?_ _)); exact BK480.out⟩, ⟨by (with_reducible repeat (first | refine blk_drewN ?_ _ | refine blk_drew ?_ | refine blk_alloc ?_ _)); exact BK486.out⟩, ⟨by repeat (first | (with_reducible first | exact HB.out | apply below_alloc | apply pw_below_drewN | apply below_drew1 | refine below_set ?_ GE449.out | refine below_set ?_ GE459.out | refine below_set ?_ GE468.out | refine below_set ?_ GE474.out | refine below_set ?_ GE480.out | refine below_set ?_ GE486.out) | exact HB.out)⟩⟩
  case rest =>
   clear HC20
   try clear c1
   try clear c2
   try clear p2
   try clear c3
   try clear c4
   try clear c5
   try clear c6
   try clear p6
   try clear c7
   try clear c8
   try clear c9
   try clear c10
   try clear c11
   try clear c12
   try clear c13
   try clear c14
   try clear c15
   try clear c16
   try clear c19
   try clear c21
   try clear c23
   try clear c25
   try clear c26
   try clear c39
   try clear c40
   try clear c47
   try clear c48
   try clear c49
   try clear c56
   try clear c57
   try clear c58
   try clear c59
   try clear p64
   try clear c66
   try clear c67
   try clear c68
   try clear c69
   try clear c70
   try clear c78
   try clear c78b0
   try clear c78b1
   try clear c79
   try clear c79b0
   try clear c79b1
   try clear c83
   try clear c83b0
   try clear c84
   try clear c85
   try clear c86
   try clear c87
   try clear c88
   try clear c90
   try clear c91
   try clear c92
   try clear c93
   try clear c99
   try clear c100
   try clear c101
   try clear c102
   try clear c103
   try clear c105
   try clear c106
   try clear c107
   try clear c108
   try clear c111
   try clear c112
   try clear c113
   try clear c114
   try clear c115
   try clear c117
   try clear c118
   try clear c119
   try clear c120
   try clear c123
   try clear c124
   try clear c125
   try clear c126
   try clear c127
   try clear c129
   try clear c130
   try clear c131
   try clear c132
   try clear hcz104_0
   try clear hcz104_1
   try clear hcz109_0
   try clear hcz109_1
   try clear hcz116_0
   try clear hcz116_1
   try clear hcz121_0
   try clear hcz121_1
   try clear hcz128_0
   try clear hcz128_1
   try clear hcz133_0
   try clear hcz133_1
   try clear hcz26_0
   try clear hcz26_1
   try clear hcz28_0
   try clear hcz28_1
   try clear hcz28_2
   try clear hcz28_3
   try clear hcz30_0
   try clear hcz30_1
   try clear hcz31_0
   try clear hcz31_1
   try clear hcz31_2
   try clear hcz31_3
   try clear hcz33_0
   try clear hcz33_1
   try clear hcz34_0
   try clear hcz34_1
   try clear hcz34_2
   try clear hcz34_3
   try clear hcz36_0
   try clear hcz36_1
   try clear hcz41_0
   try clear hcz41_1
   try clear hcz44_0
   try clear hcz44_1
   try clear hcz50_0
   try clear hcz50_1
   try clear hcz53_0
   try clear hcz53_1
   try clear hcz60_0
   try clear hcz60_1
   try clear hcz63_0
   try clear hcz63_1
   try clear hcz71_0
   try clear hcz71_1
   try clear hcz89_0
   try clear hcz89_1
   try clear hcz94_0
   try clear hcz94_1
   try clear hfz104_0
   try clear hfz104_1
   try clear hfz109_0
   try clear hfz109_1
   try clear hfz116_0
   try clear hfz116_1
   try clear hfz121_0
   try clear hfz121_1
   try clear hfz128_0
   try clear hfz128_1
   try clear hfz133_0
   try clear hfz133_1
   try clear hfz26_0
   try clear hfz26_1
   try clear hfz28_0
   try clear hfz28_1
   try clear hfz28_2
   try clear hfz28_3
   try clear hfz30_0
   try clear hfz30_1
   try clear hfz31_0
   try clear hfz31_1
   try clear hfz31_2
   try clear hfz31_3
   try clear hfz33_0
   try clear hfz33_1
   try clear hfz34_0
   try clear hfz34_1
   try clear hfz34_2
   try clear hfz34_3
   try clear hfz36_0
   try clear hfz36_1
   try clear hfz41_0
   try clear hfz41_1
   try clear hfz44_0
   try clear hfz44_1
   try clear hfz50_0
   try clear hfz50_1
   try clear hfz53_0
   try clear hfz53_1
   try clear hfz60_0
   try clear hfz60_1
   try clear hfz63_0
   try clear hfz63_1
   try clear hfz71_0
   try clear hfz71_1
   try clear hfz89_0
   try clear hfz89_1
   try clear hfz94_0
   try clear hfz94_1
   obtain ⟨kq, x118_19, rfl, HA, HJ19, HO_23, HO_460001, HO_469001, HO_475001, HO_481001, HO_487001, BK449, BK459, BK468, BK474, BK480, BK486, HB⟩ := hcut
   cases kq with
   | zero => exact absurd HA.out (by simp [proofmarklaw13_AigMeans.j0])
   | succ kj19 =>
    have H := HA.out
    clear HA
    simp only [proofmarklaw13_AigMeans.j0] at H
    by_cases c134 : x118_19 = true
    ·subst c134
     have H1 : (none) = some r := by rw [if_pos rfl] at H; exact H
     clear H
     have H := H1
     clear H1
     exact absurd H (by simp)
    ·replace c134 := Bool.eq_false_iff.mpr c134
     subst c134
     have H1 : ((aig_Lit.f t490 t460).bind fun t493 => ((aig_Lit.f t490 t461).bind fun t494 => ((aig_Lit.f t490 t462).bind fun t495 => (if t450 = true then ((aig_Lit.f t490 t467).bind fun t496 => (if t493 = true then (if (t496 == t494) = true then ((aig_Lit.f t490 t473).bind fun t497 => (if (t497 == true) = true then ((aig_Lit.f t490 t479).bind fun t498 => (if (t498 == (t493 != t494)) = true then ((aig_Lit.f t490 t485).bind fun t499 => (if t494 = true then (some (t499 == true)) else (some (t499 == false)))) else (none))) else (none))) else (none)) else (if (t496 == false) = true then ((aig_Lit.f t490 t473).bind fun t500 => (if (t500 == t494) = true then ((aig_Lit.f t490 t479).bind fun t501 => (if (t501 == (t493 != t494)) = true then ((aig_Lit.f t490 t485).bind fun t502 => (some (t502 == t495))) else (none))) else (none))) else (none)))) else (none))))) = some r := by rw [if_neg (show ¬ (false = true) by decide)] at H; exact H
     clear H
     have H := H1
     clear H1
     replace H := Option.bind_eq_some_iff.mp H
     obtain ⟨t493, A1350, H⟩ := H
     replace H : ((aig_Lit.f t490 t461).bind fun t494 => ((aig_Lit.f t490 t462).bind fun t495 => (if t450 = true then ((aig_Lit.f t490 t467).bind fun t496 => (if t493 = true then (if (t496 == t494) = true then ((aig_Lit.f t490 t473).bind fun t497 => (if (t497 == true) = true then ((aig_Lit.f t490 t479).bind fun t498 => (if (t498 == (t493 != t494)) = true then ((aig_Lit.f t490 t485).bind fun t499 => (if t494 = true then (some (t499 == true)) else (some (t499 == false)))) else (none))) else (none))) else (none)) else (if (t496 == false) = true then ((aig_Lit.f t490 t473).bind fun t500 => (if (t500 == t494) = true then ((aig_Lit.f t490 t479).bind fun t501 => (if (t501 == (t493 != t494)) = true then ((aig_Lit.f t490 t485).bind fun t502 => (some (t502 == t495))) else (none))) else (none))) else (none)))) else (none)))) = some r := H
     have A135 := Aside0.mk A1350
     clear A1350
     replace H := Option.bind_eq_some_iff.mp H
     obtain ⟨t494, A1360, H⟩ := H
     replace H : ((aig_Lit.f t490 t462).bind fun t495 => (if t450 = true then ((aig_Lit.f t490 t467).bind fun t496 => (if t493 = true then (if (t496 == t494) = true then ((aig_Lit.f t490 t473).bind fun t497 => (if (t497 == true) = true then ((aig_Lit.f t490 t479).bind fun t498 => (if (t498 == (t493 != t494)) = true then ((aig_Lit.f t490 t485).bind fun t499 => (if t494 = true then (some (t499 == true)) else (some (t499 == false)))) else (none))) else (none))) else (none)) else (if (t496 == false) = true then ((aig_Lit.f t490 t473).bind fun t500 => (if (t500 == t494) = true then ((aig_Lit.f t490 t479).bind fun t501 => (if (t501 == (t493 != t494)) = true then ((aig_Lit.f t490 t485).bind fun t502 => (some (t502 == t495))) else (none))) else (none))) else (none)))) else (none))) = some r := H
     have A136 := Aside0.mk A1360
     clear A1360
     replace H := Option.bind_eq_some_iff.mp H
     obtain ⟨t495, A1370, H⟩ := H
     replace H : (if t450 = true then ((aig_Lit.f t490 t467).bind fun t496 => (if t493 = true then (if (t496 == t494) = true then ((aig_Lit.f t490 t473).bind fun t497 => (if (t497 == true) = true then ((aig_Lit.f t490 t479).bind fun t498 => (if (t498 == (t493 != t494)) = true then ((aig_Lit.f t490 t485).bind fun t499 => (if t494 = true then (some (t499 == true)) else (some (t499 == false)))) else (none))) else (none))) else (none)) else (if (t496 == false) = true then ((aig_Lit.f t490 t473).bind fun t500 => (if (t500 == t494) = true then ((aig_Lit.f t490 t479).bind fun t501 => (if (t501 == (t493 != t494)) = true then ((aig_Lit.f t490 t485).bind fun t502 => (some (t502 == t495))) else (none))) else (none))) else (none)))) else (none)) = some r := H
     have A137 := Aside0.mk A1370
     clear A1370
     by_cases c138 : t450 = true
     ·subst c138
      have H1 : ((aig_Lit.f t490 t467).bind fun t496 => (if t493 = true then (if (t496 == t494) = true then ((aig_Lit.f t490 t473).bind fun t497 => (if (t497 == true) = true then ((aig_Lit.f t490 t479).bind fun t498 => (if (t498 == (t493 != t494)) = true then ((aig_Lit.f t490 t485).bind fun t499 => (if t494 = true then (some (t499 == true)) else (some (t499 == false)))) else (none))) else (none))) else (none)) else (if (t496 == false) = true then ((aig_Lit.f t490 t473).bind fun t500 => (if (t500 == t494) = true then ((aig_Lit.f t490 t479).bind fun t501 => (if (t501 == (t493 != t494)) = true then ((aig_Lit.f t490 t485).bind fun t502 => (some (t502 == t495))) else (none))) else (none))) else (none)))) = some r := by rw [if_pos rfl] at H; exact H
      clear H
      have H := H1
      clear H1
      replace H := Option.bind_eq_some_iff.mp H
      obtain ⟨t496, A1390, H⟩ := H
      replace H : (if t493 = true then (if (t496 == t494) = true then ((aig_Lit.f t490 t473).bind fun t497 => (if (t497 == true) = true then ((aig_Lit.f t490 t479).bind fun t498 => (if (t498 == (t493 != t494)) = true then ((aig_Lit.f t490 t485).bind fun t499 => (if t494 = true then (some (t499 == true)) else (some (t499 == false)))) else (none))) else (none))) else (none)) else (if (t496 == false) = true then ((aig_Lit.f t490 t473).bind fun t500 => (if (t500 == t494) = true then ((aig_Lit.f t490 t479).bind fun t501 => (if (t501 == (t493 != t494)) = true then ((aig_Lit.f t490 t485).bind fun t502 => (some (t502 == t495))) else (none))) else (none))) else (none))) = some r := H
      have A139 := Aside0.mk A1390
      clear A1390
      by_cases c140 : t493 = true
      ·subst c140
       have H1 : (if (t496 == t494) = true then ((aig_Lit.f t490 t473).bind fun t497 => (if (t497 == true) = true then ((aig_Lit.f t490 t479).bind fun t498 => (if (t498 == (true != t494)) = true then ((aig_Lit.f t490 t485).bind fun t499 => (if t494 = true then (some (t499 == true)) else (some (t499 == false)))) else (none))) else (none))) else (none)) = some r := by rw [if_pos rfl] at H; exact H
       clear H
       have H := H1
       clear H1
       by_cases c141 : (t496 == t494) = true
       ·rw [if_pos c141] at H
        have c141b0 : (t496 == t494) = true := c141
        (try (have c141b1 : decide (t496 = t494) = true := by simpa using c141))
        (try (have c141b2 : (t496 == t494) = true := by simpa using c141))
        clear c141
        replace H := Option.bind_eq_some_iff.mp H
        obtain ⟨t497, A1420, H⟩ := H
        replace H : (if (t497 == true) = true then ((aig_Lit.f t490 t479).bind fun t498 => (if (t498 == (true != t494)) = true then ((aig_Lit.f t490 t485).bind fun t499 => (if t494 = true then (some (t499 == true)) else (some (t499 == false)))) else (none))) else (none)) = some r := H
        have A142 := Aside0.mk A1420
        clear A1420
        by_cases c143 : (t497 == true) = true
        ·rw [if_pos c143] at H
         have c143b0 : (t497 == true) = true := c143
         (try (have c143b1 : decide (t497 = true) = true := by simpa using c143))
         (try (have c143b2 : (t497 == true) = true := by simpa using c143))
         clear c143
         replace H := Option.bind_eq_some_iff.mp H
         obtain ⟨t498, A1440, H⟩ := H
         replace H : (if (t498 == (true != t494)) = true then ((aig_Lit.f t490 t485).bind fun t499 => (if t494 = true then (some (t499 == true)) else (some (t499 == false)))) else (none)) = some r := H
         have A144 := Aside0.mk A1440
         clear A1440
         by_cases c145 : (t498 == (true != t494)) = true
         ·rw [if_pos c145] at H
          have c145b0 : (t498 == (true != t494)) = true := c145
          (try (have c145b1 : decide (t498 = (true != t494)) = true := by simpa using c145))
          (try (have c145b2 : (t498 == (true != t494)) = true := by simpa using c145))
          clear c145
          replace H := Option.bind_eq_some_iff.mp H
          obtain ⟨t499, A1460, H⟩ := H
          replace H : (if t494 = true then (some (t499 == true)) else (some (t499 == false))) = some r := H
          have A146 := Aside0.mk A1460
          clear A1460
          by_cases c147 : t494 = true
          ·subst c147
           have H1 : (some (t499 == true)) = some r := by rw [if_pos rfl] at H; exact H
           clear H
           have H := H1
           clear H1
           obtain rfl := Option.some.inj H
           obtain ⟨Ao148, co148, eo148⟩ := Kd.R_slice HO_23.out
           subst eo148
           have z_ := eq_of_beq c141b0
           subst t496
           have z_ := eq_of_beq c143b0
           subst t497
           have z_ := eq_of_beq c145b0
           subst t498
           go_wp2_with (first | ((with_reducible refine gate_callee (f := 29) rfl ?_); refine goesL_ (some 121) rfl rfl Try.func29 (by kernel_rfl) rfl #[.slice Ao148 t490.length co148, .int .i64 t460] rfl (by (try simp only [List.map_toArray, List.map_cons, List.map_nil]); first | done | rfl | (simp only [List.length_drop, List.length_take]; rfl)) ?_; (with_reducible refine (aig_Lit.calls _ _ t490 t460 true _ ?side1 ?side2 A135.out).mono ?_); (case side1 => repeat (first | exact (Kd.R_reads' HO_23.out).2.2 | (with_reducible refine Kd.C_alloc ?_ _) | (with_reducible refine Kd.C_drewN ?_ _) | (with_reducible refine Kd.C_drew ?_))); (case side2 => exact (Kd.R_reads' HO_23.out).2.1); rintro e w' ⟨rfl, ⟨nd, rfl⟩⟩; refine ⟨_, rfl, ?_⟩) | ((with_reducible refine gate_callee (f := 29) rfl ?_); refine goesL_ (some 124) rfl rfl Try.func29 (by kernel_rfl) rfl #[.slice Ao148 t490.length co148, .int .i64 t461] rfl (by (try simp only [List.map_toArray, List.map_cons, List.map_nil]); first | done | rfl | (simp only [List.length_drop, List.length_take]; rfl)) ?_; (with_reducible refine (aig_Lit.calls _ _ t490 t461 true _ ?side1 ?side2 A136.out).mono ?_); (case side1 => repeat (first | exact (Kd.R_reads' HO_23.out).2.2 | (with_reducible refine Kd.C_alloc ?_ _) | (with_reducible refine Kd.C_drewN ?_ _) | (with_reducible refine Kd.C_drew ?_))); (case side2 => exact (Kd.R_reads' HO_23.out).2.1); rintro e w' ⟨rfl, ⟨nd, rfl⟩⟩; refine ⟨_, rfl, ?_⟩) | ((with_reducible refine gate_callee (f := 29) rfl ?_); refine goesL_ (some 127) rfl rfl Try.func29 (by kernel_rfl) rfl #[.slice Ao148 t490.length co148, .int .i64 t462] rfl (by (try simp only [List.map_toArray, List.map_cons, List.map_nil]); first | done | rfl | (simp only [List.length_drop, List.length_take]; rfl)) ?_; (with_reducible refine (aig_Lit.calls _ _ t490 t462 t495 _ ?side1 ?side2 A137.out).mono ?_); (case side1 => repeat (first | exact (Kd.R_reads' HO_23.out).2.2 | (with_reducible refine Kd.C_alloc ?_ _) | (with_reducible refine Kd.C_drewN ?_ _) | (with_reducible refine Kd.C_drew ?_))); (case side2 => exact (Kd.R_reads' HO_23.out).2.1); rintro e w' ⟨rfl, ⟨nd, rfl⟩⟩; refine ⟨_, rfl, ?_⟩) | (go_at_call 29; (with_reducible refine (aig_Lit.calls _ _ t490 t467 true _ ?side1 ?side2 A139.out).mono ?_); (case side1 => repeat (first | exact (Kd.R_reads' HO_23.out).2.2 | (with_reducible refine Kd.C_alloc ?_ _) | (with_reducible refine Kd.C_drewN ?_ _) | (with_reducible refine Kd.C_drew ?_))); (case side2 => exact (Kd.R_reads' HO_23.out).2.1); rintro e w' ⟨rfl, ⟨nd, rfl⟩⟩) | (go_at_call 29; (with_reducible refine (aig_Lit.calls _ _ t490 t473 true _ ?side1 ?side2 A142.out).mono ?_); (case side1 => repeat (first | exact (Kd.R_reads' HO_23.out).2.2 | (with_reducible refine Kd.C_alloc ?_ _) | (with_reducible refine Kd.C_drewN ?_ _) | (with_reducible refine Kd.C_drew ?_))); (case side2 => exact (Kd.R_reads' HO_23.out).2.1); rintro e w' ⟨rfl, ⟨nd, rfl⟩⟩) | (go_at_call 29; (with_reducible refine (aig_Lit.calls _ _ t490 t479 (true != true) _ ?side1 ?side2 A144.out).mono ?_); (case side1 => repeat (first | exact (Kd.R_reads' HO_23.out).2.2 | (with_reducible refine Kd.C_alloc ?_ _) | (with_reducible refine Kd.C_drewN ?_ _) | (with_reducible refine Kd.C_drew ?_))); (case side2 => exact (Kd.R_reads' HO_23.out).2.1); rintro e w' ⟨rfl, ⟨nd, rfl⟩⟩) | (go_at_call 29; (with_reducible refine (aig_Lit.calls _ _ t490 t485 t499 _ ?side1 ?side2 A146.out).mono ?_); (case side1 => repeat (first | exact (Kd.R_reads' HO_23.out).2.2 | (with_reducible refine Kd.C_alloc ?_ _) | (with_reducible refine Kd.C_drewN ?_ _) | (with_reducible refine Kd.C_drew ?_))); (case side2 => exact (Kd.R_reads' HO_23.out).2.1); rintro e w' ⟨rfl, ⟨nd, rfl⟩⟩))
           go_ret
           exact ⟨by first | rfl | (simp [errW_none, errW_some] <;> rfl) | (simp [*, errW_none, errW_some] <;> rfl), by repeat (first | (with_reducible first | exact HB.out | apply below_alloc | apply pw_below_drewN | apply below_drew1 | refine below_set ?_ GE449.out | refine below_set ?_ GE459.out | refine below_set ?_ GE468.out | refine below_set ?_ GE474.out | refine below_set ?_ GE480.out | refine below_set ?_ GE486.out) | exact HB.out)⟩
          ·replace c147 := Bool.eq_false_iff.mpr c147
           subst c147
           have H1 : (some (t499 == false)) = some r := by rw [if_neg (show ¬ (false = true) by decide)] at H; exact H
           clear H
           have H := H1
           clear H1
           obtain rfl := Option.some.inj H
           obtain ⟨Ao149, co149, eo149⟩ := Kd.R_slice HO_23.out
           subst eo149
           have z_ := eq_of_beq c141b0
           subst t496
           have z_ := eq_of_beq c143b0
           subst t497
           have z_ := eq_of_beq c145b0
           subst t498
           go_wp2_with (first | ((with_reducible refine gate_callee (f := 29) rfl ?_); refine goesL_ (some 121) rfl rfl Try.func29 (by kernel_rfl) rfl #[.slice Ao149 t490.length co149, .int .i64 t460] rfl (by (try simp only [List.map_toArray, List.map_cons, List.map_nil]); first | done | rfl | (simp only [List.length_drop, List.length_take]; rfl)) ?_; (with_reducible refine (aig_Lit.calls _ _ t490 t460 true _ ?side1 ?side2 A135.out).mono ?_); (case side1 => repeat (first | exact (Kd.R_reads' HO_23.out).2.2 | (with_reducible refine Kd.C_alloc ?_ _) | (with_reducible refine Kd.C_drewN ?_ _) | (with_reducible refine Kd.C_drew ?_))); (case side2 => exact (Kd.R_reads' HO_23.out).2.1); rintro e w' ⟨rfl, ⟨nd, rfl⟩⟩; refine ⟨_, rfl, ?_⟩) | ((with_reducible refine gate_callee (f := 29) rfl ?_); refine goesL_ (some 124) rfl rfl Try.func29 (by kernel_rfl) rfl #[.slice Ao149 t490.length co149, .int .i64 t461] rfl (by (try simp only [List.map_toArray, List.map_cons, List.map_nil]); first | done | rfl | (simp only [List.length_drop, List.length_take]; rfl)) ?_; (with_reducible refine (aig_Lit.calls _ _ t490 t461 false _ ?side1 ?side2 A136.out).mono ?_); (case side1 => repeat (first | exact (Kd.R_reads' HO_23.out).2.2 | (with_reducible refine Kd.C_alloc ?_ _) | (with_reducible refine Kd.C_drewN ?_ _) | (with_reducible refine Kd.C_drew ?_))); (case side2 => exact (Kd.R_reads' HO_23.out).2.1); rintro e w' ⟨rfl, ⟨nd, rfl⟩⟩; refine ⟨_, rfl, ?_⟩) | ((with_reducible refine gate_callee (f := 29) rfl ?_); refine goesL_ (some 127) rfl rfl Try.func29 (by kernel_rfl) rfl #[.slice Ao149 t490.length co149, .int .i64 t462] rfl (by (try simp only [List.map_toArray, List.map_cons, List.map_nil]); first | done | rfl | (simp only [List.length_drop, List.length_take]; rfl)) ?_; (with_reducible refine (aig_Lit.calls _ _ t490 t462 t495 _ ?side1 ?side2 A137.out).mono ?_); (case side1 => repeat (first | exact (Kd.R_reads' HO_23.out).2.2 | (with_reducible refine Kd.C_alloc ?_ _) | (with_reducible refine Kd.C_drewN ?_ _) | (with_reducible refine Kd.C_drew ?_))); (case side2 => exact (Kd.R_reads' HO_23.out).2.1); rintro e w' ⟨rfl, ⟨nd, rfl⟩⟩; refine ⟨_, rfl, ?_⟩) | (go_at_call 29; (with_reducible refine (aig_Lit.calls _ _ t490 t467 false _ ?side1 ?side2 A139.out).mono ?_); (case side1 => repeat (first | exact (Kd.R_reads' HO_23.out).2.2 | (with_reducible refine Kd.C_alloc ?_ _) | (with_reducible refine Kd.C_drewN ?_ _) | (with_reducible refine Kd.C_drew ?_))); (case side2 => exact (Kd.R_reads' HO_23.out).2.1); rintro e w' ⟨rfl, ⟨nd, rfl⟩⟩) | (go_at_call 29; (with_reducible refine (aig_Lit.calls _ _ t490 t473 true _ ?side1 ?side2 A142.out).mono ?_); (case side1 => repeat (first | exact (Kd.R_reads' HO_23.out).2.2 | (with_reducible refine Kd.C_alloc ?_ _) | (with_reducible refine Kd.C_drewN ?_ _) | (with_reducible refine Kd.C_drew ?_))); (case side2 => exact (Kd.R_reads' HO_23.out).2.1); rintro e w' ⟨rfl, ⟨nd, rfl⟩⟩) | (go_at_call 29; (with_reducible refine (aig_Lit.calls _ _ t490 t479 (true != false) _ ?side1 ?side2 A144.out).mono ?_); (case side1 => repeat (first | exact (Kd.R_reads' HO_23.out).2.2 | (with_reducible refine Kd.C_alloc ?_ _) | (with_reducible refine Kd.C_drewN ?_ _) | (with_reducible refine Kd.C_drew ?_))); (case side2 => exact (Kd.R_reads' HO_23.out).2.1); rintro e w' ⟨rfl, ⟨nd, rfl⟩⟩) | (go_at_call 29; (with_reducible refine (aig_Lit.calls _ _ t490 t485 t499 _ ?side1 ?side2 A146.out).mono ?_); (case side1 => repeat (first | exact (Kd.R_reads' HO_23.out).2.2 | (with_reducible refine Kd.C_alloc ?_ _) | (with_reducible refine Kd.C_drewN ?_ _) | (with_reducible refine Kd.C_drew ?_))); (case side2 => exact (Kd.R_reads' HO_23.out).2.1); rintro e w' ⟨rfl, ⟨nd, rfl⟩⟩))
           go_ret
           exact ⟨by first | rfl | (simp [errW_none, errW_some] <;> rfl) | (simp [*, errW_none, errW_some] <;> rfl), by repeat (first | (with_reducible first | exact HB.out | apply below_alloc | apply pw_below_drewN | apply below_drew1 | refine below_set ?_ GE449.out | refine below_set ?_ GE459.out | refine below_set ?_ GE468.out | refine below_set ?_ GE474.out | refine below_set ?_ GE480.out | refine below_set ?_ GE486.out) | exact HB.out)⟩
         ·rw [if_neg c145] at H
          exact absurd H (by simp)
        ·rw [if_neg c143] at H
         exact absurd H (by simp)
       ·rw [if_neg c141] at H
        exact absurd H (by simp)
      ·replace c140 := Bool.eq_false_iff.mpr c140
       subst c140
       have H1 : (if (t496 == false) = true then ((aig_Lit.f t490 t473).bind fun t500 => (if (t500 == t494) = true then ((aig_Lit.f t490 t479).bind fun t501 => (if (t501 == (false != t494)) = true then ((aig_Lit.f t490 t485).bind fun t502 => (some (t502 == t495))) else (none))) else (none))) else (none)) = some r := by rw [if_neg (show ¬ (false = true) by decide)] at H; exact H
       clear H
       have H := H1
       clear H1
       by_cases c150 : (t496 == false) = true
       ·rw [if_pos c150] at H
        have c150b0 : (t496 == false) = true := c150
        (try (have c150b1 : decide (t496 = false) = true := by simpa using c150))
        (try (have c150b2 : (t496 == false) = true := by simpa using c150))
        clear c150
        replace H := Option.bind_eq_some_iff.mp H
        obtain ⟨t500, A1510, H⟩ := H
        replace H : (if (t500 == t494) = true then ((aig_Lit.f t490 t479).bind fun t501 => (if (t501 == (false != t494)) = true then ((aig_Lit.f t490 t485).bind fun t502 => (some (t502 == t495))) else (none))) else (none)) = some r := H
        have A151 := Aside0.mk A1510
        clear A1510
        by_cases c152 : (t500 == t494) = true
        ·rw [if_pos c152] at H
         have c152b0 : (t500 == t494) = true := c152
         (try (have c152b1 : decide (t500 = t494) = true := by simpa using c152))
         (try (have c152b2 : (t500 == t494) = true := by simpa using c152))
         clear c152
         replace H := Option.bind_eq_some_iff.mp H
         obtain ⟨t501, A1530, H⟩ := H
         replace H : (if (t501 == (false != t494)) = true then ((aig_Lit.f t490 t485).bind fun t502 => (some (t502 == t495))) else (none)) = some r := H
         have A153 := Aside0.mk A1530
         clear A1530
         by_cases c154 : (t501 == (false != t494)) = true
         ·rw [if_pos c154] at H
          have c154b0 : (t501 == (false != t494)) = true := c154
          (try (have c154b1 : decide (t501 = (false != t494)) = true := by simpa using c154))
          (try (have c154b2 : (t501 == (false != t494)) = true := by simpa using c154))
          clear c154
          replace H := Option.bind_eq_some_iff.mp H
          obtain ⟨t502, A1550, H⟩ := H
          replace H : (some (t502 == t495)) = some r := H
          have A155 := Aside0.mk A1550
          clear A1550
          obtain rfl := Option.some.inj H
          obtain ⟨Ao156, co156, eo156⟩ := Kd.R_slice HO_23.out
          subst eo156
          have z_ := eq_of_beq c150b0
          subst t496
          have z_ := eq_of_beq c152b0
          subst t500
          have z_ := eq_of_beq c154b0
          subst t501
          go_wp2_with (first | ((with_reducible refine gate_callee (f := 29) rfl ?_); refine goesL_ (some 121) rfl rfl Try.func29 (by kernel_rfl) rfl #[.slice Ao156 t490.length co156, .int .i64 t460] rfl (by (try simp only [List.map_toArray, List.map_cons, List.map_nil]); first | done | rfl | (simp only [List.length_drop, List.length_take]; rfl)) ?_; (with_reducible refine (aig_Lit.calls _ _ t490 t460 false _ ?side1 ?side2 A135.out).mono ?_); (case side1 => repeat (first | exact (Kd.R_reads' HO_23.out).2.2 | (with_reducible refine Kd.C_alloc ?_ _) | (with_reducible refine Kd.C_drewN ?_ _) | (with_reducible refine Kd.C_drew ?_))); (case side2 => exact (Kd.R_reads' HO_23.out).2.1); rintro e w' ⟨rfl, ⟨nd, rfl⟩⟩; refine ⟨_, rfl, ?_⟩) | ((with_reducible refine gate_callee (f := 29) rfl ?_); refine goesL_ (some 124) rfl rfl Try.func29 (by kernel_rfl) rfl #[.slice Ao156 t490.length co156, .int .i64 t461] rfl (by (try simp only [List.map_toArray, List.map_cons, List.map_nil]); first | done | rfl | (simp only [List.length_drop, List.length_take]; rfl)) ?_; (with_reducible refine (aig_Lit.calls _ _ t490 t461 t494 _ ?side1 ?side2 A136.out).mono ?_); (case side1 => repeat (first | exact (Kd.R_reads' HO_23.out).2.2 | (with_reducible refine Kd.C_alloc ?_ _) | (with_reducible refine Kd.C_drewN ?_ _) | (with_reducible refine Kd.C_drew ?_))); (case side2 => exact (Kd.R_reads' HO_23.out).2.1); rintro e w' ⟨rfl, ⟨nd, rfl⟩⟩; refine ⟨_, rfl, ?_⟩) | ((with_reducible refine gate_callee (f := 29) rfl ?_); refine goesL_ (some 127) rfl rfl Try.func29 (by kernel_rfl) rfl #[.slice Ao156 t490.length co156, .int .i64 t462] rfl (by (try simp only [List.map_toArray, List.map_cons, List.map_nil]); first | done | rfl | (simp only [List.length_drop, List.length_take]; rfl)) ?_; (with_reducible refine (aig_Lit.calls _ _ t490 t462 t495 _ ?side1 ?side2 A137.out).mono ?_); (case side1 => repeat (first | exact (Kd.R_reads' HO_23.out).2.2 | (with_reducible refine Kd.C_alloc ?_ _) | (with_reducible refine Kd.C_drewN ?_ _) | (with_reducible refine Kd.C_drew ?_))); (case side2 => exact (Kd.R_reads' HO_23.out).2.1); rintro e w' ⟨rfl, ⟨nd, rfl⟩⟩; refine ⟨_, rfl, ?_⟩) | (go_at_call 29; (with_reducible refine (aig_Lit.calls _ _ t490 t467 false _ ?side1 ?side2 A139.out).mono ?_); (case side1 => repeat (first | exact (Kd.R_reads' HO_23.out).2.2 | (with_reducible refine Kd.C_alloc ?_ _) | (with_reducible refine Kd.C_drewN ?_ _) | (with_reducible refine Kd.C_drew ?_))); (case side2 => exact (Kd.R_reads' HO_23.out).2.1); rintro e w' ⟨rfl, ⟨nd, rfl⟩⟩) | (go_at_call 29; (with_reducible refine (aig_Lit.calls _ _ t490 t473 t494 _ ?side1 ?side2 A151.out).mono ?_); (case side1 => repeat (first | exact (Kd.R_reads' HO_23.out).2.2 | (with_reducible refine Kd.C_alloc ?_ _) | (with_reducible refine Kd.C_drewN ?_ _) | (with_reducible refine Kd.C_drew ?_))); (case side2 => exact (Kd.R_reads' HO_23.out).2.1); rintro e w' ⟨rfl, ⟨nd, rfl⟩⟩) | (go_at_call 29; (with_reducible refine (aig_Lit.calls _ _ t490 t479 (false != t494) _ ?side1 ?side2 A153.out).mono ?_); (case side1 => repeat (first | exact (Kd.R_reads' HO_23.out).2.2 | (with_reducible refine Kd.C_alloc ?_ _) | (with_reducible refine Kd.C_drewN ?_ _) | (with_reducible refine Kd.C_drew ?_))); (case side2 => exact (Kd.R_reads' HO_23.out).2.1); rintro e w' ⟨rfl, ⟨nd, rfl⟩⟩) | (go_at_call 29; (with_reducible refine (aig_Lit.calls _ _ t490 t485 t502 _ ?side1 ?side2 A155.out).mono ?_); (case side1 => repeat (first | exact (Kd.R_reads' HO_23.out).2.2 | (with_reducible refine Kd.C_alloc ?_ _) | (with_reducible refine Kd.C_drewN ?_ _) | (with_reducible refine Kd.C_drew ?_))); (case side2 => exact (Kd.R_reads' HO_23.out).2.1); rintro e w' ⟨rfl, ⟨nd, rfl⟩⟩))
          go_ret
          exact ⟨by first | rfl | (simp [errW_none, errW_some] <;> rfl) | (simp [*, errW_none, errW_some] <;> rfl), by repeat (first | (with_reducible first | exact HB.out | apply below_alloc | apply pw_below_drewN | apply below_drew1 | refine below_set ?_ GE449.out | refine below_set ?_ GE459.out | refine below_set ?_ GE468.out | refine below_set ?_ GE474.out | refine below_set ?_ GE480.out | refine below_set ?_ GE486.out) | exact HB.out)⟩
         ·rw [if_neg c154] at H
          exact absurd H (by simp)
        ·rw [if_neg c152] at H
         exact absurd H (by simp)
       ·rw [if_neg c150] at H
        exact absurd H (by simp)
     ·replace c138 := Bool.eq_false_iff.mpr c138
      subst c138
      have H1 : (none) = some r := by rw [if_neg (show ¬ (false = true) by decide)] at H; exact H
      clear H
      have H := H1
      clear H1
      exact absurd H (by simp)
end Go.Proofs.Ytlnjefcfbncegaa.Xb
