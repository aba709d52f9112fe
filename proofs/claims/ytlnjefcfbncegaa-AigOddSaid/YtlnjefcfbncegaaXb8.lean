/- Slimmed by this session: what nothing names is struck out. -/
import Derived.Test.YtlnjefcfbncegaaXb0
import Derived.Test.YtlnjefcfbncegaaXb2
import Derived.Test.YtlnjefcfbncegaaXb4
import Derived.Test.YtlnjefcfbncegaaXb6
import Derived.Test.YtlnjefcfbncegaaXb7
namespace Go.Proofs.Ytlnjefcfbncegaa.Xb
open Go.RowKit Go.Proofs.YtlnjefcfbncegaaW.PrintWords Go.Proofs.YtlnjefcfbncegaaW.PrintLast Go.Proofs.YtlnjefcfbncegaaW.PrintMore
attribute [local go_sem] max2_int min2_int max_two min_two max_three min_three max_four min_four
set_option linter.unusedVariables false
set_option linter.unusedSimpArgs false
abbrev b1_8 := @blk_drewN
abbrev b2_8 := @blk_alloc
abbrev b3_8 := @blk_drew
abbrev b4_8 := @below_set
abbrev aM_8 := @Aside0.mk
abbrev v1_8 := @Kd.V_alloc
abbrev v2_8 := @Kd.V_drewN
abbrev v3_8 := @Kd.V_drew
abbrev r1_8 := @Kd.R_alloc
abbrev r2_8 := @Kd.R_drewN
abbrev r3_8 := @Kd.R_drew
abbrev b5_8 := @blk_below
abbrev v4_8 := @Kd.V_mono
abbrev v5_8 := @Kd.V_far
abbrev b6_8 := @pw_below_drewN
abbrev b7_8 := @below_drew1
abbrev b8_8 := @below_alloc
abbrev b9_8 := @below_step
abbrev b0_8 := @below_size
abbrev c1_8 := @blk_put
abbrev c2_8 := @blk_far
abbrev v6_8 := @Kd.V_below
abbrev l1_8 := @List.setIfInBounds_toArray
abbrev l2_8 := @List.set_cons_zero
abbrev l3_8 := @List.set_cons_succ
theorem cells2_8 {w : World} {g : Nat} {t : TypeId} {x0 x1 : Value} (h : w.heap[g]? = some (.cells #[x0, x1] t (0, 0))) : w.cell? ⟨g, 0, none⟩ = some x0 ∧ w.cell? ⟨g, 1, none⟩ = some x1 ∧ w.frozen? ⟨g, 0, none⟩ = false ∧ w.frozen? ⟨g, 1, none⟩ = false := ⟨(blk_cell h 0).trans rfl, (blk_cell h 1).trans rfl, blk_frozen h 0, blk_frozen h 1⟩
def aig_And.f (k : Nat) (a0_0 : Int) (l0_1 : List (S50)) (a1 : Int) (a2 : Int) : Option (Int × (List (S50)) × Int) := (aig_of.f a1 a2).bind fun bt112 => ((aig_plain.f bt112.1 bt112.2).bind fun bt115 => (if bt115.2 = true then (some (a0_0, l0_1, bt115.1)) else ((slices_Index_2_int_2_int.f k l0_1 bt112.1 bt112.2).bind fun t117 => (if t117 < 0 then ((slices_Clone_2_int_2_int.f l0_1).bind fun t118 => ((some (([(⟨bt112.1, bt112.2⟩ : S50)] : List (S50)) : List (S50))).bind fun y121 => (if t118.length + y121.length < 8796093022208 then (some (a0_0, (t118 ++ y121), wrap64 ((wrap64 ((wrap64 (a0_0 + 1)) + (l0_1.length : Int))) * 2))) else (none)))) else (some (a0_0, l0_1, wrap64 ((wrap64 ((wrap64 (a0_0 + 1)) + t117)) * 2)))))))
theorem aig_And.mono : ∀ a0 a1 a2 a3 k, LeO (aig_And.f k a0 a1 a2 a3) (aig_And.f (k + 1) a0 a1 a2 a3) := by
 intro a0 a1 a2 a3 k
 unfold aig_And.f
 repeat' first
   | (with_reducible exact slices_Index_2_int_2_int.mono _ _ _ _)
   | (with_reducible exact LeO.refl _)
   | (with_reducible exact LeO.none _)
   | (with_reducible refine LeO.ite ?_ ?_)
   | (with_reducible refine LeO.bind ?_ (fun _ => ?_))
   | exact slices_Index_2_int_2_int.mono _ _ _ _
   | exact LeO.none _
   | refine LeO.ite ?_ ?_
   | refine LeO.bind ?_ (fun _ => ?_)
def aig_And.T8 : Bool × List (List Nat × List Nat) := (true, [([], []), ([0], [0]), ([1], [1]), ([], []), ([3], [3]), ([2, 4, 2], [2, 4]), ([0, 1, 2, 3, 4, 5], []), ([6, 5, 5, 0, 1, 2, 3, 4, 5], [5, 6])])
def aig_And.B8 : List Nat := [0, 1, 3, 0, 8, 31, 63, 127]
theorem aig_And.tab8 : rtab .any (opsOf Try.f16 8) = aig_And.T8 := by kernel_rfl
theorem aig_And.bits8 : waitsOk aig_And.T8.2 aig_And.B8 = true := by kernel_rfl
def aig_And.T9 : Bool × List (List Nat × List Nat) := (true, [([], []), ([], []), ([1], [1]), ([2], [2]), ([], []), ([3, 4], [3, 4]), ([5], [5]), ([0, 0], [0]), ([6, 7, 0, 1, 2, 3, 4, 5, 6, 7], [6])])
def aig_And.B9 : List Nat := [0, 0, 2, 6, 0, 30, 62, 1, 255]
theorem aig_And.tab9 : rtab .any (opsOf Try.f16 9) = aig_And.T9 := by kernel_rfl
theorem aig_And.bits9 : waitsOk aig_And.T9.2 aig_And.B9 = true := by kernel_rfl
set_option maxHeartbeats 8000000 in
set_option maxRecDepth 100000 in
theorem aig_And.calls (k : Nat) (a0_0 : Int) (P0_1_ : Nat → Prop) (A0_1 : Option Addr) (c0_1 : Nat) (l0_1 : List (S50)) (a1 : Int) (a2 : Int) (r1 : Int) (r2 : List (S50)) (r3 : Int) (w : World) (hs0_1 : Kd.V k50 50 w w.heap.size (fun k_ => P0_1_ k_) (.slice A0_1 l0_1.length c0_1) l0_1) (h : aig_And.f k a0_0 l0_1 a1 a2 = some (r1, r2, r3)) :
  Calls Try.prog 16 #[.agg #[.int .i64 a0_0, .slice A0_1 l0_1.length c0_1], .int .i64 a1, .int .i64 a2] w fun e w' => ∃ v1_ : Value, e = .returned (.tuple #[.agg #[.int .i64 r1, v1_], .int .i64 r3]) ∧ Kd.V k50 50 w' w.heap.size (fun k_ => (P0_1_ k_ ∨ w.heap.size ≤ k_)) v1_ r2 ∧ Below w.heap.size w w' := by
 have hu24 := Try.underlying24
 have hu53 := Try.underlying53
 have hix53_0 : ∀ (x0_ x1_ : Value) (W_ : World), (Instr.index 53 (.agg #[x0_, x1_]) (.int .i64 0)).run Try.prog W_ = .ok x0_ W_ := fun _ _ _ => by kernel_rfl
 have hix53_1 : ∀ (x0_ x1_ : Value) (W_ : World), (Instr.index 53 (.agg #[x0_, x1_]) (.int .i64 1)).run Try.prog W_ = .ok x1_ W_ := fun _ _ _ => by kernel_rfl
 have HO0_1 := aM_8 (show Kd.V k50 50 w w.heap.size (fun k_ => (P0_1_ k_ ∨ w.heap.size ≤ k_)) (.slice A0_1 l0_1.length c0_1) l0_1 from v4_8 hs0_1 (fun k_ hk => .inl hk))
 have HB := aM_8 (Below.refl w.heap.size w)
 have H : ((aig_of.f a1 a2).bind fun bt112 => ((aig_plain.f bt112.1 bt112.2).bind fun bt115 => (if bt115.2 = true then (some (a0_0, l0_1, bt115.1)) else ((slices_Index_2_int_2_int.f k l0_1 bt112.1 bt112.2).bind fun t117 => (if t117 < 0 then ((slices_Clone_2_int_2_int.f l0_1).bind fun t118 => ((some (([(⟨bt112.1, bt112.2⟩ : S50)] : List (S50)) : List (S50))).bind fun y121 => (if t118.length + y121.length < 8796093022208 then (some (a0_0, (t118 ++ y121), wrap64 ((wrap64 ((wrap64 (a0_0 + 1)) + (l0_1.length : Int))) * 2))) else (none)))) else (some (a0_0, l0_1, wrap64 ((wrap64 ((wrap64 (a0_0 + 1)) + t117)) * 2)))))))) = some (r1, r2, r3) := h
 clear h
 replace H := Option.bind_eq_some_iff.mp H
 obtain ⟨⟨t112, t113⟩, A40, H⟩ := H
 replace H : ((aig_plain.f t112 t113).bind fun bt115 => (if bt115.2 = true then (some (a0_0, l0_1, bt115.1)) else ((slices_Index_2_int_2_int.f k l0_1 t112 t113).bind fun t117 => (if t117 < 0 then ((slices_Clone_2_int_2_int.f l0_1).bind fun t118 => ((some (([(⟨t112, t113⟩ : S50)] : List (S50)) : List (S50))).bind fun y121 => (if t118.length + y121.length < 8796093022208 then (some (a0_0, (t118 ++ y121), wrap64 ((wrap64 ((wrap64 (a0_0 + 1)) + (l0_1.length : Int))) * 2))) else (none)))) else (some (a0_0, l0_1, wrap64 ((wrap64 ((wrap64 (a0_0 + 1)) + t117)) * 2))))))) = some (r1, r2, r3) := H
 have A4 := aM_8 A40
 clear A40
 replace H := Option.bind_eq_some_iff.mp H
 obtain ⟨⟨t115, t116⟩, A50, H⟩ := H
 replace H : (if t116 = true then (some (a0_0, l0_1, t115)) else ((slices_Index_2_int_2_int.f k l0_1 t112 t113).bind fun t117 => (if t117 < 0 then ((slices_Clone_2_int_2_int.f l0_1).bind fun t118 => ((some (([(⟨t112, t113⟩ : S50)] : List (S50)) : List (S50))).bind fun y121 => (if t118.length + y121.length < 8796093022208 then (some (a0_0, (t118 ++ y121), wrap64 ((wrap64 ((wrap64 (a0_0 + 1)) + (l0_1.length : Int))) * 2))) else (none)))) else (some (a0_0, l0_1, wrap64 ((wrap64 ((wrap64 (a0_0 + 1)) + t117)) * 2)))))) = some (r1, r2, r3) := H
 have A5 := aM_8 A50
 clear A50
 by_cases c6 : t116 = true
 ·subst c6
  have H1 : (some (a0_0, l0_1, t115)) = some (r1, r2, r3) := by rw [if_pos rfl] at H; exact H
  clear H
  have H := H1
  clear H1
  simp only [Option.some.injEq, Prod.mk.injEq] at H
  obtain ⟨rfl, rfl, rfl⟩ := H
  go_enter Try.func16, Try.ntmps16
  go_wp2_with (first | ((with_reducible refine gate_dst (N := 3) rfl ?_); refine box_event ?hg (N := 3) ?hd (cs := #[.int .i64 a0_0, .slice A0_1 l0_1.length c0_1]) (t := 24) ?hr ?_; (case hd => rfl); (case hg => rfl); (case hr => first | (go_simp; done) | (go_simp; rfl)); intro gb110 hg w7 hbox hb; have n0_ := aM_8 (v6_8 (Kd.V_elderB (by (with_reducible repeat (first | apply v1_8 | apply v2_8 | apply v3_8)); exact HO0_1.out) gb110 (Nat.le_of_eq hg.symm)) hb); have n1_ := aM_8 (b9_8 (by repeat (first | (with_reducible first | exact HB.out | apply b8_8 | apply b6_8 | apply b7_8) | exact HB.out)) hb); have n2_ := aM_8 (hbox); have n3_ := aM_8 ((by rw [hg]; exact (b0_8 (by repeat (first | (with_reducible first | exact HB.out | apply b8_8 | apply b6_8 | apply b7_8) | exact HB.out))) : w.heap.size ≤ gb110)); have n4_ := aM_8 ((by rw [hg]; exact (b0_8 (by repeat (first | (with_reducible first | exact HB.out | apply b8_8 | apply b6_8 | apply b7_8) | exact HB.out))) : w.heap.size ≤ gb110)); clear HO0_1 HB; have HO0_1 := n0_; have HB := n1_; have BK110 := n2_; have GW110 := n3_; have GE110 := n4_; clear n0_ n1_ n2_ n3_ n4_; clear hb hbox hg) | ((with_reducible refine gate_dst (N := 6) rfl ?_); refine box_event ?hg (N := 6) ?hd (cs := #[.int .i64 0, .slice none 0 0]) (t := 24) ?hr ?_; (case hd => rfl); (case hg => rfl); (case hr => first | (go_simp; done) | (go_simp; rfl)); intro gb111 hg w8 hbox hb; have n0_ := aM_8 (v6_8 (Kd.V_elderB (by (with_reducible repeat (first | apply v1_8 | apply v2_8 | apply v3_8)); exact HO0_1.out) gb111 (Nat.le_of_eq hg.symm)) hb); have n1_ := aM_8 (b5_8 (by exact BK110.out) hb); have n2_ := aM_8 (b9_8 (by repeat (first | (with_reducible first | exact HB.out | apply b8_8 | apply b6_8 | apply b7_8 | refine b4_8 ?_ GE110.out) | exact HB.out)) hb); have n3_ := aM_8 (hbox); have n4_ := aM_8 ((by rw [hg]; exact (b0_8 (by repeat (first | (with_reducible first | exact HB.out | apply b8_8 | apply b6_8 | apply b7_8 | refine b4_8 ?_ GE110.out) | exact HB.out))) : w.heap.size ≤ gb111)); have n5_ := aM_8 ((by rw [hg]; exact (b0_8 (by repeat (first | (with_reducible first | exact HB.out | apply b8_8 | apply b6_8 | apply b7_8 | refine b4_8 ?_ GE110.out) | exact HB.out))) : w.heap.size ≤ gb111)); have n6_ := aM_8 ((by rw [hg]; exact Nat.ne_of_lt (blk_lt (by exact BK110.out)) : gb110 ≠ gb111)); have n7_ := aM_8 ((by rw [hg]; exact Nat.ne_of_gt (blk_lt (by exact BK110.out)) : gb111 ≠ gb110)); clear HO0_1 BK110 HB; have HO0_1 := n0_; have BK110 := n1_; have HB := n2_; have BK111 := n3_; have GW111 := n4_; have GE111 := n5_; have NB110_111 := n6_; have NB111_110 := n7_; clear n0_ n1_ n2_ n3_ n4_ n5_ n6_ n7_; clear hb hbox hg) | ((with_reducible refine gate_callee (f := 33) rfl ?_); refine goesL_ (some 14) rfl rfl Try.func33 (by kernel_rfl) rfl #[.int .i64 a1, .int .i64 a2] rfl (by (try simp only [List.map_toArray, List.map_cons, List.map_nil]); first | done | rfl | (simp only [List.length_drop, List.length_take]; rfl)) ?_; (with_reducible refine (aig_of.calls a1 a2 t112 t113 _ A4.out).mono ?_); rintro e w9 ⟨rfl, hb⟩; refine ⟨_, rfl, ?_⟩; have n0_ := aM_8 (v6_8 (by (with_reducible repeat (first | apply v1_8 | apply v2_8 | apply v3_8)); exact HO0_1.out) hb); have n1_ := aM_8 (b5_8 (by exact BK110.out) hb); have n2_ := aM_8 (b5_8 (by exact BK111.out) hb); have n3_ := aM_8 (b9_8 (by repeat (first | (with_reducible first | exact HB.out | apply b8_8 | apply b6_8 | apply b7_8 | refine b4_8 ?_ GE110.out | refine b4_8 ?_ GE111.out) | exact HB.out)) hb); clear HO0_1 BK110 BK111 HB; have HO0_1 := n0_; have BK110 := n1_; have BK111 := n2_; have HB := n3_; clear n0_ n1_ n2_ n3_; (try clear hb); (try clear hb2); (try clear hk); (try clear hi)) | ((with_reducible refine gate_dst (N := 8) rfl ?_); refine box_event ?hg (N := 8) ?hd (cs := #[.int .i64 0, .int .i64 0]) (t := 53) ?hr ?_; (case hd => rfl); (case hg => rfl); (case hr => first | (go_simp; done) | (go_simp; rfl)); intro gb114 hg w10 hbox hb; have n0_ := aM_8 (v6_8 (Kd.V_elderB (by (with_reducible repeat (first | apply v1_8 | apply v2_8 | apply v3_8)); exact HO0_1.out) gb114 (Nat.le_of_eq hg.symm)) hb); have n1_ := aM_8 (b5_8 (by exact BK110.out) hb); have n2_ := aM_8 (b5_8 (by exact BK111.out) hb); have n3_ := aM_8 (b9_8 (by repeat (first | (with_reducible first | exact HB.out | apply b8_8 | apply b6_8 | apply b7_8 | refine b4_8 ?_ GE110.out | refine b4_8 ?_ GE111.out) | exact HB.out)) hb); have n4_ := aM_8 (hbox); have n5_ := aM_8 ((by rw [hg]; exact (b0_8 (by repeat (first | (with_reducible first | exact HB.out | apply b8_8 | apply b6_8 | apply b7_8 | refine b4_8 ?_ GE110.out | refine b4_8 ?_ GE111.out) | exact HB.out))) : w.heap.size ≤ gb114)); have n6_ := aM_8 ((by rw [hg]; exact (b0_8 (by repeat (first | (with_reducible first | exact HB.out | apply b8_8 | apply b6_8 | apply b7_8 | refine b4_8 ?_ GE110.out | refine b4_8 ?_ GE111.out) | exact HB.out))) : w.heap.size ≤ gb114)); have n7_ := aM_8 ((by rw [hg]; exact Nat.ne_of_lt (blk_lt (by exact BK110.out)) : gb110 ≠ gb114)); have n8_ := aM_8 ((by rw [hg]; exact Nat.ne_of_gt (blk_lt (by exact BK110.out)) : gb114 ≠ gb110)); have n9_ := aM_8 ((by rw [hg]; exact Nat.ne_of_lt (blk_lt (by exact BK111.out)) : gb111 ≠ gb114)); have n10_ := aM_8 ((by rw [hg]; exact Nat.ne_of_gt (blk_lt (by exact BK111.out)) : gb114 ≠ gb111)); clear HO0_1 BK110 BK111 HB; have HO0_1 := n0_; have BK110 := n1_; have BK111 := n2_; have HB := n3_; have BK114 := n4_; have GW114 := n5_; have GE114 := n6_; have NB110_114 := n7_; have NB114_110 := n8_; have NB111_114 := n9_; have NB114_111 := n10_; clear n0_ n1_ n2_ n3_ n4_ n5_ n6_ n7_ n8_ n9_ n10_; clear hb hbox hg; have hnb11 := NB114_110.out; have hnc11 := NB110_114.out; have hnb12 := NB114_111.out; have hnc12 := NB111_114.out; obtain ⟨hcz13_0, hcz13_1, hfz13_0, hfz13_1⟩ := cells2_8 BK114.out) | ((with_reducible refine gate_callee (f := 34) rfl ?_); refine goesL_ (some 17) rfl rfl Try.func34 (by kernel_rfl) rfl #[.agg #[.int .i64 t112, .int .i64 t113]] rfl (by (try simp only [List.map_toArray, List.map_cons, List.map_nil]); first | done | rfl | (simp only [List.length_drop, List.length_take]; rfl)) ?_; (with_reducible refine (aig_plain.calls t112 t113 t115 true _ A5.out).mono ?_); rintro e w14 ⟨rfl, hb⟩; refine ⟨_, rfl, ?_⟩; have n0_ := aM_8 (v6_8 (by (with_reducible repeat (first | apply v1_8 | apply v2_8 | apply v3_8)); exact (v4_8 (v5_8 (p := ⟨gb114, 1, none⟩) (v5_8 (p := ⟨gb114, 0, none⟩) (v4_8 HO0_1.out (fun k_ hk => (⟨hk, hk.2⟩ : _ ∧ k_ ≠ gb114))) (fun _ hk => hk.2) (.int .i64 t112)) (fun _ hk => hk.2) (.int .i64 t113)) (fun _ h_ => h_.1))) hb); have n1_ := aM_8 (b5_8 (g := gb110) (o := .cells #[.int .i64 a0_0, .slice A0_1 l0_1.length c0_1] 24 (0, 0)) (by (with_reducible repeat (first | refine b1_8 ?_ _ | refine b3_8 ?_ | refine b2_8 ?_ _)); refine c2_8 ?_ NB110_114.out _; (with_reducible repeat (first | refine b1_8 ?_ _ | refine b3_8 ?_ | refine b2_8 ?_ _)); refine c2_8 ?_ NB110_114.out _; (with_reducible repeat (first | refine b1_8 ?_ _ | refine b3_8 ?_ | refine b2_8 ?_ _)); exact BK110.out) hb); have n2_ := aM_8 (b5_8 (g := gb111) (o := .cells #[.int .i64 0, .slice none 0 0] 24 (0, 0)) (by (with_reducible repeat (first | refine b1_8 ?_ _ | refine b3_8 ?_ | refine b2_8 ?_ _)); refine c2_8 ?_ NB111_114.out _; (with_reducible repeat (first | refine b1_8 ?_ _ | refine b3_8 ?_ | refine b2_8 ?_ _)); refine c2_8 ?_ NB111_114.out _; (with_reducible repeat (first | refine b1_8 ?_ _ | refine b3_8 ?_ | refine b2_8 ?_ _)); exact BK111.out) hb); have n3_ := aM_8 (b5_8 (g := gb114) (o := .cells #[.int .i64 t112, .int .i64 t113] 53 (0, 0)) (by (with_reducible repeat (first | refine b1_8 ?_ _ | refine b3_8 ?_ | refine b2_8 ?_ _)); refine c1_8 (cs := #[.int .i64 t112, .int .i64 0]) ?_ 1 _ rfl; (with_reducible repeat (first | refine b1_8 ?_ _ | refine b3_8 ?_ | refine b2_8 ?_ _)); refine c1_8 (cs := #[.int .i64 0, .int .i64 0]) ?_ 0 _ rfl; (with_reducible repeat (first | refine b1_8 ?_ _ | refine b3_8 ?_ | refine b2_8 ?_ _)); exact BK114.out) hb); have n4_ := aM_8 (b9_8 (by repeat (first | (with_reducible first | exact HB.out | apply b8_8 | apply b6_8 | apply b7_8 | refine b4_8 ?_ GE110.out | refine b4_8 ?_ GE111.out | refine b4_8 ?_ GE114.out) | exact HB.out)) hb); clear HO0_1 BK110 BK111 BK114 HB; have HO0_1 := n0_; have BK110 := n1_; have BK111 := n2_; have BK114 := n3_; have HB := n4_; clear n0_ n1_ n2_ n3_ n4_; (try clear hb); (try clear hb2); (try clear hk); (try clear hi); have hnb15 := NB110_111.out; have hnc15 := NB111_110.out; obtain ⟨hcz16_0, hcz16_1, hfz16_0, hfz16_1⟩ := cells2_8 BK110.out; obtain ⟨hcz17_0, hcz17_1, hfz17_0, hfz17_1⟩ := cells2_8 BK111.out))
  refine bodyPost_ret (results_ct rfl _ _ gb111 24 #[.int .i64 a0_0, .slice A0_1 l0_1.length c0_1] (0, 0) _ rfl (by (with_reducible repeat (first | refine b1_8 ?_ _ | refine b3_8 ?_ | refine b2_8 ?_ _)); refine c1_8 (cs := #[.int .i64 a0_0, .slice none 0 0]) ?_ 1 _ rfl; (with_reducible repeat (first | refine b1_8 ?_ _ | refine b3_8 ?_ | refine b2_8 ?_ _)); refine c1_8 (cs := #[.int .i64 0, .slice none 0 0]) ?_ 0 _ rfl; (with_reducible repeat (first | refine b1_8 ?_ _ | refine b3_8 ?_ | refine b2_8 ?_ _)); exact BK111.out) Try.underlying24 rfl (by kernel_rfl)) rfl ?_
  exact ⟨_, by first | rfl | (simp [errW_none, errW_some] <;> rfl) | (simp [*, errW_none, errW_some] <;> rfl), by (with_reducible repeat (first | apply v1_8 | apply v2_8 | apply v3_8)); exact v4_8 (v5_8 (p := ⟨gb111, 1, none⟩) (v5_8 (p := ⟨gb111, 0, none⟩) (v4_8 HO0_1.out (fun k_ hk => (⟨hk, hk.1.2⟩ : _ ∧ k_ ≠ gb111))) (fun _ hk => hk.2) (.int .i64 a0_0)) (fun _ hk => hk.2) (.slice A0_1 l0_1.length c0_1)) (fun _ hk => hk.1.1.1.1), by repeat (first | (with_reducible first | exact HB.out | apply b8_8 | apply b6_8 | apply b7_8 | refine b4_8 ?_ GE110.out | refine b4_8 ?_ GE111.out | refine b4_8 ?_ GE114.out) | exact HB.out)⟩
 ·replace c6 := Bool.eq_false_iff.mpr c6
  subst c6
  have H1 : ((slices_Index_2_int_2_int.f k l0_1 t112 t113).bind fun t117 => (if t117 < 0 then ((slices_Clone_2_int_2_int.f l0_1).bind fun t118 => ((some (([(⟨t112, t113⟩ : S50)] : List (S50)) : List (S50))).bind fun y121 => (if t118.length + y121.length < 8796093022208 then (some (a0_0, (t118 ++ y121), wrap64 ((wrap64 ((wrap64 (a0_0 + 1)) + (l0_1.length : Int))) * 2))) else (none)))) else (some (a0_0, l0_1, wrap64 ((wrap64 ((wrap64 (a0_0 + 1)) + t117)) * 2))))) = some (r1, r2, r3) := by rw [if_neg (show ¬ (false = true) by decide)] at H; exact H
  clear H
  have H := H1
  clear H1
  replace H := Option.bind_eq_some_iff.mp H
  obtain ⟨t117, A180, H⟩ := H
  replace H : (if t117 < 0 then ((slices_Clone_2_int_2_int.f l0_1).bind fun t118 => ((some (([(⟨t112, t113⟩ : S50)] : List (S50)) : List (S50))).bind fun y121 => (if t118.length + y121.length < 8796093022208 then (some (a0_0, (t118 ++ y121), wrap64 ((wrap64 ((wrap64 (a0_0 + 1)) + (l0_1.length : Int))) * 2))) else (none)))) else (some (a0_0, l0_1, wrap64 ((wrap64 ((wrap64 (a0_0 + 1)) + t117)) * 2)))) = some (r1, r2, r3) := H
  have A18 := aM_8 A180
  clear A180
  by_cases c19 : t117 < 0
  ·rw [if_pos c19] at H
   have c19b0 : decide (t117 < 0) = true := decide_eq_true c19
   clear c19
   replace H := Option.bind_eq_some_iff.mp H
   obtain ⟨t118, A200, H⟩ := H
   replace H : ((some (([(⟨t112, t113⟩ : S50)] : List (S50)) : List (S50))).bind fun y121 => (if t118.length + y121.length < 8796093022208 then (some (a0_0, (t118 ++ y121), wrap64 ((wrap64 ((wrap64 (a0_0 + 1)) + (l0_1.length : Int))) * 2))) else (none))) = some (r1, r2, r3) := H
   have A20 := aM_8 A200
   clear A200
   obtain ⟨y121, hy121⟩ : ∃ y_ : List (S50), y_ = (([(⟨t112, t113⟩ : S50)] : List (S50))) := ⟨_, rfl⟩
   replace H : (if t118.length + y121.length < 8796093022208 then (some (a0_0, (t118 ++ y121), wrap64 ((wrap64 ((wrap64 (a0_0 + 1)) + (l0_1.length : Int))) * 2))) else (none)) = some (r1, r2, r3) := by first | (rw [hy121]; with_reducible exact H) | (have H2_ := (Option.bind_some _ _).symm.trans H; rw [hy121]; with_reducible exact H2_) | (have H2_ := (Option.bind_some _ _).symm.trans H; with_reducible exact H2_) | with_reducible exact H | (rw [hy121]; exact H) | exact H
   have Ny121 := aM_8 hy121
   clear hy121
   by_cases c21 : t118.length + y121.length < 8796093022208
   ·rw [if_pos c21] at H
    have LMc21 := aM_8 c21
    clear c21
    obtain ⟨y124, hy124⟩ : ∃ y_ : List (S50), y_ = (t118 ++ y121) := ⟨_, rfl⟩
    replace H : (some (a0_0, y124, wrap64 ((wrap64 ((wrap64 (a0_0 + 1)) + (l0_1.length : Int))) * 2))) = some (r1, r2, r3) := by first | (rw [hy124]; with_reducible exact H) | (have H2_ := (Option.bind_some _ _).symm.trans H; rw [hy124]; with_reducible exact H2_) | (have H2_ := (Option.bind_some _ _).symm.trans H; with_reducible exact H2_) | with_reducible exact H | (rw [hy124]; exact H) | exact H
    have Ny124 := aM_8 hy124
    clear hy124
    simp only [Option.some.injEq, Prod.mk.injEq] at H
    obtain ⟨rfl, rfl, rfl⟩ := H
    go_enter Try.func16, Try.ntmps16
    try go_wp2_with (first | ((with_reducible refine gate_dst (N := 3) rfl ?_); refine box_event ?hg (N := 3) ?hd (cs := #[.int .i64 a0_0, .slice A0_1 l0_1.length c0_1]) (t := 24) ?hr ?_; (case hd => rfl); (case hg => rfl); (case hr => first | (go_simp; done) | (go_simp; rfl)); intro gb110 hg w22 hbox hb; have n0_ := aM_8 (v6_8 (Kd.V_elderB (by (with_reducible repeat (first | apply v1_8 | apply v2_8 | apply v3_8)); exact HO0_1.out) gb110 (Nat.le_of_eq hg.symm)) hb); have n1_ := aM_8 (b9_8 (by repeat (first | (with_reducible first | exact HB.out | apply b8_8 | apply b6_8 | apply b7_8) | exact HB.out)) hb); have n2_ := aM_8 (hbox); have n3_ := aM_8 ((by rw [hg]; exact (b0_8 (by repeat (first | (with_reducible first | exact HB.out | apply b8_8 | apply b6_8 | apply b7_8) | exact HB.out))) : w.heap.size ≤ gb110)); have n4_ := aM_8 ((by rw [hg]; exact (b0_8 (by repeat (first | (with_reducible first | exact HB.out | apply b8_8 | apply b6_8 | apply b7_8) | exact HB.out))) : w.heap.size ≤ gb110)); clear HO0_1 HB; have HO0_1 := n0_; have HB := n1_; have BK110 := n2_; have GW110 := n3_; have GE110 := n4_; clear n0_ n1_ n2_ n3_ n4_; clear hb hbox hg) | ((with_reducible refine gate_dst (N := 6) rfl ?_); refine box_event ?hg (N := 6) ?hd (cs := #[.int .i64 0, .slice none 0 0]) (t := 24) ?hr ?_; (case hd => rfl); (case hg => rfl); (case hr => first | (go_simp; done) | (go_simp; rfl)); intro gb111 hg w23 hbox hb; have n0_ := aM_8 (v6_8 (Kd.V_elderB (by (with_reducible repeat (first | apply v1_8 | apply v2_8 | apply v3_8)); exact HO0_1.out) gb111 (Nat.le_of_eq hg.symm)) hb); have n1_ := aM_8 (b5_8 (by exact BK110.out) hb); have n2_ := aM_8 (b9_8 (by repeat (first | (with_reducible first | exact HB.out | apply b8_8 | apply b6_8 | apply b7_8 | refine b4_8 ?_ GE110.out) | exact HB.out)) hb); have n3_ := aM_8 (hbox); have n4_ := aM_8 ((by rw [hg]; exact (b0_8 (by repeat (first | (with_reducible first | exact HB.out | apply b8_8 | apply b6_8 | apply b7_8 | refine b4_8 ?_ GE110.out) | exact HB.out))) : w.heap.size ≤ gb111)); have n5_ := aM_8 ((by rw [hg]; exact (b0_8 (by repeat (first | (with_reducible first | exact HB.out | apply b8_8 | apply b6_8 | apply b7_8 | refine b4_8 ?_ GE110.out) | exact HB.out))) : w.heap.size ≤ gb111)); have n6_ := aM_8 ((by rw [hg]; exact Nat.ne_of_lt (blk_lt (by exact BK110.out)) : gb110 ≠ gb111)); have n7_ := aM_8 ((by rw [hg]; exact Nat.ne_of_gt (blk_lt (by exact BK110.out)) : gb111 ≠ gb110)); clear HO0_1 BK110 HB; have HO0_1 := n0_; have BK110 := n1_; have HB := n2_; have BK111 := n3_; have GW111 := n4_; have GE111 := n5_; have NB110_111 := n6_; have NB111_110 := n7_; clear n0_ n1_ n2_ n3_ n4_ n5_ n6_ n7_; clear hb hbox hg) | ((with_reducible refine gate_callee (f := 33) rfl ?_); refine goesL_ (some 14) rfl rfl Try.func33 (by kernel_rfl) rfl #[.int .i64 a1, .int .i64 a2] rfl (by (try simp only [List.map_toArray, List.map_cons, List.map_nil]); first | done | rfl | (simp only [List.length_drop, List.length_take]; rfl)) ?_; (with_reducible refine (aig_of.calls a1 a2 t112 t113 _ A4.out).mono ?_); rintro e w24 ⟨rfl, hb⟩; refine ⟨_, rfl, ?_⟩; have n0_ := aM_8 (v6_8 (by (with_reducible repeat (first | apply v1_8 | apply v2_8 | apply v3_8)); exact HO0_1.out) hb); have n1_ := aM_8 (b5_8 (by exact BK110.out) hb); have n2_ := aM_8 (b5_8 (by exact BK111.out) hb); have n3_ := aM_8 (b9_8 (by repeat (first | (with_reducible first | exact HB.out | apply b8_8 | apply b6_8 | apply b7_8 | refine b4_8 ?_ GE110.out | refine b4_8 ?_ GE111.out) | exact HB.out)) hb); clear HO0_1 BK110 BK111 HB; have HO0_1 := n0_; have BK110 := n1_; have BK111 := n2_; have HB := n3_; clear n0_ n1_ n2_ n3_; (try clear hb); (try clear hb2); (try clear hk); (try clear hi)) | ((with_reducible refine gate_dst (N := 8) rfl ?_); refine box_event ?hg (N := 8) ?hd (cs := #[.int .i64 0, .int .i64 0]) (t := 53) ?hr ?_; (case hd => rfl); (case hg => rfl); (case hr => first | (go_simp; done) | (go_simp; rfl)); intro gb114 hg w25 hbox hb; have n0_ := aM_8 (v6_8 (Kd.V_elderB (by (with_reducible repeat (first | apply v1_8 | apply v2_8 | apply v3_8)); exact HO0_1.out) gb114 (Nat.le_of_eq hg.symm)) hb); have n1_ := aM_8 (b5_8 (by exact BK110.out) hb); have n2_ := aM_8 (b5_8 (by exact BK111.out) hb); have n3_ := aM_8 (b9_8 (by repeat (first | (with_reducible first | exact HB.out | apply b8_8 | apply b6_8 | apply b7_8 | refine b4_8 ?_ GE110.out | refine b4_8 ?_ GE111.out) | exact HB.out)) hb); have n4_ := aM_8 (hbox); have n5_ := aM_8 ((by rw [hg]; exact (b0_8 (by repeat (first | (with_reducible first | exact HB.out | apply b8_8 | apply b6_8 | apply b7_8 | refine b4_8 ?_ GE110.out | refine b4_8 ?_ GE111.out) | exact HB.out))) : w.heap.size ≤ gb114)); have n6_ := aM_8 ((by rw [hg]; exact (b0_8 (by repeat (first | (with_reducible first | exact HB.out | apply b8_8 | apply b6_8 | apply b7_8 | refine b4_8 ?_ GE110.out | refine b4_8 ?_ GE111.out) | exact HB.out))) : w.heap.size ≤ gb114)); have n7_ := aM_8 ((by rw [hg]; exact Nat.ne_of_lt (blk_lt (by exact BK110.out)) : gb110 ≠ gb114)); have n8_ := aM_8 ((by rw [hg]; exact Nat.ne_of_gt (blk_lt (by exact BK110.out)) : gb114 ≠ gb110)); have n9_ := aM_8 ((by rw [hg]; exact Nat.ne_of_lt (blk_lt (by exact BK111.out)) : gb111 ≠ gb114)); have n10_ := aM_8 ((by rw [hg]; exact Nat.ne_of_gt (blk_lt (by exact BK111.out)) : gb114 ≠ gb111)); clear HO0_1 BK110 BK111 HB; have HO0_1 := n0_; have BK110 := n1_; have BK111 := n2_; have HB := n3_; have BK114 := n4_; have GW114 := n5_; have GE114 := n6_; have NB110_114 := n7_; have NB114_110 := n8_; have NB111_114 := n9_; have NB114_111 := n10_; clear n0_ n1_ n2_ n3_ n4_ n5_ n6_ n7_ n8_ n9_ n10_; clear hb hbox hg; have hnb26 := NB114_110.out; have hnc26 := NB110_114.out; have hnb27 := NB114_111.out; have hnc27 := NB111_114.out; obtain ⟨hcz28_0, hcz28_1, hfz28_0, hfz28_1⟩ := cells2_8 BK114.out) | ((with_reducible refine gate_callee (f := 34) rfl ?_); refine goesL_ (some 17) rfl rfl Try.func34 (by kernel_rfl) rfl #[.agg #[.int .i64 t112, .int .i64 t113]] rfl (by (try simp only [List.map_toArray, List.map_cons, List.map_nil]); first | done | rfl | (simp only [List.length_drop, List.length_take]; rfl)) ?_; (with_reducible refine (aig_plain.calls t112 t113 t115 false _ A5.out).mono ?_); rintro e w29 ⟨rfl, hb⟩; refine ⟨_, rfl, ?_⟩; have n0_ := aM_8 (v6_8 (by (with_reducible repeat (first | apply v1_8 | apply v2_8 | apply v3_8)); exact (v4_8 (v5_8 (p := ⟨gb114, 1, none⟩) (v5_8 (p := ⟨gb114, 0, none⟩) (v4_8 HO0_1.out (fun k_ hk => (⟨hk, hk.2⟩ : _ ∧ k_ ≠ gb114))) (fun _ hk => hk.2) (.int .i64 t112)) (fun _ hk => hk.2) (.int .i64 t113)) (fun _ h_ => h_.1))) hb); have n1_ := aM_8 (b5_8 (g := gb110) (o := .cells #[.int .i64 a0_0, .slice A0_1 l0_1.length c0_1] 24 (0, 0)) (by (with_reducible repeat (first | refine b1_8 ?_ _ | refine b3_8 ?_ | refine b2_8 ?_ _)); refine c2_8 ?_ NB110_114.out _; (with_reducible repeat (first | refine b1_8 ?_ _ | refine b3_8 ?_ | refine b2_8 ?_ _)); refine c2_8 ?_ NB110_114.out _; (with_reducible repeat (first | refine b1_8 ?_ _ | refine b3_8 ?_ | refine b2_8 ?_ _)); exact BK110.out) hb); have n2_ := aM_8 (b5_8 (g := gb111) (o := .cells #[.int .i64 0, .slice none 0 0] 24 (0, 0)) (by (with_reducible repeat (first | refine b1_8 ?_ _ | refine b3_8 ?_ | refine b2_8 ?_ _)); refine c2_8 ?_ NB111_114.out _; (with_reducible repeat (first | refine b1_8 ?_ _ | refine b3_8 ?_ | refine b2_8 ?_ _)); refine c2_8 ?_ NB111_114.out _; (with_reducible repeat (first | refine b1_8 ?_ _ | refine b3_8 ?_ | refine b2_8 ?_ _)); exact BK111.out) hb); have n3_ := aM_8 (b5_8 (g := gb114) (o := .cells #[.int .i64 t112, .int .i64 t113] 53 (0, 0)) (by (with_reducible repeat (first | refine b1_8 ?_ _ | refine b3_8 ?_ | refine b2_8 ?_ _)); refine c1_8 (cs := #[.int .i64 t112, .int .i64 0]) ?_ 1 _ rfl; (with_reducible repeat (first | refine b1_8 ?_ _ | refine b3_8 ?_ | refine b2_8 ?_ _)); refine c1_8 (cs := #[.int .i64 0, .int .i64 0]) ?_ 0 _ rfl; (with_reducible repeat (first | refine b1_8 ?_ _ | refine b3_8 ?_ | refine b2_8 ?_ _)); exact BK114.out) hb); have n4_ := aM_8 (b9_8 (by repeat (first | (with_reducible first | exact HB.out | apply b8_8 | apply b6_8 | apply b7_8 | refine b4_8 ?_ GE110.out | refine b4_8 ?_ GE111.out | refine b4_8 ?_ GE114.out) | exact HB.out)) hb); clear HO0_1 BK110 BK111 BK114 HB; have HO0_1 := n0_; have BK110 := n1_; have BK111 := n2_; have BK114 := n3_; have HB := n4_; clear n0_ n1_ n2_ n3_ n4_; (try clear hb); (try clear hb2); (try clear hk); (try clear hi); have hnb30 := NB110_111.out; have hnc30 := NB111_110.out; obtain ⟨hcz31_0, hcz31_1, hfz31_0, hfz31_1⟩ := cells2_8 BK110.out; obtain ⟨hcz32_0, hcz32_1, hfz32_0, hfz32_1⟩ := cells2_8 BK114.out) | ((with_reducible refine gate_callee (f := 36) rfl ?_); refine goesL_ (some 26) rfl rfl Try.func36 (by kernel_rfl) rfl #[.slice A0_1 l0_1.length c0_1, .agg #[.int .i64 t112, .int .i64 t113]] rfl (by (try simp only [List.map_toArray, List.map_cons, List.map_nil]); first | done | rfl | (simp only [List.length_drop, List.length_take]; rfl)) ?_; (with_reducible refine (slices_Index_2_int_2_int.calls k _ _ l0_1 t112 t113 t117 _ ?side1 ?side2 A18.out).mono ?_); (case side1 => repeat (first | exact (Kd.V_reads' HO0_1.out).2.2 | (with_reducible refine Kd.C_alloc ?_ _) | (with_reducible refine Kd.C_drewN ?_ _) | (with_reducible refine Kd.C_drew ?_))); (case side2 => exact (Kd.V_reads' HO0_1.out).2.1); rintro e w33 ⟨rfl, hb⟩; refine ⟨_, rfl, ?_⟩; have n0_ := aM_8 (v6_8 (by (with_reducible repeat (first | apply v1_8 | apply v2_8 | apply v3_8)); exact HO0_1.out) hb); have n1_ := aM_8 (b5_8 (by exact BK110.out) hb); have n2_ := aM_8 (b5_8 (by exact BK111.out) hb); have n3_ := aM_8 (b5_8 (by exact BK114.out) hb); have n4_ := aM_8 (b9_8 (by repeat (first | (with_reducible first | exact HB.out | apply b8_8 | apply b6_8 | apply b7_8 | refine b4_8 ?_ GE110.out | refine b4_8 ?_ GE111.out | refine b4_8 ?_ GE114.out) | exact HB.out)) hb); clear HO0_1 BK110 BK111 BK114 HB; have HO0_1 := n0_; have BK110 := n1_; have BK111 := n2_; have BK114 := n3_; have HB := n4_; clear n0_ n1_ n2_ n3_ n4_; (try clear hb); (try clear hb2); (try clear hk); (try clear hi); obtain ⟨hcz34_0, hcz34_1, hfz34_0, hfz34_1⟩ := cells2_8 BK110.out))
    have n0_ := aM_8 (v3_8 HO0_1.out)
    have n1_ := aM_8 (b3_8 BK110.out)
    have n2_ := aM_8 (b3_8 BK111.out)
    have n3_ := aM_8 (b3_8 BK114.out)
    have n4_ := aM_8 (b7_8 HB.out)
    clear HO0_1 BK110 BK111 BK114 HB
    have HO0_1 := n0_
    have BK110 := n1_
    have BK111 := n2_
    have BK114 := n3_
    have HB := n4_
    clear n0_ n1_ n2_ n3_ n4_
    refine start_ (n := 8) (S := fun w' => w'.cell? ⟨gb110, 0, none⟩ = some (.int .i64 a0_0) ∧ w'.cell? ⟨gb110, 1, none⟩ = some (.slice A0_1 l0_1.length c0_1) ∧ w'.cell? ⟨gb114, 0, none⟩ = some (.int .i64 t112) ∧ w'.cell? ⟨gb114, 1, none⟩ = some (.int .i64 t113)) (ds := [7]) #[false, false, false, false, false, false, false, false] (by kernel_rfl) rfl rfl ⟨(blk_cell BK110.out 0).trans rfl, (blk_cell BK110.out 1).trans rfl, (blk_cell BK114.out 0).trans rfl, (blk_cell BK114.out 1).trans rfl⟩ (fun hHeld => ?_); refine with_tabW aig_And.tab8 aig_And.bits8 (fun HT_ HW_ => ?_)
    generalize w33.drew = w35 at HO0_1 BK110 BK111 BK114 HB hHeld ⊢
    refine pure_ (i := 0) (N := some 32) (v := ?_) (a' := ?_) #[true, false, false, false, false, false, false, false] rfl rfl (any_of HT_.out (by kernel_rfl)) (fun _ _ _ h => h) (Or.inl ⟨by rfl, ?_⟩) ?_ ?_
    rotate_left
    ·intro w'
     go_simp
     with_reducible rfl
    rotate_left
    ·simp only [Act.put, l1_8, l2_8, l3_8, i64_w, i32_w]
     rfl
    refine take_ (i := 1) (N := some 33) (v := ?_) (a' := ?_) #[true, true, false, false, false, false, false, false] rfl rfl (take_ofW HT_.out HW_.out (by kernel_rfl)) (fun _ _ _ h => h) (Or.inl ⟨by rfl, ?_⟩) hHeld ?_ ?_
    rotate_left
    ·rintro w' ⟨s0, s1, s2, s3⟩
     go_simp
     with_reducible rfl
    rotate_left
    ·simp only [Act.put, l1_8, l2_8, l3_8, i64_w, i32_w]
     rfl
    refine take_ (i := 3) (N := some 35) (v := ?_) (a' := ?_) #[true, true, false, true, false, false, false, false] rfl rfl (take_ofW HT_.out HW_.out (by kernel_rfl)) (fun _ _ _ h => h) (Or.inl ⟨by rfl, ?_⟩) hHeld ?_ ?_
    rotate_left
    ·rintro w' ⟨s0, s1, s2, s3⟩
     go_simp
     with_reducible rfl
    rotate_left
    ·simp only [Act.put, l1_8, l2_8, l3_8, i64_w, i32_w]
     rfl
    refine join_ (σ := Value × Value) 3 #[true, true, true, true, true, false, false, false] (fun s_ => [(34, s_.1), (36, s_.2)]) (fun s_ w' => (w'.cell? ⟨gb110, 0, none⟩ = some (.int .i64 a0_0) ∧ w'.cell? ⟨gb110, 1, none⟩ = some (.slice A0_1 l0_1.length c0_1) ∧ w'.cell? ⟨gb114, 0, none⟩ = some (.int .i64 t112) ∧ w'.cell? ⟨gb114, 1, none⟩ = some (.int .i64 t113)) ∧ (Kd.V k50 50 w' w.heap.size (fun k_ => (P0_1_ k_ ∨ w.heap.size ≤ k_) ∧ some k_ ≠ (s_.1 : Value).ownBlock ∧ some k_ ≠ (s_.2 : Value).ownBlock ∧ k_ ≠ gb110 ∧ k_ ≠ gb111 ∧ k_ ≠ gb114) (.slice A0_1 l0_1.length c0_1) l0_1) ∧ (Kd.R k50 50 w' w.heap.size (fun k_ => (w.heap.size ≤ k_) ∧ some k_ ≠ (s_.2 : Value).ownBlock) s_.1 t118) ∧ (Kd.R k50 50 w' w.heap.size (fun k_ => (w.heap.size ≤ k_) ∧ some k_ ≠ (s_.1 : Value).ownBlock) s_.2 y121) ∧ (w'.heap[gb110]? = some (.cells #[.int .i64 a0_0, .slice A0_1 l0_1.length c0_1] 24 (0, 0))) ∧ (w'.heap[gb111]? = some (.cells #[.int .i64 0, .slice none 0 0] 24 (0, 0))) ∧ (w'.heap[gb114]? = some (.cells #[.int .i64 t112, .int .i64 t113] 53 (0, 0))) ∧ (Below w.heap.size w w')) ?_ ?_
    rotate_left
    ·intro hCont
     refine two_ (i := 2) (j := 4) (Ni := some 34) (Nj := some 36) #[true, true, true, true, false, false, false, false] #[true, true, false, true, true, false, false, false] rfl rfl rfl rfl (two_of HT_.out (by kernel_rfl)) (by decide) (by decide) (fun K hK => ?_) (fun K hK => ?_)
     ·skip
      refine goes_ Try.func37 (by kernel_rfl) rfl #[.slice A0_1 l0_1.length c0_1] (by rfl) rfl rfl (by (try simp only [List.map_toArray, List.map_cons, List.map_nil]); first | done | rfl | (simp only [List.length_drop, List.length_take]; rfl)) ?_
      with_reducible refine (slices_Clone_2_int_2_int.calls _ _ l0_1 t118 _ ?side1 ?side2 A20.out).mono ?_
      (case side1 => repeat (first | exact (Kd.V_reads' HO0_1.out).2.2 | (with_reducible refine Kd.C_alloc ?_ _) | (with_reducible refine Kd.C_drewN ?_ _) | (with_reducible refine Kd.C_drew ?_)))
      (case side2 => exact (Kd.V_reads' HO0_1.out).2.1)
      rintro e w36 ⟨v119, rfl, ho0, hb⟩
      refine ⟨_, rfl, ?_⟩
      have n0_ := aM_8 (Kd.V_elder' (by (with_reducible repeat (first | apply v1_8 | apply v2_8 | apply v3_8)); exact HO0_1.out) (Kd.R_base ho0) hb)
      have n1_ := aM_8 (Kd.R_lower (Kd.R_newM (M := fun k_ => (w.heap.size ≤ k_)) ho0 (b0_8 (by repeat (first | (with_reducible first | exact HB.out | apply b8_8 | apply b6_8 | apply b7_8 | refine b4_8 ?_ GE110.out | refine b4_8 ?_ GE111.out | refine b4_8 ?_ GE114.out) | exact HB.out))) (fun k_ h_ => h_)) (b0_8 (by repeat (first | (with_reducible first | exact HB.out | apply b8_8 | apply b6_8 | apply b7_8 | refine b4_8 ?_ GE110.out | refine b4_8 ?_ GE111.out | refine b4_8 ?_ GE114.out) | exact HB.out))))
      have n2_ := aM_8 (b5_8 (by exact BK110.out) hb)
      have n3_ := aM_8 (b5_8 (by exact BK111.out) hb)
      have n4_ := aM_8 (b5_8 (by exact BK114.out) hb)
      have n5_ := aM_8 (b9_8 (by repeat (first | (with_reducible first | exact HB.out | apply b8_8 | apply b6_8 | apply b7_8 | refine b4_8 ?_ GE110.out | refine b4_8 ?_ GE111.out | refine b4_8 ?_ GE114.out) | exact HB.out)) hb)
      clear HO0_1 BK110 BK111 BK114 HB
      have HO0_1 := n0_
      have HO120 := n1_
      have BK110 := n2_
      have BK111 := n3_
      have BK114 := n4_
      have HB := n5_
      clear n0_ n1_ n2_ n3_ n4_ n5_
      (try clear hb)
      (try clear hb2)
      (try clear hk)
      (try clear hi)
      (try clear ho0)
      refine hK.out _ _ ⟨(blk_cell BK110.out 0).trans rfl, (blk_cell BK110.out 1).trans rfl, (blk_cell BK114.out 0).trans rfl, (blk_cell BK114.out 1).trans rfl⟩ (fun hHeld => ?_)
      clear hK K
      refine norm_ (a' := ?_) ?_ ?_
      rotate_left
      ·show Act.put _ (some 34) _ = _
       simp only [Act.put, l1_8, l2_8, l3_8, i64_w, i32_w]
       rfl
      refine one_ (i := 4) (N := some 36) #[true, true, true, true, true, false, false, false] rfl rfl (one_of HT_.out (by kernel_rfl)) (by decide) (fun K hK => ?_)
      refine Kd.R_lit_step k50 _ 50 ?hg (N := 36) ?hd (xs := ([(⟨t112, t113⟩ : S50)] : List (S50))) (inner := [.int .i64 t112, .int .i64 t113]) (ok := fun _ => True) (okp := fun _ => True) ?hr ?hp (fun _ hk => hk) trivial (Below.refl _ _) (Nat.le_refl _) (by simp) ?_; (case hd => rfl); (case hg => rfl); (case hr => first | (go_simp; done) | (go_simp; rfl)); (case hp => exact (Reps.c2 (show Kd.M k50 _ _ _ (⟨t112, t113⟩ : S50) [.int .i64 t112, .int .i64 t113] from (k50_mkM _ _ _ (⟨t112, t113⟩ : S50) )) (Reps.none _ _)))
      intro v122 w37 ho38 hb hg_ hnew_
      clear hg_ hnew_
      (first | rw [← Ny121.out] at ho38 | (simp only [Int.reduceToNat] at ho38; rw [← Ny121.out] at ho38))
      have n0_ := aM_8 (Kd.V_elder' (by (with_reducible repeat (first | apply v1_8 | apply v2_8 | apply v3_8)); exact HO0_1.out) (Kd.R_base ho38) hb)
      have n1_ := aM_8 (Kd.R_elder' (by (with_reducible repeat (first | apply r1_8 | apply r2_8 | apply r3_8)); exact HO120.out) (Kd.R_base ho38) hb)
      have n2_ := aM_8 (Kd.R_lower (Kd.R_new' (Kd.R_newM (M := fun k_ => (w.heap.size ≤ k_)) ho38 (b0_8 (by repeat (first | (with_reducible first | exact HB.out | apply b8_8 | apply b6_8 | apply b7_8 | refine b4_8 ?_ GE110.out | refine b4_8 ?_ GE111.out | refine b4_8 ?_ GE114.out) | exact HB.out))) (fun k_ h_ => h_)) (Kd.R_lt (by (with_reducible repeat (first | apply r1_8 | apply r2_8 | apply r3_8)); exact HO120.out))) (b0_8 (by repeat (first | (with_reducible first | exact HB.out | apply b8_8 | apply b6_8 | apply b7_8 | refine b4_8 ?_ GE110.out | refine b4_8 ?_ GE111.out | refine b4_8 ?_ GE114.out) | exact HB.out))))
      have n3_ := aM_8 (b5_8 (by exact BK110.out) hb)
      have n4_ := aM_8 (b5_8 (by exact BK111.out) hb)
      have n5_ := aM_8 (b5_8 (by exact BK114.out) hb)
      have n6_ := aM_8 (b9_8 (by repeat (first | (with_reducible first | exact HB.out | apply b8_8 | apply b6_8 | apply b7_8 | refine b4_8 ?_ GE110.out | refine b4_8 ?_ GE111.out | refine b4_8 ?_ GE114.out) | exact HB.out)) hb)
      clear HO0_1 HO120 BK110 BK111 BK114 HB
      have HO0_1 := n0_
      have HO120 := n1_
      have HO123 := n2_
      have BK110 := n3_
      have BK111 := n4_
      have BK114 := n5_
      have HB := n6_
      clear n0_ n1_ n2_ n3_ n4_ n5_ n6_
      clear hb ho38
      refine hK.out _ _ ⟨(blk_cell BK110.out 0).trans rfl, (blk_cell BK110.out 1).trans rfl, (blk_cell BK114.out 0).trans rfl, (blk_cell BK114.out 1).trans rfl⟩ (fun hHeld => ?_)
      clear hK K
      refine norm_ (a' := ?_) ?_ ?_
      rotate_left
      ·show Act.put _ (some 36) _ = _
       simp only [Act.put, l1_8, l2_8, l3_8, i64_w, i32_w]
       rfl
      exact norm_ (by simp only [putAll, Act.put, l1_8, l2_8, l3_8]) (hCont (v119, v122) _ ⟨hHeld, (by (with_reducible repeat (first | apply v1_8 | apply v2_8 | apply v3_8)); exact v4_8 HO0_1.out (fun _ hk => ⟨hk.1.1.1.1.1, ⟨hk.1.2, ⟨hk.2, ⟨hk.1.1.1.1.2, ⟨hk.1.1.1.2, hk.1.1.2⟩⟩⟩⟩⟩)), (by (with_reducible repeat (first | apply r1_8 | apply r2_8 | apply r3_8)); exact Kd.R_mono HO120.out (fun _ hk => ⟨hk.1.1, hk.2⟩)), (by (with_reducible repeat (first | apply r1_8 | apply r2_8 | apply r3_8)); exact Kd.R_mono HO123.out (fun _ hk => ⟨hk.1.1, hk.2⟩)), (by exact BK110.out), (by exact BK111.out), (by exact BK114.out), (by repeat (first | (with_reducible first | exact HB.out | apply b8_8 | apply b6_8 | apply b7_8 | refine b4_8 ?_ GE110.out | refine b4_8 ?_ GE111.out | refine b4_8 ?_ GE114.out) | exact HB.out))⟩)
     ·skip
      refine Kd.R_lit_step k50 _ 50 ?hg (N := 36) ?hd (xs := ([(⟨t112, t113⟩ : S50)] : List (S50))) (inner := [.int .i64 t112, .int .i64 t113]) (ok := fun _ => True) (okp := fun _ => True) ?hr ?hp (fun _ hk => hk) trivial (Below.refl _ _) (Nat.le_refl _) (by simp) ?_; (case hd => rfl); (case hg => rfl); (case hr => first | (go_simp; done) | (go_simp; rfl)); (case hp => exact (Reps.c2 (show Kd.M k50 _ _ _ (⟨t112, t113⟩ : S50) [.int .i64 t112, .int .i64 t113] from (k50_mkM _ _ _ (⟨t112, t113⟩ : S50) )) (Reps.none _ _)))
      intro v122 w36 ho37 hb hg_ hnew_
      clear hg_ hnew_
      (first | rw [← Ny121.out] at ho37 | (simp only [Int.reduceToNat] at ho37; rw [← Ny121.out] at ho37))
      have n0_ := aM_8 (Kd.V_elder' (by (with_reducible repeat (first | apply v1_8 | apply v2_8 | apply v3_8)); exact HO0_1.out) (Kd.R_base ho37) hb)
      have n1_ := aM_8 (Kd.R_lower (Kd.R_newM (M := fun k_ => (w.heap.size ≤ k_)) ho37 (b0_8 (by repeat (first | (with_reducible first | exact HB.out | apply b8_8 | apply b6_8 | apply b7_8 | refine b4_8 ?_ GE110.out | refine b4_8 ?_ GE111.out | refine b4_8 ?_ GE114.out) | exact HB.out))) (fun k_ h_ => h_)) (b0_8 (by repeat (first | (with_reducible first | exact HB.out | apply b8_8 | apply b6_8 | apply b7_8 | refine b4_8 ?_ GE110.out | refine b4_8 ?_ GE111.out | refine b4_8 ?_ GE114.out) | exact HB.out))))
      have n2_ := aM_8 (b5_8 (by exact BK110.out) hb)
      have n3_ := aM_8 (b5_8 (by exact BK111.out) hb)
      have n4_ := aM_8 (b5_8 (by exact BK114.out) hb)
      have n5_ := aM_8 (b9_8 (by repeat (first | (with_reducible first | exact HB.out | apply b8_8 | apply b6_8 | apply b7_8 | refine b4_8 ?_ GE110.out | refine b4_8 ?_ GE111.out | refine b4_8 ?_ GE114.out) | exact HB.out)) hb)
      clear HO0_1 BK110 BK111 BK114 HB
      have HO0_1 := n0_
      have HO123 := n1_
      have BK110 := n2_
      have BK111 := n3_
      have BK114 := n4_
      have HB := n5_
      clear n0_ n1_ n2_ n3_ n4_ n5_
      clear hb ho37
      refine hK.out _ _ ⟨(blk_cell BK110.out 0).trans rfl, (blk_cell BK110.out 1).trans rfl, (blk_cell BK114.out 0).trans rfl, (blk_cell BK114.out 1).trans rfl⟩ (fun hHeld => ?_)
      clear hK K
      refine norm_ (a' := ?_) ?_ ?_
      rotate_left
      ·show Act.put _ (some 36) _ = _
       simp only [Act.put, l1_8, l2_8, l3_8, i64_w, i32_w]
       rfl
      refine one_ (i := 2) (N := some 34) #[true, true, true, true, true, false, false, false] rfl rfl (one_of HT_.out (by kernel_rfl)) (by decide) (fun K hK => ?_)
      refine goes_ Try.func37 (by kernel_rfl) rfl #[.slice A0_1 l0_1.length c0_1] (by rfl) rfl rfl (by (try simp only [List.map_toArray, List.map_cons, List.map_nil]); first | done | rfl | (simp only [List.length_drop, List.length_take]; rfl)) ?_
      with_reducible refine (slices_Clone_2_int_2_int.calls _ _ l0_1 t118 _ ?side1 ?side2 A20.out).mono ?_
      (case side1 => repeat (first | exact (Kd.V_reads' HO0_1.out).2.2 | (with_reducible refine Kd.C_alloc ?_ _) | (with_reducible refine Kd.C_drewN ?_ _) | (with_reducible refine Kd.C_drew ?_)))
      (case side2 => exact (Kd.V_reads' HO0_1.out).2.1)
      rintro e w38 ⟨v119, rfl, ho0, hb⟩
      refine ⟨_, rfl, ?_⟩
      have n0_ := aM_8 (Kd.V_elder' (by (with_reducible repeat (first | apply v1_8 | apply v2_8 | apply v3_8)); exact HO0_1.out) (Kd.R_base ho0) hb)
      have n1_ := aM_8 (Kd.R_elder' (by (with_reducible repeat (first | apply r1_8 | apply r2_8 | apply r3_8)); exact HO123.out) (Kd.R_base ho0) hb)
      have n2_ := aM_8 (Kd.R_lower (Kd.R_new' (Kd.R_newM (M := fun k_ => (w.heap.size ≤ k_)) ho0 (b0_8 (by repeat (first | (with_reducible first | exact HB.out | apply b8_8 | apply b6_8 | apply b7_8 | refine b4_8 ?_ GE110.out | refine b4_8 ?_ GE111.out | refine b4_8 ?_ GE114.out) | exact HB.out))) (fun k_ h_ => h_)) (Kd.R_lt (by (with_reducible repeat (first | apply r1_8 | apply r2_8 | apply r3_8)); exact HO123.out))) (b0_8 (by repeat (first | (with_reducible first | exact HB.out | apply b8_8 | apply b6_8 | apply b7_8 | refine b4_8 ?_ GE110.out | refine b4_8 ?_ GE111.out | refine b4_8 ?_ GE114.out) | exact HB.out))))
      have n3_ := aM_8 (b5_8 (by exact BK110.out) hb)
      have n4_ := aM_8 (b5_8 (by exact BK111.out) hb)
      have n5_ := aM_8 (b5_8 (by exact BK114.out) hb)
      have n6_ := aM_8 (b9_8 (by repeat (first | (with_reducible first | exact HB.out | apply b8_8 | apply b6_8 | apply b7_8 | refine b4_8 ?_ GE110.out | refine b4_8 ?_ GE111.out | refine b4_8 ?_ GE114.out) | exact HB.out)) hb)
      clear HO0_1 HO123 BK110 BK111 BK114 HB
      have HO0_1 := n0_
      have HO123 := n1_
      have HO120 := n2_
      have BK110 := n3_
      have BK111 := n4_
      have BK114 := n5_
      have HB := n6_
      clear n0_ n1_ n2_ n3_ n4_ n5_ n6_
      (try clear hb)
      (try clear hb2)
      (try clear hk)
      (try clear hi)
      (try clear ho0)
      refine hK.out _ _ ⟨(blk_cell BK110.out 0).trans rfl, (blk_cell BK110.out 1).trans rfl, (blk_cell BK114.out 0).trans rfl, (blk_cell BK114.out 1).trans rfl⟩ (fun hHeld => ?_)
      clear hK K
      refine norm_ (a' := ?_) ?_ ?_
      rotate_left
      ·show Act.put _ (some 34) _ = _
       simp only [Act.put, l1_8, l2_8, l3_8, i64_w, i32_w]
       rfl
      exact norm_ (by simp only [putAll, Act.put, l1_8, l2_8, l3_8]) (hCont (v119, v122) _ ⟨hHeld, (by (with_reducible repeat (first | apply v1_8 | apply v2_8 | apply v3_8)); exact v4_8 HO0_1.out (fun _ hk => ⟨hk.1.1.1.1.1, ⟨hk.2, ⟨hk.1.2, ⟨hk.1.1.1.1.2, ⟨hk.1.1.1.2, hk.1.1.2⟩⟩⟩⟩⟩)), (by (with_reducible repeat (first | apply r1_8 | apply r2_8 | apply r3_8)); exact Kd.R_mono HO120.out (fun _ hk => ⟨hk.1.1, hk.2⟩)), (by (with_reducible repeat (first | apply r1_8 | apply r2_8 | apply r3_8)); exact Kd.R_mono HO123.out (fun _ hk => ⟨hk.1.1, hk.2⟩)), (by exact BK110.out), (by exact BK111.out), (by exact BK114.out), (by repeat (first | (with_reducible first | exact HB.out | apply b8_8 | apply b6_8 | apply b7_8 | refine b4_8 ?_ GE110.out | refine b4_8 ?_ GE111.out | refine b4_8 ?_ GE114.out) | exact HB.out))⟩)
    rintro ⟨v119, v122⟩ w39 ⟨hS_, h0_, h1_, h2_, h3_, h4_, h5_, h6_⟩
    have n0_ : Aside0 (Kd.V k50 50 w39 w.heap.size (fun k_ => (P0_1_ k_ ∨ w.heap.size ≤ k_) ∧ some k_ ≠ (v119 : Value).ownBlock ∧ some k_ ≠ (v122 : Value).ownBlock ∧ k_ ≠ gb110 ∧ k_ ≠ gb111 ∧ k_ ≠ gb114) (.slice A0_1 l0_1.length c0_1) l0_1) := ⟨h0_⟩
    have n1_ : Aside0 (Kd.R k50 50 w39 w.heap.size (fun k_ => (w.heap.size ≤ k_) ∧ some k_ ≠ (v122 : Value).ownBlock) v119 t118) := ⟨h1_⟩
    have n2_ : Aside0 (Kd.R k50 50 w39 w.heap.size (fun k_ => (w.heap.size ≤ k_) ∧ some k_ ≠ (v119 : Value).ownBlock) v122 y121) := ⟨h2_⟩
    have n3_ : Aside0 (w39.heap[gb110]? = some (.cells #[.int .i64 a0_0, .slice A0_1 l0_1.length c0_1] 24 (0, 0))) := ⟨h3_⟩
    have n4_ : Aside0 (w39.heap[gb111]? = some (.cells #[.int .i64 0, .slice none 0 0] 24 (0, 0))) := ⟨h4_⟩
    have n5_ : Aside0 (w39.heap[gb114]? = some (.cells #[.int .i64 t112, .int .i64 t113] 53 (0, 0))) := ⟨h5_⟩
    have n6_ : Aside0 (Below w.heap.size w w39) := ⟨h6_⟩
    clear HO0_1 BK110 BK111 BK114 HB
    clear h0_ h1_ h2_ h3_ h4_ h5_ h6_
    have HO0_1 := n0_
    have HO120 := n1_
    have HO123 := n2_
    have BK110 := n3_
    have BK111 := n4_
    have BK114 := n5_
    have HB := n6_
    clear n0_ n1_ n2_ n3_ n4_ n5_ n6_
    have hHeld : w39.cell? ⟨gb110, 0, none⟩ = some (.int .i64 a0_0) ∧ w39.cell? ⟨gb110, 1, none⟩ = some (.slice A0_1 l0_1.length c0_1) ∧ w39.cell? ⟨gb114, 0, none⟩ = some (.int .i64 t112) ∧ w39.cell? ⟨gb114, 1, none⟩ = some (.int .i64 t113) := hS_
    obtain ⟨Ao41, co41, eo41⟩ := Kd.R_slice HO123.out
    (first | subst eo41 | (injection eo41 with f1_ f2_ f3_; have f4_ := f1_.symm; have f5_ := f3_.symm; clear f1_ f2_ f3_; subst f4_; subst f5_))
    refine norm_ (a' := ?_) ?_ ?_
    rotate_left
    ·simp only [putAll, Act.put, l1_8, l2_8, l3_8]
     rfl
    refine one_ (i := 5) (N := some 37) #[true, true, true, true, true, true, false, false] rfl rfl (one_of HT_.out (by kernel_rfl)) (by decide) (fun K hK => ?_)
    refine Kd.R_append_rows_step k50 (w0 := w) w.heap.size (by rfl) (.tmp 34) (.tmp 36) 22 50 (.agg #[(.int .i64 0), (.int .i64 0)]) 16 rfl Try.underlying22 info50 rfl (by decide) (by omega) v119 t118 y121 _ _ _ (fun k_ => (w.heap.size ≤ k_) ∧ some k_ ≠ (.slice Ao41 y121.length co41 : Value).ownBlock) (fun _ => False) rfl rfl ?aO ?aR (fun _ _ h => h) (fun _ h => h.elim) ?aF ?aB ?aS ?aL ?_
    (case aR => repeat (first | exact (Kd.R_reads' HO123.out).2.2 | (with_reducible refine Kd.C_alloc ?_ _) | (with_reducible refine Kd.C_drewN ?_ _) | (with_reducible refine Kd.C_drew ?_)))
    (case aB => exact (by repeat (first | (with_reducible first | exact HB.out | apply b8_8 | apply b6_8 | apply b7_8 | refine b4_8 ?_ GE110.out | refine b4_8 ?_ GE111.out | refine b4_8 ?_ GE114.out) | exact HB.out)))
    (case aF => exact (fun k_ hk => ⟨(Nat.le_trans (b0_8 (by repeat (first | (with_reducible first | exact HB.out | apply b8_8 | apply b6_8 | apply b7_8 | refine b4_8 ?_ GE110.out | refine b4_8 ?_ GE111.out | refine b4_8 ?_ GE114.out) | exact HB.out))) hk), Kd.fresh' (Kd.R_lt (by (with_reducible repeat (first | apply r1_8 | apply r2_8 | apply r3_8)); exact HO123.out)) k_ hk⟩))
    (case aO => exact (by (with_reducible repeat (first | apply r1_8 | apply r2_8 | apply r3_8)); exact HO120.out))
    (case aS => exact (b0_8 (by repeat (first | (with_reducible first | exact HB.out | apply b8_8 | apply b6_8 | apply b7_8 | refine b4_8 ?_ GE110.out | refine b4_8 ?_ GE111.out | refine b4_8 ?_ GE114.out) | exact HB.out))))
    (case aL => have := LMc21.out; omega)
    intro v125 w40 ho hb hg hat
    rw [← Ny124.out] at ho
    have n0_ := aM_8 (Kd.V_afterv (ok := (fun k_ => (P0_1_ k_ ∨ w.heap.size ≤ k_) ∧ some k_ ≠ (.slice Ao41 y121.length co41 : Value).ownBlock ∧ k_ ≠ gb110 ∧ k_ ≠ gb111 ∧ k_ ≠ gb114)) (by (with_reducible repeat (first | apply v1_8 | apply v2_8 | apply v3_8)); exact v4_8 HO0_1.out (fun _ hk => ⟨⟨hk.1, ⟨hk.2.2.1, ⟨hk.2.2.2.1, ⟨hk.2.2.2.2.1, hk.2.2.2.2.2⟩⟩⟩⟩, hk.2.1⟩)) hg hat)
    have n1_ := aM_8 (blk_grown (g := gb110) (o := .cells #[.int .i64 a0_0, .slice A0_1 l0_1.length c0_1] 24 (0, 0)) (by exact BK110.out) hg (Kd.R_ne HO120.out BK110.out (by decide)))
    have n2_ := aM_8 (blk_grown (g := gb111) (o := .cells #[.int .i64 0, .slice none 0 0] 24 (0, 0)) (by exact BK111.out) hg (Kd.R_ne HO120.out BK111.out (by decide)))
    have n3_ := aM_8 (blk_grown (g := gb114) (o := .cells #[.int .i64 t112, .int .i64 t113] 53 (0, 0)) (by exact BK114.out) hg (Kd.R_ne HO120.out BK114.out (by decide)))
    have n4_ := aM_8 (Kd.R_after (ok := (fun k_ => (w.heap.size ≤ k_))) (by (with_reducible repeat (first | apply r1_8 | apply r2_8 | apply r3_8)); exact HO123.out) hg hat)
    have n5_ := aM_8 (hb)
    have n6_ := aM_8 (ho)
    clear HO0_1 BK110 BK111 BK114 HO123 HB HO120
    have HO0_1 := n0_
    have BK110 := n1_
    have BK111 := n2_
    have BK114 := n3_
    have HO123 := n4_
    have HB := n5_
    have HO126 := n6_
    clear n0_ n1_ n2_ n3_ n4_ n5_ n6_
    clear ho hb hg hat
    obtain ⟨Ao42, co42, eo42⟩ := Kd.R_slice HO126.out
    (first | subst eo42 | (injection eo42 with f1_ f2_ f3_; have f4_ := f1_.symm; have f5_ := f3_.symm; clear f1_ f2_ f3_; subst f4_; subst f5_))
    refine hK.out _ _ ⟨(blk_cell BK110.out 0).trans rfl, (blk_cell BK110.out 1).trans rfl, (blk_cell BK114.out 0).trans rfl, (blk_cell BK114.out 1).trans rfl⟩ (fun hHeld => ?_)
    clear hK K
    refine norm_ (a' := ?_) ?_ ?_
    rotate_left
    ·show Act.put _ (some 37) _ = _
     simp only [Act.put, l1_8, l2_8, l3_8, i64_w, i32_w]
     rfl
    refine pure_ (i := 6) (N := some 38) (v := ?_) (a' := ?_) #[true, true, true, true, true, true, true, false] rfl rfl (any_of HT_.out (by kernel_rfl)) (fun _ _ _ h => h) (Or.inl ⟨by rfl, ?_⟩) ?_ ?_
    rotate_left
    ·intro w'
     go_simp
     with_reducible rfl
    rotate_left
    ·simp only [Act.put, l1_8, l2_8, l3_8, i64_w, i32_w]
     rfl
    refine last_ (i := 7) (N := none) #[true, true, true, true, true, true, true, true] rfl rfl (one_of HT_.out (by kernel_rfl)) (by decide) (fun K hK => ?_)
    have hs43 : w40.cell? ⟨gb110, 1, none⟩ = some (.slice A0_1 l0_1.length c0_1) := (blk_cell BK110.out 1).trans rfl
    have hfs43 := blk_frozen BK110.out 1
    have hns43_1 := NB111_110.out
    have hns43_2 := NB114_110.out
    have hms43_1 := NB110_111.out
    have hms43_2 := NB110_114.out
    refine skip_ (w1 := ?_) (by rfl) rfl ?_ ?_
    rotate_left
    ·go_simp
     rfl
    refine hK.out _ _ ?_
    clear hK K
    refine done_ (done_of HT_.out (by kernel_rfl)) ?_
    try go_wp2
    have n0_ : Aside0 (Kd.V k50 50 (w40.setCell ⟨gb110, 1, none⟩ (.slice Ao42 y124.length co42)) w.heap.size (fun k_ => (P0_1_ k_ ∨ w.heap.size ≤ k_) ∧ some k_ ≠ (.slice Ao41 y121.length co41 : Value).ownBlock ∧ some k_ ≠ (.slice Ao42 y124.length co42 : Value).ownBlock ∧ k_ ≠ gb110 ∧ k_ ≠ gb111 ∧ k_ ≠ gb114) (.slice A0_1 l0_1.length c0_1) l0_1) := ⟨by (with_reducible repeat (first | apply v1_8 | apply v2_8 | apply v3_8)); exact v4_8 (v5_8 (p := ⟨gb110, 1, none⟩) (v4_8 HO0_1.out (fun k_ hk => (⟨hk, hk.1.2.2.1⟩ : _ ∧ k_ ≠ gb110))) (fun _ hk => hk.2) (.slice Ao42 y124.length co42)) (fun _ hk => ⟨hk.1.1.1, ⟨hk.1.1.2.1, ⟨hk.1.2, ⟨hk.1.1.2.2.1, ⟨hk.1.1.2.2.2.1, hk.1.1.2.2.2.2⟩⟩⟩⟩⟩)⟩
    have n1_ : Aside0 (Kd.R k50 50 (w40.setCell ⟨gb110, 1, none⟩ (.slice Ao42 y124.length co42)) w.heap.size (fun k_ => (w.heap.size ≤ k_) ∧ some k_ ≠ (.slice Ao42 y124.length co42 : Value).ownBlock) (.slice Ao41 y121.length co41) y121) := ⟨by (with_reducible repeat (first | apply r1_8 | apply r2_8 | apply r3_8)); exact Kd.R_mono (Kd.R_far (p := ⟨gb110, 1, none⟩) (Kd.R_types HO123.out BK110.out (by decide)) (fun _ hk => hk.2) (.slice Ao42 y124.length co42)) (fun _ hk => ⟨hk.1.1, hk.1.2⟩)⟩
    have n2_ : Aside0 (Kd.R k50 50 (w40.setCell ⟨gb110, 1, none⟩ (.slice Ao42 y124.length co42)) w.heap.size (fun k_ => (w.heap.size ≤ k_) ∧ some k_ ≠ (.slice Ao41 y121.length co41 : Value).ownBlock) (.slice Ao42 y124.length co42) y124) := ⟨by (with_reducible repeat (first | apply r1_8 | apply r2_8 | apply r3_8)); exact Kd.R_mono (Kd.R_far (p := ⟨gb110, 1, none⟩) (Kd.R_types HO126.out BK110.out (by decide)) (fun _ hk => hk.2) (.slice Ao42 y124.length co42)) (fun _ hk => ⟨hk.1.1, hk.1.2⟩)⟩
    have n3_ : Aside0 ((w40.setCell ⟨gb110, 1, none⟩ (.slice Ao42 y124.length co42)).heap[gb110]? = some (.cells #[.int .i64 a0_0, .slice Ao42 y124.length co42] 24 (0, 0))) := ⟨by (with_reducible repeat (first | refine b1_8 ?_ _ | refine b3_8 ?_ | refine b2_8 ?_ _)); refine c1_8 (cs := #[.int .i64 a0_0, .slice A0_1 l0_1.length c0_1]) ?_ 1 _ rfl; (with_reducible repeat (first | refine b1_8 ?_ _ | refine b3_8 ?_ | refine b2_8 ?_ _)); exact BK110.out⟩
    have n4_ : Aside0 ((w40.setCell ⟨gb110, 1, none⟩ (.slice Ao42 y124.length co42)).heap[gb111]? = some (.cells #[.int .i64 0, .slice none 0 0] 24 (0, 0))) := ⟨by (with_reducible repeat (first | refine b1_8 ?_ _ | refine b3_8 ?_ | refine b2_8 ?_ _)); refine c2_8 ?_ NB111_110.out _; (with_reducible repeat (first | refine b1_8 ?_ _ | refine b3_8 ?_ | refine b2_8 ?_ _)); exact BK111.out⟩
    have n5_ : Aside0 ((w40.setCell ⟨gb110, 1, none⟩ (.slice Ao42 y124.length co42)).heap[gb114]? = some (.cells #[.int .i64 t112, .int .i64 t113] 53 (0, 0))) := ⟨by (with_reducible repeat (first | refine b1_8 ?_ _ | refine b3_8 ?_ | refine b2_8 ?_ _)); refine c2_8 ?_ NB114_110.out _; (with_reducible repeat (first | refine b1_8 ?_ _ | refine b3_8 ?_ | refine b2_8 ?_ _)); exact BK114.out⟩
    have n6_ : Aside0 (Below w.heap.size w (w40.setCell ⟨gb110, 1, none⟩ (.slice Ao42 y124.length co42))) := ⟨by repeat (first | (with_reducible first | exact HB.out | apply b8_8 | apply b6_8 | apply b7_8 | refine b4_8 ?_ GE110.out | refine b4_8 ?_ GE111.out | refine b4_8 ?_ GE114.out) | exact HB.out)⟩
    (try clear HO0_1)
    (try clear HO123)
    (try clear HO126)
    (try clear BK110)
    (try clear BK111)
    (try clear BK114)
    (try clear HB)
    generalize (w40.setCell ⟨gb110, 1, none⟩ (.slice Ao42 y124.length co42)) = w44 at n0_ n1_ n2_ n3_ n4_ n5_ n6_ ⊢
    have HO0_1 := n0_
    have HO123 := n1_
    have HO126 := n2_
    have BK110 := n3_
    have BK111 := n4_
    have BK114 := n5_
    have HB := n6_
    clear n0_ n1_ n2_ n3_ n4_ n5_ n6_
    have n0_ := aM_8 (v3_8 HO0_1.out)
    have n1_ := aM_8 (r3_8 HO123.out)
    have n2_ := aM_8 (r3_8 HO126.out)
    have n3_ := aM_8 (b3_8 BK110.out)
    have n4_ := aM_8 (b3_8 BK111.out)
    have n5_ := aM_8 (b3_8 BK114.out)
    have n6_ := aM_8 (b7_8 HB.out)
    clear HO0_1 HO123 HO126 BK110 BK111 BK114 HB
    have HO0_1 := n0_
    have HO123 := n1_
    have HO126 := n2_
    have BK110 := n3_
    have BK111 := n4_
    have BK114 := n5_
    have HB := n6_
    clear n0_ n1_ n2_ n3_ n4_ n5_ n6_
    refine start_ (n := 9) (S := fun w' => w'.cell? ⟨gb110, 0, none⟩ = some (.int .i64 a0_0) ∧ w'.cell? ⟨gb110, 1, none⟩ = some (.slice Ao42 y124.length co42)) (ds := []) #[false, false, false, false, false, false, false, false, false] (by kernel_rfl) rfl rfl ⟨(blk_cell BK110.out 0).trans rfl, (blk_cell BK110.out 1).trans rfl⟩ (fun hHeld => ?_); refine with_tabW aig_And.tab9 aig_And.bits9 (fun HT_ HW_ => ?_)
    generalize w44.drew = w45 at HO0_1 HO123 HO126 BK110 BK111 BK114 HB hHeld ⊢
    refine pure_ (i := 1) (N := some 40) (v := ?_) (a' := ?_) #[false, true, false, false, false, false, false, false, false] rfl rfl (any_of HT_.out (by kernel_rfl)) (fun _ _ _ h => h) (Or.inl ⟨by rfl, ?_⟩) ?_ ?_
    rotate_left
    ·intro w'
     go_simp
     with_reducible rfl
    rotate_left
    ·simp only [Act.put, l1_8, l2_8, l3_8, i64_w, i32_w]
     rfl
    refine pure_ (i := 4) (N := some 43) (v := ?_) (a' := ?_) #[false, true, false, false, true, false, false, false, false] rfl rfl (any_of HT_.out (by kernel_rfl)) (fun _ _ _ h => h) (Or.inl ⟨by rfl, ?_⟩) ?_ ?_
    rotate_left
    ·intro w'
     go_simp
     with_reducible rfl
    rotate_left
    ·simp only [Act.put, l1_8, l2_8, l3_8, i64_w, i32_w]
     rfl
    refine take_ (i := 0) (N := some 39) (v := ?_) (a' := ?_) #[true, true, false, false, true, false, false, false, false] rfl rfl (take_ofW HT_.out HW_.out (by kernel_rfl)) (fun _ _ _ h => h) (Or.inl ⟨by rfl, ?_⟩) hHeld ?_ ?_
    rotate_left
    ·rintro w' ⟨s0, s1⟩
     go_simp
     with_reducible rfl
    rotate_left
    ·simp only [Act.put, l1_8, l2_8, l3_8, i64_w, i32_w]
     rfl
    refine take_ (i := 2) (N := some 41) (v := ?_) (a' := ?_) #[true, true, true, false, true, false, false, false, false] rfl rfl (take_ofW HT_.out HW_.out (by kernel_rfl)) (fun _ _ _ h => h) (Or.inl ⟨by rfl, ?_⟩) hHeld ?_ ?_
    rotate_left
    ·rintro w' ⟨s0, s1⟩
     go_simp
     with_reducible rfl
    rotate_left
    ·simp only [Act.put, l1_8, l2_8, l3_8, i64_w, i32_w]
     rfl
    refine pure_ (i := 3) (N := some 42) (v := ?_) (a' := ?_) #[true, true, true, true, true, false, false, false, false] rfl rfl (any_of HT_.out (by kernel_rfl)) (fun _ _ _ h => h) (Or.inl ⟨by rfl, ?_⟩) ?_ ?_
    rotate_left
    ·intro w'
     go_simp
     with_reducible rfl
    rotate_left
    ·simp only [Act.put, l1_8, l2_8, l3_8, i64_w, i32_w]
     rfl
    refine pure_ (i := 5) (N := some 44) (v := ?_) (a' := ?_) #[true, true, true, true, true, true, false, false, false] rfl rfl (any_of HT_.out (by kernel_rfl)) (fun _ _ _ h => h) (Or.inl ⟨by rfl, ?_⟩) ?_ ?_
    rotate_left
    ·intro w'
     go_simp
     with_reducible rfl
    rotate_left
    ·simp only [Act.put, l1_8, l2_8, l3_8, i64_w, i32_w]
     rfl
    refine pure_ (i := 6) (N := some 45) (v := ?_) (a' := ?_) #[true, true, true, true, true, true, true, false, false] rfl rfl (any_of HT_.out (by kernel_rfl)) (fun _ _ _ h => h) (Or.inl ⟨by rfl, ?_⟩) ?_ ?_
    rotate_left
    ·intro w'
     go_simp
     with_reducible rfl
    rotate_left
    ·simp only [Act.put, l1_8, l2_8, l3_8, i64_w, i32_w]
     rfl
    refine one_ (i := 7) (N := none) #[true, true, true, true, true, true, true, true, false] rfl rfl (one_of HT_.out (by kernel_rfl)) (by decide) (fun K hK => ?_)
    have hs46 : w45.cell? ⟨gb111, 0, none⟩ = some (.int .i64 0) := (blk_cell BK111.out 0).trans rfl
    have hfs46 := blk_frozen BK111.out 0
    have hns46_0 := NB110_111.out
    have hns46_2 := NB114_111.out
    have hms46_0 := NB111_110.out
    have hms46_2 := NB111_114.out
    have hs47 : w45.cell? ⟨gb111, 1, none⟩ = some (.slice none 0 0) := (blk_cell BK111.out 1).trans rfl
    have hfs47 := blk_frozen BK111.out 1
    have hns47_0 := NB110_111.out
    have hns47_2 := NB114_111.out
    have hms47_0 := NB111_110.out
    have hms47_2 := NB111_114.out
    refine skip_ (w1 := ?_) (by rfl) rfl ?_ ?_
    rotate_left
    ·go_simp
     rfl
    refine hK.out _ _ ⟨((cell_far (p := ⟨gb111, _, none⟩) NB110_111.out _).trans (((cell_far (p := ⟨gb111, _, none⟩) NB110_111.out _).trans (hHeld.1)))), ((cell_far (p := ⟨gb111, _, none⟩) NB110_111.out _).trans (((cell_far (p := ⟨gb111, _, none⟩) NB110_111.out _).trans (hHeld.2))))⟩ (fun hHeld => ?_)
    clear hK K
    refine pure_ (i := 8) (N := some 7) (v := ?_) (a' := ?_) #[true, true, true, true, true, true, true, true, true] rfl rfl (any_of HT_.out (by kernel_rfl)) (fun _ _ _ h => h) (Or.inl ⟨by rfl, ?_⟩) ?_ ?_
    rotate_left
    ·intro w'
     go_simp
     with_reducible rfl
    rotate_left
    ·simp only [Act.put, l1_8, l2_8, l3_8, i64_w, i32_w]
     rfl
    refine done_ (done_of HT_.out (by kernel_rfl)) ?_
    try go_wp2
    refine bodyPost_ret (results_ct rfl _ _ gb111 24 #[.int .i64 a0_0, .slice Ao42 y124.length co42] (0, 0) _ rfl (by (with_reducible repeat (first | refine b1_8 ?_ _ | refine b3_8 ?_ | refine b2_8 ?_ _)); refine c1_8 (cs := #[.int .i64 a0_0, .slice none 0 0]) ?_ 1 _ rfl; (with_reducible repeat (first | refine b1_8 ?_ _ | refine b3_8 ?_ | refine b2_8 ?_ _)); refine c1_8 (cs := #[.int .i64 0, .slice none 0 0]) ?_ 0 _ rfl; (with_reducible repeat (first | refine b1_8 ?_ _ | refine b3_8 ?_ | refine b2_8 ?_ _)); exact BK111.out) Try.underlying24 rfl (by kernel_rfl)) rfl ?_
    exact ⟨_, by first | rfl | (simp [errW_none, errW_some] <;> rfl) | (simp [*, errW_none, errW_some] <;> rfl), v4_8 (Kd.R_V (by (with_reducible repeat (first | apply r1_8 | apply r2_8 | apply r3_8)); exact Kd.R_mono (Kd.R_far (p := ⟨gb111, 1, none⟩) (Kd.R_far (p := ⟨gb111, 0, none⟩) (Kd.R_types HO126.out BK111.out (by decide)) (fun _ hk => hk.2) (.int .i64 a0_0)) (fun _ hk => hk.2) (.slice Ao42 y124.length co42)) (fun _ hk => hk.1.1))) (fun k_ hk => by first | exact ⟨(.inr (hk.1)), hk.2⟩ | exact (.inr (hk))), by repeat (first | (with_reducible first | exact HB.out | apply b8_8 | apply b6_8 | apply b7_8 | refine b4_8 ?_ GE110.out | refine b4_8 ?_ GE111.out | refine b4_8 ?_ GE114.out) | exact HB.out)⟩
   ·rw [if_neg c21] at H
    exact absurd H (by simp)
  ·rw [if_neg c19] at H
   have c19b0 : decide (t117 < 0) = false := decide_eq_false c19
   clear c19
   simp only [Option.some.injEq, Prod.mk.injEq] at H
   obtain ⟨rfl, rfl, rfl⟩ := H
   go_enter Try.func16, Try.ntmps16
   try go_wp2_with (first | ((with_reducible refine gate_dst (N := 3) rfl ?_); refine box_event ?hg (N := 3) ?hd (cs := #[.int .i64 a0_0, .slice A0_1 l0_1.length c0_1]) (t := 24) ?hr ?_; (case hd => rfl); (case hg => rfl); (case hr => first | (go_simp; done) | (go_simp; rfl)); intro gb110 hg w48 hbox hb; have n0_ := aM_8 (v6_8 (Kd.V_elderB (by (with_reducible repeat (first | apply v1_8 | apply v2_8 | apply v3_8)); exact HO0_1.out) gb110 (Nat.le_of_eq hg.symm)) hb); have n1_ := aM_8 (b9_8 (by repeat (first | (with_reducible first | exact HB.out | apply b8_8 | apply b6_8 | apply b7_8) | exact HB.out)) hb); have n2_ := aM_8 (hbox); have n3_ := aM_8 ((by rw [hg]; exact (b0_8 (by repeat (first | (with_reducible first | exact HB.out | apply b8_8 | apply b6_8 | apply b7_8) | exact HB.out))) : w.heap.size ≤ gb110)); have n4_ := aM_8 ((by rw [hg]; exact (b0_8 (by repeat (first | (with_reducible first | exact HB.out | apply b8_8 | apply b6_8 | apply b7_8) | exact HB.out))) : w.heap.size ≤ gb110)); clear HO0_1 HB; have HO0_1 := n0_; have HB := n1_; have BK110 := n2_; have GW110 := n3_; have GE110 := n4_; clear n0_ n1_ n2_ n3_ n4_; clear hb hbox hg) | ((with_reducible refine gate_dst (N := 6) rfl ?_); refine box_event ?hg (N := 6) ?hd (cs := #[.int .i64 0, .slice none 0 0]) (t := 24) ?hr ?_; (case hd => rfl); (case hg => rfl); (case hr => first | (go_simp; done) | (go_simp; rfl)); intro gb111 hg w49 hbox hb; have n0_ := aM_8 (v6_8 (Kd.V_elderB (by (with_reducible repeat (first | apply v1_8 | apply v2_8 | apply v3_8)); exact HO0_1.out) gb111 (Nat.le_of_eq hg.symm)) hb); have n1_ := aM_8 (b5_8 (by exact BK110.out) hb); have n2_ := aM_8 (b9_8 (by repeat (first | (with_reducible first | exact HB.out | apply b8_8 | apply b6_8 | apply b7_8 | refine b4_8 ?_ GE110.out) | exact HB.out)) hb); have n3_ := aM_8 (hbox); have n4_ := aM_8 ((by rw [hg]; exact (b0_8 (by repeat (first | (with_reducible first | exact HB.out | apply b8_8 | apply b6_8 | apply b7_8 | refine b4_8 ?_ GE110.out) | exact HB.out))) : w.heap.size ≤ gb111)); have n5_ := aM_8 ((by rw [hg]; exact (b0_8 (by repeat (first | (with_reducible first | exact HB.out | apply b8_8 | apply b6_8 | apply b7_8 | refine b4_8 ?_ GE110.out) | exact HB.out))) : w.heap.size ≤ gb111)); have n6_ := aM_8 ((by rw [hg]; exact Nat.ne_of_lt (blk_lt (by exact BK110.out)) : gb110 ≠ gb111)); have n7_ := aM_8 ((by rw [hg]; exact Nat.ne_of_gt (blk_lt (by exact BK110.out)) : gb111 ≠ gb110)); clear HO0_1 BK110 HB; have HO0_1 := n0_; have BK110 := n1_; have HB := n2_; have BK111 := n3_; have GW111 := n4_; have GE111 := n5_; have NB110_111 := n6_; have NB111_110 := n7_; clear n0_ n1_ n2_ n3_ n4_ n5_ n6_ n7_; clear hb hbox hg) | ((with_reducible refine gate_callee (f := 33) rfl ?_); refine goesL_ (some 14) rfl rfl Try.func33 (by kernel_rfl) rfl #[.int .i64 a1, .int .i64 a2] rfl (by (try simp only [List.map_toArray, List.map_cons, List.map_nil]); first | done | rfl | (simp only [List.length_drop, List.length_take]; rfl)) ?_; (with_reducible refine (aig_of.calls a1 a2 t112 t113 _ A4.out).mono ?_); rintro e w50 ⟨rfl, hb⟩; refine ⟨_, rfl, ?_⟩; have n0_ := aM_8 (v6_8 (by (with_reducible repeat (first | apply v1_8 | apply v2_8 | apply v3_8)); exact HO0_1.out) hb); have n1_ := aM_8 (b5_8 (by exact BK110.out) hb); have n2_ := aM_8 (b5_8 (by exact BK111.out) hb); have n3_ := aM_8 (b9_8 (by repeat (first | (with_reducible first | exact HB.out | apply b8_8 | apply b6_8 | apply b7_8 | refine b4_8 ?_ GE110.out | refine b4_8 ?_ GE111.out) | exact HB.out)) hb); clear HO0_1 BK110 BK111 HB; have HO0_1 := n0_; have BK110 := n1_; have BK111 := n2_; have HB := n3_; clear n0_ n1_ n2_ n3_; (try clear hb); (try clear hb2); (try clear hk); (try clear hi)) | ((with_reducible refine gate_dst (N := 8) rfl ?_); refine box_event ?hg (N := 8) ?hd (cs := #[.int .i64 0, .int .i64 0]) (t := 53) ?hr ?_; (case hd => rfl); (case hg => rfl); (case hr => first | (go_simp; done) | (go_simp; rfl)); intro gb114 hg w51 hbox hb; have n0_ := aM_8 (v6_8 (Kd.V_elderB (by (with_reducible repeat (first | apply v1_8 | apply v2_8 | apply v3_8)); exact HO0_1.out) gb114 (Nat.le_of_eq hg.symm)) hb); have n1_ := aM_8 (b5_8 (by exact BK110.out) hb); have n2_ := aM_8 (b5_8 (by exact BK111.out) hb); have n3_ := aM_8 (b9_8 (by repeat (first | (with_reducible first | exact HB.out | apply b8_8 | apply b6_8 | apply b7_8 | refine b4_8 ?_ GE110.out | refine b4_8 ?_ GE111.out) | exact HB.out)) hb); have n4_ := aM_8 (hbox); have n5_ := aM_8 ((by rw [hg]; exact (b0_8 (by repeat (first | (with_reducible first | exact HB.out | apply b8_8 | apply b6_8 | apply b7_8 | refine b4_8 ?_ GE110.out | refine b4_8 ?_ GE111.out) | exact HB.out))) : w.heap.size ≤ gb114)); have n6_ := aM_8 ((by rw [hg]; exact (b0_8 (by repeat (first | (with_reducible first | exact HB.out | apply b8_8 | apply b6_8 | apply b7_8 | refine b4_8 ?_ GE110.out | refine b4_8 ?_ GE111.out) | exact HB.out))) : w.heap.size ≤ gb114)); have n7_ := aM_8 ((by rw [hg]; exact Nat.ne_of_lt (blk_lt (by exact BK110.out)) : gb110 ≠ gb114)); have n8_ := aM_8 ((by rw [hg]; exact Nat.ne_of_gt (blk_lt (by exact BK110.out)) : gb114 ≠ gb110)); have n9_ := aM_8 ((by rw [hg]; exact Nat.ne_of_lt (blk_lt (by exact BK111.out)) : gb111 ≠ gb114)); have n10_ := aM_8 ((by rw [hg]; exact Nat.ne_of_gt (blk_lt (by exact BK111.out)) : gb114 ≠ gb111)); clear HO0_1 BK110 BK111 HB; have HO0_1 := n0_; have BK110 := n1_; have BK111 := n2_; have HB := n3_; have BK114 := n4_; have GW114 := n5_; have GE114 := n6_; have NB110_114 := n7_; have NB114_110 := n8_; have NB111_114 := n9_; have NB114_111 := n10_; clear n0_ n1_ n2_ n3_ n4_ n5_ n6_ n7_ n8_ n9_ n10_; clear hb hbox hg; have hnb52 := NB114_110.out; have hnc52 := NB110_114.out; have hnb53 := NB114_111.out; have hnc53 := NB111_114.out; obtain ⟨hcz54_0, hcz54_1, hfz54_0, hfz54_1⟩ := cells2_8 BK114.out) | ((with_reducible refine gate_callee (f := 34) rfl ?_); refine goesL_ (some 17) rfl rfl Try.func34 (by kernel_rfl) rfl #[.agg #[.int .i64 t112, .int .i64 t113]] rfl (by (try simp only [List.map_toArray, List.map_cons, List.map_nil]); first | done | rfl | (simp only [List.length_drop, List.length_take]; rfl)) ?_; (with_reducible refine (aig_plain.calls t112 t113 t115 false _ A5.out).mono ?_); rintro e w55 ⟨rfl, hb⟩; refine ⟨_, rfl, ?_⟩; have n0_ := aM_8 (v6_8 (by (with_reducible repeat (first | apply v1_8 | apply v2_8 | apply v3_8)); exact (v4_8 (v5_8 (p := ⟨gb114, 1, none⟩) (v5_8 (p := ⟨gb114, 0, none⟩) (v4_8 HO0_1.out (fun k_ hk => (⟨hk, hk.2⟩ : _ ∧ k_ ≠ gb114))) (fun _ hk => hk.2) (.int .i64 t112)) (fun _ hk => hk.2) (.int .i64 t113)) (fun _ h_ => h_.1))) hb); have n1_ := aM_8 (b5_8 (g := gb110) (o := .cells #[.int .i64 a0_0, .slice A0_1 l0_1.length c0_1] 24 (0, 0)) (by (with_reducible repeat (first | refine b1_8 ?_ _ | refine b3_8 ?_ | refine b2_8 ?_ _)); refine c2_8 ?_ NB110_114.out _; (with_reducible repeat (first | refine b1_8 ?_ _ | refine b3_8 ?_ | refine b2_8 ?_ _)); refine c2_8 ?_ NB110_114.out _; (with_reducible repeat (first | refine b1_8 ?_ _ | refine b3_8 ?_ | refine b2_8 ?_ _)); exact BK110.out) hb); have n2_ := aM_8 (b5_8 (g := gb111) (o := .cells #[.int .i64 0, .slice none 0 0] 24 (0, 0)) (by (with_reducible repeat (first | refine b1_8 ?_ _ | refine b3_8 ?_ | refine b2_8 ?_ _)); refine c2_8 ?_ NB111_114.out _; (with_reducible repeat (first | refine b1_8 ?_ _ | refine b3_8 ?_ | refine b2_8 ?_ _)); refine c2_8 ?_ NB111_114.out _; (with_reducible repeat (first | refine b1_8 ?_ _ | refine b3_8 ?_ | refine b2_8 ?_ _)); exact BK111.out) hb); have n3_ := aM_8 (b5_8 (g := gb114) (o := .cells #[.int .i64 t112, .int .i64 t113] 53 (0, 0)) (by (with_reducible repeat (first | refine b1_8 ?_ _ | refine b3_8 ?_ | refine b2_8 ?_ _)); refine c1_8 (cs := #[.int .i64 t112, .int .i64 0]) ?_ 1 _ rfl; (with_reducible repeat (first | refine b1_8 ?_ _ | refine b3_8 ?_ | refine b2_8 ?_ _)); refine c1_8 (cs := #[.int .i64 0, .int .i64 0]) ?_ 0 _ rfl; (with_reducible repeat (first | refine b1_8 ?_ _ | refine b3_8 ?_ | refine b2_8 ?_ _)); exact BK114.out) hb); have n4_ := aM_8 (b9_8 (by repeat (first | (with_reducible first | exact HB.out | apply b8_8 | apply b6_8 | apply b7_8 | refine b4_8 ?_ GE110.out | refine b4_8 ?_ GE111.out | refine b4_8 ?_ GE114.out) | exact HB.out)) hb); clear HO0_1 BK110 BK111 BK114 HB; have HO0_1 := n0_; have BK110 := n1_; have BK111 := n2_; have BK114 := n3_; have HB := n4_; clear n0_ n1_ n2_ n3_ n4_; (try clear hb); (try clear hb2); (try clear hk); (try clear hi); have hnb56 := NB110_111.out; have hnc56 := NB111_110.out; obtain ⟨hcz57_0, hcz57_1, hfz57_0, hfz57_1⟩ := cells2_8 BK110.out; obtain ⟨hcz58_0, hcz58_1, hfz58_0, hfz58_1⟩ := cells2_8 BK114.out) | ((with_reducible refine gate_callee (f := 36) rfl ?_); refine goesL_ (some 26) rfl rfl Try.func36 (by kernel_rfl) rfl #[.slice A0_1 l0_1.length c0_1, .agg #[.int .i64 t112, .int .i64 t113]] rfl (by (try simp only [List.map_toArray, List.map_cons, List.map_nil]); first | done | rfl | (simp only [List.length_drop, List.length_take]; rfl)) ?_; (with_reducible refine (slices_Index_2_int_2_int.calls k _ _ l0_1 t112 t113 t117 _ ?side1 ?side2 A18.out).mono ?_); (case side1 => repeat (first | exact (Kd.V_reads' HO0_1.out).2.2 | (with_reducible refine Kd.C_alloc ?_ _) | (with_reducible refine Kd.C_drewN ?_ _) | (with_reducible refine Kd.C_drew ?_))); (case side2 => exact (Kd.V_reads' HO0_1.out).2.1); rintro e w59 ⟨rfl, hb⟩; refine ⟨_, rfl, ?_⟩; have n0_ := aM_8 (v6_8 (by (with_reducible repeat (first | apply v1_8 | apply v2_8 | apply v3_8)); exact HO0_1.out) hb); have n1_ := aM_8 (b5_8 (by exact BK110.out) hb); have n2_ := aM_8 (b5_8 (by exact BK111.out) hb); have n3_ := aM_8 (b5_8 (by exact BK114.out) hb); have n4_ := aM_8 (b9_8 (by repeat (first | (with_reducible first | exact HB.out | apply b8_8 | apply b6_8 | apply b7_8 | refine b4_8 ?_ GE110.out | refine b4_8 ?_ GE111.out | refine b4_8 ?_ GE114.out) | exact HB.out)) hb); clear HO0_1 BK110 BK111 BK114 HB; have HO0_1 := n0_; have BK110 := n1_; have BK111 := n2_; have BK114 := n3_; have HB := n4_; clear n0_ n1_ n2_ n3_ n4_; (try clear hb); (try clear hb2); (try clear hk); (try clear hi)))
   have n0_ := aM_8 (v3_8 HO0_1.out)
   have n1_ := aM_8 (b3_8 BK110.out)
   have n2_ := aM_8 (b3_8 BK111.out)
   have n3_ := aM_8 (b3_8 BK114.out)
   have n4_ := aM_8 (b7_8 HB.out)
   clear HO0_1 BK110 BK111 BK114 HB
   have HO0_1 := n0_
   have BK110 := n1_
   have BK111 := n2_
   have BK114 := n3_
   have HB := n4_
   clear n0_ n1_ n2_ n3_ n4_
   refine start_ (n := 9) (S := fun w' => w'.cell? ⟨gb110, 0, none⟩ = some (.int .i64 a0_0) ∧ w'.cell? ⟨gb110, 1, none⟩ = some (.slice A0_1 l0_1.length c0_1)) (ds := []) #[false, false, false, false, false, false, false, false, false] (by kernel_rfl) rfl rfl ⟨(blk_cell BK110.out 0).trans rfl, (blk_cell BK110.out 1).trans rfl⟩ (fun hHeld => ?_); refine with_tabW aig_And.tab9 aig_And.bits9 (fun HT_ HW_ => ?_)
   generalize w59.drew = w60 at HO0_1 BK110 BK111 BK114 HB hHeld ⊢
   refine pure_ (i := 1) (N := some 40) (v := ?_) (a' := ?_) #[false, true, false, false, false, false, false, false, false] rfl rfl (any_of HT_.out (by kernel_rfl)) (fun _ _ _ h => h) (Or.inl ⟨by rfl, ?_⟩) ?_ ?_
   rotate_left
   ·intro w'
    go_simp
    with_reducible rfl
   rotate_left
   ·simp only [Act.put, l1_8, l2_8, l3_8, i64_w, i32_w]
    rfl
   refine pure_ (i := 4) (N := some 43) (v := ?_) (a' := ?_) #[false, true, false, false, true, false, false, false, false] rfl rfl (any_of HT_.out (by kernel_rfl)) (fun _ _ _ h => h) (Or.inl ⟨by rfl, ?_⟩) ?_ ?_
   rotate_left
   ·intro w'
    go_simp
    with_reducible rfl
   rotate_left
   ·simp only [Act.put, l1_8, l2_8, l3_8, i64_w, i32_w]
    rfl
   refine take_ (i := 0) (N := some 39) (v := ?_) (a' := ?_) #[true, true, false, false, true, false, false, false, false] rfl rfl (take_ofW HT_.out HW_.out (by kernel_rfl)) (fun _ _ _ h => h) (Or.inl ⟨by rfl, ?_⟩) hHeld ?_ ?_
   rotate_left
   ·rintro w' ⟨s0, s1⟩
    go_simp
    with_reducible rfl
   rotate_left
   ·simp only [Act.put, l1_8, l2_8, l3_8, i64_w, i32_w]
    rfl
   refine take_ (i := 2) (N := some 41) (v := ?_) (a' := ?_) #[true, true, true, false, true, false, false, false, false] rfl rfl (take_ofW HT_.out HW_.out (by kernel_rfl)) (fun _ _ _ h => h) (Or.inl ⟨by rfl, ?_⟩) hHeld ?_ ?_
   rotate_left
   ·rintro w' ⟨s0, s1⟩
    go_simp
    with_reducible rfl
   rotate_left
   ·simp only [Act.put, l1_8, l2_8, l3_8, i64_w, i32_w]
    rfl
   refine pure_ (i := 3) (N := some 42) (v := ?_) (a' := ?_) #[true, true, true, true, true, false, false, false, false] rfl rfl (any_of HT_.out (by kernel_rfl)) (fun _ _ _ h => h) (Or.inl ⟨by rfl, ?_⟩) ?_ ?_
   rotate_left
   ·intro w'
    go_simp
    with_reducible rfl
   rotate_left
   ·simp only [Act.put, l1_8, l2_8, l3_8, i64_w, i32_w]
    rfl
   refine pure_ (i := 5) (N := some 44) (v := ?_) (a' := ?_) #[true, true, true, true, true, true, false, false, false] rfl rfl (any_of HT_.out (by kernel_rfl)) (fun _ _ _ h => h) (Or.inl ⟨by rfl, ?_⟩) ?_ ?_
   rotate_left
   ·intro w'
    go_simp
    with_reducible rfl
   rotate_left
   ·simp only [Act.put, l1_8, l2_8, l3_8, i64_w, i32_w]
    rfl
   refine pure_ (i := 6) (N := some 45) (v := ?_) (a' := ?_) #[true, true, true, true, true, true, true, false, false] rfl rfl (any_of HT_.out (by kernel_rfl)) (fun _ _ _ h => h) (Or.inl ⟨by rfl, ?_⟩) ?_ ?_
   rotate_left
   ·intro w'
    go_simp
    with_reducible rfl
   rotate_left
   ·simp only [Act.put, l1_8, l2_8, l3_8, i64_w, i32_w]
    rfl
   refine one_ (i := 7) (N := none) #[true, true, true, true, true, true, true, true, false] rfl rfl (one_of HT_.out (by kernel_rfl)) (by decide) (fun K hK => ?_)
   have hs61 : w60.cell? ⟨gb111, 0, none⟩ = some (.int .i64 0) := (blk_cell BK111.out 0).trans rfl
   have hfs61 := blk_frozen BK111.out 0
   have hns61_0 := NB110_111.out
   have hns61_2 := NB114_111.out
   have hms61_0 := NB111_110.out
   have hms61_2 := NB111_114.out
   have hs62 : w60.cell? ⟨gb111, 1, none⟩ = some (.slice none 0 0) := (blk_cell BK111.out 1).trans rfl
   have hfs62 := blk_frozen BK111.out 1
   have hns62_0 := NB110_111.out
   have hns62_2 := NB114_111.out
   have hms62_0 := NB111_110.out
   have hms62_2 := NB111_114.out
   refine skip_ (w1 := ?_) (by rfl) rfl ?_ ?_
   rotate_left
   ·go_simp
    rfl
   refine hK.out _ _ ⟨((cell_far (p := ⟨gb111, _, none⟩) NB110_111.out _).trans (((cell_far (p := ⟨gb111, _, none⟩) NB110_111.out _).trans (hHeld.1)))), ((cell_far (p := ⟨gb111, _, none⟩) NB110_111.out _).trans (((cell_far (p := ⟨gb111, _, none⟩) NB110_111.out _).trans (hHeld.2))))⟩ (fun hHeld => ?_)
   clear hK K
   refine pure_ (i := 8) (N := some 7) (v := ?_) (a' := ?_) #[true, true, true, true, true, true, true, true, true] rfl rfl (any_of HT_.out (by kernel_rfl)) (fun _ _ _ h => h) (Or.inl ⟨by rfl, ?_⟩) ?_ ?_
   rotate_left
   ·intro w'
    go_simp
    with_reducible rfl
   rotate_left
   ·simp only [Act.put, l1_8, l2_8, l3_8, i64_w, i32_w]
    rfl
   refine done_ (done_of HT_.out (by kernel_rfl)) ?_
   try go_wp2
   refine bodyPost_ret (results_ct rfl _ _ gb111 24 #[.int .i64 a0_0, .slice A0_1 l0_1.length c0_1] (0, 0) _ rfl (by (with_reducible repeat (first | refine b1_8 ?_ _ | refine b3_8 ?_ | refine b2_8 ?_ _)); refine c1_8 (cs := #[.int .i64 a0_0, .slice none 0 0]) ?_ 1 _ rfl; (with_reducible repeat (first | refine b1_8 ?_ _ | refine b3_8 ?_ | refine b2_8 ?_ _)); refine c1_8 (cs := #[.int .i64 0, .slice none 0 0]) ?_ 0 _ rfl; (with_reducible repeat (first | refine b1_8 ?_ _ | refine b3_8 ?_ | refine b2_8 ?_ _)); exact BK111.out) Try.underlying24 rfl (by kernel_rfl)) rfl ?_
   exact ⟨_, by first | rfl | (simp [errW_none, errW_some] <;> rfl) | (simp [*, errW_none, errW_some] <;> rfl), by (with_reducible repeat (first | apply v1_8 | apply v2_8 | apply v3_8)); exact v4_8 (v5_8 (p := ⟨gb111, 1, none⟩) (v5_8 (p := ⟨gb111, 0, none⟩) (v4_8 HO0_1.out (fun k_ hk => (⟨hk, hk.1.2⟩ : _ ∧ k_ ≠ gb111))) (fun _ hk => hk.2) (.int .i64 a0_0)) (fun _ hk => hk.2) (.slice A0_1 l0_1.length c0_1)) (fun _ hk => hk.1.1.1.1), by repeat (first | (with_reducible first | exact HB.out | apply b8_8 | apply b6_8 | apply b7_8 | refine b4_8 ?_ GE110.out | refine b4_8 ?_ GE111.out | refine b4_8 ?_ GE114.out) | exact HB.out)⟩
end Go.Proofs.Ytlnjefcfbncegaa.Xb
