/- Slimmed by this session: what nothing names is struck out. -/
import Derived.Test.YtlnjefcfbncegaaXb0
import Derived.Test.YtlnjefcfbncegaaXb20
import Derived.Test.YtlnjefcfbncegaaXb21
import Derived.Test.YtlnjefcfbncegaaXb23
import Derived.Test.YtlnjefcfbncegaaXb24
import Derived.Test.YtlnjefcfbncegaaXb25
import Derived.Test.YtlnjefcfbncegaaXb26
namespace Go.Proofs.Ytlnjefcfbncegaa.Xb
open Go.RowKit Go.Proofs.YtlnjefcfbncegaaW.PrintWords Go.Proofs.YtlnjefcfbncegaaW.PrintLast Go.Proofs.YtlnjefcfbncegaaW.PrintMore
attribute [local go_sem] max2_int min2_int max_two min_two max_three min_three max_four min_four
set_option linter.unusedVariables false
set_option linter.unusedSimpArgs false
abbrev b1_27 := @blk_drewN
abbrev b2_27 := @blk_alloc
abbrev b3_27 := @blk_drew
abbrev b4_27 := @below_set
abbrev aM_27 := @Aside0.mk
abbrev v1_27 := @Kd.V_alloc
abbrev v2_27 := @Kd.V_drewN
abbrev v3_27 := @Kd.V_drew
abbrev r1_27 := @Kd.R_alloc
abbrev r2_27 := @Kd.R_drewN
abbrev r3_27 := @Kd.R_drew
abbrev b5_27 := @blk_below
abbrev v4_27 := @Kd.V_mono
abbrev v5_27 := @Kd.V_far
abbrev b6_27 := @pw_below_drewN
abbrev b7_27 := @below_drew1
abbrev b8_27 := @below_alloc
abbrev b9_27 := @below_step
abbrev b0_27 := @below_size
abbrev c3_27 := @Kd.C_alloc
abbrev c4_27 := @Kd.C_drewN
abbrev c5_27 := @Kd.C_drew
abbrev v6_27 := @Kd.V_below
abbrev r4_27 := @Kd.R_below
abbrev l1_27 := @List.setIfInBounds_toArray
abbrev l2_27 := @List.set_cons_zero
abbrev l3_27 := @List.set_cons_succ
theorem cells2_27 {w : World} {g : Nat} {t : TypeId} {x0 x1 : Value} (h : w.heap[g]? = some (.cells #[x0, x1] t (0, 0))) : w.cell? ⟨g, 0, none⟩ = some x0 ∧ w.cell? ⟨g, 1, none⟩ = some x1 ∧ w.frozen? ⟨g, 0, none⟩ = false ∧ w.frozen? ⟨g, 1, none⟩ = false := ⟨(blk_cell h 0).trans rfl, (blk_cell h 1).trans rfl, blk_frozen h 0, blk_frozen h 1⟩
def proofmarklaw13_Made.l0 : Nat → List (S28) → List Int → Int → Int → List (S50) → Option (Int × (List (S50)) × List Int)
 | 0, _, _, _, _, _ => none
 | k + 1, x1, x7, x8, x289000, x289001 => if x8 < (x1.length : Int) then (if 0 ≤ x8 then ((proofmarklaw13_literal.f x289000 x289001 ((rd_T28 x1 x8).f1)).bind fun t290 => ((proofmarklaw13_literal.f x289000 x289001 ((rd_T28 x1 x8).f2)).bind fun t292 => ((proofmarklaw13_literal.f x289000 x289001 ((rd_T28 x1 x8).f3)).bind fun t294 => (if (Int.tmod ((rd_T28 x1 x8).f0) 4) = 0 then ((proofmarkref13_And.f k x289000 x289001 t290 t292).bind fun bt296 => (if x7.length < 17592186044416 then (proofmarklaw13_Made.l0 k x1 (x7 ++ [bt296.2.2]) (wrap64 (x8 + 1)) bt296.1 bt296.2.1) else (none))) else (if (Int.tmod ((rd_T28 x1 x8).f0) 4) = 1 then ((proofmarkref13_Or.f k x289000 x289001 t290 t292).bind fun bt304 => (if x7.length < 17592186044416 then (proofmarklaw13_Made.l0 k x1 (x7 ++ [bt304.2.2]) (wrap64 (x8 + 1)) bt304.1 bt304.2.1) else (none))) else (if (Int.tmod ((rd_T28 x1 x8).f0) 4) = 2 then ((proofmarkref13_Xor.f k x289000 x289001 t290 t292).bind fun bt312 => (if x7.length < 17592186044416 then (proofmarklaw13_Made.l0 k x1 (x7 ++ [bt312.2.2]) (wrap64 (x8 + 1)) bt312.1 bt312.2.1) else (none))) else (if (Int.tmod ((rd_T28 x1 x8).f0) 4) = 3 then ((proofmarkref13_Mux.f k x289000 x289001 t290 t292 t294).bind fun bt320 => (if x7.length < 17592186044416 then (proofmarklaw13_Made.l0 k x1 (x7 ++ [bt320.2.2]) (wrap64 (x8 + 1)) bt320.1 bt320.2.1) else (none))) else (if x7.length < 17592186044416 then (proofmarklaw13_Made.l0 k x1 (x7 ++ [0]) (wrap64 (x8 + 1)) x289000 x289001) else (none))))))))) else (none)) else (some (x289000, x289001, x7))
def proofmarklaw13_Made.f (k : Nat) (a0 : Int) (l1 : List (S28)) : Option (Int × (List (S50)) × List Int) := (proofmarkref13_New.f (Int.tmod (wrap64 (a0)) 9)).bind fun bt284 => (proofmarklaw13_Made.l0 k l1 ([] : List Int) 0 bt284.1 bt284.2)
theorem proofmarklaw13_Made.mono_l : ∀ k, (∀ y0 y1 y2 y3 y4, LeO (proofmarklaw13_Made.l0 k y0 y1 y2 y3 y4) (proofmarklaw13_Made.l0 (k + 1) y0 y1 y2 y3 y4))
 | 0 => fun _ _ _ _ _ r h => by simp [proofmarklaw13_Made.l0] at h
 | k + 1 => by
  have ih0 := proofmarklaw13_Made.mono_l k
  ·intro y0 y1 y2 y3 y4
   unfold proofmarklaw13_Made.l0
   repeat' first
   | (with_reducible exact ih0 _ _ _ _ _)
   | (with_reducible exact proofmarkref13_And.mono _ _ _ _ _)
   | (with_reducible exact proofmarkref13_Mux.mono _ _ _ _ _ _)
   | (with_reducible exact proofmarkref13_Or.mono _ _ _ _ _)
   | (with_reducible exact proofmarkref13_Xor.mono _ _ _ _ _)
   | (with_reducible exact LeO.refl _)
   | (with_reducible exact LeO.none _)
   | (with_reducible refine LeO.ite ?_ ?_)
   | (with_reducible refine LeO.bind ?_ (fun _ => ?_))
   | exact ih0 _ _ _ _ _
   | exact proofmarkref13_And.mono _ _ _ _ _
   | exact proofmarkref13_Mux.mono _ _ _ _ _ _
   | exact proofmarkref13_Or.mono _ _ _ _ _
   | exact proofmarkref13_Xor.mono _ _ _ _ _
   | exact LeO.none _
   | refine LeO.ite ?_ ?_
   | refine LeO.bind ?_ (fun _ => ?_)
theorem proofmarklaw13_Made.mono : ∀ a0 a1 k, LeO (proofmarklaw13_Made.f k a0 a1) (proofmarklaw13_Made.f (k + 1) a0 a1) := by
 intro a0 a1 k
 have ih0 := proofmarklaw13_Made.mono_l k
 unfold proofmarklaw13_Made.f
 repeat' first
   | (with_reducible exact ih0 _ _ _ _ _)
   | (with_reducible exact proofmarkref13_And.mono _ _ _ _ _)
   | (with_reducible exact proofmarkref13_Mux.mono _ _ _ _ _ _)
   | (with_reducible exact proofmarkref13_Or.mono _ _ _ _ _)
   | (with_reducible exact proofmarkref13_Xor.mono _ _ _ _ _)
   | (with_reducible exact LeO.refl _)
   | (with_reducible exact LeO.none _)
   | (with_reducible refine LeO.ite ?_ ?_)
   | (with_reducible refine LeO.bind ?_ (fun _ => ?_))
   | exact ih0 _ _ _ _ _
   | exact proofmarkref13_And.mono _ _ _ _ _
   | exact proofmarkref13_Mux.mono _ _ _ _ _ _
   | exact proofmarkref13_Or.mono _ _ _ _ _
   | exact proofmarkref13_Xor.mono _ _ _ _ _
   | exact LeO.none _
   | refine LeO.ite ?_ ?_
   | refine LeO.bind ?_ (fun _ => ?_)
def proofmarklaw13_Made.T6 : Bool × List (List Nat × List Nat) := (true, [([], []), ([], []), ([], []), ([1, 2], [1, 2]), ([3], [3]), ([4], [4]), ([0, 5], [0, 5]), ([6, 6, 0, 1, 2, 3, 4, 5, 6], [6])])
def proofmarklaw13_Made.B6 : List Nat := [0, 0, 0, 6, 14, 30, 63, 127]
theorem proofmarklaw13_Made.tab6 : rtab .any (opsOf Try.f14 6) = proofmarklaw13_Made.T6 := by kernel_rfl
theorem proofmarklaw13_Made.bits6 : waitsOk proofmarklaw13_Made.T6.2 proofmarklaw13_Made.B6 = true := by kernel_rfl
def proofmarklaw13_Made.T7 : Bool × List (List Nat × List Nat) := (true, [([], []), ([], []), ([], []), ([1, 2], [1, 2]), ([3], [3]), ([4], [4]), ([0, 5], [0, 5]), ([6, 6, 0, 1, 2, 3, 4, 5, 6], [6])])
def proofmarklaw13_Made.B7 : List Nat := [0, 0, 0, 6, 14, 30, 63, 127]
theorem proofmarklaw13_Made.tab7 : rtab .any (opsOf Try.f14 7) = proofmarklaw13_Made.T7 := by kernel_rfl
theorem proofmarklaw13_Made.bits7 : waitsOk proofmarklaw13_Made.T7.2 proofmarklaw13_Made.B7 = true := by kernel_rfl
def proofmarklaw13_Made.T8 : Bool × List (List Nat × List Nat) := (true, [([], []), ([], []), ([], []), ([1, 2], [1, 2]), ([3], [3]), ([4], [4]), ([0, 5], [0, 5]), ([6, 6, 0, 1, 2, 3, 4, 5, 6], [6])])
def proofmarklaw13_Made.B8 : List Nat := [0, 0, 0, 6, 14, 30, 63, 127]
theorem proofmarklaw13_Made.tab8 : rtab .any (opsOf Try.f14 8) = proofmarklaw13_Made.T8 := by kernel_rfl
theorem proofmarklaw13_Made.bits8 : waitsOk proofmarklaw13_Made.T8.2 proofmarklaw13_Made.B8 = true := by kernel_rfl
set_option maxHeartbeats 8000000 in
set_option maxRecDepth 100000 in
theorem proofmarklaw13_Made.calls (k : Nat) (a0 : Int) (A1 : Option Addr) (c1 : Nat) (l1 : List (S28)) (r1 : Int) (r2 : List (S50)) (r3 : List Int) (w : World) (hr1 : Kd.C k28 w A1 l1.length l1) (hc1 : l1.length ≤ c1) (h : proofmarklaw13_Made.f k a0 l1 = some (r1, r2, r3)) :
  Calls Try.prog 14 #[.int .u8 a0, .slice A1 l1.length c1] w fun e w' => ∃ v1_ v2_ : Value, e = .returned (.tuple #[.agg #[.int .i64 r1, v1_], v2_]) ∧ Kd.V k50 50 w' w.heap.size (fun k_ => (w.heap.size ≤ k_) ∧ some k_ ≠ (v2_ : Value).ownBlock) v1_ r2 ∧ Kd.R (Kd.int .i64) 3 w' w.heap.size (fun k_ => (w.heap.size ≤ k_)) v2_ r3 ∧ Below w.heap.size w w' := by
 have hu24 := Try.underlying24
 have HR1 := aM_27 hr1
 have HC1 := aM_27 hc1
 clear hr1 hc1
 have HB := aM_27 (Below.refl w.heap.size w)
 have H : ((proofmarkref13_New.f (Int.tmod (wrap64 (a0)) 9)).bind fun bt284 => (proofmarklaw13_Made.l0 k l1 ([] : List Int) 0 bt284.1 bt284.2)) = some (r1, r2, r3) := h
 clear h
 replace H := Option.bind_eq_some_iff.mp H
 obtain ⟨⟨t284, t285⟩, A30, H⟩ := H
 replace H : (proofmarklaw13_Made.l0 k l1 ([] : List Int) 0 t284 t285) = some (r1, r2, r3) := H
 have A3 := aM_27 A30
 clear A30
 have H' := aM_27 H
 clear H
 go_enter Try.func14, Try.ntmps14
 go_wp2_with (first | ((with_reducible refine gate_dst (N := 4) rfl ?_); refine box_event ?hg (N := 4) ?hd (cs := #[.int .i64 0, .slice none 0 0]) (t := 24) ?hr ?_; (case hd => rfl); (case hg => rfl); (case hr => first | (go_simp; done) | (go_simp; rfl)); intro gb283 hg w4 hbox hb; have n0_ := aM_27 (b9_27 (by repeat (first | (with_reducible first | exact HB.out | apply b8_27 | apply b6_27 | apply b7_27) | exact HB.out)) hb); have n1_ := aM_27 (hbox); have n2_ := aM_27 ((by rw [hg]; exact (b0_27 (by repeat (first | (with_reducible first | exact HB.out | apply b8_27 | apply b6_27 | apply b7_27) | exact HB.out))) : w.heap.size ≤ gb283)); have n3_ := aM_27 ((by rw [hg]; exact (b0_27 (by repeat (first | (with_reducible first | exact HB.out | apply b8_27 | apply b6_27 | apply b7_27) | exact HB.out))) : w.heap.size ≤ gb283)); clear HB; have HB := n0_; have BK283 := n1_; have GW283 := n2_; have GE283 := n3_; clear n0_ n1_ n2_ n3_; clear hb hbox hg) | ((with_reducible refine gate_callee (f := 32) rfl ?_); refine goesL_ (some 16) rfl rfl Try.func32 (by kernel_rfl) rfl #[.int .i64 (Int.tmod (wrap64 (a0)) 9)] rfl (by (try simp only [List.map_toArray, List.map_cons, List.map_nil]); first | done | rfl | (simp only [List.length_drop, List.length_take]; rfl)) ?_; (with_reducible refine (proofmarkref13_New.calls (Int.tmod (wrap64 (a0)) 9) t284 t285 _ A3.out).mono ?_); rintro e w5 ⟨v286, rfl, ho0, hb⟩; refine ⟨_, rfl, ?_⟩; have n0_ := aM_27 (Kd.R_lower (Kd.R_newM (M := fun k_ => (w.heap.size ≤ k_)) ho0 (b0_27 (by repeat (first | (with_reducible first | exact HB.out | apply b8_27 | apply b6_27 | apply b7_27 | refine b4_27 ?_ GE283.out) | exact HB.out))) (fun k_ h_ => h_)) (b0_27 (by repeat (first | (with_reducible first | exact HB.out | apply b8_27 | apply b6_27 | apply b7_27 | refine b4_27 ?_ GE283.out) | exact HB.out)))); have n1_ := aM_27 (b5_27 (by exact BK283.out) hb); have n2_ := aM_27 (b9_27 (by repeat (first | (with_reducible first | exact HB.out | apply b8_27 | apply b6_27 | apply b7_27 | refine b4_27 ?_ GE283.out) | exact HB.out)) hb); clear BK283 HB; have HO287 := n0_; have BK283 := n1_; have HB := n2_; clear n0_ n1_ n2_; (try clear hb); (try clear hb2); (try clear hk); (try clear hi); (try clear ho0)) | ((with_reducible refine gate_dst (N := 6) rfl ?_); refine box_event ?hg (N := 6) ?hd (cs := #[.int .i64 0, .slice none 0 0]) (t := 24) ?hr ?_; (case hd => rfl); (case hg => rfl); (case hr => first | (go_simp; done) | (go_simp; rfl)); intro gb288 hg w6 hbox hb; have n0_ := aM_27 (r4_27 (by (with_reducible repeat (first | apply r1_27 | apply r2_27 | apply r3_27)); exact HO287.out) hb); have n1_ := aM_27 (b5_27 (by exact BK283.out) hb); have n2_ := aM_27 (b9_27 (by repeat (first | (with_reducible first | exact HB.out | apply b8_27 | apply b6_27 | apply b7_27 | refine b4_27 ?_ GE283.out) | exact HB.out)) hb); have n3_ := aM_27 (hbox); have n4_ := aM_27 ((by rw [hg]; exact (b0_27 (by repeat (first | (with_reducible first | exact HB.out | apply b8_27 | apply b6_27 | apply b7_27 | refine b4_27 ?_ GE283.out) | exact HB.out))) : w.heap.size ≤ gb288)); have n5_ := aM_27 ((by rw [hg]; exact (b0_27 (by repeat (first | (with_reducible first | exact HB.out | apply b8_27 | apply b6_27 | apply b7_27 | refine b4_27 ?_ GE283.out) | exact HB.out))) : w.heap.size ≤ gb288)); have n6_ := aM_27 ((by rw [hg]; exact Nat.ne_of_lt (blk_lt (by exact BK283.out)) : gb283 ≠ gb288)); have n7_ := aM_27 ((by rw [hg]; exact Nat.ne_of_gt (blk_lt (by exact BK283.out)) : gb288 ≠ gb283)); clear HO287 BK283 HB; have HO287 := n0_; have BK283 := n1_; have HB := n2_; have BK288 := n3_; have GW288 := n4_; have GE288 := n5_; have NB283_288 := n6_; have NB288_283 := n7_; clear n0_ n1_ n2_ n3_ n4_ n5_ n6_ n7_; clear hb hbox hg; have hnb7 := NB288_283.out; have hnc7 := NB283_288.out; obtain ⟨hcz8_0, hcz8_1, hfz8_0, hfz8_1⟩ := cells2_27 BK288.out; obtain ⟨Ao9, co9, eo9⟩ := Kd.R_slice HO287.out; subst eo9))
 go_loopg [7, 8] k (fun kq v7 v8 w' => ∃ (x7_1 : List Int) (x8_1 : Int) (x289000_1 : Int) (x289001_1 : List (S50)) (u289001 : Value), v8 = .int .i64 x8_1 ∧ Aside0 (proofmarklaw13_Made.l0 kq l1 x7_1 x8_1 x289000_1 x289001_1 = some (r1, r2, r3)) ∧ Aside0 (kq ≤ k) ∧ Aside0 (Kd.R (Kd.int .i64) 3 w' w.heap.size (fun k_ => (w.heap.size ≤ k_)) v7 x7_1) ∧ Aside0 (Kd.V k50 50 w' w.heap.size (fun k_ => (w.heap.size ≤ k_) ∧ some k_ ≠ (v7 : Value).ownBlock ∧ k_ ≠ gb283 ∧ k_ ≠ gb288) u289001 x289001_1) ∧ Aside0 (w'.heap[gb283]? = some (.cells #[.int .i64 0, (.slice none 0 0)] 24 (0, 0))) ∧ Aside0 (w'.heap[gb288]? = some (.cells #[.int .i64 x289000_1, u289001] 24 (0, 0))) ∧ Aside0 (Below w.heap.size w w'))
 case atStart => exact ⟨(([] : List Int)), (0), (t284), (t285), (.slice Ao9 t285.length co9), (by first | rfl | (simp; done) | (simp [*]; done)), H', ⟨Nat.le_refl _⟩, ⟨by first | exact Kd.R_nil _ _ _ _ _ | exact Kd.N_nil _ _ _ _ _ | exact Kd.V_nil _ _ _ _ _ | exact Kd.Q_nil _ _ _ _ _ | exact Kd.S_nil _ _ _ _ _⟩, ⟨Kd.R_V (by (with_reducible repeat (first | apply r1_27 | apply r2_27 | apply r3_27)); exact Kd.R_mono (Kd.R_far (p := ⟨gb288, 1, none⟩) (Kd.R_far (p := ⟨gb288, 0, none⟩) (Kd.R_types (Kd.R_types (Kd.R_types HO287.out BK283.out (by decide)) BK288.out (by decide)) BK288.out (by decide)) (fun _ hk => hk.2) (.int .i64 t284)) (fun _ hk => hk.2) (.slice Ao9 t285.length co9)) (fun _ hk => ⟨hk.1.1.1.1, ⟨(by simp [Value.ownBlock]), ⟨hk.1.1.2, hk.1.2⟩⟩⟩))⟩, ⟨by (with_reducible repeat (first | refine b1_27 ?_ _ | refine b3_27 ?_ | refine b2_27 ?_ _)); refine blk_far ?_ NB283_288.out _; (with_reducible repeat (first | refine b1_27 ?_ _ | refine b3_27 ?_ | refine b2_27 ?_ _)); refine blk_far ?_ NB283_288.out _; (with_reducible repeat (first | refine b1_27 ?_ _ | refine b3_27 ?_ | refine b2_27 ?_ _)); exact BK283.out⟩, ⟨by (with_reducible repeat (first | refine b1_27 ?_ _ | refine b3_27 ?_ | refine b2_27 ?_ _)); refine blk_put (cs := #[.int .i64 t284, .slice none 0 0]) ?_ 1 _ rfl; (with_reducible repeat (first | refine b1_27 ?_ _ | refine b3_27 ?_ | refine b2_27 ?_ _)); refine blk_put (cs := #[.int .i64 0, .slice none 0 0]) ?_ 0 _ rfl; (with_reducible repeat (first | refine b1_27 ?_ _ | refine b3_27 ?_ | refine b2_27 ?_ _)); exact BK288.out⟩, ⟨by repeat (first | (with_reducible first | exact HB.out | apply b8_27 | apply b6_27 | apply b7_27 | refine b4_27 ?_ GE283.out | refine b4_27 ?_ GE288.out) | exact HB.out)⟩⟩
 case round =>
  clear H'
  try clear c1
  try clear p2
  try clear c3
  try clear p6
  try clear c7
  try clear hcz8_0
  try clear hcz8_1
  try clear hfz8_0
  try clear hfz8_1
  obtain ⟨x7_1, x8_1, x289000_1, x289001_1, u289001, rfl, HA, HK1, HO_7, HO_289001, BK283, BK288, HB⟩ := hrel
  cases gk with
  | zero => exact absurd HA.out (by simp [proofmarklaw13_Made.l0])
  | succ k1 =>
   have H := HA.out
   clear HA
   simp only [proofmarklaw13_Made.l0] at H
   by_cases c10 : x8_1 < (l1.length : Int)
   ·rw [if_pos c10] at H
    have c10b0 : decide (x8_1 < (l1.length : Int)) = true := decide_eq_true c10
    clear c10
    by_cases c11 : 0 ≤ x8_1
    ·rw [if_pos c11] at H
     have c11b0 : decide (0 ≤ x8_1) = true := decide_eq_true c11
     clear c11
     replace H := Option.bind_eq_some_iff.mp H
     obtain ⟨t290, A120, H⟩ := H
     replace H : ((proofmarklaw13_literal.f x289000_1 x289001_1 ((rd_T28 l1 x8_1).f2)).bind fun t292 => ((proofmarklaw13_literal.f x289000_1 x289001_1 ((rd_T28 l1 x8_1).f3)).bind fun t294 => (if (Int.tmod ((rd_T28 l1 x8_1).f0) 4) = 0 then ((proofmarkref13_And.f k1 x289000_1 x289001_1 t290 t292).bind fun bt296 => (if x7_1.length < 17592186044416 then (proofmarklaw13_Made.l0 k1 l1 (x7_1 ++ [bt296.2.2]) (wrap64 (x8_1 + 1)) bt296.1 bt296.2.1) else (none))) else (if (Int.tmod ((rd_T28 l1 x8_1).f0) 4) = 1 then ((proofmarkref13_Or.f k1 x289000_1 x289001_1 t290 t292).bind fun bt304 => (if x7_1.length < 17592186044416 then (proofmarklaw13_Made.l0 k1 l1 (x7_1 ++ [bt304.2.2]) (wrap64 (x8_1 + 1)) bt304.1 bt304.2.1) else (none))) else (if (Int.tmod ((rd_T28 l1 x8_1).f0) 4) = 2 then ((proofmarkref13_Xor.f k1 x289000_1 x289001_1 t290 t292).bind fun bt312 => (if x7_1.length < 17592186044416 then (proofmarklaw13_Made.l0 k1 l1 (x7_1 ++ [bt312.2.2]) (wrap64 (x8_1 + 1)) bt312.1 bt312.2.1) else (none))) else (if (Int.tmod ((rd_T28 l1 x8_1).f0) 4) = 3 then ((proofmarkref13_Mux.f k1 x289000_1 x289001_1 t290 t292 t294).bind fun bt320 => (if x7_1.length < 17592186044416 then (proofmarklaw13_Made.l0 k1 l1 (x7_1 ++ [bt320.2.2]) (wrap64 (x8_1 + 1)) bt320.1 bt320.2.1) else (none))) else (if x7_1.length < 17592186044416 then (proofmarklaw13_Made.l0 k1 l1 (x7_1 ++ [0]) (wrap64 (x8_1 + 1)) x289000_1 x289001_1) else (none)))))))) = some (r1, r2, r3) := H
     have A12 := aM_27 A120
     clear A120
     replace H := Option.bind_eq_some_iff.mp H
     obtain ⟨t292, A130, H⟩ := H
     replace H : ((proofmarklaw13_literal.f x289000_1 x289001_1 ((rd_T28 l1 x8_1).f3)).bind fun t294 => (if (Int.tmod ((rd_T28 l1 x8_1).f0) 4) = 0 then ((proofmarkref13_And.f k1 x289000_1 x289001_1 t290 t292).bind fun bt296 => (if x7_1.length < 17592186044416 then (proofmarklaw13_Made.l0 k1 l1 (x7_1 ++ [bt296.2.2]) (wrap64 (x8_1 + 1)) bt296.1 bt296.2.1) else (none))) else (if (Int.tmod ((rd_T28 l1 x8_1).f0) 4) = 1 then ((proofmarkref13_Or.f k1 x289000_1 x289001_1 t290 t292).bind fun bt304 => (if x7_1.length < 17592186044416 then (proofmarklaw13_Made.l0 k1 l1 (x7_1 ++ [bt304.2.2]) (wrap64 (x8_1 + 1)) bt304.1 bt304.2.1) else (none))) else (if (Int.tmod ((rd_T28 l1 x8_1).f0) 4) = 2 then ((proofmarkref13_Xor.f k1 x289000_1 x289001_1 t290 t292).bind fun bt312 => (if x7_1.length < 17592186044416 then (proofmarklaw13_Made.l0 k1 l1 (x7_1 ++ [bt312.2.2]) (wrap64 (x8_1 + 1)) bt312.1 bt312.2.1) else (none))) else (if (Int.tmod ((rd_T28 l1 x8_1).f0) 4) = 3 then ((proofmarkref13_Mux.f k1 x289000_1 x289001_1 t290 t292 t294).bind fun bt320 => (if x7_1.length < 17592186044416 then (proofmarklaw13_Made.l0 k1 l1 (x7_1 ++ [bt320.2.2]) (wrap64 (x8_1 + 1)) bt320.1 bt320.2.1) else (none))) else (if x7_1.length < 17592186044416 then (proofmarklaw13_Made.l0 k1 l1 (x7_1 ++ [0]) (wrap64 (x8_1 + 1)) x289000_1 x289001_1) else (none))))))) = some (r1, r2, r3) := H
     have A13 := aM_27 A130
     clear A130
     replace H := Option.bind_eq_some_iff.mp H
     obtain ⟨t294, A140, H⟩ := H
     replace H : (if (Int.tmod ((rd_T28 l1 x8_1).f0) 4) = 0 then ((proofmarkref13_And.f k1 x289000_1 x289001_1 t290 t292).bind fun bt296 => (if x7_1.length < 17592186044416 then (proofmarklaw13_Made.l0 k1 l1 (x7_1 ++ [bt296.2.2]) (wrap64 (x8_1 + 1)) bt296.1 bt296.2.1) else (none))) else (if (Int.tmod ((rd_T28 l1 x8_1).f0) 4) = 1 then ((proofmarkref13_Or.f k1 x289000_1 x289001_1 t290 t292).bind fun bt304 => (if x7_1.length < 17592186044416 then (proofmarklaw13_Made.l0 k1 l1 (x7_1 ++ [bt304.2.2]) (wrap64 (x8_1 + 1)) bt304.1 bt304.2.1) else (none))) else (if (Int.tmod ((rd_T28 l1 x8_1).f0) 4) = 2 then ((proofmarkref13_Xor.f k1 x289000_1 x289001_1 t290 t292).bind fun bt312 => (if x7_1.length < 17592186044416 then (proofmarklaw13_Made.l0 k1 l1 (x7_1 ++ [bt312.2.2]) (wrap64 (x8_1 + 1)) bt312.1 bt312.2.1) else (none))) else (if (Int.tmod ((rd_T28 l1 x8_1).f0) 4) = 3 then ((proofmarkref13_Mux.f k1 x289000_1 x289001_1 t290 t292 t294).bind fun bt320 => (if x7_1.length < 17592186044416 then (proofmarklaw13_Made.l0 k1 l1 (x7_1 ++ [bt320.2.2]) (wrap64 (x8_1 + 1)) bt320.1 bt320.2.1) else (none))) else (if x7_1.length < 17592186044416 then (proofmarklaw13_Made.l0 k1 l1 (x7_1 ++ [0]) (wrap64 (x8_1 + 1)) x289000_1 x289001_1) else (none)))))) = some (r1, r2, r3) := H
     have A14 := aM_27 A140
     clear A140
     by_cases c15 : (Int.tmod ((rd_T28 l1 x8_1).f0) 4) = 0
     ·rw [if_pos c15] at H
      have c15b0 : ((Int.tmod ((rd_T28 l1 x8_1).f0) 4) == 0) = true := beq_iff_eq.mpr c15
      have c15b1 : ((Int.tmod ((rd_T28 l1 x8_1).f0) 4) != 0) = false := bne_eq_false_iff_eq.mpr c15
      clear c15
      replace H := Option.bind_eq_some_iff.mp H
      obtain ⟨⟨t296, t297, t300⟩, A160, H⟩ := H
      replace H : (if x7_1.length < 17592186044416 then (proofmarklaw13_Made.l0 k1 l1 (x7_1 ++ [t300]) (wrap64 (x8_1 + 1)) t296 t297) else (none)) = some (r1, r2, r3) := H
      have A16 := aM_27 A160
      clear A160
      by_cases c17 : x7_1.length < 17592186044416
      ·rw [if_pos c17] at H
       have LMc17 := aM_27 c17
       clear c17
       obtain ⟨y301, hy301⟩ : ∃ y_ : List Int, y_ = (x7_1 ++ [t300]) := ⟨_, rfl⟩
       replace H : (proofmarklaw13_Made.l0 k1 l1 y301 (wrap64 (x8_1 + 1)) t296 t297) = some (r1, r2, r3) := by first | (rw [hy301]; with_reducible exact H) | (have H2_ := (Option.bind_some _ _).symm.trans H; rw [hy301]; with_reducible exact H2_) | (have H2_ := (Option.bind_some _ _).symm.trans H; with_reducible exact H2_) | with_reducible exact H | (rw [hy301]; exact H) | exact H
       have Ny301 := aM_27 hy301
       clear hy301
       have H' := aM_27 H
       clear H
       try go_wp2
       have n0_ := aM_27 (r3_27 HO_7.out)
       have n1_ := aM_27 (v3_27 HO_289001.out)
       have n2_ := aM_27 (b3_27 BK283.out)
       have n3_ := aM_27 (b3_27 BK288.out)
       have n4_ := aM_27 (b7_27 HB.out)
       clear HO_7 HO_289001 BK283 BK288 HB
       have HO_7 := n0_
       have HO_289001 := n1_
       have BK283 := n2_
       have BK288 := n3_
       have HB := n4_
       clear n0_ n1_ n2_ n3_ n4_
       have p289 : 0 ≤ (x8_1 : Int) := of_decide_eq_true (by first | (with_reducible assumption) | assumption)
       have q289 : x8_1 < (l1.length : Int) := of_decide_eq_true (by first | (with_reducible assumption) | assumption)
       obtain ⟨ad289, e289, hx289_0, hx289_1, hx289_2, hx289_3⟩ := at_T28 HR1.out x8_1 p289 q289
       have hw289_3 := hx289_3
       have hw289_2 := hx289_2
       have hw289_1 := hx289_1
       have hw289_0 := hx289_0
       cases e289
       replace hx289_0 := (HB.out.cell (World.block_lt_of_cell? w _ hx289_0)).trans hx289_0
       replace hx289_1 := (HB.out.cell (World.block_lt_of_cell? w _ hx289_1)).trans hx289_1
       replace hx289_2 := (HB.out.cell (World.block_lt_of_cell? w _ hx289_2)).trans hx289_2
       replace hx289_3 := (HB.out.cell (World.block_lt_of_cell? w _ hx289_3)).trans hx289_3
       replace p289 := eq_true p289
       replace q289 := eq_true q289
       obtain ⟨Ao19, co19, eo19⟩ := Kd.V_slice HO_289001.out
       (first | subst eo19 | (injection eo19 with f1_ f2_ f3_; have f4_ := f1_.symm; have f5_ := f3_.symm; clear f1_ f2_ f3_; subst f4_; subst f5_))
       refine start_ (n := 8) (S := fun w' => w'.cell? ⟨gb288, 0, none⟩ = some (.int .i64 x289000_1) ∧ w'.cell? ⟨gb288, 1, none⟩ = some (.slice Ao19 x289001_1.length co19) ∧ w'.cell? (ad289.add ((x8_1).toNat * 4)) = some (.int .u8 ((rd_T28 l1 x8_1).f0)) ∧ w'.cell? ⟨(ad289.add ((x8_1).toNat * 4)).block, (ad289.add ((x8_1).toNat * 4)).off + 1, none⟩ = some (.int .u16 ((rd_T28 l1 x8_1).f1)) ∧ w'.cell? ⟨(ad289.add ((x8_1).toNat * 4)).block, (ad289.add ((x8_1).toNat * 4)).off + 2, none⟩ = some (.int .u16 ((rd_T28 l1 x8_1).f2)) ∧ w'.cell? ⟨(ad289.add ((x8_1).toNat * 4)).block, (ad289.add ((x8_1).toNat * 4)).off + 3, none⟩ = some (.int .u16 ((rd_T28 l1 x8_1).f3))) (ds := []) #[false, false, false, false, false, false, false, false] (by kernel_rfl) rfl rfl ⟨(blk_cell BK288.out 0).trans rfl, (blk_cell BK288.out 1).trans rfl, ((HB.out.cell (World.block_lt_of_cell? w _ hw289_0)).trans hw289_0), ((HB.out.cell (World.block_lt_of_cell? w _ hw289_1)).trans hw289_1), ((HB.out.cell (World.block_lt_of_cell? w _ hw289_2)).trans hw289_2), ((HB.out.cell (World.block_lt_of_cell? w _ hw289_3)).trans hw289_3)⟩ (fun hHeld => ?_); refine with_tabW proofmarklaw13_Made.tab6 proofmarklaw13_Made.bits6 (fun HT_ HW_ => ?_)
       generalize wr.drew = w18 at HO_7 HO_289001 BK283 BK288 HB hx289_0 hx289_1 hx289_2 hx289_3 hHeld ⊢
       refine pure_ (i := 1) (N := some 24) (v := ?_) (a' := ?_) #[false, true, false, false, false, false, false, false] rfl rfl (any_of HT_.out (by kernel_rfl)) (fun _ _ _ h => h) (Or.inl ⟨by rfl, ?_⟩) ?_ ?_
       rotate_left
       ·intro w'
        go_simp
        with_reducible rfl
       rotate_left
       ·simp only [Act.put, l1_27, l2_27, l3_27, i64_w, i32_w]
        rfl
       refine pure_ (i := 2) (N := some 25) (v := ?_) (a' := ?_) #[false, true, true, false, false, false, false, false] rfl rfl (any_of HT_.out (by kernel_rfl)) (fun _ _ _ h => h) (Or.inl ⟨by rfl, ?_⟩) ?_ ?_
       rotate_left
       ·intro w'
        go_simp
        with_reducible rfl
       rotate_left
       ·simp only [Act.put, l1_27, l2_27, l3_27, i64_w, i32_w]
        rfl
       refine pure_ (i := 3) (N := some 26) (v := ?_) (a' := ?_) #[false, true, true, true, false, false, false, false] rfl rfl (any_of HT_.out (by kernel_rfl)) (fun _ _ _ h => h) (Or.inl ⟨by rfl, ?_⟩) ?_ ?_
       rotate_left
       ·intro w'
        go_simp
        with_reducible rfl
       rotate_left
       ·simp only [Act.put, l1_27, l2_27, l3_27, i64_w, i32_w]
        rfl
       refine pure_ (i := 4) (N := some 27) (v := ?_) (a' := ?_) #[false, true, true, true, true, false, false, false] rfl rfl (any_of HT_.out (by kernel_rfl)) (fun _ _ _ h => h) (Or.inl ⟨by rfl, ?_⟩) ?_ ?_
       rotate_left
       ·intro w'
        go_simp
        with_reducible rfl
       rotate_left
       ·simp only [Act.put, l1_27, l2_27, l3_27, i64_w, i32_w]
        rfl
       refine take_ (i := 0) (N := some 23) (v := ?_) (a' := ?_) #[true, true, true, true, true, false, false, false] rfl rfl (take_ofW HT_.out HW_.out (by kernel_rfl)) (fun _ _ _ h => h) (Or.inl ⟨by rfl, ?_⟩) hHeld ?_ ?_
       rotate_left
       ·rintro w' ⟨s0, s1, s2, s3, s4, s5⟩
        go_simp
        with_reducible rfl
       rotate_left
       ·simp only [Act.put, l1_27, l2_27, l3_27, i64_w, i32_w]
        rfl
       refine take_ (i := 5) (N := some 28) (v := ?_) (a' := ?_) #[true, true, true, true, true, true, false, false] rfl rfl (take_ofW HT_.out HW_.out (by kernel_rfl)) (fun _ _ _ h => h) (Or.inl ⟨by rfl, ?_⟩) hHeld ?_ ?_
       rotate_left
       ·rintro w' ⟨s0, s1, s2, s3, s4, s5⟩
        go_simp
        with_reducible rfl
       rotate_left
       ·simp only [Act.put, l1_27, l2_27, l3_27, i64_w, i32_w]
        rfl
       refine one_ (i := 6) (N := some 29) #[true, true, true, true, true, true, true, false] rfl rfl (one_of HT_.out (by kernel_rfl)) (by decide) (fun K hK => ?_)
       refine goes_ Try.func15 (by kernel_rfl) rfl #[.agg #[.int .i64 x289000_1, .slice Ao19 x289001_1.length co19], .int .u16 ((rd_T28 l1 x8_1).f1)] (by rfl) rfl rfl (by (try simp only [List.map_toArray, List.map_cons, List.map_nil]); first | done | rfl | (simp only [List.length_drop, List.length_take]; rfl)) ?_
       with_reducible refine (proofmarklaw13_literal.calls x289000_1 _ _ x289001_1 ((rd_T28 l1 x8_1).f1) t290 _ ?side1 ?side2 A12.out).mono ?_
       (case side1 => repeat (first | exact (Kd.V_reads' HO_289001.out).2.2 | (with_reducible refine c3_27 ?_ _) | (with_reducible refine c4_27 ?_ _) | (with_reducible refine c5_27 ?_)))
       (case side2 => exact (Kd.V_reads' HO_289001.out).2.1)
       rintro e w20 ⟨rfl, hb⟩
       refine ⟨_, rfl, ?_⟩
       have n0_ := aM_27 (r4_27 (by (with_reducible repeat (first | apply r1_27 | apply r2_27 | apply r3_27)); exact HO_7.out) hb)
       have n1_ := aM_27 (v6_27 (by (with_reducible repeat (first | apply v1_27 | apply v2_27 | apply v3_27)); exact HO_289001.out) hb)
       have n2_ := aM_27 (b5_27 (by exact BK283.out) hb)
       have n3_ := aM_27 (b5_27 (by exact BK288.out) hb)
       have n4_ := aM_27 (b9_27 (by repeat (first | (with_reducible first | exact HB.out | apply b8_27 | apply b6_27 | apply b7_27 | refine b4_27 ?_ GE283.out | refine b4_27 ?_ GE288.out) | exact HB.out)) hb)
       clear HO_7 HO_289001 BK283 BK288 HB
       have HO_7 := n0_
       have HO_289001 := n1_
       have BK283 := n2_
       have BK288 := n3_
       have HB := n4_
       clear n0_ n1_ n2_ n3_ n4_
       (try clear hb)
       (try clear hb2)
       (try clear hk)
       (try clear hi)
       refine hK.out _ _ ⟨(blk_cell BK288.out 0).trans rfl, (blk_cell BK288.out 1).trans rfl, ((HB.out.cell (World.block_lt_of_cell? w _ hw289_0)).trans hw289_0), ((HB.out.cell (World.block_lt_of_cell? w _ hw289_1)).trans hw289_1), ((HB.out.cell (World.block_lt_of_cell? w _ hw289_2)).trans hw289_2), ((HB.out.cell (World.block_lt_of_cell? w _ hw289_3)).trans hw289_3)⟩ (fun hHeld => ?_)
       clear hK K
       refine norm_ (a' := ?_) ?_ ?_
       rotate_left
       ·show Act.put _ (some 29) _ = _
        simp only [Act.put, l1_27, l2_27, l3_27, i64_w, i32_w]
        rfl
       refine pure_ (i := 7) (N := some 9) (v := ?_) (a' := ?_) #[true, true, true, true, true, true, true, true] rfl rfl (any_of HT_.out (by kernel_rfl)) (fun _ _ _ h => h) (Or.inl ⟨by rfl, ?_⟩) ?_ ?_
       rotate_left
       ·intro w'
        go_simp
        with_reducible rfl
       rotate_left
       ·simp only [Act.put, l1_27, l2_27, l3_27, i64_w, i32_w]
        rfl
       refine done_ (done_of HT_.out (by kernel_rfl)) ?_
       try go_wp2
       have n0_ := aM_27 (r3_27 HO_7.out)
       have n1_ := aM_27 (v3_27 HO_289001.out)
       have n2_ := aM_27 (b3_27 BK283.out)
       have n3_ := aM_27 (b3_27 BK288.out)
       have n4_ := aM_27 (b7_27 HB.out)
       clear HO_7 HO_289001 BK283 BK288 HB
       have HO_7 := n0_
       have HO_289001 := n1_
       have BK283 := n2_
       have BK288 := n3_
       have HB := n4_
       clear n0_ n1_ n2_ n3_ n4_
       have p291 : 0 ≤ (x8_1 : Int) := of_decide_eq_true (by first | (with_reducible assumption) | assumption)
       have q291 : x8_1 < (l1.length : Int) := of_decide_eq_true (by first | (with_reducible assumption) | assumption)
       obtain ⟨ad291, e291, hx291_0, hx291_1, hx291_2, hx291_3⟩ := at_T28 HR1.out x8_1 p291 q291
       have hw291_3 := hx291_3
       have hw291_2 := hx291_2
       have hw291_1 := hx291_1
       have hw291_0 := hx291_0
       obtain rfl : ad289 = ad291 := (by injection e291)
       replace hx291_0 := (HB.out.cell (World.block_lt_of_cell? w _ hx291_0)).trans hx291_0
       replace hx291_1 := (HB.out.cell (World.block_lt_of_cell? w _ hx291_1)).trans hx291_1
       replace hx291_2 := (HB.out.cell (World.block_lt_of_cell? w _ hx291_2)).trans hx291_2
       replace hx291_3 := (HB.out.cell (World.block_lt_of_cell? w _ hx291_3)).trans hx291_3
       replace p291 := eq_true p291
       replace q291 := eq_true q291
       refine start_ (n := 8) (S := fun w' => w'.cell? ⟨gb288, 0, none⟩ = some (.int .i64 x289000_1) ∧ w'.cell? ⟨gb288, 1, none⟩ = some (.slice Ao19 x289001_1.length co19) ∧ w'.cell? (ad289.add ((x8_1).toNat * 4)) = some (.int .u8 ((rd_T28 l1 x8_1).f0)) ∧ w'.cell? ⟨(ad289.add ((x8_1).toNat * 4)).block, (ad289.add ((x8_1).toNat * 4)).off + 1, none⟩ = some (.int .u16 ((rd_T28 l1 x8_1).f1)) ∧ w'.cell? ⟨(ad289.add ((x8_1).toNat * 4)).block, (ad289.add ((x8_1).toNat * 4)).off + 2, none⟩ = some (.int .u16 ((rd_T28 l1 x8_1).f2)) ∧ w'.cell? ⟨(ad289.add ((x8_1).toNat * 4)).block, (ad289.add ((x8_1).toNat * 4)).off + 3, none⟩ = some (.int .u16 ((rd_T28 l1 x8_1).f3))) (ds := []) #[false, false, false, false, false, false, false, false] (by kernel_rfl) rfl rfl ⟨(blk_cell BK288.out 0).trans rfl, (blk_cell BK288.out 1).trans rfl, ((HB.out.cell (World.block_lt_of_cell? w _ hw291_0)).trans hw291_0), ((HB.out.cell (World.block_lt_of_cell? w _ hw291_1)).trans hw291_1), ((HB.out.cell (World.block_lt_of_cell? w _ hw291_2)).trans hw291_2), ((HB.out.cell (World.block_lt_of_cell? w _ hw291_3)).trans hw291_3)⟩ (fun hHeld => ?_); refine with_tabW proofmarklaw13_Made.tab7 proofmarklaw13_Made.bits7 (fun HT_ HW_ => ?_)
       generalize w20.drew = w21 at HO_7 HO_289001 BK283 BK288 HB hx291_0 hx291_1 hx291_2 hx291_3 hHeld ⊢
       refine pure_ (i := 1) (N := some 31) (v := ?_) (a' := ?_) #[false, true, false, false, false, false, false, false] rfl rfl (any_of HT_.out (by kernel_rfl)) (fun _ _ _ h => h) (Or.inl ⟨by rfl, ?_⟩) ?_ ?_
       rotate_left
       ·intro w'
        go_simp
        with_reducible rfl
       rotate_left
       ·simp only [Act.put, l1_27, l2_27, l3_27, i64_w, i32_w]
        rfl
       refine pure_ (i := 2) (N := some 32) (v := ?_) (a' := ?_) #[false, true, true, false, false, false, false, false] rfl rfl (any_of HT_.out (by kernel_rfl)) (fun _ _ _ h => h) (Or.inl ⟨by rfl, ?_⟩) ?_ ?_
       rotate_left
       ·intro w'
        go_simp
        with_reducible rfl
       rotate_left
       ·simp only [Act.put, l1_27, l2_27, l3_27, i64_w, i32_w]
        rfl
       refine pure_ (i := 3) (N := some 33) (v := ?_) (a' := ?_) #[false, true, true, true, false, false, false, false] rfl rfl (any_of HT_.out (by kernel_rfl)) (fun _ _ _ h => h) (Or.inl ⟨by rfl, ?_⟩) ?_ ?_
       rotate_left
       ·intro w'
        go_simp
        with_reducible rfl
       rotate_left
       ·simp only [Act.put, l1_27, l2_27, l3_27, i64_w, i32_w]
        rfl
       refine pure_ (i := 4) (N := some 34) (v := ?_) (a' := ?_) #[false, true, true, true, true, false, false, false] rfl rfl (any_of HT_.out (by kernel_rfl)) (fun _ _ _ h => h) (Or.inl ⟨by rfl, ?_⟩) ?_ ?_
       rotate_left
       ·intro w'
        go_simp
        with_reducible rfl
       rotate_left
       ·simp only [Act.put, l1_27, l2_27, l3_27, i64_w, i32_w]
        rfl
       refine take_ (i := 0) (N := some 30) (v := ?_) (a' := ?_) #[true, true, true, true, true, false, false, false] rfl rfl (take_ofW HT_.out HW_.out (by kernel_rfl)) (fun _ _ _ h => h) (Or.inl ⟨by rfl, ?_⟩) hHeld ?_ ?_
       rotate_left
       ·rintro w' ⟨s0, s1, s2, s3, s4, s5⟩
        go_simp
        with_reducible rfl
       rotate_left
       ·simp only [Act.put, l1_27, l2_27, l3_27, i64_w, i32_w]
        rfl
       refine take_ (i := 5) (N := some 35) (v := ?_) (a' := ?_) #[true, true, true, true, true, true, false, false] rfl rfl (take_ofW HT_.out HW_.out (by kernel_rfl)) (fun _ _ _ h => h) (Or.inl ⟨by rfl, ?_⟩) hHeld ?_ ?_
       rotate_left
       ·rintro w' ⟨s0, s1, s2, s3, s4, s5⟩
        go_simp
        with_reducible rfl
       rotate_left
       ·simp only [Act.put, l1_27, l2_27, l3_27, i64_w, i32_w]
        rfl
       refine one_ (i := 6) (N := some 36) #[true, true, true, true, true, true, true, false] rfl rfl (one_of HT_.out (by kernel_rfl)) (by decide) (fun K hK => ?_)
       refine goes_ Try.func15 (by kernel_rfl) rfl #[.agg #[.int .i64 x289000_1, .slice Ao19 x289001_1.length co19], .int .u16 ((rd_T28 l1 x8_1).f2)] (by rfl) rfl rfl (by (try simp only [List.map_toArray, List.map_cons, List.map_nil]); first | done | rfl | (simp only [List.length_drop, List.length_take]; rfl)) ?_
       with_reducible refine (proofmarklaw13_literal.calls x289000_1 _ _ x289001_1 ((rd_T28 l1 x8_1).f2) t292 _ ?side1 ?side2 A13.out).mono ?_
       (case side1 => repeat (first | exact (Kd.V_reads' HO_289001.out).2.2 | (with_reducible refine c3_27 ?_ _) | (with_reducible refine c4_27 ?_ _) | (with_reducible refine c5_27 ?_)))
       (case side2 => exact (Kd.V_reads' HO_289001.out).2.1)
       rintro e w22 ⟨rfl, hb⟩
       refine ⟨_, rfl, ?_⟩
       have n0_ := aM_27 (r4_27 (by (with_reducible repeat (first | apply r1_27 | apply r2_27 | apply r3_27)); exact HO_7.out) hb)
       have n1_ := aM_27 (v6_27 (by (with_reducible repeat (first | apply v1_27 | apply v2_27 | apply v3_27)); exact HO_289001.out) hb)
       have n2_ := aM_27 (b5_27 (by exact BK283.out) hb)
       have n3_ := aM_27 (b5_27 (by exact BK288.out) hb)
       have n4_ := aM_27 (b9_27 (by repeat (first | (with_reducible first | exact HB.out | apply b8_27 | apply b6_27 | apply b7_27 | refine b4_27 ?_ GE283.out | refine b4_27 ?_ GE288.out) | exact HB.out)) hb)
       clear HO_7 HO_289001 BK283 BK288 HB
       have HO_7 := n0_
       have HO_289001 := n1_
       have BK283 := n2_
       have BK288 := n3_
       have HB := n4_
       clear n0_ n1_ n2_ n3_ n4_
       (try clear hb)
       (try clear hb2)
       (try clear hk)
       (try clear hi)
       refine hK.out _ _ ⟨(blk_cell BK288.out 0).trans rfl, (blk_cell BK288.out 1).trans rfl, ((HB.out.cell (World.block_lt_of_cell? w _ hw291_0)).trans hw291_0), ((HB.out.cell (World.block_lt_of_cell? w _ hw291_1)).trans hw291_1), ((HB.out.cell (World.block_lt_of_cell? w _ hw291_2)).trans hw291_2), ((HB.out.cell (World.block_lt_of_cell? w _ hw291_3)).trans hw291_3)⟩ (fun hHeld => ?_)
       clear hK K
       refine norm_ (a' := ?_) ?_ ?_
       rotate_left
       ·show Act.put _ (some 36) _ = _
        simp only [Act.put, l1_27, l2_27, l3_27, i64_w, i32_w]
        rfl
       refine pure_ (i := 7) (N := some 10) (v := ?_) (a' := ?_) #[true, true, true, true, true, true, true, true] rfl rfl (any_of HT_.out (by kernel_rfl)) (fun _ _ _ h => h) (Or.inl ⟨by rfl, ?_⟩) ?_ ?_
       rotate_left
       ·intro w'
        go_simp
        with_reducible rfl
       rotate_left
       ·simp only [Act.put, l1_27, l2_27, l3_27, i64_w, i32_w]
        rfl
       refine done_ (done_of HT_.out (by kernel_rfl)) ?_
       try go_wp2
       have n0_ := aM_27 (r3_27 HO_7.out)
       have n1_ := aM_27 (v3_27 HO_289001.out)
       have n2_ := aM_27 (b3_27 BK283.out)
       have n3_ := aM_27 (b3_27 BK288.out)
       have n4_ := aM_27 (b7_27 HB.out)
       clear HO_7 HO_289001 BK283 BK288 HB
       have HO_7 := n0_
       have HO_289001 := n1_
       have BK283 := n2_
       have BK288 := n3_
       have HB := n4_
       clear n0_ n1_ n2_ n3_ n4_
       have p293 : 0 ≤ (x8_1 : Int) := of_decide_eq_true (by first | (with_reducible assumption) | assumption)
       have q293 : x8_1 < (l1.length : Int) := of_decide_eq_true (by first | (with_reducible assumption) | assumption)
       obtain ⟨ad293, e293, hx293_0, hx293_1, hx293_2, hx293_3⟩ := at_T28 HR1.out x8_1 p293 q293
       have hw293_3 := hx293_3
       have hw293_2 := hx293_2
       have hw293_1 := hx293_1
       have hw293_0 := hx293_0
       obtain rfl : ad289 = ad293 := (by injection e293)
       replace hx293_0 := (HB.out.cell (World.block_lt_of_cell? w _ hx293_0)).trans hx293_0
       replace hx293_1 := (HB.out.cell (World.block_lt_of_cell? w _ hx293_1)).trans hx293_1
       replace hx293_2 := (HB.out.cell (World.block_lt_of_cell? w _ hx293_2)).trans hx293_2
       replace hx293_3 := (HB.out.cell (World.block_lt_of_cell? w _ hx293_3)).trans hx293_3
       replace p293 := eq_true p293
       replace q293 := eq_true q293
       refine start_ (n := 8) (S := fun w' => w'.cell? ⟨gb288, 0, none⟩ = some (.int .i64 x289000_1) ∧ w'.cell? ⟨gb288, 1, none⟩ = some (.slice Ao19 x289001_1.length co19) ∧ w'.cell? (ad289.add ((x8_1).toNat * 4)) = some (.int .u8 ((rd_T28 l1 x8_1).f0)) ∧ w'.cell? ⟨(ad289.add ((x8_1).toNat * 4)).block, (ad289.add ((x8_1).toNat * 4)).off + 1, none⟩ = some (.int .u16 ((rd_T28 l1 x8_1).f1)) ∧ w'.cell? ⟨(ad289.add ((x8_1).toNat * 4)).block, (ad289.add ((x8_1).toNat * 4)).off + 2, none⟩ = some (.int .u16 ((rd_T28 l1 x8_1).f2)) ∧ w'.cell? ⟨(ad289.add ((x8_1).toNat * 4)).block, (ad289.add ((x8_1).toNat * 4)).off + 3, none⟩ = some (.int .u16 ((rd_T28 l1 x8_1).f3))) (ds := []) #[false, false, false, false, false, false, false, false] (by kernel_rfl) rfl rfl ⟨(blk_cell BK288.out 0).trans rfl, (blk_cell BK288.out 1).trans rfl, ((HB.out.cell (World.block_lt_of_cell? w _ hw293_0)).trans hw293_0), ((HB.out.cell (World.block_lt_of_cell? w _ hw293_1)).trans hw293_1), ((HB.out.cell (World.block_lt_of_cell? w _ hw293_2)).trans hw293_2), ((HB.out.cell (World.block_lt_of_cell? w _ hw293_3)).trans hw293_3)⟩ (fun hHeld => ?_); refine with_tabW proofmarklaw13_Made.tab8 proofmarklaw13_Made.bits8 (fun HT_ HW_ => ?_)
       generalize w22.drew = w23 at HO_7 HO_289001 BK283 BK288 HB hx293_0 hx293_1 hx293_2 hx293_3 hHeld ⊢
       refine pure_ (i := 1) (N := some 38) (v := ?_) (a' := ?_) #[false, true, false, false, false, false, false, false] rfl rfl (any_of HT_.out (by kernel_rfl)) (fun _ _ _ h => h) (Or.inl ⟨by rfl, ?_⟩) ?_ ?_
       rotate_left
       ·intro w'
        go_simp
        with_reducible rfl
       rotate_left
       ·simp only [Act.put, l1_27, l2_27, l3_27, i64_w, i32_w]
        rfl
       refine pure_ (i := 2) (N := some 39) (v := ?_) (a' := ?_) #[false, true, true, false, false, false, false, false] rfl rfl (any_of HT_.out (by kernel_rfl)) (fun _ _ _ h => h) (Or.inl ⟨by rfl, ?_⟩) ?_ ?_
       rotate_left
       ·intro w'
        go_simp
        with_reducible rfl
       rotate_left
       ·simp only [Act.put, l1_27, l2_27, l3_27, i64_w, i32_w]
        rfl
       refine pure_ (i := 3) (N := some 40) (v := ?_) (a' := ?_) #[false, true, true, true, false, false, false, false] rfl rfl (any_of HT_.out (by kernel_rfl)) (fun _ _ _ h => h) (Or.inl ⟨by rfl, ?_⟩) ?_ ?_
       rotate_left
       ·intro w'
        go_simp
        with_reducible rfl
       rotate_left
       ·simp only [Act.put, l1_27, l2_27, l3_27, i64_w, i32_w]
        rfl
       refine pure_ (i := 4) (N := some 41) (v := ?_) (a' := ?_) #[false, true, true, true, true, false, false, false] rfl rfl (any_of HT_.out (by kernel_rfl)) (fun _ _ _ h => h) (Or.inl ⟨by rfl, ?_⟩) ?_ ?_
       rotate_left
       ·intro w'
        go_simp
        with_reducible rfl
       rotate_left
       ·simp only [Act.put, l1_27, l2_27, l3_27, i64_w, i32_w]
        rfl
       refine take_ (i := 0) (N := some 37) (v := ?_) (a' := ?_) #[true, true, true, true, true, false, false, false] rfl rfl (take_ofW HT_.out HW_.out (by kernel_rfl)) (fun _ _ _ h => h) (Or.inl ⟨by rfl, ?_⟩) hHeld ?_ ?_
       rotate_left
       ·rintro w' ⟨s0, s1, s2, s3, s4, s5⟩
        go_simp
        with_reducible rfl
       rotate_left
       ·simp only [Act.put, l1_27, l2_27, l3_27, i64_w, i32_w]
        rfl
       refine take_ (i := 5) (N := some 42) (v := ?_) (a' := ?_) #[true, true, true, true, true, true, false, false] rfl rfl (take_ofW HT_.out HW_.out (by kernel_rfl)) (fun _ _ _ h => h) (Or.inl ⟨by rfl, ?_⟩) hHeld ?_ ?_
       rotate_left
       ·rintro w' ⟨s0, s1, s2, s3, s4, s5⟩
        go_simp
        with_reducible rfl
       rotate_left
       ·simp only [Act.put, l1_27, l2_27, l3_27, i64_w, i32_w]
        rfl
       refine one_ (i := 6) (N := some 43) #[true, true, true, true, true, true, true, false] rfl rfl (one_of HT_.out (by kernel_rfl)) (by decide) (fun K hK => ?_)
       refine goes_ Try.func15 (by kernel_rfl) rfl #[.agg #[.int .i64 x289000_1, .slice Ao19 x289001_1.length co19], .int .u16 ((rd_T28 l1 x8_1).f3)] (by rfl) rfl rfl (by (try simp only [List.map_toArray, List.map_cons, List.map_nil]); first | done | rfl | (simp only [List.length_drop, List.length_take]; rfl)) ?_
       with_reducible refine (proofmarklaw13_literal.calls x289000_1 _ _ x289001_1 ((rd_T28 l1 x8_1).f3) t294 _ ?side1 ?side2 A14.out).mono ?_
       (case side1 => repeat (first | exact (Kd.V_reads' HO_289001.out).2.2 | (with_reducible refine c3_27 ?_ _) | (with_reducible refine c4_27 ?_ _) | (with_reducible refine c5_27 ?_)))
       (case side2 => exact (Kd.V_reads' HO_289001.out).2.1)
       rintro e w24 ⟨rfl, hb⟩
       refine ⟨_, rfl, ?_⟩
       have n0_ := aM_27 (r4_27 (by (with_reducible repeat (first | apply r1_27 | apply r2_27 | apply r3_27)); exact HO_7.out) hb)
       have n1_ := aM_27 (v6_27 (by (with_reducible repeat (first | apply v1_27 | apply v2_27 | apply v3_27)); exact HO_289001.out) hb)
       have n2_ := aM_27 (b5_27 (by exact BK283.out) hb)
       have n3_ := aM_27 (b5_27 (by exact BK288.out) hb)
       have n4_ := aM_27 (b9_27 (by repeat (first | (with_reducible first | exact HB.out | apply b8_27 | apply b6_27 | apply b7_27 | refine b4_27 ?_ GE283.out | refine b4_27 ?_ GE288.out) | exact HB.out)) hb)
       clear HO_7 HO_289001 BK283 BK288 HB
       have HO_7 := n0_
       have HO_289001 := n1_
       have BK283 := n2_
       have BK288 := n3_
       have HB := n4_
       clear n0_ n1_ n2_ n3_ n4_
       (try clear hb)
       (try clear hb2)
       (try clear hk)
       (try clear hi)
       refine hK.out _ _ ⟨(blk_cell BK288.out 0).trans rfl, (blk_cell BK288.out 1).trans rfl, ((HB.out.cell (World.block_lt_of_cell? w _ hw293_0)).trans hw293_0), ((HB.out.cell (World.block_lt_of_cell? w _ hw293_1)).trans hw293_1), ((HB.out.cell (World.block_lt_of_cell? w _ hw293_2)).trans hw293_2), ((HB.out.cell (World.block_lt_of_cell? w _ hw293_3)).trans hw293_3)⟩ (fun hHeld => ?_)
       clear hK K
       refine norm_ (a' := ?_) ?_ ?_
       rotate_left
       ·show Act.put _ (some 43) _ = _
        simp only [Act.put, l1_27, l2_27, l3_27, i64_w, i32_w]
        rfl
       refine pure_ (i := 7) (N := some 11) (v := ?_) (a' := ?_) #[true, true, true, true, true, true, true, true] rfl rfl (any_of HT_.out (by kernel_rfl)) (fun _ _ _ h => h) (Or.inl ⟨by rfl, ?_⟩) ?_ ?_
       rotate_left
       ·intro w'
        go_simp
        with_reducible rfl
       rotate_left
       ·simp only [Act.put, l1_27, l2_27, l3_27, i64_w, i32_w]
        rfl
       refine done_ (done_of HT_.out (by kernel_rfl)) ?_
       have p295 : 0 ≤ (x8_1 : Int) := of_decide_eq_true (by first | (with_reducible assumption) | assumption)
       have q295 : x8_1 < (l1.length : Int) := of_decide_eq_true (by first | (with_reducible assumption) | assumption)
       obtain ⟨ad295, e295, hx295_0, hx295_1, hx295_2, hx295_3⟩ := at_T28 HR1.out x8_1 p295 q295
       obtain rfl : ad289 = ad295 := (by injection e295)
       replace hx295_0 := (HB.out.cell (World.block_lt_of_cell? w _ hx295_0)).trans hx295_0
       replace hx295_1 := (HB.out.cell (World.block_lt_of_cell? w _ hx295_1)).trans hx295_1
       replace hx295_2 := (HB.out.cell (World.block_lt_of_cell? w _ hx295_2)).trans hx295_2
       replace hx295_3 := (HB.out.cell (World.block_lt_of_cell? w _ hx295_3)).trans hx295_3
       replace p295 := eq_true p295
       replace q295 := eq_true q295
       have hnb25 := NB288_283.out
       have hnc25 := NB283_288.out
       obtain ⟨hcz26_0, hcz26_1, hfz26_0, hfz26_1⟩ := cells2_27 BK288.out
       try go_wp2_with (first | ((with_reducible refine gate_callee (f := 17) rfl ?_); refine goesL_ (some 56) rfl rfl Try.func17 (by kernel_rfl) rfl #[.agg #[.int .i64 x289000_1, .slice Ao19 x289001_1.length co19], .int .i64 t290, .int .i64 t292] rfl (by (try simp only [List.map_toArray, List.map_cons, List.map_nil]); first | done | rfl | (simp only [List.length_drop, List.length_take]; rfl)) ?_; (with_reducible refine (proofmarkref13_And.calls k1 x289000_1 (fun k_ => ((w.heap.size ≤ k_) ∧ (some k_ ≠ (u7 : Value).ownBlock ∧ (k_ ≠ gb283 ∧ k_ ≠ gb288)))) _ _ x289001_1 t290 t292 t296 t297 t300 _ ?side1 A16.out).mono ?_); (case side1 => exact HO_289001.out); rintro e w27 ⟨v298, rfl, ho0, hb⟩; refine ⟨_, rfl, ?_⟩; have n0_ := aM_27 (r4_27 (by (with_reducible repeat (first | apply r1_27 | apply r2_27 | apply r3_27)); exact HO_7.out) hb); have n1_ := aM_27 (v6_27 (by (with_reducible repeat (first | apply v1_27 | apply v2_27 | apply v3_27)); exact HO_289001.out) hb); have n2_ := aM_27 (Kd.V_lower (v4_27 (ok' := fun k_ => (w.heap.size ≤ k_) ∧ some k_ ≠ (u7 : Value).ownBlock ∧ k_ ≠ gb283 ∧ k_ ≠ gb288) ho0 (fun k_ hk_ => ⟨Or.elim hk_ (fun hs_ => hs_.1) (fun hn_ => (Nat.le_trans (b0_27 (by repeat (first | (with_reducible first | exact HB.out | apply b8_27 | apply b6_27 | apply b7_27 | refine b4_27 ?_ GE283.out | refine b4_27 ?_ GE288.out) | exact HB.out))) hn_)), Or.elim hk_ (fun hs_ => hs_.2.1) (fun hn_ => (Kd.fresh' (Kd.R_lt (by (with_reducible repeat (first | apply r1_27 | apply r2_27 | apply r3_27)); exact HO_7.out)) k_ hn_)), Or.elim hk_ (fun hs_ => hs_.2.2.1) (fun hn_ => (Kd.freshB (g := gb283) (o := .cells #[.int .i64 0, .slice none 0 0] 24 (0, 0)) (by exact BK283.out) k_ hn_)), Or.elim hk_ (fun hs_ => hs_.2.2.2) (fun hn_ => (Kd.freshB (g := gb288) (o := .cells #[.int .i64 x289000_1, .slice Ao19 x289001_1.length co19] 24 (0, 0)) (by exact BK288.out) k_ hn_))⟩)) (b0_27 (by repeat (first | (with_reducible first | exact HB.out | apply b8_27 | apply b6_27 | apply b7_27 | refine b4_27 ?_ GE283.out | refine b4_27 ?_ GE288.out) | exact HB.out)))); have n3_ := aM_27 (b5_27 (by exact BK283.out) hb); have n4_ := aM_27 (b5_27 (by exact BK288.out) hb); have n5_ := aM_27 (b9_27 (by repeat (first | (with_reducible first | exact HB.out | apply b8_27 | apply b6_27 | apply b7_27 | refine b4_27 ?_ GE283.out | refine b4_27 ?_ GE288.out) | exact HB.out)) hb); clear HO_7 HO_289001 BK283 BK288 HB; have HO_7 := n0_; have HO_289001 := n1_; have HO299 := n2_; have BK283 := n3_; have BK288 := n4_; have HB := n5_; clear n0_ n1_ n2_ n3_ n4_ n5_; (try clear hb); (try clear hb2); (try clear hk); (try clear hi); (try clear ho0); obtain ⟨hcz28_0, hcz28_1, hfz28_0, hfz28_1⟩ := cells2_27 BK288.out; obtain ⟨Ao29, co29, eo29⟩ := Kd.V_slice HO299.out; subst eo29) | ((with_reducible refine gate_builtin (b := .append) (xs := #[.tmp 87, .tmp 89]) rfl ?_); at_builtin; refine Kd.R_append (Kd.int .i64) (w0 := w) w.heap.size rfl (.tmp 87) (.tmp 89) 33 3 (.int .i64 0) 8 rfl Try.underlying33 info3 rfl (by decide) (by omega) u7 x7_1 t300 [.int .i64 t300] (fun k_ => (w.heap.size ≤ k_)) (fun _ => False) rfl (by first | (go_simp; done) | (go_simp; rfl)) ?aP (fun _ hk => hk.elim) ?aF ?aO ?aB ?aS ?aL ?_; (case aP => exact rfl); (case aB => exact (by repeat (first | (with_reducible first | exact HB.out | apply b8_27 | apply b6_27 | apply b7_27 | refine b4_27 ?_ GE283.out | refine b4_27 ?_ GE288.out) | exact HB.out))); (case aF => exact (fun k_ hk => (Nat.le_trans (b0_27 (by repeat (first | (with_reducible first | exact HB.out | apply b8_27 | apply b6_27 | apply b7_27 | refine b4_27 ?_ GE283.out | refine b4_27 ?_ GE288.out) | exact HB.out))) hk))); (case aO => exact (by (with_reducible repeat (first | apply r1_27 | apply r2_27 | apply r3_27)); exact Kd.R_mono (Kd.R_far (p := ⟨gb288, 1, none⟩) (Kd.R_far (p := ⟨gb288, 0, none⟩) (Kd.R_types HO_7.out BK288.out (by decide)) (fun _ hk => hk.2) (.int .i64 t296)) (fun _ hk => hk.2) (.slice Ao29 t297.length co29)) (fun _ hk => hk.1))); (case aS => exact (b0_27 (by repeat (first | (with_reducible first | exact HB.out | apply b8_27 | apply b6_27 | apply b7_27 | refine b4_27 ?_ GE283.out | refine b4_27 ?_ GE288.out) | exact HB.out)))); (case aL => have := LMc17.out; omega); intro v302 w30 ho hb hg hat; rw [← Ny301.out] at ho; have n0_ := aM_27 (Kd.V_afterv (ok := (fun k_ => (w.heap.size ≤ k_) ∧ k_ ≠ gb283 ∧ k_ ≠ gb288)) (by (with_reducible repeat (first | apply v1_27 | apply v2_27 | apply v3_27)); exact v4_27 (v5_27 (p := ⟨gb288, 1, none⟩) (v5_27 (p := ⟨gb288, 0, none⟩) (v4_27 HO_289001.out (fun k_ hk => (⟨hk, hk.2.2.2⟩ : _ ∧ k_ ≠ gb288))) (fun _ hk => hk.2) (.int .i64 t296)) (fun _ hk => hk.2) (.slice Ao29 t297.length co29)) (fun _ hk => ⟨⟨hk.1.1, ⟨hk.1.2.2.1, hk.1.2.2.2⟩⟩, hk.1.2.1⟩)) hg hat); have n1_ := aM_27 (blk_grown (g := gb283) (o := .cells #[.int .i64 0, .slice none 0 0] 24 (0, 0)) (by (with_reducible repeat (first | refine b1_27 ?_ _ | refine b3_27 ?_ | refine b2_27 ?_ _)); refine blk_far ?_ NB283_288.out _; (with_reducible repeat (first | refine b1_27 ?_ _ | refine b3_27 ?_ | refine b2_27 ?_ _)); refine blk_far ?_ NB283_288.out _; (with_reducible repeat (first | refine b1_27 ?_ _ | refine b3_27 ?_ | refine b2_27 ?_ _)); exact BK283.out) hg (Kd.R_ne HO_7.out BK283.out (by decide))); have n2_ := aM_27 (blk_grown (g := gb288) (o := .cells #[.int .i64 t296, .slice Ao29 t297.length co29] 24 (0, 0)) (by (with_reducible repeat (first | refine b1_27 ?_ _ | refine b3_27 ?_ | refine b2_27 ?_ _)); refine blk_put (cs := #[.int .i64 t296, .slice Ao19 x289001_1.length co19]) ?_ 1 _ rfl; (with_reducible repeat (first | refine b1_27 ?_ _ | refine b3_27 ?_ | refine b2_27 ?_ _)); refine blk_put (cs := #[.int .i64 x289000_1, .slice Ao19 x289001_1.length co19]) ?_ 0 _ rfl; (with_reducible repeat (first | refine b1_27 ?_ _ | refine b3_27 ?_ | refine b2_27 ?_ _)); exact BK288.out) hg (Kd.R_ne HO_7.out BK288.out (by decide))); have n3_ := aM_27 (Kd.V_afterv (ok := (fun k_ => (w.heap.size ≤ k_) ∧ k_ ≠ gb283 ∧ k_ ≠ gb288)) (by (with_reducible repeat (first | apply v1_27 | apply v2_27 | apply v3_27)); exact v4_27 (v5_27 (p := ⟨gb288, 1, none⟩) (v5_27 (p := ⟨gb288, 0, none⟩) (v4_27 HO299.out (fun k_ hk => (⟨hk, hk.2.2.2⟩ : _ ∧ k_ ≠ gb288))) (fun _ hk => hk.2) (.int .i64 t296)) (fun _ hk => hk.2) (.slice Ao29 t297.length co29)) (fun _ hk => ⟨⟨hk.1.1, ⟨hk.1.2.2.1, hk.1.2.2.2⟩⟩, hk.1.2.1⟩)) hg hat); have n4_ := aM_27 (hb); have n5_ := aM_27 (ho); clear HO_289001 BK283 BK288 HO299 HB HO_7; have HO_289001 := n0_; have BK283 := n1_; have BK288 := n2_; have HO299 := n3_; have HB := n4_; have HO303 := n5_; clear n0_ n1_ n2_ n3_ n4_ n5_; clear ho hb hg hat))
       go_roundg k1
       case measure => have := HK1.out; omega
       case rel => exact ⟨(y301), (wrap64 (x8_1 + 1)), (t296), (t297), (.slice Ao29 t297.length co29), (by first | rfl | (simp; done) | (simp [*]; done)), H', ⟨by have := HK1.out; omega⟩, ⟨by (with_reducible repeat (first | apply r1_27 | apply r2_27 | apply r3_27)); exact HO303.out⟩, ⟨by (with_reducible repeat (first | apply v1_27 | apply v2_27 | apply v3_27)); exact v4_27 HO299.out (fun _ hk => ⟨hk.1.1, ⟨hk.2, ⟨hk.1.2.1, hk.1.2.2⟩⟩⟩)⟩, ⟨by (with_reducible repeat (first | refine b1_27 ?_ _ | refine b3_27 ?_ | refine b2_27 ?_ _)); exact BK283.out⟩, ⟨by (with_reducible repeat (first | refine b1_27 ?_ _ | refine b3_27 ?_ | refine b2_27 ?_ _)); exact BK288.out⟩, ⟨by repeat (first | (with_reducible first | exact HB.out | apply b8_27 | apply b6_27 | apply b7_27 | refine b4_27 ?_ GE283.out | refine b4_27 ?_ GE288.out) | exact HB.out)⟩⟩
      ·rw [if_neg c17] at H
       exact absurd H (by simp)
     ·rw [if_neg c15] at H
      have c15b0 : ((Int.tmod ((rd_T28 l1 x8_1).f0) 4) == 0) = false := beq_eq_false_iff_ne.mpr c15
      have c15b1 : ((Int.tmod ((rd_T28 l1 x8_1).f0) 4) != 0) = true := bne_iff_ne.mpr c15
      by_cases c31 : (Int.tmod ((rd_T28 l1 x8_1).f0) 4) = 1
      ·rw [if_pos c31] at H
       have c31b0 : ((Int.tmod ((rd_T28 l1 x8_1).f0) 4) == 1) = true := beq_iff_eq.mpr c31
       have c31b1 : ((Int.tmod ((rd_T28 l1 x8_1).f0) 4) != 1) = false := bne_eq_false_iff_eq.mpr c31
       clear c31
       replace H := Option.bind_eq_some_iff.mp H
       obtain ⟨⟨t304, t305, t308⟩, A320, H⟩ := H
       replace H : (if x7_1.length < 17592186044416 then (proofmarklaw13_Made.l0 k1 l1 (x7_1 ++ [t308]) (wrap64 (x8_1 + 1)) t304 t305) else (none)) = some (r1, r2, r3) := H
       have A32 := aM_27 A320
       clear A320
       by_cases c33 : x7_1.length < 17592186044416
       ·rw [if_pos c33] at H
        have LMc33 := aM_27 c33
        clear c33
        obtain ⟨y309, hy309⟩ : ∃ y_ : List Int, y_ = (x7_1 ++ [t308]) := ⟨_, rfl⟩
        replace H : (proofmarklaw13_Made.l0 k1 l1 y309 (wrap64 (x8_1 + 1)) t304 t305) = some (r1, r2, r3) := by first | (rw [hy309]; with_reducible exact H) | (have H2_ := (Option.bind_some _ _).symm.trans H; rw [hy309]; with_reducible exact H2_) | (have H2_ := (Option.bind_some _ _).symm.trans H; with_reducible exact H2_) | with_reducible exact H | (rw [hy309]; exact H) | exact H
        have Ny309 := aM_27 hy309
        clear hy309
        have H' := aM_27 H
        clear H
        try go_wp2
        have n0_ := aM_27 (r3_27 HO_7.out)
        have n1_ := aM_27 (v3_27 HO_289001.out)
        have n2_ := aM_27 (b3_27 BK283.out)
        have n3_ := aM_27 (b3_27 BK288.out)
        have n4_ := aM_27 (b7_27 HB.out)
        clear HO_7 HO_289001 BK283 BK288 HB
        have HO_7 := n0_
        have HO_289001 := n1_
        have BK283 := n2_
        have BK288 := n3_
        have HB := n4_
        clear n0_ n1_ n2_ n3_ n4_
        have p289 : 0 ≤ (x8_1 : Int) := of_decide_eq_true (by first | (with_reducible assumption) | assumption)
        have q289 : x8_1 < (l1.length : Int) := of_decide_eq_true (by first | (with_reducible assumption) | assumption)
        obtain ⟨ad289, e289, hx289_0, hx289_1, hx289_2, hx289_3⟩ := at_T28 HR1.out x8_1 p289 q289
        have hw289_3 := hx289_3
        have hw289_2 := hx289_2
        have hw289_1 := hx289_1
        have hw289_0 := hx289_0
        cases e289
        replace hx289_0 := (HB.out.cell (World.block_lt_of_cell? w _ hx289_0)).trans hx289_0
        replace hx289_1 := (HB.out.cell (World.block_lt_of_cell? w _ hx289_1)).trans hx289_1
        replace hx289_2 := (HB.out.cell (World.block_lt_of_cell? w _ hx289_2)).trans hx289_2
        replace hx289_3 := (HB.out.cell (World.block_lt_of_cell? w _ hx289_3)).trans hx289_3
        replace p289 := eq_true p289
        replace q289 := eq_true q289
        obtain ⟨Ao35, co35, eo35⟩ := Kd.V_slice HO_289001.out
        (first | subst eo35 | (injection eo35 with f1_ f2_ f3_; have f4_ := f1_.symm; have f5_ := f3_.symm; clear f1_ f2_ f3_; subst f4_; subst f5_))
        refine start_ (n := 8) (S := fun w' => w'.cell? ⟨gb288, 0, none⟩ = some (.int .i64 x289000_1) ∧ w'.cell? ⟨gb288, 1, none⟩ = some (.slice Ao35 x289001_1.length co35) ∧ w'.cell? (ad289.add ((x8_1).toNat * 4)) = some (.int .u8 ((rd_T28 l1 x8_1).f0)) ∧ w'.cell? ⟨(ad289.add ((x8_1).toNat * 4)).block, (ad289.add ((x8_1).toNat * 4)).off + 1, none⟩ = some (.int .u16 ((rd_T28 l1 x8_1).f1)) ∧ w'.cell? ⟨(ad289.add ((x8_1).toNat * 4)).block, (ad289.add ((x8_1).toNat * 4)).off + 2, none⟩ = some (.int .u16 ((rd_T28 l1 x8_1).f2)) ∧ w'.cell? ⟨(ad289.add ((x8_1).toNat * 4)).block, (ad289.add ((x8_1).toNat * 4)).off + 3, none⟩ = some (.int .u16 ((rd_T28 l1 x8_1).f3))) (ds := []) #[false, false, false, false, false, false, false, false] (by kernel_rfl) rfl rfl ⟨(blk_cell BK288.out 0).trans rfl, (blk_cell BK288.out 1).trans rfl, ((HB.out.cell (World.block_lt_of_cell? w _ hw289_0)).trans hw289_0), ((HB.out.cell (World.block_lt_of_cell? w _ hw289_1)).trans hw289_1), ((HB.out.cell (World.block_lt_of_cell? w _ hw289_2)).trans hw289_2), ((HB.out.cell (World.block_lt_of_cell? w _ hw289_3)).trans hw289_3)⟩ (fun hHeld => ?_); refine with_tabW proofmarklaw13_Made.tab6 proofmarklaw13_Made.bits6 (fun HT_ HW_ => ?_)
        generalize wr.drew = w34 at HO_7 HO_289001 BK283 BK288 HB hx289_0 hx289_1 hx289_2 hx289_3 hHeld ⊢
        refine pure_ (i := 1) (N := some 24) (v := ?_) (a' := ?_) #[false, true, false, false, false, false, false, false] rfl rfl (any_of HT_.out (by kernel_rfl)) (fun _ _ _ h => h) (Or.inl ⟨by rfl, ?_⟩) ?_ ?_
        rotate_left
        ·intro w'
         go_simp
         with_reducible rfl
        rotate_left
        ·simp only [Act.put, l1_27, l2_27, l3_27, i64_w, i32_w]
         rfl
        refine pure_ (i := 2) (N := some 25) (v := ?_) (a' := ?_) #[false, true, true, false, false, false, false, false] rfl rfl (any_of HT_.out (by kernel_rfl)) (fun _ _ _ h => h) (Or.inl ⟨by rfl, ?_⟩) ?_ ?_
        rotate_left
        ·intro w'
         go_simp
         with_reducible rfl
        rotate_left
        ·simp only [Act.put, l1_27, l2_27, l3_27, i64_w, i32_w]
         rfl
        refine pure_ (i := 3) (N := some 26) (v := ?_) (a' := ?_) #[false, true, true, true, false, false, false, false] rfl rfl (any_of HT_.out (by kernel_rfl)) (fun _ _ _ h => h) (Or.inl ⟨by rfl, ?_⟩) ?_ ?_
        rotate_left
        ·intro w'
         go_simp
         with_reducible rfl
        rotate_left
        ·simp only [Act.put, l1_27, l2_27, l3_27, i64_w, i32_w]
         rfl
        refine pure_ (i := 4) (N := some 27) (v := ?_) (a' := ?_) #[false, true, true, true, true, false, false, false] rfl rfl (any_of HT_.out (by kernel_rfl)) (fun _ _ _ h => h) (Or.inl ⟨by rfl, ?_⟩) ?_ ?_
        rotate_left
        ·intro w'
         go_simp
         with_reducible rfl
        rotate_left
        ·simp only [Act.put, l1_27, l2_27, l3_27, i64_w, i32_w]
         rfl
        refine take_ (i := 0) (N := some 23) (v := ?_) (a' := ?_) #[true, true, true, true, true, false, false, false] rfl rfl (take_ofW HT_.out HW_.out (by kernel_rfl)) (fun _ _ _ h => h) (Or.inl ⟨by rfl, ?_⟩) hHeld ?_ ?_
        rotate_left
        ·rintro w' ⟨s0, s1, s2, s3, s4, s5⟩
         go_simp
         with_reducible rfl
        rotate_left
        ·simp only [Act.put, l1_27, l2_27, l3_27, i64_w, i32_w]
         rfl
        refine take_ (i := 5) (N := some 28) (v := ?_) (a' := ?_) #[true, true, true, true, true, true, false, false] rfl rfl (take_ofW HT_.out HW_.out (by kernel_rfl)) (fun _ _ _ h => h) (Or.inl ⟨by rfl, ?_⟩) hHeld ?_ ?_
        rotate_left
        ·rintro w' ⟨s0, s1, s2, s3, s4, s5⟩
         go_simp
         with_reducible rfl
        rotate_left
        ·simp only [Act.put, l1_27, l2_27, l3_27, i64_w, i32_w]
         rfl
        refine one_ (i := 6) (N := some 29) #[true, true, true, true, true, true, true, false] rfl rfl (one_of HT_.out (by kernel_rfl)) (by decide) (fun K hK => ?_)
        refine goes_ Try.func15 (by kernel_rfl) rfl #[.agg #[.int .i64 x289000_1, .slice Ao35 x289001_1.length co35], .int .u16 ((rd_T28 l1 x8_1).f1)] (by rfl) rfl rfl (by (try simp only [List.map_toArray, List.map_cons, List.map_nil]); first | done | rfl | (simp only [List.length_drop, List.length_take]; rfl)) ?_
        with_reducible refine (proofmarklaw13_literal.calls x289000_1 _ _ x289001_1 ((rd_T28 l1 x8_1).f1) t290 _ ?side1 ?side2 A12.out).mono ?_
        (case side1 => repeat (first | exact (Kd.V_reads' HO_289001.out).2.2 | (with_reducible refine c3_27 ?_ _) | (with_reducible refine c4_27 ?_ _) | (with_reducible refine c5_27 ?_)))
        (case side2 => exact (Kd.V_reads' HO_289001.out).2.1)
        rintro e w36 ⟨rfl, hb⟩
        refine ⟨_, rfl, ?_⟩
        have n0_ := aM_27 (r4_27 (by (with_reducible repeat (first | apply r1_27 | apply r2_27 | apply r3_27)); exact HO_7.out) hb)
        have n1_ := aM_27 (v6_27 (by (with_reducible repeat (first | apply v1_27 | apply v2_27 | apply v3_27)); exact HO_289001.out) hb)
        have n2_ := aM_27 (b5_27 (by exact BK283.out) hb)
        have n3_ := aM_27 (b5_27 (by exact BK288.out) hb)
        have n4_ := aM_27 (b9_27 (by repeat (first | (with_reducible first | exact HB.out | apply b8_27 | apply b6_27 | apply b7_27 | refine b4_27 ?_ GE283.out | refine b4_27 ?_ GE288.out) | exact HB.out)) hb)
        clear HO_7 HO_289001 BK283 BK288 HB
        have HO_7 := n0_
        have HO_289001 := n1_
        have BK283 := n2_
        have BK288 := n3_
        have HB := n4_
        clear n0_ n1_ n2_ n3_ n4_
        (try clear hb)
        (try clear hb2)
        (try clear hk)
        (try clear hi)
        refine hK.out _ _ ⟨(blk_cell BK288.out 0).trans rfl, (blk_cell BK288.out 1).trans rfl, ((HB.out.cell (World.block_lt_of_cell? w _ hw289_0)).trans hw289_0), ((HB.out.cell (World.block_lt_of_cell? w _ hw289_1)).trans hw289_1), ((HB.out.cell (World.block_lt_of_cell? w _ hw289_2)).trans hw289_2), ((HB.out.cell (World.block_lt_of_cell? w _ hw289_3)).trans hw289_3)⟩ (fun hHeld => ?_)
        clear hK K
        refine norm_ (a' := ?_) ?_ ?_
        rotate_left
        ·show Act.put _ (some 29) _ = _
         simp only [Act.put, l1_27, l2_27, l3_27, i64_w, i32_w]
         rfl
        refine pure_ (i := 7) (N := some 9) (v := ?_) (a' := ?_) #[true, true, true, true, true, true, true, true] rfl rfl (any_of HT_.out (by kernel_rfl)) (fun _ _ _ h => h) (Or.inl ⟨by rfl, ?_⟩) ?_ ?_
        rotate_left
        ·intro w'
         go_simp
         with_reducible rfl
        rotate_left
        ·simp only [Act.put, l1_27, l2_27, l3_27, i64_w, i32_w]
         rfl
        refine done_ (done_of HT_.out (by kernel_rfl)) ?_
        try go_wp2
        have n0_ := aM_27 (r3_27 HO_7.out)
        have n1_ := aM_27 (v3_27 HO_289001.out)
        have n2_ := aM_27 (b3_27 BK283.out)
        have n3_ := aM_27 (b3_27 BK288.out)
        have n4_ := aM_27 (b7_27 HB.out)
        clear HO_7 HO_289001 BK283 BK288 HB
        have HO_7 := n0_
        have HO_289001 := n1_
        have BK283 := n2_
        have BK288 := n3_
        have HB := n4_
        clear n0_ n1_ n2_ n3_ n4_
        have p291 : 0 ≤ (x8_1 : Int) := of_decide_eq_true (by first | (with_reducible assumption) | assumption)
        have q291 : x8_1 < (l1.length : Int) := of_decide_eq_true (by first | (with_reducible assumption) | assumption)
        obtain ⟨ad291, e291, hx291_0, hx291_1, hx291_2, hx291_3⟩ := at_T28 HR1.out x8_1 p291 q291
        have hw291_3 := hx291_3
        have hw291_2 := hx291_2
        have hw291_1 := hx291_1
        have hw291_0 := hx291_0
        obtain rfl : ad289 = ad291 := (by injection e291)
        replace hx291_0 := (HB.out.cell (World.block_lt_of_cell? w _ hx291_0)).trans hx291_0
        replace hx291_1 := (HB.out.cell (World.block_lt_of_cell? w _ hx291_1)).trans hx291_1
        replace hx291_2 := (HB.out.cell (World.block_lt_of_cell? w _ hx291_2)).trans hx291_2
        replace hx291_3 := (HB.out.cell (World.block_lt_of_cell? w _ hx291_3)).trans hx291_3
        replace p291 := eq_true p291
        replace q291 := eq_true q291
        refine start_ (n := 8) (S := fun w' => w'.cell? ⟨gb288, 0, none⟩ = some (.int .i64 x289000_1) ∧ w'.cell? ⟨gb288, 1, none⟩ = some (.slice Ao35 x289001_1.length co35) ∧ w'.cell? (ad289.add ((x8_1).toNat * 4)) = some (.int .u8 ((rd_T28 l1 x8_1).f0)) ∧ w'.cell? ⟨(ad289.add ((x8_1).toNat * 4)).block, (ad289.add ((x8_1).toNat * 4)).off + 1, none⟩ = some (.int .u16 ((rd_T28 l1 x8_1).f1)) ∧ w'.cell? ⟨(ad289.add ((x8_1).toNat * 4)).block, (ad289.add ((x8_1).toNat * 4)).off + 2, none⟩ = some (.int .u16 ((rd_T28 l1 x8_1).f2)) ∧ w'.cell? ⟨(ad289.add ((x8_1).toNat * 4)).block, (ad289.add ((x8_1).toNat * 4)).off + 3, none⟩ = some (.int .u16 ((rd_T28 l1 x8_1).f3))) (ds := []) #[false, false, false, false, false, false, false, false] (by kernel_rfl) rfl rfl ⟨(blk_cell BK288.out 0).trans rfl, (blk_cell BK288.out 1).trans rfl, ((HB.out.cell (World.block_lt_of_cell? w _ hw291_0)).trans hw291_0), ((HB.out.cell (World.block_lt_of_cell? w _ hw291_1)).trans hw291_1), ((HB.out.cell (World.block_lt_of_cell? w _ hw291_2)).trans hw291_2), ((HB.out.cell (World.block_lt_of_cell? w _ hw291_3)).trans hw291_3)⟩ (fun hHeld => ?_); refine with_tabW proofmarklaw13_Made.tab7 proofmarklaw13_Made.bits7 (fun HT_ HW_ => ?_)
        generalize w36.drew = w37 at HO_7 HO_289001 BK283 BK288 HB hx291_0 hx291_1 hx291_2 hx291_3 hHeld ⊢
        refine pure_ (i := 1) (N := some 31) (v := ?_) (a' := ?_) #[false, true, false, false, false, false, false, false] rfl rfl (any_of HT_.out (by kernel_rfl)) (fun _ _ _ h => h) (Or.inl ⟨by rfl, ?_⟩) ?_ ?_
        rotate_left
        ·intro w'
         go_simp
         with_reducible rfl
        rotate_left
        ·simp only [Act.put, l1_27, l2_27, l3_27, i64_w, i32_w]
         rfl
        refine pure_ (i := 2) (N := some 32) (v := ?_) (a' := ?_) #[false, true, true, false, false, false, false, false] rfl rfl (any_of HT_.out (by kernel_rfl)) (fun _ _ _ h => h) (Or.inl ⟨by rfl, ?_⟩) ?_ ?_
        rotate_left
        ·intro w'
         go_simp
         with_reducible rfl
        rotate_left
        ·simp only [Act.put, l1_27, l2_27, l3_27, i64_w, i32_w]
         rfl
        refine pure_ (i := 3) (N := some 33) (v := ?_) (a' := ?_) #[false, true, true, true, false, false, false, false] rfl rfl (any_of HT_.out (by kernel_rfl)) (fun _ _ _ h => h) (Or.inl ⟨by rfl, ?_⟩) ?_ ?_
        rotate_left
        ·intro w'
         go_simp
         with_reducible rfl
        rotate_left
        ·simp only [Act.put, l1_27, l2_27, l3_27, i64_w, i32_w]
         rfl
        refine pure_ (i := 4) (N := some 34) (v := ?_) (a' := ?_) #[false, true, true, true, true, false, false, false] rfl rfl (any_of HT_.out (by kernel_rfl)) (fun _ _ _ h => h) (Or.inl ⟨by rfl, ?_⟩) ?_ ?_
        rotate_left
        ·intro w'
         go_simp
         with_reducible rfl
        rotate_left
        ·simp only [Act.put, l1_27, l2_27, l3_27, i64_w, i32_w]
         rfl
        refine take_ (i := 0) (N := some 30) (v := ?_) (a' := ?_) #[true, true, true, true, true, false, false, false] rfl rfl (take_ofW HT_.out HW_.out (by kernel_rfl)) (fun _ _ _ h => h) (Or.inl ⟨by rfl, ?_⟩) hHeld ?_ ?_
        rotate_left
        ·rintro w' ⟨s0, s1, s2, s3, s4, s5⟩
         go_simp
         with_reducible rfl
        rotate_left
        ·simp only [Act.put, l1_27, l2_27, l3_27, i64_w, i32_w]
         rfl
        refine take_ (i := 5) (N := some 35) (v := ?_) (a' := ?_) #[true, true, true, true, true, true, false, false] rfl rfl (take_ofW HT_.out HW_.out (by kernel_rfl)) (fun _ _ _ h => h) (Or.inl ⟨by rfl, ?_⟩) hHeld ?_ ?_
        rotate_left
        ·rintro w' ⟨s0, s1, s2, s3, s4, s5⟩
         go_simp
         with_reducible rfl
        rotate_left
        ·simp only [Act.put, l1_27, l2_27, l3_27, i64_w, i32_w]
         rfl
        refine one_ (i := 6) (N := some 36) #[true, true, true, true, true, true, true, false] rfl rfl (one_of HT_.out (by kernel_rfl)) (by decide) (fun K hK => ?_)
        refine goes_ Try.func15 (by kernel_rfl) rfl #[.agg #[.int .i64 x289000_1, .slice Ao35 x289001_1.length co35], .int .u16 ((rd_T28 l1 x8_1).f2)] (by rfl) rfl rfl (by (try simp only [List.map_toArray, List.map_cons, List.map_nil]); first | done | rfl | (simp only [List.length_drop, List.length_take]; rfl)) ?_
        with_reducible refine (proofmarklaw13_literal.calls x289000_1 _ _ x289001_1 ((rd_T28 l1 x8_1).f2) t292 _ ?side1 ?side2 A13.out).mono ?_
        (case side1 => repeat (first | exact (Kd.V_reads' HO_289001.out).2.2 | (with_reducible refine c3_27 ?_ _) | (with_reducible refine c4_27 ?_ _) | (with_reducible refine c5_27 ?_)))
        (case side2 => exact (Kd.V_reads' HO_289001.out).2.1)
        rintro e w38 ⟨rfl, hb⟩
        refine ⟨_, rfl, ?_⟩
        have n0_ := aM_27 (r4_27 (by (with_reducible repeat (first | apply r1_27 | apply r2_27 | apply r3_27)); exact HO_7.out) hb)
        have n1_ := aM_27 (v6_27 (by (with_reducible repeat (first | apply v1_27 | apply v2_27 | apply v3_27)); exact HO_289001.out) hb)
        have n2_ := aM_27 (b5_27 (by exact BK283.out) hb)
        have n3_ := aM_27 (b5_27 (by exact BK288.out) hb)
        have n4_ := aM_27 (b9_27 (by repeat (first | (with_reducible first | exact HB.out | apply b8_27 | apply b6_27 | apply b7_27 | refine b4_27 ?_ GE283.out | refine b4_27 ?_ GE288.out) | exact HB.out)) hb)
        clear HO_7 HO_289001 BK283 BK288 HB
        have HO_7 := n0_
        have HO_289001 := n1_
        have BK283 := n2_
        have BK288 := n3_
        have HB := n4_
        clear n0_ n1_ n2_ n3_ n4_
        (try clear hb)
        (try clear hb2)
        (try clear hk)
        (try clear hi)
        refine hK.out _ _ ⟨(blk_cell BK288.out 0).trans rfl, (blk_cell BK288.out 1).trans rfl, ((HB.out.cell (World.block_lt_of_cell? w _ hw291_0)).trans hw291_0), ((HB.out.cell (World.block_lt_of_cell? w _ hw291_1)).trans hw291_1), ((HB.out.cell (World.block_lt_of_cell? w _ hw291_2)).trans hw291_2), ((HB.out.cell (World.block_lt_of_cell? w _ hw291_3)).trans hw291_3)⟩ (fun hHeld => ?_)
        clear hK K
        refine norm_ (a' := ?_) ?_ ?_
        rotate_left
        ·show Act.put _ (some 36) _ = _
         simp only [Act.put, l1_27, l2_27, l3_27, i64_w, i32_w]
         rfl
        refine pure_ (i := 7) (N := some 10) (v := ?_) (a' := ?_) #[true, true, true, true, true, true, true, true] rfl rfl (any_of HT_.out (by kernel_rfl)) (fun _ _ _ h => h) (Or.inl ⟨by rfl, ?_⟩) ?_ ?_
        rotate_left
        ·intro w'
         go_simp
         with_reducible rfl
        rotate_left
        ·simp only [Act.put, l1_27, l2_27, l3_27, i64_w, i32_w]
         rfl
        refine done_ (done_of HT_.out (by kernel_rfl)) ?_
        try go_wp2
        have n0_ := aM_27 (r3_27 HO_7.out)
        have n1_ := aM_27 (v3_27 HO_289001.out)
        have n2_ := aM_27 (b3_27 BK283.out)
        have n3_ := aM_27 (b3_27 BK288.out)
        have n4_ := aM_27 (b7_27 HB.out)
        clear HO_7 HO_289001 BK283 BK288 HB
        have HO_7 := n0_
        have HO_289001 := n1_
        have BK283 := n2_
        have BK288 := n3_
        have HB := n4_
        clear n0_ n1_ n2_ n3_ n4_
        have p293 : 0 ≤ (x8_1 : Int) := of_decide_eq_true (by first | (with_reducible assumption) | assumption)
        have q293 : x8_1 < (l1.length : Int) := of_decide_eq_true (by first | (with_reducible assumption) | assumption)
        obtain ⟨ad293, e293, hx293_0, hx293_1, hx293_2, hx293_3⟩ := at_T28 HR1.out x8_1 p293 q293
        have hw293_3 := hx293_3
        have hw293_2 := hx293_2
        have hw293_1 := hx293_1
        have hw293_0 := hx293_0
        obtain rfl : ad289 = ad293 := (by injection e293)
        replace hx293_0 := (HB.out.cell (World.block_lt_of_cell? w _ hx293_0)).trans hx293_0
        replace hx293_1 := (HB.out.cell (World.block_lt_of_cell? w _ hx293_1)).trans hx293_1
        replace hx293_2 := (HB.out.cell (World.block_lt_of_cell? w _ hx293_2)).trans hx293_2
        replace hx293_3 := (HB.out.cell (World.block_lt_of_cell? w _ hx293_3)).trans hx293_3
        replace p293 := eq_true p293
        replace q293 := eq_true q293
        refine start_ (n := 8) (S := fun w' => w'.cell? ⟨gb288, 0, none⟩ = some (.int .i64 x289000_1) ∧ w'.cell? ⟨gb288, 1, none⟩ = some (.slice Ao35 x289001_1.length co35) ∧ w'.cell? (ad289.add ((x8_1).toNat * 4)) = some (.int .u8 ((rd_T28 l1 x8_1).f0)) ∧ w'.cell? ⟨(ad289.add ((x8_1).toNat * 4)).block, (ad289.add ((x8_1).toNat * 4)).off + 1, none⟩ = some (.int .u16 ((rd_T28 l1 x8_1).f1)) ∧ w'.cell? ⟨(ad289.add ((x8_1).toNat * 4)).block, (ad289.add ((x8_1).toNat * 4)).off + 2, none⟩ = some (.int .u16 ((rd_T28 l1 x8_1).f2)) ∧ w'.cell? ⟨(ad289.add ((x8_1).toNat * 4)).block, (ad289.add ((x8_1).toNat * 4)).off + 3, none⟩ = some (.int .u16 ((rd_T28 l1 x8_1).f3))) (ds := []) #[false, false, false, false, false, false, false, false] (by kernel_rfl) rfl rfl ⟨(blk_cell BK288.out 0).trans rfl, (blk_cell BK288.out 1).trans rfl, ((HB.out.cell (World.block_lt_of_cell? w _ hw293_0)).trans hw293_0), ((HB.out.cell (World.block_lt_of_cell? w _ hw293_1)).trans hw293_1), ((HB.out.cell (World.block_lt_of_cell? w _ hw293_2)).trans hw293_2), ((HB.out.cell (World.block_lt_of_cell? w _ hw293_3)).trans hw293_3)⟩ (fun hHeld => ?_); refine with_tabW proofmarklaw13_Made.tab8 proofmarklaw13_Made.bits8 (fun HT_ HW_ => ?_)
        generalize w38.drew = w39 at HO_7 HO_289001 BK283 BK288 HB hx293_0 hx293_1 hx293_2 hx293_3 hHeld ⊢
        refine pure_ (i := 1) (N := some 38) (v := ?_) (a' := ?_) #[false, true, false, false, false, false, false, false] rfl rfl (any_of HT_.out (by kernel_rfl)) (fun _ _ _ h => h) (Or.inl ⟨by rfl, ?_⟩) ?_ ?_
        rotate_left
        ·intro w'
         go_simp
         with_reducible rfl
        rotate_left
        ·simp only [Act.put, l1_27, l2_27, l3_27, i64_w, i32_w]
         rfl
        refine pure_ (i := 2) (N := some 39) (v := ?_) (a' := ?_) #[false, true, true, false, false, false, false, false] rfl rfl (any_of HT_.out (by kernel_rfl)) (fun _ _ _ h => h) (Or.inl ⟨by rfl, ?_⟩) ?_ ?_
        rotate_left
        ·intro w'
         go_simp
         with_reducible rfl
        rotate_left
        ·simp only [Act.put, l1_27, l2_27, l3_27, i64_w, i32_w]
         rfl
        refine pure_ (i := 3) (N := some 40) (v := ?_) (a' := ?_) #[false, true, true, true, false, false, false, false] rfl rfl (any_of HT_.out (by kernel_rfl)) (fun _ _ _ h => h) (Or.inl ⟨by rfl, ?_⟩) ?_ ?_
        rotate_left
        ·intro w'
         go_simp
         with_reducible rfl
        rotate_left
        ·simp only [Act.put, l1_27, l2_27, l3_27, i64_w, i32_w]
         rfl
        refine pure_ (i := 4) (N := some 41) (v := ?_) (a' := ?_) #[false, true, true, true, true, false, false, false] rfl rfl (any_of HT_.out (by kernel_rfl)) (fun _ _ _ h => h) (Or.inl ⟨by rfl, ?_⟩) ?_ ?_
        rotate_left
        ·intro w'
         go_simp
         with_reducible rfl
        rotate_left
        ·simp only [Act.put, l1_27, l2_27, l3_27, i64_w, i32_w]
         rfl
        refine take_ (i := 0) (N := some 37) (v := ?_) (a' := ?_) #[true, true, true, true, true, false, false, false] rfl rfl (take_ofW HT_.out HW_.out (by kernel_rfl)) (fun _ _ _ h => h) (Or.inl ⟨by rfl, ?_⟩) hHeld ?_ ?_
        rotate_left
        ·rintro w' ⟨s0, s1, s2, s3, s4, s5⟩
         go_simp
         with_reducible rfl
        rotate_left
        ·simp only [Act.put, l1_27, l2_27, l3_27, i64_w, i32_w]
         rfl
        refine take_ (i := 5) (N := some 42) (v := ?_) (a' := ?_) #[true, true, true, true, true, true, false, false] rfl rfl (take_ofW HT_.out HW_.out (by kernel_rfl)) (fun _ _ _ h => h) (Or.inl ⟨by rfl, ?_⟩) hHeld ?_ ?_
        rotate_left
        ·rintro w' ⟨s0, s1, s2, s3, s4, s5⟩
         go_simp
         with_reducible rfl
        rotate_left
        ·simp only [Act.put, l1_27, l2_27, l3_27, i64_w, i32_w]
         rfl
        refine one_ (i := 6) (N := some 43) #[true, true, true, true, true, true, true, false] rfl rfl (one_of HT_.out (by kernel_rfl)) (by decide) (fun K hK => ?_)
        refine goes_ Try.func15 (by kernel_rfl) rfl #[.agg #[.int .i64 x289000_1, .slice Ao35 x289001_1.length co35], .int .u16 ((rd_T28 l1 x8_1).f3)] (by rfl) rfl rfl (by (try simp only [List.map_toArray, List.map_cons, List.map_nil]); first | done | rfl | (simp only [List.length_drop, List.length_take]; rfl)) ?_
        with_reducible refine (proofmarklaw13_literal.calls x289000_1 _ _ x289001_1 ((rd_T28 l1 x8_1).f3) t294 _ ?side1 ?side2 A14.out).mono ?_
        (case side1 => repeat (first | exact (Kd.V_reads' HO_289001.out).2.2 | (with_reducible refine c3_27 ?_ _) | (with_reducible refine c4_27 ?_ _) | (with_reducible refine c5_27 ?_)))
        (case side2 => exact (Kd.V_reads' HO_289001.out).2.1)
        rintro e w40 ⟨rfl, hb⟩
        refine ⟨_, rfl, ?_⟩
        have n0_ := aM_27 (r4_27 (by (with_reducible repeat (first | apply r1_27 | apply r2_27 | apply r3_27)); exact HO_7.out) hb)
        have n1_ := aM_27 (v6_27 (by (with_reducible repeat (first | apply v1_27 | apply v2_27 | apply v3_27)); exact HO_289001.out) hb)
        have n2_ := aM_27 (b5_27 (by exact BK283.out) hb)
        have n3_ := aM_27 (b5_27 (by exact BK288.out) hb)
        have n4_ := aM_27 (b9_27 (by repeat (first | (with_reducible first | exact HB.out | apply b8_27 | apply b6_27 | apply b7_27 | refine b4_27 ?_ GE283.out | refine b4_27 ?_ GE288.out) | exact HB.out)) hb)
        clear HO_7 HO_289001 BK283 BK288 HB
        have HO_7 := n0_
        have HO_289001 := n1_
        have BK283 := n2_
        have BK288 := n3_
        have HB := n4_
        clear n0_ n1_ n2_ n3_ n4_
        (try clear hb)
        (try clear hb2)
        (try clear hk)
        (try clear hi)
        refine hK.out _ _ ⟨(blk_cell BK288.out 0).trans rfl, (blk_cell BK288.out 1).trans rfl, ((HB.out.cell (World.block_lt_of_cell? w _ hw293_0)).trans hw293_0), ((HB.out.cell (World.block_lt_of_cell? w _ hw293_1)).trans hw293_1), ((HB.out.cell (World.block_lt_of_cell? w _ hw293_2)).trans hw293_2), ((HB.out.cell (World.block_lt_of_cell? w _ hw293_3)).trans hw293_3)⟩ (fun hHeld => ?_)
        clear hK K
        refine norm_ (a' := ?_) ?_ ?_
        rotate_left
        ·show Act.put _ (some 43) _ = _
         simp only [Act.put, l1_27, l2_27, l3_27, i64_w, i32_w]
         rfl
        refine pure_ (i := 7) (N := some 11) (v := ?_) (a' := ?_) #[true, true, true, true, true, true, true, true] rfl rfl (any_of HT_.out (by kernel_rfl)) (fun _ _ _ h => h) (Or.inl ⟨by rfl, ?_⟩) ?_ ?_
        rotate_left
        ·intro w'
         go_simp
         with_reducible rfl
        rotate_left
        ·simp only [Act.put, l1_27, l2_27, l3_27, i64_w, i32_w]
         rfl
        refine done_ (done_of HT_.out (by kernel_rfl)) ?_
        have p295 : 0 ≤ (x8_1 : Int) := of_decide_eq_true (by first | (with_reducible assumption) | assumption)
        have q295 : x8_1 < (l1.length : Int) := of_decide_eq_true (by first | (with_reducible assumption) | assumption)
        obtain ⟨ad295, e295, hx295_0, hx295_1, hx295_2, hx295_3⟩ := at_T28 HR1.out x8_1 p295 q295
        obtain rfl : ad289 = ad295 := (by injection e295)
        replace hx295_0 := (HB.out.cell (World.block_lt_of_cell? w _ hx295_0)).trans hx295_0
        replace hx295_1 := (HB.out.cell (World.block_lt_of_cell? w _ hx295_1)).trans hx295_1
        replace hx295_2 := (HB.out.cell (World.block_lt_of_cell? w _ hx295_2)).trans hx295_2
        replace hx295_3 := (HB.out.cell (World.block_lt_of_cell? w _ hx295_3)).trans hx295_3
        replace p295 := eq_true p295
        replace q295 := eq_true q295
        have hnb41 := NB288_283.out
        have hnc41 := NB283_288.out
        obtain ⟨hcz42_0, hcz42_1, hfz42_0, hfz42_1⟩ := cells2_27 BK288.out
        try go_wp2_with (first | ((with_reducible refine gate_callee (f := 20) rfl ?_); refine goesL_ (some 65) rfl rfl Try.func20 (by kernel_rfl) rfl #[.agg #[.int .i64 x289000_1, .slice Ao35 x289001_1.length co35], .int .i64 t290, .int .i64 t292] rfl (by (try simp only [List.map_toArray, List.map_cons, List.map_nil]); first | done | rfl | (simp only [List.length_drop, List.length_take]; rfl)) ?_; (with_reducible refine (proofmarkref13_Or.calls k1 x289000_1 (fun k_ => ((w.heap.size ≤ k_) ∧ (some k_ ≠ (u7 : Value).ownBlock ∧ (k_ ≠ gb283 ∧ k_ ≠ gb288)))) _ _ x289001_1 t290 t292 t304 t305 t308 _ ?side1 A32.out).mono ?_); (case side1 => exact HO_289001.out); rintro e w43 ⟨v306, rfl, ho0, hb⟩; refine ⟨_, rfl, ?_⟩; have n0_ := aM_27 (r4_27 (by (with_reducible repeat (first | apply r1_27 | apply r2_27 | apply r3_27)); exact HO_7.out) hb); have n1_ := aM_27 (v6_27 (by (with_reducible repeat (first | apply v1_27 | apply v2_27 | apply v3_27)); exact HO_289001.out) hb); have n2_ := aM_27 (Kd.V_lower (v4_27 (ok' := fun k_ => (w.heap.size ≤ k_) ∧ some k_ ≠ (u7 : Value).ownBlock ∧ k_ ≠ gb283 ∧ k_ ≠ gb288) ho0 (fun k_ hk_ => ⟨Or.elim hk_ (fun hs_ => hs_.1) (fun hn_ => (Nat.le_trans (b0_27 (by repeat (first | (with_reducible first | exact HB.out | apply b8_27 | apply b6_27 | apply b7_27 | refine b4_27 ?_ GE283.out | refine b4_27 ?_ GE288.out) | exact HB.out))) hn_)), Or.elim hk_ (fun hs_ => hs_.2.1) (fun hn_ => (Kd.fresh' (Kd.R_lt (by (with_reducible repeat (first | apply r1_27 | apply r2_27 | apply r3_27)); exact HO_7.out)) k_ hn_)), Or.elim hk_ (fun hs_ => hs_.2.2.1) (fun hn_ => (Kd.freshB (g := gb283) (o := .cells #[.int .i64 0, .slice none 0 0] 24 (0, 0)) (by exact BK283.out) k_ hn_)), Or.elim hk_ (fun hs_ => hs_.2.2.2) (fun hn_ => (Kd.freshB (g := gb288) (o := .cells #[.int .i64 x289000_1, .slice Ao35 x289001_1.length co35] 24 (0, 0)) (by exact BK288.out) k_ hn_))⟩)) (b0_27 (by repeat (first | (with_reducible first | exact HB.out | apply b8_27 | apply b6_27 | apply b7_27 | refine b4_27 ?_ GE283.out | refine b4_27 ?_ GE288.out) | exact HB.out)))); have n3_ := aM_27 (b5_27 (by exact BK283.out) hb); have n4_ := aM_27 (b5_27 (by exact BK288.out) hb); have n5_ := aM_27 (b9_27 (by repeat (first | (with_reducible first | exact HB.out | apply b8_27 | apply b6_27 | apply b7_27 | refine b4_27 ?_ GE283.out | refine b4_27 ?_ GE288.out) | exact HB.out)) hb); clear HO_7 HO_289001 BK283 BK288 HB; have HO_7 := n0_; have HO_289001 := n1_; have HO307 := n2_; have BK283 := n3_; have BK288 := n4_; have HB := n5_; clear n0_ n1_ n2_ n3_ n4_ n5_; (try clear hb); (try clear hb2); (try clear hk); (try clear hi); (try clear ho0); obtain ⟨hcz44_0, hcz44_1, hfz44_0, hfz44_1⟩ := cells2_27 BK288.out; obtain ⟨Ao45, co45, eo45⟩ := Kd.V_slice HO307.out; subst eo45) | ((with_reducible refine gate_builtin (b := .append) (xs := #[.tmp 87, .tmp 89]) rfl ?_); at_builtin; refine Kd.R_append (Kd.int .i64) (w0 := w) w.heap.size rfl (.tmp 87) (.tmp 89) 33 3 (.int .i64 0) 8 rfl Try.underlying33 info3 rfl (by decide) (by omega) u7 x7_1 t308 [.int .i64 t308] (fun k_ => (w.heap.size ≤ k_)) (fun _ => False) rfl (by first | (go_simp; done) | (go_simp; rfl)) ?aP (fun _ hk => hk.elim) ?aF ?aO ?aB ?aS ?aL ?_; (case aP => exact rfl); (case aB => exact (by repeat (first | (with_reducible first | exact HB.out | apply b8_27 | apply b6_27 | apply b7_27 | refine b4_27 ?_ GE283.out | refine b4_27 ?_ GE288.out) | exact HB.out))); (case aF => exact (fun k_ hk => (Nat.le_trans (b0_27 (by repeat (first | (with_reducible first | exact HB.out | apply b8_27 | apply b6_27 | apply b7_27 | refine b4_27 ?_ GE283.out | refine b4_27 ?_ GE288.out) | exact HB.out))) hk))); (case aO => exact (by (with_reducible repeat (first | apply r1_27 | apply r2_27 | apply r3_27)); exact Kd.R_mono (Kd.R_far (p := ⟨gb288, 1, none⟩) (Kd.R_far (p := ⟨gb288, 0, none⟩) (Kd.R_types HO_7.out BK288.out (by decide)) (fun _ hk => hk.2) (.int .i64 t304)) (fun _ hk => hk.2) (.slice Ao45 t305.length co45)) (fun _ hk => hk.1))); (case aS => exact (b0_27 (by repeat (first | (with_reducible first | exact HB.out | apply b8_27 | apply b6_27 | apply b7_27 | refine b4_27 ?_ GE283.out | refine b4_27 ?_ GE288.out) | exact HB.out)))); (case aL => have := LMc33.out; omega); intro v310 w46 ho hb hg hat; rw [← Ny309.out] at ho; have n0_ := aM_27 (Kd.V_afterv (ok := (fun k_ => (w.heap.size ≤ k_) ∧ k_ ≠ gb283 ∧ k_ ≠ gb288)) (by (with_reducible repeat (first | apply v1_27 | apply v2_27 | apply v3_27)); exact v4_27 (v5_27 (p := ⟨gb288, 1, none⟩) (v5_27 (p := ⟨gb288, 0, none⟩) (v4_27 HO_289001.out (fun k_ hk => (⟨hk, hk.2.2.2⟩ : _ ∧ k_ ≠ gb288))) (fun _ hk => hk.2) (.int .i64 t304)) (fun _ hk => hk.2) (.slice Ao45 t305.length co45)) (fun _ hk => ⟨⟨hk.1.1, ⟨hk.1.2.2.1, hk.1.2.2.2⟩⟩, hk.1.2.1⟩)) hg hat); have n1_ := aM_27 (blk_grown (g := gb283) (o := .cells #[.int .i64 0, .slice none 0 0] 24 (0, 0)) (by (with_reducible repeat (first | refine b1_27 ?_ _ | refine b3_27 ?_ | refine b2_27 ?_ _)); refine blk_far ?_ NB283_288.out _; (with_reducible repeat (first | refine b1_27 ?_ _ | refine b3_27 ?_ | refine b2_27 ?_ _)); refine blk_far ?_ NB283_288.out _; (with_reducible repeat (first | refine b1_27 ?_ _ | refine b3_27 ?_ | refine b2_27 ?_ _)); exact BK283.out) hg (Kd.R_ne HO_7.out BK283.out (by decide))); have n2_ := aM_27 (blk_grown (g := gb288) (o := .cells #[.int .i64 t304, .slice Ao45 t305.length co45] 24 (0, 0)) (by (with_reducible repeat (first | refine b1_27 ?_ _ | refine b3_27 ?_ | refine b2_27 ?_ _)); refine blk_put (cs := #[.int .i64 t304, .slice Ao35 x289001_1.length co35]) ?_ 1 _ rfl; (with_reducible repeat (first | refine b1_27 ?_ _ | refine b3_27 ?_ | refine b2_27 ?_ _)); refine blk_put (cs := #[.int .i64 x289000_1, .slice Ao35 x289001_1.length co35]) ?_ 0 _ rfl; (with_reducible repeat (first | refine b1_27 ?_ _ | refine b3_27 ?_ | refine b2_27 ?_ _)); exact BK288.out) hg (Kd.R_ne HO_7.out BK288.out (by decide))); have n3_ := aM_27 (Kd.V_afterv (ok := (fun k_ => (w.heap.size ≤ k_) ∧ k_ ≠ gb283 ∧ k_ ≠ gb288)) (by (with_reducible repeat (first | apply v1_27 | apply v2_27 | apply v3_27)); exact v4_27 (v5_27 (p := ⟨gb288, 1, none⟩) (v5_27 (p := ⟨gb288, 0, none⟩) (v4_27 HO307.out (fun k_ hk => (⟨hk, hk.2.2.2⟩ : _ ∧ k_ ≠ gb288))) (fun _ hk => hk.2) (.int .i64 t304)) (fun _ hk => hk.2) (.slice Ao45 t305.length co45)) (fun _ hk => ⟨⟨hk.1.1, ⟨hk.1.2.2.1, hk.1.2.2.2⟩⟩, hk.1.2.1⟩)) hg hat); have n4_ := aM_27 (hb); have n5_ := aM_27 (ho); clear HO_289001 BK283 BK288 HO307 HB HO_7; have HO_289001 := n0_; have BK283 := n1_; have BK288 := n2_; have HO307 := n3_; have HB := n4_; have HO311 := n5_; clear n0_ n1_ n2_ n3_ n4_ n5_; clear ho hb hg hat))
        go_roundg k1
        case measure => have := HK1.out; omega
        case rel => exact ⟨(y309), (wrap64 (x8_1 + 1)), (t304), (t305), (.slice Ao45 t305.length co45), (by first | rfl | (simp; done) | (simp [*]; done)), H', ⟨by have := HK1.out; omega⟩, ⟨by (with_reducible repeat (first | apply r1_27 | apply r2_27 | apply r3_27)); exact HO311.out⟩, ⟨by (with_reducible repeat (first | apply v1_27 | apply v2_27 | apply v3_27)); exact v4_27 HO307.out (fun _ hk => ⟨hk.1.1, ⟨hk.2, ⟨hk.1.2.1, hk.1.2.2⟩⟩⟩)⟩, ⟨by (with_reducible repeat (first | refine b1_27 ?_ _ | refine b3_27 ?_ | refine b2_27 ?_ _)); exact BK283.out⟩, ⟨by (with_reducible repeat (first | refine b1_27 ?_ _ | refine b3_27 ?_ | refine b2_27 ?_ _)); exact BK288.out⟩, ⟨by repeat (first | (with_reducible first | exact HB.out | apply b8_27 | apply b6_27 | apply b7_27 | refine b4_27 ?_ GE283.out | refine b4_27 ?_ GE288.out) | exact HB.out)⟩⟩
       ·rw [if_neg c33] at H
        exact absurd H (by simp)
      ·rw [if_neg c31] at H
       have c31b0 : ((Int.tmod ((rd_T28 l1 x8_1).f0) 4) == 1) = false := beq_eq_false_iff_ne.mpr c31
       have c31b1 : ((Int.tmod ((rd_T28 l1 x8_1).f0) 4) != 1) = true := bne_iff_ne.mpr c31
       by_cases c47 : (Int.tmod ((rd_T28 l1 x8_1).f0) 4) = 2
       ·rw [if_pos c47] at H
        have c47b0 : ((Int.tmod ((rd_T28 l1 x8_1).f0) 4) == 2) = true := beq_iff_eq.mpr c47
        have c47b1 : ((Int.tmod ((rd_T28 l1 x8_1).f0) 4) != 2) = false := bne_eq_false_iff_eq.mpr c47
        clear c47
        replace H := Option.bind_eq_some_iff.mp H
        obtain ⟨⟨t312, t313, t316⟩, A480, H⟩ := H
        replace H : (if x7_1.length < 17592186044416 then (proofmarklaw13_Made.l0 k1 l1 (x7_1 ++ [t316]) (wrap64 (x8_1 + 1)) t312 t313) else (none)) = some (r1, r2, r3) := H
        have A48 := aM_27 A480
        clear A480
        by_cases c49 : x7_1.length < 17592186044416
        ·rw [if_pos c49] at H
         have LMc49 := aM_27 c49
         clear c49
         obtain ⟨y317, hy317⟩ : ∃ y_ : List Int, y_ = (x7_1 ++ [t316]) := ⟨_, rfl⟩
         replace H : (proofmarklaw13_Made.l0 k1 l1 y317 (wrap64 (x8_1 + 1)) t312 t313) = some (r1, r2, r3) := by first | (rw [hy317]; with_reducible exact H) | (have H2_ := (Option.bind_some _ _).symm.trans H; rw [hy317]; with_reducible exact H2_) | (have H2_ := (Option.bind_some _ _).symm.trans H; with_reducible exact H2_) | with_reducible exact H | (rw [hy317]; exact H) | exact H
         have Ny317 := aM_27 hy317
         clear hy317
         have H' := aM_27 H
         clear H
         try go_wp2
         have n0_ := aM_27 (r3_27 HO_7.out)
         have n1_ := aM_27 (v3_27 HO_289001.out)
         have n2_ := aM_27 (b3_27 BK283.out)
         have n3_ := aM_27 (b3_27 BK288.out)
         have n4_ := aM_27 (b7_27 HB.out)
         clear HO_7 HO_289001 BK283 BK288 HB
         have HO_7 := n0_
         have HO_289001 := n1_
         have BK283 := n2_
         have BK288 := n3_
         have HB := n4_
         clear n0_ n1_ n2_ n3_ n4_
         have p289 : 0 ≤ (x8_1 : Int) := of_decide_eq_true (by first | (with_reducible assumption) | assumption)
         have q289 : x8_1 < (l1.length : Int) := of_decide_eq_true (by first | (with_reducible assumption) | assumption)
         obtain ⟨ad289, e289, hx289_0, hx289_1, hx289_2, hx289_3⟩ := at_T28 HR1.out x8_1 p289 q289
         have hw289_3 := hx289_3
         have hw289_2 := hx289_2
         have hw289_1 := hx289_1
         have hw289_0 := hx289_0
         cases e289
         replace hx289_0 := (HB.out.cell (World.block_lt_of_cell? w _ hx289_0)).trans hx289_0
         replace hx289_1 := (HB.out.cell (World.block_lt_of_cell? w _ hx289_1)).trans hx289_1
         replace hx289_2 := (HB.out.cell (World.block_lt_of_cell? w _ hx289_2)).trans hx289_2
         replace hx289_3 := (HB.out.cell (World.block_lt_of_cell? w _ hx289_3)).trans hx289_3
         replace p289 := eq_true p289
         replace q289 := eq_true q289
         obtain ⟨Ao51, co51, eo51⟩ := Kd.V_slice HO_289001.out
         (first | subst eo51 | (injection eo51 with f1_ f2_ f3_; have f4_ := f1_.symm; have f5_ := f3_.symm; clear f1_ f2_ f3_; subst f4_; subst f5_))
         refine start_ (n := 8) (S := fun w' => w'.cell? ⟨gb288, 0, none⟩ = some (.int .i64 x289000_1) ∧ w'.cell? ⟨gb288, 1, none⟩ = some (.slice Ao51 x289001_1.length co51) ∧ w'.cell? (ad289.add ((x8_1).toNat * 4)) = some (.int .u8 ((rd_T28 l1 x8_1).f0)) ∧ w'.cell? ⟨(ad289.add ((x8_1).toNat * 4)).block, (ad289.add ((x8_1).toNat * 4)).off + 1, none⟩ = some (.int .u16 ((rd_T28 l1 x8_1).f1)) ∧ w'.cell? ⟨(ad289.add ((x8_1).toNat * 4)).block, (ad289.add ((x8_1).toNat * 4)).off + 2, none⟩ = some (.int .u16 ((rd_T28 l1 x8_1).f2)) ∧ w'.cell? ⟨(ad289.add ((x8_1).toNat * 4)).block, (ad289.add ((x8_1).toNat * 4)).off + 3, none⟩ = some (.int .u16 ((rd_T28 l1 x8_1).f3))) (ds := []) #[false, false, false, false, false, false, false, false] (by kernel_rfl) rfl rfl ⟨(blk_cell BK288.out 0).trans rfl, (blk_cell BK288.out 1).trans rfl, ((HB.out.cell (World.block_lt_of_cell? w _ hw289_0)).trans hw289_0), ((HB.out.cell (World.block_lt_of_cell? w _ hw289_1)).trans hw289_1), ((HB.out.cell (World.block_lt_of_cell? w _ hw289_2)).trans hw289_2), ((HB.out.cell (World.block_lt_of_cell? w _ hw289_3)).trans hw289_3)⟩ (fun hHeld => ?_); refine with_tabW proofmarklaw13_Made.tab6 proofmarklaw13_Made.bits6 (fun HT_ HW_ => ?_)
         generalize wr.drew = w50 at HO_7 HO_289001 BK283 BK288 HB hx289_0 hx289_1 hx289_2 hx289_3 hHeld ⊢
         refine pure_ (i := 1) (N := some 24) (v := ?_) (a' := ?_) #[false, true, false, false, false, false, false, false] rfl rfl (any_of HT_.out (by kernel_rfl)) (fun _ _ _ h => h) (Or.inl ⟨by rfl, ?_⟩) ?_ ?_
         rotate_left
         ·intro w'
          go_simp
          with_reducible rfl
         rotate_left
         ·simp only [Act.put, l1_27, l2_27, l3_27, i64_w, i32_w]
          rfl
         refine pure_ (i := 2) (N := some 25) (v := ?_) (a' := ?_) #[false, true, true, false, false, false, false, false] rfl rfl (any_of HT_.out (by kernel_rfl)) (fun _ _ _ h => h) (Or.inl ⟨by rfl, ?_⟩) ?_ ?_
         rotate_left
         ·intro w'
          go_simp
          with_reducible rfl
         rotate_left
         ·simp only [Act.put, l1_27, l2_27, l3_27, i64_w, i32_w]
          rfl
         refine pure_ (i := 3) (N := some 26) (v := ?_) (a' := ?_) #[false, true, true, true, false, false, false, false] rfl rfl (any_of HT_.out (by kernel_rfl)) (fun _ _ _ h => h) (Or.inl ⟨by rfl, ?_⟩) ?_ ?_
         rotate_left
         ·intro w'
          go_simp
          with_reducible rfl
         rotate_left
         ·simp only [Act.put, l1_27, l2_27, l3_27, i64_w, i32_w]
          rfl
         refine pure_ (i := 4) (N := some 27) (v := ?_) (a' := ?_) #[false, true, true, true, true, false, false, false] rfl rfl (any_of HT_.out (by kernel_rfl)) (fun _ _ _ h => h) (Or.inl ⟨by rfl, ?_⟩) ?_ ?_
         rotate_left
         ·intro w'
          go_simp
          with_reducible rfl
         rotate_left
         ·simp only [Act.put, l1_27, l2_27, l3_27, i64_w, i32_w]
          rfl
         refine take_ (i := 0) (N := some 23) (v := ?_) (a' := ?_) #[true, true, true, true, true, false, false, false] rfl rfl (take_ofW HT_.out HW_.out (by kernel_rfl)) (fun _ _ _ h => h) (Or.inl ⟨by rfl, ?_⟩) hHeld ?_ ?_
         rotate_left
         ·rintro w' ⟨s0, s1, s2, s3, s4, s5⟩
          go_simp
          with_reducible rfl
         rotate_left
         ·simp only [Act.put, l1_27, l2_27, l3_27, i64_w, i32_w]
          rfl
         refine take_ (i := 5) (N := some 28) (v := ?_) (a' := ?_) #[true, true, true, true, true, true, false, false] rfl rfl (take_ofW HT_.out HW_.out (by kernel_rfl)) (fun _ _ _ h => h) (Or.inl ⟨by rfl, ?_⟩) hHeld ?_ ?_
         rotate_left
         ·rintro w' ⟨s0, s1, s2, s3, s4, s5⟩
          go_simp
          with_reducible rfl
         rotate_left
         ·simp only [Act.put, l1_27, l2_27, l3_27, i64_w, i32_w]
          rfl
         refine one_ (i := 6) (N := some 29) #[true, true, true, true, true, true, true, false] rfl rfl (one_of HT_.out (by kernel_rfl)) (by decide) (fun K hK => ?_)
         refine goes_ Try.func15 (by kernel_rfl) rfl #[.agg #[.int .i64 x289000_1, .slice Ao51 x289001_1.length co51], .int .u16 ((rd_T28 l1 x8_1).f1)] (by rfl) rfl rfl (by (try simp only [List.map_toArray, List.map_cons, List.map_nil]); first | done | rfl | (simp only [List.length_drop, List.length_take]; rfl)) ?_
         with_reducible refine (proofmarklaw13_literal.calls x289000_1 _ _ x289001_1 ((rd_T28 l1 x8_1).f1) t290 _ ?side1 ?side2 A12.out).mono ?_
         (case side1 => repeat (first | exact (Kd.V_reads' HO_289001.out).2.2 | (with_reducible refine c3_27 ?_ _) | (with_reducible refine c4_27 ?_ _) | (with_reducible refine c5_27 ?_)))
         (case side2 => exact (Kd.V_reads' HO_289001.out).2.1)
         rintro e w52 ⟨rfl, hb⟩
         refine ⟨_, rfl, ?_⟩
         have n0_ := aM_27 (r4_27 (by (with_reducible repeat (first | apply r1_27 | apply r2_27 | apply r3_27)); exact HO_7.out) hb)
         have n1_ := aM_27 (v6_27 (by (with_reducible repeat (first | apply v1_27 | apply v2_27 | apply v3_27)); exact HO_289001.out) hb)
         have n2_ := aM_27 (b5_27 (by exact BK283.out) hb)
         have n3_ := aM_27 (b5_27 (by exact BK288.out) hb)
         have n4_ := aM_27 (b9_27 (by repeat (first | (with_reducible first | exact HB.out | apply b8_27 | apply b6_27 | apply b7_27 | refine b4_27 ?_ GE283.out | refine b4_27 ?_ GE288.out) | exact HB.out)) hb)
         clear HO_7 HO_289001 BK283 BK288 HB
         have HO_7 := n0_
         have HO_289001 := n1_
         have BK283 := n2_
         have BK288 := n3_
         have HB := n4_
         clear n0_ n1_ n2_ n3_ n4_
         (try clear hb)
         (try clear hb2)
         (try clear hk)
         (try clear hi)
         refine hK.out _ _ ⟨(blk_cell BK288.out 0).trans rfl, (blk_cell BK288.out 1).trans rfl, ((HB.out.cell (World.block_lt_of_cell? w _ hw289_0)).trans hw289_0), ((HB.out.cell (World.block_lt_of_cell? w _ hw289_1)).trans hw289_1), ((HB.out.cell (World.block_lt_of_cell? w _ hw289_2)).trans hw289_2), ((HB.out.cell (World.block_lt_of_cell? w _ hw289_3)).trans hw289_3)⟩ (fun hHeld => ?_)
         clear hK K
         refine norm_ (a' := ?_) ?_ ?_
         rotate_left
         ·show Act.put _ (some 29) _ = _
          simp only [Act.put, l1_27, l2_27, l3_27, i64_w, i32_w]
          rfl
         refine pure_ (i := 7) (N := some 9) (v := ?_) (a' := ?_) #[true, true, true, true, true, true, true, true] rfl rfl (any_of HT_.out (by kernel_rfl)) (fun _ _ _ h => h) (Or.inl ⟨by rfl, ?_⟩) ?_ ?_
         rotate_left
         ·intro w'
          go_simp
          with_reducible rfl
         rotate_left
         ·simp only [Act.put, l1_27, l2_27, l3_27, i64_w, i32_w]
          rfl
         refine done_ (done_of HT_.out (by kernel_rfl)) ?_
         try go_wp2
         have n0_ := aM_27 (r3_27 HO_7.out)
         have n1_ := aM_27 (v3_27 HO_289001.out)
         have n2_ := aM_27 (b3_27 BK283.out)
         have n3_ := aM_27 (b3_27 BK288.out)
         have n4_ := aM_27 (b7_27 HB.out)
         clear HO_7 HO_289001 BK283 BK288 HB
         have HO_7 := n0_
         have HO_289001 := n1_
         have BK283 := n2_
         have BK288 := n3_
         have HB := n4_
         clear n0_ n1_ n2_ n3_ n4_
         have p291 : 0 ≤ (x8_1 : Int) := of_decide_eq_true (by first | (with_reducible assumption) | assumption)
         have q291 : x8_1 < (l1.length : Int) := of_decide_eq_true (by first | (with_reducible assumption) | assumption)
         obtain ⟨ad291, e291, hx291_0, hx291_1, hx291_2, hx291_3⟩ := at_T28 HR1.out x8_1 p291 q291
         have hw291_3 := hx291_3
         have hw291_2 := hx291_2
         have hw291_1 := hx291_1
         have hw291_0 := hx291_0
         obtain rfl : ad289 = ad291 := (by injection e291)
         replace hx291_0 := (HB.out.cell (World.block_lt_of_cell? w _ hx291_0)).trans hx291_0
         replace hx291_1 := (HB.out.cell (World.block_lt_of_cell? w _ hx291_1)).trans hx291_1
         replace hx291_2 := (HB.out.cell (World.block_lt_of_cell? w _ hx291_2)).trans hx291_2
         replace hx291_3 := (HB.out.cell (World.block_lt_of_cell? w _ hx291_3)).trans hx291_3
         replace p291 := eq_true p291
         replace q291 := eq_true q291
         refine start_ (n := 8) (S := fun w' => w'.cell? ⟨gb288, 0, none⟩ = some (.int .i64 x289000_1) ∧ w'.cell? ⟨gb288, 1, none⟩ = some (.slice Ao51 x289001_1.length co51) ∧ w'.cell? (ad289.add ((x8_1).toNat * 4)) = some (.int .u8 ((rd_T28 l1 x8_1).f0)) ∧ w'.cell? ⟨(ad289.add ((x8_1).toNat * 4)).block, (ad289.add ((x8_1).toNat * 4)).off + 1, none⟩ = some (.int .u16 ((rd_T28 l1 x8_1).f1)) ∧ w'.cell? ⟨(ad289.add ((x8_1).toNat * 4)).block, (ad289.add ((x8_1).toNat * 4)).off + 2, none⟩ = some (.int .u16 ((rd_T28 l1 x8_1).f2)) ∧ w'.cell? ⟨(ad289.add ((x8_1).toNat * 4)).block, (ad289.add ((x8_1).toNat * 4)).off + 3, none⟩ = some (.int .u16 ((rd_T28 l1 x8_1).f3))) (ds := []) #[false, false, false, false, false, false, false, false] (by kernel_rfl) rfl rfl ⟨(blk_cell BK288.out 0).trans rfl, (blk_cell BK288.out 1).trans rfl, ((HB.out.cell (World.block_lt_of_cell? w _ hw291_0)).trans hw291_0), ((HB.out.cell (World.block_lt_of_cell? w _ hw291_1)).trans hw291_1), ((HB.out.cell (World.block_lt_of_cell? w _ hw291_2)).trans hw291_2), ((HB.out.cell (World.block_lt_of_cell? w _ hw291_3)).trans hw291_3)⟩ (fun hHeld => ?_); refine with_tabW proofmarklaw13_Made.tab7 proofmarklaw13_Made.bits7 (fun HT_ HW_ => ?_)
         generalize w52.drew = w53 at HO_7 HO_289001 BK283 BK288 HB hx291_0 hx291_1 hx291_2 hx291_3 hHeld ⊢
         refine pure_ (i := 1) (N := some 31) (v := ?_) (a' := ?_) #[false, true, false, false, false, false, false, false] rfl rfl (any_of HT_.out (by kernel_rfl)) (fun _ _ _ h => h) (Or.inl ⟨by rfl, ?_⟩) ?_ ?_
         rotate_left
         ·intro w'
          go_simp
          with_reducible rfl
         rotate_left
         ·simp only [Act.put, l1_27, l2_27, l3_27, i64_w, i32_w]
          rfl
         refine pure_ (i := 2) (N := some 32) (v := ?_) (a' := ?_) #[false, true, true, false, false, false, false, false] rfl rfl (any_of HT_.out (by kernel_rfl)) (fun _ _ _ h => h) (Or.inl ⟨by rfl, ?_⟩) ?_ ?_
         rotate_left
         ·intro w'
          go_simp
          with_reducible rfl
         rotate_left
         ·simp only [Act.put, l1_27, l2_27, l3_27, i64_w, i32_w]
          rfl
         refine pure_ (i := 3) (N := some 33) (v := ?_) (a' := ?_) #[false, true, true, true, false, false, false, false] rfl rfl (any_of HT_.out (by kernel_rfl)) (fun _ _ _ h => h) (Or.inl ⟨by rfl, ?_⟩) ?_ ?_
         rotate_left
         ·intro w'
          go_simp
          with_reducible rfl
         rotate_left
         ·simp only [Act.put, l1_27, l2_27, l3_27, i64_w, i32_w]
          rfl
         refine pure_ (i := 4) (N := some 34) (v := ?_) (a' := ?_) #[false, true, true, true, true, false, false, false] rfl rfl (any_of HT_.out (by kernel_rfl)) (fun _ _ _ h => h) (Or.inl ⟨by rfl, ?_⟩) ?_ ?_
         rotate_left
         ·intro w'
          go_simp
          with_reducible rfl
         rotate_left
         ·simp only [Act.put, l1_27, l2_27, l3_27, i64_w, i32_w]
          rfl
         refine take_ (i := 0) (N := some 30) (v := ?_) (a' := ?_) #[true, true, true, true, true, false, false, false] rfl rfl (take_ofW HT_.out HW_.out (by kernel_rfl)) (fun _ _ _ h => h) (Or.inl ⟨by rfl, ?_⟩) hHeld ?_ ?_
         rotate_left
         ·rintro w' ⟨s0, s1, s2, s3, s4, s5⟩
          go_simp
          with_reducible rfl
         rotate_left
         ·simp only [Act.put, l1_27, l2_27, l3_27, i64_w, i32_w]
          rfl
         refine take_ (i := 5) (N := some 35) (v := ?_) (a' := ?_) #[true, true, true, true, true, true, false, false] rfl rfl (take_ofW HT_.out HW_.out (by kernel_rfl)) (fun _ _ _ h => h) (Or.inl ⟨by rfl, ?_⟩) hHeld ?_ ?_
         rotate_left
         ·rintro w' ⟨s0, s1, s2, s3, s4, s5⟩
          go_simp
          with_reducible rfl
         rotate_left
         ·simp only [Act.put, l1_27, l2_27, l3_27, i64_w, i32_w]
          rfl
         refine one_ (i := 6) (N := some 36) #[true, true, true, true, true, true, true, false] rfl rfl (one_of HT_.out (by kernel_rfl)) (by decide) (fun K hK => ?_)
         refine goes_ Try.func15 (by kernel_rfl) rfl #[.agg #[.int .i64 x289000_1, .slice Ao51 x289001_1.length co51], .int .u16 ((rd_T28 l1 x8_1).f2)] (by rfl) rfl rfl (by (try simp only [List.map_toArray, List.map_cons, List.map_nil]); first | done | rfl | (simp only [List.length_drop, List.length_take]; rfl)) ?_
         with_reducible refine (proofmarklaw13_literal.calls x289000_1 _ _ x289001_1 ((rd_T28 l1 x8_1).f2) t292 _ ?side1 ?side2 A13.out).mono ?_
         (case side1 => repeat (first | exact (Kd.V_reads' HO_289001.out).2.2 | (with_reducible refine c3_27 ?_ _) | (with_reducible refine c4_27 ?_ _) | (with_reducible refine c5_27 ?_)))
         (case side2 => exact (Kd.V_reads' HO_289001.out).2.1)
         rintro e w54 ⟨rfl, hb⟩
         refine ⟨_, rfl, ?_⟩
         have n0_ := aM_27 (r4_27 (by (with_reducible repeat (first | apply r1_27 | apply r2_27 | apply r3_27)); exact HO_7.out) hb)
         have n1_ := aM_27 (v6_27 (by (with_reducible repeat (first | apply v1_27 | apply v2_27 | apply v3_27)); exact HO_289001.out) hb)
         have n2_ := aM_27 (b5_27 (by exact BK283.out) hb)
         have n3_ := aM_27 (b5_27 (by exact BK288.out) hb)
         have n4_ := aM_27 (b9_27 (by repeat (first | (with_reducible first | exact HB.out | apply b8_27 | apply b6_27 | apply b7_27 | refine b4_27 ?_ GE283.out | refine b4_27 ?_ GE288.out) | exact HB.out)) hb)
         clear HO_7 HO_289001 BK283 BK288 HB
         have HO_7 := n0_
         have HO_289001 := n1_
         have BK283 := n2_
         have BK288 := n3_
         have HB := n4_
         clear n0_ n1_ n2_ n3_ n4_
         (try clear hb)
         (try clear hb2)
         (try clear hk)
         (try clear hi)
         refine hK.out _ _ ⟨(blk_cell BK288.out 0).trans rfl, (blk_cell BK288.out 1).trans rfl, ((HB.out.cell (World.block_lt_of_cell? w _ hw291_0)).trans hw291_0), ((HB.out.cell (World.block_lt_of_cell? w _ hw291_1)).trans hw291_1), ((HB.out.cell (World.block_lt_of_cell? w _ hw291_2)).trans hw291_2), ((HB.out.cell (World.block_lt_of_cell? w _ hw291_3)).trans hw291_3)⟩ (fun hHeld => ?_)
         clear hK K
         refine norm_ (a' := ?_) ?_ ?_
         rotate_left
         ·show Act.put _ (some 36) _ = _
          simp only [Act.put, l1_27, l2_27, l3_27, i64_w, i32_w]
          rfl
         refine pure_ (i := 7) (N := some 10) (v := ?_) (a' := ?_) #[true, true, true, true, true, true, true, true] rfl rfl (any_of HT_.out (by kernel_rfl)) (fun _ _ _ h => h) (Or.inl ⟨by rfl, ?_⟩) ?_ ?_
         rotate_left
         ·intro w'
          go_simp
          with_reducible rfl
         rotate_left
         ·simp only [Act.put, l1_27, l2_27, l3_27, i64_w, i32_w]
          rfl
         refine done_ (done_of HT_.out (by kernel_rfl)) ?_
         try go_wp2
         have n0_ := aM_27 (r3_27 HO_7.out)
         have n1_ := aM_27 (v3_27 HO_289001.out)
         have n2_ := aM_27 (b3_27 BK283.out)
         have n3_ := aM_27 (b3_27 BK288.out)
         have n4_ := aM_27 (b7_27 HB.out)
         clear HO_7 HO_289001 BK283 BK288 HB
         have HO_7 := n0_
         have HO_289001 := n1_
         have BK283 := n2_
         have BK288 := n3_
         have HB := n4_
         clear n0_ n1_ n2_ n3_ n4_
         have p293 : 0 ≤ (x8_1 : Int) := of_decide_eq_true (by first | (with_reducible assumption) | assumption)
         have q293 : x8_1 < (l1.length : Int) := of_decide_eq_true (by first | (with_reducible assumption) | assumption)
         obtain ⟨ad293, e293, hx293_0, hx293_1, hx293_2, hx293_3⟩ := at_T28 HR1.out x8_1 p293 q293
         have hw293_3 := hx293_3
         have hw293_2 := hx293_2
         have hw293_1 := hx293_1
         have hw293_0 := hx293_0
         obtain rfl : ad289 = ad293 := (by injection e293)
         replace hx293_0 := (HB.out.cell (World.block_lt_of_cell? w _ hx293_0)).trans hx293_0
         replace hx293_1 := (HB.out.cell (World.block_lt_of_cell? w _ hx293_1)).trans hx293_1
         replace hx293_2 := (HB.out.cell (World.block_lt_of_cell? w _ hx293_2)).trans hx293_2
         replace hx293_3 := (HB.out.cell (World.block_lt_of_cell? w _ hx293_3)).trans hx293_3
         replace p293 := eq_true p293
         replace q293 := eq_true q293
         refine start_ (n := 8) (S := fun w' => w'.cell? ⟨gb288, 0, none⟩ = some (.int .i64 x289000_1) ∧ w'.cell? ⟨gb288, 1, none⟩ = some (.slice Ao51 x289001_1.length co51) ∧ w'.cell? (ad289.add ((x8_1).toNat * 4)) = some (.int .u8 ((rd_T28 l1 x8_1).f0)) ∧ w'.cell? ⟨(ad289.add ((x8_1).toNat * 4)).block, (ad289.add ((x8_1).toNat * 4)).off + 1, none⟩ = some (.int .u16 ((rd_T28 l1 x8_1).f1)) ∧ w'.cell? ⟨(ad289.add ((x8_1).toNat * 4)).block, (ad289.add ((x8_1).toNat * 4)).off + 2, none⟩ = some (.int .u16 ((rd_T28 l1 x8_1).f2)) ∧ w'.cell? ⟨(ad289.add ((x8_1).toNat * 4)).block, (ad289.add ((x8_1).toNat * 4)).off + 3, none⟩ = some (.int .u16 ((rd_T28 l1 x8_1).f3))) (ds := []) #[false, false, false, false, false, false, false, false] (by kernel_rfl) rfl rfl ⟨(blk_cell BK288.out 0).trans rfl, (blk_cell BK288.out 1).trans rfl, ((HB.out.cell (World.block_lt_of_cell? w _ hw293_0)).trans hw293_0), ((HB.out.cell (World.block_lt_of_cell? w _ hw293_1)).trans hw293_1), ((HB.out.cell (World.block_lt_of_cell? w _ hw293_2)).trans hw293_2), ((HB.out.cell (World.block_lt_of_cell? w _ hw293_3)).trans hw293_3)⟩ (fun hHeld => ?_); refine with_tabW proofmarklaw13_Made.tab8 proofmarklaw13_Made.bits8 (fun HT_ HW_ => ?_)
         generalize w54.drew = w55 at HO_7 HO_289001 BK283 BK288 HB hx293_0 hx293_1 hx293_2 hx293_3 hHeld ⊢
         refine pure_ (i := 1) (N := some 38) (v := ?_) (a' := ?_) #[false, true, false, false, false, false, false, false] rfl rfl (any_of HT_.out (by kernel_rfl)) (fun _ _ _ h => h) (Or.inl ⟨by rfl, ?_⟩) ?_ ?_
         rotate_left
         ·intro w'
          go_simp
          with_reducible rfl
         rotate_left
         ·simp only [Act.put, l1_27, l2_27, l3_27, i64_w, i32_w]
          rfl
         refine pure_ (i := 2) (N := some 39) (v := ?_) (a' := ?_) #[false, true, true, false, false, false, false, false] rfl rfl (any_of HT_.out (by kernel_rfl)) (fun _ _ _ h => h) (Or.inl ⟨by rfl, ?_⟩) ?_ ?_
         rotate_left
         ·intro w'
          go_simp
          with_reducible rfl
         rotate_left
         ·simp only [Act.put, l1_27, l2_27, l3_27, i64_w, i32_w]
          rfl
         refine pure_ (i := 3) (N := some 40) (v := ?_) (a' := ?_) #[false, true, true, true, false, false, false, false] rfl rfl (any_of HT_.out (by kernel_rfl)) (fun _ _ _ h => h) (Or.inl ⟨by rfl, ?_⟩) ?_ ?_
         rotate_left
         ·intro w'
          go_simp
          with_reducible rfl
         rotate_left
         ·simp only [Act.put, l1_27, l2_27, l3_27, i64_w, i32_w]
          rfl
         refine pure_ (i := 4) (N := some 41) (v := ?_) (a' := ?_) #[false, true, true, true, true, false, false, false] rfl rfl (any_of HT_.out (by kernel_rfl)) (fun _ _ _ h => h) (Or.inl ⟨by rfl, ?_⟩) ?_ ?_
         rotate_left
         ·intro w'
          go_simp
          with_reducible rfl
         rotate_left
         ·simp only [Act.put, l1_27, l2_27, l3_27, i64_w, i32_w]
          rfl
         refine take_ (i := 0) (N := some 37) (v := ?_) (a' := ?_) #[true, true, true, true, true, false, false, false] rfl rfl (take_ofW HT_.out HW_.out (by kernel_rfl)) (fun _ _ _ h => h) (Or.inl ⟨by rfl, ?_⟩) hHeld ?_ ?_
         rotate_left
         ·rintro w' ⟨s0, s1, s2, s3, s4, s5⟩
          go_simp
          with_reducible rfl
         rotate_left
         ·simp only [Act.put, l1_27, l2_27, l3_27, i64_w, i32_w]
          rfl
         refine take_ (i := 5) (N := some 42) (v := ?_) (a' := ?_) #[true, true, true, true, true, true, false, false] rfl rfl (take_ofW HT_.out HW_.out (by kernel_rfl)) (fun _ _ _ h => h) (Or.inl ⟨by rfl, ?_⟩) hHeld ?_ ?_
         rotate_left
         ·rintro w' ⟨s0, s1, s2, s3, s4, s5⟩
          go_simp
          with_reducible rfl
         rotate_left
         ·simp only [Act.put, l1_27, l2_27, l3_27, i64_w, i32_w]
          rfl
         refine one_ (i := 6) (N := some 43) #[true, true, true, true, true, true, true, false] rfl rfl (one_of HT_.out (by kernel_rfl)) (by decide) (fun K hK => ?_)
         refine goes_ Try.func15 (by kernel_rfl) rfl #[.agg #[.int .i64 x289000_1, .slice Ao51 x289001_1.length co51], .int .u16 ((rd_T28 l1 x8_1).f3)] (by rfl) rfl rfl (by (try simp only [List.map_toArray, List.map_cons, List.map_nil]); first | done | rfl | (simp only [List.length_drop, List.length_take]; rfl)) ?_
         with_reducible refine (proofmarklaw13_literal.calls x289000_1 _ _ x289001_1 ((rd_T28 l1 x8_1).f3) t294 _ ?side1 ?side2 A14.out).mono ?_
         (case side1 => repeat (first | exact (Kd.V_reads' HO_289001.out).2.2 | (with_reducible refine c3_27 ?_ _) | (with_reducible refine c4_27 ?_ _) | (with_reducible refine c5_27 ?_)))
         (case side2 => exact (Kd.V_reads' HO_289001.out).2.1)
         rintro e w56 ⟨rfl, hb⟩
         refine ⟨_, rfl, ?_⟩
         have n0_ := aM_27 (r4_27 (by (with_reducible repeat (first | apply r1_27 | apply r2_27 | apply r3_27)); exact HO_7.out) hb)
         have n1_ := aM_27 (v6_27 (by (with_reducible repeat (first | apply v1_27 | apply v2_27 | apply v3_27)); exact HO_289001.out) hb)
         have n2_ := aM_27 (b5_27 (by exact BK283.out) hb)
         have n3_ := aM_27 (b5_27 (by exact BK288.out) hb)
         have n4_ := aM_27 (b9_27 (by repeat (first | (with_reducible first | exact HB.out | apply b8_27 | apply b6_27 | apply b7_27 | refine b4_27 ?_ GE283.out | refine b4_27 ?_ GE288.out) | exact HB.out)) hb)
         clear HO_7 HO_289001 BK283 BK288 HB
         have HO_7 := n0_
         have HO_289001 := n1_
         have BK283 := n2_
         have BK288 := n3_
         have HB := n4_
         clear n0_ n1_ n2_ n3_ n4_
         (try clear hb)
         (try clear hb2)
         (try clear hk)
         (try clear hi)
         refine hK.out _ _ ⟨(blk_cell BK288.out 0).trans rfl, (blk_cell BK288.out 1).trans rfl, ((HB.out.cell (World.block_lt_of_cell? w _ hw293_0)).trans hw293_0), ((HB.out.cell (World.block_lt_of_cell? w _ hw293_1)).trans hw293_1), ((HB.out.cell (World.block_lt_of_cell? w _ hw293_2)).trans hw293_2), ((HB.out.cell (World.block_lt_of_cell? w _ hw293_3)).trans hw293_3)⟩ (fun hHeld => ?_)
         clear hK K
         refine norm_ (a' := ?_) ?_ ?_
         rotate_left
         ·show Act.put _ (some 43) _ = _
          simp only [Act.put, l1_27, l2_27, l3_27, i64_w, i32_w]
          rfl
         refine pure_ (i := 7) (N := some 11) (v := ?_) (a' := ?_) #[true, true, true, true, true, true, true, true] rfl rfl (any_of HT_.out (by kernel_rfl)) (fun _ _ _ h => h) (Or.inl ⟨by rfl, ?_⟩) ?_ ?_
         rotate_left
         ·intro w'
          go_simp
          with_reducible rfl
         rotate_left
         ·simp only [Act.put, l1_27, l2_27, l3_27, i64_w, i32_w]
          rfl
         refine done_ (done_of HT_.out (by kernel_rfl)) ?_
         have p295 : 0 ≤ (x8_1 : Int) := of_decide_eq_true (by first | (with_reducible assumption) | assumption)
         have q295 : x8_1 < (l1.length : Int) := of_decide_eq_true (by first | (with_reducible assumption) | assumption)
         obtain ⟨ad295, e295, hx295_0, hx295_1, hx295_2, hx295_3⟩ := at_T28 HR1.out x8_1 p295 q295
         obtain rfl : ad289 = ad295 := (by injection e295)
         replace hx295_0 := (HB.out.cell (World.block_lt_of_cell? w _ hx295_0)).trans hx295_0
         replace hx295_1 := (HB.out.cell (World.block_lt_of_cell? w _ hx295_1)).trans hx295_1
         replace hx295_2 := (HB.out.cell (World.block_lt_of_cell? w _ hx295_2)).trans hx295_2
         replace hx295_3 := (HB.out.cell (World.block_lt_of_cell? w _ hx295_3)).trans hx295_3
         replace p295 := eq_true p295
         replace q295 := eq_true q295
         have hnb57 := NB288_283.out
         have hnc57 := NB283_288.out
         obtain ⟨hcz58_0, hcz58_1, hfz58_0, hfz58_1⟩ := cells2_27 BK288.out
         try go_wp2_with (first | ((with_reducible refine gate_callee (f := 22) rfl ?_); refine goesL_ (some 74) rfl rfl Try.func22 (by kernel_rfl) rfl #[.agg #[.int .i64 x289000_1, .slice Ao51 x289001_1.length co51], .int .i64 t290, .int .i64 t292] rfl (by (try simp only [List.map_toArray, List.map_cons, List.map_nil]); first | done | rfl | (simp only [List.length_drop, List.length_take]; rfl)) ?_; (with_reducible refine (proofmarkref13_Xor.calls k1 x289000_1 (fun k_ => ((w.heap.size ≤ k_) ∧ (some k_ ≠ (u7 : Value).ownBlock ∧ (k_ ≠ gb283 ∧ k_ ≠ gb288)))) _ _ x289001_1 t290 t292 t312 t313 t316 _ ?side1 A48.out).mono ?_); (case side1 => exact HO_289001.out); rintro e w59 ⟨v314, rfl, ho0, hb⟩; refine ⟨_, rfl, ?_⟩; have n0_ := aM_27 (r4_27 (by (with_reducible repeat (first | apply r1_27 | apply r2_27 | apply r3_27)); exact HO_7.out) hb); have n1_ := aM_27 (v6_27 (by (with_reducible repeat (first | apply v1_27 | apply v2_27 | apply v3_27)); exact HO_289001.out) hb); have n2_ := aM_27 (Kd.V_lower (v4_27 (ok' := fun k_ => (w.heap.size ≤ k_) ∧ some k_ ≠ (u7 : Value).ownBlock ∧ k_ ≠ gb283 ∧ k_ ≠ gb288) ho0 (fun k_ hk_ => ⟨Or.elim hk_ (fun hs_ => hs_.1) (fun hn_ => (Nat.le_trans (b0_27 (by repeat (first | (with_reducible first | exact HB.out | apply b8_27 | apply b6_27 | apply b7_27 | refine b4_27 ?_ GE283.out | refine b4_27 ?_ GE288.out) | exact HB.out))) hn_)), Or.elim hk_ (fun hs_ => hs_.2.1) (fun hn_ => (Kd.fresh' (Kd.R_lt (by (with_reducible repeat (first | apply r1_27 | apply r2_27 | apply r3_27)); exact HO_7.out)) k_ hn_)), Or.elim hk_ (fun hs_ => hs_.2.2.1) (fun hn_ => (Kd.freshB (g := gb283) (o := .cells #[.int .i64 0, .slice none 0 0] 24 (0, 0)) (by exact BK283.out) k_ hn_)), Or.elim hk_ (fun hs_ => hs_.2.2.2) (fun hn_ => (Kd.freshB (g := gb288) (o := .cells #[.int .i64 x289000_1, .slice Ao51 x289001_1.length co51] 24 (0, 0)) (by exact BK288.out) k_ hn_))⟩)) (b0_27 (by repeat (first | (with_reducible first | exact HB.out | apply b8_27 | apply b6_27 | apply b7_27 | refine b4_27 ?_ GE283.out | refine b4_27 ?_ GE288.out) | exact HB.out)))); have n3_ := aM_27 (b5_27 (by exact BK283.out) hb); have n4_ := aM_27 (b5_27 (by exact BK288.out) hb); have n5_ := aM_27 (b9_27 (by repeat (first | (with_reducible first | exact HB.out | apply b8_27 | apply b6_27 | apply b7_27 | refine b4_27 ?_ GE283.out | refine b4_27 ?_ GE288.out) | exact HB.out)) hb); clear HO_7 HO_289001 BK283 BK288 HB; have HO_7 := n0_; have HO_289001 := n1_; have HO315 := n2_; have BK283 := n3_; have BK288 := n4_; have HB := n5_; clear n0_ n1_ n2_ n3_ n4_ n5_; (try clear hb); (try clear hb2); (try clear hk); (try clear hi); (try clear ho0); obtain ⟨hcz60_0, hcz60_1, hfz60_0, hfz60_1⟩ := cells2_27 BK288.out; obtain ⟨Ao61, co61, eo61⟩ := Kd.V_slice HO315.out; subst eo61) | ((with_reducible refine gate_builtin (b := .append) (xs := #[.tmp 87, .tmp 89]) rfl ?_); at_builtin; refine Kd.R_append (Kd.int .i64) (w0 := w) w.heap.size rfl (.tmp 87) (.tmp 89) 33 3 (.int .i64 0) 8 rfl Try.underlying33 info3 rfl (by decide) (by omega) u7 x7_1 t316 [.int .i64 t316] (fun k_ => (w.heap.size ≤ k_)) (fun _ => False) rfl (by first | (go_simp; done) | (go_simp; rfl)) ?aP (fun _ hk => hk.elim) ?aF ?aO ?aB ?aS ?aL ?_; (case aP => exact rfl); (case aB => exact (by repeat (first | (with_reducible first | exact HB.out | apply b8_27 | apply b6_27 | apply b7_27 | refine b4_27 ?_ GE283.out | refine b4_27 ?_ GE288.out) | exact HB.out))); (case aF => exact (fun k_ hk => (Nat.le_trans (b0_27 (by repeat (first | (with_reducible first | exact HB.out | apply b8_27 | apply b6_27 | apply b7_27 | refine b4_27 ?_ GE283.out | refine b4_27 ?_ GE288.out) | exact HB.out))) hk))); (case aO => exact (by (with_reducible repeat (first | apply r1_27 | apply r2_27 | apply r3_27)); exact Kd.R_mono (Kd.R_far (p := ⟨gb288, 1, none⟩) (Kd.R_far (p := ⟨gb288, 0, none⟩) (Kd.R_types HO_7.out BK288.out (by decide)) (fun _ hk => hk.2) (.int .i64 t312)) (fun _ hk => hk.2) (.slice Ao61 t313.length co61)) (fun _ hk => hk.1))); (case aS => exact (b0_27 (by repeat (first | (with_reducible first | exact HB.out | apply b8_27 | apply b6_27 | apply b7_27 | refine b4_27 ?_ GE283.out | refine b4_27 ?_ GE288.out) | exact HB.out)))); (case aL => have := LMc49.out; omega); intro v318 w62 ho hb hg hat; rw [← Ny317.out] at ho; have n0_ := aM_27 (Kd.V_afterv (ok := (fun k_ => (w.heap.size ≤ k_) ∧ k_ ≠ gb283 ∧ k_ ≠ gb288)) (by (with_reducible repeat (first | apply v1_27 | apply v2_27 | apply v3_27)); exact v4_27 (v5_27 (p := ⟨gb288, 1, none⟩) (v5_27 (p := ⟨gb288, 0, none⟩) (v4_27 HO_289001.out (fun k_ hk => (⟨hk, hk.2.2.2⟩ : _ ∧ k_ ≠ gb288))) (fun _ hk => hk.2) (.int .i64 t312)) (fun _ hk => hk.2) (.slice Ao61 t313.length co61)) (fun _ hk => ⟨⟨hk.1.1, ⟨hk.1.2.2.1, hk.1.2.2.2⟩⟩, hk.1.2.1⟩)) hg hat); have n1_ := aM_27 (blk_grown (g := gb283) (o := .cells #[.int .i64 0, .slice none 0 0] 24 (0, 0)) (by (with_reducible repeat (first | refine b1_27 ?_ _ | refine b3_27 ?_ | refine b2_27 ?_ _)); refine blk_far ?_ NB283_288.out _; (with_reducible repeat (first | refine b1_27 ?_ _ | refine b3_27 ?_ | refine b2_27 ?_ _)); refine blk_far ?_ NB283_288.out _; (with_reducible repeat (first | refine b1_27 ?_ _ | refine b3_27 ?_ | refine b2_27 ?_ _)); exact BK283.out) hg (Kd.R_ne HO_7.out BK283.out (by decide))); have n2_ := aM_27 (blk_grown (g := gb288) (o := .cells #[.int .i64 t312, .slice Ao61 t313.length co61] 24 (0, 0)) (by (with_reducible repeat (first | refine b1_27 ?_ _ | refine b3_27 ?_ | refine b2_27 ?_ _)); refine blk_put (cs := #[.int .i64 t312, .slice Ao51 x289001_1.length co51]) ?_ 1 _ rfl; (with_reducible repeat (first | refine b1_27 ?_ _ | refine b3_27 ?_ | refine b2_27 ?_ _)); refine blk_put (cs := #[.int .i64 x289000_1, .slice Ao51 x289001_1.length co51]) ?_ 0 _ rfl; (with_reducible repeat (first | refine b1_27 ?_ _ | refine b3_27 ?_ | refine b2_27 ?_ _)); exact BK288.out) hg (Kd.R_ne HO_7.out BK288.out (by decide))); have n3_ := aM_27 (Kd.V_afterv (ok := (fun k_ => (w.heap.size ≤ k_) ∧ k_ ≠ gb283 ∧ k_ ≠ gb288)) (by (with_reducible repeat (first | apply v1_27 | apply v2_27 | apply v3_27)); exact v4_27 (v5_27 (p := ⟨gb288, 1, none⟩) (v5_27 (p := ⟨gb288, 0, none⟩) (v4_27 HO315.out (fun k_ hk => (⟨hk, hk.2.2.2⟩ : _ ∧ k_ ≠ gb288))) (fun _ hk => hk.2) (.int .i64 t312)) (fun _ hk => hk.2) (.slice Ao61 t313.length co61)) (fun _ hk => ⟨⟨hk.1.1, ⟨hk.1.2.2.1, hk.1.2.2.2⟩⟩, hk.1.2.1⟩)) hg hat); have n4_ := aM_27 (hb); have n5_ := aM_27 (ho); clear HO_289001 BK283 BK288 HO315 HB HO_7; have HO_289001 := n0_; have BK283 := n1_; have BK288 := n2_; have HO315 := n3_; have HB := n4_; have HO319 := n5_; clear n0_ n1_ n2_ n3_ n4_ n5_; clear ho hb hg hat))
         go_roundg k1
         case measure => have := HK1.out; omega
         case rel => exact ⟨(y317), (wrap64 (x8_1 + 1)), (t312), (t313), (.slice Ao61 t313.length co61), (by first | rfl | (simp; done) | (simp [*]; done)), H', ⟨by have := HK1.out; omega⟩, ⟨by (with_reducible repeat (first | apply r1_27 | apply r2_27 | apply r3_27)); exact HO319.out⟩, ⟨by (with_reducible repeat (first | apply v1_27 | apply v2_27 | apply v3_27)); exact v4_27 HO315.out (fun _ hk => ⟨hk.1.1, ⟨hk.2, ⟨hk.1.2.1, hk.1.2.2⟩⟩⟩)⟩, ⟨by (with_reducible repeat (first | refine b1_27 ?_ _ | refine b3_27 ?_ | refine b2_27 ?_ _)); exact BK283.out⟩, ⟨by (with_reducible repeat (first | refine b1_27 ?_ _ | refine b3_27 ?_ | refine b2_27 ?_ _)); exact BK288.out⟩, ⟨by repeat (first | (with_reducible first | exact HB.out | apply b8_27 | apply b6_27 | apply b7_27 | refine b4_27 ?_ GE283.out | refine b4_27 ?_ GE288.out) | exact HB.out)⟩⟩
        ·rw [if_neg c49] at H
         exact absurd H (by simp)
       ·rw [if_neg c47] at H
        have c47b0 : ((Int.tmod ((rd_T28 l1 x8_1).f0) 4) == 2) = false := beq_eq_false_iff_ne.mpr c47
        have c47b1 : ((Int.tmod ((rd_T28 l1 x8_1).f0) 4) != 2) = true := bne_iff_ne.mpr c47
        by_cases c63 : (Int.tmod ((rd_T28 l1 x8_1).f0) 4) = 3
        ·rw [if_pos c63] at H
         have c63b0 : ((Int.tmod ((rd_T28 l1 x8_1).f0) 4) == 3) = true := beq_iff_eq.mpr c63
         have c63b1 : ((Int.tmod ((rd_T28 l1 x8_1).f0) 4) != 3) = false := bne_eq_false_iff_eq.mpr c63
         clear c63
         replace H := Option.bind_eq_some_iff.mp H
         obtain ⟨⟨t320, t321, t324⟩, A640, H⟩ := H
         replace H : (if x7_1.length < 17592186044416 then (proofmarklaw13_Made.l0 k1 l1 (x7_1 ++ [t324]) (wrap64 (x8_1 + 1)) t320 t321) else (none)) = some (r1, r2, r3) := H
         have A64 := aM_27 A640
         clear A640
         by_cases c65 : x7_1.length < 17592186044416
         ·rw [if_pos c65] at H
          have LMc65 := aM_27 c65
          clear c65
          obtain ⟨y325, hy325⟩ : ∃ y_ : List Int, y_ = (x7_1 ++ [t324]) := ⟨_, rfl⟩
          replace H : (proofmarklaw13_Made.l0 k1 l1 y325 (wrap64 (x8_1 + 1)) t320 t321) = some (r1, r2, r3) := by first | (rw [hy325]; with_reducible exact H) | (have H2_ := (Option.bind_some _ _).symm.trans H; rw [hy325]; with_reducible exact H2_) | (have H2_ := (Option.bind_some _ _).symm.trans H; with_reducible exact H2_) | with_reducible exact H | (rw [hy325]; exact H) | exact H
          have Ny325 := aM_27 hy325
          clear hy325
          have H' := aM_27 H
          clear H
          try go_wp2
          have n0_ := aM_27 (r3_27 HO_7.out)
          have n1_ := aM_27 (v3_27 HO_289001.out)
          have n2_ := aM_27 (b3_27 BK283.out)
          have n3_ := aM_27 (b3_27 BK288.out)
          have n4_ := aM_27 (b7_27 HB.out)
          clear HO_7 HO_289001 BK283 BK288 HB
          have HO_7 := n0_
          have HO_289001 := n1_
          have BK283 := n2_
          have BK288 := n3_
          have HB := n4_
          clear n0_ n1_ n2_ n3_ n4_
          have p289 : 0 ≤ (x8_1 : Int) := of_decide_eq_true (by first | (with_reducible assumption) | assumption)
          have q289 : x8_1 < (l1.length : Int) := of_decide_eq_true (by first | (with_reducible assumption) | assumption)
          obtain ⟨ad289, e289, hx289_0, hx289_1, hx289_2, hx289_3⟩ := at_T28 HR1.out x8_1 p289 q289
          have hw289_3 := hx289_3
          have hw289_2 := hx289_2
          have hw289_1 := hx289_1
          have hw289_0 := hx289_0
          cases e289
          replace hx289_0 := (HB.out.cell (World.block_lt_of_cell? w _ hx289_0)).trans hx289_0
          replace hx289_1 := (HB.out.cell (World.block_lt_of_cell? w _ hx289_1)).trans hx289_1
          replace hx289_2 := (HB.out.cell (World.block_lt_of_cell? w _ hx289_2)).trans hx289_2
          replace hx289_3 := (HB.out.cell (World.block_lt_of_cell? w _ hx289_3)).trans hx289_3
          replace p289 := eq_true p289
          replace q289 := eq_true q289
          obtain ⟨Ao67, co67, eo67⟩ := Kd.V_slice HO_289001.out
          (first | subst eo67 | (injection eo67 with f1_ f2_ f3_; have f4_ := f1_.symm; have f5_ := f3_.symm; clear f1_ f2_ f3_; subst f4_; subst f5_))
          refine start_ (n := 8) (S := fun w' => w'.cell? ⟨gb288, 0, none⟩ = some (.int .i64 x289000_1) ∧ w'.cell? ⟨gb288, 1, none⟩ = some (.slice Ao67 x289001_1.length co67) ∧ w'.cell? (ad289.add ((x8_1).toNat * 4)) = some (.int .u8 ((rd_T28 l1 x8_1).f0)) ∧ w'.cell? ⟨(ad289.add ((x8_1).toNat * 4)).block, (ad289.add ((x8_1).toNat * 4)).off + 1, none⟩ = some (.int .u16 ((rd_T28 l1 x8_1).f1)) ∧ w'.cell? ⟨(ad289.add ((x8_1).toNat * 4)).block, (ad289.add ((x8_1).toNat * 4)).off + 2, none⟩ = some (.int .u16 ((rd_T28 l1 x8_1).f2)) ∧ w'.cell? ⟨(ad289.add ((x8_1).toNat * 4)).block, (ad289.add ((x8_1).toNat * 4)).off + 3, none⟩ = some (.int .u16 ((rd_T28 l1 x8_1).f3))) (ds := []) #[false, false, false, false, false, false, false, false] (by kernel_rfl) rfl rfl ⟨(blk_cell BK288.out 0).trans rfl, (blk_cell BK288.out 1).trans rfl, ((HB.out.cell (World.block_lt_of_cell? w _ hw289_0)).trans hw289_0), ((HB.out.cell (World.block_lt_of_cell? w _ hw289_1)).trans hw289_1), ((HB.out.cell (World.block_lt_of_cell? w _ hw289_2)).trans hw289_2), ((HB.out.cell (World.block_lt_of_cell? w _ hw289_3)).trans hw289_3)⟩ (fun hHeld => ?_); refine with_tabW proofmarklaw13_Made.tab6 proofmarklaw13_Made.bits6 (fun HT_ HW_ => ?_)
          generalize wr.drew = w66 at HO_7 HO_289001 BK283 BK288 HB hx289_0 hx289_1 hx289_2 hx289_3 hHeld ⊢
          refine pure_ (i := 1) (N := some 24) (v := ?_) (a' := ?_) #[false, true, false, false, false, false, false, false] rfl rfl (any_of HT_.out (by kernel_rfl)) (fun _ _ _ h => h) (Or.inl ⟨by rfl, ?_⟩) ?_ ?_
          rotate_left
          ·intro w'
           go_simp
           with_reducible rfl
          rotate_left
          ·simp only [Act.put, l1_27, l2_27, l3_27, i64_w, i32_w]
           rfl
          refine pure_ (i := 2) (N := some 25) (v := ?_) (a' := ?_) #[false, true, true, false, false, false, false, false] rfl rfl (any_of HT_.out (by kernel_rfl)) (fun _ _ _ h => h) (Or.inl ⟨by rfl, ?_⟩) ?_ ?_
          rotate_left
          ·intro w'
           go_simp
           with_reducible rfl
          rotate_left
          ·simp only [Act.put, l1_27, l2_27, l3_27, i64_w, i32_w]
           rfl
          refine pure_ (i := 3) (N := some 26) (v := ?_) (a' := ?_) #[false, true, true, true, false, false, false, false] rfl rfl (any_of HT_.out (by kernel_rfl)) (fun _ _ _ h => h) (Or.inl ⟨by rfl, ?_⟩) ?_ ?_
          rotate_left
          ·intro w'
           go_simp
           with_reducible rfl
          rotate_left
          ·simp only [Act.put, l1_27, l2_27, l3_27, i64_w, i32_w]
           rfl
          refine pure_ (i := 4) (N := some 27) (v := ?_) (a' := ?_) #[false, true, true, true, true, false, false, false] rfl rfl (any_of HT_.out (by kernel_rfl)) (fun _ _ _ h => h) (Or.inl ⟨by rfl, ?_⟩) ?_ ?_
          rotate_left
          ·intro w'
           go_simp
           with_reducible rfl
          rotate_left
          ·simp only [Act.put, l1_27, l2_27, l3_27, i64_w, i32_w]
           rfl
          refine take_ (i := 0) (N := some 23) (v := ?_) (a' := ?_) #[true, true, true, true, true, false, false, false] rfl rfl (take_ofW HT_.out HW_.out (by kernel_rfl)) (fun _ _ _ h => h) (Or.inl ⟨by rfl, ?_⟩) hHeld ?_ ?_
          rotate_left
          ·rintro w' ⟨s0, s1, s2, s3, s4, s5⟩
           go_simp
           with_reducible rfl
          rotate_left
          ·simp only [Act.put, l1_27, l2_27, l3_27, i64_w, i32_w]
           rfl
          refine take_ (i := 5) (N := some 28) (v := ?_) (a' := ?_) #[true, true, true, true, true, true, false, false] rfl rfl (take_ofW HT_.out HW_.out (by kernel_rfl)) (fun _ _ _ h => h) (Or.inl ⟨by rfl, ?_⟩) hHeld ?_ ?_
          rotate_left
          ·rintro w' ⟨s0, s1, s2, s3, s4, s5⟩
           go_simp
           with_reducible rfl
          rotate_left
          ·simp only [Act.put, l1_27, l2_27, l3_27, i64_w, i32_w]
           rfl
          refine one_ (i := 6) (N := some 29) #[true, true, true, true, true, true, true, false] rfl rfl (one_of HT_.out (by kernel_rfl)) (by decide) (fun K hK => ?_)
          refine goes_ Try.func15 (by kernel_rfl) rfl #[.agg #[.int .i64 x289000_1, .slice Ao67 x289001_1.length co67], .int .u16 ((rd_T28 l1 x8_1).f1)] (by rfl) rfl rfl (by (try simp only [List.map_toArray, List.map_cons, List.map_nil]); first | done | rfl | (simp only [List.length_drop, List.length_take]; rfl)) ?_
          with_reducible refine (proofmarklaw13_literal.calls x289000_1 _ _ x289001_1 ((rd_T28 l1 x8_1).f1) t290 _ ?side1 ?side2 A12.out).mono ?_
          (case side1 => repeat (first | exact (Kd.V_reads' HO_289001.out).2.2 | (with_reducible refine c3_27 ?_ _) | (with_reducible refine c4_27 ?_ _) | (with_reducible refine c5_27 ?_)))
          (case side2 => exact (Kd.V_reads' HO_289001.out).2.1)
          rintro e w68 ⟨rfl, hb⟩
          refine ⟨_, rfl, ?_⟩
          have n0_ := aM_27 (r4_27 (by (with_reducible repeat (first | apply r1_27 | apply r2_27 | apply r3_27)); exact HO_7.out) hb)
          have n1_ := aM_27 (v6_27 (by (with_reducible repeat (first | apply v1_27 | apply v2_27 | apply v3_27)); exact HO_289001.out) hb)
          have n2_ := aM_27 (b5_27 (by exact BK283.out) hb)
          have n3_ := aM_27 (b5_27 (by exact BK288.out) hb)
          have n4_ := aM_27 (b9_27 (by repeat (first | (with_reducible first | exact HB.out | apply b8_27 | apply b6_27 | apply b7_27 | refine b4_27 ?_ GE283.out | refine b4_27 ?_ GE288.out) | exact HB.out)) hb)
          clear HO_7 HO_289001 BK283 BK288 HB
          have HO_7 := n0_
          have HO_289001 := n1_
          have BK283 := n2_
          have BK288 := n3_
          have HB := n4_
          clear n0_ n1_ n2_ n3_ n4_
          (try clear hb)
          (try clear hb2)
          (try clear hk)
          (try clear hi)
          refine hK.out _ _ ⟨(blk_cell BK288.out 0).trans rfl, (blk_cell BK288.out 1).trans rfl, ((HB.out.cell (World.block_lt_of_cell? w _ hw289_0)).trans hw289_0), ((HB.out.cell (World.block_lt_of_cell? w _ hw289_1)).trans hw289_1), ((HB.out.cell (World.block_lt_of_cell? w _ hw289_2)).trans hw289_2), ((HB.out.cell (World.block_lt_of_cell? w _ hw289_3)).trans hw289_3)⟩ (fun hHeld => ?_)
          clear hK K
          refine norm_ (a' := ?_) ?_ ?_
          rotate_left
          ·show Act.put _ (some 29) _ = _
           simp only [Act.put, l1_27, l2_27, l3_27, i64_w, i32_w]
           rfl
          refine pure_ (i := 7) (N := some 9) (v := ?_) (a' := ?_) #[true, true, true, true, true, true, true, true] rfl rfl (any_of HT_.out (by kernel_rfl)) (fun _ _ _ h => h) (Or.inl ⟨by rfl, ?_⟩) ?_ ?_
          rotate_left
          ·intro w'
           go_simp
           with_reducible rfl
          rotate_left
          ·simp only [Act.put, l1_27, l2_27, l3_27, i64_w, i32_w]
           rfl
          refine done_ (done_of HT_.out (by kernel_rfl)) ?_
          try go_wp2
          have n0_ := aM_27 (r3_27 HO_7.out)
          have n1_ := aM_27 (v3_27 HO_289001.out)
          have n2_ := aM_27 (b3_27 BK283.out)
          have n3_ := aM_27 (b3_27 BK288.out)
          have n4_ := aM_27 (b7_27 HB.out)
          clear HO_7 HO_289001 BK283 BK288 HB
          have HO_7 := n0_
          have HO_289001 := n1_
          have BK283 := n2_
          have BK288 := n3_
          have HB := n4_
          clear n0_ n1_ n2_ n3_ n4_
          have p291 : 0 ≤ (x8_1 : Int) := of_decide_eq_true (by first | (with_reducible assumption) | assumption)
          have q291 : x8_1 < (l1.length : Int) := of_decide_eq_true (by first | (with_reducible assumption) | assumption)
          obtain ⟨ad291, e291, hx291_0, hx291_1, hx291_2, hx291_3⟩ := at_T28 HR1.out x8_1 p291 q291
          have hw291_3 := hx291_3
          have hw291_2 := hx291_2
          have hw291_1 := hx291_1
          have hw291_0 := hx291_0
          obtain rfl : ad289 = ad291 := (by injection e291)
          replace hx291_0 := (HB.out.cell (World.block_lt_of_cell? w _ hx291_0)).trans hx291_0
          replace hx291_1 := (HB.out.cell (World.block_lt_of_cell? w _ hx291_1)).trans hx291_1
          replace hx291_2 := (HB.out.cell (World.block_lt_of_cell? w _ hx291_2)).trans hx291_2
          replace hx291_3 := (HB.out.cell (World.block_lt_of_cell? w _ hx291_3)).trans hx291_3
          replace p291 := eq_true p291
          replace q291 := eq_true q291
          refine start_ (n := 8) (S := fun w' => w'.cell? ⟨gb288, 0, none⟩ = some (.int .i64 x289000_1) ∧ w'.cell? ⟨gb288, 1, none⟩ = some (.slice Ao67 x289001_1.length co67) ∧ w'.cell? (ad289.add ((x8_1).toNat * 4)) = some (.int .u8 ((rd_T28 l1 x8_1).f0)) ∧ w'.cell? ⟨(ad289.add ((x8_1).toNat * 4)).block, (ad289.add ((x8_1).toNat * 4)).off + 1, none⟩ = some (.int .u16 ((rd_T28 l1 x8_1).f1)) ∧ w'.cell? ⟨(ad289.add ((x8_1).toNat * 4)).block, (ad289.add ((x8_1).toNat * 4)).off + 2, none⟩ = some (.int .u16 ((rd_T28 l1 x8_1).f2)) ∧ w'.cell? ⟨(ad289.add ((x8_1).toNat * 4)).block, (ad289.add ((x8_1).toNat * 4)).off + 3, none⟩ = some (.int .u16 ((rd_T28 l1 x8_1).f3))) (ds := []) #[false, false, false, false, false, false, false, false] (by kernel_rfl) rfl rfl ⟨(blk_cell BK288.out 0).trans rfl, (blk_cell BK288.out 1).trans rfl, ((HB.out.cell (World.block_lt_of_cell? w _ hw291_0)).trans hw291_0), ((HB.out.cell (World.block_lt_of_cell? w _ hw291_1)).trans hw291_1), ((HB.out.cell (World.block_lt_of_cell? w _ hw291_2)).trans hw291_2), ((HB.out.cell (World.block_lt_of_cell? w _ hw291_3)).trans hw291_3)⟩ (fun hHeld => ?_); refine with_tabW proofmarklaw13_Made.tab7 proofmarklaw13_Made.bits7 (fun HT_ HW_ => ?_)
          generalize w68.drew = w69 at HO_7 HO_289001 BK283 BK288 HB hx291_0 hx291_1 hx291_2 hx291_3 hHeld ⊢
          refine pure_ (i := 1) (N := some 31) (v := ?_) (a' := ?_) #[false, true, false, false, false, false, false, false] rfl rfl (any_of HT_.out (by kernel_rfl)) (fun _ _ _ h => h) (Or.inl ⟨by rfl, ?_⟩) ?_ ?_
          rotate_left
          ·intro w'
           go_simp
           with_reducible rfl
          rotate_left
          ·simp only [Act.put, l1_27, l2_27, l3_27, i64_w, i32_w]
           rfl
          refine pure_ (i := 2) (N := some 32) (v := ?_) (a' := ?_) #[false, true, true, false, false, false, false, false] rfl rfl (any_of HT_.out (by kernel_rfl)) (fun _ _ _ h => h) (Or.inl ⟨by rfl, ?_⟩) ?_ ?_
          rotate_left
          ·intro w'
           go_simp
           with_reducible rfl
          rotate_left
          ·simp only [Act.put, l1_27, l2_27, l3_27, i64_w, i32_w]
           rfl
          refine pure_ (i := 3) (N := some 33) (v := ?_) (a' := ?_) #[false, true, true, true, false, false, false, false] rfl rfl (any_of HT_.out (by kernel_rfl)) (fun _ _ _ h => h) (Or.inl ⟨by rfl, ?_⟩) ?_ ?_
          rotate_left
          ·intro w'
           go_simp
           with_reducible rfl
          rotate_left
          ·simp only [Act.put, l1_27, l2_27, l3_27, i64_w, i32_w]
           rfl
          refine pure_ (i := 4) (N := some 34) (v := ?_) (a' := ?_) #[false, true, true, true, true, false, false, false] rfl rfl (any_of HT_.out (by kernel_rfl)) (fun _ _ _ h => h) (Or.inl ⟨by rfl, ?_⟩) ?_ ?_
          rotate_left
          ·intro w'
           go_simp
           with_reducible rfl
          rotate_left
          ·simp only [Act.put, l1_27, l2_27, l3_27, i64_w, i32_w]
           rfl
          refine take_ (i := 0) (N := some 30) (v := ?_) (a' := ?_) #[true, true, true, true, true, false, false, false] rfl rfl (take_ofW HT_.out HW_.out (by kernel_rfl)) (fun _ _ _ h => h) (Or.inl ⟨by rfl, ?_⟩) hHeld ?_ ?_
          rotate_left
          ·rintro w' ⟨s0, s1, s2, s3, s4, s5⟩
           go_simp
           with_reducible rfl
          rotate_left
          ·simp only [Act.put, l1_27, l2_27, l3_27, i64_w, i32_w]
           rfl
          refine take_ (i := 5) (N := some 35) (v := ?_) (a' := ?_) #[true, true, true, true, true, true, false, false] rfl rfl (take_ofW HT_.out HW_.out (by kernel_rfl)) (fun _ _ _ h => h) (Or.inl ⟨by rfl, ?_⟩) hHeld ?_ ?_
          rotate_left
          ·rintro w' ⟨s0, s1, s2, s3, s4, s5⟩
           go_simp
           with_reducible rfl
          rotate_left
          ·simp only [Act.put, l1_27, l2_27, l3_27, i64_w, i32_w]
           rfl
          refine one_ (i := 6) (N := some 36) #[true, true, true, true, true, true, true, false] rfl rfl (one_of HT_.out (by kernel_rfl)) (by decide) (fun K hK => ?_)
          refine goes_ Try.func15 (by kernel_rfl) rfl #[.agg #[.int .i64 x289000_1, .slice Ao67 x289001_1.length co67], .int .u16 ((rd_T28 l1 x8_1).f2)] (by rfl) rfl rfl (by (try simp only [List.map_toArray, List.map_cons, List.map_nil]); first | done | rfl | (simp only [List.length_drop, List.length_take]; rfl)) ?_
          with_reducible refine (proofmarklaw13_literal.calls x289000_1 _ _ x289001_1 ((rd_T28 l1 x8_1).f2) t292 _ ?side1 ?side2 A13.out).mono ?_
          (case side1 => repeat (first | exact (Kd.V_reads' HO_289001.out).2.2 | (with_reducible refine c3_27 ?_ _) | (with_reducible refine c4_27 ?_ _) | (with_reducible refine c5_27 ?_)))
          (case side2 => exact (Kd.V_reads' HO_289001.out).2.1)
          rintro e w70 ⟨rfl, hb⟩
          refine ⟨_, rfl, ?_⟩
          have n0_ := aM_27 (r4_27 (by (with_reducible repeat (first | apply r1_27 | apply r2_27 | apply r3_27)); exact HO_7.out) hb)
          have n1_ := aM_27 (v6_27 (by (with_reducible repeat (first | apply v1_27 | apply v2_27 | apply v3_27)); exact HO_289001.out) hb)
          have n2_ := aM_27 (b5_27 (by exact BK283.out) hb)
          have n3_ := aM_27 (b5_27 (by exact BK288.out) hb)
          have n4_ := aM_27 (b9_27 (by repeat (first | (with_reducible first | exact HB.out | apply b8_27 | apply b6_27 | apply b7_27 | refine b4_27 ?_ GE283.out | refine b4_27 ?_ GE288.out) | exact HB.out)) hb)
          clear HO_7 HO_289001 BK283 BK288 HB
          have HO_7 := n0_
          have HO_289001 := n1_
          have BK283 := n2_
          have BK288 := n3_
          have HB := n4_
          clear n0_ n1_ n2_ n3_ n4_
          (try clear hb)
          (try clear hb2)
          (try clear hk)
          (try clear hi)
          refine hK.out _ _ ⟨(blk_cell BK288.out 0).trans rfl, (blk_cell BK288.out 1).trans rfl, ((HB.out.cell (World.block_lt_of_cell? w _ hw291_0)).trans hw291_0), ((HB.out.cell (World.block_lt_of_cell? w _ hw291_1)).trans hw291_1), ((HB.out.cell (World.block_lt_of_cell? w _ hw291_2)).trans hw291_2), ((HB.out.cell (World.block_lt_of_cell? w _ hw291_3)).trans hw291_3)⟩ (fun hHeld => ?_)
          clear hK K
          refine norm_ (a' := ?_) ?_ ?_
          rotate_left
          ·show Act.put _ (some 36) _ = _
           simp only [Act.put, l1_27, l2_27, l3_27, i64_w, i32_w]
           rfl
          refine pure_ (i := 7) (N := some 10) (v := ?_) (a' := ?_) #[true, true, true, true, true, true, true, true] rfl rfl (any_of HT_.out (by kernel_rfl)) (fun _ _ _ h => h) (Or.inl ⟨by rfl, ?_⟩) ?_ ?_
          rotate_left
          ·intro w'
           go_simp
           with_reducible rfl
          rotate_left
          ·simp only [Act.put, l1_27, l2_27, l3_27, i64_w, i32_w]
           rfl
          refine done_ (done_of HT_.out (by kernel_rfl)) ?_
          try go_wp2
          have n0_ := aM_27 (r3_27 HO_7.out)
          have n1_ := aM_27 (v3_27 HO_289001.out)
          have n2_ := aM_27 (b3_27 BK283.out)
          have n3_ := aM_27 (b3_27 BK288.out)
          have n4_ := aM_27 (b7_27 HB.out)
          clear HO_7 HO_289001 BK283 BK288 HB
          have HO_7 := n0_
          have HO_289001 := n1_
          have BK283 := n2_
          have BK288 := n3_
          have HB := n4_
          clear n0_ n1_ n2_ n3_ n4_
          have p293 : 0 ≤ (x8_1 : Int) := of_decide_eq_true (by first | (with_reducible assumption) | assumption)
          have q293 : x8_1 < (l1.length : Int) := of_decide_eq_true (by first | (with_reducible assumption) | assumption)
          obtain ⟨ad293, e293, hx293_0, hx293_1, hx293_2, hx293_3⟩ := at_T28 HR1.out x8_1 p293 q293
          have hw293_3 := hx293_3
          have hw293_2 := hx293_2
          have hw293_1 := hx293_1
          have hw293_0 := hx293_0
          obtain rfl : ad289 = ad293 := (by injection e293)
          replace hx293_0 := (HB.out.cell (World.block_lt_of_cell? w _ hx293_0)).trans hx293_0
          replace hx293_1 := (HB.out.cell (World.block_lt_of_cell? w _ hx293_1)).trans hx293_1
          replace hx293_2 := (HB.out.cell (World.block_lt_of_cell? w _ hx293_2)).trans hx293_2
          replace hx293_3 := (HB.out.cell (World.block_lt_of_cell? w _ hx293_3)).trans hx293_3
          replace p293 := eq_true p293
          replace q293 := eq_true q293
          refine start_ (n := 8) (S := fun w' => w'.cell? ⟨gb288, 0, none⟩ = some (.int .i64 x289000_1) ∧ w'.cell? ⟨gb288, 1, none⟩ = some (.slice Ao67 x289001_1.length co67) ∧ w'.cell? (ad289.add ((x8_1).toNat * 4)) = some (.int .u8 ((rd_T28 l1 x8_1).f0)) ∧ w'.cell? ⟨(ad289.add ((x8_1).toNat * 4)).block, (ad289.add ((x8_1).toNat * 4)).off + 1, none⟩ = some (.int .u16 ((rd_T28 l1 x8_1).f1)) ∧ w'.cell? ⟨(ad289.add ((x8_1).toNat * 4)).block, (ad289.add ((x8_1).toNat * 4)).off + 2, none⟩ = some (.int .u16 ((rd_T28 l1 x8_1).f2)) ∧ w'.cell? ⟨(ad289.add ((x8_1).toNat * 4)).block, (ad289.add ((x8_1).toNat * 4)).off + 3, none⟩ = some (.int .u16 ((rd_T28 l1 x8_1).f3))) (ds := []) #[false, false, false, false, false, false, false, false] (by kernel_rfl) rfl rfl ⟨(blk_cell BK288.out 0).trans rfl, (blk_cell BK288.out 1).trans rfl, ((HB.out.cell (World.block_lt_of_cell? w _ hw293_0)).trans hw293_0), ((HB.out.cell (World.block_lt_of_cell? w _ hw293_1)).trans hw293_1), ((HB.out.cell (World.block_lt_of_cell? w _ hw293_2)).trans hw293_2), ((HB.out.cell (World.block_lt_of_cell? w _ hw293_3)).trans hw293_3)⟩ (fun hHeld => ?_); refine with_tabW proofmarklaw13_Made.tab8 proofmarklaw13_Made.bits8 (fun HT_ HW_ => ?_)
          generalize w70.drew = w71 at HO_7 HO_289001 BK283 BK288 HB hx293_0 hx293_1 hx293_2 hx293_3 hHeld ⊢
          refine pure_ (i := 1) (N := some 38) (v := ?_) (a' := ?_) #[false, true, false, false, false, false, false, false] rfl rfl (any_of HT_.out (by kernel_rfl)) (fun _ _ _ h => h) (Or.inl ⟨by rfl, ?_⟩) ?_ ?_
          rotate_left
          ·intro w'
           go_simp
           with_reducible rfl
          rotate_left
          ·simp only [Act.put, l1_27, l2_27, l3_27, i64_w, i32_w]
           rfl
          refine pure_ (i := 2) (N := some 39) (v := ?_) (a' := ?_) #[false, true, true, false, false, false, false, false] rfl rfl (any_of HT_.out (by kernel_rfl)) (fun _ _ _ h => h) (Or.inl ⟨by rfl, ?_⟩) ?_ ?_
          rotate_left
          ·intro w'
           go_simp
           with_reducible rfl
          rotate_left
          ·simp only [Act.put, l1_27, l2_27, l3_27, i64_w, i32_w]
           rfl
          refine pure_ (i := 3) (N := some 40) (v := ?_) (a' := ?_) #[false, true, true, true, false, false, false, false] rfl rfl (any_of HT_.out (by kernel_rfl)) (fun _ _ _ h => h) (Or.inl ⟨by rfl, ?_⟩) ?_ ?_
          rotate_left
          ·intro w'
           go_simp
           with_reducible rfl
          rotate_left
          ·simp only [Act.put, l1_27, l2_27, l3_27, i64_w, i32_w]
           rfl
          refine pure_ (i := 4) (N := some 41) (v := ?_) (a' := ?_) #[false, true, true, true, true, false, false, false] rfl rfl (any_of HT_.out (by kernel_rfl)) (fun _ _ _ h => h) (Or.inl ⟨by rfl, ?_⟩) ?_ ?_
          rotate_left
          ·intro w'
           go_simp
           with_reducible rfl
          rotate_left
          ·simp only [Act.put, l1_27, l2_27, l3_27, i64_w, i32_w]
           rfl
          refine take_ (i := 0) (N := some 37) (v := ?_) (a' := ?_) #[true, true, true, true, true, false, false, false] rfl rfl (take_ofW HT_.out HW_.out (by kernel_rfl)) (fun _ _ _ h => h) (Or.inl ⟨by rfl, ?_⟩) hHeld ?_ ?_
          rotate_left
          ·rintro w' ⟨s0, s1, s2, s3, s4, s5⟩
           go_simp
           with_reducible rfl
          rotate_left
          ·simp only [Act.put, l1_27, l2_27, l3_27, i64_w, i32_w]
           rfl
          refine take_ (i := 5) (N := some 42) (v := ?_) (a' := ?_) #[true, true, true, true, true, true, false, false] rfl rfl (take_ofW HT_.out HW_.out (by kernel_rfl)) (fun _ _ _ h => h) (Or.inl ⟨by rfl, ?_⟩) hHeld ?_ ?_
          rotate_left
          ·rintro w' ⟨s0, s1, s2, s3, s4, s5⟩
           go_simp
           with_reducible rfl
          rotate_left
          ·simp only [Act.put, l1_27, l2_27, l3_27, i64_w, i32_w]
           rfl
          refine one_ (i := 6) (N := some 43) #[true, true, true, true, true, true, true, false] rfl rfl (one_of HT_.out (by kernel_rfl)) (by decide) (fun K hK => ?_)
          refine goes_ Try.func15 (by kernel_rfl) rfl #[.agg #[.int .i64 x289000_1, .slice Ao67 x289001_1.length co67], .int .u16 ((rd_T28 l1 x8_1).f3)] (by rfl) rfl rfl (by (try simp only [List.map_toArray, List.map_cons, List.map_nil]); first | done | rfl | (simp only [List.length_drop, List.length_take]; rfl)) ?_
          with_reducible refine (proofmarklaw13_literal.calls x289000_1 _ _ x289001_1 ((rd_T28 l1 x8_1).f3) t294 _ ?side1 ?side2 A14.out).mono ?_
          (case side1 => repeat (first | exact (Kd.V_reads' HO_289001.out).2.2 | (with_reducible refine c3_27 ?_ _) | (with_reducible refine c4_27 ?_ _) | (with_reducible refine c5_27 ?_)))
          (case side2 => exact (Kd.V_reads' HO_289001.out).2.1)
          rintro e w72 ⟨rfl, hb⟩
          refine ⟨_, rfl, ?_⟩
          have n0_ := aM_27 (r4_27 (by (with_reducible repeat (first | apply r1_27 | apply r2_27 | apply r3_27)); exact HO_7.out) hb)
          have n1_ := aM_27 (v6_27 (by (with_reducible repeat (first | apply v1_27 | apply v2_27 | apply v3_27)); exact HO_289001.out) hb)
          have n2_ := aM_27 (b5_27 (by exact BK283.out) hb)
          have n3_ := aM_27 (b5_27 (by exact BK288.out) hb)
          have n4_ := aM_27 (b9_27 (by repeat (first | (with_reducible first | exact HB.out | apply b8_27 | apply b6_27 | apply b7_27 | refine b4_27 ?_ GE283.out | refine b4_27 ?_ GE288.out) | exact HB.out)) hb)
          clear HO_7 HO_289001 BK283 BK288 HB
          have HO_7 := n0_
          have HO_289001 := n1_
          have BK283 := n2_
          have BK288 := n3_
          have HB := n4_
          clear n0_ n1_ n2_ n3_ n4_
          (try clear hb)
          (try clear hb2)
          (try clear hk)
          (try clear hi)
          refine hK.out _ _ ⟨(blk_cell BK288.out 0).trans rfl, (blk_cell BK288.out 1).trans rfl, ((HB.out.cell (World.block_lt_of_cell? w _ hw293_0)).trans hw293_0), ((HB.out.cell (World.block_lt_of_cell? w _ hw293_1)).trans hw293_1), ((HB.out.cell (World.block_lt_of_cell? w _ hw293_2)).trans hw293_2), ((HB.out.cell (World.block_lt_of_cell? w _ hw293_3)).trans hw293_3)⟩ (fun hHeld => ?_)
          clear hK K
          refine norm_ (a' := ?_) ?_ ?_
          rotate_left
          ·show Act.put _ (some 43) _ = _
           simp only [Act.put, l1_27, l2_27, l3_27, i64_w, i32_w]
           rfl
          refine pure_ (i := 7) (N := some 11) (v := ?_) (a' := ?_) #[true, true, true, true, true, true, true, true] rfl rfl (any_of HT_.out (by kernel_rfl)) (fun _ _ _ h => h) (Or.inl ⟨by rfl, ?_⟩) ?_ ?_
          rotate_left
          ·intro w'
           go_simp
           with_reducible rfl
          rotate_left
          ·simp only [Act.put, l1_27, l2_27, l3_27, i64_w, i32_w]
           rfl
          refine done_ (done_of HT_.out (by kernel_rfl)) ?_
          have p295 : 0 ≤ (x8_1 : Int) := of_decide_eq_true (by first | (with_reducible assumption) | assumption)
          have q295 : x8_1 < (l1.length : Int) := of_decide_eq_true (by first | (with_reducible assumption) | assumption)
          obtain ⟨ad295, e295, hx295_0, hx295_1, hx295_2, hx295_3⟩ := at_T28 HR1.out x8_1 p295 q295
          obtain rfl : ad289 = ad295 := (by injection e295)
          replace hx295_0 := (HB.out.cell (World.block_lt_of_cell? w _ hx295_0)).trans hx295_0
          replace hx295_1 := (HB.out.cell (World.block_lt_of_cell? w _ hx295_1)).trans hx295_1
          replace hx295_2 := (HB.out.cell (World.block_lt_of_cell? w _ hx295_2)).trans hx295_2
          replace hx295_3 := (HB.out.cell (World.block_lt_of_cell? w _ hx295_3)).trans hx295_3
          replace p295 := eq_true p295
          replace q295 := eq_true q295
          have hnb73 := NB288_283.out
          have hnc73 := NB283_288.out
          obtain ⟨hcz74_0, hcz74_1, hfz74_0, hfz74_1⟩ := cells2_27 BK288.out
          try go_wp2_with (first | ((with_reducible refine gate_callee (f := 24) rfl ?_); refine goesL_ (some 84) rfl rfl Try.func24 (by kernel_rfl) rfl #[.agg #[.int .i64 x289000_1, .slice Ao67 x289001_1.length co67], .int .i64 t290, .int .i64 t292, .int .i64 t294] rfl (by (try simp only [List.map_toArray, List.map_cons, List.map_nil]); first | done | rfl | (simp only [List.length_drop, List.length_take]; rfl)) ?_; (with_reducible refine (proofmarkref13_Mux.calls k1 x289000_1 (fun k_ => ((w.heap.size ≤ k_) ∧ (some k_ ≠ (u7 : Value).ownBlock ∧ (k_ ≠ gb283 ∧ k_ ≠ gb288)))) _ _ x289001_1 t290 t292 t294 t320 t321 t324 _ ?side1 A64.out).mono ?_); (case side1 => exact HO_289001.out); rintro e w75 ⟨v322, rfl, ho0, hb⟩; refine ⟨_, rfl, ?_⟩; have n0_ := aM_27 (r4_27 (by (with_reducible repeat (first | apply r1_27 | apply r2_27 | apply r3_27)); exact HO_7.out) hb); have n1_ := aM_27 (v6_27 (by (with_reducible repeat (first | apply v1_27 | apply v2_27 | apply v3_27)); exact HO_289001.out) hb); have n2_ := aM_27 (Kd.V_lower (v4_27 (ok' := fun k_ => (w.heap.size ≤ k_) ∧ some k_ ≠ (u7 : Value).ownBlock ∧ k_ ≠ gb283 ∧ k_ ≠ gb288) ho0 (fun k_ hk_ => ⟨Or.elim hk_ (fun hs_ => hs_.1) (fun hn_ => (Nat.le_trans (b0_27 (by repeat (first | (with_reducible first | exact HB.out | apply b8_27 | apply b6_27 | apply b7_27 | refine b4_27 ?_ GE283.out | refine b4_27 ?_ GE288.out) | exact HB.out))) hn_)), Or.elim hk_ (fun hs_ => hs_.2.1) (fun hn_ => (Kd.fresh' (Kd.R_lt (by (with_reducible repeat (first | apply r1_27 | apply r2_27 | apply r3_27)); exact HO_7.out)) k_ hn_)), Or.elim hk_ (fun hs_ => hs_.2.2.1) (fun hn_ => (Kd.freshB (g := gb283) (o := .cells #[.int .i64 0, .slice none 0 0] 24 (0, 0)) (by exact BK283.out) k_ hn_)), Or.elim hk_ (fun hs_ => hs_.2.2.2) (fun hn_ => (Kd.freshB (g := gb288) (o := .cells #[.int .i64 x289000_1, .slice Ao67 x289001_1.length co67] 24 (0, 0)) (by exact BK288.out) k_ hn_))⟩)) (b0_27 (by repeat (first | (with_reducible first | exact HB.out | apply b8_27 | apply b6_27 | apply b7_27 | refine b4_27 ?_ GE283.out | refine b4_27 ?_ GE288.out) | exact HB.out)))); have n3_ := aM_27 (b5_27 (by exact BK283.out) hb); have n4_ := aM_27 (b5_27 (by exact BK288.out) hb); have n5_ := aM_27 (b9_27 (by repeat (first | (with_reducible first | exact HB.out | apply b8_27 | apply b6_27 | apply b7_27 | refine b4_27 ?_ GE283.out | refine b4_27 ?_ GE288.out) | exact HB.out)) hb); clear HO_7 HO_289001 BK283 BK288 HB; have HO_7 := n0_; have HO_289001 := n1_; have HO323 := n2_; have BK283 := n3_; have BK288 := n4_; have HB := n5_; clear n0_ n1_ n2_ n3_ n4_ n5_; (try clear hb); (try clear hb2); (try clear hk); (try clear hi); (try clear ho0); obtain ⟨hcz76_0, hcz76_1, hfz76_0, hfz76_1⟩ := cells2_27 BK288.out; obtain ⟨Ao77, co77, eo77⟩ := Kd.V_slice HO323.out; subst eo77) | ((with_reducible refine gate_builtin (b := .append) (xs := #[.tmp 87, .tmp 89]) rfl ?_); at_builtin; refine Kd.R_append (Kd.int .i64) (w0 := w) w.heap.size rfl (.tmp 87) (.tmp 89) 33 3 (.int .i64 0) 8 rfl Try.underlying33 info3 rfl (by decide) (by omega) u7 x7_1 t324 [.int .i64 t324] (fun k_ => (w.heap.size ≤ k_)) (fun _ => False) rfl (by first | (go_simp; done) | (go_simp; rfl)) ?aP (fun _ hk => hk.elim) ?aF ?aO ?aB ?aS ?aL ?_; (case aP => exact rfl); (case aB => exact (by repeat (first | (with_reducible first | exact HB.out | apply b8_27 | apply b6_27 | apply b7_27 | refine b4_27 ?_ GE283.out | refine b4_27 ?_ GE288.out) | exact HB.out))); (case aF => exact (fun k_ hk => (Nat.le_trans (b0_27 (by repeat (first | (with_reducible first | exact HB.out | apply b8_27 | apply b6_27 | apply b7_27 | refine b4_27 ?_ GE283.out | refine b4_27 ?_ GE288.out) | exact HB.out))) hk))); (case aO => exact (by (with_reducible repeat (first | apply r1_27 | apply r2_27 | apply r3_27)); exact Kd.R_mono (Kd.R_far (p := ⟨gb288, 1, none⟩) (Kd.R_far (p := ⟨gb288, 0, none⟩) (Kd.R_types HO_7.out BK288.out (by decide)) (fun _ hk => hk.2) (.int .i64 t320)) (fun _ hk => hk.2) (.slice Ao77 t321.length co77)) (fun _ hk => hk.1))); (case aS => exact (b0_27 (by repeat (first | (with_reducible first | exact HB.out | apply b8_27 | apply b6_27 | apply b7_27 | refine b4_27 ?_ GE283.out | refine b4_27 ?_ GE288.out) | exact HB.out)))); (case aL => have := LMc65.out; omega); intro v326 w78 ho hb hg hat; rw [← Ny325.out] at ho; have n0_ := aM_27 (Kd.V_afterv (ok := (fun k_ => (w.heap.size ≤ k_) ∧ k_ ≠ gb283 ∧ k_ ≠ gb288)) (by (with_reducible repeat (first | apply v1_27 | apply v2_27 | apply v3_27)); exact v4_27 (v5_27 (p := ⟨gb288, 1, none⟩) (v5_27 (p := ⟨gb288, 0, none⟩) (v4_27 HO_289001.out (fun k_ hk => (⟨hk, hk.2.2.2⟩ : _ ∧ k_ ≠ gb288))) (fun _ hk => hk.2) (.int .i64 t320)) (fun _ hk => hk.2) (.slice Ao77 t321.length co77)) (fun _ hk => ⟨⟨hk.1.1, ⟨hk.1.2.2.1, hk.1.2.2.2⟩⟩, hk.1.2.1⟩)) hg hat); have n1_ := aM_27 (blk_grown (g := gb283) (o := .cells #[.int .i64 0, .slice none 0 0] 24 (0, 0)) (by (with_reducible repeat (first | refine b1_27 ?_ _ | refine b3_27 ?_ | refine b2_27 ?_ _)); refine blk_far ?_ NB283_288.out _; (with_reducible repeat (first | refine b1_27 ?_ _ | refine b3_27 ?_ | refine b2_27 ?_ _)); refine blk_far ?_ NB283_288.out _; (with_reducible repeat (first | refine b1_27 ?_ _ | refine b3_27 ?_ | refine b2_27 ?_ _)); exact BK283.out) hg (Kd.R_ne HO_7.out BK283.out (by decide))); have n2_ := aM_27 (blk_grown (g := gb288) (o := .cells #[.int .i64 t320, .slice Ao77 t321.length co77] 24 (0, 0)) (by (with_reducible repeat (first | refine b1_27 ?_ _ | refine b3_27 ?_ | refine b2_27 ?_ _)); refine blk_put (cs := #[.int .i64 t320, .slice Ao67 x289001_1.length co67]) ?_ 1 _ rfl; (with_reducible repeat (first | refine b1_27 ?_ _ | refine b3_27 ?_ | refine b2_27 ?_ _)); refine blk_put (cs := #[.int .i64 x289000_1, .slice Ao67 x289001_1.length co67]) ?_ 0 _ rfl; (with_reducible repeat (first | refine b1_27 ?_ _ | refine b3_27 ?_ | refine b2_27 ?_ _)); exact BK288.out) hg (Kd.R_ne HO_7.out BK288.out (by decide))); have n3_ := aM_27 (Kd.V_afterv (ok := (fun k_ => (w.heap.size ≤ k_) ∧ k_ ≠ gb283 ∧ k_ ≠ gb288)) (by (with_reducible repeat (first | apply v1_27 | apply v2_27 | apply v3_27)); exact v4_27 (v5_27 (p := ⟨gb288, 1, none⟩) (v5_27 (p := ⟨gb288, 0, none⟩) (v4_27 HO323.out (fun k_ hk => (⟨hk, hk.2.2.2⟩ : _ ∧ k_ ≠ gb288))) (fun _ hk => hk.2) (.int .i64 t320)) (fun _ hk => hk.2) (.slice Ao77 t321.length co77)) (fun _ hk => ⟨⟨hk.1.1, ⟨hk.1.2.2.1, hk.1.2.2.2⟩⟩, hk.1.2.1⟩)) hg hat); have n4_ := aM_27 (hb); have n5_ := aM_27 (ho); clear HO_289001 BK283 BK288 HO323 HB HO_7; have HO_289001 := n0_; have BK283 := n1_; have BK288 := n2_; have HO323 := n3_; have HB := n4_; have HO327 := n5_; clear n0_ n1_ n2_ n3_ n4_ n5_; clear ho hb hg hat))
          go_roundg k1
          case measure => have := HK1.out; omega
          case rel => exact ⟨(y325), (wrap64 (x8_1 + 1)), (t320), (t321), (.slice Ao77 t321.length co77), (by first | rfl | (simp; done) | (simp [*]; done)), H', ⟨by have := HK1.out; omega⟩, ⟨by (with_reducible repeat (first | apply r1_27 | apply r2_27 | apply r3_27)); exact HO327.out⟩, ⟨by (with_reducible repeat (first | apply v1_27 | apply v2_27 | apply v3_27)); exact v4_27 HO323.out (fun _ hk => ⟨hk.1.1, ⟨hk.2, ⟨hk.1.2.1, hk.1.2.2⟩⟩⟩)⟩, ⟨by (with_reducible repeat (first | refine b1_27 ?_ _ | refine b3_27 ?_ | refine b2_27 ?_ _)); exact BK283.out⟩, ⟨by (with_reducible repeat (first | refine b1_27 ?_ _ | refine b3_27 ?_ | refine b2_27 ?_ _)); exact BK288.out⟩, ⟨by repeat (first | (with_reducible first | exact HB.out | apply b8_27 | apply b6_27 | apply b7_27 | refine b4_27 ?_ GE283.out | refine b4_27 ?_ GE288.out) | exact HB.out)⟩⟩
         ·rw [if_neg c65] at H
          exact absurd H (by simp)
        ·rw [if_neg c63] at H
         have c63b0 : ((Int.tmod ((rd_T28 l1 x8_1).f0) 4) == 3) = false := beq_eq_false_iff_ne.mpr c63
         have c63b1 : ((Int.tmod ((rd_T28 l1 x8_1).f0) 4) != 3) = true := bne_iff_ne.mpr c63
         by_cases c79 : x7_1.length < 17592186044416
         ·rw [if_pos c79] at H
          have LMc79 := aM_27 c79
          clear c79
          obtain ⟨y328, hy328⟩ : ∃ y_ : List Int, y_ = (x7_1 ++ [0]) := ⟨_, rfl⟩
          replace H : (proofmarklaw13_Made.l0 k1 l1 y328 (wrap64 (x8_1 + 1)) x289000_1 x289001_1) = some (r1, r2, r3) := by first | (rw [hy328]; with_reducible exact H) | (have H2_ := (Option.bind_some _ _).symm.trans H; rw [hy328]; with_reducible exact H2_) | (have H2_ := (Option.bind_some _ _).symm.trans H; with_reducible exact H2_) | with_reducible exact H | (rw [hy328]; exact H) | exact H
          have Ny328 := aM_27 hy328
          clear hy328
          have H' := aM_27 H
          clear H
          try go_wp2
          have n0_ := aM_27 (r3_27 HO_7.out)
          have n1_ := aM_27 (v3_27 HO_289001.out)
          have n2_ := aM_27 (b3_27 BK283.out)
          have n3_ := aM_27 (b3_27 BK288.out)
          have n4_ := aM_27 (b7_27 HB.out)
          clear HO_7 HO_289001 BK283 BK288 HB
          have HO_7 := n0_
          have HO_289001 := n1_
          have BK283 := n2_
          have BK288 := n3_
          have HB := n4_
          clear n0_ n1_ n2_ n3_ n4_
          have p289 : 0 ≤ (x8_1 : Int) := of_decide_eq_true (by first | (with_reducible assumption) | assumption)
          have q289 : x8_1 < (l1.length : Int) := of_decide_eq_true (by first | (with_reducible assumption) | assumption)
          obtain ⟨ad289, e289, hx289_0, hx289_1, hx289_2, hx289_3⟩ := at_T28 HR1.out x8_1 p289 q289
          have hw289_3 := hx289_3
          have hw289_2 := hx289_2
          have hw289_1 := hx289_1
          have hw289_0 := hx289_0
          cases e289
          replace hx289_0 := (HB.out.cell (World.block_lt_of_cell? w _ hx289_0)).trans hx289_0
          replace hx289_1 := (HB.out.cell (World.block_lt_of_cell? w _ hx289_1)).trans hx289_1
          replace hx289_2 := (HB.out.cell (World.block_lt_of_cell? w _ hx289_2)).trans hx289_2
          replace hx289_3 := (HB.out.cell (World.block_lt_of_cell? w _ hx289_3)).trans hx289_3
          replace p289 := eq_true p289
          replace q289 := eq_true q289
          obtain ⟨Ao81, co81, eo81⟩ := Kd.V_slice HO_289001.out
          (first | subst eo81 | (injection eo81 with f1_ f2_ f3_; have f4_ := f1_.symm; have f5_ := f3_.symm; clear f1_ f2_ f3_; subst f4_; subst f5_))
          refine start_ (n := 8) (S := fun w' => w'.cell? ⟨gb288, 0, none⟩ = some (.int .i64 x289000_1) ∧ w'.cell? ⟨gb288, 1, none⟩ = some (.slice Ao81 x289001_1.length co81) ∧ w'.cell? (ad289.add ((x8_1).toNat * 4)) = some (.int .u8 ((rd_T28 l1 x8_1).f0)) ∧ w'.cell? ⟨(ad289.add ((x8_1).toNat * 4)).block, (ad289.add ((x8_1).toNat * 4)).off + 1, none⟩ = some (.int .u16 ((rd_T28 l1 x8_1).f1)) ∧ w'.cell? ⟨(ad289.add ((x8_1).toNat * 4)).block, (ad289.add ((x8_1).toNat * 4)).off + 2, none⟩ = some (.int .u16 ((rd_T28 l1 x8_1).f2)) ∧ w'.cell? ⟨(ad289.add ((x8_1).toNat * 4)).block, (ad289.add ((x8_1).toNat * 4)).off + 3, none⟩ = some (.int .u16 ((rd_T28 l1 x8_1).f3))) (ds := []) #[false, false, false, false, false, false, false, false] (by kernel_rfl) rfl rfl ⟨(blk_cell BK288.out 0).trans rfl, (blk_cell BK288.out 1).trans rfl, ((HB.out.cell (World.block_lt_of_cell? w _ hw289_0)).trans hw289_0), ((HB.out.cell (World.block_lt_of_cell? w _ hw289_1)).trans hw289_1), ((HB.out.cell (World.block_lt_of_cell? w _ hw289_2)).trans hw289_2), ((HB.out.cell (World.block_lt_of_cell? w _ hw289_3)).trans hw289_3)⟩ (fun hHeld => ?_); refine with_tabW proofmarklaw13_Made.tab6 proofmarklaw13_Made.bits6 (fun HT_ HW_ => ?_)
          generalize wr.drew = w80 at HO_7 HO_289001 BK283 BK288 HB hx289_0 hx289_1 hx289_2 hx289_3 hHeld ⊢
          refine pure_ (i := 1) (N := some 24) (v := ?_) (a' := ?_) #[false, true, false, false, false, false, false, false] rfl rfl (any_of HT_.out (by kernel_rfl)) (fun _ _ _ h => h) (Or.inl ⟨by rfl, ?_⟩) ?_ ?_
          rotate_left
          ·intro w'
           go_simp
           with_reducible rfl
          rotate_left
          ·simp only [Act.put, l1_27, l2_27, l3_27, i64_w, i32_w]
           rfl
          refine pure_ (i := 2) (N := some 25) (v := ?_) (a' := ?_) #[false, true, true, false, false, false, false, false] rfl rfl (any_of HT_.out (by kernel_rfl)) (fun _ _ _ h => h) (Or.inl ⟨by rfl, ?_⟩) ?_ ?_
          rotate_left
          ·intro w'
           go_simp
           with_reducible rfl
          rotate_left
          ·simp only [Act.put, l1_27, l2_27, l3_27, i64_w, i32_w]
           rfl
          refine pure_ (i := 3) (N := some 26) (v := ?_) (a' := ?_) #[false, true, true, true, false, false, false, false] rfl rfl (any_of HT_.out (by kernel_rfl)) (fun _ _ _ h => h) (Or.inl ⟨by rfl, ?_⟩) ?_ ?_
          rotate_left
          ·intro w'
           go_simp
           with_reducible rfl
          rotate_left
          ·simp only [Act.put, l1_27, l2_27, l3_27, i64_w, i32_w]
           rfl
          refine pure_ (i := 4) (N := some 27) (v := ?_) (a' := ?_) #[false, true, true, true, true, false, false, false] rfl rfl (any_of HT_.out (by kernel_rfl)) (fun _ _ _ h => h) (Or.inl ⟨by rfl, ?_⟩) ?_ ?_
          rotate_left
          ·intro w'
           go_simp
           with_reducible rfl
          rotate_left
          ·simp only [Act.put, l1_27, l2_27, l3_27, i64_w, i32_w]
           rfl
          refine take_ (i := 0) (N := some 23) (v := ?_) (a' := ?_) #[true, true, true, true, true, false, false, false] rfl rfl (take_ofW HT_.out HW_.out (by kernel_rfl)) (fun _ _ _ h => h) (Or.inl ⟨by rfl, ?_⟩) hHeld ?_ ?_
          rotate_left
          ·rintro w' ⟨s0, s1, s2, s3, s4, s5⟩
           go_simp
           with_reducible rfl
          rotate_left
          ·simp only [Act.put, l1_27, l2_27, l3_27, i64_w, i32_w]
           rfl
          refine take_ (i := 5) (N := some 28) (v := ?_) (a' := ?_) #[true, true, true, true, true, true, false, false] rfl rfl (take_ofW HT_.out HW_.out (by kernel_rfl)) (fun _ _ _ h => h) (Or.inl ⟨by rfl, ?_⟩) hHeld ?_ ?_
          rotate_left
          ·rintro w' ⟨s0, s1, s2, s3, s4, s5⟩
           go_simp
           with_reducible rfl
          rotate_left
          ·simp only [Act.put, l1_27, l2_27, l3_27, i64_w, i32_w]
           rfl
          refine one_ (i := 6) (N := some 29) #[true, true, true, true, true, true, true, false] rfl rfl (one_of HT_.out (by kernel_rfl)) (by decide) (fun K hK => ?_)
          refine goes_ Try.func15 (by kernel_rfl) rfl #[.agg #[.int .i64 x289000_1, .slice Ao81 x289001_1.length co81], .int .u16 ((rd_T28 l1 x8_1).f1)] (by rfl) rfl rfl (by (try simp only [List.map_toArray, List.map_cons, List.map_nil]); first | done | rfl | (simp only [List.length_drop, List.length_take]; rfl)) ?_
          with_reducible refine (proofmarklaw13_literal.calls x289000_1 _ _ x289001_1 ((rd_T28 l1 x8_1).f1) t290 _ ?side1 ?side2 A12.out).mono ?_
          (case side1 => repeat (first | exact (Kd.V_reads' HO_289001.out).2.2 | (with_reducible refine c3_27 ?_ _) | (with_reducible refine c4_27 ?_ _) | (with_reducible refine c5_27 ?_)))
          (case side2 => exact (Kd.V_reads' HO_289001.out).2.1)
          rintro e w82 ⟨rfl, hb⟩
          refine ⟨_, rfl, ?_⟩
          have n0_ := aM_27 (r4_27 (by (with_reducible repeat (first | apply r1_27 | apply r2_27 | apply r3_27)); exact HO_7.out) hb)
          have n1_ := aM_27 (v6_27 (by (with_reducible repeat (first | apply v1_27 | apply v2_27 | apply v3_27)); exact HO_289001.out) hb)
          have n2_ := aM_27 (b5_27 (by exact BK283.out) hb)
          have n3_ := aM_27 (b5_27 (by exact BK288.out) hb)
          have n4_ := aM_27 (b9_27 (by repeat (first | (with_reducible first | exact HB.out | apply b8_27 | apply b6_27 | apply b7_27 | refine b4_27 ?_ GE283.out | refine b4_27 ?_ GE288.out) | exact HB.out)) hb)
          clear HO_7 HO_289001 BK283 BK288 HB
          have HO_7 := n0_
          have HO_289001 := n1_
          have BK283 := n2_
          have BK288 := n3_
          have HB := n4_
          clear n0_ n1_ n2_ n3_ n4_
          (try clear hb)
          (try clear hb2)
          (try clear hk)
          (try clear hi)
          refine hK.out _ _ ⟨(blk_cell BK288.out 0).trans rfl, (blk_cell BK288.out 1).trans rfl, ((HB.out.cell (World.block_lt_of_cell? w _ hw289_0)).trans hw289_0), ((HB.out.cell (World.block_lt_of_cell? w _ hw289_1)).trans hw289_1), ((HB.out.cell (World.block_lt_of_cell? w _ hw289_2)).trans hw289_2), ((HB.out.cell (World.block_lt_of_cell? w _ hw289_3)).trans hw289_3)⟩ (fun hHeld => ?_)
          clear hK K
          refine norm_ (a' := ?_) ?_ ?_
          rotate_left
          ·show Act.put _ (some 29) _ = _
           simp only [Act.put, l1_27, l2_27, l3_27, i64_w, i32_w]
           rfl
          refine pure_ (i := 7) (N := some 9) (v := ?_) (a' := ?_) #[true, true, true, true, true, true, true, true] rfl rfl (any_of HT_.out (by kernel_rfl)) (fun _ _ _ h => h) (Or.inl ⟨by rfl, ?_⟩) ?_ ?_
          rotate_left
          ·intro w'
           go_simp
           with_reducible rfl
          rotate_left
          ·simp only [Act.put, l1_27, l2_27, l3_27, i64_w, i32_w]
           rfl
          refine done_ (done_of HT_.out (by kernel_rfl)) ?_
          try go_wp2
          have n0_ := aM_27 (r3_27 HO_7.out)
          have n1_ := aM_27 (v3_27 HO_289001.out)
          have n2_ := aM_27 (b3_27 BK283.out)
          have n3_ := aM_27 (b3_27 BK288.out)
          have n4_ := aM_27 (b7_27 HB.out)
          clear HO_7 HO_289001 BK283 BK288 HB
          have HO_7 := n0_
          have HO_289001 := n1_
          have BK283 := n2_
          have BK288 := n3_
          have HB := n4_
          clear n0_ n1_ n2_ n3_ n4_
          have p291 : 0 ≤ (x8_1 : Int) := of_decide_eq_true (by first | (with_reducible assumption) | assumption)
          have q291 : x8_1 < (l1.length : Int) := of_decide_eq_true (by first | (with_reducible assumption) | assumption)
          obtain ⟨ad291, e291, hx291_0, hx291_1, hx291_2, hx291_3⟩ := at_T28 HR1.out x8_1 p291 q291
          have hw291_3 := hx291_3
          have hw291_2 := hx291_2
          have hw291_1 := hx291_1
          have hw291_0 := hx291_0
          obtain rfl : ad289 = ad291 := (by injection e291)
          replace hx291_0 := (HB.out.cell (World.block_lt_of_cell? w _ hx291_0)).trans hx291_0
          replace hx291_1 := (HB.out.cell (World.block_lt_of_cell? w _ hx291_1)).trans hx291_1
          replace hx291_2 := (HB.out.cell (World.block_lt_of_cell? w _ hx291_2)).trans hx291_2
          replace hx291_3 := (HB.out.cell (World.block_lt_of_cell? w _ hx291_3)).trans hx291_3
          replace p291 := eq_true p291
          replace q291 := eq_true q291
          refine start_ (n := 8) (S := fun w' => w'.cell? ⟨gb288, 0, none⟩ = some (.int .i64 x289000_1) ∧ w'.cell? ⟨gb288, 1, none⟩ = some (.slice Ao81 x289001_1.length co81) ∧ w'.cell? (ad289.add ((x8_1).toNat * 4)) = some (.int .u8 ((rd_T28 l1 x8_1).f0)) ∧ w'.cell? ⟨(ad289.add ((x8_1).toNat * 4)).block, (ad289.add ((x8_1).toNat * 4)).off + 1, none⟩ = some (.int .u16 ((rd_T28 l1 x8_1).f1)) ∧ w'.cell? ⟨(ad289.add ((x8_1).toNat * 4)).block, (ad289.add ((x8_1).toNat * 4)).off + 2, none⟩ = some (.int .u16 ((rd_T28 l1 x8_1).f2)) ∧ w'.cell? ⟨(ad289.add ((x8_1).toNat * 4)).block, (ad289.add ((x8_1).toNat * 4)).off + 3, none⟩ = some (.int .u16 ((rd_T28 l1 x8_1).f3))) (ds := []) #[false, false, false, false, false, false, false, false] (by kernel_rfl) rfl rfl ⟨(blk_cell BK288.out 0).trans rfl, (blk_cell BK288.out 1).trans rfl, ((HB.out.cell (World.block_lt_of_cell? w _ hw291_0)).trans hw291_0), ((HB.out.cell (World.block_lt_of_cell? w _ hw291_1)).trans hw291_1), ((HB.out.cell (World.block_lt_of_cell? w _ hw291_2)).trans hw291_2), ((HB.out.cell (World.block_lt_of_cell? w _ hw291_3)).trans hw291_3)⟩ (fun hHeld => ?_); refine with_tabW proofmarklaw13_Made.tab7 proofmarklaw13_Made.bits7 (fun HT_ HW_ => ?_)
          generalize w82.drew = w83 at HO_7 HO_289001 BK283 BK288 HB hx291_0 hx291_1 hx291_2 hx291_3 hHeld ⊢
          refine pure_ (i := 1) (N := some 31) (v := ?_) (a' := ?_) #[false, true, false, false, false, false, false, false] rfl rfl (any_of HT_.out (by kernel_rfl)) (fun _ _ _ h => h) (Or.inl ⟨by rfl, ?_⟩) ?_ ?_
          rotate_left
          ·intro w'
           go_simp
           with_reducible rfl
          rotate_left
          ·simp only [Act.put, l1_27, l2_27, l3_27, i64_w, i32_w]
           rfl
          refine pure_ (i := 2) (N := some 32) (v := ?_) (a' := ?_) #[false, true, true, false, false, false, false, false] rfl rfl (any_of HT_.out (by kernel_rfl)) (fun _ _ _ h => h) (Or.inl ⟨by rfl, ?_⟩) ?_ ?_
          rotate_left
          ·intro w'
           go_simp
           with_reducible rfl
          rotate_left
          ·simp only [Act.put, l1_27, l2_27, l3_27, i64_w, i32_w]
           rfl
          refine pure_ (i := 3) (N := some 33) (v := ?_) (a' := ?_) #[false, true, true, true, false, false, false, false] rfl rfl (any_of HT_.out (by kernel_rfl)) (fun _ _ _ h => h) (Or.inl ⟨by rfl, ?_⟩) ?_ ?_
          rotate_left
          ·intro w'
           go_simp
           with_reducible rfl
          rotate_left
          ·simp only [Act.put, l1_27, l2_27, l3_27, i64_w, i32_w]
           rfl
          refine pure_ (i := 4) (N := some 34) (v := ?_) (a' := ?_) #[false, true, true, true, true, false, false, false] rfl rfl (any_of HT_.out (by kernel_rfl)) (fun _ _ _ h => h) (Or.inl ⟨by rfl, ?_⟩) ?_ ?_
          rotate_left
          ·intro w'
           go_simp
           with_reducible rfl
          rotate_left
          ·simp only [Act.put, l1_27, l2_27, l3_27, i64_w, i32_w]
           rfl
          refine take_ (i := 0) (N := some 30) (v := ?_) (a' := ?_) #[true, true, true, true, true, false, false, false] rfl rfl (take_ofW HT_.out HW_.out (by kernel_rfl)) (fun _ _ _ h => h) (Or.inl ⟨by rfl, ?_⟩) hHeld ?_ ?_
          rotate_left
          ·rintro w' ⟨s0, s1, s2, s3, s4, s5⟩
           go_simp
           with_reducible rfl
          rotate_left
          ·simp only [Act.put, l1_27, l2_27, l3_27, i64_w, i32_w]
           rfl
          refine take_ (i := 5) (N := some 35) (v := ?_) (a' := ?_) #[true, true, true, true, true, true, false, false] rfl rfl (take_ofW HT_.out HW_.out (by kernel_rfl)) (fun _ _ _ h => h) (Or.inl ⟨by rfl, ?_⟩) hHeld ?_ ?_
          rotate_left
          ·rintro w' ⟨s0, s1, s2, s3, s4, s5⟩
           go_simp
           with_reducible rfl
          rotate_left
          ·simp only [Act.put, l1_27, l2_27, l3_27, i64_w, i32_w]
           rfl
          refine one_ (i := 6) (N := some 36) #[true, true, true, true, true, true, true, false] rfl rfl (one_of HT_.out (by kernel_rfl)) (by decide) (fun K hK => ?_)
          refine goes_ Try.func15 (by kernel_rfl) rfl #[.agg #[.int .i64 x289000_1, .slice Ao81 x289001_1.length co81], .int .u16 ((rd_T28 l1 x8_1).f2)] (by rfl) rfl rfl (by (try simp only [List.map_toArray, List.map_cons, List.map_nil]); first | done | rfl | (simp only [List.length_drop, List.length_take]; rfl)) ?_
          with_reducible refine (proofmarklaw13_literal.calls x289000_1 _ _ x289001_1 ((rd_T28 l1 x8_1).f2) t292 _ ?side1 ?side2 A13.out).mono ?_
          (case side1 => repeat (first | exact (Kd.V_reads' HO_289001.out).2.2 | (with_reducible refine c3_27 ?_ _) | (with_reducible refine c4_27 ?_ _) | (with_reducible refine c5_27 ?_)))
          (case side2 => exact (Kd.V_reads' HO_289001.out).2.1)
          rintro e w84 ⟨rfl, hb⟩
          refine ⟨_, rfl, ?_⟩
          have n0_ := aM_27 (r4_27 (by (with_reducible repeat (first | apply r1_27 | apply r2_27 | apply r3_27)); exact HO_7.out) hb)
          have n1_ := aM_27 (v6_27 (by (with_reducible repeat (first | apply v1_27 | apply v2_27 | apply v3_27)); exact HO_289001.out) hb)
          have n2_ := aM_27 (b5_27 (by exact BK283.out) hb)
          have n3_ := aM_27 (b5_27 (by exact BK288.out) hb)
          have n4_ := aM_27 (b9_27 (by repeat (first | (with_reducible first | exact HB.out | apply b8_27 | apply b6_27 | apply b7_27 | refine b4_27 ?_ GE283.out | refine b4_27 ?_ GE288.out) | exact HB.out)) hb)
          clear HO_7 HO_289001 BK283 BK288 HB
          have HO_7 := n0_
          have HO_289001 := n1_
          have BK283 := n2_
          have BK288 := n3_
          have HB := n4_
          clear n0_ n1_ n2_ n3_ n4_
          (try clear hb)
          (try clear hb2)
          (try clear hk)
          (try clear hi)
          refine hK.out _ _ ⟨(blk_cell BK288.out 0).trans rfl, (blk_cell BK288.out 1).trans rfl, ((HB.out.cell (World.block_lt_of_cell? w _ hw291_0)).trans hw291_0), ((HB.out.cell (World.block_lt_of_cell? w _ hw291_1)).trans hw291_1), ((HB.out.cell (World.block_lt_of_cell? w _ hw291_2)).trans hw291_2), ((HB.out.cell (World.block_lt_of_cell? w _ hw291_3)).trans hw291_3)⟩ (fun hHeld => ?_)
          clear hK K
          refine norm_ (a' := ?_) ?_ ?_
          rotate_left
          ·show Act.put _ (some 36) _ = _
           simp only [Act.put, l1_27, l2_27, l3_27, i64_w, i32_w]
           rfl
          refine pure_ (i := 7) (N := some 10) (v := ?_) (a' := ?_) #[true, true, true, true, true, true, true, true] rfl rfl (any_of HT_.out (by kernel_rfl)) (fun _ _ _ h => h) (Or.inl ⟨by rfl, ?_⟩) ?_ ?_
          rotate_left
          ·intro w'
           go_simp
           with_reducible rfl
          rotate_left
          ·simp only [Act.put, l1_27, l2_27, l3_27, i64_w, i32_w]
           rfl
          refine done_ (done_of HT_.out (by kernel_rfl)) ?_
          try go_wp2
          have n0_ := aM_27 (r3_27 HO_7.out)
          have n1_ := aM_27 (v3_27 HO_289001.out)
          have n2_ := aM_27 (b3_27 BK283.out)
          have n3_ := aM_27 (b3_27 BK288.out)
          have n4_ := aM_27 (b7_27 HB.out)
          clear HO_7 HO_289001 BK283 BK288 HB
          have HO_7 := n0_
          have HO_289001 := n1_
          have BK283 := n2_
          have BK288 := n3_
          have HB := n4_
          clear n0_ n1_ n2_ n3_ n4_
          have p293 : 0 ≤ (x8_1 : Int) := of_decide_eq_true (by first | (with_reducible assumption) | assumption)
          have q293 : x8_1 < (l1.length : Int) := of_decide_eq_true (by first | (with_reducible assumption) | assumption)
          obtain ⟨ad293, e293, hx293_0, hx293_1, hx293_2, hx293_3⟩ := at_T28 HR1.out x8_1 p293 q293
          have hw293_3 := hx293_3
          have hw293_2 := hx293_2
          have hw293_1 := hx293_1
          have hw293_0 := hx293_0
          obtain rfl : ad289 = ad293 := (by injection e293)
          replace hx293_0 := (HB.out.cell (World.block_lt_of_cell? w _ hx293_0)).trans hx293_0
          replace hx293_1 := (HB.out.cell (World.block_lt_of_cell? w _ hx293_1)).trans hx293_1
          replace hx293_2 := (HB.out.cell (World.block_lt_of_cell? w _ hx293_2)).trans hx293_2
          replace hx293_3 := (HB.out.cell (World.block_lt_of_cell? w _ hx293_3)).trans hx293_3
          replace p293 := eq_true p293
          replace q293 := eq_true q293
          refine start_ (n := 8) (S := fun w' => w'.cell? ⟨gb288, 0, none⟩ = some (.int .i64 x289000_1) ∧ w'.cell? ⟨gb288, 1, none⟩ = some (.slice Ao81 x289001_1.length co81) ∧ w'.cell? (ad289.add ((x8_1).toNat * 4)) = some (.int .u8 ((rd_T28 l1 x8_1).f0)) ∧ w'.cell? ⟨(ad289.add ((x8_1).toNat * 4)).block, (ad289.add ((x8_1).toNat * 4)).off + 1, none⟩ = some (.int .u16 ((rd_T28 l1 x8_1).f1)) ∧ w'.cell? ⟨(ad289.add ((x8_1).toNat * 4)).block, (ad289.add ((x8_1).toNat * 4)).off + 2, none⟩ = some (.int .u16 ((rd_T28 l1 x8_1).f2)) ∧ w'.cell? ⟨(ad289.add ((x8_1).toNat * 4)).block, (ad289.add ((x8_1).toNat * 4)).off + 3, none⟩ = some (.int .u16 ((rd_T28 l1 x8_1).f3))) (ds := []) #[false, false, false, false, false, false, false, false] (by kernel_rfl) rfl rfl ⟨(blk_cell BK288.out 0).trans rfl, (blk_cell BK288.out 1).trans rfl, ((HB.out.cell (World.block_lt_of_cell? w _ hw293_0)).trans hw293_0), ((HB.out.cell (World.block_lt_of_cell? w _ hw293_1)).trans hw293_1), ((HB.out.cell (World.block_lt_of_cell? w _ hw293_2)).trans hw293_2), ((HB.out.cell (World.block_lt_of_cell? w _ hw293_3)).trans hw293_3)⟩ (fun hHeld => ?_); refine with_tabW proofmarklaw13_Made.tab8 proofmarklaw13_Made.bits8 (fun HT_ HW_ => ?_)
          generalize w84.drew = w85 at HO_7 HO_289001 BK283 BK288 HB hx293_0 hx293_1 hx293_2 hx293_3 hHeld ⊢
          refine pure_ (i := 1) (N := some 38) (v := ?_) (a' := ?_) #[false, true, false, false, false, false, false, false] rfl rfl (any_of HT_.out (by kernel_rfl)) (fun _ _ _ h => h) (Or.inl ⟨by rfl, ?_⟩) ?_ ?_
          rotate_left
          ·intro w'
           go_simp
           with_reducible rfl
          rotate_left
          ·simp only [Act.put, l1_27, l2_27, l3_27, i64_w, i32_w]
           rfl
          refine pure_ (i := 2) (N := some 39) (v := ?_) (a' := ?_) #[false, true, true, false, false, false, false, false] rfl rfl (any_of HT_.out (by kernel_rfl)) (fun _ _ _ h => h) (Or.inl ⟨by rfl, ?_⟩) ?_ ?_
          rotate_left
          ·intro w'
           go_simp
           with_reducible rfl
          rotate_left
          ·simp only [Act.put, l1_27, l2_27, l3_27, i64_w, i32_w]
           rfl
          refine pure_ (i := 3) (N := some 40) (v := ?_) (a' := ?_) #[false, true, true, true, false, false, false, false] rfl rfl (any_of HT_.out (by kernel_rfl)) (fun _ _ _ h => h) (Or.inl ⟨by rfl, ?_⟩) ?_ ?_
          rotate_left
          ·intro w'
           go_simp
           with_reducible rfl
          rotate_left
          ·simp only [Act.put, l1_27, l2_27, l3_27, i64_w, i32_w]
           rfl
          refine pure_ (i := 4) (N := some 41) (v := ?_) (a' := ?_) #[false, true, true, true, true, false, false, false] rfl rfl (any_of HT_.out (by kernel_rfl)) (fun _ _ _ h => h) (Or.inl ⟨by rfl, ?_⟩) ?_ ?_
          rotate_left
          ·intro w'
           go_simp
           with_reducible rfl
          rotate_left
          ·simp only [Act.put, l1_27, l2_27, l3_27, i64_w, i32_w]
           rfl
          refine take_ (i := 0) (N := some 37) (v := ?_) (a' := ?_) #[true, true, true, true, true, false, false, false] rfl rfl (take_ofW HT_.out HW_.out (by kernel_rfl)) (fun _ _ _ h => h) (Or.inl ⟨by rfl, ?_⟩) hHeld ?_ ?_
          rotate_left
          ·rintro w' ⟨s0, s1, s2, s3, s4, s5⟩
           go_simp
           with_reducible rfl
          rotate_left
          ·simp only [Act.put, l1_27, l2_27, l3_27, i64_w, i32_w]
           rfl
          refine take_ (i := 5) (N := some 42) (v := ?_) (a' := ?_) #[true, true, true, true, true, true, false, false] rfl rfl (take_ofW HT_.out HW_.out (by kernel_rfl)) (fun _ _ _ h => h) (Or.inl ⟨by rfl, ?_⟩) hHeld ?_ ?_
          rotate_left
          ·rintro w' ⟨s0, s1, s2, s3, s4, s5⟩
           go_simp
           with_reducible rfl
          rotate_left
          ·simp only [Act.put, l1_27, l2_27, l3_27, i64_w, i32_w]
           rfl
          refine one_ (i := 6) (N := some 43) #[true, true, true, true, true, true, true, false] rfl rfl (one_of HT_.out (by kernel_rfl)) (by decide) (fun K hK => ?_)
          refine goes_ Try.func15 (by kernel_rfl) rfl #[.agg #[.int .i64 x289000_1, .slice Ao81 x289001_1.length co81], .int .u16 ((rd_T28 l1 x8_1).f3)] (by rfl) rfl rfl (by (try simp only [List.map_toArray, List.map_cons, List.map_nil]); first | done | rfl | (simp only [List.length_drop, List.length_take]; rfl)) ?_
          with_reducible refine (proofmarklaw13_literal.calls x289000_1 _ _ x289001_1 ((rd_T28 l1 x8_1).f3) t294 _ ?side1 ?side2 A14.out).mono ?_
          (case side1 => repeat (first | exact (Kd.V_reads' HO_289001.out).2.2 | (with_reducible refine c3_27 ?_ _) | (with_reducible refine c4_27 ?_ _) | (with_reducible refine c5_27 ?_)))
          (case side2 => exact (Kd.V_reads' HO_289001.out).2.1)
          rintro e w86 ⟨rfl, hb⟩
          refine ⟨_, rfl, ?_⟩
          have n0_ := aM_27 (r4_27 (by (with_reducible repeat (first | apply r1_27 | apply r2_27 | apply r3_27)); exact HO_7.out) hb)
          have n1_ := aM_27 (v6_27 (by (with_reducible repeat (first | apply v1_27 | apply v2_27 | apply v3_27)); exact HO_289001.out) hb)
          have n2_ := aM_27 (b5_27 (by exact BK283.out) hb)
          have n3_ := aM_27 (b5_27 (by exact BK288.out) hb)
          have n4_ := aM_27 (b9_27 (by repeat (first | (with_reducible first | exact HB.out | apply b8_27 | apply b6_27 | apply b7_27 | refine b4_27 ?_ GE283.out | refine b4_27 ?_ GE288.out) | exact HB.out)) hb)
          clear HO_7 HO_289001 BK283 BK288 HB
          have HO_7 := n0_
          have HO_289001 := n1_
          have BK283 := n2_
          have BK288 := n3_
          have HB := n4_
          clear n0_ n1_ n2_ n3_ n4_
          (try clear hb)
          (try clear hb2)
          (try clear hk)
          (try clear hi)
          refine hK.out _ _ ⟨(blk_cell BK288.out 0).trans rfl, (blk_cell BK288.out 1).trans rfl, ((HB.out.cell (World.block_lt_of_cell? w _ hw293_0)).trans hw293_0), ((HB.out.cell (World.block_lt_of_cell? w _ hw293_1)).trans hw293_1), ((HB.out.cell (World.block_lt_of_cell? w _ hw293_2)).trans hw293_2), ((HB.out.cell (World.block_lt_of_cell? w _ hw293_3)).trans hw293_3)⟩ (fun hHeld => ?_)
          clear hK K
          refine norm_ (a' := ?_) ?_ ?_
          rotate_left
          ·show Act.put _ (some 43) _ = _
           simp only [Act.put, l1_27, l2_27, l3_27, i64_w, i32_w]
           rfl
          refine pure_ (i := 7) (N := some 11) (v := ?_) (a' := ?_) #[true, true, true, true, true, true, true, true] rfl rfl (any_of HT_.out (by kernel_rfl)) (fun _ _ _ h => h) (Or.inl ⟨by rfl, ?_⟩) ?_ ?_
          rotate_left
          ·intro w'
           go_simp
           with_reducible rfl
          rotate_left
          ·simp only [Act.put, l1_27, l2_27, l3_27, i64_w, i32_w]
           rfl
          refine done_ (done_of HT_.out (by kernel_rfl)) ?_
          have p295 : 0 ≤ (x8_1 : Int) := of_decide_eq_true (by first | (with_reducible assumption) | assumption)
          have q295 : x8_1 < (l1.length : Int) := of_decide_eq_true (by first | (with_reducible assumption) | assumption)
          obtain ⟨ad295, e295, hx295_0, hx295_1, hx295_2, hx295_3⟩ := at_T28 HR1.out x8_1 p295 q295
          obtain rfl : ad289 = ad295 := (by injection e295)
          replace hx295_0 := (HB.out.cell (World.block_lt_of_cell? w _ hx295_0)).trans hx295_0
          replace hx295_1 := (HB.out.cell (World.block_lt_of_cell? w _ hx295_1)).trans hx295_1
          replace hx295_2 := (HB.out.cell (World.block_lt_of_cell? w _ hx295_2)).trans hx295_2
          replace hx295_3 := (HB.out.cell (World.block_lt_of_cell? w _ hx295_3)).trans hx295_3
          replace p295 := eq_true p295
          replace q295 := eq_true q295
          try go_wp2_with (first | ((with_reducible refine gate_builtin (b := .append) (xs := #[.tmp 87, .tmp 89]) rfl ?_); at_builtin; refine Kd.R_append (Kd.int .i64) (w0 := w) w.heap.size rfl (.tmp 87) (.tmp 89) 33 3 (.int .i64 0) 8 rfl Try.underlying33 info3 rfl (by decide) (by omega) u7 x7_1 0 [.int .i64 0] (fun k_ => (w.heap.size ≤ k_)) (fun _ => False) rfl rfl ?aP (fun _ hk => hk.elim) ?aF ?aO ?aB ?aS ?aL ?_; (case aP => exact rfl); (case aB => exact (by repeat (first | (with_reducible first | exact HB.out | apply b8_27 | apply b6_27 | apply b7_27 | refine b4_27 ?_ GE283.out | refine b4_27 ?_ GE288.out) | exact HB.out))); (case aF => exact (fun k_ hk => (Nat.le_trans (b0_27 (by repeat (first | (with_reducible first | exact HB.out | apply b8_27 | apply b6_27 | apply b7_27 | refine b4_27 ?_ GE283.out | refine b4_27 ?_ GE288.out) | exact HB.out))) hk))); (case aO => exact (by (with_reducible repeat (first | apply r1_27 | apply r2_27 | apply r3_27)); exact HO_7.out)); (case aS => exact (b0_27 (by repeat (first | (with_reducible first | exact HB.out | apply b8_27 | apply b6_27 | apply b7_27 | refine b4_27 ?_ GE283.out | refine b4_27 ?_ GE288.out) | exact HB.out)))); (case aL => have := LMc79.out; omega); intro v329 w87 ho hb hg hat; rw [← Ny328.out] at ho; have n0_ := aM_27 (Kd.V_afterv (ok := (fun k_ => (w.heap.size ≤ k_) ∧ k_ ≠ gb283 ∧ k_ ≠ gb288)) (by (with_reducible repeat (first | apply v1_27 | apply v2_27 | apply v3_27)); exact v4_27 HO_289001.out (fun _ hk => ⟨⟨hk.1, ⟨hk.2.2.1, hk.2.2.2⟩⟩, hk.2.1⟩)) hg hat); have n1_ := aM_27 (blk_grown (g := gb283) (o := .cells #[.int .i64 0, .slice none 0 0] 24 (0, 0)) (by exact BK283.out) hg (Kd.R_ne HO_7.out BK283.out (by decide))); have n2_ := aM_27 (blk_grown (g := gb288) (o := .cells #[.int .i64 x289000_1, .slice Ao81 x289001_1.length co81] 24 (0, 0)) (by exact BK288.out) hg (Kd.R_ne HO_7.out BK288.out (by decide))); have n3_ := aM_27 (hb); have n4_ := aM_27 (ho); clear HO_289001 BK283 BK288 HB HO_7; have HO_289001 := n0_; have BK283 := n1_; have BK288 := n2_; have HB := n3_; have HO330 := n4_; clear n0_ n1_ n2_ n3_ n4_; clear ho hb hg hat))
          go_roundg k1
          case measure => have := HK1.out; omega
          case rel => exact ⟨(y328), (wrap64 (x8_1 + 1)), (x289000_1), (x289001_1), (.slice Ao81 x289001_1.length co81), (by first | rfl | (simp; done) | (simp [*]; done)), H', ⟨by have := HK1.out; omega⟩, ⟨by (with_reducible repeat (first | apply r1_27 | apply r2_27 | apply r3_27)); exact HO330.out⟩, ⟨by (with_reducible repeat (first | apply v1_27 | apply v2_27 | apply v3_27)); exact v4_27 HO_289001.out (fun _ hk => ⟨hk.1.1, ⟨hk.2, ⟨hk.1.2.1, hk.1.2.2⟩⟩⟩)⟩, ⟨by (with_reducible repeat (first | refine b1_27 ?_ _ | refine b3_27 ?_ | refine b2_27 ?_ _)); exact BK283.out⟩, ⟨by (with_reducible repeat (first | refine b1_27 ?_ _ | refine b3_27 ?_ | refine b2_27 ?_ _)); exact BK288.out⟩, ⟨by repeat (first | (with_reducible first | exact HB.out | apply b8_27 | apply b6_27 | apply b7_27 | refine b4_27 ?_ GE283.out | refine b4_27 ?_ GE288.out) | exact HB.out)⟩⟩
         ·rw [if_neg c79] at H
          exact absurd H (by simp)
    ·rw [if_neg c11] at H
     exact absurd H (by simp)
   ·rw [if_neg c10] at H
    have c10b0 : decide (x8_1 < (l1.length : Int)) = false := decide_eq_false c10
    clear c10
    simp only [Option.some.injEq, Prod.mk.injEq] at H
    obtain ⟨rfl, rfl, rfl⟩ := H
    have hnb88 := NB288_283.out
    have hnc88 := NB283_288.out
    obtain ⟨hcz89_0, hcz89_1, hfz89_0, hfz89_1⟩ := cells2_27 BK288.out
    obtain ⟨hcz90_0, hcz90_1, hfz90_0, hfz90_1⟩ := cells2_27 BK283.out
    obtain ⟨Ao91, co91, eo91⟩ := Kd.V_slice HO_289001.out
    subst eo91
    go_wp2
    refine bodyPost_ret (results_ct rfl _ _ gb283 24 #[.int .i64 x289000_1, .slice Ao91 x289001_1.length co91] (0, 0) _ rfl (by (with_reducible repeat (first | refine b1_27 ?_ _ | refine b3_27 ?_ | refine b2_27 ?_ _)); refine blk_put (cs := #[.int .i64 x289000_1, .slice none 0 0]) ?_ 1 _ rfl; (with_reducible repeat (first | refine b1_27 ?_ _ | refine b3_27 ?_ | refine b2_27 ?_ _)); refine blk_put (cs := #[.int .i64 0, .slice none 0 0]) ?_ 0 _ rfl; (with_reducible repeat (first | refine b1_27 ?_ _ | refine b3_27 ?_ | refine b2_27 ?_ _)); exact BK283.out) Try.underlying24 rfl (by kernel_rfl)) rfl ?_
    exact ⟨_, _, by first | rfl | (simp [errW_none, errW_some] <;> rfl) | (simp [*, errW_none, errW_some] <;> rfl), by (with_reducible repeat (first | apply v1_27 | apply v2_27 | apply v3_27)); exact v4_27 (v5_27 (p := ⟨gb283, 1, none⟩) (v5_27 (p := ⟨gb283, 0, none⟩) (v4_27 HO_289001.out (fun k_ hk => (⟨hk, hk.2.2.1⟩ : _ ∧ k_ ≠ gb283))) (fun _ hk => hk.2) (.int .i64 x289000_1)) (fun _ hk => hk.2) (.slice Ao91 x289001_1.length co91)) (fun _ hk => ⟨hk.1.1, hk.1.2.1⟩), by (with_reducible repeat (first | apply r1_27 | apply r2_27 | apply r3_27)); exact Kd.R_mono (Kd.R_far (p := ⟨gb283, 1, none⟩) (Kd.R_far (p := ⟨gb283, 0, none⟩) (Kd.R_types HO_7.out BK283.out (by decide)) (fun _ hk => hk.2) (.int .i64 x289000_1)) (fun _ hk => hk.2) (.slice Ao91 x289001_1.length co91)) (fun _ hk => hk.1), by repeat (first | (with_reducible first | exact HB.out | apply b8_27 | apply b6_27 | apply b7_27 | refine b4_27 ?_ GE283.out | refine b4_27 ?_ GE288.out) | exact HB.out)⟩
end Go.Proofs.Ytlnjefcfbncegaa.Xb
