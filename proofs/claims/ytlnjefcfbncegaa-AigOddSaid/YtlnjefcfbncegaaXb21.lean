/- Slimmed by this session: what nothing names is struck out. -/
import Derived.Test.YtlnjefcfbncegaaXb0
import Derived.Test.YtlnjefcfbncegaaXb18
namespace Go.Proofs.Ytlnjefcfbncegaa.Xb
open Go.RowKit Go.Proofs.YtlnjefcfbncegaaW.PrintWords Go.Proofs.YtlnjefcfbncegaaW.PrintLast Go.Proofs.YtlnjefcfbncegaaW.PrintMore
attribute [local go_sem] max2_int min2_int max_two min_two max_three min_three max_four min_four
set_option linter.unusedVariables false
set_option linter.unusedSimpArgs false
abbrev b1_21 := @blk_drewN
abbrev b2_21 := @blk_alloc
abbrev b3_21 := @blk_drew
abbrev b4_21 := @below_set
abbrev aM_21 := @Aside0.mk
abbrev v1_21 := @Kd.V_alloc
abbrev v2_21 := @Kd.V_drewN
abbrev v3_21 := @Kd.V_drew
abbrev v4_21 := @Kd.V_mono
abbrev b6_21 := @pw_below_drewN
abbrev b7_21 := @below_drew1
abbrev b8_21 := @below_alloc
abbrev b0_21 := @below_size
abbrev l1_21 := @List.setIfInBounds_toArray
abbrev l2_21 := @List.set_cons_zero
abbrev l3_21 := @List.set_cons_succ
theorem cells2_21 {w : World} {g : Nat} {t : TypeId} {x0 x1 : Value} (h : w.heap[g]? = some (.cells #[x0, x1] t (0, 0))) : w.cell? ⟨g, 0, none⟩ = some x0 ∧ w.cell? ⟨g, 1, none⟩ = some x1 ∧ w.frozen? ⟨g, 0, none⟩ = false ∧ w.frozen? ⟨g, 1, none⟩ = false := ⟨(blk_cell h 0).trans rfl, (blk_cell h 1).trans rfl, blk_frozen h 0, blk_frozen h 1⟩
mutual
def proofmarkref13_And.j0 : Nat → Int → Int → Int → List (S50) → Option (Int × (List (S50)) × Int)
 | 0, _, _, _, _ => none
 | k + 1, x1, x2, x230000, x230001 => if x1 = 0 then (proofmarkref13_And.j1 k x1 x2 true x230000 x230001) else (if (wrap64 (Int.tdiv x1 2)) = (wrap64 (Int.tdiv x2 2)) then (proofmarkref13_And.j1 k x1 x2 (x1 != x2) x230000 x230001) else (proofmarkref13_And.j1 k x1 x2 false x230000 x230001))
def proofmarkref13_And.j1 : Nat → Int → Int → Bool → Int → List (S50) → Option (Int × (List (S50)) × Int)
 | 0, _, _, _, _, _ => none
 | k + 1, x1, x2, x27, x230000, x230001 => if x27 = true then (some (x230000, x230001, 0)) else (if x1 = 1 then (proofmarkref13_And.j2 k x1 x2 true x230000 x230001) else (proofmarkref13_And.j2 k x1 x2 (x1 == x2) x230000 x230001))
def proofmarkref13_And.j2 : Nat → Int → Int → Bool → Int → List (S50) → Option (Int × (List (S50)) × Int)
 | 0, _, _, _, _, _ => none
 | k + 1, x1, x2, x35, x230000, x230001 => if x35 = true then (some (x230000, x230001, x2)) else ((proofmarkref13_find.f k x230000 x230001 x1 x2 (x230001.length : Int)).bind fun t231 => (if t231 < 0 then ((some (([] : List (S50)) : List (S50))).bind fun y232 => (if y232.length + x230001.length < 8796093022208 then ((some (y232 ++ x230001 : List (S50))).bind fun y235 => (if y235.length < 8796093022208 then (some (x230000, (y235 ++ [(⟨x1, x2⟩ : S50)]), wrap64 (2 * (wrap64 ((wrap64 (x230000 + 1)) + (x230001.length : Int)))))) else (none))) else (none))) else (some (x230000, x230001, wrap64 (2 * (wrap64 ((wrap64 (x230000 + 1)) + t231)))))))
end
def proofmarkref13_And.f (k : Nat) (a0_0 : Int) (l0_1 : List (S50)) (a1 : Int) (a2 : Int) : Option (Int × (List (S50)) × Int) := if a1 > a2 then (proofmarkref13_And.j0 k a2 a1 a0_0 l0_1) else (proofmarkref13_And.j0 k a1 a2 a0_0 l0_1)
theorem proofmarkref13_And.mono_l : ∀ k, (∀ y0 y1 y2 y3, LeO (proofmarkref13_And.j0 k y0 y1 y2 y3) (proofmarkref13_And.j0 (k + 1) y0 y1 y2 y3)) ∧ (∀ y0 y1 y2 y3 y4, LeO (proofmarkref13_And.j1 k y0 y1 y2 y3 y4) (proofmarkref13_And.j1 (k + 1) y0 y1 y2 y3 y4)) ∧ (∀ y0 y1 y2 y3 y4, LeO (proofmarkref13_And.j2 k y0 y1 y2 y3 y4) (proofmarkref13_And.j2 (k + 1) y0 y1 y2 y3 y4))
 | 0 => ⟨fun _ _ _ _ r h => by simp [proofmarkref13_And.j0] at h, fun _ _ _ _ _ r h => by simp [proofmarkref13_And.j1] at h, fun _ _ _ _ _ r h => by simp [proofmarkref13_And.j2] at h⟩
 | k + 1 => by
  obtain ⟨ih0, ih1, ih2⟩ := proofmarkref13_And.mono_l k
  refine ⟨?_, ?_, ?_⟩
  ·intro y0 y1 y2 y3
   unfold proofmarkref13_And.j0
   repeat' first
   | (with_reducible exact ih0 _ _ _ _)
   | (with_reducible exact ih1 _ _ _ _ _)
   | (with_reducible exact ih2 _ _ _ _ _)
   | (with_reducible exact proofmarkref13_find.mono _ _ _ _ _ _)
   | (with_reducible exact LeO.refl _)
   | (with_reducible exact LeO.none _)
   | (with_reducible refine LeO.ite ?_ ?_)
   | (with_reducible refine LeO.bind ?_ (fun _ => ?_))
   | exact ih0 _ _ _ _
   | exact ih1 _ _ _ _ _
   | exact ih2 _ _ _ _ _
   | exact proofmarkref13_find.mono _ _ _ _ _ _
   | exact LeO.none _
   | refine LeO.ite ?_ ?_
   | refine LeO.bind ?_ (fun _ => ?_)
  ·intro y0 y1 y2 y3 y4
   unfold proofmarkref13_And.j1
   repeat' first
   | (with_reducible exact ih0 _ _ _ _)
   | (with_reducible exact ih1 _ _ _ _ _)
   | (with_reducible exact ih2 _ _ _ _ _)
   | (with_reducible exact proofmarkref13_find.mono _ _ _ _ _ _)
   | (with_reducible exact LeO.refl _)
   | (with_reducible exact LeO.none _)
   | (with_reducible refine LeO.ite ?_ ?_)
   | (with_reducible refine LeO.bind ?_ (fun _ => ?_))
   | exact ih0 _ _ _ _
   | exact ih1 _ _ _ _ _
   | exact ih2 _ _ _ _ _
   | exact proofmarkref13_find.mono _ _ _ _ _ _
   | exact LeO.none _
   | refine LeO.ite ?_ ?_
   | refine LeO.bind ?_ (fun _ => ?_)
  ·intro y0 y1 y2 y3 y4
   unfold proofmarkref13_And.j2
   repeat' first
   | (with_reducible exact ih0 _ _ _ _)
   | (with_reducible exact ih1 _ _ _ _ _)
   | (with_reducible exact ih2 _ _ _ _ _)
   | (with_reducible exact proofmarkref13_find.mono _ _ _ _ _ _)
   | (with_reducible exact LeO.refl _)
   | (with_reducible exact LeO.none _)
   | (with_reducible refine LeO.ite ?_ ?_)
   | (with_reducible refine LeO.bind ?_ (fun _ => ?_))
   | exact ih0 _ _ _ _
   | exact ih1 _ _ _ _ _
   | exact ih2 _ _ _ _ _
   | exact proofmarkref13_find.mono _ _ _ _ _ _
   | exact LeO.none _
   | refine LeO.ite ?_ ?_
   | refine LeO.bind ?_ (fun _ => ?_)
theorem proofmarkref13_And.mono : ∀ a0 a1 a2 a3 k, LeO (proofmarkref13_And.f k a0 a1 a2 a3) (proofmarkref13_And.f (k + 1) a0 a1 a2 a3) := by
 intro a0 a1 a2 a3 k
 obtain ⟨ih0, ih1, ih2⟩ := proofmarkref13_And.mono_l k
 unfold proofmarkref13_And.f
 repeat' first
   | (with_reducible exact ih0 _ _ _ _)
   | (with_reducible exact ih1 _ _ _ _ _)
   | (with_reducible exact ih2 _ _ _ _ _)
   | (with_reducible exact proofmarkref13_find.mono _ _ _ _ _ _)
   | (with_reducible exact LeO.refl _)
   | (with_reducible exact LeO.none _)
   | (with_reducible refine LeO.ite ?_ ?_)
   | (with_reducible refine LeO.bind ?_ (fun _ => ?_))
   | exact ih0 _ _ _ _
   | exact ih1 _ _ _ _ _
   | exact ih2 _ _ _ _ _
   | exact proofmarkref13_find.mono _ _ _ _ _ _
   | exact LeO.none _
   | refine LeO.ite ?_ ?_
   | refine LeO.bind ?_ (fun _ => ?_)
def proofmarkref13_And.T11 : Bool × List (List Nat × List Nat) := (true, [([], []), ([], []), ([1], [1]), ([2], [2]), ([], []), ([3, 4], [3, 4]), ([5], [5]), ([0, 0], [0]), ([6, 7, 0, 1, 2, 3, 4, 5, 6, 7], [6])])
def proofmarkref13_And.B11 : List Nat := [0, 0, 2, 6, 0, 30, 62, 1, 255]
theorem proofmarkref13_And.tab11 : rtab .any (opsOf Try.f17 11) = proofmarkref13_And.T11 := by kernel_rfl
theorem proofmarkref13_And.bits11 : waitsOk proofmarkref13_And.T11.2 proofmarkref13_And.B11 = true := by kernel_rfl
set_option maxHeartbeats 8000000 in
set_option maxRecDepth 100000 in
theorem proofmarkref13_And.calls (k : Nat) (a0_0 : Int) (P0_1_ : Nat → Prop) (A0_1 : Option Addr) (c0_1 : Nat) (l0_1 : List (S50)) (a1 : Int) (a2 : Int) (r1 : Int) (r2 : List (S50)) (r3 : Int) (w : World) (hs0_1 : Kd.V k50 50 w w.heap.size (fun k_ => P0_1_ k_) (.slice A0_1 l0_1.length c0_1) l0_1) (h : proofmarkref13_And.f k a0_0 l0_1 a1 a2 = some (r1, r2, r3)) :
  Calls Try.prog 17 #[.agg #[.int .i64 a0_0, .slice A0_1 l0_1.length c0_1], .int .i64 a1, .int .i64 a2] w fun e w' => ∃ v1_ : Value, e = .returned (.tuple #[.agg #[.int .i64 r1, v1_], .int .i64 r3]) ∧ Kd.V k50 50 w' w.heap.size (fun k_ => (P0_1_ k_ ∨ w.heap.size ≤ k_)) v1_ r2 ∧ Below w.heap.size w w' := by
 have hu24 := Try.underlying24
 have hu50 := Try.underlying50
 have hix50_0 : ∀ (x0_ x1_ : Value) (W_ : World), (Instr.index 50 (.agg #[x0_, x1_]) (.int .i64 0)).run Try.prog W_ = .ok x0_ W_ := fun _ _ _ => by kernel_rfl
 have hix50_1 : ∀ (x0_ x1_ : Value) (W_ : World), (Instr.index 50 (.agg #[x0_, x1_]) (.int .i64 1)).run Try.prog W_ = .ok x1_ W_ := fun _ _ _ => by kernel_rfl
 have HO0_1 := aM_21 (show Kd.V k50 50 w w.heap.size (fun k_ => (P0_1_ k_ ∨ w.heap.size ≤ k_)) (.slice A0_1 l0_1.length c0_1) l0_1 from v4_21 hs0_1 (fun k_ hk => .inl hk))
 have HB := aM_21 (Below.refl w.heap.size w)
 have H : (if a1 > a2 then (proofmarkref13_And.j0 k a2 a1 a0_0 l0_1) else (proofmarkref13_And.j0 k a1 a2 a0_0 l0_1)) = some (r1, r2, r3) := h
 clear h
 have HC4 := aM_21 H
 clear H
 go_enter Try.func17, Try.ntmps17
 go_upto_if 11 with (first | ((with_reducible refine gate_dst (N := 3) rfl ?_); refine box_event ?hg (N := 3) ?hd (cs := #[.int .i64 a0_0, .slice A0_1 l0_1.length c0_1]) (t := 24) ?hr ?_; (case hd => rfl); (case hg => rfl); (case hr => first | (go_simp; done) | (go_simp; rfl)); intro gb229 hg w5 hbox hb; have n0_ := aM_21 (Kd.V_below (Kd.V_elderB (by (with_reducible repeat (first | apply v1_21 | apply v2_21 | apply v3_21)); exact HO0_1.out) gb229 (Nat.le_of_eq hg.symm)) hb); have n1_ := aM_21 (below_step (by repeat (first | (with_reducible first | exact HB.out | apply b8_21 | apply b6_21 | apply b7_21) | exact HB.out)) hb); have n2_ := aM_21 (hbox); have n3_ := aM_21 ((by rw [hg]; exact (b0_21 (by repeat (first | (with_reducible first | exact HB.out | apply b8_21 | apply b6_21 | apply b7_21) | exact HB.out))) : w.heap.size ≤ gb229)); have n4_ := aM_21 ((by rw [hg]; exact (b0_21 (by repeat (first | (with_reducible first | exact HB.out | apply b8_21 | apply b6_21 | apply b7_21) | exact HB.out))) : w.heap.size ≤ gb229)); clear HO0_1 HB; have HO0_1 := n0_; have HB := n1_; have BK229 := n2_; have GW229 := n3_; have GE229 := n4_; clear n0_ n1_ n2_ n3_ n4_; clear hb hbox hg) | ((with_reducible refine gate_dst (N := 6) rfl ?_); refine box_event ?hg (N := 6) ?hd (cs := #[.int .i64 0, .slice none 0 0]) (t := 24) ?hr ?_; (case hd => rfl); (case hg => rfl); (case hr => first | (go_simp; done) | (go_simp; rfl)); intro gb230 hg w6 hbox hb; have n0_ := aM_21 (Kd.V_below (Kd.V_elderB (by (with_reducible repeat (first | apply v1_21 | apply v2_21 | apply v3_21)); exact HO0_1.out) gb230 (Nat.le_of_eq hg.symm)) hb); have n1_ := aM_21 (blk_below (by exact BK229.out) hb); have n2_ := aM_21 (below_step (by repeat (first | (with_reducible first | exact HB.out | apply b8_21 | apply b6_21 | apply b7_21 | refine b4_21 ?_ GE229.out) | exact HB.out)) hb); have n3_ := aM_21 (hbox); have n4_ := aM_21 ((by rw [hg]; exact (b0_21 (by repeat (first | (with_reducible first | exact HB.out | apply b8_21 | apply b6_21 | apply b7_21 | refine b4_21 ?_ GE229.out) | exact HB.out))) : w.heap.size ≤ gb230)); have n5_ := aM_21 ((by rw [hg]; exact (b0_21 (by repeat (first | (with_reducible first | exact HB.out | apply b8_21 | apply b6_21 | apply b7_21 | refine b4_21 ?_ GE229.out) | exact HB.out))) : w.heap.size ≤ gb230)); have n6_ := aM_21 ((by rw [hg]; exact Nat.ne_of_lt (blk_lt (by exact BK229.out)) : gb229 ≠ gb230)); have n7_ := aM_21 ((by rw [hg]; exact Nat.ne_of_gt (blk_lt (by exact BK229.out)) : gb230 ≠ gb229)); clear HO0_1 BK229 HB; have HO0_1 := n0_; have BK229 := n1_; have HB := n2_; have BK230 := n3_; have GW230 := n4_; have GE230 := n5_; have NB229_230 := n6_; have NB230_229 := n7_; clear n0_ n1_ n2_ n3_ n4_ n5_ n6_ n7_; clear hb hbox hg))
 (try simp only [Act.put, l1_21, l2_21, l3_21])
 go_cut [1, 2] (fun v1 v2 wc => ∃ (kq : Nat) (x1_3 : Int) (x2_3 : Int), v1 = .int .i64 x1_3 ∧ v2 = .int .i64 x2_3 ∧ Aside0 (proofmarkref13_And.j0 kq x1_3 x2_3 a0_0 l0_1 = some (r1, r2, r3)) ∧ Aside0 (kq ≤ k) ∧ Aside0 (Kd.V k50 50 wc w.heap.size (fun k_ => (P0_1_ k_ ∨ w.heap.size ≤ k_) ∧ k_ ≠ gb229 ∧ k_ ≠ gb230) (.slice A0_1 l0_1.length c0_1) l0_1) ∧ Aside0 (wc.heap[gb229]? = some (.cells #[.int .i64 a0_0, (.slice A0_1 l0_1.length c0_1)] 24 (0, 0))) ∧ Aside0 (wc.heap[gb230]? = some (.cells #[.int .i64 0, (.slice none 0 0)] 24 (0, 0))) ∧ Aside0 (Below w.heap.size w wc))
 case first =>
  have H := HC4.out
  clear HC4
  by_cases c7 : a1 > a2
  ·rw [if_pos c7] at H
   have c7b0 : decide (a2 < a1) = true := decide_eq_true c7
   clear c7
   (first | rw [c7b0] | (simp only [i64_w, i32_w]; rw [c7b0]) | skip)
   have H' := aM_21 H
   clear H
   go_wp2
   go_meet
   case rel => exact ⟨_, (a2), (a1), (by first | rfl | (simp; done) | (simp [*]; done)), (by first | rfl | (simp; done) | (simp [*]; done)), H', ⟨by first | omega | exact Nat.le_refl _⟩, ⟨by (with_reducible repeat (first | apply v1_21 | apply v2_21 | apply v3_21)); exact v4_21 HO0_1.out (fun _ hk => ⟨hk.1.1, ⟨hk.1.2, hk.2⟩⟩)⟩, ⟨by (with_reducible repeat (first | refine b1_21 ?_ _ | refine b3_21 ?_ | refine b2_21 ?_ _)); exact BK229.out⟩, ⟨by (with_reducible repeat (first | refine b1_21 ?_ _ | refine b3_21 ?_ | refine b2_21 ?_ _)); exact BK230.out⟩, ⟨by repeat (first | (with_reducible first | exact HB.out | apply b8_21 | apply b6_21 | apply b7_21 | refine b4_21 ?_ GE229.out | refine b4_21 ?_ GE230.out) | exact HB.out)⟩⟩
  ·rw [if_neg c7] at H
   have c7b0 : decide (a2 < a1) = false := decide_eq_false c7
   clear c7
   (first | rw [c7b0] | (simp only [i64_w, i32_w]; rw [c7b0]) | skip)
   have H' := aM_21 H
   clear H
   go_wp2
   go_meet
   case rel => exact ⟨_, (a1), (a2), (by first | rfl | (simp; done) | (simp [*]; done)), (by first | rfl | (simp; done) | (simp [*]; done)), H', ⟨by first | omega | exact Nat.le_refl _⟩, ⟨by (with_reducible repeat (first | apply v1_21 | apply v2_21 | apply v3_21)); exact v4_21 HO0_1.out (fun _ hk => ⟨hk.1.1, ⟨hk.1.2, hk.2⟩⟩)⟩, ⟨by (with_reducible repeat (first | refine b1_21 ?_ _ | refine b3_21 ?_ | refine b2_21 ?_ _)); exact BK229.out⟩, ⟨by (with_reducible repeat (first | refine b1_21 ?_ _ | refine b3_21 ?_ | refine b2_21 ?_ _)); exact BK230.out⟩, ⟨by repeat (first | (with_reducible first | exact HB.out | apply b8_21 | apply b6_21 | apply b7_21 | refine b4_21 ?_ GE229.out | refine b4_21 ?_ GE230.out) | exact HB.out)⟩⟩
 case rest =>
  clear HC4
  try clear c1
  try clear p2
  try clear c7
  try clear c7b0
  obtain ⟨kq, x1_3, x2_3, rfl, rfl, HA, HJ3, HO_230001, BK229, BK230, HB⟩ := hcut
  cases kq with
  | zero => exact absurd HA.out (by simp [proofmarkref13_And.j0])
  | succ kj3 =>
   have H := HA.out
   clear HA
   simp only [proofmarkref13_And.j0] at H
   have HC8 := aM_21 H
   clear H
   go_upto_region 3 with (fail)
   go_cut [27] (fun v27 wc => ∃ (kq : Nat) (x27_7 : Bool), v27 = .bool x27_7 ∧ Aside0 (proofmarkref13_And.j1 kq x1_3 x2_3 x27_7 a0_0 l0_1 = some (r1, r2, r3)) ∧ Aside0 (kq ≤ kj3) ∧ Aside0 (Kd.V k50 50 wc w.heap.size (fun k_ => (P0_1_ k_ ∨ w.heap.size ≤ k_) ∧ k_ ≠ gb229 ∧ k_ ≠ gb230) (.slice A0_1 l0_1.length c0_1) l0_1) ∧ Aside0 (wc.heap[gb229]? = some (.cells #[.int .i64 a0_0, (.slice A0_1 l0_1.length c0_1)] 24 (0, 0))) ∧ Aside0 (wc.heap[gb230]? = some (.cells #[.int .i64 0, (.slice none 0 0)] 24 (0, 0))) ∧ Aside0 (Below w.heap.size w wc))
   case first =>
    have H := HC8.out
    clear HC8
    by_cases c9 : x1_3 = 0
    ·rw [if_pos c9] at H
     have c9b0 : (x1_3 == 0) = true := beq_iff_eq.mpr c9
     have c9b1 : (x1_3 != 0) = false := bne_eq_false_iff_eq.mpr c9
     clear c9
     (first | rw [c9b0] | (simp only [i64_w, i32_w]; rw [c9b0]) | skip)
     have H' := aM_21 H
     clear H
     go_wp2
     go_meet
     case rel => exact ⟨_, (true), (by first | rfl | (simp; done) | (simp [*]; done)), H', ⟨by have := HJ3.out; first | omega | exact Nat.le_refl _⟩, ⟨by (with_reducible repeat (first | apply v1_21 | apply v2_21 | apply v3_21)); exact HO_230001.out⟩, ⟨by (with_reducible repeat (first | refine b1_21 ?_ _ | refine b3_21 ?_ | refine b2_21 ?_ _)); exact BK229.out⟩, ⟨by (with_reducible repeat (first | refine b1_21 ?_ _ | refine b3_21 ?_ | refine b2_21 ?_ _)); exact BK230.out⟩, ⟨by repeat (first | (with_reducible first | exact HB.out | apply b8_21 | apply b6_21 | apply b7_21 | refine b4_21 ?_ GE229.out | refine b4_21 ?_ GE230.out) | exact HB.out)⟩⟩
    ·rw [if_neg c9] at H
     have c9b0 : (x1_3 == 0) = false := beq_eq_false_iff_ne.mpr c9
     have c9b1 : (x1_3 != 0) = true := bne_iff_ne.mpr c9
     (first | rw [c9b0] | (simp only [i64_w, i32_w]; rw [c9b0]) | skip)
     by_cases c10 : (wrap64 (Int.tdiv x1_3 2)) = (wrap64 (Int.tdiv x2_3 2))
     ·rw [if_pos c10] at H
      have c10b0 : ((wrap64 (Int.tdiv x1_3 2)) == (wrap64 (Int.tdiv x2_3 2))) = true := beq_iff_eq.mpr c10
      have c10b1 : ((wrap64 (Int.tdiv x1_3 2)) != (wrap64 (Int.tdiv x2_3 2))) = false := bne_eq_false_iff_eq.mpr c10
      clear c10
      have H' := aM_21 H
      clear H
      go_wp2
      go_meet
      case rel => exact ⟨_, ((x1_3 != x2_3)), (by first | rfl | (simp; done) | (simp [*]; done)), H', ⟨by have := HJ3.out; first | omega | exact Nat.le_refl _⟩, ⟨by (with_reducible repeat (first | apply v1_21 | apply v2_21 | apply v3_21)); exact HO_230001.out⟩, ⟨by (with_reducible repeat (first | refine b1_21 ?_ _ | refine b3_21 ?_ | refine b2_21 ?_ _)); exact BK229.out⟩, ⟨by (with_reducible repeat (first | refine b1_21 ?_ _ | refine b3_21 ?_ | refine b2_21 ?_ _)); exact BK230.out⟩, ⟨by repeat (first | (with_reducible first | exact HB.out | apply b8_21 | apply b6_21 | apply b7_21 | refine b4_21 ?_ GE229.out | refine b4_21 ?_ GE230.out) | exact HB.out)⟩⟩
     ·rw [if_neg c10] at H
      have c10b0 : ((wrap64 (Int.tdiv x1_3 2)) == (wrap64 (Int.tdiv x2_3 2))) = false := beq_eq_false_iff_ne.mpr c10
      have c10b1 : ((wrap64 (Int.tdiv x1_3 2)) != (wrap64 (Int.tdiv x2_3 2))) = true := bne_iff_ne.mpr c10
      have H' := aM_21 H
      clear H
      go_wp2
      go_meet
      case rel => exact ⟨_, (false), (by first | rfl | (simp; done) | (simp [*]; done)), H', ⟨by have := HJ3.out; first | omega | exact Nat.le_refl _⟩, ⟨by (with_reducible repeat (first | apply v1_21 | apply v2_21 | apply v3_21)); exact HO_230001.out⟩, ⟨by (with_reducible repeat (first | refine b1_21 ?_ _ | refine b3_21 ?_ | refine b2_21 ?_ _)); exact BK229.out⟩, ⟨by (with_reducible repeat (first | refine b1_21 ?_ _ | refine b3_21 ?_ | refine b2_21 ?_ _)); exact BK230.out⟩, ⟨by repeat (first | (with_reducible first | exact HB.out | apply b8_21 | apply b6_21 | apply b7_21 | refine b4_21 ?_ GE229.out | refine b4_21 ?_ GE230.out) | exact HB.out)⟩⟩
   case rest =>
    clear HC8
    try clear c1
    try clear p2
    try clear p6
    try clear c7
    try clear c7b0
    try clear c9
    try clear c9b0
    try clear c9b1
    try clear c10
    try clear c10b0
    try clear c10b1
    try clear p2
    obtain ⟨kq, x27_7, rfl, HA, HJ7, HO_230001, BK229, BK230, HB⟩ := hcut
    cases kq with
    | zero => exact absurd HA.out (by simp [proofmarkref13_And.j1])
    | succ kj7 =>
     have H := HA.out
     clear HA
     simp only [proofmarkref13_And.j1] at H
     by_cases c11 : x27_7 = true
     ·subst c11
      have H1 : (some (a0_0, l0_1, 0)) = some (r1, r2, r3) := by rw [if_pos rfl] at H; exact H
      clear H
      have H := H1
      clear H1
      simp only [Option.some.injEq, Prod.mk.injEq] at H
      obtain ⟨rfl, rfl, rfl⟩ := H
      have hnb12 := NB229_230.out
      have hnc12 := NB230_229.out
      obtain ⟨hcz13_0, hcz13_1, hfz13_0, hfz13_1⟩ := cells2_21 BK229.out
      obtain ⟨hcz14_0, hcz14_1, hfz14_0, hfz14_1⟩ := cells2_21 BK230.out
      go_wp2
      refine bodyPost_ret (results_ct rfl _ _ gb230 24 #[.int .i64 a0_0, .slice A0_1 l0_1.length c0_1] (0, 0) _ rfl (by (with_reducible repeat (first | refine b1_21 ?_ _ | refine b3_21 ?_ | refine b2_21 ?_ _)); refine blk_put (cs := #[.int .i64 a0_0, .slice none 0 0]) ?_ 1 _ rfl; (with_reducible repeat (first | refine b1_21 ?_ _ | refine b3_21 ?_ | refine b2_21 ?_ _)); refine blk_put (cs := #[.int .i64 0, .slice none 0 0]) ?_ 0 _ rfl; (with_reducible repeat (first | refine b1_21 ?_ _ | refine b3_21 ?_ | refine b2_21 ?_ _)); exact BK230.out) Try.underlying24 rfl (by kernel_rfl)) rfl ?_
      exact ⟨_, by first | rfl | (simp [errW_none, errW_some] <;> rfl) | (simp [*, errW_none, errW_some] <;> rfl), by (with_reducible repeat (first | apply v1_21 | apply v2_21 | apply v3_21)); exact v4_21 (Kd.V_far (p := ⟨gb230, 1, none⟩) (Kd.V_far (p := ⟨gb230, 0, none⟩) (v4_21 HO_230001.out (fun k_ hk => (⟨hk, hk.2.2⟩ : _ ∧ k_ ≠ gb230))) (fun _ hk => hk.2) (.int .i64 a0_0)) (fun _ hk => hk.2) (.slice A0_1 l0_1.length c0_1)) (fun _ hk => hk.1.1), by repeat (first | (with_reducible first | exact HB.out | apply b8_21 | apply b6_21 | apply b7_21 | refine b4_21 ?_ GE229.out | refine b4_21 ?_ GE230.out) | exact HB.out)⟩
     ·replace c11 := Bool.eq_false_iff.mpr c11
      subst c11
      have H1 : (if x1_3 = 1 then (proofmarkref13_And.j2 kj7 x1_3 x2_3 true a0_0 l0_1) else (proofmarkref13_And.j2 kj7 x1_3 x2_3 (x1_3 == x2_3) a0_0 l0_1)) = some (r1, r2, r3) := by rw [if_neg (show ¬ (false = true) by decide)] at H; exact H
      clear H
      have H := H1
      clear H1
      have HC15 := aM_21 H
      clear H
      go_upto_region 5 with (fail)
      go_cut [35] (fun v35 wc => ∃ (kq : Nat) (x35_14 : Bool), v35 = .bool x35_14 ∧ Aside0 (proofmarkref13_And.j2 kq x1_3 x2_3 x35_14 a0_0 l0_1 = some (r1, r2, r3)) ∧ Aside0 (kq ≤ kj7) ∧ Aside0 (Kd.V k50 50 wc w.heap.size (fun k_ => (P0_1_ k_ ∨ w.heap.size ≤ k_) ∧ k_ ≠ gb229 ∧ k_ ≠ gb230) (.slice A0_1 l0_1.length c0_1) l0_1) ∧ Aside0 (wc.heap[gb229]? = some (.cells #[.int .i64 a0_0, (.slice A0_1 l0_1.length c0_1)] 24 (0, 0))) ∧ Aside0 (wc.heap[gb230]? = some (.cells #[.int .i64 0, (.slice none 0 0)] 24 (0, 0))) ∧ Aside0 (Below w.heap.size w wc))
      case first =>
       have H := HC15.out
       clear HC15
       by_cases c16 : x1_3 = 1
       ·rw [if_pos c16] at H
        have c16b0 : (x1_3 == 1) = true := beq_iff_eq.mpr c16
        have c16b1 : (x1_3 != 1) = false := bne_eq_false_iff_eq.mpr c16
        clear c16
        (first | rw [c16b0] | (simp only [i64_w, i32_w]; rw [c16b0]) | skip)
        have H' := aM_21 H
        clear H
        go_wp2
        go_meet
        case rel => exact ⟨_, (true), (by first | rfl | (simp; done) | (simp [*]; done)), H', ⟨by have := HJ3.out; have := HJ7.out; first | omega | exact Nat.le_refl _⟩, ⟨by (with_reducible repeat (first | apply v1_21 | apply v2_21 | apply v3_21)); exact HO_230001.out⟩, ⟨by (with_reducible repeat (first | refine b1_21 ?_ _ | refine b3_21 ?_ | refine b2_21 ?_ _)); exact BK229.out⟩, ⟨by (with_reducible repeat (first | refine b1_21 ?_ _ | refine b3_21 ?_ | refine b2_21 ?_ _)); exact BK230.out⟩, ⟨by repeat (first | (with_reducible first | exact HB.out | apply b8_21 | apply b6_21 | apply b7_21 | refine b4_21 ?_ GE229.out | refine b4_21 ?_ GE230.out) | exact HB.out)⟩⟩
       ·rw [if_neg c16] at H
        have c16b0 : (x1_3 == 1) = false := beq_eq_false_iff_ne.mpr c16
        have c16b1 : (x1_3 != 1) = true := bne_iff_ne.mpr c16
        (first | rw [c16b0] | (simp only [i64_w, i32_w]; rw [c16b0]) | skip)
        have H' := aM_21 H
        clear H
        go_wp2
        go_meet
        case rel => exact ⟨_, ((x1_3 == x2_3)), (by first | rfl | (simp; done) | (simp [*]; done)), H', ⟨by have := HJ3.out; have := HJ7.out; first | omega | exact Nat.le_refl _⟩, ⟨by (with_reducible repeat (first | apply v1_21 | apply v2_21 | apply v3_21)); exact HO_230001.out⟩, ⟨by (with_reducible repeat (first | refine b1_21 ?_ _ | refine b3_21 ?_ | refine b2_21 ?_ _)); exact BK229.out⟩, ⟨by (with_reducible repeat (first | refine b1_21 ?_ _ | refine b3_21 ?_ | refine b2_21 ?_ _)); exact BK230.out⟩, ⟨by repeat (first | (with_reducible first | exact HB.out | apply b8_21 | apply b6_21 | apply b7_21 | refine b4_21 ?_ GE229.out | refine b4_21 ?_ GE230.out) | exact HB.out)⟩⟩
      case rest =>
       clear HC15
       try clear c1
       try clear p2
       try clear p6
       try clear c7
       try clear c7b0
       try clear c9
       try clear c9b0
       try clear c9b1
       try clear c10
       try clear c10b0
       try clear c10b1
       try clear c11
       try clear c12
       try clear c16
       try clear c16b0
       try clear c16b1
       try clear hcz13_0
       try clear hcz13_1
       try clear hcz14_0
       try clear hcz14_1
       try clear hfz13_0
       try clear hfz13_1
       try clear hfz14_0
       try clear hfz14_1
       try clear p2
       try clear p6
       obtain ⟨kq, x35_14, rfl, HA, HJ14, HO_230001, BK229, BK230, HB⟩ := hcut
       cases kq with
       | zero => exact absurd HA.out (by simp [proofmarkref13_And.j2])
       | succ kj14 =>
        have H := HA.out
        clear HA
        simp only [proofmarkref13_And.j2] at H
        by_cases c17 : x35_14 = true
        ·subst c17
         have H1 : (some (a0_0, l0_1, x2_3)) = some (r1, r2, r3) := by rw [if_pos rfl] at H; exact H
         clear H
         have H := H1
         clear H1
         simp only [Option.some.injEq, Prod.mk.injEq] at H
         obtain ⟨rfl, rfl, rfl⟩ := H
         have hnb18 := NB229_230.out
         have hnc18 := NB230_229.out
         obtain ⟨hcz19_0, hcz19_1, hfz19_0, hfz19_1⟩ := cells2_21 BK229.out
         obtain ⟨hcz20_0, hcz20_1, hfz20_0, hfz20_1⟩ := cells2_21 BK230.out
         go_wp2
         refine bodyPost_ret (results_ct rfl _ _ gb230 24 #[.int .i64 a0_0, .slice A0_1 l0_1.length c0_1] (0, 0) _ rfl (by (with_reducible repeat (first | refine b1_21 ?_ _ | refine b3_21 ?_ | refine b2_21 ?_ _)); refine blk_put (cs := #[.int .i64 a0_0, .slice none 0 0]) ?_ 1 _ rfl; (with_reducible repeat (first | refine b1_21 ?_ _ | refine b3_21 ?_ | refine b2_21 ?_ _)); refine blk_put (cs := #[.int .i64 0, .slice none 0 0]) ?_ 0 _ rfl; (with_reducible repeat (first | refine b1_21 ?_ _ | refine b3_21 ?_ | refine b2_21 ?_ _)); exact BK230.out) Try.underlying24 rfl (by kernel_rfl)) rfl ?_
         exact ⟨_, by first | rfl | (simp [errW_none, errW_some] <;> rfl) | (simp [*, errW_none, errW_some] <;> rfl), by (with_reducible repeat (first | apply v1_21 | apply v2_21 | apply v3_21)); exact v4_21 (Kd.V_far (p := ⟨gb230, 1, none⟩) (Kd.V_far (p := ⟨gb230, 0, none⟩) (v4_21 HO_230001.out (fun k_ hk => (⟨hk, hk.2.2⟩ : _ ∧ k_ ≠ gb230))) (fun _ hk => hk.2) (.int .i64 a0_0)) (fun _ hk => hk.2) (.slice A0_1 l0_1.length c0_1)) (fun _ hk => hk.1.1), by repeat (first | (with_reducible first | exact HB.out | apply b8_21 | apply b6_21 | apply b7_21 | refine b4_21 ?_ GE229.out | refine b4_21 ?_ GE230.out) | exact HB.out)⟩
        ·replace c17 := Bool.eq_false_iff.mpr c17
         subst c17
         have H1 : ((proofmarkref13_find.f kj14 a0_0 l0_1 x1_3 x2_3 (l0_1.length : Int)).bind fun t231 => (if t231 < 0 then ((some (([] : List (S50)) : List (S50))).bind fun y232 => (if y232.length + l0_1.length < 8796093022208 then ((some (y232 ++ l0_1 : List (S50))).bind fun y235 => (if y235.length < 8796093022208 then (some (a0_0, (y235 ++ [(⟨x1_3, x2_3⟩ : S50)]), wrap64 (2 * (wrap64 ((wrap64 (a0_0 + 1)) + (l0_1.length : Int)))))) else (none))) else (none))) else (some (a0_0, l0_1, wrap64 (2 * (wrap64 ((wrap64 (a0_0 + 1)) + t231))))))) = some (r1, r2, r3) := by rw [if_neg (show ¬ (false = true) by decide)] at H; exact H
         clear H
         have H := H1
         clear H1
         replace H := Option.bind_eq_some_iff.mp H
         obtain ⟨t231, A210, H⟩ := H
         replace H : (if t231 < 0 then ((some (([] : List (S50)) : List (S50))).bind fun y232 => (if y232.length + l0_1.length < 8796093022208 then ((some (y232 ++ l0_1 : List (S50))).bind fun y235 => (if y235.length < 8796093022208 then (some (a0_0, (y235 ++ [(⟨x1_3, x2_3⟩ : S50)]), wrap64 (2 * (wrap64 ((wrap64 (a0_0 + 1)) + (l0_1.length : Int)))))) else (none))) else (none))) else (some (a0_0, l0_1, wrap64 (2 * (wrap64 ((wrap64 (a0_0 + 1)) + t231)))))) = some (r1, r2, r3) := H
         have A21 := aM_21 A210
         clear A210
         by_cases c22 : t231 < 0
         ·rw [if_pos c22] at H
          have c22b0 : decide (t231 < 0) = true := decide_eq_true c22
          clear c22
          obtain ⟨y232, hy232⟩ : ∃ y_ : List (S50), y_ = (([] : List (S50))) := ⟨_, rfl⟩
          replace H : (if y232.length + l0_1.length < 8796093022208 then ((some (y232 ++ l0_1 : List (S50))).bind fun y235 => (if y235.length < 8796093022208 then (some (a0_0, (y235 ++ [(⟨x1_3, x2_3⟩ : S50)]), wrap64 (2 * (wrap64 ((wrap64 (a0_0 + 1)) + (l0_1.length : Int)))))) else (none))) else (none)) = some (r1, r2, r3) := by first | (rw [hy232]; with_reducible exact H) | (have H2_ := (Option.bind_some _ _).symm.trans H; rw [hy232]; with_reducible exact H2_) | (have H2_ := (Option.bind_some _ _).symm.trans H; with_reducible exact H2_) | with_reducible exact H | (rw [hy232]; exact H) | exact H
          have Ny232 := aM_21 hy232
          clear hy232
          by_cases c23 : y232.length + l0_1.length < 8796093022208
          ·rw [if_pos c23] at H
           have LMc23 := aM_21 c23
           clear c23
           obtain ⟨y235, hy235⟩ : ∃ y_ : List (S50), y_ = (y232 ++ l0_1) := ⟨_, rfl⟩
           replace H : (if y235.length < 8796093022208 then (some (a0_0, (y235 ++ [(⟨x1_3, x2_3⟩ : S50)]), wrap64 (2 * (wrap64 ((wrap64 (a0_0 + 1)) + (l0_1.length : Int)))))) else (none)) = some (r1, r2, r3) := by first | (rw [hy235]; with_reducible exact H) | (have H2_ := (Option.bind_some _ _).symm.trans H; rw [hy235]; with_reducible exact H2_) | (have H2_ := (Option.bind_some _ _).symm.trans H; with_reducible exact H2_) | with_reducible exact H | (rw [hy235]; exact H) | exact H
           have Ny235 := aM_21 hy235
           clear hy235
           by_cases c24 : y235.length < 8796093022208
           ·rw [if_pos c24] at H
            have LMc24 := aM_21 c24
            clear c24
            obtain ⟨y238, hy238⟩ : ∃ y_ : List (S50), y_ = (y235 ++ [(⟨x1_3, x2_3⟩ : S50)]) := ⟨_, rfl⟩
            replace H : (some (a0_0, y238, wrap64 (2 * (wrap64 ((wrap64 (a0_0 + 1)) + (l0_1.length : Int)))))) = some (r1, r2, r3) := by first | (rw [hy238]; with_reducible exact H) | (have H2_ := (Option.bind_some _ _).symm.trans H; rw [hy238]; with_reducible exact H2_) | (have H2_ := (Option.bind_some _ _).symm.trans H; with_reducible exact H2_) | with_reducible exact H | (rw [hy238]; exact H) | exact H
            have Ny238 := aM_21 hy238
            clear hy238
            simp only [Option.some.injEq, Prod.mk.injEq] at H
            obtain ⟨rfl, rfl, rfl⟩ := H
            have hnb25 := NB229_230.out
            have hnc25 := NB230_229.out
            obtain ⟨hcz26_0, hcz26_1, hfz26_0, hfz26_1⟩ := cells2_21 BK229.out
            try go_wp2_with (first | ((with_reducible refine gate_callee (f := 35) rfl ?_); refine goesL_ (some 44) rfl rfl Try.func35 (by kernel_rfl) rfl #[.agg #[.int .i64 a0_0, .slice A0_1 l0_1.length c0_1], .int .i64 x1_3, .int .i64 x2_3, .int .i64 (l0_1.length : Int)] rfl (by (try simp only [List.map_toArray, List.map_cons, List.map_nil]); first | done | rfl | (simp only [List.length_drop, List.length_take]; rfl)) ?_; (with_reducible refine (proofmarkref13_find.calls kj14 a0_0 _ _ l0_1 x1_3 x2_3 (l0_1.length : Int) t231 _ ?side1 ?side2 A21.out).mono ?_); (case side1 => repeat (first | exact (Kd.V_reads' HO_230001.out).2.2 | (with_reducible refine Kd.C_alloc ?_ _) | (with_reducible refine Kd.C_drewN ?_ _) | (with_reducible refine Kd.C_drew ?_))); (case side2 => exact (Kd.V_reads' HO_230001.out).2.1); rintro e w27 ⟨rfl, hb⟩; refine ⟨_, rfl, ?_⟩; have n0_ := aM_21 (Kd.V_below (by (with_reducible repeat (first | apply v1_21 | apply v2_21 | apply v3_21)); exact HO_230001.out) hb); have n1_ := aM_21 (blk_below (by exact BK229.out) hb); have n2_ := aM_21 (blk_below (by exact BK230.out) hb); have n3_ := aM_21 (below_step (by repeat (first | (with_reducible first | exact HB.out | apply b8_21 | apply b6_21 | apply b7_21 | refine b4_21 ?_ GE229.out | refine b4_21 ?_ GE230.out) | exact HB.out)) hb); clear HO_230001 BK229 BK230 HB; have HO_230001 := n0_; have BK229 := n1_; have BK230 := n2_; have HB := n3_; clear n0_ n1_ n2_ n3_; (try clear hb); (try clear hb2); (try clear hk); (try clear hi); obtain ⟨hcz28_0, hcz28_1, hfz28_0, hfz28_1⟩ := cells2_21 BK229.out) | ((with_reducible refine gate_dst (N := 50) rfl ?_); refine Kd.R_lit k50 _ 50 ?hg (N := 50) ?hd (xs := ([] : List (S50))) (inner := []) (ok := fun _ => True) (okp := fun _ => True) ?hr ?hp (fun _ hk => hk) trivial (Below.refl _ _) (Nat.le_refl _) (by simp) ?_; (case hd => rfl); (case hg => rfl); (case hr => first | (go_simp; done) | (go_simp; rfl)); (case hp => exact (Reps.none _ _)); intro v233 w29 ho30 hb hg_ hnew_; clear hg_ hnew_; (first | rw [← Ny232.out] at ho30 | (simp only [Int.reduceToNat] at ho30; rw [← Ny232.out] at ho30)); have n0_ := aM_21 (Kd.V_elder' (by (with_reducible repeat (first | apply v1_21 | apply v2_21 | apply v3_21)); exact HO_230001.out) (Kd.R_base ho30) hb); have n1_ := aM_21 (Kd.R_lower (Kd.R_newM (M := fun k_ => (w.heap.size ≤ k_)) ho30 (b0_21 (by repeat (first | (with_reducible first | exact HB.out | apply b8_21 | apply b6_21 | apply b7_21 | refine b4_21 ?_ GE229.out | refine b4_21 ?_ GE230.out) | exact HB.out))) (fun k_ h_ => h_)) (b0_21 (by repeat (first | (with_reducible first | exact HB.out | apply b8_21 | apply b6_21 | apply b7_21 | refine b4_21 ?_ GE229.out | refine b4_21 ?_ GE230.out) | exact HB.out)))); have n2_ := aM_21 (blk_below (by exact BK229.out) hb); have n3_ := aM_21 (blk_below (by exact BK230.out) hb); have n4_ := aM_21 (below_step (by repeat (first | (with_reducible first | exact HB.out | apply b8_21 | apply b6_21 | apply b7_21 | refine b4_21 ?_ GE229.out | refine b4_21 ?_ GE230.out) | exact HB.out)) hb); clear HO_230001 BK229 BK230 HB; have HO_230001 := n0_; have HO234 := n1_; have BK229 := n2_; have BK230 := n3_; have HB := n4_; clear n0_ n1_ n2_ n3_ n4_; clear hb ho30; obtain ⟨hcz31_0, hcz31_1, hfz31_0, hfz31_1⟩ := cells2_21 BK229.out) | ((with_reducible refine gate_builtin (b := .append) (xs := #[.tmp 50, .tmp 52]) rfl ?_); at_builtin; refine Kd.R_append_rows k50 (w0 := w) w.heap.size rfl (.tmp 50) (.tmp 52) 22 50 (.agg #[(.int .i64 0), (.int .i64 0)]) 16 rfl Try.underlying22 info50 rfl (by decide) (by omega) v233 y232 l0_1 _ _ _ (fun k_ => (w.heap.size ≤ k_)) (fun _ => False) rfl rfl ?aO ?aR (fun _ _ h => h) (fun _ h => h.elim) ?aF ?aB ?aS ?aL ?_; (case aR => repeat (first | exact (Kd.V_reads' HO_230001.out).2.2 | (with_reducible refine Kd.C_alloc ?_ _) | (with_reducible refine Kd.C_drewN ?_ _) | (with_reducible refine Kd.C_drew ?_))); (case aB => exact (by repeat (first | (with_reducible first | exact HB.out | apply b8_21 | apply b6_21 | apply b7_21 | refine b4_21 ?_ GE229.out | refine b4_21 ?_ GE230.out) | exact HB.out))); (case aF => exact (fun k_ hk => (Nat.le_trans (b0_21 (by repeat (first | (with_reducible first | exact HB.out | apply b8_21 | apply b6_21 | apply b7_21 | refine b4_21 ?_ GE229.out | refine b4_21 ?_ GE230.out) | exact HB.out))) hk))); (case aO => exact (by (with_reducible repeat (first | apply Kd.R_alloc | apply Kd.R_drewN | apply Kd.R_drew)); exact Kd.R_mono HO234.out (fun _ hk => hk.1))); (case aS => exact (b0_21 (by repeat (first | (with_reducible first | exact HB.out | apply b8_21 | apply b6_21 | apply b7_21 | refine b4_21 ?_ GE229.out | refine b4_21 ?_ GE230.out) | exact HB.out)))); (case aL => have := LMc23.out; omega); intro v236 w32 ho hb hg hat; rw [← Ny235.out] at ho; have n0_ := aM_21 (Kd.V_afterv (ok := (fun k_ => (P0_1_ k_ ∨ w.heap.size ≤ k_) ∧ k_ ≠ gb229 ∧ k_ ≠ gb230)) (by (with_reducible repeat (first | apply v1_21 | apply v2_21 | apply v3_21)); exact HO_230001.out) hg hat); have n1_ := aM_21 (blk_grown (g := gb229) (o := .cells #[.int .i64 a0_0, .slice A0_1 l0_1.length c0_1] 24 (0, 0)) (by exact BK229.out) hg (Kd.R_ne HO234.out BK229.out (by decide))); have n2_ := aM_21 (blk_grown (g := gb230) (o := .cells #[.int .i64 0, .slice none 0 0] 24 (0, 0)) (by exact BK230.out) hg (Kd.R_ne HO234.out BK230.out (by decide))); have n3_ := aM_21 (hb); have n4_ := aM_21 (ho); clear HO_230001 BK229 BK230 HB HO234; have HO_230001 := n0_; have BK229 := n1_; have BK230 := n2_; have HB := n3_; have HO237 := n4_; clear n0_ n1_ n2_ n3_ n4_; clear ho hb hg hat) | ((with_reducible refine gate_builtin (b := .append) (xs := #[.tmp 53, .tmp 57]) rfl ?_); at_builtin; refine Kd.R_append k50 (w0 := w) w.heap.size rfl (.tmp 53) (.tmp 57) 22 50 (.agg #[(.int .i64 0), (.int .i64 0)]) 16 rfl Try.underlying22 info50 rfl (by decide) (by omega) v236 y235 (⟨x1_3, x2_3⟩ : S50) [.int .i64 x1_3, .int .i64 x2_3] (fun k_ => (w.heap.size ≤ k_)) (fun _ => False) rfl rfl ?aP (fun _ hk => hk.elim) ?aF ?aO ?aB ?aS ?aL ?_; (case aP => exact k50_mkM _ _ _ (⟨x1_3, x2_3⟩ : S50)); (case aB => exact (by repeat (first | (with_reducible first | exact HB.out | apply b8_21 | apply b6_21 | apply b7_21 | refine b4_21 ?_ GE229.out | refine b4_21 ?_ GE230.out) | exact HB.out))); (case aF => exact (fun k_ hk => (Nat.le_trans (b0_21 (by repeat (first | (with_reducible first | exact HB.out | apply b8_21 | apply b6_21 | apply b7_21 | refine b4_21 ?_ GE229.out | refine b4_21 ?_ GE230.out) | exact HB.out))) hk))); (case aO => exact (by (with_reducible repeat (first | apply Kd.R_alloc | apply Kd.R_drewN | apply Kd.R_drew)); exact HO237.out)); (case aS => exact (b0_21 (by repeat (first | (with_reducible first | exact HB.out | apply b8_21 | apply b6_21 | apply b7_21 | refine b4_21 ?_ GE229.out | refine b4_21 ?_ GE230.out) | exact HB.out)))); (case aL => have := LMc24.out; omega); intro v239 w33 ho hb hg hat; rw [← Ny238.out] at ho; have n0_ := aM_21 (Kd.V_afterv (ok := (fun k_ => (P0_1_ k_ ∨ w.heap.size ≤ k_) ∧ k_ ≠ gb229 ∧ k_ ≠ gb230)) (by (with_reducible repeat (first | apply v1_21 | apply v2_21 | apply v3_21)); exact HO_230001.out) hg hat); have n1_ := aM_21 (blk_grown (g := gb229) (o := .cells #[.int .i64 a0_0, .slice A0_1 l0_1.length c0_1] 24 (0, 0)) (by exact BK229.out) hg (Kd.R_ne HO237.out BK229.out (by decide))); have n2_ := aM_21 (blk_grown (g := gb230) (o := .cells #[.int .i64 0, .slice none 0 0] 24 (0, 0)) (by exact BK230.out) hg (Kd.R_ne HO237.out BK230.out (by decide))); have n3_ := aM_21 (hb); have n4_ := aM_21 (ho); clear HO_230001 BK229 BK230 HB HO237; have HO_230001 := n0_; have BK229 := n1_; have BK230 := n2_; have HB := n3_; have HO240 := n4_; clear n0_ n1_ n2_ n3_ n4_; clear ho hb hg hat; obtain ⟨Ao34, co34, eo34⟩ := Kd.R_slice HO240.out; subst eo34; obtain ⟨hcz35_0, hcz35_1, hfz35_0, hfz35_1⟩ := cells2_21 BK229.out))
            have n0_ : Aside0 (Kd.V k50 50 (w33.setCell ⟨gb229, 1, none⟩ (.slice Ao34 y238.length co34)) w.heap.size (fun k_ => (P0_1_ k_ ∨ w.heap.size ≤ k_) ∧ some k_ ≠ (.slice Ao34 y238.length co34 : Value).ownBlock ∧ k_ ≠ gb229 ∧ k_ ≠ gb230) (.slice A0_1 l0_1.length c0_1) l0_1) := ⟨by (with_reducible repeat (first | apply v1_21 | apply v2_21 | apply v3_21)); exact v4_21 (Kd.V_far (p := ⟨gb229, 1, none⟩) (v4_21 HO_230001.out (fun k_ hk => (⟨hk, hk.1.2.1⟩ : _ ∧ k_ ≠ gb229))) (fun _ hk => hk.2) (.slice Ao34 y238.length co34)) (fun _ hk => ⟨hk.1.1.1, ⟨hk.1.2, ⟨hk.1.1.2.1, hk.1.1.2.2⟩⟩⟩)⟩
            have n1_ : Aside0 (Kd.R k50 50 (w33.setCell ⟨gb229, 1, none⟩ (.slice Ao34 y238.length co34)) w.heap.size (fun k_ => (w.heap.size ≤ k_)) (.slice Ao34 y238.length co34) y238) := ⟨by (with_reducible repeat (first | apply Kd.R_alloc | apply Kd.R_drewN | apply Kd.R_drew)); exact Kd.R_mono (Kd.R_far (p := ⟨gb229, 1, none⟩) (Kd.R_types HO240.out BK229.out (by decide)) (fun _ hk => hk.2) (.slice Ao34 y238.length co34)) (fun _ hk => hk.1)⟩
            have n2_ : Aside0 ((w33.setCell ⟨gb229, 1, none⟩ (.slice Ao34 y238.length co34)).heap[gb229]? = some (.cells #[.int .i64 a0_0, .slice Ao34 y238.length co34] 24 (0, 0))) := ⟨by (with_reducible repeat (first | refine b1_21 ?_ _ | refine b3_21 ?_ | refine b2_21 ?_ _)); refine blk_put (cs := #[.int .i64 a0_0, .slice A0_1 l0_1.length c0_1]) ?_ 1 _ rfl; (with_reducible repeat (first | refine b1_21 ?_ _ | refine b3_21 ?_ | refine b2_21 ?_ _)); exact BK229.out⟩
            have n3_ : Aside0 ((w33.setCell ⟨gb229, 1, none⟩ (.slice Ao34 y238.length co34)).heap[gb230]? = some (.cells #[.int .i64 0, .slice none 0 0] 24 (0, 0))) := ⟨by (with_reducible repeat (first | refine b1_21 ?_ _ | refine b3_21 ?_ | refine b2_21 ?_ _)); refine blk_far ?_ NB230_229.out _; (with_reducible repeat (first | refine b1_21 ?_ _ | refine b3_21 ?_ | refine b2_21 ?_ _)); exact BK230.out⟩
            have n4_ : Aside0 (Below w.heap.size w (w33.setCell ⟨gb229, 1, none⟩ (.slice Ao34 y238.length co34))) := ⟨by repeat (first | (with_reducible first | exact HB.out | apply b8_21 | apply b6_21 | apply b7_21 | refine b4_21 ?_ GE229.out | refine b4_21 ?_ GE230.out) | exact HB.out)⟩
            (try clear HO_230001)
            (try clear HO240)
            (try clear BK229)
            (try clear BK230)
            (try clear HB)
            generalize (w33.setCell ⟨gb229, 1, none⟩ (.slice Ao34 y238.length co34)) = w36 at n0_ n1_ n2_ n3_ n4_ ⊢
            have HO_230001 := n0_
            have HO240 := n1_
            have BK229 := n2_
            have BK230 := n3_
            have HB := n4_
            clear n0_ n1_ n2_ n3_ n4_
            have n0_ := aM_21 (v3_21 HO_230001.out)
            have n1_ := aM_21 (Kd.R_drew HO240.out)
            have n2_ := aM_21 (b3_21 BK229.out)
            have n3_ := aM_21 (b3_21 BK230.out)
            have n4_ := aM_21 (b7_21 HB.out)
            clear HO_230001 HO240 BK229 BK230 HB
            have HO_230001 := n0_
            have HO240 := n1_
            have BK229 := n2_
            have BK230 := n3_
            have HB := n4_
            clear n0_ n1_ n2_ n3_ n4_
            refine start_ (n := 9) (S := fun w' => w'.cell? ⟨gb229, 0, none⟩ = some (.int .i64 a0_0) ∧ w'.cell? ⟨gb229, 1, none⟩ = some (.slice Ao34 y238.length co34)) (ds := []) #[false, false, false, false, false, false, false, false, false] (by kernel_rfl) rfl rfl ⟨(blk_cell BK229.out 0).trans rfl, (blk_cell BK229.out 1).trans rfl⟩ (fun hHeld => ?_); refine with_tabW proofmarkref13_And.tab11 proofmarkref13_And.bits11 (fun HT_ HW_ => ?_)
            generalize w36.drew = w37 at HO_230001 HO240 BK229 BK230 HB hHeld ⊢
            refine pure_ (i := 1) (N := some 61) (v := ?_) (a' := ?_) #[false, true, false, false, false, false, false, false, false] rfl rfl (any_of HT_.out (by kernel_rfl)) (fun _ _ _ h => h) (Or.inl ⟨by rfl, ?_⟩) ?_ ?_
            rotate_left
            ·intro w'
             go_simp
             with_reducible rfl
            rotate_left
            ·simp only [Act.put, l1_21, l2_21, l3_21, i64_w, i32_w]
             rfl
            refine pure_ (i := 4) (N := some 64) (v := ?_) (a' := ?_) #[false, true, false, false, true, false, false, false, false] rfl rfl (any_of HT_.out (by kernel_rfl)) (fun _ _ _ h => h) (Or.inl ⟨by rfl, ?_⟩) ?_ ?_
            rotate_left
            ·intro w'
             go_simp
             with_reducible rfl
            rotate_left
            ·simp only [Act.put, l1_21, l2_21, l3_21, i64_w, i32_w]
             rfl
            refine take_ (i := 0) (N := some 60) (v := ?_) (a' := ?_) #[true, true, false, false, true, false, false, false, false] rfl rfl (take_ofW HT_.out HW_.out (by kernel_rfl)) (fun _ _ _ h => h) (Or.inl ⟨by rfl, ?_⟩) hHeld ?_ ?_
            rotate_left
            ·rintro w' ⟨s0, s1⟩
             go_simp
             with_reducible rfl
            rotate_left
            ·simp only [Act.put, l1_21, l2_21, l3_21, i64_w, i32_w]
             rfl
            refine take_ (i := 2) (N := some 62) (v := ?_) (a' := ?_) #[true, true, true, false, true, false, false, false, false] rfl rfl (take_ofW HT_.out HW_.out (by kernel_rfl)) (fun _ _ _ h => h) (Or.inl ⟨by rfl, ?_⟩) hHeld ?_ ?_
            rotate_left
            ·rintro w' ⟨s0, s1⟩
             go_simp
             with_reducible rfl
            rotate_left
            ·simp only [Act.put, l1_21, l2_21, l3_21, i64_w, i32_w]
             rfl
            refine pure_ (i := 3) (N := some 63) (v := ?_) (a' := ?_) #[true, true, true, true, true, false, false, false, false] rfl rfl (any_of HT_.out (by kernel_rfl)) (fun _ _ _ h => h) (Or.inl ⟨by rfl, ?_⟩) ?_ ?_
            rotate_left
            ·intro w'
             go_simp
             with_reducible rfl
            rotate_left
            ·simp only [Act.put, l1_21, l2_21, l3_21, i64_w, i32_w]
             rfl
            refine pure_ (i := 5) (N := some 65) (v := ?_) (a' := ?_) #[true, true, true, true, true, true, false, false, false] rfl rfl (any_of HT_.out (by kernel_rfl)) (fun _ _ _ h => h) (Or.inl ⟨by rfl, ?_⟩) ?_ ?_
            rotate_left
            ·intro w'
             go_simp
             with_reducible rfl
            rotate_left
            ·simp only [Act.put, l1_21, l2_21, l3_21, i64_w, i32_w]
             rfl
            refine pure_ (i := 6) (N := some 66) (v := ?_) (a' := ?_) #[true, true, true, true, true, true, true, false, false] rfl rfl (any_of HT_.out (by kernel_rfl)) (fun _ _ _ h => h) (Or.inl ⟨by rfl, ?_⟩) ?_ ?_
            rotate_left
            ·intro w'
             go_simp
             with_reducible rfl
            rotate_left
            ·simp only [Act.put, l1_21, l2_21, l3_21, i64_w, i32_w]
             rfl
            refine one_ (i := 7) (N := none) #[true, true, true, true, true, true, true, true, false] rfl rfl (one_of HT_.out (by kernel_rfl)) (by decide) (fun K hK => ?_)
            have hs38 : w37.cell? ⟨gb230, 0, none⟩ = some (.int .i64 0) := (blk_cell BK230.out 0).trans rfl
            have hfs38 := blk_frozen BK230.out 0
            have hns38_0 := NB229_230.out
            have hms38_0 := NB230_229.out
            have hs39 : w37.cell? ⟨gb230, 1, none⟩ = some (.slice none 0 0) := (blk_cell BK230.out 1).trans rfl
            have hfs39 := blk_frozen BK230.out 1
            have hns39_0 := NB229_230.out
            have hms39_0 := NB230_229.out
            refine skip_ (w1 := ?_) (by rfl) rfl ?_ ?_
            rotate_left
            ·go_simp
             rfl
            refine hK.out _ _ ⟨((cell_far (p := ⟨gb230, _, none⟩) NB229_230.out _).trans (((cell_far (p := ⟨gb230, _, none⟩) NB229_230.out _).trans (hHeld.1)))), ((cell_far (p := ⟨gb230, _, none⟩) NB229_230.out _).trans (((cell_far (p := ⟨gb230, _, none⟩) NB229_230.out _).trans (hHeld.2))))⟩ (fun hHeld => ?_)
            clear hK K
            refine pure_ (i := 8) (N := some 7) (v := ?_) (a' := ?_) #[true, true, true, true, true, true, true, true, true] rfl rfl (any_of HT_.out (by kernel_rfl)) (fun _ _ _ h => h) (Or.inl ⟨by rfl, ?_⟩) ?_ ?_
            rotate_left
            ·intro w'
             go_simp
             with_reducible rfl
            rotate_left
            ·simp only [Act.put, l1_21, l2_21, l3_21, i64_w, i32_w]
             rfl
            refine done_ (done_of HT_.out (by kernel_rfl)) ?_
            try go_wp2
            refine bodyPost_ret (results_ct rfl _ _ gb230 24 #[.int .i64 a0_0, .slice Ao34 y238.length co34] (0, 0) _ rfl (by (with_reducible repeat (first | refine b1_21 ?_ _ | refine b3_21 ?_ | refine b2_21 ?_ _)); refine blk_put (cs := #[.int .i64 a0_0, .slice none 0 0]) ?_ 1 _ rfl; (with_reducible repeat (first | refine b1_21 ?_ _ | refine b3_21 ?_ | refine b2_21 ?_ _)); refine blk_put (cs := #[.int .i64 0, .slice none 0 0]) ?_ 0 _ rfl; (with_reducible repeat (first | refine b1_21 ?_ _ | refine b3_21 ?_ | refine b2_21 ?_ _)); exact BK230.out) Try.underlying24 rfl (by kernel_rfl)) rfl ?_
            exact ⟨_, by first | rfl | (simp [errW_none, errW_some] <;> rfl) | (simp [*, errW_none, errW_some] <;> rfl), v4_21 (Kd.R_V (by (with_reducible repeat (first | apply Kd.R_alloc | apply Kd.R_drewN | apply Kd.R_drew)); exact Kd.R_mono (Kd.R_far (p := ⟨gb230, 1, none⟩) (Kd.R_far (p := ⟨gb230, 0, none⟩) (Kd.R_types HO240.out BK230.out (by decide)) (fun _ hk => hk.2) (.int .i64 a0_0)) (fun _ hk => hk.2) (.slice Ao34 y238.length co34)) (fun _ hk => hk.1))) (fun k_ hk => by first | exact ⟨(.inr (hk.1)), hk.2⟩ | exact (.inr (hk))), by repeat (first | (with_reducible first | exact HB.out | apply b8_21 | apply b6_21 | apply b7_21 | refine b4_21 ?_ GE229.out | refine b4_21 ?_ GE230.out) | exact HB.out)⟩
           ·rw [if_neg c24] at H
            exact absurd H (by simp)
          ·rw [if_neg c23] at H
           exact absurd H (by simp)
         ·rw [if_neg c22] at H
          have c22b0 : decide (t231 < 0) = false := decide_eq_false c22
          clear c22
          simp only [Option.some.injEq, Prod.mk.injEq] at H
          obtain ⟨rfl, rfl, rfl⟩ := H
          have hnb40 := NB229_230.out
          have hnc40 := NB230_229.out
          obtain ⟨hcz41_0, hcz41_1, hfz41_0, hfz41_1⟩ := cells2_21 BK229.out
          try go_wp2_with (first | ((with_reducible refine gate_callee (f := 35) rfl ?_); refine goesL_ (some 44) rfl rfl Try.func35 (by kernel_rfl) rfl #[.agg #[.int .i64 a0_0, .slice A0_1 l0_1.length c0_1], .int .i64 x1_3, .int .i64 x2_3, .int .i64 (l0_1.length : Int)] rfl (by (try simp only [List.map_toArray, List.map_cons, List.map_nil]); first | done | rfl | (simp only [List.length_drop, List.length_take]; rfl)) ?_; (with_reducible refine (proofmarkref13_find.calls kj14 a0_0 _ _ l0_1 x1_3 x2_3 (l0_1.length : Int) t231 _ ?side1 ?side2 A21.out).mono ?_); (case side1 => repeat (first | exact (Kd.V_reads' HO_230001.out).2.2 | (with_reducible refine Kd.C_alloc ?_ _) | (with_reducible refine Kd.C_drewN ?_ _) | (with_reducible refine Kd.C_drew ?_))); (case side2 => exact (Kd.V_reads' HO_230001.out).2.1); rintro e w42 ⟨rfl, hb⟩; refine ⟨_, rfl, ?_⟩; have n0_ := aM_21 (Kd.V_below (by (with_reducible repeat (first | apply v1_21 | apply v2_21 | apply v3_21)); exact HO_230001.out) hb); have n1_ := aM_21 (blk_below (by exact BK229.out) hb); have n2_ := aM_21 (blk_below (by exact BK230.out) hb); have n3_ := aM_21 (below_step (by repeat (first | (with_reducible first | exact HB.out | apply b8_21 | apply b6_21 | apply b7_21 | refine b4_21 ?_ GE229.out | refine b4_21 ?_ GE230.out) | exact HB.out)) hb); clear HO_230001 BK229 BK230 HB; have HO_230001 := n0_; have BK229 := n1_; have BK230 := n2_; have HB := n3_; clear n0_ n1_ n2_ n3_; (try clear hb); (try clear hb2); (try clear hk); (try clear hi)))
          have n0_ := aM_21 (v3_21 HO_230001.out)
          have n1_ := aM_21 (b3_21 BK229.out)
          have n2_ := aM_21 (b3_21 BK230.out)
          have n3_ := aM_21 (b7_21 HB.out)
          clear HO_230001 BK229 BK230 HB
          have HO_230001 := n0_
          have BK229 := n1_
          have BK230 := n2_
          have HB := n3_
          clear n0_ n1_ n2_ n3_
          refine start_ (n := 9) (S := fun w' => w'.cell? ⟨gb229, 0, none⟩ = some (.int .i64 a0_0) ∧ w'.cell? ⟨gb229, 1, none⟩ = some (.slice A0_1 l0_1.length c0_1)) (ds := []) #[false, false, false, false, false, false, false, false, false] (by kernel_rfl) rfl rfl ⟨(blk_cell BK229.out 0).trans rfl, (blk_cell BK229.out 1).trans rfl⟩ (fun hHeld => ?_); refine with_tabW proofmarkref13_And.tab11 proofmarkref13_And.bits11 (fun HT_ HW_ => ?_)
          generalize w42.drew = w43 at HO_230001 BK229 BK230 HB hHeld ⊢
          refine pure_ (i := 1) (N := some 61) (v := ?_) (a' := ?_) #[false, true, false, false, false, false, false, false, false] rfl rfl (any_of HT_.out (by kernel_rfl)) (fun _ _ _ h => h) (Or.inl ⟨by rfl, ?_⟩) ?_ ?_
          rotate_left
          ·intro w'
           go_simp
           with_reducible rfl
          rotate_left
          ·simp only [Act.put, l1_21, l2_21, l3_21, i64_w, i32_w]
           rfl
          refine pure_ (i := 4) (N := some 64) (v := ?_) (a' := ?_) #[false, true, false, false, true, false, false, false, false] rfl rfl (any_of HT_.out (by kernel_rfl)) (fun _ _ _ h => h) (Or.inl ⟨by rfl, ?_⟩) ?_ ?_
          rotate_left
          ·intro w'
           go_simp
           with_reducible rfl
          rotate_left
          ·simp only [Act.put, l1_21, l2_21, l3_21, i64_w, i32_w]
           rfl
          refine take_ (i := 0) (N := some 60) (v := ?_) (a' := ?_) #[true, true, false, false, true, false, false, false, false] rfl rfl (take_ofW HT_.out HW_.out (by kernel_rfl)) (fun _ _ _ h => h) (Or.inl ⟨by rfl, ?_⟩) hHeld ?_ ?_
          rotate_left
          ·rintro w' ⟨s0, s1⟩
           go_simp
           with_reducible rfl
          rotate_left
          ·simp only [Act.put, l1_21, l2_21, l3_21, i64_w, i32_w]
           rfl
          refine take_ (i := 2) (N := some 62) (v := ?_) (a' := ?_) #[true, true, true, false, true, false, false, false, false] rfl rfl (take_ofW HT_.out HW_.out (by kernel_rfl)) (fun _ _ _ h => h) (Or.inl ⟨by rfl, ?_⟩) hHeld ?_ ?_
          rotate_left
          ·rintro w' ⟨s0, s1⟩
           go_simp
           with_reducible rfl
          rotate_left
          ·simp only [Act.put, l1_21, l2_21, l3_21, i64_w, i32_w]
           rfl
          refine pure_ (i := 3) (N := some 63) (v := ?_) (a' := ?_) #[true, true, true, true, true, false, false, false, false] rfl rfl (any_of HT_.out (by kernel_rfl)) (fun _ _ _ h => h) (Or.inl ⟨by rfl, ?_⟩) ?_ ?_
          rotate_left
          ·intro w'
           go_simp
           with_reducible rfl
          rotate_left
          ·simp only [Act.put, l1_21, l2_21, l3_21, i64_w, i32_w]
           rfl
          refine pure_ (i := 5) (N := some 65) (v := ?_) (a' := ?_) #[true, true, true, true, true, true, false, false, false] rfl rfl (any_of HT_.out (by kernel_rfl)) (fun _ _ _ h => h) (Or.inl ⟨by rfl, ?_⟩) ?_ ?_
          rotate_left
          ·intro w'
           go_simp
           with_reducible rfl
          rotate_left
          ·simp only [Act.put, l1_21, l2_21, l3_21, i64_w, i32_w]
           rfl
          refine pure_ (i := 6) (N := some 66) (v := ?_) (a' := ?_) #[true, true, true, true, true, true, true, false, false] rfl rfl (any_of HT_.out (by kernel_rfl)) (fun _ _ _ h => h) (Or.inl ⟨by rfl, ?_⟩) ?_ ?_
          rotate_left
          ·intro w'
           go_simp
           with_reducible rfl
          rotate_left
          ·simp only [Act.put, l1_21, l2_21, l3_21, i64_w, i32_w]
           rfl
          refine one_ (i := 7) (N := none) #[true, true, true, true, true, true, true, true, false] rfl rfl (one_of HT_.out (by kernel_rfl)) (by decide) (fun K hK => ?_)
          have hs44 : w43.cell? ⟨gb230, 0, none⟩ = some (.int .i64 0) := (blk_cell BK230.out 0).trans rfl
          have hfs44 := blk_frozen BK230.out 0
          have hns44_0 := NB229_230.out
          have hms44_0 := NB230_229.out
          have hs45 : w43.cell? ⟨gb230, 1, none⟩ = some (.slice none 0 0) := (blk_cell BK230.out 1).trans rfl
          have hfs45 := blk_frozen BK230.out 1
          have hns45_0 := NB229_230.out
          have hms45_0 := NB230_229.out
          refine skip_ (w1 := ?_) (by rfl) rfl ?_ ?_
          rotate_left
          ·go_simp
           rfl
          refine hK.out _ _ ⟨((cell_far (p := ⟨gb230, _, none⟩) NB229_230.out _).trans (((cell_far (p := ⟨gb230, _, none⟩) NB229_230.out _).trans (hHeld.1)))), ((cell_far (p := ⟨gb230, _, none⟩) NB229_230.out _).trans (((cell_far (p := ⟨gb230, _, none⟩) NB229_230.out _).trans (hHeld.2))))⟩ (fun hHeld => ?_)
          clear hK K
          refine pure_ (i := 8) (N := some 7) (v := ?_) (a' := ?_) #[true, true, true, true, true, true, true, true, true] rfl rfl (any_of HT_.out (by kernel_rfl)) (fun _ _ _ h => h) (Or.inl ⟨by rfl, ?_⟩) ?_ ?_
          rotate_left
          ·intro w'
           go_simp
           with_reducible rfl
          rotate_left
          ·simp only [Act.put, l1_21, l2_21, l3_21, i64_w, i32_w]
           rfl
          refine done_ (done_of HT_.out (by kernel_rfl)) ?_
          try go_wp2
          refine bodyPost_ret (results_ct rfl _ _ gb230 24 #[.int .i64 a0_0, .slice A0_1 l0_1.length c0_1] (0, 0) _ rfl (by (with_reducible repeat (first | refine b1_21 ?_ _ | refine b3_21 ?_ | refine b2_21 ?_ _)); refine blk_put (cs := #[.int .i64 a0_0, .slice none 0 0]) ?_ 1 _ rfl; (with_reducible repeat (first | refine b1_21 ?_ _ | refine b3_21 ?_ | refine b2_21 ?_ _)); refine blk_put (cs := #[.int .i64 0, .slice none 0 0]) ?_ 0 _ rfl; (with_reducible repeat (first | refine b1_21 ?_ _ | refine b3_21 ?_ | refine b2_21 ?_ _)); exact BK230.out) Try.underlying24 rfl (by kernel_rfl)) rfl ?_
          exact ⟨_, by first | rfl | (simp [errW_none, errW_some] <;> rfl) | (simp [*, errW_none, errW_some] <;> rfl), by (with_reducible repeat (first | apply v1_21 | apply v2_21 | apply v3_21)); exact v4_21 (Kd.V_far (p := ⟨gb230, 1, none⟩) (Kd.V_far (p := ⟨gb230, 0, none⟩) (v4_21 HO_230001.out (fun k_ hk => (⟨hk, hk.2.2⟩ : _ ∧ k_ ≠ gb230))) (fun _ hk => hk.2) (.int .i64 a0_0)) (fun _ hk => hk.2) (.slice A0_1 l0_1.length c0_1)) (fun _ hk => hk.1.1), by repeat (first | (with_reducible first | exact HB.out | apply b8_21 | apply b6_21 | apply b7_21 | refine b4_21 ?_ GE229.out | refine b4_21 ?_ GE230.out) | exact HB.out)⟩
end Go.Proofs.Ytlnjefcfbncegaa.Xb
