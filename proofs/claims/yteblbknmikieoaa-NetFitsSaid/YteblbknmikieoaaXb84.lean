/- Slimmed by this session: what nothing names is struck out. -/
import Derived.Test.YteblbknmikieoaaXb0
import Derived.Test.YteblbknmikieoaaXbZ
import Derived.Test.YteblbknmikieoaaXbE
import Derived.Test.YteblbknmikieoaaXbI
import Derived.Test.YteblbknmikieoaaXbH
import Derived.Test.YteblbknmikieoaaXb65
import Derived.Test.YteblbknmikieoaaXbF
import Derived.Test.YteblbknmikieoaaXb74
import Derived.Test.YteblbknmikieoaaXb76
namespace Go.Proofs.Yteblbknmikieoaa.Xb
open Go.RowKit Go.Proofs.YteblbknmikieoaaW.PrintWords Go.Proofs.YteblbknmikieoaaW.PrintLast Go.Proofs.YteblbknmikieoaaW.PrintMore
attribute [local go_sem] max2_int min2_int max_two min_two max_three min_three max_four min_four
set_option linter.unusedVariables false
set_option linter.unusedSimpArgs false
theorem cells5_84 {w : World} {g : Nat} {t : TypeId} {x0 x1 x2 x3 x4 : Value} (h : w.heap[g]? = some (.cells #[x0, x1, x2, x3, x4] t (0, 0))) : w.cell? ⟨g, 0, none⟩ = some x0 ∧ w.cell? ⟨g, 1, none⟩ = some x1 ∧ w.cell? ⟨g, 2, none⟩ = some x2 ∧ w.cell? ⟨g, 3, none⟩ = some x3 ∧ w.cell? ⟨g, 4, none⟩ = some x4 ∧ w.frozen? ⟨g, 0, none⟩ = false ∧ w.frozen? ⟨g, 1, none⟩ = false ∧ w.frozen? ⟨g, 2, none⟩ = false ∧ w.frozen? ⟨g, 3, none⟩ = false ∧ w.frozen? ⟨g, 4, none⟩ = false := ⟨(blk_cell h 0).trans rfl, (blk_cell h 1).trans rfl, (blk_cell h 2).trans rfl, (blk_cell h 3).trans rfl, (blk_cell h 4).trans rfl, blk_frozen h 0, blk_frozen h 1, blk_frozen h 2, blk_frozen h 3, blk_frozen h 4⟩
mutual
def w9_NetFits.j0 : Nat → List Int → List Int → Bool → Bool → List (S41) → List (S47) → List (S43) → List (S61) → List (S47) → Option (Bool)
 | 0, _, _, _, _, _, _, _, _, _ => none
 | k + 1, x1, x2, x7, x23, x515000, x515001, x515002, x515003, x515004 => if x23 = true then (some x7) else ((w9_Rows.f k x515000 x515001 x515002 x515003 x515004 x1 x2).bind fun bt518 => ((net_Eval.f k x515000 x515001 x515002 x515003 x515004 bt518.1 bt518.2).bind fun t524 => ((net_First.f k x515000 x515001 x515002 x515003 x515004).bind fun t527 => ((net_After.f k x515000 x515001 x515002 x515003 x515004 bt518.1 bt518.2).bind fun t530 => (if (t524.length : Int) = (x515000.length : Int) then (if (t527.length : Int) = (x515002.length : Int) then (w9_NetFits.j1 k x7 t524 t527 t530 ((t530.length : Int) != (x515002.length : Int)) x515000 x515001 x515002 x515003 x515004) else (w9_NetFits.j1 k x7 t524 t527 t530 true x515000 x515001 x515002 x515003 x515004)) else (w9_NetFits.j1 k x7 t524 t527 t530 true x515000 x515001 x515002 x515003 x515004))))))
def w9_NetFits.j1 : Nat → Bool → List Int → List Int → List Int → Bool → List (S41) → List (S47) → List (S43) → List (S61) → List (S47) → Option (Bool)
 | 0, _, _, _, _, _, _, _, _, _, _ => none
 | k + 1, x7, x10, x11, x12, x63, x515000, x515001, x515002, x515003, x515004 => if x63 = true then (none) else (w9_NetFits.l0 k x7 x10 x11 x12 0 x515000 x515001 x515002 x515003 x515004)
def w9_NetFits.l0 : Nat → Bool → List Int → List Int → List Int → Int → List (S41) → List (S47) → List (S43) → List (S61) → List (S47) → Option (Bool)
 | 0, _, _, _, _, _, _, _, _, _, _ => none
 | k + 1, x7, x10, x11, x12, x13, x515000, x515001, x515002, x515003, x515004 => if x13 < (x10.length : Int) then (if 0 ≤ x13 then (if (rd x10 x13) < 0 then (none) else (if x13 < (x515000.length : Int) then ((r8_Mask.f ((rd_T41 x515000 x13).f1)).bind fun t536 => (if (rd x10 x13) > t536 then (none) else (w9_NetFits.l0 k x7 x10 x11 x12 (wrap64 (x13 + 1)) x515000 x515001 x515002 x515003 x515004))) else (none))) else (none)) else (w9_NetFits.l1 k x7 x10 x11 x12 0 x515000 x515001 x515002 x515003 x515004)
def w9_NetFits.l1 : Nat → Bool → List Int → List Int → List Int → Int → List (S41) → List (S47) → List (S43) → List (S61) → List (S47) → Option (Bool)
 | 0, _, _, _, _, _, _, _, _, _, _ => none
 | k + 1, x7, x10, x11, x12, x14, x515000, x515001, x515002, x515003, x515004 => if x14 < (x12.length : Int) then (if 0 ≤ x14 then (if x14 < (x515002.length : Int) then (if 0 ≤ ((rd_T43 x515002 x14).f1) then (if ((rd_T43 x515002 x14).f1) < (x515000.length : Int) then ((r8_Mask.f ((rd_T41 x515000 ((rd_T43 x515002 x14).f1)).f1)).bind fun t539 => (if (rd x12 x14) < 0 then (none) else (if (rd x12 x14) > t539 then (none) else (if x14 < (x11.length : Int) then (if (rd x11 x14) < 0 then (none) else (if (rd x11 x14) > t539 then (none) else (if 0 ≤ ((rd_T43 x515002 x14).f2) then (if ((rd_T43 x515002 x14).f2) < (x10.length : Int) then (if (rd x12 x14) = (rd x10 ((rd_T43 x515002 x14).f2)) then (w9_NetFits.l1 k x7 x10 x11 x12 (wrap64 (x14 + 1)) x515000 x515001 x515002 x515003 x515004) else (none)) else (none)) else (none)))) else (none))))) else (none)) else (none)) else (none)) else (none)) else (some x7)
end
def w9_NetFits.f (k : Nat) (l0_0 : List (S41)) (l0_1 : List (S47)) (l0_2 : List (S43)) (l0_3 : List (S61)) (l0_4 : List (S47)) (l1 : List Int) (l2 : List Int) : Option (Bool) := (w9_head.f k).bind fun t515 => ((w9_Great.f l0_0 l0_1 l0_2 l0_3 l0_4).bind fun t516 => (if t516 = true then (w9_NetFits.j0 k l1 l2 t515 true l0_0 l0_1 l0_2 l0_3 l0_4) else ((r9_Right.f k l0_0 l0_1 l0_2 l0_3 l0_4).bind fun t517 => (w9_NetFits.j0 k l1 l2 t515 (!t517) l0_0 l0_1 l0_2 l0_3 l0_4))))
theorem w9_NetFits.mono_l : ∀ k, (∀ y0 y1 y2 y3 y4 y5 y6 y7 y8, LeO (w9_NetFits.j0 k y0 y1 y2 y3 y4 y5 y6 y7 y8) (w9_NetFits.j0 (k + 1) y0 y1 y2 y3 y4 y5 y6 y7 y8)) ∧ (∀ y0 y1 y2 y3 y4 y5 y6 y7 y8 y9, LeO (w9_NetFits.j1 k y0 y1 y2 y3 y4 y5 y6 y7 y8 y9) (w9_NetFits.j1 (k + 1) y0 y1 y2 y3 y4 y5 y6 y7 y8 y9)) ∧ (∀ y0 y1 y2 y3 y4 y5 y6 y7 y8 y9, LeO (w9_NetFits.l0 k y0 y1 y2 y3 y4 y5 y6 y7 y8 y9) (w9_NetFits.l0 (k + 1) y0 y1 y2 y3 y4 y5 y6 y7 y8 y9)) ∧ (∀ y0 y1 y2 y3 y4 y5 y6 y7 y8 y9, LeO (w9_NetFits.l1 k y0 y1 y2 y3 y4 y5 y6 y7 y8 y9) (w9_NetFits.l1 (k + 1) y0 y1 y2 y3 y4 y5 y6 y7 y8 y9))
 | 0 => ⟨fun _ _ _ _ _ _ _ _ _ r h => by simp [w9_NetFits.j0] at h, fun _ _ _ _ _ _ _ _ _ _ r h => by simp [w9_NetFits.j1] at h, fun _ _ _ _ _ _ _ _ _ _ r h => by simp [w9_NetFits.l0] at h, fun _ _ _ _ _ _ _ _ _ _ r h => by simp [w9_NetFits.l1] at h⟩
 | k + 1 => by
  obtain ⟨ih0, ih1, ih2, ih3⟩ := w9_NetFits.mono_l k
  refine ⟨?_, ?_, ?_, ?_⟩
  ·intro y0 y1 y2 y3 y4 y5 y6 y7 y8
   unfold w9_NetFits.j0
   repeat' first
   | (with_reducible exact ih0 _ _ _ _ _ _ _ _ _)
   | (with_reducible exact ih1 _ _ _ _ _ _ _ _ _ _)
   | (with_reducible exact ih2 _ _ _ _ _ _ _ _ _ _)
   | (with_reducible exact ih3 _ _ _ _ _ _ _ _ _ _)
   | (with_reducible exact net_After.mono _ _ _ _ _ _ _ _)
   | (with_reducible exact net_Eval.mono _ _ _ _ _ _ _ _)
   | (with_reducible exact net_First.mono _ _ _ _ _ _)
   | (with_reducible exact w9_Rows.mono _ _ _ _ _ _ _ _)
   | (with_reducible exact w9_head.mono _)
   | (with_reducible exact r9_Right.mono _ _ _ _ _ _)
   | (with_reducible exact LeO.refl _)
   | (with_reducible exact LeO.none _)
   | (with_reducible refine LeO.ite ?_ ?_)
   | (with_reducible refine LeO.bind ?_ (fun _ => ?_))
   | exact ih0 _ _ _ _ _ _ _ _ _
   | exact ih1 _ _ _ _ _ _ _ _ _ _
   | exact ih2 _ _ _ _ _ _ _ _ _ _
   | exact ih3 _ _ _ _ _ _ _ _ _ _
   | exact net_After.mono _ _ _ _ _ _ _ _
   | exact net_Eval.mono _ _ _ _ _ _ _ _
   | exact net_First.mono _ _ _ _ _ _
   | exact w9_Rows.mono _ _ _ _ _ _ _ _
   | exact w9_head.mono _
   | exact r9_Right.mono _ _ _ _ _ _
   | exact LeO.none _
   | refine LeO.ite ?_ ?_
   | refine LeO.bind ?_ (fun _ => ?_)
  ·intro y0 y1 y2 y3 y4 y5 y6 y7 y8 y9
   unfold w9_NetFits.j1
   repeat' first
   | (with_reducible exact ih0 _ _ _ _ _ _ _ _ _)
   | (with_reducible exact ih1 _ _ _ _ _ _ _ _ _ _)
   | (with_reducible exact ih2 _ _ _ _ _ _ _ _ _ _)
   | (with_reducible exact ih3 _ _ _ _ _ _ _ _ _ _)
   | (with_reducible exact net_After.mono _ _ _ _ _ _ _ _)
   | (with_reducible exact net_Eval.mono _ _ _ _ _ _ _ _)
   | (with_reducible exact net_First.mono _ _ _ _ _ _)
   | (with_reducible exact w9_Rows.mono _ _ _ _ _ _ _ _)
   | (with_reducible exact w9_head.mono _)
   | (with_reducible exact r9_Right.mono _ _ _ _ _ _)
   | (with_reducible exact LeO.refl _)
   | (with_reducible exact LeO.none _)
   | (with_reducible refine LeO.ite ?_ ?_)
   | (with_reducible refine LeO.bind ?_ (fun _ => ?_))
   | exact ih0 _ _ _ _ _ _ _ _ _
   | exact ih1 _ _ _ _ _ _ _ _ _ _
   | exact ih2 _ _ _ _ _ _ _ _ _ _
   | exact ih3 _ _ _ _ _ _ _ _ _ _
   | exact net_After.mono _ _ _ _ _ _ _ _
   | exact net_Eval.mono _ _ _ _ _ _ _ _
   | exact net_First.mono _ _ _ _ _ _
   | exact w9_Rows.mono _ _ _ _ _ _ _ _
   | exact w9_head.mono _
   | exact r9_Right.mono _ _ _ _ _ _
   | exact LeO.none _
   | refine LeO.ite ?_ ?_
   | refine LeO.bind ?_ (fun _ => ?_)
  ·intro y0 y1 y2 y3 y4 y5 y6 y7 y8 y9
   unfold w9_NetFits.l0
   repeat' first
   | (with_reducible exact ih0 _ _ _ _ _ _ _ _ _)
   | (with_reducible exact ih1 _ _ _ _ _ _ _ _ _ _)
   | (with_reducible exact ih2 _ _ _ _ _ _ _ _ _ _)
   | (with_reducible exact ih3 _ _ _ _ _ _ _ _ _ _)
   | (with_reducible exact net_After.mono _ _ _ _ _ _ _ _)
   | (with_reducible exact net_Eval.mono _ _ _ _ _ _ _ _)
   | (with_reducible exact net_First.mono _ _ _ _ _ _)
   | (with_reducible exact w9_Rows.mono _ _ _ _ _ _ _ _)
   | (with_reducible exact w9_head.mono _)
   | (with_reducible exact r9_Right.mono _ _ _ _ _ _)
   | (with_reducible exact LeO.refl _)
   | (with_reducible exact LeO.none _)
   | (with_reducible refine LeO.ite ?_ ?_)
   | (with_reducible refine LeO.bind ?_ (fun _ => ?_))
   | exact ih0 _ _ _ _ _ _ _ _ _
   | exact ih1 _ _ _ _ _ _ _ _ _ _
   | exact ih2 _ _ _ _ _ _ _ _ _ _
   | exact ih3 _ _ _ _ _ _ _ _ _ _
   | exact net_After.mono _ _ _ _ _ _ _ _
   | exact net_Eval.mono _ _ _ _ _ _ _ _
   | exact net_First.mono _ _ _ _ _ _
   | exact w9_Rows.mono _ _ _ _ _ _ _ _
   | exact w9_head.mono _
   | exact r9_Right.mono _ _ _ _ _ _
   | exact LeO.none _
   | refine LeO.ite ?_ ?_
   | refine LeO.bind ?_ (fun _ => ?_)
  ·intro y0 y1 y2 y3 y4 y5 y6 y7 y8 y9
   unfold w9_NetFits.l1
   repeat' first
   | (with_reducible exact ih0 _ _ _ _ _ _ _ _ _)
   | (with_reducible exact ih1 _ _ _ _ _ _ _ _ _ _)
   | (with_reducible exact ih2 _ _ _ _ _ _ _ _ _ _)
   | (with_reducible exact ih3 _ _ _ _ _ _ _ _ _ _)
   | (with_reducible exact net_After.mono _ _ _ _ _ _ _ _)
   | (with_reducible exact net_Eval.mono _ _ _ _ _ _ _ _)
   | (with_reducible exact net_First.mono _ _ _ _ _ _)
   | (with_reducible exact w9_Rows.mono _ _ _ _ _ _ _ _)
   | (with_reducible exact w9_head.mono _)
   | (with_reducible exact r9_Right.mono _ _ _ _ _ _)
   | (with_reducible exact LeO.refl _)
   | (with_reducible exact LeO.none _)
   | (with_reducible refine LeO.ite ?_ ?_)
   | (with_reducible refine LeO.bind ?_ (fun _ => ?_))
   | exact ih0 _ _ _ _ _ _ _ _ _
   | exact ih1 _ _ _ _ _ _ _ _ _ _
   | exact ih2 _ _ _ _ _ _ _ _ _ _
   | exact ih3 _ _ _ _ _ _ _ _ _ _
   | exact net_After.mono _ _ _ _ _ _ _ _
   | exact net_Eval.mono _ _ _ _ _ _ _ _
   | exact net_First.mono _ _ _ _ _ _
   | exact w9_Rows.mono _ _ _ _ _ _ _ _
   | exact w9_head.mono _
   | exact r9_Right.mono _ _ _ _ _ _
   | exact LeO.none _
   | refine LeO.ite ?_ ?_
   | refine LeO.bind ?_ (fun _ => ?_)
theorem w9_NetFits.mono : ∀ a0 a1 a2 a3 a4 a5 a6 k, LeO (w9_NetFits.f k a0 a1 a2 a3 a4 a5 a6) (w9_NetFits.f (k + 1) a0 a1 a2 a3 a4 a5 a6) := by
 intro a0 a1 a2 a3 a4 a5 a6 k
 obtain ⟨ih1, ih2, ih3, ih4⟩ := w9_NetFits.mono_l k
 unfold w9_NetFits.f
 repeat' first
   | (with_reducible exact ih1 _ _ _ _ _ _ _ _ _)
   | (with_reducible exact ih2 _ _ _ _ _ _ _ _ _ _)
   | (with_reducible exact ih3 _ _ _ _ _ _ _ _ _ _)
   | (with_reducible exact ih4 _ _ _ _ _ _ _ _ _ _)
   | (with_reducible exact net_After.mono _ _ _ _ _ _ _ _)
   | (with_reducible exact net_Eval.mono _ _ _ _ _ _ _ _)
   | (with_reducible exact net_First.mono _ _ _ _ _ _)
   | (with_reducible exact w9_Rows.mono _ _ _ _ _ _ _ _)
   | (with_reducible exact w9_head.mono _)
   | (with_reducible exact r9_Right.mono _ _ _ _ _ _)
   | (with_reducible exact LeO.refl _)
   | (with_reducible exact LeO.none _)
   | (with_reducible refine LeO.ite ?_ ?_)
   | (with_reducible refine LeO.bind ?_ (fun _ => ?_))
   | exact ih1 _ _ _ _ _ _ _ _ _
   | exact ih2 _ _ _ _ _ _ _ _ _ _
   | exact ih3 _ _ _ _ _ _ _ _ _ _
   | exact ih4 _ _ _ _ _ _ _ _ _ _
   | exact net_After.mono _ _ _ _ _ _ _ _
   | exact net_Eval.mono _ _ _ _ _ _ _ _
   | exact net_First.mono _ _ _ _ _ _
   | exact w9_Rows.mono _ _ _ _ _ _ _ _
   | exact w9_head.mono _
   | exact r9_Right.mono _ _ _ _ _ _
   | exact LeO.none _
   | refine LeO.ite ?_ ?_
   | refine LeO.bind ?_ (fun _ => ?_)
theorem z84_1 {P : Prop} (h : P := by
 go_wp2
 repeat (go_quiet (fail); try go_wp2)
 go_meet
 case rel => exact ⟨_, (true), q13z, H', ⟨q55z HJ1⟩, ⟨q34z HO3⟩, ⟨q34z HO4⟩, ⟨q34z HO5⟩, ⟨q10z BK1⟩, ⟨q3z HB GE1⟩⟩) : P := h
set_option maxHeartbeats 8000000 in
set_option maxRecDepth 100000 in
theorem w9_NetFits.calls (k : Nat) (A0_0 : Option Addr) (c0_0 : Nat) (l0_0 : List (S41)) (A0_1 : Option Addr) (c0_1 : Nat) (l0_1 : List (S47)) (A0_2 : Option Addr) (c0_2 : Nat) (l0_2 : List (S43)) (A0_3 : Option Addr) (c0_3 : Nat) (l0_3 : List (S61)) (A0_4 : Option Addr) (c0_4 : Nat) (l0_4 : List (S47)) (A1 : Option Addr) (c1 : Nat) (l1 : List Int) (A2 : Option Addr) (c2 : Nat) (l2 : List Int) (r : Bool) (w : World) (hr0_0 : Kd.C k41 w A0_0 l0_0.length l0_0) (hc0_0 : l0_0.length ≤ c0_0) (hr0_1 : Kd.C k47 w A0_1 l0_1.length l0_1) (hc0_1 : l0_1.length ≤ c0_1) (hr0_2 : Kd.C k43 w A0_2 l0_2.length l0_2) (hc0_2 : l0_2.length ≤ c0_2) (hr0_3 : Kd.C k61 w A0_3 l0_3.length l0_3) (hc0_3 : l0_3.length ≤ c0_3) (hr0_4 : Kd.C k47 w A0_4 l0_4.length l0_4) (hc0_4 : l0_4.length ≤ c0_4) (hr1 : Kd.C (Kd.int .u16) w A1 l1.length l1) (hc1 : l1.length ≤ c1) (hr2 : Kd.C (Kd.int .u16) w A2 l2.length l2) (hc2 : l2.length ≤ c2) (h : w9_NetFits.f k l0_0 l0_1 l0_2 l0_3 l0_4 l1 l2 = some r) :
  Calls Try.prog 4 #[.agg #[.slice A0_0 l0_0.length c0_0, .slice A0_1 l0_1.length c0_1, .slice A0_2 l0_2.length c0_2, .slice A0_3 l0_3.length c0_3, .slice A0_4 l0_4.length c0_4], .slice A1 l1.length c1, .slice A2 l2.length c2] w fun e w' => e = .returned (.bool r) ∧ Below w.heap.size w w' := by
 have hu1 := Try.underlying27
 have HR1_0 := aM hr0_0
 have HC1_0 := aM hc0_0
 clear hr0_0 hc0_0
 have HR1_1 := aM hr0_1
 have HC1_1 := aM hc0_1
 clear hr0_1 hc0_1
 have HR1_2 := aM hr0_2
 have HC1_2 := aM hc0_2
 clear hr0_2 hc0_2
 have HR1_3 := aM hr0_3
 have HC1_3 := aM hc0_3
 clear hr0_3 hc0_3
 have HR1_4 := aM hr0_4
 have HC1_4 := aM hc0_4
 clear hr0_4 hc0_4
 have HR1 := aM hr1
 have HC1 := aM hc1
 clear hr1 hc1
 have HR2 := aM hr2
 have HC2 := aM hc2
 clear hr2 hc2
 have HB := aM (Below.refl w.heap.size w)
 have H : ((w9_head.f k).bind fun t1 => ((w9_Great.f l0_0 l0_1 l0_2 l0_3 l0_4).bind fun t2 => (if t2 = true then (w9_NetFits.j0 k l1 l2 t1 true l0_0 l0_1 l0_2 l0_3 l0_4) else ((r9_Right.f k l0_0 l0_1 l0_2 l0_3 l0_4).bind fun t3 => (w9_NetFits.j0 k l1 l2 t1 (!t3) l0_0 l0_1 l0_2 l0_3 l0_4))))) = some r := h
 clear h
 replace H := Option.bind_eq_some_iff.mp H
 obtain ⟨t1, A3, H⟩ := H
 have A4 := aM A3
 clear A3
 have HC3 := aM H
 clear H
 go_enter Try.func4, Try.ntmps4
 go_upto_region 2 with (first | ((with_reducible refine gate_dst (N := 3) rfl ?_); (try (refine gate_guard (by rfl) ?_; dsimp only)); refine box_event ?hg (N := 3) ?hd (cs := #[.slice A0_0 l0_0.length c0_0, .slice A0_1 l0_1.length c0_1, .slice A0_2 l0_2.length c0_2, .slice A0_3 l0_3.length c0_3, .slice A0_4 l0_4.length c0_4]) (t := 27) ?hr ?_; (case hd => rfl); (case hg => rfl); (case hr => exact q27z); intro gb1 hg w1 hbox hb; have BK1 := aM (hbox); have GW1 := aM ((q7z HB : w.heap.size ≤ gb1)); have GE1 := aM ((q7z HB : w.heap.size ≤ gb1)); replace HB := aM (ym (q4z HB) hb); clear hb hbox hg) | (go_at_call 10; (with_reducible refine (w9_head.calls k  t1 _ A4.out).mono ?_); rintro e w2 ⟨rfl, hb⟩; replace BK1 := aM (yi (zi BK1) hb); replace HB := aM (ym (q3z HB GE1) hb); (try clear hb); (try clear hb2); (try clear hk); (try clear hi)))
 repeat (go_quiet (first | ((with_reducible refine gate_dst (N := 3) rfl ?_); (try (refine gate_guard (by rfl) ?_; dsimp only)); refine box_event ?hg (N := 3) ?hd (cs := #[.slice A0_0 l0_0.length c0_0, .slice A0_1 l0_1.length c0_1, .slice A0_2 l0_2.length c0_2, .slice A0_3 l0_3.length c0_3, .slice A0_4 l0_4.length c0_4]) (t := 27) ?hr ?_; (case hd => rfl); (case hg => rfl); (case hr => exact q27z); intro gb1 hg w1 hbox hb; have BK1 := aM (hbox); have GW1 := aM ((q7z HB : w.heap.size ≤ gb1)); have GE1 := aM ((q7z HB : w.heap.size ≤ gb1)); replace HB := aM (ym (q4z HB) hb); clear hb hbox hg) | (go_at_call 10; (with_reducible refine (w9_head.calls k  t1 _ A4.out).mono ?_); rintro e w2 ⟨rfl, hb⟩; replace BK1 := aM (yi (zi BK1) hb); replace HB := aM (ym (q3z HB GE1) hb); (try clear hb); (try clear hb2); (try clear hk); (try clear hi))); go_upto_region 2 with (first | ((with_reducible refine gate_dst (N := 3) rfl ?_); (try (refine gate_guard (by rfl) ?_; dsimp only)); refine box_event ?hg (N := 3) ?hd (cs := #[.slice A0_0 l0_0.length c0_0, .slice A0_1 l0_1.length c0_1, .slice A0_2 l0_2.length c0_2, .slice A0_3 l0_3.length c0_3, .slice A0_4 l0_4.length c0_4]) (t := 27) ?hr ?_; (case hd => rfl); (case hg => rfl); (case hr => exact q27z); intro gb1 hg w1 hbox hb; have BK1 := aM (hbox); have GW1 := aM ((q7z HB : w.heap.size ≤ gb1)); have GE1 := aM ((q7z HB : w.heap.size ≤ gb1)); replace HB := aM (ym (q4z HB) hb); clear hb hbox hg) | (go_at_call 10; (with_reducible refine (w9_head.calls k  t1 _ A4.out).mono ?_); rintro e w2 ⟨rfl, hb⟩; replace BK1 := aM (yi (zi BK1) hb); replace HB := aM (ym (q3z HB GE1) hb); (try clear hb); (try clear hb2); (try clear hk); (try clear hi))))
 (try simp only [Act.put, yu, yv, yw])
 go_cut [23] (fun v1 wc => ∃ (kq : Nat) (x1_4 : Bool), v1 = .bool x1_4 ∧ Aside0 (w9_NetFits.j0 kq l1 l2 t1 x1_4 l0_0 l0_1 l0_2 l0_3 l0_4 = some r) ∧ Aside0 (kq ≤ k) ∧ Aside0 (wc.heap[gb1]? = some (.cells #[(.slice A0_0 l0_0.length c0_0), (.slice A0_1 l0_1.length c0_1), (.slice A0_2 l0_2.length c0_2), (.slice A0_3 l0_3.length c0_3), (.slice A0_4 l0_4.length c0_4)] 27 (0, 0))) ∧ Aside0 (Below w.heap.size w wc))
 case first =>
  have H := HC3.out
  clear HC3
  replace H := Option.bind_eq_some_iff.mp H
  obtain ⟨t2, A3, H⟩ := H
  have A4 := aM A3
  clear A3
  by_cases c6 : t2 = true
  ·subst c6
   have H1 : (w9_NetFits.j0 k l1 l2 t1 true l0_0 l0_1 l0_2 l0_3 l0_4) = some r := by rw [if_pos rfl] at H; exact H
   clear H
   have H := H1
   clear H1
   have H' := aM H
   clear H
   obtain ⟨i1_0, i1_1, i1_2, i1_3, i1_4, j1_0, j1_1, j1_2, j1_3, j1_4⟩ := cells5_84 BK1.out
   go_wp2_with (first | (go_at_call 11; (with_reducible refine (w9_Great.calls _ _ l0_0 _ _ l0_1 _ _ l0_2 _ _ l0_3 _ _ l0_4 true _ ?side1 ?side2 ?side3 ?side4 ?side5 ?side6 ?side7 ?side8 ?side9 ?side10 A4.out).mono ?_); (case side1 => exact q1z HR1_0 HB); (case side2 => exact HC1_0.out); (case side3 => exact q1z HR1_1 HB); (case side4 => exact HC1_1.out); (case side5 => exact q1z HR1_2 HB); (case side6 => exact HC1_2.out); (case side7 => exact q1z HR1_3 HB); (case side8 => exact HC1_3.out); (case side9 => exact q1z HR1_4 HB); (case side10 => exact HC1_4.out); rintro e w1 ⟨rfl, hb⟩; replace BK1 := aM (yi (zi BK1) hb); replace HB := aM (ym (q3z HB GE1) hb); (try clear hb); (try clear hb2); (try clear hk); (try clear hi)))
   repeat (go_quiet (first | (go_at_call 11; (with_reducible refine (w9_Great.calls _ _ l0_0 _ _ l0_1 _ _ l0_2 _ _ l0_3 _ _ l0_4 true _ ?side1 ?side2 ?side3 ?side4 ?side5 ?side6 ?side7 ?side8 ?side9 ?side10 A4.out).mono ?_); (case side1 => exact q1z HR1_0 HB); (case side2 => exact HC1_0.out); (case side3 => exact q1z HR1_1 HB); (case side4 => exact HC1_1.out); (case side5 => exact q1z HR1_2 HB); (case side6 => exact HC1_2.out); (case side7 => exact q1z HR1_3 HB); (case side8 => exact HC1_3.out); (case side9 => exact q1z HR1_4 HB); (case side10 => exact HC1_4.out); rintro e w1 ⟨rfl, hb⟩; replace BK1 := aM (yi (zi BK1) hb); replace HB := aM (ym (q3z HB GE1) hb); (try clear hb); (try clear hb2); (try clear hk); (try clear hi))); try go_wp2_with (first | (go_at_call 11; (with_reducible refine (w9_Great.calls _ _ l0_0 _ _ l0_1 _ _ l0_2 _ _ l0_3 _ _ l0_4 true _ ?side1 ?side2 ?side3 ?side4 ?side5 ?side6 ?side7 ?side8 ?side9 ?side10 A4.out).mono ?_); (case side1 => exact q1z HR1_0 HB); (case side2 => exact HC1_0.out); (case side3 => exact q1z HR1_1 HB); (case side4 => exact HC1_1.out); (case side5 => exact q1z HR1_2 HB); (case side6 => exact HC1_2.out); (case side7 => exact q1z HR1_3 HB); (case side8 => exact HC1_3.out); (case side9 => exact q1z HR1_4 HB); (case side10 => exact HC1_4.out); rintro e w1 ⟨rfl, hb⟩; replace BK1 := aM (yi (zi BK1) hb); replace HB := aM (ym (q3z HB GE1) hb); (try clear hb); (try clear hb2); (try clear hk); (try clear hi))))
   go_meet
   case rel => exact ⟨_, (true), q13z, H', ⟨q51z⟩, ⟨q10z BK1⟩, ⟨q3z HB GE1⟩⟩
  ·replace c6 := Bool.eq_false_iff.mpr c6
   subst c6
   have H1 : ((r9_Right.f k l0_0 l0_1 l0_2 l0_3 l0_4).bind fun t3 => (w9_NetFits.j0 k l1 l2 t1 (!t3) l0_0 l0_1 l0_2 l0_3 l0_4)) = some r := by rw [if_neg (show ¬ (false = true) by decide)] at H; exact H
   clear H
   have H := H1
   clear H1
   replace H := Option.bind_eq_some_iff.mp H
   obtain ⟨t3, A3, H⟩ := H
   have A5 := aM A3
   clear A3
   have H' := aM H
   clear H
   obtain ⟨i1_0, i1_1, i1_2, i1_3, i1_4, j1_0, j1_1, j1_2, j1_3, j1_4⟩ := cells5_84 BK1.out
   go_wp2_with (first | (go_at_call 11; (with_reducible refine (w9_Great.calls _ _ l0_0 _ _ l0_1 _ _ l0_2 _ _ l0_3 _ _ l0_4 false _ ?side1 ?side2 ?side3 ?side4 ?side5 ?side6 ?side7 ?side8 ?side9 ?side10 A4.out).mono ?_); (case side1 => exact q1z HR1_0 HB); (case side2 => exact HC1_0.out); (case side3 => exact q1z HR1_1 HB); (case side4 => exact HC1_1.out); (case side5 => exact q1z HR1_2 HB); (case side6 => exact HC1_2.out); (case side7 => exact q1z HR1_3 HB); (case side8 => exact HC1_3.out); (case side9 => exact q1z HR1_4 HB); (case side10 => exact HC1_4.out); rintro e w1 ⟨rfl, hb⟩; replace BK1 := aM (yi (zi BK1) hb); replace HB := aM (ym (q3z HB GE1) hb); (try clear hb); (try clear hb2); (try clear hk); (try clear hi); obtain ⟨i1_0, i1_1, i1_2, i1_3, i1_4, j1_0, j1_1, j1_2, j1_3, j1_4⟩ := cells5_84 BK1.out) | (go_at_call 13; (with_reducible refine (r9_Right.calls k _ _ l0_0 _ _ l0_1 _ _ l0_2 _ _ l0_3 _ _ l0_4 t3 _ ?side1 ?side2 ?side3 ?side4 ?side5 ?side6 ?side7 ?side8 ?side9 ?side10 A5.out).mono ?_); (case side1 => exact q1z HR1_0 HB); (case side2 => exact HC1_0.out); (case side3 => exact q1z HR1_1 HB); (case side4 => exact HC1_1.out); (case side5 => exact q1z HR1_2 HB); (case side6 => exact HC1_2.out); (case side7 => exact q1z HR1_3 HB); (case side8 => exact HC1_3.out); (case side9 => exact q1z HR1_4 HB); (case side10 => exact HC1_4.out); rintro e w2 ⟨rfl, hb⟩; replace BK1 := aM (yi (zi BK1) hb); replace HB := aM (ym (q3z HB GE1) hb); (try clear hb); (try clear hb2); (try clear hk); (try clear hi)))
   repeat (go_quiet (first | (go_at_call 11; (with_reducible refine (w9_Great.calls _ _ l0_0 _ _ l0_1 _ _ l0_2 _ _ l0_3 _ _ l0_4 false _ ?side1 ?side2 ?side3 ?side4 ?side5 ?side6 ?side7 ?side8 ?side9 ?side10 A4.out).mono ?_); (case side1 => exact q1z HR1_0 HB); (case side2 => exact HC1_0.out); (case side3 => exact q1z HR1_1 HB); (case side4 => exact HC1_1.out); (case side5 => exact q1z HR1_2 HB); (case side6 => exact HC1_2.out); (case side7 => exact q1z HR1_3 HB); (case side8 => exact HC1_3.out); (case side9 => exact q1z HR1_4 HB); (case side10 => exact HC1_4.out); rintro e w1 ⟨rfl, hb⟩; replace BK1 := aM (yi (zi BK1) hb); replace HB := aM (ym (q3z HB GE1) hb); (try clear hb); (try clear hb2); (try clear hk); (try clear hi); obtain ⟨i1_0, i1_1, i1_2, i1_3, i1_4, j1_0, j1_1, j1_2, j1_3, j1_4⟩ := cells5_84 BK1.out) | (go_at_call 13; (with_reducible refine (r9_Right.calls k _ _ l0_0 _ _ l0_1 _ _ l0_2 _ _ l0_3 _ _ l0_4 t3 _ ?side1 ?side2 ?side3 ?side4 ?side5 ?side6 ?side7 ?side8 ?side9 ?side10 A5.out).mono ?_); (case side1 => exact q1z HR1_0 HB); (case side2 => exact HC1_0.out); (case side3 => exact q1z HR1_1 HB); (case side4 => exact HC1_1.out); (case side5 => exact q1z HR1_2 HB); (case side6 => exact HC1_2.out); (case side7 => exact q1z HR1_3 HB); (case side8 => exact HC1_3.out); (case side9 => exact q1z HR1_4 HB); (case side10 => exact HC1_4.out); rintro e w2 ⟨rfl, hb⟩; replace BK1 := aM (yi (zi BK1) hb); replace HB := aM (ym (q3z HB GE1) hb); (try clear hb); (try clear hb2); (try clear hk); (try clear hi))); try go_wp2_with (first | (go_at_call 11; (with_reducible refine (w9_Great.calls _ _ l0_0 _ _ l0_1 _ _ l0_2 _ _ l0_3 _ _ l0_4 false _ ?side1 ?side2 ?side3 ?side4 ?side5 ?side6 ?side7 ?side8 ?side9 ?side10 A4.out).mono ?_); (case side1 => exact q1z HR1_0 HB); (case side2 => exact HC1_0.out); (case side3 => exact q1z HR1_1 HB); (case side4 => exact HC1_1.out); (case side5 => exact q1z HR1_2 HB); (case side6 => exact HC1_2.out); (case side7 => exact q1z HR1_3 HB); (case side8 => exact HC1_3.out); (case side9 => exact q1z HR1_4 HB); (case side10 => exact HC1_4.out); rintro e w1 ⟨rfl, hb⟩; replace BK1 := aM (yi (zi BK1) hb); replace HB := aM (ym (q3z HB GE1) hb); (try clear hb); (try clear hb2); (try clear hk); (try clear hi); obtain ⟨i1_0, i1_1, i1_2, i1_3, i1_4, j1_0, j1_1, j1_2, j1_3, j1_4⟩ := cells5_84 BK1.out) | (go_at_call 13; (with_reducible refine (r9_Right.calls k _ _ l0_0 _ _ l0_1 _ _ l0_2 _ _ l0_3 _ _ l0_4 t3 _ ?side1 ?side2 ?side3 ?side4 ?side5 ?side6 ?side7 ?side8 ?side9 ?side10 A5.out).mono ?_); (case side1 => exact q1z HR1_0 HB); (case side2 => exact HC1_0.out); (case side3 => exact q1z HR1_1 HB); (case side4 => exact HC1_1.out); (case side5 => exact q1z HR1_2 HB); (case side6 => exact HC1_2.out); (case side7 => exact q1z HR1_3 HB); (case side8 => exact HC1_3.out); (case side9 => exact q1z HR1_4 HB); (case side10 => exact HC1_4.out); rintro e w2 ⟨rfl, hb⟩; replace BK1 := aM (yi (zi BK1) hb); replace HB := aM (ym (q3z HB GE1) hb); (try clear hb); (try clear hb2); (try clear hk); (try clear hi))))
   go_meet
   case rel => exact ⟨_, (!t3), q13z, H', ⟨q51z⟩, ⟨q10z BK1⟩, ⟨q3z HB GE1⟩⟩
 case rest =>
  clear HC3
  try clear c1
  try clear c2
  try clear p2
  try clear c4
  try clear c6
  try clear i1_0 i1_1 i1_2 i1_3 i1_4
  try clear i2_0 i2_1 i2_2 i2_3 i2_4
  try clear i3_0 i3_1 i3_2 i3_3 i3_4
  try clear j1_0 j1_1 j1_2 j1_3 j1_4
  try clear j2_0 j2_1 j2_2 j2_3 j2_4
  try clear j3_0 j3_1 j3_2 j3_3 j3_4
  obtain ⟨kq, x1_4, rfl, HA, HJ1, BK1, HB⟩ := hcut
  cases kq with
  | zero => exact absurd HA.out (by simp [w9_NetFits.j0])
  | succ kj1 =>
   have H := HA.out
   clear HA
   simp only [w9_NetFits.j0] at H
   by_cases c7 : x1_4 = true
   ·subst c7
    have H1 : (some t1) = some r := by rw [if_pos rfl] at H; exact H
    clear H
    have H := H1
    clear H1
    obtain rfl := Option.some.inj H
    go_wp2
    repeat (go_quiet (fail); try go_wp2)
    go_ret
    exact ⟨q11z, q3z HB GE1⟩
   ·replace c7 := Bool.eq_false_iff.mpr c7
    subst c7
    have H1 : ((w9_Rows.f kj1 l0_0 l0_1 l0_2 l0_3 l0_4 l1 l2).bind fun bt1 => ((net_Eval.f kj1 l0_0 l0_1 l0_2 l0_3 l0_4 bt1.1 bt1.2).bind fun t2 => ((net_First.f kj1 l0_0 l0_1 l0_2 l0_3 l0_4).bind fun t3 => ((net_After.f kj1 l0_0 l0_1 l0_2 l0_3 l0_4 bt1.1 bt1.2).bind fun t4 => (if (t2.length : Int) = (l0_0.length : Int) then (if (t3.length : Int) = (l0_2.length : Int) then (w9_NetFits.j1 kj1 t1 t2 t3 t4 ((t4.length : Int) != (l0_2.length : Int)) l0_0 l0_1 l0_2 l0_3 l0_4) else (w9_NetFits.j1 kj1 t1 t2 t3 t4 true l0_0 l0_1 l0_2 l0_3 l0_4)) else (w9_NetFits.j1 kj1 t1 t2 t3 t4 true l0_0 l0_1 l0_2 l0_3 l0_4)))))) = some r := by rw [if_neg (show ¬ (false = true) by decide)] at H; exact H
    clear H
    have H := H1
    clear H1
    replace H := Option.bind_eq_some_iff.mp H
    obtain ⟨⟨t5, t6⟩, A3, H⟩ := H
    replace H : ((net_Eval.f kj1 l0_0 l0_1 l0_2 l0_3 l0_4 t5 t6).bind fun t2 => ((net_First.f kj1 l0_0 l0_1 l0_2 l0_3 l0_4).bind fun t3 => ((net_After.f kj1 l0_0 l0_1 l0_2 l0_3 l0_4 t5 t6).bind fun t4 => (if (t2.length : Int) = (l0_0.length : Int) then (if (t3.length : Int) = (l0_2.length : Int) then (w9_NetFits.j1 kj1 t1 t2 t3 t4 ((t4.length : Int) != (l0_2.length : Int)) l0_0 l0_1 l0_2 l0_3 l0_4) else (w9_NetFits.j1 kj1 t1 t2 t3 t4 true l0_0 l0_1 l0_2 l0_3 l0_4)) else (w9_NetFits.j1 kj1 t1 t2 t3 t4 true l0_0 l0_1 l0_2 l0_3 l0_4))))) = some r := H
    have A4 := aM A3
    clear A3
    replace H := Option.bind_eq_some_iff.mp H
    obtain ⟨t2, A3, H⟩ := H
    have A5 := aM A3
    clear A3
    replace H := Option.bind_eq_some_iff.mp H
    obtain ⟨t3, A3, H⟩ := H
    have A6 := aM A3
    clear A3
    replace H := Option.bind_eq_some_iff.mp H
    obtain ⟨t4, A3, H⟩ := H
    have A7 := aM A3
    clear A3
    have HC3 := aM H
    clear H
    obtain ⟨i4_0, i4_1, i4_2, i4_3, i4_4, j4_0, j4_1, j4_2, j4_3, j4_4⟩ := cells5_84 BK1.out
    go_upto_region 8 with (first | (go_at_call 16; (with_reducible refine (w9_Rows.calls kj1 _ _ l0_0 _ _ l0_1 _ _ l0_2 _ _ l0_3 _ _ l0_4 _ _ l1 _ _ l2 t5 t6 _ ?side1 ?side2 ?side3 ?side4 ?side5 ?side6 ?side7 ?side8 ?side9 ?side10 ?side11 ?side12 ?side13 ?side14 A4.out).mono ?_); (case side1 => exact q1z HR1_0 HB); (case side2 => exact HC1_0.out); (case side3 => exact q1z HR1_1 HB); (case side4 => exact HC1_1.out); (case side5 => exact q1z HR1_2 HB); (case side6 => exact HC1_2.out); (case side7 => exact q1z HR1_3 HB); (case side8 => exact HC1_3.out); (case side9 => exact q1z HR1_4 HB); (case side10 => exact HC1_4.out); (case side11 => exact q1z HR1 HB); (case side12 => exact HC1.out); (case side13 => exact q1z HR2 HB); (case side14 => exact HC2.out); rintro e w1 ⟨v1, v2, rfl, ho1, ho2, hb⟩; have HO1 := aM (Kd.R_lower ho1 (yn (q3z HB GE1))); have HO2 := aM (Kd.R_lower ho2 (yn (q3z HB GE1))); replace BK1 := aM (yi (zi BK1) hb); replace HB := aM (ym (q3z HB GE1) hb); (try clear hb); (try clear hb2); (try clear hk); (try clear hi); (try clear ho1); (try clear ho2); obtain ⟨i5_0, i5_1, i5_2, i5_3, i5_4, j5_0, j5_1, j5_2, j5_3, j5_4⟩ := cells5_84 BK1.out; obtain ⟨Ao1, co1, eo1⟩ := Kd.R_slice HO1.out; subst eo1; obtain ⟨Ao2, co2, eo2⟩ := Kd.R_slice HO2.out; subst eo2) | (go_at_call 20; (with_reducible refine (net_Eval.calls kj1 _ _ l0_0 _ _ l0_1 _ _ l0_2 _ _ l0_3 _ _ l0_4 _ _ t5 _ _ t6 t2 _ ?side1 ?side2 ?side3 ?side4 ?side5 ?side6 ?side7 ?side8 ?side9 ?side10 ?side11 ?side12 ?side13 ?side14 A5.out).mono ?_); (case side1 => exact q1z HR1_0 HB); (case side2 => exact HC1_0.out); (case side3 => exact q1z HR1_1 HB); (case side4 => exact HC1_1.out); (case side5 => exact q1z HR1_2 HB); (case side6 => exact HC1_2.out); (case side7 => exact q1z HR1_3 HB); (case side8 => exact HC1_3.out); (case side9 => exact q1z HR1_4 HB); (case side10 => exact HC1_4.out); (case side11 => exact q9z HO1); (case side12 => exact q24z HO1); (case side13 => exact q9z HO2); (case side14 => exact q24z HO2); rintro e w2 ⟨v3, rfl, ho1, hb⟩; have HO3 := aM (Kd.R_lower (Kd.R_new' (Kd.R_new' ho1 (Kd.R_lt (q2z HO1))) (Kd.R_lt (q2z HO2))) (yn (q3z HB GE1))); replace HO1 := aM (Kd.R_elder' (q2z HO1) (Kd.R_base ho1) hb); replace HO2 := aM (Kd.R_elder' (q2z HO2) (Kd.R_base ho1) hb); replace BK1 := aM (yi (zi BK1) hb); replace HB := aM (ym (q3z HB GE1) hb); (try clear hb); (try clear hb2); (try clear hk); (try clear hi); (try clear ho1); obtain ⟨i6_0, i6_1, i6_2, i6_3, i6_4, j6_0, j6_1, j6_2, j6_3, j6_4⟩ := cells5_84 BK1.out) | (go_at_call 18; (with_reducible refine (net_First.calls kj1 _ _ l0_0 _ _ l0_1 _ _ l0_2 _ _ l0_3 _ _ l0_4 t3 _ ?side1 ?side2 ?side3 ?side4 ?side5 ?side6 ?side7 ?side8 ?side9 ?side10 A6.out).mono ?_); (case side1 => exact q1z HR1_0 HB); (case side2 => exact HC1_0.out); (case side3 => exact q1z HR1_1 HB); (case side4 => exact HC1_1.out); (case side5 => exact q1z HR1_2 HB); (case side6 => exact HC1_2.out); (case side7 => exact q1z HR1_3 HB); (case side8 => exact HC1_3.out); (case side9 => exact q1z HR1_4 HB); (case side10 => exact HC1_4.out); rintro e w3 ⟨v4, rfl, ho1, hb⟩; have HO4 := aM (Kd.R_lower (Kd.R_new' (Kd.R_new' (Kd.R_new' ho1 (Kd.R_lt (q2z HO1))) (Kd.R_lt (q2z HO2))) (Kd.R_lt (q2z HO3))) (yn (q3z HB GE1))); replace HO1 := aM (Kd.R_elder' (q2z HO1) (Kd.R_base ho1) hb); replace HO2 := aM (Kd.R_elder' (q2z HO2) (Kd.R_base ho1) hb); replace HO3 := aM (Kd.R_elder' (q2z HO3) (Kd.R_base ho1) hb); replace BK1 := aM (yi (zi BK1) hb); replace HB := aM (ym (q3z HB GE1) hb); (try clear hb); (try clear hb2); (try clear hk); (try clear hi); (try clear ho1); obtain ⟨i7_0, i7_1, i7_2, i7_3, i7_4, j7_0, j7_1, j7_2, j7_3, j7_4⟩ := cells5_84 BK1.out) | (go_at_call 22; (with_reducible refine (net_After.calls kj1 _ _ l0_0 _ _ l0_1 _ _ l0_2 _ _ l0_3 _ _ l0_4 _ _ t5 _ _ t6 t4 _ ?side1 ?side2 ?side3 ?side4 ?side5 ?side6 ?side7 ?side8 ?side9 ?side10 ?side11 ?side12 ?side13 ?side14 A7.out).mono ?_); (case side1 => exact q1z HR1_0 HB); (case side2 => exact HC1_0.out); (case side3 => exact q1z HR1_1 HB); (case side4 => exact HC1_1.out); (case side5 => exact q1z HR1_2 HB); (case side6 => exact HC1_2.out); (case side7 => exact q1z HR1_3 HB); (case side8 => exact HC1_3.out); (case side9 => exact q1z HR1_4 HB); (case side10 => exact HC1_4.out); (case side11 => exact q9z HO1); (case side12 => exact q24z HO1); (case side13 => exact q9z HO2); (case side14 => exact q24z HO2); rintro e w4 ⟨v5, rfl, ho1, hb⟩; have HO5 := aM (Kd.R_lower (Kd.R_new' (Kd.R_new' (Kd.R_new' (Kd.R_new' ho1 (Kd.R_lt (q2z HO1))) (Kd.R_lt (q2z HO2))) (Kd.R_lt (q2z HO3))) (Kd.R_lt (q2z HO4))) (yn (q3z HB GE1))); replace HO1 := aM (Kd.R_elder' (q2z HO1) (Kd.R_base ho1) hb); replace HO2 := aM (Kd.R_elder' (q2z HO2) (Kd.R_base ho1) hb); replace HO3 := aM (Kd.R_elder' (q2z HO3) (Kd.R_base ho1) hb); replace HO4 := aM (Kd.R_elder' (q2z HO4) (Kd.R_base ho1) hb); replace BK1 := aM (yi (zi BK1) hb); replace HB := aM (ym (q3z HB GE1) hb); (try clear hb); (try clear hb2); (try clear hk); (try clear hi); (try clear ho1)))
    repeat (go_quiet (first | (go_at_call 16; (with_reducible refine (w9_Rows.calls kj1 _ _ l0_0 _ _ l0_1 _ _ l0_2 _ _ l0_3 _ _ l0_4 _ _ l1 _ _ l2 t5 t6 _ ?side1 ?side2 ?side3 ?side4 ?side5 ?side6 ?side7 ?side8 ?side9 ?side10 ?side11 ?side12 ?side13 ?side14 A4.out).mono ?_); (case side1 => exact q1z HR1_0 HB); (case side2 => exact HC1_0.out); (case side3 => exact q1z HR1_1 HB); (case side4 => exact HC1_1.out); (case side5 => exact q1z HR1_2 HB); (case side6 => exact HC1_2.out); (case side7 => exact q1z HR1_3 HB); (case side8 => exact HC1_3.out); (case side9 => exact q1z HR1_4 HB); (case side10 => exact HC1_4.out); (case side11 => exact q1z HR1 HB); (case side12 => exact HC1.out); (case side13 => exact q1z HR2 HB); (case side14 => exact HC2.out); rintro e w1 ⟨v1, v2, rfl, ho1, ho2, hb⟩; have HO1 := aM (Kd.R_lower ho1 (yn (q3z HB GE1))); have HO2 := aM (Kd.R_lower ho2 (yn (q3z HB GE1))); replace BK1 := aM (yi (zi BK1) hb); replace HB := aM (ym (q3z HB GE1) hb); (try clear hb); (try clear hb2); (try clear hk); (try clear hi); (try clear ho1); (try clear ho2); obtain ⟨i5_0, i5_1, i5_2, i5_3, i5_4, j5_0, j5_1, j5_2, j5_3, j5_4⟩ := cells5_84 BK1.out; obtain ⟨Ao1, co1, eo1⟩ := Kd.R_slice HO1.out; subst eo1; obtain ⟨Ao2, co2, eo2⟩ := Kd.R_slice HO2.out; subst eo2) | (go_at_call 20; (with_reducible refine (net_Eval.calls kj1 _ _ l0_0 _ _ l0_1 _ _ l0_2 _ _ l0_3 _ _ l0_4 _ _ t5 _ _ t6 t2 _ ?side1 ?side2 ?side3 ?side4 ?side5 ?side6 ?side7 ?side8 ?side9 ?side10 ?side11 ?side12 ?side13 ?side14 A5.out).mono ?_); (case side1 => exact q1z HR1_0 HB); (case side2 => exact HC1_0.out); (case side3 => exact q1z HR1_1 HB); (case side4 => exact HC1_1.out); (case side5 => exact q1z HR1_2 HB); (case side6 => exact HC1_2.out); (case side7 => exact q1z HR1_3 HB); (case side8 => exact HC1_3.out); (case side9 => exact q1z HR1_4 HB); (case side10 => exact HC1_4.out); (case side11 => exact q9z HO1); (case side12 => exact q24z HO1); (case side13 => exact q9z HO2); (case side14 => exact q24z HO2); rintro e w2 ⟨v3, rfl, ho1, hb⟩; have HO3 := aM (Kd.R_lower (Kd.R_new' (Kd.R_new' ho1 (Kd.R_lt (q2z HO1))) (Kd.R_lt (q2z HO2))) (yn (q3z HB GE1))); replace HO1 := aM (Kd.R_elder' (q2z HO1) (Kd.R_base ho1) hb); replace HO2 := aM (Kd.R_elder' (q2z HO2) (Kd.R_base ho1) hb); replace BK1 := aM (yi (zi BK1) hb); replace HB := aM (ym (q3z HB GE1) hb); (try clear hb); (try clear hb2); (try clear hk); (try clear hi); (try clear ho1); obtain ⟨i6_0, i6_1, i6_2, i6_3, i6_4, j6_0, j6_1, j6_2, j6_3, j6_4⟩ := cells5_84 BK1.out) | (go_at_call 18; (with_reducible refine (net_First.calls kj1 _ _ l0_0 _ _ l0_1 _ _ l0_2 _ _ l0_3 _ _ l0_4 t3 _ ?side1 ?side2 ?side3 ?side4 ?side5 ?side6 ?side7 ?side8 ?side9 ?side10 A6.out).mono ?_); (case side1 => exact q1z HR1_0 HB); (case side2 => exact HC1_0.out); (case side3 => exact q1z HR1_1 HB); (case side4 => exact HC1_1.out); (case side5 => exact q1z HR1_2 HB); (case side6 => exact HC1_2.out); (case side7 => exact q1z HR1_3 HB); (case side8 => exact HC1_3.out); (case side9 => exact q1z HR1_4 HB); (case side10 => exact HC1_4.out); rintro e w3 ⟨v4, rfl, ho1, hb⟩; have HO4 := aM (Kd.R_lower (Kd.R_new' (Kd.R_new' (Kd.R_new' ho1 (Kd.R_lt (q2z HO1))) (Kd.R_lt (q2z HO2))) (Kd.R_lt (q2z HO3))) (yn (q3z HB GE1))); replace HO1 := aM (Kd.R_elder' (q2z HO1) (Kd.R_base ho1) hb); replace HO2 := aM (Kd.R_elder' (q2z HO2) (Kd.R_base ho1) hb); replace HO3 := aM (Kd.R_elder' (q2z HO3) (Kd.R_base ho1) hb); replace BK1 := aM (yi (zi BK1) hb); replace HB := aM (ym (q3z HB GE1) hb); (try clear hb); (try clear hb2); (try clear hk); (try clear hi); (try clear ho1); obtain ⟨i7_0, i7_1, i7_2, i7_3, i7_4, j7_0, j7_1, j7_2, j7_3, j7_4⟩ := cells5_84 BK1.out) | (go_at_call 22; (with_reducible refine (net_After.calls kj1 _ _ l0_0 _ _ l0_1 _ _ l0_2 _ _ l0_3 _ _ l0_4 _ _ t5 _ _ t6 t4 _ ?side1 ?side2 ?side3 ?side4 ?side5 ?side6 ?side7 ?side8 ?side9 ?side10 ?side11 ?side12 ?side13 ?side14 A7.out).mono ?_); (case side1 => exact q1z HR1_0 HB); (case side2 => exact HC1_0.out); (case side3 => exact q1z HR1_1 HB); (case side4 => exact HC1_1.out); (case side5 => exact q1z HR1_2 HB); (case side6 => exact HC1_2.out); (case side7 => exact q1z HR1_3 HB); (case side8 => exact HC1_3.out); (case side9 => exact q1z HR1_4 HB); (case side10 => exact HC1_4.out); (case side11 => exact q9z HO1); (case side12 => exact q24z HO1); (case side13 => exact q9z HO2); (case side14 => exact q24z HO2); rintro e w4 ⟨v5, rfl, ho1, hb⟩; have HO5 := aM (Kd.R_lower (Kd.R_new' (Kd.R_new' (Kd.R_new' (Kd.R_new' ho1 (Kd.R_lt (q2z HO1))) (Kd.R_lt (q2z HO2))) (Kd.R_lt (q2z HO3))) (Kd.R_lt (q2z HO4))) (yn (q3z HB GE1))); replace HO1 := aM (Kd.R_elder' (q2z HO1) (Kd.R_base ho1) hb); replace HO2 := aM (Kd.R_elder' (q2z HO2) (Kd.R_base ho1) hb); replace HO3 := aM (Kd.R_elder' (q2z HO3) (Kd.R_base ho1) hb); replace HO4 := aM (Kd.R_elder' (q2z HO4) (Kd.R_base ho1) hb); replace BK1 := aM (yi (zi BK1) hb); replace HB := aM (ym (q3z HB GE1) hb); (try clear hb); (try clear hb2); (try clear hk); (try clear hi); (try clear ho1))); go_upto_region 8 with (first | (go_at_call 16; (with_reducible refine (w9_Rows.calls kj1 _ _ l0_0 _ _ l0_1 _ _ l0_2 _ _ l0_3 _ _ l0_4 _ _ l1 _ _ l2 t5 t6 _ ?side1 ?side2 ?side3 ?side4 ?side5 ?side6 ?side7 ?side8 ?side9 ?side10 ?side11 ?side12 ?side13 ?side14 A4.out).mono ?_); (case side1 => exact q1z HR1_0 HB); (case side2 => exact HC1_0.out); (case side3 => exact q1z HR1_1 HB); (case side4 => exact HC1_1.out); (case side5 => exact q1z HR1_2 HB); (case side6 => exact HC1_2.out); (case side7 => exact q1z HR1_3 HB); (case side8 => exact HC1_3.out); (case side9 => exact q1z HR1_4 HB); (case side10 => exact HC1_4.out); (case side11 => exact q1z HR1 HB); (case side12 => exact HC1.out); (case side13 => exact q1z HR2 HB); (case side14 => exact HC2.out); rintro e w1 ⟨v1, v2, rfl, ho1, ho2, hb⟩; have HO1 := aM (Kd.R_lower ho1 (yn (q3z HB GE1))); have HO2 := aM (Kd.R_lower ho2 (yn (q3z HB GE1))); replace BK1 := aM (yi (zi BK1) hb); replace HB := aM (ym (q3z HB GE1) hb); (try clear hb); (try clear hb2); (try clear hk); (try clear hi); (try clear ho1); (try clear ho2); obtain ⟨i5_0, i5_1, i5_2, i5_3, i5_4, j5_0, j5_1, j5_2, j5_3, j5_4⟩ := cells5_84 BK1.out; obtain ⟨Ao1, co1, eo1⟩ := Kd.R_slice HO1.out; subst eo1; obtain ⟨Ao2, co2, eo2⟩ := Kd.R_slice HO2.out; subst eo2) | (go_at_call 20; (with_reducible refine (net_Eval.calls kj1 _ _ l0_0 _ _ l0_1 _ _ l0_2 _ _ l0_3 _ _ l0_4 _ _ t5 _ _ t6 t2 _ ?side1 ?side2 ?side3 ?side4 ?side5 ?side6 ?side7 ?side8 ?side9 ?side10 ?side11 ?side12 ?side13 ?side14 A5.out).mono ?_); (case side1 => exact q1z HR1_0 HB); (case side2 => exact HC1_0.out); (case side3 => exact q1z HR1_1 HB); (case side4 => exact HC1_1.out); (case side5 => exact q1z HR1_2 HB); (case side6 => exact HC1_2.out); (case side7 => exact q1z HR1_3 HB); (case side8 => exact HC1_3.out); (case side9 => exact q1z HR1_4 HB); (case side10 => exact HC1_4.out); (case side11 => exact q9z HO1); (case side12 => exact q24z HO1); (case side13 => exact q9z HO2); (case side14 => exact q24z HO2); rintro e w2 ⟨v3, rfl, ho1, hb⟩; have HO3 := aM (Kd.R_lower (Kd.R_new' (Kd.R_new' ho1 (Kd.R_lt (q2z HO1))) (Kd.R_lt (q2z HO2))) (yn (q3z HB GE1))); replace HO1 := aM (Kd.R_elder' (q2z HO1) (Kd.R_base ho1) hb); replace HO2 := aM (Kd.R_elder' (q2z HO2) (Kd.R_base ho1) hb); replace BK1 := aM (yi (zi BK1) hb); replace HB := aM (ym (q3z HB GE1) hb); (try clear hb); (try clear hb2); (try clear hk); (try clear hi); (try clear ho1); obtain ⟨i6_0, i6_1, i6_2, i6_3, i6_4, j6_0, j6_1, j6_2, j6_3, j6_4⟩ := cells5_84 BK1.out) | (go_at_call 18; (with_reducible refine (net_First.calls kj1 _ _ l0_0 _ _ l0_1 _ _ l0_2 _ _ l0_3 _ _ l0_4 t3 _ ?side1 ?side2 ?side3 ?side4 ?side5 ?side6 ?side7 ?side8 ?side9 ?side10 A6.out).mono ?_); (case side1 => exact q1z HR1_0 HB); (case side2 => exact HC1_0.out); (case side3 => exact q1z HR1_1 HB); (case side4 => exact HC1_1.out); (case side5 => exact q1z HR1_2 HB); (case side6 => exact HC1_2.out); (case side7 => exact q1z HR1_3 HB); (case side8 => exact HC1_3.out); (case side9 => exact q1z HR1_4 HB); (case side10 => exact HC1_4.out); rintro e w3 ⟨v4, rfl, ho1, hb⟩; have HO4 := aM (Kd.R_lower (Kd.R_new' (Kd.R_new' (Kd.R_new' ho1 (Kd.R_lt (q2z HO1))) (Kd.R_lt (q2z HO2))) (Kd.R_lt (q2z HO3))) (yn (q3z HB GE1))); replace HO1 := aM (Kd.R_elder' (q2z HO1) (Kd.R_base ho1) hb); replace HO2 := aM (Kd.R_elder' (q2z HO2) (Kd.R_base ho1) hb); replace HO3 := aM (Kd.R_elder' (q2z HO3) (Kd.R_base ho1) hb); replace BK1 := aM (yi (zi BK1) hb); replace HB := aM (ym (q3z HB GE1) hb); (try clear hb); (try clear hb2); (try clear hk); (try clear hi); (try clear ho1); obtain ⟨i7_0, i7_1, i7_2, i7_3, i7_4, j7_0, j7_1, j7_2, j7_3, j7_4⟩ := cells5_84 BK1.out) | (go_at_call 22; (with_reducible refine (net_After.calls kj1 _ _ l0_0 _ _ l0_1 _ _ l0_2 _ _ l0_3 _ _ l0_4 _ _ t5 _ _ t6 t4 _ ?side1 ?side2 ?side3 ?side4 ?side5 ?side6 ?side7 ?side8 ?side9 ?side10 ?side11 ?side12 ?side13 ?side14 A7.out).mono ?_); (case side1 => exact q1z HR1_0 HB); (case side2 => exact HC1_0.out); (case side3 => exact q1z HR1_1 HB); (case side4 => exact HC1_1.out); (case side5 => exact q1z HR1_2 HB); (case side6 => exact HC1_2.out); (case side7 => exact q1z HR1_3 HB); (case side8 => exact HC1_3.out); (case side9 => exact q1z HR1_4 HB); (case side10 => exact HC1_4.out); (case side11 => exact q9z HO1); (case side12 => exact q24z HO1); (case side13 => exact q9z HO2); (case side14 => exact q24z HO2); rintro e w4 ⟨v5, rfl, ho1, hb⟩; have HO5 := aM (Kd.R_lower (Kd.R_new' (Kd.R_new' (Kd.R_new' (Kd.R_new' ho1 (Kd.R_lt (q2z HO1))) (Kd.R_lt (q2z HO2))) (Kd.R_lt (q2z HO3))) (Kd.R_lt (q2z HO4))) (yn (q3z HB GE1))); replace HO1 := aM (Kd.R_elder' (q2z HO1) (Kd.R_base ho1) hb); replace HO2 := aM (Kd.R_elder' (q2z HO2) (Kd.R_base ho1) hb); replace HO3 := aM (Kd.R_elder' (q2z HO3) (Kd.R_base ho1) hb); replace HO4 := aM (Kd.R_elder' (q2z HO4) (Kd.R_base ho1) hb); replace BK1 := aM (yi (zi BK1) hb); replace HB := aM (ym (q3z HB GE1) hb); (try clear hb); (try clear hb2); (try clear hk); (try clear hi); (try clear ho1))))
    (try simp only [Act.put, yu, yv, yw])
    go_cut [63] (fun v1 wc => ∃ (kq : Nat) (x1_21 : Bool), v1 = .bool x1_21 ∧ Aside0 (w9_NetFits.j1 kq t1 t2 t3 t4 x1_21 l0_0 l0_1 l0_2 l0_3 l0_4 = some r) ∧ Aside0 (kq ≤ kj1) ∧ Aside0 (Kd.R (Kd.int .i64) 3 wc w.heap.size (fun k_ => some k_ ≠ (v4 : Value).ownBlock ∧ some k_ ≠ (v5 : Value).ownBlock) v3 t2) ∧ Aside0 (Kd.R (Kd.int .i64) 3 wc w.heap.size (fun k_ => some k_ ≠ (v3 : Value).ownBlock ∧ some k_ ≠ (v5 : Value).ownBlock) v4 t3) ∧ Aside0 (Kd.R (Kd.int .i64) 3 wc w.heap.size (fun k_ => some k_ ≠ (v3 : Value).ownBlock ∧ some k_ ≠ (v4 : Value).ownBlock) v5 t4) ∧ Aside0 (wc.heap[gb1]? = some (.cells #[(.slice A0_0 l0_0.length c0_0), (.slice A0_1 l0_1.length c0_1), (.slice A0_2 l0_2.length c0_2), (.slice A0_3 l0_3.length c0_3), (.slice A0_4 l0_4.length c0_4)] 27 (0, 0))) ∧ Aside0 (Below w.heap.size w wc))
    case first =>
     have H := HC3.out
     clear HC3
     by_cases c8 : (t2.length : Int) = (l0_0.length : Int)
     ·rw [if_pos c8] at H
      obtain ⟨c1b0, c1b1⟩ := zeq c8
      have c1b2 : (t2.length == l0_0.length) = true := by first | simpa using c8 | (simp at c8 ⊢; omega)
      clear c8
      (first | rw [c1b0] | (simp only [i64_w, i32_w]; rw [c1b0]) | skip)
      by_cases c9 : (t3.length : Int) = (l0_2.length : Int)
      ·rw [if_pos c9] at H
       obtain ⟨c1b0, c1b1⟩ := zeq c9
       have c1b2 : (t3.length == l0_2.length) = true := by first | simpa using c9 | (simp at c9 ⊢; omega)
       clear c9
       have H' := aM H
       clear H
       obtain ⟨Ao1, co1, eo1⟩ := Kd.R_slice HO3.out
       subst eo1
       obtain ⟨i8_0, i8_1, i8_2, i8_3, i8_4, j8_0, j8_1, j8_2, j8_3, j8_4⟩ := cells5_84 BK1.out
       obtain ⟨Ao1, co1, eo1⟩ := Kd.R_slice HO4.out
       subst eo1
       obtain ⟨Ao1, co1, eo1⟩ := Kd.R_slice HO5.out
       subst eo1
       go_wp2
       repeat (go_quiet (fail); try go_wp2)
       go_meet
       case rel => exact ⟨_, (((t4.length : Int) != (l0_2.length : Int))), q13z, H', ⟨q55z HJ1⟩, ⟨q34z HO3⟩, ⟨q34z HO4⟩, ⟨q34z HO5⟩, ⟨q10z BK1⟩, ⟨q3z HB GE1⟩⟩
      ·rw [if_neg c9] at H
       obtain ⟨c1b0, c1b1⟩ := zne c9
       have c1b2 : (t3.length == l0_2.length) = false := by first | simpa using c9 | (simp at c9 ⊢; omega)
       have H' := aM H
       clear H
       obtain ⟨Ao1, co1, eo1⟩ := Kd.R_slice HO3.out
       subst eo1
       obtain ⟨i8_0, i8_1, i8_2, i8_3, i8_4, j8_0, j8_1, j8_2, j8_3, j8_4⟩ := cells5_84 BK1.out
       obtain ⟨Ao1, co1, eo1⟩ := Kd.R_slice HO4.out
       subst eo1
       exact z84_1
     ·rw [if_neg c8] at H
      obtain ⟨c1b0, c1b1⟩ := zne c8
      have c1b2 : (t2.length == l0_0.length) = false := by first | simpa using c8 | (simp at c8 ⊢; omega)
      (first | rw [c1b0] | (simp only [i64_w, i32_w]; rw [c1b0]) | skip)
      have H' := aM H
      clear H
      obtain ⟨Ao1, co1, eo1⟩ := Kd.R_slice HO3.out
      subst eo1
      obtain ⟨i8_0, i8_1, i8_2, i8_3, i8_4, j8_0, j8_1, j8_2, j8_3, j8_4⟩ := cells5_84 BK1.out
      exact z84_1
    case rest =>
     clear HC3
     try clear c1
     try clear c2
     try clear p2
     try clear c3
     try clear c4
     try clear c6
     try clear c7
     try clear c8
     try clear c1b0
     try clear c1b1
     try clear c1b2
     try clear c9
     try clear c2b0
     try clear c2b1
     try clear c2b2
     try clear i1_0 i1_1 i1_2 i1_3 i1_4
     try clear i2_0 i2_1 i2_2 i2_3 i2_4
     try clear i3_0 i3_1 i3_2 i3_3 i3_4
     try clear i4_0 i4_1 i4_2 i4_3 i4_4
     try clear i5_0 i5_1 i5_2 i5_3 i5_4
     try clear i6_0 i6_1 i6_2 i6_3 i6_4
     try clear i7_0 i7_1 i7_2 i7_3 i7_4
     try clear i8_0 i8_1 i8_2 i8_3 i8_4
     try clear i9_0 i9_1 i9_2 i9_3 i9_4
     try clear i10_0 i10_1 i10_2 i10_3 i10_4
     try clear j1_0 j1_1 j1_2 j1_3 j1_4
     try clear j2_0 j2_1 j2_2 j2_3 j2_4
     try clear j3_0 j3_1 j3_2 j3_3 j3_4
     try clear j4_0 j4_1 j4_2 j4_3 j4_4
     try clear j5_0 j5_1 j5_2 j5_3 j5_4
     try clear j6_0 j6_1 j6_2 j6_3 j6_4
     try clear j7_0 j7_1 j7_2 j7_3 j7_4
     try clear j8_0 j8_1 j8_2 j8_3 j8_4
     try clear j9_0 j9_1 j9_2 j9_3 j9_4
     try clear j10_0 j10_1 j10_2 j10_3 j10_4
     try clear p2
     obtain ⟨kq, x1_21, rfl, HA, HJ2, HO_1, HO_2, HO_3, BK1, HB⟩ := hcut
     cases kq with
     | zero => exact absurd HA.out (by simp [w9_NetFits.j1])
     | succ kj1 =>
      have H := HA.out
      clear HA
      simp only [w9_NetFits.j1] at H
      by_cases c10 : x1_21 = true
      ·subst c10
       have H1 : (none) = some r := by rw [if_pos rfl] at H; exact H
       clear H
       have H := H1
       clear H1
       exact absurd H (by simp)
      ·replace c10 := Bool.eq_false_iff.mpr c10
       subst c10
       have H1 : (w9_NetFits.l0 kj1 t1 t2 t3 t4 0 l0_0 l0_1 l0_2 l0_3 l0_4) = some r := by rw [if_neg (show ¬ (false = true) by decide)] at H; exact H
       clear H
       have H := H1
       clear H1
       have H' := aM H
       clear H
       go_wp2
       repeat (go_quiet (fail); try go_wp2)
       go_loopg [13] kj1 (fun kq v1 w' => ∃ (x1_3 : Int), v1 = .int .i64 x1_3 ∧ Aside0 (w9_NetFits.l0 kq t1 t2 t3 t4 x1_3 l0_0 l0_1 l0_2 l0_3 l0_4 = some r) ∧ Aside0 (kq ≤ kj1) ∧ Aside0 (Kd.R (Kd.int .i64) 3 w' w.heap.size (fun k_ => some k_ ≠ (v4 : Value).ownBlock ∧ some k_ ≠ (v5 : Value).ownBlock) v3 t2) ∧ Aside0 (Kd.R (Kd.int .i64) 3 w' w.heap.size (fun k_ => some k_ ≠ (v3 : Value).ownBlock ∧ some k_ ≠ (v5 : Value).ownBlock) v4 t3) ∧ Aside0 (Kd.R (Kd.int .i64) 3 w' w.heap.size (fun k_ => some k_ ≠ (v3 : Value).ownBlock ∧ some k_ ≠ (v4 : Value).ownBlock) v5 t4) ∧ Aside0 (w'.heap[gb1]? = some (.cells #[(.slice A0_0 l0_0.length c0_0), (.slice A0_1 l0_1.length c0_1), (.slice A0_2 l0_2.length c0_2), (.slice A0_3 l0_3.length c0_3), (.slice A0_4 l0_4.length c0_4)] 27 (0, 0))) ∧ Aside0 (Below w.heap.size w w'))
       case atStart => exact ⟨(0), q13z, H', ⟨Nat.le_refl _⟩, ⟨q2z HO_1⟩, ⟨q2z HO_2⟩, ⟨q2z HO_3⟩, ⟨q10z BK1⟩, ⟨q3z HB GE1⟩⟩
       case round =>
        clear H'
        try clear c1
        try clear c2
        try clear p2
        try clear c3
        try clear c4
        try clear c6
        try clear c7
        try clear c8
        try clear c1b0
        try clear c1b1
        try clear c1b2
        try clear c9
        try clear c2b0
        try clear c2b1
        try clear c2b2
        try clear c10
        try clear i1_0 i1_1 i1_2 i1_3 i1_4
        try clear i2_0 i2_1 i2_2 i2_3 i2_4
        try clear i3_0 i3_1 i3_2 i3_3 i3_4
        try clear i4_0 i4_1 i4_2 i4_3 i4_4
        try clear i5_0 i5_1 i5_2 i5_3 i5_4
        try clear i6_0 i6_1 i6_2 i6_3 i6_4
        try clear i7_0 i7_1 i7_2 i7_3 i7_4
        try clear i8_0 i8_1 i8_2 i8_3 i8_4
        try clear i9_0 i9_1 i9_2 i9_3 i9_4
        try clear i10_0 i10_1 i10_2 i10_3 i10_4
        try clear j1_0 j1_1 j1_2 j1_3 j1_4
        try clear j2_0 j2_1 j2_2 j2_3 j2_4
        try clear j3_0 j3_1 j3_2 j3_3 j3_4
        try clear j4_0 j4_1 j4_2 j4_3 j4_4
        try clear j5_0 j5_1 j5_2 j5_3 j5_4
        try clear j6_0 j6_1 j6_2 j6_3 j6_4
        try clear j7_0 j7_1 j7_2 j7_3 j7_4
        try clear j8_0 j8_1 j8_2 j8_3 j8_4
        try clear j9_0 j9_1 j9_2 j9_3 j9_4
        try clear j10_0 j10_1 j10_2 j10_3 j10_4
        try clear p2
        obtain ⟨x1_3, rfl, HA, HK1, HO_1, HO_2, HO_3, BK1, HB⟩ := hrel
        cases gk with
        | zero => exact absurd HA.out (by simp [w9_NetFits.l0])
        | succ k1 =>
         have H := HA.out
         clear HA
         simp only [w9_NetFits.l0] at H
         by_cases c11 : x1_3 < (t2.length : Int)
         ·rw [if_pos c11] at H
          have c3b0 := decide_eq_true c11
          clear c11
          by_cases c12 : 0 ≤ x1_3
          ·rw [if_pos c12] at H
           have c3b0 := decide_eq_true c12
           clear c12
           by_cases c13 : (rd t2 x1_3) < 0
           ·rw [if_pos c13] at H
            exact absurd H (by simp)
           ·rw [if_neg c13] at H
            have c3b0 := decide_eq_false c13
            clear c13
            by_cases c13 : x1_3 < (l0_0.length : Int)
            ·rw [if_pos c13] at H
             have c3b0 := decide_eq_true c13
             clear c13
             replace H := Option.bind_eq_some_iff.mp H
             obtain ⟨t5, A3, H⟩ := H
             have A4 := aM A3
             clear A3
             by_cases c14 : (rd t2 x1_3) > t5
             ·rw [if_pos c14] at H
              exact absurd H (by simp)
             ·rw [if_neg c14] at H
              have c3b0 : decide (t5 < (rd t2 x1_3)) = false := decide_eq_false c14
              clear c14
              have H' := aM H
              clear H
              obtain ⟨Ao1, co1, eo1⟩ := Kd.R_slice HO_1.out
              subst eo1
              have p1 : 0 ≤ (x1_3 : Int) := zod
              have q1 : x1_3 < (t2.length : Int) := zod
              obtain ⟨ad1, e1, hx1_0⟩ := Kd.at_int (Kd.R_reads' HO_1.out).2.2 x1_3 p1 q1
              cases e1
              replace p1 := eq_true p1
              replace q1 := eq_true q1
              have p1 : 0 ≤ (x1_3 : Int) := zod
              have q1 : x1_3 < (t2.length : Int) := zod
              obtain ⟨ad2, e1, hx1_0⟩ := Kd.at_int (Kd.R_reads' HO_1.out).2.2 x1_3 p1 q1
              obtain rfl : ad1 = ad2 := (by injection e1)
              replace p1 := eq_true p1
              replace q1 := eq_true q1
              obtain ⟨i11_0, i11_1, i11_2, i11_3, i11_4, j11_0, j11_1, j11_2, j11_3, j11_4⟩ := cells5_84 BK1.out
              have p1 : 0 ≤ (x1_3 : Int) := zod
              have q1 : x1_3 < (l0_0.length : Int) := zod
              obtain ⟨ad1, e1, hx1_0, hx1_1, hx1_2, hx1_3, hx1_4, hx1_5, hx1_6⟩ := at_T41 HR1_0.out x1_3 p1 q1
              cases e1
              replace hx1_0 := zx HB hx1_0
              replace hx1_1 := zx HB hx1_1
              replace hx1_2 := zx HB hx1_2
              replace hx1_3 := zx HB hx1_3
              replace hx1_4 := zx HB hx1_4
              replace hx1_5 := zx HB hx1_5
              replace hx1_6 := zx HB hx1_6
              replace p1 := eq_true p1
              replace q1 := eq_true q1
              go_wp2_with (first | (go_at_call 24; (with_reducible refine (r8_Mask.calls ((rd_T41 l0_0 x1_3).f1) t5 _ A4.out).mono ?_); rintro e w' ⟨rfl, ⟨nd, rfl⟩⟩; (try first | exact ⟨rfl, _, World.drewN_drewN _ _ _⟩ | exact ⟨rfl, _, Eq.trans (World.drewN_drewN _ _ _) (congrArg (World.drewN _) (Nat.add_assoc _ _ _))⟩)))
              repeat (go_quiet (first | (go_at_call 24; (with_reducible refine (r8_Mask.calls ((rd_T41 l0_0 x1_3).f1) t5 _ A4.out).mono ?_); rintro e w' ⟨rfl, ⟨nd, rfl⟩⟩; (try first | exact ⟨rfl, _, World.drewN_drewN _ _ _⟩ | exact ⟨rfl, _, Eq.trans (World.drewN_drewN _ _ _) (congrArg (World.drewN _) (Nat.add_assoc _ _ _))⟩))); try go_wp2_with (first | (go_at_call 24; (with_reducible refine (r8_Mask.calls ((rd_T41 l0_0 x1_3).f1) t5 _ A4.out).mono ?_); rintro e w' ⟨rfl, ⟨nd, rfl⟩⟩; (try first | exact ⟨rfl, _, World.drewN_drewN _ _ _⟩ | exact ⟨rfl, _, Eq.trans (World.drewN_drewN _ _ _) (congrArg (World.drewN _) (Nat.add_assoc _ _ _))⟩))))
              go_roundg k1
              case measure => have := HJ1.out; have := HJ2.out; have := HK1.out; omega
              case rel => exact ⟨(wrap64 (x1_3 + 1)), q13z, H', ⟨q87z HJ1 HJ2 HK1⟩, ⟨q2z HO_1⟩, ⟨q2z HO_2⟩, ⟨q2z HO_3⟩, ⟨q10z BK1⟩, ⟨q3z HB GE1⟩⟩
            ·rw [if_neg c13] at H
             exact absurd H (by simp)
          ·rw [if_neg c12] at H
           exact absurd H (by simp)
         ·rw [if_neg c11] at H
          have c3b0 := decide_eq_false c11
          clear c11
          have H' := aM H
          clear H
          obtain ⟨Ao1, co1, eo1⟩ := Kd.R_slice HO_1.out
          subst eo1
          go_wp2
          repeat (go_quiet (fail); try go_wp2)
          go_loopg [14] k1 (fun kq v1 w' => ∃ (x1_4 : Int), v1 = .int .i64 x1_4 ∧ Aside0 (w9_NetFits.l1 kq t1 t2 t3 t4 x1_4 l0_0 l0_1 l0_2 l0_3 l0_4 = some r) ∧ Aside0 (kq ≤ k1) ∧ Aside0 (Kd.R (Kd.int .i64) 3 w' w.heap.size (fun k_ => some k_ ≠ (v4 : Value).ownBlock ∧ some k_ ≠ (v5 : Value).ownBlock) (.slice Ao1 t2.length co1) t2) ∧ Aside0 (Kd.R (Kd.int .i64) 3 w' w.heap.size (fun k_ => some k_ ≠ ((.slice Ao1 t2.length co1) : Value).ownBlock ∧ some k_ ≠ (v5 : Value).ownBlock) v4 t3) ∧ Aside0 (Kd.R (Kd.int .i64) 3 w' w.heap.size (fun k_ => some k_ ≠ ((.slice Ao1 t2.length co1) : Value).ownBlock ∧ some k_ ≠ (v4 : Value).ownBlock) v5 t4) ∧ Aside0 (w'.heap[gb1]? = some (.cells #[(.slice A0_0 l0_0.length c0_0), (.slice A0_1 l0_1.length c0_1), (.slice A0_2 l0_2.length c0_2), (.slice A0_3 l0_3.length c0_3), (.slice A0_4 l0_4.length c0_4)] 27 (0, 0))) ∧ Aside0 (Below w.heap.size w w'))
          case atStart => exact ⟨(0), q13z, H', ⟨Nat.le_refl _⟩, ⟨q2z HO_1⟩, ⟨q2z HO_2⟩, ⟨q2z HO_3⟩, ⟨q10z BK1⟩, ⟨q3z HB GE1⟩⟩
          case round =>
           clear H'
           try clear c1
           try clear c2
           try clear p2
           try clear c3
           try clear c4
           try clear c5
           try clear p5
           try clear q5
           try clear hx5
           try clear p6
           try clear c6
           try clear c7
           try clear c8
           try clear c1b0
           try clear c1b1
           try clear c1b2
           try clear c9
           try clear c2b0
           try clear c2b1
           try clear c2b2
           try clear c10
           try clear c11
           try clear c3b0
           try clear c6
           try clear c1b0
           try clear c6
           try clear c1b0
           try clear c6
           try clear c1b0
           try clear c6
           try clear c1b0
           try clear p53
           try clear q53
           try clear hx53
           try clear i1_0 i1_1 i1_2 i1_3 i1_4
           try clear i2_0 i2_1 i2_2 i2_3 i2_4
           try clear i3_0 i3_1 i3_2 i3_3 i3_4
           try clear i4_0 i4_1 i4_2 i4_3 i4_4
           try clear i5_0 i5_1 i5_2 i5_3 i5_4
           try clear i6_0 i6_1 i6_2 i6_3 i6_4
           try clear i7_0 i7_1 i7_2 i7_3 i7_4
           try clear i8_0 i8_1 i8_2 i8_3 i8_4
           try clear i9_0 i9_1 i9_2 i9_3 i9_4
           try clear i10_0 i10_1 i10_2 i10_3 i10_4
           try clear i1_0 i1_1 i1_2 i1_3 i1_4 j1_0 j1_1 j1_2 j1_3 j1_4
           try clear j2_0 j2_1 j2_2 j2_3 j2_4
           try clear j3_0 j3_1 j3_2 j3_3 j3_4
           try clear j4_0 j4_1 j4_2 j4_3 j4_4
           try clear j5_0 j5_1 j5_2 j5_3 j5_4
           try clear j6_0 j6_1 j6_2 j6_3 j6_4
           try clear j7_0 j7_1 j7_2 j7_3 j7_4
           try clear j8_0 j8_1 j8_2 j8_3 j8_4
           try clear j9_0 j9_1 j9_2 j9_3 j9_4
           try clear j10_0 j10_1 j10_2 j10_3 j10_4
           try clear j1_0 j1_1 j1_2 j1_3 j1_4
           try clear hx1_0
           try clear hx1_0
           try clear hx1_0
           try clear hx1_1
           try clear hx1_2
           try clear hx1_3
           try clear hx1_4
           try clear hx1_5
           try clear hx1_6
           try clear p2
           try clear p1
           try clear p1
           try clear p1
           try clear q1
           try clear q1
           try clear q1
           obtain ⟨x1_4, rfl, HA, HK2, HO_1, HO_2, HO_3, BK1, HB⟩ := hrel
           cases gk with
           | zero => exact absurd HA.out (by simp [w9_NetFits.l1])
           | succ k1 =>
            have H := HA.out
            clear HA
            simp only [w9_NetFits.l1] at H
            by_cases c6 : x1_4 < (t4.length : Int)
            ·rw [if_pos c6] at H
             have c1b0 := decide_eq_true c6
             clear c6
             by_cases c7 : 0 ≤ x1_4
             ·rw [if_pos c7] at H
              have c1b0 := decide_eq_true c7
              clear c7
              by_cases c8 : x1_4 < (l0_2.length : Int)
              ·rw [if_pos c8] at H
               have c1b0 := decide_eq_true c8
               clear c8
               by_cases c9 : 0 ≤ ((rd_T43 l0_2 x1_4).f1)
               ·rw [if_pos c9] at H
                have c1b0 := decide_eq_true c9
                clear c9
                by_cases c10 : ((rd_T43 l0_2 x1_4).f1) < (l0_0.length : Int)
                ·rw [if_pos c10] at H
                 have c1b0 := decide_eq_true c10
                 clear c10
                 replace H := Option.bind_eq_some_iff.mp H
                 obtain ⟨t5, A3, H⟩ := H
                 have A4 := aM A3
                 clear A3
                 by_cases c11 : (rd t4 x1_4) < 0
                 ·rw [if_pos c11] at H
                  exact absurd H (by simp)
                 ·rw [if_neg c11] at H
                  have c1b0 := decide_eq_false c11
                  clear c11
                  by_cases c11 : (rd t4 x1_4) > t5
                  ·rw [if_pos c11] at H
                   exact absurd H (by simp)
                  ·rw [if_neg c11] at H
                   have c1b0 : decide (t5 < (rd t4 x1_4)) = false := decide_eq_false c11
                   clear c11
                   by_cases c11 : x1_4 < (t3.length : Int)
                   ·rw [if_pos c11] at H
                    have c1b0 := decide_eq_true c11
                    clear c11
                    by_cases c12 : (rd t3 x1_4) < 0
                    ·rw [if_pos c12] at H
                     exact absurd H (by simp)
                    ·rw [if_neg c12] at H
                     have c1b0 := decide_eq_false c12
                     clear c12
                     by_cases c12 : (rd t3 x1_4) > t5
                     ·rw [if_pos c12] at H
                      exact absurd H (by simp)
                     ·rw [if_neg c12] at H
                      have c1b0 : decide (t5 < (rd t3 x1_4)) = false := decide_eq_false c12
                      clear c12
                      by_cases c12 : 0 ≤ ((rd_T43 l0_2 x1_4).f2)
                      ·rw [if_pos c12] at H
                       have c1b0 := decide_eq_true c12
                       clear c12
                       by_cases c13 : ((rd_T43 l0_2 x1_4).f2) < (t2.length : Int)
                       ·rw [if_pos c13] at H
                        have c1b0 := decide_eq_true c13
                        clear c13
                        by_cases c14 : (rd t4 x1_4) = (rd t2 ((rd_T43 l0_2 x1_4).f2))
                        ·rw [if_pos c14] at H
                         obtain ⟨c1b0, c1b1⟩ := zeq c14
                         clear c14
                         have H' := aM H
                         clear H
                         obtain ⟨Ao1, co1, eo1⟩ := Kd.R_slice HO_3.out
                         subst eo1
                         obtain ⟨i1_0, i1_1, i1_2, i1_3, i1_4, j1_0, j1_1, j1_2, j1_3, j1_4⟩ := cells5_84 BK1.out
                         have p1 : 0 ≤ (x1_4 : Int) := zod
                         have q1 : x1_4 < (l0_2.length : Int) := zod
                         obtain ⟨ad1, e1, hx1_0, hx1_1, hx1_2, hx1_3⟩ := at_T43 HR1_2.out x1_4 p1 q1
                         cases e1
                         replace hx1_0 := zx HB hx1_0
                         replace hx1_1 := zx HB hx1_1
                         replace hx1_2 := zx HB hx1_2
                         replace hx1_3 := zx HB hx1_3
                         replace p1 := eq_true p1
                         replace q1 := eq_true q1
                         have p1 : 0 ≤ (((rd_T43 l0_2 x1_4).f1) : Int) := zod
                         have q1 : ((rd_T43 l0_2 x1_4).f1) < (l0_0.length : Int) := zod
                         obtain ⟨ad2, e1, hx1_0, hx1_1, hx1_2, hx1_3, hx1_4, hx1_5, hx1_6⟩ := at_T41 HR1_0.out ((rd_T43 l0_2 x1_4).f1) p1 q1
                         cases e1
                         replace hx1_0 := zx HB hx1_0
                         replace hx1_1 := zx HB hx1_1
                         replace hx1_2 := zx HB hx1_2
                         replace hx1_3 := zx HB hx1_3
                         replace hx1_4 := zx HB hx1_4
                         replace hx1_5 := zx HB hx1_5
                         replace hx1_6 := zx HB hx1_6
                         replace p1 := eq_true p1
                         replace q1 := eq_true q1
                         go_wp2_with (first | (go_at_call 24; (with_reducible refine (r8_Mask.calls ((rd_T41 l0_0 ((rd_T43 l0_2 x1_4).f1)).f1) t5 _ A4.out).mono ?_); rintro e w' ⟨rfl, ⟨nd, rfl⟩⟩; (try first | exact ⟨rfl, _, World.drewN_drewN _ _ _⟩ | exact ⟨rfl, _, Eq.trans (World.drewN_drewN _ _ _) (congrArg (World.drewN _) (Nat.add_assoc _ _ _))⟩); have p1 : 0 ≤ (x1_4 : Int) := zod; have q1 : x1_4 < (t4.length : Int) := zod; obtain ⟨ad2, e1, hx1_0⟩ := Kd.at_int (Kd.R_reads' HO_3.out).2.2 x1_4 p1 q1; cases e1; replace p1 := eq_true p1; replace q1 := eq_true q1; have p3 : 0 ≤ (x1_4 : Int) := zod; have q2 : x1_4 < (t4.length : Int) := zod; obtain ⟨ad3, e2, hx2_0⟩ := Kd.at_int (Kd.R_reads' HO_3.out).2.2 x1_4 p3 q2; obtain rfl : ad2 = ad3 := (by injection e2); replace p3 := eq_true p3; replace q2 := eq_true q2; obtain ⟨Ao1, co1, eo1⟩ := Kd.R_slice HO_2.out; subst eo1; have p4 : 0 ≤ (x1_4 : Int) := zod; have q3 : x1_4 < (t3.length : Int) := zod; obtain ⟨ad4, e3, hx3_0⟩ := Kd.at_int (Kd.R_reads' HO_2.out).2.2 x1_4 p4 q3; cases e3; replace p4 := eq_true p4; replace q3 := eq_true q3; have p7 : 0 ≤ (x1_4 : Int) := zod; have q4 : x1_4 < (t3.length : Int) := zod; obtain ⟨ad5, e4, hx4_0⟩ := Kd.at_int (Kd.R_reads' HO_2.out).2.2 x1_4 p7 q4; obtain rfl : ad4 = ad5 := (by injection e4); replace p7 := eq_true p7; replace q4 := eq_true q4; have p8 : 0 ≤ (x1_4 : Int) := zod; have q6 : x1_4 < (t4.length : Int) := zod; obtain ⟨ad6, e5, hx5_0⟩ := Kd.at_int (Kd.R_reads' HO_3.out).2.2 x1_4 p8 q6; obtain rfl : ad2 = ad6 := (by injection e5); replace p8 := eq_true p8; replace q6 := eq_true q6; have p9 : 0 ≤ (x1_4 : Int) := zod; have q7 : x1_4 < (l0_2.length : Int) := zod; obtain ⟨ad7, e6, hx6_0, hx1_1, hx1_2, hx1_3⟩ := at_T43 HR1_2.out x1_4 p9 q7; obtain rfl : ad1 = ad7 := (by injection e6); replace hx6_0 := zx HB hx6_0; replace hx1_1 := zx HB hx1_1; replace hx1_2 := zx HB hx1_2; replace hx1_3 := zx HB hx1_3; replace p9 := eq_true p9; replace q7 := eq_true q7; have p10 : 0 ≤ (((rd_T43 l0_2 x1_4).f2) : Int) := zod; have q8 : ((rd_T43 l0_2 x1_4).f2) < (t2.length : Int) := zod; obtain ⟨ad8, e7, hx7_0⟩ := Kd.at_int (Kd.R_reads' HO_1.out).2.2 ((rd_T43 l0_2 x1_4).f2) p10 q8; cases e7; replace p10 := eq_true p10; replace q8 := eq_true q8))
                         repeat (go_quiet (first | (go_at_call 24; (with_reducible refine (r8_Mask.calls ((rd_T41 l0_0 ((rd_T43 l0_2 x1_4).f1)).f1) t5 _ A4.out).mono ?_); rintro e w' ⟨rfl, ⟨nd, rfl⟩⟩; (try first | exact ⟨rfl, _, World.drewN_drewN _ _ _⟩ | exact ⟨rfl, _, Eq.trans (World.drewN_drewN _ _ _) (congrArg (World.drewN _) (Nat.add_assoc _ _ _))⟩); have p1 : 0 ≤ (x1_4 : Int) := zod; have q1 : x1_4 < (t4.length : Int) := zod; obtain ⟨ad2, e1, hx1_0⟩ := Kd.at_int (Kd.R_reads' HO_3.out).2.2 x1_4 p1 q1; cases e1; replace p1 := eq_true p1; replace q1 := eq_true q1; have p3 : 0 ≤ (x1_4 : Int) := zod; have q2 : x1_4 < (t4.length : Int) := zod; obtain ⟨ad3, e2, hx2_0⟩ := Kd.at_int (Kd.R_reads' HO_3.out).2.2 x1_4 p3 q2; obtain rfl : ad2 = ad3 := (by injection e2); replace p3 := eq_true p3; replace q2 := eq_true q2; obtain ⟨Ao1, co1, eo1⟩ := Kd.R_slice HO_2.out; subst eo1; have p4 : 0 ≤ (x1_4 : Int) := zod; have q3 : x1_4 < (t3.length : Int) := zod; obtain ⟨ad4, e3, hx3_0⟩ := Kd.at_int (Kd.R_reads' HO_2.out).2.2 x1_4 p4 q3; cases e3; replace p4 := eq_true p4; replace q3 := eq_true q3; have p7 : 0 ≤ (x1_4 : Int) := zod; have q4 : x1_4 < (t3.length : Int) := zod; obtain ⟨ad5, e4, hx4_0⟩ := Kd.at_int (Kd.R_reads' HO_2.out).2.2 x1_4 p7 q4; obtain rfl : ad4 = ad5 := (by injection e4); replace p7 := eq_true p7; replace q4 := eq_true q4; have p8 : 0 ≤ (x1_4 : Int) := zod; have q6 : x1_4 < (t4.length : Int) := zod; obtain ⟨ad6, e5, hx5_0⟩ := Kd.at_int (Kd.R_reads' HO_3.out).2.2 x1_4 p8 q6; obtain rfl : ad2 = ad6 := (by injection e5); replace p8 := eq_true p8; replace q6 := eq_true q6; have p9 : 0 ≤ (x1_4 : Int) := zod; have q7 : x1_4 < (l0_2.length : Int) := zod; obtain ⟨ad7, e6, hx6_0, hx1_1, hx1_2, hx1_3⟩ := at_T43 HR1_2.out x1_4 p9 q7; obtain rfl : ad1 = ad7 := (by injection e6); replace hx6_0 := zx HB hx6_0; replace hx1_1 := zx HB hx1_1; replace hx1_2 := zx HB hx1_2; replace hx1_3 := zx HB hx1_3; replace p9 := eq_true p9; replace q7 := eq_true q7; have p10 : 0 ≤ (((rd_T43 l0_2 x1_4).f2) : Int) := zod; have q8 : ((rd_T43 l0_2 x1_4).f2) < (t2.length : Int) := zod; obtain ⟨ad8, e7, hx7_0⟩ := Kd.at_int (Kd.R_reads' HO_1.out).2.2 ((rd_T43 l0_2 x1_4).f2) p10 q8; cases e7; replace p10 := eq_true p10; replace q8 := eq_true q8)); try go_wp2_with (first | (go_at_call 24; (with_reducible refine (r8_Mask.calls ((rd_T41 l0_0 ((rd_T43 l0_2 x1_4).f1)).f1) t5 _ A4.out).mono ?_); rintro e w' ⟨rfl, ⟨nd, rfl⟩⟩; (try first | exact ⟨rfl, _, World.drewN_drewN _ _ _⟩ | exact ⟨rfl, _, Eq.trans (World.drewN_drewN _ _ _) (congrArg (World.drewN _) (Nat.add_assoc _ _ _))⟩); have p1 : 0 ≤ (x1_4 : Int) := zod; have q1 : x1_4 < (t4.length : Int) := zod; obtain ⟨ad2, e1, hx1_0⟩ := Kd.at_int (Kd.R_reads' HO_3.out).2.2 x1_4 p1 q1; cases e1; replace p1 := eq_true p1; replace q1 := eq_true q1; have p3 : 0 ≤ (x1_4 : Int) := zod; have q2 : x1_4 < (t4.length : Int) := zod; obtain ⟨ad3, e2, hx2_0⟩ := Kd.at_int (Kd.R_reads' HO_3.out).2.2 x1_4 p3 q2; obtain rfl : ad2 = ad3 := (by injection e2); replace p3 := eq_true p3; replace q2 := eq_true q2; obtain ⟨Ao1, co1, eo1⟩ := Kd.R_slice HO_2.out; subst eo1; have p4 : 0 ≤ (x1_4 : Int) := zod; have q3 : x1_4 < (t3.length : Int) := zod; obtain ⟨ad4, e3, hx3_0⟩ := Kd.at_int (Kd.R_reads' HO_2.out).2.2 x1_4 p4 q3; cases e3; replace p4 := eq_true p4; replace q3 := eq_true q3; have p7 : 0 ≤ (x1_4 : Int) := zod; have q4 : x1_4 < (t3.length : Int) := zod; obtain ⟨ad5, e4, hx4_0⟩ := Kd.at_int (Kd.R_reads' HO_2.out).2.2 x1_4 p7 q4; obtain rfl : ad4 = ad5 := (by injection e4); replace p7 := eq_true p7; replace q4 := eq_true q4; have p8 : 0 ≤ (x1_4 : Int) := zod; have q6 : x1_4 < (t4.length : Int) := zod; obtain ⟨ad6, e5, hx5_0⟩ := Kd.at_int (Kd.R_reads' HO_3.out).2.2 x1_4 p8 q6; obtain rfl : ad2 = ad6 := (by injection e5); replace p8 := eq_true p8; replace q6 := eq_true q6; have p9 : 0 ≤ (x1_4 : Int) := zod; have q7 : x1_4 < (l0_2.length : Int) := zod; obtain ⟨ad7, e6, hx6_0, hx1_1, hx1_2, hx1_3⟩ := at_T43 HR1_2.out x1_4 p9 q7; obtain rfl : ad1 = ad7 := (by injection e6); replace hx6_0 := zx HB hx6_0; replace hx1_1 := zx HB hx1_1; replace hx1_2 := zx HB hx1_2; replace hx1_3 := zx HB hx1_3; replace p9 := eq_true p9; replace q7 := eq_true q7; have p10 : 0 ≤ (((rd_T43 l0_2 x1_4).f2) : Int) := zod; have q8 : ((rd_T43 l0_2 x1_4).f2) < (t2.length : Int) := zod; obtain ⟨ad8, e7, hx7_0⟩ := Kd.at_int (Kd.R_reads' HO_1.out).2.2 ((rd_T43 l0_2 x1_4).f2) p10 q8; cases e7; replace p10 := eq_true p10; replace q8 := eq_true q8)))
                         go_roundg k1
                         case measure => have := HJ1.out; have := HJ2.out; have := HK1.out; have := HK2.out; omega
                         case rel => exact ⟨(wrap64 (x1_4 + 1)), q13z, H', ⟨by have := HJ1.out; have := HJ2.out; have := HK1.out; have := HK2.out; omega⟩, ⟨q2z HO_1⟩, ⟨q2z HO_2⟩, ⟨q2z HO_3⟩, ⟨q10z BK1⟩, ⟨q3z HB GE1⟩⟩
                        ·rw [if_neg c14] at H
                         exact absurd H (by simp)
                       ·rw [if_neg c13] at H
                        exact absurd H (by simp)
                      ·rw [if_neg c12] at H
                       exact absurd H (by simp)
                   ·rw [if_neg c11] at H
                    exact absurd H (by simp)
                ·rw [if_neg c10] at H
                 exact absurd H (by simp)
               ·rw [if_neg c9] at H
                exact absurd H (by simp)
              ·rw [if_neg c8] at H
               exact absurd H (by simp)
             ·rw [if_neg c7] at H
              exact absurd H (by simp)
            ·rw [if_neg c6] at H
             have c1b0 := decide_eq_false c6
             clear c6
             obtain rfl := Option.some.inj H
             obtain ⟨Ao1, co1, eo1⟩ := Kd.R_slice HO_3.out
             subst eo1
             go_wp2
             repeat (go_quiet (fail); try go_wp2)
             go_ret
             exact ⟨q11z, q3z HB GE1⟩
end Go.Proofs.Yteblbknmikieoaa.Xb
