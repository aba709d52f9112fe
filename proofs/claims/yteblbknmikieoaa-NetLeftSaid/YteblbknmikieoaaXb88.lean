/- Slimmed by this session: what nothing names is struck out. -/
import Derived.Test.YteblbknmikieoaaXb0
import Derived.Test.YteblbknmikieoaaXbZ
import Derived.Test.YteblbknmikieoaaXbD
import Derived.Test.YteblbknmikieoaaXbE
import Derived.Test.YteblbknmikieoaaXbI
import Derived.Test.YteblbknmikieoaaXbH
import Derived.Test.YteblbknmikieoaaXb65
import Derived.Test.YteblbknmikieoaaXbF
import Derived.Test.YteblbknmikieoaaXb74
import Derived.Test.YteblbknmikieoaaXb76
namespace Go.Proofs.Yteblbknmikieoaa.Xb
open Go.RowKit Go.Proofs.YteblbknmikieoaaW.PrintWords Go.Proofs.YteblbknmikieoaaW.PrintLast Go.Proofs.YteblbknmikieoaaW.PrintMore
attribute [local go_sem] max2_int min2_int max_two min_two max_three min_three max_four min_four
set_option linter.unusedVariables false
set_option linter.unusedSimpArgs false
theorem cells5_88 {w : World} {g : Nat} {t : TypeId} {x0 x1 x2 x3 x4 : Value} (h : w.heap[g]? = some (.cells #[x0, x1, x2, x3, x4] t (0, 0))) : w.cell? ⟨g, 0, none⟩ = some x0 ∧ w.cell? ⟨g, 1, none⟩ = some x1 ∧ w.cell? ⟨g, 2, none⟩ = some x2 ∧ w.cell? ⟨g, 3, none⟩ = some x3 ∧ w.cell? ⟨g, 4, none⟩ = some x4 ∧ w.frozen? ⟨g, 0, none⟩ = false ∧ w.frozen? ⟨g, 1, none⟩ = false ∧ w.frozen? ⟨g, 2, none⟩ = false ∧ w.frozen? ⟨g, 3, none⟩ = false ∧ w.frozen? ⟨g, 4, none⟩ = false := ⟨(blk_cell h 0).trans rfl, (blk_cell h 1).trans rfl, (blk_cell h 2).trans rfl, (blk_cell h 3).trans rfl, (blk_cell h 4).trans rfl, blk_frozen h 0, blk_frozen h 1, blk_frozen h 2, blk_frozen h 3, blk_frozen h 4⟩
mutual
def w9_NetLeft.j0 : Nat → List Int → List Int → Int → Bool → Bool → List (S41) → List (S47) → List (S43) → List (S61) → List (S47) → Option (Bool)
 | 0, _, _, _, _, _, _, _, _, _, _ => none
 | k + 1, x1, x2, x3, x9, x27, x724000, x724001, x724002, x724003, x724004 => if x27 = true then (some x9) else ((some (([] : List (S41)) : List (S41))).bind fun y728 => (if y728.length + x724000.length < 2513169434916 then ((some (y728 ++ x724000 : List (S41))).bind fun y731 => (if y731.length < 2513169434916 then ((some (y731 ++ [(⟨1, 16, 0, 0, 0, wrap64 (x3), 0⟩ : S41)] : List (S41))).bind fun y734 => ((w9_Rows.f k x724000 x724001 x724002 x724003 x724004 x1 x2).bind fun bt737 => ((net_Eval.f k y734 x724001 x724002 ([] : List (S61)) ([] : List (S47)) bt737.1 bt737.2).bind fun t743 => ((net_Right.f k y734 x724001 x724002 ([] : List (S61)) ([] : List (S47))).bind fun t746 => (if t746 = true then (if (t743.length : Int) = (wrap64 ((x724000.length : Int) + 1)) then (if 0 ≤ (x724000.length : Int) then (if (x724000.length : Int) < (t743.length : Int) then (w9_NetLeft.j1 k x9 bt737.1 bt737.2 t743 ((rd t743 (x724000.length : Int)) != (wrap64 (x3))) x724000 x724001 x724002 x724003 x724004 y734 x724001 x724002) else (none)) else (none)) else (w9_NetLeft.j1 k x9 bt737.1 bt737.2 t743 true x724000 x724001 x724002 x724003 x724004 y734 x724001 x724002)) else (w9_NetLeft.j1 k x9 bt737.1 bt737.2 t743 true x724000 x724001 x724002 x724003 x724004 y734 x724001 x724002)))))) else (none))) else (none)))
def w9_NetLeft.j1 : Nat → Bool → List Int → List Int → List Int → Bool → List (S41) → List (S47) → List (S43) → List (S61) → List (S47) → List (S41) → List (S47) → List (S43) → Option (Bool)
 | 0, _, _, _, _, _, _, _, _, _, _, _, _, _ => none
 | k + 1, x9, x11, x12, x13, x75, x724000, x724001, x724002, x724003, x724004, x728000, x728001, x728002 => if x75 = true then (none) else (if x9 = true then (if 0 ≤ (x724000.length : Int) then (if (x724000.length : Int) ≤ (x13.length : Int) then ((net_Eval.f k x724000 x724001 x724002 x724003 x724004 x11 x12).bind fun t752 => ((r4_SameInts.f k (x13.take ((x724000.length : Int) : Int).toNat) t752).bind fun t755 => (if t755 = true then ((net_After.f k x728000 x728001 x728002 ([] : List (S61)) ([] : List (S47)) x11 x12).bind fun t756 => ((net_After.f k x724000 x724001 x724002 x724003 x724004 x11 x12).bind fun t759 => ((r4_SameInts.f k t756 t759).bind fun t762 => (some t762)))) else (none)))) else (none)) else (none)) else (none))
end
def w9_NetLeft.f (k : Nat) (l0_0 : List (S41)) (l0_1 : List (S47)) (l0_2 : List (S43)) (l0_3 : List (S61)) (l0_4 : List (S47)) (l1 : List Int) (l2 : List Int) (a3 : Int) : Option (Bool) := (w9_head.f k).bind fun t724 => ((w9_Great.f l0_0 l0_1 l0_2 l0_3 l0_4).bind fun t725 => (if t725 = true then (w9_NetLeft.j0 k l1 l2 a3 t724 true l0_0 l0_1 l0_2 l0_3 l0_4) else ((r9_Right.f k l0_0 l0_1 l0_2 l0_3 l0_4).bind fun t726 => (if t726 = true then (w9_NetLeft.j0 k l1 l2 a3 t724 (decide ((l0_0.length : Int) ≥ 4000)) l0_0 l0_1 l0_2 l0_3 l0_4) else (w9_NetLeft.j0 k l1 l2 a3 t724 true l0_0 l0_1 l0_2 l0_3 l0_4)))))
theorem w9_NetLeft.mono_l : ∀ k, (∀ y0 y1 y2 y3 y4 y5 y6 y7 y8 y9, LeO (w9_NetLeft.j0 k y0 y1 y2 y3 y4 y5 y6 y7 y8 y9) (w9_NetLeft.j0 (k + 1) y0 y1 y2 y3 y4 y5 y6 y7 y8 y9)) ∧ (∀ y0 y1 y2 y3 y4 y5 y6 y7 y8 y9 y10 y11 y12, LeO (w9_NetLeft.j1 k y0 y1 y2 y3 y4 y5 y6 y7 y8 y9 y10 y11 y12) (w9_NetLeft.j1 (k + 1) y0 y1 y2 y3 y4 y5 y6 y7 y8 y9 y10 y11 y12))
 | 0 => ⟨fun _ _ _ _ _ _ _ _ _ _ r h => by simp [w9_NetLeft.j0] at h, fun _ _ _ _ _ _ _ _ _ _ _ _ _ r h => by simp [w9_NetLeft.j1] at h⟩
 | k + 1 => by
  obtain ⟨ih0, ih1⟩ := w9_NetLeft.mono_l k
  refine ⟨?_, ?_⟩
  ·intro y0 y1 y2 y3 y4 y5 y6 y7 y8 y9
   unfold w9_NetLeft.j0
   repeat' first
   | (with_reducible exact ih0 _ _ _ _ _ _ _ _ _ _)
   | (with_reducible exact ih1 _ _ _ _ _ _ _ _ _ _ _ _ _)
   | (with_reducible exact net_After.mono _ _ _ _ _ _ _ _)
   | (with_reducible exact net_Eval.mono _ _ _ _ _ _ _ _)
   | (with_reducible exact net_Right.mono _ _ _ _ _ _)
   | (with_reducible exact w9_Rows.mono _ _ _ _ _ _ _ _)
   | (with_reducible exact w9_head.mono _)
   | (with_reducible exact r4_SameInts.mono _ _ _)
   | (with_reducible exact r9_Right.mono _ _ _ _ _ _)
   | (with_reducible exact LeO.refl _)
   | (with_reducible exact LeO.none _)
   | (with_reducible refine LeO.ite ?_ ?_)
   | (with_reducible refine LeO.bind ?_ (fun _ => ?_))
   | exact ih0 _ _ _ _ _ _ _ _ _ _
   | exact ih1 _ _ _ _ _ _ _ _ _ _ _ _ _
   | exact net_After.mono _ _ _ _ _ _ _ _
   | exact net_Eval.mono _ _ _ _ _ _ _ _
   | exact net_Right.mono _ _ _ _ _ _
   | exact w9_Rows.mono _ _ _ _ _ _ _ _
   | exact w9_head.mono _
   | exact r4_SameInts.mono _ _ _
   | exact r9_Right.mono _ _ _ _ _ _
   | exact LeO.none _
   | refine LeO.ite ?_ ?_
   | refine LeO.bind ?_ (fun _ => ?_)
  ·intro y0 y1 y2 y3 y4 y5 y6 y7 y8 y9 y10 y11 y12
   unfold w9_NetLeft.j1
   repeat' first
   | (with_reducible exact ih0 _ _ _ _ _ _ _ _ _ _)
   | (with_reducible exact ih1 _ _ _ _ _ _ _ _ _ _ _ _ _)
   | (with_reducible exact net_After.mono _ _ _ _ _ _ _ _)
   | (with_reducible exact net_Eval.mono _ _ _ _ _ _ _ _)
   | (with_reducible exact net_Right.mono _ _ _ _ _ _)
   | (with_reducible exact w9_Rows.mono _ _ _ _ _ _ _ _)
   | (with_reducible exact w9_head.mono _)
   | (with_reducible exact r4_SameInts.mono _ _ _)
   | (with_reducible exact r9_Right.mono _ _ _ _ _ _)
   | (with_reducible exact LeO.refl _)
   | (with_reducible exact LeO.none _)
   | (with_reducible refine LeO.ite ?_ ?_)
   | (with_reducible refine LeO.bind ?_ (fun _ => ?_))
   | exact ih0 _ _ _ _ _ _ _ _ _ _
   | exact ih1 _ _ _ _ _ _ _ _ _ _ _ _ _
   | exact net_After.mono _ _ _ _ _ _ _ _
   | exact net_Eval.mono _ _ _ _ _ _ _ _
   | exact net_Right.mono _ _ _ _ _ _
   | exact w9_Rows.mono _ _ _ _ _ _ _ _
   | exact w9_head.mono _
   | exact r4_SameInts.mono _ _ _
   | exact r9_Right.mono _ _ _ _ _ _
   | exact LeO.none _
   | refine LeO.ite ?_ ?_
   | refine LeO.bind ?_ (fun _ => ?_)
theorem w9_NetLeft.mono : ∀ a0 a1 a2 a3 a4 a5 a6 a7 k, LeO (w9_NetLeft.f k a0 a1 a2 a3 a4 a5 a6 a7) (w9_NetLeft.f (k + 1) a0 a1 a2 a3 a4 a5 a6 a7) := by
 intro a0 a1 a2 a3 a4 a5 a6 a7 k
 obtain ⟨ih1, ih2⟩ := w9_NetLeft.mono_l k
 unfold w9_NetLeft.f
 repeat' first
   | (with_reducible exact ih1 _ _ _ _ _ _ _ _ _ _)
   | (with_reducible exact ih2 _ _ _ _ _ _ _ _ _ _ _ _ _)
   | (with_reducible exact net_After.mono _ _ _ _ _ _ _ _)
   | (with_reducible exact net_Eval.mono _ _ _ _ _ _ _ _)
   | (with_reducible exact net_Right.mono _ _ _ _ _ _)
   | (with_reducible exact w9_Rows.mono _ _ _ _ _ _ _ _)
   | (with_reducible exact w9_head.mono _)
   | (with_reducible exact r4_SameInts.mono _ _ _)
   | (with_reducible exact r9_Right.mono _ _ _ _ _ _)
   | (with_reducible exact LeO.refl _)
   | (with_reducible exact LeO.none _)
   | (with_reducible refine LeO.ite ?_ ?_)
   | (with_reducible refine LeO.bind ?_ (fun _ => ?_))
   | exact ih1 _ _ _ _ _ _ _ _ _ _
   | exact ih2 _ _ _ _ _ _ _ _ _ _ _ _ _
   | exact net_After.mono _ _ _ _ _ _ _ _
   | exact net_Eval.mono _ _ _ _ _ _ _ _
   | exact net_Right.mono _ _ _ _ _ _
   | exact w9_Rows.mono _ _ _ _ _ _ _ _
   | exact w9_head.mono _
   | exact r4_SameInts.mono _ _ _
   | exact r9_Right.mono _ _ _ _ _ _
   | exact LeO.none _
   | refine LeO.ite ?_ ?_
   | refine LeO.bind ?_ (fun _ => ?_)
def w9_NetLeft.T12 : Bool × List (List Nat × List Nat) := (true, [([], []), ([0], [0]), ([1], [1]), ([1], [1]), ([3, 1], [1, 3]), ([4, 1], [1, 4]), ([2, 5, 1], [1, 2, 5]), ([1], [1]), ([1], [1]), ([1], [1]), ([7, 8, 9, 1, 1], [1, 7, 8, 9]), ([6, 10, 10, 1], [1, 6, 10]), ([1, 11], [1, 11]), ([12, 11], [12]), ([13], [13]), ([13], [13]), ([13], [13]), ([14, 15, 16, 13, 13], [13, 14, 15, 16]), ([13], [13]), ([13], [13]), ([13], [13]), ([18, 19, 20, 17, 13], [13, 18, 19, 20]), ([17, 21, 21, 13], [13, 17, 21]), ([13, 22], [13, 22]), ([23, 22, 0, 1, 2, 3, 4, 5, 6, 7, 8, 9, 10, 11, 12, 13, 14, 15, 16, 17, 18, 19, 20, 21, 22, 23], [23])])
def w9_NetLeft.B12 : List Nat := [0, 1, 3, 3, 11, 27, 63, 3, 3, 3, 899, 2047, 4095, 8191, 16383, 16383, 16383, 131071, 16383, 16383, 16383, 2097151, 4194303, 8388607, 16777215]
theorem w9_NetLeft.tab12 : rtab .any (opsOf Try.f7 12) = w9_NetLeft.T12 := by kernel_rfl
theorem w9_NetLeft.bits12 : waitsOk w9_NetLeft.T12.2 w9_NetLeft.B12 = true := by kernel_rfl
theorem z88_1 {P : Prop} (h : P := by
 have H1 : (none) = some r := by rw [if_neg (show ¬ (false = true) by decide)] at H; exact H
 clear H
 have H := H1
 clear H1
 exact absurd H (by simp)) : P := h
set_option maxHeartbeats 8000000 in
set_option maxRecDepth 100000 in
theorem w9_NetLeft.calls (k : Nat) (A0_0 : Option Addr) (c0_0 : Nat) (l0_0 : List (S41)) (A0_1 : Option Addr) (c0_1 : Nat) (l0_1 : List (S47)) (A0_2 : Option Addr) (c0_2 : Nat) (l0_2 : List (S43)) (A0_3 : Option Addr) (c0_3 : Nat) (l0_3 : List (S61)) (A0_4 : Option Addr) (c0_4 : Nat) (l0_4 : List (S47)) (A1 : Option Addr) (c1 : Nat) (l1 : List Int) (A2 : Option Addr) (c2 : Nat) (l2 : List Int) (a3 : Int) (r : Bool) (w : World) (hr0_0 : Kd.C k41 w A0_0 l0_0.length l0_0) (hc0_0 : l0_0.length ≤ c0_0) (hr0_1 : Kd.C k47 w A0_1 l0_1.length l0_1) (hc0_1 : l0_1.length ≤ c0_1) (hr0_2 : Kd.C k43 w A0_2 l0_2.length l0_2) (hc0_2 : l0_2.length ≤ c0_2) (hr0_3 : Kd.C k61 w A0_3 l0_3.length l0_3) (hc0_3 : l0_3.length ≤ c0_3) (hr0_4 : Kd.C k47 w A0_4 l0_4.length l0_4) (hc0_4 : l0_4.length ≤ c0_4) (hr1 : Kd.C (Kd.int .u16) w A1 l1.length l1) (hc1 : l1.length ≤ c1) (hr2 : Kd.C (Kd.int .u16) w A2 l2.length l2) (hc2 : l2.length ≤ c2) (h : w9_NetLeft.f k l0_0 l0_1 l0_2 l0_3 l0_4 l1 l2 a3 = some r) :
  Calls Try.prog 7 #[.agg #[.slice A0_0 l0_0.length c0_0, .slice A0_1 l0_1.length c0_1, .slice A0_2 l0_2.length c0_2, .slice A0_3 l0_3.length c0_3, .slice A0_4 l0_4.length c0_4], .slice A1 l1.length c1, .slice A2 l2.length c2, .int .u16 a3] w fun e w' => e = .returned (.bool r) ∧ Below w.heap.size w w' := by
 have hu1 := Try.underlying27
 have hu1 := Try.underlying41
 have HR1_0 := aM hr0_0
 have HC1_0 := aM hc0_0
 clear hr0_0 hc0_0
 have HR1_1 := aM hr0_1
 have HC1_1 := aM hc0_1
 clear hr0_1 hc0_1
 have HR1_2 := aM hr0_2
 have HC1_2 := aM hc0_2
 clear hr0_2 hc0_2
 have HR1_3 := aM hr0_3
 have HC1_3 := aM hc0_3
 clear hr0_3 hc0_3
 have HR1_4 := aM hr0_4
 have HC1_4 := aM hc0_4
 clear hr0_4 hc0_4
 have HR1 := aM hr1
 have HC1 := aM hc1
 clear hr1 hc1
 have HR2 := aM hr2
 have HC2 := aM hc2
 clear hr2 hc2
 have HB := aM (Below.refl w.heap.size w)
 have H : ((w9_head.f k).bind fun t1 => ((w9_Great.f l0_0 l0_1 l0_2 l0_3 l0_4).bind fun t2 => (if t2 = true then (w9_NetLeft.j0 k l1 l2 a3 t1 true l0_0 l0_1 l0_2 l0_3 l0_4) else ((r9_Right.f k l0_0 l0_1 l0_2 l0_3 l0_4).bind fun t3 => (if t3 = true then (w9_NetLeft.j0 k l1 l2 a3 t1 (decide ((l0_0.length : Int) ≥ 4000)) l0_0 l0_1 l0_2 l0_3 l0_4) else (w9_NetLeft.j0 k l1 l2 a3 t1 true l0_0 l0_1 l0_2 l0_3 l0_4)))))) = some r := h
 clear h
 replace H := Option.bind_eq_some_iff.mp H
 obtain ⟨t1, A3, H⟩ := H
 have A4 := aM A3
 clear A3
 have HC3 := aM H
 clear H
 go_enter Try.func7, Try.ntmps7
 go_upto_region 2 with (first | ((with_reducible refine gate_dst (N := 4) rfl ?_); (try (refine gate_guard (by rfl) ?_; dsimp only)); refine box_event ?hg (N := 4) ?hd (cs := #[.slice A0_0 l0_0.length c0_0, .slice A0_1 l0_1.length c0_1, .slice A0_2 l0_2.length c0_2, .slice A0_3 l0_3.length c0_3, .slice A0_4 l0_4.length c0_4]) (t := 27) ?hr ?_; (case hd => rfl); (case hg => rfl); (case hr => exact q27z); intro gb1 hg w1 hbox hb; have BK1 := aM (hbox); have GW1 := aM ((q7z HB : w.heap.size ≤ gb1)); have GE1 := aM ((q7z HB : w.heap.size ≤ gb1)); replace HB := aM (ym (q4z HB) hb); clear hb hbox hg) | ((with_reducible refine zgc 10 rfl ?_); refine zgl (some 14) Try.func10 #[] ?_; (with_reducible refine (w9_head.calls k  t1 _ A4.out).mono ?_); rintro e w2 ⟨rfl, hb⟩; refine ⟨_, rfl, ?_⟩; replace BK1 := aM (yi (zi BK1) hb); replace HB := aM (ym (q3z HB GE1) hb); (try clear hb); (try clear hb2); (try clear hk); (try clear hi)))
 (try simp only [Act.put, yu, yv, yw])
 go_cut [27] (fun v1 wc => ∃ (kq : Nat) (x1_5 : Bool), v1 = .bool x1_5 ∧ Aside0 (w9_NetLeft.j0 kq l1 l2 a3 t1 x1_5 l0_0 l0_1 l0_2 l0_3 l0_4 = some r) ∧ Aside0 (kq ≤ k) ∧ Aside0 (wc.heap[gb1]? = some (.cells #[(.slice A0_0 l0_0.length c0_0), (.slice A0_1 l0_1.length c0_1), (.slice A0_2 l0_2.length c0_2), (.slice A0_3 l0_3.length c0_3), (.slice A0_4 l0_4.length c0_4)] 27 (0, 0))) ∧ Aside0 (Below w.heap.size w wc))
 case first =>
  have H := HC3.out
  clear HC3
  replace H := Option.bind_eq_some_iff.mp H
  obtain ⟨t2, A3, H⟩ := H
  have A4 := aM A3
  clear A3
  by_cases c8 : t2 = true
  ·subst c8
   have H1 : (w9_NetLeft.j0 k l1 l2 a3 t1 true l0_0 l0_1 l0_2 l0_3 l0_4) = some r := by rw [if_pos rfl] at H; exact H
   clear H
   have H := H1
   clear H1
   have H' := aM H
   clear H
   obtain ⟨i1_0, i1_1, i1_2, i1_3, i1_4, j1_0, j1_1, j1_2, j1_3, j1_4⟩ := cells5_88 BK1.out
   go_wp2_with (first | ((with_reducible refine zgc 11 rfl ?_); refine zgl (some 16) Try.func11 #[.agg #[.slice A0_0 l0_0.length c0_0, .slice A0_1 l0_1.length c0_1, .slice A0_2 l0_2.length c0_2, .slice A0_3 l0_3.length c0_3, .slice A0_4 l0_4.length c0_4]] ?_; (with_reducible refine (w9_Great.calls _ _ l0_0 _ _ l0_1 _ _ l0_2 _ _ l0_3 _ _ l0_4 true _ ?side1 ?side2 ?side3 ?side4 ?side5 ?side6 ?side7 ?side8 ?side9 ?side10 A4.out).mono ?_); (case side1 => exact q1z HR1_0 HB); (case side2 => exact HC1_0.out); (case side3 => exact q1z HR1_1 HB); (case side4 => exact HC1_1.out); (case side5 => exact q1z HR1_2 HB); (case side6 => exact HC1_2.out); (case side7 => exact q1z HR1_3 HB); (case side8 => exact HC1_3.out); (case side9 => exact q1z HR1_4 HB); (case side10 => exact HC1_4.out); rintro e w1 ⟨rfl, hb⟩; refine ⟨_, rfl, ?_⟩; replace BK1 := aM (yi (zi BK1) hb); replace HB := aM (ym (q3z HB GE1) hb); (try clear hb); (try clear hb2); (try clear hk); (try clear hi)))
   go_meet
   case rel => exact ⟨_, (true), q13z, H', ⟨q51z⟩, ⟨q10z BK1⟩, ⟨q3z HB GE1⟩⟩
  ·replace c8 := Bool.eq_false_iff.mpr c8
   subst c8
   have H1 : ((r9_Right.f k l0_0 l0_1 l0_2 l0_3 l0_4).bind fun t3 => (if t3 = true then (w9_NetLeft.j0 k l1 l2 a3 t1 (decide ((l0_0.length : Int) ≥ 4000)) l0_0 l0_1 l0_2 l0_3 l0_4) else (w9_NetLeft.j0 k l1 l2 a3 t1 true l0_0 l0_1 l0_2 l0_3 l0_4))) = some r := by rw [if_neg (show ¬ (false = true) by decide)] at H; exact H
   clear H
   have H := H1
   clear H1
   replace H := Option.bind_eq_some_iff.mp H
   obtain ⟨t3, A3, H⟩ := H
   have A5 := aM A3
   clear A3
   by_cases c8 : t3 = true
   ·subst c8
    have H1 : (w9_NetLeft.j0 k l1 l2 a3 t1 (decide ((l0_0.length : Int) ≥ 4000)) l0_0 l0_1 l0_2 l0_3 l0_4) = some r := by rw [if_pos rfl] at H; exact H
    clear H
    have H := H1
    clear H1
    have H' := aM H
    clear H
    obtain ⟨i1_0, i1_1, i1_2, i1_3, i1_4, j1_0, j1_1, j1_2, j1_3, j1_4⟩ := cells5_88 BK1.out
    go_wp2_with (first | ((with_reducible refine zgc 11 rfl ?_); refine zgl (some 16) Try.func11 #[.agg #[.slice A0_0 l0_0.length c0_0, .slice A0_1 l0_1.length c0_1, .slice A0_2 l0_2.length c0_2, .slice A0_3 l0_3.length c0_3, .slice A0_4 l0_4.length c0_4]] ?_; (with_reducible refine (w9_Great.calls _ _ l0_0 _ _ l0_1 _ _ l0_2 _ _ l0_3 _ _ l0_4 false _ ?side1 ?side2 ?side3 ?side4 ?side5 ?side6 ?side7 ?side8 ?side9 ?side10 A4.out).mono ?_); (case side1 => exact q1z HR1_0 HB); (case side2 => exact HC1_0.out); (case side3 => exact q1z HR1_1 HB); (case side4 => exact HC1_1.out); (case side5 => exact q1z HR1_2 HB); (case side6 => exact HC1_2.out); (case side7 => exact q1z HR1_3 HB); (case side8 => exact HC1_3.out); (case side9 => exact q1z HR1_4 HB); (case side10 => exact HC1_4.out); rintro e w1 ⟨rfl, hb⟩; refine ⟨_, rfl, ?_⟩; replace BK1 := aM (yi (zi BK1) hb); replace HB := aM (ym (q3z HB GE1) hb); (try clear hb); (try clear hb2); (try clear hk); (try clear hi); obtain ⟨i1_0, i1_1, i1_2, i1_3, i1_4, j1_0, j1_1, j1_2, j1_3, j1_4⟩ := cells5_88 BK1.out) | (go_at_call 13; (with_reducible refine (r9_Right.calls k _ _ l0_0 _ _ l0_1 _ _ l0_2 _ _ l0_3 _ _ l0_4 true _ ?side1 ?side2 ?side3 ?side4 ?side5 ?side6 ?side7 ?side8 ?side9 ?side10 A5.out).mono ?_); (case side1 => exact q1z HR1_0 HB); (case side2 => exact HC1_0.out); (case side3 => exact q1z HR1_1 HB); (case side4 => exact HC1_1.out); (case side5 => exact q1z HR1_2 HB); (case side6 => exact HC1_2.out); (case side7 => exact q1z HR1_3 HB); (case side8 => exact HC1_3.out); (case side9 => exact q1z HR1_4 HB); (case side10 => exact HC1_4.out); rintro e w2 ⟨rfl, hb⟩; replace BK1 := aM (yi (zi BK1) hb); replace HB := aM (ym (q3z HB GE1) hb); (try clear hb); (try clear hb2); (try clear hk); (try clear hi); obtain ⟨i2_0, i2_1, i2_2, i2_3, i2_4, j2_0, j2_1, j2_2, j2_3, j2_4⟩ := cells5_88 BK1.out))
    go_meet
    case rel => exact ⟨_, (decide ((l0_0.length : Int) ≥ 4000)), q13z, H', ⟨q51z⟩, ⟨q10z BK1⟩, ⟨q3z HB GE1⟩⟩
   ·replace c8 := Bool.eq_false_iff.mpr c8
    subst c8
    have H1 : (w9_NetLeft.j0 k l1 l2 a3 t1 true l0_0 l0_1 l0_2 l0_3 l0_4) = some r := by rw [if_neg (show ¬ (false = true) by decide)] at H; exact H
    clear H
    have H := H1
    clear H1
    have H' := aM H
    clear H
    obtain ⟨i1_0, i1_1, i1_2, i1_3, i1_4, j1_0, j1_1, j1_2, j1_3, j1_4⟩ := cells5_88 BK1.out
    go_wp2_with (first | ((with_reducible refine zgc 11 rfl ?_); refine zgl (some 16) Try.func11 #[.agg #[.slice A0_0 l0_0.length c0_0, .slice A0_1 l0_1.length c0_1, .slice A0_2 l0_2.length c0_2, .slice A0_3 l0_3.length c0_3, .slice A0_4 l0_4.length c0_4]] ?_; (with_reducible refine (w9_Great.calls _ _ l0_0 _ _ l0_1 _ _ l0_2 _ _ l0_3 _ _ l0_4 false _ ?side1 ?side2 ?side3 ?side4 ?side5 ?side6 ?side7 ?side8 ?side9 ?side10 A4.out).mono ?_); (case side1 => exact q1z HR1_0 HB); (case side2 => exact HC1_0.out); (case side3 => exact q1z HR1_1 HB); (case side4 => exact HC1_1.out); (case side5 => exact q1z HR1_2 HB); (case side6 => exact HC1_2.out); (case side7 => exact q1z HR1_3 HB); (case side8 => exact HC1_3.out); (case side9 => exact q1z HR1_4 HB); (case side10 => exact HC1_4.out); rintro e w1 ⟨rfl, hb⟩; refine ⟨_, rfl, ?_⟩; replace BK1 := aM (yi (zi BK1) hb); replace HB := aM (ym (q3z HB GE1) hb); (try clear hb); (try clear hb2); (try clear hk); (try clear hi); obtain ⟨i1_0, i1_1, i1_2, i1_3, i1_4, j1_0, j1_1, j1_2, j1_3, j1_4⟩ := cells5_88 BK1.out) | (go_at_call 13; (with_reducible refine (r9_Right.calls k _ _ l0_0 _ _ l0_1 _ _ l0_2 _ _ l0_3 _ _ l0_4 false _ ?side1 ?side2 ?side3 ?side4 ?side5 ?side6 ?side7 ?side8 ?side9 ?side10 A5.out).mono ?_); (case side1 => exact q1z HR1_0 HB); (case side2 => exact HC1_0.out); (case side3 => exact q1z HR1_1 HB); (case side4 => exact HC1_1.out); (case side5 => exact q1z HR1_2 HB); (case side6 => exact HC1_2.out); (case side7 => exact q1z HR1_3 HB); (case side8 => exact HC1_3.out); (case side9 => exact q1z HR1_4 HB); (case side10 => exact HC1_4.out); rintro e w2 ⟨rfl, hb⟩; replace BK1 := aM (yi (zi BK1) hb); replace HB := aM (ym (q3z HB GE1) hb); (try clear hb); (try clear hb2); (try clear hk); (try clear hi)))
    go_meet
    case rel => exact ⟨_, (true), q13z, H', ⟨q51z⟩, ⟨q10z BK1⟩, ⟨q3z HB GE1⟩⟩
 case rest =>
  clear HC3
  try clear c1
  try clear c2
  try clear p2
  try clear c7
  try clear c8
  try clear c11
  try clear c9
  try clear i1_0 i1_1 i1_2 i1_3 i1_4
  try clear i2_0 i2_1 i2_2 i2_3 i2_4
  try clear i3_0 i3_1 i3_2 i3_3 i3_4
  try clear i4_0 i4_1 i4_2 i4_3 i4_4
  try clear i5_0 i5_1 i5_2 i5_3 i5_4
  try clear i6_0 i6_1 i6_2 i6_3 i6_4
  try clear j1_0 j1_1 j1_2 j1_3 j1_4
  try clear j2_0 j2_1 j2_2 j2_3 j2_4
  try clear j3_0 j3_1 j3_2 j3_3 j3_4
  try clear j4_0 j4_1 j4_2 j4_3 j4_4
  try clear j5_0 j5_1 j5_2 j5_3 j5_4
  try clear j6_0 j6_1 j6_2 j6_3 j6_4
  obtain ⟨kq, x1_5, rfl, HA, HJ1, BK1, HB⟩ := hcut
  cases kq with
  | zero => exact absurd HA.out (by simp [w9_NetLeft.j0])
  | succ kj1 =>
   have H := HA.out
   clear HA
   simp only [w9_NetLeft.j0] at H
   by_cases c10 : x1_5 = true
   ·subst c10
    have H1 : (some t1) = some r := by rw [if_pos rfl] at H; exact H
    clear H
    have H := H1
    clear H1
    obtain rfl := Option.some.inj H
    go_wp2
    go_ret
    exact ⟨q11z, q3z HB GE1⟩
   ·replace c10 := Bool.eq_false_iff.mpr c10
    subst c10
    have H1 : ((some (([] : List (S41)) : List (S41))).bind fun y1 => (if y1.length + l0_0.length < 2513169434916 then ((some (y1 ++ l0_0 : List (S41))).bind fun y2 => (if y2.length < 2513169434916 then ((some (y2 ++ [(⟨1, 16, 0, 0, 0, wrap64 (a3), 0⟩ : S41)] : List (S41))).bind fun y3 => ((w9_Rows.f kj1 l0_0 l0_1 l0_2 l0_3 l0_4 l1 l2).bind fun bt1 => ((net_Eval.f kj1 y3 l0_1 l0_2 ([] : List (S61)) ([] : List (S47)) bt1.1 bt1.2).bind fun t2 => ((net_Right.f kj1 y3 l0_1 l0_2 ([] : List (S61)) ([] : List (S47))).bind fun t3 => (if t3 = true then (if (t2.length : Int) = (wrap64 ((l0_0.length : Int) + 1)) then (if 0 ≤ (l0_0.length : Int) then (if (l0_0.length : Int) < (t2.length : Int) then (w9_NetLeft.j1 kj1 t1 bt1.1 bt1.2 t2 ((rd t2 (l0_0.length : Int)) != (wrap64 (a3))) l0_0 l0_1 l0_2 l0_3 l0_4 y3 l0_1 l0_2) else (none)) else (none)) else (w9_NetLeft.j1 kj1 t1 bt1.1 bt1.2 t2 true l0_0 l0_1 l0_2 l0_3 l0_4 y3 l0_1 l0_2)) else (w9_NetLeft.j1 kj1 t1 bt1.1 bt1.2 t2 true l0_0 l0_1 l0_2 l0_3 l0_4 y3 l0_1 l0_2)))))) else (none))) else (none))) = some r := by rw [if_neg (show ¬ (false = true) by decide)] at H; exact H
    clear H
    have H := H1
    clear H1
    obtain ⟨y1, hy1⟩ : ∃ y_ : List (S41), y_ = (([] : List (S41))) := ⟨_, rfl⟩
    replace H : (if y1.length + l0_0.length < 2513169434916 then ((some (y1 ++ l0_0 : List (S41))).bind fun y2 => (if y2.length < 2513169434916 then ((some (y2 ++ [(⟨1, 16, 0, 0, 0, wrap64 (a3), 0⟩ : S41)] : List (S41))).bind fun y3 => ((w9_Rows.f kj1 l0_0 l0_1 l0_2 l0_3 l0_4 l1 l2).bind fun bt1 => ((net_Eval.f kj1 y3 l0_1 l0_2 ([] : List (S61)) ([] : List (S47)) bt1.1 bt1.2).bind fun t2 => ((net_Right.f kj1 y3 l0_1 l0_2 ([] : List (S61)) ([] : List (S47))).bind fun t3 => (if t3 = true then (if (t2.length : Int) = (wrap64 ((l0_0.length : Int) + 1)) then (if 0 ≤ (l0_0.length : Int) then (if (l0_0.length : Int) < (t2.length : Int) then (w9_NetLeft.j1 kj1 t1 bt1.1 bt1.2 t2 ((rd t2 (l0_0.length : Int)) != (wrap64 (a3))) l0_0 l0_1 l0_2 l0_3 l0_4 y3 l0_1 l0_2) else (none)) else (none)) else (w9_NetLeft.j1 kj1 t1 bt1.1 bt1.2 t2 true l0_0 l0_1 l0_2 l0_3 l0_4 y3 l0_1 l0_2)) else (w9_NetLeft.j1 kj1 t1 bt1.1 bt1.2 t2 true l0_0 l0_1 l0_2 l0_3 l0_4 y3 l0_1 l0_2)))))) else (none))) else (none)) = some r := by first | (rw [hy1]; with_reducible exact H) | (have H1_ := (Option.bind_some _ _).symm.trans H; rw [hy1]; with_reducible exact H1_) | (have H1_ := (Option.bind_some _ _).symm.trans H; with_reducible exact H1_) | with_reducible exact H | (rw [hy1]; exact H) | exact H
    have Ny1 := aM hy1
    clear hy1
    by_cases c13 : y1.length + l0_0.length < 2513169434916
    ·rw [if_pos c13] at H
     have LMc1 := aM c13
     clear c13
     obtain ⟨y2, hy1⟩ : ∃ y_ : List (S41), y_ = (y1 ++ l0_0) := ⟨_, rfl⟩
     replace H : (if y2.length < 2513169434916 then ((some (y2 ++ [(⟨1, 16, 0, 0, 0, wrap64 (a3), 0⟩ : S41)] : List (S41))).bind fun y3 => ((w9_Rows.f kj1 l0_0 l0_1 l0_2 l0_3 l0_4 l1 l2).bind fun bt1 => ((net_Eval.f kj1 y3 l0_1 l0_2 ([] : List (S61)) ([] : List (S47)) bt1.1 bt1.2).bind fun t2 => ((net_Right.f kj1 y3 l0_1 l0_2 ([] : List (S61)) ([] : List (S47))).bind fun t3 => (if t3 = true then (if (t2.length : Int) = (wrap64 ((l0_0.length : Int) + 1)) then (if 0 ≤ (l0_0.length : Int) then (if (l0_0.length : Int) < (t2.length : Int) then (w9_NetLeft.j1 kj1 t1 bt1.1 bt1.2 t2 ((rd t2 (l0_0.length : Int)) != (wrap64 (a3))) l0_0 l0_1 l0_2 l0_3 l0_4 y3 l0_1 l0_2) else (none)) else (none)) else (w9_NetLeft.j1 kj1 t1 bt1.1 bt1.2 t2 true l0_0 l0_1 l0_2 l0_3 l0_4 y3 l0_1 l0_2)) else (w9_NetLeft.j1 kj1 t1 bt1.1 bt1.2 t2 true l0_0 l0_1 l0_2 l0_3 l0_4 y3 l0_1 l0_2)))))) else (none)) = some r := by first | (rw [hy1]; with_reducible exact H) | (have H1_ := (Option.bind_some _ _).symm.trans H; rw [hy1]; with_reducible exact H1_) | (have H1_ := (Option.bind_some _ _).symm.trans H; with_reducible exact H1_) | with_reducible exact H | (rw [hy1]; exact H) | exact H
     have Ny2 := aM hy1
     clear hy1
     by_cases c14 : y2.length < 2513169434916
     ·rw [if_pos c14] at H
      have LMc2 := aM c14
      clear c14
      obtain ⟨y3, hy1⟩ : ∃ y_ : List (S41), y_ = (y2 ++ [(⟨1, 16, 0, 0, 0, wrap64 (a3), 0⟩ : S41)]) := ⟨_, rfl⟩
      replace H : ((w9_Rows.f kj1 l0_0 l0_1 l0_2 l0_3 l0_4 l1 l2).bind fun bt1 => ((net_Eval.f kj1 y3 l0_1 l0_2 ([] : List (S61)) ([] : List (S47)) bt1.1 bt1.2).bind fun t2 => ((net_Right.f kj1 y3 l0_1 l0_2 ([] : List (S61)) ([] : List (S47))).bind fun t3 => (if t3 = true then (if (t2.length : Int) = (wrap64 ((l0_0.length : Int) + 1)) then (if 0 ≤ (l0_0.length : Int) then (if (l0_0.length : Int) < (t2.length : Int) then (w9_NetLeft.j1 kj1 t1 bt1.1 bt1.2 t2 ((rd t2 (l0_0.length : Int)) != (wrap64 (a3))) l0_0 l0_1 l0_2 l0_3 l0_4 y3 l0_1 l0_2) else (none)) else (none)) else (w9_NetLeft.j1 kj1 t1 bt1.1 bt1.2 t2 true l0_0 l0_1 l0_2 l0_3 l0_4 y3 l0_1 l0_2)) else (w9_NetLeft.j1 kj1 t1 bt1.1 bt1.2 t2 true l0_0 l0_1 l0_2 l0_3 l0_4 y3 l0_1 l0_2))))) = some r := by first | (rw [hy1]; with_reducible exact H) | (have H1_ := (Option.bind_some _ _).symm.trans H; rw [hy1]; with_reducible exact H1_) | (have H1_ := (Option.bind_some _ _).symm.trans H; with_reducible exact H1_) | with_reducible exact H | (rw [hy1]; exact H) | exact H
      have Ny3 := aM hy1
      clear hy1
      replace H := Option.bind_eq_some_iff.mp H
      obtain ⟨⟨t4, t5⟩, A3, H⟩ := H
      replace H : ((net_Eval.f kj1 y3 l0_1 l0_2 ([] : List (S61)) ([] : List (S47)) t4 t5).bind fun t2 => ((net_Right.f kj1 y3 l0_1 l0_2 ([] : List (S61)) ([] : List (S47))).bind fun t3 => (if t3 = true then (if (t2.length : Int) = (wrap64 ((l0_0.length : Int) + 1)) then (if 0 ≤ (l0_0.length : Int) then (if (l0_0.length : Int) < (t2.length : Int) then (w9_NetLeft.j1 kj1 t1 t4 t5 t2 ((rd t2 (l0_0.length : Int)) != (wrap64 (a3))) l0_0 l0_1 l0_2 l0_3 l0_4 y3 l0_1 l0_2) else (none)) else (none)) else (w9_NetLeft.j1 kj1 t1 t4 t5 t2 true l0_0 l0_1 l0_2 l0_3 l0_4 y3 l0_1 l0_2)) else (w9_NetLeft.j1 kj1 t1 t4 t5 t2 true l0_0 l0_1 l0_2 l0_3 l0_4 y3 l0_1 l0_2)))) = some r := H
      have A4 := aM A3
      clear A3
      replace H := Option.bind_eq_some_iff.mp H
      obtain ⟨t2, A3, H⟩ := H
      have A5 := aM A3
      clear A3
      have HC3 := aM H
      clear H
      obtain ⟨i7_0, i7_1, i7_2, i7_3, i7_4, j7_0, j7_1, j7_2, j7_3, j7_4⟩ := cells5_88 BK1.out
      go_upto_region 10 with (first | ((with_reducible refine gate_dst (N := 10) rfl ?_); (try (refine gate_guard (by rfl) ?_; dsimp only)); refine box_event ?hg (N := 10) ?hd (cs := #[.slice none 0 0, .slice none 0 0, .slice none 0 0, .slice none 0 0, .slice none 0 0]) (t := 27) ?hr ?_; (case hd => rfl); (case hg => rfl); (case hr => exact q27z); intro gb2 hg w1 hbox hb; have BK2 := aM (hbox); have GW1 := aM ((q14z HB GE1 : w.heap.size ≤ gb2)); have GE2 := aM ((q14z HB GE1 : w.heap.size ≤ gb2)); replace HB := aM (ym (q3z HB GE1) hb); have NB1_727 := aM ((q38z BK1 : gb1 ≠ gb2)); have NB1_723 := aM ((q39z BK1 : gb2 ≠ gb1)); replace BK1 := aM (yi (zi BK1) hb); clear hb hbox hg; have hnb1 := NB1_723.out; have hnc1 := NB1_727.out; obtain ⟨i8_0, i8_1, i8_2, i8_3, i8_4, j8_0, j8_1, j8_2, j8_3, j8_4⟩ := cells5_88 BK2.out) | ((with_reducible refine gate_dst (N := 32) rfl ?_); (try (refine gate_guard (by rfl) ?_; dsimp only)); refine Kd.R_lit k41 _ 41 ?hg (N := 32) ?hd (xs := ([] : List (S41))) (inner := []) (ok := fun _ => True) (okp := fun _ => True) ?hr ?hp (fun _ hk => hk) trivial (Below.refl _ _) (Nat.le_refl _) (by simp) ?_; (case hd => rfl); (case hg => rfl); (case hr => exact q27z); (case hp => exact (Reps.none _ _)); intro v1 w2 ho1 hb hg_ hnew_; clear hg_ hnew_; (first | rw [← Ny1.out] at ho1 | (simp only [Int.reduceToNat] at ho1; rw [← Ny1.out] at ho1)); have HO1 := aM (Kd.R_lower ho1 (yn (q5z HB GE1 GE2))); replace BK1 := aM (yi (g := gb1) (o := .cells #[.slice A0_0 l0_0.length c0_0, .slice A0_1 l0_1.length c0_1, .slice A0_2 l0_2.length c0_2, .slice A0_3 l0_3.length c0_3, .slice A0_4 l0_4.length c0_4] 27 (0, 0)) (q8z NB1_727 BK1) hb); replace BK2 := aM (yi (g := gb2) (o := .cells #[.slice A0_0 l0_0.length c0_0, .slice A0_1 l0_1.length c0_1, .slice A0_2 l0_2.length c0_2, .slice none 0 0, .slice none 0 0] 27 (0, 0)) (by (with_reducible repeat (first | refine ya ?_ _ | refine yc ?_ | refine yb ?_ _)); refine ys (cs := #[.slice A0_0 l0_0.length c0_0, .slice A0_1 l0_1.length c0_1, .slice A0_2 l0_2.length c0_2, .slice none 0 0, .slice A0_4 l0_4.length c0_4]) ?_ 4 _ rfl; (with_reducible repeat (first | refine ya ?_ _ | refine yc ?_ | refine yb ?_ _)); refine ys (cs := #[.slice A0_0 l0_0.length c0_0, .slice A0_1 l0_1.length c0_1, .slice A0_2 l0_2.length c0_2, .slice A0_3 l0_3.length c0_3, .slice A0_4 l0_4.length c0_4]) ?_ 3 _ rfl; (with_reducible repeat (first | refine ya ?_ _ | refine yc ?_ | refine yb ?_ _)); refine ys (cs := #[.slice A0_0 l0_0.length c0_0, .slice A0_1 l0_1.length c0_1, .slice A0_2 l0_2.length c0_2, .slice A0_3 l0_3.length c0_3, .slice none 0 0]) ?_ 4 _ rfl; (with_reducible repeat (first | refine ya ?_ _ | refine yc ?_ | refine yb ?_ _)); refine ys (cs := #[.slice A0_0 l0_0.length c0_0, .slice A0_1 l0_1.length c0_1, .slice A0_2 l0_2.length c0_2, .slice none 0 0, .slice none 0 0]) ?_ 3 _ rfl; (with_reducible repeat (first | refine ya ?_ _ | refine yc ?_ | refine yb ?_ _)); refine ys (cs := #[.slice A0_0 l0_0.length c0_0, .slice A0_1 l0_1.length c0_1, .slice none 0 0, .slice none 0 0, .slice none 0 0]) ?_ 2 _ rfl; (with_reducible repeat (first | refine ya ?_ _ | refine yc ?_ | refine yb ?_ _)); refine ys (cs := #[.slice A0_0 l0_0.length c0_0, .slice none 0 0, .slice none 0 0, .slice none 0 0, .slice none 0 0]) ?_ 1 _ rfl; (with_reducible repeat (first | refine ya ?_ _ | refine yc ?_ | refine yb ?_ _)); refine ys (cs := #[.slice none 0 0, .slice none 0 0, .slice none 0 0, .slice none 0 0, .slice none 0 0]) ?_ 0 _ rfl; (with_reducible repeat (first | refine ya ?_ _ | refine yc ?_ | refine yb ?_ _)); exact BK2.out) hb); replace HB := aM (ym (q5z HB GE1 GE2) hb); clear hb ho1; obtain ⟨i9_0, i9_1, i9_2, i9_3, i9_4, j9_0, j9_1, j9_2, j9_3, j9_4⟩ := cells5_88 BK1.out) | ((with_reducible refine gate_builtin (b := .append) (xs := #[.tmp 32, .tmp 34]) rfl ?_); (try (refine gate_guard (by rfl) ?_; dsimp only)); at_builtin; refine Kd.R_append_rows k41 (w0 := w) w.heap.size rfl (.tmp 32) (.tmp 34) 22 41 (.agg #[(.int .i64 0), (.int .i64 0), (.int .i64 0), (.int .i64 0), (.int .i64 0), (.int .i64 0), (.int .i64 0)]) 56 rfl Try.underlying22 info41 rfl (by decide) (by omega) v1 y1 l0_0 _ _ _ (fun _ => True) (fun _ => False) rfl rfl ?aO ?aR (fun _ _ h => h) (fun _ h => h.elim) ?aF ?aB ?aS ?aL ?_; (case aR => exact q1z HR1_0 HB); (case aB => exact q76z HB GE1 GE2); (case aF => exact q94z); (case aO => exact q45z HO1); (case aS => exact q73z HB GE1 GE2); (case aL => have := LMc1.out; omega); intro v2 w3 ho hb hg hat; rw [← Ny2.out] at ho; replace BK1 := aM (blk_grown (g := gb1) (o := .cells #[.slice A0_0 l0_0.length c0_0, .slice A0_1 l0_1.length c0_1, .slice A0_2 l0_2.length c0_2, .slice A0_3 l0_3.length c0_3, .slice A0_4 l0_4.length c0_4] 27 (0, 0)) (zi BK1) hg (Kd.R_ne HO1.out BK1.out (by decide))); replace BK2 := aM (blk_grown (g := gb2) (o := .cells #[.slice A0_0 l0_0.length c0_0, .slice A0_1 l0_1.length c0_1, .slice A0_2 l0_2.length c0_2, .slice none 0 0, .slice none 0 0] 27 (0, 0)) (zi BK2) hg (Kd.R_ne HO1.out BK2.out (by decide))); replace HB := aM (hb); have HO2 := aM (ho); clear HO1; clear ho hb hg hat) | ((with_reducible refine gate_builtin (b := .append) (xs := #[.tmp 35, .tmp 39]) rfl ?_); (try (refine gate_guard (by rfl) ?_; dsimp only)); at_builtin; refine Kd.R_append k41 (w0 := w) w.heap.size rfl (.tmp 35) (.tmp 39) 22 41 (.agg #[(.int .i64 0), (.int .i64 0), (.int .i64 0), (.int .i64 0), (.int .i64 0), (.int .i64 0), (.int .i64 0)]) 56 rfl Try.underlying22 info41 rfl (by decide) (by omega) v2 y2 (⟨1, 16, 0, 0, 0, wrap64 (a3), 0⟩ : S41) [.int .i64 1, .int .i64 16, .int .i64 0, .int .i64 0, .int .i64 0, .int .i64 (wrap64 (a3)), .int .i64 0] (fun _ => True) (fun _ => False) rfl rfl ?aP (fun _ hk => hk.elim) ?aF ?aO ?aB ?aS ?aL ?_; (case aP => exact k41_mkM _ _ _ (⟨1, 16, 0, 0, 0, wrap64 (a3), 0⟩ : S41)); (case aB => exact q76z HB GE1 GE2); (case aF => exact q94z); (case aO => exact q45z HO2); (case aS => exact q73z HB GE1 GE2); (case aL => have := LMc2.out; omega); intro v3 w4 ho hb hg hat; rw [← Ny3.out] at ho; replace BK1 := aM (blk_grown (g := gb1) (o := .cells #[.slice A0_0 l0_0.length c0_0, .slice A0_1 l0_1.length c0_1, .slice A0_2 l0_2.length c0_2, .slice A0_3 l0_3.length c0_3, .slice A0_4 l0_4.length c0_4] 27 (0, 0)) (zi BK1) hg (Kd.R_ne HO2.out BK1.out (by decide))); replace BK2 := aM (blk_grown (g := gb2) (o := .cells #[.slice A0_0 l0_0.length c0_0, .slice A0_1 l0_1.length c0_1, .slice A0_2 l0_2.length c0_2, .slice none 0 0, .slice none 0 0] 27 (0, 0)) (zi BK2) hg (Kd.R_ne HO2.out BK2.out (by decide))); replace HB := aM (hb); have HO3 := aM (ho); clear HO2; clear ho hb hg hat; obtain ⟨Ao1, co1, eo1⟩ := Kd.R_slice HO3.out; subst eo1; obtain ⟨i10_0, i10_1, i10_2, i10_3, i10_4, j10_0, j10_1, j10_2, j10_3, j10_4⟩ := cells5_88 BK2.out; obtain ⟨i11_0, i11_1, i11_2, i11_3, i11_4, j11_0, j11_1, j11_2, j11_3, j11_4⟩ := cells5_88 BK1.out) | ((with_reducible refine zgc 16 rfl ?_); refine zgl (some 46) Try.func16 #[.agg #[.slice A0_0 l0_0.length c0_0, .slice A0_1 l0_1.length c0_1, .slice A0_2 l0_2.length c0_2, .slice A0_3 l0_3.length c0_3, .slice A0_4 l0_4.length c0_4], .slice A1 l1.length c1, .slice A2 l2.length c2] ?_; (with_reducible refine (w9_Rows.calls kj1 _ _ l0_0 _ _ l0_1 _ _ l0_2 _ _ l0_3 _ _ l0_4 _ _ l1 _ _ l2 t4 t5 _ ?side1 ?side2 ?side3 ?side4 ?side5 ?side6 ?side7 ?side8 ?side9 ?side10 ?side11 ?side12 ?side13 ?side14 A4.out).mono ?_); (case side1 => exact q18z HR1_0 HB GE1 GE2); (case side2 => exact HC1_0.out); (case side3 => exact q18z HR1_1 HB GE1 GE2); (case side4 => exact HC1_1.out); (case side5 => exact q18z HR1_2 HB GE1 GE2); (case side6 => exact HC1_2.out); (case side7 => exact q18z HR1_3 HB GE1 GE2); (case side8 => exact HC1_3.out); (case side9 => exact q18z HR1_4 HB GE1 GE2); (case side10 => exact HC1_4.out); (case side11 => exact q18z HR1 HB GE1 GE2); (case side12 => exact HC1.out); (case side13 => exact q18z HR2 HB GE1 GE2); (case side14 => exact HC2.out); rintro e w5 ⟨v4, v5, rfl, ho2, ho3, hb⟩; refine ⟨_, rfl, ?_⟩; replace HO3 := aM (yr (by (with_reducible repeat (first | apply yf | apply yg | apply yh)); exact (Kd.R_mono (Kd.R_far (p := ⟨gb2, 0, none⟩) (Kd.R_types HO3.out BK2.out (by decide)) (fun _ hk => hk.2) (.slice Ao1 y3.length co1)) (fun _ h_ => h_.1))) hb); have HO4 := aM (Kd.R_lower ho2 (yn (q5z HB GE1 GE2))); have HO5 := aM (Kd.R_lower ho3 (yn (q5z HB GE1 GE2))); replace BK1 := aM (yi (g := gb1) (o := .cells #[.slice A0_0 l0_0.length c0_0, .slice A0_1 l0_1.length c0_1, .slice A0_2 l0_2.length c0_2, .slice A0_3 l0_3.length c0_3, .slice A0_4 l0_4.length c0_4] 27 (0, 0)) (q40z NB1_727 BK1) hb); replace BK2 := aM (yi (g := gb2) (o := .cells #[.slice Ao1 y3.length co1, .slice A0_1 l0_1.length c0_1, .slice A0_2 l0_2.length c0_2, .slice none 0 0, .slice none 0 0] 27 (0, 0)) (by (with_reducible repeat (first | refine ya ?_ _ | refine yc ?_ | refine yb ?_ _)); refine ys (cs := #[.slice A0_0 l0_0.length c0_0, .slice A0_1 l0_1.length c0_1, .slice A0_2 l0_2.length c0_2, .slice none 0 0, .slice none 0 0]) ?_ 0 _ rfl; (with_reducible repeat (first | refine ya ?_ _ | refine yc ?_ | refine yb ?_ _)); exact BK2.out) hb); replace HB := aM (ym (q5z HB GE1 GE2) hb); (try clear hb); (try clear hb2); (try clear hk); (try clear hi); (try clear ho2); (try clear ho3); obtain ⟨i12_0, i12_1, i12_2, i12_3, i12_4, j12_0, j12_1, j12_2, j12_3, j12_4⟩ := cells5_88 BK2.out; obtain ⟨Ao2, co2, eo2⟩ := Kd.R_slice HO4.out; subst eo2; obtain ⟨Ao3, co3, eo3⟩ := Kd.R_slice HO5.out; subst eo3) | ((with_reducible refine zgc 20 rfl ?_); refine zgl (some 52) Try.func20 #[.agg #[.slice Ao1 y3.length co1, .slice A0_1 l0_1.length c0_1, .slice A0_2 l0_2.length c0_2, .slice none 0 0, .slice none 0 0], .slice Ao2 t4.length co2, .slice Ao3 t5.length co3] ?_; (refine (net_Eval.calls kj1 _ _ y3 _ _ l0_1 _ _ l0_2 _ _ ([] : List (S61)) _ _ ([] : List (S47)) _ _ t4 _ _ t5 t2 _ ?side1 ?side2 ?side3 ?side4 ?side5 ?side6 ?side7 ?side8 ?side9 ?side10 ?side11 ?side12 ?side13 ?side14 A5.out).mono ?_); (case side1 => exact q9z HO3); (case side2 => exact q24z HO3); (case side3 => exact q1z HR1_1 HB); (case side4 => exact HC1_1.out); (case side5 => exact q1z HR1_2 HB); (case side6 => exact HC1_2.out); (case side7 => exact Kd.C_nil _ _); (case side8 => exact Nat.le_refl _); (case side9 => exact Kd.C_nil _ _); (case side10 => exact Nat.le_refl _); (case side11 => exact q9z HO4); (case side12 => exact q24z HO4); (case side13 => exact q9z HO5); (case side14 => exact q24z HO5); rintro e w6 ⟨v6, rfl, ho2, hb⟩; refine ⟨_, rfl, ?_⟩; replace HO3 := aM (yr (q2z HO3) hb); have HO6 := aM (Kd.R_lower (Kd.R_new' (Kd.R_new' ho2 (Kd.R_lt (q2z HO4))) (Kd.R_lt (q2z HO5))) (yn (q5z HB GE1 GE2))); replace HO4 := aM (Kd.R_elder' (q2z HO4) (Kd.R_base ho2) hb); replace HO5 := aM (Kd.R_elder' (q2z HO5) (Kd.R_base ho2) hb); replace BK1 := aM (yi (zi BK1) hb); replace BK2 := aM (yi (zi BK2) hb); replace HB := aM (ym (q5z HB GE1 GE2) hb); (try clear hb); (try clear hb2); (try clear hk); (try clear hi); (try clear ho2)))
      (try simp only [Act.put, yu, yv, yw])
      go_cut [75] (fun v1 wc => ∃ (kq : Nat) (x1_28 : Bool), v1 = .bool x1_28 ∧ Aside0 (w9_NetLeft.j1 kq t1 t4 t5 t2 x1_28 l0_0 l0_1 l0_2 l0_3 l0_4 y3 l0_1 l0_2 = some r) ∧ Aside0 (kq ≤ kj1) ∧ Aside0 (Kd.R (Kd.int .i64) 3 wc w.heap.size (fun k_ => some k_ ≠ ((.slice Ao3 t5.length co3) : Value).ownBlock ∧ some k_ ≠ (v6 : Value).ownBlock) (.slice Ao2 t4.length co2) t4) ∧ Aside0 (Kd.R (Kd.int .i64) 3 wc w.heap.size (fun k_ => some k_ ≠ ((.slice Ao2 t4.length co2) : Value).ownBlock ∧ some k_ ≠ (v6 : Value).ownBlock) (.slice Ao3 t5.length co3) t5) ∧ Aside0 (Kd.R (Kd.int .i64) 3 wc w.heap.size (fun k_ => some k_ ≠ ((.slice Ao2 t4.length co2) : Value).ownBlock ∧ some k_ ≠ ((.slice Ao3 t5.length co3) : Value).ownBlock) v6 t2) ∧ Aside0 (Kd.R k41 41 wc w.heap.size (fun _ => True) (.slice Ao1 y3.length co1) y3) ∧ Aside0 (wc.heap[gb1]? = some (.cells #[(.slice A0_0 l0_0.length c0_0), (.slice A0_1 l0_1.length c0_1), (.slice A0_2 l0_2.length c0_2), (.slice A0_3 l0_3.length c0_3), (.slice A0_4 l0_4.length c0_4)] 27 (0, 0))) ∧ Aside0 (wc.heap[gb2]? = some (.cells #[(.slice Ao1 y3.length co1), (.slice A0_1 l0_1.length c0_1), (.slice A0_2 l0_2.length c0_2), (.slice none 0 0), (.slice none 0 0)] 27 (0, 0))) ∧ Aside0 (Below w.heap.size w wc))
      case first =>
       have H := HC3.out
       clear HC3
       replace H := Option.bind_eq_some_iff.mp H
       obtain ⟨t3, A3, H⟩ := H
       have A4 := aM A3
       clear A3
       by_cases c15 : t3 = true
       ·subst c15
        have H1 : (if (t2.length : Int) = (wrap64 ((l0_0.length : Int) + 1)) then (if 0 ≤ (l0_0.length : Int) then (if (l0_0.length : Int) < (t2.length : Int) then (w9_NetLeft.j1 kj1 t1 t4 t5 t2 ((rd t2 (l0_0.length : Int)) != (wrap64 (a3))) l0_0 l0_1 l0_2 l0_3 l0_4 y3 l0_1 l0_2) else (none)) else (none)) else (w9_NetLeft.j1 kj1 t1 t4 t5 t2 true l0_0 l0_1 l0_2 l0_3 l0_4 y3 l0_1 l0_2)) = some r := by rw [if_pos rfl] at H; exact H
        clear H
        have H := H1
        clear H1
        by_cases c17 : (t2.length : Int) = (wrap64 ((l0_0.length : Int) + 1))
        ·rw [if_pos c17] at H
         obtain ⟨c1b0, c1b1⟩ := zeq c17
         clear c17
         (first | rw [c1b0] | (simp only [i64_w, i32_w]; rw [c1b0]) | skip)
         by_cases c18 : 0 ≤ (l0_0.length : Int)
         ·rw [if_pos c18] at H
          have c1b0 := decide_eq_true c18
          have c1b1 : decide (0 ≤ l0_0.length) = true := decide_eq_true (by omega)
          clear c18
          by_cases c19 : (l0_0.length : Int) < (t2.length : Int)
          ·rw [if_pos c19] at H
           have c1b0 := decide_eq_true c19
           have c1b1 : decide (l0_0.length < t2.length) = true := decide_eq_true (Int.ofNat_lt.mp c19)
           clear c19
           have H' := aM H
           clear H
           have hnb1 := NB1_723.out
           have hnc1 := NB1_727.out
           obtain ⟨i13_0, i13_1, i13_2, i13_3, i13_4, j13_0, j13_1, j13_2, j13_3, j13_4⟩ := cells5_88 BK2.out
           go_wp2_with (first | ((with_reducible refine zgc 12 rfl ?_); refine zgl (some 54) Try.func12 #[.agg #[.slice Ao1 y3.length co1, .slice A0_1 l0_1.length c0_1, .slice A0_2 l0_2.length c0_2, .slice none 0 0, .slice none 0 0]] ?_; (refine (net_Right.calls kj1 _ _ y3 _ _ l0_1 _ _ l0_2 _ _ ([] : List (S61)) _ _ ([] : List (S47)) true _ ?side1 ?side2 ?side3 ?side4 ?side5 ?side6 ?side7 ?side8 ?side9 ?side10 A4.out).mono ?_); (case side1 => exact q9z HO3); (case side2 => exact q24z HO3); (case side3 => exact q1z HR1_1 HB); (case side4 => exact HC1_1.out); (case side5 => exact q1z HR1_2 HB); (case side6 => exact HC1_2.out); (case side7 => exact Kd.C_nil _ _); (case side8 => exact Nat.le_refl _); (case side9 => exact Kd.C_nil _ _); (case side10 => exact Nat.le_refl _); rintro e w1 ⟨rfl, hb⟩; refine ⟨_, rfl, ?_⟩; replace HO3 := aM (yr (q2z HO3) hb); replace HO4 := aM (yr (q2z HO4) hb); replace HO5 := aM (yr (q2z HO5) hb); replace HO6 := aM (yr (q2z HO6) hb); replace BK1 := aM (yi (zi BK1) hb); replace BK2 := aM (yi (zi BK2) hb); replace HB := aM (ym (q5z HB GE1 GE2) hb); (try clear hb); (try clear hb2); (try clear hk); (try clear hi); obtain ⟨Ao4, co4, eo1⟩ := Kd.R_slice HO6.out; subst eo1; obtain ⟨i13_0, i13_1, i13_2, i13_3, i13_4, j13_0, j13_1, j13_2, j13_3, j13_4⟩ := cells5_88 BK1.out; have p1 : 0 ≤ ((l0_0.length : Int) : Int) := zod; have q1 : (l0_0.length : Int) < (t2.length : Int) := zod; obtain ⟨ad1, e1, hx1_0⟩ := Kd.at_int (Kd.R_reads' HO6.out).2.2 (l0_0.length : Int) p1 q1; cases e1; (try simp only [Go.IntWalk.toNatUp] at hx1_0); replace p1 := eq_true p1; replace q1 := eq_true q1))
           go_meet
           case rel => exact ⟨_, (((rd t2 (l0_0.length : Int)) != (wrap64 (a3)))), q13z, H', ⟨q55z HJ1⟩, ⟨q2z HO4⟩, ⟨q2z HO5⟩, ⟨q34z HO6⟩, ⟨q2z HO3⟩, ⟨q10z BK1⟩, ⟨q10z BK2⟩, ⟨q5z HB GE1 GE2⟩⟩
          ·rw [if_neg c19] at H
           exact absurd H (by simp)
         ·rw [if_neg c18] at H
          exact absurd H (by simp)
        ·rw [if_neg c17] at H
         obtain ⟨c1b0, c1b1⟩ := zne c17
         (first | rw [c1b0] | (simp only [i64_w, i32_w]; rw [c1b0]) | skip)
         have H' := aM H
         clear H
         have hnb1 := NB1_723.out
         have hnc1 := NB1_727.out
         obtain ⟨i13_0, i13_1, i13_2, i13_3, i13_4, j13_0, j13_1, j13_2, j13_3, j13_4⟩ := cells5_88 BK2.out
         go_wp2_with (first | ((with_reducible refine zgc 12 rfl ?_); refine zgl (some 54) Try.func12 #[.agg #[.slice Ao1 y3.length co1, .slice A0_1 l0_1.length c0_1, .slice A0_2 l0_2.length c0_2, .slice none 0 0, .slice none 0 0]] ?_; (refine (net_Right.calls kj1 _ _ y3 _ _ l0_1 _ _ l0_2 _ _ ([] : List (S61)) _ _ ([] : List (S47)) true _ ?side1 ?side2 ?side3 ?side4 ?side5 ?side6 ?side7 ?side8 ?side9 ?side10 A4.out).mono ?_); (case side1 => exact q9z HO3); (case side2 => exact q24z HO3); (case side3 => exact q1z HR1_1 HB); (case side4 => exact HC1_1.out); (case side5 => exact q1z HR1_2 HB); (case side6 => exact HC1_2.out); (case side7 => exact Kd.C_nil _ _); (case side8 => exact Nat.le_refl _); (case side9 => exact Kd.C_nil _ _); (case side10 => exact Nat.le_refl _); rintro e w1 ⟨rfl, hb⟩; refine ⟨_, rfl, ?_⟩; replace HO3 := aM (yr (q2z HO3) hb); replace HO4 := aM (yr (q2z HO4) hb); replace HO5 := aM (yr (q2z HO5) hb); replace HO6 := aM (yr (q2z HO6) hb); replace BK1 := aM (yi (zi BK1) hb); replace BK2 := aM (yi (zi BK2) hb); replace HB := aM (ym (q5z HB GE1 GE2) hb); (try clear hb); (try clear hb2); (try clear hk); (try clear hi); obtain ⟨Ao4, co4, eo1⟩ := Kd.R_slice HO6.out; subst eo1; obtain ⟨i13_0, i13_1, i13_2, i13_3, i13_4, j13_0, j13_1, j13_2, j13_3, j13_4⟩ := cells5_88 BK1.out))
         go_meet
         case rel => exact ⟨_, (true), q13z, H', ⟨q55z HJ1⟩, ⟨q2z HO4⟩, ⟨q2z HO5⟩, ⟨q34z HO6⟩, ⟨q2z HO3⟩, ⟨q10z BK1⟩, ⟨q10z BK2⟩, ⟨q5z HB GE1 GE2⟩⟩
       ·replace c15 := Bool.eq_false_iff.mpr c15
        subst c15
        have H1 : (w9_NetLeft.j1 kj1 t1 t4 t5 t2 true l0_0 l0_1 l0_2 l0_3 l0_4 y3 l0_1 l0_2) = some r := by rw [if_neg (show ¬ (false = true) by decide)] at H; exact H
        clear H
        have H := H1
        clear H1
        have H' := aM H
        clear H
        have hnb1 := NB1_723.out
        have hnc1 := NB1_727.out
        obtain ⟨i13_0, i13_1, i13_2, i13_3, i13_4, j13_0, j13_1, j13_2, j13_3, j13_4⟩ := cells5_88 BK2.out
        go_wp2_with (first | ((with_reducible refine zgc 12 rfl ?_); refine zgl (some 54) Try.func12 #[.agg #[.slice Ao1 y3.length co1, .slice A0_1 l0_1.length c0_1, .slice A0_2 l0_2.length c0_2, .slice none 0 0, .slice none 0 0]] ?_; (refine (net_Right.calls kj1 _ _ y3 _ _ l0_1 _ _ l0_2 _ _ ([] : List (S61)) _ _ ([] : List (S47)) false _ ?side1 ?side2 ?side3 ?side4 ?side5 ?side6 ?side7 ?side8 ?side9 ?side10 A4.out).mono ?_); (case side1 => exact q9z HO3); (case side2 => exact q24z HO3); (case side3 => exact q1z HR1_1 HB); (case side4 => exact HC1_1.out); (case side5 => exact q1z HR1_2 HB); (case side6 => exact HC1_2.out); (case side7 => exact Kd.C_nil _ _); (case side8 => exact Nat.le_refl _); (case side9 => exact Kd.C_nil _ _); (case side10 => exact Nat.le_refl _); rintro e w1 ⟨rfl, hb⟩; refine ⟨_, rfl, ?_⟩; replace HO3 := aM (yr (q2z HO3) hb); replace HO4 := aM (yr (q2z HO4) hb); replace HO5 := aM (yr (q2z HO5) hb); replace HO6 := aM (yr (q2z HO6) hb); replace BK1 := aM (yi (zi BK1) hb); replace BK2 := aM (yi (zi BK2) hb); replace HB := aM (ym (q5z HB GE1 GE2) hb); (try clear hb); (try clear hb2); (try clear hk); (try clear hi)))
        go_meet
        case rel => exact ⟨_, (true), q13z, H', ⟨q55z HJ1⟩, ⟨q2z HO4⟩, ⟨q2z HO5⟩, ⟨q34z HO6⟩, ⟨q2z HO3⟩, ⟨q10z BK1⟩, ⟨q10z BK2⟩, ⟨q5z HB GE1 GE2⟩⟩
      case rest =>
       clear HC3
       try clear c1
       try clear c2
       try clear p2
       try clear c3
       try clear c4
       try clear c5
       try clear c6
       try clear p6
       try clear c7
       try clear p7
       try clear q7
       try clear hx7
       try clear c8
       try clear c11
       try clear c12
       try clear c9
       try clear c16
       try clear c20
       try clear c10
       try clear c13
       try clear c14
       try clear c32
       try clear c8
       try clear c8
       try clear c1b0
       try clear c1b1
       try clear c8
       try clear c1b0
       try clear c1b1
       try clear c8
       try clear c1b0
       try clear c1b1
       try clear c52
       try clear c57
       try clear c62
       try clear p64
       try clear i1_0 i1_1 i1_2 i1_3 i1_4
       try clear i2_0 i2_1 i2_2 i2_3 i2_4
       try clear i3_0 i3_1 i3_2 i3_3 i3_4
       try clear i4_0 i4_1 i4_2 i4_3 i4_4
       try clear i5_0 i5_1 i5_2 i5_3 i5_4
       try clear i6_0 i6_1 i6_2 i6_3 i6_4
       try clear i7_0 i7_1 i7_2 i7_3 i7_4
       try clear i8_0 i8_1 i8_2 i8_3 i8_4
       try clear i9_0 i9_1 i9_2 i9_3 i9_4
       try clear i10_0 i10_1 i10_2 i10_3 i10_4
       try clear i11_0 i11_1 i11_2 i11_3 i11_4
       try clear i12_0 i12_1 i12_2 i12_3 i12_4
       try clear i1_0 i1_1 i1_2 i1_3 i1_4 i1_0 i1_1 i1_2 i1_3 i1_4 i1_0 i1_1 i1_2 i1_3 i1_4 i1_0 i1_1 i1_2 i1_3 i1_4 i1_0 i1_1 i1_2 i1_3 i1_4 j1_0 j1_1 j1_2 j1_3 j1_4
       try clear j2_0 j2_1 j2_2 j2_3 j2_4
       try clear j3_0 j3_1 j3_2 j3_3 j3_4
       try clear j4_0 j4_1 j4_2 j4_3 j4_4
       try clear j5_0 j5_1 j5_2 j5_3 j5_4
       try clear j6_0 j6_1 j6_2 j6_3 j6_4
       try clear j7_0 j7_1 j7_2 j7_3 j7_4
       try clear j8_0 j8_1 j8_2 j8_3 j8_4
       try clear j9_0 j9_1 j9_2 j9_3 j9_4
       try clear j10_0 j10_1 j10_2 j10_3 j10_4
       try clear j11_0 j11_1 j11_2 j11_3 j11_4
       try clear j12_0 j12_1 j12_2 j12_3 j12_4
       try clear j1_0 j1_1 j1_2 j1_3 j1_4 j1_0 j1_1 j1_2 j1_3 j1_4 j1_0 j1_1 j1_2 j1_3 j1_4 j1_0 j1_1 j1_2 j1_3 j1_4 j1_0 j1_1 j1_2 j1_3 j1_4
       try clear hx1_0
       try clear p2
       try clear p1
       try clear q1
       obtain ⟨kq, x1_28, rfl, HA, HJ1, HO_1, HO_2, HO_3, HO_4, BK1, BK2, HB⟩ := hcut
       cases kq with
       | zero => exact absurd HA.out (by simp [w9_NetLeft.j1])
       | succ kj1 =>
        have H := HA.out
        clear HA
        simp only [w9_NetLeft.j1] at H
        by_cases c8 : x1_28 = true
        ·subst c8
         have H1 : (none) = some r := by rw [if_pos rfl] at H; exact H
         clear H
         have H := H1
         clear H1
         exact absurd H (by simp)
        ·replace c8 := Bool.eq_false_iff.mpr c8
         subst c8
         have H1 : (if t1 = true then (if 0 ≤ (l0_0.length : Int) then (if (l0_0.length : Int) ≤ (t2.length : Int) then ((net_Eval.f kj1 l0_0 l0_1 l0_2 l0_3 l0_4 t4 t5).bind fun t3 => ((r4_SameInts.f kj1 (t2.take ((l0_0.length : Int) : Int).toNat) t3).bind fun t6 => (if t6 = true then ((net_After.f kj1 y3 l0_1 l0_2 ([] : List (S61)) ([] : List (S47)) t4 t5).bind fun t7 => ((net_After.f kj1 l0_0 l0_1 l0_2 l0_3 l0_4 t4 t5).bind fun t8 => ((r4_SameInts.f kj1 t7 t8).bind fun t9 => (some t9)))) else (none)))) else (none)) else (none)) else (none)) = some r := by rw [if_neg (show ¬ (false = true) by decide)] at H; exact H
         clear H
         have H := H1
         clear H1
         by_cases c8 : t1 = true
         ·subst c8
          have H1 : (if 0 ≤ (l0_0.length : Int) then (if (l0_0.length : Int) ≤ (t2.length : Int) then ((net_Eval.f kj1 l0_0 l0_1 l0_2 l0_3 l0_4 t4 t5).bind fun t3 => ((r4_SameInts.f kj1 (t2.take ((l0_0.length : Int) : Int).toNat) t3).bind fun t6 => (if t6 = true then ((net_After.f kj1 y3 l0_1 l0_2 ([] : List (S61)) ([] : List (S47)) t4 t5).bind fun t7 => ((net_After.f kj1 l0_0 l0_1 l0_2 l0_3 l0_4 t4 t5).bind fun t8 => ((r4_SameInts.f kj1 t7 t8).bind fun t9 => (some t9)))) else (none)))) else (none)) else (none)) = some r := by rw [if_pos rfl] at H; exact H
          clear H
          have H := H1
          clear H1
          by_cases c9 : 0 ≤ (l0_0.length : Int)
          ·rw [if_pos c9] at H
           have c1b0 := eq_true c9
           have c1b1 : decide (0 ≤ (l0_0.length : Int)) = true := decide_eq_true c9
           clear c9
           by_cases c10 : (l0_0.length : Int) ≤ (t2.length : Int)
           ·rw [if_pos c10] at H
            have c1b0 := eq_true c10
            have c1b1 : decide ((l0_0.length : Int) ≤ (t2.length : Int)) = true := decide_eq_true c10
            clear c10
            obtain ⟨y1, hy1⟩ : ∃ y_ : List Int, y_ = (t2.take ((l0_0.length : Int) : Int).toNat) := ⟨_, rfl⟩
            replace H : ((net_Eval.f kj1 l0_0 l0_1 l0_2 l0_3 l0_4 t4 t5).bind fun t3 => ((r4_SameInts.f kj1 y1 t3).bind fun t6 => (if t6 = true then ((net_After.f kj1 y3 l0_1 l0_2 ([] : List (S61)) ([] : List (S47)) t4 t5).bind fun t7 => ((net_After.f kj1 l0_0 l0_1 l0_2 l0_3 l0_4 t4 t5).bind fun t8 => ((r4_SameInts.f kj1 t7 t8).bind fun t9 => (some t9)))) else (none)))) = some r := by first | (rw [hy1]; with_reducible exact H) | (have H1_ := (Option.bind_some _ _).symm.trans H; rw [hy1]; with_reducible exact H1_) | (have H1_ := (Option.bind_some _ _).symm.trans H; with_reducible exact H1_) | with_reducible exact H | (rw [hy1]; exact H) | exact H
            have Ny1 := aM hy1
            clear hy1
            replace H := Option.bind_eq_some_iff.mp H
            obtain ⟨t3, A3, H⟩ := H
            have A4 := aM A3
            clear A3
            replace H := Option.bind_eq_some_iff.mp H
            obtain ⟨t6, A3, H⟩ := H
            have A5 := aM A3
            clear A3
            by_cases c15 : t6 = true
            ·subst c15
             have H1 : ((net_After.f kj1 y3 l0_1 l0_2 ([] : List (S61)) ([] : List (S47)) t4 t5).bind fun t7 => ((net_After.f kj1 l0_0 l0_1 l0_2 l0_3 l0_4 t4 t5).bind fun t8 => ((r4_SameInts.f kj1 t7 t8).bind fun t9 => (some t9)))) = some r := by rw [if_pos rfl] at H; exact H
             clear H
             have H := H1
             clear H1
             replace H := Option.bind_eq_some_iff.mp H
             obtain ⟨t7, A3, H⟩ := H
             have A6 := aM A3
             clear A3
             replace H := Option.bind_eq_some_iff.mp H
             obtain ⟨t8, A3, H⟩ := H
             have A7 := aM A3
             clear A3
             replace H := Option.bind_eq_some_iff.mp H
             obtain ⟨t9, A3, H⟩ := H
             have A8 := aM A3
             clear A3
             obtain rfl := Option.some.inj H
             try go_wp2
             replace HO_1 := aM (yh HO_1.out)
             replace HO_2 := aM (yh HO_2.out)
             replace HO_3 := aM (yh HO_3.out)
             replace HO_4 := aM (yh HO_4.out)
             replace BK1 := aM (yc BK1.out)
             replace BK2 := aM (yc BK2.out)
             replace HB := aM (yk HB.out)
             obtain ⟨Ao4, co4, eo1⟩ := Kd.R_slice HO_3.out
             (first | subst eo1 | (injection eo1 with f1_ f2_ f3_; have f4_ := f1_.symm; have f5_ := f3_.symm; clear f1_ f2_ f3_; subst f4_; subst f5_))
             have q1 : ((l0_0.length : Int) : Int) ≤ ((t2.length : Int) : Int) := zod
             obtain ⟨i1, hi1, _, hsz1, _⟩ := info_parts info3
             have hroom1 : t2.length ≤ co4 := (Kd.R_reads' HO_3.out).2.1
             have hC1 : Kd.C (Kd.int .i64) _ Ao4 t2.length t2 := (Kd.R_reads' HO_3.out).2.2
             have hcut1 := cut_to (P := Try.prog) 32 3 .i64 Try.underlying32 hi1 Ao4 t2.length co4 (l0_0.length : Int) (of_decide_eq_true q75z) q1 hroom1
             have hr3 := Kd.C_take (m := ((l0_0.length : Int) : Int).toNat) hC1 (by omega)
             have hy1 : y1.length = ((l0_0.length : Int) : Int).toNat := (by rw [Ny1.out, List.length_take]; omega)
             rw [← Ny1.out] at hr3
             rw [← hy1] at hcut1
             have HR1 := aM hr3
             have HC1 := aM (show y1.length ≤ co4 from by omega)
             clear hr3 hC1 hroom1 hi1 hsz1
             have KY1 := aM hy1
             clear hy1
             have KL1 := aM (show ((l0_0.length : Int) : Int).toNat ≤ t2.length from by omega)
             replace q1 := eq_true q1
             refine start_ (n := 25) (S := fun w' => w'.cell? ⟨gb1, 0, none⟩ = some (.slice A0_0 l0_0.length c0_0) ∧ w'.cell? ⟨gb1, 1, none⟩ = some (.slice A0_1 l0_1.length c0_1) ∧ w'.cell? ⟨gb1, 2, none⟩ = some (.slice A0_2 l0_2.length c0_2) ∧ w'.cell? ⟨gb1, 3, none⟩ = some (.slice A0_3 l0_3.length c0_3) ∧ w'.cell? ⟨gb1, 4, none⟩ = some (.slice A0_4 l0_4.length c0_4) ∧ w'.cell? ⟨gb2, 0, none⟩ = some (.slice Ao1 y3.length co1) ∧ w'.cell? ⟨gb2, 1, none⟩ = some (.slice A0_1 l0_1.length c0_1) ∧ w'.cell? ⟨gb2, 2, none⟩ = some (.slice A0_2 l0_2.length c0_2) ∧ w'.cell? ⟨gb2, 3, none⟩ = some (.slice none 0 0) ∧ w'.cell? ⟨gb2, 4, none⟩ = some (.slice none 0 0)) (ds := []) (zb 25 0) (by kernel_rfl) rfl rfl ⟨zc BK1 0, zc BK1 1, zc BK1 2, zc BK1 3, zc BK1 4, zc BK2 0, zc BK2 1, zc BK2 2, zc BK2 3, zc BK2 4⟩ (fun hHeld => ?_); refine with_tabW w9_NetLeft.tab12 w9_NetLeft.bits12 (fun HT_ HW_ => ?_)
             generalize wc.drew = w1 at HO_1 HO_2 HO_3 HO_4 BK1 BK2 HB HR1 hHeld ⊢
             refine zpu 0 76 (zb 25 1) ?_
             refine zpu 1 77 (zb 25 3) ?_
             refine zpu 2 78 (zb 25 7) ?_
             refine zpu 3 79 (zb 25 15) ?_
             refine zpu 8 84 (zb 25 271) ?_
             refine zpu 9 85 (zb 25 783) ?_
             refine ztk10 4 80 (zb 25 799) hHeld ?_
             refine zpu 5 81 (zb 25 831) ?_
             refine zpu 6 82 (zb 25 895) ?_
             refine ztk10 7 83 (zb 25 1023) hHeld ?_
             refine zon 10 (some 86) (zb 25 2047) fun K hK => ?_
             refine zgo Try.func20 #[.agg #[.slice A0_0 l0_0.length c0_0, .slice A0_1 l0_1.length c0_1, .slice A0_2 l0_2.length c0_2, .slice A0_3 l0_3.length c0_3, .slice A0_4 l0_4.length c0_4], .slice Ao2 t4.length co2, .slice Ao3 t5.length co3] ?_
             with_reducible refine (net_Eval.calls kj1 _ _ l0_0 _ _ l0_1 _ _ l0_2 _ _ l0_3 _ _ l0_4 _ _ t4 _ _ t5 t3 _ ?side1 ?side2 ?side3 ?side4 ?side5 ?side6 ?side7 ?side8 ?side9 ?side10 ?side11 ?side12 ?side13 ?side14 A4.out).mono ?_
             (case side1 => exact q1z HR1_0 HB)
             (case side2 => exact HC1_0.out)
             (case side3 => exact q1z HR1_1 HB)
             (case side4 => exact HC1_1.out)
             (case side5 => exact q1z HR1_2 HB)
             (case side6 => exact HC1_2.out)
             (case side7 => exact q1z HR1_3 HB)
             (case side8 => exact HC1_3.out)
             (case side9 => exact q1z HR1_4 HB)
             (case side10 => exact HC1_4.out)
             (case side11 => exact q9z HO_1)
             (case side12 => exact q24z HO_1)
             (case side13 => exact q9z HO_2)
             (case side14 => exact q24z HO_2)
             rintro e w1 ⟨v1, rfl, ho2, hb⟩
             refine ⟨_, rfl, ?_⟩
             replace HO_4 := aM (yr (q2z HO_4) hb)
             have HO1 := aM (Kd.R_lower (Kd.R_new' (Kd.R_new' (Kd.R_new' ho2 (Kd.R_lt (q2z HO_1))) (Kd.R_lt (q2z HO_2))) (Kd.R_lt (q2z HO_3))) (yn (q5z HB GE1 GE2)))
             replace HO_1 := aM (Kd.R_elder' (q2z HO_1) (Kd.R_base ho2) hb)
             replace HO_2 := aM (Kd.R_elder' (q2z HO_2) (Kd.R_base ho2) hb)
             replace HO_3 := aM (Kd.R_elder' (q2z HO_3) (Kd.R_base ho2) hb)
             replace BK1 := aM (yi (zi BK1) hb)
             replace BK2 := aM (yi (zi BK2) hb)
             replace HR1 := aM (Kd.C_below (q41z HR1) hb)
             replace HB := aM (ym (q5z HB GE1 GE2) hb)
             (try clear hb)
             (try clear hb2)
             (try clear hk)
             (try clear hi)
             (try clear ho2)
             obtain ⟨Ao5, co5, eo1⟩ := Kd.R_slice HO1.out
             (first | subst eo1 | (injection eo1 with f1_ f2_ f3_; have f4_ := f1_.symm; have f5_ := f3_.symm; clear f1_ f2_ f3_; subst f4_; subst f5_))
             refine hK.out _ _ ⟨zc BK1 0, zc BK1 1, zc BK1 2, zc BK1 3, zc BK1 4, zc BK2 0, zc BK2 1, zc BK2 2, zc BK2 3, zc BK2 4⟩ (fun hHeld => ?_)
             clear hK K
             refine zno 86 ?_
             refine zon 11 (some 87) (zb 25 4095) fun K hK => ?_
             refine zgo Try.func17 #[.slice Ao4 y1.length co4, .slice Ao5 t3.length co5] ?_
             with_reducible refine (r4_SameInts.calls kj1 _ _ y1 _ _ t3 true _ ?side1 ?side2 ?side3 ?side4 A5.out).mono ?_
             (case side1 => exact q47z HR1)
             (case side2 => exact HC1.out)
             (case side3 => exact q9z HO1)
             (case side4 => exact q24z HO1)
             rintro e w' ⟨rfl, ⟨nd, rfl⟩⟩
             refine ⟨_, rfl, ?_⟩
             refine hK.out _ _ ⟨zc BK1 0, zc BK1 1, zc BK1 2, zc BK1 3, zc BK1 4, zc BK2 0, zc BK2 1, zc BK2 2, zc BK2 3, zc BK2 4⟩ (fun hHeld => ?_)
             clear hK K
             refine zno 87 ?_
             refine zpu 12 88 (zb 25 8191) ?_
             refine zpu 13 89 (zb 25 16383) ?_
             refine zpu 15 91 (zb 25 49151) ?_
             refine zpu 16 92 (zb 25 114687) ?_
             refine zpu 19 95 (zb 25 638975) ?_
             refine zpu 20 96 (zb 25 1687551) ?_
             refine ztk10 14 90 (zb 25 1703935) hHeld ?_
             refine ztk10 18 94 (zb 25 1966079) hHeld ?_
             refine zon 17 (some 93) (zb 25 2097151) fun K hK => ?_
             refine zgo Try.func22 #[.agg #[.slice Ao1 y3.length co1, .slice A0_1 l0_1.length c0_1, .slice A0_2 l0_2.length c0_2, .slice none 0 0, .slice none 0 0], .slice Ao2 t4.length co2, .slice Ao3 t5.length co3] ?_
             refine (net_After.calls kj1 _ _ y3 _ _ l0_1 _ _ l0_2 _ _ ([] : List (S61)) _ _ ([] : List (S47)) _ _ t4 _ _ t5 t7 _ ?side1 ?side2 ?side3 ?side4 ?side5 ?side6 ?side7 ?side8 ?side9 ?side10 ?side11 ?side12 ?side13 ?side14 A6.out).mono ?_
             (case side1 => exact q9z HO_4)
             (case side2 => exact q24z HO_4)
             (case side3 => exact q17z HR1_1 HB GE1 GE2)
             (case side4 => exact HC1_1.out)
             (case side5 => exact q17z HR1_2 HB GE1 GE2)
             (case side6 => exact HC1_2.out)
             (case side7 => exact Kd.C_nil _ _)
             (case side8 => exact Nat.le_refl _)
             (case side9 => exact Kd.C_nil _ _)
             (case side10 => exact Nat.le_refl _)
             (case side11 => exact q9z HO_1)
             (case side12 => exact q24z HO_1)
             (case side13 => exact q9z HO_2)
             (case side14 => exact q24z HO_2)
             rintro e w1 ⟨v1, rfl, ho2, hb⟩
             refine ⟨_, rfl, ?_⟩
             replace HO_4 := aM (yr (q2z HO_4) hb)
             have HO2 := aM (Kd.R_lower (Kd.R_new' (Kd.R_new' (Kd.R_new' (Kd.R_new' ho2 (Kd.R_lt (q2z HO_1))) (Kd.R_lt (q2z HO_2))) (Kd.R_lt (q2z HO_3))) (Kd.R_lt (q2z HO1))) (yn (q5z HB GE1 GE2)))
             replace HO_1 := aM (Kd.R_elder' (q2z HO_1) (Kd.R_base ho2) hb)
             replace HO_2 := aM (Kd.R_elder' (q2z HO_2) (Kd.R_base ho2) hb)
             replace HO_3 := aM (Kd.R_elder' (q2z HO_3) (Kd.R_base ho2) hb)
             replace HO1 := aM (Kd.R_elder' (q2z HO1) (Kd.R_base ho2) hb)
             replace BK1 := aM (yi (zi BK1) hb)
             replace BK2 := aM (yi (zi BK2) hb)
             replace HR1 := aM (Kd.C_below (q41z HR1) hb)
             replace HB := aM (ym (q5z HB GE1 GE2) hb)
             (try clear hb)
             (try clear hb2)
             (try clear hk)
             (try clear hi)
             (try clear ho2)
             refine hK.out _ _ ⟨zc BK1 0, zc BK1 1, zc BK1 2, zc BK1 3, zc BK1 4, zc BK2 0, zc BK2 1, zc BK2 2, zc BK2 3, zc BK2 4⟩ (fun hHeld => ?_)
             clear hK K
             refine zno 93 ?_
             refine zon 21 (some 97) (zb 25 4194303) fun K hK => ?_
             refine zgo Try.func22 #[.agg #[.slice A0_0 l0_0.length c0_0, .slice A0_1 l0_1.length c0_1, .slice A0_2 l0_2.length c0_2, .slice A0_3 l0_3.length c0_3, .slice A0_4 l0_4.length c0_4], .slice Ao2 t4.length co2, .slice Ao3 t5.length co3] ?_
             with_reducible refine (net_After.calls kj1 _ _ l0_0 _ _ l0_1 _ _ l0_2 _ _ l0_3 _ _ l0_4 _ _ t4 _ _ t5 t8 _ ?side1 ?side2 ?side3 ?side4 ?side5 ?side6 ?side7 ?side8 ?side9 ?side10 ?side11 ?side12 ?side13 ?side14 A7.out).mono ?_
             (case side1 => exact q1z HR1_0 HB)
             (case side2 => exact HC1_0.out)
             (case side3 => exact q1z HR1_1 HB)
             (case side4 => exact HC1_1.out)
             (case side5 => exact q1z HR1_2 HB)
             (case side6 => exact HC1_2.out)
             (case side7 => exact q1z HR1_3 HB)
             (case side8 => exact HC1_3.out)
             (case side9 => exact q1z HR1_4 HB)
             (case side10 => exact HC1_4.out)
             (case side11 => exact q9z HO_1)
             (case side12 => exact q24z HO_1)
             (case side13 => exact q9z HO_2)
             (case side14 => exact q24z HO_2)
             rintro e w1 ⟨v1, rfl, ho2, hb⟩
             refine ⟨_, rfl, ?_⟩
             replace HO_4 := aM (yr (q2z HO_4) hb)
             have HO3 := aM (Kd.R_lower (Kd.R_new' (Kd.R_new' (Kd.R_new' (Kd.R_new' (Kd.R_new' ho2 (Kd.R_lt (q2z HO_1))) (Kd.R_lt (q2z HO_2))) (Kd.R_lt (q2z HO_3))) (Kd.R_lt (q2z HO1))) (Kd.R_lt (q2z HO2))) (yn (q5z HB GE1 GE2)))
             replace HO_1 := aM (Kd.R_elder' (q2z HO_1) (Kd.R_base ho2) hb)
             replace HO_2 := aM (Kd.R_elder' (q2z HO_2) (Kd.R_base ho2) hb)
             replace HO_3 := aM (Kd.R_elder' (q2z HO_3) (Kd.R_base ho2) hb)
             replace HO1 := aM (Kd.R_elder' (q2z HO1) (Kd.R_base ho2) hb)
             replace HO2 := aM (Kd.R_elder' (q2z HO2) (Kd.R_base ho2) hb)
             replace BK1 := aM (yi (zi BK1) hb)
             replace BK2 := aM (yi (zi BK2) hb)
             replace HR1 := aM (Kd.C_below (q41z HR1) hb)
             replace HB := aM (ym (q5z HB GE1 GE2) hb)
             (try clear hb)
             (try clear hb2)
             (try clear hk)
             (try clear hi)
             (try clear ho2)
             obtain ⟨Ao1, co1, eo1⟩ := Kd.R_slice HO2.out
             (first | subst eo1 | (injection eo1 with f1_ f2_ f3_; have f4_ := f1_.symm; have f5_ := f3_.symm; clear f1_ f2_ f3_; subst f4_; subst f5_))
             obtain ⟨Ao2, co2, eo1⟩ := Kd.R_slice HO3.out
             (first | subst eo1 | (injection eo1 with f1_ f2_ f3_; have f4_ := f1_.symm; have f5_ := f3_.symm; clear f1_ f2_ f3_; subst f4_; subst f5_))
             refine hK.out _ _ ⟨zc BK1 0, zc BK1 1, zc BK1 2, zc BK1 3, zc BK1 4, zc BK2 0, zc BK2 1, zc BK2 2, zc BK2 3, zc BK2 4⟩ (fun hHeld => ?_)
             clear hK K
             refine zno 97 ?_
             refine zon 22 (some 98) (zb 25 8388607) fun K hK => ?_
             refine zgo Try.func17 #[.slice Ao1 t7.length co1, .slice Ao2 t8.length co2] ?_
             with_reducible refine (r4_SameInts.calls kj1 _ _ t7 _ _ t8 t9 _ ?side1 ?side2 ?side3 ?side4 A8.out).mono ?_
             (case side1 => exact q9z HO2)
             (case side2 => exact q24z HO2)
             (case side3 => exact q9z HO3)
             (case side4 => exact q24z HO3)
             rintro e w' ⟨rfl, ⟨nd, rfl⟩⟩
             refine ⟨_, rfl, ?_⟩
             refine hK.out _ _ ⟨zc BK1 0, zc BK1 1, zc BK1 2, zc BK1 3, zc BK1 4, zc BK2 0, zc BK2 1, zc BK2 2, zc BK2 3, zc BK2 4⟩ (fun hHeld => ?_)
             clear hK K
             refine zno 98 ?_
             refine zpu 23 99 (zb 25 16777215) ?_
             refine zpu 24 8 (zb 25 33554431) ?_
             refine zdo ?_
             try go_wp2
             go_ret
             exact ⟨q11z, q5z HB GE1 GE2⟩
            ·replace c15 := Bool.eq_false_iff.mpr c15
             subst c15
             exact z88_1
           ·rw [if_neg c10] at H
            exact absurd H (by simp)
          ·rw [if_neg c9] at H
           exact absurd H (by simp)
         ·replace c8 := Bool.eq_false_iff.mpr c8
          subst c8
          exact z88_1
     ·rw [if_neg c14] at H
      exact absurd H (by simp)
    ·rw [if_neg c13] at H
     exact absurd H (by simp)
end Go.Proofs.Yteblbknmikieoaa.Xb
