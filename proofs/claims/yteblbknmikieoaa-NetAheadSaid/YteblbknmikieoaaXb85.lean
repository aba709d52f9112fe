/- Slimmed by this session: what nothing names is struck out. -/
import Derived.Test.YteblbknmikieoaaXb0
import Derived.Test.YteblbknmikieoaaXbZ
import Derived.Test.YteblbknmikieoaaXbD
import Derived.Test.YteblbknmikieoaaXbE
import Derived.Test.YteblbknmikieoaaXbI
import Derived.Test.YteblbknmikieoaaXb65
import Derived.Test.YteblbknmikieoaaXbF
import Derived.Test.YteblbknmikieoaaXb74
import Derived.Test.YteblbknmikieoaaXb76
namespace Go.Proofs.Yteblbknmikieoaa.Xb
open Go.RowKit Go.Proofs.YteblbknmikieoaaW.PrintWords Go.Proofs.YteblbknmikieoaaW.PrintLast Go.Proofs.YteblbknmikieoaaW.PrintMore
attribute [local go_sem] max2_int min2_int max_two min_two max_three min_three max_four min_four
set_option linter.unusedVariables false
set_option linter.unusedSimpArgs false
theorem cells4_85 {w : World} {g : Nat} {t : TypeId} {x0 x1 x2 x3 : Value} (h : w.heap[g]? = some (.cells #[x0, x1, x2, x3] t (0, 0))) : w.cell? ⟨g, 0, none⟩ = some x0 ∧ w.cell? ⟨g, 1, none⟩ = some x1 ∧ w.cell? ⟨g, 2, none⟩ = some x2 ∧ w.cell? ⟨g, 3, none⟩ = some x3 ∧ w.frozen? ⟨g, 0, none⟩ = false ∧ w.frozen? ⟨g, 1, none⟩ = false ∧ w.frozen? ⟨g, 2, none⟩ = false ∧ w.frozen? ⟨g, 3, none⟩ = false := ⟨(blk_cell h 0).trans rfl, (blk_cell h 1).trans rfl, (blk_cell h 2).trans rfl, (blk_cell h 3).trans rfl, blk_frozen h 0, blk_frozen h 1, blk_frozen h 2, blk_frozen h 3⟩
theorem cells5_85 {w : World} {g : Nat} {t : TypeId} {x0 x1 x2 x3 x4 : Value} (h : w.heap[g]? = some (.cells #[x0, x1, x2, x3, x4] t (0, 0))) : w.cell? ⟨g, 0, none⟩ = some x0 ∧ w.cell? ⟨g, 1, none⟩ = some x1 ∧ w.cell? ⟨g, 2, none⟩ = some x2 ∧ w.cell? ⟨g, 3, none⟩ = some x3 ∧ w.cell? ⟨g, 4, none⟩ = some x4 ∧ w.frozen? ⟨g, 0, none⟩ = false ∧ w.frozen? ⟨g, 1, none⟩ = false ∧ w.frozen? ⟨g, 2, none⟩ = false ∧ w.frozen? ⟨g, 3, none⟩ = false ∧ w.frozen? ⟨g, 4, none⟩ = false := ⟨(blk_cell h 0).trans rfl, (blk_cell h 1).trans rfl, (blk_cell h 2).trans rfl, (blk_cell h 3).trans rfl, (blk_cell h 4).trans rfl, blk_frozen h 0, blk_frozen h 1, blk_frozen h 2, blk_frozen h 3, blk_frozen h 4⟩
mutual
def w9_NetAhead.j0 : Nat → Int → List Int → List Int → Bool → Bool → List (S41) → List (S47) → List (S43) → List (S61) → List (S47) → Option (Bool)
 | 0, _, _, _, _, _, _, _, _, _, _ => none
 | k + 1, x1, x2, x3, x9, x31, x548000, x548001, x548002, x548003, x548004 => if x31 = true then (some x9) else (if (x548000.length : Int) = 0 then (none) else ((some (([] : List (S41)) : List (S41))).bind fun y552 => (if 0 ≤ (wrap64 ((Int.tmod (wrap64 (x1)) (x548000.length : Int)) + 1)) then (if (wrap64 ((Int.tmod (wrap64 (x1)) (x548000.length : Int)) + 1)) ≤ (x548000.length : Int) then ((some (x548000.take ((wrap64 ((Int.tmod (wrap64 (x1)) (x548000.length : Int)) + 1)) : Int).toNat : List (S41))).bind fun y555 => (if y552.length + y555.length < 2513169434916 then (w9_NetAhead.l0 k x2 x3 x9 (wrap64 ((Int.tmod (wrap64 (x1)) (x548000.length : Int)) + 1)) 0 x548000 x548001 x548002 x548003 x548004 (y552 ++ y555) ([] : List (S47))) else (none))) else (none)) else (none))))
def w9_NetAhead.l0 : Nat → List Int → List Int → Bool → Int → Int → List (S41) → List (S47) → List (S43) → List (S61) → List (S47) → List (S41) → List (S47) → Option (Bool)
 | 0, _, _, _, _, _, _, _, _, _, _, _, _ => none
 | k + 1, x2, x3, x9, x10, x12, x548000, x548001, x548002, x548003, x548004, x552000, x552001 => if x12 < (x548001.length : Int) then (if 0 ≤ x12 then (if ((rd_T47 x548001 x12).f1) < x10 then (if x552001.length < 5864062014805 then (w9_NetAhead.l0 k x2 x3 x9 x10 (wrap64 (x12 + 1)) x548000 x548001 x548002 x548003 x548004 x552000 (x552001 ++ [(⟨(rd_T47 x548001 x12).f0, (rd_T47 x548001 x12).f1⟩ : S47)])) else (none)) else (w9_NetAhead.l0 k x2 x3 x9 x10 (wrap64 (x12 + 1)) x548000 x548001 x548002 x548003 x548004 x552000 x552001)) else (none)) else (w9_NetAhead.l1 k x2 x3 x9 x10 0 x548000 x548001 x548002 x548003 x548004 x552000 x552001 ([] : List (S43)))
def w9_NetAhead.l1 : Nat → List Int → List Int → Bool → Int → Int → List (S41) → List (S47) → List (S43) → List (S61) → List (S47) → List (S41) → List (S47) → List (S43) → Option (Bool)
 | 0, _, _, _, _, _, _, _, _, _, _, _, _, _ => none
 | k + 1, x2, x3, x9, x10, x13, x548000, x548001, x548002, x548003, x548004, x552000, x552001, x552002 => if x13 < (x548002.length : Int) then (if 0 ≤ x13 then (if ((rd_T43 x548002 x13).f1) < x10 then (if x552002.length < 3518437208883 then (w9_NetAhead.l1 k x2 x3 x9 x10 (wrap64 (x13 + 1)) x548000 x548001 x548002 x548003 x548004 x552000 x552001 (x552002 ++ [(⟨(rd_T43 x548002 x13).f0, (rd_T43 x548002 x13).f1, (rd_T43 x548002 x13).f1, (rd_T43 x548002 x13).f3⟩ : S43)])) else (none)) else (w9_NetAhead.l1 k x2 x3 x9 x10 (wrap64 (x13 + 1)) x548000 x548001 x548002 x548003 x548004 x552000 x552001 x552002)) else (none)) else ((w9_Rows.f k x548000 x548001 x548002 x548003 x548004 x2 x3).bind fun bt573 => ((net_Eval.f k x548000 x548001 x548002 x548003 x548004 bt573.1 bt573.2).bind fun t579 => ((net_Right.f k x552000 x552001 x552002 ([] : List (S61)) ([] : List (S47))).bind fun t582 => (if t582 = true then (w9_NetAhead.j3 k x9 x10 bt573.1 bt573.2 t579 (decide ((t579.length : Int) < x10)) x552000 x552001 x552002) else (w9_NetAhead.j3 k x9 x10 bt573.1 bt573.2 t579 true x552000 x552001 x552002)))))
def w9_NetAhead.j3 : Nat → Bool → Int → List Int → List Int → List Int → Bool → List (S41) → List (S47) → List (S43) → Option (Bool)
 | 0, _, _, _, _, _, _, _, _, _ => none
 | k + 1, x9, x10, x15, x16, x17, x120, x552000, x552001, x552002 => if x120 = true then (none) else (if x9 = true then (if 0 ≤ (x552002.length : Int) then (if (x552002.length : Int) ≤ (x15.length : Int) then (if 0 ≤ (x552001.length : Int) then (if (x552001.length : Int) ≤ (x16.length : Int) then ((net_Eval.f k x552000 x552001 x552002 ([] : List (S61)) ([] : List (S47)) (x15.take ((x552002.length : Int) : Int).toNat) (x16.take ((x552001.length : Int) : Int).toNat)).bind fun t591 => (if 0 ≤ x10 then (if x10 ≤ (x17.length : Int) then ((r4_SameInts.f k t591 (x17.take (x10 : Int).toNat)).bind fun t598 => (some t598)) else (none)) else (none))) else (none)) else (none)) else (none)) else (none)) else (none))
end
def w9_NetAhead.f (k : Nat) (l0_0 : List (S41)) (l0_1 : List (S47)) (l0_2 : List (S43)) (l0_3 : List (S61)) (l0_4 : List (S47)) (a1 : Int) (l2 : List Int) (l3 : List Int) : Option (Bool) := (w9_head.f k).bind fun t548 => ((w9_Great.f l0_0 l0_1 l0_2 l0_3 l0_4).bind fun t549 => (if t549 = true then (w9_NetAhead.j0 k a1 l2 l3 t548 true l0_0 l0_1 l0_2 l0_3 l0_4) else ((r9_Right.f k l0_0 l0_1 l0_2 l0_3 l0_4).bind fun t550 => (if t550 = true then (w9_NetAhead.j0 k a1 l2 l3 t548 ((l0_0.length : Int) == 0) l0_0 l0_1 l0_2 l0_3 l0_4) else (w9_NetAhead.j0 k a1 l2 l3 t548 true l0_0 l0_1 l0_2 l0_3 l0_4)))))
theorem w9_NetAhead.mono_l : ∀ k, (∀ y0 y1 y2 y3 y4 y5 y6 y7 y8 y9, LeO (w9_NetAhead.j0 k y0 y1 y2 y3 y4 y5 y6 y7 y8 y9) (w9_NetAhead.j0 (k + 1) y0 y1 y2 y3 y4 y5 y6 y7 y8 y9)) ∧ (∀ y0 y1 y2 y3 y4 y5 y6 y7 y8 y9 y10 y11, LeO (w9_NetAhead.l0 k y0 y1 y2 y3 y4 y5 y6 y7 y8 y9 y10 y11) (w9_NetAhead.l0 (k + 1) y0 y1 y2 y3 y4 y5 y6 y7 y8 y9 y10 y11)) ∧ (∀ y0 y1 y2 y3 y4 y5 y6 y7 y8 y9 y10 y11 y12, LeO (w9_NetAhead.l1 k y0 y1 y2 y3 y4 y5 y6 y7 y8 y9 y10 y11 y12) (w9_NetAhead.l1 (k + 1) y0 y1 y2 y3 y4 y5 y6 y7 y8 y9 y10 y11 y12)) ∧ (∀ y0 y1 y2 y3 y4 y5 y6 y7 y8, LeO (w9_NetAhead.j3 k y0 y1 y2 y3 y4 y5 y6 y7 y8) (w9_NetAhead.j3 (k + 1) y0 y1 y2 y3 y4 y5 y6 y7 y8))
 | 0 => ⟨fun _ _ _ _ _ _ _ _ _ _ r h => by simp [w9_NetAhead.j0] at h, fun _ _ _ _ _ _ _ _ _ _ _ _ r h => by simp [w9_NetAhead.l0] at h, fun _ _ _ _ _ _ _ _ _ _ _ _ _ r h => by simp [w9_NetAhead.l1] at h, fun _ _ _ _ _ _ _ _ _ r h => by simp [w9_NetAhead.j3] at h⟩
 | k + 1 => by
  obtain ⟨ih0, ih1, ih2, ih3⟩ := w9_NetAhead.mono_l k
  refine ⟨?_, ?_, ?_, ?_⟩
  ·intro y0 y1 y2 y3 y4 y5 y6 y7 y8 y9
   unfold w9_NetAhead.j0
   repeat' first
   | (with_reducible exact ih0 _ _ _ _ _ _ _ _ _ _)
   | (with_reducible exact ih1 _ _ _ _ _ _ _ _ _ _ _ _)
   | (with_reducible exact ih2 _ _ _ _ _ _ _ _ _ _ _ _ _)
   | (with_reducible exact ih3 _ _ _ _ _ _ _ _ _)
   | (with_reducible exact net_Eval.mono _ _ _ _ _ _ _ _)
   | (with_reducible exact net_Right.mono _ _ _ _ _ _)
   | (with_reducible exact w9_Rows.mono _ _ _ _ _ _ _ _)
   | (with_reducible exact w9_head.mono _)
   | (with_reducible exact r4_SameInts.mono _ _ _)
   | (with_reducible exact r9_Right.mono _ _ _ _ _ _)
   | (with_reducible exact LeO.refl _)
   | (with_reducible exact LeO.none _)
   | (with_reducible refine LeO.ite ?_ ?_)
   | (with_reducible refine LeO.bind ?_ (fun _ => ?_))
   | exact ih0 _ _ _ _ _ _ _ _ _ _
   | exact ih1 _ _ _ _ _ _ _ _ _ _ _ _
   | exact ih2 _ _ _ _ _ _ _ _ _ _ _ _ _
   | exact ih3 _ _ _ _ _ _ _ _ _
   | exact net_Eval.mono _ _ _ _ _ _ _ _
   | exact net_Right.mono _ _ _ _ _ _
   | exact w9_Rows.mono _ _ _ _ _ _ _ _
   | exact w9_head.mono _
   | exact r4_SameInts.mono _ _ _
   | exact r9_Right.mono _ _ _ _ _ _
   | exact LeO.none _
   | refine LeO.ite ?_ ?_
   | refine LeO.bind ?_ (fun _ => ?_)
  ·intro y0 y1 y2 y3 y4 y5 y6 y7 y8 y9 y10 y11
   unfold w9_NetAhead.l0
   repeat' first
   | (with_reducible exact ih0 _ _ _ _ _ _ _ _ _ _)
   | (with_reducible exact ih1 _ _ _ _ _ _ _ _ _ _ _ _)
   | (with_reducible exact ih2 _ _ _ _ _ _ _ _ _ _ _ _ _)
   | (with_reducible exact ih3 _ _ _ _ _ _ _ _ _)
   | (with_reducible exact net_Eval.mono _ _ _ _ _ _ _ _)
   | (with_reducible exact net_Right.mono _ _ _ _ _ _)
   | (with_reducible exact w9_Rows.mono _ _ _ _ _ _ _ _)
   | (with_reducible exact w9_head.mono _)
   | (with_reducible exact r4_SameInts.mono _ _ _)
   | (with_reducible exact r9_Right.mono _ _ _ _ _ _)
   | (with_reducible exact LeO.refl _)
   | (with_reducible exact LeO.none _)
   | (with_reducible refine LeO.ite ?_ ?_)
   | (with_reducible refine LeO.bind ?_ (fun _ => ?_))
   | exact ih0 _ _ _ _ _ _ _ _ _ _
   | exact ih1 _ _ _ _ _ _ _ _ _ _ _ _
   | exact ih2 _ _ _ _ _ _ _ _ _ _ _ _ _
   | exact ih3 _ _ _ _ _ _ _ _ _
   | exact net_Eval.mono _ _ _ _ _ _ _ _
   | exact net_Right.mono _ _ _ _ _ _
   | exact w9_Rows.mono _ _ _ _ _ _ _ _
   | exact w9_head.mono _
   | exact r4_SameInts.mono _ _ _
   | exact r9_Right.mono _ _ _ _ _ _
   | exact LeO.none _
   | refine LeO.ite ?_ ?_
   | refine LeO.bind ?_ (fun _ => ?_)
  ·intro y0 y1 y2 y3 y4 y5 y6 y7 y8 y9 y10 y11 y12
   unfold w9_NetAhead.l1
   repeat' first
   | (with_reducible exact ih0 _ _ _ _ _ _ _ _ _ _)
   | (with_reducible exact ih1 _ _ _ _ _ _ _ _ _ _ _ _)
   | (with_reducible exact ih2 _ _ _ _ _ _ _ _ _ _ _ _ _)
   | (with_reducible exact ih3 _ _ _ _ _ _ _ _ _)
   | (with_reducible exact net_Eval.mono _ _ _ _ _ _ _ _)
   | (with_reducible exact net_Right.mono _ _ _ _ _ _)
   | (with_reducible exact w9_Rows.mono _ _ _ _ _ _ _ _)
   | (with_reducible exact w9_head.mono _)
   | (with_reducible exact r4_SameInts.mono _ _ _)
   | (with_reducible exact r9_Right.mono _ _ _ _ _ _)
   | (with_reducible exact LeO.refl _)
   | (with_reducible exact LeO.none _)
   | (with_reducible refine LeO.ite ?_ ?_)
   | (with_reducible refine LeO.bind ?_ (fun _ => ?_))
   | exact ih0 _ _ _ _ _ _ _ _ _ _
   | exact ih1 _ _ _ _ _ _ _ _ _ _ _ _
   | exact ih2 _ _ _ _ _ _ _ _ _ _ _ _ _
   | exact ih3 _ _ _ _ _ _ _ _ _
   | exact net_Eval.mono _ _ _ _ _ _ _ _
   | exact net_Right.mono _ _ _ _ _ _
   | exact w9_Rows.mono _ _ _ _ _ _ _ _
   | exact w9_head.mono _
   | exact r4_SameInts.mono _ _ _
   | exact r9_Right.mono _ _ _ _ _ _
   | exact LeO.none _
   | refine LeO.ite ?_ ?_
   | refine LeO.bind ?_ (fun _ => ?_)
  ·intro y0 y1 y2 y3 y4 y5 y6 y7 y8
   unfold w9_NetAhead.j3
   repeat' first
   | (with_reducible exact ih0 _ _ _ _ _ _ _ _ _ _)
   | (with_reducible exact ih1 _ _ _ _ _ _ _ _ _ _ _ _)
   | (with_reducible exact ih2 _ _ _ _ _ _ _ _ _ _ _ _ _)
   | (with_reducible exact ih3 _ _ _ _ _ _ _ _ _)
   | (with_reducible exact net_Eval.mono _ _ _ _ _ _ _ _)
   | (with_reducible exact net_Right.mono _ _ _ _ _ _)
   | (with_reducible exact w9_Rows.mono _ _ _ _ _ _ _ _)
   | (with_reducible exact w9_head.mono _)
   | (with_reducible exact r4_SameInts.mono _ _ _)
   | (with_reducible exact r9_Right.mono _ _ _ _ _ _)
   | (with_reducible exact LeO.refl _)
   | (with_reducible exact LeO.none _)
   | (with_reducible refine LeO.ite ?_ ?_)
   | (with_reducible refine LeO.bind ?_ (fun _ => ?_))
   | exact ih0 _ _ _ _ _ _ _ _ _ _
   | exact ih1 _ _ _ _ _ _ _ _ _ _ _ _
   | exact ih2 _ _ _ _ _ _ _ _ _ _ _ _ _
   | exact ih3 _ _ _ _ _ _ _ _ _
   | exact net_Eval.mono _ _ _ _ _ _ _ _
   | exact net_Right.mono _ _ _ _ _ _
   | exact w9_Rows.mono _ _ _ _ _ _ _ _
   | exact w9_head.mono _
   | exact r4_SameInts.mono _ _ _
   | exact r9_Right.mono _ _ _ _ _ _
   | exact LeO.none _
   | refine LeO.ite ?_ ?_
   | refine LeO.bind ?_ (fun _ => ?_)
theorem w9_NetAhead.mono : ∀ a0 a1 a2 a3 a4 a5 a6 a7 k, LeO (w9_NetAhead.f k a0 a1 a2 a3 a4 a5 a6 a7) (w9_NetAhead.f (k + 1) a0 a1 a2 a3 a4 a5 a6 a7) := by
 intro a0 a1 a2 a3 a4 a5 a6 a7 k
 obtain ⟨ih1, ih2, ih3, ih4⟩ := w9_NetAhead.mono_l k
 unfold w9_NetAhead.f
 repeat' first
   | (with_reducible exact ih1 _ _ _ _ _ _ _ _ _ _)
   | (with_reducible exact ih2 _ _ _ _ _ _ _ _ _ _ _ _)
   | (with_reducible exact ih3 _ _ _ _ _ _ _ _ _ _ _ _ _)
   | (with_reducible exact ih4 _ _ _ _ _ _ _ _ _)
   | (with_reducible exact net_Eval.mono _ _ _ _ _ _ _ _)
   | (with_reducible exact net_Right.mono _ _ _ _ _ _)
   | (with_reducible exact w9_Rows.mono _ _ _ _ _ _ _ _)
   | (with_reducible exact w9_head.mono _)
   | (with_reducible exact r4_SameInts.mono _ _ _)
   | (with_reducible exact r9_Right.mono _ _ _ _ _ _)
   | (with_reducible exact LeO.refl _)
   | (with_reducible exact LeO.none _)
   | (with_reducible refine LeO.ite ?_ ?_)
   | (with_reducible refine LeO.bind ?_ (fun _ => ?_))
   | exact ih1 _ _ _ _ _ _ _ _ _ _
   | exact ih2 _ _ _ _ _ _ _ _ _ _ _ _
   | exact ih3 _ _ _ _ _ _ _ _ _ _ _ _ _
   | exact ih4 _ _ _ _ _ _ _ _ _
   | exact net_Eval.mono _ _ _ _ _ _ _ _
   | exact net_Right.mono _ _ _ _ _ _
   | exact w9_Rows.mono _ _ _ _ _ _ _ _
   | exact w9_head.mono _
   | exact r4_SameInts.mono _ _ _
   | exact r9_Right.mono _ _ _ _ _ _
   | exact LeO.none _
   | refine LeO.ite ?_ ?_
   | refine LeO.bind ?_ (fun _ => ?_)
def w9_NetAhead.T11 : Bool × List (List Nat × List Nat) := (true, [([], []), ([0], [0]), ([], []), ([2], [2]), ([], []), ([3, 4], [3, 4]), ([5], [5]), ([6], [6]), ([1, 7], [1, 7]), ([0, 1, 2, 3, 4, 5, 6, 7, 8], []), ([9, 8, 8, 0, 1, 2, 3, 4, 5, 6, 7, 8], [8, 9])])
def w9_NetAhead.B11 : List Nat := [0, 1, 0, 4, 0, 28, 60, 124, 255, 511, 1023]
theorem w9_NetAhead.tab11 : rtab .any (opsOf Try.f5 11) = w9_NetAhead.T11 := by kernel_rfl
theorem w9_NetAhead.bits11 : waitsOk w9_NetAhead.T11.2 w9_NetAhead.B11 = true := by kernel_rfl
def w9_NetAhead.T23 : Bool × List (List Nat × List Nat) := (true, [([], []), ([0], [0]), ([1], [1]), ([1], [1]), ([1], [1]), ([4, 1], [1, 4]), ([5, 1], [1, 5]), ([3, 6, 1], [1, 3, 6]), ([1], [1]), ([1], [1]), ([9, 1], [1, 9]), ([10, 1], [1, 10]), ([8, 11, 1], [1, 8, 11]), ([2, 7, 12, 1, 1], [1, 2, 7, 12]), ([1], [1]), ([1], [1]), ([14, 15, 1], [1, 14, 15]), ([13, 16, 13, 1], [1, 13, 16]), ([1, 17], [1, 17]), ([18, 17, 0, 1, 2, 3, 4, 5, 6, 7, 8, 9, 10, 11, 12, 13, 14, 15, 16, 17, 18], [18])])
def w9_NetAhead.B23 : List Nat := [0, 1, 3, 3, 3, 19, 51, 123, 3, 3, 515, 1539, 3843, 8191, 3, 3, 49155, 131071, 262143, 524287]
theorem w9_NetAhead.tab23 : rtab .any (opsOf Try.f5 23) = w9_NetAhead.T23 := by kernel_rfl
theorem w9_NetAhead.bits23 : waitsOk w9_NetAhead.T23.2 w9_NetAhead.B23 = true := by kernel_rfl
theorem zcl4 {P : Program} {ops : Array Oper} {Q : Exit → Act → World → Prop} {rest : List Oper} {o : Oper} {a : Act} {W : World} {g : Nat} {t : TypeId} {x0 x1 x2 x3 : Value} (hb : W.heap[g]? = some (.cells #[x0, x1, x2, x3] t (0, 0)))
  (h : W.cell? ⟨g, 0, none⟩ = some x0 → W.cell? ⟨g, 1, none⟩ = some x1 → W.cell? ⟨g, 2, none⟩ = some x2 → W.cell? ⟨g, 3, none⟩ = some x3 → wpList P ops Q (o :: rest) a W) : wpList P ops Q (o :: rest) a W := by
 obtain ⟨h0, h1, h2, h3, -⟩ := cells4_85 hb
 exact h h0 h1 h2 h3
set_option maxHeartbeats 8000000 in
set_option maxRecDepth 100000 in
theorem w9_NetAhead.calls (k : Nat) (A0_0 : Option Addr) (c0_0 : Nat) (l0_0 : List (S41)) (A0_1 : Option Addr) (c0_1 : Nat) (l0_1 : List (S47)) (A0_2 : Option Addr) (c0_2 : Nat) (l0_2 : List (S43)) (A0_3 : Option Addr) (c0_3 : Nat) (l0_3 : List (S61)) (A0_4 : Option Addr) (c0_4 : Nat) (l0_4 : List (S47)) (a1 : Int) (A2 : Option Addr) (c2 : Nat) (l2 : List Int) (A3 : Option Addr) (c3 : Nat) (l3 : List Int) (r : Bool) (w : World) (hr0_0 : Kd.C k41 w A0_0 l0_0.length l0_0) (hc0_0 : l0_0.length ≤ c0_0) (hr0_1 : Kd.C k47 w A0_1 l0_1.length l0_1) (hc0_1 : l0_1.length ≤ c0_1) (hr0_2 : Kd.C k43 w A0_2 l0_2.length l0_2) (hc0_2 : l0_2.length ≤ c0_2) (hr0_3 : Kd.C k61 w A0_3 l0_3.length l0_3) (hc0_3 : l0_3.length ≤ c0_3) (hr0_4 : Kd.C k47 w A0_4 l0_4.length l0_4) (hc0_4 : l0_4.length ≤ c0_4) (hr2 : Kd.C (Kd.int .u16) w A2 l2.length l2) (hc2 : l2.length ≤ c2) (hr3 : Kd.C (Kd.int .u16) w A3 l3.length l3) (hc3 : l3.length ≤ c3) (h : w9_NetAhead.f k l0_0 l0_1 l0_2 l0_3 l0_4 a1 l2 l3 = some r) :
  Calls Try.prog 5 #[.agg #[.slice A0_0 l0_0.length c0_0, .slice A0_1 l0_1.length c0_1, .slice A0_2 l0_2.length c0_2, .slice A0_3 l0_3.length c0_3, .slice A0_4 l0_4.length c0_4], .int .u16 a1, .slice A2 l2.length c2, .slice A3 l3.length c3] w fun e w' => e = .returned (.bool r) ∧ Below w.heap.size w w' := by
 have hu1 := Try.underlying27
 have hu1 := Try.underlying47
 have hu1 := Try.underlying43
 have HR1_0 := aM hr0_0
 have HC1_0 := aM hc0_0
 clear hr0_0 hc0_0
 have HR1_1 := aM hr0_1
 have HC1_1 := aM hc0_1
 clear hr0_1 hc0_1
 have HR1_2 := aM hr0_2
 have HC1_2 := aM hc0_2
 clear hr0_2 hc0_2
 have HR1_3 := aM hr0_3
 have HC1_3 := aM hc0_3
 clear hr0_3 hc0_3
 have HR1_4 := aM hr0_4
 have HC1_4 := aM hc0_4
 clear hr0_4 hc0_4
 have HR1 := aM hr2
 have HC1 := aM hc2
 clear hr2 hc2
 have HR2 := aM hr3
 have HC2 := aM hc3
 clear hr3 hc3
 have HB := aM (Below.refl w.heap.size w)
 have H : ((w9_head.f k).bind fun t1 => ((w9_Great.f l0_0 l0_1 l0_2 l0_3 l0_4).bind fun t2 => (if t2 = true then (w9_NetAhead.j0 k a1 l2 l3 t1 true l0_0 l0_1 l0_2 l0_3 l0_4) else ((r9_Right.f k l0_0 l0_1 l0_2 l0_3 l0_4).bind fun t3 => (if t3 = true then (w9_NetAhead.j0 k a1 l2 l3 t1 ((l0_0.length : Int) == 0) l0_0 l0_1 l0_2 l0_3 l0_4) else (w9_NetAhead.j0 k a1 l2 l3 t1 true l0_0 l0_1 l0_2 l0_3 l0_4)))))) = some r := h
 clear h
 replace H := Option.bind_eq_some_iff.mp H
 obtain ⟨t1, A1, H⟩ := H
 have A4 := aM A1
 clear A1
 have HC3 := aM H
 clear H
 go_enter Try.func5, Try.ntmps5
 go_upto_region 2 with (first | ((with_reducible refine gate_dst (N := 4) rfl ?_); (try (refine gate_guard (by rfl) ?_; dsimp only)); refine box_event ?hg (N := 4) ?hd (cs := #[.slice A0_0 l0_0.length c0_0, .slice A0_1 l0_1.length c0_1, .slice A0_2 l0_2.length c0_2, .slice A0_3 l0_3.length c0_3, .slice A0_4 l0_4.length c0_4]) (t := 27) ?hr ?_; (case hd => rfl); (case hg => rfl); (case hr => exact q27z); intro gb1 hg w2 hbox hb; have BK1 := aM (hbox); have GW1 := aM ((q7z HB : w.heap.size ≤ gb1)); have GE1 := aM ((q7z HB : w.heap.size ≤ gb1)); replace HB := aM (ym (q4z HB) hb); clear hb hbox hg) | ((with_reducible refine zgc 10 rfl ?_); refine zgl (some 18) Try.func10 #[] ?_; (with_reducible refine (w9_head.calls k  t1 _ A4.out).mono ?_); rintro e w3 ⟨rfl, hb⟩; refine ⟨_, rfl, ?_⟩; replace BK1 := aM (yi (zi BK1) hb); replace HB := aM (ym (q3z HB GE1) hb); (try clear hb); (try clear hb2); (try clear hk); (try clear hi)))
 (try simp only [Act.put, yu, yv, yw])
 go_cut [31] (fun v1 wc => ∃ (kq : Nat) (x1_5 : Bool), v1 = .bool x1_5 ∧ Aside0 (w9_NetAhead.j0 kq a1 l2 l3 t1 x1_5 l0_0 l0_1 l0_2 l0_3 l0_4 = some r) ∧ Aside0 (kq ≤ k) ∧ Aside0 (wc.heap[gb1]? = some (.cells #[(.slice A0_0 l0_0.length c0_0), (.slice A0_1 l0_1.length c0_1), (.slice A0_2 l0_2.length c0_2), (.slice A0_3 l0_3.length c0_3), (.slice A0_4 l0_4.length c0_4)] 27 (0, 0))) ∧ Aside0 (Below w.heap.size w wc))
 case first =>
  have H := HC3.out
  clear HC3
  replace H := Option.bind_eq_some_iff.mp H
  obtain ⟨t2, A1, H⟩ := H
  have A4 := aM A1
  clear A1
  by_cases c9 : t2 = true
  ·subst c9
   have H1 : (w9_NetAhead.j0 k a1 l2 l3 t1 true l0_0 l0_1 l0_2 l0_3 l0_4) = some r := by rw [if_pos rfl] at H; exact H
   clear H
   have H := H1
   clear H1
   have H' := aM H
   clear H
   obtain ⟨i1_0, i1_1, i1_2, i1_3, i1_4, j1_0, j1_1, j1_2, j1_3, j1_4⟩ := cells5_85 BK1.out
   go_wp2_with (first | ((with_reducible refine zgc 11 rfl ?_); refine zgl (some 20) Try.func11 #[.agg #[.slice A0_0 l0_0.length c0_0, .slice A0_1 l0_1.length c0_1, .slice A0_2 l0_2.length c0_2, .slice A0_3 l0_3.length c0_3, .slice A0_4 l0_4.length c0_4]] ?_; (with_reducible refine (w9_Great.calls _ _ l0_0 _ _ l0_1 _ _ l0_2 _ _ l0_3 _ _ l0_4 true _ ?side1 ?side2 ?side3 ?side4 ?side5 ?side6 ?side7 ?side8 ?side9 ?side10 A4.out).mono ?_); (case side1 => exact q1z HR1_0 HB); (case side2 => exact HC1_0.out); (case side3 => exact q1z HR1_1 HB); (case side4 => exact HC1_1.out); (case side5 => exact q1z HR1_2 HB); (case side6 => exact HC1_2.out); (case side7 => exact q1z HR1_3 HB); (case side8 => exact HC1_3.out); (case side9 => exact q1z HR1_4 HB); (case side10 => exact HC1_4.out); rintro e w2 ⟨rfl, hb⟩; refine ⟨_, rfl, ?_⟩; replace BK1 := aM (yi (zi BK1) hb); replace HB := aM (ym (q3z HB GE1) hb); (try clear hb); (try clear hb2); (try clear hk); (try clear hi)))
   go_meet
   case rel => exact ⟨_, (true), q13z, H', ⟨q51z⟩, ⟨q10z BK1⟩, ⟨q3z HB GE1⟩⟩
  ·replace c9 := Bool.eq_false_iff.mpr c9
   subst c9
   have H1 : ((r9_Right.f k l0_0 l0_1 l0_2 l0_3 l0_4).bind fun t3 => (if t3 = true then (w9_NetAhead.j0 k a1 l2 l3 t1 ((l0_0.length : Int) == 0) l0_0 l0_1 l0_2 l0_3 l0_4) else (w9_NetAhead.j0 k a1 l2 l3 t1 true l0_0 l0_1 l0_2 l0_3 l0_4))) = some r := by rw [if_neg (show ¬ (false = true) by decide)] at H; exact H
   clear H
   have H := H1
   clear H1
   replace H := Option.bind_eq_some_iff.mp H
   obtain ⟨t3, A1, H⟩ := H
   have A5 := aM A1
   clear A1
   by_cases c9 : t3 = true
   ·subst c9
    have H1 : (w9_NetAhead.j0 k a1 l2 l3 t1 ((l0_0.length : Int) == 0) l0_0 l0_1 l0_2 l0_3 l0_4) = some r := by rw [if_pos rfl] at H; exact H
    clear H
    have H := H1
    clear H1
    have H' := aM H
    clear H
    obtain ⟨i1_0, i1_1, i1_2, i1_3, i1_4, j1_0, j1_1, j1_2, j1_3, j1_4⟩ := cells5_85 BK1.out
    go_wp2_with (first | ((with_reducible refine zgc 11 rfl ?_); refine zgl (some 20) Try.func11 #[.agg #[.slice A0_0 l0_0.length c0_0, .slice A0_1 l0_1.length c0_1, .slice A0_2 l0_2.length c0_2, .slice A0_3 l0_3.length c0_3, .slice A0_4 l0_4.length c0_4]] ?_; (with_reducible refine (w9_Great.calls _ _ l0_0 _ _ l0_1 _ _ l0_2 _ _ l0_3 _ _ l0_4 false _ ?side1 ?side2 ?side3 ?side4 ?side5 ?side6 ?side7 ?side8 ?side9 ?side10 A4.out).mono ?_); (case side1 => exact q1z HR1_0 HB); (case side2 => exact HC1_0.out); (case side3 => exact q1z HR1_1 HB); (case side4 => exact HC1_1.out); (case side5 => exact q1z HR1_2 HB); (case side6 => exact HC1_2.out); (case side7 => exact q1z HR1_3 HB); (case side8 => exact HC1_3.out); (case side9 => exact q1z HR1_4 HB); (case side10 => exact HC1_4.out); rintro e w2 ⟨rfl, hb⟩; refine ⟨_, rfl, ?_⟩; replace BK1 := aM (yi (zi BK1) hb); replace HB := aM (ym (q3z HB GE1) hb); (try clear hb); (try clear hb2); (try clear hk); (try clear hi); obtain ⟨i1_0, i1_1, i1_2, i1_3, i1_4, j1_0, j1_1, j1_2, j1_3, j1_4⟩ := cells5_85 BK1.out) | (go_at_call 13; (with_reducible refine (r9_Right.calls k _ _ l0_0 _ _ l0_1 _ _ l0_2 _ _ l0_3 _ _ l0_4 true _ ?side1 ?side2 ?side3 ?side4 ?side5 ?side6 ?side7 ?side8 ?side9 ?side10 A5.out).mono ?_); (case side1 => exact q1z HR1_0 HB); (case side2 => exact HC1_0.out); (case side3 => exact q1z HR1_1 HB); (case side4 => exact HC1_1.out); (case side5 => exact q1z HR1_2 HB); (case side6 => exact HC1_2.out); (case side7 => exact q1z HR1_3 HB); (case side8 => exact HC1_3.out); (case side9 => exact q1z HR1_4 HB); (case side10 => exact HC1_4.out); rintro e w3 ⟨rfl, hb⟩; replace BK1 := aM (yi (zi BK1) hb); replace HB := aM (ym (q3z HB GE1) hb); (try clear hb); (try clear hb2); (try clear hk); (try clear hi); obtain ⟨i2_0, i2_1, i2_2, i2_3, i2_4, j2_0, j2_1, j2_2, j2_3, j2_4⟩ := cells5_85 BK1.out))
    go_meet
    case rel => exact ⟨_, (((l0_0.length : Int) == 0)), q13z, H', ⟨q51z⟩, ⟨q10z BK1⟩, ⟨q3z HB GE1⟩⟩
   ·replace c9 := Bool.eq_false_iff.mpr c9
    subst c9
    have H1 : (w9_NetAhead.j0 k a1 l2 l3 t1 true l0_0 l0_1 l0_2 l0_3 l0_4) = some r := by rw [if_neg (show ¬ (false = true) by decide)] at H; exact H
    clear H
    have H := H1
    clear H1
    have H' := aM H
    clear H
    obtain ⟨i1_0, i1_1, i1_2, i1_3, i1_4, j1_0, j1_1, j1_2, j1_3, j1_4⟩ := cells5_85 BK1.out
    go_wp2_with (first | ((with_reducible refine zgc 11 rfl ?_); refine zgl (some 20) Try.func11 #[.agg #[.slice A0_0 l0_0.length c0_0, .slice A0_1 l0_1.length c0_1, .slice A0_2 l0_2.length c0_2, .slice A0_3 l0_3.length c0_3, .slice A0_4 l0_4.length c0_4]] ?_; (with_reducible refine (w9_Great.calls _ _ l0_0 _ _ l0_1 _ _ l0_2 _ _ l0_3 _ _ l0_4 false _ ?side1 ?side2 ?side3 ?side4 ?side5 ?side6 ?side7 ?side8 ?side9 ?side10 A4.out).mono ?_); (case side1 => exact q1z HR1_0 HB); (case side2 => exact HC1_0.out); (case side3 => exact q1z HR1_1 HB); (case side4 => exact HC1_1.out); (case side5 => exact q1z HR1_2 HB); (case side6 => exact HC1_2.out); (case side7 => exact q1z HR1_3 HB); (case side8 => exact HC1_3.out); (case side9 => exact q1z HR1_4 HB); (case side10 => exact HC1_4.out); rintro e w2 ⟨rfl, hb⟩; refine ⟨_, rfl, ?_⟩; replace BK1 := aM (yi (zi BK1) hb); replace HB := aM (ym (q3z HB GE1) hb); (try clear hb); (try clear hb2); (try clear hk); (try clear hi); obtain ⟨i1_0, i1_1, i1_2, i1_3, i1_4, j1_0, j1_1, j1_2, j1_3, j1_4⟩ := cells5_85 BK1.out) | (go_at_call 13; (with_reducible refine (r9_Right.calls k _ _ l0_0 _ _ l0_1 _ _ l0_2 _ _ l0_3 _ _ l0_4 false _ ?side1 ?side2 ?side3 ?side4 ?side5 ?side6 ?side7 ?side8 ?side9 ?side10 A5.out).mono ?_); (case side1 => exact q1z HR1_0 HB); (case side2 => exact HC1_0.out); (case side3 => exact q1z HR1_1 HB); (case side4 => exact HC1_1.out); (case side5 => exact q1z HR1_2 HB); (case side6 => exact HC1_2.out); (case side7 => exact q1z HR1_3 HB); (case side8 => exact HC1_3.out); (case side9 => exact q1z HR1_4 HB); (case side10 => exact HC1_4.out); rintro e w3 ⟨rfl, hb⟩; replace BK1 := aM (yi (zi BK1) hb); replace HB := aM (ym (q3z HB GE1) hb); (try clear hb); (try clear hb2); (try clear hk); (try clear hi)))
    go_meet
    case rel => exact ⟨_, (true), q13z, H', ⟨q51z⟩, ⟨q10z BK1⟩, ⟨q3z HB GE1⟩⟩
 case rest =>
  clear HC3
  try clear c1
  try clear c2
  try clear p2
  try clear c3
  try clear c5
  try clear c9
  try clear c11
  try clear c10
  try clear i1_0 i1_1 i1_2 i1_3 i1_4
  try clear i2_0 i2_1 i2_2 i2_3 i2_4
  try clear i3_0 i3_1 i3_2 i3_3 i3_4
  try clear i4_0 i4_1 i4_2 i4_3 i4_4
  try clear i5_0 i5_1 i5_2 i5_3 i5_4
  try clear i6_0 i6_1 i6_2 i6_3 i6_4
  try clear j1_0 j1_1 j1_2 j1_3 j1_4
  try clear j2_0 j2_1 j2_2 j2_3 j2_4
  try clear j3_0 j3_1 j3_2 j3_3 j3_4
  try clear j4_0 j4_1 j4_2 j4_3 j4_4
  try clear j5_0 j5_1 j5_2 j5_3 j5_4
  try clear j6_0 j6_1 j6_2 j6_3 j6_4
  obtain ⟨kq, x1_5, rfl, HA, HJ1, BK1, HB⟩ := hcut
  cases kq with
  | zero => exact absurd HA.out (by simp [w9_NetAhead.j0])
  | succ kj1 =>
   have H := HA.out
   clear HA
   simp only [w9_NetAhead.j0] at H
   by_cases c13 : x1_5 = true
   ·subst c13
    have H1 : (some t1) = some r := by rw [if_pos rfl] at H; exact H
    clear H
    have H := H1
    clear H1
    obtain rfl := Option.some.inj H
    go_wp2
    go_ret
    exact ⟨q11z, q3z HB GE1⟩
   ·replace c13 := Bool.eq_false_iff.mpr c13
    subst c13
    have H1 : (if (l0_0.length : Int) = 0 then (none) else ((some (([] : List (S41)) : List (S41))).bind fun y1 => (if 0 ≤ (wrap64 ((Int.tmod (wrap64 (a1)) (l0_0.length : Int)) + 1)) then (if (wrap64 ((Int.tmod (wrap64 (a1)) (l0_0.length : Int)) + 1)) ≤ (l0_0.length : Int) then ((some (l0_0.take ((wrap64 ((Int.tmod (wrap64 (a1)) (l0_0.length : Int)) + 1)) : Int).toNat : List (S41))).bind fun y2 => (if y1.length + y2.length < 2513169434916 then (w9_NetAhead.l0 kj1 l2 l3 t1 (wrap64 ((Int.tmod (wrap64 (a1)) (l0_0.length : Int)) + 1)) 0 l0_0 l0_1 l0_2 l0_3 l0_4 (y1 ++ y2) ([] : List (S47))) else (none))) else (none)) else (none)))) = some r := by rw [if_neg (show ¬ (false = true) by decide)] at H; exact H
    clear H
    have H := H1
    clear H1
    by_cases c14 : (l0_0.length : Int) = 0
    ·rw [if_pos c14] at H
     exact absurd H (by simp)
    ·rw [if_neg c14] at H
     obtain ⟨c1b0, c1b1⟩ := zne c14
     have c1b2 : ¬ (l0_0 = []) := fun h_ => c14 (by rw [h_]; rfl)
     obtain ⟨y1, hy1⟩ : ∃ y_ : List (S41), y_ = (([] : List (S41))) := ⟨_, rfl⟩
     replace H : (if 0 ≤ (wrap64 ((Int.tmod (wrap64 (a1)) (l0_0.length : Int)) + 1)) then (if (wrap64 ((Int.tmod (wrap64 (a1)) (l0_0.length : Int)) + 1)) ≤ (l0_0.length : Int) then ((some (l0_0.take ((wrap64 ((Int.tmod (wrap64 (a1)) (l0_0.length : Int)) + 1)) : Int).toNat : List (S41))).bind fun y2 => (if y1.length + y2.length < 2513169434916 then (w9_NetAhead.l0 kj1 l2 l3 t1 (wrap64 ((Int.tmod (wrap64 (a1)) (l0_0.length : Int)) + 1)) 0 l0_0 l0_1 l0_2 l0_3 l0_4 (y1 ++ y2) ([] : List (S47))) else (none))) else (none)) else (none)) = some r := by first | (rw [hy1]; with_reducible exact H) | (have H1_ := (Option.bind_some _ _).symm.trans H; rw [hy1]; with_reducible exact H1_) | (have H1_ := (Option.bind_some _ _).symm.trans H; with_reducible exact H1_) | with_reducible exact H | (rw [hy1]; exact H) | exact H
     have Ny1 := aM hy1
     clear hy1
     obtain ⟨ji1, hji1⟩ : ∃ j_ : Int, (wrap64 ((Int.tmod (wrap64 (a1)) (l0_0.length : Int)) + 1)) = j_ := ⟨_, rfl⟩
     replace H : (if 0 ≤ (ji1) then (if (ji1) ≤ (l0_0.length : Int) then ((some (l0_0.take ((ji1) : Int).toNat : List (S41))).bind fun y2 => (if y1.length + y2.length < 2513169434916 then (w9_NetAhead.l0 kj1 l2 l3 t1 ji1 0 l0_0 l0_1 l0_2 l0_3 l0_4 (y1 ++ y2) ([] : List (S47))) else (none))) else (none)) else (none)) = some r := by first | (rw [hji1] at H; exact H) | (simp only [hji1] at H ⊢; exact H)
     have hji1w : (IntKind.i64.wrap ((Int.tmod (wrap64 (a1)) (l0_0.length : Int)) + 1)) = ji1 := (i64_w _).trans hji1
     by_cases c15 : 0 ≤ (ji1)
     ·rw [if_pos c15] at H
      have c2b0 := eq_true c15
      have c2b1 : decide (0 ≤ (ji1)) = true := decide_eq_true c15
      clear c15
      by_cases c17 : (ji1) ≤ (l0_0.length : Int)
      ·rw [if_pos c17] at H
       have c3b0 := eq_true c17
       have c3b1 : decide ((ji1) ≤ (l0_0.length : Int)) = true := decide_eq_true c17
       clear c17
       obtain ⟨y2, hy1⟩ : ∃ y_ : List (S41), y_ = (l0_0.take ((ji1) : Int).toNat) := ⟨_, rfl⟩
       replace H : (if y1.length + y2.length < 2513169434916 then (w9_NetAhead.l0 kj1 l2 l3 t1 ji1 0 l0_0 l0_1 l0_2 l0_3 l0_4 (y1 ++ y2) ([] : List (S47))) else (none)) = some r := by first | (rw [hy1]; with_reducible exact H) | (have H1_ := (Option.bind_some _ _).symm.trans H; rw [hy1]; with_reducible exact H1_) | (have H1_ := (Option.bind_some _ _).symm.trans H; with_reducible exact H1_) | with_reducible exact H | (rw [hy1]; exact H) | exact H
       have Ny2 := aM hy1
       clear hy1
       by_cases c18 : y1.length + y2.length < 2513169434916
       ·rw [if_pos c18] at H
        have LMc1 := aM c18
        clear c18
        obtain ⟨y3, hy1⟩ : ∃ y_ : List (S41), y_ = (y1 ++ y2) := ⟨_, rfl⟩
        replace H : (w9_NetAhead.l0 kj1 l2 l3 t1 ji1 0 l0_0 l0_1 l0_2 l0_3 l0_4 y3 ([] : List (S47))) = some r := by first | (rw [hy1]; with_reducible exact H) | (have H1_ := (Option.bind_some _ _).symm.trans H; rw [hy1]; with_reducible exact H1_) | (have H1_ := (Option.bind_some _ _).symm.trans H; with_reducible exact H1_) | with_reducible exact H | (rw [hy1]; exact H) | exact H
        have Ny3 := aM hy1
        clear hy1
        have H' := aM H
        clear H
        obtain ⟨i7_0, i7_1, i7_2, i7_3, i7_4, j7_0, j7_1, j7_2, j7_3, j7_4⟩ := cells5_85 BK1.out
        go_wp2_with (first | ((with_reducible refine gate_dst (N := 11) rfl ?_); (try (refine gate_guard (by rfl) ?_; dsimp only)); refine box_event ?hg (N := 11) ?hd (cs := #[.slice none 0 0, .slice none 0 0, .slice none 0 0, .slice none 0 0, .slice none 0 0]) (t := 27) ?hr ?_; (case hd => rfl); (case hg => rfl); (case hr => exact q27z); intro gb2 hg w2 hbox hb; have BK2 := aM (hbox); have GW1 := aM ((q14z HB GE1 : w.heap.size ≤ gb2)); have GE2 := aM ((q14z HB GE1 : w.heap.size ≤ gb2)); replace HB := aM (ym (q3z HB GE1) hb); have NB1_551 := aM ((q38z BK1 : gb1 ≠ gb2)); have NB1_547 := aM ((q39z BK1 : gb2 ≠ gb1)); replace BK1 := aM (yi (zi BK1) hb); clear hb hbox hg) | ((with_reducible refine gate_dst (N := 40) rfl ?_); (try (refine gate_guard (by rfl) ?_; dsimp only)); refine Kd.R_lit k41 _ 41 ?hg (N := 40) ?hd (xs := ([] : List (S41))) (inner := []) (ok := fun _ => True) (okp := fun _ => True) ?hr ?hp (fun _ hk => hk) trivial (Below.refl _ _) (Nat.le_refl _) (by simp) ?_; (case hd => rfl); (case hg => rfl); (case hr => exact q27z); (case hp => exact (Reps.none _ _)); intro v1 w3 ho1 hb hg_ hnew_; clear hg_ hnew_; (first | rw [← Ny1.out] at ho1 | (simp only [Int.reduceToNat] at ho1; rw [← Ny1.out] at ho1)); have HO1 := aM (Kd.R_lower ho1 (yn (q5z HB GE1 GE2))); replace BK1 := aM (yi (zi BK1) hb); replace BK2 := aM (yi (zi BK2) hb); replace HB := aM (ym (q5z HB GE1 GE2) hb); clear hb ho1; have hnb1 := NB1_551.out; have hnc1 := NB1_547.out; obtain ⟨i8_0, i8_1, i8_2, i8_3, i8_4, j8_0, j8_1, j8_2, j8_3, j8_4⟩ := cells5_85 BK1.out; have q1 : ((ji1) : Int) ≤ ((l0_0.length : Int) : Int) := zod; obtain ⟨i1, hi1, _, hsz1, _⟩ := info_parts info41; have hroom1 : l0_0.length ≤ c0_0 := HC1_0.out; have hC1 : Kd.C k41 _ A0_0 l0_0.length l0_0 := HR1_0.out; have hcut1 := cut_to (P := Try.prog) 22 41 .i64 Try.underlying22 hi1 A0_0 l0_0.length c0_0 (ji1) (of_decide_eq_true q75z) q1 hroom1; have hr1 := Kd.C_take (m := ((ji1) : Int).toNat) hC1 (by omega); have hy1 : y2.length = ((ji1) : Int).toNat := (by rw [Ny2.out, List.length_take]; omega); rw [← Ny2.out] at hr1; rw [← hy1] at hcut1; have HR3 := aM hr1; have HC3 := aM (show y2.length ≤ c0_0 from by omega); clear hr1 hC1 hroom1 hi1 hsz1; have KY1 := aM hy1; clear hy1; replace q1 := eq_true q1) | ((with_reducible refine gate_builtin (b := .append) (xs := #[.tmp 40, .tmp 44]) rfl ?_); (try (refine gate_guard (by rfl) ?_; dsimp only)); at_builtin; refine Kd.R_append_rows k41 (w0 := w) w.heap.size rfl (.tmp 40) (.tmp 44) 22 41 (.agg #[(.int .i64 0), (.int .i64 0), (.int .i64 0), (.int .i64 0), (.int .i64 0), (.int .i64 0), (.int .i64 0)]) 56 rfl Try.underlying22 info41 rfl (by decide) (by omega) v1 y1 y2 _ _ _ (fun _ => True) (fun _ => False) rfl rfl ?aO ?aR (fun _ _ h => h) (fun _ h => h.elim) ?aF ?aB ?aS ?aL ?_; (case aR => exact q1z HR3 HB); (case aB => exact q76z HB GE1 GE2); (case aF => exact q94z); (case aO => exact q45z HO1); (case aS => exact q73z HB GE1 GE2); (case aL => have := LMc1.out; omega); intro v2 w4 ho hb hg hat; rw [← Ny3.out] at ho; replace BK1 := aM (blk_grown (g := gb1) (o := .cells #[.slice A0_0 l0_0.length c0_0, .slice A0_1 l0_1.length c0_1, .slice A0_2 l0_2.length c0_2, .slice A0_3 l0_3.length c0_3, .slice A0_4 l0_4.length c0_4] 27 (0, 0)) (zi BK1) hg (Kd.R_ne HO1.out BK1.out (by decide))); replace BK2 := aM (blk_grown (g := gb2) (o := .cells #[.slice none 0 0, .slice none 0 0, .slice none 0 0, .slice none 0 0, .slice none 0 0] 27 (0, 0)) (zi BK2) hg (Kd.R_ne HO1.out BK2.out (by decide))); replace HB := aM (hb); have HO2 := aM (ho); clear HO1; clear ho hb hg hat; obtain ⟨Ao1, co1, eo1⟩ := Kd.R_slice HO2.out; subst eo1; obtain ⟨i9_0, i9_1, i9_2, i9_3, i9_4, j9_0, j9_1, j9_2, j9_3, j9_4⟩ := cells5_85 BK2.out))
        go_loopg [12] kj1 (fun kq v1 w' => ∃ (x1_2 : Int) (x2_2 : List (S47)) (u552001 : Value), v1 = .int .i64 x1_2 ∧ Aside0 (w9_NetAhead.l0 kq l2 l3 t1 ji1 x1_2 l0_0 l0_1 l0_2 l0_3 l0_4 y3 x2_2 = some r) ∧ Aside0 (kq ≤ kj1) ∧ Aside0 (Kd.R k41 41 w' w.heap.size (fun _ => True) (.slice Ao1 y3.length co1) y3) ∧ Aside0 (Kd.R k47 47 w' w.heap.size (fun _ => True) u552001 x2_2) ∧ Aside0 (w'.heap[gb1]? = some (.cells #[(.slice A0_0 l0_0.length c0_0), (.slice A0_1 l0_1.length c0_1), (.slice A0_2 l0_2.length c0_2), (.slice A0_3 l0_3.length c0_3), (.slice A0_4 l0_4.length c0_4)] 27 (0, 0))) ∧ Aside0 (w'.heap[gb2]? = some (.cells #[(.slice Ao1 y3.length co1), u552001, (.slice none 0 0), (.slice none 0 0), (.slice none 0 0)] 27 (0, 0))) ∧ Aside0 (Below w.heap.size w w'))
        case atStart => exact ⟨(0), (([] : List (S47))), (.slice none 0 0), q13z, H', ⟨Nat.le_refl _⟩, ⟨by (with_reducible repeat (first | apply yf | apply yg | apply yh)); exact Kd.R_mono (Kd.R_far (p := ⟨gb2, 0, none⟩) (Kd.R_types HO2.out BK2.out (by decide)) (fun _ hk => hk.2) (.slice Ao1 y3.length co1)) (fun _ hk => trivial)⟩, ⟨q68z⟩, ⟨q40z NB1_551 BK1⟩, ⟨by (with_reducible repeat (first | refine ya ?_ _ | refine yc ?_ | refine yb ?_ _)); refine ys (cs := #[.slice none 0 0, .slice none 0 0, .slice none 0 0, .slice none 0 0, .slice none 0 0]) ?_ 0 _ rfl; (with_reducible repeat (first | refine ya ?_ _ | refine yc ?_ | refine yb ?_ _)); exact BK2.out⟩, ⟨q5z HB GE1 GE2⟩⟩
        case round =>
         clear H'
         try clear c1
         try clear c2
         try clear p2
         try clear c3
         try clear q3
         try clear c5
         try clear p6
         try clear c9
         try clear c11
         try clear c10
         try clear c13
         try clear c14
         try clear c1b0
         try clear c1b1
         try clear c1b2
         try clear c15
         try clear c2b0
         try clear c2b1
         try clear c17
         try clear c3b0
         try clear c3b1
         try clear c18
         try clear c34
         try clear q1
         try clear i1_0 i1_1 i1_2 i1_3 i1_4
         try clear i2_0 i2_1 i2_2 i2_3 i2_4
         try clear i3_0 i3_1 i3_2 i3_3 i3_4
         try clear i4_0 i4_1 i4_2 i4_3 i4_4
         try clear i5_0 i5_1 i5_2 i5_3 i5_4
         try clear i6_0 i6_1 i6_2 i6_3 i6_4
         try clear i7_0 i7_1 i7_2 i7_3 i7_4
         try clear i8_0 i8_1 i8_2 i8_3 i8_4
         try clear i9_0 i9_1 i9_2 i9_3 i9_4
         try clear j1_0 j1_1 j1_2 j1_3 j1_4
         try clear j2_0 j2_1 j2_2 j2_3 j2_4
         try clear j3_0 j3_1 j3_2 j3_3 j3_4
         try clear j4_0 j4_1 j4_2 j4_3 j4_4
         try clear j5_0 j5_1 j5_2 j5_3 j5_4
         try clear j6_0 j6_1 j6_2 j6_3 j6_4
         try clear j7_0 j7_1 j7_2 j7_3 j7_4
         try clear j8_0 j8_1 j8_2 j8_3 j8_4
         try clear j9_0 j9_1 j9_2 j9_3 j9_4
         try clear p2
         try clear q1
         obtain ⟨x1_2, x2_2, u552001, rfl, HA, HK1, HO_1, HO_2, BK1, BK2, HB⟩ := hrel
         cases gk with
         | zero => exact absurd HA.out (by simp [w9_NetAhead.l0])
         | succ k1 =>
          have H := HA.out
          clear HA
          simp only [w9_NetAhead.l0] at H
          by_cases c19 : x1_2 < (l0_1.length : Int)
          ·rw [if_pos c19] at H
           have c4b0 := decide_eq_true c19
           clear c19
           by_cases c21 : 0 ≤ x1_2
           ·rw [if_pos c21] at H
            have c4b0 := decide_eq_true c21
            clear c21
            by_cases c22 : ((rd_T47 l0_1 x1_2).f1) < ji1
            ·rw [if_pos c22] at H
             have c4b0 := decide_eq_true c22
             clear c22
             by_cases c23 : x2_2.length < 5864062014805
             ·rw [if_pos c23] at H
              have LMc1 := aM c23
              clear c23
              obtain ⟨y1, hy1⟩ : ∃ y_ : List (S47), y_ = (x2_2 ++ [(⟨(rd_T47 l0_1 x1_2).f0, (rd_T47 l0_1 x1_2).f1⟩ : S47)]) := ⟨_, rfl⟩
              replace H : (w9_NetAhead.l0 k1 l2 l3 t1 ji1 (wrap64 (x1_2 + 1)) l0_0 l0_1 l0_2 l0_3 l0_4 y3 y1) = some r := by first | (rw [hy1]; with_reducible exact H) | (have H1_ := (Option.bind_some _ _).symm.trans H; rw [hy1]; with_reducible exact H1_) | (have H1_ := (Option.bind_some _ _).symm.trans H; with_reducible exact H1_) | with_reducible exact H | (rw [hy1]; exact H) | exact H
              have Ny1 := aM hy1
              clear hy1
              have H' := aM H
              clear H
              have hnb1 := NB1_551.out
              have hnc1 := NB1_547.out
              obtain ⟨i10_0, i10_1, i10_2, i10_3, i10_4, j10_0, j10_1, j10_2, j10_3, j10_4⟩ := cells5_85 BK1.out
              have p1 : 0 ≤ (x1_2 : Int) := zod
              have q2 : x1_2 < (l0_1.length : Int) := zod
              obtain ⟨ad1, e1, hx1_0, hx1_1⟩ := at_T47 HR1_1.out x1_2 p1 q2
              cases e1
              replace hx1_0 := zx HB hx1_0
              replace hx1_1 := zx HB hx1_1
              replace p1 := eq_true p1
              replace q2 := eq_true q2
              try go_wp2
              replace HO_1 := aM (yh HO_1.out)
              replace HO_2 := aM (yh HO_2.out)
              replace BK1 := aM (yc BK1.out)
              replace BK2 := aM (yc BK2.out)
              replace HB := aM (yk HB.out)
              have p1 : 0 ≤ (x1_2 : Int) := zod
              have q2 : x1_2 < (l0_1.length : Int) := zod
              obtain ⟨ad2, e1, hx1_0, hx1_1⟩ := at_T47 HR1_1.out x1_2 p1 q2
              have hw1_1 := hx1_1
              have hw1_0 := hx1_0
              obtain rfl : ad1 = ad2 := (by injection e1)
              replace hx1_0 := zx HB hx1_0
              replace hx1_1 := zx HB hx1_1
              replace p1 := eq_true p1
              replace q2 := eq_true q2
              refine start_ (n := 11) (S := fun w' => w'.cell? ⟨gb2, 0, none⟩ = some (.slice Ao1 y3.length co1) ∧ w'.cell? ⟨gb2, 1, none⟩ = some (u552001) ∧ w'.cell? ⟨gb2, 2, none⟩ = some (.slice none 0 0) ∧ w'.cell? ⟨gb2, 3, none⟩ = some (.slice none 0 0) ∧ w'.cell? ⟨gb2, 4, none⟩ = some (.slice none 0 0) ∧ w'.cell? ⟨gb1, 0, none⟩ = some (.slice A0_0 l0_0.length c0_0) ∧ w'.cell? ⟨gb1, 1, none⟩ = some (.slice (some ad1) l0_1.length c0_1) ∧ w'.cell? ⟨gb1, 2, none⟩ = some (.slice A0_2 l0_2.length c0_2) ∧ w'.cell? ⟨gb1, 3, none⟩ = some (.slice A0_3 l0_3.length c0_3) ∧ w'.cell? ⟨gb1, 4, none⟩ = some (.slice A0_4 l0_4.length c0_4) ∧ w'.cell? (ad1.add ((x1_2).toNat * 2)) = some (.string ((rd_T47 l0_1 x1_2).f0)) ∧ w'.cell? ⟨(ad1.add ((x1_2).toNat * 2)).block, (ad1.add ((x1_2).toNat * 2)).off + 1, none⟩ = some (.int .i64 ((rd_T47 l0_1 x1_2).f1))) (ds := [10]) (zb 11 0) (by kernel_rfl) rfl rfl ⟨zc BK2 0, zc BK2 1, zc BK2 2, zc BK2 3, zc BK2 4, zc BK1 0, zc BK1 1, zc BK1 2, zc BK1 3, zc BK1 4, (zx HB hw1_0), (zx HB hw1_1)⟩ (fun hHeld => ?_); refine with_tabW w9_NetAhead.tab11 w9_NetAhead.bits11 (fun HT_ HW_ => ?_)
              generalize wr.drew = w2 at HO_1 HO_2 BK1 BK2 HB hx1_0 hx1_1 hHeld ⊢
              refine zpu 0 62 (zb 11 1) ?_
              refine zpu 2 64 (zb 11 5) ?_
              refine zpu 4 66 (zb 11 21) ?_
              refine ztk12 1 63 (zb 11 23) hHeld ?_
              refine ztk12 3 65 (zb 11 31) hHeld ?_
              refine zpu 5 67 (zb 11 63) ?_
              refine ztk12 6 68 (zb 11 127) hHeld ?_
              refine zon 7 (some 69) (zb 11 255) fun K hK => ?_
              refine value_ (w1 := ?_) (v := ?_) (by rfl) rfl ?_ ?_
              rotate_left 2
              ·go_simp
               constructor
               ·rfl
               ·rfl
              refine hK.out _ _ ⟨(blk_cell (yb BK2.out _) 0).trans rfl, (blk_cell (yb BK2.out _) 1).trans rfl, (blk_cell (yb BK2.out _) 2).trans rfl, (blk_cell (yb BK2.out _) 3).trans rfl, (blk_cell (yb BK2.out _) 4).trans rfl, (blk_cell (yb BK1.out _) 0).trans rfl, (blk_cell (yb BK1.out _) 1).trans rfl, (blk_cell (yb BK1.out _) 2).trans rfl, (blk_cell (yb BK1.out _) 3).trans rfl, (blk_cell (yb BK1.out _) 4).trans rfl, (World.cell?_alloc_lt _ _ _ (World.block_lt_of_cell? _ _ ((zx HB hw1_0)))).trans ((zx HB hw1_0)), (World.cell?_alloc_lt _ _ _ (World.block_lt_of_cell? _ _ ((zx HB hw1_1)))).trans ((zx HB hw1_1))⟩ (fun hHeld => ?_)
              clear hK K
              refine zno 69 ?_
              refine zon 8 (some 70) (zb 11 511) fun K hK => ?_
              refine Kd.R_append_step k47 (w0 := w) w.heap.size (by rfl) (.tmp 63) (.tmp 69) 23 47 (.agg #[(.string ⟨#[]⟩), (.int .i64 0)]) 24 rfl Try.underlying23 info47 rfl (by decide) (by omega) u552001 x2_2 (⟨(rd_T47 l0_1 x1_2).f0, (rd_T47 l0_1 x1_2).f1⟩ : S47) [.string ((rd_T47 l0_1 x1_2).f0), .int .i64 ((rd_T47 l0_1 x1_2).f1)] (fun _ => True) (fun _ => False) rfl rfl ?aP (fun _ hk => hk.elim) ?aF ?aO ?aB ?aS ?aL ?_
              (case aP => exact k47_mkM _ _ _ (⟨(rd_T47 l0_1 x1_2).f0, (rd_T47 l0_1 x1_2).f1⟩ : S47))
              (case aB => exact q76z HB GE1 GE2)
              (case aF => exact q94z)
              (case aO => exact q45z HO_2)
              (case aS => exact q73z HB GE1 GE2)
              (case aL => have := LMc1.out; omega)
              intro v1 w2 ho hb hg hat
              rw [← Ny1.out] at ho
              replace HO_1 := aM (Kd.R_over' (q2z HO_1) (Kd.R_typed (q2z HO_2)) (by decide) hg)
              replace BK1 := aM (blk_grown (g := gb1) (o := .cells #[.slice A0_0 l0_0.length c0_0, .slice (some ad1) l0_1.length c0_1, .slice A0_2 l0_2.length c0_2, .slice A0_3 l0_3.length c0_3, .slice A0_4 l0_4.length c0_4] 27 (0, 0)) (zi BK1) hg (Kd.R_ne HO_2.out BK1.out (by decide)))
              replace BK2 := aM (blk_grown (g := gb2) (o := .cells #[.slice Ao1 y3.length co1, u552001, .slice none 0 0, .slice none 0 0, .slice none 0 0] 27 (0, 0)) (zi BK2) hg (Kd.R_ne HO_2.out BK2.out (by decide)))
              replace HB := aM (hb)
              have HO1 := aM (ho)
              clear HO_2
              clear ho hb hg hat
              obtain ⟨Ao2, co2, eo1⟩ := Kd.R_slice HO1.out
              (first | subst eo1 | (injection eo1 with f1_ f2_ f3_; have f4_ := f1_.symm; have f5_ := f3_.symm; clear f1_ f2_ f3_; subst f4_; subst f5_))
              refine hK.out _ _ ⟨zc BK2 0, zc BK2 1, zc BK2 2, zc BK2 3, zc BK2 4, zc BK1 0, zc BK1 1, zc BK1 2, zc BK1 3, zc BK1 4, (zx HB hw1_0), (zx HB hw1_1)⟩ (fun hHeld => ?_)
              clear hK K
              refine zno 70 ?_
              refine zpu 9 71 (zb 11 1023) ?_
              refine zla 10 (none) (zb 11 2047) fun K hK => ?_
              have hs1 : w2.cell? ⟨gb2, 1, none⟩ = some (u552001) := zc BK2 1
              have hfs1 := blk_frozen BK2.out 1
              have hns1_0 := NB1_551.out
              have hms1_0 := NB1_547.out
              refine skip_ (w1 := ?_) (by rfl) rfl ?_ ?_
              rotate_left
              ·go_simp
               rfl
              refine hK.out _ _ ?_
              clear hK K
              refine zdo ?_
              try go_wp2
              go_roundg k1
              case measure => have := HJ1.out; have := HK1.out; omega
              case rel => exact ⟨(wrap64 (x1_2 + 1)), (y1), (.slice Ao2 y1.length co2), q13z, H', ⟨q92z HJ1 HK1⟩, ⟨q85z HO_1 BK2⟩, ⟨q85z HO1 BK2⟩, ⟨q40z NB1_551 BK1⟩, ⟨by (with_reducible repeat (first | refine ya ?_ _ | refine yc ?_ | refine yb ?_ _)); refine ys (cs := #[.slice Ao1 y3.length co1, u552001, .slice none 0 0, .slice none 0 0, .slice none 0 0]) ?_ 1 _ rfl; (with_reducible repeat (first | refine ya ?_ _ | refine yc ?_ | refine yb ?_ _)); exact BK2.out⟩, ⟨q5z HB GE1 GE2⟩⟩
             ·rw [if_neg c23] at H
              exact absurd H (by simp)
            ·rw [if_neg c22] at H
             have c4b0 := decide_eq_false c22
             clear c22
             have H' := aM H
             clear H
             have hnb1 := NB1_551.out
             have hnc1 := NB1_547.out
             obtain ⟨i10_0, i10_1, i10_2, i10_3, i10_4, j10_0, j10_1, j10_2, j10_3, j10_4⟩ := cells5_85 BK1.out
             have p1 : 0 ≤ (x1_2 : Int) := zod
             have q2 : x1_2 < (l0_1.length : Int) := zod
             obtain ⟨ad1, e1, hx1_0, hx1_1⟩ := at_T47 HR1_1.out x1_2 p1 q2
             cases e1
             replace hx1_0 := zx HB hx1_0
             replace hx1_1 := zx HB hx1_1
             replace p1 := eq_true p1
             replace q2 := eq_true q2
             go_wp2
             go_roundg k1
             case measure => have := HJ1.out; have := HK1.out; omega
             case rel => exact ⟨(wrap64 (x1_2 + 1)), (x2_2), (u552001), q13z, H', ⟨q92z HJ1 HK1⟩, ⟨q2z HO_1⟩, ⟨q2z HO_2⟩, ⟨q10z BK1⟩, ⟨q10z BK2⟩, ⟨q5z HB GE1 GE2⟩⟩
           ·rw [if_neg c21] at H
            exact absurd H (by simp)
          ·rw [if_neg c19] at H
           have c4b0 := decide_eq_false c19
           clear c19
           have H' := aM H
           clear H
           have hnb1 := NB1_551.out
           have hnc1 := NB1_547.out
           obtain ⟨i10_0, i10_1, i10_2, i10_3, i10_4, j10_0, j10_1, j10_2, j10_3, j10_4⟩ := cells5_85 BK1.out
           go_wp2
           go_loopg [13] k1 (fun kq v1 w' => ∃ (x1_3 : Int) (x2_3 : List (S43)) (u552002 : Value), v1 = .int .i64 x1_3 ∧ Aside0 (w9_NetAhead.l1 kq l2 l3 t1 ji1 x1_3 l0_0 l0_1 l0_2 l0_3 l0_4 y3 x2_2 x2_3 = some r) ∧ Aside0 (kq ≤ k1) ∧ Aside0 (Kd.R k41 41 w' w.heap.size (fun _ => True) (.slice Ao1 y3.length co1) y3) ∧ Aside0 (Kd.R k47 47 w' w.heap.size (fun _ => True) u552001 x2_2) ∧ Aside0 (Kd.R k43 43 w' w.heap.size (fun _ => True) u552002 x2_3) ∧ Aside0 (w'.heap[gb1]? = some (.cells #[(.slice A0_0 l0_0.length c0_0), (.slice A0_1 l0_1.length c0_1), (.slice A0_2 l0_2.length c0_2), (.slice A0_3 l0_3.length c0_3), (.slice A0_4 l0_4.length c0_4)] 27 (0, 0))) ∧ Aside0 (w'.heap[gb2]? = some (.cells #[(.slice Ao1 y3.length co1), u552001, u552002, (.slice none 0 0), (.slice none 0 0)] 27 (0, 0))) ∧ Aside0 (Below w.heap.size w w'))
           case atStart => exact ⟨(0), (([] : List (S43))), (.slice none 0 0), q13z, H', ⟨Nat.le_refl _⟩, ⟨q2z HO_1⟩, ⟨q2z HO_2⟩, ⟨q68z⟩, ⟨q10z BK1⟩, ⟨q10z BK2⟩, ⟨q5z HB GE1 GE2⟩⟩
           case round =>
            clear H'
            try clear c1
            try clear c2
            try clear p2
            try clear c3
            try clear q3
            try clear c4
            try clear c5
            try clear p5
            try clear q5
            try clear hx5
            try clear p6
            try clear c9
            try clear c11
            try clear c10
            try clear c13
            try clear c14
            try clear c1b0
            try clear c1b1
            try clear c1b2
            try clear c15
            try clear c2b0
            try clear c2b1
            try clear c17
            try clear c3b0
            try clear c3b1
            try clear c18
            try clear c34
            try clear q1
            try clear c19
            try clear c4b0
            try clear c21
            try clear c5b0
            try clear c22
            try clear c6b0
            try clear c23
            try clear c44
            try clear c50
            try clear c52
            try clear i1_0 i1_1 i1_2 i1_3 i1_4
            try clear i2_0 i2_1 i2_2 i2_3 i2_4
            try clear i3_0 i3_1 i3_2 i3_3 i3_4
            try clear i4_0 i4_1 i4_2 i4_3 i4_4
            try clear i5_0 i5_1 i5_2 i5_3 i5_4
            try clear i6_0 i6_1 i6_2 i6_3 i6_4
            try clear i7_0 i7_1 i7_2 i7_3 i7_4
            try clear i8_0 i8_1 i8_2 i8_3 i8_4
            try clear i9_0 i9_1 i9_2 i9_3 i9_4
            try clear i11_0 i11_1 i11_2 i11_3 i11_4
            try clear i12_0 i12_1 i12_2 i12_3 i12_4
            try clear i10_0 i10_1 i10_2 i10_3 i10_4
            try clear j1_0 j1_1 j1_2 j1_3 j1_4
            try clear j2_0 j2_1 j2_2 j2_3 j2_4
            try clear j3_0 j3_1 j3_2 j3_3 j3_4
            try clear j4_0 j4_1 j4_2 j4_3 j4_4
            try clear j5_0 j5_1 j5_2 j5_3 j5_4
            try clear j6_0 j6_1 j6_2 j6_3 j6_4
            try clear j7_0 j7_1 j7_2 j7_3 j7_4
            try clear j8_0 j8_1 j8_2 j8_3 j8_4
            try clear j9_0 j9_1 j9_2 j9_3 j9_4
            try clear j11_0 j11_1 j11_2 j11_3 j11_4
            try clear j12_0 j12_1 j12_2 j12_3 j12_4
            try clear j10_0 j10_1 j10_2 j10_3 j10_4
            try clear hx1_0
            try clear hx1_1
            try clear hx2_0
            try clear hx2_1
            try clear p2
            try clear p1
            try clear p3
            try clear p6
            try clear q3
            try clear q1
            try clear q2
            try clear q4
            obtain ⟨x1_3, x2_3, u552002, rfl, HA, HK2, HO_1, HO_2, HO_3, BK1, BK2, HB⟩ := hrel
            cases gk with
            | zero => exact absurd HA.out (by simp [w9_NetAhead.l1])
            | succ k1 =>
             have H := HA.out
             clear HA
             simp only [w9_NetAhead.l1] at H
             by_cases c24 : x1_3 < (l0_2.length : Int)
             ·rw [if_pos c24] at H
              have c7b0 := decide_eq_true c24
              clear c24
              by_cases c25 : 0 ≤ x1_3
              ·rw [if_pos c25] at H
               have c7b0 := decide_eq_true c25
               clear c25
               by_cases c26 : ((rd_T43 l0_2 x1_3).f1) < ji1
               ·rw [if_pos c26] at H
                have c7b0 := decide_eq_true c26
                clear c26
                by_cases c27 : x2_3.length < 3518437208883
                ·rw [if_pos c27] at H
                 have LMc1 := aM c27
                 clear c27
                 obtain ⟨y1, hy1⟩ : ∃ y_ : List (S43), y_ = (x2_3 ++ [(⟨(rd_T43 l0_2 x1_3).f0, (rd_T43 l0_2 x1_3).f1, (rd_T43 l0_2 x1_3).f1, (rd_T43 l0_2 x1_3).f3⟩ : S43)]) := ⟨_, rfl⟩
                 replace H : (w9_NetAhead.l1 k1 l2 l3 t1 ji1 (wrap64 (x1_3 + 1)) l0_0 l0_1 l0_2 l0_3 l0_4 y3 x2_2 y1) = some r := by first | (rw [hy1]; with_reducible exact H) | (have H1_ := (Option.bind_some _ _).symm.trans H; rw [hy1]; with_reducible exact H1_) | (have H1_ := (Option.bind_some _ _).symm.trans H; with_reducible exact H1_) | with_reducible exact H | (rw [hy1]; exact H) | exact H
                 have Ny1 := aM hy1
                 clear hy1
                 have H' := aM H
                 clear H
                 have hnb1 := NB1_551.out
                 have hnc1 := NB1_547.out
                 obtain ⟨i13_0, i13_1, i13_2, i13_3, i13_4, j13_0, j13_1, j13_2, j13_3, j13_4⟩ := cells5_85 BK1.out
                 have p4 : 0 ≤ (x1_3 : Int) := zod
                 have q6 : x1_3 < (l0_2.length : Int) := zod
                 obtain ⟨ad1, e1, hx3_0, hx3_1, hx1_2, hx1_3⟩ := at_T43 HR1_2.out x1_3 p4 q6
                 cases e1
                 replace hx3_0 := zx HB hx3_0
                 replace hx3_1 := zx HB hx3_1
                 replace hx1_2 := zx HB hx1_2
                 replace hx1_3 := zx HB hx1_3
                 replace p4 := eq_true p4
                 replace q6 := eq_true q6
                 have p4 : 0 ≤ (x1_3 : Int) := zod
                 have q6 : x1_3 < (l0_2.length : Int) := zod
                 obtain ⟨ad2, e1, hx3_0, hx3_1, hx1_2, hx1_3⟩ := at_T43 HR1_2.out x1_3 p4 q6
                 obtain rfl : ad1 = ad2 := (by injection e1)
                 replace hx3_0 := zx HB hx3_0
                 replace hx3_1 := zx HB hx3_1
                 replace hx1_2 := zx HB hx1_2
                 replace hx1_3 := zx HB hx1_3
                 replace p4 := eq_true p4
                 replace q6 := eq_true q6
                 go_wp2_with (first | ((with_reducible refine gate_dst (N := 97) rfl ?_); (fail_if_success (have hq_ := hz97_)); refine zcl4 (g := gb3) (t := 43) (x0 := .string ((rd_T43 l0_2 x1_3).f0)) (x1 := .int .i64 ((rd_T43 l0_2 x1_3).f1)) (x2 := .int .i64 ((rd_T43 l0_2 x1_3).f1)) (x3 := .int .i64 ((rd_T43 l0_2 x1_3).f3)) (q29z BK3) ?_; intro hz97_ hz1_ hz2_ hz3_) | ((with_reducible refine gate_dst (N := 14) rfl ?_); (try (refine gate_guard (by rfl) ?_; dsimp only)); refine box_event ?hg (N := 14) ?hd (cs := #[.string (⟨#[]⟩ : ByteArray), .int .i64 0, .int .i64 0, .int .i64 0]) (t := 43) ?hr ?_; (case hd => rfl); (case hg => rfl); (case hr => exact q27z); intro gb3 hg w2 hbox hb; replace HO_1 := aM (yr (q2z HO_1) hb); replace HO_2 := aM (yr (q2z HO_2) hb); replace HO_3 := aM (yr (Kd.R_elderB (q2z HO_3) gb3 (Nat.le_of_eq hg.symm)) hb); have BK3 := aM (hbox); have GW1 := aM ((q64z HB GE1 GE2 : w.heap.size ≤ gb3)); have GE3 := aM ((q64z HB GE1 GE2 : w.heap.size ≤ gb3)); replace HB := aM (ym (q5z HB GE1 GE2) hb); have NB1_569 := aM ((q38z BK1 : gb1 ≠ gb3)); have NB2_547 := aM ((q39z BK1 : gb3 ≠ gb1)); replace BK1 := aM (yi (zi BK1) hb); have NB2_569 := aM ((q38z BK2 : gb2 ≠ gb3)); have NB2_551 := aM ((q39z BK2 : gb3 ≠ gb2)); replace BK2 := aM (yi (zi BK2) hb); clear hb hbox hg; have hnb1 := NB2_547.out; have hnc1 := NB1_569.out; have hnb2 := NB2_551.out; have hnc2 := NB2_569.out; obtain ⟨i13_0, i13_1, i13_2, i13_3, j13_0, j13_1, j13_2, j13_3⟩ := cells4_85 BK3.out; obtain ⟨i14_0, i14_1, i14_2, i14_3, i13_4, j14_0, j14_1, j14_2, j14_3, j13_4⟩ := cells5_85 BK2.out) | ((with_reducible refine gate_builtin (b := .append) (xs := #[.tmp 96, .tmp 98]) rfl ?_); (try (refine gate_guard (by rfl) ?_; dsimp only)); at_builtin; refine Kd.R_append k43 (w0 := w) w.heap.size rfl (.tmp 96) (.tmp 98) 24 43 (.agg #[(.string ⟨#[]⟩), (.int .i64 0), (.int .i64 0), (.int .i64 0)]) 40 rfl Try.underlying24 info43 rfl (by decide) (by omega) u552002 x2_3 (⟨(rd_T43 l0_2 x1_3).f0, (rd_T43 l0_2 x1_3).f1, (rd_T43 l0_2 x1_3).f1, (rd_T43 l0_2 x1_3).f3⟩ : S43) [.string ((rd_T43 l0_2 x1_3).f0), .int .i64 ((rd_T43 l0_2 x1_3).f1), .int .i64 ((rd_T43 l0_2 x1_3).f1), .int .i64 ((rd_T43 l0_2 x1_3).f3)] (fun k_ => k_ ≠ gb3) (fun _ => False) rfl q27z ?aP (fun _ hk => hk.elim) ?aF ?aO ?aB ?aS ?aL ?_; (case aP => exact k43_mkM _ _ _ (⟨(rd_T43 l0_2 x1_3).f0, (rd_T43 l0_2 x1_3).f1, (rd_T43 l0_2 x1_3).f1, (rd_T43 l0_2 x1_3).f3⟩ : S43)); (case aB => exact q63z HB GE1 GE2 GE3); (case aF => exact (fun k_ hk => Kd.freshB (g := gb3) (o := .cells #[.string ((rd_T43 l0_2 x1_3).f0), .int .i64 ((rd_T43 l0_2 x1_3).f1), .int .i64 ((rd_T43 l0_2 x1_3).f1), .int .i64 ((rd_T43 l0_2 x1_3).f3)] 43 (0, 0)) (q29z BK3) k_ hk)); (case aO => exact (by (with_reducible repeat (first | apply yf | apply yg | apply yh)); exact Kd.R_mono (Kd.R_far (p := ⟨gb3, 2, none⟩) (Kd.R_far (p := ⟨gb3, 3, none⟩) (Kd.R_far (p := ⟨gb3, 2, none⟩) (Kd.R_far (p := ⟨gb3, 1, none⟩) (Kd.R_far (p := ⟨gb3, 0, none⟩) (Kd.R_mono HO_3.out (fun k_ hk => (⟨hk, hk.2⟩ : _ ∧ k_ ≠ gb3))) (fun _ hk => hk.2) (.string ((rd_T43 l0_2 x1_3).f0))) (fun _ hk => hk.2) (.int .i64 ((rd_T43 l0_2 x1_3).f1))) (fun _ hk => hk.2) (.int .i64 ((rd_T43 l0_2 x1_3).f2))) (fun _ hk => hk.2) (.int .i64 ((rd_T43 l0_2 x1_3).f3))) (fun _ hk => hk.2) (.int .i64 ((rd_T43 l0_2 x1_3).f1))) (fun _ hk => hk.1.2))); (case aS => exact q60z HB GE1 GE2 GE3); (case aL => have := LMc1.out; omega); intro v1 w3 ho hb hg hat; rw [← Ny1.out] at ho; replace HO_1 := aM (Kd.R_over' (q54z HO_1 BK3) (Kd.R_typed (q52z HO_3)) (by decide) hg); replace HO_2 := aM (Kd.R_over' (q54z HO_2 BK3) (Kd.R_typed (q52z HO_3)) (by decide) hg); replace BK1 := aM (blk_grown (g := gb1) (o := .cells #[.slice A0_0 l0_0.length c0_0, .slice A0_1 l0_1.length c0_1, .slice (some ad1) l0_2.length c0_2, .slice A0_3 l0_3.length c0_3, .slice A0_4 l0_4.length c0_4] 27 (0, 0)) (q23z NB1_569 BK1) hg (Kd.R_ne HO_3.out BK1.out (by decide))); replace BK2 := aM (blk_grown (g := gb2) (o := .cells #[.slice Ao1 y3.length co1, u552001, u552002, .slice none 0 0, .slice none 0 0] 27 (0, 0)) (q23z NB2_569 BK2) hg (Kd.R_ne HO_3.out BK2.out (by decide))); replace BK3 := aM (blk_grown (g := gb3) (o := .cells #[.string ((rd_T43 l0_2 x1_3).f0), .int .i64 ((rd_T43 l0_2 x1_3).f1), .int .i64 ((rd_T43 l0_2 x1_3).f1), .int .i64 ((rd_T43 l0_2 x1_3).f3)] 43 (0, 0)) (q29z BK3) hg (Kd.R_away HO_3.out (fun _ hk => hk.2))); replace HB := aM (hb); have HO1 := aM (ho); clear HO_3; clear ho hb hg hat; obtain ⟨Ao2, co2, eo1⟩ := Kd.R_slice HO1.out; subst eo1; obtain ⟨i15_0, i15_1, i15_2, i15_3, i14_4, j15_0, j15_1, j15_2, j15_3, j14_4⟩ := cells5_85 BK2.out))
                 go_roundg k1
                 case measure => have := HJ1.out; have := HK1.out; have := HK2.out; omega
                 case rel => exact ⟨(wrap64 (x1_3 + 1)), (y1), (.slice Ao2 y1.length co2), q13z, H', ⟨q87z HJ1 HK1 HK2⟩, ⟨q77z HO_1 BK2⟩, ⟨q77z HO_2 BK2⟩, ⟨q77z HO1 BK2⟩, ⟨q40z NB1_551 BK1⟩, ⟨by (with_reducible repeat (first | refine ya ?_ _ | refine yc ?_ | refine yb ?_ _)); refine ys (cs := #[.slice Ao1 y3.length co1, u552001, u552002, .slice none 0 0, .slice none 0 0]) ?_ 2 _ rfl; (with_reducible repeat (first | refine ya ?_ _ | refine yc ?_ | refine yb ?_ _)); exact BK2.out⟩, ⟨q12z HB GE1 GE2 GE3⟩⟩
                ·rw [if_neg c27] at H
                 exact absurd H (by simp)
               ·rw [if_neg c26] at H
                have c7b0 := decide_eq_false c26
                clear c26
                have H' := aM H
                clear H
                have hnb1 := NB1_551.out
                have hnc1 := NB1_547.out
                obtain ⟨i13_0, i13_1, i13_2, i13_3, i13_4, j13_0, j13_1, j13_2, j13_3, j13_4⟩ := cells5_85 BK1.out
                have p4 : 0 ≤ (x1_3 : Int) := zod
                have q6 : x1_3 < (l0_2.length : Int) := zod
                obtain ⟨ad1, e1, hx3_0, hx3_1, hx1_2, hx1_3⟩ := at_T43 HR1_2.out x1_3 p4 q6
                cases e1
                replace hx3_0 := zx HB hx3_0
                replace hx3_1 := zx HB hx3_1
                replace hx1_2 := zx HB hx1_2
                replace hx1_3 := zx HB hx1_3
                replace p4 := eq_true p4
                replace q6 := eq_true q6
                go_wp2
                go_roundg k1
                case measure => have := HJ1.out; have := HK1.out; have := HK2.out; omega
                case rel => exact ⟨(wrap64 (x1_3 + 1)), (x2_3), (u552002), q13z, H', ⟨q87z HJ1 HK1 HK2⟩, ⟨q2z HO_1⟩, ⟨q2z HO_2⟩, ⟨q2z HO_3⟩, ⟨q10z BK1⟩, ⟨q10z BK2⟩, ⟨q5z HB GE1 GE2⟩⟩
              ·rw [if_neg c25] at H
               exact absurd H (by simp)
             ·rw [if_neg c24] at H
              have c7b0 := decide_eq_false c24
              clear c24
              replace H := Option.bind_eq_some_iff.mp H
              obtain ⟨⟨t2, t3⟩, A1, H⟩ := H
              replace H : ((net_Eval.f k1 l0_0 l0_1 l0_2 l0_3 l0_4 t2 t3).bind fun t4 => ((net_Right.f k1 y3 x2_2 x2_3 ([] : List (S61)) ([] : List (S47))).bind fun t5 => (if t5 = true then (w9_NetAhead.j3 k1 t1 ji1 t2 t3 t4 (decide ((t4.length : Int) < ji1)) y3 x2_2 x2_3) else (w9_NetAhead.j3 k1 t1 ji1 t2 t3 t4 true y3 x2_2 x2_3)))) = some r := H
              have A4 := aM A1
              clear A1
              replace H := Option.bind_eq_some_iff.mp H
              obtain ⟨t4, A1, H⟩ := H
              have A5 := aM A1
              clear A1
              have HC3 := aM H
              clear H
              have hnb1 := NB1_551.out
              have hnc1 := NB1_547.out
              obtain ⟨i13_0, i13_1, i13_2, i13_3, i13_4, j13_0, j13_1, j13_2, j13_3, j13_4⟩ := cells5_85 BK1.out
              go_upto_region 21 with (first | ((with_reducible refine zgc 16 rfl ?_); refine zgl (some 105) Try.func16 #[.agg #[.slice A0_0 l0_0.length c0_0, .slice A0_1 l0_1.length c0_1, .slice A0_2 l0_2.length c0_2, .slice A0_3 l0_3.length c0_3, .slice A0_4 l0_4.length c0_4], .slice A2 l2.length c2, .slice A3 l3.length c3] ?_; (with_reducible refine (w9_Rows.calls k1 _ _ l0_0 _ _ l0_1 _ _ l0_2 _ _ l0_3 _ _ l0_4 _ _ l2 _ _ l3 t2 t3 _ ?side1 ?side2 ?side3 ?side4 ?side5 ?side6 ?side7 ?side8 ?side9 ?side10 ?side11 ?side12 ?side13 ?side14 A4.out).mono ?_); (case side1 => exact q1z HR1_0 HB); (case side2 => exact HC1_0.out); (case side3 => exact q1z HR1_1 HB); (case side4 => exact HC1_1.out); (case side5 => exact q1z HR1_2 HB); (case side6 => exact HC1_2.out); (case side7 => exact q1z HR1_3 HB); (case side8 => exact HC1_3.out); (case side9 => exact q1z HR1_4 HB); (case side10 => exact HC1_4.out); (case side11 => exact q1z HR1 HB); (case side12 => exact HC1.out); (case side13 => exact q1z HR2 HB); (case side14 => exact HC2.out); rintro e w2 ⟨v1, v2, rfl, ho1, ho2, hb⟩; refine ⟨_, rfl, ?_⟩; replace HO_1 := aM (yr (q2z HO_1) hb); replace HO_2 := aM (yr (q2z HO_2) hb); replace HO_3 := aM (yr (q2z HO_3) hb); have HO1 := aM (Kd.R_lower ho1 (yn (q5z HB GE1 GE2))); have HO2 := aM (Kd.R_lower ho2 (yn (q5z HB GE1 GE2))); replace BK1 := aM (yi (zi BK1) hb); replace BK2 := aM (yi (zi BK2) hb); replace HB := aM (ym (q5z HB GE1 GE2) hb); (try clear hb); (try clear hb2); (try clear hk); (try clear hi); (try clear ho1); (try clear ho2); obtain ⟨i14_0, i14_1, i14_2, i14_3, i14_4, j14_0, j14_1, j14_2, j14_3, j14_4⟩ := cells5_85 BK1.out; obtain ⟨Ao2, co2, eo1⟩ := Kd.R_slice HO1.out; subst eo1; obtain ⟨Ao3, co3, eo2⟩ := Kd.R_slice HO2.out; subst eo2) | ((with_reducible refine zgc 20 rfl ?_); refine zgl (some 111) Try.func20 #[.agg #[.slice A0_0 l0_0.length c0_0, .slice A0_1 l0_1.length c0_1, .slice A0_2 l0_2.length c0_2, .slice A0_3 l0_3.length c0_3, .slice A0_4 l0_4.length c0_4], .slice Ao2 t2.length co2, .slice Ao3 t3.length co3] ?_; (with_reducible refine (net_Eval.calls k1 _ _ l0_0 _ _ l0_1 _ _ l0_2 _ _ l0_3 _ _ l0_4 _ _ t2 _ _ t3 t4 _ ?side1 ?side2 ?side3 ?side4 ?side5 ?side6 ?side7 ?side8 ?side9 ?side10 ?side11 ?side12 ?side13 ?side14 A5.out).mono ?_); (case side1 => exact q1z HR1_0 HB); (case side2 => exact HC1_0.out); (case side3 => exact q1z HR1_1 HB); (case side4 => exact HC1_1.out); (case side5 => exact q1z HR1_2 HB); (case side6 => exact HC1_2.out); (case side7 => exact q1z HR1_3 HB); (case side8 => exact HC1_3.out); (case side9 => exact q1z HR1_4 HB); (case side10 => exact HC1_4.out); (case side11 => exact q9z HO1); (case side12 => exact q24z HO1); (case side13 => exact q9z HO2); (case side14 => exact q24z HO2); rintro e w3 ⟨v3, rfl, ho1, hb⟩; refine ⟨_, rfl, ?_⟩; replace HO_1 := aM (yr (q2z HO_1) hb); replace HO_2 := aM (yr (q2z HO_2) hb); replace HO_3 := aM (yr (q2z HO_3) hb); have HO3 := aM (Kd.R_lower (Kd.R_new' (Kd.R_new' ho1 (Kd.R_lt (q2z HO1))) (Kd.R_lt (q2z HO2))) (yn (q5z HB GE1 GE2))); replace HO1 := aM (Kd.R_elder' (q2z HO1) (Kd.R_base ho1) hb); replace HO2 := aM (Kd.R_elder' (q2z HO2) (Kd.R_base ho1) hb); replace BK1 := aM (yi (zi BK1) hb); replace BK2 := aM (yi (zi BK2) hb); replace HB := aM (ym (q5z HB GE1 GE2) hb); (try clear hb); (try clear hb2); (try clear hk); (try clear hi); (try clear ho1)))
              (try simp only [Act.put, yu, yv, yw])
              go_cut [120] (fun v1 wc => ∃ (kq : Nat) (x1_71 : Bool), v1 = .bool x1_71 ∧ Aside0 (w9_NetAhead.j3 kq t1 ji1 t2 t3 t4 x1_71 y3 x2_2 x2_3 = some r) ∧ Aside0 (kq ≤ k1) ∧ Aside0 (Kd.R (Kd.int .i64) 3 wc w.heap.size (fun k_ => some k_ ≠ ((.slice Ao3 t3.length co3) : Value).ownBlock ∧ some k_ ≠ (v3 : Value).ownBlock) (.slice Ao2 t2.length co2) t2) ∧ Aside0 (Kd.R (Kd.int .i64) 3 wc w.heap.size (fun k_ => some k_ ≠ ((.slice Ao2 t2.length co2) : Value).ownBlock ∧ some k_ ≠ (v3 : Value).ownBlock) (.slice Ao3 t3.length co3) t3) ∧ Aside0 (Kd.R (Kd.int .i64) 3 wc w.heap.size (fun k_ => some k_ ≠ ((.slice Ao2 t2.length co2) : Value).ownBlock ∧ some k_ ≠ ((.slice Ao3 t3.length co3) : Value).ownBlock) v3 t4) ∧ Aside0 (Kd.R k41 41 wc w.heap.size (fun _ => True) (.slice Ao1 y3.length co1) y3) ∧ Aside0 (Kd.R k47 47 wc w.heap.size (fun _ => True) u552001 x2_2) ∧ Aside0 (Kd.R k43 43 wc w.heap.size (fun _ => True) u552002 x2_3) ∧ Aside0 (wc.heap[gb1]? = some (.cells #[(.slice A0_0 l0_0.length c0_0), (.slice A0_1 l0_1.length c0_1), (.slice A0_2 l0_2.length c0_2), (.slice A0_3 l0_3.length c0_3), (.slice A0_4 l0_4.length c0_4)] 27 (0, 0))) ∧ Aside0 (wc.heap[gb2]? = some (.cells #[(.slice Ao1 y3.length co1), u552001, u552002, (.slice none 0 0), (.slice none 0 0)] 27 (0, 0))) ∧ Aside0 (Below w.heap.size w wc))
              case first =>
               have H := HC3.out
               clear HC3
               replace H := Option.bind_eq_some_iff.mp H
               obtain ⟨t5, A1, H⟩ := H
               have A4 := aM A1
               clear A1
               by_cases c25 : t5 = true
               ·subst c25
                have H1 : (w9_NetAhead.j3 k1 t1 ji1 t2 t3 t4 (decide ((t4.length : Int) < ji1)) y3 x2_2 x2_3) = some r := by rw [if_pos rfl] at H; exact H
                clear H
                have H := H1
                clear H1
                have H' := aM H
                clear H
                have hnb1 := NB1_547.out
                have hnc1 := NB1_551.out
                obtain ⟨i15_0, i15_1, i15_2, i15_3, i15_4, j15_0, j15_1, j15_2, j15_3, j15_4⟩ := cells5_85 BK2.out
                obtain ⟨Ao4, co4, eo1⟩ := Kd.R_slice HO_2.out
                subst eo1
                obtain ⟨Ao5, co5, eo1⟩ := Kd.R_slice HO_3.out
                subst eo1
                go_wp2_with (first | ((with_reducible refine zgc 12 rfl ?_); refine zgl (some 113) Try.func12 #[.agg #[.slice Ao1 y3.length co1, .slice Ao4 x2_2.length co4, .slice Ao5 x2_3.length co5, .slice none 0 0, .slice none 0 0]] ?_; (refine calls_of_args (args' := #[.agg #[.slice _ y3.length _, .slice _ x2_2.length _, .slice _ x2_3.length _, .slice none ([] : List (S61)).length 0, .slice none ([] : List (S47)).length 0]]) rfl ?_); (with_reducible refine (net_Right.calls k1 _ _ y3 _ _ x2_2 _ _ x2_3 none 0 ([] : List (S61)) none 0 ([] : List (S47)) true _ ?side1 ?side2 ?side3 ?side4 ?side5 ?side6 ?side7 ?side8 ?side9 ?side10 A4.out).mono ?_); (case side1 => exact q9z HO_1); (case side2 => exact q24z HO_1); (case side3 => exact q9z HO_2); (case side4 => exact q24z HO_2); (case side5 => exact q9z HO_3); (case side6 => exact q24z HO_3); (case side7 => exact Kd.C_nil _ _); (case side8 => exact Nat.le_refl _); (case side9 => exact Kd.C_nil _ _); (case side10 => exact Nat.le_refl _); rintro e w2 ⟨rfl, hb⟩; refine ⟨_, rfl, ?_⟩; replace HO_1 := aM (yr (q2z HO_1) hb); replace HO_2 := aM (yr (q2z HO_2) hb); replace HO_3 := aM (yr (q2z HO_3) hb); replace HO1 := aM (yr (q2z HO1) hb); replace HO2 := aM (yr (q2z HO2) hb); replace HO3 := aM (yr (q2z HO3) hb); replace BK1 := aM (yi (zi BK1) hb); replace BK2 := aM (yi (zi BK2) hb); replace HB := aM (ym (q5z HB GE1 GE2) hb); (try clear hb); (try clear hb2); (try clear hk); (try clear hi); obtain ⟨Ao6, co6, eo1⟩ := Kd.R_slice HO3.out; subst eo1))
                go_meet
                case rel => exact ⟨_, (decide ((t4.length : Int) < ji1)), q82z, H', ⟨q62z HJ1 HK1 HK2⟩, ⟨q2z HO1⟩, ⟨q2z HO2⟩, ⟨q34z HO3⟩, ⟨q2z HO_1⟩, ⟨q2z HO_2⟩, ⟨q2z HO_3⟩, ⟨q10z BK1⟩, ⟨q10z BK2⟩, ⟨q5z HB GE1 GE2⟩⟩
               ·replace c25 := Bool.eq_false_iff.mpr c25
                subst c25
                have H1 : (w9_NetAhead.j3 k1 t1 ji1 t2 t3 t4 true y3 x2_2 x2_3) = some r := by rw [if_neg (show ¬ (false = true) by decide)] at H; exact H
                clear H
                have H := H1
                clear H1
                have H' := aM H
                clear H
                have hnb1 := NB1_547.out
                have hnc1 := NB1_551.out
                obtain ⟨i15_0, i15_1, i15_2, i15_3, i15_4, j15_0, j15_1, j15_2, j15_3, j15_4⟩ := cells5_85 BK2.out
                obtain ⟨Ao4, co4, eo1⟩ := Kd.R_slice HO_2.out
                subst eo1
                obtain ⟨Ao5, co5, eo1⟩ := Kd.R_slice HO_3.out
                subst eo1
                go_wp2_with (first | ((with_reducible refine zgc 12 rfl ?_); refine zgl (some 113) Try.func12 #[.agg #[.slice Ao1 y3.length co1, .slice Ao4 x2_2.length co4, .slice Ao5 x2_3.length co5, .slice none 0 0, .slice none 0 0]] ?_; (refine calls_of_args (args' := #[.agg #[.slice _ y3.length _, .slice _ x2_2.length _, .slice _ x2_3.length _, .slice none ([] : List (S61)).length 0, .slice none ([] : List (S47)).length 0]]) rfl ?_); (with_reducible refine (net_Right.calls k1 _ _ y3 _ _ x2_2 _ _ x2_3 none 0 ([] : List (S61)) none 0 ([] : List (S47)) false _ ?side1 ?side2 ?side3 ?side4 ?side5 ?side6 ?side7 ?side8 ?side9 ?side10 A4.out).mono ?_); (case side1 => exact q9z HO_1); (case side2 => exact q24z HO_1); (case side3 => exact q9z HO_2); (case side4 => exact q24z HO_2); (case side5 => exact q9z HO_3); (case side6 => exact q24z HO_3); (case side7 => exact Kd.C_nil _ _); (case side8 => exact Nat.le_refl _); (case side9 => exact Kd.C_nil _ _); (case side10 => exact Nat.le_refl _); rintro e w2 ⟨rfl, hb⟩; refine ⟨_, rfl, ?_⟩; replace HO_1 := aM (yr (q2z HO_1) hb); replace HO_2 := aM (yr (q2z HO_2) hb); replace HO_3 := aM (yr (q2z HO_3) hb); replace HO1 := aM (yr (q2z HO1) hb); replace HO2 := aM (yr (q2z HO2) hb); replace HO3 := aM (yr (q2z HO3) hb); replace BK1 := aM (yi (zi BK1) hb); replace BK2 := aM (yi (zi BK2) hb); replace HB := aM (ym (q5z HB GE1 GE2) hb); (try clear hb); (try clear hb2); (try clear hk); (try clear hi)))
                go_meet
                case rel => exact ⟨_, (true), q13z, H', ⟨q62z HJ1 HK1 HK2⟩, ⟨q2z HO1⟩, ⟨q2z HO2⟩, ⟨q34z HO3⟩, ⟨q2z HO_1⟩, ⟨q2z HO_2⟩, ⟨q2z HO_3⟩, ⟨q10z BK1⟩, ⟨q10z BK2⟩, ⟨q5z HB GE1 GE2⟩⟩
              case rest =>
               clear HC3
               try clear c1
               try clear c2
               try clear p2
               try clear c3
               try clear q3
               try clear c4
               try clear c5
               try clear p5
               try clear q5
               try clear hx5
               try clear c6
               try clear p6
               try clear c7
               try clear c8
               try clear c9
               try clear c11
               try clear c12
               try clear c10
               try clear c16
               try clear c20
               try clear c13
               try clear c14
               try clear c1b0
               try clear c1b1
               try clear c1b2
               try clear c15
               try clear c2b0
               try clear c2b1
               try clear c17
               try clear c3b0
               try clear c3b1
               try clear c18
               try clear c34
               try clear q1
               try clear c19
               try clear c4b0
               try clear c21
               try clear c5b0
               try clear c22
               try clear c6b0
               try clear c23
               try clear c44
               try clear c50
               try clear c52
               try clear c24
               try clear c7b0
               try clear c9
               try clear c1b0
               try clear c9
               try clear c1b0
               try clear p56
               try clear q56
               try clear hx56
               try clear c9
               try clear c58
               try clear c61
               try clear c62
               try clear p64
               try clear c68
               try clear c73
               try clear c9
               try clear c82
               try clear c88
               try clear i1_0 i1_1 i1_2 i1_3 i1_4
               try clear i2_0 i2_1 i2_2 i2_3 i2_4
               try clear i3_0 i3_1 i3_2 i3_3 i3_4
               try clear i4_0 i4_1 i4_2 i4_3 i4_4
               try clear i5_0 i5_1 i5_2 i5_3 i5_4
               try clear i6_0 i6_1 i6_2 i6_3 i6_4
               try clear i7_0 i7_1 i7_2 i7_3 i7_4
               try clear i8_0 i8_1 i8_2 i8_3 i8_4
               try clear i9_0 i9_1 i9_2 i9_3 i9_4
               try clear i11_0 i11_1 i11_2 i11_3 i11_4
               try clear i12_0 i12_1 i12_2 i12_3 i12_4
               try clear i10_0 i10_1 i10_2 i10_3 i10_4
               try clear i1_0 i1_1 i1_2 i1_3 i1_4 i1_0 i1_1 i1_2 i1_3 i1_0 i1_1 i1_2 i1_3 i1_4 i1_0 i1_1 i1_2 i1_3 i1_4 i1_0 i1_1 i1_2 i1_3 i1_4
               try clear i13_0 i13_1 i13_2 i13_3 i13_4
               try clear i14_0 i14_1 i14_2 i14_3 i14_4
               try clear i1_0 i1_1 i1_2 i1_3 i1_4 i1_0 i1_1 i1_2 i1_3 i1_4 j1_0 j1_1 j1_2 j1_3 j1_4
               try clear j2_0 j2_1 j2_2 j2_3 j2_4
               try clear j3_0 j3_1 j3_2 j3_3 j3_4
               try clear j4_0 j4_1 j4_2 j4_3 j4_4
               try clear j5_0 j5_1 j5_2 j5_3 j5_4
               try clear j6_0 j6_1 j6_2 j6_3 j6_4
               try clear j7_0 j7_1 j7_2 j7_3 j7_4
               try clear j8_0 j8_1 j8_2 j8_3 j8_4
               try clear j9_0 j9_1 j9_2 j9_3 j9_4
               try clear j11_0 j11_1 j11_2 j11_3 j11_4
               try clear j12_0 j12_1 j12_2 j12_3 j12_4
               try clear j10_0 j10_1 j10_2 j10_3 j10_4
               try clear j1_0 j1_1 j1_2 j1_3 j1_4 j1_0 j1_1 j1_2 j1_3 j1_0 j1_1 j1_2 j1_3 j1_4 j1_0 j1_1 j1_2 j1_3 j1_4 j1_0 j1_1 j1_2 j1_3 j1_4
               try clear j13_0 j13_1 j13_2 j13_3 j13_4
               try clear j14_0 j14_1 j14_2 j14_3 j14_4
               try clear j1_0 j1_1 j1_2 j1_3 j1_4 j1_0 j1_1 j1_2 j1_3 j1_4
               try clear hx1_0
               try clear hx1_1
               try clear hx2_0
               try clear hx2_1
               try clear hx1_0
               try clear hx1_1
               try clear hx1_2
               try clear hx1_3
               try clear hx1_0
               try clear hx1_1
               try clear hx1_2
               try clear hx1_3
               try clear p2
               try clear p5
               try clear p1
               try clear p3
               try clear p1
               try clear p1
               try clear p6
               try clear q3
               try clear q1
               try clear q5
               try clear q2
               try clear q4
               try clear q1
               try clear q1
               obtain ⟨kq, x1_71, rfl, HA, HJ1, HO_4, HO_5, HO_6, HO_1, HO_2, HO_3, BK1, BK2, HB⟩ := hcut
               cases kq with
               | zero => exact absurd HA.out (by simp [w9_NetAhead.j3])
               | succ kj1 =>
                have H := HA.out
                clear HA
                simp only [w9_NetAhead.j3] at H
                by_cases c9 : x1_71 = true
                ·subst c9
                 have H1 : (none) = some r := by rw [if_pos rfl] at H; exact H
                 clear H
                 have H := H1
                 clear H1
                 exact absurd H (by simp)
                ·replace c9 := Bool.eq_false_iff.mpr c9
                 subst c9
                 have H1 : (if t1 = true then (if 0 ≤ (x2_3.length : Int) then (if (x2_3.length : Int) ≤ (t2.length : Int) then (if 0 ≤ (x2_2.length : Int) then (if (x2_2.length : Int) ≤ (t3.length : Int) then ((net_Eval.f kj1 y3 x2_2 x2_3 ([] : List (S61)) ([] : List (S47)) (t2.take ((x2_3.length : Int) : Int).toNat) (t3.take ((x2_2.length : Int) : Int).toNat)).bind fun t5 => (if 0 ≤ ji1 then (if ji1 ≤ (t4.length : Int) then ((r4_SameInts.f kj1 t5 (t4.take (ji1 : Int).toNat)).bind fun t6 => (some t6)) else (none)) else (none))) else (none)) else (none)) else (none)) else (none)) else (none)) = some r := by rw [if_neg (show ¬ (false = true) by decide)] at H; exact H
                 clear H
                 have H := H1
                 clear H1
                 by_cases c9 : t1 = true
                 ·subst c9
                  have H1 : (if 0 ≤ (x2_3.length : Int) then (if (x2_3.length : Int) ≤ (t2.length : Int) then (if 0 ≤ (x2_2.length : Int) then (if (x2_2.length : Int) ≤ (t3.length : Int) then ((net_Eval.f kj1 y3 x2_2 x2_3 ([] : List (S61)) ([] : List (S47)) (t2.take ((x2_3.length : Int) : Int).toNat) (t3.take ((x2_2.length : Int) : Int).toNat)).bind fun t5 => (if 0 ≤ ji1 then (if ji1 ≤ (t4.length : Int) then ((r4_SameInts.f kj1 t5 (t4.take (ji1 : Int).toNat)).bind fun t6 => (some t6)) else (none)) else (none))) else (none)) else (none)) else (none)) else (none)) = some r := by rw [if_pos rfl] at H; exact H
                  clear H
                  have H := H1
                  clear H1
                  by_cases c10 : 0 ≤ (x2_3.length : Int)
                  ·rw [if_pos c10] at H
                   have c1b0 := eq_true c10
                   have c1b1 : decide (0 ≤ (x2_3.length : Int)) = true := decide_eq_true c10
                   clear c10
                   by_cases c13 : (x2_3.length : Int) ≤ (t2.length : Int)
                   ·rw [if_pos c13] at H
                    have c1b0 := eq_true c13
                    have c1b1 : decide ((x2_3.length : Int) ≤ (t2.length : Int)) = true := decide_eq_true c13
                    clear c13
                    obtain ⟨y1, hy1⟩ : ∃ y_ : List Int, y_ = (t2.take ((x2_3.length : Int) : Int).toNat) := ⟨_, rfl⟩
                    replace H : (if 0 ≤ (x2_2.length : Int) then (if (x2_2.length : Int) ≤ (t3.length : Int) then ((net_Eval.f kj1 y3 x2_2 x2_3 ([] : List (S61)) ([] : List (S47)) y1 (t3.take ((x2_2.length : Int) : Int).toNat)).bind fun t5 => (if 0 ≤ ji1 then (if ji1 ≤ (t4.length : Int) then ((r4_SameInts.f kj1 t5 (t4.take (ji1 : Int).toNat)).bind fun t6 => (some t6)) else (none)) else (none))) else (none)) else (none)) = some r := by first | (rw [hy1]; with_reducible exact H) | (have H1_ := (Option.bind_some _ _).symm.trans H; rw [hy1]; with_reducible exact H1_) | (have H1_ := (Option.bind_some _ _).symm.trans H; with_reducible exact H1_) | with_reducible exact H | (rw [hy1]; exact H) | exact H
                    have Ny1 := aM hy1
                    clear hy1
                    by_cases c14 : 0 ≤ (x2_2.length : Int)
                    ·rw [if_pos c14] at H
                     have c1b0 := eq_true c14
                     have c1b1 : decide (0 ≤ (x2_2.length : Int)) = true := decide_eq_true c14
                     clear c14
                     by_cases c19 : (x2_2.length : Int) ≤ (t3.length : Int)
                     ·rw [if_pos c19] at H
                      have c1b0 := eq_true c19
                      have c1b1 : decide ((x2_2.length : Int) ≤ (t3.length : Int)) = true := decide_eq_true c19
                      clear c19
                      obtain ⟨y2, hy1⟩ : ∃ y_ : List Int, y_ = (t3.take ((x2_2.length : Int) : Int).toNat) := ⟨_, rfl⟩
                      replace H : ((net_Eval.f kj1 y3 x2_2 x2_3 ([] : List (S61)) ([] : List (S47)) y1 y2).bind fun t5 => (if 0 ≤ ji1 then (if ji1 ≤ (t4.length : Int) then ((r4_SameInts.f kj1 t5 (t4.take (ji1 : Int).toNat)).bind fun t6 => (some t6)) else (none)) else (none))) = some r := by first | (rw [hy1]; with_reducible exact H) | (have H1_ := (Option.bind_some _ _).symm.trans H; rw [hy1]; with_reducible exact H1_) | (have H1_ := (Option.bind_some _ _).symm.trans H; with_reducible exact H1_) | with_reducible exact H | (rw [hy1]; exact H) | exact H
                      have Ny2 := aM hy1
                      clear hy1
                      replace H := Option.bind_eq_some_iff.mp H
                      obtain ⟨t5, A1, H⟩ := H
                      have A4 := aM A1
                      clear A1
                      by_cases c21 : 0 ≤ ji1
                      ·rw [if_pos c21] at H
                       have c1b0 := eq_true c21
                       have c1b1 : decide (0 ≤ ji1) = true := decide_eq_true c21
                       clear c21
                       by_cases c22 : ji1 ≤ (t4.length : Int)
                       ·rw [if_pos c22] at H
                        have c1b0 := eq_true c22
                        have c1b1 : decide (ji1 ≤ (t4.length : Int)) = true := decide_eq_true c22
                        clear c22
                        obtain ⟨y4, hy1⟩ : ∃ y_ : List Int, y_ = (t4.take (ji1 : Int).toNat) := ⟨_, rfl⟩
                        replace H : ((r4_SameInts.f kj1 t5 y4).bind fun t6 => (some t6)) = some r := by first | (rw [hy1]; with_reducible exact H) | (have H1_ := (Option.bind_some _ _).symm.trans H; rw [hy1]; with_reducible exact H1_) | (have H1_ := (Option.bind_some _ _).symm.trans H; with_reducible exact H1_) | with_reducible exact H | (rw [hy1]; exact H) | exact H
                        have Ny3 := aM hy1
                        clear hy1
                        replace H := Option.bind_eq_some_iff.mp H
                        obtain ⟨t6, A1, H⟩ := H
                        have A5 := aM A1
                        clear A1
                        obtain rfl := Option.some.inj H
                        try go_wp2
                        replace HO_4 := aM (yh HO_4.out)
                        replace HO_5 := aM (yh HO_5.out)
                        replace HO_6 := aM (yh HO_6.out)
                        replace HO_1 := aM (yh HO_1.out)
                        replace HO_2 := aM (yh HO_2.out)
                        replace HO_3 := aM (yh HO_3.out)
                        replace BK1 := aM (yc BK1.out)
                        replace BK2 := aM (yc BK2.out)
                        replace HB := aM (yk HB.out)
                        obtain ⟨Ao4, co4, eo1⟩ := Kd.R_slice HO_3.out
                        (first | subst eo1 | (injection eo1 with f1_ f2_ f3_; have f4_ := f1_.symm; have f5_ := f3_.symm; clear f1_ f2_ f3_; subst f4_; subst f5_))
                        have q1 : ((x2_3.length : Int) : Int) ≤ ((t2.length : Int) : Int) := zod
                        obtain ⟨i1, hi1, _, hsz1, _⟩ := info_parts info3
                        have hroom1 : t2.length ≤ co2 := (Kd.R_reads' HO_4.out).2.1
                        have hC1 : Kd.C (Kd.int .i64) _ Ao2 t2.length t2 := (Kd.R_reads' HO_4.out).2.2
                        have hcut1 := cut_to (P := Try.prog) 32 3 .i64 Try.underlying32 hi1 Ao2 t2.length co2 (x2_3.length : Int) (of_decide_eq_true q75z) q1 hroom1
                        have hr1 := Kd.C_take (m := ((x2_3.length : Int) : Int).toNat) hC1 (by omega)
                        have hy1 : y1.length = ((x2_3.length : Int) : Int).toNat := (by rw [Ny1.out, List.length_take]; omega)
                        rw [← Ny1.out] at hr1
                        rw [← hy1] at hcut1
                        have HR1 := aM hr1
                        have HC1 := aM (show y1.length ≤ co2 from by omega)
                        clear hr1 hC1 hroom1 hi1 hsz1
                        have KY1 := aM hy1
                        clear hy1
                        have KL1 := aM (show ((x2_3.length : Int) : Int).toNat ≤ t2.length from by omega)
                        replace q1 := eq_true q1
                        obtain ⟨Ao5, co5, eo1⟩ := Kd.R_slice HO_2.out
                        (first | subst eo1 | (injection eo1 with f1_ f2_ f3_; have f4_ := f1_.symm; have f5_ := f3_.symm; clear f1_ f2_ f3_; subst f4_; subst f5_))
                        have q1 : ((x2_2.length : Int) : Int) ≤ ((t3.length : Int) : Int) := zod
                        obtain ⟨i1, hi1, _, hsz1, _⟩ := info_parts info3
                        have hroom1 : t3.length ≤ co3 := (Kd.R_reads' HO_5.out).2.1
                        have hC1 : Kd.C (Kd.int .i64) _ Ao3 t3.length t3 := (Kd.R_reads' HO_5.out).2.2
                        have hcut1 := cut_to (P := Try.prog) 32 3 .i64 Try.underlying32 hi1 Ao3 t3.length co3 (x2_2.length : Int) (of_decide_eq_true q75z) q1 hroom1
                        have hr1 := Kd.C_take (m := ((x2_2.length : Int) : Int).toNat) hC1 (by omega)
                        have hy1 : y2.length = ((x2_2.length : Int) : Int).toNat := (by rw [Ny2.out, List.length_take]; omega)
                        rw [← Ny2.out] at hr1
                        rw [← hy1] at hcut1
                        have HR2 := aM hr1
                        have HC2 := aM (show y2.length ≤ co3 from by omega)
                        clear hr1 hC1 hroom1 hi1 hsz1
                        have KY1 := aM hy1
                        clear hy1
                        have KL1 := aM (show ((x2_2.length : Int) : Int).toNat ≤ t3.length from by omega)
                        replace q1 := eq_true q1
                        obtain ⟨Ao6, co6, eo1⟩ := Kd.R_slice HO_6.out
                        (first | subst eo1 | (injection eo1 with f1_ f2_ f3_; have f4_ := f1_.symm; have f5_ := f3_.symm; clear f1_ f2_ f3_; subst f4_; subst f5_))
                        have q1 : (ji1 : Int) ≤ ((t4.length : Int) : Int) := zod
                        obtain ⟨i1, hi1, _, hsz1, _⟩ := info_parts info3
                        have hroom1 : t4.length ≤ co6 := (Kd.R_reads' HO_6.out).2.1
                        have hC1 : Kd.C (Kd.int .i64) _ Ao6 t4.length t4 := (Kd.R_reads' HO_6.out).2.2
                        have hcut1 := cut_to (P := Try.prog) 32 3 .i64 Try.underlying32 hi1 Ao6 t4.length co6 ji1 (of_decide_eq_true q75z) q1 hroom1
                        have hr1 := Kd.C_take (m := (ji1 : Int).toNat) hC1 (by omega)
                        have hy1 : y4.length = (ji1 : Int).toNat := (by rw [Ny3.out, List.length_take]; omega)
                        rw [← Ny3.out] at hr1
                        rw [← hy1] at hcut1
                        have HR3 := aM hr1
                        have HC3 := aM (show y4.length ≤ co6 from by omega)
                        clear hr1 hC1 hroom1 hi1 hsz1
                        have KY1 := aM hy1
                        clear hy1
                        have KL1 := aM (show (ji1 : Int).toNat ≤ t4.length from by omega)
                        replace q1 := eq_true q1
                        refine start_ (n := 20) (S := fun w' => w'.cell? ⟨gb2, 0, none⟩ = some (.slice Ao1 y3.length co1) ∧ w'.cell? ⟨gb2, 1, none⟩ = some (.slice Ao5 x2_2.length co5) ∧ w'.cell? ⟨gb2, 2, none⟩ = some (.slice Ao4 x2_3.length co4) ∧ w'.cell? ⟨gb2, 3, none⟩ = some (.slice none 0 0) ∧ w'.cell? ⟨gb2, 4, none⟩ = some (.slice none 0 0)) (ds := []) (zb 20 0) (by kernel_rfl) rfl rfl ⟨zc BK2 0, zc BK2 1, zc BK2 2, zc BK2 3, zc BK2 4⟩ (fun hHeld => ?_); refine with_tabW w9_NetAhead.tab23 w9_NetAhead.bits23 (fun HT_ HW_ => ?_)
                        generalize wc.drew = w2 at HO_4 HO_5 HO_6 HO_1 HO_2 HO_3 BK1 BK2 HB HR1 HR2 HR3 hHeld ⊢
                        refine zpu 0 121 (zb 20 1) ?_
                        refine zpu 1 122 (zb 20 3) ?_
                        refine zpu 3 124 (zb 20 11) ?_
                        refine zpu 4 125 (zb 20 27) ?_
                        refine zpu 8 129 (zb 20 283) ?_
                        refine zpu 9 130 (zb 20 795) ?_
                        refine zpu 14 135 (zb 20 17179) ?_
                        refine zpu 15 136 (zb 20 49947) ?_
                        refine zpu 16 137 (zb 20 115483) ?_
                        refine ztk5 2 123 (zb 20 115487) hHeld ?_
                        refine ztk5 5 126 (zb 20 115519) hHeld ?_
                        refine zpu 6 127 (zb 20 115583) ?_
                        refine zpu 7 128 (zb 20 115711) ?_
                        refine ztk5 10 131 (zb 20 116735) hHeld ?_
                        refine zpu 11 132 (zb 20 118783) ?_
                        refine zpu 12 133 (zb 20 122879) ?_
                        refine zon 13 (some 134) (zb 20 131071) fun K hK => ?_
                        refine zgo Try.func20 #[.agg #[.slice Ao1 y3.length co1, .slice Ao5 x2_2.length co5, .slice Ao4 x2_3.length co4, .slice none 0 0, .slice none 0 0], .slice Ao2 y1.length co2, .slice Ao3 y2.length co3] ?_
                        refine (net_Eval.calls kj1 _ _ y3 _ _ x2_2 _ _ x2_3 _ _ ([] : List (S61)) _ _ ([] : List (S47)) _ _ y1 _ _ y2 t5 _ ?side1 ?side2 ?side3 ?side4 ?side5 ?side6 ?side7 ?side8 ?side9 ?side10 ?side11 ?side12 ?side13 ?side14 A4.out).mono ?_
                        (case side1 => exact q9z HO_1)
                        (case side2 => exact q24z HO_1)
                        (case side3 => exact q9z HO_2)
                        (case side4 => exact q24z HO_2)
                        (case side5 => exact q9z HO_3)
                        (case side6 => exact q24z HO_3)
                        (case side7 => exact Kd.C_nil _ _)
                        (case side8 => exact Nat.le_refl _)
                        (case side9 => exact Kd.C_nil _ _)
                        (case side10 => exact Nat.le_refl _)
                        (case side11 => exact q47z HR1)
                        (case side12 => exact HC1.out)
                        (case side13 => exact q47z HR2)
                        (case side14 => exact HC2.out)
                        rintro e w2 ⟨v1, rfl, ho1, hb⟩
                        refine ⟨_, rfl, ?_⟩
                        replace HO_1 := aM (yr (q2z HO_1) hb)
                        replace HO_2 := aM (yr (q2z HO_2) hb)
                        replace HO_3 := aM (yr (q2z HO_3) hb)
                        have HO1 := aM (Kd.R_lower (Kd.R_new' (Kd.R_new' (Kd.R_new' ho1 (Kd.R_lt (q2z HO_4))) (Kd.R_lt (q2z HO_5))) (Kd.R_lt (q2z HO_6))) (yn (q5z HB GE1 GE2)))
                        replace HO_4 := aM (Kd.R_elder' (q2z HO_4) (Kd.R_base ho1) hb)
                        replace HO_5 := aM (Kd.R_elder' (q2z HO_5) (Kd.R_base ho1) hb)
                        replace HO_6 := aM (Kd.R_elder' (q2z HO_6) (Kd.R_base ho1) hb)
                        replace BK1 := aM (yi (zi BK1) hb)
                        replace BK2 := aM (yi (zi BK2) hb)
                        replace HR1 := aM (Kd.C_below (q41z HR1) hb)
                        replace HR2 := aM (Kd.C_below (q41z HR2) hb)
                        replace HR3 := aM (Kd.C_below (q41z HR3) hb)
                        replace HB := aM (ym (q5z HB GE1 GE2) hb)
                        (try clear hb)
                        (try clear hb2)
                        (try clear hk)
                        (try clear hi)
                        (try clear ho1)
                        obtain ⟨Ao1, co1, eo1⟩ := Kd.R_slice HO1.out
                        (first | subst eo1 | (injection eo1 with f1_ f2_ f3_; have f4_ := f1_.symm; have f5_ := f3_.symm; clear f1_ f2_ f3_; subst f4_; subst f5_))
                        refine hK.out _ _ ⟨zc BK2 0, zc BK2 1, zc BK2 2, zc BK2 3, zc BK2 4⟩ (fun hHeld => ?_)
                        clear hK K
                        refine zno 134 ?_
                        refine zon 17 (some 138) (zb 20 262143) fun K hK => ?_
                        refine zgo Try.func17 #[.slice Ao1 t5.length co1, .slice Ao6 y4.length co6] ?_
                        with_reducible refine (r4_SameInts.calls kj1 _ _ t5 _ _ y4 t6 _ ?side1 ?side2 ?side3 ?side4 A5.out).mono ?_
                        (case side1 => exact q9z HO1)
                        (case side2 => exact q24z HO1)
                        (case side3 => exact q47z HR3)
                        (case side4 => exact HC3.out)
                        rintro e w' ⟨rfl, ⟨nd, rfl⟩⟩
                        refine ⟨_, rfl, ?_⟩
                        refine hK.out _ _ ⟨zc BK2 0, zc BK2 1, zc BK2 2, zc BK2 3, zc BK2 4⟩ (fun hHeld => ?_)
                        clear hK K
                        refine zno 138 ?_
                        refine zpu 18 139 (zb 20 524287) ?_
                        refine zpu 19 8 (zb 20 1048575) ?_
                        refine zdo ?_
                        try go_wp2
                        go_ret
                        exact ⟨q53z, q5z HB GE1 GE2⟩
                       ·rw [if_neg c22] at H
                        exact absurd H (by simp)
                      ·rw [if_neg c21] at H
                       exact absurd H (by simp)
                     ·rw [if_neg c19] at H
                      exact absurd H (by simp)
                    ·rw [if_neg c14] at H
                     exact absurd H (by simp)
                   ·rw [if_neg c13] at H
                    exact absurd H (by simp)
                  ·rw [if_neg c10] at H
                   exact absurd H (by simp)
                 ·replace c9 := Bool.eq_false_iff.mpr c9
                  subst c9
                  have H1 : (none) = some r := by rw [if_neg (show ¬ (false = true) by decide)] at H; exact H
                  clear H
                  have H := H1
                  clear H1
                  exact absurd H (by simp)
       ·rw [if_neg c18] at H
        exact absurd H (by simp)
      ·rw [if_neg c17] at H
       exact absurd H (by simp)
     ·rw [if_neg c15] at H
      exact absurd H (by simp)
end Go.Proofs.Yteblbknmikieoaa.Xb
