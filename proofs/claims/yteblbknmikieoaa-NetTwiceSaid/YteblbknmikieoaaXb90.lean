/- Slimmed by this session: what nothing names is struck out. -/
import Derived.Test.YteblbknmikieoaaXb0
import Derived.Test.YteblbknmikieoaaXbZ
import Derived.Test.YteblbknmikieoaaXbD
import Derived.Test.YteblbknmikieoaaXbE
import Derived.Test.YteblbknmikieoaaXbI
import Derived.Test.YteblbknmikieoaaXbH
import Derived.Test.YteblbknmikieoaaXb65
import Derived.Test.YteblbknmikieoaaXbF
import Derived.Test.YteblbknmikieoaaXb74
import Derived.Test.YteblbknmikieoaaXb76
namespace Go.Proofs.Yteblbknmikieoaa.Xb
open Go.RowKit Go.Proofs.YteblbknmikieoaaW.PrintWords Go.Proofs.YteblbknmikieoaaW.PrintLast Go.Proofs.YteblbknmikieoaaW.PrintMore
attribute [local go_sem] max2_int min2_int max_two min_two max_three min_three max_four min_four
set_option linter.unusedVariables false
set_option linter.unusedSimpArgs false
theorem cells5_90 {w : World} {g : Nat} {t : TypeId} {x0 x1 x2 x3 x4 : Value} (h : w.heap[g]? = some (.cells #[x0, x1, x2, x3, x4] t (0, 0))) : w.cell? ⟨g, 0, none⟩ = some x0 ∧ w.cell? ⟨g, 1, none⟩ = some x1 ∧ w.cell? ⟨g, 2, none⟩ = some x2 ∧ w.cell? ⟨g, 3, none⟩ = some x3 ∧ w.cell? ⟨g, 4, none⟩ = some x4 ∧ w.frozen? ⟨g, 0, none⟩ = false ∧ w.frozen? ⟨g, 1, none⟩ = false ∧ w.frozen? ⟨g, 2, none⟩ = false ∧ w.frozen? ⟨g, 3, none⟩ = false ∧ w.frozen? ⟨g, 4, none⟩ = false := ⟨(blk_cell h 0).trans rfl, (blk_cell h 1).trans rfl, (blk_cell h 2).trans rfl, (blk_cell h 3).trans rfl, (blk_cell h 4).trans rfl, blk_frozen h 0, blk_frozen h 1, blk_frozen h 2, blk_frozen h 3, blk_frozen h 4⟩
theorem cells7_90 {w : World} {g : Nat} {t : TypeId} {x0 x1 x2 x3 x4 x5 x6 : Value} (h : w.heap[g]? = some (.cells #[x0, x1, x2, x3, x4, x5, x6] t (0, 0))) : w.cell? ⟨g, 0, none⟩ = some x0 ∧ w.cell? ⟨g, 1, none⟩ = some x1 ∧ w.cell? ⟨g, 2, none⟩ = some x2 ∧ w.cell? ⟨g, 3, none⟩ = some x3 ∧ w.cell? ⟨g, 4, none⟩ = some x4 ∧ w.cell? ⟨g, 5, none⟩ = some x5 ∧ w.cell? ⟨g, 6, none⟩ = some x6 ∧ w.frozen? ⟨g, 0, none⟩ = false ∧ w.frozen? ⟨g, 1, none⟩ = false ∧ w.frozen? ⟨g, 2, none⟩ = false ∧ w.frozen? ⟨g, 3, none⟩ = false ∧ w.frozen? ⟨g, 4, none⟩ = false ∧ w.frozen? ⟨g, 5, none⟩ = false ∧ w.frozen? ⟨g, 6, none⟩ = false := ⟨(blk_cell h 0).trans rfl, (blk_cell h 1).trans rfl, (blk_cell h 2).trans rfl, (blk_cell h 3).trans rfl, (blk_cell h 4).trans rfl, (blk_cell h 5).trans rfl, (blk_cell h 6).trans rfl, blk_frozen h 0, blk_frozen h 1, blk_frozen h 2, blk_frozen h 3, blk_frozen h 4, blk_frozen h 5, blk_frozen h 6⟩
mutual
def w9_NetTwice.j0 : Nat → Int → List Int → List Int → Bool → Bool → List (S41) → List (S47) → List (S43) → List (S61) → List (S47) → Option (Bool)
 | 0, _, _, _, _, _, _, _, _, _, _ => none
 | k + 1, x1, x2, x3, x9, x30, x801000, x801001, x801002, x801003, x801004 => if x30 = true then (some x9) else (if (x801000.length : Int) = 0 then (none) else (if 0 ≤ (Int.tmod (wrap64 (x1)) (x801000.length : Int)) then (if (Int.tmod (wrap64 (x1)) (x801000.length : Int)) < (x801000.length : Int) then (if ((rd_T41 x801000 (Int.tmod (wrap64 (x1)) (x801000.length : Int))).f0) = 21 then (w9_NetTwice.j1 k x2 x3 x9 (Int.tmod (wrap64 (x1)) (x801000.length : Int)) true x801000 x801001 x801002 x801003 x801004 ((rd_T41 x801000 (Int.tmod (wrap64 (x1)) (x801000.length : Int))).f0) ((rd_T41 x801000 (Int.tmod (wrap64 (x1)) (x801000.length : Int))).f1) ((rd_T41 x801000 (Int.tmod (wrap64 (x1)) (x801000.length : Int))).f2) ((rd_T41 x801000 (Int.tmod (wrap64 (x1)) (x801000.length : Int))).f3) ((rd_T41 x801000 (Int.tmod (wrap64 (x1)) (x801000.length : Int))).f4) ((rd_T41 x801000 (Int.tmod (wrap64 (x1)) (x801000.length : Int))).f5) ((rd_T41 x801000 (Int.tmod (wrap64 (x1)) (x801000.length : Int))).f6)) else (w9_NetTwice.j1 k x2 x3 x9 (Int.tmod (wrap64 (x1)) (x801000.length : Int)) (((rd_T41 x801000 (Int.tmod (wrap64 (x1)) (x801000.length : Int))).f0) == 22) x801000 x801001 x801002 x801003 x801004 ((rd_T41 x801000 (Int.tmod (wrap64 (x1)) (x801000.length : Int))).f0) ((rd_T41 x801000 (Int.tmod (wrap64 (x1)) (x801000.length : Int))).f1) ((rd_T41 x801000 (Int.tmod (wrap64 (x1)) (x801000.length : Int))).f2) ((rd_T41 x801000 (Int.tmod (wrap64 (x1)) (x801000.length : Int))).f3) ((rd_T41 x801000 (Int.tmod (wrap64 (x1)) (x801000.length : Int))).f4) ((rd_T41 x801000 (Int.tmod (wrap64 (x1)) (x801000.length : Int))).f5) ((rd_T41 x801000 (Int.tmod (wrap64 (x1)) (x801000.length : Int))).f6))) else (none)) else (none)))
def w9_NetTwice.j1 : Nat → List Int → List Int → Bool → Int → Bool → List (S41) → List (S47) → List (S43) → List (S61) → List (S47) → Int → Int → Int → Int → Int → Int → Int → Option (Bool)
 | 0, _, _, _, _, _, _, _, _, _, _, _, _, _, _, _, _, _ => none
 | k + 1, x2, x3, x9, x10, x50, x801000, x801001, x801002, x801003, x801004, x806000, x806001, x806002, x806003, x806004, x806005, x806006 => if x50 = true then (some x9) else ((some (([] : List (S41)) : List (S41))).bind fun y807 => (if y807.length + x801000.length < 2513169434916 then ((some (y807 ++ x801000 : List (S41))).bind fun y810 => ((some (([(⟨x806000, x806001, x806002, x806003, x806004, x806005, x806006⟩ : S41)] : List (S41)) : List (S41))).bind fun y813 => (if y810.length + y813.length < 2513169434916 then ((some (([] : List (S43)) : List (S43))).bind fun y819 => (if y819.length + x801002.length < 3518437208883 then (w9_NetTwice.l0 k x2 x3 x9 x10 0 x801000 x801001 x801002 x801003 x801004 (y810 ++ y813) x801001 (y819 ++ x801002) x801003 x801004) else (none))) else (none)))) else (none)))
def w9_NetTwice.l0 : Nat → List Int → List Int → Bool → Int → Int → List (S41) → List (S47) → List (S43) → List (S61) → List (S47) → List (S41) → List (S47) → List (S43) → List (S61) → List (S47) → Option (Bool)
 | 0, _, _, _, _, _, _, _, _, _, _, _, _, _, _, _ => none
 | k + 1, x2, x3, x9, x10, x13, x801000, x801001, x801002, x801003, x801004, x807000, x807001, x807002, x807003, x807004 => if x13 < (x807002.length : Int) then (if 0 ≤ x13 then (if ((rd_T43 x807002 x13).f2) = x10 then (w9_NetTwice.l0 k x2 x3 x9 x10 (wrap64 (x13 + 1)) x801000 x801001 x801002 x801003 x801004 x807000 x807001 (x807002.set (x13 : Int).toNat (⟨(rd_T43 x807002 x13).f0, (rd_T43 x807002 x13).f1, (x801000.length : Int), (rd_T43 x807002 x13).f3⟩ : S43)) x807003 x807004) else (w9_NetTwice.l0 k x2 x3 x9 x10 (wrap64 (x13 + 1)) x801000 x801001 x801002 x801003 x801004 x807000 x807001 x807002 x807003 x807004)) else (none)) else ((w9_Rows.f k x801000 x801001 x801002 x801003 x801004 x2 x3).bind fun bt827 => ((net_Eval.f k x807000 x807001 x807002 x807003 x807004 bt827.1 bt827.2).bind fun t833 => ((net_Right.f k x807000 x807001 x807002 x807003 x807004).bind fun t836 => (if t836 = true then (if (t833.length : Int) = (wrap64 ((x801000.length : Int) + 1)) then (if 0 ≤ (x801000.length : Int) then (if (x801000.length : Int) < (t833.length : Int) then (if 0 ≤ x10 then (if x10 < (t833.length : Int) then (w9_NetTwice.j3 k x9 bt827.1 bt827.2 ((rd t833 (x801000.length : Int)) != (rd t833 x10)) x801000 x801001 x801002 x801003 x801004 x807000 x807001 x807002 x807003 x807004) else (none)) else (none)) else (none)) else (none)) else (w9_NetTwice.j3 k x9 bt827.1 bt827.2 true x801000 x801001 x801002 x801003 x801004 x807000 x807001 x807002 x807003 x807004)) else (w9_NetTwice.j3 k x9 bt827.1 bt827.2 true x801000 x801001 x801002 x801003 x801004 x807000 x807001 x807002 x807003 x807004)))))
def w9_NetTwice.j3 : Nat → Bool → List Int → List Int → Bool → List (S41) → List (S47) → List (S43) → List (S61) → List (S47) → List (S41) → List (S47) → List (S43) → List (S61) → List (S47) → Option (Bool)
 | 0, _, _, _, _, _, _, _, _, _, _, _, _, _, _ => none
 | k + 1, x9, x14, x15, x124, x801000, x801001, x801002, x801003, x801004, x807000, x807001, x807002, x807003, x807004 => if x124 = true then (none) else (if x9 = true then ((net_After.f k x807000 x807001 x807002 x807003 x807004 x14 x15).bind fun t839 => ((net_After.f k x801000 x801001 x801002 x801003 x801004 x14 x15).bind fun t842 => ((r4_SameInts.f k t839 t842).bind fun t845 => (if t845 = true then ((net_First.f k x807000 x807001 x807002 x807003 x807004).bind fun t846 => ((net_First.f k x801000 x801001 x801002 x801003 x801004).bind fun t849 => ((r4_SameInts.f k t846 t849).bind fun t852 => (some t852)))) else (none))))) else (none))
end
def w9_NetTwice.f (k : Nat) (l0_0 : List (S41)) (l0_1 : List (S47)) (l0_2 : List (S43)) (l0_3 : List (S61)) (l0_4 : List (S47)) (a1 : Int) (l2 : List Int) (l3 : List Int) : Option (Bool) := (w9_head.f k).bind fun t801 => ((w9_Great.f l0_0 l0_1 l0_2 l0_3 l0_4).bind fun t802 => (if t802 = true then (w9_NetTwice.j0 k a1 l2 l3 t801 true l0_0 l0_1 l0_2 l0_3 l0_4) else ((r9_Right.f k l0_0 l0_1 l0_2 l0_3 l0_4).bind fun t803 => (if t803 = true then (w9_NetTwice.j0 k a1 l2 l3 t801 ((l0_0.length : Int) == 0) l0_0 l0_1 l0_2 l0_3 l0_4) else (w9_NetTwice.j0 k a1 l2 l3 t801 true l0_0 l0_1 l0_2 l0_3 l0_4)))))
theorem w9_NetTwice.mono_l : ∀ k, (∀ y0 y1 y2 y3 y4 y5 y6 y7 y8 y9, LeO (w9_NetTwice.j0 k y0 y1 y2 y3 y4 y5 y6 y7 y8 y9) (w9_NetTwice.j0 (k + 1) y0 y1 y2 y3 y4 y5 y6 y7 y8 y9)) ∧ (∀ y0 y1 y2 y3 y4 y5 y6 y7 y8 y9 y10 y11 y12 y13 y14 y15 y16, LeO (w9_NetTwice.j1 k y0 y1 y2 y3 y4 y5 y6 y7 y8 y9 y10 y11 y12 y13 y14 y15 y16) (w9_NetTwice.j1 (k + 1) y0 y1 y2 y3 y4 y5 y6 y7 y8 y9 y10 y11 y12 y13 y14 y15 y16)) ∧ (∀ y0 y1 y2 y3 y4 y5 y6 y7 y8 y9 y10 y11 y12 y13 y14, LeO (w9_NetTwice.l0 k y0 y1 y2 y3 y4 y5 y6 y7 y8 y9 y10 y11 y12 y13 y14) (w9_NetTwice.l0 (k + 1) y0 y1 y2 y3 y4 y5 y6 y7 y8 y9 y10 y11 y12 y13 y14)) ∧ (∀ y0 y1 y2 y3 y4 y5 y6 y7 y8 y9 y10 y11 y12 y13, LeO (w9_NetTwice.j3 k y0 y1 y2 y3 y4 y5 y6 y7 y8 y9 y10 y11 y12 y13) (w9_NetTwice.j3 (k + 1) y0 y1 y2 y3 y4 y5 y6 y7 y8 y9 y10 y11 y12 y13))
 | 0 => ⟨fun _ _ _ _ _ _ _ _ _ _ r h => by simp [w9_NetTwice.j0] at h, fun _ _ _ _ _ _ _ _ _ _ _ _ _ _ _ _ _ r h => by simp [w9_NetTwice.j1] at h, fun _ _ _ _ _ _ _ _ _ _ _ _ _ _ _ r h => by simp [w9_NetTwice.l0] at h, fun _ _ _ _ _ _ _ _ _ _ _ _ _ _ r h => by simp [w9_NetTwice.j3] at h⟩
 | k + 1 => by
  obtain ⟨ih0, ih1, ih2, ih3⟩ := w9_NetTwice.mono_l k; refine ⟨?_, ?_, ?_, ?_⟩
  ·intro y0 y1 y2 y3 y4 y5 y6 y7 y8 y9
   unfold w9_NetTwice.j0
   repeat' first
   | (with_reducible exact ih0 _ _ _ _ _ _ _ _ _ _)
   | (with_reducible exact ih1 _ _ _ _ _ _ _ _ _ _ _ _ _ _ _ _ _)
   | (with_reducible exact ih2 _ _ _ _ _ _ _ _ _ _ _ _ _ _ _)
   | (with_reducible exact ih3 _ _ _ _ _ _ _ _ _ _ _ _ _ _)
   | (with_reducible exact net_After.mono _ _ _ _ _ _ _ _)
   | (with_reducible exact net_Eval.mono _ _ _ _ _ _ _ _)
   | (with_reducible exact net_First.mono _ _ _ _ _ _)
   | (with_reducible exact net_Right.mono _ _ _ _ _ _)
   | (with_reducible exact w9_Rows.mono _ _ _ _ _ _ _ _)
   | (with_reducible exact w9_head.mono _)
   | (with_reducible exact r4_SameInts.mono _ _ _)
   | (with_reducible exact r9_Right.mono _ _ _ _ _ _)
   | (with_reducible exact LeO.refl _)
   | (with_reducible exact LeO.none _)
   | (with_reducible refine LeO.ite ?_ ?_)
   | (with_reducible refine LeO.bind ?_ (fun _ => ?_))
   | exact ih0 _ _ _ _ _ _ _ _ _ _
   | exact ih1 _ _ _ _ _ _ _ _ _ _ _ _ _ _ _ _ _
   | exact ih2 _ _ _ _ _ _ _ _ _ _ _ _ _ _ _
   | exact ih3 _ _ _ _ _ _ _ _ _ _ _ _ _ _
   | exact net_After.mono _ _ _ _ _ _ _ _
   | exact net_Eval.mono _ _ _ _ _ _ _ _
   | exact net_First.mono _ _ _ _ _ _
   | exact net_Right.mono _ _ _ _ _ _
   | exact w9_Rows.mono _ _ _ _ _ _ _ _
   | exact w9_head.mono _
   | exact r4_SameInts.mono _ _ _
   | exact r9_Right.mono _ _ _ _ _ _
   | exact LeO.none _
   | refine LeO.ite ?_ ?_
   | refine LeO.bind ?_ (fun _ => ?_)
  ·intro y0 y1 y2 y3 y4 y5 y6 y7 y8 y9 y10 y11 y12 y13 y14 y15 y16
   unfold w9_NetTwice.j1
   repeat' first
   | (with_reducible exact ih0 _ _ _ _ _ _ _ _ _ _)
   | (with_reducible exact ih1 _ _ _ _ _ _ _ _ _ _ _ _ _ _ _ _ _)
   | (with_reducible exact ih2 _ _ _ _ _ _ _ _ _ _ _ _ _ _ _)
   | (with_reducible exact ih3 _ _ _ _ _ _ _ _ _ _ _ _ _ _)
   | (with_reducible exact net_After.mono _ _ _ _ _ _ _ _)
   | (with_reducible exact net_Eval.mono _ _ _ _ _ _ _ _)
   | (with_reducible exact net_First.mono _ _ _ _ _ _)
   | (with_reducible exact net_Right.mono _ _ _ _ _ _)
   | (with_reducible exact w9_Rows.mono _ _ _ _ _ _ _ _)
   | (with_reducible exact w9_head.mono _)
   | (with_reducible exact r4_SameInts.mono _ _ _)
   | (with_reducible exact r9_Right.mono _ _ _ _ _ _)
   | (with_reducible exact LeO.refl _)
   | (with_reducible exact LeO.none _)
   | (with_reducible refine LeO.ite ?_ ?_)
   | (with_reducible refine LeO.bind ?_ (fun _ => ?_))
   | exact ih0 _ _ _ _ _ _ _ _ _ _
   | exact ih1 _ _ _ _ _ _ _ _ _ _ _ _ _ _ _ _ _
   | exact ih2 _ _ _ _ _ _ _ _ _ _ _ _ _ _ _
   | exact ih3 _ _ _ _ _ _ _ _ _ _ _ _ _ _
   | exact net_After.mono _ _ _ _ _ _ _ _
   | exact net_Eval.mono _ _ _ _ _ _ _ _
   | exact net_First.mono _ _ _ _ _ _
   | exact net_Right.mono _ _ _ _ _ _
   | exact w9_Rows.mono _ _ _ _ _ _ _ _
   | exact w9_head.mono _
   | exact r4_SameInts.mono _ _ _
   | exact r9_Right.mono _ _ _ _ _ _
   | exact LeO.none _
   | refine LeO.ite ?_ ?_
   | refine LeO.bind ?_ (fun _ => ?_)
  ·intro y0 y1 y2 y3 y4 y5 y6 y7 y8 y9 y10 y11 y12 y13 y14
   unfold w9_NetTwice.l0
   repeat' first
   | (with_reducible exact ih0 _ _ _ _ _ _ _ _ _ _)
   | (with_reducible exact ih1 _ _ _ _ _ _ _ _ _ _ _ _ _ _ _ _ _)
   | (with_reducible exact ih2 _ _ _ _ _ _ _ _ _ _ _ _ _ _ _)
   | (with_reducible exact ih3 _ _ _ _ _ _ _ _ _ _ _ _ _ _)
   | (with_reducible exact net_After.mono _ _ _ _ _ _ _ _)
   | (with_reducible exact net_Eval.mono _ _ _ _ _ _ _ _)
   | (with_reducible exact net_First.mono _ _ _ _ _ _)
   | (with_reducible exact net_Right.mono _ _ _ _ _ _)
   | (with_reducible exact w9_Rows.mono _ _ _ _ _ _ _ _)
   | (with_reducible exact w9_head.mono _)
   | (with_reducible exact r4_SameInts.mono _ _ _)
   | (with_reducible exact r9_Right.mono _ _ _ _ _ _)
   | (with_reducible exact LeO.refl _)
   | (with_reducible exact LeO.none _)
   | (with_reducible refine LeO.ite ?_ ?_)
   | (with_reducible refine LeO.bind ?_ (fun _ => ?_))
   | exact ih0 _ _ _ _ _ _ _ _ _ _
   | exact ih1 _ _ _ _ _ _ _ _ _ _ _ _ _ _ _ _ _
   | exact ih2 _ _ _ _ _ _ _ _ _ _ _ _ _ _ _
   | exact ih3 _ _ _ _ _ _ _ _ _ _ _ _ _ _
   | exact net_After.mono _ _ _ _ _ _ _ _
   | exact net_Eval.mono _ _ _ _ _ _ _ _
   | exact net_First.mono _ _ _ _ _ _
   | exact net_Right.mono _ _ _ _ _ _
   | exact w9_Rows.mono _ _ _ _ _ _ _ _
   | exact w9_head.mono _
   | exact r4_SameInts.mono _ _ _
   | exact r9_Right.mono _ _ _ _ _ _
   | exact LeO.none _
   | refine LeO.ite ?_ ?_
   | refine LeO.bind ?_ (fun _ => ?_)
  ·intro y0 y1 y2 y3 y4 y5 y6 y7 y8 y9 y10 y11 y12 y13
   unfold w9_NetTwice.j3
   repeat' first
   | (with_reducible exact ih0 _ _ _ _ _ _ _ _ _ _)
   | (with_reducible exact ih1 _ _ _ _ _ _ _ _ _ _ _ _ _ _ _ _ _)
   | (with_reducible exact ih2 _ _ _ _ _ _ _ _ _ _ _ _ _ _ _)
   | (with_reducible exact ih3 _ _ _ _ _ _ _ _ _ _ _ _ _ _)
   | (with_reducible exact net_After.mono _ _ _ _ _ _ _ _)
   | (with_reducible exact net_Eval.mono _ _ _ _ _ _ _ _)
   | (with_reducible exact net_First.mono _ _ _ _ _ _)
   | (with_reducible exact net_Right.mono _ _ _ _ _ _)
   | (with_reducible exact w9_Rows.mono _ _ _ _ _ _ _ _)
   | (with_reducible exact w9_head.mono _)
   | (with_reducible exact r4_SameInts.mono _ _ _)
   | (with_reducible exact r9_Right.mono _ _ _ _ _ _)
   | (with_reducible exact LeO.refl _)
   | (with_reducible exact LeO.none _)
   | (with_reducible refine LeO.ite ?_ ?_)
   | (with_reducible refine LeO.bind ?_ (fun _ => ?_))
   | exact ih0 _ _ _ _ _ _ _ _ _ _
   | exact ih1 _ _ _ _ _ _ _ _ _ _ _ _ _ _ _ _ _
   | exact ih2 _ _ _ _ _ _ _ _ _ _ _ _ _ _ _
   | exact ih3 _ _ _ _ _ _ _ _ _ _ _ _ _ _
   | exact net_After.mono _ _ _ _ _ _ _ _
   | exact net_Eval.mono _ _ _ _ _ _ _ _
   | exact net_First.mono _ _ _ _ _ _
   | exact net_Right.mono _ _ _ _ _ _
   | exact w9_Rows.mono _ _ _ _ _ _ _ _
   | exact w9_head.mono _
   | exact r4_SameInts.mono _ _ _
   | exact r9_Right.mono _ _ _ _ _ _
   | exact LeO.none _
   | refine LeO.ite ?_ ?_
   | refine LeO.bind ?_ (fun _ => ?_)
theorem w9_NetTwice.mono : ∀ a0 a1 a2 a3 a4 a5 a6 a7 k, LeO (w9_NetTwice.f k a0 a1 a2 a3 a4 a5 a6 a7) (w9_NetTwice.f (k + 1) a0 a1 a2 a3 a4 a5 a6 a7) := by
 intro a0 a1 a2 a3 a4 a5 a6 a7 k
 obtain ⟨ih1, ih2, ih3, ih4⟩ := w9_NetTwice.mono_l k; unfold w9_NetTwice.f
 repeat' first
   | (with_reducible exact ih1 _ _ _ _ _ _ _ _ _ _)
   | (with_reducible exact ih2 _ _ _ _ _ _ _ _ _ _ _ _ _ _ _ _ _)
   | (with_reducible exact ih3 _ _ _ _ _ _ _ _ _ _ _ _ _ _ _)
   | (with_reducible exact ih4 _ _ _ _ _ _ _ _ _ _ _ _ _ _)
   | (with_reducible exact net_After.mono _ _ _ _ _ _ _ _)
   | (with_reducible exact net_Eval.mono _ _ _ _ _ _ _ _)
   | (with_reducible exact net_First.mono _ _ _ _ _ _)
   | (with_reducible exact net_Right.mono _ _ _ _ _ _)
   | (with_reducible exact w9_Rows.mono _ _ _ _ _ _ _ _)
   | (with_reducible exact w9_head.mono _)
   | (with_reducible exact r4_SameInts.mono _ _ _)
   | (with_reducible exact r9_Right.mono _ _ _ _ _ _)
   | (with_reducible exact LeO.refl _)
   | (with_reducible exact LeO.none _)
   | (with_reducible refine LeO.ite ?_ ?_)
   | (with_reducible refine LeO.bind ?_ (fun _ => ?_))
   | exact ih1 _ _ _ _ _ _ _ _ _ _
   | exact ih2 _ _ _ _ _ _ _ _ _ _ _ _ _ _ _ _ _
   | exact ih3 _ _ _ _ _ _ _ _ _ _ _ _ _ _ _
   | exact ih4 _ _ _ _ _ _ _ _ _ _ _ _ _ _
   | exact net_After.mono _ _ _ _ _ _ _ _
   | exact net_Eval.mono _ _ _ _ _ _ _ _
   | exact net_First.mono _ _ _ _ _ _
   | exact net_Right.mono _ _ _ _ _ _
   | exact w9_Rows.mono _ _ _ _ _ _ _ _
   | exact w9_head.mono _
   | exact r4_SameInts.mono _ _ _
   | exact r9_Right.mono _ _ _ _ _ _
   | exact LeO.none _
   | refine LeO.ite ?_ ?_
   | refine LeO.bind ?_ (fun _ => ?_)
def w9_NetTwice.T9 : Bool × List (List Nat × List Nat) := (true, [([], []), ([], []), ([1], [1]), ([0, 2], [0, 2]), ([], []), ([4], [4]), ([3, 5, 3], [3, 5]), ([0, 1, 2, 3, 4, 5, 6], []), ([7, 6, 6, 0, 1, 2, 3, 4, 5, 6], [6, 7])])
def w9_NetTwice.B9 : List Nat := [0, 0, 2, 7, 0, 16, 63, 127, 255]
theorem w9_NetTwice.tab9 : rtab .any (opsOf Try.f9 9) = w9_NetTwice.T9 := by kernel_rfl
theorem w9_NetTwice.bits9 : waitsOk w9_NetTwice.T9.2 w9_NetTwice.B9 = true := by kernel_rfl
def w9_NetTwice.T18 : Bool × List (List Nat × List Nat) := (true, [([], []), ([0], [0]), ([1], [1]), ([2, 1], [2]), ([3], [3]), ([4, 3], [3, 4]), ([3], [3]), ([6, 3], [3, 6]), ([7, 3], [3, 7]), ([8, 3], [3, 8]), ([5, 9, 3], [3, 5, 9]), ([3, 10], [3, 10]), ([11, 3], [11]), ([12], [12]), ([12], [12]), ([14, 12], [12, 14]), ([15, 12], [12, 15]), ([13, 16, 12], [12, 13, 16]), ([17, 12], [12, 17]), ([12], [12]), ([12], [12]), ([19, 20, 12], [12, 19, 20]), ([21, 12], [12, 21]), ([18, 22, 12], [12, 18, 22]), ([12, 23], [12, 23])])
def w9_NetTwice.B18 : List Nat := [0, 1, 3, 7, 15, 31, 15, 79, 207, 463, 1023, 2047, 4095, 8191, 8191, 24575, 57343, 131071, 262143, 8191, 8191, 1581055, 3678207, 8388607, 16777215]
theorem w9_NetTwice.tab18 : rtab .any (opsOf Try.f9 18) = w9_NetTwice.T18 := by kernel_rfl
theorem w9_NetTwice.bits18 : waitsOk w9_NetTwice.T18.2 w9_NetTwice.B18 = true := by kernel_rfl
def w9_NetTwice.T20 : Bool × List (List Nat × List Nat) := (true, [([], []), ([0], [0]), ([1], [1]), ([1], [1]), ([1], [1]), ([2, 3, 4, 1, 1], [1, 2, 3, 4]), ([1], [1]), ([1], [1]), ([1], [1]), ([6, 7, 8, 5, 1], [1, 6, 7, 8]), ([5, 9, 9, 1], [1, 5, 9]), ([1, 10], [1, 10]), ([11, 10], [11]), ([12], [12]), ([13, 12, 12], [12, 13]), ([12], [12]), ([15, 14, 12], [12, 15]), ([14, 16, 16, 12], [12, 14, 16]), ([12, 17], [12, 17]), ([18, 17, 0, 1, 2, 3, 4, 5, 6, 7, 8, 9, 10, 11, 12, 13, 14, 15, 16, 17, 18], [18])])
def w9_NetTwice.B20 : List Nat := [0, 1, 3, 3, 3, 31, 3, 3, 3, 511, 1023, 2047, 4095, 8191, 16383, 8191, 65535, 131071, 262143, 524287]
theorem w9_NetTwice.tab20 : rtab .any (opsOf Try.f9 20) = w9_NetTwice.T20 := by kernel_rfl
theorem w9_NetTwice.bits20 : waitsOk w9_NetTwice.T20.2 w9_NetTwice.B20 = true := by kernel_rfl
theorem z90_1 {P : Prop} (h : P := by
 refine zpu 11 111 (zb 25 4095) ?_; refine zpu 12 112 (zb 25 8191) ?_; refine zpn 13 113 (zb 25 16383) ?_; refine zpn 14 114 (zb 25 32767) ?_; refine zpn 15 115 (zb 25 65535) ?_; refine zpn 16 116 (zb 25 131071) ?_; refine zpn 17 117 (zb 25 262143) ?_; refine zpn 18 118 (zb 25 524287) ?_; refine zpn 19 119 (zb 25 1048575) ?_; refine zpn 20 120 (zb 25 2097151) ?_; refine zpn 21 121 (zb 25 4194303) ?_; refine zpn 22 122 (zb 25 8388607) ?_; refine zpn 23 123 (zb 25 16777215) ?_; refine zpu 24 124 (zb 25 33554431) ?_; refine zdo ?_; try go_wp2
 go_meet
 case rel => exact ⟨_, (true), q13z, H', ⟨q62z HJ1 HJ2 HK1⟩, ⟨q79z HO1⟩, ⟨q79z HO2⟩, ⟨q2z HO_1⟩, ⟨q2z HO_2⟩, ⟨q10z BK1⟩, ⟨q10z BK2⟩, ⟨q10z BK3⟩, ⟨q12z HB GE1 GE2 GE3⟩⟩) : P := h
theorem z90_2 {P : Prop} (h : P := by
 have H1 : (none) = some r := by rw [if_neg (show ¬ (false = true) by decide)] at H; exact H
 clear H; have H := H1; clear H1; exact absurd H (by simp)) : P := h
set_option maxHeartbeats 8000000 in
set_option maxRecDepth 100000 in
theorem w9_NetTwice.calls (k : Nat) (A0_0 : Option Addr) (c0_0 : Nat) (l0_0 : List (S41)) (A0_1 : Option Addr) (c0_1 : Nat) (l0_1 : List (S47)) (A0_2 : Option Addr) (c0_2 : Nat) (l0_2 : List (S43)) (A0_3 : Option Addr) (c0_3 : Nat) (l0_3 : List (S61)) (A0_4 : Option Addr) (c0_4 : Nat) (l0_4 : List (S47)) (a1 : Int) (A2 : Option Addr) (c2 : Nat) (l2 : List Int) (A3 : Option Addr) (c3 : Nat) (l3 : List Int) (r : Bool) (w : World) (hr0_0 : Kd.C k41 w A0_0 l0_0.length l0_0) (hc0_0 : l0_0.length ≤ c0_0) (hr0_1 : Kd.C k47 w A0_1 l0_1.length l0_1) (hc0_1 : l0_1.length ≤ c0_1) (hr0_2 : Kd.C k43 w A0_2 l0_2.length l0_2) (hc0_2 : l0_2.length ≤ c0_2) (hr0_3 : Kd.C k61 w A0_3 l0_3.length l0_3) (hc0_3 : l0_3.length ≤ c0_3) (hr0_4 : Kd.C k47 w A0_4 l0_4.length l0_4) (hc0_4 : l0_4.length ≤ c0_4) (hr2 : Kd.C (Kd.int .u16) w A2 l2.length l2) (hc2 : l2.length ≤ c2) (hr3 : Kd.C (Kd.int .u16) w A3 l3.length l3) (hc3 : l3.length ≤ c3) (h : w9_NetTwice.f k l0_0 l0_1 l0_2 l0_3 l0_4 a1 l2 l3 = some r) :
  Calls Try.prog 9 #[.agg #[.slice A0_0 l0_0.length c0_0, .slice A0_1 l0_1.length c0_1, .slice A0_2 l0_2.length c0_2, .slice A0_3 l0_3.length c0_3, .slice A0_4 l0_4.length c0_4], .int .u16 a1, .slice A2 l2.length c2, .slice A3 l3.length c3] w fun e w' => e = .returned (.bool r) ∧ Below w.heap.size w w' := by
 have hu1 := Try.underlying27; have hu1 := Try.underlying41; have HR1_0 := aM hr0_0; have HC1_0 := aM hc0_0; clear hr0_0 hc0_0; have HR1_1 := aM hr0_1; have HC1_1 := aM hc0_1; clear hr0_1 hc0_1; have HR1_2 := aM hr0_2; have HC1_2 := aM hc0_2; clear hr0_2 hc0_2; have HR1_3 := aM hr0_3; have HC1_3 := aM hc0_3; clear hr0_3 hc0_3; have HR1_4 := aM hr0_4; have HC1_4 := aM hc0_4; clear hr0_4 hc0_4; have HR1 := aM hr2; have HC1 := aM hc2; clear hr2 hc2; have HR2 := aM hr3; have HC2 := aM hc3; clear hr3 hc3; have HB := aM (Below.refl w.heap.size w); have H : ((w9_head.f k).bind fun t1 => ((w9_Great.f l0_0 l0_1 l0_2 l0_3 l0_4).bind fun t2 => (if t2 = true then (w9_NetTwice.j0 k a1 l2 l3 t1 true l0_0 l0_1 l0_2 l0_3 l0_4) else ((r9_Right.f k l0_0 l0_1 l0_2 l0_3 l0_4).bind fun t3 => (if t3 = true then (w9_NetTwice.j0 k a1 l2 l3 t1 ((l0_0.length : Int) == 0) l0_0 l0_1 l0_2 l0_3 l0_4) else (w9_NetTwice.j0 k a1 l2 l3 t1 true l0_0 l0_1 l0_2 l0_3 l0_4)))))) = some r := h; clear h; replace H := Option.bind_eq_some_iff.mp H; obtain ⟨t1, A1, H⟩ := H; have A4 := aM A1; clear A1; have HC3 := aM H; clear H; go_enter Try.func9, Try.ntmps9
 go_upto_region 2 with (first | ((with_reducible refine gate_dst (N := 4) rfl ?_); (try (refine gate_guard (by rfl) ?_; dsimp only)); refine box_event ?hg (N := 4) ?hd (cs := #[.slice A0_0 l0_0.length c0_0, .slice A0_1 l0_1.length c0_1, .slice A0_2 l0_2.length c0_2, .slice A0_3 l0_3.length c0_3, .slice A0_4 l0_4.length c0_4]) (t := 27) ?hr ?_; (case hd => rfl); (case hg => rfl); (case hr => exact q27z); intro gb1 hg w2 hbox hb; have BK1 := aM (hbox); have GW1 := aM ((q7z HB : w.heap.size ≤ gb1)); have GE1 := aM ((q7z HB : w.heap.size ≤ gb1)); replace HB := aM (ym (q4z HB) hb); clear hb hbox hg) | ((with_reducible refine zgc 10 rfl ?_); refine zgl (some 17) Try.func10 #[] ?_; (with_reducible refine (w9_head.calls k  t1 _ A4.out).mono ?_); rintro e w3 ⟨rfl, hb⟩; refine ⟨_, rfl, ?_⟩; replace BK1 := aM (yi (zi BK1) hb); replace HB := aM (ym (q3z HB GE1) hb); (try clear hb); (try clear hb2); (try clear hk); (try clear hi)))
 (try simp only [Act.put, yu, yv, yw])
 go_cut [30] (fun v1 wc => ∃ (kq : Nat) (x1_5 : Bool), v1 = .bool x1_5 ∧ Aside0 (w9_NetTwice.j0 kq a1 l2 l3 t1 x1_5 l0_0 l0_1 l0_2 l0_3 l0_4 = some r) ∧ Aside0 (kq ≤ k) ∧ Aside0 (wc.heap[gb1]? = some (.cells #[(.slice A0_0 l0_0.length c0_0), (.slice A0_1 l0_1.length c0_1), (.slice A0_2 l0_2.length c0_2), (.slice A0_3 l0_3.length c0_3), (.slice A0_4 l0_4.length c0_4)] 27 (0, 0))) ∧ Aside0 (Below w.heap.size w wc))
 case first =>
  have H := HC3.out; clear HC3; replace H := Option.bind_eq_some_iff.mp H; obtain ⟨t2, A1, H⟩ := H; have A4 := aM A1; clear A1; by_cases c5 : t2 = true
  ·subst c5; have H1 : (w9_NetTwice.j0 k a1 l2 l3 t1 true l0_0 l0_1 l0_2 l0_3 l0_4) = some r := by rw [if_pos rfl] at H; exact H
   clear H; have H := H1; clear H1; have H' := aM H; clear H; obtain ⟨i1_0, i1_1, i1_2, i1_3, i1_4, j1_0, j1_1, j1_2, j1_3, j1_4⟩ := cells5_90 BK1.out; go_wp2_with (first | ((with_reducible refine zgc 11 rfl ?_); refine zgl (some 19) Try.func11 #[.agg #[.slice A0_0 l0_0.length c0_0, .slice A0_1 l0_1.length c0_1, .slice A0_2 l0_2.length c0_2, .slice A0_3 l0_3.length c0_3, .slice A0_4 l0_4.length c0_4]] ?_; (with_reducible refine (w9_Great.calls _ _ l0_0 _ _ l0_1 _ _ l0_2 _ _ l0_3 _ _ l0_4 true _ ?side1 ?side2 ?side3 ?side4 ?side5 ?side6 ?side7 ?side8 ?side9 ?side10 A4.out).mono ?_); (case side1 => exact q1z HR1_0 HB); (case side2 => exact HC1_0.out); (case side3 => exact q1z HR1_1 HB); (case side4 => exact HC1_1.out); (case side5 => exact q1z HR1_2 HB); (case side6 => exact HC1_2.out); (case side7 => exact q1z HR1_3 HB); (case side8 => exact HC1_3.out); (case side9 => exact q1z HR1_4 HB); (case side10 => exact HC1_4.out); rintro e w2 ⟨rfl, hb⟩; refine ⟨_, rfl, ?_⟩; replace BK1 := aM (yi (zi BK1) hb); replace HB := aM (ym (q3z HB GE1) hb); (try clear hb); (try clear hb2); (try clear hk); (try clear hi)))
   go_meet
   case rel => exact ⟨_, (true), q13z, H', ⟨q51z⟩, ⟨q10z BK1⟩, ⟨q3z HB GE1⟩⟩
  ·replace c5 := Bool.eq_false_iff.mpr c5; subst c5; have H1 : ((r9_Right.f k l0_0 l0_1 l0_2 l0_3 l0_4).bind fun t3 => (if t3 = true then (w9_NetTwice.j0 k a1 l2 l3 t1 ((l0_0.length : Int) == 0) l0_0 l0_1 l0_2 l0_3 l0_4) else (w9_NetTwice.j0 k a1 l2 l3 t1 true l0_0 l0_1 l0_2 l0_3 l0_4))) = some r := by rw [if_neg (show ¬ (false = true) by decide)] at H; exact H
   clear H; have H := H1; clear H1; replace H := Option.bind_eq_some_iff.mp H; obtain ⟨t3, A1, H⟩ := H; have A5 := aM A1; clear A1; by_cases c5 : t3 = true
   ·subst c5; have H1 : (w9_NetTwice.j0 k a1 l2 l3 t1 ((l0_0.length : Int) == 0) l0_0 l0_1 l0_2 l0_3 l0_4) = some r := by rw [if_pos rfl] at H; exact H
    clear H; have H := H1; clear H1; have H' := aM H; clear H; obtain ⟨i1_0, i1_1, i1_2, i1_3, i1_4, j1_0, j1_1, j1_2, j1_3, j1_4⟩ := cells5_90 BK1.out; go_wp2_with (first | ((with_reducible refine zgc 11 rfl ?_); refine zgl (some 19) Try.func11 #[.agg #[.slice A0_0 l0_0.length c0_0, .slice A0_1 l0_1.length c0_1, .slice A0_2 l0_2.length c0_2, .slice A0_3 l0_3.length c0_3, .slice A0_4 l0_4.length c0_4]] ?_; (with_reducible refine (w9_Great.calls _ _ l0_0 _ _ l0_1 _ _ l0_2 _ _ l0_3 _ _ l0_4 false _ ?side1 ?side2 ?side3 ?side4 ?side5 ?side6 ?side7 ?side8 ?side9 ?side10 A4.out).mono ?_); (case side1 => exact q1z HR1_0 HB); (case side2 => exact HC1_0.out); (case side3 => exact q1z HR1_1 HB); (case side4 => exact HC1_1.out); (case side5 => exact q1z HR1_2 HB); (case side6 => exact HC1_2.out); (case side7 => exact q1z HR1_3 HB); (case side8 => exact HC1_3.out); (case side9 => exact q1z HR1_4 HB); (case side10 => exact HC1_4.out); rintro e w2 ⟨rfl, hb⟩; refine ⟨_, rfl, ?_⟩; replace BK1 := aM (yi (zi BK1) hb); replace HB := aM (ym (q3z HB GE1) hb); (try clear hb); (try clear hb2); (try clear hk); (try clear hi); obtain ⟨i1_0, i1_1, i1_2, i1_3, i1_4, j1_0, j1_1, j1_2, j1_3, j1_4⟩ := cells5_90 BK1.out) | (go_at_call 13; (with_reducible refine (r9_Right.calls k _ _ l0_0 _ _ l0_1 _ _ l0_2 _ _ l0_3 _ _ l0_4 true _ ?side1 ?side2 ?side3 ?side4 ?side5 ?side6 ?side7 ?side8 ?side9 ?side10 A5.out).mono ?_); (case side1 => exact q1z HR1_0 HB); (case side2 => exact HC1_0.out); (case side3 => exact q1z HR1_1 HB); (case side4 => exact HC1_1.out); (case side5 => exact q1z HR1_2 HB); (case side6 => exact HC1_2.out); (case side7 => exact q1z HR1_3 HB); (case side8 => exact HC1_3.out); (case side9 => exact q1z HR1_4 HB); (case side10 => exact HC1_4.out); rintro e w3 ⟨rfl, hb⟩; replace BK1 := aM (yi (zi BK1) hb); replace HB := aM (ym (q3z HB GE1) hb); (try clear hb); (try clear hb2); (try clear hk); (try clear hi); obtain ⟨i2_0, i2_1, i2_2, i2_3, i2_4, j2_0, j2_1, j2_2, j2_3, j2_4⟩ := cells5_90 BK1.out))
    go_meet
    case rel => exact ⟨_, (((l0_0.length : Int) == 0)), q13z, H', ⟨q51z⟩, ⟨q10z BK1⟩, ⟨q3z HB GE1⟩⟩
   ·replace c5 := Bool.eq_false_iff.mpr c5; subst c5; have H1 : (w9_NetTwice.j0 k a1 l2 l3 t1 true l0_0 l0_1 l0_2 l0_3 l0_4) = some r := by rw [if_neg (show ¬ (false = true) by decide)] at H; exact H
    clear H; have H := H1; clear H1; have H' := aM H; clear H; obtain ⟨i1_0, i1_1, i1_2, i1_3, i1_4, j1_0, j1_1, j1_2, j1_3, j1_4⟩ := cells5_90 BK1.out; go_wp2_with (first | ((with_reducible refine zgc 11 rfl ?_); refine zgl (some 19) Try.func11 #[.agg #[.slice A0_0 l0_0.length c0_0, .slice A0_1 l0_1.length c0_1, .slice A0_2 l0_2.length c0_2, .slice A0_3 l0_3.length c0_3, .slice A0_4 l0_4.length c0_4]] ?_; (with_reducible refine (w9_Great.calls _ _ l0_0 _ _ l0_1 _ _ l0_2 _ _ l0_3 _ _ l0_4 false _ ?side1 ?side2 ?side3 ?side4 ?side5 ?side6 ?side7 ?side8 ?side9 ?side10 A4.out).mono ?_); (case side1 => exact q1z HR1_0 HB); (case side2 => exact HC1_0.out); (case side3 => exact q1z HR1_1 HB); (case side4 => exact HC1_1.out); (case side5 => exact q1z HR1_2 HB); (case side6 => exact HC1_2.out); (case side7 => exact q1z HR1_3 HB); (case side8 => exact HC1_3.out); (case side9 => exact q1z HR1_4 HB); (case side10 => exact HC1_4.out); rintro e w2 ⟨rfl, hb⟩; refine ⟨_, rfl, ?_⟩; replace BK1 := aM (yi (zi BK1) hb); replace HB := aM (ym (q3z HB GE1) hb); (try clear hb); (try clear hb2); (try clear hk); (try clear hi); obtain ⟨i1_0, i1_1, i1_2, i1_3, i1_4, j1_0, j1_1, j1_2, j1_3, j1_4⟩ := cells5_90 BK1.out) | (go_at_call 13; (with_reducible refine (r9_Right.calls k _ _ l0_0 _ _ l0_1 _ _ l0_2 _ _ l0_3 _ _ l0_4 false _ ?side1 ?side2 ?side3 ?side4 ?side5 ?side6 ?side7 ?side8 ?side9 ?side10 A5.out).mono ?_); (case side1 => exact q1z HR1_0 HB); (case side2 => exact HC1_0.out); (case side3 => exact q1z HR1_1 HB); (case side4 => exact HC1_1.out); (case side5 => exact q1z HR1_2 HB); (case side6 => exact HC1_2.out); (case side7 => exact q1z HR1_3 HB); (case side8 => exact HC1_3.out); (case side9 => exact q1z HR1_4 HB); (case side10 => exact HC1_4.out); rintro e w3 ⟨rfl, hb⟩; replace BK1 := aM (yi (zi BK1) hb); replace HB := aM (ym (q3z HB GE1) hb); (try clear hb); (try clear hb2); (try clear hk); (try clear hi)))
    go_meet
    case rel => exact ⟨_, (true), q13z, H', ⟨q51z⟩, ⟨q10z BK1⟩, ⟨q3z HB GE1⟩⟩
 case rest =>
  clear HC3; try clear c1
  try clear c2
  try clear p2
  try clear c3
  try clear c9
  try clear c5
  try clear c11
  try clear c6
  try clear i1_0 i1_1 i1_2 i1_3 i1_4
  try clear i2_0 i2_1 i2_2 i2_3 i2_4
  try clear i3_0 i3_1 i3_2 i3_3 i3_4
  try clear i4_0 i4_1 i4_2 i4_3 i4_4
  try clear i5_0 i5_1 i5_2 i5_3 i5_4
  try clear i6_0 i6_1 i6_2 i6_3 i6_4
  try clear j1_0 j1_1 j1_2 j1_3 j1_4
  try clear j2_0 j2_1 j2_2 j2_3 j2_4
  try clear j3_0 j3_1 j3_2 j3_3 j3_4
  try clear j4_0 j4_1 j4_2 j4_3 j4_4
  try clear j5_0 j5_1 j5_2 j5_3 j5_4
  try clear j6_0 j6_1 j6_2 j6_3 j6_4
  obtain ⟨kq, x1_5, rfl, HA, HJ1, BK1, HB⟩ := hcut; cases kq with
  | zero => exact absurd HA.out (by simp [w9_NetTwice.j0])
  | succ kj1 =>
   have H := HA.out; clear HA; simp only [w9_NetTwice.j0] at H; by_cases c8 : x1_5 = true
   ·subst c8; have H1 : (some t1) = some r := by rw [if_pos rfl] at H; exact H
    clear H; have H := H1; clear H1; obtain rfl := Option.some.inj H; go_wp2
    go_ret
    exact ⟨q11z, q3z HB GE1⟩
   ·replace c8 := Bool.eq_false_iff.mpr c8; subst c8; have H1 : (if (l0_0.length : Int) = 0 then (none) else (if 0 ≤ (Int.tmod (wrap64 (a1)) (l0_0.length : Int)) then (if (Int.tmod (wrap64 (a1)) (l0_0.length : Int)) < (l0_0.length : Int) then (if ((rd_T41 l0_0 (Int.tmod (wrap64 (a1)) (l0_0.length : Int))).f0) = 21 then (w9_NetTwice.j1 kj1 l2 l3 t1 (Int.tmod (wrap64 (a1)) (l0_0.length : Int)) true l0_0 l0_1 l0_2 l0_3 l0_4 ((rd_T41 l0_0 (Int.tmod (wrap64 (a1)) (l0_0.length : Int))).f0) ((rd_T41 l0_0 (Int.tmod (wrap64 (a1)) (l0_0.length : Int))).f1) ((rd_T41 l0_0 (Int.tmod (wrap64 (a1)) (l0_0.length : Int))).f2) ((rd_T41 l0_0 (Int.tmod (wrap64 (a1)) (l0_0.length : Int))).f3) ((rd_T41 l0_0 (Int.tmod (wrap64 (a1)) (l0_0.length : Int))).f4) ((rd_T41 l0_0 (Int.tmod (wrap64 (a1)) (l0_0.length : Int))).f5) ((rd_T41 l0_0 (Int.tmod (wrap64 (a1)) (l0_0.length : Int))).f6)) else (w9_NetTwice.j1 kj1 l2 l3 t1 (Int.tmod (wrap64 (a1)) (l0_0.length : Int)) (((rd_T41 l0_0 (Int.tmod (wrap64 (a1)) (l0_0.length : Int))).f0) == 22) l0_0 l0_1 l0_2 l0_3 l0_4 ((rd_T41 l0_0 (Int.tmod (wrap64 (a1)) (l0_0.length : Int))).f0) ((rd_T41 l0_0 (Int.tmod (wrap64 (a1)) (l0_0.length : Int))).f1) ((rd_T41 l0_0 (Int.tmod (wrap64 (a1)) (l0_0.length : Int))).f2) ((rd_T41 l0_0 (Int.tmod (wrap64 (a1)) (l0_0.length : Int))).f3) ((rd_T41 l0_0 (Int.tmod (wrap64 (a1)) (l0_0.length : Int))).f4) ((rd_T41 l0_0 (Int.tmod (wrap64 (a1)) (l0_0.length : Int))).f5) ((rd_T41 l0_0 (Int.tmod (wrap64 (a1)) (l0_0.length : Int))).f6))) else (none)) else (none))) = some r := by rw [if_neg (show ¬ (false = true) by decide)] at H; exact H
    clear H; have H := H1; clear H1; by_cases c10 : (l0_0.length : Int) = 0
    ·rw [if_pos c10] at H; exact absurd H (by simp)
    ·rw [if_neg c10] at H; obtain ⟨c1b0, c1b1⟩ := zne c10; have c1b2 : ¬ (l0_0 = []) := fun h_ => c10 (by rw [h_]; rfl)
     obtain ⟨ji1, hji1⟩ : ∃ j_ : Int, (Int.tmod (wrap64 (a1)) (l0_0.length : Int)) = j_ := ⟨_, rfl⟩; replace H : (if 0 ≤ (ji1) then (if (ji1) < (l0_0.length : Int) then (if ((rd_T41 l0_0 (ji1)).f0) = 21 then (w9_NetTwice.j1 kj1 l2 l3 t1 ji1 true l0_0 l0_1 l0_2 l0_3 l0_4 ((rd_T41 l0_0 (ji1)).f0) ((rd_T41 l0_0 (ji1)).f1) ((rd_T41 l0_0 (ji1)).f2) ((rd_T41 l0_0 (ji1)).f3) ((rd_T41 l0_0 (ji1)).f4) ((rd_T41 l0_0 (ji1)).f5) ((rd_T41 l0_0 (ji1)).f6)) else (w9_NetTwice.j1 kj1 l2 l3 t1 ji1 (((rd_T41 l0_0 (ji1)).f0) == 22) l0_0 l0_1 l0_2 l0_3 l0_4 ((rd_T41 l0_0 (ji1)).f0) ((rd_T41 l0_0 (ji1)).f1) ((rd_T41 l0_0 (ji1)).f2) ((rd_T41 l0_0 (ji1)).f3) ((rd_T41 l0_0 (ji1)).f4) ((rd_T41 l0_0 (ji1)).f5) ((rd_T41 l0_0 (ji1)).f6))) else (none)) else (none)) = some r := by first | (rw [hji1] at H; exact H) | (simp only [hji1] at H ⊢; exact H)
     by_cases c13 : 0 ≤ (ji1)
     ·rw [if_pos c13] at H; have c2b0 := decide_eq_true c13; clear c13; by_cases c14 : (ji1) < (l0_0.length : Int)
      ·rw [if_pos c14] at H; have c3b0 := decide_eq_true c14; clear c14; have HC3 := aM H; clear H; obtain ⟨i7_0, i7_1, i7_2, i7_3, i7_4, j7_0, j7_1, j7_2, j7_3, j7_4⟩ := cells5_90 BK1.out; have p1 : 0 ≤ ((ji1) : Int) := zod; have q1 : (ji1) < (l0_0.length : Int) := zod; obtain ⟨ad1, e1, hx1_0, hx1_1, hx1_2, hx1_3, hx1_4, hx1_5, hx1_6⟩ := at_T41 HR1_0.out (ji1) p1 q1; cases e1; replace hx1_0 := zx HB hx1_0; replace hx1_1 := zx HB hx1_1; replace hx1_2 := zx HB hx1_2; replace hx1_3 := zx HB hx1_3; replace hx1_4 := zx HB hx1_4; replace hx1_5 := zx HB hx1_5; replace hx1_6 := zx HB hx1_6; replace p1 := eq_true p1; replace q1 := eq_true q1; go_upto_region 6 with (first | ((with_reducible refine gate_dst (N := 11) rfl ?_); (try (refine gate_guard (by rfl) ?_; dsimp only)); refine box_event ?hg (N := 11) ?hd (cs := #[.int .i64 0, .int .i64 0, .int .i64 0, .int .i64 0, .int .i64 0, .int .i64 0, .int .i64 0]) (t := 41) ?hr ?_; (case hd => rfl); (case hg => rfl); (case hr => exact q27z); intro gb2 hg w2 hbox hb; have BK2 := aM (hbox); have GW1 := aM ((q14z HB GE1 : w.heap.size ≤ gb2)); have GE2 := aM ((q14z HB GE1 : w.heap.size ≤ gb2)); replace HB := aM (ym (q3z HB GE1) hb); have NB1_805 := aM ((q38z BK1 : gb1 ≠ gb2)); have NB1_800 := aM ((q39z BK1 : gb2 ≠ gb1)); replace BK1 := aM (yi (zi BK1) hb); clear hb hbox hg; have hnb1 := NB1_800.out; have hnc1 := NB1_805.out; obtain ⟨i8_0, i8_1, i8_2, i8_3, i8_4, i1_5, i1_6, j8_0, j8_1, j8_2, j8_3, j8_4, j1_5, j1_6⟩ := cells7_90 BK2.out))
       (try simp only [Act.put, yu, yv, yw])
       go_cut [50] (fun v1 wc => ∃ (kq : Nat) (x1_28 : Bool), v1 = .bool x1_28 ∧ Aside0 (w9_NetTwice.j1 kq l2 l3 t1 ji1 x1_28 l0_0 l0_1 l0_2 l0_3 l0_4 ((rd_T41 l0_0 (ji1)).f0) ((rd_T41 l0_0 (ji1)).f1) ((rd_T41 l0_0 (ji1)).f2) ((rd_T41 l0_0 (ji1)).f3) ((rd_T41 l0_0 (ji1)).f4) ((rd_T41 l0_0 (ji1)).f5) ((rd_T41 l0_0 (ji1)).f6) = some r) ∧ Aside0 (kq ≤ kj1) ∧ Aside0 (wc.heap[gb1]? = some (.cells #[(.slice (some ad1) l0_0.length c0_0), (.slice A0_1 l0_1.length c0_1), (.slice A0_2 l0_2.length c0_2), (.slice A0_3 l0_3.length c0_3), (.slice A0_4 l0_4.length c0_4)] 27 (0, 0))) ∧ Aside0 (wc.heap[gb2]? = some (.cells #[.int .i64 ((rd_T41 l0_0 (ji1)).f0), .int .i64 ((rd_T41 l0_0 (ji1)).f1), .int .i64 ((rd_T41 l0_0 (ji1)).f2), .int .i64 ((rd_T41 l0_0 (ji1)).f3), .int .i64 ((rd_T41 l0_0 (ji1)).f4), .int .i64 ((rd_T41 l0_0 (ji1)).f5), .int .i64 ((rd_T41 l0_0 (ji1)).f6)] 41 (0, 0))) ∧ Aside0 (Below w.heap.size w wc))
       case first =>
        have H := HC3.out; clear HC3; by_cases c15 : ((rd_T41 l0_0 (ji1)).f0) = 21
        ·rw [if_pos c15] at H; obtain ⟨c4b0, c2b1⟩ := zeq c15; clear c15; (first | rw [c4b0] | (simp only [i64_w, i32_w]; rw [c4b0]) | skip)
         have H' := aM H; clear H; have hnb1 := NB1_800.out; have hnc1 := NB1_805.out; obtain ⟨i9_0, i9_1, i9_2, i9_3, i9_4, i2_5, i2_6, j9_0, j9_1, j9_2, j9_3, j9_4, j2_5, j2_6⟩ := cells7_90 BK2.out; go_wp2
         go_meet
         case rel => exact ⟨_, (true), q13z, H', ⟨q55z HJ1⟩, ⟨q8z NB1_805 BK1⟩, ⟨q21z BK2⟩, ⟨q5z HB GE1 GE2⟩⟩
        ·rw [if_neg c15] at H; obtain ⟨c4b0, c2b1⟩ := zne c15; (first | rw [c4b0] | (simp only [i64_w, i32_w]; rw [c4b0]) | skip)
         have H' := aM H; clear H; have hnb1 := NB1_800.out; have hnc1 := NB1_805.out; obtain ⟨i9_0, i9_1, i9_2, i9_3, i9_4, i2_5, i2_6, j9_0, j9_1, j9_2, j9_3, j9_4, j2_5, j2_6⟩ := cells7_90 BK2.out; go_wp2
         go_meet
         case rel => exact ⟨_, ((((rd_T41 l0_0 (ji1)).f0) == 22)), q82z, H', ⟨q55z HJ1⟩, ⟨q8z NB1_805 BK1⟩, ⟨q21z BK2⟩, ⟨q5z HB GE1 GE2⟩⟩
       case rest =>
        clear HC3; try clear c1
        try clear c2
        try clear p2
        try clear c3
        try clear p6
        try clear p8
        try clear q8
        try clear hx8
        try clear c9
        try clear c5
        try clear c11
        try clear c6
        try clear c8
        try clear c10
        try clear c1b0
        try clear c1b1
        try clear c1b2
        try clear c13
        try clear c2b0
        try clear c14
        try clear c3b0
        try clear c32
        try clear c6
        try clear c1b0
        try clear c1b1
        try clear c35
        try clear c37
        try clear i1_0 i1_1 i1_2 i1_3 i1_4
        try clear i2_0 i2_1 i2_2 i2_3 i2_4
        try clear i3_0 i3_1 i3_2 i3_3 i3_4
        try clear i4_0 i4_1 i4_2 i4_3 i4_4
        try clear i5_0 i5_1 i5_2 i5_3 i5_4
        try clear i6_0 i6_1 i6_2 i6_3 i6_4
        try clear i7_0 i7_1 i7_2 i7_3 i7_4
        try clear i8_0 i8_1 i8_2 i8_3 i8_4
        try clear i1_5 i1_6 i1_0 i1_1 i1_2 i1_3 i1_4
        try clear i2_5 i2_6 i2_0
        try clear i9_1 i9_2 i9_3 i9_4
        try clear i3_5 i3_6
        try clear j1_0 j1_1 j1_2 j1_3 j1_4
        try clear j2_0 j2_1 j2_2 j2_3 j2_4
        try clear j3_0 j3_1 j3_2 j3_3 j3_4
        try clear j4_0 j4_1 j4_2 j4_3 j4_4
        try clear j5_0 j5_1 j5_2 j5_3 j5_4
        try clear j6_0 j6_1 j6_2 j6_3 j6_4
        try clear j7_0 j7_1 j7_2 j7_3 j7_4
        try clear j8_0 j8_1 j8_2 j8_3 j8_4
        try clear j1_5 j1_6
        try clear j9_0 j9_1 j9_2 j9_3 j9_4
        try clear j2_5 j2_6
        try clear j10_0 j10_1 j10_2 j10_3 j10_4
        try clear j3_5 j3_6
        try clear hx1_0
        try clear hx1_1
        try clear hx1_2
        try clear hx1_3
        try clear hx1_4
        try clear hx1_5
        try clear hx1_6
        try clear p2
        try clear p1
        try clear q1
        obtain ⟨kq, x1_28, rfl, HA, HJ2, BK1, BK2, HB⟩ := hcut; cases kq with
        | zero => exact absurd HA.out (by simp [w9_NetTwice.j1])
        | succ kj1 =>
         have H := HA.out; clear HA; simp only [w9_NetTwice.j1] at H; by_cases c6 : x1_28 = true
         ·subst c6; have H1 : (some t1) = some r := by rw [if_pos rfl] at H; exact H
          clear H; have H := H1; clear H1; obtain rfl := Option.some.inj H; go_wp2
          go_ret
          exact ⟨q53z, q5z HB GE1 GE2⟩
         ·replace c6 := Bool.eq_false_iff.mpr c6; subst c6; have H1 : ((some (([] : List (S41)) : List (S41))).bind fun y1 => (if y1.length + l0_0.length < 2513169434916 then ((some (y1 ++ l0_0 : List (S41))).bind fun y2 => ((some (([(⟨((rd_T41 l0_0 (ji1)).f0), ((rd_T41 l0_0 (ji1)).f1), ((rd_T41 l0_0 (ji1)).f2), ((rd_T41 l0_0 (ji1)).f3), ((rd_T41 l0_0 (ji1)).f4), ((rd_T41 l0_0 (ji1)).f5), ((rd_T41 l0_0 (ji1)).f6)⟩ : S41)] : List (S41)) : List (S41))).bind fun y3 => (if y2.length + y3.length < 2513169434916 then ((some (([] : List (S43)) : List (S43))).bind fun y4 => (if y4.length + l0_2.length < 3518437208883 then (w9_NetTwice.l0 kj1 l2 l3 t1 ji1 0 l0_0 l0_1 l0_2 l0_3 l0_4 (y2 ++ y3) l0_1 (y4 ++ l0_2) l0_3 l0_4) else (none))) else (none)))) else (none))) = some r := by rw [if_neg (show ¬ (false = true) by decide)] at H; exact H
          clear H; have H := H1; clear H1; obtain ⟨y1, hy1⟩ : ∃ y_ : List (S41), y_ = (([] : List (S41))) := ⟨_, rfl⟩; replace H : (if y1.length + l0_0.length < 2513169434916 then ((some (y1 ++ l0_0 : List (S41))).bind fun y2 => ((some (([(⟨((rd_T41 l0_0 (ji1)).f0), ((rd_T41 l0_0 (ji1)).f1), ((rd_T41 l0_0 (ji1)).f2), ((rd_T41 l0_0 (ji1)).f3), ((rd_T41 l0_0 (ji1)).f4), ((rd_T41 l0_0 (ji1)).f5), ((rd_T41 l0_0 (ji1)).f6)⟩ : S41)] : List (S41)) : List (S41))).bind fun y3 => (if y2.length + y3.length < 2513169434916 then ((some (([] : List (S43)) : List (S43))).bind fun y4 => (if y4.length + l0_2.length < 3518437208883 then (w9_NetTwice.l0 kj1 l2 l3 t1 ji1 0 l0_0 l0_1 l0_2 l0_3 l0_4 (y2 ++ y3) l0_1 (y4 ++ l0_2) l0_3 l0_4) else (none))) else (none)))) else (none)) = some r := by first | (rw [hy1]; with_reducible exact H) | (have H1_ := (Option.bind_some _ _).symm.trans H; rw [hy1]; with_reducible exact H1_) | (have H1_ := (Option.bind_some _ _).symm.trans H; with_reducible exact H1_) | with_reducible exact H | (rw [hy1]; exact H) | exact H
          have Ny1 := aM hy1; clear hy1; by_cases c8 : y1.length + l0_0.length < 2513169434916
          ·rw [if_pos c8] at H; have LMc1 := aM c8; clear c8; obtain ⟨y2, hy1⟩ : ∃ y_ : List (S41), y_ = (y1 ++ l0_0) := ⟨_, rfl⟩; replace H : ((some (([(⟨((rd_T41 l0_0 (ji1)).f0), ((rd_T41 l0_0 (ji1)).f1), ((rd_T41 l0_0 (ji1)).f2), ((rd_T41 l0_0 (ji1)).f3), ((rd_T41 l0_0 (ji1)).f4), ((rd_T41 l0_0 (ji1)).f5), ((rd_T41 l0_0 (ji1)).f6)⟩ : S41)] : List (S41)) : List (S41))).bind fun y3 => (if y2.length + y3.length < 2513169434916 then ((some (([] : List (S43)) : List (S43))).bind fun y4 => (if y4.length + l0_2.length < 3518437208883 then (w9_NetTwice.l0 kj1 l2 l3 t1 ji1 0 l0_0 l0_1 l0_2 l0_3 l0_4 (y2 ++ y3) l0_1 (y4 ++ l0_2) l0_3 l0_4) else (none))) else (none))) = some r := by first | (rw [hy1]; with_reducible exact H) | (have H1_ := (Option.bind_some _ _).symm.trans H; rw [hy1]; with_reducible exact H1_) | (have H1_ := (Option.bind_some _ _).symm.trans H; with_reducible exact H1_) | with_reducible exact H | (rw [hy1]; exact H) | exact H
           have Ny2 := aM hy1; clear hy1; obtain ⟨y3, hy1⟩ : ∃ y_ : List (S41), y_ = (([(⟨((rd_T41 l0_0 (ji1)).f0), ((rd_T41 l0_0 (ji1)).f1), ((rd_T41 l0_0 (ji1)).f2), ((rd_T41 l0_0 (ji1)).f3), ((rd_T41 l0_0 (ji1)).f4), ((rd_T41 l0_0 (ji1)).f5), ((rd_T41 l0_0 (ji1)).f6)⟩ : S41)] : List (S41))) := ⟨_, rfl⟩; replace H : (if y2.length + y3.length < 2513169434916 then ((some (([] : List (S43)) : List (S43))).bind fun y4 => (if y4.length + l0_2.length < 3518437208883 then (w9_NetTwice.l0 kj1 l2 l3 t1 ji1 0 l0_0 l0_1 l0_2 l0_3 l0_4 (y2 ++ y3) l0_1 (y4 ++ l0_2) l0_3 l0_4) else (none))) else (none)) = some r := by first | (rw [hy1]; with_reducible exact H) | (have H1_ := (Option.bind_some _ _).symm.trans H; rw [hy1]; with_reducible exact H1_) | (have H1_ := (Option.bind_some _ _).symm.trans H; with_reducible exact H1_) | with_reducible exact H | (rw [hy1]; exact H) | exact H
           have Ny3 := aM hy1; clear hy1; by_cases c10 : y2.length + y3.length < 2513169434916
           ·rw [if_pos c10] at H; have LMc2 := aM c10; clear c10; obtain ⟨y5, hy1⟩ : ∃ y_ : List (S41), y_ = (y2 ++ y3) := ⟨_, rfl⟩; replace H : ((some (([] : List (S43)) : List (S43))).bind fun y4 => (if y4.length + l0_2.length < 3518437208883 then (w9_NetTwice.l0 kj1 l2 l3 t1 ji1 0 l0_0 l0_1 l0_2 l0_3 l0_4 y5 l0_1 (y4 ++ l0_2) l0_3 l0_4) else (none))) = some r := by first | (rw [hy1]; with_reducible exact H) | (have H1_ := (Option.bind_some _ _).symm.trans H; rw [hy1]; with_reducible exact H1_) | (have H1_ := (Option.bind_some _ _).symm.trans H; with_reducible exact H1_) | with_reducible exact H | (rw [hy1]; exact H) | exact H
            have Ny4 := aM hy1; clear hy1; obtain ⟨y4, hy1⟩ : ∃ y_ : List (S43), y_ = (([] : List (S43))) := ⟨_, rfl⟩; replace H : (if y4.length + l0_2.length < 3518437208883 then (w9_NetTwice.l0 kj1 l2 l3 t1 ji1 0 l0_0 l0_1 l0_2 l0_3 l0_4 y5 l0_1 (y4 ++ l0_2) l0_3 l0_4) else (none)) = some r := by first | (rw [hy1]; with_reducible exact H) | (have H1_ := (Option.bind_some _ _).symm.trans H; rw [hy1]; with_reducible exact H1_) | (have H1_ := (Option.bind_some _ _).symm.trans H; with_reducible exact H1_) | with_reducible exact H | (rw [hy1]; exact H) | exact H
            have Ny5 := aM hy1; clear hy1; by_cases c15 : y4.length + l0_2.length < 3518437208883
            ·rw [if_pos c15] at H; have LMc3 := aM c15; clear c15; obtain ⟨y6, hy1⟩ : ∃ y_ : List (S43), y_ = (y4 ++ l0_2) := ⟨_, rfl⟩; replace H : (w9_NetTwice.l0 kj1 l2 l3 t1 ji1 0 l0_0 l0_1 l0_2 l0_3 l0_4 y5 l0_1 y6 l0_3 l0_4) = some r := by first | (rw [hy1]; with_reducible exact H) | (have H1_ := (Option.bind_some _ _).symm.trans H; rw [hy1]; with_reducible exact H1_) | (have H1_ := (Option.bind_some _ _).symm.trans H; with_reducible exact H1_) | with_reducible exact H | (rw [hy1]; exact H) | exact H
             have Ny6 := aM hy1; clear hy1; have H' := aM H; clear H; have hnb1 := NB1_805.out; have hnc1 := NB1_800.out; obtain ⟨i9_0, i10_1, i10_2, i10_3, i10_4, j11_0, j11_1, j11_2, j11_3, j11_4⟩ := cells5_90 BK1.out; try go_wp2_with (first | ((with_reducible refine gate_dst (N := 12) rfl ?_); (try (refine gate_guard (by rfl) ?_; dsimp only)); refine box_event ?hg (N := 12) ?hd (cs := #[.slice none 0 0, .slice none 0 0, .slice none 0 0, .slice none 0 0, .slice none 0 0]) (t := 27) ?hr ?_; (case hd => rfl); (case hg => rfl); (case hr => exact q27z); intro gb3 hg w2 hbox hb; have BK3 := aM (hbox); have GW1 := aM ((q64z HB GE1 GE2 : w.heap.size ≤ gb3)); have GE3 := aM ((q64z HB GE1 GE2 : w.heap.size ≤ gb3)); replace HB := aM (ym (q5z HB GE1 GE2) hb); have NB1_806 := aM ((q38z BK1 : gb1 ≠ gb3)); have NB2_800 := aM ((q39z BK1 : gb3 ≠ gb1)); replace BK1 := aM (yi (zi BK1) hb); have NB2_806 := aM ((q38z BK2 : gb2 ≠ gb3)); have NB2_805 := aM ((q39z BK2 : gb3 ≠ gb2)); replace BK2 := aM (yi (zi BK2) hb); clear hb hbox hg; have hnb1 := NB2_800.out; have hnc1 := NB1_806.out; have hnb2 := NB2_805.out; have hnc2 := NB2_806.out; obtain ⟨i10_0, i11_1, i11_2, i11_3, i11_4, j12_0, j12_1, j12_2, j12_3, j12_4⟩ := cells5_90 BK3.out))
             have n1_ : Aside0 ((((((w2.setCell ⟨gb3, 0, none⟩ (.slice (some ad1) l0_0.length c0_0)).setCell ⟨gb3, 1, none⟩ (.slice A0_1 l0_1.length c0_1)).setCell ⟨gb3, 2, none⟩ (.slice A0_2 l0_2.length c0_2)).setCell ⟨gb3, 3, none⟩ (.slice A0_3 l0_3.length c0_3)).setCell ⟨gb3, 4, none⟩ (.slice A0_4 l0_4.length c0_4)).heap[gb1]? = some (.cells #[.slice (some ad1) l0_0.length c0_0, .slice A0_1 l0_1.length c0_1, .slice A0_2 l0_2.length c0_2, .slice A0_3 l0_3.length c0_3, .slice A0_4 l0_4.length c0_4] 27 (0, 0))) := ⟨q23z NB1_806 BK1⟩; have n2_ : Aside0 ((((((w2.setCell ⟨gb3, 0, none⟩ (.slice (some ad1) l0_0.length c0_0)).setCell ⟨gb3, 1, none⟩ (.slice A0_1 l0_1.length c0_1)).setCell ⟨gb3, 2, none⟩ (.slice A0_2 l0_2.length c0_2)).setCell ⟨gb3, 3, none⟩ (.slice A0_3 l0_3.length c0_3)).setCell ⟨gb3, 4, none⟩ (.slice A0_4 l0_4.length c0_4)).heap[gb2]? = some (.cells #[.int .i64 ((rd_T41 l0_0 (ji1)).f0), .int .i64 ((rd_T41 l0_0 (ji1)).f1), .int .i64 ((rd_T41 l0_0 (ji1)).f2), .int .i64 ((rd_T41 l0_0 (ji1)).f3), .int .i64 ((rd_T41 l0_0 (ji1)).f4), .int .i64 ((rd_T41 l0_0 (ji1)).f5), .int .i64 ((rd_T41 l0_0 (ji1)).f6)] 41 (0, 0))) := ⟨q23z NB2_806 BK2⟩; have n3_ : Aside0 ((((((w2.setCell ⟨gb3, 0, none⟩ (.slice (some ad1) l0_0.length c0_0)).setCell ⟨gb3, 1, none⟩ (.slice A0_1 l0_1.length c0_1)).setCell ⟨gb3, 2, none⟩ (.slice A0_2 l0_2.length c0_2)).setCell ⟨gb3, 3, none⟩ (.slice A0_3 l0_3.length c0_3)).setCell ⟨gb3, 4, none⟩ (.slice A0_4 l0_4.length c0_4)).heap[gb3]? = some (.cells #[.slice (some ad1) l0_0.length c0_0, .slice A0_1 l0_1.length c0_1, .slice A0_2 l0_2.length c0_2, .slice A0_3 l0_3.length c0_3, .slice A0_4 l0_4.length c0_4] 27 (0, 0))) := ⟨by (with_reducible repeat (first | refine ya ?_ _ | refine yc ?_ | refine yb ?_ _)); refine ys (cs := #[.slice (some ad1) l0_0.length c0_0, .slice A0_1 l0_1.length c0_1, .slice A0_2 l0_2.length c0_2, .slice A0_3 l0_3.length c0_3, .slice none 0 0]) ?_ 4 _ rfl; (with_reducible repeat (first | refine ya ?_ _ | refine yc ?_ | refine yb ?_ _)); refine ys (cs := #[.slice (some ad1) l0_0.length c0_0, .slice A0_1 l0_1.length c0_1, .slice A0_2 l0_2.length c0_2, .slice none 0 0, .slice none 0 0]) ?_ 3 _ rfl; (with_reducible repeat (first | refine ya ?_ _ | refine yc ?_ | refine yb ?_ _)); refine ys (cs := #[.slice (some ad1) l0_0.length c0_0, .slice A0_1 l0_1.length c0_1, .slice none 0 0, .slice none 0 0, .slice none 0 0]) ?_ 2 _ rfl; (with_reducible repeat (first | refine ya ?_ _ | refine yc ?_ | refine yb ?_ _)); refine ys (cs := #[.slice (some ad1) l0_0.length c0_0, .slice none 0 0, .slice none 0 0, .slice none 0 0, .slice none 0 0]) ?_ 1 _ rfl; (with_reducible repeat (first | refine ya ?_ _ | refine yc ?_ | refine yb ?_ _)); refine ys (cs := #[.slice none 0 0, .slice none 0 0, .slice none 0 0, .slice none 0 0, .slice none 0 0]) ?_ 0 _ rfl; (with_reducible repeat (first | refine ya ?_ _ | refine yc ?_ | refine yb ?_ _)); exact BK3.out⟩; have n4_ : Aside0 (Below w.heap.size w (((((w2.setCell ⟨gb3, 0, none⟩ (.slice (some ad1) l0_0.length c0_0)).setCell ⟨gb3, 1, none⟩ (.slice A0_1 l0_1.length c0_1)).setCell ⟨gb3, 2, none⟩ (.slice A0_2 l0_2.length c0_2)).setCell ⟨gb3, 3, none⟩ (.slice A0_3 l0_3.length c0_3)).setCell ⟨gb3, 4, none⟩ (.slice A0_4 l0_4.length c0_4))) := ⟨q12z HB GE1 GE2 GE3⟩
             (try clear BK1)
             (try clear BK2)
             (try clear BK3)
             (try clear HB)
             generalize (((((w2.setCell ⟨gb3, 0, none⟩ (.slice (some ad1) l0_0.length c0_0)).setCell ⟨gb3, 1, none⟩ (.slice A0_1 l0_1.length c0_1)).setCell ⟨gb3, 2, none⟩ (.slice A0_2 l0_2.length c0_2)).setCell ⟨gb3, 3, none⟩ (.slice A0_3 l0_3.length c0_3)).setCell ⟨gb3, 4, none⟩ (.slice A0_4 l0_4.length c0_4)) = w3 at n1_ n2_ n3_ n4_ ⊢; have BK1 := n1_; have BK2 := n2_; have BK3 := n3_; have HB := n4_; clear n1_ n2_ n3_ n4_; replace BK1 := aM (yc BK1.out); replace BK2 := aM (yc BK2.out); replace BK3 := aM (yc BK3.out); replace HB := aM (yk HB.out); refine start_ (n := 9) (S := fun w' => w'.cell? ⟨gb1, 0, none⟩ = some (.slice (some ad1) l0_0.length c0_0) ∧ w'.cell? ⟨gb1, 1, none⟩ = some (.slice A0_1 l0_1.length c0_1) ∧ w'.cell? ⟨gb1, 2, none⟩ = some (.slice A0_2 l0_2.length c0_2) ∧ w'.cell? ⟨gb1, 3, none⟩ = some (.slice A0_3 l0_3.length c0_3) ∧ w'.cell? ⟨gb1, 4, none⟩ = some (.slice A0_4 l0_4.length c0_4) ∧ w'.cell? ⟨gb2, 0, none⟩ = some (.int .i64 ((rd_T41 l0_0 (ji1)).f0)) ∧ w'.cell? ⟨gb2, 1, none⟩ = some (.int .i64 ((rd_T41 l0_0 (ji1)).f1)) ∧ w'.cell? ⟨gb2, 2, none⟩ = some (.int .i64 ((rd_T41 l0_0 (ji1)).f2)) ∧ w'.cell? ⟨gb2, 3, none⟩ = some (.int .i64 ((rd_T41 l0_0 (ji1)).f3)) ∧ w'.cell? ⟨gb2, 4, none⟩ = some (.int .i64 ((rd_T41 l0_0 (ji1)).f4)) ∧ w'.cell? ⟨gb2, 5, none⟩ = some (.int .i64 ((rd_T41 l0_0 (ji1)).f5)) ∧ w'.cell? ⟨gb2, 6, none⟩ = some (.int .i64 ((rd_T41 l0_0 (ji1)).f6))) (ds := []) (zb 9 0) (by kernel_rfl) rfl rfl ⟨zc BK1 0, zc BK1 1, zc BK1 2, zc BK1 3, zc BK1 4, zc BK2 0, zc BK2 1, zc BK2 2, zc BK2 3, zc BK2 4, zc BK2 5, zc BK2 6⟩ (fun hHeld => ?_); refine with_tabW w9_NetTwice.tab9 w9_NetTwice.bits9 (fun HT_ HW_ => ?_); generalize w3.drew = w2 at BK1 BK2 BK3 HB hHeld ⊢; refine zpu 1 54 (zb 9 2) ?_; refine ztk12 2 55 (zb 9 6) hHeld ?_; refine ztk12 4 57 (zb 9 22) hHeld ?_; refine join_ (σ := Value × Value × Value) 3 #[true, true, true, true, true, true, false, false, false] (fun s_ => [(53, s_.1), (56, s_.2.1), (58, s_.2.2)]) (fun s_ w' => (w'.cell? ⟨gb1, 0, none⟩ = some (.slice (some ad1) l0_0.length c0_0) ∧ w'.cell? ⟨gb1, 1, none⟩ = some (.slice A0_1 l0_1.length c0_1) ∧ w'.cell? ⟨gb1, 2, none⟩ = some (.slice A0_2 l0_2.length c0_2) ∧ w'.cell? ⟨gb1, 3, none⟩ = some (.slice A0_3 l0_3.length c0_3) ∧ w'.cell? ⟨gb1, 4, none⟩ = some (.slice A0_4 l0_4.length c0_4) ∧ w'.cell? ⟨gb2, 0, none⟩ = some (.int .i64 ((rd_T41 l0_0 (ji1)).f0)) ∧ w'.cell? ⟨gb2, 1, none⟩ = some (.int .i64 ((rd_T41 l0_0 (ji1)).f1)) ∧ w'.cell? ⟨gb2, 2, none⟩ = some (.int .i64 ((rd_T41 l0_0 (ji1)).f2)) ∧ w'.cell? ⟨gb2, 3, none⟩ = some (.int .i64 ((rd_T41 l0_0 (ji1)).f3)) ∧ w'.cell? ⟨gb2, 4, none⟩ = some (.int .i64 ((rd_T41 l0_0 (ji1)).f4)) ∧ w'.cell? ⟨gb2, 5, none⟩ = some (.int .i64 ((rd_T41 l0_0 (ji1)).f5)) ∧ w'.cell? ⟨gb2, 6, none⟩ = some (.int .i64 ((rd_T41 l0_0 (ji1)).f6))) ∧ (Kd.R k41 41 w' w.heap.size (fun k_ => some k_ ≠ (s_.2.2 : Value).ownBlock ∧ k_ ≠ gb2) s_.2.1 y2) ∧ (Kd.R k41 41 w' w.heap.size (fun k_ => some k_ ≠ (s_.2.1 : Value).ownBlock ∧ k_ ≠ gb2) s_.2.2 y3) ∧ (w'.heap[gb1]? = some (.cells #[.slice (some ad1) l0_0.length c0_0, .slice A0_1 l0_1.length c0_1, .slice A0_2 l0_2.length c0_2, .slice A0_3 l0_3.length c0_3, .slice A0_4 l0_4.length c0_4] 27 (0, 0))) ∧ (w'.heap[gb2]? = some (.cells #[.int .i64 ((rd_T41 l0_0 (ji1)).f0), .int .i64 ((rd_T41 l0_0 (ji1)).f1), .int .i64 ((rd_T41 l0_0 (ji1)).f2), .int .i64 ((rd_T41 l0_0 (ji1)).f3), .int .i64 ((rd_T41 l0_0 (ji1)).f4), .int .i64 ((rd_T41 l0_0 (ji1)).f5), .int .i64 ((rd_T41 l0_0 (ji1)).f6)] 41 (0, 0))) ∧ (w'.heap[gb3]? = some (.cells #[.slice (some ad1) l0_0.length c0_0, .slice A0_1 l0_1.length c0_1, .slice A0_2 l0_2.length c0_2, .slice A0_3 l0_3.length c0_3, .slice A0_4 l0_4.length c0_4] 27 (0, 0))) ∧ (Below w.heap.size w w')) ?_ ?_
             rotate_left
             ·intro hCont
              refine two_ (i := 0) (j := 5) (Ni := some 53) (Nj := some 58) #[true, true, true, false, true, false, false, false, false] #[false, true, true, false, true, true, false, false, false] rfl rfl rfl rfl (two_of HT_.out (by kernel_rfl)) (by decide) (by decide) (fun K hK => ?_) (fun K hK => ?_)
              ·skip
               refine Kd.R_lit_step k41 _ 41 ?hg (N := 53) ?hd (xs := ([] : List (S41))) (inner := []) (ok := fun _ => True) (okp := fun _ => True) ?hr ?hp (fun _ hk => hk) trivial (Below.refl _ _) (Nat.le_refl _) (by simp) ?_; (case hd => rfl); (case hg => rfl); (case hr => exact q27z); (case hp => exact (Reps.none _ _)); intro v1 w2 ho1 hb hg_ hnew_
               clear hg_ hnew_; (first | rw [← Ny1.out] at ho1 | (simp only [Int.reduceToNat] at ho1; rw [← Ny1.out] at ho1))
               have HO1 := aM (Kd.R_lower (Kd.R_newB ho1 (g := gb2) (o := .cells #[.int .i64 ((rd_T41 l0_0 (ji1)).f0), .int .i64 ((rd_T41 l0_0 (ji1)).f1), .int .i64 ((rd_T41 l0_0 (ji1)).f2), .int .i64 ((rd_T41 l0_0 (ji1)).f3), .int .i64 ((rd_T41 l0_0 (ji1)).f4), .int .i64 ((rd_T41 l0_0 (ji1)).f5), .int .i64 ((rd_T41 l0_0 (ji1)).f6)] 41 (0, 0)) (zi BK2)) (yn (q12z HB GE1 GE2 GE3))); replace BK1 := aM (yi (zi BK1) hb); replace BK2 := aM (yi (zi BK2) hb); replace BK3 := aM (yi (zi BK3) hb); replace HB := aM (ym (q12z HB GE1 GE2 GE3) hb); clear hb ho1; refine hK.out _ _ ⟨zc BK1 0, zc BK1 1, zc BK1 2, zc BK1 3, zc BK1 4, zc BK2 0, zc BK2 1, zc BK2 2, zc BK2 3, zc BK2 4, zc BK2 5, zc BK2 6⟩ (fun hHeld => ?_); clear hK K; refine zno 53 ?_; refine two_ (i := 3) (j := 5) (Ni := some 56) (Nj := some 58) #[true, true, true, true, true, false, false, false, false] #[true, true, true, false, true, true, false, false, false] rfl rfl rfl rfl (two_of HT_.out (by kernel_rfl)) (by decide) (by decide) (fun K hK => ?_) (fun K hK => ?_)
               ·skip
                refine Kd.R_append_rows_step k41 (w0 := w) w.heap.size (by rfl) (.tmp 53) (.tmp 55) 22 41 (.agg #[(.int .i64 0), (.int .i64 0), (.int .i64 0), (.int .i64 0), (.int .i64 0), (.int .i64 0), (.int .i64 0)]) 56 rfl Try.underlying22 info41 rfl (by decide) (by omega) v1 y1 l0_0 _ _ _ (fun k_ => k_ ≠ gb2) (fun _ => False) rfl rfl ?aO ?aR (fun _ _ h => h) (fun _ h => h.elim) ?aF ?aB ?aS ?aL ?_; (case aR => exact q1z HR1_0 HB)
                (case aB => exact q63z HB GE1 GE2 GE3)
                (case aF => exact (fun k_ hk => Kd.freshB (g := gb2) (o := .cells #[.int .i64 ((rd_T41 l0_0 (ji1)).f0), .int .i64 ((rd_T41 l0_0 (ji1)).f1), .int .i64 ((rd_T41 l0_0 (ji1)).f2), .int .i64 ((rd_T41 l0_0 (ji1)).f3), .int .i64 ((rd_T41 l0_0 (ji1)).f4), .int .i64 ((rd_T41 l0_0 (ji1)).f5), .int .i64 ((rd_T41 l0_0 (ji1)).f6)] 41 (0, 0)) (zi BK2) k_ hk))
                (case aO => exact (q78z HO1))
                (case aS => exact q60z HB GE1 GE2 GE3)
                (case aL => have := LMc1.out; omega)
                intro v2 w2 ho hb hg hat
                rw [← Ny2.out] at ho; replace BK1 := aM (blk_grown (g := gb1) (o := .cells #[.slice (some ad1) l0_0.length c0_0, .slice A0_1 l0_1.length c0_1, .slice A0_2 l0_2.length c0_2, .slice A0_3 l0_3.length c0_3, .slice A0_4 l0_4.length c0_4] 27 (0, 0)) (zi BK1) hg (Kd.R_ne HO1.out BK1.out (by decide))); replace BK2 := aM (blk_grown (g := gb2) (o := .cells #[.int .i64 ((rd_T41 l0_0 (ji1)).f0), .int .i64 ((rd_T41 l0_0 (ji1)).f1), .int .i64 ((rd_T41 l0_0 (ji1)).f2), .int .i64 ((rd_T41 l0_0 (ji1)).f3), .int .i64 ((rd_T41 l0_0 (ji1)).f4), .int .i64 ((rd_T41 l0_0 (ji1)).f5), .int .i64 ((rd_T41 l0_0 (ji1)).f6)] 41 (0, 0)) (zi BK2) hg (Kd.R_away HO1.out (fun _ hk => hk.2))); replace BK3 := aM (blk_grown (g := gb3) (o := .cells #[.slice (some ad1) l0_0.length c0_0, .slice A0_1 l0_1.length c0_1, .slice A0_2 l0_2.length c0_2, .slice A0_3 l0_3.length c0_3, .slice A0_4 l0_4.length c0_4] 27 (0, 0)) (zi BK3) hg (Kd.R_ne HO1.out BK3.out (by decide))); replace HB := aM (hb); have HO2 := aM (ho); clear HO1; clear ho hb hg hat; refine hK.out _ _ ⟨zc BK1 0, zc BK1 1, zc BK1 2, zc BK1 3, zc BK1 4, zc BK2 0, zc BK2 1, zc BK2 2, zc BK2 3, zc BK2 4, zc BK2 5, zc BK2 6⟩ (fun hHeld => ?_); clear hK K; refine zno 56 ?_; refine zon 5 (some 58) (zb 9 63) fun K hK => ?_
                refine Kd.R_lit_step k41 _ 41 ?hg (N := 58) ?hd (xs := ([(⟨((rd_T41 l0_0 (ji1)).f0), ((rd_T41 l0_0 (ji1)).f1), ((rd_T41 l0_0 (ji1)).f2), ((rd_T41 l0_0 (ji1)).f3), ((rd_T41 l0_0 (ji1)).f4), ((rd_T41 l0_0 (ji1)).f5), ((rd_T41 l0_0 (ji1)).f6)⟩ : S41)] : List (S41))) (inner := [.int .i64 ((rd_T41 l0_0 (ji1)).f0), .int .i64 ((rd_T41 l0_0 (ji1)).f1), .int .i64 ((rd_T41 l0_0 (ji1)).f2), .int .i64 ((rd_T41 l0_0 (ji1)).f3), .int .i64 ((rd_T41 l0_0 (ji1)).f4), .int .i64 ((rd_T41 l0_0 (ji1)).f5), .int .i64 ((rd_T41 l0_0 (ji1)).f6)]) (ok := fun _ => True) (okp := fun _ => True) ?hr ?hp (fun _ hk => hk) trivial (Below.refl _ _) (Nat.le_refl _) (by simp) ?_; (case hd => rfl); (case hg => rfl); (case hr => exact q27z); (case hp => exact q31z); intro v3 w2 ho1 hb hg_ hnew_
                clear hg_ hnew_; (first | rw [← Ny3.out] at ho1 | (simp only [Int.reduceToNat] at ho1; rw [← Ny3.out] at ho1))
                have HO3 := aM (Kd.R_lower (Kd.R_newB (Kd.R_new' ho1 (Kd.R_lt (q2z HO2))) (g := gb2) (o := .cells #[.int .i64 ((rd_T41 l0_0 (ji1)).f0), .int .i64 ((rd_T41 l0_0 (ji1)).f1), .int .i64 ((rd_T41 l0_0 (ji1)).f2), .int .i64 ((rd_T41 l0_0 (ji1)).f3), .int .i64 ((rd_T41 l0_0 (ji1)).f4), .int .i64 ((rd_T41 l0_0 (ji1)).f5), .int .i64 ((rd_T41 l0_0 (ji1)).f6)] 41 (0, 0)) (zi BK2)) (yn (q12z HB GE1 GE2 GE3))); replace HO2 := aM (Kd.R_elder' (q2z HO2) (Kd.R_base ho1) hb); replace BK1 := aM (yi (zi BK1) hb); replace BK2 := aM (yi (zi BK2) hb); replace BK3 := aM (yi (zi BK3) hb); replace HB := aM (ym (q12z HB GE1 GE2 GE3) hb); clear hb ho1; refine hK.out _ _ ⟨zc BK1 0, zc BK1 1, zc BK1 2, zc BK1 3, zc BK1 4, zc BK2 0, zc BK2 1, zc BK2 2, zc BK2 3, zc BK2 4, zc BK2 5, zc BK2 6⟩ (fun hHeld => ?_); clear hK K; refine zno 58 ?_; exact norm_ (by simp only [putAll, Act.put, yu, yv, yw]) (hCont (v1, v2, v3) _ ⟨hHeld, (q84z HO2), (q34z HO3), (zi BK1), (zi BK2), (zi BK3), (q12z HB GE1 GE2 GE3)⟩)
               ·skip
                refine Kd.R_lit_step k41 _ 41 ?hg (N := 58) ?hd (xs := ([(⟨((rd_T41 l0_0 (ji1)).f0), ((rd_T41 l0_0 (ji1)).f1), ((rd_T41 l0_0 (ji1)).f2), ((rd_T41 l0_0 (ji1)).f3), ((rd_T41 l0_0 (ji1)).f4), ((rd_T41 l0_0 (ji1)).f5), ((rd_T41 l0_0 (ji1)).f6)⟩ : S41)] : List (S41))) (inner := [.int .i64 ((rd_T41 l0_0 (ji1)).f0), .int .i64 ((rd_T41 l0_0 (ji1)).f1), .int .i64 ((rd_T41 l0_0 (ji1)).f2), .int .i64 ((rd_T41 l0_0 (ji1)).f3), .int .i64 ((rd_T41 l0_0 (ji1)).f4), .int .i64 ((rd_T41 l0_0 (ji1)).f5), .int .i64 ((rd_T41 l0_0 (ji1)).f6)]) (ok := fun _ => True) (okp := fun _ => True) ?hr ?hp (fun _ hk => hk) trivial (Below.refl _ _) (Nat.le_refl _) (by simp) ?_; (case hd => rfl); (case hg => rfl); (case hr => exact q27z); (case hp => exact q31z); intro v2 w2 ho1 hb hg_ hnew_
                clear hg_ hnew_; (first | rw [← Ny3.out] at ho1 | (simp only [Int.reduceToNat] at ho1; rw [← Ny3.out] at ho1))
                have HO2 := aM (Kd.R_lower (Kd.R_newB (Kd.R_new' ho1 (Kd.R_lt (q2z HO1))) (g := gb2) (o := .cells #[.int .i64 ((rd_T41 l0_0 (ji1)).f0), .int .i64 ((rd_T41 l0_0 (ji1)).f1), .int .i64 ((rd_T41 l0_0 (ji1)).f2), .int .i64 ((rd_T41 l0_0 (ji1)).f3), .int .i64 ((rd_T41 l0_0 (ji1)).f4), .int .i64 ((rd_T41 l0_0 (ji1)).f5), .int .i64 ((rd_T41 l0_0 (ji1)).f6)] 41 (0, 0)) (zi BK2)) (yn (q12z HB GE1 GE2 GE3))); replace HO1 := aM (Kd.R_elder' (q2z HO1) (Kd.R_base ho1) hb); replace BK1 := aM (yi (zi BK1) hb); replace BK2 := aM (yi (zi BK2) hb); replace BK3 := aM (yi (zi BK3) hb); replace HB := aM (ym (q12z HB GE1 GE2 GE3) hb); clear hb ho1; refine hK.out _ _ ⟨zc BK1 0, zc BK1 1, zc BK1 2, zc BK1 3, zc BK1 4, zc BK2 0, zc BK2 1, zc BK2 2, zc BK2 3, zc BK2 4, zc BK2 5, zc BK2 6⟩ (fun hHeld => ?_); clear hK K; refine zno 58 ?_; refine zon 3 (some 56) (zb 9 63) fun K hK => ?_
                refine Kd.R_append_rows_step k41 (w0 := w) w.heap.size (by rfl) (.tmp 53) (.tmp 55) 22 41 (.agg #[(.int .i64 0), (.int .i64 0), (.int .i64 0), (.int .i64 0), (.int .i64 0), (.int .i64 0), (.int .i64 0)]) 56 rfl Try.underlying22 info41 rfl (by decide) (by omega) v1 y1 l0_0 _ _ _ (fun k_ => some k_ ≠ (v2 : Value).ownBlock ∧ k_ ≠ gb2) (fun _ => False) rfl rfl ?aO ?aR (fun _ _ h => h) (fun _ h => h.elim) ?aF ?aB ?aS ?aL ?_; (case aR => exact q1z HR1_0 HB)
                (case aB => exact q63z HB GE1 GE2 GE3)
                (case aF => exact q48z HO2 BK2)
                (case aO => exact (q99z HO1))
                (case aS => exact q60z HB GE1 GE2 GE3)
                (case aL => have := LMc1.out; omega)
                intro v3 w2 ho hb hg hat
                rw [← Ny2.out] at ho; replace BK1 := aM (blk_grown (g := gb1) (o := .cells #[.slice (some ad1) l0_0.length c0_0, .slice A0_1 l0_1.length c0_1, .slice A0_2 l0_2.length c0_2, .slice A0_3 l0_3.length c0_3, .slice A0_4 l0_4.length c0_4] 27 (0, 0)) (zi BK1) hg (Kd.R_ne HO1.out BK1.out (by decide))); replace BK2 := aM (blk_grown (g := gb2) (o := .cells #[.int .i64 ((rd_T41 l0_0 (ji1)).f0), .int .i64 ((rd_T41 l0_0 (ji1)).f1), .int .i64 ((rd_T41 l0_0 (ji1)).f2), .int .i64 ((rd_T41 l0_0 (ji1)).f3), .int .i64 ((rd_T41 l0_0 (ji1)).f4), .int .i64 ((rd_T41 l0_0 (ji1)).f5), .int .i64 ((rd_T41 l0_0 (ji1)).f6)] 41 (0, 0)) (zi BK2) hg (Kd.R_away HO1.out (fun _ hk => hk.1.2))); replace BK3 := aM (blk_grown (g := gb3) (o := .cells #[.slice (some ad1) l0_0.length c0_0, .slice A0_1 l0_1.length c0_1, .slice A0_2 l0_2.length c0_2, .slice A0_3 l0_3.length c0_3, .slice A0_4 l0_4.length c0_4] 27 (0, 0)) (zi BK3) hg (Kd.R_ne HO1.out BK3.out (by decide))); replace HO2 := aM (Kd.R_after (ok := (fun k_ => k_ ≠ gb2)) (q99z HO2) hg hat); replace HB := aM (hb); have HO3 := aM (ho); clear HO1; clear ho hb hg hat; refine hK.out _ _ ⟨zc BK1 0, zc BK1 1, zc BK1 2, zc BK1 3, zc BK1 4, zc BK2 0, zc BK2 1, zc BK2 2, zc BK2 3, zc BK2 4, zc BK2 5, zc BK2 6⟩ (fun hHeld => ?_); clear hK K; refine zno 56 ?_; exact norm_ (by simp only [putAll, Act.put, yu, yv, yw]) (hCont (v1, v3, v2) _ ⟨hHeld, (q2z HO3), (q84z HO2), (zi BK1), (zi BK2), (zi BK3), (q12z HB GE1 GE2 GE3)⟩)
              ·skip
               refine Kd.R_lit_step k41 _ 41 ?hg (N := 58) ?hd (xs := ([(⟨((rd_T41 l0_0 (ji1)).f0), ((rd_T41 l0_0 (ji1)).f1), ((rd_T41 l0_0 (ji1)).f2), ((rd_T41 l0_0 (ji1)).f3), ((rd_T41 l0_0 (ji1)).f4), ((rd_T41 l0_0 (ji1)).f5), ((rd_T41 l0_0 (ji1)).f6)⟩ : S41)] : List (S41))) (inner := [.int .i64 ((rd_T41 l0_0 (ji1)).f0), .int .i64 ((rd_T41 l0_0 (ji1)).f1), .int .i64 ((rd_T41 l0_0 (ji1)).f2), .int .i64 ((rd_T41 l0_0 (ji1)).f3), .int .i64 ((rd_T41 l0_0 (ji1)).f4), .int .i64 ((rd_T41 l0_0 (ji1)).f5), .int .i64 ((rd_T41 l0_0 (ji1)).f6)]) (ok := fun _ => True) (okp := fun _ => True) ?hr ?hp (fun _ hk => hk) trivial (Below.refl _ _) (Nat.le_refl _) (by simp) ?_; (case hd => rfl); (case hg => rfl); (case hr => exact q27z); (case hp => exact q31z); intro v1 w2 ho1 hb hg_ hnew_
               clear hg_ hnew_; (first | rw [← Ny3.out] at ho1 | (simp only [Int.reduceToNat] at ho1; rw [← Ny3.out] at ho1))
               have HO1 := aM (Kd.R_lower (Kd.R_newB ho1 (g := gb2) (o := .cells #[.int .i64 ((rd_T41 l0_0 (ji1)).f0), .int .i64 ((rd_T41 l0_0 (ji1)).f1), .int .i64 ((rd_T41 l0_0 (ji1)).f2), .int .i64 ((rd_T41 l0_0 (ji1)).f3), .int .i64 ((rd_T41 l0_0 (ji1)).f4), .int .i64 ((rd_T41 l0_0 (ji1)).f5), .int .i64 ((rd_T41 l0_0 (ji1)).f6)] 41 (0, 0)) (zi BK2)) (yn (q12z HB GE1 GE2 GE3))); replace BK1 := aM (yi (zi BK1) hb); replace BK2 := aM (yi (zi BK2) hb); replace BK3 := aM (yi (zi BK3) hb); replace HB := aM (ym (q12z HB GE1 GE2 GE3) hb); clear hb ho1; refine hK.out _ _ ⟨zc BK1 0, zc BK1 1, zc BK1 2, zc BK1 3, zc BK1 4, zc BK2 0, zc BK2 1, zc BK2 2, zc BK2 3, zc BK2 4, zc BK2 5, zc BK2 6⟩ (fun hHeld => ?_); clear hK K; refine zno 58 ?_; refine zon 0 (some 53) (zb 9 55) fun K hK => ?_
               refine Kd.R_lit_step k41 _ 41 ?hg (N := 53) ?hd (xs := ([] : List (S41))) (inner := []) (ok := fun _ => True) (okp := fun _ => True) ?hr ?hp (fun _ hk => hk) trivial (Below.refl _ _) (Nat.le_refl _) (by simp) ?_; (case hd => rfl); (case hg => rfl); (case hr => exact q27z); (case hp => exact (Reps.none _ _)); intro v2 w2 ho1 hb hg_ hnew_
               clear hg_ hnew_; (first | rw [← Ny1.out] at ho1 | (simp only [Int.reduceToNat] at ho1; rw [← Ny1.out] at ho1))
               have HO2 := aM (Kd.R_lower (Kd.R_newB (Kd.R_new' ho1 (Kd.R_lt (q2z HO1))) (g := gb2) (o := .cells #[.int .i64 ((rd_T41 l0_0 (ji1)).f0), .int .i64 ((rd_T41 l0_0 (ji1)).f1), .int .i64 ((rd_T41 l0_0 (ji1)).f2), .int .i64 ((rd_T41 l0_0 (ji1)).f3), .int .i64 ((rd_T41 l0_0 (ji1)).f4), .int .i64 ((rd_T41 l0_0 (ji1)).f5), .int .i64 ((rd_T41 l0_0 (ji1)).f6)] 41 (0, 0)) (zi BK2)) (yn (q12z HB GE1 GE2 GE3))); replace HO1 := aM (Kd.R_elder' (q2z HO1) (Kd.R_base ho1) hb); replace BK1 := aM (yi (zi BK1) hb); replace BK2 := aM (yi (zi BK2) hb); replace BK3 := aM (yi (zi BK3) hb); replace HB := aM (ym (q12z HB GE1 GE2 GE3) hb); clear hb ho1; refine hK.out _ _ ⟨zc BK1 0, zc BK1 1, zc BK1 2, zc BK1 3, zc BK1 4, zc BK2 0, zc BK2 1, zc BK2 2, zc BK2 3, zc BK2 4, zc BK2 5, zc BK2 6⟩ (fun hHeld => ?_); clear hK K; refine zno 53 ?_; refine zon 3 (some 56) (zb 9 63) fun K hK => ?_
               refine Kd.R_append_rows_step k41 (w0 := w) w.heap.size (by rfl) (.tmp 53) (.tmp 55) 22 41 (.agg #[(.int .i64 0), (.int .i64 0), (.int .i64 0), (.int .i64 0), (.int .i64 0), (.int .i64 0), (.int .i64 0)]) 56 rfl Try.underlying22 info41 rfl (by decide) (by omega) v2 y1 l0_0 _ _ _ (fun k_ => some k_ ≠ (v1 : Value).ownBlock ∧ k_ ≠ gb2) (fun _ => False) rfl rfl ?aO ?aR (fun _ _ h => h) (fun _ h => h.elim) ?aF ?aB ?aS ?aL ?_; (case aR => exact q1z HR1_0 HB)
               (case aB => exact q63z HB GE1 GE2 GE3)
               (case aF => exact q48z HO1 BK2)
               (case aO => exact (q34z HO2))
               (case aS => exact q60z HB GE1 GE2 GE3)
               (case aL => have := LMc1.out; omega)
               intro v3 w2 ho hb hg hat
               rw [← Ny2.out] at ho; replace BK1 := aM (blk_grown (g := gb1) (o := .cells #[.slice (some ad1) l0_0.length c0_0, .slice A0_1 l0_1.length c0_1, .slice A0_2 l0_2.length c0_2, .slice A0_3 l0_3.length c0_3, .slice A0_4 l0_4.length c0_4] 27 (0, 0)) (zi BK1) hg (Kd.R_ne HO2.out BK1.out (by decide))); replace BK2 := aM (blk_grown (g := gb2) (o := .cells #[.int .i64 ((rd_T41 l0_0 (ji1)).f0), .int .i64 ((rd_T41 l0_0 (ji1)).f1), .int .i64 ((rd_T41 l0_0 (ji1)).f2), .int .i64 ((rd_T41 l0_0 (ji1)).f3), .int .i64 ((rd_T41 l0_0 (ji1)).f4), .int .i64 ((rd_T41 l0_0 (ji1)).f5), .int .i64 ((rd_T41 l0_0 (ji1)).f6)] 41 (0, 0)) (zi BK2) hg (Kd.R_away HO2.out (fun _ hk => hk.2))); replace BK3 := aM (blk_grown (g := gb3) (o := .cells #[.slice (some ad1) l0_0.length c0_0, .slice A0_1 l0_1.length c0_1, .slice A0_2 l0_2.length c0_2, .slice A0_3 l0_3.length c0_3, .slice A0_4 l0_4.length c0_4] 27 (0, 0)) (zi BK3) hg (Kd.R_ne HO2.out BK3.out (by decide))); replace HO1 := aM (Kd.R_after (ok := (fun k_ => k_ ≠ gb2)) (q34z HO1) hg hat); replace HB := aM (hb); have HO3 := aM (ho); clear HO2; clear ho hb hg hat; refine hK.out _ _ ⟨zc BK1 0, zc BK1 1, zc BK1 2, zc BK1 3, zc BK1 4, zc BK2 0, zc BK2 1, zc BK2 2, zc BK2 3, zc BK2 4, zc BK2 5, zc BK2 6⟩ (fun hHeld => ?_); clear hK K; refine zno 56 ?_; exact norm_ (by simp only [putAll, Act.put, yu, yv, yw]) (hCont (v2, v3, v1) _ ⟨hHeld, (q2z HO3), (q84z HO1), (zi BK1), (zi BK2), (zi BK3), (q12z HB GE1 GE2 GE3)⟩)
             rintro ⟨v1, v2, v3⟩ w2 ⟨hS_, h1_, h2_, h3_, h4_, h5_, h6_⟩; have HO1 : Aside0 (Kd.R k41 41 w2 w.heap.size (fun k_ => some k_ ≠ (v3 : Value).ownBlock ∧ k_ ≠ gb2) v2 y2) := ⟨h1_⟩; have HO2 : Aside0 (Kd.R k41 41 w2 w.heap.size (fun k_ => some k_ ≠ (v2 : Value).ownBlock ∧ k_ ≠ gb2) v3 y3) := ⟨h2_⟩; replace BK1 : Aside0 (w2.heap[gb1]? = some (.cells #[.slice (some ad1) l0_0.length c0_0, .slice A0_1 l0_1.length c0_1, .slice A0_2 l0_2.length c0_2, .slice A0_3 l0_3.length c0_3, .slice A0_4 l0_4.length c0_4] 27 (0, 0))) := ⟨h3_⟩; replace BK2 : Aside0 (w2.heap[gb2]? = some (.cells #[.int .i64 ((rd_T41 l0_0 (ji1)).f0), .int .i64 ((rd_T41 l0_0 (ji1)).f1), .int .i64 ((rd_T41 l0_0 (ji1)).f2), .int .i64 ((rd_T41 l0_0 (ji1)).f3), .int .i64 ((rd_T41 l0_0 (ji1)).f4), .int .i64 ((rd_T41 l0_0 (ji1)).f5), .int .i64 ((rd_T41 l0_0 (ji1)).f6)] 41 (0, 0))) := ⟨h4_⟩; replace BK3 : Aside0 (w2.heap[gb3]? = some (.cells #[.slice (some ad1) l0_0.length c0_0, .slice A0_1 l0_1.length c0_1, .slice A0_2 l0_2.length c0_2, .slice A0_3 l0_3.length c0_3, .slice A0_4 l0_4.length c0_4] 27 (0, 0))) := ⟨h5_⟩; replace HB : Aside0 (Below w.heap.size w w2) := ⟨h6_⟩; clear h1_ h2_ h3_ h4_ h5_ h6_; have hHeld : w2.cell? ⟨gb1, 0, none⟩ = some (.slice (some ad1) l0_0.length c0_0) ∧ w2.cell? ⟨gb1, 1, none⟩ = some (.slice A0_1 l0_1.length c0_1) ∧ w2.cell? ⟨gb1, 2, none⟩ = some (.slice A0_2 l0_2.length c0_2) ∧ w2.cell? ⟨gb1, 3, none⟩ = some (.slice A0_3 l0_3.length c0_3) ∧ w2.cell? ⟨gb1, 4, none⟩ = some (.slice A0_4 l0_4.length c0_4) ∧ w2.cell? ⟨gb2, 0, none⟩ = some (.int .i64 ((rd_T41 l0_0 (ji1)).f0)) ∧ w2.cell? ⟨gb2, 1, none⟩ = some (.int .i64 ((rd_T41 l0_0 (ji1)).f1)) ∧ w2.cell? ⟨gb2, 2, none⟩ = some (.int .i64 ((rd_T41 l0_0 (ji1)).f2)) ∧ w2.cell? ⟨gb2, 3, none⟩ = some (.int .i64 ((rd_T41 l0_0 (ji1)).f3)) ∧ w2.cell? ⟨gb2, 4, none⟩ = some (.int .i64 ((rd_T41 l0_0 (ji1)).f4)) ∧ w2.cell? ⟨gb2, 5, none⟩ = some (.int .i64 ((rd_T41 l0_0 (ji1)).f5)) ∧ w2.cell? ⟨gb2, 6, none⟩ = some (.int .i64 ((rd_T41 l0_0 (ji1)).f6)) := hS_; obtain ⟨Ao1, co1, eo1⟩ := Kd.R_slice HO2.out; (first | subst eo1 | (injection eo1 with f1_ f2_ f3_; have f4_ := f1_.symm; have f5_ := f3_.symm; clear f1_ f2_ f3_; subst f4_; subst f5_))
             refine norm_ (a' := ?_) ?_ ?_
             rotate_left
             ·simp only [putAll, Act.put, yu, yv, yw]; rfl
             refine zon 6 (some 59) (zb 9 127) fun K hK => ?_
             refine Kd.R_append_rows_step k41 (w0 := w) w.heap.size (by rfl) (.tmp 56) (.tmp 58) 22 41 (.agg #[(.int .i64 0), (.int .i64 0), (.int .i64 0), (.int .i64 0), (.int .i64 0), (.int .i64 0), (.int .i64 0)]) 56 rfl Try.underlying22 info41 rfl (by decide) (by omega) v2 y2 y3 _ _ _ (fun k_ => some k_ ≠ (.slice Ao1 y3.length co1 : Value).ownBlock ∧ k_ ≠ gb2) (fun _ => False) rfl rfl ?aO ?aR (fun _ _ h => h) (fun _ h => h.elim) ?aF ?aB ?aS ?aL ?_; (case aR => exact q9z HO2)
             (case aB => exact q63z HB GE1 GE2 GE3)
             (case aF => exact q48z HO2 BK2)
             (case aO => exact q45z HO1)
             (case aS => exact q60z HB GE1 GE2 GE3)
             (case aL => have := LMc2.out; omega)
             intro v1 w2 ho hb hg hat
             rw [← Ny4.out] at ho; replace BK1 := aM (blk_grown (g := gb1) (o := .cells #[.slice (some ad1) l0_0.length c0_0, .slice A0_1 l0_1.length c0_1, .slice A0_2 l0_2.length c0_2, .slice A0_3 l0_3.length c0_3, .slice A0_4 l0_4.length c0_4] 27 (0, 0)) (zi BK1) hg (Kd.R_ne HO1.out BK1.out (by decide))); replace BK2 := aM (blk_grown (g := gb2) (o := .cells #[.int .i64 ((rd_T41 l0_0 (ji1)).f0), .int .i64 ((rd_T41 l0_0 (ji1)).f1), .int .i64 ((rd_T41 l0_0 (ji1)).f2), .int .i64 ((rd_T41 l0_0 (ji1)).f3), .int .i64 ((rd_T41 l0_0 (ji1)).f4), .int .i64 ((rd_T41 l0_0 (ji1)).f5), .int .i64 ((rd_T41 l0_0 (ji1)).f6)] 41 (0, 0)) (zi BK2) hg (Kd.R_away HO1.out (fun _ hk => hk.2))); replace BK3 := aM (blk_grown (g := gb3) (o := .cells #[.slice (some ad1) l0_0.length c0_0, .slice A0_1 l0_1.length c0_1, .slice A0_2 l0_2.length c0_2, .slice A0_3 l0_3.length c0_3, .slice A0_4 l0_4.length c0_4] 27 (0, 0)) (zi BK3) hg (Kd.R_ne HO1.out BK3.out (by decide))); replace HO2 := aM (Kd.R_after (ok := (fun k_ => k_ ≠ gb2)) (q84z HO2) hg hat); replace HB := aM (hb); have HO3 := aM (ho); clear HO1; clear ho hb hg hat; obtain ⟨Ao1, co1, eo1⟩ := Kd.R_slice HO3.out; (first | subst eo1 | (injection eo1 with f1_ f2_ f3_; have f4_ := f1_.symm; have f5_ := f3_.symm; clear f1_ f2_ f3_; subst f4_; subst f5_))
             refine hK.out _ _ ⟨zc BK1 0, zc BK1 1, zc BK1 2, zc BK1 3, zc BK1 4, zc BK2 0, zc BK2 1, zc BK2 2, zc BK2 3, zc BK2 4, zc BK2 5, zc BK2 6⟩ (fun hHeld => ?_); clear hK K; refine zno 59 ?_; refine zpu 7 60 (zb 9 255) ?_; refine zon 8 (none) (zb 9 511) fun K hK => ?_
             have hs1 : w2.cell? ⟨gb3, 0, none⟩ = some (.slice (some ad1) l0_0.length c0_0) := zc BK3 0; have hfs1 := blk_frozen BK3.out 0; have hns1_0 := NB1_806.out; have hns1_1 := NB2_806.out; have hms1_0 := NB2_800.out; have hms1_1 := NB2_805.out; refine skip_ (w1 := ?_) (by rfl) rfl ?_ ?_
             rotate_left
             ·go_simp
              rfl
             refine hK.out _ _ ⟨((cell_far (p := ⟨gb3, _, none⟩) NB1_806.out _).trans (hHeld.1)), ((cell_far (p := ⟨gb3, _, none⟩) NB1_806.out _).trans (hHeld.2.1)), ((cell_far (p := ⟨gb3, _, none⟩) NB1_806.out _).trans (hHeld.2.2.1)), ((cell_far (p := ⟨gb3, _, none⟩) NB1_806.out _).trans (hHeld.2.2.2.1)), ((cell_far (p := ⟨gb3, _, none⟩) NB1_806.out _).trans (hHeld.2.2.2.2.1)), ((cell_far (p := ⟨gb3, _, none⟩) NB2_806.out _).trans (hHeld.2.2.2.2.2.1)), ((cell_far (p := ⟨gb3, _, none⟩) NB2_806.out _).trans (hHeld.2.2.2.2.2.2.1)), ((cell_far (p := ⟨gb3, _, none⟩) NB2_806.out _).trans (hHeld.2.2.2.2.2.2.2.1)), ((cell_far (p := ⟨gb3, _, none⟩) NB2_806.out _).trans (hHeld.2.2.2.2.2.2.2.2.1)), ((cell_far (p := ⟨gb3, _, none⟩) NB2_806.out _).trans (hHeld.2.2.2.2.2.2.2.2.2.1)), ((cell_far (p := ⟨gb3, _, none⟩) NB2_806.out _).trans (hHeld.2.2.2.2.2.2.2.2.2.2.1)), ((cell_far (p := ⟨gb3, _, none⟩) NB2_806.out _).trans (hHeld.2.2.2.2.2.2.2.2.2.2.2))⟩ (fun hHeld => ?_); clear hK K; refine zdo ?_; try go_wp2_with (first | ((with_reducible refine gate_dst (N := 61) rfl ?_); (try (refine gate_guard (by rfl) ?_; dsimp only)); refine Kd.R_lit k43 _ 43 ?hg (N := 61) ?hd (xs := ([] : List (S43))) (inner := []) (ok := fun _ => True) (okp := fun _ => True) ?hr ?hp (fun _ hk => hk) trivial (Below.refl _ _) (Nat.le_refl _) (by simp) ?_; (case hd => rfl); (case hg => rfl); (case hr => exact q27z); (case hp => exact (Reps.none _ _)); intro v1 w2 ho1 hb hg_ hnew_; clear hg_ hnew_; (first | rw [← Ny5.out] at ho1 | (simp only [Int.reduceToNat] at ho1; rw [← Ny5.out] at ho1)); replace HO2 := aM (yr (q86z HO2 BK3) hb); replace HO3 := aM (yr (q86z HO3 BK3) hb); have HO1 := aM (Kd.R_lower ho1 (yn (q12z HB GE1 GE2 GE3))); replace BK1 := aM (yi (g := gb1) (o := .cells #[.slice (some ad1) l0_0.length c0_0, .slice A0_1 l0_1.length c0_1, .slice A0_2 l0_2.length c0_2, .slice A0_3 l0_3.length c0_3, .slice A0_4 l0_4.length c0_4] 27 (0, 0)) (q40z NB1_806 BK1) hb); replace BK2 := aM (yi (g := gb2) (o := .cells #[.int .i64 ((rd_T41 l0_0 (ji1)).f0), .int .i64 ((rd_T41 l0_0 (ji1)).f1), .int .i64 ((rd_T41 l0_0 (ji1)).f2), .int .i64 ((rd_T41 l0_0 (ji1)).f3), .int .i64 ((rd_T41 l0_0 (ji1)).f4), .int .i64 ((rd_T41 l0_0 (ji1)).f5), .int .i64 ((rd_T41 l0_0 (ji1)).f6)] 41 (0, 0)) (q40z NB2_806 BK2) hb); replace BK3 := aM (yi (g := gb3) (o := .cells #[.slice Ao1 y5.length co1, .slice A0_1 l0_1.length c0_1, .slice A0_2 l0_2.length c0_2, .slice A0_3 l0_3.length c0_3, .slice A0_4 l0_4.length c0_4] 27 (0, 0)) (by (with_reducible repeat (first | refine ya ?_ _ | refine yc ?_ | refine yb ?_ _)); refine ys (cs := #[.slice (some ad1) l0_0.length c0_0, .slice A0_1 l0_1.length c0_1, .slice A0_2 l0_2.length c0_2, .slice A0_3 l0_3.length c0_3, .slice A0_4 l0_4.length c0_4]) ?_ 0 _ rfl; (with_reducible repeat (first | refine ya ?_ _ | refine yc ?_ | refine yb ?_ _)); exact BK3.out) hb); replace HB := aM (ym (q12z HB GE1 GE2 GE3) hb); clear hb ho1; obtain ⟨i11_0, i12_1, i12_2, i12_3, i12_4, j13_0, j13_1, j13_2, j13_3, j13_4⟩ := cells5_90 BK1.out) | ((with_reducible refine gate_builtin (b := .append) (xs := #[.tmp 61, .tmp 63]) rfl ?_); (try (refine gate_guard (by rfl) ?_; dsimp only)); at_builtin; refine Kd.R_append_rows k43 (w0 := w) w.heap.size rfl (.tmp 61) (.tmp 63) 24 43 (.agg #[(.string ⟨#[]⟩), (.int .i64 0), (.int .i64 0), (.int .i64 0)]) 40 rfl Try.underlying24 info43 rfl (by decide) (by omega) v1 y4 l0_2 _ _ _ (fun _ => True) (fun _ => False) rfl rfl ?aO ?aR (fun _ _ h => h) (fun _ h => h.elim) ?aF ?aB ?aS ?aL ?_; (case aR => exact q1z HR1_2 HB); (case aB => exact q63z HB GE1 GE2 GE3); (case aF => exact q94z); (case aO => exact q45z HO1); (case aS => exact q60z HB GE1 GE2 GE3); (case aL => have := LMc3.out; omega); intro v2 w3 ho hb hg hat; rw [← Ny6.out] at ho; replace BK1 := aM (blk_grown (g := gb1) (o := .cells #[.slice (some ad1) l0_0.length c0_0, .slice A0_1 l0_1.length c0_1, .slice A0_2 l0_2.length c0_2, .slice A0_3 l0_3.length c0_3, .slice A0_4 l0_4.length c0_4] 27 (0, 0)) (zi BK1) hg (Kd.R_ne HO1.out BK1.out (by decide))); replace BK2 := aM (blk_grown (g := gb2) (o := .cells #[.int .i64 ((rd_T41 l0_0 (ji1)).f0), .int .i64 ((rd_T41 l0_0 (ji1)).f1), .int .i64 ((rd_T41 l0_0 (ji1)).f2), .int .i64 ((rd_T41 l0_0 (ji1)).f3), .int .i64 ((rd_T41 l0_0 (ji1)).f4), .int .i64 ((rd_T41 l0_0 (ji1)).f5), .int .i64 ((rd_T41 l0_0 (ji1)).f6)] 41 (0, 0)) (zi BK2) hg (Kd.R_ne HO1.out BK2.out (by decide))); replace BK3 := aM (blk_grown (g := gb3) (o := .cells #[.slice Ao1 y5.length co1, .slice A0_1 l0_1.length c0_1, .slice A0_2 l0_2.length c0_2, .slice A0_3 l0_3.length c0_3, .slice A0_4 l0_4.length c0_4] 27 (0, 0)) (zi BK3) hg (Kd.R_ne HO1.out BK3.out (by decide))); replace HO2 := aM (Kd.R_over' (q2z HO2) (Kd.R_typed (q2z HO1)) (by decide) hg); replace HO3 := aM (Kd.R_over' (q2z HO3) (Kd.R_typed (q2z HO1)) (by decide) hg); replace HB := aM (hb); have HO4 := aM (ho); clear HO1; clear ho hb hg hat; obtain ⟨Ao2, co2, eo1⟩ := Kd.R_slice HO4.out; subst eo1; obtain ⟨i12_0, i13_1, i13_2, i13_3, i13_4, j14_0, j14_1, j14_2, j14_3, j14_4⟩ := cells5_90 BK3.out))
             go_loopg [13] kj1 (fun kq v1 w' => ∃ (x1_3 : Int) (x2_3 : List (S43)) (u807002 : Value), v1 = .int .i64 x1_3 ∧ Aside0 (w9_NetTwice.l0 kq l2 l3 t1 ji1 x1_3 l0_0 l0_1 l0_2 l0_3 l0_4 y5 l0_1 x2_3 l0_3 l0_4 = some r) ∧ Aside0 (kq ≤ kj1) ∧ Aside0 (Kd.R k41 41 w' w.heap.size (fun k_ => k_ ≠ gb2) (.slice Ao1 y5.length co1) y5) ∧ Aside0 (Kd.R k43 43 w' w.heap.size (fun _ => True) u807002 x2_3) ∧ Aside0 (w'.heap[gb1]? = some (.cells #[(.slice (some ad1) l0_0.length c0_0), (.slice A0_1 l0_1.length c0_1), (.slice A0_2 l0_2.length c0_2), (.slice A0_3 l0_3.length c0_3), (.slice A0_4 l0_4.length c0_4)] 27 (0, 0))) ∧ Aside0 (w'.heap[gb2]? = some (.cells #[.int .i64 ((rd_T41 l0_0 (ji1)).f0), .int .i64 ((rd_T41 l0_0 (ji1)).f1), .int .i64 ((rd_T41 l0_0 (ji1)).f2), .int .i64 ((rd_T41 l0_0 (ji1)).f3), .int .i64 ((rd_T41 l0_0 (ji1)).f4), .int .i64 ((rd_T41 l0_0 (ji1)).f5), .int .i64 ((rd_T41 l0_0 (ji1)).f6)] 41 (0, 0))) ∧ Aside0 (w'.heap[gb3]? = some (.cells #[(.slice Ao1 y5.length co1), (.slice A0_1 l0_1.length c0_1), u807002, (.slice A0_3 l0_3.length c0_3), (.slice A0_4 l0_4.length c0_4)] 27 (0, 0))) ∧ Aside0 (Below w.heap.size w w'))
             case atStart => exact ⟨(0), (y6), (.slice Ao2 y6.length co2), q13z, H', ⟨Nat.le_refl _⟩, ⟨by (with_reducible repeat (first | apply yf | apply yg | apply yh)); exact Kd.R_mono (Kd.R_far (p := ⟨gb3, 2, none⟩) (Kd.R_types HO3.out BK3.out (by decide)) (fun _ hk => hk.2) (.slice Ao2 y6.length co2)) (fun _ hk => hk.1.2)⟩, ⟨by (with_reducible repeat (first | apply yf | apply yg | apply yh)); exact Kd.R_mono (Kd.R_far (p := ⟨gb3, 2, none⟩) (Kd.R_types HO4.out BK3.out (by decide)) (fun _ hk => hk.2) (.slice Ao2 y6.length co2)) (fun _ hk => trivial)⟩, ⟨q40z NB1_806 BK1⟩, ⟨q40z NB2_806 BK2⟩, ⟨by (with_reducible repeat (first | refine ya ?_ _ | refine yc ?_ | refine yb ?_ _)); refine ys (cs := #[.slice Ao1 y5.length co1, .slice A0_1 l0_1.length c0_1, .slice A0_2 l0_2.length c0_2, .slice A0_3 l0_3.length c0_3, .slice A0_4 l0_4.length c0_4]) ?_ 2 _ rfl; (with_reducible repeat (first | refine ya ?_ _ | refine yc ?_ | refine yb ?_ _)); exact BK3.out⟩, ⟨q12z HB GE1 GE2 GE3⟩⟩
             case round =>
              clear H'; try clear p2
              try clear c3
              try clear c4
              try clear c7
              try clear p8
              try clear q8
              try clear hx8
              try clear c6
              try clear c8
              try clear c10
              try clear c15
              try clear c43
              try clear c46
              try clear c47
              try clear i2_1 i2_2 i2_3 i2_4
              try clear i3_0 i3_1 i3_2 i3_3 i3_4
              try clear i4_0 i4_1 i4_2 i4_3 i4_4
              try clear i5_0 i5_1 i5_2 i5_3 i5_4
              try clear i6_0 i6_1 i6_2 i6_3 i6_4
              try clear i7_0 i7_1 i7_2 i7_3 i7_4
              try clear i8_0 i8_1 i8_2 i8_3 i8_4
              try clear i1_5 i1_6 i1_0 i1_1 i1_2 i1_3 i1_4
              try clear i2_5 i2_6 i2_0
              try clear i9_1 i9_2 i9_3 i9_4
              try clear i3_5 i3_6
              try clear i9_0
              try clear i10_1 i10_2 i10_3 i10_4 i10_0
              try clear i11_1 i11_2 i11_3 i11_4 i11_0
              try clear i12_1 i12_2 i12_3 i12_4 i12_0
              try clear i13_1 i13_2 i13_3 i13_4
              try clear j1_0 j1_1 j1_2 j1_3 j1_4
              try clear j2_0 j2_1 j2_2 j2_3 j2_4
              try clear j3_0 j3_1 j3_2 j3_3 j3_4
              try clear j4_0 j4_1 j4_2 j4_3 j4_4
              try clear j5_0 j5_1 j5_2 j5_3 j5_4
              try clear j6_0 j6_1 j6_2 j6_3 j6_4
              try clear j7_0 j7_1 j7_2 j7_3 j7_4
              try clear j8_0 j8_1 j8_2 j8_3 j8_4
              try clear j1_5 j1_6
              try clear j9_0 j9_1 j9_2 j9_3 j9_4
              try clear j2_5 j2_6
              try clear j10_0 j10_1 j10_2 j10_3 j10_4
              try clear j3_5 j3_6
              try clear j11_0 j11_1 j11_2 j11_3 j11_4
              try clear j12_0 j12_1 j12_2 j12_3 j12_4
              try clear j13_0 j13_1 j13_2 j13_3 j13_4
              try clear j14_0 j14_1 j14_2 j14_3 j14_4
              try clear hx1_0
              try clear hx1_1
              try clear hx1_2
              try clear hx1_3
              try clear hx1_4
              try clear hx1_5
              try clear hx1_6
              try clear p2
              try clear p1
              try clear q1
              obtain ⟨x1_3, x2_3, u807002, rfl, HA, HK1, HO_1, HO_2, BK1, BK2, BK3, HB⟩ := hrel; cases gk with
              | zero => exact absurd HA.out (by simp [w9_NetTwice.l0])
              | succ k1 =>
               have H := HA.out; clear HA; simp only [w9_NetTwice.l0] at H; by_cases c6 : x1_3 < (x2_3.length : Int)
               ·rw [if_pos c6] at H; have c1b0 := decide_eq_true c6; clear c6; by_cases c16 : 0 ≤ x1_3
                ·rw [if_pos c16] at H; have c1b0 := decide_eq_true c16; clear c16; by_cases c17 : ((rd_T43 x2_3 x1_3).f2) = ji1
                 ·rw [if_pos c17] at H; obtain ⟨c1b0, c1b1⟩ := zeq c17; clear c17; obtain ⟨y1, hy1⟩ : ∃ y_ : List (S43), y_ = (x2_3.set (x1_3 : Int).toNat (⟨(rd_T43 x2_3 x1_3).f0, (rd_T43 x2_3 x1_3).f1, (l0_0.length : Int), (rd_T43 x2_3 x1_3).f3⟩ : S43)) := ⟨_, rfl⟩; replace H : (w9_NetTwice.l0 k1 l2 l3 t1 ji1 (wrap64 (x1_3 + 1)) l0_0 l0_1 l0_2 l0_3 l0_4 y5 l0_1 y1 l0_3 l0_4) = some r := by first | (rw [hy1]; with_reducible exact H) | (have H1_ := (Option.bind_some _ _).symm.trans H; rw [hy1]; with_reducible exact H1_) | (have H1_ := (Option.bind_some _ _).symm.trans H; with_reducible exact H1_) | with_reducible exact H | (rw [hy1]; exact H) | exact H
                  have Ny1 := aM hy1; clear hy1; have H' := aM H; clear H; have hnb1 := NB2_800.out; have hnc1 := NB1_806.out; have hnb1 := NB2_805.out; have hnc1 := NB2_806.out; obtain ⟨i1_0, i1_1, i1_2, i1_3, i1_4, j1_0, j1_1, j1_2, j1_3, j1_4⟩ := cells5_90 BK3.out; obtain ⟨Ao2, co2, eo1⟩ := Kd.R_slice HO_2.out; subst eo1; have p1 : 0 ≤ (x1_3 : Int) := zod; have q1 : x1_3 < (x2_3.length : Int) := zod; obtain ⟨ad2, e1, hx1_0, hx1_1, hx1_2, hx1_3⟩ := at_T43 (Kd.R_reads' HO_2.out).2.2 x1_3 p1 q1; cases e1; replace p1 := eq_true p1; replace q1 := eq_true q1; have hnb1 := NB1_805.out; have hnc1 := NB1_800.out; obtain ⟨i1_0, i1_1, i1_2, i1_3, i1_4, j1_0, j1_1, j1_2, j1_3, j1_4⟩ := cells5_90 BK1.out; have p1 : 0 ≤ (x1_3 : Int) := zod; have q1 : (x1_3 : Int) < ((x2_3.length : Int) : Int) := zod; obtain ⟨go1, co3, eo1, gb4, gl1, cl1, HG1⟩ := Kd.R_form HO_2.out (by omega); (first | cases eo1 | (injection eo1 with ea_ en_ ec_; (first | subst ea_ | (injection ea_ with ea_; subst ea_)); subst ec_; clear en_))
                  have GB1 := aM gb4; have GG1 := aM HG1; clear gb4 gl1 HG1; (first | simp only [add_plain] at hx1_0 | skip)
                  (first | simp only [add_plain] at hx1_1 | skip)
                  (first | simp only [add_plain] at hx1_2 | skip)
                  (first | simp only [add_plain] at hx1_3 | skip)
                  obtain ⟨ce1, hcl1, hM1, hcc1, hfr1⟩ := Kd.R_elem HO_2.out z43 (x1_3 : Int) p1 q1; obtain rfl := k43_openM hM1; have hx1_0 : wr.cell? ⟨go1, (x1_3 : Int).toNat * 4, none⟩ = some (.string ((rd_T43 x2_3 x1_3).f0)) := hcc1 0 _ rfl; have hx1_1 : wr.cell? ⟨go1, (x1_3 : Int).toNat * 4 + 1, none⟩ = some (.int .i64 ((rd_T43 x2_3 x1_3).f1)) := hcc1 1 _ rfl; have hx1_2 : wr.cell? ⟨go1, (x1_3 : Int).toNat * 4 + 2, none⟩ = some (.int .i64 ((rd_T43 x2_3 x1_3).f2)) := hcc1 2 _ rfl; have hx1_3 : wr.cell? ⟨go1, (x1_3 : Int).toNat * 4 + 3, none⟩ = some (.int .i64 ((rd_T43 x2_3 x1_3).f3)) := hcc1 3 _ rfl; have hf1_0 : wr.frozen? ⟨go1, (x1_3 : Int).toNat * 4, none⟩ = false := hfr1 0; have hf1_1 : wr.frozen? ⟨go1, (x1_3 : Int).toNat * 4 + 1, none⟩ = false := hfr1 1; have hf1_2 : wr.frozen? ⟨go1, (x1_3 : Int).toNat * 4 + 2, none⟩ = false := hfr1 2; have hf1_3 : wr.frozen? ⟨go1, (x1_3 : Int).toNat * 4 + 3, none⟩ = false := hfr1 3; clear hcl1 hcc1 hfr1 hM1; replace p1 := eq_true p1; replace q1 := eq_true q1; have HX1 := aM (show Kd.R k43 43 wr w.heap.size (fun _ => True) (.slice (some ⟨go1, 0, none⟩) x2_3.length co2) x2_3 from (q2z HO_2)); obtain ⟨ce1, hcl1, hM1, hcc1, hfr1⟩ := Kd.R_elem HX1.out z43 (x1_3 : Int) (of_decide_eq_true q75z) (by have h_ : (x1_3 : Int) < ((x2_3.length : Int) : Int) := zod; first | exact h_ | (have e_ := (Kd.R_reads' HO_2.out).1; omega) | simpa using h_); obtain rfl := k43_openM hM1; have HP1 := Kd.R_seg HX1.out (x1_3 : Int) (of_decide_eq_true q75z) (by have h_ : (x1_3 : Int) < ((x2_3.length : Int) : Int) := zod; first | exact h_ | (have e_ := (Kd.R_reads' HO_2.out).1; omega) | simpa using h_) (seg := [.int .i64 (l0_0.length : Int)]) (j := 2) hcl1 hcc1 (show 3 ≤ 4 from by decide) (x' := (⟨(rd_T43 x2_3 x1_3).f0, (rd_T43 x2_3 x1_3).f1, (l0_0.length : Int), (rd_T43 x2_3 x1_3).f3⟩ : S43)) (k43_mkM _ _ _ (⟨(rd_T43 x2_3 x1_3).f0, (rd_T43 x2_3 x1_3).f1, (l0_0.length : Int), (rd_T43 x2_3 x1_3).f3⟩ : S43) ) (fun _ hk => hk); have hx1_2 := hcc1 2 _ rfl; (try simp only [show (k43).sz = 4 from rfl, Nat.mul_one, Nat.add_zero] at hx1_2)
                  have hf1_2 := hfr1 2; (try simp only [show (k43).sz = 4 from rfl, Nat.mul_one, Nat.add_zero] at hf1_2)
                  clear hcl1 hcc1 hfr1 hM1; go_wp2_with (first | ((with_reducible refine gate_store (t := 3) (p := 88) rfl ?_); refine store_event (t := 3) (p := 88) (v := ?vo_w78) (w1 := (wr.setCell ⟨go1, (x1_3 : Int).toNat * 4 + 2, none⟩ (.int .i64 (l0_0.length : Int)))) ?hg ?ho ?hn ?hr ?_; (case ho => rfl); (case hg => rfl); (case hn => rfl); (case hr => exact q27z); intro w2 hw; have hg : wr.grownBy w2 (some go1) := (by rw [hw]; exact HP1.2); have hp_ : Kd.R k43 43 w2 w.heap.size (fun _ => True) (.slice (some ⟨go1, 0, none⟩) x2_3.length co2) y1 := (by rw [hw, Ny1.out]; exact HP1.1); clear HP1; replace HO_1 := aM (Kd.R_over' (v := (.slice (some ⟨go1, 0, none⟩) x2_3.length co2)) (q2z HO_1) (Kd.R_typed HO_2.out) (by decide) hg); replace BK1 := aM (blk_grown (g := gb1) (o := .cells #[.slice (some ad1) l0_0.length c0_0, .slice A0_1 l0_1.length c0_1, .slice A0_2 l0_2.length c0_2, .slice A0_3 l0_3.length c0_3, .slice A0_4 l0_4.length c0_4] 27 (0, 0)) (zi BK1) hg (Kd.R_ne HO_2.out BK1.out (by decide))); replace BK2 := aM (blk_grown (g := gb2) (o := .cells #[.int .i64 ((rd_T41 l0_0 (ji1)).f0), .int .i64 ((rd_T41 l0_0 (ji1)).f1), .int .i64 ((rd_T41 l0_0 (ji1)).f2), .int .i64 ((rd_T41 l0_0 (ji1)).f3), .int .i64 ((rd_T41 l0_0 (ji1)).f4), .int .i64 ((rd_T41 l0_0 (ji1)).f5), .int .i64 ((rd_T41 l0_0 (ji1)).f6)] 41 (0, 0)) (zi BK2) hg (Kd.R_ne HO_2.out BK2.out (by decide))); replace BK3 := aM (blk_grown (g := gb3) (o := .cells #[.slice Ao1 y5.length co1, .slice A0_1 l0_1.length c0_1, .slice (some ⟨go1, 0, none⟩) x2_3.length co2, .slice A0_3 l0_3.length c0_3, .slice A0_4 l0_4.length c0_4] 27 (0, 0)) (zi BK3) hg (Kd.R_ne HO_2.out BK3.out (by decide))); replace HO_2 := aM (hp_); replace HB := aM ((by rw [hw]; exact yd (HB.out) GB1.out : Below w.heap.size w w2)); clear hg hw hp_))
                  go_roundg k1
                  case measure => have := HJ1.out; have := HJ2.out; have := HK1.out; omega
                  case rel => exact ⟨(wrap64 (x1_3 + 1)), (y1), (.slice (some ⟨go1, 0, none⟩) x2_3.length co2), q13z, H', ⟨q87z HJ1 HJ2 HK1⟩, ⟨q2z HO_1⟩, ⟨q2z HO_2⟩, ⟨q10z BK1⟩, ⟨q10z BK2⟩, ⟨q10z BK3⟩, ⟨q12z HB GE1 GE2 GE3⟩⟩
                 ·rw [if_neg c17] at H; obtain ⟨c1b0, c1b1⟩ := zne c17; have H' := aM H; clear H; have hnb1 := NB2_800.out; have hnc1 := NB1_806.out; have hnb1 := NB2_805.out; have hnc1 := NB2_806.out; obtain ⟨i1_0, i1_1, i1_2, i1_3, i1_4, j1_0, j1_1, j1_2, j1_3, j1_4⟩ := cells5_90 BK3.out; obtain ⟨Ao2, co2, eo1⟩ := Kd.R_slice HO_2.out; subst eo1; have p1 : 0 ≤ (x1_3 : Int) := zod; have q1 : x1_3 < (x2_3.length : Int) := zod; obtain ⟨ad2, e1, hx1_0, hx1_1, hx1_2, hx1_3⟩ := at_T43 (Kd.R_reads' HO_2.out).2.2 x1_3 p1 q1; cases e1; replace p1 := eq_true p1; replace q1 := eq_true q1; go_wp2
                  go_roundg k1
                  case measure => have := HJ1.out; have := HJ2.out; have := HK1.out; omega
                  case rel => exact ⟨(wrap64 (x1_3 + 1)), (x2_3), (.slice (some ad2) x2_3.length co2), q13z, H', ⟨q87z HJ1 HJ2 HK1⟩, ⟨q2z HO_1⟩, ⟨q2z HO_2⟩, ⟨q10z BK1⟩, ⟨q10z BK2⟩, ⟨q10z BK3⟩, ⟨q12z HB GE1 GE2 GE3⟩⟩
                ·rw [if_neg c16] at H; exact absurd H (by simp)
               ·rw [if_neg c6] at H; have c1b0 := decide_eq_false c6; clear c6; replace H := Option.bind_eq_some_iff.mp H; obtain ⟨⟨t2, t3⟩, A1, H⟩ := H; replace H : ((net_Eval.f k1 y5 l0_1 x2_3 l0_3 l0_4 t2 t3).bind fun t4 => ((net_Right.f k1 y5 l0_1 x2_3 l0_3 l0_4).bind fun t5 => (if t5 = true then (if (t4.length : Int) = (wrap64 ((l0_0.length : Int) + 1)) then (if 0 ≤ (l0_0.length : Int) then (if (l0_0.length : Int) < (t4.length : Int) then (if 0 ≤ ji1 then (if ji1 < (t4.length : Int) then (w9_NetTwice.j3 k1 t1 t2 t3 ((rd t4 (l0_0.length : Int)) != (rd t4 ji1)) l0_0 l0_1 l0_2 l0_3 l0_4 y5 l0_1 x2_3 l0_3 l0_4) else (none)) else (none)) else (none)) else (none)) else (w9_NetTwice.j3 k1 t1 t2 t3 true l0_0 l0_1 l0_2 l0_3 l0_4 y5 l0_1 x2_3 l0_3 l0_4)) else (w9_NetTwice.j3 k1 t1 t2 t3 true l0_0 l0_1 l0_2 l0_3 l0_4 y5 l0_1 x2_3 l0_3 l0_4)))) = some r := H; have A4 := aM A1; clear A1; replace H := Option.bind_eq_some_iff.mp H; obtain ⟨t4, A1, H⟩ := H; have A5 := aM A1; clear A1; have HC3 := aM H; clear H; have hnb1 := NB2_800.out; have hnc1 := NB1_806.out; have hnb1 := NB2_805.out; have hnc1 := NB2_806.out; obtain ⟨i1_0, i1_1, i1_2, i1_3, i1_4, j1_0, j1_1, j1_2, j1_3, j1_4⟩ := cells5_90 BK3.out; obtain ⟨Ao2, co2, eo1⟩ := Kd.R_slice HO_2.out; subst eo1; have hnb1 := NB1_805.out; have hnc1 := NB1_800.out; obtain ⟨i1_0, i1_1, i1_2, i1_3, i1_4, j1_0, j1_1, j1_2, j1_3, j1_4⟩ := cells5_90 BK1.out; go_upto_region 18 with (first | ((with_reducible refine zgc 16 rfl ?_); refine zgl (some 93) Try.func16 #[.agg #[.slice (some ad1) l0_0.length c0_0, .slice A0_1 l0_1.length c0_1, .slice A0_2 l0_2.length c0_2, .slice A0_3 l0_3.length c0_3, .slice A0_4 l0_4.length c0_4], .slice A2 l2.length c2, .slice A3 l3.length c3] ?_; (with_reducible refine (w9_Rows.calls k1 _ _ l0_0 _ _ l0_1 _ _ l0_2 _ _ l0_3 _ _ l0_4 _ _ l2 _ _ l3 t2 t3 _ ?side1 ?side2 ?side3 ?side4 ?side5 ?side6 ?side7 ?side8 ?side9 ?side10 ?side11 ?side12 ?side13 ?side14 A4.out).mono ?_); (case side1 => exact q1z HR1_0 HB); (case side2 => exact HC1_0.out); (case side3 => exact q1z HR1_1 HB); (case side4 => exact HC1_1.out); (case side5 => exact q1z HR1_2 HB); (case side6 => exact HC1_2.out); (case side7 => exact q1z HR1_3 HB); (case side8 => exact HC1_3.out); (case side9 => exact q1z HR1_4 HB); (case side10 => exact HC1_4.out); (case side11 => exact q1z HR1 HB); (case side12 => exact HC1.out); (case side13 => exact q1z HR2 HB); (case side14 => exact HC2.out); rintro e w2 ⟨v1, v2, rfl, ho1, ho2, hb⟩; refine ⟨_, rfl, ?_⟩; replace HO_1 := aM (yr (q2z HO_1) hb); replace HO_2 := aM (yr (q2z HO_2) hb); have HO1 := aM (Kd.R_lower ho1 (yn (q12z HB GE1 GE2 GE3))); have HO2 := aM (Kd.R_lower ho2 (yn (q12z HB GE1 GE2 GE3))); replace BK1 := aM (yi (zi BK1) hb); replace BK2 := aM (yi (zi BK2) hb); replace BK3 := aM (yi (zi BK3) hb); replace HB := aM (ym (q12z HB GE1 GE2 GE3) hb); (try clear hb); (try clear hb2); (try clear hk); (try clear hi); (try clear ho1); (try clear ho2); obtain ⟨i1_0, i1_1, i1_2, i1_3, i1_4, j1_0, j1_1, j1_2, j1_3, j1_4⟩ := cells5_90 BK3.out; obtain ⟨Ao3, co3, eo1⟩ := Kd.R_slice HO1.out; subst eo1; obtain ⟨Ao4, co4, eo2⟩ := Kd.R_slice HO2.out; subst eo2) | ((with_reducible refine zgc 20 rfl ?_); refine zgl (some 99) Try.func20 #[.agg #[.slice Ao1 y5.length co1, .slice A0_1 l0_1.length c0_1, .slice Ao2 x2_3.length co2, .slice A0_3 l0_3.length c0_3, .slice A0_4 l0_4.length c0_4], .slice Ao3 t2.length co3, .slice Ao4 t3.length co4] ?_; (with_reducible refine (net_Eval.calls k1 _ _ y5 _ _ l0_1 _ _ x2_3 _ _ l0_3 _ _ l0_4 _ _ t2 _ _ t3 t4 _ ?side1 ?side2 ?side3 ?side4 ?side5 ?side6 ?side7 ?side8 ?side9 ?side10 ?side11 ?side12 ?side13 ?side14 A5.out).mono ?_); (case side1 => exact q9z HO_1); (case side2 => exact q24z HO_1); (case side3 => exact q1z HR1_1 HB); (case side4 => exact HC1_1.out); (case side5 => exact q9z HO_2); (case side6 => exact q24z HO_2); (case side7 => exact q1z HR1_3 HB); (case side8 => exact HC1_3.out); (case side9 => exact q1z HR1_4 HB); (case side10 => exact HC1_4.out); (case side11 => exact q9z HO1); (case side12 => exact q24z HO1); (case side13 => exact q9z HO2); (case side14 => exact q24z HO2); rintro e w3 ⟨v3, rfl, ho1, hb⟩; refine ⟨_, rfl, ?_⟩; replace HO_1 := aM (yr (q2z HO_1) hb); replace HO_2 := aM (yr (q2z HO_2) hb); have HO3 := aM (Kd.R_lower (Kd.R_new' (Kd.R_new' ho1 (Kd.R_lt (q2z HO1))) (Kd.R_lt (q2z HO2))) (yn (q12z HB GE1 GE2 GE3))); replace HO1 := aM (Kd.R_elder' (q2z HO1) (Kd.R_base ho1) hb); replace HO2 := aM (Kd.R_elder' (q2z HO2) (Kd.R_base ho1) hb); replace BK1 := aM (yi (zi BK1) hb); replace BK2 := aM (yi (zi BK2) hb); replace BK3 := aM (yi (zi BK3) hb); replace HB := aM (ym (q12z HB GE1 GE2 GE3) hb); (try clear hb); (try clear hb2); (try clear hk); (try clear hi); (try clear ho1)))
                (try simp only [Act.put, yu, yv, yw])
                go_cut [124] (fun v1 wc => ∃ (kq : Nat) (x1_84 : Bool), v1 = .bool x1_84 ∧ Aside0 (w9_NetTwice.j3 kq t1 t2 t3 x1_84 l0_0 l0_1 l0_2 l0_3 l0_4 y5 l0_1 x2_3 l0_3 l0_4 = some r) ∧ Aside0 (kq ≤ k1) ∧ Aside0 (Kd.R (Kd.int .i64) 3 wc w.heap.size (fun k_ => some k_ ≠ ((.slice Ao4 t3.length co4) : Value).ownBlock) (.slice Ao3 t2.length co3) t2) ∧ Aside0 (Kd.R (Kd.int .i64) 3 wc w.heap.size (fun k_ => some k_ ≠ ((.slice Ao3 t2.length co3) : Value).ownBlock) (.slice Ao4 t3.length co4) t3) ∧ Aside0 (Kd.R k41 41 wc w.heap.size (fun k_ => k_ ≠ gb2) (.slice Ao1 y5.length co1) y5) ∧ Aside0 (Kd.R k43 43 wc w.heap.size (fun _ => True) (.slice Ao2 x2_3.length co2) x2_3) ∧ Aside0 (wc.heap[gb1]? = some (.cells #[(.slice (some ad1) l0_0.length c0_0), (.slice A0_1 l0_1.length c0_1), (.slice A0_2 l0_2.length c0_2), (.slice A0_3 l0_3.length c0_3), (.slice A0_4 l0_4.length c0_4)] 27 (0, 0))) ∧ Aside0 (wc.heap[gb2]? = some (.cells #[.int .i64 ((rd_T41 l0_0 (ji1)).f0), .int .i64 ((rd_T41 l0_0 (ji1)).f1), .int .i64 ((rd_T41 l0_0 (ji1)).f2), .int .i64 ((rd_T41 l0_0 (ji1)).f3), .int .i64 ((rd_T41 l0_0 (ji1)).f4), .int .i64 ((rd_T41 l0_0 (ji1)).f5), .int .i64 ((rd_T41 l0_0 (ji1)).f6)] 41 (0, 0))) ∧ Aside0 (wc.heap[gb3]? = some (.cells #[(.slice Ao1 y5.length co1), (.slice A0_1 l0_1.length c0_1), (.slice Ao2 x2_3.length co2), (.slice A0_3 l0_3.length c0_3), (.slice A0_4 l0_4.length c0_4)] 27 (0, 0))) ∧ Aside0 (Below w.heap.size w wc))
                case first =>
                 have H := HC3.out; clear HC3; replace H := Option.bind_eq_some_iff.mp H; obtain ⟨t5, A1, H⟩ := H; have A4 := aM A1; clear A1; by_cases c6 : t5 = true
                 ·subst c6; have H1 : (if (t4.length : Int) = (wrap64 ((l0_0.length : Int) + 1)) then (if 0 ≤ (l0_0.length : Int) then (if (l0_0.length : Int) < (t4.length : Int) then (if 0 ≤ ji1 then (if ji1 < (t4.length : Int) then (w9_NetTwice.j3 k1 t1 t2 t3 ((rd t4 (l0_0.length : Int)) != (rd t4 ji1)) l0_0 l0_1 l0_2 l0_3 l0_4 y5 l0_1 x2_3 l0_3 l0_4) else (none)) else (none)) else (none)) else (none)) else (w9_NetTwice.j3 k1 t1 t2 t3 true l0_0 l0_1 l0_2 l0_3 l0_4 y5 l0_1 x2_3 l0_3 l0_4)) = some r := by rw [if_pos rfl] at H; exact H
                  clear H; have H := H1; clear H1; by_cases c16 : (t4.length : Int) = (wrap64 ((l0_0.length : Int) + 1))
                  ·rw [if_pos c16] at H; obtain ⟨c1b0, c1b1⟩ := zeq c16; clear c16; (first | rw [c1b0] | (simp only [i64_w, i32_w]; rw [c1b0]) | skip)
                   by_cases c17 : 0 ≤ (l0_0.length : Int)
                   ·rw [if_pos c17] at H; have c1b0 := decide_eq_true c17; have c1b1 : decide (0 ≤ l0_0.length) = true := decide_eq_true (by omega); clear c17; by_cases c18 : (l0_0.length : Int) < (t4.length : Int)
                    ·rw [if_pos c18] at H; have c1b0 := decide_eq_true c18; have c1b1 : decide (l0_0.length < t4.length) = true := decide_eq_true (Int.ofNat_lt.mp c18); clear c18; by_cases c19 : 0 ≤ ji1
                     ·rw [if_pos c19] at H; have c1b0 := decide_eq_true c19; clear c19; by_cases c20 : ji1 < (t4.length : Int)
                      ·rw [if_pos c20] at H; have c1b0 := decide_eq_true c20; clear c20; have H' := aM H; clear H; try go_wp2
                       replace HO_1 := aM (yh HO_1.out); replace HO_2 := aM (yh HO_2.out); replace HO1 := aM (yh HO1.out); replace HO2 := aM (yh HO2.out); replace HO3 := aM (yh HO3.out); replace BK1 := aM (yc BK1.out); replace BK2 := aM (yc BK2.out); replace BK3 := aM (yc BK3.out); replace HB := aM (yk HB.out); obtain ⟨Aq_, cq_, eq_⟩ := Kd.R_slice HO3.out; subst eq_; have p1 : 0 ≤ ((l0_0.length : Int) : Int) := zod; have q1 : (l0_0.length : Int) < (t4.length : Int) := zod; obtain ⟨ad2, e1, hx1_0⟩ := Kd.at_int (Kd.R_reads' HO3.out).2.2 (l0_0.length : Int) p1 q1; cases e1; (try simp only [Go.IntWalk.toNatUp] at hx1_0)
                       replace p1 := eq_true p1; replace q1 := eq_true q1; have p1 : 0 ≤ (ji1 : Int) := zod; have q1 : ji1 < (t4.length : Int) := zod; obtain ⟨ad3, e1, hx2_0⟩ := Kd.at_int (Kd.R_reads' HO3.out).2.2 ji1 p1 q1; obtain rfl : ad2 = ad3 := (by injection e1); replace p1 := eq_true p1; replace q1 := eq_true q1; refine start_ (n := 25) (S := fun w' => w'.cell? ⟨gb3, 0, none⟩ = some (.slice Ao1 y5.length co1) ∧ w'.cell? ⟨gb3, 1, none⟩ = some (.slice A0_1 l0_1.length c0_1) ∧ w'.cell? ⟨gb3, 2, none⟩ = some (.slice Ao2 x2_3.length co2) ∧ w'.cell? ⟨gb3, 3, none⟩ = some (.slice A0_3 l0_3.length c0_3) ∧ w'.cell? ⟨gb3, 4, none⟩ = some (.slice A0_4 l0_4.length c0_4) ∧ w'.cell? ⟨gb1, 0, none⟩ = some (.slice (some ad1) l0_0.length c0_0) ∧ w'.cell? ⟨gb1, 1, none⟩ = some (.slice A0_1 l0_1.length c0_1) ∧ w'.cell? ⟨gb1, 2, none⟩ = some (.slice A0_2 l0_2.length c0_2) ∧ w'.cell? ⟨gb1, 3, none⟩ = some (.slice A0_3 l0_3.length c0_3) ∧ w'.cell? ⟨gb1, 4, none⟩ = some (.slice A0_4 l0_4.length c0_4) ∧ w'.cell? (ad2.add l0_0.length) = some (.int .i64 (rd t4 (l0_0.length : Int))) ∧ w'.cell? (ad2.add (ji1).toNat) = some (.int .i64 (rd t4 ji1))) (ds := []) (zb 25 0) (by kernel_rfl) rfl rfl ⟨zc BK3 0, zc BK3 1, zc BK3 2, zc BK3 3, zc BK3 4, zc BK1 0, zc BK1 1, zc BK1 2, zc BK1 3, zc BK1 4, hx1_0, hx2_0⟩ (fun hHeld => ?_); refine with_tabW w9_NetTwice.tab18 w9_NetTwice.bits18 (fun HT_ HW_ => ?_); generalize w3.drew = w2 at HO_1 HO_2 HO1 HO2 HO3 BK1 BK2 BK3 HB hx1_0 hx2_0 hHeld ⊢; refine ztk12 0 100 (zb 25 1) hHeld ?_; refine zon 1 (some 101) (zb 25 3) fun K hK => ?_
                       refine zgo Try.func12 #[.agg #[.slice Ao1 y5.length co1, .slice A0_1 l0_1.length c0_1, .slice Ao2 x2_3.length co2, .slice A0_3 l0_3.length c0_3, .slice A0_4 l0_4.length c0_4]] ?_; with_reducible refine (net_Right.calls k1 _ _ y5 _ _ l0_1 _ _ x2_3 _ _ l0_3 _ _ l0_4 true _ ?side1 ?side2 ?side3 ?side4 ?side5 ?side6 ?side7 ?side8 ?side9 ?side10 A4.out).mono ?_
                       (case side1 => exact q9z HO_1)
                       (case side2 => exact q24z HO_1)
                       (case side3 => exact q1z HR1_1 HB)
                       (case side4 => exact HC1_1.out)
                       (case side5 => exact q9z HO_2)
                       (case side6 => exact q24z HO_2)
                       (case side7 => exact q1z HR1_3 HB)
                       (case side8 => exact HC1_3.out)
                       (case side9 => exact q1z HR1_4 HB)
                       (case side10 => exact HC1_4.out)
                       rintro e w2 ⟨rfl, hb⟩; have HS1_ := (hb.cell (World.block_lt_of_cell? _ _ (hHeld.2.2.2.2.2.2.2.2.2.2.1))).trans (hHeld.2.2.2.2.2.2.2.2.2.2.1); have HS2_ := (hb.cell (World.block_lt_of_cell? _ _ (hHeld.2.2.2.2.2.2.2.2.2.2.2))).trans (hHeld.2.2.2.2.2.2.2.2.2.2.2); refine ⟨_, rfl, ?_⟩; replace HO_1 := aM (yr (q2z HO_1) hb); replace HO_2 := aM (yr (q2z HO_2) hb); replace HO1 := aM (yr (q2z HO1) hb); replace HO2 := aM (yr (q2z HO2) hb); replace HO3 := aM (yr (q2z HO3) hb); replace BK1 := aM (yi (zi BK1) hb); replace BK2 := aM (yi (zi BK2) hb); replace BK3 := aM (yi (zi BK3) hb); replace HB := aM (ym (q12z HB GE1 GE2 GE3) hb); (try clear hb)
                       (try clear hb2)
                       (try clear hk)
                       (try clear hi)
                       obtain ⟨Ao5, co5, eo1⟩ := Kd.R_slice HO3.out; (first | subst eo1 | (injection eo1 with f1_ f2_ f3_; have f4_ := f1_.symm; have f5_ := f3_.symm; clear f1_ f2_ f3_; subst f4_; subst f5_))
                       refine hK.out _ _ ⟨zc BK3 0, zc BK3 1, zc BK3 2, zc BK3 3, zc BK3 4, zc BK1 0, zc BK1 1, zc BK1 2, zc BK1 3, zc BK1 4, HS1_, HS2_⟩ (fun hHeld => ?_); clear hK K; refine zno 101 ?_; refine zpu 2 102 (zb 25 7) ?_; refine zpu 3 103 (zb 25 15) ?_; refine zpu 4 104 (zb 25 31) ?_; refine zpu 5 105 (zb 25 63) ?_; refine zpu 6 106 (zb 25 127) ?_; refine ztk12 7 107 (zb 25 255) hHeld ?_; refine zpu 8 108 (zb 25 511) ?_; refine zpu 9 109 (zb 25 1023) ?_; refine zpu 10 110 (zb 25 2047) ?_; refine zpu 11 111 (zb 25 4095) ?_; refine zpu 12 112 (zb 25 8191) ?_; refine zpu 13 113 (zb 25 16383) ?_; refine zpu 14 114 (zb 25 32767) ?_; refine zpu 19 119 (zb 25 557055) ?_; refine zpu 20 120 (zb 25 1605631) ?_; refine zpu 21 121 (zb 25 3702783) ?_; refine ztk12 15 115 (zb 25 3735551) hHeld ?_; refine zpu 16 116 (zb 25 3801087) ?_; refine zpu 17 117 (zb 25 3932159) ?_; refine ztk12 18 118 (zb 25 4194303) hHeld ?_; refine ztk12 22 122 (zb 25 8388607) hHeld ?_; refine zpu 23 123 (zb 25 16777215) ?_; refine zpu 24 124 (zb 25 33554431) ?_; refine zdo ?_; try go_wp2
                       go_meet
                       case rel => exact ⟨_, (((rd t4 (l0_0.length : Int)) != (rd t4 ji1))), q82z, H', ⟨q62z HJ1 HJ2 HK1⟩, ⟨q79z HO1⟩, ⟨q79z HO2⟩, ⟨q2z HO_1⟩, ⟨q2z HO_2⟩, ⟨q10z BK1⟩, ⟨q10z BK2⟩, ⟨q10z BK3⟩, ⟨q12z HB GE1 GE2 GE3⟩⟩
                      ·rw [if_neg c20] at H; exact absurd H (by simp)
                     ·rw [if_neg c19] at H; exact absurd H (by simp)
                    ·rw [if_neg c18] at H; exact absurd H (by simp)
                   ·rw [if_neg c17] at H; exact absurd H (by simp)
                  ·rw [if_neg c16] at H; obtain ⟨c1b0, c1b1⟩ := zne c16; (first | rw [c1b0] | (simp only [i64_w, i32_w]; rw [c1b0]) | skip)
                   have H' := aM H; clear H; try go_wp2
                   replace HO_1 := aM (yh HO_1.out); replace HO_2 := aM (yh HO_2.out); replace HO1 := aM (yh HO1.out); replace HO2 := aM (yh HO2.out); replace HO3 := aM (yh HO3.out); replace BK1 := aM (yc BK1.out); replace BK2 := aM (yc BK2.out); replace BK3 := aM (yc BK3.out); replace HB := aM (yk HB.out); refine start_ (n := 25) (S := fun w' => w'.cell? ⟨gb3, 0, none⟩ = some (.slice Ao1 y5.length co1) ∧ w'.cell? ⟨gb3, 1, none⟩ = some (.slice A0_1 l0_1.length c0_1) ∧ w'.cell? ⟨gb3, 2, none⟩ = some (.slice Ao2 x2_3.length co2) ∧ w'.cell? ⟨gb3, 3, none⟩ = some (.slice A0_3 l0_3.length c0_3) ∧ w'.cell? ⟨gb3, 4, none⟩ = some (.slice A0_4 l0_4.length c0_4) ∧ w'.cell? ⟨gb1, 0, none⟩ = some (.slice (some ad1) l0_0.length c0_0) ∧ w'.cell? ⟨gb1, 1, none⟩ = some (.slice A0_1 l0_1.length c0_1) ∧ w'.cell? ⟨gb1, 2, none⟩ = some (.slice A0_2 l0_2.length c0_2) ∧ w'.cell? ⟨gb1, 3, none⟩ = some (.slice A0_3 l0_3.length c0_3) ∧ w'.cell? ⟨gb1, 4, none⟩ = some (.slice A0_4 l0_4.length c0_4)) (ds := []) (zb 25 0) (by kernel_rfl) rfl rfl ⟨zc BK3 0, zc BK3 1, zc BK3 2, zc BK3 3, zc BK3 4, zc BK1 0, zc BK1 1, zc BK1 2, zc BK1 3, zc BK1 4⟩ (fun hHeld => ?_); refine with_tabW w9_NetTwice.tab18 w9_NetTwice.bits18 (fun HT_ HW_ => ?_); generalize w3.drew = w2 at HO_1 HO_2 HO1 HO2 HO3 BK1 BK2 BK3 HB hHeld ⊢; refine ztk10 0 100 (zb 25 1) hHeld ?_; refine zon 1 (some 101) (zb 25 3) fun K hK => ?_
                   refine zgo Try.func12 #[.agg #[.slice Ao1 y5.length co1, .slice A0_1 l0_1.length c0_1, .slice Ao2 x2_3.length co2, .slice A0_3 l0_3.length c0_3, .slice A0_4 l0_4.length c0_4]] ?_; with_reducible refine (net_Right.calls k1 _ _ y5 _ _ l0_1 _ _ x2_3 _ _ l0_3 _ _ l0_4 true _ ?side1 ?side2 ?side3 ?side4 ?side5 ?side6 ?side7 ?side8 ?side9 ?side10 A4.out).mono ?_
                   (case side1 => exact q9z HO_1)
                   (case side2 => exact q24z HO_1)
                   (case side3 => exact q1z HR1_1 HB)
                   (case side4 => exact HC1_1.out)
                   (case side5 => exact q9z HO_2)
                   (case side6 => exact q24z HO_2)
                   (case side7 => exact q1z HR1_3 HB)
                   (case side8 => exact HC1_3.out)
                   (case side9 => exact q1z HR1_4 HB)
                   (case side10 => exact HC1_4.out)
                   rintro e w2 ⟨rfl, hb⟩; refine ⟨_, rfl, ?_⟩; replace HO_1 := aM (yr (q2z HO_1) hb); replace HO_2 := aM (yr (q2z HO_2) hb); replace HO1 := aM (yr (q2z HO1) hb); replace HO2 := aM (yr (q2z HO2) hb); replace HO3 := aM (yr (q2z HO3) hb); replace BK1 := aM (yi (zi BK1) hb); replace BK2 := aM (yi (zi BK2) hb); replace BK3 := aM (yi (zi BK3) hb); replace HB := aM (ym (q12z HB GE1 GE2 GE3) hb); (try clear hb)
                   (try clear hb2)
                   (try clear hk)
                   (try clear hi)
                   obtain ⟨Ao5, co5, eo1⟩ := Kd.R_slice HO3.out; (first | subst eo1 | (injection eo1 with f1_ f2_ f3_; have f4_ := f1_.symm; have f5_ := f3_.symm; clear f1_ f2_ f3_; subst f4_; subst f5_))
                   refine hK.out _ _ ⟨zc BK3 0, zc BK3 1, zc BK3 2, zc BK3 3, zc BK3 4, zc BK1 0, zc BK1 1, zc BK1 2, zc BK1 3, zc BK1 4⟩ (fun hHeld => ?_); clear hK K; refine zno 101 ?_; refine zpu 2 102 (zb 25 7) ?_; refine zpu 3 103 (zb 25 15) ?_; refine zpu 4 104 (zb 25 31) ?_; refine zpu 5 105 (zb 25 63) ?_; refine zpu 6 106 (zb 25 127) ?_; refine ztk10 7 107 (zb 25 255) hHeld ?_; refine zpu 8 108 (zb 25 511) ?_; refine zpu 9 109 (zb 25 1023) ?_; refine zpu 10 110 (zb 25 2047) ?_; exact z90_1
                 ·replace c6 := Bool.eq_false_iff.mpr c6; subst c6; have H1 : (w9_NetTwice.j3 k1 t1 t2 t3 true l0_0 l0_1 l0_2 l0_3 l0_4 y5 l0_1 x2_3 l0_3 l0_4) = some r := by rw [if_neg (show ¬ (false = true) by decide)] at H; exact H
                  clear H; have H := H1; clear H1; have H' := aM H; clear H; try go_wp2
                  replace HO_1 := aM (yh HO_1.out); replace HO_2 := aM (yh HO_2.out); replace HO1 := aM (yh HO1.out); replace HO2 := aM (yh HO2.out); replace HO3 := aM (yh HO3.out); replace BK1 := aM (yc BK1.out); replace BK2 := aM (yc BK2.out); replace BK3 := aM (yc BK3.out); replace HB := aM (yk HB.out); refine start_ (n := 25) (S := fun w' => w'.cell? ⟨gb3, 0, none⟩ = some (.slice Ao1 y5.length co1) ∧ w'.cell? ⟨gb3, 1, none⟩ = some (.slice A0_1 l0_1.length c0_1) ∧ w'.cell? ⟨gb3, 2, none⟩ = some (.slice Ao2 x2_3.length co2) ∧ w'.cell? ⟨gb3, 3, none⟩ = some (.slice A0_3 l0_3.length c0_3) ∧ w'.cell? ⟨gb3, 4, none⟩ = some (.slice A0_4 l0_4.length c0_4)) (ds := []) (zb 25 0) (by kernel_rfl) rfl rfl ⟨zc BK3 0, zc BK3 1, zc BK3 2, zc BK3 3, zc BK3 4⟩ (fun hHeld => ?_); refine with_tabW w9_NetTwice.tab18 w9_NetTwice.bits18 (fun HT_ HW_ => ?_); generalize w3.drew = w2 at HO_1 HO_2 HO1 HO2 HO3 BK1 BK2 BK3 HB hHeld ⊢; refine ztk5 0 100 (zb 25 1) hHeld ?_; refine zon 1 (some 101) (zb 25 3) fun K hK => ?_
                  refine zgo Try.func12 #[.agg #[.slice Ao1 y5.length co1, .slice A0_1 l0_1.length c0_1, .slice Ao2 x2_3.length co2, .slice A0_3 l0_3.length c0_3, .slice A0_4 l0_4.length c0_4]] ?_; with_reducible refine (net_Right.calls k1 _ _ y5 _ _ l0_1 _ _ x2_3 _ _ l0_3 _ _ l0_4 false _ ?side1 ?side2 ?side3 ?side4 ?side5 ?side6 ?side7 ?side8 ?side9 ?side10 A4.out).mono ?_
                  (case side1 => exact q9z HO_1)
                  (case side2 => exact q24z HO_1)
                  (case side3 => exact q1z HR1_1 HB)
                  (case side4 => exact HC1_1.out)
                  (case side5 => exact q9z HO_2)
                  (case side6 => exact q24z HO_2)
                  (case side7 => exact q1z HR1_3 HB)
                  (case side8 => exact HC1_3.out)
                  (case side9 => exact q1z HR1_4 HB)
                  (case side10 => exact HC1_4.out)
                  rintro e w2 ⟨rfl, hb⟩; refine ⟨_, rfl, ?_⟩; replace HO_1 := aM (yr (q2z HO_1) hb); replace HO_2 := aM (yr (q2z HO_2) hb); replace HO1 := aM (yr (q2z HO1) hb); replace HO2 := aM (yr (q2z HO2) hb); replace HO3 := aM (yr (q2z HO3) hb); replace BK1 := aM (yi (zi BK1) hb); replace BK2 := aM (yi (zi BK2) hb); replace BK3 := aM (yi (zi BK3) hb); replace HB := aM (ym (q12z HB GE1 GE2 GE3) hb); (try clear hb)
                  (try clear hb2)
                  (try clear hk)
                  (try clear hi)
                  refine hK.out _ _ ⟨zc BK3 0, zc BK3 1, zc BK3 2, zc BK3 3, zc BK3 4⟩ (fun hHeld => ?_); clear hK K; refine zno 101 ?_; refine zpu 2 102 (zb 25 7) ?_; refine zpu 3 103 (zb 25 15) ?_; refine zpn 4 104 (zb 25 31) ?_; refine zpn 5 105 (zb 25 63) ?_; refine zpn 6 106 (zb 25 127) ?_; refine zpn 7 107 (zb 25 255) ?_; refine zpn 8 108 (zb 25 511) ?_; refine zpn 9 109 (zb 25 1023) ?_; refine zpn 10 110 (zb 25 2047) ?_; exact z90_1
                case rest =>
                 clear HC3; try clear c1
                 try clear p2
                 try clear p6
                 try clear c9
                 try clear c5
                 try clear c12
                 try clear p64
                 try clear c5
                 try clear c5
                 try clear c1b0
                 try clear c1b1
                 try clear c5
                 try clear c5
                 try clear c5
                 try clear c5
                 obtain ⟨kq, x1_84, rfl, HA, HJ1, HO_3, HO_4, HO_1, HO_2, BK1, BK2, BK3, HB⟩ := hcut; cases kq with
                 | zero => exact absurd HA.out (by simp [w9_NetTwice.j3])
                 | succ kj1 =>
                  have H := HA.out; clear HA; simp only [w9_NetTwice.j3] at H; by_cases c5 : x1_84 = true
                  ·subst c5; have H1 : (none) = some r := by rw [if_pos rfl] at H; exact H
                   clear H; have H := H1; clear H1; exact absurd H (by simp)
                  ·replace c5 := Bool.eq_false_iff.mpr c5; subst c5; have H1 : (if t1 = true then ((net_After.f kj1 y5 l0_1 x2_3 l0_3 l0_4 t2 t3).bind fun t4 => ((net_After.f kj1 l0_0 l0_1 l0_2 l0_3 l0_4 t2 t3).bind fun t5 => ((r4_SameInts.f kj1 t4 t5).bind fun t6 => (if t6 = true then ((net_First.f kj1 y5 l0_1 x2_3 l0_3 l0_4).bind fun t7 => ((net_First.f kj1 l0_0 l0_1 l0_2 l0_3 l0_4).bind fun t8 => ((r4_SameInts.f kj1 t7 t8).bind fun t9 => (some t9)))) else (none))))) else (none)) = some r := by rw [if_neg (show ¬ (false = true) by decide)] at H; exact H
                   clear H; have H := H1; clear H1; by_cases c5 : t1 = true
                   ·subst c5; have H1 : ((net_After.f kj1 y5 l0_1 x2_3 l0_3 l0_4 t2 t3).bind fun t4 => ((net_After.f kj1 l0_0 l0_1 l0_2 l0_3 l0_4 t2 t3).bind fun t5 => ((r4_SameInts.f kj1 t4 t5).bind fun t6 => (if t6 = true then ((net_First.f kj1 y5 l0_1 x2_3 l0_3 l0_4).bind fun t7 => ((net_First.f kj1 l0_0 l0_1 l0_2 l0_3 l0_4).bind fun t8 => ((r4_SameInts.f kj1 t7 t8).bind fun t9 => (some t9)))) else (none))))) = some r := by rw [if_pos rfl] at H; exact H
                    clear H; have H := H1; clear H1; replace H := Option.bind_eq_some_iff.mp H; obtain ⟨t4, A1, H⟩ := H; have A4 := aM A1; clear A1; replace H := Option.bind_eq_some_iff.mp H; obtain ⟨t5, A1, H⟩ := H; have A5 := aM A1; clear A1; replace H := Option.bind_eq_some_iff.mp H; obtain ⟨t6, A1, H⟩ := H; have A6 := aM A1; clear A1; by_cases c6 : t6 = true
                    ·subst c6; have H1 : ((net_First.f kj1 y5 l0_1 x2_3 l0_3 l0_4).bind fun t7 => ((net_First.f kj1 l0_0 l0_1 l0_2 l0_3 l0_4).bind fun t8 => ((r4_SameInts.f kj1 t7 t8).bind fun t9 => (some t9)))) = some r := by rw [if_pos rfl] at H; exact H
                     clear H; have H := H1; clear H1; replace H := Option.bind_eq_some_iff.mp H; obtain ⟨t7, A1, H⟩ := H; have A7 := aM A1; clear A1; replace H := Option.bind_eq_some_iff.mp H; obtain ⟨t8, A1, H⟩ := H; have A8 := aM A1; clear A1; replace H := Option.bind_eq_some_iff.mp H; obtain ⟨t9, A1, H⟩ := H; have A9 := aM A1; clear A1; obtain rfl := Option.some.inj H; try go_wp2
                     replace HO_3 := aM (yh HO_3.out); replace HO_4 := aM (yh HO_4.out); replace HO_1 := aM (yh HO_1.out); replace HO_2 := aM (yh HO_2.out); replace BK1 := aM (yc BK1.out); replace BK2 := aM (yc BK2.out); replace BK3 := aM (yc BK3.out); replace HB := aM (yk HB.out); refine start_ (n := 20) (S := fun w' => w'.cell? ⟨gb3, 0, none⟩ = some (.slice Ao1 y5.length co1) ∧ w'.cell? ⟨gb3, 1, none⟩ = some (.slice A0_1 l0_1.length c0_1) ∧ w'.cell? ⟨gb3, 2, none⟩ = some (.slice Ao2 x2_3.length co2) ∧ w'.cell? ⟨gb3, 3, none⟩ = some (.slice A0_3 l0_3.length c0_3) ∧ w'.cell? ⟨gb3, 4, none⟩ = some (.slice A0_4 l0_4.length c0_4) ∧ w'.cell? ⟨gb1, 0, none⟩ = some (.slice (some ad1) l0_0.length c0_0) ∧ w'.cell? ⟨gb1, 1, none⟩ = some (.slice A0_1 l0_1.length c0_1) ∧ w'.cell? ⟨gb1, 2, none⟩ = some (.slice A0_2 l0_2.length c0_2) ∧ w'.cell? ⟨gb1, 3, none⟩ = some (.slice A0_3 l0_3.length c0_3) ∧ w'.cell? ⟨gb1, 4, none⟩ = some (.slice A0_4 l0_4.length c0_4)) (ds := []) (zb 20 0) (by kernel_rfl) rfl rfl ⟨zc BK3 0, zc BK3 1, zc BK3 2, zc BK3 3, zc BK3 4, zc BK1 0, zc BK1 1, zc BK1 2, zc BK1 3, zc BK1 4⟩ (fun hHeld => ?_); refine with_tabW w9_NetTwice.tab20 w9_NetTwice.bits20 (fun HT_ HW_ => ?_); generalize wc.drew = w2 at HO_3 HO_4 HO_1 HO_2 BK1 BK2 BK3 HB hHeld ⊢; refine zpu 0 125 (zb 20 1) ?_; refine zpu 1 126 (zb 20 3) ?_; refine zpu 3 128 (zb 20 11) ?_; refine zpu 4 129 (zb 20 27) ?_; refine zpu 7 132 (zb 20 155) ?_; refine zpu 8 133 (zb 20 411) ?_; refine ztk10 2 127 (zb 20 415) hHeld ?_; refine ztk10 6 131 (zb 20 479) hHeld ?_; refine zon 5 (some 130) (zb 20 511) fun K hK => ?_
                     refine zgo Try.func22 #[.agg #[.slice Ao1 y5.length co1, .slice A0_1 l0_1.length c0_1, .slice Ao2 x2_3.length co2, .slice A0_3 l0_3.length c0_3, .slice A0_4 l0_4.length c0_4], .slice Ao3 t2.length co3, .slice Ao4 t3.length co4] ?_; with_reducible refine (net_After.calls kj1 _ _ y5 _ _ l0_1 _ _ x2_3 _ _ l0_3 _ _ l0_4 _ _ t2 _ _ t3 t4 _ ?side1 ?side2 ?side3 ?side4 ?side5 ?side6 ?side7 ?side8 ?side9 ?side10 ?side11 ?side12 ?side13 ?side14 A4.out).mono ?_
                     (case side1 => exact q9z HO_1)
                     (case side2 => exact q24z HO_1)
                     (case side3 => exact q1z HR1_1 HB)
                     (case side4 => exact HC1_1.out)
                     (case side5 => exact q9z HO_2)
                     (case side6 => exact q24z HO_2)
                     (case side7 => exact q1z HR1_3 HB)
                     (case side8 => exact HC1_3.out)
                     (case side9 => exact q1z HR1_4 HB)
                     (case side10 => exact HC1_4.out)
                     (case side11 => exact q9z HO_3)
                     (case side12 => exact q24z HO_3)
                     (case side13 => exact q9z HO_4)
                     (case side14 => exact q24z HO_4)
                     rintro e w2 ⟨v1, rfl, ho1, hb⟩; refine ⟨_, rfl, ?_⟩; replace HO_1 := aM (yr (q2z HO_1) hb); replace HO_2 := aM (yr (q2z HO_2) hb); have HO1 := aM (Kd.R_lower (Kd.R_new' (Kd.R_new' ho1 (Kd.R_lt (q2z HO_3))) (Kd.R_lt (q2z HO_4))) (yn (q12z HB GE1 GE2 GE3))); replace HO_3 := aM (Kd.R_elder' (q2z HO_3) (Kd.R_base ho1) hb); replace HO_4 := aM (Kd.R_elder' (q2z HO_4) (Kd.R_base ho1) hb); replace BK1 := aM (yi (zi BK1) hb); replace BK2 := aM (yi (zi BK2) hb); replace BK3 := aM (yi (zi BK3) hb); replace HB := aM (ym (q12z HB GE1 GE2 GE3) hb); (try clear hb)
                     (try clear hb2)
                     (try clear hk)
                     (try clear hi)
                     (try clear ho1)
                     refine hK.out _ _ ⟨zc BK3 0, zc BK3 1, zc BK3 2, zc BK3 3, zc BK3 4, zc BK1 0, zc BK1 1, zc BK1 2, zc BK1 3, zc BK1 4⟩ (fun hHeld => ?_); clear hK K; refine zno 130 ?_; refine zon 9 (some 134) (zb 20 1023) fun K hK => ?_
                     refine zgo Try.func22 #[.agg #[.slice (some ad1) l0_0.length c0_0, .slice A0_1 l0_1.length c0_1, .slice A0_2 l0_2.length c0_2, .slice A0_3 l0_3.length c0_3, .slice A0_4 l0_4.length c0_4], .slice Ao3 t2.length co3, .slice Ao4 t3.length co4] ?_; with_reducible refine (net_After.calls kj1 _ _ l0_0 _ _ l0_1 _ _ l0_2 _ _ l0_3 _ _ l0_4 _ _ t2 _ _ t3 t5 _ ?side1 ?side2 ?side3 ?side4 ?side5 ?side6 ?side7 ?side8 ?side9 ?side10 ?side11 ?side12 ?side13 ?side14 A5.out).mono ?_
                     (case side1 => exact q1z HR1_0 HB)
                     (case side2 => exact HC1_0.out)
                     (case side3 => exact q1z HR1_1 HB)
                     (case side4 => exact HC1_1.out)
                     (case side5 => exact q1z HR1_2 HB)
                     (case side6 => exact HC1_2.out)
                     (case side7 => exact q1z HR1_3 HB)
                     (case side8 => exact HC1_3.out)
                     (case side9 => exact q1z HR1_4 HB)
                     (case side10 => exact HC1_4.out)
                     (case side11 => exact q9z HO_3)
                     (case side12 => exact q24z HO_3)
                     (case side13 => exact q9z HO_4)
                     (case side14 => exact q24z HO_4)
                     rintro e w2 ⟨v1, rfl, ho1, hb⟩; refine ⟨_, rfl, ?_⟩; replace HO_1 := aM (yr (q2z HO_1) hb); replace HO_2 := aM (yr (q2z HO_2) hb); have HO2 := aM (Kd.R_lower (Kd.R_new' (Kd.R_new' (Kd.R_new' ho1 (Kd.R_lt (q2z HO_3))) (Kd.R_lt (q2z HO_4))) (Kd.R_lt (q2z HO1))) (yn (q12z HB GE1 GE2 GE3))); replace HO_3 := aM (Kd.R_elder' (q2z HO_3) (Kd.R_base ho1) hb); replace HO_4 := aM (Kd.R_elder' (q2z HO_4) (Kd.R_base ho1) hb); replace HO1 := aM (Kd.R_elder' (q2z HO1) (Kd.R_base ho1) hb); replace BK1 := aM (yi (zi BK1) hb); replace BK2 := aM (yi (zi BK2) hb); replace BK3 := aM (yi (zi BK3) hb); replace HB := aM (ym (q12z HB GE1 GE2 GE3) hb); (try clear hb)
                     (try clear hb2)
                     (try clear hk)
                     (try clear hi)
                     (try clear ho1)
                     obtain ⟨Ao3, co3, eo1⟩ := Kd.R_slice HO1.out; (first | subst eo1 | (injection eo1 with f1_ f2_ f3_; have f4_ := f1_.symm; have f5_ := f3_.symm; clear f1_ f2_ f3_; subst f4_; subst f5_))
                     obtain ⟨Ao4, co4, eo1⟩ := Kd.R_slice HO2.out; (first | subst eo1 | (injection eo1 with f1_ f2_ f3_; have f4_ := f1_.symm; have f5_ := f3_.symm; clear f1_ f2_ f3_; subst f4_; subst f5_))
                     refine hK.out _ _ ⟨zc BK3 0, zc BK3 1, zc BK3 2, zc BK3 3, zc BK3 4, zc BK1 0, zc BK1 1, zc BK1 2, zc BK1 3, zc BK1 4⟩ (fun hHeld => ?_); clear hK K; refine zno 134 ?_; refine zon 10 (some 135) (zb 20 2047) fun K hK => ?_
                     refine zgo Try.func17 #[.slice Ao3 t4.length co3, .slice Ao4 t5.length co4] ?_; with_reducible refine (r4_SameInts.calls kj1 _ _ t4 _ _ t5 true _ ?side1 ?side2 ?side3 ?side4 A6.out).mono ?_
                     (case side1 => exact q9z HO1)
                     (case side2 => exact q24z HO1)
                     (case side3 => exact q9z HO2)
                     (case side4 => exact q24z HO2)
                     rintro e w' ⟨rfl, ⟨nd, rfl⟩⟩; refine ⟨_, rfl, ?_⟩; refine hK.out _ _ ⟨zc BK3 0, zc BK3 1, zc BK3 2, zc BK3 3, zc BK3 4, zc BK1 0, zc BK1 1, zc BK1 2, zc BK1 3, zc BK1 4⟩ (fun hHeld => ?_); clear hK K; refine zno 135 ?_; refine zpu 11 136 (zb 20 4095) ?_; refine zpu 12 137 (zb 20 8191) ?_; refine ztk10 13 138 (zb 20 16383) hHeld ?_; refine ztk10 15 140 (zb 20 49151) hHeld ?_; refine zon 14 (some 139) (zb 20 65535) fun K hK => ?_
                     refine zgo Try.func18 #[.agg #[.slice Ao1 y5.length co1, .slice A0_1 l0_1.length c0_1, .slice Ao2 x2_3.length co2, .slice A0_3 l0_3.length c0_3, .slice A0_4 l0_4.length c0_4]] ?_; with_reducible refine (net_First.calls kj1 _ _ y5 _ _ l0_1 _ _ x2_3 _ _ l0_3 _ _ l0_4 t7 _ ?side1 ?side2 ?side3 ?side4 ?side5 ?side6 ?side7 ?side8 ?side9 ?side10 A7.out).mono ?_
                     (case side1 => exact q9z HO_1)
                     (case side2 => exact q24z HO_1)
                     (case side3 => exact q65z HR1_1 HB GE1 GE2 GE3)
                     (case side4 => exact HC1_1.out)
                     (case side5 => exact q9z HO_2)
                     (case side6 => exact q24z HO_2)
                     (case side7 => exact q65z HR1_3 HB GE1 GE2 GE3)
                     (case side8 => exact HC1_3.out)
                     (case side9 => exact q65z HR1_4 HB GE1 GE2 GE3)
                     (case side10 => exact HC1_4.out)
                     rintro e w2 ⟨v1, rfl, ho1, hb⟩; refine ⟨_, rfl, ?_⟩; replace HO_1 := aM (yr (q2z HO_1) hb); replace HO_2 := aM (yr (q2z HO_2) hb); have HO3 := aM (Kd.R_lower (Kd.R_new' (Kd.R_new' (Kd.R_new' (Kd.R_new' ho1 (Kd.R_lt (q2z HO_3))) (Kd.R_lt (q2z HO_4))) (Kd.R_lt (q2z HO1))) (Kd.R_lt (q2z HO2))) (yn (q12z HB GE1 GE2 GE3))); replace HO_3 := aM (Kd.R_elder' (q2z HO_3) (Kd.R_base ho1) hb); replace HO_4 := aM (Kd.R_elder' (q2z HO_4) (Kd.R_base ho1) hb); replace HO1 := aM (Kd.R_elder' (q2z HO1) (Kd.R_base ho1) hb); replace HO2 := aM (Kd.R_elder' (q2z HO2) (Kd.R_base ho1) hb); replace BK1 := aM (yi (zi BK1) hb); replace BK2 := aM (yi (zi BK2) hb); replace BK3 := aM (yi (zi BK3) hb); replace HB := aM (ym (q12z HB GE1 GE2 GE3) hb); (try clear hb)
                     (try clear hb2)
                     (try clear hk)
                     (try clear hi)
                     (try clear ho1)
                     refine hK.out _ _ ⟨zc BK3 0, zc BK3 1, zc BK3 2, zc BK3 3, zc BK3 4, zc BK1 0, zc BK1 1, zc BK1 2, zc BK1 3, zc BK1 4⟩ (fun hHeld => ?_); clear hK K; refine zno 139 ?_; refine zon 16 (some 141) (zb 20 131071) fun K hK => ?_
                     refine zgo Try.func18 #[.agg #[.slice (some ad1) l0_0.length c0_0, .slice A0_1 l0_1.length c0_1, .slice A0_2 l0_2.length c0_2, .slice A0_3 l0_3.length c0_3, .slice A0_4 l0_4.length c0_4]] ?_; with_reducible refine (net_First.calls kj1 _ _ l0_0 _ _ l0_1 _ _ l0_2 _ _ l0_3 _ _ l0_4 t8 _ ?side1 ?side2 ?side3 ?side4 ?side5 ?side6 ?side7 ?side8 ?side9 ?side10 A8.out).mono ?_
                     (case side1 => exact q1z HR1_0 HB)
                     (case side2 => exact HC1_0.out)
                     (case side3 => exact q1z HR1_1 HB)
                     (case side4 => exact HC1_1.out)
                     (case side5 => exact q1z HR1_2 HB)
                     (case side6 => exact HC1_2.out)
                     (case side7 => exact q1z HR1_3 HB)
                     (case side8 => exact HC1_3.out)
                     (case side9 => exact q1z HR1_4 HB)
                     (case side10 => exact HC1_4.out)
                     rintro e w2 ⟨v1, rfl, ho1, hb⟩; refine ⟨_, rfl, ?_⟩; replace HO_1 := aM (yr (q2z HO_1) hb); replace HO_2 := aM (yr (q2z HO_2) hb); have HO4 := aM (Kd.R_lower (Kd.R_new' (Kd.R_new' (Kd.R_new' (Kd.R_new' (Kd.R_new' ho1 (Kd.R_lt (q2z HO_3))) (Kd.R_lt (q2z HO_4))) (Kd.R_lt (q2z HO1))) (Kd.R_lt (q2z HO2))) (Kd.R_lt (q2z HO3))) (yn (q12z HB GE1 GE2 GE3))); replace HO_3 := aM (Kd.R_elder' (q2z HO_3) (Kd.R_base ho1) hb); replace HO_4 := aM (Kd.R_elder' (q2z HO_4) (Kd.R_base ho1) hb); replace HO1 := aM (Kd.R_elder' (q2z HO1) (Kd.R_base ho1) hb); replace HO2 := aM (Kd.R_elder' (q2z HO2) (Kd.R_base ho1) hb); replace HO3 := aM (Kd.R_elder' (q2z HO3) (Kd.R_base ho1) hb); replace BK1 := aM (yi (zi BK1) hb); replace BK2 := aM (yi (zi BK2) hb); replace BK3 := aM (yi (zi BK3) hb); replace HB := aM (ym (q12z HB GE1 GE2 GE3) hb); (try clear hb)
                     (try clear hb2)
                     (try clear hk)
                     (try clear hi)
                     (try clear ho1)
                     obtain ⟨Ao1, co1, eo1⟩ := Kd.R_slice HO3.out; (first | subst eo1 | (injection eo1 with f1_ f2_ f3_; have f4_ := f1_.symm; have f5_ := f3_.symm; clear f1_ f2_ f3_; subst f4_; subst f5_))
                     obtain ⟨Ao2, co2, eo1⟩ := Kd.R_slice HO4.out; (first | subst eo1 | (injection eo1 with f1_ f2_ f3_; have f4_ := f1_.symm; have f5_ := f3_.symm; clear f1_ f2_ f3_; subst f4_; subst f5_))
                     refine hK.out _ _ ⟨zc BK3 0, zc BK3 1, zc BK3 2, zc BK3 3, zc BK3 4, zc BK1 0, zc BK1 1, zc BK1 2, zc BK1 3, zc BK1 4⟩ (fun hHeld => ?_); clear hK K; refine zno 141 ?_; refine zon 17 (some 142) (zb 20 262143) fun K hK => ?_
                     refine zgo Try.func17 #[.slice Ao1 t7.length co1, .slice Ao2 t8.length co2] ?_; with_reducible refine (r4_SameInts.calls kj1 _ _ t7 _ _ t8 t9 _ ?side1 ?side2 ?side3 ?side4 A9.out).mono ?_
                     (case side1 => exact q9z HO3)
                     (case side2 => exact q24z HO3)
                     (case side3 => exact q9z HO4)
                     (case side4 => exact q24z HO4)
                     rintro e w' ⟨rfl, ⟨nd, rfl⟩⟩; refine ⟨_, rfl, ?_⟩; refine hK.out _ _ ⟨zc BK3 0, zc BK3 1, zc BK3 2, zc BK3 3, zc BK3 4, zc BK1 0, zc BK1 1, zc BK1 2, zc BK1 3, zc BK1 4⟩ (fun hHeld => ?_); clear hK K; refine zno 142 ?_; refine zpu 18 143 (zb 20 524287) ?_; refine zpu 19 8 (zb 20 1048575) ?_; refine zdo ?_; try go_wp2
                     go_ret
                     exact ⟨q53z, q12z HB GE1 GE2 GE3⟩
                    ·replace c6 := Bool.eq_false_iff.mpr c6; subst c6; exact z90_2
                   ·replace c5 := Bool.eq_false_iff.mpr c5; subst c5; exact z90_2
            ·rw [if_neg c15] at H; exact absurd H (by simp)
           ·rw [if_neg c10] at H; exact absurd H (by simp)
          ·rw [if_neg c8] at H; exact absurd H (by simp)
      ·rw [if_neg c14] at H; exact absurd H (by simp)
     ·rw [if_neg c13] at H; exact absurd H (by simp)
end Go.Proofs.Yteblbknmikieoaa.Xb
