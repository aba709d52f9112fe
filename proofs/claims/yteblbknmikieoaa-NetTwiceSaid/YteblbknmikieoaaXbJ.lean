/- Slimmed by this session: what nothing names is struck out. -/
import Derived.Test.YteblbknmikieoaaXb0
import Derived.Test.YteblbknmikieoaaXbZ
import Derived.Test.YteblbknmikieoaaXbF
namespace Go.Proofs.Yteblbknmikieoaa.Xb
open Go.RowKit Go.Proofs.YteblbknmikieoaaW.PrintWords Go.Proofs.YteblbknmikieoaaW.PrintLast Go.Proofs.YteblbknmikieoaaW.PrintMore
attribute [local go_sem] max2_int min2_int max_two min_two max_three min_three max_four min_four
set_option linter.unusedVariables false
set_option linter.unusedSimpArgs false
theorem cells5_70 {w : World} {g : Nat} {t : TypeId} {x0 x1 x2 x3 x4 : Value} (h : w.heap[g]? = some (.cells #[x0, x1, x2, x3, x4] t (0, 0))) : w.cell? ⟨g, 0, none⟩ = some x0 ∧ w.cell? ⟨g, 1, none⟩ = some x1 ∧ w.cell? ⟨g, 2, none⟩ = some x2 ∧ w.cell? ⟨g, 3, none⟩ = some x3 ∧ w.cell? ⟨g, 4, none⟩ = some x4 ∧ w.frozen? ⟨g, 0, none⟩ = false ∧ w.frozen? ⟨g, 1, none⟩ = false ∧ w.frozen? ⟨g, 2, none⟩ = false ∧ w.frozen? ⟨g, 3, none⟩ = false ∧ w.frozen? ⟨g, 4, none⟩ = false := ⟨(blk_cell h 0).trans rfl, (blk_cell h 1).trans rfl, (blk_cell h 2).trans rfl, (blk_cell h 3).trans rfl, (blk_cell h 4).trans rfl, blk_frozen h 0, blk_frozen h 1, blk_frozen h 2, blk_frozen h 3, blk_frozen h 4⟩
theorem cells7_70 {w : World} {g : Nat} {t : TypeId} {x0 x1 x2 x3 x4 x5 x6 : Value} (h : w.heap[g]? = some (.cells #[x0, x1, x2, x3, x4, x5, x6] t (0, 0))) : w.cell? ⟨g, 0, none⟩ = some x0 ∧ w.cell? ⟨g, 1, none⟩ = some x1 ∧ w.cell? ⟨g, 2, none⟩ = some x2 ∧ w.cell? ⟨g, 3, none⟩ = some x3 ∧ w.cell? ⟨g, 4, none⟩ = some x4 ∧ w.cell? ⟨g, 5, none⟩ = some x5 ∧ w.cell? ⟨g, 6, none⟩ = some x6 ∧ w.frozen? ⟨g, 0, none⟩ = false ∧ w.frozen? ⟨g, 1, none⟩ = false ∧ w.frozen? ⟨g, 2, none⟩ = false ∧ w.frozen? ⟨g, 3, none⟩ = false ∧ w.frozen? ⟨g, 4, none⟩ = false ∧ w.frozen? ⟨g, 5, none⟩ = false ∧ w.frozen? ⟨g, 6, none⟩ = false := ⟨(blk_cell h 0).trans rfl, (blk_cell h 1).trans rfl, (blk_cell h 2).trans rfl, (blk_cell h 3).trans rfl, (blk_cell h 4).trans rfl, (blk_cell h 5).trans rfl, (blk_cell h 6).trans rfl, blk_frozen h 0, blk_frozen h 1, blk_frozen h 2, blk_frozen h 3, blk_frozen h 4, blk_frozen h 5, blk_frozen h 6⟩
mutual
def r9_fits.j0 : Nat → Int → Int → Int → Bool → Int → Int → Int → Int → Int → Int → Int → Option (Bool)
 | 0, _, _, _, _, _, _, _, _, _, _, _ => none
 | k + 1, x6, x7, x8, x9, x364000, x364001, x364002, x364003, x364004, x364005, x364006 => if x364000 = 1 then (if x364005 ≥ 0 then ((r8_Mask.f x364001).bind fun t367 => (if x364005 ≤ t367 then (some (x364006 == 0)) else (some false))) else (some false)) else (if x364000 = 21 then (r9_fits.j1 k x6 x7 x8 x9 x364000 (x364000 == 21) x364000 x364001 x364002 x364003 x364004 x364005 x364006) else (r9_fits.j1 k x6 x7 x8 x9 x364000 (x364000 == 22) x364000 x364001 x364002 x364003 x364004 x364005 x364006))
def r9_fits.j1 : Nat → Int → Int → Int → Bool → Int → Bool → Int → Int → Int → Int → Int → Int → Int → Option (Bool)
 | 0, _, _, _, _, _, _, _, _, _, _, _, _, _ => none
 | k + 1, x6, x7, x8, x9, x39, x58, x364000, x364001, x364002, x364003, x364004, x364005, x364006 => if x58 = true then (some x9) else (if x39 = 3 then (if x9 = true then (some (x6 == x364001)) else (some false)) else (if x39 = 4 then (r9_fits.j2 k x6 x7 x8 x9 x39 (x39 == 4) x364000 x364001 x364002 x364003 x364004 x364005 x364006) else (r9_fits.j2 k x6 x7 x8 x9 x39 (x39 == 5) x364000 x364001 x364002 x364003 x364004 x364005 x364006)))
def r9_fits.j2 : Nat → Int → Int → Int → Bool → Int → Bool → Int → Int → Int → Int → Int → Int → Int → Option (Bool)
 | 0, _, _, _, _, _, _, _, _, _, _, _, _, _ => none
 | k + 1, x6, x7, x8, x9, x39, x71, x364000, x364001, x364002, x364003, x364004, x364005, x364006 => if x71 = true then (if x364005 = 0 then (if x364001 = 1 then (if x6 = x364006 then (some (decide (x6 > 0))) else (some false)) else (some false)) else (some false)) else (if x39 = 6 then (r9_fits.j3 k x6 x7 x8 x9 x39 (x39 == 6) x364000 x364001 x364002 x364003 x364004 x364005 x364006) else (if x39 = 7 then (r9_fits.j3 k x6 x7 x8 x9 x39 (x39 == 7) x364000 x364001 x364002 x364003 x364004 x364005 x364006) else (if x39 = 8 then (r9_fits.j3 k x6 x7 x8 x9 x39 (x39 == 8) x364000 x364001 x364002 x364003 x364004 x364005 x364006) else (if x39 = 9 then (r9_fits.j3 k x6 x7 x8 x9 x39 (x39 == 9) x364000 x364001 x364002 x364003 x364004 x364005 x364006) else (if x39 = 10 then (r9_fits.j3 k x6 x7 x8 x9 x39 (x39 == 10) x364000 x364001 x364002 x364003 x364004 x364005 x364006) else (r9_fits.j3 k x6 x7 x8 x9 x39 (x39 == 11) x364000 x364001 x364002 x364003 x364004 x364005 x364006))))))
def r9_fits.j3 : Nat → Int → Int → Int → Bool → Int → Bool → Int → Int → Int → Int → Int → Int → Int → Option (Bool)
 | 0, _, _, _, _, _, _, _, _, _, _, _, _, _ => none
 | k + 1, x6, x7, x8, x9, x39, x92, x364000, x364001, x364002, x364003, x364004, x364005, x364006 => if x92 = true then (if x9 = true then (if x6 = x364001 then (some (x7 == x364001)) else (some false)) else (some false)) else (if x39 = 12 then (r9_fits.j4 k x6 x7 x8 x9 x39 (x39 == 12) x364000 x364001 x364002 x364003 x364004 x364005 x364006) else (if x39 = 13 then (r9_fits.j4 k x6 x7 x8 x9 x39 (x39 == 13) x364000 x364001 x364002 x364003 x364004 x364005 x364006) else (if x39 = 14 then (r9_fits.j4 k x6 x7 x8 x9 x39 (x39 == 14) x364000 x364001 x364002 x364003 x364004 x364005 x364006) else (r9_fits.j4 k x6 x7 x8 x9 x39 (x39 == 15) x364000 x364001 x364002 x364003 x364004 x364005 x364006))))
def r9_fits.j4 : Nat → Int → Int → Int → Bool → Int → Bool → Int → Int → Int → Int → Int → Int → Int → Option (Bool)
 | 0, _, _, _, _, _, _, _, _, _, _, _, _, _ => none
 | k + 1, x6, x7, x8, x9, x39, x112, x364000, x364001, x364002, x364003, x364004, x364005, x364006 => if x112 = true then (if x364005 = 0 then (if x364001 = 1 then (if x6 = x364006 then (if x7 = x364006 then (some (decide (x6 > 0))) else (some false)) else (some false)) else (some false)) else (some false)) else (if x39 = 16 then (if x9 = true then (if x6 = 1 then (if x7 = x364001 then (some (x8 == x364001)) else (some false)) else (some false)) else (some false)) else (if x39 = 17 then (if x9 = true then (if x6 > 0 then (if x7 > 0 then (some ((wrap64 (x6 + x7)) == x364001)) else (some false)) else (some false)) else (some false)) else (if x364006 ≥ 0 then (if x364006 ≤ x364005 then (if x364005 < x6 then (some (x364001 == (wrap64 ((wrap64 (x364005 - x364006)) + 1)))) else (some false)) else (some false)) else (some false))))
end
def r9_fits.f (k : Nat) (l0_0 : List (S41)) (l0_1 : List (S47)) (l0_2 : List (S43)) (l0_3 : List (S61)) (l0_4 : List (S47)) (a1 : Int) : Option (Bool) := if 0 ≤ a1 then (if a1 < (l0_0.length : Int) then ((r9_wide.f l0_0 l0_1 l0_2 l0_3 l0_4 ((rd_T41 l0_0 a1).f2) a1).bind fun t364 => ((r9_wide.f l0_0 l0_1 l0_2 l0_3 l0_4 ((rd_T41 l0_0 a1).f3) a1).bind fun t365 => ((r9_wide.f l0_0 l0_1 l0_2 l0_3 l0_4 ((rd_T41 l0_0 a1).f4) a1).bind fun t366 => (if ((rd_T41 l0_0 a1).f5) = 0 then (r9_fits.j0 k t364 t365 t366 (((rd_T41 l0_0 a1).f6) == 0) ((rd_T41 l0_0 a1).f0) ((rd_T41 l0_0 a1).f1) ((rd_T41 l0_0 a1).f2) ((rd_T41 l0_0 a1).f3) ((rd_T41 l0_0 a1).f4) ((rd_T41 l0_0 a1).f5) ((rd_T41 l0_0 a1).f6)) else (r9_fits.j0 k t364 t365 t366 false ((rd_T41 l0_0 a1).f0) ((rd_T41 l0_0 a1).f1) ((rd_T41 l0_0 a1).f2) ((rd_T41 l0_0 a1).f3) ((rd_T41 l0_0 a1).f4) ((rd_T41 l0_0 a1).f5) ((rd_T41 l0_0 a1).f6)))))) else (none)) else (none)
theorem r9_fits.mono_l : ∀ k, (∀ y0 y1 y2 y3 y4 y5 y6 y7 y8 y9 y10, LeO (r9_fits.j0 k y0 y1 y2 y3 y4 y5 y6 y7 y8 y9 y10) (r9_fits.j0 (k + 1) y0 y1 y2 y3 y4 y5 y6 y7 y8 y9 y10)) ∧ (∀ y0 y1 y2 y3 y4 y5 y6 y7 y8 y9 y10 y11 y12, LeO (r9_fits.j1 k y0 y1 y2 y3 y4 y5 y6 y7 y8 y9 y10 y11 y12) (r9_fits.j1 (k + 1) y0 y1 y2 y3 y4 y5 y6 y7 y8 y9 y10 y11 y12)) ∧ (∀ y0 y1 y2 y3 y4 y5 y6 y7 y8 y9 y10 y11 y12, LeO (r9_fits.j2 k y0 y1 y2 y3 y4 y5 y6 y7 y8 y9 y10 y11 y12) (r9_fits.j2 (k + 1) y0 y1 y2 y3 y4 y5 y6 y7 y8 y9 y10 y11 y12)) ∧ (∀ y0 y1 y2 y3 y4 y5 y6 y7 y8 y9 y10 y11 y12, LeO (r9_fits.j3 k y0 y1 y2 y3 y4 y5 y6 y7 y8 y9 y10 y11 y12) (r9_fits.j3 (k + 1) y0 y1 y2 y3 y4 y5 y6 y7 y8 y9 y10 y11 y12)) ∧ (∀ y0 y1 y2 y3 y4 y5 y6 y7 y8 y9 y10 y11 y12, LeO (r9_fits.j4 k y0 y1 y2 y3 y4 y5 y6 y7 y8 y9 y10 y11 y12) (r9_fits.j4 (k + 1) y0 y1 y2 y3 y4 y5 y6 y7 y8 y9 y10 y11 y12))
 | 0 => ⟨fun _ _ _ _ _ _ _ _ _ _ _ r h => by simp [r9_fits.j0] at h, fun _ _ _ _ _ _ _ _ _ _ _ _ _ r h => by simp [r9_fits.j1] at h, fun _ _ _ _ _ _ _ _ _ _ _ _ _ r h => by simp [r9_fits.j2] at h, fun _ _ _ _ _ _ _ _ _ _ _ _ _ r h => by simp [r9_fits.j3] at h, fun _ _ _ _ _ _ _ _ _ _ _ _ _ r h => by simp [r9_fits.j4] at h⟩
 | k + 1 => by
  obtain ⟨ih0, ih1, ih2, ih3, ih4⟩ := r9_fits.mono_l k; refine ⟨?_, ?_, ?_, ?_, ?_⟩
  ·intro y0 y1 y2 y3 y4 y5 y6 y7 y8 y9 y10
   unfold r9_fits.j0
   repeat' first
   | (with_reducible exact ih0 _ _ _ _ _ _ _ _ _ _ _)
   | (with_reducible exact ih1 _ _ _ _ _ _ _ _ _ _ _ _ _)
   | (with_reducible exact ih2 _ _ _ _ _ _ _ _ _ _ _ _ _)
   | (with_reducible exact ih3 _ _ _ _ _ _ _ _ _ _ _ _ _)
   | (with_reducible exact ih4 _ _ _ _ _ _ _ _ _ _ _ _ _)
   | (with_reducible exact LeO.refl _)
   | (with_reducible exact LeO.none _)
   | (with_reducible refine LeO.ite ?_ ?_)
   | (with_reducible refine LeO.bind ?_ (fun _ => ?_))
   | exact ih0 _ _ _ _ _ _ _ _ _ _ _
   | exact ih1 _ _ _ _ _ _ _ _ _ _ _ _ _
   | exact ih2 _ _ _ _ _ _ _ _ _ _ _ _ _
   | exact ih3 _ _ _ _ _ _ _ _ _ _ _ _ _
   | exact ih4 _ _ _ _ _ _ _ _ _ _ _ _ _
   | exact LeO.none _
   | refine LeO.ite ?_ ?_
   | refine LeO.bind ?_ (fun _ => ?_)
  ·intro y0 y1 y2 y3 y4 y5 y6 y7 y8 y9 y10 y11 y12
   unfold r9_fits.j1
   repeat' first
   | (with_reducible exact ih0 _ _ _ _ _ _ _ _ _ _ _)
   | (with_reducible exact ih1 _ _ _ _ _ _ _ _ _ _ _ _ _)
   | (with_reducible exact ih2 _ _ _ _ _ _ _ _ _ _ _ _ _)
   | (with_reducible exact ih3 _ _ _ _ _ _ _ _ _ _ _ _ _)
   | (with_reducible exact ih4 _ _ _ _ _ _ _ _ _ _ _ _ _)
   | (with_reducible exact LeO.refl _)
   | (with_reducible exact LeO.none _)
   | (with_reducible refine LeO.ite ?_ ?_)
   | (with_reducible refine LeO.bind ?_ (fun _ => ?_))
   | exact ih0 _ _ _ _ _ _ _ _ _ _ _
   | exact ih1 _ _ _ _ _ _ _ _ _ _ _ _ _
   | exact ih2 _ _ _ _ _ _ _ _ _ _ _ _ _
   | exact ih3 _ _ _ _ _ _ _ _ _ _ _ _ _
   | exact ih4 _ _ _ _ _ _ _ _ _ _ _ _ _
   | exact LeO.none _
   | refine LeO.ite ?_ ?_
   | refine LeO.bind ?_ (fun _ => ?_)
  ·intro y0 y1 y2 y3 y4 y5 y6 y7 y8 y9 y10 y11 y12
   unfold r9_fits.j2
   repeat' first
   | (with_reducible exact ih0 _ _ _ _ _ _ _ _ _ _ _)
   | (with_reducible exact ih1 _ _ _ _ _ _ _ _ _ _ _ _ _)
   | (with_reducible exact ih2 _ _ _ _ _ _ _ _ _ _ _ _ _)
   | (with_reducible exact ih3 _ _ _ _ _ _ _ _ _ _ _ _ _)
   | (with_reducible exact ih4 _ _ _ _ _ _ _ _ _ _ _ _ _)
   | (with_reducible exact LeO.refl _)
   | (with_reducible exact LeO.none _)
   | (with_reducible refine LeO.ite ?_ ?_)
   | (with_reducible refine LeO.bind ?_ (fun _ => ?_))
   | exact ih0 _ _ _ _ _ _ _ _ _ _ _
   | exact ih1 _ _ _ _ _ _ _ _ _ _ _ _ _
   | exact ih2 _ _ _ _ _ _ _ _ _ _ _ _ _
   | exact ih3 _ _ _ _ _ _ _ _ _ _ _ _ _
   | exact ih4 _ _ _ _ _ _ _ _ _ _ _ _ _
   | exact LeO.none _
   | refine LeO.ite ?_ ?_
   | refine LeO.bind ?_ (fun _ => ?_)
  ·intro y0 y1 y2 y3 y4 y5 y6 y7 y8 y9 y10 y11 y12
   unfold r9_fits.j3
   repeat' first
   | (with_reducible exact ih0 _ _ _ _ _ _ _ _ _ _ _)
   | (with_reducible exact ih1 _ _ _ _ _ _ _ _ _ _ _ _ _)
   | (with_reducible exact ih2 _ _ _ _ _ _ _ _ _ _ _ _ _)
   | (with_reducible exact ih3 _ _ _ _ _ _ _ _ _ _ _ _ _)
   | (with_reducible exact ih4 _ _ _ _ _ _ _ _ _ _ _ _ _)
   | (with_reducible exact LeO.refl _)
   | (with_reducible exact LeO.none _)
   | (with_reducible refine LeO.ite ?_ ?_)
   | (with_reducible refine LeO.bind ?_ (fun _ => ?_))
   | exact ih0 _ _ _ _ _ _ _ _ _ _ _
   | exact ih1 _ _ _ _ _ _ _ _ _ _ _ _ _
   | exact ih2 _ _ _ _ _ _ _ _ _ _ _ _ _
   | exact ih3 _ _ _ _ _ _ _ _ _ _ _ _ _
   | exact ih4 _ _ _ _ _ _ _ _ _ _ _ _ _
   | exact LeO.none _
   | refine LeO.ite ?_ ?_
   | refine LeO.bind ?_ (fun _ => ?_)
  ·intro y0 y1 y2 y3 y4 y5 y6 y7 y8 y9 y10 y11 y12
   unfold r9_fits.j4
   repeat' first
   | (with_reducible exact ih0 _ _ _ _ _ _ _ _ _ _ _)
   | (with_reducible exact ih1 _ _ _ _ _ _ _ _ _ _ _ _ _)
   | (with_reducible exact ih2 _ _ _ _ _ _ _ _ _ _ _ _ _)
   | (with_reducible exact ih3 _ _ _ _ _ _ _ _ _ _ _ _ _)
   | (with_reducible exact ih4 _ _ _ _ _ _ _ _ _ _ _ _ _)
   | (with_reducible exact LeO.refl _)
   | (with_reducible exact LeO.none _)
   | (with_reducible refine LeO.ite ?_ ?_)
   | (with_reducible refine LeO.bind ?_ (fun _ => ?_))
   | exact ih0 _ _ _ _ _ _ _ _ _ _ _
   | exact ih1 _ _ _ _ _ _ _ _ _ _ _ _ _
   | exact ih2 _ _ _ _ _ _ _ _ _ _ _ _ _
   | exact ih3 _ _ _ _ _ _ _ _ _ _ _ _ _
   | exact ih4 _ _ _ _ _ _ _ _ _ _ _ _ _
   | exact LeO.none _
   | refine LeO.ite ?_ ?_
   | refine LeO.bind ?_ (fun _ => ?_)
theorem r9_fits.mono : ∀ a0 a1 a2 a3 a4 a5 k, LeO (r9_fits.f k a0 a1 a2 a3 a4 a5) (r9_fits.f (k + 1) a0 a1 a2 a3 a4 a5) := by
 intro a0 a1 a2 a3 a4 a5 k
 obtain ⟨ih1, ih2, ih3, ih4, ih5⟩ := r9_fits.mono_l k; unfold r9_fits.f
 repeat' first
   | (with_reducible exact ih1 _ _ _ _ _ _ _ _ _ _ _)
   | (with_reducible exact ih2 _ _ _ _ _ _ _ _ _ _ _ _ _)
   | (with_reducible exact ih3 _ _ _ _ _ _ _ _ _ _ _ _ _)
   | (with_reducible exact ih4 _ _ _ _ _ _ _ _ _ _ _ _ _)
   | (with_reducible exact ih5 _ _ _ _ _ _ _ _ _ _ _ _ _)
   | (with_reducible exact LeO.refl _)
   | (with_reducible exact LeO.none _)
   | (with_reducible refine LeO.ite ?_ ?_)
   | (with_reducible refine LeO.bind ?_ (fun _ => ?_))
   | exact ih1 _ _ _ _ _ _ _ _ _ _ _
   | exact ih2 _ _ _ _ _ _ _ _ _ _ _ _ _
   | exact ih3 _ _ _ _ _ _ _ _ _ _ _ _ _
   | exact ih4 _ _ _ _ _ _ _ _ _ _ _ _ _
   | exact ih5 _ _ _ _ _ _ _ _ _ _ _ _ _
   | exact LeO.none _
   | refine LeO.ite ?_ ?_
   | refine LeO.bind ?_ (fun _ => ?_)
theorem z70_1 {P : Prop} (h : P := by
 clear c11; obtain rfl := Option.some.inj H; have hnb1 := NB1_361.out; have hnc1 := NB1_363.out; obtain ⟨i10_0, i10_1, i10_2, i10_3, i10_4, i6_5, i6_6, j10_0, j10_1, j10_2, j10_3, j10_4, j6_5, j6_6⟩ := cells7_70 BK2.out; go_wp2_with (first | (go_at_call 24; (with_reducible refine (r8_Mask.calls ((rd_T41 l0_0 a1).f1) t4 _ A2.out).mono ?_); rintro e w' ⟨rfl, ⟨nd, rfl⟩⟩; (try first | exact ⟨rfl, _, World.drewN_drewN _ _ _⟩ | exact ⟨rfl, _, Eq.trans (World.drewN_drewN _ _ _) (congrArg (World.drewN _) (Nat.add_assoc _ _ _))⟩)))
 repeat (go_quiet (first | (go_at_call 24; (with_reducible refine (r8_Mask.calls ((rd_T41 l0_0 a1).f1) t4 _ A2.out).mono ?_); rintro e w' ⟨rfl, ⟨nd, rfl⟩⟩; (try first | exact ⟨rfl, _, World.drewN_drewN _ _ _⟩ | exact ⟨rfl, _, Eq.trans (World.drewN_drewN _ _ _) (congrArg (World.drewN _) (Nat.add_assoc _ _ _))⟩))); try go_wp2_with (first | (go_at_call 24; (with_reducible refine (r8_Mask.calls ((rd_T41 l0_0 a1).f1) t4 _ A2.out).mono ?_); rintro e w' ⟨rfl, ⟨nd, rfl⟩⟩; (try first | exact ⟨rfl, _, World.drewN_drewN _ _ _⟩ | exact ⟨rfl, _, Eq.trans (World.drewN_drewN _ _ _) (congrArg (World.drewN _) (Nat.add_assoc _ _ _))⟩))))
 go_ret
 exact ⟨q11z, q5z HB GE1 GE2⟩) : P := h
theorem z70_12 {P : Prop} (h : P := by
 go_wp2
 repeat (go_quiet (fail); try go_wp2)
 go_ret
 exact ⟨q11z, q5z HB GE1 GE2⟩) : P := h
theorem z70_11 {P : Prop} (h : P := by
 obtain rfl := Option.some.inj H; exact z70_12) : P := h
theorem z70_10 {P : Prop} (h : P := by
 clear H; have H := H1; clear H1; exact z70_11) : P := h
theorem z70_9 {P : Prop} (h : P := by
 have H1 : (some false) = some r := by rw [if_neg (show ¬ (false = true) by decide)] at H; exact H
 exact z70_10) : P := h
theorem z70_4 {P : Prop} (h : P := by
 obtain rfl := Option.some.inj H; have hnb1 := NB1_361.out; have hnc1 := NB1_363.out; obtain ⟨i15_0, i15_1, i15_2, i15_3, i15_4, i11_5, i11_6, j15_0, j15_1, j15_2, j15_3, j15_4, j11_5, j11_6⟩ := cells7_70 BK2.out; exact z70_12) : P := h
theorem z70_3 {P : Prop} (h : P := by
 obtain rfl := Option.some.inj H; have hnb1 := NB1_361.out; have hnc1 := NB1_363.out; obtain ⟨i19_0, i19_1, i19_2, i19_3, i19_4, i15_5, i15_6, j19_0, j19_1, j19_2, j19_3, j19_4, j15_5, j15_6⟩ := cells7_70 BK2.out; exact z70_12) : P := h
theorem z70_8 {P : Prop} (h : P := by
 obtain rfl := Option.some.inj H; have hnb1 := NB1_361.out; have hnc1 := NB1_363.out; obtain ⟨i1_0, i1_1, i1_2, i1_3, i1_4, i1_5, i1_6, j1_0, j1_1, j1_2, j1_3, j1_4, j1_5, j1_6⟩ := cells7_70 BK2.out; exact z70_12) : P := h
theorem z70_2 {P : Prop} (h : P := by
 rw [if_neg c11] at H; obtain ⟨c1b0, c1b1⟩ := zne c11; exact z70_8) : P := h
theorem z70_6 {P : Prop} (h : P := by
 clear c11; exact z70_8) : P := h
theorem z70_5 {P : Prop} (h : P := by
 replace c9 := Bool.eq_false_iff.mpr c9; subst c9; exact z70_9) : P := h
theorem z70_7 {P : Prop} (h : P := by
 clear c10; exact z70_8) : P := h
set_option maxHeartbeats 8000000 in
set_option maxRecDepth 100000 in
theorem r9_fits.calls (k : Nat) (A0_0 : Option Addr) (c0_0 : Nat) (l0_0 : List (S41)) (A0_1 : Option Addr) (c0_1 : Nat) (l0_1 : List (S47)) (A0_2 : Option Addr) (c0_2 : Nat) (l0_2 : List (S43)) (A0_3 : Option Addr) (c0_3 : Nat) (l0_3 : List (S61)) (A0_4 : Option Addr) (c0_4 : Nat) (l0_4 : List (S47)) (a1 : Int) (r : Bool) (w : World) (hr0_0 : Kd.C k41 w A0_0 l0_0.length l0_0) (hc0_0 : l0_0.length ≤ c0_0) (hr0_1 : Kd.C k47 w A0_1 l0_1.length l0_1) (hc0_1 : l0_1.length ≤ c0_1) (hr0_2 : Kd.C k43 w A0_2 l0_2.length l0_2) (hc0_2 : l0_2.length ≤ c0_2) (hr0_3 : Kd.C k61 w A0_3 l0_3.length l0_3) (hc0_3 : l0_3.length ≤ c0_3) (hr0_4 : Kd.C k47 w A0_4 l0_4.length l0_4) (hc0_4 : l0_4.length ≤ c0_4) (h : r9_fits.f k l0_0 l0_1 l0_2 l0_3 l0_4 a1 = some r) :
  Calls Try.prog 52 #[.agg #[.slice A0_0 l0_0.length c0_0, .slice A0_1 l0_1.length c0_1, .slice A0_2 l0_2.length c0_2, .slice A0_3 l0_3.length c0_3, .slice A0_4 l0_4.length c0_4], .int .i64 a1] w fun e w' => e = .returned (.bool r) ∧ Below w.heap.size w w' := by
 have hu1 := Try.underlying27; have hu1 := Try.underlying41; have HR1_0 := aM hr0_0; have HC1_0 := aM hc0_0; clear hr0_0 hc0_0; have HR1_1 := aM hr0_1; have HC1_1 := aM hc0_1; clear hr0_1 hc0_1; have HR1_2 := aM hr0_2; have HC1_2 := aM hc0_2; clear hr0_2 hc0_2; have HR1_3 := aM hr0_3; have HC1_3 := aM hc0_3; clear hr0_3 hc0_3; have HR1_4 := aM hr0_4; have HC1_4 := aM hc0_4; clear hr0_4 hc0_4; have HB := aM (Below.refl w.heap.size w); have H : (if 0 ≤ a1 then (if a1 < (l0_0.length : Int) then ((r9_wide.f l0_0 l0_1 l0_2 l0_3 l0_4 ((rd_T41 l0_0 a1).f2) a1).bind fun t1 => ((r9_wide.f l0_0 l0_1 l0_2 l0_3 l0_4 ((rd_T41 l0_0 a1).f3) a1).bind fun t2 => ((r9_wide.f l0_0 l0_1 l0_2 l0_3 l0_4 ((rd_T41 l0_0 a1).f4) a1).bind fun t3 => (if ((rd_T41 l0_0 a1).f5) = 0 then (r9_fits.j0 k t1 t2 t3 (((rd_T41 l0_0 a1).f6) == 0) ((rd_T41 l0_0 a1).f0) ((rd_T41 l0_0 a1).f1) ((rd_T41 l0_0 a1).f2) ((rd_T41 l0_0 a1).f3) ((rd_T41 l0_0 a1).f4) ((rd_T41 l0_0 a1).f5) ((rd_T41 l0_0 a1).f6)) else (r9_fits.j0 k t1 t2 t3 false ((rd_T41 l0_0 a1).f0) ((rd_T41 l0_0 a1).f1) ((rd_T41 l0_0 a1).f2) ((rd_T41 l0_0 a1).f3) ((rd_T41 l0_0 a1).f4) ((rd_T41 l0_0 a1).f5) ((rd_T41 l0_0 a1).f6)))))) else (none)) else (none)) = some r := h; clear h; by_cases c3 : 0 ≤ a1
 ·rw [if_pos c3] at H; have c1b0 := decide_eq_true c3; clear c3; by_cases c4 : a1 < (l0_0.length : Int)
  ·rw [if_pos c4] at H; have c2b0 := decide_eq_true c4; clear c4; replace H := Option.bind_eq_some_iff.mp H; obtain ⟨t1, A1, H⟩ := H; have A2 := aM A1; clear A1; replace H := Option.bind_eq_some_iff.mp H; obtain ⟨t2, A1, H⟩ := H; have A3 := aM A1; clear A1; replace H := Option.bind_eq_some_iff.mp H; obtain ⟨t3, A1, H⟩ := H; have A4 := aM A1; clear A1; have HC1 := aM H; clear H; go_enter Try.func52, Try.ntmps52
   go_upto_region 5 with (first | ((with_reducible refine zgd 2 rfl ?_); refine zbox 2 #[.slice A0_0 l0_0.length c0_0, .slice A0_1 l0_1.length c0_1, .slice A0_2 l0_2.length c0_2, .slice A0_3 l0_3.length c0_3, .slice A0_4 l0_4.length c0_4] 27 ?_; intro gb1 hg w1 hbox hb; have BK1 := aM (hbox); have GW1 := aM ((q7z HB : w.heap.size ≤ gb1)); have GE1 := aM ((q7z HB : w.heap.size ≤ gb1)); replace HB := aM (ym (q4z HB) hb); clear hb hbox hg; obtain ⟨i1_0, i1_1, i1_2, i1_3, i1_4, j1_0, j1_1, j1_2, j1_3, j1_4⟩ := cells5_70 BK1.out; have p1 : 0 ≤ (a1 : Int) := zod; have q1 : a1 < (l0_0.length : Int) := zod; obtain ⟨ad1, e1, hx1_0, hx1_1, hx1_2, hx1_3, hx1_4, hx1_5, hx1_6⟩ := at_T41 HR1_0.out a1 p1 q1; cases e1; replace hx1_0 := zx HB hx1_0; replace hx1_1 := zx HB hx1_1; replace hx1_2 := zx HB hx1_2; replace hx1_3 := zx HB hx1_3; replace hx1_4 := zx HB hx1_4; replace hx1_5 := zx HB hx1_5; replace hx1_6 := zx HB hx1_6; replace p1 := eq_true p1; replace q1 := eq_true q1) | ((with_reducible refine zgd 5 rfl ?_); refine zbox 5 #[.int .i64 0, .int .i64 0, .int .i64 0, .int .i64 0, .int .i64 0, .int .i64 0, .int .i64 0] 41 ?_; intro gb2 hg w2 hbox hb; have BK2 := aM (hbox); have GW2 := aM ((q14z HB GE1 : w.heap.size ≤ gb2)); have GE2 := aM ((q14z HB GE1 : w.heap.size ≤ gb2)); replace HB := aM (ym (q3z HB GE1) hb); have NB1_363 := aM ((q38z BK1 : gb1 ≠ gb2)); have NB1_361 := aM ((q39z BK1 : gb2 ≠ gb1)); replace BK1 := aM (yi (zi BK1) hb); clear hb hbox hg; have hnb1 := NB1_361.out; have hnc1 := NB1_363.out; obtain ⟨i2_0, i2_1, i2_2, i2_3, i2_4, i1_5, i1_6, j2_0, j2_1, j2_2, j2_3, j2_4, j1_5, j1_6⟩ := cells7_70 BK2.out; obtain ⟨i3_0, i3_1, i3_2, i3_3, i3_4, j3_0, j3_1, j3_2, j3_3, j3_4⟩ := cells5_70 BK1.out) | (go_at_call 53; (with_reducible refine (r9_wide.calls _ _ l0_0 _ _ l0_1 _ _ l0_2 _ _ l0_3 _ _ l0_4 ((rd_T41 l0_0 a1).f2) a1 t1 _ ?side1 ?side2 ?side3 ?side4 ?side5 ?side6 ?side7 ?side8 ?side9 ?side10 A2.out).mono ?_); (case side1 => exact q18z HR1_0 HB GE1 GE2); (case side2 => exact HC1_0.out); (case side3 => exact q18z HR1_1 HB GE1 GE2); (case side4 => exact HC1_1.out); (case side5 => exact q18z HR1_2 HB GE1 GE2); (case side6 => exact HC1_2.out); (case side7 => exact q18z HR1_3 HB GE1 GE2); (case side8 => exact HC1_3.out); (case side9 => exact q18z HR1_4 HB GE1 GE2); (case side10 => exact HC1_4.out); rintro e w3 ⟨rfl, hb⟩; replace BK1 := aM (yi (g := gb1) (o := .cells #[.slice (some ad1) l0_0.length c0_0, .slice A0_1 l0_1.length c0_1, .slice A0_2 l0_2.length c0_2, .slice A0_3 l0_3.length c0_3, .slice A0_4 l0_4.length c0_4] 27 (0, 0)) (q8z NB1_363 BK1) hb); replace BK2 := aM (yi (g := gb2) (o := .cells #[.int .i64 ((rd_T41 l0_0 a1).f0), .int .i64 ((rd_T41 l0_0 a1).f1), .int .i64 ((rd_T41 l0_0 a1).f2), .int .i64 ((rd_T41 l0_0 a1).f3), .int .i64 ((rd_T41 l0_0 a1).f4), .int .i64 ((rd_T41 l0_0 a1).f5), .int .i64 ((rd_T41 l0_0 a1).f6)] 41 (0, 0)) (q6z BK2) hb); replace HB := aM (ym (q5z HB GE1 GE2) hb); (try clear hb); (try clear hb2); (try clear hk); (try clear hi); obtain ⟨i4_0, i4_1, i4_2, i4_3, i4_4, j4_0, j4_1, j4_2, j4_3, j4_4⟩ := cells5_70 BK1.out; obtain ⟨i5_0, i5_1, i5_2, i5_3, i5_4, i2_5, i2_6, j5_0, j5_1, j5_2, j5_3, j5_4, j2_5, j2_6⟩ := cells7_70 BK2.out) | (go_at_call 53; (with_reducible refine (r9_wide.calls _ _ l0_0 _ _ l0_1 _ _ l0_2 _ _ l0_3 _ _ l0_4 ((rd_T41 l0_0 a1).f3) a1 t2 _ ?side1 ?side2 ?side3 ?side4 ?side5 ?side6 ?side7 ?side8 ?side9 ?side10 A3.out).mono ?_); (case side1 => exact q1z HR1_0 HB); (case side2 => exact HC1_0.out); (case side3 => exact q1z HR1_1 HB); (case side4 => exact HC1_1.out); (case side5 => exact q1z HR1_2 HB); (case side6 => exact HC1_2.out); (case side7 => exact q1z HR1_3 HB); (case side8 => exact HC1_3.out); (case side9 => exact q1z HR1_4 HB); (case side10 => exact HC1_4.out); rintro e w4 ⟨rfl, hb⟩; replace BK1 := aM (yi (zi BK1) hb); replace BK2 := aM (yi (zi BK2) hb); replace HB := aM (ym (q5z HB GE1 GE2) hb); (try clear hb); (try clear hb2); (try clear hk); (try clear hi); obtain ⟨i6_0, i6_1, i6_2, i6_3, i6_4, j6_0, j6_1, j6_2, j6_3, j6_4⟩ := cells5_70 BK1.out; obtain ⟨i7_0, i7_1, i7_2, i7_3, i7_4, i3_5, i3_6, j7_0, j7_1, j7_2, j7_3, j7_4, j3_5, j3_6⟩ := cells7_70 BK2.out) | (go_at_call 53; (with_reducible refine (r9_wide.calls _ _ l0_0 _ _ l0_1 _ _ l0_2 _ _ l0_3 _ _ l0_4 ((rd_T41 l0_0 a1).f4) a1 t3 _ ?side1 ?side2 ?side3 ?side4 ?side5 ?side6 ?side7 ?side8 ?side9 ?side10 A4.out).mono ?_); (case side1 => exact q1z HR1_0 HB); (case side2 => exact HC1_0.out); (case side3 => exact q1z HR1_1 HB); (case side4 => exact HC1_1.out); (case side5 => exact q1z HR1_2 HB); (case side6 => exact HC1_2.out); (case side7 => exact q1z HR1_3 HB); (case side8 => exact HC1_3.out); (case side9 => exact q1z HR1_4 HB); (case side10 => exact HC1_4.out); rintro e w5 ⟨rfl, hb⟩; replace BK1 := aM (yi (zi BK1) hb); replace BK2 := aM (yi (zi BK2) hb); replace HB := aM (ym (q5z HB GE1 GE2) hb); (try clear hb); (try clear hb2); (try clear hk); (try clear hi)))
   repeat (go_quiet (first | ((with_reducible refine zgd 2 rfl ?_); refine zbox 2 #[.slice A0_0 l0_0.length c0_0, .slice A0_1 l0_1.length c0_1, .slice A0_2 l0_2.length c0_2, .slice A0_3 l0_3.length c0_3, .slice A0_4 l0_4.length c0_4] 27 ?_; intro gb1 hg w1 hbox hb; have BK1 := aM (hbox); have GW1 := aM ((q7z HB : w.heap.size ≤ gb1)); have GE1 := aM ((q7z HB : w.heap.size ≤ gb1)); replace HB := aM (ym (q4z HB) hb); clear hb hbox hg; obtain ⟨i1_0, i1_1, i1_2, i1_3, i1_4, j1_0, j1_1, j1_2, j1_3, j1_4⟩ := cells5_70 BK1.out; have p1 : 0 ≤ (a1 : Int) := zod; have q1 : a1 < (l0_0.length : Int) := zod; obtain ⟨ad1, e1, hx1_0, hx1_1, hx1_2, hx1_3, hx1_4, hx1_5, hx1_6⟩ := at_T41 HR1_0.out a1 p1 q1; cases e1; replace hx1_0 := zx HB hx1_0; replace hx1_1 := zx HB hx1_1; replace hx1_2 := zx HB hx1_2; replace hx1_3 := zx HB hx1_3; replace hx1_4 := zx HB hx1_4; replace hx1_5 := zx HB hx1_5; replace hx1_6 := zx HB hx1_6; replace p1 := eq_true p1; replace q1 := eq_true q1) | ((with_reducible refine zgd 5 rfl ?_); refine zbox 5 #[.int .i64 0, .int .i64 0, .int .i64 0, .int .i64 0, .int .i64 0, .int .i64 0, .int .i64 0] 41 ?_; intro gb2 hg w2 hbox hb; have BK2 := aM (hbox); have GW2 := aM ((q14z HB GE1 : w.heap.size ≤ gb2)); have GE2 := aM ((q14z HB GE1 : w.heap.size ≤ gb2)); replace HB := aM (ym (q3z HB GE1) hb); have NB1_363 := aM ((q38z BK1 : gb1 ≠ gb2)); have NB1_361 := aM ((q39z BK1 : gb2 ≠ gb1)); replace BK1 := aM (yi (zi BK1) hb); clear hb hbox hg; have hnb1 := NB1_361.out; have hnc1 := NB1_363.out; obtain ⟨i2_0, i2_1, i2_2, i2_3, i2_4, i1_5, i1_6, j2_0, j2_1, j2_2, j2_3, j2_4, j1_5, j1_6⟩ := cells7_70 BK2.out; obtain ⟨i3_0, i3_1, i3_2, i3_3, i3_4, j3_0, j3_1, j3_2, j3_3, j3_4⟩ := cells5_70 BK1.out) | (go_at_call 53; (with_reducible refine (r9_wide.calls _ _ l0_0 _ _ l0_1 _ _ l0_2 _ _ l0_3 _ _ l0_4 ((rd_T41 l0_0 a1).f2) a1 t1 _ ?side1 ?side2 ?side3 ?side4 ?side5 ?side6 ?side7 ?side8 ?side9 ?side10 A2.out).mono ?_); (case side1 => exact q18z HR1_0 HB GE1 GE2); (case side2 => exact HC1_0.out); (case side3 => exact q18z HR1_1 HB GE1 GE2); (case side4 => exact HC1_1.out); (case side5 => exact q18z HR1_2 HB GE1 GE2); (case side6 => exact HC1_2.out); (case side7 => exact q18z HR1_3 HB GE1 GE2); (case side8 => exact HC1_3.out); (case side9 => exact q18z HR1_4 HB GE1 GE2); (case side10 => exact HC1_4.out); rintro e w3 ⟨rfl, hb⟩; replace BK1 := aM (yi (g := gb1) (o := .cells #[.slice (some ad1) l0_0.length c0_0, .slice A0_1 l0_1.length c0_1, .slice A0_2 l0_2.length c0_2, .slice A0_3 l0_3.length c0_3, .slice A0_4 l0_4.length c0_4] 27 (0, 0)) (q8z NB1_363 BK1) hb); replace BK2 := aM (yi (g := gb2) (o := .cells #[.int .i64 ((rd_T41 l0_0 a1).f0), .int .i64 ((rd_T41 l0_0 a1).f1), .int .i64 ((rd_T41 l0_0 a1).f2), .int .i64 ((rd_T41 l0_0 a1).f3), .int .i64 ((rd_T41 l0_0 a1).f4), .int .i64 ((rd_T41 l0_0 a1).f5), .int .i64 ((rd_T41 l0_0 a1).f6)] 41 (0, 0)) (q6z BK2) hb); replace HB := aM (ym (q5z HB GE1 GE2) hb); (try clear hb); (try clear hb2); (try clear hk); (try clear hi); obtain ⟨i4_0, i4_1, i4_2, i4_3, i4_4, j4_0, j4_1, j4_2, j4_3, j4_4⟩ := cells5_70 BK1.out; obtain ⟨i5_0, i5_1, i5_2, i5_3, i5_4, i2_5, i2_6, j5_0, j5_1, j5_2, j5_3, j5_4, j2_5, j2_6⟩ := cells7_70 BK2.out) | (go_at_call 53; (with_reducible refine (r9_wide.calls _ _ l0_0 _ _ l0_1 _ _ l0_2 _ _ l0_3 _ _ l0_4 ((rd_T41 l0_0 a1).f3) a1 t2 _ ?side1 ?side2 ?side3 ?side4 ?side5 ?side6 ?side7 ?side8 ?side9 ?side10 A3.out).mono ?_); (case side1 => exact q1z HR1_0 HB); (case side2 => exact HC1_0.out); (case side3 => exact q1z HR1_1 HB); (case side4 => exact HC1_1.out); (case side5 => exact q1z HR1_2 HB); (case side6 => exact HC1_2.out); (case side7 => exact q1z HR1_3 HB); (case side8 => exact HC1_3.out); (case side9 => exact q1z HR1_4 HB); (case side10 => exact HC1_4.out); rintro e w4 ⟨rfl, hb⟩; replace BK1 := aM (yi (zi BK1) hb); replace BK2 := aM (yi (zi BK2) hb); replace HB := aM (ym (q5z HB GE1 GE2) hb); (try clear hb); (try clear hb2); (try clear hk); (try clear hi); obtain ⟨i6_0, i6_1, i6_2, i6_3, i6_4, j6_0, j6_1, j6_2, j6_3, j6_4⟩ := cells5_70 BK1.out; obtain ⟨i7_0, i7_1, i7_2, i7_3, i7_4, i3_5, i3_6, j7_0, j7_1, j7_2, j7_3, j7_4, j3_5, j3_6⟩ := cells7_70 BK2.out) | (go_at_call 53; (with_reducible refine (r9_wide.calls _ _ l0_0 _ _ l0_1 _ _ l0_2 _ _ l0_3 _ _ l0_4 ((rd_T41 l0_0 a1).f4) a1 t3 _ ?side1 ?side2 ?side3 ?side4 ?side5 ?side6 ?side7 ?side8 ?side9 ?side10 A4.out).mono ?_); (case side1 => exact q1z HR1_0 HB); (case side2 => exact HC1_0.out); (case side3 => exact q1z HR1_1 HB); (case side4 => exact HC1_1.out); (case side5 => exact q1z HR1_2 HB); (case side6 => exact HC1_2.out); (case side7 => exact q1z HR1_3 HB); (case side8 => exact HC1_3.out); (case side9 => exact q1z HR1_4 HB); (case side10 => exact HC1_4.out); rintro e w5 ⟨rfl, hb⟩; replace BK1 := aM (yi (zi BK1) hb); replace BK2 := aM (yi (zi BK2) hb); replace HB := aM (ym (q5z HB GE1 GE2) hb); (try clear hb); (try clear hb2); (try clear hk); (try clear hi))); go_upto_region 5 with (first | ((with_reducible refine zgd 2 rfl ?_); refine zbox 2 #[.slice A0_0 l0_0.length c0_0, .slice A0_1 l0_1.length c0_1, .slice A0_2 l0_2.length c0_2, .slice A0_3 l0_3.length c0_3, .slice A0_4 l0_4.length c0_4] 27 ?_; intro gb1 hg w1 hbox hb; have BK1 := aM (hbox); have GW1 := aM ((q7z HB : w.heap.size ≤ gb1)); have GE1 := aM ((q7z HB : w.heap.size ≤ gb1)); replace HB := aM (ym (q4z HB) hb); clear hb hbox hg; obtain ⟨i1_0, i1_1, i1_2, i1_3, i1_4, j1_0, j1_1, j1_2, j1_3, j1_4⟩ := cells5_70 BK1.out; have p1 : 0 ≤ (a1 : Int) := zod; have q1 : a1 < (l0_0.length : Int) := zod; obtain ⟨ad1, e1, hx1_0, hx1_1, hx1_2, hx1_3, hx1_4, hx1_5, hx1_6⟩ := at_T41 HR1_0.out a1 p1 q1; cases e1; replace hx1_0 := zx HB hx1_0; replace hx1_1 := zx HB hx1_1; replace hx1_2 := zx HB hx1_2; replace hx1_3 := zx HB hx1_3; replace hx1_4 := zx HB hx1_4; replace hx1_5 := zx HB hx1_5; replace hx1_6 := zx HB hx1_6; replace p1 := eq_true p1; replace q1 := eq_true q1) | ((with_reducible refine zgd 5 rfl ?_); refine zbox 5 #[.int .i64 0, .int .i64 0, .int .i64 0, .int .i64 0, .int .i64 0, .int .i64 0, .int .i64 0] 41 ?_; intro gb2 hg w2 hbox hb; have BK2 := aM (hbox); have GW2 := aM ((q14z HB GE1 : w.heap.size ≤ gb2)); have GE2 := aM ((q14z HB GE1 : w.heap.size ≤ gb2)); replace HB := aM (ym (q3z HB GE1) hb); have NB1_363 := aM ((q38z BK1 : gb1 ≠ gb2)); have NB1_361 := aM ((q39z BK1 : gb2 ≠ gb1)); replace BK1 := aM (yi (zi BK1) hb); clear hb hbox hg; have hnb1 := NB1_361.out; have hnc1 := NB1_363.out; obtain ⟨i2_0, i2_1, i2_2, i2_3, i2_4, i1_5, i1_6, j2_0, j2_1, j2_2, j2_3, j2_4, j1_5, j1_6⟩ := cells7_70 BK2.out; obtain ⟨i3_0, i3_1, i3_2, i3_3, i3_4, j3_0, j3_1, j3_2, j3_3, j3_4⟩ := cells5_70 BK1.out) | (go_at_call 53; (with_reducible refine (r9_wide.calls _ _ l0_0 _ _ l0_1 _ _ l0_2 _ _ l0_3 _ _ l0_4 ((rd_T41 l0_0 a1).f2) a1 t1 _ ?side1 ?side2 ?side3 ?side4 ?side5 ?side6 ?side7 ?side8 ?side9 ?side10 A2.out).mono ?_); (case side1 => exact q18z HR1_0 HB GE1 GE2); (case side2 => exact HC1_0.out); (case side3 => exact q18z HR1_1 HB GE1 GE2); (case side4 => exact HC1_1.out); (case side5 => exact q18z HR1_2 HB GE1 GE2); (case side6 => exact HC1_2.out); (case side7 => exact q18z HR1_3 HB GE1 GE2); (case side8 => exact HC1_3.out); (case side9 => exact q18z HR1_4 HB GE1 GE2); (case side10 => exact HC1_4.out); rintro e w3 ⟨rfl, hb⟩; replace BK1 := aM (yi (g := gb1) (o := .cells #[.slice (some ad1) l0_0.length c0_0, .slice A0_1 l0_1.length c0_1, .slice A0_2 l0_2.length c0_2, .slice A0_3 l0_3.length c0_3, .slice A0_4 l0_4.length c0_4] 27 (0, 0)) (q8z NB1_363 BK1) hb); replace BK2 := aM (yi (g := gb2) (o := .cells #[.int .i64 ((rd_T41 l0_0 a1).f0), .int .i64 ((rd_T41 l0_0 a1).f1), .int .i64 ((rd_T41 l0_0 a1).f2), .int .i64 ((rd_T41 l0_0 a1).f3), .int .i64 ((rd_T41 l0_0 a1).f4), .int .i64 ((rd_T41 l0_0 a1).f5), .int .i64 ((rd_T41 l0_0 a1).f6)] 41 (0, 0)) (q6z BK2) hb); replace HB := aM (ym (q5z HB GE1 GE2) hb); (try clear hb); (try clear hb2); (try clear hk); (try clear hi); obtain ⟨i4_0, i4_1, i4_2, i4_3, i4_4, j4_0, j4_1, j4_2, j4_3, j4_4⟩ := cells5_70 BK1.out; obtain ⟨i5_0, i5_1, i5_2, i5_3, i5_4, i2_5, i2_6, j5_0, j5_1, j5_2, j5_3, j5_4, j2_5, j2_6⟩ := cells7_70 BK2.out) | (go_at_call 53; (with_reducible refine (r9_wide.calls _ _ l0_0 _ _ l0_1 _ _ l0_2 _ _ l0_3 _ _ l0_4 ((rd_T41 l0_0 a1).f3) a1 t2 _ ?side1 ?side2 ?side3 ?side4 ?side5 ?side6 ?side7 ?side8 ?side9 ?side10 A3.out).mono ?_); (case side1 => exact q1z HR1_0 HB); (case side2 => exact HC1_0.out); (case side3 => exact q1z HR1_1 HB); (case side4 => exact HC1_1.out); (case side5 => exact q1z HR1_2 HB); (case side6 => exact HC1_2.out); (case side7 => exact q1z HR1_3 HB); (case side8 => exact HC1_3.out); (case side9 => exact q1z HR1_4 HB); (case side10 => exact HC1_4.out); rintro e w4 ⟨rfl, hb⟩; replace BK1 := aM (yi (zi BK1) hb); replace BK2 := aM (yi (zi BK2) hb); replace HB := aM (ym (q5z HB GE1 GE2) hb); (try clear hb); (try clear hb2); (try clear hk); (try clear hi); obtain ⟨i6_0, i6_1, i6_2, i6_3, i6_4, j6_0, j6_1, j6_2, j6_3, j6_4⟩ := cells5_70 BK1.out; obtain ⟨i7_0, i7_1, i7_2, i7_3, i7_4, i3_5, i3_6, j7_0, j7_1, j7_2, j7_3, j7_4, j3_5, j3_6⟩ := cells7_70 BK2.out) | (go_at_call 53; (with_reducible refine (r9_wide.calls _ _ l0_0 _ _ l0_1 _ _ l0_2 _ _ l0_3 _ _ l0_4 ((rd_T41 l0_0 a1).f4) a1 t3 _ ?side1 ?side2 ?side3 ?side4 ?side5 ?side6 ?side7 ?side8 ?side9 ?side10 A4.out).mono ?_); (case side1 => exact q1z HR1_0 HB); (case side2 => exact HC1_0.out); (case side3 => exact q1z HR1_1 HB); (case side4 => exact HC1_1.out); (case side5 => exact q1z HR1_2 HB); (case side6 => exact HC1_2.out); (case side7 => exact q1z HR1_3 HB); (case side8 => exact HC1_3.out); (case side9 => exact q1z HR1_4 HB); (case side10 => exact HC1_4.out); rintro e w5 ⟨rfl, hb⟩; replace BK1 := aM (yi (zi BK1) hb); replace BK2 := aM (yi (zi BK2) hb); replace HB := aM (ym (q5z HB GE1 GE2) hb); (try clear hb); (try clear hb2); (try clear hk); (try clear hi))))
   (try simp only [Act.put, yu, yv, yw])
   go_cut [9] (fun v1 wc => ∃ (kq : Nat) (x1_7 : Bool), v1 = .bool x1_7 ∧ Aside0 (r9_fits.j0 kq t1 t2 t3 x1_7 ((rd_T41 l0_0 a1).f0) ((rd_T41 l0_0 a1).f1) ((rd_T41 l0_0 a1).f2) ((rd_T41 l0_0 a1).f3) ((rd_T41 l0_0 a1).f4) ((rd_T41 l0_0 a1).f5) ((rd_T41 l0_0 a1).f6) = some r) ∧ Aside0 (kq ≤ k) ∧ Aside0 (wc.heap[gb1]? = some (.cells #[(.slice (some ad1) l0_0.length c0_0), (.slice A0_1 l0_1.length c0_1), (.slice A0_2 l0_2.length c0_2), (.slice A0_3 l0_3.length c0_3), (.slice A0_4 l0_4.length c0_4)] 27 (0, 0))) ∧ Aside0 (wc.heap[gb2]? = some (.cells #[.int .i64 ((rd_T41 l0_0 a1).f0), .int .i64 ((rd_T41 l0_0 a1).f1), .int .i64 ((rd_T41 l0_0 a1).f2), .int .i64 ((rd_T41 l0_0 a1).f3), .int .i64 ((rd_T41 l0_0 a1).f4), .int .i64 ((rd_T41 l0_0 a1).f5), .int .i64 ((rd_T41 l0_0 a1).f6)] 41 (0, 0))) ∧ Aside0 (Below w.heap.size w wc))
   case first => as_aux_lemma =>
    have H := HC1.out; clear HC1; by_cases c8 : ((rd_T41 l0_0 a1).f5) = 0
    ·rw [if_pos c8] at H; obtain ⟨c3b0, c1b1⟩ := zeq c8; clear c8; (first | rw [c3b0] | (simp only [i64_w, i32_w]; rw [c3b0]) | skip)
     have H' := aM H; clear H; have hnb1 := NB1_361.out; have hnc1 := NB1_363.out; obtain ⟨i8_0, i8_1, i8_2, i8_3, i8_4, i4_5, i4_6, j8_0, j8_1, j8_2, j8_3, j8_4, j4_5, j4_6⟩ := cells7_70 BK2.out; go_wp2
     repeat (go_quiet (fail); try go_wp2)
     go_meet
     case rel => exact ⟨_, ((((rd_T41 l0_0 a1).f6) == 0)), q13z, H', ⟨q51z⟩, ⟨q10z BK1⟩, ⟨q10z BK2⟩, ⟨q5z HB GE1 GE2⟩⟩
    ·rw [if_neg c8] at H; obtain ⟨c3b0, c1b1⟩ := zne c8; (first | rw [c3b0] | (simp only [i64_w, i32_w]; rw [c3b0]) | skip)
     have H' := aM H; clear H; have hnb1 := NB1_361.out; have hnc1 := NB1_363.out; obtain ⟨i8_0, i8_1, i8_2, i8_3, i8_4, i4_5, i4_6, j8_0, j8_1, j8_2, j8_3, j8_4, j4_5, j4_6⟩ := cells7_70 BK2.out; go_wp2
     repeat (go_quiet (fail); try go_wp2)
     go_meet
     case rel => exact ⟨_, (false), q13z, H', ⟨q51z⟩, ⟨q10z BK1⟩, ⟨q10z BK2⟩, ⟨q5z HB GE1 GE2⟩⟩
   case rest => as_aux_lemma =>
    clear HC1; try clear c1
    try clear c2
    try clear p2
    try clear c3
    try clear c1b0
    try clear p3
    try clear q3
    try clear hx3
    try clear c4
    try clear c2b0
    try clear c5
    try clear c12
    try clear c8
    try clear c3b0
    try clear c1b1
    try clear c23
    try clear c25
    try clear i1_0 i1_1 i1_2 i1_3 i1_4
    try clear i2_0 i2_1 i2_2 i2_3 i2_4
    try clear i1_5 i1_6
    try clear i3_0 i3_1 i3_2 i3_3 i3_4
    try clear i4_0 i4_1 i4_2 i4_3 i4_4
    try clear i5_0 i5_1 i5_2 i5_3 i5_4
    try clear i2_5 i2_6
    try clear i6_0 i6_1 i6_2 i6_3 i6_4
    try clear i7_0 i7_1 i7_2 i7_3 i7_4
    try clear i3_5 i3_6
    try clear i8_0 i8_1 i8_2 i8_3 i8_4
    try clear i4_5 i4_6
    try clear i9_0 i9_1 i9_2 i9_3 i9_4
    try clear i5_5 i5_6
    try clear j1_0 j1_1 j1_2 j1_3 j1_4
    try clear j2_0 j2_1 j2_2 j2_3 j2_4
    try clear j1_5 j1_6
    try clear j3_0 j3_1 j3_2 j3_3 j3_4
    try clear j4_0 j4_1 j4_2 j4_3 j4_4
    try clear j5_0 j5_1 j5_2 j5_3 j5_4
    try clear j2_5 j2_6
    try clear j6_0 j6_1 j6_2 j6_3 j6_4
    try clear j7_0 j7_1 j7_2 j7_3 j7_4
    try clear j3_5 j3_6
    try clear j8_0 j8_1 j8_2 j8_3 j8_4
    try clear j4_5 j4_6
    try clear j9_0 j9_1 j9_2 j9_3 j9_4
    try clear j5_5 j5_6
    try clear hx1_0
    try clear hx1_1
    try clear hx1_2
    try clear hx1_3
    try clear hx1_4
    try clear hx1_5
    try clear hx1_6
    try clear p1
    try clear q1
    obtain ⟨kq, x1_7, rfl, HA, HJ1, BK1, BK2, HB⟩ := hcut; cases kq with
    | zero => exact absurd HA.out (by simp [r9_fits.j0])
    | succ kj1 =>
     have H := HA.out; clear HA; simp only [r9_fits.j0] at H; by_cases c9 : ((rd_T41 l0_0 a1).f0) = 1
     ·rw [if_pos c9] at H; obtain ⟨c4b0, c2b1⟩ := zeq c9; clear c9; by_cases c10 : ((rd_T41 l0_0 a1).f5) ≥ 0
      ·rw [if_pos c10] at H; have c4b0 : decide (0 ≤ ((rd_T41 l0_0 a1).f5)) = true := decide_eq_true c10; clear c10; replace H := Option.bind_eq_some_iff.mp H; obtain ⟨t4, A1, H⟩ := H; have A2 := aM A1; clear A1; by_cases c11 : ((rd_T41 l0_0 a1).f5) ≤ t4
       ·rw [if_pos c11] at H; have c4b0 := decide_eq_true c11; exact z70_1
       ·rw [if_neg c11] at H; have c4b0 := decide_eq_false c11; exact z70_1
      ·rw [if_neg c10] at H; have c4b0 : decide (0 ≤ ((rd_T41 l0_0 a1).f5)) = false := decide_eq_false c10; clear c10; obtain rfl := Option.some.inj H; have hnb1 := NB1_361.out; have hnc1 := NB1_363.out; obtain ⟨i10_0, i10_1, i10_2, i10_3, i10_4, i6_5, i6_6, j10_0, j10_1, j10_2, j10_3, j10_4, j6_5, j6_6⟩ := cells7_70 BK2.out; exact z70_12
     ·rw [if_neg c9] at H; obtain ⟨c4b0, c2b1⟩ := zne c9; have HC1 := aM H; clear H; have hnb1 := NB1_361.out; have hnc1 := NB1_363.out; obtain ⟨i10_0, i10_1, i10_2, i10_3, i10_4, i6_5, i6_6, j10_0, j10_1, j10_2, j10_3, j10_4, j6_5, j6_6⟩ := cells7_70 BK2.out; go_upto_if 58 with (fail)
      repeat (go_quiet (fail); go_upto_if 58 with (fail))
      go_cut [58] (fun v1 wc => ∃ (kq : Nat) (x1_36 : Bool), v1 = .bool x1_36 ∧ Aside0 (r9_fits.j1 kq t1 t2 t3 x1_7 ((rd_T41 l0_0 a1).f0) x1_36 ((rd_T41 l0_0 a1).f0) ((rd_T41 l0_0 a1).f1) ((rd_T41 l0_0 a1).f2) ((rd_T41 l0_0 a1).f3) ((rd_T41 l0_0 a1).f4) ((rd_T41 l0_0 a1).f5) ((rd_T41 l0_0 a1).f6) = some r) ∧ Aside0 (kq ≤ kj1) ∧ Aside0 (wc.heap[gb1]? = some (.cells #[(.slice (some ad1) l0_0.length c0_0), (.slice A0_1 l0_1.length c0_1), (.slice A0_2 l0_2.length c0_2), (.slice A0_3 l0_3.length c0_3), (.slice A0_4 l0_4.length c0_4)] 27 (0, 0))) ∧ Aside0 (wc.heap[gb2]? = some (.cells #[.int .i64 ((rd_T41 l0_0 a1).f0), .int .i64 ((rd_T41 l0_0 a1).f1), .int .i64 ((rd_T41 l0_0 a1).f2), .int .i64 ((rd_T41 l0_0 a1).f3), .int .i64 ((rd_T41 l0_0 a1).f4), .int .i64 ((rd_T41 l0_0 a1).f5), .int .i64 ((rd_T41 l0_0 a1).f6)] 41 (0, 0))) ∧ Aside0 (Below w.heap.size w wc))
      case first => as_aux_lemma =>
       have H := HC1.out; clear HC1; by_cases c10 : ((rd_T41 l0_0 a1).f0) = 21
       ·rw [if_pos c10] at H; obtain ⟨c5b0, c3b1⟩ := zeq c10; clear c10; (first | rw [c5b0] | (simp only [i64_w, i32_w]; rw [c5b0]) | skip)
        have H' := aM H; clear H; go_wp2
        repeat (go_quiet (fail); try go_wp2)
        go_meet
        case rel => exact ⟨_, ((((rd_T41 l0_0 a1).f0) == 21)), q13z, H', ⟨q55z HJ1⟩, ⟨q10z BK1⟩, ⟨q10z BK2⟩, ⟨q5z HB GE1 GE2⟩⟩
       ·rw [if_neg c10] at H; obtain ⟨c5b0, c3b1⟩ := zne c10; (first | rw [c5b0] | (simp only [i64_w, i32_w]; rw [c5b0]) | skip)
        have H' := aM H; clear H; go_wp2
        repeat (go_quiet (fail); try go_wp2)
        go_meet
        case rel => exact ⟨_, ((((rd_T41 l0_0 a1).f0) == 22)), q13z, H', ⟨q55z HJ1⟩, ⟨q10z BK1⟩, ⟨q10z BK2⟩, ⟨q5z HB GE1 GE2⟩⟩
      case rest => as_aux_lemma =>
       clear HC1; try clear c1
       try clear c2
       try clear p2
       try clear c3
       try clear c1b0
       try clear p3
       try clear q3
       try clear hx3
       try clear c4
       try clear c2b0
       try clear c5
       try clear c12
       try clear c8
       try clear c3b0
       try clear c1b1
       try clear c23
       try clear c25
       try clear c9
       try clear c4b0
       try clear c2b1
       try clear c10
       try clear c5b0
       try clear c11
       try clear c6b0
       try clear c31
       try clear c33
       try clear c35
       try clear p36
       try clear q36
       try clear hx36
       try clear c38
       try clear c13
       try clear c7b0
       try clear c3b1
       try clear i1_0 i1_1 i1_2 i1_3 i1_4
       try clear i2_0 i2_1 i2_2 i2_3 i2_4
       try clear i1_5 i1_6
       try clear i3_0 i3_1 i3_2 i3_3 i3_4
       try clear i4_0 i4_1 i4_2 i4_3 i4_4
       try clear i5_0 i5_1 i5_2 i5_3 i5_4
       try clear i2_5 i2_6
       try clear i6_0 i6_1 i6_2 i6_3 i6_4
       try clear i7_0 i7_1 i7_2 i7_3 i7_4
       try clear i3_5 i3_6
       try clear i8_0 i8_1 i8_2 i8_3 i8_4
       try clear i4_5 i4_6
       try clear i9_0 i9_1 i9_2 i9_3 i9_4
       try clear i5_5 i5_6
       try clear i11_0 i11_1 i11_2 i11_3 i11_4
       try clear i7_5 i7_6
       try clear i12_0 i12_1 i12_2 i12_3 i12_4
       try clear i8_5 i8_6
       try clear i13_0 i13_1 i13_2 i13_3 i13_4
       try clear i9_5 i9_6
       try clear i10_0 i10_1 i10_2 i10_3 i10_4
       try clear i6_5 i6_6
       try clear j1_0 j1_1 j1_2 j1_3 j1_4
       try clear j2_0 j2_1 j2_2 j2_3 j2_4
       try clear j1_5 j1_6
       try clear j3_0 j3_1 j3_2 j3_3 j3_4
       try clear j4_0 j4_1 j4_2 j4_3 j4_4
       try clear j5_0 j5_1 j5_2 j5_3 j5_4
       try clear j2_5 j2_6
       try clear j6_0 j6_1 j6_2 j6_3 j6_4
       try clear j7_0 j7_1 j7_2 j7_3 j7_4
       try clear j3_5 j3_6
       try clear j8_0 j8_1 j8_2 j8_3 j8_4
       try clear j4_5 j4_6
       try clear j9_0 j9_1 j9_2 j9_3 j9_4
       try clear j5_5 j5_6
       try clear j11_0 j11_1 j11_2 j11_3 j11_4
       try clear j7_5 j7_6
       try clear j12_0 j12_1 j12_2 j12_3 j12_4
       try clear j8_5 j8_6
       try clear j13_0 j13_1 j13_2 j13_3 j13_4
       try clear j9_5 j9_6
       try clear j10_0 j10_1 j10_2 j10_3 j10_4
       try clear j6_5 j6_6
       try clear hx1_0
       try clear hx1_1
       try clear hx1_2
       try clear hx1_3
       try clear hx1_4
       try clear hx1_5
       try clear hx1_6
       try clear p2
       try clear p3
       try clear p1
       try clear q3
       try clear q1
       obtain ⟨kq, x1_36, rfl, HA, HJ2, BK1, BK2, HB⟩ := hcut; cases kq with
       | zero => exact absurd HA.out (by simp [r9_fits.j1])
       | succ kj1 =>
        have H := HA.out; clear HA; simp only [r9_fits.j1] at H; by_cases c14 : x1_36 = true
        ·subst c14; have H1 : (some x1_7) = some r := by rw [if_pos rfl] at H; exact H
         exact z70_10
        ·replace c14 := Bool.eq_false_iff.mpr c14; subst c14; have H1 : (if ((rd_T41 l0_0 a1).f0) = 3 then (if x1_7 = true then (some (t1 == ((rd_T41 l0_0 a1).f1))) else (some false)) else (if ((rd_T41 l0_0 a1).f0) = 4 then (r9_fits.j2 kj1 t1 t2 t3 x1_7 ((rd_T41 l0_0 a1).f0) (((rd_T41 l0_0 a1).f0) == 4) ((rd_T41 l0_0 a1).f0) ((rd_T41 l0_0 a1).f1) ((rd_T41 l0_0 a1).f2) ((rd_T41 l0_0 a1).f3) ((rd_T41 l0_0 a1).f4) ((rd_T41 l0_0 a1).f5) ((rd_T41 l0_0 a1).f6)) else (r9_fits.j2 kj1 t1 t2 t3 x1_7 ((rd_T41 l0_0 a1).f0) (((rd_T41 l0_0 a1).f0) == 5) ((rd_T41 l0_0 a1).f0) ((rd_T41 l0_0 a1).f1) ((rd_T41 l0_0 a1).f2) ((rd_T41 l0_0 a1).f3) ((rd_T41 l0_0 a1).f4) ((rd_T41 l0_0 a1).f5) ((rd_T41 l0_0 a1).f6)))) = some r := by rw [if_neg (show ¬ (false = true) by decide)] at H; exact H
         clear H; have H := H1; clear H1; by_cases c15 : ((rd_T41 l0_0 a1).f0) = 3
         ·rw [if_pos c15] at H; obtain ⟨c8b0, c4b1⟩ := zeq c15; clear c15; by_cases c16 : x1_7 = true
          ·subst c16; have H1 : (some (t1 == ((rd_T41 l0_0 a1).f1))) = some r := by rw [if_pos rfl] at H; exact H
           clear H; have H := H1; clear H1; obtain rfl := Option.some.inj H; have hnb1 := NB1_361.out; have hnc1 := NB1_363.out; obtain ⟨i14_0, i14_1, i14_2, i14_3, i14_4, i10_5, i10_6, j14_0, j14_1, j14_2, j14_3, j14_4, j10_5, j10_6⟩ := cells7_70 BK2.out; exact z70_12
          ·replace c16 := Bool.eq_false_iff.mpr c16; subst c16; exact z70_9
         ·rw [if_neg c15] at H; obtain ⟨c8b0, c4b1⟩ := zne c15; have HC1 := aM H; clear H; go_upto_if 71 with (fail)
          repeat (go_quiet (fail); go_upto_if 71 with (fail))
          go_cut [71] (fun v1 wc => ∃ (kq : Nat) (x1_45 : Bool), v1 = .bool x1_45 ∧ Aside0 (r9_fits.j2 kq t1 t2 t3 x1_7 ((rd_T41 l0_0 a1).f0) x1_45 ((rd_T41 l0_0 a1).f0) ((rd_T41 l0_0 a1).f1) ((rd_T41 l0_0 a1).f2) ((rd_T41 l0_0 a1).f3) ((rd_T41 l0_0 a1).f4) ((rd_T41 l0_0 a1).f5) ((rd_T41 l0_0 a1).f6) = some r) ∧ Aside0 (kq ≤ kj1) ∧ Aside0 (wc.heap[gb1]? = some (.cells #[(.slice (some ad1) l0_0.length c0_0), (.slice A0_1 l0_1.length c0_1), (.slice A0_2 l0_2.length c0_2), (.slice A0_3 l0_3.length c0_3), (.slice A0_4 l0_4.length c0_4)] 27 (0, 0))) ∧ Aside0 (wc.heap[gb2]? = some (.cells #[.int .i64 ((rd_T41 l0_0 a1).f0), .int .i64 ((rd_T41 l0_0 a1).f1), .int .i64 ((rd_T41 l0_0 a1).f2), .int .i64 ((rd_T41 l0_0 a1).f3), .int .i64 ((rd_T41 l0_0 a1).f4), .int .i64 ((rd_T41 l0_0 a1).f5), .int .i64 ((rd_T41 l0_0 a1).f6)] 41 (0, 0))) ∧ Aside0 (Below w.heap.size w wc))
          case first => as_aux_lemma =>
           have H := HC1.out; clear HC1; by_cases c16 : ((rd_T41 l0_0 a1).f0) = 4
           ·rw [if_pos c16] at H; obtain ⟨c9b0, c5b1⟩ := zeq c16; clear c16; (first | rw [c9b0] | (simp only [i64_w, i32_w]; rw [c9b0]) | skip)
            have H' := aM H; clear H; go_wp2
            repeat (go_quiet (fail); try go_wp2)
            go_meet
            case rel => exact ⟨_, ((((rd_T41 l0_0 a1).f0) == 4)), q13z, H', ⟨q74z HJ1 HJ2⟩, ⟨q10z BK1⟩, ⟨q10z BK2⟩, ⟨q5z HB GE1 GE2⟩⟩
           ·rw [if_neg c16] at H; obtain ⟨c9b0, c5b1⟩ := zne c16; (first | rw [c9b0] | (simp only [i64_w, i32_w]; rw [c9b0]) | skip)
            have H' := aM H; clear H; go_wp2
            repeat (go_quiet (fail); try go_wp2)
            go_meet
            case rel => exact ⟨_, ((((rd_T41 l0_0 a1).f0) == 5)), q13z, H', ⟨q74z HJ1 HJ2⟩, ⟨q10z BK1⟩, ⟨q10z BK2⟩, ⟨q5z HB GE1 GE2⟩⟩
          case rest => as_aux_lemma =>
           clear HC1; try clear c1
           try clear c2
           try clear p2
           try clear c3
           try clear c1b0
           try clear p3
           try clear q3
           try clear hx3
           try clear c4
           try clear c2b0
           try clear c5
           try clear c12
           try clear c8
           try clear c3b0
           try clear c1b1
           try clear c23
           try clear c25
           try clear c9
           try clear c4b0
           try clear c2b1
           try clear c10
           try clear c5b0
           try clear c11
           try clear c6b0
           try clear c31
           try clear c33
           try clear c35
           try clear p36
           try clear q36
           try clear hx36
           try clear c38
           try clear c13
           try clear c7b0
           try clear c3b1
           try clear c14
           try clear c15
           try clear c8b0
           try clear c4b1
           try clear c16
           try clear c44
           try clear c17
           try clear c9b0
           try clear c5b1
           try clear i1_0 i1_1 i1_2 i1_3 i1_4
           try clear i2_0 i2_1 i2_2 i2_3 i2_4
           try clear i1_5 i1_6
           try clear i3_0 i3_1 i3_2 i3_3 i3_4
           try clear i4_0 i4_1 i4_2 i4_3 i4_4
           try clear i5_0 i5_1 i5_2 i5_3 i5_4
           try clear i2_5 i2_6
           try clear i6_0 i6_1 i6_2 i6_3 i6_4
           try clear i7_0 i7_1 i7_2 i7_3 i7_4
           try clear i3_5 i3_6
           try clear i8_0 i8_1 i8_2 i8_3 i8_4
           try clear i4_5 i4_6
           try clear i9_0 i9_1 i9_2 i9_3 i9_4
           try clear i5_5 i5_6
           try clear i11_0 i11_1 i11_2 i11_3 i11_4
           try clear i7_5 i7_6
           try clear i12_0 i12_1 i12_2 i12_3 i12_4
           try clear i8_5 i8_6
           try clear i13_0 i13_1 i13_2 i13_3 i13_4
           try clear i9_5 i9_6
           try clear i10_0 i10_1 i10_2 i10_3 i10_4
           try clear i6_5 i6_6
           try clear i14_0 i14_1 i14_2 i14_3 i14_4
           try clear i10_5 i10_6
           try clear j1_0 j1_1 j1_2 j1_3 j1_4
           try clear j2_0 j2_1 j2_2 j2_3 j2_4
           try clear j1_5 j1_6
           try clear j3_0 j3_1 j3_2 j3_3 j3_4
           try clear j4_0 j4_1 j4_2 j4_3 j4_4
           try clear j5_0 j5_1 j5_2 j5_3 j5_4
           try clear j2_5 j2_6
           try clear j6_0 j6_1 j6_2 j6_3 j6_4
           try clear j7_0 j7_1 j7_2 j7_3 j7_4
           try clear j3_5 j3_6
           try clear j8_0 j8_1 j8_2 j8_3 j8_4
           try clear j4_5 j4_6
           try clear j9_0 j9_1 j9_2 j9_3 j9_4
           try clear j5_5 j5_6
           try clear j11_0 j11_1 j11_2 j11_3 j11_4
           try clear j7_5 j7_6
           try clear j12_0 j12_1 j12_2 j12_3 j12_4
           try clear j8_5 j8_6
           try clear j13_0 j13_1 j13_2 j13_3 j13_4
           try clear j9_5 j9_6
           try clear j10_0 j10_1 j10_2 j10_3 j10_4
           try clear j6_5 j6_6
           try clear j14_0 j14_1 j14_2 j14_3 j14_4
           try clear j10_5 j10_6
           try clear hx1_0
           try clear hx1_1
           try clear hx1_2
           try clear hx1_3
           try clear hx1_4
           try clear hx1_5
           try clear hx1_6
           try clear p2
           try clear p3
           try clear p36
           try clear p1
           try clear q3
           try clear q36
           try clear q1
           obtain ⟨kq, x1_45, rfl, HA, HJ3, BK1, BK2, HB⟩ := hcut; cases kq with
           | zero => exact absurd HA.out (by simp [r9_fits.j2])
           | succ kj1 =>
            have H := HA.out; clear HA; simp only [r9_fits.j2] at H; by_cases c18 : x1_45 = true
            ·subst c18; have H1 : (if ((rd_T41 l0_0 a1).f5) = 0 then (if ((rd_T41 l0_0 a1).f1) = 1 then (if t1 = ((rd_T41 l0_0 a1).f6) then (some (decide (t1 > 0))) else (some false)) else (some false)) else (some false)) = some r := by rw [if_pos rfl] at H; exact H
             clear H; have H := H1; clear H1; by_cases c19 : ((rd_T41 l0_0 a1).f5) = 0
             ·rw [if_pos c19] at H; obtain ⟨c10b0, c6b1⟩ := zeq c19; clear c19; by_cases c20 : ((rd_T41 l0_0 a1).f1) = 1
              ·rw [if_pos c20] at H; obtain ⟨c10b0, c6b1⟩ := zeq c20; clear c20; by_cases c21 : t1 = ((rd_T41 l0_0 a1).f6)
               ·rw [if_pos c21] at H; obtain ⟨c10b0, c6b1⟩ := zeq c21; clear c21; exact z70_4
               ·rw [if_neg c21] at H; obtain ⟨c10b0, c6b1⟩ := zne c21; exact z70_4
              ·rw [if_neg c20] at H; obtain ⟨c10b0, c6b1⟩ := zne c20; exact z70_4
             ·rw [if_neg c19] at H; obtain ⟨c10b0, c6b1⟩ := zne c19; exact z70_4
            ·replace c18 := Bool.eq_false_iff.mpr c18; subst c18; have H1 : (if ((rd_T41 l0_0 a1).f0) = 6 then (r9_fits.j3 kj1 t1 t2 t3 x1_7 ((rd_T41 l0_0 a1).f0) (((rd_T41 l0_0 a1).f0) == 6) ((rd_T41 l0_0 a1).f0) ((rd_T41 l0_0 a1).f1) ((rd_T41 l0_0 a1).f2) ((rd_T41 l0_0 a1).f3) ((rd_T41 l0_0 a1).f4) ((rd_T41 l0_0 a1).f5) ((rd_T41 l0_0 a1).f6)) else (if ((rd_T41 l0_0 a1).f0) = 7 then (r9_fits.j3 kj1 t1 t2 t3 x1_7 ((rd_T41 l0_0 a1).f0) (((rd_T41 l0_0 a1).f0) == 7) ((rd_T41 l0_0 a1).f0) ((rd_T41 l0_0 a1).f1) ((rd_T41 l0_0 a1).f2) ((rd_T41 l0_0 a1).f3) ((rd_T41 l0_0 a1).f4) ((rd_T41 l0_0 a1).f5) ((rd_T41 l0_0 a1).f6)) else (if ((rd_T41 l0_0 a1).f0) = 8 then (r9_fits.j3 kj1 t1 t2 t3 x1_7 ((rd_T41 l0_0 a1).f0) (((rd_T41 l0_0 a1).f0) == 8) ((rd_T41 l0_0 a1).f0) ((rd_T41 l0_0 a1).f1) ((rd_T41 l0_0 a1).f2) ((rd_T41 l0_0 a1).f3) ((rd_T41 l0_0 a1).f4) ((rd_T41 l0_0 a1).f5) ((rd_T41 l0_0 a1).f6)) else (if ((rd_T41 l0_0 a1).f0) = 9 then (r9_fits.j3 kj1 t1 t2 t3 x1_7 ((rd_T41 l0_0 a1).f0) (((rd_T41 l0_0 a1).f0) == 9) ((rd_T41 l0_0 a1).f0) ((rd_T41 l0_0 a1).f1) ((rd_T41 l0_0 a1).f2) ((rd_T41 l0_0 a1).f3) ((rd_T41 l0_0 a1).f4) ((rd_T41 l0_0 a1).f5) ((rd_T41 l0_0 a1).f6)) else (if ((rd_T41 l0_0 a1).f0) = 10 then (r9_fits.j3 kj1 t1 t2 t3 x1_7 ((rd_T41 l0_0 a1).f0) (((rd_T41 l0_0 a1).f0) == 10) ((rd_T41 l0_0 a1).f0) ((rd_T41 l0_0 a1).f1) ((rd_T41 l0_0 a1).f2) ((rd_T41 l0_0 a1).f3) ((rd_T41 l0_0 a1).f4) ((rd_T41 l0_0 a1).f5) ((rd_T41 l0_0 a1).f6)) else (r9_fits.j3 kj1 t1 t2 t3 x1_7 ((rd_T41 l0_0 a1).f0) (((rd_T41 l0_0 a1).f0) == 11) ((rd_T41 l0_0 a1).f0) ((rd_T41 l0_0 a1).f1) ((rd_T41 l0_0 a1).f2) ((rd_T41 l0_0 a1).f3) ((rd_T41 l0_0 a1).f4) ((rd_T41 l0_0 a1).f5) ((rd_T41 l0_0 a1).f6))))))) = some r := by rw [if_neg (show ¬ (false = true) by decide)] at H; exact H
             clear H; have H := H1; clear H1; have HC1 := aM H; clear H; go_upto_if 92 with (fail)
             repeat (go_quiet (fail); go_upto_if 92 with (fail))
             go_cut [92] (fun v1 wc => ∃ (kq : Nat) (x1_59 : Bool), v1 = .bool x1_59 ∧ Aside0 (r9_fits.j3 kq t1 t2 t3 x1_7 ((rd_T41 l0_0 a1).f0) x1_59 ((rd_T41 l0_0 a1).f0) ((rd_T41 l0_0 a1).f1) ((rd_T41 l0_0 a1).f2) ((rd_T41 l0_0 a1).f3) ((rd_T41 l0_0 a1).f4) ((rd_T41 l0_0 a1).f5) ((rd_T41 l0_0 a1).f6) = some r) ∧ Aside0 (kq ≤ kj1) ∧ Aside0 (wc.heap[gb1]? = some (.cells #[(.slice (some ad1) l0_0.length c0_0), (.slice A0_1 l0_1.length c0_1), (.slice A0_2 l0_2.length c0_2), (.slice A0_3 l0_3.length c0_3), (.slice A0_4 l0_4.length c0_4)] 27 (0, 0))) ∧ Aside0 (wc.heap[gb2]? = some (.cells #[.int .i64 ((rd_T41 l0_0 a1).f0), .int .i64 ((rd_T41 l0_0 a1).f1), .int .i64 ((rd_T41 l0_0 a1).f2), .int .i64 ((rd_T41 l0_0 a1).f3), .int .i64 ((rd_T41 l0_0 a1).f4), .int .i64 ((rd_T41 l0_0 a1).f5), .int .i64 ((rd_T41 l0_0 a1).f6)] 41 (0, 0))) ∧ Aside0 (Below w.heap.size w wc))
             case first => as_aux_lemma =>
              have H := HC1.out; clear HC1; by_cases c19 : ((rd_T41 l0_0 a1).f0) = 6
              ·rw [if_pos c19] at H; obtain ⟨c10b0, c6b1⟩ := zeq c19; clear c19; (first | rw [c10b0] | (simp only [i64_w, i32_w]; rw [c10b0]) | skip)
               have H' := aM H; clear H; go_wp2
               repeat (go_quiet (fail); try go_wp2)
               go_meet
               case rel => exact ⟨_, ((((rd_T41 l0_0 a1).f0) == 6)), q13z, H', ⟨q62z HJ1 HJ2 HJ3⟩, ⟨q10z BK1⟩, ⟨q10z BK2⟩, ⟨q5z HB GE1 GE2⟩⟩
              ·rw [if_neg c19] at H; obtain ⟨c10b0, c6b1⟩ := zne c19; (first | rw [c10b0] | (simp only [i64_w, i32_w]; rw [c10b0]) | skip)
               by_cases c19 : ((rd_T41 l0_0 a1).f0) = 7
               ·rw [if_pos c19] at H; obtain ⟨c10b0, c6b1⟩ := zeq c19; clear c19; have H' := aM H; clear H; go_wp2
                repeat (go_quiet (fail); try go_wp2)
                go_meet
                case rel => exact ⟨_, ((((rd_T41 l0_0 a1).f0) == 7)), q13z, H', ⟨q62z HJ1 HJ2 HJ3⟩, ⟨q10z BK1⟩, ⟨q10z BK2⟩, ⟨q5z HB GE1 GE2⟩⟩
               ·rw [if_neg c19] at H; obtain ⟨c10b0, c6b1⟩ := zne c19; by_cases c19 : ((rd_T41 l0_0 a1).f0) = 8
                ·rw [if_pos c19] at H; obtain ⟨c10b0, c6b1⟩ := zeq c19; clear c19; have H' := aM H; clear H; go_wp2
                 repeat (go_quiet (fail); try go_wp2)
                 go_meet
                 case rel => exact ⟨_, ((((rd_T41 l0_0 a1).f0) == 8)), q13z, H', ⟨q62z HJ1 HJ2 HJ3⟩, ⟨q10z BK1⟩, ⟨q10z BK2⟩, ⟨q5z HB GE1 GE2⟩⟩
                ·rw [if_neg c19] at H; obtain ⟨c10b0, c6b1⟩ := zne c19; by_cases c19 : ((rd_T41 l0_0 a1).f0) = 9
                 ·rw [if_pos c19] at H; obtain ⟨c10b0, c6b1⟩ := zeq c19; clear c19; have H' := aM H; clear H; go_wp2
                  repeat (go_quiet (fail); try go_wp2)
                  go_meet
                  case rel => exact ⟨_, ((((rd_T41 l0_0 a1).f0) == 9)), q13z, H', ⟨q62z HJ1 HJ2 HJ3⟩, ⟨q10z BK1⟩, ⟨q10z BK2⟩, ⟨q5z HB GE1 GE2⟩⟩
                 ·rw [if_neg c19] at H; obtain ⟨c10b0, c6b1⟩ := zne c19; by_cases c19 : ((rd_T41 l0_0 a1).f0) = 10
                  ·rw [if_pos c19] at H; obtain ⟨c10b0, c6b1⟩ := zeq c19; clear c19; have H' := aM H; clear H; go_wp2
                   repeat (go_quiet (fail); try go_wp2)
                   go_meet
                   case rel => exact ⟨_, ((((rd_T41 l0_0 a1).f0) == 10)), q13z, H', ⟨q62z HJ1 HJ2 HJ3⟩, ⟨q10z BK1⟩, ⟨q10z BK2⟩, ⟨q5z HB GE1 GE2⟩⟩
                  ·rw [if_neg c19] at H; obtain ⟨c10b0, c6b1⟩ := zne c19; have H' := aM H; clear H; go_wp2
                   repeat (go_quiet (fail); try go_wp2)
                   go_meet
                   case rel => exact ⟨_, ((((rd_T41 l0_0 a1).f0) == 11)), q13z, H', ⟨q62z HJ1 HJ2 HJ3⟩, ⟨q10z BK1⟩, ⟨q10z BK2⟩, ⟨q5z HB GE1 GE2⟩⟩
             case rest => as_aux_lemma =>
              clear HC1; try clear c1
              try clear c2
              try clear p2
              try clear c3
              try clear c1b0
              try clear p3
              try clear q3
              try clear hx3
              try clear c4
              try clear c2b0
              try clear c5
              try clear c6
              try clear c12
              try clear c8
              try clear c3b0
              try clear c1b1
              try clear c23
              try clear c25
              try clear c9
              try clear c4b0
              try clear c2b1
              try clear c10
              try clear c5b0
              try clear c11
              try clear c6b0
              try clear c31
              try clear c33
              try clear c35
              try clear p36
              try clear q36
              try clear hx36
              try clear c38
              try clear c13
              try clear c7b0
              try clear c3b1
              try clear c14
              try clear c15
              try clear c8b0
              try clear c4b1
              try clear c16
              try clear c44
              try clear c17
              try clear c9b0
              try clear c5b1
              try clear c18
              try clear c19
              try clear c10b0
              try clear c6b1
              try clear c20
              try clear c11b0
              try clear c7b1
              try clear c21
              try clear c12b0
              try clear c8b1
              try clear c52
              try clear c54
              try clear c56
              try clear c58
              try clear c22
              try clear c13b0
              try clear c9b1
              try clear c24
              try clear c14b0
              try clear c10b1
              try clear c26
              try clear c15b0
              try clear c11b1
              try clear c27
              try clear c16b0
              try clear c12b1
              try clear c28
              try clear c17b0
              try clear c13b1
              try clear i1_0 i1_1 i1_2 i1_3 i1_4
              try clear i2_0 i2_1 i2_2 i2_3 i2_4
              try clear i1_5 i1_6
              try clear i3_0 i3_1 i3_2 i3_3 i3_4
              try clear i4_0 i4_1 i4_2 i4_3 i4_4
              try clear i5_0 i5_1 i5_2 i5_3 i5_4
              try clear i2_5 i2_6
              try clear i6_0 i6_1 i6_2 i6_3 i6_4
              try clear i7_0 i7_1 i7_2 i7_3 i7_4
              try clear i3_5 i3_6
              try clear i8_0 i8_1 i8_2 i8_3 i8_4
              try clear i4_5 i4_6
              try clear i9_0 i9_1 i9_2 i9_3 i9_4
              try clear i5_5 i5_6
              try clear i11_0 i11_1 i11_2 i11_3 i11_4
              try clear i7_5 i7_6
              try clear i12_0 i12_1 i12_2 i12_3 i12_4
              try clear i8_5 i8_6
              try clear i13_0 i13_1 i13_2 i13_3 i13_4
              try clear i9_5 i9_6
              try clear i10_0 i10_1 i10_2 i10_3 i10_4
              try clear i6_5 i6_6
              try clear i14_0 i14_1 i14_2 i14_3 i14_4
              try clear i10_5 i10_6
              try clear i15_0 i15_1 i15_2 i15_3 i15_4
              try clear i11_5 i11_6
              try clear i16_0 i16_1 i16_2 i16_3 i16_4
              try clear i12_5 i12_6
              try clear i17_0 i17_1 i17_2 i17_3 i17_4
              try clear i13_5 i13_6
              try clear i18_0 i18_1 i18_2 i18_3 i18_4
              try clear i14_5 i14_6
              try clear j1_0 j1_1 j1_2 j1_3 j1_4
              try clear j2_0 j2_1 j2_2 j2_3 j2_4
              try clear j1_5 j1_6
              try clear j3_0 j3_1 j3_2 j3_3 j3_4
              try clear j4_0 j4_1 j4_2 j4_3 j4_4
              try clear j5_0 j5_1 j5_2 j5_3 j5_4
              try clear j2_5 j2_6
              try clear j6_0 j6_1 j6_2 j6_3 j6_4
              try clear j7_0 j7_1 j7_2 j7_3 j7_4
              try clear j3_5 j3_6
              try clear j8_0 j8_1 j8_2 j8_3 j8_4
              try clear j4_5 j4_6
              try clear j9_0 j9_1 j9_2 j9_3 j9_4
              try clear j5_5 j5_6
              try clear j11_0 j11_1 j11_2 j11_3 j11_4
              try clear j7_5 j7_6
              try clear j12_0 j12_1 j12_2 j12_3 j12_4
              try clear j8_5 j8_6
              try clear j13_0 j13_1 j13_2 j13_3 j13_4
              try clear j9_5 j9_6
              try clear j10_0 j10_1 j10_2 j10_3 j10_4
              try clear j6_5 j6_6
              try clear j14_0 j14_1 j14_2 j14_3 j14_4
              try clear j10_5 j10_6
              try clear j15_0 j15_1 j15_2 j15_3 j15_4
              try clear j11_5 j11_6
              try clear j16_0 j16_1 j16_2 j16_3 j16_4
              try clear j12_5 j12_6
              try clear j17_0 j17_1 j17_2 j17_3 j17_4
              try clear j13_5 j13_6
              try clear j18_0 j18_1 j18_2 j18_3 j18_4
              try clear j14_5 j14_6
              try clear hx1_0
              try clear hx1_1
              try clear hx1_2
              try clear hx1_3
              try clear hx1_4
              try clear hx1_5
              try clear hx1_6
              try clear p2
              try clear p3
              try clear p36
              try clear p1
              try clear q3
              try clear q36
              try clear q1
              obtain ⟨kq, x1_59, rfl, HA, HJ4, BK1, BK2, HB⟩ := hcut; cases kq with
              | zero => exact absurd HA.out (by simp [r9_fits.j3])
              | succ kj1 =>
               have H := HA.out; clear HA; simp only [r9_fits.j3] at H; by_cases c29 : x1_59 = true
               ·subst c29; have H1 : (if x1_7 = true then (if t1 = ((rd_T41 l0_0 a1).f1) then (some (t2 == ((rd_T41 l0_0 a1).f1))) else (some false)) else (some false)) = some r := by rw [if_pos rfl] at H; exact H
                clear H; have H := H1; clear H1; by_cases c30 : x1_7 = true
                ·subst c30; have H1 : (if t1 = ((rd_T41 l0_0 a1).f1) then (some (t2 == ((rd_T41 l0_0 a1).f1))) else (some false)) = some r := by rw [if_pos rfl] at H; exact H
                 clear H; have H := H1; clear H1; by_cases c32 : t1 = ((rd_T41 l0_0 a1).f1)
                 ·rw [if_pos c32] at H; obtain ⟨c18b0, c14b1⟩ := zeq c32; clear c32; exact z70_3
                 ·rw [if_neg c32] at H; obtain ⟨c18b0, c14b1⟩ := zne c32; exact z70_3
                ·replace c30 := Bool.eq_false_iff.mpr c30; subst c30; exact z70_9
               ·replace c29 := Bool.eq_false_iff.mpr c29; subst c29; have H1 : (if ((rd_T41 l0_0 a1).f0) = 12 then (r9_fits.j4 kj1 t1 t2 t3 x1_7 ((rd_T41 l0_0 a1).f0) (((rd_T41 l0_0 a1).f0) == 12) ((rd_T41 l0_0 a1).f0) ((rd_T41 l0_0 a1).f1) ((rd_T41 l0_0 a1).f2) ((rd_T41 l0_0 a1).f3) ((rd_T41 l0_0 a1).f4) ((rd_T41 l0_0 a1).f5) ((rd_T41 l0_0 a1).f6)) else (if ((rd_T41 l0_0 a1).f0) = 13 then (r9_fits.j4 kj1 t1 t2 t3 x1_7 ((rd_T41 l0_0 a1).f0) (((rd_T41 l0_0 a1).f0) == 13) ((rd_T41 l0_0 a1).f0) ((rd_T41 l0_0 a1).f1) ((rd_T41 l0_0 a1).f2) ((rd_T41 l0_0 a1).f3) ((rd_T41 l0_0 a1).f4) ((rd_T41 l0_0 a1).f5) ((rd_T41 l0_0 a1).f6)) else (if ((rd_T41 l0_0 a1).f0) = 14 then (r9_fits.j4 kj1 t1 t2 t3 x1_7 ((rd_T41 l0_0 a1).f0) (((rd_T41 l0_0 a1).f0) == 14) ((rd_T41 l0_0 a1).f0) ((rd_T41 l0_0 a1).f1) ((rd_T41 l0_0 a1).f2) ((rd_T41 l0_0 a1).f3) ((rd_T41 l0_0 a1).f4) ((rd_T41 l0_0 a1).f5) ((rd_T41 l0_0 a1).f6)) else (r9_fits.j4 kj1 t1 t2 t3 x1_7 ((rd_T41 l0_0 a1).f0) (((rd_T41 l0_0 a1).f0) == 15) ((rd_T41 l0_0 a1).f0) ((rd_T41 l0_0 a1).f1) ((rd_T41 l0_0 a1).f2) ((rd_T41 l0_0 a1).f3) ((rd_T41 l0_0 a1).f4) ((rd_T41 l0_0 a1).f5) ((rd_T41 l0_0 a1).f6))))) = some r := by rw [if_neg (show ¬ (false = true) by decide)] at H; exact H
                clear H; have H := H1; clear H1; have HC1 := aM H; clear H; go_upto_if 112 with (fail)
                repeat (go_quiet (fail); go_upto_if 112 with (fail))
                go_cut [112] (fun v1 wc => ∃ (kq : Nat) (x1_72 : Bool), v1 = .bool x1_72 ∧ Aside0 (r9_fits.j4 kq t1 t2 t3 x1_7 ((rd_T41 l0_0 a1).f0) x1_72 ((rd_T41 l0_0 a1).f0) ((rd_T41 l0_0 a1).f1) ((rd_T41 l0_0 a1).f2) ((rd_T41 l0_0 a1).f3) ((rd_T41 l0_0 a1).f4) ((rd_T41 l0_0 a1).f5) ((rd_T41 l0_0 a1).f6) = some r) ∧ Aside0 (kq ≤ kj1) ∧ Aside0 (wc.heap[gb1]? = some (.cells #[(.slice (some ad1) l0_0.length c0_0), (.slice A0_1 l0_1.length c0_1), (.slice A0_2 l0_2.length c0_2), (.slice A0_3 l0_3.length c0_3), (.slice A0_4 l0_4.length c0_4)] 27 (0, 0))) ∧ Aside0 (wc.heap[gb2]? = some (.cells #[.int .i64 ((rd_T41 l0_0 a1).f0), .int .i64 ((rd_T41 l0_0 a1).f1), .int .i64 ((rd_T41 l0_0 a1).f2), .int .i64 ((rd_T41 l0_0 a1).f3), .int .i64 ((rd_T41 l0_0 a1).f4), .int .i64 ((rd_T41 l0_0 a1).f5), .int .i64 ((rd_T41 l0_0 a1).f6)] 41 (0, 0))) ∧ Aside0 (Below w.heap.size w wc))
                case first => as_aux_lemma =>
                 have H := HC1.out; clear HC1; by_cases c30 : ((rd_T41 l0_0 a1).f0) = 12
                 ·rw [if_pos c30] at H; obtain ⟨c18b0, c14b1⟩ := zeq c30; clear c30; (first | rw [c18b0] | (simp only [i64_w, i32_w]; rw [c18b0]) | skip)
                  have H' := aM H; clear H; go_wp2
                  repeat (go_quiet (fail); try go_wp2)
                  go_meet
                  case rel => exact ⟨_, ((((rd_T41 l0_0 a1).f0) == 12)), q13z, H', ⟨q80z HJ1 HJ2 HJ3 HJ4⟩, ⟨q10z BK1⟩, ⟨q10z BK2⟩, ⟨q5z HB GE1 GE2⟩⟩
                 ·rw [if_neg c30] at H; obtain ⟨c18b0, c14b1⟩ := zne c30; (first | rw [c18b0] | (simp only [i64_w, i32_w]; rw [c18b0]) | skip)
                  by_cases c30 : ((rd_T41 l0_0 a1).f0) = 13
                  ·rw [if_pos c30] at H; obtain ⟨c18b0, c14b1⟩ := zeq c30; clear c30; have H' := aM H; clear H; go_wp2
                   repeat (go_quiet (fail); try go_wp2)
                   go_meet
                   case rel => exact ⟨_, ((((rd_T41 l0_0 a1).f0) == 13)), q13z, H', ⟨q80z HJ1 HJ2 HJ3 HJ4⟩, ⟨q10z BK1⟩, ⟨q10z BK2⟩, ⟨q5z HB GE1 GE2⟩⟩
                  ·rw [if_neg c30] at H; obtain ⟨c18b0, c14b1⟩ := zne c30; by_cases c30 : ((rd_T41 l0_0 a1).f0) = 14
                   ·rw [if_pos c30] at H; obtain ⟨c18b0, c14b1⟩ := zeq c30; clear c30; have H' := aM H; clear H; go_wp2
                    repeat (go_quiet (fail); try go_wp2)
                    go_meet
                    case rel => exact ⟨_, ((((rd_T41 l0_0 a1).f0) == 14)), q13z, H', ⟨q80z HJ1 HJ2 HJ3 HJ4⟩, ⟨q10z BK1⟩, ⟨q10z BK2⟩, ⟨q5z HB GE1 GE2⟩⟩
                   ·rw [if_neg c30] at H; obtain ⟨c18b0, c14b1⟩ := zne c30; have H' := aM H; clear H; go_wp2
                    repeat (go_quiet (fail); try go_wp2)
                    go_meet
                    case rel => exact ⟨_, ((((rd_T41 l0_0 a1).f0) == 15)), q13z, H', ⟨q80z HJ1 HJ2 HJ3 HJ4⟩, ⟨q10z BK1⟩, ⟨q10z BK2⟩, ⟨q5z HB GE1 GE2⟩⟩
                case rest => as_aux_lemma =>
                 clear HC1; try clear c1
                 try clear c2
                 try clear p2
                 try clear c3
                 try clear c1b0
                 try clear p3
                 try clear q3
                 try clear hx3
                 try clear c4
                 try clear c2b0
                 try clear c5
                 try clear c6
                 try clear c7
                 try clear c12
                 try clear c8
                 try clear c3b0
                 try clear c1b1
                 try clear c23
                 try clear c25
                 try clear c9
                 try clear c4b0
                 try clear c2b1
                 try clear c10
                 try clear c5b0
                 try clear c11
                 try clear c6b0
                 try clear c31
                 try clear c33
                 try clear c35
                 try clear p36
                 try clear q36
                 try clear hx36
                 try clear c38
                 try clear c13
                 try clear c7b0
                 try clear c3b1
                 try clear c14
                 try clear c15
                 try clear c8b0
                 try clear c4b1
                 try clear c16
                 try clear c44
                 try clear c17
                 try clear c9b0
                 try clear c5b1
                 try clear c18
                 try clear c19
                 try clear c10b0
                 try clear c6b1
                 try clear c20
                 try clear c11b0
                 try clear c7b1
                 try clear c21
                 try clear c12b0
                 try clear c8b1
                 try clear c52
                 try clear c54
                 try clear c56
                 try clear c58
                 try clear c22
                 try clear c13b0
                 try clear c9b1
                 try clear c24
                 try clear c14b0
                 try clear c10b1
                 try clear c26
                 try clear c15b0
                 try clear c11b1
                 try clear c27
                 try clear c16b0
                 try clear c12b1
                 try clear c28
                 try clear c17b0
                 try clear c13b1
                 try clear c29
                 try clear c8
                 try clear c8
                 try clear c1b0
                 try clear c1b1
                 try clear c69
                 try clear c71
                 try clear c8
                 try clear c1b0
                 try clear c1b1
                 try clear c8
                 try clear c1b0
                 try clear c1b1
                 try clear c8
                 try clear c1b0
                 try clear c1b1
                 try clear i1_0 i1_1 i1_2 i1_3 i1_4
                 try clear i2_0 i2_1 i2_2 i2_3 i2_4
                 try clear i1_5 i1_6
                 try clear i3_0 i3_1 i3_2 i3_3 i3_4
                 try clear i4_0 i4_1 i4_2 i4_3 i4_4
                 try clear i5_0 i5_1 i5_2 i5_3 i5_4
                 try clear i2_5 i2_6
                 try clear i6_0 i6_1 i6_2 i6_3 i6_4
                 try clear i7_0 i7_1 i7_2 i7_3 i7_4
                 try clear i3_5 i3_6
                 try clear i8_0 i8_1 i8_2 i8_3 i8_4
                 try clear i4_5 i4_6
                 try clear i9_0 i9_1 i9_2 i9_3 i9_4
                 try clear i5_5 i5_6
                 try clear i11_0 i11_1 i11_2 i11_3 i11_4
                 try clear i7_5 i7_6
                 try clear i12_0 i12_1 i12_2 i12_3 i12_4
                 try clear i8_5 i8_6
                 try clear i13_0 i13_1 i13_2 i13_3 i13_4
                 try clear i9_5 i9_6
                 try clear i10_0 i10_1 i10_2 i10_3 i10_4
                 try clear i6_5 i6_6
                 try clear i14_0 i14_1 i14_2 i14_3 i14_4
                 try clear i10_5 i10_6
                 try clear i15_0 i15_1 i15_2 i15_3 i15_4
                 try clear i11_5 i11_6
                 try clear i16_0 i16_1 i16_2 i16_3 i16_4
                 try clear i12_5 i12_6
                 try clear i17_0 i17_1 i17_2 i17_3 i17_4
                 try clear i13_5 i13_6
                 try clear i18_0 i18_1 i18_2 i18_3 i18_4
                 try clear i14_5 i14_6
                 try clear i1_0 i1_1 i1_2 i1_3 i1_4 i1_5 i1_6 i1_0 i1_1 i1_2 i1_3 i1_4 i1_5 i1_6 j1_0 j1_1 j1_2 j1_3 j1_4
                 try clear j2_0 j2_1 j2_2 j2_3 j2_4
                 try clear j1_5 j1_6
                 try clear j3_0 j3_1 j3_2 j3_3 j3_4
                 try clear j4_0 j4_1 j4_2 j4_3 j4_4
                 try clear j5_0 j5_1 j5_2 j5_3 j5_4
                 try clear j2_5 j2_6
                 try clear j6_0 j6_1 j6_2 j6_3 j6_4
                 try clear j7_0 j7_1 j7_2 j7_3 j7_4
                 try clear j3_5 j3_6
                 try clear j8_0 j8_1 j8_2 j8_3 j8_4
                 try clear j4_5 j4_6
                 try clear j9_0 j9_1 j9_2 j9_3 j9_4
                 try clear j5_5 j5_6
                 try clear j11_0 j11_1 j11_2 j11_3 j11_4
                 try clear j7_5 j7_6
                 try clear j12_0 j12_1 j12_2 j12_3 j12_4
                 try clear j8_5 j8_6
                 try clear j13_0 j13_1 j13_2 j13_3 j13_4
                 try clear j9_5 j9_6
                 try clear j10_0 j10_1 j10_2 j10_3 j10_4
                 try clear j6_5 j6_6
                 try clear j14_0 j14_1 j14_2 j14_3 j14_4
                 try clear j10_5 j10_6
                 try clear j15_0 j15_1 j15_2 j15_3 j15_4
                 try clear j11_5 j11_6
                 try clear j16_0 j16_1 j16_2 j16_3 j16_4
                 try clear j12_5 j12_6
                 try clear j17_0 j17_1 j17_2 j17_3 j17_4
                 try clear j13_5 j13_6
                 try clear j18_0 j18_1 j18_2 j18_3 j18_4
                 try clear j14_5 j14_6
                 try clear j1_0 j1_1 j1_2 j1_3 j1_4 j1_5 j1_6 j1_0 j1_1 j1_2 j1_3 j1_4 j1_5 j1_6
                 try clear hx1_0
                 try clear hx1_1
                 try clear hx1_2
                 try clear hx1_3
                 try clear hx1_4
                 try clear hx1_5
                 try clear hx1_6
                 try clear p2
                 try clear p3
                 try clear p36
                 try clear p1
                 try clear q3
                 try clear q36
                 try clear q1
                 obtain ⟨kq, x1_72, rfl, HA, HJ1, BK1, BK2, HB⟩ := hcut; cases kq with
                 | zero => exact absurd HA.out (by simp [r9_fits.j4])
                 | succ kj1 =>
                  have H := HA.out; clear HA; simp only [r9_fits.j4] at H; by_cases c8 : x1_72 = true
                  ·subst c8; have H1 : (if ((rd_T41 l0_0 a1).f5) = 0 then (if ((rd_T41 l0_0 a1).f1) = 1 then (if t1 = ((rd_T41 l0_0 a1).f6) then (if t2 = ((rd_T41 l0_0 a1).f6) then (some (decide (t1 > 0))) else (some false)) else (some false)) else (some false)) else (some false)) = some r := by rw [if_pos rfl] at H; exact H
                   clear H; have H := H1; clear H1; by_cases c9 : ((rd_T41 l0_0 a1).f5) = 0
                   ·rw [if_pos c9] at H; obtain ⟨c1b0, c1b1⟩ := zeq c9; clear c9; by_cases c10 : ((rd_T41 l0_0 a1).f1) = 1
                    ·rw [if_pos c10] at H; obtain ⟨c1b0, c1b1⟩ := zeq c10; clear c10; by_cases c11 : t1 = ((rd_T41 l0_0 a1).f6)
                     ·rw [if_pos c11] at H; obtain ⟨c1b0, c1b1⟩ := zeq c11; clear c11; by_cases c13 : t2 = ((rd_T41 l0_0 a1).f6)
                      ·rw [if_pos c13] at H; obtain ⟨c1b0, c1b1⟩ := zeq c13; clear c13; exact z70_8
                      ·rw [if_neg c13] at H; obtain ⟨c1b0, c1b1⟩ := zne c13; exact z70_8
                     ·exact z70_2
                    ·rw [if_neg c10] at H; obtain ⟨c1b0, c1b1⟩ := zne c10; exact z70_8
                   ·rw [if_neg c9] at H; obtain ⟨c1b0, c1b1⟩ := zne c9; exact z70_8
                  ·replace c8 := Bool.eq_false_iff.mpr c8; subst c8; have H1 : (if ((rd_T41 l0_0 a1).f0) = 16 then (if x1_7 = true then (if t1 = 1 then (if t2 = ((rd_T41 l0_0 a1).f1) then (some (t3 == ((rd_T41 l0_0 a1).f1))) else (some false)) else (some false)) else (some false)) else (if ((rd_T41 l0_0 a1).f0) = 17 then (if x1_7 = true then (if t1 > 0 then (if t2 > 0 then (some ((wrap64 (t1 + t2)) == ((rd_T41 l0_0 a1).f1))) else (some false)) else (some false)) else (some false)) else (if ((rd_T41 l0_0 a1).f6) ≥ 0 then (if ((rd_T41 l0_0 a1).f6) ≤ ((rd_T41 l0_0 a1).f5) then (if ((rd_T41 l0_0 a1).f5) < t1 then (some (((rd_T41 l0_0 a1).f1) == (wrap64 ((wrap64 (((rd_T41 l0_0 a1).f5) - ((rd_T41 l0_0 a1).f6))) + 1)))) else (some false)) else (some false)) else (some false)))) = some r := by rw [if_neg (show ¬ (false = true) by decide)] at H; exact H
                   clear H; have H := H1; clear H1; by_cases c8 : ((rd_T41 l0_0 a1).f0) = 16
                   ·rw [if_pos c8] at H; obtain ⟨c1b0, c1b1⟩ := zeq c8; clear c8; by_cases c9 : x1_7 = true
                    ·subst c9; have H1 : (if t1 = 1 then (if t2 = ((rd_T41 l0_0 a1).f1) then (some (t3 == ((rd_T41 l0_0 a1).f1))) else (some false)) else (some false)) = some r := by rw [if_pos rfl] at H; exact H
                     clear H; have H := H1; clear H1; by_cases c10 : t1 = 1
                     ·rw [if_pos c10] at H; obtain ⟨c1b0, c1b1⟩ := zeq c10; clear c10; by_cases c11 : t2 = ((rd_T41 l0_0 a1).f1)
                      ·rw [if_pos c11] at H; obtain ⟨c1b0, c1b1⟩ := zeq c11; exact z70_6
                      ·exact z70_2
                     ·rw [if_neg c10] at H; obtain ⟨c1b0, c1b1⟩ := zne c10; exact z70_11
                    ·exact z70_5
                   ·rw [if_neg c8] at H; obtain ⟨c1b0, c1b1⟩ := zne c8; by_cases c8 : ((rd_T41 l0_0 a1).f0) = 17
                    ·rw [if_pos c8] at H; obtain ⟨c1b0, c1b1⟩ := zeq c8; clear c8; by_cases c9 : x1_7 = true
                     ·subst c9; have H1 : (if t1 > 0 then (if t2 > 0 then (some ((wrap64 (t1 + t2)) == ((rd_T41 l0_0 a1).f1))) else (some false)) else (some false)) = some r := by rw [if_pos rfl] at H; exact H
                      clear H; have H := H1; clear H1; by_cases c10 : t1 > 0
                      ·rw [if_pos c10] at H; have c1b0 : decide (0 < t1) = true := decide_eq_true c10; clear c10; by_cases c11 : t2 > 0
                       ·rw [if_pos c11] at H; have c1b0 : decide (0 < t2) = true := decide_eq_true c11; exact z70_6
                       ·rw [if_neg c11] at H; have c1b0 : decide (0 < t2) = false := decide_eq_false c11; clear c11; exact z70_11
                      ·rw [if_neg c10] at H; have c1b0 : decide (0 < t1) = false := decide_eq_false c10; clear c10; exact z70_11
                     ·exact z70_5
                    ·rw [if_neg c8] at H; obtain ⟨c1b0, c1b1⟩ := zne c8; by_cases c8 : ((rd_T41 l0_0 a1).f6) ≥ 0
                     ·rw [if_pos c8] at H; have c1b0 : decide (0 ≤ ((rd_T41 l0_0 a1).f6)) = true := decide_eq_true c8; clear c8; by_cases c9 : ((rd_T41 l0_0 a1).f6) ≤ ((rd_T41 l0_0 a1).f5)
                      ·rw [if_pos c9] at H; have c1b0 := decide_eq_true c9; clear c9; by_cases c10 : ((rd_T41 l0_0 a1).f5) < t1
                       ·rw [if_pos c10] at H; have c1b0 := decide_eq_true c10; exact z70_7
                       ·rw [if_neg c10] at H; have c1b0 := decide_eq_false c10; exact z70_7
                      ·rw [if_neg c9] at H; have c1b0 := decide_eq_false c9; clear c9; exact z70_8
                     ·rw [if_neg c8] at H; have c1b0 : decide (0 ≤ ((rd_T41 l0_0 a1).f6)) = false := decide_eq_false c8; clear c8; exact z70_8
  ·rw [if_neg c4] at H; exact absurd H (by simp)
 ·rw [if_neg c3] at H; exact absurd H (by simp)
end Go.Proofs.Yteblbknmikieoaa.Xb
namespace Go.Proofs.Yteblbknmikieoaa.Xb
open Go.RowKit Go.Proofs.YteblbknmikieoaaW.PrintWords Go.Proofs.YteblbknmikieoaaW.PrintLast Go.Proofs.YteblbknmikieoaaW.PrintMore
attribute [local go_sem] max2_int min2_int max_two min_two max_three min_three max_four min_four
set_option linter.unusedVariables false
set_option linter.unusedSimpArgs false
theorem cells5_71 {w : World} {g : Nat} {t : TypeId} {x0 x1 x2 x3 x4 : Value} (h : w.heap[g]? = some (.cells #[x0, x1, x2, x3, x4] t (0, 0))) : w.cell? ⟨g, 0, none⟩ = some x0 ∧ w.cell? ⟨g, 1, none⟩ = some x1 ∧ w.cell? ⟨g, 2, none⟩ = some x2 ∧ w.cell? ⟨g, 3, none⟩ = some x3 ∧ w.cell? ⟨g, 4, none⟩ = some x4 ∧ w.frozen? ⟨g, 0, none⟩ = false ∧ w.frozen? ⟨g, 1, none⟩ = false ∧ w.frozen? ⟨g, 2, none⟩ = false ∧ w.frozen? ⟨g, 3, none⟩ = false ∧ w.frozen? ⟨g, 4, none⟩ = false := ⟨(blk_cell h 0).trans rfl, (blk_cell h 1).trans rfl, (blk_cell h 2).trans rfl, (blk_cell h 3).trans rfl, (blk_cell h 4).trans rfl, blk_frozen h 0, blk_frozen h 1, blk_frozen h 2, blk_frozen h 3, blk_frozen h 4⟩
theorem cells7_71 {w : World} {g : Nat} {t : TypeId} {x0 x1 x2 x3 x4 x5 x6 : Value} (h : w.heap[g]? = some (.cells #[x0, x1, x2, x3, x4, x5, x6] t (0, 0))) : w.cell? ⟨g, 0, none⟩ = some x0 ∧ w.cell? ⟨g, 1, none⟩ = some x1 ∧ w.cell? ⟨g, 2, none⟩ = some x2 ∧ w.cell? ⟨g, 3, none⟩ = some x3 ∧ w.cell? ⟨g, 4, none⟩ = some x4 ∧ w.cell? ⟨g, 5, none⟩ = some x5 ∧ w.cell? ⟨g, 6, none⟩ = some x6 ∧ w.frozen? ⟨g, 0, none⟩ = false ∧ w.frozen? ⟨g, 1, none⟩ = false ∧ w.frozen? ⟨g, 2, none⟩ = false ∧ w.frozen? ⟨g, 3, none⟩ = false ∧ w.frozen? ⟨g, 4, none⟩ = false ∧ w.frozen? ⟨g, 5, none⟩ = false ∧ w.frozen? ⟨g, 6, none⟩ = false := ⟨(blk_cell h 0).trans rfl, (blk_cell h 1).trans rfl, (blk_cell h 2).trans rfl, (blk_cell h 3).trans rfl, (blk_cell h 4).trans rfl, (blk_cell h 5).trans rfl, (blk_cell h 6).trans rfl, blk_frozen h 0, blk_frozen h 1, blk_frozen h 2, blk_frozen h 3, blk_frozen h 4, blk_frozen h 5, blk_frozen h 6⟩
def r9_node.j0 : Nat → Int → Bool → List (S41) → List (S47) → List (S43) → List (S61) → List (S47) → Option (Bool)
 | 0, _, _, _, _, _, _, _ => none
 | k + 1, x1, x53, x369000, x369001, x369002, x369003, x369004 => if x53 = true then (some false) else ((r9_fits.f k x369000 x369001 x369002 x369003 x369004 x1).bind fun t372 => (some t372))
def r9_node.f (k : Nat) (l0_0 : List (S41)) (l0_1 : List (S47)) (l0_2 : List (S43)) (l0_3 : List (S61)) (l0_4 : List (S47)) (a1 : Int) : Option (Bool) := if 0 ≤ a1 then (if a1 < (l0_0.length : Int) then ((r9_operands.f k ((rd_T41 l0_0 a1).f0)).bind fun t371 => (if ((rd_T41 l0_0 a1).f1) < 1 then (r9_node.j0 k a1 true l0_0 l0_1 l0_2 l0_3 l0_4) else (if ((rd_T41 l0_0 a1).f1) > 16 then (r9_node.j0 k a1 true l0_0 l0_1 l0_2 l0_3 l0_4) else (if t371 < 0 then (r9_node.j0 k a1 true l0_0 l0_1 l0_2 l0_3 l0_4) else (if t371 < 1 then (if ((rd_T41 l0_0 a1).f2) = 0 then (if t371 < 2 then (if ((rd_T41 l0_0 a1).f3) = 0 then (if t371 < 3 then (r9_node.j0 k a1 (((rd_T41 l0_0 a1).f4) != 0) l0_0 l0_1 l0_2 l0_3 l0_4) else (r9_node.j0 k a1 false l0_0 l0_1 l0_2 l0_3 l0_4)) else (r9_node.j0 k a1 true l0_0 l0_1 l0_2 l0_3 l0_4)) else (if t371 < 3 then (r9_node.j0 k a1 (((rd_T41 l0_0 a1).f4) != 0) l0_0 l0_1 l0_2 l0_3 l0_4) else (r9_node.j0 k a1 false l0_0 l0_1 l0_2 l0_3 l0_4))) else (r9_node.j0 k a1 true l0_0 l0_1 l0_2 l0_3 l0_4)) else (if t371 < 2 then (if ((rd_T41 l0_0 a1).f3) = 0 then (if t371 < 3 then (r9_node.j0 k a1 (((rd_T41 l0_0 a1).f4) != 0) l0_0 l0_1 l0_2 l0_3 l0_4) else (r9_node.j0 k a1 false l0_0 l0_1 l0_2 l0_3 l0_4)) else (r9_node.j0 k a1 true l0_0 l0_1 l0_2 l0_3 l0_4)) else (if t371 < 3 then (r9_node.j0 k a1 (((rd_T41 l0_0 a1).f4) != 0) l0_0 l0_1 l0_2 l0_3 l0_4) else (r9_node.j0 k a1 false l0_0 l0_1 l0_2 l0_3 l0_4)))))))) else (none)) else (none)
theorem r9_node.mono_l : ∀ k, (∀ y0 y1 y2 y3 y4 y5 y6, LeO (r9_node.j0 k y0 y1 y2 y3 y4 y5 y6) (r9_node.j0 (k + 1) y0 y1 y2 y3 y4 y5 y6))
 | 0 => fun _ _ _ _ _ _ _ r h => by simp [r9_node.j0] at h
 | k + 1 => by
  have ih0 := r9_node.mono_l k
  ·intro y0 y1 y2 y3 y4 y5 y6
   unfold r9_node.j0
   repeat' first
   | (with_reducible exact ih0 _ _ _ _ _ _ _)
   | (with_reducible exact r9_fits.mono _ _ _ _ _ _ _)
   | (with_reducible exact r9_operands.mono _ _)
   | (with_reducible exact LeO.refl _)
   | (with_reducible exact LeO.none _)
   | (with_reducible refine LeO.ite ?_ ?_)
   | (with_reducible refine LeO.bind ?_ (fun _ => ?_))
   | exact ih0 _ _ _ _ _ _ _
   | exact r9_fits.mono _ _ _ _ _ _ _
   | exact r9_operands.mono _ _
   | exact LeO.none _
   | refine LeO.ite ?_ ?_
   | refine LeO.bind ?_ (fun _ => ?_)
theorem r9_node.mono : ∀ a0 a1 a2 a3 a4 a5 k, LeO (r9_node.f k a0 a1 a2 a3 a4 a5) (r9_node.f (k + 1) a0 a1 a2 a3 a4 a5) := by
 intro a0 a1 a2 a3 a4 a5 k
 have ih1 := r9_node.mono_l k; unfold r9_node.f
 repeat' first
   | (with_reducible exact ih1 _ _ _ _ _ _ _)
   | (with_reducible exact r9_fits.mono _ _ _ _ _ _ _)
   | (with_reducible exact r9_operands.mono _ _)
   | (with_reducible exact LeO.refl _)
   | (with_reducible exact LeO.none _)
   | (with_reducible refine LeO.ite ?_ ?_)
   | (with_reducible refine LeO.bind ?_ (fun _ => ?_))
   | exact ih1 _ _ _ _ _ _ _
   | exact r9_fits.mono _ _ _ _ _ _ _
   | exact r9_operands.mono _ _
   | exact LeO.none _
   | refine LeO.ite ?_ ?_
   | refine LeO.bind ?_ (fun _ => ?_)
theorem z71_6 {P : Prop} (h : P := by
 have H' := aM H; clear H; have hnb1 := NB1_368.out; have hnc1 := NB1_370.out; obtain ⟨i3_0, i3_1, i3_2, i3_3, i3_4, i2_5, i2_6, j3_0, j3_1, j3_2, j3_3, j3_4, j2_5, j2_6⟩ := cells7_71 BK2.out; go_wp2
 go_meet
 case rel => exact ⟨_, (true), q13z, H', ⟨q51z⟩, ⟨q8z NB1_370 BK1⟩, ⟨q6z BK2⟩, ⟨q5z HB GE1 GE2⟩⟩) : P := h
theorem z71_3 {P : Prop} (h : P := by
 clear c6; exact z71_6) : P := h
theorem z71_4 {P : Prop} (h : P := by
 have H' := aM H; clear H; have hnb1 := NB1_368.out; have hnc1 := NB1_370.out; obtain ⟨i3_0, i3_1, i3_2, i3_3, i3_4, i2_5, i2_6, j3_0, j3_1, j3_2, j3_3, j3_4, j2_5, j2_6⟩ := cells7_71 BK2.out; go_wp2
 go_meet
 case rel => exact ⟨_, ((((rd_T41 l0_0 a1).f4) != 0)), q13z, H', ⟨q51z⟩, ⟨q8z NB1_370 BK1⟩, ⟨q6z BK2⟩, ⟨q5z HB GE1 GE2⟩⟩) : P := h
theorem z71_5 {P : Prop} (h : P := by
 have H' := aM H; clear H; have hnb1 := NB1_368.out; have hnc1 := NB1_370.out; obtain ⟨i3_0, i3_1, i3_2, i3_3, i3_4, i2_5, i2_6, j3_0, j3_1, j3_2, j3_3, j3_4, j2_5, j2_6⟩ := cells7_71 BK2.out; go_wp2
 go_meet
 case rel => exact ⟨_, (false), q13z, H', ⟨q51z⟩, ⟨q8z NB1_370 BK1⟩, ⟨q6z BK2⟩, ⟨q5z HB GE1 GE2⟩⟩) : P := h
theorem z71_1 {P : Prop} (h : P := by
 by_cases c8 : t1 < 3
 ·rw [if_pos c8] at H; have c3b0 := decide_eq_true c8; clear c8; exact z71_4
 ·rw [if_neg c8] at H; have c3b0 := decide_eq_false c8; clear c8; exact z71_5) : P := h
theorem z71_2 {P : Prop} (h : P := by
 rw [if_neg c7] at H; obtain ⟨c3b0, c1b1⟩ := zne c7; exact z71_6) : P := h
set_option maxHeartbeats 8000000 in
set_option maxRecDepth 100000 in
theorem r9_node.calls (k : Nat) (A0_0 : Option Addr) (c0_0 : Nat) (l0_0 : List (S41)) (A0_1 : Option Addr) (c0_1 : Nat) (l0_1 : List (S47)) (A0_2 : Option Addr) (c0_2 : Nat) (l0_2 : List (S43)) (A0_3 : Option Addr) (c0_3 : Nat) (l0_3 : List (S61)) (A0_4 : Option Addr) (c0_4 : Nat) (l0_4 : List (S47)) (a1 : Int) (r : Bool) (w : World) (hr0_0 : Kd.C k41 w A0_0 l0_0.length l0_0) (hc0_0 : l0_0.length ≤ c0_0) (hr0_1 : Kd.C k47 w A0_1 l0_1.length l0_1) (hc0_1 : l0_1.length ≤ c0_1) (hr0_2 : Kd.C k43 w A0_2 l0_2.length l0_2) (hc0_2 : l0_2.length ≤ c0_2) (hr0_3 : Kd.C k61 w A0_3 l0_3.length l0_3) (hc0_3 : l0_3.length ≤ c0_3) (hr0_4 : Kd.C k47 w A0_4 l0_4.length l0_4) (hc0_4 : l0_4.length ≤ c0_4) (h : r9_node.f k l0_0 l0_1 l0_2 l0_3 l0_4 a1 = some r) :
  Calls Try.prog 37 #[.agg #[.slice A0_0 l0_0.length c0_0, .slice A0_1 l0_1.length c0_1, .slice A0_2 l0_2.length c0_2, .slice A0_3 l0_3.length c0_3, .slice A0_4 l0_4.length c0_4], .int .i64 a1] w fun e w' => e = .returned (.bool r) ∧ Below w.heap.size w w' := by
 have hu1 := Try.underlying27; have hu1 := Try.underlying41; have HR1_0 := aM hr0_0; have HC1_0 := aM hc0_0; clear hr0_0 hc0_0; have HR1_1 := aM hr0_1; have HC1_1 := aM hc0_1; clear hr0_1 hc0_1; have HR1_2 := aM hr0_2; have HC1_2 := aM hc0_2; clear hr0_2 hc0_2; have HR1_3 := aM hr0_3; have HC1_3 := aM hc0_3; clear hr0_3 hc0_3; have HR1_4 := aM hr0_4; have HC1_4 := aM hc0_4; clear hr0_4 hc0_4; have HB := aM (Below.refl w.heap.size w); have H : (if 0 ≤ a1 then (if a1 < (l0_0.length : Int) then ((r9_operands.f k ((rd_T41 l0_0 a1).f0)).bind fun t1 => (if ((rd_T41 l0_0 a1).f1) < 1 then (r9_node.j0 k a1 true l0_0 l0_1 l0_2 l0_3 l0_4) else (if ((rd_T41 l0_0 a1).f1) > 16 then (r9_node.j0 k a1 true l0_0 l0_1 l0_2 l0_3 l0_4) else (if t1 < 0 then (r9_node.j0 k a1 true l0_0 l0_1 l0_2 l0_3 l0_4) else (if t1 < 1 then (if ((rd_T41 l0_0 a1).f2) = 0 then (if t1 < 2 then (if ((rd_T41 l0_0 a1).f3) = 0 then (if t1 < 3 then (r9_node.j0 k a1 (((rd_T41 l0_0 a1).f4) != 0) l0_0 l0_1 l0_2 l0_3 l0_4) else (r9_node.j0 k a1 false l0_0 l0_1 l0_2 l0_3 l0_4)) else (r9_node.j0 k a1 true l0_0 l0_1 l0_2 l0_3 l0_4)) else (if t1 < 3 then (r9_node.j0 k a1 (((rd_T41 l0_0 a1).f4) != 0) l0_0 l0_1 l0_2 l0_3 l0_4) else (r9_node.j0 k a1 false l0_0 l0_1 l0_2 l0_3 l0_4))) else (r9_node.j0 k a1 true l0_0 l0_1 l0_2 l0_3 l0_4)) else (if t1 < 2 then (if ((rd_T41 l0_0 a1).f3) = 0 then (if t1 < 3 then (r9_node.j0 k a1 (((rd_T41 l0_0 a1).f4) != 0) l0_0 l0_1 l0_2 l0_3 l0_4) else (r9_node.j0 k a1 false l0_0 l0_1 l0_2 l0_3 l0_4)) else (r9_node.j0 k a1 true l0_0 l0_1 l0_2 l0_3 l0_4)) else (if t1 < 3 then (r9_node.j0 k a1 (((rd_T41 l0_0 a1).f4) != 0) l0_0 l0_1 l0_2 l0_3 l0_4) else (r9_node.j0 k a1 false l0_0 l0_1 l0_2 l0_3 l0_4)))))))) else (none)) else (none)) = some r := h; clear h; by_cases c3 : 0 ≤ a1
 ·rw [if_pos c3] at H; have c1b0 := decide_eq_true c3; clear c3; by_cases c4 : a1 < (l0_0.length : Int)
  ·rw [if_pos c4] at H; have c2b0 := decide_eq_true c4; clear c4; replace H := Option.bind_eq_some_iff.mp H; obtain ⟨t1, A1, H⟩ := H; have A2 := aM A1; clear A1; have HC1 := aM H; clear H; go_enter Try.func37, Try.ntmps37
   go_upto_region 3 with (first | ((with_reducible refine zgd 2 rfl ?_); refine zbox 2 #[.slice A0_0 l0_0.length c0_0, .slice A0_1 l0_1.length c0_1, .slice A0_2 l0_2.length c0_2, .slice A0_3 l0_3.length c0_3, .slice A0_4 l0_4.length c0_4] 27 ?_; intro gb1 hg w1 hbox hb; have BK1 := aM (hbox); have GW1 := aM ((q7z HB : w.heap.size ≤ gb1)); have GE1 := aM ((q7z HB : w.heap.size ≤ gb1)); replace HB := aM (ym (q4z HB) hb); clear hb hbox hg; obtain ⟨i1_0, i1_1, i1_2, i1_3, i1_4, j1_0, j1_1, j1_2, j1_3, j1_4⟩ := cells5_71 BK1.out; have p1 : 0 ≤ (a1 : Int) := zod; have q1 : a1 < (l0_0.length : Int) := zod; obtain ⟨ad1, e1, hx1_0, hx1_1, hx1_2, hx1_3, hx1_4, hx1_5, hx1_6⟩ := at_T41 HR1_0.out a1 p1 q1; cases e1; replace hx1_0 := zx HB hx1_0; replace hx1_1 := zx HB hx1_1; replace hx1_2 := zx HB hx1_2; replace hx1_3 := zx HB hx1_3; replace hx1_4 := zx HB hx1_4; replace hx1_5 := zx HB hx1_5; replace hx1_6 := zx HB hx1_6; replace p1 := eq_true p1; replace q1 := eq_true q1) | ((with_reducible refine zgd 5 rfl ?_); refine zbox 5 #[.int .i64 0, .int .i64 0, .int .i64 0, .int .i64 0, .int .i64 0, .int .i64 0, .int .i64 0] 41 ?_; intro gb2 hg w2 hbox hb; have BK2 := aM (hbox); have GW2 := aM ((q14z HB GE1 : w.heap.size ≤ gb2)); have GE2 := aM ((q14z HB GE1 : w.heap.size ≤ gb2)); replace HB := aM (ym (q3z HB GE1) hb); have NB1_370 := aM ((q38z BK1 : gb1 ≠ gb2)); have NB1_368 := aM ((q39z BK1 : gb2 ≠ gb1)); replace BK1 := aM (yi (zi BK1) hb); clear hb hbox hg; have hnb1 := NB1_368.out; have hnc1 := NB1_370.out; obtain ⟨i2_0, i2_1, i2_2, i2_3, i2_4, i1_5, i1_6, j2_0, j2_1, j2_2, j2_3, j2_4, j1_5, j1_6⟩ := cells7_71 BK2.out) | ((with_reducible refine zgc 51 rfl ?_); refine zgl (some 14) Try.func51 #[.int .i64 ((rd_T41 l0_0 a1).f0)] ?_; (with_reducible refine (r9_operands.calls k ((rd_T41 l0_0 a1).f0) t1 _ A2.out).mono ?_); rintro e w' ⟨rfl, ⟨nd, rfl⟩⟩; refine ⟨_, rfl, ?_⟩))
   (try simp only [Act.put, yu, yv, yw])
   go_cut [53] (fun v1 wc => ∃ (kq : Nat) (x1_5 : Bool), v1 = .bool x1_5 ∧ Aside0 (r9_node.j0 kq a1 x1_5 l0_0 l0_1 l0_2 l0_3 l0_4 = some r) ∧ Aside0 (kq ≤ k) ∧ Aside0 (wc.heap[gb1]? = some (.cells #[(.slice (some ad1) l0_0.length c0_0), (.slice A0_1 l0_1.length c0_1), (.slice A0_2 l0_2.length c0_2), (.slice A0_3 l0_3.length c0_3), (.slice A0_4 l0_4.length c0_4)] 27 (0, 0))) ∧ Aside0 (wc.heap[gb2]? = some (.cells #[.int .i64 ((rd_T41 l0_0 a1).f0), .int .i64 ((rd_T41 l0_0 a1).f1), .int .i64 ((rd_T41 l0_0 a1).f2), .int .i64 ((rd_T41 l0_0 a1).f3), .int .i64 ((rd_T41 l0_0 a1).f4), .int .i64 ((rd_T41 l0_0 a1).f5), .int .i64 ((rd_T41 l0_0 a1).f6)] 41 (0, 0))) ∧ Aside0 (Below w.heap.size w wc))
   case first =>
    have H := HC1.out; clear HC1; by_cases c6 : ((rd_T41 l0_0 a1).f1) < 1
    ·rw [if_pos c6] at H; have c3b0 := decide_eq_true c6; clear c6; (first | rw [c3b0] | (simp only [i64_w, i32_w]; rw [c3b0]) | skip)
     exact z71_6
    ·rw [if_neg c6] at H; have c3b0 := decide_eq_false c6; clear c6; (first | rw [c3b0] | (simp only [i64_w, i32_w]; rw [c3b0]) | skip)
     by_cases c6 : ((rd_T41 l0_0 a1).f1) > 16
     ·rw [if_pos c6] at H; have c3b0 : decide (16 < ((rd_T41 l0_0 a1).f1)) = true := decide_eq_true c6; exact z71_3
     ·rw [if_neg c6] at H; have c3b0 : decide (16 < ((rd_T41 l0_0 a1).f1)) = false := decide_eq_false c6; clear c6; by_cases c6 : t1 < 0
      ·rw [if_pos c6] at H; have c3b0 := decide_eq_true c6; exact z71_3
      ·rw [if_neg c6] at H; have c3b0 := decide_eq_false c6; clear c6; by_cases c6 : t1 < 1
       ·rw [if_pos c6] at H; have c3b0 := decide_eq_true c6; clear c6; by_cases c7 : ((rd_T41 l0_0 a1).f2) = 0
        ·rw [if_pos c7] at H; obtain ⟨c3b0, c1b1⟩ := zeq c7; clear c7; by_cases c8 : t1 < 2
         ·rw [if_pos c8] at H; have c3b0 := decide_eq_true c8; clear c8; by_cases c9 : ((rd_T41 l0_0 a1).f3) = 0
          ·rw [if_pos c9] at H; obtain ⟨c3b0, c1b1⟩ := zeq c9; clear c9; by_cases c11 : t1 < 3
           ·rw [if_pos c11] at H; have c3b0 := decide_eq_true c11; clear c11; exact z71_4
           ·rw [if_neg c11] at H; have c3b0 := decide_eq_false c11; clear c11; exact z71_5
          ·rw [if_neg c9] at H; obtain ⟨c3b0, c1b1⟩ := zne c9; exact z71_6
         ·rw [if_neg c8] at H; have c3b0 := decide_eq_false c8; clear c8; exact z71_1
        ·exact z71_2
       ·rw [if_neg c6] at H; have c3b0 := decide_eq_false c6; clear c6; by_cases c6 : t1 < 2
        ·rw [if_pos c6] at H; have c3b0 := decide_eq_true c6; clear c6; by_cases c7 : ((rd_T41 l0_0 a1).f3) = 0
         ·rw [if_pos c7] at H; obtain ⟨c3b0, c1b1⟩ := zeq c7; clear c7; exact z71_1
         ·exact z71_2
        ·rw [if_neg c6] at H; have c3b0 := decide_eq_false c6; clear c6; by_cases c6 : t1 < 3
         ·rw [if_pos c6] at H; have c3b0 := decide_eq_true c6; clear c6; exact z71_4
         ·rw [if_neg c6] at H; have c3b0 := decide_eq_false c6; clear c6; exact z71_5
   case rest =>
    clear HC1; try clear c1
    try clear c2
    try clear p2
    try clear c3
    try clear c1b0
    try clear p3
    try clear q3
    try clear hx3
    try clear c4
    try clear c2b0
    try clear c5
    try clear c10
    try clear c6
    try clear c1b0
    try clear c13
    try clear c6
    try clear c1b0
    try clear c16
    try clear c6
    try clear c1b0
    try clear c19
    try clear c6
    try clear c1b0
    try clear c6
    try clear c1b0
    try clear c1b1
    try clear c6
    try clear c1b0
    try clear c6
    try clear c1b0
    try clear c1b1
    try clear c6
    try clear c1b0
    try clear c26
    try clear c28
    try clear c30
    try clear c6
    try clear c1b0
    try clear c33
    try clear c35
    try clear p36
    try clear q36
    try clear hx36
    try clear c37
    try clear c6
    try clear c1b0
    try clear c6
    try clear c1b0
    try clear c1b1
    try clear c6
    try clear c1b0
    try clear c42
    try clear c44
    try clear c46
    try clear c6
    try clear c1b0
    try clear c49
    try clear c51
    try clear i2_0 i2_1 i2_2 i2_3 i2_4
    try clear i1_5 i1_6
    try clear i2_0 i2_1 i2_2 i2_3 i2_4
    try clear i1_5 i1_6
    try clear i2_0 i2_1 i2_2 i2_3 i2_4
    try clear i1_5 i1_6
    try clear i2_0 i2_1 i2_2 i2_3 i2_4
    try clear i1_5 i1_6
    try clear i2_0 i2_1 i2_2 i2_3 i2_4
    try clear i1_5 i1_6
    try clear i2_0 i2_1 i2_2 i2_3 i2_4
    try clear i1_5 i1_6
    try clear i2_0 i2_1 i2_2 i2_3 i2_4
    try clear i1_5 i1_6
    try clear i2_0 i2_1 i2_2 i2_3 i2_4
    try clear i1_5 i1_6
    try clear i2_0 i2_1 i2_2 i2_3 i2_4
    try clear i1_5 i1_6
    try clear i2_0 i2_1 i2_2 i2_3 i2_4
    try clear i1_5 i1_6
    try clear i2_0 i2_1 i2_2 i2_3 i2_4
    try clear i1_5 i1_6
    try clear i2_0 i2_1 i2_2 i2_3 i2_4
    try clear i1_5 i1_6
    try clear i2_0 i2_1 i2_2 i2_3 i2_4
    try clear i1_5 i1_6
    try clear i2_0 i2_1 i2_2 i2_3 i2_4
    try clear i1_5 i1_6
    try clear i2_0 i2_1 i2_2 i2_3 i2_4
    try clear i1_5 i1_6 i1_0 i1_1 i1_2 i1_3 i1_4
    try clear j2_0 j2_1 j2_2 j2_3 j2_4
    try clear j1_5 j1_6
    try clear j2_0 j2_1 j2_2 j2_3 j2_4
    try clear j1_5 j1_6
    try clear j2_0 j2_1 j2_2 j2_3 j2_4
    try clear j1_5 j1_6
    try clear j2_0 j2_1 j2_2 j2_3 j2_4
    try clear j1_5 j1_6
    try clear j2_0 j2_1 j2_2 j2_3 j2_4
    try clear j1_5 j1_6
    try clear j2_0 j2_1 j2_2 j2_3 j2_4
    try clear j1_5 j1_6
    try clear j2_0 j2_1 j2_2 j2_3 j2_4
    try clear j1_5 j1_6
    try clear j2_0 j2_1 j2_2 j2_3 j2_4
    try clear j1_5 j1_6
    try clear j2_0 j2_1 j2_2 j2_3 j2_4
    try clear j1_5 j1_6
    try clear j2_0 j2_1 j2_2 j2_3 j2_4
    try clear j1_5 j1_6
    try clear j2_0 j2_1 j2_2 j2_3 j2_4
    try clear j1_5 j1_6
    try clear j2_0 j2_1 j2_2 j2_3 j2_4
    try clear j1_5 j1_6
    try clear j2_0 j2_1 j2_2 j2_3 j2_4
    try clear j1_5 j1_6
    try clear j2_0 j2_1 j2_2 j2_3 j2_4
    try clear j1_5 j1_6
    try clear j2_0 j2_1 j2_2 j2_3 j2_4
    try clear j1_5 j1_6 j1_0 j1_1 j1_2 j1_3 j1_4
    try clear hx1_0
    try clear hx1_1
    try clear hx1_2
    try clear hx1_3
    try clear hx1_4
    try clear hx1_5
    try clear hx1_6
    try clear p1
    try clear q1
    obtain ⟨kq, x1_5, rfl, HA, HJ1, BK1, BK2, HB⟩ := hcut; cases kq with
    | zero => exact absurd HA.out (by simp [r9_node.j0])
    | succ kj1 =>
     have H := HA.out; clear HA; simp only [r9_node.j0] at H; by_cases c6 : x1_5 = true
     ·subst c6; have H1 : (some false) = some r := by rw [if_pos rfl] at H; exact H
      clear H; have H := H1; clear H1; obtain rfl := Option.some.inj H; go_wp2
      go_ret
      exact ⟨q11z, q5z HB GE1 GE2⟩
     ·replace c6 := Bool.eq_false_iff.mpr c6; subst c6; have H1 : ((r9_fits.f kj1 l0_0 l0_1 l0_2 l0_3 l0_4 a1).bind fun t1 => (some t1)) = some r := by rw [if_neg (show ¬ (false = true) by decide)] at H; exact H
      clear H; have H := H1; clear H1; replace H := Option.bind_eq_some_iff.mp H; obtain ⟨t1, A1, H⟩ := H; have A2 := aM A1; clear A1; obtain rfl := Option.some.inj H; have hnb1 := NB1_370.out; have hnc1 := NB1_368.out; obtain ⟨i1_0, i1_1, i1_2, i1_3, i1_4, j1_0, j1_1, j1_2, j1_3, j1_4⟩ := cells5_71 BK1.out; go_wp2_with (first | ((with_reducible refine zgc 52 rfl ?_); refine zgl (some 56) Try.func52 #[.agg #[.slice (some ad1) l0_0.length c0_0, .slice A0_1 l0_1.length c0_1, .slice A0_2 l0_2.length c0_2, .slice A0_3 l0_3.length c0_3, .slice A0_4 l0_4.length c0_4], .int .i64 a1] ?_; (with_reducible refine (r9_fits.calls kj1 _ _ l0_0 _ _ l0_1 _ _ l0_2 _ _ l0_3 _ _ l0_4 a1 t1 _ ?side1 ?side2 ?side3 ?side4 ?side5 ?side6 ?side7 ?side8 ?side9 ?side10 A2.out).mono ?_); (case side1 => exact q1z HR1_0 HB); (case side2 => exact HC1_0.out); (case side3 => exact q1z HR1_1 HB); (case side4 => exact HC1_1.out); (case side5 => exact q1z HR1_2 HB); (case side6 => exact HC1_2.out); (case side7 => exact q1z HR1_3 HB); (case side8 => exact HC1_3.out); (case side9 => exact q1z HR1_4 HB); (case side10 => exact HC1_4.out); rintro e w1 ⟨rfl, hb⟩; refine ⟨_, rfl, ?_⟩; replace BK1 := aM (yi (zi BK1) hb); replace BK2 := aM (yi (zi BK2) hb); replace HB := aM (ym (q5z HB GE1 GE2) hb); (try clear hb); (try clear hb2); (try clear hk); (try clear hi)))
      go_ret
      exact ⟨q11z, q5z HB GE1 GE2⟩
  ·rw [if_neg c4] at H; exact absurd H (by simp)
 ·rw [if_neg c3] at H; exact absurd H (by simp)
end Go.Proofs.Yteblbknmikieoaa.Xb
