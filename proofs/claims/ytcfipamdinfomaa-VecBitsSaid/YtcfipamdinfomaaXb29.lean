/- Printed by this session's program xprint.py (over the kit's print): the Go functions named below come to the Lean functions of the same names, whatever the world. -/
import Derived.Test.YtcfipamdinfomaaXb0
import Derived.Test.YtcfipamdinfomaaXb28
namespace Go.Proofs.Ytcfipamdinfomaa.Xb
open Go.RowKit Go.Proofs.YtcfipamdinfomaaW.PrintWords Go.Proofs.YtcfipamdinfomaaW.PrintLast Go.Proofs.YtcfipamdinfomaaW.PrintMore
attribute [local go_sem] max2_int min2_int max_two min_two max_three min_three max_four min_four   -- for this text's walks alone
set_option linter.unusedVariables false
set_option linter.unusedSimpArgs false

/-! ### proofmarklaw08_Made: function 11 -/
mutual
def proofmarklaw08_Made.j0 : Nat → Int → Int → Int → Int → Int → Bool → Int → Int → Int → Int → Int → Int → Int → Int → Int → Int → Int → Int → Int → Option (Int × Int × Int × Int × Int × Int × Int × Int × Int × Int × Int)
 | 0, _, _, _, _, _, _, _, _, _, _, _, _, _, _, _, _, _, _, _ => none
 | k + 1, x8, x10, x11, x12, x48, x59, x136000, x136001, x136002, x136003, x136004, x136005, x142000, x142001, x142002, x142003, x142004, x142005, x142006 => if x59 = true then (some (x142000, 1, x142002, x142003, x142004, x142005, x8, x10, 0, 0, 0)) else (if x48 = 12 then (proofmarklaw08_Made.j1 k x8 x10 x11 x12 x48 (x48 == 12) x136000 x136001 x136002 x136003 x136004 x136005 x142000 x142001 x142002 x142003 x142004 x142005 x142006) else (if x48 = 13 then (proofmarklaw08_Made.j1 k x8 x10 x11 x12 x48 (x48 == 13) x136000 x136001 x136002 x136003 x136004 x136005 x142000 x142001 x142002 x142003 x142004 x142005 x142006) else (if x48 = 14 then (proofmarklaw08_Made.j1 k x8 x10 x11 x12 x48 (x48 == 14) x136000 x136001 x136002 x136003 x136004 x136005 x142000 x142001 x142002 x142003 x142004 x142005 x142006) else (proofmarklaw08_Made.j1 k x8 x10 x11 x12 x48 (x48 == 15) x136000 x136001 x136002 x136003 x136004 x136005 x142000 x142001 x142002 x142003 x142004 x142005 x142006))))
def proofmarklaw08_Made.j1 : Nat → Int → Int → Int → Int → Int → Bool → Int → Int → Int → Int → Int → Int → Int → Int → Int → Int → Int → Int → Int → Option (Int × Int × Int × Int × Int × Int × Int × Int × Int × Int × Int)
 | 0, _, _, _, _, _, _, _, _, _, _, _, _, _, _, _, _, _, _, _ => none
 | k + 1, x8, x10, x11, x12, x48, x67, x136000, x136001, x136002, x136003, x136004, x136005, x142000, x142001, x142002, x142003, x142004, x142005, x142006 => if x67 = true then (some (x142000, 1, x142002, x142003, x142004, x142005, x8, x10, x11, 0, x8)) else (if x48 = 16 then (some (x142000, x142001, x142002, x142003, x142004, x142005, x142006, Go.bits .and .i64 (wrap64 (x136002)) 1, x11, x12, x8)) else (if x48 = 17 then (if x8 = 0 then (none) else (if (wrap64 ((Int.tmod (wrap64 (x136005)) x8) + 1)) = x8 then (proofmarklaw08_Made.j2 k 1 x136000 x136001 x136002 x136003 x136004 x136005 x142000 (mn (wrap64 (x8 + 1)) 16) x142002 x142003 x142004 x142005 x142006) else (proofmarklaw08_Made.j2 k (wrap64 ((Int.tmod (wrap64 (x136005)) x8) + 1)) x136000 x136001 x136002 x136003 x136004 x136005 x142000 x142001 x142002 x142003 x142004 x142005 x142006))) else (if x48 = 18 then (if x8 = 0 then (none) else (if (wrap64 (x8 - (Int.tmod (wrap64 (x136005)) x8))) = 0 then (none) else (some (x142000, wrap64 ((wrap64 ((wrap64 ((Int.tmod (wrap64 (x136005)) x8) + (Int.tmod (wrap64 (x136004)) (wrap64 (x8 - (Int.tmod (wrap64 (x136005)) x8)))))) - (Int.tmod (wrap64 (x136005)) x8))) + 1), x142002, x142003, x142004, wrap64 ((Int.tmod (wrap64 (x136005)) x8) + (Int.tmod (wrap64 (x136004)) (wrap64 (x8 - (Int.tmod (wrap64 (x136005)) x8))))), Int.tmod (wrap64 (x136005)) x8, x10, 0, 0, 0)))) else (some (x142000, x142001, x142002, x142003, x142004, x142005, x142006, x10, x11, 0, x8)))))
def proofmarklaw08_Made.j2 : Nat → Int → Int → Int → Int → Int → Int → Int → Int → Int → Int → Int → Int → Int → Int → Option (Int × Int × Int × Int × Int × Int × Int × Int × Int × Int × Int)
 | 0, _, _, _, _, _, _, _, _, _, _, _, _, _, _ => none
 | k + 1, x13, x136000, x136001, x136002, x136003, x136004, x136005, x142000, x142001, x142002, x142003, x142004, x142005, x142006 => (proofmarkref08_Mask.f (wrap64 (x142001 - x13))).bind fun t143 => ((proofmarkref08_Mask.f x13).bind fun t144 => (some (x142000, x142001, x142002, x142003, x142004, x142005, x142006, Go.bits .and .i64 (wrap64 (x136002)) t143, Go.bits .and .i64 (wrap64 (x136003)) t144, 0, x13)))
end
def proofmarklaw08_Made.f (k : Nat) (a0_0 : Int) (a0_1 : Int) (a0_2 : Int) (a0_3 : Int) (a0_4 : Int) (a0_5 : Int) : Option (Int × Int × Int × Int × Int × Int × Int × Int × Int × Int × Int) := (some (([1, 3, 4, 5, 6, 7, 8, 9, 10, 11, 12, 13, 14, 15, 16, 17, 18] : List Int) : List Int)).bind fun y137 => (if 0 ≤ (Int.tmod (wrap64 (a0_0)) 17) then (if (Int.tmod (wrap64 (a0_0)) 17) < (y137.length : Int) then ((proofmarkref08_Mask.f (wrap64 ((Int.tmod (wrap64 (a0_1)) 16) + 1))).bind fun t142 => ((proofmarkref08_Mask.f (wrap64 ((Int.tmod (wrap64 (a0_1)) 16) + 1))).bind fun t142 => ((proofmarkref08_Mask.f (wrap64 ((Int.tmod (wrap64 (a0_1)) 16) + 1))).bind fun t142 => (if (rd y137 (Int.tmod (wrap64 (a0_0)) 17)) = 1 then (some (rd y137 (Int.tmod (wrap64 (a0_0)) 17), wrap64 ((Int.tmod (wrap64 (a0_1)) 16) + 1), 0, 0, 0, Go.bits .and .i64 (wrap64 (a0_2)) t142, 0, 0, 0, 0, 0)) else (if (rd y137 (Int.tmod (wrap64 (a0_0)) 17)) = 3 then (some (rd y137 (Int.tmod (wrap64 (a0_0)) 17), wrap64 ((Int.tmod (wrap64 (a0_1)) 16) + 1), 0, 0, 0, 0, 0, Go.bits .and .i64 (wrap64 (a0_2)) t142, 0, 0, wrap64 ((Int.tmod (wrap64 (a0_1)) 16) + 1))) else (if (rd y137 (Int.tmod (wrap64 (a0_0)) 17)) = 4 then (proofmarklaw08_Made.j0 k (wrap64 ((Int.tmod (wrap64 (a0_1)) 16) + 1)) (Go.bits .and .i64 (wrap64 (a0_2)) t142) (Go.bits .and .i64 (wrap64 (a0_3)) t142) (Go.bits .and .i64 (wrap64 (a0_4)) t142) (rd y137 (Int.tmod (wrap64 (a0_0)) 17)) ((rd y137 (Int.tmod (wrap64 (a0_0)) 17)) == 4) a0_0 a0_1 a0_2 a0_3 a0_4 a0_5 (rd y137 (Int.tmod (wrap64 (a0_0)) 17)) (wrap64 ((Int.tmod (wrap64 (a0_1)) 16) + 1)) 0 0 0 0 0) else (proofmarklaw08_Made.j0 k (wrap64 ((Int.tmod (wrap64 (a0_1)) 16) + 1)) (Go.bits .and .i64 (wrap64 (a0_2)) t142) (Go.bits .and .i64 (wrap64 (a0_3)) t142) (Go.bits .and .i64 (wrap64 (a0_4)) t142) (rd y137 (Int.tmod (wrap64 (a0_0)) 17)) ((rd y137 (Int.tmod (wrap64 (a0_0)) 17)) == 5) a0_0 a0_1 a0_2 a0_3 a0_4 a0_5 (rd y137 (Int.tmod (wrap64 (a0_0)) 17)) (wrap64 ((Int.tmod (wrap64 (a0_1)) 16) + 1)) 0 0 0 0 0))))))) else (none)) else (none))
theorem proofmarklaw08_Made.mono_l : ∀ k, (∀ y0 y1 y2 y3 y4 y5 y6 y7 y8 y9 y10 y11 y12 y13 y14 y15 y16 y17 y18, LeO (proofmarklaw08_Made.j0 k y0 y1 y2 y3 y4 y5 y6 y7 y8 y9 y10 y11 y12 y13 y14 y15 y16 y17 y18) (proofmarklaw08_Made.j0 (k + 1) y0 y1 y2 y3 y4 y5 y6 y7 y8 y9 y10 y11 y12 y13 y14 y15 y16 y17 y18)) ∧ (∀ y0 y1 y2 y3 y4 y5 y6 y7 y8 y9 y10 y11 y12 y13 y14 y15 y16 y17 y18, LeO (proofmarklaw08_Made.j1 k y0 y1 y2 y3 y4 y5 y6 y7 y8 y9 y10 y11 y12 y13 y14 y15 y16 y17 y18) (proofmarklaw08_Made.j1 (k + 1) y0 y1 y2 y3 y4 y5 y6 y7 y8 y9 y10 y11 y12 y13 y14 y15 y16 y17 y18)) ∧ (∀ y0 y1 y2 y3 y4 y5 y6 y7 y8 y9 y10 y11 y12 y13, LeO (proofmarklaw08_Made.j2 k y0 y1 y2 y3 y4 y5 y6 y7 y8 y9 y10 y11 y12 y13) (proofmarklaw08_Made.j2 (k + 1) y0 y1 y2 y3 y4 y5 y6 y7 y8 y9 y10 y11 y12 y13))
 | 0 => ⟨fun _ _ _ _ _ _ _ _ _ _ _ _ _ _ _ _ _ _ _ r h => by simp [proofmarklaw08_Made.j0] at h, fun _ _ _ _ _ _ _ _ _ _ _ _ _ _ _ _ _ _ _ r h => by simp [proofmarklaw08_Made.j1] at h, fun _ _ _ _ _ _ _ _ _ _ _ _ _ _ r h => by simp [proofmarklaw08_Made.j2] at h⟩
 | k + 1 => by
  obtain ⟨ih0, ih1, ih2⟩ := proofmarklaw08_Made.mono_l k
  refine ⟨?_, ?_, ?_⟩
  ·intro y0 y1 y2 y3 y4 y5 y6 y7 y8 y9 y10 y11 y12 y13 y14 y15 y16 y17 y18
   unfold proofmarklaw08_Made.j0
   repeat' first
   | (with_reducible exact ih0 _ _ _ _ _ _ _ _ _ _ _ _ _ _ _ _ _ _ _)
   | (with_reducible exact ih1 _ _ _ _ _ _ _ _ _ _ _ _ _ _ _ _ _ _ _)
   | (with_reducible exact ih2 _ _ _ _ _ _ _ _ _ _ _ _ _ _)
   | (with_reducible exact LeO.refl _)
   | (with_reducible exact LeO.none _)
   | (with_reducible refine LeO.ite ?_ ?_)
   | (with_reducible refine LeO.bind ?_ (fun _ => ?_))
   | exact ih0 _ _ _ _ _ _ _ _ _ _ _ _ _ _ _ _ _ _ _
   | exact ih1 _ _ _ _ _ _ _ _ _ _ _ _ _ _ _ _ _ _ _
   | exact ih2 _ _ _ _ _ _ _ _ _ _ _ _ _ _
   | exact LeO.none _
   | refine LeO.ite ?_ ?_
   | refine LeO.bind ?_ (fun _ => ?_)
  ·intro y0 y1 y2 y3 y4 y5 y6 y7 y8 y9 y10 y11 y12 y13 y14 y15 y16 y17 y18
   unfold proofmarklaw08_Made.j1
   repeat' first
   | (with_reducible exact ih0 _ _ _ _ _ _ _ _ _ _ _ _ _ _ _ _ _ _ _)
   | (with_reducible exact ih1 _ _ _ _ _ _ _ _ _ _ _ _ _ _ _ _ _ _ _)
   | (with_reducible exact ih2 _ _ _ _ _ _ _ _ _ _ _ _ _ _)
   | (with_reducible exact LeO.refl _)
   | (with_reducible exact LeO.none _)
   | (with_reducible refine LeO.ite ?_ ?_)
   | (with_reducible refine LeO.bind ?_ (fun _ => ?_))
   | exact ih0 _ _ _ _ _ _ _ _ _ _ _ _ _ _ _ _ _ _ _
   | exact ih1 _ _ _ _ _ _ _ _ _ _ _ _ _ _ _ _ _ _ _
   | exact ih2 _ _ _ _ _ _ _ _ _ _ _ _ _ _
   | exact LeO.none _
   | refine LeO.ite ?_ ?_
   | refine LeO.bind ?_ (fun _ => ?_)
  ·intro y0 y1 y2 y3 y4 y5 y6 y7 y8 y9 y10 y11 y12 y13
   unfold proofmarklaw08_Made.j2
   repeat' first
   | (with_reducible exact ih0 _ _ _ _ _ _ _ _ _ _ _ _ _ _ _ _ _ _ _)
   | (with_reducible exact ih1 _ _ _ _ _ _ _ _ _ _ _ _ _ _ _ _ _ _ _)
   | (with_reducible exact ih2 _ _ _ _ _ _ _ _ _ _ _ _ _ _)
   | (with_reducible exact LeO.refl _)
   | (with_reducible exact LeO.none _)
   | (with_reducible refine LeO.ite ?_ ?_)
   | (with_reducible refine LeO.bind ?_ (fun _ => ?_))
   | exact ih0 _ _ _ _ _ _ _ _ _ _ _ _ _ _ _ _ _ _ _
   | exact ih1 _ _ _ _ _ _ _ _ _ _ _ _ _ _ _ _ _ _ _
   | exact ih2 _ _ _ _ _ _ _ _ _ _ _ _ _ _
   | exact LeO.none _
   | refine LeO.ite ?_ ?_
   | refine LeO.bind ?_ (fun _ => ?_)
theorem proofmarklaw08_Made.mono : ∀ a0 a1 a2 a3 a4 a5 k, LeO (proofmarklaw08_Made.f k a0 a1 a2 a3 a4 a5) (proofmarklaw08_Made.f (k + 1) a0 a1 a2 a3 a4 a5) := by
 intro a0 a1 a2 a3 a4 a5 k
 obtain ⟨ih0, ih1, ih2⟩ := proofmarklaw08_Made.mono_l k
 unfold proofmarklaw08_Made.f
 repeat' first
   | (with_reducible exact ih0 _ _ _ _ _ _ _ _ _ _ _ _ _ _ _ _ _ _ _)
   | (with_reducible exact ih1 _ _ _ _ _ _ _ _ _ _ _ _ _ _ _ _ _ _ _)
   | (with_reducible exact ih2 _ _ _ _ _ _ _ _ _ _ _ _ _ _)
   | (with_reducible exact LeO.refl _)
   | (with_reducible exact LeO.none _)
   | (with_reducible refine LeO.ite ?_ ?_)
   | (with_reducible refine LeO.bind ?_ (fun _ => ?_))
   | exact ih0 _ _ _ _ _ _ _ _ _ _ _ _ _ _ _ _ _ _ _
   | exact ih1 _ _ _ _ _ _ _ _ _ _ _ _ _ _ _ _ _ _ _
   | exact ih2 _ _ _ _ _ _ _ _ _ _ _ _ _ _
   | exact LeO.none _
   | refine LeO.ite ?_ ?_
   | refine LeO.bind ?_ (fun _ => ?_)
def proofmarklaw08_Made.T26 : Bool × List (List Nat × List Nat) := (true, [([], []), ([], []), ([1], [1]), ([2], [2]), ([3], [3]), ([], []), ([], []), ([], []), ([0, 0], [0]), ([4, 8, 0, 1, 2, 3, 4, 8], [4]), ([5, 9, 0, 1, 2, 3, 4, 5, 8, 9], [5]), ([6, 10, 0, 1, 2, 3, 4, 5, 6, 8, 9, 10], [6]), ([7, 11, 0, 1, 2, 3, 4, 5, 6, 7, 8, 9, 10, 11], [7])])
def proofmarklaw08_Made.B26 : List Nat := [0, 0, 2, 6, 14, 0, 0, 0, 1, 287, 831, 1919, 4095]
theorem proofmarklaw08_Made.tab26 : rtab .any (opsOf Try.f11 26) = proofmarklaw08_Made.T26 := by kernel_rfl
theorem proofmarklaw08_Made.bits26 : waitsOk proofmarklaw08_Made.T26.2 proofmarklaw08_Made.B26 = true := by kernel_rfl
def proofmarklaw08_Made.T32 : Bool × List (List Nat × List Nat) := (true, [([], []), ([], []), ([1], [1]), ([2], [2]), ([], []), ([4], [4]), ([], []), ([5, 6], [5, 6]), ([7], [7]), ([3, 8], [3, 8]), ([], []), ([10], [10]), ([11], [11]), ([], []), ([13, 8], [13]), ([12, 14], [12, 14]), ([], []), ([0, 14, 0], [0]), ([9, 17, 0, 1, 2, 3, 4, 5, 6, 7, 8, 9, 17], [9]), ([15, 18, 0, 1, 2, 3, 4, 5, 6, 7, 8, 9, 10, 11, 12, 13, 14, 15, 17, 18], [15]), ([19, 0, 1, 2, 3, 4, 5, 6, 7, 8, 9, 10, 11, 12, 13, 14, 15, 17, 18, 19], []), ([16, 20, 0, 1, 2, 3, 4, 5, 6, 7, 8, 9, 10, 11, 12, 13, 14, 15, 16, 17, 18, 19, 20], [16])])
def proofmarklaw08_Made.B32 : List Nat := [0, 0, 2, 6, 0, 16, 0, 112, 240, 510, 0, 1024, 3072, 0, 8688, 32240, 0, 25073, 156671, 458751, 983039, 2097151]
theorem proofmarklaw08_Made.tab32 : rtab .any (opsOf Try.f11 32) = proofmarklaw08_Made.T32 := by kernel_rfl
theorem proofmarklaw08_Made.bits32 : waitsOk proofmarklaw08_Made.T32.2 proofmarklaw08_Made.B32 = true := by kernel_rfl
def proofmarklaw08_Made.T35 : Bool × List (List Nat × List Nat) := (true, [([], []), ([0], [0]), ([], []), ([2], [2]), ([3], [3]), ([], []), ([], []), ([6], [6]), ([5, 7], [5, 7]), ([4, 8], [4, 8]), ([1, 9], [1, 9]), ([0, 1, 2, 3, 4, 5, 6, 7, 8, 9, 10], []), ([11, 10, 0, 1, 2, 3, 4, 5, 6, 7, 8, 9, 10], [10, 11])])
def proofmarklaw08_Made.B35 : List Nat := [0, 1, 0, 4, 12, 0, 0, 64, 224, 508, 1023, 2047, 4095]
theorem proofmarklaw08_Made.tab35 : rtab .any (opsOf Try.f11 35) = proofmarklaw08_Made.T35 := by kernel_rfl
theorem proofmarklaw08_Made.bits35 : waitsOk proofmarklaw08_Made.T35.2 proofmarklaw08_Made.B35 = true := by kernel_rfl
set_option maxHeartbeats 8000000 in
set_option maxRecDepth 100000 in
theorem proofmarklaw08_Made.calls (k : Nat) (a0_0 : Int) (a0_1 : Int) (a0_2 : Int) (a0_3 : Int) (a0_4 : Int) (a0_5 : Int) (r1 : Int) (r2 : Int) (r3 : Int) (r4 : Int) (r5 : Int) (r6 : Int) (r7 : Int) (r8 : Int) (r9 : Int) (r10 : Int) (r11 : Int) (w : World) (h : proofmarklaw08_Made.f k a0_0 a0_1 a0_2 a0_3 a0_4 a0_5 = some (r1, r2, r3, r4, r5, r6, r7, r8, r9, r10, r11)) :
  Calls Try.prog 11 #[.agg #[.int .u8 a0_0, .int .u8 a0_1, .int .u32 a0_2, .int .u32 a0_3, .int .u32 a0_4, .int .u8 a0_5]] w fun e w' => e = .returned (.tuple #[.agg #[.int .i64 r1, .int .i64 r2, .int .i64 r3, .int .i64 r4, .int .i64 r5, .int .i64 r6, .int .i64 r7], .int .i64 r8, .int .i64 r9, .int .i64 r10, .int .i64 r11]) ∧ Below w.heap.size w w' := by
 have hu24 := Try.underlying24
 have hu28 := Try.underlying28
 have HB := Aside0.mk (Below.refl w.heap.size w)
 have H : ((some (([1, 3, 4, 5, 6, 7, 8, 9, 10, 11, 12, 13, 14, 15, 16, 17, 18] : List Int) : List Int)).bind fun y137 => (if 0 ≤ (Int.tmod (wrap64 (a0_0)) 17) then (if (Int.tmod (wrap64 (a0_0)) 17) < (y137.length : Int) then ((proofmarkref08_Mask.f (wrap64 ((Int.tmod (wrap64 (a0_1)) 16) + 1))).bind fun t142 => ((proofmarkref08_Mask.f (wrap64 ((Int.tmod (wrap64 (a0_1)) 16) + 1))).bind fun t142 => ((proofmarkref08_Mask.f (wrap64 ((Int.tmod (wrap64 (a0_1)) 16) + 1))).bind fun t142 => (if (rd y137 (Int.tmod (wrap64 (a0_0)) 17)) = 1 then (some (rd y137 (Int.tmod (wrap64 (a0_0)) 17), wrap64 ((Int.tmod (wrap64 (a0_1)) 16) + 1), 0, 0, 0, Go.bits .and .i64 (wrap64 (a0_2)) t142, 0, 0, 0, 0, 0)) else (if (rd y137 (Int.tmod (wrap64 (a0_0)) 17)) = 3 then (some (rd y137 (Int.tmod (wrap64 (a0_0)) 17), wrap64 ((Int.tmod (wrap64 (a0_1)) 16) + 1), 0, 0, 0, 0, 0, Go.bits .and .i64 (wrap64 (a0_2)) t142, 0, 0, wrap64 ((Int.tmod (wrap64 (a0_1)) 16) + 1))) else (if (rd y137 (Int.tmod (wrap64 (a0_0)) 17)) = 4 then (proofmarklaw08_Made.j0 k (wrap64 ((Int.tmod (wrap64 (a0_1)) 16) + 1)) (Go.bits .and .i64 (wrap64 (a0_2)) t142) (Go.bits .and .i64 (wrap64 (a0_3)) t142) (Go.bits .and .i64 (wrap64 (a0_4)) t142) (rd y137 (Int.tmod (wrap64 (a0_0)) 17)) ((rd y137 (Int.tmod (wrap64 (a0_0)) 17)) == 4) a0_0 a0_1 a0_2 a0_3 a0_4 a0_5 (rd y137 (Int.tmod (wrap64 (a0_0)) 17)) (wrap64 ((Int.tmod (wrap64 (a0_1)) 16) + 1)) 0 0 0 0 0) else (proofmarklaw08_Made.j0 k (wrap64 ((Int.tmod (wrap64 (a0_1)) 16) + 1)) (Go.bits .and .i64 (wrap64 (a0_2)) t142) (Go.bits .and .i64 (wrap64 (a0_3)) t142) (Go.bits .and .i64 (wrap64 (a0_4)) t142) (rd y137 (Int.tmod (wrap64 (a0_0)) 17)) ((rd y137 (Int.tmod (wrap64 (a0_0)) 17)) == 5) a0_0 a0_1 a0_2 a0_3 a0_4 a0_5 (rd y137 (Int.tmod (wrap64 (a0_0)) 17)) (wrap64 ((Int.tmod (wrap64 (a0_1)) 16) + 1)) 0 0 0 0 0))))))) else (none)) else (none))) = some (r1, r2, r3, r4, r5, r6, r7, r8, r9, r10, r11) := h
 clear h
 obtain ⟨y137, hy137⟩ : ∃ y_ : List Int, y_ = (([1, 3, 4, 5, 6, 7, 8, 9, 10, 11, 12, 13, 14, 15, 16, 17, 18] : List Int)) := ⟨_, rfl⟩
 replace H : (if 0 ≤ (Int.tmod (wrap64 (a0_0)) 17) then (if (Int.tmod (wrap64 (a0_0)) 17) < (y137.length : Int) then ((proofmarkref08_Mask.f (wrap64 ((Int.tmod (wrap64 (a0_1)) 16) + 1))).bind fun t142 => ((proofmarkref08_Mask.f (wrap64 ((Int.tmod (wrap64 (a0_1)) 16) + 1))).bind fun t142 => ((proofmarkref08_Mask.f (wrap64 ((Int.tmod (wrap64 (a0_1)) 16) + 1))).bind fun t142 => (if (rd y137 (Int.tmod (wrap64 (a0_0)) 17)) = 1 then (some (rd y137 (Int.tmod (wrap64 (a0_0)) 17), wrap64 ((Int.tmod (wrap64 (a0_1)) 16) + 1), 0, 0, 0, Go.bits .and .i64 (wrap64 (a0_2)) t142, 0, 0, 0, 0, 0)) else (if (rd y137 (Int.tmod (wrap64 (a0_0)) 17)) = 3 then (some (rd y137 (Int.tmod (wrap64 (a0_0)) 17), wrap64 ((Int.tmod (wrap64 (a0_1)) 16) + 1), 0, 0, 0, 0, 0, Go.bits .and .i64 (wrap64 (a0_2)) t142, 0, 0, wrap64 ((Int.tmod (wrap64 (a0_1)) 16) + 1))) else (if (rd y137 (Int.tmod (wrap64 (a0_0)) 17)) = 4 then (proofmarklaw08_Made.j0 k (wrap64 ((Int.tmod (wrap64 (a0_1)) 16) + 1)) (Go.bits .and .i64 (wrap64 (a0_2)) t142) (Go.bits .and .i64 (wrap64 (a0_3)) t142) (Go.bits .and .i64 (wrap64 (a0_4)) t142) (rd y137 (Int.tmod (wrap64 (a0_0)) 17)) ((rd y137 (Int.tmod (wrap64 (a0_0)) 17)) == 4) a0_0 a0_1 a0_2 a0_3 a0_4 a0_5 (rd y137 (Int.tmod (wrap64 (a0_0)) 17)) (wrap64 ((Int.tmod (wrap64 (a0_1)) 16) + 1)) 0 0 0 0 0) else (proofmarklaw08_Made.j0 k (wrap64 ((Int.tmod (wrap64 (a0_1)) 16) + 1)) (Go.bits .and .i64 (wrap64 (a0_2)) t142) (Go.bits .and .i64 (wrap64 (a0_3)) t142) (Go.bits .and .i64 (wrap64 (a0_4)) t142) (rd y137 (Int.tmod (wrap64 (a0_0)) 17)) ((rd y137 (Int.tmod (wrap64 (a0_0)) 17)) == 5) a0_0 a0_1 a0_2 a0_3 a0_4 a0_5 (rd y137 (Int.tmod (wrap64 (a0_0)) 17)) (wrap64 ((Int.tmod (wrap64 (a0_1)) 16) + 1)) 0 0 0 0 0))))))) else (none)) else (none)) = some (r1, r2, r3, r4, r5, r6, r7, r8, r9, r10, r11) := by first | (rw [hy137]; with_reducible exact H) | (have H2_ := (Option.bind_some _ _).symm.trans H; rw [hy137]; with_reducible exact H2_) | (have H2_ := (Option.bind_some _ _).symm.trans H; with_reducible exact H2_) | with_reducible exact H | (rw [hy137]; exact H) | exact H
 have Ny137 := Aside0.mk hy137
 clear hy137
 obtain ⟨ji2, hji2⟩ : ∃ j_ : Int, (Int.tmod (wrap64 (a0_0)) 17) = j_ := ⟨_, rfl⟩
 replace H : (if 0 ≤ (ji2) then (if (ji2) < (y137.length : Int) then ((proofmarkref08_Mask.f (wrap64 ((Int.tmod (wrap64 (a0_1)) 16) + 1))).bind fun t142 => ((proofmarkref08_Mask.f (wrap64 ((Int.tmod (wrap64 (a0_1)) 16) + 1))).bind fun t142 => ((proofmarkref08_Mask.f (wrap64 ((Int.tmod (wrap64 (a0_1)) 16) + 1))).bind fun t142 => (if (rd y137 (ji2)) = 1 then (some (rd y137 (ji2), wrap64 ((Int.tmod (wrap64 (a0_1)) 16) + 1), 0, 0, 0, Go.bits .and .i64 (wrap64 (a0_2)) t142, 0, 0, 0, 0, 0)) else (if (rd y137 (ji2)) = 3 then (some (rd y137 (ji2), wrap64 ((Int.tmod (wrap64 (a0_1)) 16) + 1), 0, 0, 0, 0, 0, Go.bits .and .i64 (wrap64 (a0_2)) t142, 0, 0, wrap64 ((Int.tmod (wrap64 (a0_1)) 16) + 1))) else (if (rd y137 (ji2)) = 4 then (proofmarklaw08_Made.j0 k (wrap64 ((Int.tmod (wrap64 (a0_1)) 16) + 1)) (Go.bits .and .i64 (wrap64 (a0_2)) t142) (Go.bits .and .i64 (wrap64 (a0_3)) t142) (Go.bits .and .i64 (wrap64 (a0_4)) t142) (rd y137 (ji2)) ((rd y137 (ji2)) == 4) a0_0 a0_1 a0_2 a0_3 a0_4 a0_5 (rd y137 (ji2)) (wrap64 ((Int.tmod (wrap64 (a0_1)) 16) + 1)) 0 0 0 0 0) else (proofmarklaw08_Made.j0 k (wrap64 ((Int.tmod (wrap64 (a0_1)) 16) + 1)) (Go.bits .and .i64 (wrap64 (a0_2)) t142) (Go.bits .and .i64 (wrap64 (a0_3)) t142) (Go.bits .and .i64 (wrap64 (a0_4)) t142) (rd y137 (ji2)) ((rd y137 (ji2)) == 5) a0_0 a0_1 a0_2 a0_3 a0_4 a0_5 (rd y137 (ji2)) (wrap64 ((Int.tmod (wrap64 (a0_1)) 16) + 1)) 0 0 0 0 0))))))) else (none)) else (none)) = some (r1, r2, r3, r4, r5, r6, r7, r8, r9, r10, r11) := by first | (rw [hji2] at H; exact H) | (simp only [hji2] at H ⊢; exact H)
 by_cases c3 : 0 ≤ (ji2)
 ·rw [if_pos c3] at H
  have c3b0 : decide (0 ≤ (ji2)) = true := decide_eq_true c3
  clear c3
  by_cases c4 : (ji2) < (y137.length : Int)
  ·rw [if_pos c4] at H
   have c4b0 : decide ((ji2) < (y137.length : Int)) = true := decide_eq_true c4
   clear c4
   replace H := Option.bind_eq_some_iff.mp H
   obtain ⟨t142, A50, H⟩ := H
   replace H : ((proofmarkref08_Mask.f (wrap64 ((Int.tmod (wrap64 (a0_1)) 16) + 1))).bind fun t142 => ((proofmarkref08_Mask.f (wrap64 ((Int.tmod (wrap64 (a0_1)) 16) + 1))).bind fun t142 => (if (rd y137 (ji2)) = 1 then (some (rd y137 (ji2), wrap64 ((Int.tmod (wrap64 (a0_1)) 16) + 1), 0, 0, 0, Go.bits .and .i64 (wrap64 (a0_2)) t142, 0, 0, 0, 0, 0)) else (if (rd y137 (ji2)) = 3 then (some (rd y137 (ji2), wrap64 ((Int.tmod (wrap64 (a0_1)) 16) + 1), 0, 0, 0, 0, 0, Go.bits .and .i64 (wrap64 (a0_2)) t142, 0, 0, wrap64 ((Int.tmod (wrap64 (a0_1)) 16) + 1))) else (if (rd y137 (ji2)) = 4 then (proofmarklaw08_Made.j0 k (wrap64 ((Int.tmod (wrap64 (a0_1)) 16) + 1)) (Go.bits .and .i64 (wrap64 (a0_2)) t142) (Go.bits .and .i64 (wrap64 (a0_3)) t142) (Go.bits .and .i64 (wrap64 (a0_4)) t142) (rd y137 (ji2)) ((rd y137 (ji2)) == 4) a0_0 a0_1 a0_2 a0_3 a0_4 a0_5 (rd y137 (ji2)) (wrap64 ((Int.tmod (wrap64 (a0_1)) 16) + 1)) 0 0 0 0 0) else (proofmarklaw08_Made.j0 k (wrap64 ((Int.tmod (wrap64 (a0_1)) 16) + 1)) (Go.bits .and .i64 (wrap64 (a0_2)) t142) (Go.bits .and .i64 (wrap64 (a0_3)) t142) (Go.bits .and .i64 (wrap64 (a0_4)) t142) (rd y137 (ji2)) ((rd y137 (ji2)) == 5) a0_0 a0_1 a0_2 a0_3 a0_4 a0_5 (rd y137 (ji2)) (wrap64 ((Int.tmod (wrap64 (a0_1)) 16) + 1)) 0 0 0 0 0)))))) = some (r1, r2, r3, r4, r5, r6, r7, r8, r9, r10, r11) := H
   have A5 := Aside0.mk A50
   clear A50
   replace H := Option.bind_eq_some_iff.mp H
   obtain ⟨dup7, A60, H⟩ := H
   have E_ := Option.some.inj (A5.out.symm.trans A60)
   subst E_
   replace H : ((proofmarkref08_Mask.f (wrap64 ((Int.tmod (wrap64 (a0_1)) 16) + 1))).bind fun t142 => (if (rd y137 (ji2)) = 1 then (some (rd y137 (ji2), wrap64 ((Int.tmod (wrap64 (a0_1)) 16) + 1), 0, 0, 0, Go.bits .and .i64 (wrap64 (a0_2)) t142, 0, 0, 0, 0, 0)) else (if (rd y137 (ji2)) = 3 then (some (rd y137 (ji2), wrap64 ((Int.tmod (wrap64 (a0_1)) 16) + 1), 0, 0, 0, 0, 0, Go.bits .and .i64 (wrap64 (a0_2)) t142, 0, 0, wrap64 ((Int.tmod (wrap64 (a0_1)) 16) + 1))) else (if (rd y137 (ji2)) = 4 then (proofmarklaw08_Made.j0 k (wrap64 ((Int.tmod (wrap64 (a0_1)) 16) + 1)) (Go.bits .and .i64 (wrap64 (a0_2)) t142) (Go.bits .and .i64 (wrap64 (a0_3)) t142) (Go.bits .and .i64 (wrap64 (a0_4)) t142) (rd y137 (ji2)) ((rd y137 (ji2)) == 4) a0_0 a0_1 a0_2 a0_3 a0_4 a0_5 (rd y137 (ji2)) (wrap64 ((Int.tmod (wrap64 (a0_1)) 16) + 1)) 0 0 0 0 0) else (proofmarklaw08_Made.j0 k (wrap64 ((Int.tmod (wrap64 (a0_1)) 16) + 1)) (Go.bits .and .i64 (wrap64 (a0_2)) t142) (Go.bits .and .i64 (wrap64 (a0_3)) t142) (Go.bits .and .i64 (wrap64 (a0_4)) t142) (rd y137 (ji2)) ((rd y137 (ji2)) == 5) a0_0 a0_1 a0_2 a0_3 a0_4 a0_5 (rd y137 (ji2)) (wrap64 ((Int.tmod (wrap64 (a0_1)) 16) + 1)) 0 0 0 0 0))))) = some (r1, r2, r3, r4, r5, r6, r7, r8, r9, r10, r11) := H
   have A6 := Aside0.mk A60
   clear A60
   replace H := Option.bind_eq_some_iff.mp H
   obtain ⟨dup9, A80, H⟩ := H
   have E_ := Option.some.inj (A5.out.symm.trans A80)
   subst E_
   replace H : (if (rd y137 (ji2)) = 1 then (some (rd y137 (ji2), wrap64 ((Int.tmod (wrap64 (a0_1)) 16) + 1), 0, 0, 0, Go.bits .and .i64 (wrap64 (a0_2)) t142, 0, 0, 0, 0, 0)) else (if (rd y137 (ji2)) = 3 then (some (rd y137 (ji2), wrap64 ((Int.tmod (wrap64 (a0_1)) 16) + 1), 0, 0, 0, 0, 0, Go.bits .and .i64 (wrap64 (a0_2)) t142, 0, 0, wrap64 ((Int.tmod (wrap64 (a0_1)) 16) + 1))) else (if (rd y137 (ji2)) = 4 then (proofmarklaw08_Made.j0 k (wrap64 ((Int.tmod (wrap64 (a0_1)) 16) + 1)) (Go.bits .and .i64 (wrap64 (a0_2)) t142) (Go.bits .and .i64 (wrap64 (a0_3)) t142) (Go.bits .and .i64 (wrap64 (a0_4)) t142) (rd y137 (ji2)) ((rd y137 (ji2)) == 4) a0_0 a0_1 a0_2 a0_3 a0_4 a0_5 (rd y137 (ji2)) (wrap64 ((Int.tmod (wrap64 (a0_1)) 16) + 1)) 0 0 0 0 0) else (proofmarklaw08_Made.j0 k (wrap64 ((Int.tmod (wrap64 (a0_1)) 16) + 1)) (Go.bits .and .i64 (wrap64 (a0_2)) t142) (Go.bits .and .i64 (wrap64 (a0_3)) t142) (Go.bits .and .i64 (wrap64 (a0_4)) t142) (rd y137 (ji2)) ((rd y137 (ji2)) == 5) a0_0 a0_1 a0_2 a0_3 a0_4 a0_5 (rd y137 (ji2)) (wrap64 ((Int.tmod (wrap64 (a0_1)) 16) + 1)) 0 0 0 0 0)))) = some (r1, r2, r3, r4, r5, r6, r7, r8, r9, r10, r11) := H
   have A8 := Aside0.mk A80
   clear A80
   by_cases c10 : (rd y137 (ji2)) = 1
   ·rw [if_pos c10] at H
    have c10b0 : ((rd y137 (ji2)) == 1) = true := beq_iff_eq.mpr c10
    have c10b1 : ((rd y137 (ji2)) != 1) = false := bne_eq_false_iff_eq.mpr c10
    clear c10
    simp only [Option.some.injEq, Prod.mk.injEq] at H
    obtain ⟨rfl, rfl, rfl, rfl, rfl, rfl, rfl, rfl, rfl, rfl, rfl⟩ := H
    go_enter Try.func11, Try.ntmps11
    try go_wp2_with (first | ((with_reducible refine gate_dst (N := 1) rfl ?_); refine box_event ?hg (N := 1) ?hd (cs := #[.int .u8 a0_0, .int .u8 a0_1, .int .u32 a0_2, .int .u32 a0_3, .int .u32 a0_4, .int .u8 a0_5]) (t := 24) ?hr ?_; (case hd => rfl); (case hg => rfl); (case hr => first | (go_simp; done) | (go_simp; rfl)); intro gb135 hg w11 hbox hb; have n0_ := Aside0.mk (below_step (by repeat (first | (with_reducible first | exact HB.out | apply below_alloc | apply pw_below_drewN | apply below_drew1) | exact HB.out)) hb); have n1_ := Aside0.mk (hbox); have n2_ := Aside0.mk ((by rw [hg]; exact (below_size (by repeat (first | (with_reducible first | exact HB.out | apply below_alloc | apply pw_below_drewN | apply below_drew1) | exact HB.out))) : w.heap.size ≤ gb135)); have n3_ := Aside0.mk ((by rw [hg]; exact (below_size (by repeat (first | (with_reducible first | exact HB.out | apply below_alloc | apply pw_below_drewN | apply below_drew1) | exact HB.out))) : w.heap.size ≤ gb135)); clear HB; have HB := n0_; have BK135 := n1_; have GW135 := n2_; have GE135 := n3_; clear n0_ n1_ n2_ n3_; clear hb hbox hg) | ((with_reducible refine gate_dst (N := 2) rfl ?_); refine box_event ?hg (N := 2) ?hd (cs := #[.int .i64 0, .int .i64 0, .int .i64 0, .int .i64 0, .int .i64 0, .int .i64 0, .int .i64 0]) (t := 28) ?hr ?_; (case hd => rfl); (case hg => rfl); (case hr => first | (go_simp; done) | (go_simp; rfl)); intro gb136 hg w12 hbox hb; have n0_ := Aside0.mk (blk_below (g := gb135) (o := .cells #[.int .u8 a0_0, .int .u8 a0_1, .int .u32 a0_2, .int .u32 a0_3, .int .u32 a0_4, .int .u8 a0_5] 24 (0, 0)) (by (with_reducible repeat (first | refine blk_drewN ?_ _ | refine blk_drew ?_ | refine blk_alloc ?_ _)); exact BK135.out) hb); have n1_ := Aside0.mk (below_step (by repeat (first | (with_reducible first | exact HB.out | apply below_alloc | apply pw_below_drewN | apply below_drew1 | refine below_set ?_ GE135.out) | exact HB.out)) hb); have n2_ := Aside0.mk (hbox); have n3_ := Aside0.mk ((by rw [hg]; exact (below_size (by repeat (first | (with_reducible first | exact HB.out | apply below_alloc | apply pw_below_drewN | apply below_drew1 | refine below_set ?_ GE135.out) | exact HB.out))) : w.heap.size ≤ gb136)); have n4_ := Aside0.mk ((by rw [hg]; exact (below_size (by repeat (first | (with_reducible first | exact HB.out | apply below_alloc | apply pw_below_drewN | apply below_drew1 | refine below_set ?_ GE135.out) | exact HB.out))) : w.heap.size ≤ gb136)); have n5_ := Aside0.mk ((by rw [hg]; exact Nat.ne_of_lt (blk_lt (g := gb135) (o := .cells #[.int .u8 a0_0, .int .u8 a0_1, .int .u32 a0_2, .int .u32 a0_3, .int .u32 a0_4, .int .u8 a0_5] 24 (0, 0)) (by (with_reducible repeat (first | refine blk_drewN ?_ _ | refine blk_drew ?_ | refine blk_alloc ?_ _)); exact BK135.out)) : gb135 ≠ gb136)); have n6_ := Aside0.mk ((by rw [hg]; exact Nat.ne_of_gt (blk_lt (g := gb135) (o := .cells #[.int .u8 a0_0, .int .u8 a0_1, .int .u32 a0_2, .int .u32 a0_3, .int .u32 a0_4, .int .u8 a0_5] 24 (0, 0)) (by (with_reducible repeat (first | refine blk_drewN ?_ _ | refine blk_drew ?_ | refine blk_alloc ?_ _)); exact BK135.out)) : gb136 ≠ gb135)); clear BK135; clear HB; have BK135 := n0_; have HB := n1_; have BK136 := n2_; have GW136 := n3_; have GE136 := n4_; have NB135_136 := n5_; have NB136_135 := n6_; clear n0_ n1_ n2_ n3_ n4_ n5_ n6_; clear hb hbox hg) | ((with_reducible refine gate_dst (N := 14) rfl ?_); refine Kd.R_lit (Kd.int .i64) _ 3 ?hg (N := 14) ?hd (xs := ([1, 3, 4, 5, 6, 7, 8, 9, 10, 11, 12, 13, 14, 15, 16, 17, 18] : List Int)) (inner := [.int .i64 1, .int .i64 3, .int .i64 4, .int .i64 5, .int .i64 6, .int .i64 7, .int .i64 8, .int .i64 9, .int .i64 10, .int .i64 11, .int .i64 12, .int .i64 13, .int .i64 14, .int .i64 15, .int .i64 16, .int .i64 17, .int .i64 18]) (ok := fun _ => True) (okp := fun _ => True) ?hr ?hp (fun _ hk => hk) trivial (Below.refl _ _) (Nat.le_refl _) (by simp) ?_; (case hd => rfl); (case hg => rfl); (case hr => first | (go_simp; done) | (go_simp; rfl)); (case hp => exact (Reps.one (show Kd.M (Kd.int .i64) _ _ _ 1 [.int .i64 1] from rfl) (Reps.one (show Kd.M (Kd.int .i64) _ _ _ 3 [.int .i64 3] from rfl) (Reps.one (show Kd.M (Kd.int .i64) _ _ _ 4 [.int .i64 4] from rfl) (Reps.one (show Kd.M (Kd.int .i64) _ _ _ 5 [.int .i64 5] from rfl) (Reps.one (show Kd.M (Kd.int .i64) _ _ _ 6 [.int .i64 6] from rfl) (Reps.one (show Kd.M (Kd.int .i64) _ _ _ 7 [.int .i64 7] from rfl) (Reps.one (show Kd.M (Kd.int .i64) _ _ _ 8 [.int .i64 8] from rfl) (Reps.one (show Kd.M (Kd.int .i64) _ _ _ 9 [.int .i64 9] from rfl) (Reps.one (show Kd.M (Kd.int .i64) _ _ _ 10 [.int .i64 10] from rfl) (Reps.one (show Kd.M (Kd.int .i64) _ _ _ 11 [.int .i64 11] from rfl) (Reps.one (show Kd.M (Kd.int .i64) _ _ _ 12 [.int .i64 12] from rfl) (Reps.one (show Kd.M (Kd.int .i64) _ _ _ 13 [.int .i64 13] from rfl) (Reps.one (show Kd.M (Kd.int .i64) _ _ _ 14 [.int .i64 14] from rfl) (Reps.one (show Kd.M (Kd.int .i64) _ _ _ 15 [.int .i64 15] from rfl) (Reps.one (show Kd.M (Kd.int .i64) _ _ _ 16 [.int .i64 16] from rfl) (Reps.one (show Kd.M (Kd.int .i64) _ _ _ 17 [.int .i64 17] from rfl) (Reps.one (show Kd.M (Kd.int .i64) _ _ _ 18 [.int .i64 18] from rfl) (Reps.none _ _))))))))))))))))))); intro v138 w13 ho14 hb hg_ hnew_; clear hg_ hnew_; (first | rw [← Ny137.out] at ho14 | (simp only [Int.reduceToNat] at ho14; rw [← Ny137.out] at ho14)); have n0_ := Aside0.mk (Kd.R_lower ho14 (below_size (by repeat (first | (with_reducible first | exact HB.out | apply below_alloc | apply pw_below_drewN | apply below_drew1 | refine below_set ?_ GE135.out | refine below_set ?_ GE136.out) | exact HB.out)))); have n1_ := Aside0.mk (blk_below (g := gb135) (o := .cells #[.int .u8 a0_0, .int .u8 a0_1, .int .u32 a0_2, .int .u32 a0_3, .int .u32 a0_4, .int .u8 a0_5] 24 (0, 0)) (by (with_reducible repeat (first | refine blk_drewN ?_ _ | refine blk_drew ?_ | refine blk_alloc ?_ _)); exact BK135.out) hb); have n2_ := Aside0.mk (blk_below (g := gb136) (o := .cells #[.int .i64 0, .int .i64 0, .int .i64 0, .int .i64 0, .int .i64 0, .int .i64 0, .int .i64 0] 28 (0, 0)) (by (with_reducible repeat (first | refine blk_drewN ?_ _ | refine blk_drew ?_ | refine blk_alloc ?_ _)); exact BK136.out) hb); have n3_ := Aside0.mk (below_step (by repeat (first | (with_reducible first | exact HB.out | apply below_alloc | apply pw_below_drewN | apply below_drew1 | refine below_set ?_ GE135.out | refine below_set ?_ GE136.out) | exact HB.out)) hb); clear BK135; clear BK136; clear HB; have HO139 := n0_; have BK135 := n1_; have BK136 := n2_; have HB := n3_; clear n0_ n1_ n2_ n3_; clear hb ho14; have hnb15 := NB135_136.out; have hnc15 := NB136_135.out; have hcz16_0 : w13.cell? ⟨gb135, 0, none⟩ = some (.int .u8 a0_0) := (blk_cell BK135.out 0).trans rfl; have hcz16_1 : w13.cell? ⟨gb135, 1, none⟩ = some (.int .u8 a0_1) := (blk_cell BK135.out 1).trans rfl; have hcz16_2 : w13.cell? ⟨gb135, 2, none⟩ = some (.int .u32 a0_2) := (blk_cell BK135.out 2).trans rfl; have hcz16_3 : w13.cell? ⟨gb135, 3, none⟩ = some (.int .u32 a0_3) := (blk_cell BK135.out 3).trans rfl; have hcz16_4 : w13.cell? ⟨gb135, 4, none⟩ = some (.int .u32 a0_4) := (blk_cell BK135.out 4).trans rfl; have hcz16_5 : w13.cell? ⟨gb135, 5, none⟩ = some (.int .u8 a0_5) := (blk_cell BK135.out 5).trans rfl; have hfz16_0 := blk_frozen BK135.out 0; have hfz16_1 := blk_frozen BK135.out 1; have hfz16_2 := blk_frozen BK135.out 2; have hfz16_3 := blk_frozen BK135.out 3; have hfz16_4 := blk_frozen BK135.out 4; have hfz16_5 := blk_frozen BK135.out 5; obtain ⟨Ao17, co17, eo17⟩ := Kd.R_slice HO139.out; subst eo17; have p140 : 0 ≤ ((ji2) : Int) := of_decide_eq_true (by first | (with_reducible assumption) | assumption); have q140 : (ji2) < (y137.length : Int) := of_decide_eq_true (by first | (with_reducible assumption) | assumption); obtain ⟨ad140, e140, hx140_0⟩ := Kd.at_int (Kd.R_reads' HO139.out).2.2 (ji2) p140 q140; cases e140; replace p140 := eq_true p140; replace q140 := eq_true q140) | ((with_reducible refine gate_dst (N := 9) rfl ?_); refine box_event ?hg (N := 9) ?hd (cs := #[.int .i64 0, .int .i64 0, .int .i64 0, .int .i64 0, .int .i64 0, .int .i64 0, .int .i64 0]) (t := 28) ?hr ?_; (case hd => rfl); (case hg => rfl); (case hr => first | (go_simp; done) | (go_simp; rfl)); intro gb141 hg w18 hbox hb; have n0_ := Aside0.mk (Kd.R_below (by (with_reducible repeat (first | apply Kd.R_alloc | apply Kd.R_drewN | apply Kd.R_drew)); exact HO139.out) hb); have n1_ := Aside0.mk (blk_below (g := gb135) (o := .cells #[.int .u8 a0_0, .int .u8 a0_1, .int .u32 a0_2, .int .u32 a0_3, .int .u32 a0_4, .int .u8 a0_5] 24 (0, 0)) (by (with_reducible repeat (first | refine blk_drewN ?_ _ | refine blk_drew ?_ | refine blk_alloc ?_ _)); exact BK135.out) hb); have n2_ := Aside0.mk (blk_below (g := gb136) (o := .cells #[.int .i64 0, .int .i64 0, .int .i64 0, .int .i64 0, .int .i64 0, .int .i64 0, .int .i64 0] 28 (0, 0)) (by (with_reducible repeat (first | refine blk_drewN ?_ _ | refine blk_drew ?_ | refine blk_alloc ?_ _)); exact BK136.out) hb); have n3_ := Aside0.mk (below_step (by repeat (first | (with_reducible first | exact HB.out | apply below_alloc | apply pw_below_drewN | apply below_drew1 | refine below_set ?_ GE135.out | refine below_set ?_ GE136.out) | exact HB.out)) hb); have n4_ := Aside0.mk (hbox); have n5_ := Aside0.mk ((by rw [hg]; exact (below_size (by repeat (first | (with_reducible first | exact HB.out | apply below_alloc | apply pw_below_drewN | apply below_drew1 | refine below_set ?_ GE135.out | refine below_set ?_ GE136.out) | exact HB.out))) : w.heap.size ≤ gb141)); have n6_ := Aside0.mk ((by rw [hg]; exact (below_size (by repeat (first | (with_reducible first | exact HB.out | apply below_alloc | apply pw_below_drewN | apply below_drew1 | refine below_set ?_ GE135.out | refine below_set ?_ GE136.out) | exact HB.out))) : w.heap.size ≤ gb141)); have n7_ := Aside0.mk ((by rw [hg]; exact Nat.ne_of_lt (blk_lt (g := gb135) (o := .cells #[.int .u8 a0_0, .int .u8 a0_1, .int .u32 a0_2, .int .u32 a0_3, .int .u32 a0_4, .int .u8 a0_5] 24 (0, 0)) (by (with_reducible repeat (first | refine blk_drewN ?_ _ | refine blk_drew ?_ | refine blk_alloc ?_ _)); exact BK135.out)) : gb135 ≠ gb141)); have n8_ := Aside0.mk ((by rw [hg]; exact Nat.ne_of_gt (blk_lt (g := gb135) (o := .cells #[.int .u8 a0_0, .int .u8 a0_1, .int .u32 a0_2, .int .u32 a0_3, .int .u32 a0_4, .int .u8 a0_5] 24 (0, 0)) (by (with_reducible repeat (first | refine blk_drewN ?_ _ | refine blk_drew ?_ | refine blk_alloc ?_ _)); exact BK135.out)) : gb141 ≠ gb135)); have n9_ := Aside0.mk ((by rw [hg]; exact Nat.ne_of_lt (blk_lt (g := gb136) (o := .cells #[.int .i64 0, .int .i64 0, .int .i64 0, .int .i64 0, .int .i64 0, .int .i64 0, .int .i64 0] 28 (0, 0)) (by (with_reducible repeat (first | refine blk_drewN ?_ _ | refine blk_drew ?_ | refine blk_alloc ?_ _)); exact BK136.out)) : gb136 ≠ gb141)); have n10_ := Aside0.mk ((by rw [hg]; exact Nat.ne_of_gt (blk_lt (g := gb136) (o := .cells #[.int .i64 0, .int .i64 0, .int .i64 0, .int .i64 0, .int .i64 0, .int .i64 0, .int .i64 0] 28 (0, 0)) (by (with_reducible repeat (first | refine blk_drewN ?_ _ | refine blk_drew ?_ | refine blk_alloc ?_ _)); exact BK136.out)) : gb141 ≠ gb136)); clear HO139; clear BK135; clear BK136; clear HB; have HO139 := n0_; have BK135 := n1_; have BK136 := n2_; have HB := n3_; have BK141 := n4_; have GW141 := n5_; have GE141 := n6_; have NB135_141 := n7_; have NB141_135 := n8_; have NB136_141 := n9_; have NB141_136 := n10_; clear n0_ n1_ n2_ n3_ n4_ n5_ n6_ n7_ n8_ n9_ n10_; clear hb hbox hg; have hnb19 := NB141_135.out; have hnc19 := NB135_141.out; have hnb20 := NB141_136.out; have hnc20 := NB136_141.out; have hcz21_0 : w18.cell? ⟨gb141, 0, none⟩ = some (.int .i64 0) := (blk_cell BK141.out 0).trans rfl; have hcz21_1 : w18.cell? ⟨gb141, 1, none⟩ = some (.int .i64 0) := (blk_cell BK141.out 1).trans rfl; have hcz21_2 : w18.cell? ⟨gb141, 2, none⟩ = some (.int .i64 0) := (blk_cell BK141.out 2).trans rfl; have hcz21_3 : w18.cell? ⟨gb141, 3, none⟩ = some (.int .i64 0) := (blk_cell BK141.out 3).trans rfl; have hcz21_4 : w18.cell? ⟨gb141, 4, none⟩ = some (.int .i64 0) := (blk_cell BK141.out 4).trans rfl; have hcz21_5 : w18.cell? ⟨gb141, 5, none⟩ = some (.int .i64 0) := (blk_cell BK141.out 5).trans rfl; have hcz21_6 : w18.cell? ⟨gb141, 6, none⟩ = some (.int .i64 0) := (blk_cell BK141.out 6).trans rfl; have hfz21_0 := blk_frozen BK141.out 0; have hfz21_1 := blk_frozen BK141.out 1; have hfz21_2 := blk_frozen BK141.out 2; have hfz21_3 := blk_frozen BK141.out 3; have hfz21_4 := blk_frozen BK141.out 4; have hfz21_5 := blk_frozen BK141.out 5; have hfz21_6 := blk_frozen BK141.out 6))
    have n0_ : Aside0 (Kd.R (Kd.int .i64) 3 (((((((w18.setCell ⟨gb141, 0, none⟩ (.int .i64 (rd y137 (ji2)))).setCell ⟨gb141, 1, none⟩ (.int .i64 (wrap64 ((Int.tmod (wrap64 (a0_1)) 16) + 1)))).setCell ⟨gb141, 2, none⟩ (.int .i64 0)).setCell ⟨gb141, 3, none⟩ (.int .i64 0)).setCell ⟨gb141, 4, none⟩ (.int .i64 0)).setCell ⟨gb141, 5, none⟩ (.int .i64 0)).setCell ⟨gb141, 6, none⟩ (.int .i64 0)) w.heap.size (fun _ => True) (.slice (some ad140) y137.length co17) y137) := ⟨by (with_reducible repeat (first | apply Kd.R_alloc | apply Kd.R_drewN | apply Kd.R_drew)); exact Kd.R_mono (Kd.R_far (p := ⟨gb141, 6, none⟩) (Kd.R_far (p := ⟨gb141, 5, none⟩) (Kd.R_far (p := ⟨gb141, 4, none⟩) (Kd.R_far (p := ⟨gb141, 3, none⟩) (Kd.R_far (p := ⟨gb141, 2, none⟩) (Kd.R_far (p := ⟨gb141, 1, none⟩) (Kd.R_far (p := ⟨gb141, 0, none⟩) (Kd.R_types HO139.out BK141.out (by decide)) (fun _ hk => hk.2) (.int .i64 (rd y137 (ji2)))) (fun _ hk => hk.2) (.int .i64 (wrap64 ((Int.tmod (wrap64 (a0_1)) 16) + 1)))) (fun _ hk => hk.2) (.int .i64 0)) (fun _ hk => hk.2) (.int .i64 0)) (fun _ hk => hk.2) (.int .i64 0)) (fun _ hk => hk.2) (.int .i64 0)) (fun _ hk => hk.2) (.int .i64 0)) (fun _ hk => trivial)⟩
    have n1_ : Aside0 ((((((((w18.setCell ⟨gb141, 0, none⟩ (.int .i64 (rd y137 (ji2)))).setCell ⟨gb141, 1, none⟩ (.int .i64 (wrap64 ((Int.tmod (wrap64 (a0_1)) 16) + 1)))).setCell ⟨gb141, 2, none⟩ (.int .i64 0)).setCell ⟨gb141, 3, none⟩ (.int .i64 0)).setCell ⟨gb141, 4, none⟩ (.int .i64 0)).setCell ⟨gb141, 5, none⟩ (.int .i64 0)).setCell ⟨gb141, 6, none⟩ (.int .i64 0)).heap[gb135]? = some (.cells #[.int .u8 a0_0, .int .u8 a0_1, .int .u32 a0_2, .int .u32 a0_3, .int .u32 a0_4, .int .u8 a0_5] 24 (0, 0))) := ⟨by (with_reducible repeat (first | refine blk_drewN ?_ _ | refine blk_drew ?_ | refine blk_alloc ?_ _)); refine blk_far ?_ NB135_141.out _; (with_reducible repeat (first | refine blk_drewN ?_ _ | refine blk_drew ?_ | refine blk_alloc ?_ _)); refine blk_far ?_ NB135_141.out _; (with_reducible repeat (first | refine blk_drewN ?_ _ | refine blk_drew ?_ | refine blk_alloc ?_ _)); refine blk_far ?_ NB135_141.out _; (with_reducible repeat (first | refine blk_drewN ?_ _ | refine blk_drew ?_ | refine blk_alloc ?_ _)); refine blk_far ?_ NB135_141.out _; (with_reducible repeat (first | refine blk_drewN ?_ _ | refine blk_drew ?_ | refine blk_alloc ?_ _)); refine blk_far ?_ NB135_141.out _; (with_reducible repeat (first | refine blk_drewN ?_ _ | refine blk_drew ?_ | refine blk_alloc ?_ _)); refine blk_far ?_ NB135_141.out _; (with_reducible repeat (first | refine blk_drewN ?_ _ | refine blk_drew ?_ | refine blk_alloc ?_ _)); refine blk_far ?_ NB135_141.out _; (with_reducible repeat (first | refine blk_drewN ?_ _ | refine blk_drew ?_ | refine blk_alloc ?_ _)); exact BK135.out⟩
    have n2_ : Aside0 ((((((((w18.setCell ⟨gb141, 0, none⟩ (.int .i64 (rd y137 (ji2)))).setCell ⟨gb141, 1, none⟩ (.int .i64 (wrap64 ((Int.tmod (wrap64 (a0_1)) 16) + 1)))).setCell ⟨gb141, 2, none⟩ (.int .i64 0)).setCell ⟨gb141, 3, none⟩ (.int .i64 0)).setCell ⟨gb141, 4, none⟩ (.int .i64 0)).setCell ⟨gb141, 5, none⟩ (.int .i64 0)).setCell ⟨gb141, 6, none⟩ (.int .i64 0)).heap[gb136]? = some (.cells #[.int .i64 0, .int .i64 0, .int .i64 0, .int .i64 0, .int .i64 0, .int .i64 0, .int .i64 0] 28 (0, 0))) := ⟨by (with_reducible repeat (first | refine blk_drewN ?_ _ | refine blk_drew ?_ | refine blk_alloc ?_ _)); refine blk_far ?_ NB136_141.out _; (with_reducible repeat (first | refine blk_drewN ?_ _ | refine blk_drew ?_ | refine blk_alloc ?_ _)); refine blk_far ?_ NB136_141.out _; (with_reducible repeat (first | refine blk_drewN ?_ _ | refine blk_drew ?_ | refine blk_alloc ?_ _)); refine blk_far ?_ NB136_141.out _; (with_reducible repeat (first | refine blk_drewN ?_ _ | refine blk_drew ?_ | refine blk_alloc ?_ _)); refine blk_far ?_ NB136_141.out _; (with_reducible repeat (first | refine blk_drewN ?_ _ | refine blk_drew ?_ | refine blk_alloc ?_ _)); refine blk_far ?_ NB136_141.out _; (with_reducible repeat (first | refine blk_drewN ?_ _ | refine blk_drew ?_ | refine blk_alloc ?_ _)); refine blk_far ?_ NB136_141.out _; (with_reducible repeat (first | refine blk_drewN ?_ _ | refine blk_drew ?_ | refine blk_alloc ?_ _)); refine blk_far ?_ NB136_141.out _; (with_reducible repeat (first | refine blk_drewN ?_ _ | refine blk_drew ?_ | refine blk_alloc ?_ _)); exact BK136.out⟩
    have n3_ : Aside0 ((((((((w18.setCell ⟨gb141, 0, none⟩ (.int .i64 (rd y137 (ji2)))).setCell ⟨gb141, 1, none⟩ (.int .i64 (wrap64 ((Int.tmod (wrap64 (a0_1)) 16) + 1)))).setCell ⟨gb141, 2, none⟩ (.int .i64 0)).setCell ⟨gb141, 3, none⟩ (.int .i64 0)).setCell ⟨gb141, 4, none⟩ (.int .i64 0)).setCell ⟨gb141, 5, none⟩ (.int .i64 0)).setCell ⟨gb141, 6, none⟩ (.int .i64 0)).heap[gb141]? = some (.cells #[.int .i64 (rd y137 (ji2)), .int .i64 (wrap64 ((Int.tmod (wrap64 (a0_1)) 16) + 1)), .int .i64 0, .int .i64 0, .int .i64 0, .int .i64 0, .int .i64 0] 28 (0, 0))) := ⟨by (with_reducible repeat (first | refine blk_drewN ?_ _ | refine blk_drew ?_ | refine blk_alloc ?_ _)); refine blk_put (cs := #[.int .i64 (rd y137 (ji2)), .int .i64 (wrap64 ((Int.tmod (wrap64 (a0_1)) 16) + 1)), .int .i64 0, .int .i64 0, .int .i64 0, .int .i64 0, .int .i64 0]) ?_ 6 _ rfl; (with_reducible repeat (first | refine blk_drewN ?_ _ | refine blk_drew ?_ | refine blk_alloc ?_ _)); refine blk_put (cs := #[.int .i64 (rd y137 (ji2)), .int .i64 (wrap64 ((Int.tmod (wrap64 (a0_1)) 16) + 1)), .int .i64 0, .int .i64 0, .int .i64 0, .int .i64 0, .int .i64 0]) ?_ 5 _ rfl; (with_reducible repeat (first | refine blk_drewN ?_ _ | refine blk_drew ?_ | refine blk_alloc ?_ _)); refine blk_put (cs := #[.int .i64 (rd y137 (ji2)), .int .i64 (wrap64 ((Int.tmod (wrap64 (a0_1)) 16) + 1)), .int .i64 0, .int .i64 0, .int .i64 0, .int .i64 0, .int .i64 0]) ?_ 4 _ rfl; (with_reducible repeat (first | refine blk_drewN ?_ _ | refine blk_drew ?_ | refine blk_alloc ?_ _)); refine blk_put (cs := #[.int .i64 (rd y137 (ji2)), .int .i64 (wrap64 ((Int.tmod (wrap64 (a0_1)) 16) + 1)), .int .i64 0, .int .i64 0, .int .i64 0, .int .i64 0, .int .i64 0]) ?_ 3 _ rfl; (with_reducible repeat (first | refine blk_drewN ?_ _ | refine blk_drew ?_ | refine blk_alloc ?_ _)); refine blk_put (cs := #[.int .i64 (rd y137 (ji2)), .int .i64 (wrap64 ((Int.tmod (wrap64 (a0_1)) 16) + 1)), .int .i64 0, .int .i64 0, .int .i64 0, .int .i64 0, .int .i64 0]) ?_ 2 _ rfl; (with_reducible repeat (first | refine blk_drewN ?_ _ | refine blk_drew ?_ | refine blk_alloc ?_ _)); refine blk_put (cs := #[.int .i64 (rd y137 (ji2)), .int .i64 0, .int .i64 0, .int .i64 0, .int .i64 0, .int .i64 0, .int .i64 0]) ?_ 1 _ rfl; (with_reducible repeat (first | refine blk_drewN ?_ _ | refine blk_drew ?_ | refine blk_alloc ?_ _)); refine blk_put (cs := #[.int .i64 0, .int .i64 0, .int .i64 0, .int .i64 0, .int .i64 0, .int .i64 0, .int .i64 0]) ?_ 0 _ rfl; (with_reducible repeat (first | refine blk_drewN ?_ _ | refine blk_drew ?_ | refine blk_alloc ?_ _)); exact BK141.out⟩
    have n4_ : Aside0 (Below w.heap.size w (((((((w18.setCell ⟨gb141, 0, none⟩ (.int .i64 (rd y137 (ji2)))).setCell ⟨gb141, 1, none⟩ (.int .i64 (wrap64 ((Int.tmod (wrap64 (a0_1)) 16) + 1)))).setCell ⟨gb141, 2, none⟩ (.int .i64 0)).setCell ⟨gb141, 3, none⟩ (.int .i64 0)).setCell ⟨gb141, 4, none⟩ (.int .i64 0)).setCell ⟨gb141, 5, none⟩ (.int .i64 0)).setCell ⟨gb141, 6, none⟩ (.int .i64 0))) := ⟨by repeat (first | (with_reducible first | exact HB.out | apply below_alloc | apply pw_below_drewN | apply below_drew1 | refine below_set ?_ GE135.out | refine below_set ?_ GE136.out | refine below_set ?_ GE141.out) | exact HB.out)⟩
    (try clear HO139)
    (try clear BK135)
    (try clear BK136)
    (try clear BK141)
    (try clear HB)
    generalize (((((((w18.setCell ⟨gb141, 0, none⟩ (.int .i64 (rd y137 (ji2)))).setCell ⟨gb141, 1, none⟩ (.int .i64 (wrap64 ((Int.tmod (wrap64 (a0_1)) 16) + 1)))).setCell ⟨gb141, 2, none⟩ (.int .i64 0)).setCell ⟨gb141, 3, none⟩ (.int .i64 0)).setCell ⟨gb141, 4, none⟩ (.int .i64 0)).setCell ⟨gb141, 5, none⟩ (.int .i64 0)).setCell ⟨gb141, 6, none⟩ (.int .i64 0)) = w22 at n0_ n1_ n2_ n3_ n4_ ⊢
    have HO139 := n0_
    have BK135 := n1_
    have BK136 := n2_
    have BK141 := n3_
    have HB := n4_
    clear n0_ n1_ n2_ n3_ n4_
    have n0_ := Aside0.mk (Kd.R_drew HO139.out)
    have n1_ := Aside0.mk (blk_drew BK135.out)
    have n2_ := Aside0.mk (blk_drew BK136.out)
    have n3_ := Aside0.mk (blk_drew BK141.out)
    have n4_ := Aside0.mk (below_drew1 HB.out)
    clear HO139
    clear BK135
    clear BK136
    clear BK141
    clear HB
    have HO139 := n0_
    have BK135 := n1_
    have BK136 := n2_
    have BK141 := n3_
    have HB := n4_
    clear n0_ n1_ n2_ n3_ n4_
    refine start_ (n := 7) (S := fun w' => w'.cell? ⟨gb135, 0, none⟩ = some (.int .u8 a0_0) ∧ w'.cell? ⟨gb135, 1, none⟩ = some (.int .u8 a0_1) ∧ w'.cell? ⟨gb135, 2, none⟩ = some (.int .u32 a0_2) ∧ w'.cell? ⟨gb135, 3, none⟩ = some (.int .u32 a0_3) ∧ w'.cell? ⟨gb135, 4, none⟩ = some (.int .u32 a0_4) ∧ w'.cell? ⟨gb135, 5, none⟩ = some (.int .u8 a0_5)) (ds := []) #[false, false, false, false, false, false, false] (by kernel_rfl) rfl rfl ⟨(blk_cell BK135.out 0).trans rfl, (blk_cell BK135.out 1).trans rfl, (blk_cell BK135.out 2).trans rfl, (blk_cell BK135.out 3).trans rfl, (blk_cell BK135.out 4).trans rfl, (blk_cell BK135.out 5).trans rfl⟩ (fun hHeld => ?_)
    generalize w22.drew = w23 at HO139 BK135 BK136 BK141 HB hHeld ⊢
    refine pure_ (i := 0) (N := some 29) (v := ?_) (a' := ?_) #[true, false, false, false, false, false, false] rfl rfl (by kernel_rfl) (fun _ _ _ h => h) (Or.inl ⟨by rfl, ?_⟩) ?_ ?_
    rotate_left
    ·intro w'
     go_simp
     with_reducible rfl
    rotate_left
    ·simp only [Act.put, List.setIfInBounds_toArray, List.set_cons_zero, List.set_cons_succ, i64_w, i32_w]
     rfl
    refine pure_ (i := 3) (N := some 32) (v := ?_) (a' := ?_) #[true, false, false, true, false, false, false] rfl rfl (by kernel_rfl) (fun _ _ _ h => h) (Or.inl ⟨by rfl, ?_⟩) ?_ ?_
    rotate_left
    ·intro w'
     go_simp
     with_reducible rfl
    rotate_left
    ·simp only [Act.put, List.setIfInBounds_toArray, List.set_cons_zero, List.set_cons_succ, i64_w, i32_w]
     rfl
    refine take_ (i := 1) (N := some 30) (v := ?_) (a' := ?_) #[true, true, false, true, false, false, false] rfl rfl (by kernel_rfl) (fun _ _ _ h => h) (Or.inl ⟨by rfl, ?_⟩) hHeld ?_ ?_
    rotate_left
    ·rintro w' ⟨s0, s1, s2, s3, s4, s5⟩
     go_simp
     with_reducible rfl
    rotate_left
    ·simp only [Act.put, List.setIfInBounds_toArray, List.set_cons_zero, List.set_cons_succ, i64_w, i32_w]
     rfl
    refine pure_ (i := 2) (N := some 31) (v := ?_) (a' := ?_) #[true, true, true, true, false, false, false] rfl rfl (by kernel_rfl) (fun _ _ _ h => h) (Or.inl ⟨by rfl, ?_⟩) ?_ ?_
    rotate_left
    ·intro w'
     go_simp
     with_reducible rfl
    rotate_left
    ·simp only [Act.put, List.setIfInBounds_toArray, List.set_cons_zero, List.set_cons_succ, i64_w, i32_w]
     rfl
    refine one_ (i := 4) (N := some 33) #[true, true, true, true, true, false, false] rfl rfl (by kernel_rfl) (by decide) (fun K hK => ?_)
    refine goes_ Try.func15 (by kernel_rfl) rfl #[.int .i64 (wrap64 ((Int.tmod (wrap64 (a0_1)) 16) + 1))] (by rfl) rfl rfl (by (try simp only [List.map_toArray, List.map_cons, List.map_nil]); first | done | rfl | (simp only [List.length_drop, List.length_take]; rfl)) ?_
    with_reducible refine (proofmarkref08_Mask.calls (wrap64 ((Int.tmod (wrap64 (a0_1)) 16) + 1)) t142 _ A5.out).mono ?_
    rintro e w' ⟨rfl, ⟨nd, rfl⟩⟩
    refine ⟨_, rfl, ?_⟩
    refine hK.out _ _ ⟨(blk_cell BK135.out 0).trans rfl, (blk_cell BK135.out 1).trans rfl, (blk_cell BK135.out 2).trans rfl, (blk_cell BK135.out 3).trans rfl, (blk_cell BK135.out 4).trans rfl, (blk_cell BK135.out 5).trans rfl⟩ (fun hHeld => ?_)
    clear hK K
    refine norm_ (a' := ?_) ?_ ?_
    rotate_left
    ·show Act.put _ (some 33) _ = _
     simp only [Act.put, List.setIfInBounds_toArray, List.set_cons_zero, List.set_cons_succ, i64_w, i32_w]
     rfl
    refine pure_ (i := 5) (N := some 34) (v := ?_) (a' := ?_) #[true, true, true, true, true, true, false] rfl rfl (by kernel_rfl) (fun _ _ _ h => h) (Or.inl ⟨by rfl, ?_⟩) ?_ ?_
    rotate_left
    ·intro w'
     go_simp
     with_reducible rfl
    rotate_left
    ·simp only [Act.put, List.setIfInBounds_toArray, List.set_cons_zero, List.set_cons_succ, i64_w, i32_w]
     rfl
    refine pure_ (i := 6) (N := some 10) (v := ?_) (a' := ?_) #[true, true, true, true, true, true, true] rfl rfl (by kernel_rfl) (fun _ _ _ h => h) (Or.inl ⟨by rfl, ?_⟩) ?_ ?_
    rotate_left
    ·intro w'
     go_simp
     with_reducible rfl
    rotate_left
    ·simp only [Act.put, List.setIfInBounds_toArray, List.set_cons_zero, List.set_cons_succ, i64_w, i32_w]
     rfl
    refine done_ (by kernel_rfl) ?_
    try go_wp2
    (try (rw [drewN_self w23]; generalize hq_ : World.drewN w23 _ = w23; have n0_ : Aside0 (Kd.R (Kd.int .i64) 3 w23 w.heap.size (fun _ => True) (.slice (some ad140) y137.length co17) y137) := ⟨by rw [← hq_]; exact (by (with_reducible repeat (first | apply Kd.R_alloc | apply Kd.R_drewN | apply Kd.R_drew)); exact HO139.out)⟩; have n1_ : Aside0 (w23.heap[gb135]? = some (.cells #[.int .u8 a0_0, .int .u8 a0_1, .int .u32 a0_2, .int .u32 a0_3, .int .u32 a0_4, .int .u8 a0_5] 24 (0, 0))) := ⟨by rw [← hq_]; exact (by (with_reducible repeat (first | refine blk_drewN ?_ _ | refine blk_drew ?_ | refine blk_alloc ?_ _)); exact BK135.out)⟩; have n2_ : Aside0 (w23.heap[gb136]? = some (.cells #[.int .i64 0, .int .i64 0, .int .i64 0, .int .i64 0, .int .i64 0, .int .i64 0, .int .i64 0] 28 (0, 0))) := ⟨by rw [← hq_]; exact (by (with_reducible repeat (first | refine blk_drewN ?_ _ | refine blk_drew ?_ | refine blk_alloc ?_ _)); exact BK136.out)⟩; have n3_ : Aside0 (w23.heap[gb141]? = some (.cells #[.int .i64 (rd y137 (ji2)), .int .i64 (wrap64 ((Int.tmod (wrap64 (a0_1)) 16) + 1)), .int .i64 0, .int .i64 0, .int .i64 0, .int .i64 0, .int .i64 0] 28 (0, 0))) := ⟨by rw [← hq_]; exact (by (with_reducible repeat (first | refine blk_drewN ?_ _ | refine blk_drew ?_ | refine blk_alloc ?_ _)); exact BK141.out)⟩; have n4_ : Aside0 (Below w.heap.size w w23) := ⟨by rw [← hq_]; exact (by repeat (first | (with_reducible first | exact HB.out | apply below_alloc | apply pw_below_drewN | apply below_drew1 | refine below_set ?_ GE135.out | refine below_set ?_ GE136.out | refine below_set ?_ GE141.out) | exact HB.out))⟩; clear HO139 BK135 BK136 BK141 HB hq_; have HO139 := n0_; have BK135 := n1_; have BK136 := n2_; have BK141 := n3_; have HB := n4_; clear n0_ n1_ n2_ n3_ n4_))
    have n0_ := Aside0.mk (Kd.R_drew HO139.out)
    have n1_ := Aside0.mk (blk_drew BK135.out)
    have n2_ := Aside0.mk (blk_drew BK136.out)
    have n3_ := Aside0.mk (blk_drew BK141.out)
    have n4_ := Aside0.mk (below_drew1 HB.out)
    clear HO139
    clear BK135
    clear BK136
    clear BK141
    clear HB
    have HO139 := n0_
    have BK135 := n1_
    have BK136 := n2_
    have BK141 := n3_
    have HB := n4_
    clear n0_ n1_ n2_ n3_ n4_
    refine start_ (n := 7) (S := fun w' => w'.cell? ⟨gb135, 0, none⟩ = some (.int .u8 a0_0) ∧ w'.cell? ⟨gb135, 1, none⟩ = some (.int .u8 a0_1) ∧ w'.cell? ⟨gb135, 2, none⟩ = some (.int .u32 a0_2) ∧ w'.cell? ⟨gb135, 3, none⟩ = some (.int .u32 a0_3) ∧ w'.cell? ⟨gb135, 4, none⟩ = some (.int .u32 a0_4) ∧ w'.cell? ⟨gb135, 5, none⟩ = some (.int .u8 a0_5)) (ds := []) #[false, false, false, false, false, false, false] (by kernel_rfl) rfl rfl ⟨(blk_cell BK135.out 0).trans rfl, (blk_cell BK135.out 1).trans rfl, (blk_cell BK135.out 2).trans rfl, (blk_cell BK135.out 3).trans rfl, (blk_cell BK135.out 4).trans rfl, (blk_cell BK135.out 5).trans rfl⟩ (fun hHeld => ?_)
    generalize w23.drew = w24 at HO139 BK135 BK136 BK141 HB hHeld ⊢
    refine pure_ (i := 0) (N := some 35) (v := ?_) (a' := ?_) #[true, false, false, false, false, false, false] rfl rfl (by kernel_rfl) (fun _ _ _ h => h) (Or.inl ⟨by rfl, ?_⟩) ?_ ?_
    rotate_left
    ·intro w'
     go_simp
     with_reducible rfl
    rotate_left
    ·simp only [Act.put, List.setIfInBounds_toArray, List.set_cons_zero, List.set_cons_succ, i64_w, i32_w]
     rfl
    refine pure_ (i := 3) (N := some 38) (v := ?_) (a' := ?_) #[true, false, false, true, false, false, false] rfl rfl (by kernel_rfl) (fun _ _ _ h => h) (Or.inl ⟨by rfl, ?_⟩) ?_ ?_
    rotate_left
    ·intro w'
     go_simp
     with_reducible rfl
    rotate_left
    ·simp only [Act.put, List.setIfInBounds_toArray, List.set_cons_zero, List.set_cons_succ, i64_w, i32_w]
     rfl
    refine take_ (i := 1) (N := some 36) (v := ?_) (a' := ?_) #[true, true, false, true, false, false, false] rfl rfl (by kernel_rfl) (fun _ _ _ h => h) (Or.inl ⟨by rfl, ?_⟩) hHeld ?_ ?_
    rotate_left
    ·rintro w' ⟨s0, s1, s2, s3, s4, s5⟩
     go_simp
     with_reducible rfl
    rotate_left
    ·simp only [Act.put, List.setIfInBounds_toArray, List.set_cons_zero, List.set_cons_succ, i64_w, i32_w]
     rfl
    refine pure_ (i := 2) (N := some 37) (v := ?_) (a' := ?_) #[true, true, true, true, false, false, false] rfl rfl (by kernel_rfl) (fun _ _ _ h => h) (Or.inl ⟨by rfl, ?_⟩) ?_ ?_
    rotate_left
    ·intro w'
     go_simp
     with_reducible rfl
    rotate_left
    ·simp only [Act.put, List.setIfInBounds_toArray, List.set_cons_zero, List.set_cons_succ, i64_w, i32_w]
     rfl
    refine one_ (i := 4) (N := some 39) #[true, true, true, true, true, false, false] rfl rfl (by kernel_rfl) (by decide) (fun K hK => ?_)
    refine goes_ Try.func15 (by kernel_rfl) rfl #[.int .i64 (wrap64 ((Int.tmod (wrap64 (a0_1)) 16) + 1))] (by rfl) rfl rfl (by (try simp only [List.map_toArray, List.map_cons, List.map_nil]); first | done | rfl | (simp only [List.length_drop, List.length_take]; rfl)) ?_
    with_reducible refine (proofmarkref08_Mask.calls (wrap64 ((Int.tmod (wrap64 (a0_1)) 16) + 1)) t142 _ A6.out).mono ?_
    rintro e w' ⟨rfl, ⟨nd, rfl⟩⟩
    refine ⟨_, rfl, ?_⟩
    refine hK.out _ _ ⟨(blk_cell BK135.out 0).trans rfl, (blk_cell BK135.out 1).trans rfl, (blk_cell BK135.out 2).trans rfl, (blk_cell BK135.out 3).trans rfl, (blk_cell BK135.out 4).trans rfl, (blk_cell BK135.out 5).trans rfl⟩ (fun hHeld => ?_)
    clear hK K
    refine norm_ (a' := ?_) ?_ ?_
    rotate_left
    ·show Act.put _ (some 39) _ = _
     simp only [Act.put, List.setIfInBounds_toArray, List.set_cons_zero, List.set_cons_succ, i64_w, i32_w]
     rfl
    refine pure_ (i := 5) (N := some 40) (v := ?_) (a' := ?_) #[true, true, true, true, true, true, false] rfl rfl (by kernel_rfl) (fun _ _ _ h => h) (Or.inl ⟨by rfl, ?_⟩) ?_ ?_
    rotate_left
    ·intro w'
     go_simp
     with_reducible rfl
    rotate_left
    ·simp only [Act.put, List.setIfInBounds_toArray, List.set_cons_zero, List.set_cons_succ, i64_w, i32_w]
     rfl
    refine pure_ (i := 6) (N := some 11) (v := ?_) (a' := ?_) #[true, true, true, true, true, true, true] rfl rfl (by kernel_rfl) (fun _ _ _ h => h) (Or.inl ⟨by rfl, ?_⟩) ?_ ?_
    rotate_left
    ·intro w'
     go_simp
     with_reducible rfl
    rotate_left
    ·simp only [Act.put, List.setIfInBounds_toArray, List.set_cons_zero, List.set_cons_succ, i64_w, i32_w]
     rfl
    refine done_ (by kernel_rfl) ?_
    try go_wp2
    (try (rw [drewN_self w24]; generalize hq_ : World.drewN w24 _ = w24; have n0_ : Aside0 (Kd.R (Kd.int .i64) 3 w24 w.heap.size (fun _ => True) (.slice (some ad140) y137.length co17) y137) := ⟨by rw [← hq_]; exact (by (with_reducible repeat (first | apply Kd.R_alloc | apply Kd.R_drewN | apply Kd.R_drew)); exact HO139.out)⟩; have n1_ : Aside0 (w24.heap[gb135]? = some (.cells #[.int .u8 a0_0, .int .u8 a0_1, .int .u32 a0_2, .int .u32 a0_3, .int .u32 a0_4, .int .u8 a0_5] 24 (0, 0))) := ⟨by rw [← hq_]; exact (by (with_reducible repeat (first | refine blk_drewN ?_ _ | refine blk_drew ?_ | refine blk_alloc ?_ _)); exact BK135.out)⟩; have n2_ : Aside0 (w24.heap[gb136]? = some (.cells #[.int .i64 0, .int .i64 0, .int .i64 0, .int .i64 0, .int .i64 0, .int .i64 0, .int .i64 0] 28 (0, 0))) := ⟨by rw [← hq_]; exact (by (with_reducible repeat (first | refine blk_drewN ?_ _ | refine blk_drew ?_ | refine blk_alloc ?_ _)); exact BK136.out)⟩; have n3_ : Aside0 (w24.heap[gb141]? = some (.cells #[.int .i64 (rd y137 (ji2)), .int .i64 (wrap64 ((Int.tmod (wrap64 (a0_1)) 16) + 1)), .int .i64 0, .int .i64 0, .int .i64 0, .int .i64 0, .int .i64 0] 28 (0, 0))) := ⟨by rw [← hq_]; exact (by (with_reducible repeat (first | refine blk_drewN ?_ _ | refine blk_drew ?_ | refine blk_alloc ?_ _)); exact BK141.out)⟩; have n4_ : Aside0 (Below w.heap.size w w24) := ⟨by rw [← hq_]; exact (by repeat (first | (with_reducible first | exact HB.out | apply below_alloc | apply pw_below_drewN | apply below_drew1 | refine below_set ?_ GE135.out | refine below_set ?_ GE136.out | refine below_set ?_ GE141.out) | exact HB.out))⟩; clear HO139 BK135 BK136 BK141 HB hq_; have HO139 := n0_; have BK135 := n1_; have BK136 := n2_; have BK141 := n3_; have HB := n4_; clear n0_ n1_ n2_ n3_ n4_))
    have n0_ := Aside0.mk (Kd.R_drew HO139.out)
    have n1_ := Aside0.mk (blk_drew BK135.out)
    have n2_ := Aside0.mk (blk_drew BK136.out)
    have n3_ := Aside0.mk (blk_drew BK141.out)
    have n4_ := Aside0.mk (below_drew1 HB.out)
    clear HO139
    clear BK135
    clear BK136
    clear BK141
    clear HB
    have HO139 := n0_
    have BK135 := n1_
    have BK136 := n2_
    have BK141 := n3_
    have HB := n4_
    clear n0_ n1_ n2_ n3_ n4_
    refine start_ (n := 7) (S := fun w' => w'.cell? ⟨gb135, 0, none⟩ = some (.int .u8 a0_0) ∧ w'.cell? ⟨gb135, 1, none⟩ = some (.int .u8 a0_1) ∧ w'.cell? ⟨gb135, 2, none⟩ = some (.int .u32 a0_2) ∧ w'.cell? ⟨gb135, 3, none⟩ = some (.int .u32 a0_3) ∧ w'.cell? ⟨gb135, 4, none⟩ = some (.int .u32 a0_4) ∧ w'.cell? ⟨gb135, 5, none⟩ = some (.int .u8 a0_5)) (ds := []) #[false, false, false, false, false, false, false] (by kernel_rfl) rfl rfl ⟨(blk_cell BK135.out 0).trans rfl, (blk_cell BK135.out 1).trans rfl, (blk_cell BK135.out 2).trans rfl, (blk_cell BK135.out 3).trans rfl, (blk_cell BK135.out 4).trans rfl, (blk_cell BK135.out 5).trans rfl⟩ (fun hHeld => ?_)
    generalize w24.drew = w25 at HO139 BK135 BK136 BK141 HB hHeld ⊢
    refine pure_ (i := 0) (N := some 41) (v := ?_) (a' := ?_) #[true, false, false, false, false, false, false] rfl rfl (by kernel_rfl) (fun _ _ _ h => h) (Or.inl ⟨by rfl, ?_⟩) ?_ ?_
    rotate_left
    ·intro w'
     go_simp
     with_reducible rfl
    rotate_left
    ·simp only [Act.put, List.setIfInBounds_toArray, List.set_cons_zero, List.set_cons_succ, i64_w, i32_w]
     rfl
    refine pure_ (i := 3) (N := some 44) (v := ?_) (a' := ?_) #[true, false, false, true, false, false, false] rfl rfl (by kernel_rfl) (fun _ _ _ h => h) (Or.inl ⟨by rfl, ?_⟩) ?_ ?_
    rotate_left
    ·intro w'
     go_simp
     with_reducible rfl
    rotate_left
    ·simp only [Act.put, List.setIfInBounds_toArray, List.set_cons_zero, List.set_cons_succ, i64_w, i32_w]
     rfl
    refine take_ (i := 1) (N := some 42) (v := ?_) (a' := ?_) #[true, true, false, true, false, false, false] rfl rfl (by kernel_rfl) (fun _ _ _ h => h) (Or.inl ⟨by rfl, ?_⟩) hHeld ?_ ?_
    rotate_left
    ·rintro w' ⟨s0, s1, s2, s3, s4, s5⟩
     go_simp
     with_reducible rfl
    rotate_left
    ·simp only [Act.put, List.setIfInBounds_toArray, List.set_cons_zero, List.set_cons_succ, i64_w, i32_w]
     rfl
    refine pure_ (i := 2) (N := some 43) (v := ?_) (a' := ?_) #[true, true, true, true, false, false, false] rfl rfl (by kernel_rfl) (fun _ _ _ h => h) (Or.inl ⟨by rfl, ?_⟩) ?_ ?_
    rotate_left
    ·intro w'
     go_simp
     with_reducible rfl
    rotate_left
    ·simp only [Act.put, List.setIfInBounds_toArray, List.set_cons_zero, List.set_cons_succ, i64_w, i32_w]
     rfl
    refine one_ (i := 4) (N := some 45) #[true, true, true, true, true, false, false] rfl rfl (by kernel_rfl) (by decide) (fun K hK => ?_)
    refine goes_ Try.func15 (by kernel_rfl) rfl #[.int .i64 (wrap64 ((Int.tmod (wrap64 (a0_1)) 16) + 1))] (by rfl) rfl rfl (by (try simp only [List.map_toArray, List.map_cons, List.map_nil]); first | done | rfl | (simp only [List.length_drop, List.length_take]; rfl)) ?_
    with_reducible refine (proofmarkref08_Mask.calls (wrap64 ((Int.tmod (wrap64 (a0_1)) 16) + 1)) t142 _ A8.out).mono ?_
    rintro e w' ⟨rfl, ⟨nd, rfl⟩⟩
    refine ⟨_, rfl, ?_⟩
    refine hK.out _ _ ⟨(blk_cell BK135.out 0).trans rfl, (blk_cell BK135.out 1).trans rfl, (blk_cell BK135.out 2).trans rfl, (blk_cell BK135.out 3).trans rfl, (blk_cell BK135.out 4).trans rfl, (blk_cell BK135.out 5).trans rfl⟩ (fun hHeld => ?_)
    clear hK K
    refine norm_ (a' := ?_) ?_ ?_
    rotate_left
    ·show Act.put _ (some 45) _ = _
     simp only [Act.put, List.setIfInBounds_toArray, List.set_cons_zero, List.set_cons_succ, i64_w, i32_w]
     rfl
    refine pure_ (i := 5) (N := some 46) (v := ?_) (a' := ?_) #[true, true, true, true, true, true, false] rfl rfl (by kernel_rfl) (fun _ _ _ h => h) (Or.inl ⟨by rfl, ?_⟩) ?_ ?_
    rotate_left
    ·intro w'
     go_simp
     with_reducible rfl
    rotate_left
    ·simp only [Act.put, List.setIfInBounds_toArray, List.set_cons_zero, List.set_cons_succ, i64_w, i32_w]
     rfl
    refine pure_ (i := 6) (N := some 12) (v := ?_) (a' := ?_) #[true, true, true, true, true, true, true] rfl rfl (by kernel_rfl) (fun _ _ _ h => h) (Or.inl ⟨by rfl, ?_⟩) ?_ ?_
    rotate_left
    ·intro w'
     go_simp
     with_reducible rfl
    rotate_left
    ·simp only [Act.put, List.setIfInBounds_toArray, List.set_cons_zero, List.set_cons_succ, i64_w, i32_w]
     rfl
    refine done_ (by kernel_rfl) ?_
    have hcz26_0 : w25.cell? ⟨gb141, 0, none⟩ = some (.int .i64 (rd y137 (ji2))) := (blk_cell BK141.out 0).trans rfl
    have hcz26_1 : w25.cell? ⟨gb141, 1, none⟩ = some (.int .i64 (wrap64 ((Int.tmod (wrap64 (a0_1)) 16) + 1))) := (blk_cell BK141.out 1).trans rfl
    have hcz26_2 : w25.cell? ⟨gb141, 2, none⟩ = some (.int .i64 0) := (blk_cell BK141.out 2).trans rfl
    have hcz26_3 : w25.cell? ⟨gb141, 3, none⟩ = some (.int .i64 0) := (blk_cell BK141.out 3).trans rfl
    have hcz26_4 : w25.cell? ⟨gb141, 4, none⟩ = some (.int .i64 0) := (blk_cell BK141.out 4).trans rfl
    have hcz26_5 : w25.cell? ⟨gb141, 5, none⟩ = some (.int .i64 0) := (blk_cell BK141.out 5).trans rfl
    have hcz26_6 : w25.cell? ⟨gb141, 6, none⟩ = some (.int .i64 0) := (blk_cell BK141.out 6).trans rfl
    have hfz26_0 := blk_frozen BK141.out 0
    have hfz26_1 := blk_frozen BK141.out 1
    have hfz26_2 := blk_frozen BK141.out 2
    have hfz26_3 := blk_frozen BK141.out 3
    have hfz26_4 := blk_frozen BK141.out 4
    have hfz26_5 := blk_frozen BK141.out 5
    have hfz26_6 := blk_frozen BK141.out 6
    have hcz27_0 : w25.cell? ⟨gb136, 0, none⟩ = some (.int .i64 0) := (blk_cell BK136.out 0).trans rfl
    have hcz27_1 : w25.cell? ⟨gb136, 1, none⟩ = some (.int .i64 0) := (blk_cell BK136.out 1).trans rfl
    have hcz27_2 : w25.cell? ⟨gb136, 2, none⟩ = some (.int .i64 0) := (blk_cell BK136.out 2).trans rfl
    have hcz27_3 : w25.cell? ⟨gb136, 3, none⟩ = some (.int .i64 0) := (blk_cell BK136.out 3).trans rfl
    have hcz27_4 : w25.cell? ⟨gb136, 4, none⟩ = some (.int .i64 0) := (blk_cell BK136.out 4).trans rfl
    have hcz27_5 : w25.cell? ⟨gb136, 5, none⟩ = some (.int .i64 0) := (blk_cell BK136.out 5).trans rfl
    have hcz27_6 : w25.cell? ⟨gb136, 6, none⟩ = some (.int .i64 0) := (blk_cell BK136.out 6).trans rfl
    have hfz27_0 := blk_frozen BK136.out 0
    have hfz27_1 := blk_frozen BK136.out 1
    have hfz27_2 := blk_frozen BK136.out 2
    have hfz27_3 := blk_frozen BK136.out 3
    have hfz27_4 := blk_frozen BK136.out 4
    have hfz27_5 := blk_frozen BK136.out 5
    have hfz27_6 := blk_frozen BK136.out 6
    try go_wp2
    refine bodyPost_ret (results_list (rs := [.cell 2 28, .tmp 3, .tmp 4, .tmp 5, .tmp 6]) rfl (by simp) (.cell gb136 28 #[.int .i64 (rd y137 (ji2)), .int .i64 (wrap64 ((Int.tmod (wrap64 (a0_1)) 16) + 1)), .int .i64 0, .int .i64 0, .int .i64 0, .int .i64 (Go.bits .and .i64 (wrap64 (a0_2)) t142), .int .i64 0] (0, 0) _ rfl (by (with_reducible repeat (first | refine blk_drewN ?_ _ | refine blk_drew ?_ | refine blk_alloc ?_ _)); refine blk_put (cs := #[.int .i64 (rd y137 (ji2)), .int .i64 (wrap64 ((Int.tmod (wrap64 (a0_1)) 16) + 1)), .int .i64 0, .int .i64 0, .int .i64 0, .int .i64 (Go.bits .and .i64 (wrap64 (a0_2)) t142), .int .i64 0]) ?_ 6 _ rfl; (with_reducible repeat (first | refine blk_drewN ?_ _ | refine blk_drew ?_ | refine blk_alloc ?_ _)); refine blk_put (cs := #[.int .i64 (rd y137 (ji2)), .int .i64 (wrap64 ((Int.tmod (wrap64 (a0_1)) 16) + 1)), .int .i64 0, .int .i64 0, .int .i64 0, .int .i64 0, .int .i64 0]) ?_ 5 _ rfl; (with_reducible repeat (first | refine blk_drewN ?_ _ | refine blk_drew ?_ | refine blk_alloc ?_ _)); refine blk_put (cs := #[.int .i64 (rd y137 (ji2)), .int .i64 (wrap64 ((Int.tmod (wrap64 (a0_1)) 16) + 1)), .int .i64 0, .int .i64 0, .int .i64 0, .int .i64 0, .int .i64 0]) ?_ 4 _ rfl; (with_reducible repeat (first | refine blk_drewN ?_ _ | refine blk_drew ?_ | refine blk_alloc ?_ _)); refine blk_put (cs := #[.int .i64 (rd y137 (ji2)), .int .i64 (wrap64 ((Int.tmod (wrap64 (a0_1)) 16) + 1)), .int .i64 0, .int .i64 0, .int .i64 0, .int .i64 0, .int .i64 0]) ?_ 3 _ rfl; (with_reducible repeat (first | refine blk_drewN ?_ _ | refine blk_drew ?_ | refine blk_alloc ?_ _)); refine blk_put (cs := #[.int .i64 (rd y137 (ji2)), .int .i64 (wrap64 ((Int.tmod (wrap64 (a0_1)) 16) + 1)), .int .i64 0, .int .i64 0, .int .i64 0, .int .i64 0, .int .i64 0]) ?_ 2 _ rfl; (with_reducible repeat (first | refine blk_drewN ?_ _ | refine blk_drew ?_ | refine blk_alloc ?_ _)); refine blk_put (cs := #[.int .i64 (rd y137 (ji2)), .int .i64 0, .int .i64 0, .int .i64 0, .int .i64 0, .int .i64 0, .int .i64 0]) ?_ 1 _ rfl; (with_reducible repeat (first | refine blk_drewN ?_ _ | refine blk_drew ?_ | refine blk_alloc ?_ _)); refine blk_put (cs := #[.int .i64 0, .int .i64 0, .int .i64 0, .int .i64 0, .int .i64 0, .int .i64 0, .int .i64 0]) ?_ 0 _ rfl; (with_reducible repeat (first | refine blk_drewN ?_ _ | refine blk_drew ?_ | refine blk_alloc ?_ _)); refine blk_far ?_ NB136_141.out _; (with_reducible repeat (first | refine blk_drewN ?_ _ | refine blk_drew ?_ | refine blk_alloc ?_ _)); exact BK136.out) Try.underlying28 rfl (by kernel_rfl) (.tmp (.tmp (.tmp (.tmp .nil)))))) rfl ?_
    exact ⟨by first | rfl | (simp [errW_none, errW_some] <;> rfl) | (simp only [← hji2]; first | rfl | (simp [errW_none, errW_some] <;> rfl)) | (simp [*, errW_none, errW_some] <;> rfl), by repeat (first | (with_reducible first | exact HB.out | apply below_alloc | apply pw_below_drewN | apply below_drew1 | refine below_set ?_ GE135.out | refine below_set ?_ GE136.out | refine below_set ?_ GE141.out) | exact HB.out)⟩
   ·rw [if_neg c10] at H
    have c10b0 : ((rd y137 (ji2)) == 1) = false := beq_eq_false_iff_ne.mpr c10
    have c10b1 : ((rd y137 (ji2)) != 1) = true := bne_iff_ne.mpr c10
    by_cases c28 : (rd y137 (ji2)) = 3
    ·rw [if_pos c28] at H
     have c28b0 : ((rd y137 (ji2)) == 3) = true := beq_iff_eq.mpr c28
     have c28b1 : ((rd y137 (ji2)) != 3) = false := bne_eq_false_iff_eq.mpr c28
     clear c28
     simp only [Option.some.injEq, Prod.mk.injEq] at H
     obtain ⟨rfl, rfl, rfl, rfl, rfl, rfl, rfl, rfl, rfl, rfl, rfl⟩ := H
     go_enter Try.func11, Try.ntmps11
     try go_wp2_with (first | ((with_reducible refine gate_dst (N := 1) rfl ?_); refine box_event ?hg (N := 1) ?hd (cs := #[.int .u8 a0_0, .int .u8 a0_1, .int .u32 a0_2, .int .u32 a0_3, .int .u32 a0_4, .int .u8 a0_5]) (t := 24) ?hr ?_; (case hd => rfl); (case hg => rfl); (case hr => first | (go_simp; done) | (go_simp; rfl)); intro gb135 hg w29 hbox hb; have n0_ := Aside0.mk (below_step (by repeat (first | (with_reducible first | exact HB.out | apply below_alloc | apply pw_below_drewN | apply below_drew1) | exact HB.out)) hb); have n1_ := Aside0.mk (hbox); have n2_ := Aside0.mk ((by rw [hg]; exact (below_size (by repeat (first | (with_reducible first | exact HB.out | apply below_alloc | apply pw_below_drewN | apply below_drew1) | exact HB.out))) : w.heap.size ≤ gb135)); have n3_ := Aside0.mk ((by rw [hg]; exact (below_size (by repeat (first | (with_reducible first | exact HB.out | apply below_alloc | apply pw_below_drewN | apply below_drew1) | exact HB.out))) : w.heap.size ≤ gb135)); clear HB; have HB := n0_; have BK135 := n1_; have GW135 := n2_; have GE135 := n3_; clear n0_ n1_ n2_ n3_; clear hb hbox hg) | ((with_reducible refine gate_dst (N := 2) rfl ?_); refine box_event ?hg (N := 2) ?hd (cs := #[.int .i64 0, .int .i64 0, .int .i64 0, .int .i64 0, .int .i64 0, .int .i64 0, .int .i64 0]) (t := 28) ?hr ?_; (case hd => rfl); (case hg => rfl); (case hr => first | (go_simp; done) | (go_simp; rfl)); intro gb136 hg w30 hbox hb; have n0_ := Aside0.mk (blk_below (g := gb135) (o := .cells #[.int .u8 a0_0, .int .u8 a0_1, .int .u32 a0_2, .int .u32 a0_3, .int .u32 a0_4, .int .u8 a0_5] 24 (0, 0)) (by (with_reducible repeat (first | refine blk_drewN ?_ _ | refine blk_drew ?_ | refine blk_alloc ?_ _)); exact BK135.out) hb); have n1_ := Aside0.mk (below_step (by repeat (first | (with_reducible first | exact HB.out | apply below_alloc | apply pw_below_drewN | apply below_drew1 | refine below_set ?_ GE135.out) | exact HB.out)) hb); have n2_ := Aside0.mk (hbox); have n3_ := Aside0.mk ((by rw [hg]; exact (below_size (by repeat (first | (with_reducible first | exact HB.out | apply below_alloc | apply pw_below_drewN | apply below_drew1 | refine below_set ?_ GE135.out) | exact HB.out))) : w.heap.size ≤ gb136)); have n4_ := Aside0.mk ((by rw [hg]; exact (below_size (by repeat (first | (with_reducible first | exact HB.out | apply below_alloc | apply pw_below_drewN | apply below_drew1 | refine below_set ?_ GE135.out) | exact HB.out))) : w.heap.size ≤ gb136)); have n5_ := Aside0.mk ((by rw [hg]; exact Nat.ne_of_lt (blk_lt (g := gb135) (o := .cells #[.int .u8 a0_0, .int .u8 a0_1, .int .u32 a0_2, .int .u32 a0_3, .int .u32 a0_4, .int .u8 a0_5] 24 (0, 0)) (by (with_reducible repeat (first | refine blk_drewN ?_ _ | refine blk_drew ?_ | refine blk_alloc ?_ _)); exact BK135.out)) : gb135 ≠ gb136)); have n6_ := Aside0.mk ((by rw [hg]; exact Nat.ne_of_gt (blk_lt (g := gb135) (o := .cells #[.int .u8 a0_0, .int .u8 a0_1, .int .u32 a0_2, .int .u32 a0_3, .int .u32 a0_4, .int .u8 a0_5] 24 (0, 0)) (by (with_reducible repeat (first | refine blk_drewN ?_ _ | refine blk_drew ?_ | refine blk_alloc ?_ _)); exact BK135.out)) : gb136 ≠ gb135)); clear BK135; clear HB; have BK135 := n0_; have HB := n1_; have BK136 := n2_; have GW136 := n3_; have GE136 := n4_; have NB135_136 := n5_; have NB136_135 := n6_; clear n0_ n1_ n2_ n3_ n4_ n5_ n6_; clear hb hbox hg) | ((with_reducible refine gate_dst (N := 14) rfl ?_); refine Kd.R_lit (Kd.int .i64) _ 3 ?hg (N := 14) ?hd (xs := ([1, 3, 4, 5, 6, 7, 8, 9, 10, 11, 12, 13, 14, 15, 16, 17, 18] : List Int)) (inner := [.int .i64 1, .int .i64 3, .int .i64 4, .int .i64 5, .int .i64 6, .int .i64 7, .int .i64 8, .int .i64 9, .int .i64 10, .int .i64 11, .int .i64 12, .int .i64 13, .int .i64 14, .int .i64 15, .int .i64 16, .int .i64 17, .int .i64 18]) (ok := fun _ => True) (okp := fun _ => True) ?hr ?hp (fun _ hk => hk) trivial (Below.refl _ _) (Nat.le_refl _) (by simp) ?_; (case hd => rfl); (case hg => rfl); (case hr => first | (go_simp; done) | (go_simp; rfl)); (case hp => exact (Reps.one (show Kd.M (Kd.int .i64) _ _ _ 1 [.int .i64 1] from rfl) (Reps.one (show Kd.M (Kd.int .i64) _ _ _ 3 [.int .i64 3] from rfl) (Reps.one (show Kd.M (Kd.int .i64) _ _ _ 4 [.int .i64 4] from rfl) (Reps.one (show Kd.M (Kd.int .i64) _ _ _ 5 [.int .i64 5] from rfl) (Reps.one (show Kd.M (Kd.int .i64) _ _ _ 6 [.int .i64 6] from rfl) (Reps.one (show Kd.M (Kd.int .i64) _ _ _ 7 [.int .i64 7] from rfl) (Reps.one (show Kd.M (Kd.int .i64) _ _ _ 8 [.int .i64 8] from rfl) (Reps.one (show Kd.M (Kd.int .i64) _ _ _ 9 [.int .i64 9] from rfl) (Reps.one (show Kd.M (Kd.int .i64) _ _ _ 10 [.int .i64 10] from rfl) (Reps.one (show Kd.M (Kd.int .i64) _ _ _ 11 [.int .i64 11] from rfl) (Reps.one (show Kd.M (Kd.int .i64) _ _ _ 12 [.int .i64 12] from rfl) (Reps.one (show Kd.M (Kd.int .i64) _ _ _ 13 [.int .i64 13] from rfl) (Reps.one (show Kd.M (Kd.int .i64) _ _ _ 14 [.int .i64 14] from rfl) (Reps.one (show Kd.M (Kd.int .i64) _ _ _ 15 [.int .i64 15] from rfl) (Reps.one (show Kd.M (Kd.int .i64) _ _ _ 16 [.int .i64 16] from rfl) (Reps.one (show Kd.M (Kd.int .i64) _ _ _ 17 [.int .i64 17] from rfl) (Reps.one (show Kd.M (Kd.int .i64) _ _ _ 18 [.int .i64 18] from rfl) (Reps.none _ _))))))))))))))))))); intro v138 w31 ho32 hb hg_ hnew_; clear hg_ hnew_; (first | rw [← Ny137.out] at ho32 | (simp only [Int.reduceToNat] at ho32; rw [← Ny137.out] at ho32)); have n0_ := Aside0.mk (Kd.R_lower ho32 (below_size (by repeat (first | (with_reducible first | exact HB.out | apply below_alloc | apply pw_below_drewN | apply below_drew1 | refine below_set ?_ GE135.out | refine below_set ?_ GE136.out) | exact HB.out)))); have n1_ := Aside0.mk (blk_below (g := gb135) (o := .cells #[.int .u8 a0_0, .int .u8 a0_1, .int .u32 a0_2, .int .u32 a0_3, .int .u32 a0_4, .int .u8 a0_5] 24 (0, 0)) (by (with_reducible repeat (first | refine blk_drewN ?_ _ | refine blk_drew ?_ | refine blk_alloc ?_ _)); exact BK135.out) hb); have n2_ := Aside0.mk (blk_below (g := gb136) (o := .cells #[.int .i64 0, .int .i64 0, .int .i64 0, .int .i64 0, .int .i64 0, .int .i64 0, .int .i64 0] 28 (0, 0)) (by (with_reducible repeat (first | refine blk_drewN ?_ _ | refine blk_drew ?_ | refine blk_alloc ?_ _)); exact BK136.out) hb); have n3_ := Aside0.mk (below_step (by repeat (first | (with_reducible first | exact HB.out | apply below_alloc | apply pw_below_drewN | apply below_drew1 | refine below_set ?_ GE135.out | refine below_set ?_ GE136.out) | exact HB.out)) hb); clear BK135; clear BK136; clear HB; have HO139 := n0_; have BK135 := n1_; have BK136 := n2_; have HB := n3_; clear n0_ n1_ n2_ n3_; clear hb ho32; have hnb33 := NB135_136.out; have hnc33 := NB136_135.out; have hcz34_0 : w31.cell? ⟨gb135, 0, none⟩ = some (.int .u8 a0_0) := (blk_cell BK135.out 0).trans rfl; have hcz34_1 : w31.cell? ⟨gb135, 1, none⟩ = some (.int .u8 a0_1) := (blk_cell BK135.out 1).trans rfl; have hcz34_2 : w31.cell? ⟨gb135, 2, none⟩ = some (.int .u32 a0_2) := (blk_cell BK135.out 2).trans rfl; have hcz34_3 : w31.cell? ⟨gb135, 3, none⟩ = some (.int .u32 a0_3) := (blk_cell BK135.out 3).trans rfl; have hcz34_4 : w31.cell? ⟨gb135, 4, none⟩ = some (.int .u32 a0_4) := (blk_cell BK135.out 4).trans rfl; have hcz34_5 : w31.cell? ⟨gb135, 5, none⟩ = some (.int .u8 a0_5) := (blk_cell BK135.out 5).trans rfl; have hfz34_0 := blk_frozen BK135.out 0; have hfz34_1 := blk_frozen BK135.out 1; have hfz34_2 := blk_frozen BK135.out 2; have hfz34_3 := blk_frozen BK135.out 3; have hfz34_4 := blk_frozen BK135.out 4; have hfz34_5 := blk_frozen BK135.out 5; obtain ⟨Ao35, co35, eo35⟩ := Kd.R_slice HO139.out; subst eo35; have p140 : 0 ≤ ((ji2) : Int) := of_decide_eq_true (by first | (with_reducible assumption) | assumption); have q140 : (ji2) < (y137.length : Int) := of_decide_eq_true (by first | (with_reducible assumption) | assumption); obtain ⟨ad140, e140, hx140_0⟩ := Kd.at_int (Kd.R_reads' HO139.out).2.2 (ji2) p140 q140; cases e140; replace p140 := eq_true p140; replace q140 := eq_true q140) | ((with_reducible refine gate_dst (N := 9) rfl ?_); refine box_event ?hg (N := 9) ?hd (cs := #[.int .i64 0, .int .i64 0, .int .i64 0, .int .i64 0, .int .i64 0, .int .i64 0, .int .i64 0]) (t := 28) ?hr ?_; (case hd => rfl); (case hg => rfl); (case hr => first | (go_simp; done) | (go_simp; rfl)); intro gb141 hg w36 hbox hb; have n0_ := Aside0.mk (Kd.R_below (by (with_reducible repeat (first | apply Kd.R_alloc | apply Kd.R_drewN | apply Kd.R_drew)); exact HO139.out) hb); have n1_ := Aside0.mk (blk_below (g := gb135) (o := .cells #[.int .u8 a0_0, .int .u8 a0_1, .int .u32 a0_2, .int .u32 a0_3, .int .u32 a0_4, .int .u8 a0_5] 24 (0, 0)) (by (with_reducible repeat (first | refine blk_drewN ?_ _ | refine blk_drew ?_ | refine blk_alloc ?_ _)); exact BK135.out) hb); have n2_ := Aside0.mk (blk_below (g := gb136) (o := .cells #[.int .i64 0, .int .i64 0, .int .i64 0, .int .i64 0, .int .i64 0, .int .i64 0, .int .i64 0] 28 (0, 0)) (by (with_reducible repeat (first | refine blk_drewN ?_ _ | refine blk_drew ?_ | refine blk_alloc ?_ _)); exact BK136.out) hb); have n3_ := Aside0.mk (below_step (by repeat (first | (with_reducible first | exact HB.out | apply below_alloc | apply pw_below_drewN | apply below_drew1 | refine below_set ?_ GE135.out | refine below_set ?_ GE136.out) | exact HB.out)) hb); have n4_ := Aside0.mk (hbox); have n5_ := Aside0.mk ((by rw [hg]; exact (below_size (by repeat (first | (with_reducible first | exact HB.out | apply below_alloc | apply pw_below_drewN | apply below_drew1 | refine below_set ?_ GE135.out | refine below_set ?_ GE136.out) | exact HB.out))) : w.heap.size ≤ gb141)); have n6_ := Aside0.mk ((by rw [hg]; exact (below_size (by repeat (first | (with_reducible first | exact HB.out | apply below_alloc | apply pw_below_drewN | apply below_drew1 | refine below_set ?_ GE135.out | refine below_set ?_ GE136.out) | exact HB.out))) : w.heap.size ≤ gb141)); have n7_ := Aside0.mk ((by rw [hg]; exact Nat.ne_of_lt (blk_lt (g := gb135) (o := .cells #[.int .u8 a0_0, .int .u8 a0_1, .int .u32 a0_2, .int .u32 a0_3, .int .u32 a0_4, .int .u8 a0_5] 24 (0, 0)) (by (with_reducible repeat (first | refine blk_drewN ?_ _ | refine blk_drew ?_ | refine blk_alloc ?_ _)); exact BK135.out)) : gb135 ≠ gb141)); have n8_ := Aside0.mk ((by rw [hg]; exact Nat.ne_of_gt (blk_lt (g := gb135) (o := .cells #[.int .u8 a0_0, .int .u8 a0_1, .int .u32 a0_2, .int .u32 a0_3, .int .u32 a0_4, .int .u8 a0_5] 24 (0, 0)) (by (with_reducible repeat (first | refine blk_drewN ?_ _ | refine blk_drew ?_ | refine blk_alloc ?_ _)); exact BK135.out)) : gb141 ≠ gb135)); have n9_ := Aside0.mk ((by rw [hg]; exact Nat.ne_of_lt (blk_lt (g := gb136) (o := .cells #[.int .i64 0, .int .i64 0, .int .i64 0, .int .i64 0, .int .i64 0, .int .i64 0, .int .i64 0] 28 (0, 0)) (by (with_reducible repeat (first | refine blk_drewN ?_ _ | refine blk_drew ?_ | refine blk_alloc ?_ _)); exact BK136.out)) : gb136 ≠ gb141)); have n10_ := Aside0.mk ((by rw [hg]; exact Nat.ne_of_gt (blk_lt (g := gb136) (o := .cells #[.int .i64 0, .int .i64 0, .int .i64 0, .int .i64 0, .int .i64 0, .int .i64 0, .int .i64 0] 28 (0, 0)) (by (with_reducible repeat (first | refine blk_drewN ?_ _ | refine blk_drew ?_ | refine blk_alloc ?_ _)); exact BK136.out)) : gb141 ≠ gb136)); clear HO139; clear BK135; clear BK136; clear HB; have HO139 := n0_; have BK135 := n1_; have BK136 := n2_; have HB := n3_; have BK141 := n4_; have GW141 := n5_; have GE141 := n6_; have NB135_141 := n7_; have NB141_135 := n8_; have NB136_141 := n9_; have NB141_136 := n10_; clear n0_ n1_ n2_ n3_ n4_ n5_ n6_ n7_ n8_ n9_ n10_; clear hb hbox hg; have hnb37 := NB141_135.out; have hnc37 := NB135_141.out; have hnb38 := NB141_136.out; have hnc38 := NB136_141.out; have hcz39_0 : w36.cell? ⟨gb141, 0, none⟩ = some (.int .i64 0) := (blk_cell BK141.out 0).trans rfl; have hcz39_1 : w36.cell? ⟨gb141, 1, none⟩ = some (.int .i64 0) := (blk_cell BK141.out 1).trans rfl; have hcz39_2 : w36.cell? ⟨gb141, 2, none⟩ = some (.int .i64 0) := (blk_cell BK141.out 2).trans rfl; have hcz39_3 : w36.cell? ⟨gb141, 3, none⟩ = some (.int .i64 0) := (blk_cell BK141.out 3).trans rfl; have hcz39_4 : w36.cell? ⟨gb141, 4, none⟩ = some (.int .i64 0) := (blk_cell BK141.out 4).trans rfl; have hcz39_5 : w36.cell? ⟨gb141, 5, none⟩ = some (.int .i64 0) := (blk_cell BK141.out 5).trans rfl; have hcz39_6 : w36.cell? ⟨gb141, 6, none⟩ = some (.int .i64 0) := (blk_cell BK141.out 6).trans rfl; have hfz39_0 := blk_frozen BK141.out 0; have hfz39_1 := blk_frozen BK141.out 1; have hfz39_2 := blk_frozen BK141.out 2; have hfz39_3 := blk_frozen BK141.out 3; have hfz39_4 := blk_frozen BK141.out 4; have hfz39_5 := blk_frozen BK141.out 5; have hfz39_6 := blk_frozen BK141.out 6))
     have n0_ : Aside0 (Kd.R (Kd.int .i64) 3 (((((((w36.setCell ⟨gb141, 0, none⟩ (.int .i64 (rd y137 (ji2)))).setCell ⟨gb141, 1, none⟩ (.int .i64 (wrap64 ((Int.tmod (wrap64 (a0_1)) 16) + 1)))).setCell ⟨gb141, 2, none⟩ (.int .i64 0)).setCell ⟨gb141, 3, none⟩ (.int .i64 0)).setCell ⟨gb141, 4, none⟩ (.int .i64 0)).setCell ⟨gb141, 5, none⟩ (.int .i64 0)).setCell ⟨gb141, 6, none⟩ (.int .i64 0)) w.heap.size (fun _ => True) (.slice (some ad140) y137.length co35) y137) := ⟨by (with_reducible repeat (first | apply Kd.R_alloc | apply Kd.R_drewN | apply Kd.R_drew)); exact Kd.R_mono (Kd.R_far (p := ⟨gb141, 6, none⟩) (Kd.R_far (p := ⟨gb141, 5, none⟩) (Kd.R_far (p := ⟨gb141, 4, none⟩) (Kd.R_far (p := ⟨gb141, 3, none⟩) (Kd.R_far (p := ⟨gb141, 2, none⟩) (Kd.R_far (p := ⟨gb141, 1, none⟩) (Kd.R_far (p := ⟨gb141, 0, none⟩) (Kd.R_types HO139.out BK141.out (by decide)) (fun _ hk => hk.2) (.int .i64 (rd y137 (ji2)))) (fun _ hk => hk.2) (.int .i64 (wrap64 ((Int.tmod (wrap64 (a0_1)) 16) + 1)))) (fun _ hk => hk.2) (.int .i64 0)) (fun _ hk => hk.2) (.int .i64 0)) (fun _ hk => hk.2) (.int .i64 0)) (fun _ hk => hk.2) (.int .i64 0)) (fun _ hk => hk.2) (.int .i64 0)) (fun _ hk => trivial)⟩
     have n1_ : Aside0 ((((((((w36.setCell ⟨gb141, 0, none⟩ (.int .i64 (rd y137 (ji2)))).setCell ⟨gb141, 1, none⟩ (.int .i64 (wrap64 ((Int.tmod (wrap64 (a0_1)) 16) + 1)))).setCell ⟨gb141, 2, none⟩ (.int .i64 0)).setCell ⟨gb141, 3, none⟩ (.int .i64 0)).setCell ⟨gb141, 4, none⟩ (.int .i64 0)).setCell ⟨gb141, 5, none⟩ (.int .i64 0)).setCell ⟨gb141, 6, none⟩ (.int .i64 0)).heap[gb135]? = some (.cells #[.int .u8 a0_0, .int .u8 a0_1, .int .u32 a0_2, .int .u32 a0_3, .int .u32 a0_4, .int .u8 a0_5] 24 (0, 0))) := ⟨by (with_reducible repeat (first | refine blk_drewN ?_ _ | refine blk_drew ?_ | refine blk_alloc ?_ _)); refine blk_far ?_ NB135_141.out _; (with_reducible repeat (first | refine blk_drewN ?_ _ | refine blk_drew ?_ | refine blk_alloc ?_ _)); refine blk_far ?_ NB135_141.out _; (with_reducible repeat (first | refine blk_drewN ?_ _ | refine blk_drew ?_ | refine blk_alloc ?_ _)); refine blk_far ?_ NB135_141.out _; (with_reducible repeat (first | refine blk_drewN ?_ _ | refine blk_drew ?_ | refine blk_alloc ?_ _)); refine blk_far ?_ NB135_141.out _; (with_reducible repeat (first | refine blk_drewN ?_ _ | refine blk_drew ?_ | refine blk_alloc ?_ _)); refine blk_far ?_ NB135_141.out _; (with_reducible repeat (first | refine blk_drewN ?_ _ | refine blk_drew ?_ | refine blk_alloc ?_ _)); refine blk_far ?_ NB135_141.out _; (with_reducible repeat (first | refine blk_drewN ?_ _ | refine blk_drew ?_ | refine blk_alloc ?_ _)); refine blk_far ?_ NB135_141.out _; (with_reducible repeat (first | refine blk_drewN ?_ _ | refine blk_drew ?_ | refine blk_alloc ?_ _)); exact BK135.out⟩
     have n2_ : Aside0 ((((((((w36.setCell ⟨gb141, 0, none⟩ (.int .i64 (rd y137 (ji2)))).setCell ⟨gb141, 1, none⟩ (.int .i64 (wrap64 ((Int.tmod (wrap64 (a0_1)) 16) + 1)))).setCell ⟨gb141, 2, none⟩ (.int .i64 0)).setCell ⟨gb141, 3, none⟩ (.int .i64 0)).setCell ⟨gb141, 4, none⟩ (.int .i64 0)).setCell ⟨gb141, 5, none⟩ (.int .i64 0)).setCell ⟨gb141, 6, none⟩ (.int .i64 0)).heap[gb136]? = some (.cells #[.int .i64 0, .int .i64 0, .int .i64 0, .int .i64 0, .int .i64 0, .int .i64 0, .int .i64 0] 28 (0, 0))) := ⟨by (with_reducible repeat (first | refine blk_drewN ?_ _ | refine blk_drew ?_ | refine blk_alloc ?_ _)); refine blk_far ?_ NB136_141.out _; (with_reducible repeat (first | refine blk_drewN ?_ _ | refine blk_drew ?_ | refine blk_alloc ?_ _)); refine blk_far ?_ NB136_141.out _; (with_reducible repeat (first | refine blk_drewN ?_ _ | refine blk_drew ?_ | refine blk_alloc ?_ _)); refine blk_far ?_ NB136_141.out _; (with_reducible repeat (first | refine blk_drewN ?_ _ | refine blk_drew ?_ | refine blk_alloc ?_ _)); refine blk_far ?_ NB136_141.out _; (with_reducible repeat (first | refine blk_drewN ?_ _ | refine blk_drew ?_ | refine blk_alloc ?_ _)); refine blk_far ?_ NB136_141.out _; (with_reducible repeat (first | refine blk_drewN ?_ _ | refine blk_drew ?_ | refine blk_alloc ?_ _)); refine blk_far ?_ NB136_141.out _; (with_reducible repeat (first | refine blk_drewN ?_ _ | refine blk_drew ?_ | refine blk_alloc ?_ _)); refine blk_far ?_ NB136_141.out _; (with_reducible repeat (first | refine blk_drewN ?_ _ | refine blk_drew ?_ | refine blk_alloc ?_ _)); exact BK136.out⟩
     have n3_ : Aside0 ((((((((w36.setCell ⟨gb141, 0, none⟩ (.int .i64 (rd y137 (ji2)))).setCell ⟨gb141, 1, none⟩ (.int .i64 (wrap64 ((Int.tmod (wrap64 (a0_1)) 16) + 1)))).setCell ⟨gb141, 2, none⟩ (.int .i64 0)).setCell ⟨gb141, 3, none⟩ (.int .i64 0)).setCell ⟨gb141, 4, none⟩ (.int .i64 0)).setCell ⟨gb141, 5, none⟩ (.int .i64 0)).setCell ⟨gb141, 6, none⟩ (.int .i64 0)).heap[gb141]? = some (.cells #[.int .i64 (rd y137 (ji2)), .int .i64 (wrap64 ((Int.tmod (wrap64 (a0_1)) 16) + 1)), .int .i64 0, .int .i64 0, .int .i64 0, .int .i64 0, .int .i64 0] 28 (0, 0))) := ⟨by (with_reducible repeat (first | refine blk_drewN ?_ _ | refine blk_drew ?_ | refine blk_alloc ?_ _)); refine blk_put (cs := #[.int .i64 (rd y137 (ji2)), .int .i64 (wrap64 ((Int.tmod (wrap64 (a0_1)) 16) + 1)), .int .i64 0, .int .i64 0, .int .i64 0, .int .i64 0, .int .i64 0]) ?_ 6 _ rfl; (with_reducible repeat (first | refine blk_drewN ?_ _ | refine blk_drew ?_ | refine blk_alloc ?_ _)); refine blk_put (cs := #[.int .i64 (rd y137 (ji2)), .int .i64 (wrap64 ((Int.tmod (wrap64 (a0_1)) 16) + 1)), .int .i64 0, .int .i64 0, .int .i64 0, .int .i64 0, .int .i64 0]) ?_ 5 _ rfl; (with_reducible repeat (first | refine blk_drewN ?_ _ | refine blk_drew ?_ | refine blk_alloc ?_ _)); refine blk_put (cs := #[.int .i64 (rd y137 (ji2)), .int .i64 (wrap64 ((Int.tmod (wrap64 (a0_1)) 16) + 1)), .int .i64 0, .int .i64 0, .int .i64 0, .int .i64 0, .int .i64 0]) ?_ 4 _ rfl; (with_reducible repeat (first | refine blk_drewN ?_ _ | refine blk_drew ?_ | refine blk_alloc ?_ _)); refine blk_put (cs := #[.int .i64 (rd y137 (ji2)), .int .i64 (wrap64 ((Int.tmod (wrap64 (a0_1)) 16) + 1)), .int .i64 0, .int .i64 0, .int .i64 0, .int .i64 0, .int .i64 0]) ?_ 3 _ rfl; (with_reducible repeat (first | refine blk_drewN ?_ _ | refine blk_drew ?_ | refine blk_alloc ?_ _)); refine blk_put (cs := #[.int .i64 (rd y137 (ji2)), .int .i64 (wrap64 ((Int.tmod (wrap64 (a0_1)) 16) + 1)), .int .i64 0, .int .i64 0, .int .i64 0, .int .i64 0, .int .i64 0]) ?_ 2 _ rfl; (with_reducible repeat (first | refine blk_drewN ?_ _ | refine blk_drew ?_ | refine blk_alloc ?_ _)); refine blk_put (cs := #[.int .i64 (rd y137 (ji2)), .int .i64 0, .int .i64 0, .int .i64 0, .int .i64 0, .int .i64 0, .int .i64 0]) ?_ 1 _ rfl; (with_reducible repeat (first | refine blk_drewN ?_ _ | refine blk_drew ?_ | refine blk_alloc ?_ _)); refine blk_put (cs := #[.int .i64 0, .int .i64 0, .int .i64 0, .int .i64 0, .int .i64 0, .int .i64 0, .int .i64 0]) ?_ 0 _ rfl; (with_reducible repeat (first | refine blk_drewN ?_ _ | refine blk_drew ?_ | refine blk_alloc ?_ _)); exact BK141.out⟩
     have n4_ : Aside0 (Below w.heap.size w (((((((w36.setCell ⟨gb141, 0, none⟩ (.int .i64 (rd y137 (ji2)))).setCell ⟨gb141, 1, none⟩ (.int .i64 (wrap64 ((Int.tmod (wrap64 (a0_1)) 16) + 1)))).setCell ⟨gb141, 2, none⟩ (.int .i64 0)).setCell ⟨gb141, 3, none⟩ (.int .i64 0)).setCell ⟨gb141, 4, none⟩ (.int .i64 0)).setCell ⟨gb141, 5, none⟩ (.int .i64 0)).setCell ⟨gb141, 6, none⟩ (.int .i64 0))) := ⟨by repeat (first | (with_reducible first | exact HB.out | apply below_alloc | apply pw_below_drewN | apply below_drew1 | refine below_set ?_ GE135.out | refine below_set ?_ GE136.out | refine below_set ?_ GE141.out) | exact HB.out)⟩
     (try clear HO139)
     (try clear BK135)
     (try clear BK136)
     (try clear BK141)
     (try clear HB)
     generalize (((((((w36.setCell ⟨gb141, 0, none⟩ (.int .i64 (rd y137 (ji2)))).setCell ⟨gb141, 1, none⟩ (.int .i64 (wrap64 ((Int.tmod (wrap64 (a0_1)) 16) + 1)))).setCell ⟨gb141, 2, none⟩ (.int .i64 0)).setCell ⟨gb141, 3, none⟩ (.int .i64 0)).setCell ⟨gb141, 4, none⟩ (.int .i64 0)).setCell ⟨gb141, 5, none⟩ (.int .i64 0)).setCell ⟨gb141, 6, none⟩ (.int .i64 0)) = w40 at n0_ n1_ n2_ n3_ n4_ ⊢
     have HO139 := n0_
     have BK135 := n1_
     have BK136 := n2_
     have BK141 := n3_
     have HB := n4_
     clear n0_ n1_ n2_ n3_ n4_
     have n0_ := Aside0.mk (Kd.R_drew HO139.out)
     have n1_ := Aside0.mk (blk_drew BK135.out)
     have n2_ := Aside0.mk (blk_drew BK136.out)
     have n3_ := Aside0.mk (blk_drew BK141.out)
     have n4_ := Aside0.mk (below_drew1 HB.out)
     clear HO139
     clear BK135
     clear BK136
     clear BK141
     clear HB
     have HO139 := n0_
     have BK135 := n1_
     have BK136 := n2_
     have BK141 := n3_
     have HB := n4_
     clear n0_ n1_ n2_ n3_ n4_
     refine start_ (n := 7) (S := fun w' => w'.cell? ⟨gb135, 0, none⟩ = some (.int .u8 a0_0) ∧ w'.cell? ⟨gb135, 1, none⟩ = some (.int .u8 a0_1) ∧ w'.cell? ⟨gb135, 2, none⟩ = some (.int .u32 a0_2) ∧ w'.cell? ⟨gb135, 3, none⟩ = some (.int .u32 a0_3) ∧ w'.cell? ⟨gb135, 4, none⟩ = some (.int .u32 a0_4) ∧ w'.cell? ⟨gb135, 5, none⟩ = some (.int .u8 a0_5)) (ds := []) #[false, false, false, false, false, false, false] (by kernel_rfl) rfl rfl ⟨(blk_cell BK135.out 0).trans rfl, (blk_cell BK135.out 1).trans rfl, (blk_cell BK135.out 2).trans rfl, (blk_cell BK135.out 3).trans rfl, (blk_cell BK135.out 4).trans rfl, (blk_cell BK135.out 5).trans rfl⟩ (fun hHeld => ?_)
     generalize w40.drew = w41 at HO139 BK135 BK136 BK141 HB hHeld ⊢
     refine pure_ (i := 0) (N := some 29) (v := ?_) (a' := ?_) #[true, false, false, false, false, false, false] rfl rfl (by kernel_rfl) (fun _ _ _ h => h) (Or.inl ⟨by rfl, ?_⟩) ?_ ?_
     rotate_left
     ·intro w'
      go_simp
      with_reducible rfl
     rotate_left
     ·simp only [Act.put, List.setIfInBounds_toArray, List.set_cons_zero, List.set_cons_succ, i64_w, i32_w]
      rfl
     refine pure_ (i := 3) (N := some 32) (v := ?_) (a' := ?_) #[true, false, false, true, false, false, false] rfl rfl (by kernel_rfl) (fun _ _ _ h => h) (Or.inl ⟨by rfl, ?_⟩) ?_ ?_
     rotate_left
     ·intro w'
      go_simp
      with_reducible rfl
     rotate_left
     ·simp only [Act.put, List.setIfInBounds_toArray, List.set_cons_zero, List.set_cons_succ, i64_w, i32_w]
      rfl
     refine take_ (i := 1) (N := some 30) (v := ?_) (a' := ?_) #[true, true, false, true, false, false, false] rfl rfl (by kernel_rfl) (fun _ _ _ h => h) (Or.inl ⟨by rfl, ?_⟩) hHeld ?_ ?_
     rotate_left
     ·rintro w' ⟨s0, s1, s2, s3, s4, s5⟩
      go_simp
      with_reducible rfl
     rotate_left
     ·simp only [Act.put, List.setIfInBounds_toArray, List.set_cons_zero, List.set_cons_succ, i64_w, i32_w]
      rfl
     refine pure_ (i := 2) (N := some 31) (v := ?_) (a' := ?_) #[true, true, true, true, false, false, false] rfl rfl (by kernel_rfl) (fun _ _ _ h => h) (Or.inl ⟨by rfl, ?_⟩) ?_ ?_
     rotate_left
     ·intro w'
      go_simp
      with_reducible rfl
     rotate_left
     ·simp only [Act.put, List.setIfInBounds_toArray, List.set_cons_zero, List.set_cons_succ, i64_w, i32_w]
      rfl
     refine one_ (i := 4) (N := some 33) #[true, true, true, true, true, false, false] rfl rfl (by kernel_rfl) (by decide) (fun K hK => ?_)
     refine goes_ Try.func15 (by kernel_rfl) rfl #[.int .i64 (wrap64 ((Int.tmod (wrap64 (a0_1)) 16) + 1))] (by rfl) rfl rfl (by (try simp only [List.map_toArray, List.map_cons, List.map_nil]); first | done | rfl | (simp only [List.length_drop, List.length_take]; rfl)) ?_
     with_reducible refine (proofmarkref08_Mask.calls (wrap64 ((Int.tmod (wrap64 (a0_1)) 16) + 1)) t142 _ A5.out).mono ?_
     rintro e w' ⟨rfl, ⟨nd, rfl⟩⟩
     refine ⟨_, rfl, ?_⟩
     refine hK.out _ _ ⟨(blk_cell BK135.out 0).trans rfl, (blk_cell BK135.out 1).trans rfl, (blk_cell BK135.out 2).trans rfl, (blk_cell BK135.out 3).trans rfl, (blk_cell BK135.out 4).trans rfl, (blk_cell BK135.out 5).trans rfl⟩ (fun hHeld => ?_)
     clear hK K
     refine norm_ (a' := ?_) ?_ ?_
     rotate_left
     ·show Act.put _ (some 33) _ = _
      simp only [Act.put, List.setIfInBounds_toArray, List.set_cons_zero, List.set_cons_succ, i64_w, i32_w]
      rfl
     refine pure_ (i := 5) (N := some 34) (v := ?_) (a' := ?_) #[true, true, true, true, true, true, false] rfl rfl (by kernel_rfl) (fun _ _ _ h => h) (Or.inl ⟨by rfl, ?_⟩) ?_ ?_
     rotate_left
     ·intro w'
      go_simp
      with_reducible rfl
     rotate_left
     ·simp only [Act.put, List.setIfInBounds_toArray, List.set_cons_zero, List.set_cons_succ, i64_w, i32_w]
      rfl
     refine pure_ (i := 6) (N := some 10) (v := ?_) (a' := ?_) #[true, true, true, true, true, true, true] rfl rfl (by kernel_rfl) (fun _ _ _ h => h) (Or.inl ⟨by rfl, ?_⟩) ?_ ?_
     rotate_left
     ·intro w'
      go_simp
      with_reducible rfl
     rotate_left
     ·simp only [Act.put, List.setIfInBounds_toArray, List.set_cons_zero, List.set_cons_succ, i64_w, i32_w]
      rfl
     refine done_ (by kernel_rfl) ?_
     try go_wp2
     (try (rw [drewN_self w41]; generalize hq_ : World.drewN w41 _ = w41; have n0_ : Aside0 (Kd.R (Kd.int .i64) 3 w41 w.heap.size (fun _ => True) (.slice (some ad140) y137.length co35) y137) := ⟨by rw [← hq_]; exact (by (with_reducible repeat (first | apply Kd.R_alloc | apply Kd.R_drewN | apply Kd.R_drew)); exact HO139.out)⟩; have n1_ : Aside0 (w41.heap[gb135]? = some (.cells #[.int .u8 a0_0, .int .u8 a0_1, .int .u32 a0_2, .int .u32 a0_3, .int .u32 a0_4, .int .u8 a0_5] 24 (0, 0))) := ⟨by rw [← hq_]; exact (by (with_reducible repeat (first | refine blk_drewN ?_ _ | refine blk_drew ?_ | refine blk_alloc ?_ _)); exact BK135.out)⟩; have n2_ : Aside0 (w41.heap[gb136]? = some (.cells #[.int .i64 0, .int .i64 0, .int .i64 0, .int .i64 0, .int .i64 0, .int .i64 0, .int .i64 0] 28 (0, 0))) := ⟨by rw [← hq_]; exact (by (with_reducible repeat (first | refine blk_drewN ?_ _ | refine blk_drew ?_ | refine blk_alloc ?_ _)); exact BK136.out)⟩; have n3_ : Aside0 (w41.heap[gb141]? = some (.cells #[.int .i64 (rd y137 (ji2)), .int .i64 (wrap64 ((Int.tmod (wrap64 (a0_1)) 16) + 1)), .int .i64 0, .int .i64 0, .int .i64 0, .int .i64 0, .int .i64 0] 28 (0, 0))) := ⟨by rw [← hq_]; exact (by (with_reducible repeat (first | refine blk_drewN ?_ _ | refine blk_drew ?_ | refine blk_alloc ?_ _)); exact BK141.out)⟩; have n4_ : Aside0 (Below w.heap.size w w41) := ⟨by rw [← hq_]; exact (by repeat (first | (with_reducible first | exact HB.out | apply below_alloc | apply pw_below_drewN | apply below_drew1 | refine below_set ?_ GE135.out | refine below_set ?_ GE136.out | refine below_set ?_ GE141.out) | exact HB.out))⟩; clear HO139 BK135 BK136 BK141 HB hq_; have HO139 := n0_; have BK135 := n1_; have BK136 := n2_; have BK141 := n3_; have HB := n4_; clear n0_ n1_ n2_ n3_ n4_))
     have n0_ := Aside0.mk (Kd.R_drew HO139.out)
     have n1_ := Aside0.mk (blk_drew BK135.out)
     have n2_ := Aside0.mk (blk_drew BK136.out)
     have n3_ := Aside0.mk (blk_drew BK141.out)
     have n4_ := Aside0.mk (below_drew1 HB.out)
     clear HO139
     clear BK135
     clear BK136
     clear BK141
     clear HB
     have HO139 := n0_
     have BK135 := n1_
     have BK136 := n2_
     have BK141 := n3_
     have HB := n4_
     clear n0_ n1_ n2_ n3_ n4_
     refine start_ (n := 7) (S := fun w' => w'.cell? ⟨gb135, 0, none⟩ = some (.int .u8 a0_0) ∧ w'.cell? ⟨gb135, 1, none⟩ = some (.int .u8 a0_1) ∧ w'.cell? ⟨gb135, 2, none⟩ = some (.int .u32 a0_2) ∧ w'.cell? ⟨gb135, 3, none⟩ = some (.int .u32 a0_3) ∧ w'.cell? ⟨gb135, 4, none⟩ = some (.int .u32 a0_4) ∧ w'.cell? ⟨gb135, 5, none⟩ = some (.int .u8 a0_5)) (ds := []) #[false, false, false, false, false, false, false] (by kernel_rfl) rfl rfl ⟨(blk_cell BK135.out 0).trans rfl, (blk_cell BK135.out 1).trans rfl, (blk_cell BK135.out 2).trans rfl, (blk_cell BK135.out 3).trans rfl, (blk_cell BK135.out 4).trans rfl, (blk_cell BK135.out 5).trans rfl⟩ (fun hHeld => ?_)
     generalize w41.drew = w42 at HO139 BK135 BK136 BK141 HB hHeld ⊢
     refine pure_ (i := 0) (N := some 35) (v := ?_) (a' := ?_) #[true, false, false, false, false, false, false] rfl rfl (by kernel_rfl) (fun _ _ _ h => h) (Or.inl ⟨by rfl, ?_⟩) ?_ ?_
     rotate_left
     ·intro w'
      go_simp
      with_reducible rfl
     rotate_left
     ·simp only [Act.put, List.setIfInBounds_toArray, List.set_cons_zero, List.set_cons_succ, i64_w, i32_w]
      rfl
     refine pure_ (i := 3) (N := some 38) (v := ?_) (a' := ?_) #[true, false, false, true, false, false, false] rfl rfl (by kernel_rfl) (fun _ _ _ h => h) (Or.inl ⟨by rfl, ?_⟩) ?_ ?_
     rotate_left
     ·intro w'
      go_simp
      with_reducible rfl
     rotate_left
     ·simp only [Act.put, List.setIfInBounds_toArray, List.set_cons_zero, List.set_cons_succ, i64_w, i32_w]
      rfl
     refine take_ (i := 1) (N := some 36) (v := ?_) (a' := ?_) #[true, true, false, true, false, false, false] rfl rfl (by kernel_rfl) (fun _ _ _ h => h) (Or.inl ⟨by rfl, ?_⟩) hHeld ?_ ?_
     rotate_left
     ·rintro w' ⟨s0, s1, s2, s3, s4, s5⟩
      go_simp
      with_reducible rfl
     rotate_left
     ·simp only [Act.put, List.setIfInBounds_toArray, List.set_cons_zero, List.set_cons_succ, i64_w, i32_w]
      rfl
     refine pure_ (i := 2) (N := some 37) (v := ?_) (a' := ?_) #[true, true, true, true, false, false, false] rfl rfl (by kernel_rfl) (fun _ _ _ h => h) (Or.inl ⟨by rfl, ?_⟩) ?_ ?_
     rotate_left
     ·intro w'
      go_simp
      with_reducible rfl
     rotate_left
     ·simp only [Act.put, List.setIfInBounds_toArray, List.set_cons_zero, List.set_cons_succ, i64_w, i32_w]
      rfl
     refine one_ (i := 4) (N := some 39) #[true, true, true, true, true, false, false] rfl rfl (by kernel_rfl) (by decide) (fun K hK => ?_)
     refine goes_ Try.func15 (by kernel_rfl) rfl #[.int .i64 (wrap64 ((Int.tmod (wrap64 (a0_1)) 16) + 1))] (by rfl) rfl rfl (by (try simp only [List.map_toArray, List.map_cons, List.map_nil]); first | done | rfl | (simp only [List.length_drop, List.length_take]; rfl)) ?_
     with_reducible refine (proofmarkref08_Mask.calls (wrap64 ((Int.tmod (wrap64 (a0_1)) 16) + 1)) t142 _ A6.out).mono ?_
     rintro e w' ⟨rfl, ⟨nd, rfl⟩⟩
     refine ⟨_, rfl, ?_⟩
     refine hK.out _ _ ⟨(blk_cell BK135.out 0).trans rfl, (blk_cell BK135.out 1).trans rfl, (blk_cell BK135.out 2).trans rfl, (blk_cell BK135.out 3).trans rfl, (blk_cell BK135.out 4).trans rfl, (blk_cell BK135.out 5).trans rfl⟩ (fun hHeld => ?_)
     clear hK K
     refine norm_ (a' := ?_) ?_ ?_
     rotate_left
     ·show Act.put _ (some 39) _ = _
      simp only [Act.put, List.setIfInBounds_toArray, List.set_cons_zero, List.set_cons_succ, i64_w, i32_w]
      rfl
     refine pure_ (i := 5) (N := some 40) (v := ?_) (a' := ?_) #[true, true, true, true, true, true, false] rfl rfl (by kernel_rfl) (fun _ _ _ h => h) (Or.inl ⟨by rfl, ?_⟩) ?_ ?_
     rotate_left
     ·intro w'
      go_simp
      with_reducible rfl
     rotate_left
     ·simp only [Act.put, List.setIfInBounds_toArray, List.set_cons_zero, List.set_cons_succ, i64_w, i32_w]
      rfl
     refine pure_ (i := 6) (N := some 11) (v := ?_) (a' := ?_) #[true, true, true, true, true, true, true] rfl rfl (by kernel_rfl) (fun _ _ _ h => h) (Or.inl ⟨by rfl, ?_⟩) ?_ ?_
     rotate_left
     ·intro w'
      go_simp
      with_reducible rfl
     rotate_left
     ·simp only [Act.put, List.setIfInBounds_toArray, List.set_cons_zero, List.set_cons_succ, i64_w, i32_w]
      rfl
     refine done_ (by kernel_rfl) ?_
     try go_wp2
     (try (rw [drewN_self w42]; generalize hq_ : World.drewN w42 _ = w42; have n0_ : Aside0 (Kd.R (Kd.int .i64) 3 w42 w.heap.size (fun _ => True) (.slice (some ad140) y137.length co35) y137) := ⟨by rw [← hq_]; exact (by (with_reducible repeat (first | apply Kd.R_alloc | apply Kd.R_drewN | apply Kd.R_drew)); exact HO139.out)⟩; have n1_ : Aside0 (w42.heap[gb135]? = some (.cells #[.int .u8 a0_0, .int .u8 a0_1, .int .u32 a0_2, .int .u32 a0_3, .int .u32 a0_4, .int .u8 a0_5] 24 (0, 0))) := ⟨by rw [← hq_]; exact (by (with_reducible repeat (first | refine blk_drewN ?_ _ | refine blk_drew ?_ | refine blk_alloc ?_ _)); exact BK135.out)⟩; have n2_ : Aside0 (w42.heap[gb136]? = some (.cells #[.int .i64 0, .int .i64 0, .int .i64 0, .int .i64 0, .int .i64 0, .int .i64 0, .int .i64 0] 28 (0, 0))) := ⟨by rw [← hq_]; exact (by (with_reducible repeat (first | refine blk_drewN ?_ _ | refine blk_drew ?_ | refine blk_alloc ?_ _)); exact BK136.out)⟩; have n3_ : Aside0 (w42.heap[gb141]? = some (.cells #[.int .i64 (rd y137 (ji2)), .int .i64 (wrap64 ((Int.tmod (wrap64 (a0_1)) 16) + 1)), .int .i64 0, .int .i64 0, .int .i64 0, .int .i64 0, .int .i64 0] 28 (0, 0))) := ⟨by rw [← hq_]; exact (by (with_reducible repeat (first | refine blk_drewN ?_ _ | refine blk_drew ?_ | refine blk_alloc ?_ _)); exact BK141.out)⟩; have n4_ : Aside0 (Below w.heap.size w w42) := ⟨by rw [← hq_]; exact (by repeat (first | (with_reducible first | exact HB.out | apply below_alloc | apply pw_below_drewN | apply below_drew1 | refine below_set ?_ GE135.out | refine below_set ?_ GE136.out | refine below_set ?_ GE141.out) | exact HB.out))⟩; clear HO139 BK135 BK136 BK141 HB hq_; have HO139 := n0_; have BK135 := n1_; have BK136 := n2_; have BK141 := n3_; have HB := n4_; clear n0_ n1_ n2_ n3_ n4_))
     have n0_ := Aside0.mk (Kd.R_drew HO139.out)
     have n1_ := Aside0.mk (blk_drew BK135.out)
     have n2_ := Aside0.mk (blk_drew BK136.out)
     have n3_ := Aside0.mk (blk_drew BK141.out)
     have n4_ := Aside0.mk (below_drew1 HB.out)
     clear HO139
     clear BK135
     clear BK136
     clear BK141
     clear HB
     have HO139 := n0_
     have BK135 := n1_
     have BK136 := n2_
     have BK141 := n3_
     have HB := n4_
     clear n0_ n1_ n2_ n3_ n4_
     refine start_ (n := 7) (S := fun w' => w'.cell? ⟨gb135, 0, none⟩ = some (.int .u8 a0_0) ∧ w'.cell? ⟨gb135, 1, none⟩ = some (.int .u8 a0_1) ∧ w'.cell? ⟨gb135, 2, none⟩ = some (.int .u32 a0_2) ∧ w'.cell? ⟨gb135, 3, none⟩ = some (.int .u32 a0_3) ∧ w'.cell? ⟨gb135, 4, none⟩ = some (.int .u32 a0_4) ∧ w'.cell? ⟨gb135, 5, none⟩ = some (.int .u8 a0_5)) (ds := []) #[false, false, false, false, false, false, false] (by kernel_rfl) rfl rfl ⟨(blk_cell BK135.out 0).trans rfl, (blk_cell BK135.out 1).trans rfl, (blk_cell BK135.out 2).trans rfl, (blk_cell BK135.out 3).trans rfl, (blk_cell BK135.out 4).trans rfl, (blk_cell BK135.out 5).trans rfl⟩ (fun hHeld => ?_)
     generalize w42.drew = w43 at HO139 BK135 BK136 BK141 HB hHeld ⊢
     refine pure_ (i := 0) (N := some 41) (v := ?_) (a' := ?_) #[true, false, false, false, false, false, false] rfl rfl (by kernel_rfl) (fun _ _ _ h => h) (Or.inl ⟨by rfl, ?_⟩) ?_ ?_
     rotate_left
     ·intro w'
      go_simp
      with_reducible rfl
     rotate_left
     ·simp only [Act.put, List.setIfInBounds_toArray, List.set_cons_zero, List.set_cons_succ, i64_w, i32_w]
      rfl
     refine pure_ (i := 3) (N := some 44) (v := ?_) (a' := ?_) #[true, false, false, true, false, false, false] rfl rfl (by kernel_rfl) (fun _ _ _ h => h) (Or.inl ⟨by rfl, ?_⟩) ?_ ?_
     rotate_left
     ·intro w'
      go_simp
      with_reducible rfl
     rotate_left
     ·simp only [Act.put, List.setIfInBounds_toArray, List.set_cons_zero, List.set_cons_succ, i64_w, i32_w]
      rfl
     refine take_ (i := 1) (N := some 42) (v := ?_) (a' := ?_) #[true, true, false, true, false, false, false] rfl rfl (by kernel_rfl) (fun _ _ _ h => h) (Or.inl ⟨by rfl, ?_⟩) hHeld ?_ ?_
     rotate_left
     ·rintro w' ⟨s0, s1, s2, s3, s4, s5⟩
      go_simp
      with_reducible rfl
     rotate_left
     ·simp only [Act.put, List.setIfInBounds_toArray, List.set_cons_zero, List.set_cons_succ, i64_w, i32_w]
      rfl
     refine pure_ (i := 2) (N := some 43) (v := ?_) (a' := ?_) #[true, true, true, true, false, false, false] rfl rfl (by kernel_rfl) (fun _ _ _ h => h) (Or.inl ⟨by rfl, ?_⟩) ?_ ?_
     rotate_left
     ·intro w'
      go_simp
      with_reducible rfl
     rotate_left
     ·simp only [Act.put, List.setIfInBounds_toArray, List.set_cons_zero, List.set_cons_succ, i64_w, i32_w]
      rfl
     refine one_ (i := 4) (N := some 45) #[true, true, true, true, true, false, false] rfl rfl (by kernel_rfl) (by decide) (fun K hK => ?_)
     refine goes_ Try.func15 (by kernel_rfl) rfl #[.int .i64 (wrap64 ((Int.tmod (wrap64 (a0_1)) 16) + 1))] (by rfl) rfl rfl (by (try simp only [List.map_toArray, List.map_cons, List.map_nil]); first | done | rfl | (simp only [List.length_drop, List.length_take]; rfl)) ?_
     with_reducible refine (proofmarkref08_Mask.calls (wrap64 ((Int.tmod (wrap64 (a0_1)) 16) + 1)) t142 _ A8.out).mono ?_
     rintro e w' ⟨rfl, ⟨nd, rfl⟩⟩
     refine ⟨_, rfl, ?_⟩
     refine hK.out _ _ ⟨(blk_cell BK135.out 0).trans rfl, (blk_cell BK135.out 1).trans rfl, (blk_cell BK135.out 2).trans rfl, (blk_cell BK135.out 3).trans rfl, (blk_cell BK135.out 4).trans rfl, (blk_cell BK135.out 5).trans rfl⟩ (fun hHeld => ?_)
     clear hK K
     refine norm_ (a' := ?_) ?_ ?_
     rotate_left
     ·show Act.put _ (some 45) _ = _
      simp only [Act.put, List.setIfInBounds_toArray, List.set_cons_zero, List.set_cons_succ, i64_w, i32_w]
      rfl
     refine pure_ (i := 5) (N := some 46) (v := ?_) (a' := ?_) #[true, true, true, true, true, true, false] rfl rfl (by kernel_rfl) (fun _ _ _ h => h) (Or.inl ⟨by rfl, ?_⟩) ?_ ?_
     rotate_left
     ·intro w'
      go_simp
      with_reducible rfl
     rotate_left
     ·simp only [Act.put, List.setIfInBounds_toArray, List.set_cons_zero, List.set_cons_succ, i64_w, i32_w]
      rfl
     refine pure_ (i := 6) (N := some 12) (v := ?_) (a' := ?_) #[true, true, true, true, true, true, true] rfl rfl (by kernel_rfl) (fun _ _ _ h => h) (Or.inl ⟨by rfl, ?_⟩) ?_ ?_
     rotate_left
     ·intro w'
      go_simp
      with_reducible rfl
     rotate_left
     ·simp only [Act.put, List.setIfInBounds_toArray, List.set_cons_zero, List.set_cons_succ, i64_w, i32_w]
      rfl
     refine done_ (by kernel_rfl) ?_
     have hcz44_0 : w43.cell? ⟨gb141, 0, none⟩ = some (.int .i64 (rd y137 (ji2))) := (blk_cell BK141.out 0).trans rfl
     have hcz44_1 : w43.cell? ⟨gb141, 1, none⟩ = some (.int .i64 (wrap64 ((Int.tmod (wrap64 (a0_1)) 16) + 1))) := (blk_cell BK141.out 1).trans rfl
     have hcz44_2 : w43.cell? ⟨gb141, 2, none⟩ = some (.int .i64 0) := (blk_cell BK141.out 2).trans rfl
     have hcz44_3 : w43.cell? ⟨gb141, 3, none⟩ = some (.int .i64 0) := (blk_cell BK141.out 3).trans rfl
     have hcz44_4 : w43.cell? ⟨gb141, 4, none⟩ = some (.int .i64 0) := (blk_cell BK141.out 4).trans rfl
     have hcz44_5 : w43.cell? ⟨gb141, 5, none⟩ = some (.int .i64 0) := (blk_cell BK141.out 5).trans rfl
     have hcz44_6 : w43.cell? ⟨gb141, 6, none⟩ = some (.int .i64 0) := (blk_cell BK141.out 6).trans rfl
     have hfz44_0 := blk_frozen BK141.out 0
     have hfz44_1 := blk_frozen BK141.out 1
     have hfz44_2 := blk_frozen BK141.out 2
     have hfz44_3 := blk_frozen BK141.out 3
     have hfz44_4 := blk_frozen BK141.out 4
     have hfz44_5 := blk_frozen BK141.out 5
     have hfz44_6 := blk_frozen BK141.out 6
     have hcz45_0 : w43.cell? ⟨gb136, 0, none⟩ = some (.int .i64 0) := (blk_cell BK136.out 0).trans rfl
     have hcz45_1 : w43.cell? ⟨gb136, 1, none⟩ = some (.int .i64 0) := (blk_cell BK136.out 1).trans rfl
     have hcz45_2 : w43.cell? ⟨gb136, 2, none⟩ = some (.int .i64 0) := (blk_cell BK136.out 2).trans rfl
     have hcz45_3 : w43.cell? ⟨gb136, 3, none⟩ = some (.int .i64 0) := (blk_cell BK136.out 3).trans rfl
     have hcz45_4 : w43.cell? ⟨gb136, 4, none⟩ = some (.int .i64 0) := (blk_cell BK136.out 4).trans rfl
     have hcz45_5 : w43.cell? ⟨gb136, 5, none⟩ = some (.int .i64 0) := (blk_cell BK136.out 5).trans rfl
     have hcz45_6 : w43.cell? ⟨gb136, 6, none⟩ = some (.int .i64 0) := (blk_cell BK136.out 6).trans rfl
     have hfz45_0 := blk_frozen BK136.out 0
     have hfz45_1 := blk_frozen BK136.out 1
     have hfz45_2 := blk_frozen BK136.out 2
     have hfz45_3 := blk_frozen BK136.out 3
     have hfz45_4 := blk_frozen BK136.out 4
     have hfz45_5 := blk_frozen BK136.out 5
     have hfz45_6 := blk_frozen BK136.out 6
     try go_wp2
     refine bodyPost_ret (results_list (rs := [.cell 2 28, .tmp 3, .tmp 4, .tmp 5, .tmp 6]) rfl (by simp) (.cell gb136 28 #[.int .i64 (rd y137 (ji2)), .int .i64 (wrap64 ((Int.tmod (wrap64 (a0_1)) 16) + 1)), .int .i64 0, .int .i64 0, .int .i64 0, .int .i64 0, .int .i64 0] (0, 0) _ rfl (by (with_reducible repeat (first | refine blk_drewN ?_ _ | refine blk_drew ?_ | refine blk_alloc ?_ _)); refine blk_put (cs := #[.int .i64 (rd y137 (ji2)), .int .i64 (wrap64 ((Int.tmod (wrap64 (a0_1)) 16) + 1)), .int .i64 0, .int .i64 0, .int .i64 0, .int .i64 0, .int .i64 0]) ?_ 6 _ rfl; (with_reducible repeat (first | refine blk_drewN ?_ _ | refine blk_drew ?_ | refine blk_alloc ?_ _)); refine blk_put (cs := #[.int .i64 (rd y137 (ji2)), .int .i64 (wrap64 ((Int.tmod (wrap64 (a0_1)) 16) + 1)), .int .i64 0, .int .i64 0, .int .i64 0, .int .i64 0, .int .i64 0]) ?_ 5 _ rfl; (with_reducible repeat (first | refine blk_drewN ?_ _ | refine blk_drew ?_ | refine blk_alloc ?_ _)); refine blk_put (cs := #[.int .i64 (rd y137 (ji2)), .int .i64 (wrap64 ((Int.tmod (wrap64 (a0_1)) 16) + 1)), .int .i64 0, .int .i64 0, .int .i64 0, .int .i64 0, .int .i64 0]) ?_ 4 _ rfl; (with_reducible repeat (first | refine blk_drewN ?_ _ | refine blk_drew ?_ | refine blk_alloc ?_ _)); refine blk_put (cs := #[.int .i64 (rd y137 (ji2)), .int .i64 (wrap64 ((Int.tmod (wrap64 (a0_1)) 16) + 1)), .int .i64 0, .int .i64 0, .int .i64 0, .int .i64 0, .int .i64 0]) ?_ 3 _ rfl; (with_reducible repeat (first | refine blk_drewN ?_ _ | refine blk_drew ?_ | refine blk_alloc ?_ _)); refine blk_put (cs := #[.int .i64 (rd y137 (ji2)), .int .i64 (wrap64 ((Int.tmod (wrap64 (a0_1)) 16) + 1)), .int .i64 0, .int .i64 0, .int .i64 0, .int .i64 0, .int .i64 0]) ?_ 2 _ rfl; (with_reducible repeat (first | refine blk_drewN ?_ _ | refine blk_drew ?_ | refine blk_alloc ?_ _)); refine blk_put (cs := #[.int .i64 (rd y137 (ji2)), .int .i64 0, .int .i64 0, .int .i64 0, .int .i64 0, .int .i64 0, .int .i64 0]) ?_ 1 _ rfl; (with_reducible repeat (first | refine blk_drewN ?_ _ | refine blk_drew ?_ | refine blk_alloc ?_ _)); refine blk_put (cs := #[.int .i64 0, .int .i64 0, .int .i64 0, .int .i64 0, .int .i64 0, .int .i64 0, .int .i64 0]) ?_ 0 _ rfl; (with_reducible repeat (first | refine blk_drewN ?_ _ | refine blk_drew ?_ | refine blk_alloc ?_ _)); exact BK136.out) Try.underlying28 rfl (by kernel_rfl) (.tmp (.tmp (.tmp (.tmp .nil)))))) rfl ?_
     exact ⟨by first | rfl | (simp [errW_none, errW_some] <;> rfl) | (simp only [← hji2]; first | rfl | (simp [errW_none, errW_some] <;> rfl)) | (simp [*, errW_none, errW_some] <;> rfl), by repeat (first | (with_reducible first | exact HB.out | apply below_alloc | apply pw_below_drewN | apply below_drew1 | refine below_set ?_ GE135.out | refine below_set ?_ GE136.out | refine below_set ?_ GE141.out) | exact HB.out)⟩
    ·rw [if_neg c28] at H
     have c28b0 : ((rd y137 (ji2)) == 3) = false := beq_eq_false_iff_ne.mpr c28
     have c28b1 : ((rd y137 (ji2)) != 3) = true := bne_iff_ne.mpr c28
     have HC46 := Aside0.mk H
     clear H
     go_enter Try.func11, Try.ntmps11
     try go_wp2_with (first | ((with_reducible refine gate_dst (N := 1) rfl ?_); refine box_event ?hg (N := 1) ?hd (cs := #[.int .u8 a0_0, .int .u8 a0_1, .int .u32 a0_2, .int .u32 a0_3, .int .u32 a0_4, .int .u8 a0_5]) (t := 24) ?hr ?_; (case hd => rfl); (case hg => rfl); (case hr => first | (go_simp; done) | (go_simp; rfl)); intro gb135 hg w47 hbox hb; have n0_ := Aside0.mk (below_step (by repeat (first | (with_reducible first | exact HB.out | apply below_alloc | apply pw_below_drewN | apply below_drew1) | exact HB.out)) hb); have n1_ := Aside0.mk (hbox); have n2_ := Aside0.mk ((by rw [hg]; exact (below_size (by repeat (first | (with_reducible first | exact HB.out | apply below_alloc | apply pw_below_drewN | apply below_drew1) | exact HB.out))) : w.heap.size ≤ gb135)); have n3_ := Aside0.mk ((by rw [hg]; exact (below_size (by repeat (first | (with_reducible first | exact HB.out | apply below_alloc | apply pw_below_drewN | apply below_drew1) | exact HB.out))) : w.heap.size ≤ gb135)); clear HB; have HB := n0_; have BK135 := n1_; have GW135 := n2_; have GE135 := n3_; clear n0_ n1_ n2_ n3_; clear hb hbox hg) | ((with_reducible refine gate_dst (N := 2) rfl ?_); refine box_event ?hg (N := 2) ?hd (cs := #[.int .i64 0, .int .i64 0, .int .i64 0, .int .i64 0, .int .i64 0, .int .i64 0, .int .i64 0]) (t := 28) ?hr ?_; (case hd => rfl); (case hg => rfl); (case hr => first | (go_simp; done) | (go_simp; rfl)); intro gb136 hg w48 hbox hb; have n0_ := Aside0.mk (blk_below (g := gb135) (o := .cells #[.int .u8 a0_0, .int .u8 a0_1, .int .u32 a0_2, .int .u32 a0_3, .int .u32 a0_4, .int .u8 a0_5] 24 (0, 0)) (by (with_reducible repeat (first | refine blk_drewN ?_ _ | refine blk_drew ?_ | refine blk_alloc ?_ _)); exact BK135.out) hb); have n1_ := Aside0.mk (below_step (by repeat (first | (with_reducible first | exact HB.out | apply below_alloc | apply pw_below_drewN | apply below_drew1 | refine below_set ?_ GE135.out) | exact HB.out)) hb); have n2_ := Aside0.mk (hbox); have n3_ := Aside0.mk ((by rw [hg]; exact (below_size (by repeat (first | (with_reducible first | exact HB.out | apply below_alloc | apply pw_below_drewN | apply below_drew1 | refine below_set ?_ GE135.out) | exact HB.out))) : w.heap.size ≤ gb136)); have n4_ := Aside0.mk ((by rw [hg]; exact (below_size (by repeat (first | (with_reducible first | exact HB.out | apply below_alloc | apply pw_below_drewN | apply below_drew1 | refine below_set ?_ GE135.out) | exact HB.out))) : w.heap.size ≤ gb136)); have n5_ := Aside0.mk ((by rw [hg]; exact Nat.ne_of_lt (blk_lt (g := gb135) (o := .cells #[.int .u8 a0_0, .int .u8 a0_1, .int .u32 a0_2, .int .u32 a0_3, .int .u32 a0_4, .int .u8 a0_5] 24 (0, 0)) (by (with_reducible repeat (first | refine blk_drewN ?_ _ | refine blk_drew ?_ | refine blk_alloc ?_ _)); exact BK135.out)) : gb135 ≠ gb136)); have n6_ := Aside0.mk ((by rw [hg]; exact Nat.ne_of_gt (blk_lt (g := gb135) (o := .cells #[.int .u8 a0_0, .int .u8 a0_1, .int .u32 a0_2, .int .u32 a0_3, .int .u32 a0_4, .int .u8 a0_5] 24 (0, 0)) (by (with_reducible repeat (first | refine blk_drewN ?_ _ | refine blk_drew ?_ | refine blk_alloc ?_ _)); exact BK135.out)) : gb136 ≠ gb135)); clear BK135; clear HB; have BK135 := n0_; have HB := n1_; have BK136 := n2_; have GW136 := n3_; have GE136 := n4_; have NB135_136 := n5_; have NB136_135 := n6_; clear n0_ n1_ n2_ n3_ n4_ n5_ n6_; clear hb hbox hg) | ((with_reducible refine gate_dst (N := 14) rfl ?_); refine Kd.R_lit (Kd.int .i64) _ 3 ?hg (N := 14) ?hd (xs := ([1, 3, 4, 5, 6, 7, 8, 9, 10, 11, 12, 13, 14, 15, 16, 17, 18] : List Int)) (inner := [.int .i64 1, .int .i64 3, .int .i64 4, .int .i64 5, .int .i64 6, .int .i64 7, .int .i64 8, .int .i64 9, .int .i64 10, .int .i64 11, .int .i64 12, .int .i64 13, .int .i64 14, .int .i64 15, .int .i64 16, .int .i64 17, .int .i64 18]) (ok := fun _ => True) (okp := fun _ => True) ?hr ?hp (fun _ hk => hk) trivial (Below.refl _ _) (Nat.le_refl _) (by simp) ?_; (case hd => rfl); (case hg => rfl); (case hr => first | (go_simp; done) | (go_simp; rfl)); (case hp => exact (Reps.one (show Kd.M (Kd.int .i64) _ _ _ 1 [.int .i64 1] from rfl) (Reps.one (show Kd.M (Kd.int .i64) _ _ _ 3 [.int .i64 3] from rfl) (Reps.one (show Kd.M (Kd.int .i64) _ _ _ 4 [.int .i64 4] from rfl) (Reps.one (show Kd.M (Kd.int .i64) _ _ _ 5 [.int .i64 5] from rfl) (Reps.one (show Kd.M (Kd.int .i64) _ _ _ 6 [.int .i64 6] from rfl) (Reps.one (show Kd.M (Kd.int .i64) _ _ _ 7 [.int .i64 7] from rfl) (Reps.one (show Kd.M (Kd.int .i64) _ _ _ 8 [.int .i64 8] from rfl) (Reps.one (show Kd.M (Kd.int .i64) _ _ _ 9 [.int .i64 9] from rfl) (Reps.one (show Kd.M (Kd.int .i64) _ _ _ 10 [.int .i64 10] from rfl) (Reps.one (show Kd.M (Kd.int .i64) _ _ _ 11 [.int .i64 11] from rfl) (Reps.one (show Kd.M (Kd.int .i64) _ _ _ 12 [.int .i64 12] from rfl) (Reps.one (show Kd.M (Kd.int .i64) _ _ _ 13 [.int .i64 13] from rfl) (Reps.one (show Kd.M (Kd.int .i64) _ _ _ 14 [.int .i64 14] from rfl) (Reps.one (show Kd.M (Kd.int .i64) _ _ _ 15 [.int .i64 15] from rfl) (Reps.one (show Kd.M (Kd.int .i64) _ _ _ 16 [.int .i64 16] from rfl) (Reps.one (show Kd.M (Kd.int .i64) _ _ _ 17 [.int .i64 17] from rfl) (Reps.one (show Kd.M (Kd.int .i64) _ _ _ 18 [.int .i64 18] from rfl) (Reps.none _ _))))))))))))))))))); intro v138 w49 ho50 hb hg_ hnew_; clear hg_ hnew_; (first | rw [← Ny137.out] at ho50 | (simp only [Int.reduceToNat] at ho50; rw [← Ny137.out] at ho50)); have n0_ := Aside0.mk (Kd.R_lower ho50 (below_size (by repeat (first | (with_reducible first | exact HB.out | apply below_alloc | apply pw_below_drewN | apply below_drew1 | refine below_set ?_ GE135.out | refine below_set ?_ GE136.out) | exact HB.out)))); have n1_ := Aside0.mk (blk_below (g := gb135) (o := .cells #[.int .u8 a0_0, .int .u8 a0_1, .int .u32 a0_2, .int .u32 a0_3, .int .u32 a0_4, .int .u8 a0_5] 24 (0, 0)) (by (with_reducible repeat (first | refine blk_drewN ?_ _ | refine blk_drew ?_ | refine blk_alloc ?_ _)); exact BK135.out) hb); have n2_ := Aside0.mk (blk_below (g := gb136) (o := .cells #[.int .i64 0, .int .i64 0, .int .i64 0, .int .i64 0, .int .i64 0, .int .i64 0, .int .i64 0] 28 (0, 0)) (by (with_reducible repeat (first | refine blk_drewN ?_ _ | refine blk_drew ?_ | refine blk_alloc ?_ _)); exact BK136.out) hb); have n3_ := Aside0.mk (below_step (by repeat (first | (with_reducible first | exact HB.out | apply below_alloc | apply pw_below_drewN | apply below_drew1 | refine below_set ?_ GE135.out | refine below_set ?_ GE136.out) | exact HB.out)) hb); clear BK135; clear BK136; clear HB; have HO139 := n0_; have BK135 := n1_; have BK136 := n2_; have HB := n3_; clear n0_ n1_ n2_ n3_; clear hb ho50; have hnb51 := NB135_136.out; have hnc51 := NB136_135.out; have hcz52_0 : w49.cell? ⟨gb135, 0, none⟩ = some (.int .u8 a0_0) := (blk_cell BK135.out 0).trans rfl; have hcz52_1 : w49.cell? ⟨gb135, 1, none⟩ = some (.int .u8 a0_1) := (blk_cell BK135.out 1).trans rfl; have hcz52_2 : w49.cell? ⟨gb135, 2, none⟩ = some (.int .u32 a0_2) := (blk_cell BK135.out 2).trans rfl; have hcz52_3 : w49.cell? ⟨gb135, 3, none⟩ = some (.int .u32 a0_3) := (blk_cell BK135.out 3).trans rfl; have hcz52_4 : w49.cell? ⟨gb135, 4, none⟩ = some (.int .u32 a0_4) := (blk_cell BK135.out 4).trans rfl; have hcz52_5 : w49.cell? ⟨gb135, 5, none⟩ = some (.int .u8 a0_5) := (blk_cell BK135.out 5).trans rfl; have hfz52_0 := blk_frozen BK135.out 0; have hfz52_1 := blk_frozen BK135.out 1; have hfz52_2 := blk_frozen BK135.out 2; have hfz52_3 := blk_frozen BK135.out 3; have hfz52_4 := blk_frozen BK135.out 4; have hfz52_5 := blk_frozen BK135.out 5; obtain ⟨Ao53, co53, eo53⟩ := Kd.R_slice HO139.out; subst eo53; have p140 : 0 ≤ ((ji2) : Int) := of_decide_eq_true (by first | (with_reducible assumption) | assumption); have q140 : (ji2) < (y137.length : Int) := of_decide_eq_true (by first | (with_reducible assumption) | assumption); obtain ⟨ad140, e140, hx140_0⟩ := Kd.at_int (Kd.R_reads' HO139.out).2.2 (ji2) p140 q140; cases e140; replace p140 := eq_true p140; replace q140 := eq_true q140) | ((with_reducible refine gate_dst (N := 9) rfl ?_); refine box_event ?hg (N := 9) ?hd (cs := #[.int .i64 0, .int .i64 0, .int .i64 0, .int .i64 0, .int .i64 0, .int .i64 0, .int .i64 0]) (t := 28) ?hr ?_; (case hd => rfl); (case hg => rfl); (case hr => first | (go_simp; done) | (go_simp; rfl)); intro gb141 hg w54 hbox hb; have n0_ := Aside0.mk (Kd.R_below (by (with_reducible repeat (first | apply Kd.R_alloc | apply Kd.R_drewN | apply Kd.R_drew)); exact HO139.out) hb); have n1_ := Aside0.mk (blk_below (g := gb135) (o := .cells #[.int .u8 a0_0, .int .u8 a0_1, .int .u32 a0_2, .int .u32 a0_3, .int .u32 a0_4, .int .u8 a0_5] 24 (0, 0)) (by (with_reducible repeat (first | refine blk_drewN ?_ _ | refine blk_drew ?_ | refine blk_alloc ?_ _)); exact BK135.out) hb); have n2_ := Aside0.mk (blk_below (g := gb136) (o := .cells #[.int .i64 0, .int .i64 0, .int .i64 0, .int .i64 0, .int .i64 0, .int .i64 0, .int .i64 0] 28 (0, 0)) (by (with_reducible repeat (first | refine blk_drewN ?_ _ | refine blk_drew ?_ | refine blk_alloc ?_ _)); exact BK136.out) hb); have n3_ := Aside0.mk (below_step (by repeat (first | (with_reducible first | exact HB.out | apply below_alloc | apply pw_below_drewN | apply below_drew1 | refine below_set ?_ GE135.out | refine below_set ?_ GE136.out) | exact HB.out)) hb); have n4_ := Aside0.mk (hbox); have n5_ := Aside0.mk ((by rw [hg]; exact (below_size (by repeat (first | (with_reducible first | exact HB.out | apply below_alloc | apply pw_below_drewN | apply below_drew1 | refine below_set ?_ GE135.out | refine below_set ?_ GE136.out) | exact HB.out))) : w.heap.size ≤ gb141)); have n6_ := Aside0.mk ((by rw [hg]; exact (below_size (by repeat (first | (with_reducible first | exact HB.out | apply below_alloc | apply pw_below_drewN | apply below_drew1 | refine below_set ?_ GE135.out | refine below_set ?_ GE136.out) | exact HB.out))) : w.heap.size ≤ gb141)); have n7_ := Aside0.mk ((by rw [hg]; exact Nat.ne_of_lt (blk_lt (g := gb135) (o := .cells #[.int .u8 a0_0, .int .u8 a0_1, .int .u32 a0_2, .int .u32 a0_3, .int .u32 a0_4, .int .u8 a0_5] 24 (0, 0)) (by (with_reducible repeat (first | refine blk_drewN ?_ _ | refine blk_drew ?_ | refine blk_alloc ?_ _)); exact BK135.out)) : gb135 ≠ gb141)); have n8_ := Aside0.mk ((by rw [hg]; exact Nat.ne_of_gt (blk_lt (g := gb135) (o := .cells #[.int .u8 a0_0, .int .u8 a0_1, .int .u32 a0_2, .int .u32 a0_3, .int .u32 a0_4, .int .u8 a0_5] 24 (0, 0)) (by (with_reducible repeat (first | refine blk_drewN ?_ _ | refine blk_drew ?_ | refine blk_alloc ?_ _)); exact BK135.out)) : gb141 ≠ gb135)); have n9_ := Aside0.mk ((by rw [hg]; exact Nat.ne_of_lt (blk_lt (g := gb136) (o := .cells #[.int .i64 0, .int .i64 0, .int .i64 0, .int .i64 0, .int .i64 0, .int .i64 0, .int .i64 0] 28 (0, 0)) (by (with_reducible repeat (first | refine blk_drewN ?_ _ | refine blk_drew ?_ | refine blk_alloc ?_ _)); exact BK136.out)) : gb136 ≠ gb141)); have n10_ := Aside0.mk ((by rw [hg]; exact Nat.ne_of_gt (blk_lt (g := gb136) (o := .cells #[.int .i64 0, .int .i64 0, .int .i64 0, .int .i64 0, .int .i64 0, .int .i64 0, .int .i64 0] 28 (0, 0)) (by (with_reducible repeat (first | refine blk_drewN ?_ _ | refine blk_drew ?_ | refine blk_alloc ?_ _)); exact BK136.out)) : gb141 ≠ gb136)); clear HO139; clear BK135; clear BK136; clear HB; have HO139 := n0_; have BK135 := n1_; have BK136 := n2_; have HB := n3_; have BK141 := n4_; have GW141 := n5_; have GE141 := n6_; have NB135_141 := n7_; have NB141_135 := n8_; have NB136_141 := n9_; have NB141_136 := n10_; clear n0_ n1_ n2_ n3_ n4_ n5_ n6_ n7_ n8_ n9_ n10_; clear hb hbox hg; have hnb55 := NB141_135.out; have hnc55 := NB135_141.out; have hnb56 := NB141_136.out; have hnc56 := NB136_141.out; have hcz57_0 : w54.cell? ⟨gb141, 0, none⟩ = some (.int .i64 0) := (blk_cell BK141.out 0).trans rfl; have hcz57_1 : w54.cell? ⟨gb141, 1, none⟩ = some (.int .i64 0) := (blk_cell BK141.out 1).trans rfl; have hcz57_2 : w54.cell? ⟨gb141, 2, none⟩ = some (.int .i64 0) := (blk_cell BK141.out 2).trans rfl; have hcz57_3 : w54.cell? ⟨gb141, 3, none⟩ = some (.int .i64 0) := (blk_cell BK141.out 3).trans rfl; have hcz57_4 : w54.cell? ⟨gb141, 4, none⟩ = some (.int .i64 0) := (blk_cell BK141.out 4).trans rfl; have hcz57_5 : w54.cell? ⟨gb141, 5, none⟩ = some (.int .i64 0) := (blk_cell BK141.out 5).trans rfl; have hcz57_6 : w54.cell? ⟨gb141, 6, none⟩ = some (.int .i64 0) := (blk_cell BK141.out 6).trans rfl; have hfz57_0 := blk_frozen BK141.out 0; have hfz57_1 := blk_frozen BK141.out 1; have hfz57_2 := blk_frozen BK141.out 2; have hfz57_3 := blk_frozen BK141.out 3; have hfz57_4 := blk_frozen BK141.out 4; have hfz57_5 := blk_frozen BK141.out 5; have hfz57_6 := blk_frozen BK141.out 6))
     have n0_ : Aside0 (Kd.R (Kd.int .i64) 3 (((((((w54.setCell ⟨gb141, 0, none⟩ (.int .i64 (rd y137 (ji2)))).setCell ⟨gb141, 1, none⟩ (.int .i64 (wrap64 ((Int.tmod (wrap64 (a0_1)) 16) + 1)))).setCell ⟨gb141, 2, none⟩ (.int .i64 0)).setCell ⟨gb141, 3, none⟩ (.int .i64 0)).setCell ⟨gb141, 4, none⟩ (.int .i64 0)).setCell ⟨gb141, 5, none⟩ (.int .i64 0)).setCell ⟨gb141, 6, none⟩ (.int .i64 0)) w.heap.size (fun _ => True) (.slice (some ad140) y137.length co53) y137) := ⟨by (with_reducible repeat (first | apply Kd.R_alloc | apply Kd.R_drewN | apply Kd.R_drew)); exact Kd.R_mono (Kd.R_far (p := ⟨gb141, 6, none⟩) (Kd.R_far (p := ⟨gb141, 5, none⟩) (Kd.R_far (p := ⟨gb141, 4, none⟩) (Kd.R_far (p := ⟨gb141, 3, none⟩) (Kd.R_far (p := ⟨gb141, 2, none⟩) (Kd.R_far (p := ⟨gb141, 1, none⟩) (Kd.R_far (p := ⟨gb141, 0, none⟩) (Kd.R_types HO139.out BK141.out (by decide)) (fun _ hk => hk.2) (.int .i64 (rd y137 (ji2)))) (fun _ hk => hk.2) (.int .i64 (wrap64 ((Int.tmod (wrap64 (a0_1)) 16) + 1)))) (fun _ hk => hk.2) (.int .i64 0)) (fun _ hk => hk.2) (.int .i64 0)) (fun _ hk => hk.2) (.int .i64 0)) (fun _ hk => hk.2) (.int .i64 0)) (fun _ hk => hk.2) (.int .i64 0)) (fun _ hk => trivial)⟩
     have n1_ : Aside0 ((((((((w54.setCell ⟨gb141, 0, none⟩ (.int .i64 (rd y137 (ji2)))).setCell ⟨gb141, 1, none⟩ (.int .i64 (wrap64 ((Int.tmod (wrap64 (a0_1)) 16) + 1)))).setCell ⟨gb141, 2, none⟩ (.int .i64 0)).setCell ⟨gb141, 3, none⟩ (.int .i64 0)).setCell ⟨gb141, 4, none⟩ (.int .i64 0)).setCell ⟨gb141, 5, none⟩ (.int .i64 0)).setCell ⟨gb141, 6, none⟩ (.int .i64 0)).heap[gb135]? = some (.cells #[.int .u8 a0_0, .int .u8 a0_1, .int .u32 a0_2, .int .u32 a0_3, .int .u32 a0_4, .int .u8 a0_5] 24 (0, 0))) := ⟨by (with_reducible repeat (first | refine blk_drewN ?_ _ | refine blk_drew ?_ | refine blk_alloc ?_ _)); refine blk_far ?_ NB135_141.out _; (with_reducible repeat (first | refine blk_drewN ?_ _ | refine blk_drew ?_ | refine blk_alloc ?_ _)); refine blk_far ?_ NB135_141.out _; (with_reducible repeat (first | refine blk_drewN ?_ _ | refine blk_drew ?_ | refine blk_alloc ?_ _)); refine blk_far ?_ NB135_141.out _; (with_reducible repeat (first | refine blk_drewN ?_ _ | refine blk_drew ?_ | refine blk_alloc ?_ _)); refine blk_far ?_ NB135_141.out _; (with_reducible repeat (first | refine blk_drewN ?_ _ | refine blk_drew ?_ | refine blk_alloc ?_ _)); refine blk_far ?_ NB135_141.out _; (with_reducible repeat (first | refine blk_drewN ?_ _ | refine blk_drew ?_ | refine blk_alloc ?_ _)); refine blk_far ?_ NB135_141.out _; (with_reducible repeat (first | refine blk_drewN ?_ _ | refine blk_drew ?_ | refine blk_alloc ?_ _)); refine blk_far ?_ NB135_141.out _; (with_reducible repeat (first | refine blk_drewN ?_ _ | refine blk_drew ?_ | refine blk_alloc ?_ _)); exact BK135.out⟩
     have n2_ : Aside0 ((((((((w54.setCell ⟨gb141, 0, none⟩ (.int .i64 (rd y137 (ji2)))).setCell ⟨gb141, 1, none⟩ (.int .i64 (wrap64 ((Int.tmod (wrap64 (a0_1)) 16) + 1)))).setCell ⟨gb141, 2, none⟩ (.int .i64 0)).setCell ⟨gb141, 3, none⟩ (.int .i64 0)).setCell ⟨gb141, 4, none⟩ (.int .i64 0)).setCell ⟨gb141, 5, none⟩ (.int .i64 0)).setCell ⟨gb141, 6, none⟩ (.int .i64 0)).heap[gb136]? = some (.cells #[.int .i64 0, .int .i64 0, .int .i64 0, .int .i64 0, .int .i64 0, .int .i64 0, .int .i64 0] 28 (0, 0))) := ⟨by (with_reducible repeat (first | refine blk_drewN ?_ _ | refine blk_drew ?_ | refine blk_alloc ?_ _)); refine blk_far ?_ NB136_141.out _; (with_reducible repeat (first | refine blk_drewN ?_ _ | refine blk_drew ?_ | refine blk_alloc ?_ _)); refine blk_far ?_ NB136_141.out _; (with_reducible repeat (first | refine blk_drewN ?_ _ | refine blk_drew ?_ | refine blk_alloc ?_ _)); refine blk_far ?_ NB136_141.out _; (with_reducible repeat (first | refine blk_drewN ?_ _ | refine blk_drew ?_ | refine blk_alloc ?_ _)); refine blk_far ?_ NB136_141.out _; (with_reducible repeat (first | refine blk_drewN ?_ _ | refine blk_drew ?_ | refine blk_alloc ?_ _)); refine blk_far ?_ NB136_141.out _; (with_reducible repeat (first | refine blk_drewN ?_ _ | refine blk_drew ?_ | refine blk_alloc ?_ _)); refine blk_far ?_ NB136_141.out _; (with_reducible repeat (first | refine blk_drewN ?_ _ | refine blk_drew ?_ | refine blk_alloc ?_ _)); refine blk_far ?_ NB136_141.out _; (with_reducible repeat (first | refine blk_drewN ?_ _ | refine blk_drew ?_ | refine blk_alloc ?_ _)); exact BK136.out⟩
     have n3_ : Aside0 ((((((((w54.setCell ⟨gb141, 0, none⟩ (.int .i64 (rd y137 (ji2)))).setCell ⟨gb141, 1, none⟩ (.int .i64 (wrap64 ((Int.tmod (wrap64 (a0_1)) 16) + 1)))).setCell ⟨gb141, 2, none⟩ (.int .i64 0)).setCell ⟨gb141, 3, none⟩ (.int .i64 0)).setCell ⟨gb141, 4, none⟩ (.int .i64 0)).setCell ⟨gb141, 5, none⟩ (.int .i64 0)).setCell ⟨gb141, 6, none⟩ (.int .i64 0)).heap[gb141]? = some (.cells #[.int .i64 (rd y137 (ji2)), .int .i64 (wrap64 ((Int.tmod (wrap64 (a0_1)) 16) + 1)), .int .i64 0, .int .i64 0, .int .i64 0, .int .i64 0, .int .i64 0] 28 (0, 0))) := ⟨by (with_reducible repeat (first | refine blk_drewN ?_ _ | refine blk_drew ?_ | refine blk_alloc ?_ _)); refine blk_put (cs := #[.int .i64 (rd y137 (ji2)), .int .i64 (wrap64 ((Int.tmod (wrap64 (a0_1)) 16) + 1)), .int .i64 0, .int .i64 0, .int .i64 0, .int .i64 0, .int .i64 0]) ?_ 6 _ rfl; (with_reducible repeat (first | refine blk_drewN ?_ _ | refine blk_drew ?_ | refine blk_alloc ?_ _)); refine blk_put (cs := #[.int .i64 (rd y137 (ji2)), .int .i64 (wrap64 ((Int.tmod (wrap64 (a0_1)) 16) + 1)), .int .i64 0, .int .i64 0, .int .i64 0, .int .i64 0, .int .i64 0]) ?_ 5 _ rfl; (with_reducible repeat (first | refine blk_drewN ?_ _ | refine blk_drew ?_ | refine blk_alloc ?_ _)); refine blk_put (cs := #[.int .i64 (rd y137 (ji2)), .int .i64 (wrap64 ((Int.tmod (wrap64 (a0_1)) 16) + 1)), .int .i64 0, .int .i64 0, .int .i64 0, .int .i64 0, .int .i64 0]) ?_ 4 _ rfl; (with_reducible repeat (first | refine blk_drewN ?_ _ | refine blk_drew ?_ | refine blk_alloc ?_ _)); refine blk_put (cs := #[.int .i64 (rd y137 (ji2)), .int .i64 (wrap64 ((Int.tmod (wrap64 (a0_1)) 16) + 1)), .int .i64 0, .int .i64 0, .int .i64 0, .int .i64 0, .int .i64 0]) ?_ 3 _ rfl; (with_reducible repeat (first | refine blk_drewN ?_ _ | refine blk_drew ?_ | refine blk_alloc ?_ _)); refine blk_put (cs := #[.int .i64 (rd y137 (ji2)), .int .i64 (wrap64 ((Int.tmod (wrap64 (a0_1)) 16) + 1)), .int .i64 0, .int .i64 0, .int .i64 0, .int .i64 0, .int .i64 0]) ?_ 2 _ rfl; (with_reducible repeat (first | refine blk_drewN ?_ _ | refine blk_drew ?_ | refine blk_alloc ?_ _)); refine blk_put (cs := #[.int .i64 (rd y137 (ji2)), .int .i64 0, .int .i64 0, .int .i64 0, .int .i64 0, .int .i64 0, .int .i64 0]) ?_ 1 _ rfl; (with_reducible repeat (first | refine blk_drewN ?_ _ | refine blk_drew ?_ | refine blk_alloc ?_ _)); refine blk_put (cs := #[.int .i64 0, .int .i64 0, .int .i64 0, .int .i64 0, .int .i64 0, .int .i64 0, .int .i64 0]) ?_ 0 _ rfl; (with_reducible repeat (first | refine blk_drewN ?_ _ | refine blk_drew ?_ | refine blk_alloc ?_ _)); exact BK141.out⟩
     have n4_ : Aside0 (Below w.heap.size w (((((((w54.setCell ⟨gb141, 0, none⟩ (.int .i64 (rd y137 (ji2)))).setCell ⟨gb141, 1, none⟩ (.int .i64 (wrap64 ((Int.tmod (wrap64 (a0_1)) 16) + 1)))).setCell ⟨gb141, 2, none⟩ (.int .i64 0)).setCell ⟨gb141, 3, none⟩ (.int .i64 0)).setCell ⟨gb141, 4, none⟩ (.int .i64 0)).setCell ⟨gb141, 5, none⟩ (.int .i64 0)).setCell ⟨gb141, 6, none⟩ (.int .i64 0))) := ⟨by repeat (first | (with_reducible first | exact HB.out | apply below_alloc | apply pw_below_drewN | apply below_drew1 | refine below_set ?_ GE135.out | refine below_set ?_ GE136.out | refine below_set ?_ GE141.out) | exact HB.out)⟩
     (try clear HO139)
     (try clear BK135)
     (try clear BK136)
     (try clear BK141)
     (try clear HB)
     generalize (((((((w54.setCell ⟨gb141, 0, none⟩ (.int .i64 (rd y137 (ji2)))).setCell ⟨gb141, 1, none⟩ (.int .i64 (wrap64 ((Int.tmod (wrap64 (a0_1)) 16) + 1)))).setCell ⟨gb141, 2, none⟩ (.int .i64 0)).setCell ⟨gb141, 3, none⟩ (.int .i64 0)).setCell ⟨gb141, 4, none⟩ (.int .i64 0)).setCell ⟨gb141, 5, none⟩ (.int .i64 0)).setCell ⟨gb141, 6, none⟩ (.int .i64 0)) = w58 at n0_ n1_ n2_ n3_ n4_ ⊢
     have HO139 := n0_
     have BK135 := n1_
     have BK136 := n2_
     have BK141 := n3_
     have HB := n4_
     clear n0_ n1_ n2_ n3_ n4_
     have n0_ := Aside0.mk (Kd.R_drew HO139.out)
     have n1_ := Aside0.mk (blk_drew BK135.out)
     have n2_ := Aside0.mk (blk_drew BK136.out)
     have n3_ := Aside0.mk (blk_drew BK141.out)
     have n4_ := Aside0.mk (below_drew1 HB.out)
     clear HO139
     clear BK135
     clear BK136
     clear BK141
     clear HB
     have HO139 := n0_
     have BK135 := n1_
     have BK136 := n2_
     have BK141 := n3_
     have HB := n4_
     clear n0_ n1_ n2_ n3_ n4_
     refine start_ (n := 7) (S := fun w' => w'.cell? ⟨gb135, 0, none⟩ = some (.int .u8 a0_0) ∧ w'.cell? ⟨gb135, 1, none⟩ = some (.int .u8 a0_1) ∧ w'.cell? ⟨gb135, 2, none⟩ = some (.int .u32 a0_2) ∧ w'.cell? ⟨gb135, 3, none⟩ = some (.int .u32 a0_3) ∧ w'.cell? ⟨gb135, 4, none⟩ = some (.int .u32 a0_4) ∧ w'.cell? ⟨gb135, 5, none⟩ = some (.int .u8 a0_5)) (ds := []) #[false, false, false, false, false, false, false] (by kernel_rfl) rfl rfl ⟨(blk_cell BK135.out 0).trans rfl, (blk_cell BK135.out 1).trans rfl, (blk_cell BK135.out 2).trans rfl, (blk_cell BK135.out 3).trans rfl, (blk_cell BK135.out 4).trans rfl, (blk_cell BK135.out 5).trans rfl⟩ (fun hHeld => ?_)
     generalize w58.drew = w59 at HO139 BK135 BK136 BK141 HB hHeld ⊢
     refine pure_ (i := 0) (N := some 29) (v := ?_) (a' := ?_) #[true, false, false, false, false, false, false] rfl rfl (by kernel_rfl) (fun _ _ _ h => h) (Or.inl ⟨by rfl, ?_⟩) ?_ ?_
     rotate_left
     ·intro w'
      go_simp
      with_reducible rfl
     rotate_left
     ·simp only [Act.put, List.setIfInBounds_toArray, List.set_cons_zero, List.set_cons_succ, i64_w, i32_w]
      rfl
     refine pure_ (i := 3) (N := some 32) (v := ?_) (a' := ?_) #[true, false, false, true, false, false, false] rfl rfl (by kernel_rfl) (fun _ _ _ h => h) (Or.inl ⟨by rfl, ?_⟩) ?_ ?_
     rotate_left
     ·intro w'
      go_simp
      with_reducible rfl
     rotate_left
     ·simp only [Act.put, List.setIfInBounds_toArray, List.set_cons_zero, List.set_cons_succ, i64_w, i32_w]
      rfl
     refine take_ (i := 1) (N := some 30) (v := ?_) (a' := ?_) #[true, true, false, true, false, false, false] rfl rfl (by kernel_rfl) (fun _ _ _ h => h) (Or.inl ⟨by rfl, ?_⟩) hHeld ?_ ?_
     rotate_left
     ·rintro w' ⟨s0, s1, s2, s3, s4, s5⟩
      go_simp
      with_reducible rfl
     rotate_left
     ·simp only [Act.put, List.setIfInBounds_toArray, List.set_cons_zero, List.set_cons_succ, i64_w, i32_w]
      rfl
     refine pure_ (i := 2) (N := some 31) (v := ?_) (a' := ?_) #[true, true, true, true, false, false, false] rfl rfl (by kernel_rfl) (fun _ _ _ h => h) (Or.inl ⟨by rfl, ?_⟩) ?_ ?_
     rotate_left
     ·intro w'
      go_simp
      with_reducible rfl
     rotate_left
     ·simp only [Act.put, List.setIfInBounds_toArray, List.set_cons_zero, List.set_cons_succ, i64_w, i32_w]
      rfl
     refine one_ (i := 4) (N := some 33) #[true, true, true, true, true, false, false] rfl rfl (by kernel_rfl) (by decide) (fun K hK => ?_)
     refine goes_ Try.func15 (by kernel_rfl) rfl #[.int .i64 (wrap64 ((Int.tmod (wrap64 (a0_1)) 16) + 1))] (by rfl) rfl rfl (by (try simp only [List.map_toArray, List.map_cons, List.map_nil]); first | done | rfl | (simp only [List.length_drop, List.length_take]; rfl)) ?_
     with_reducible refine (proofmarkref08_Mask.calls (wrap64 ((Int.tmod (wrap64 (a0_1)) 16) + 1)) t142 _ A5.out).mono ?_
     rintro e w' ⟨rfl, ⟨nd, rfl⟩⟩
     refine ⟨_, rfl, ?_⟩
     refine hK.out _ _ ⟨(blk_cell BK135.out 0).trans rfl, (blk_cell BK135.out 1).trans rfl, (blk_cell BK135.out 2).trans rfl, (blk_cell BK135.out 3).trans rfl, (blk_cell BK135.out 4).trans rfl, (blk_cell BK135.out 5).trans rfl⟩ (fun hHeld => ?_)
     clear hK K
     refine norm_ (a' := ?_) ?_ ?_
     rotate_left
     ·show Act.put _ (some 33) _ = _
      simp only [Act.put, List.setIfInBounds_toArray, List.set_cons_zero, List.set_cons_succ, i64_w, i32_w]
      rfl
     refine pure_ (i := 5) (N := some 34) (v := ?_) (a' := ?_) #[true, true, true, true, true, true, false] rfl rfl (by kernel_rfl) (fun _ _ _ h => h) (Or.inl ⟨by rfl, ?_⟩) ?_ ?_
     rotate_left
     ·intro w'
      go_simp
      with_reducible rfl
     rotate_left
     ·simp only [Act.put, List.setIfInBounds_toArray, List.set_cons_zero, List.set_cons_succ, i64_w, i32_w]
      rfl
     refine pure_ (i := 6) (N := some 10) (v := ?_) (a' := ?_) #[true, true, true, true, true, true, true] rfl rfl (by kernel_rfl) (fun _ _ _ h => h) (Or.inl ⟨by rfl, ?_⟩) ?_ ?_
     rotate_left
     ·intro w'
      go_simp
      with_reducible rfl
     rotate_left
     ·simp only [Act.put, List.setIfInBounds_toArray, List.set_cons_zero, List.set_cons_succ, i64_w, i32_w]
      rfl
     refine done_ (by kernel_rfl) ?_
     try go_wp2
     (try (rw [drewN_self w59]; generalize hq_ : World.drewN w59 _ = w59; have n0_ : Aside0 (Kd.R (Kd.int .i64) 3 w59 w.heap.size (fun _ => True) (.slice (some ad140) y137.length co53) y137) := ⟨by rw [← hq_]; exact (by (with_reducible repeat (first | apply Kd.R_alloc | apply Kd.R_drewN | apply Kd.R_drew)); exact HO139.out)⟩; have n1_ : Aside0 (w59.heap[gb135]? = some (.cells #[.int .u8 a0_0, .int .u8 a0_1, .int .u32 a0_2, .int .u32 a0_3, .int .u32 a0_4, .int .u8 a0_5] 24 (0, 0))) := ⟨by rw [← hq_]; exact (by (with_reducible repeat (first | refine blk_drewN ?_ _ | refine blk_drew ?_ | refine blk_alloc ?_ _)); exact BK135.out)⟩; have n2_ : Aside0 (w59.heap[gb136]? = some (.cells #[.int .i64 0, .int .i64 0, .int .i64 0, .int .i64 0, .int .i64 0, .int .i64 0, .int .i64 0] 28 (0, 0))) := ⟨by rw [← hq_]; exact (by (with_reducible repeat (first | refine blk_drewN ?_ _ | refine blk_drew ?_ | refine blk_alloc ?_ _)); exact BK136.out)⟩; have n3_ : Aside0 (w59.heap[gb141]? = some (.cells #[.int .i64 (rd y137 (ji2)), .int .i64 (wrap64 ((Int.tmod (wrap64 (a0_1)) 16) + 1)), .int .i64 0, .int .i64 0, .int .i64 0, .int .i64 0, .int .i64 0] 28 (0, 0))) := ⟨by rw [← hq_]; exact (by (with_reducible repeat (first | refine blk_drewN ?_ _ | refine blk_drew ?_ | refine blk_alloc ?_ _)); exact BK141.out)⟩; have n4_ : Aside0 (Below w.heap.size w w59) := ⟨by rw [← hq_]; exact (by repeat (first | (with_reducible first | exact HB.out | apply below_alloc | apply pw_below_drewN | apply below_drew1 | refine below_set ?_ GE135.out | refine below_set ?_ GE136.out | refine below_set ?_ GE141.out) | exact HB.out))⟩; clear HO139 BK135 BK136 BK141 HB hq_; have HO139 := n0_; have BK135 := n1_; have BK136 := n2_; have BK141 := n3_; have HB := n4_; clear n0_ n1_ n2_ n3_ n4_))
     have n0_ := Aside0.mk (Kd.R_drew HO139.out)
     have n1_ := Aside0.mk (blk_drew BK135.out)
     have n2_ := Aside0.mk (blk_drew BK136.out)
     have n3_ := Aside0.mk (blk_drew BK141.out)
     have n4_ := Aside0.mk (below_drew1 HB.out)
     clear HO139
     clear BK135
     clear BK136
     clear BK141
     clear HB
     have HO139 := n0_
     have BK135 := n1_
     have BK136 := n2_
     have BK141 := n3_
     have HB := n4_
     clear n0_ n1_ n2_ n3_ n4_
     refine start_ (n := 7) (S := fun w' => w'.cell? ⟨gb135, 0, none⟩ = some (.int .u8 a0_0) ∧ w'.cell? ⟨gb135, 1, none⟩ = some (.int .u8 a0_1) ∧ w'.cell? ⟨gb135, 2, none⟩ = some (.int .u32 a0_2) ∧ w'.cell? ⟨gb135, 3, none⟩ = some (.int .u32 a0_3) ∧ w'.cell? ⟨gb135, 4, none⟩ = some (.int .u32 a0_4) ∧ w'.cell? ⟨gb135, 5, none⟩ = some (.int .u8 a0_5)) (ds := []) #[false, false, false, false, false, false, false] (by kernel_rfl) rfl rfl ⟨(blk_cell BK135.out 0).trans rfl, (blk_cell BK135.out 1).trans rfl, (blk_cell BK135.out 2).trans rfl, (blk_cell BK135.out 3).trans rfl, (blk_cell BK135.out 4).trans rfl, (blk_cell BK135.out 5).trans rfl⟩ (fun hHeld => ?_)
     generalize w59.drew = w60 at HO139 BK135 BK136 BK141 HB hHeld ⊢
     refine pure_ (i := 0) (N := some 35) (v := ?_) (a' := ?_) #[true, false, false, false, false, false, false] rfl rfl (by kernel_rfl) (fun _ _ _ h => h) (Or.inl ⟨by rfl, ?_⟩) ?_ ?_
     rotate_left
     ·intro w'
      go_simp
      with_reducible rfl
     rotate_left
     ·simp only [Act.put, List.setIfInBounds_toArray, List.set_cons_zero, List.set_cons_succ, i64_w, i32_w]
      rfl
     refine pure_ (i := 3) (N := some 38) (v := ?_) (a' := ?_) #[true, false, false, true, false, false, false] rfl rfl (by kernel_rfl) (fun _ _ _ h => h) (Or.inl ⟨by rfl, ?_⟩) ?_ ?_
     rotate_left
     ·intro w'
      go_simp
      with_reducible rfl
     rotate_left
     ·simp only [Act.put, List.setIfInBounds_toArray, List.set_cons_zero, List.set_cons_succ, i64_w, i32_w]
      rfl
     refine take_ (i := 1) (N := some 36) (v := ?_) (a' := ?_) #[true, true, false, true, false, false, false] rfl rfl (by kernel_rfl) (fun _ _ _ h => h) (Or.inl ⟨by rfl, ?_⟩) hHeld ?_ ?_
     rotate_left
     ·rintro w' ⟨s0, s1, s2, s3, s4, s5⟩
      go_simp
      with_reducible rfl
     rotate_left
     ·simp only [Act.put, List.setIfInBounds_toArray, List.set_cons_zero, List.set_cons_succ, i64_w, i32_w]
      rfl
     refine pure_ (i := 2) (N := some 37) (v := ?_) (a' := ?_) #[true, true, true, true, false, false, false] rfl rfl (by kernel_rfl) (fun _ _ _ h => h) (Or.inl ⟨by rfl, ?_⟩) ?_ ?_
     rotate_left
     ·intro w'
      go_simp
      with_reducible rfl
     rotate_left
     ·simp only [Act.put, List.setIfInBounds_toArray, List.set_cons_zero, List.set_cons_succ, i64_w, i32_w]
      rfl
     refine one_ (i := 4) (N := some 39) #[true, true, true, true, true, false, false] rfl rfl (by kernel_rfl) (by decide) (fun K hK => ?_)
     refine goes_ Try.func15 (by kernel_rfl) rfl #[.int .i64 (wrap64 ((Int.tmod (wrap64 (a0_1)) 16) + 1))] (by rfl) rfl rfl (by (try simp only [List.map_toArray, List.map_cons, List.map_nil]); first | done | rfl | (simp only [List.length_drop, List.length_take]; rfl)) ?_
     with_reducible refine (proofmarkref08_Mask.calls (wrap64 ((Int.tmod (wrap64 (a0_1)) 16) + 1)) t142 _ A6.out).mono ?_
     rintro e w' ⟨rfl, ⟨nd, rfl⟩⟩
     refine ⟨_, rfl, ?_⟩
     refine hK.out _ _ ⟨(blk_cell BK135.out 0).trans rfl, (blk_cell BK135.out 1).trans rfl, (blk_cell BK135.out 2).trans rfl, (blk_cell BK135.out 3).trans rfl, (blk_cell BK135.out 4).trans rfl, (blk_cell BK135.out 5).trans rfl⟩ (fun hHeld => ?_)
     clear hK K
     refine norm_ (a' := ?_) ?_ ?_
     rotate_left
     ·show Act.put _ (some 39) _ = _
      simp only [Act.put, List.setIfInBounds_toArray, List.set_cons_zero, List.set_cons_succ, i64_w, i32_w]
      rfl
     refine pure_ (i := 5) (N := some 40) (v := ?_) (a' := ?_) #[true, true, true, true, true, true, false] rfl rfl (by kernel_rfl) (fun _ _ _ h => h) (Or.inl ⟨by rfl, ?_⟩) ?_ ?_
     rotate_left
     ·intro w'
      go_simp
      with_reducible rfl
     rotate_left
     ·simp only [Act.put, List.setIfInBounds_toArray, List.set_cons_zero, List.set_cons_succ, i64_w, i32_w]
      rfl
     refine pure_ (i := 6) (N := some 11) (v := ?_) (a' := ?_) #[true, true, true, true, true, true, true] rfl rfl (by kernel_rfl) (fun _ _ _ h => h) (Or.inl ⟨by rfl, ?_⟩) ?_ ?_
     rotate_left
     ·intro w'
      go_simp
      with_reducible rfl
     rotate_left
     ·simp only [Act.put, List.setIfInBounds_toArray, List.set_cons_zero, List.set_cons_succ, i64_w, i32_w]
      rfl
     refine done_ (by kernel_rfl) ?_
     try go_wp2
     (try (rw [drewN_self w60]; generalize hq_ : World.drewN w60 _ = w60; have n0_ : Aside0 (Kd.R (Kd.int .i64) 3 w60 w.heap.size (fun _ => True) (.slice (some ad140) y137.length co53) y137) := ⟨by rw [← hq_]; exact (by (with_reducible repeat (first | apply Kd.R_alloc | apply Kd.R_drewN | apply Kd.R_drew)); exact HO139.out)⟩; have n1_ : Aside0 (w60.heap[gb135]? = some (.cells #[.int .u8 a0_0, .int .u8 a0_1, .int .u32 a0_2, .int .u32 a0_3, .int .u32 a0_4, .int .u8 a0_5] 24 (0, 0))) := ⟨by rw [← hq_]; exact (by (with_reducible repeat (first | refine blk_drewN ?_ _ | refine blk_drew ?_ | refine blk_alloc ?_ _)); exact BK135.out)⟩; have n2_ : Aside0 (w60.heap[gb136]? = some (.cells #[.int .i64 0, .int .i64 0, .int .i64 0, .int .i64 0, .int .i64 0, .int .i64 0, .int .i64 0] 28 (0, 0))) := ⟨by rw [← hq_]; exact (by (with_reducible repeat (first | refine blk_drewN ?_ _ | refine blk_drew ?_ | refine blk_alloc ?_ _)); exact BK136.out)⟩; have n3_ : Aside0 (w60.heap[gb141]? = some (.cells #[.int .i64 (rd y137 (ji2)), .int .i64 (wrap64 ((Int.tmod (wrap64 (a0_1)) 16) + 1)), .int .i64 0, .int .i64 0, .int .i64 0, .int .i64 0, .int .i64 0] 28 (0, 0))) := ⟨by rw [← hq_]; exact (by (with_reducible repeat (first | refine blk_drewN ?_ _ | refine blk_drew ?_ | refine blk_alloc ?_ _)); exact BK141.out)⟩; have n4_ : Aside0 (Below w.heap.size w w60) := ⟨by rw [← hq_]; exact (by repeat (first | (with_reducible first | exact HB.out | apply below_alloc | apply pw_below_drewN | apply below_drew1 | refine below_set ?_ GE135.out | refine below_set ?_ GE136.out | refine below_set ?_ GE141.out) | exact HB.out))⟩; clear HO139 BK135 BK136 BK141 HB hq_; have HO139 := n0_; have BK135 := n1_; have BK136 := n2_; have BK141 := n3_; have HB := n4_; clear n0_ n1_ n2_ n3_ n4_))
     have n0_ := Aside0.mk (Kd.R_drew HO139.out)
     have n1_ := Aside0.mk (blk_drew BK135.out)
     have n2_ := Aside0.mk (blk_drew BK136.out)
     have n3_ := Aside0.mk (blk_drew BK141.out)
     have n4_ := Aside0.mk (below_drew1 HB.out)
     clear HO139
     clear BK135
     clear BK136
     clear BK141
     clear HB
     have HO139 := n0_
     have BK135 := n1_
     have BK136 := n2_
     have BK141 := n3_
     have HB := n4_
     clear n0_ n1_ n2_ n3_ n4_
     refine start_ (n := 7) (S := fun w' => w'.cell? ⟨gb135, 0, none⟩ = some (.int .u8 a0_0) ∧ w'.cell? ⟨gb135, 1, none⟩ = some (.int .u8 a0_1) ∧ w'.cell? ⟨gb135, 2, none⟩ = some (.int .u32 a0_2) ∧ w'.cell? ⟨gb135, 3, none⟩ = some (.int .u32 a0_3) ∧ w'.cell? ⟨gb135, 4, none⟩ = some (.int .u32 a0_4) ∧ w'.cell? ⟨gb135, 5, none⟩ = some (.int .u8 a0_5)) (ds := []) #[false, false, false, false, false, false, false] (by kernel_rfl) rfl rfl ⟨(blk_cell BK135.out 0).trans rfl, (blk_cell BK135.out 1).trans rfl, (blk_cell BK135.out 2).trans rfl, (blk_cell BK135.out 3).trans rfl, (blk_cell BK135.out 4).trans rfl, (blk_cell BK135.out 5).trans rfl⟩ (fun hHeld => ?_)
     generalize w60.drew = w61 at HO139 BK135 BK136 BK141 HB hHeld ⊢
     refine pure_ (i := 0) (N := some 41) (v := ?_) (a' := ?_) #[true, false, false, false, false, false, false] rfl rfl (by kernel_rfl) (fun _ _ _ h => h) (Or.inl ⟨by rfl, ?_⟩) ?_ ?_
     rotate_left
     ·intro w'
      go_simp
      with_reducible rfl
     rotate_left
     ·simp only [Act.put, List.setIfInBounds_toArray, List.set_cons_zero, List.set_cons_succ, i64_w, i32_w]
      rfl
     refine pure_ (i := 3) (N := some 44) (v := ?_) (a' := ?_) #[true, false, false, true, false, false, false] rfl rfl (by kernel_rfl) (fun _ _ _ h => h) (Or.inl ⟨by rfl, ?_⟩) ?_ ?_
     rotate_left
     ·intro w'
      go_simp
      with_reducible rfl
     rotate_left
     ·simp only [Act.put, List.setIfInBounds_toArray, List.set_cons_zero, List.set_cons_succ, i64_w, i32_w]
      rfl
     refine take_ (i := 1) (N := some 42) (v := ?_) (a' := ?_) #[true, true, false, true, false, false, false] rfl rfl (by kernel_rfl) (fun _ _ _ h => h) (Or.inl ⟨by rfl, ?_⟩) hHeld ?_ ?_
     rotate_left
     ·rintro w' ⟨s0, s1, s2, s3, s4, s5⟩
      go_simp
      with_reducible rfl
     rotate_left
     ·simp only [Act.put, List.setIfInBounds_toArray, List.set_cons_zero, List.set_cons_succ, i64_w, i32_w]
      rfl
     refine pure_ (i := 2) (N := some 43) (v := ?_) (a' := ?_) #[true, true, true, true, false, false, false] rfl rfl (by kernel_rfl) (fun _ _ _ h => h) (Or.inl ⟨by rfl, ?_⟩) ?_ ?_
     rotate_left
     ·intro w'
      go_simp
      with_reducible rfl
     rotate_left
     ·simp only [Act.put, List.setIfInBounds_toArray, List.set_cons_zero, List.set_cons_succ, i64_w, i32_w]
      rfl
     refine one_ (i := 4) (N := some 45) #[true, true, true, true, true, false, false] rfl rfl (by kernel_rfl) (by decide) (fun K hK => ?_)
     refine goes_ Try.func15 (by kernel_rfl) rfl #[.int .i64 (wrap64 ((Int.tmod (wrap64 (a0_1)) 16) + 1))] (by rfl) rfl rfl (by (try simp only [List.map_toArray, List.map_cons, List.map_nil]); first | done | rfl | (simp only [List.length_drop, List.length_take]; rfl)) ?_
     with_reducible refine (proofmarkref08_Mask.calls (wrap64 ((Int.tmod (wrap64 (a0_1)) 16) + 1)) t142 _ A8.out).mono ?_
     rintro e w' ⟨rfl, ⟨nd, rfl⟩⟩
     refine ⟨_, rfl, ?_⟩
     refine hK.out _ _ ⟨(blk_cell BK135.out 0).trans rfl, (blk_cell BK135.out 1).trans rfl, (blk_cell BK135.out 2).trans rfl, (blk_cell BK135.out 3).trans rfl, (blk_cell BK135.out 4).trans rfl, (blk_cell BK135.out 5).trans rfl⟩ (fun hHeld => ?_)
     clear hK K
     refine norm_ (a' := ?_) ?_ ?_
     rotate_left
     ·show Act.put _ (some 45) _ = _
      simp only [Act.put, List.setIfInBounds_toArray, List.set_cons_zero, List.set_cons_succ, i64_w, i32_w]
      rfl
     refine pure_ (i := 5) (N := some 46) (v := ?_) (a' := ?_) #[true, true, true, true, true, true, false] rfl rfl (by kernel_rfl) (fun _ _ _ h => h) (Or.inl ⟨by rfl, ?_⟩) ?_ ?_
     rotate_left
     ·intro w'
      go_simp
      with_reducible rfl
     rotate_left
     ·simp only [Act.put, List.setIfInBounds_toArray, List.set_cons_zero, List.set_cons_succ, i64_w, i32_w]
      rfl
     refine pure_ (i := 6) (N := some 12) (v := ?_) (a' := ?_) #[true, true, true, true, true, true, true] rfl rfl (by kernel_rfl) (fun _ _ _ h => h) (Or.inl ⟨by rfl, ?_⟩) ?_ ?_
     rotate_left
     ·intro w'
      go_simp
      with_reducible rfl
     rotate_left
     ·simp only [Act.put, List.setIfInBounds_toArray, List.set_cons_zero, List.set_cons_succ, i64_w, i32_w]
      rfl
     refine done_ (by kernel_rfl) ?_
     have hcz62_0 : w61.cell? ⟨gb141, 0, none⟩ = some (.int .i64 (rd y137 (ji2))) := (blk_cell BK141.out 0).trans rfl
     have hcz62_1 : w61.cell? ⟨gb141, 1, none⟩ = some (.int .i64 (wrap64 ((Int.tmod (wrap64 (a0_1)) 16) + 1))) := (blk_cell BK141.out 1).trans rfl
     have hcz62_2 : w61.cell? ⟨gb141, 2, none⟩ = some (.int .i64 0) := (blk_cell BK141.out 2).trans rfl
     have hcz62_3 : w61.cell? ⟨gb141, 3, none⟩ = some (.int .i64 0) := (blk_cell BK141.out 3).trans rfl
     have hcz62_4 : w61.cell? ⟨gb141, 4, none⟩ = some (.int .i64 0) := (blk_cell BK141.out 4).trans rfl
     have hcz62_5 : w61.cell? ⟨gb141, 5, none⟩ = some (.int .i64 0) := (blk_cell BK141.out 5).trans rfl
     have hcz62_6 : w61.cell? ⟨gb141, 6, none⟩ = some (.int .i64 0) := (blk_cell BK141.out 6).trans rfl
     have hfz62_0 := blk_frozen BK141.out 0
     have hfz62_1 := blk_frozen BK141.out 1
     have hfz62_2 := blk_frozen BK141.out 2
     have hfz62_3 := blk_frozen BK141.out 3
     have hfz62_4 := blk_frozen BK141.out 4
     have hfz62_5 := blk_frozen BK141.out 5
     have hfz62_6 := blk_frozen BK141.out 6
     go_upto_if 59 with (fail)
     go_cut [59] (fun v59 wc => ∃ (kq : Nat) (x59_45 : Bool), v59 = .bool x59_45 ∧ Aside0 (proofmarklaw08_Made.j0 kq (wrap64 ((Int.tmod (wrap64 (a0_1)) 16) + 1)) (Go.bits .and .i64 (wrap64 (a0_2)) t142) (Go.bits .and .i64 (wrap64 (a0_3)) t142) (Go.bits .and .i64 (wrap64 (a0_4)) t142) (rd y137 (ji2)) x59_45 a0_0 a0_1 a0_2 a0_3 a0_4 a0_5 (rd y137 (ji2)) (wrap64 ((Int.tmod (wrap64 (a0_1)) 16) + 1)) 0 0 0 0 0 = some (r1, r2, r3, r4, r5, r6, r7, r8, r9, r10, r11)) ∧ Aside0 (kq ≤ k) ∧ Aside0 (wc.heap[gb135]? = some (.cells #[.int .u8 a0_0, .int .u8 a0_1, .int .u32 a0_2, .int .u32 a0_3, .int .u32 a0_4, .int .u8 a0_5] 24 (0, 0))) ∧ Aside0 (wc.heap[gb136]? = some (.cells #[.int .i64 0, .int .i64 0, .int .i64 0, .int .i64 0, .int .i64 0, .int .i64 0, .int .i64 0] 28 (0, 0))) ∧ Aside0 (wc.heap[gb141]? = some (.cells #[.int .i64 (rd y137 (ji2)), .int .i64 (wrap64 ((Int.tmod (wrap64 (a0_1)) 16) + 1)), .int .i64 0, .int .i64 0, .int .i64 0, .int .i64 0, .int .i64 0] 28 (0, 0))) ∧ Aside0 (Below w.heap.size w wc))
     case first =>
      have H := HC46.out
      clear HC46
      by_cases c63 : (rd y137 (ji2)) = 4
      ·rw [if_pos c63] at H
       have c63b0 : ((rd y137 (ji2)) == 4) = true := beq_iff_eq.mpr c63
       have c63b1 : ((rd y137 (ji2)) != 4) = false := bne_eq_false_iff_eq.mpr c63
       clear c63
       (first | rw [c63b0] | (simp only [i64_w, i32_w]; rw [c63b0]) | skip)
       have H' := Aside0.mk H
       clear H
       go_wp2
       go_meet
       case rel => exact ⟨_, (((rd y137 (ji2)) == 4)), (by first | rfl | (simp; done) | (simp only [← hji2] <;> (first | rfl | (simp; done))) | (simp [*]; done)), H', ⟨by first | omega | exact Nat.le_refl _⟩, ⟨by (with_reducible repeat (first | refine blk_drewN ?_ _ | refine blk_drew ?_ | refine blk_alloc ?_ _)); exact BK135.out⟩, ⟨by (with_reducible repeat (first | refine blk_drewN ?_ _ | refine blk_drew ?_ | refine blk_alloc ?_ _)); exact BK136.out⟩, ⟨by (with_reducible repeat (first | refine blk_drewN ?_ _ | refine blk_drew ?_ | refine blk_alloc ?_ _)); exact BK141.out⟩, ⟨by repeat (first | (with_reducible first | exact HB.out | apply below_alloc | apply pw_below_drewN | apply below_drew1 | refine below_set ?_ GE135.out | refine below_set ?_ GE136.out | refine below_set ?_ GE141.out) | exact HB.out)⟩⟩
      ·rw [if_neg c63] at H
       have c63b0 : ((rd y137 (ji2)) == 4) = false := beq_eq_false_iff_ne.mpr c63
       have c63b1 : ((rd y137 (ji2)) != 4) = true := bne_iff_ne.mpr c63
       (first | rw [c63b0] | (simp only [i64_w, i32_w]; rw [c63b0]) | skip)
       have H' := Aside0.mk H
       clear H
       go_wp2
       go_meet
       case rel => exact ⟨_, (((rd y137 (ji2)) == 5)), (by first | rfl | (simp; done) | (simp only [← hji2] <;> (first | rfl | (simp; done))) | (simp [*]; done)), H', ⟨by first | omega | exact Nat.le_refl _⟩, ⟨by (with_reducible repeat (first | refine blk_drewN ?_ _ | refine blk_drew ?_ | refine blk_alloc ?_ _)); exact BK135.out⟩, ⟨by (with_reducible repeat (first | refine blk_drewN ?_ _ | refine blk_drew ?_ | refine blk_alloc ?_ _)); exact BK136.out⟩, ⟨by (with_reducible repeat (first | refine blk_drewN ?_ _ | refine blk_drew ?_ | refine blk_alloc ?_ _)); exact BK141.out⟩, ⟨by repeat (first | (with_reducible first | exact HB.out | apply below_alloc | apply pw_below_drewN | apply below_drew1 | refine below_set ?_ GE135.out | refine below_set ?_ GE136.out | refine below_set ?_ GE141.out) | exact HB.out)⟩⟩
     case rest =>
      clear HC46
      try clear c1
      try clear p1
      try clear q1
      try clear hx1
      try clear c2
      try clear p2
      try clear c3
      try clear c5
      try clear c6
      try clear p6
      try clear c11
      try clear p14
      try clear q14
      try clear hx14
      try clear c15
      try clear c28
      try clear c28b0
      try clear c28b1
      try clear c33
      try clear c37
      try clear c38
      try clear c51
      try clear c55
      try clear c56
      try clear c63
      try clear c63b0
      try clear c63b1
      try clear hcz34_0
      try clear hcz34_1
      try clear hcz34_2
      try clear hcz34_3
      try clear hcz34_4
      try clear hcz34_5
      try clear hcz39_0
      try clear hcz39_1
      try clear hcz39_2
      try clear hcz39_3
      try clear hcz39_4
      try clear hcz39_5
      try clear hcz39_6
      try clear hcz44_0
      try clear hcz44_1
      try clear hcz44_2
      try clear hcz44_3
      try clear hcz44_4
      try clear hcz44_5
      try clear hcz44_6
      try clear hcz45_0
      try clear hcz45_1
      try clear hcz45_2
      try clear hcz45_3
      try clear hcz45_4
      try clear hcz45_5
      try clear hcz45_6
      try clear hcz52_0
      try clear hcz52_1
      try clear hcz52_2
      try clear hcz52_3
      try clear hcz52_4
      try clear hcz52_5
      try clear hcz57_0
      try clear hcz57_1
      try clear hcz57_2
      try clear hcz57_3
      try clear hcz57_4
      try clear hcz57_5
      try clear hcz57_6
      try clear hcz62_0
      try clear hcz62_1
      try clear hcz62_2
      try clear hcz62_3
      try clear hcz62_4
      try clear hcz62_5
      try clear hcz62_6
      try clear hfz34_0
      try clear hfz34_1
      try clear hfz34_2
      try clear hfz34_3
      try clear hfz34_4
      try clear hfz34_5
      try clear hfz39_0
      try clear hfz39_1
      try clear hfz39_2
      try clear hfz39_3
      try clear hfz39_4
      try clear hfz39_5
      try clear hfz39_6
      try clear hfz44_0
      try clear hfz44_1
      try clear hfz44_2
      try clear hfz44_3
      try clear hfz44_4
      try clear hfz44_5
      try clear hfz44_6
      try clear hfz45_0
      try clear hfz45_1
      try clear hfz45_2
      try clear hfz45_3
      try clear hfz45_4
      try clear hfz45_5
      try clear hfz45_6
      try clear hfz52_0
      try clear hfz52_1
      try clear hfz52_2
      try clear hfz52_3
      try clear hfz52_4
      try clear hfz52_5
      try clear hfz57_0
      try clear hfz57_1
      try clear hfz57_2
      try clear hfz57_3
      try clear hfz57_4
      try clear hfz57_5
      try clear hfz57_6
      try clear hfz62_0
      try clear hfz62_1
      try clear hfz62_2
      try clear hfz62_3
      try clear hfz62_4
      try clear hfz62_5
      try clear hfz62_6
      try clear hx140_0
      try clear p140
      try clear q140
      obtain ⟨kq, x59_45, rfl, HA, HJ45, BK135, BK136, BK141, HB⟩ := hcut
      cases kq with
      | zero => exact absurd HA.out (by simp [proofmarklaw08_Made.j0])
      | succ kj45 =>
       have H := HA.out
       clear HA
       simp only [proofmarklaw08_Made.j0] at H
       by_cases c64 : x59_45 = true
       ·subst c64
        have H1 : (some ((rd y137 (ji2)), 1, 0, 0, 0, 0, (wrap64 ((Int.tmod (wrap64 (a0_1)) 16) + 1)), (Go.bits .and .i64 (wrap64 (a0_2)) t142), 0, 0, 0)) = some (r1, r2, r3, r4, r5, r6, r7, r8, r9, r10, r11) := by rw [if_pos rfl] at H; exact H
        clear H
        have H := H1
        clear H1
        simp only [Option.some.injEq, Prod.mk.injEq] at H
        obtain ⟨rfl, rfl, rfl, rfl, rfl, rfl, rfl, rfl, rfl, rfl, rfl⟩ := H
        have hnb65 := NB141_135.out
        have hnc65 := NB135_141.out
        have hnb66 := NB141_136.out
        have hnc66 := NB136_141.out
        have hcz67_0 : wc.cell? ⟨gb141, 0, none⟩ = some (.int .i64 (rd y137 (ji2))) := (blk_cell BK141.out 0).trans rfl
        have hcz67_1 : wc.cell? ⟨gb141, 1, none⟩ = some (.int .i64 (wrap64 ((Int.tmod (wrap64 (a0_1)) 16) + 1))) := (blk_cell BK141.out 1).trans rfl
        have hcz67_2 : wc.cell? ⟨gb141, 2, none⟩ = some (.int .i64 0) := (blk_cell BK141.out 2).trans rfl
        have hcz67_3 : wc.cell? ⟨gb141, 3, none⟩ = some (.int .i64 0) := (blk_cell BK141.out 3).trans rfl
        have hcz67_4 : wc.cell? ⟨gb141, 4, none⟩ = some (.int .i64 0) := (blk_cell BK141.out 4).trans rfl
        have hcz67_5 : wc.cell? ⟨gb141, 5, none⟩ = some (.int .i64 0) := (blk_cell BK141.out 5).trans rfl
        have hcz67_6 : wc.cell? ⟨gb141, 6, none⟩ = some (.int .i64 0) := (blk_cell BK141.out 6).trans rfl
        have hfz67_0 := blk_frozen BK141.out 0
        have hfz67_1 := blk_frozen BK141.out 1
        have hfz67_2 := blk_frozen BK141.out 2
        have hfz67_3 := blk_frozen BK141.out 3
        have hfz67_4 := blk_frozen BK141.out 4
        have hfz67_5 := blk_frozen BK141.out 5
        have hfz67_6 := blk_frozen BK141.out 6
        have hnb68 := NB136_135.out
        have hnc68 := NB135_136.out
        have hcz69_0 : wc.cell? ⟨gb136, 0, none⟩ = some (.int .i64 0) := (blk_cell BK136.out 0).trans rfl
        have hcz69_1 : wc.cell? ⟨gb136, 1, none⟩ = some (.int .i64 0) := (blk_cell BK136.out 1).trans rfl
        have hcz69_2 : wc.cell? ⟨gb136, 2, none⟩ = some (.int .i64 0) := (blk_cell BK136.out 2).trans rfl
        have hcz69_3 : wc.cell? ⟨gb136, 3, none⟩ = some (.int .i64 0) := (blk_cell BK136.out 3).trans rfl
        have hcz69_4 : wc.cell? ⟨gb136, 4, none⟩ = some (.int .i64 0) := (blk_cell BK136.out 4).trans rfl
        have hcz69_5 : wc.cell? ⟨gb136, 5, none⟩ = some (.int .i64 0) := (blk_cell BK136.out 5).trans rfl
        have hcz69_6 : wc.cell? ⟨gb136, 6, none⟩ = some (.int .i64 0) := (blk_cell BK136.out 6).trans rfl
        have hfz69_0 := blk_frozen BK136.out 0
        have hfz69_1 := blk_frozen BK136.out 1
        have hfz69_2 := blk_frozen BK136.out 2
        have hfz69_3 := blk_frozen BK136.out 3
        have hfz69_4 := blk_frozen BK136.out 4
        have hfz69_5 := blk_frozen BK136.out 5
        have hfz69_6 := blk_frozen BK136.out 6
        go_wp2
        refine bodyPost_ret (results_list (rs := [.cell 2 28, .tmp 3, .tmp 4, .tmp 5, .tmp 6]) rfl (by simp) (.cell gb136 28 #[.int .i64 (rd y137 (ji2)), .int .i64 1, .int .i64 0, .int .i64 0, .int .i64 0, .int .i64 0, .int .i64 (wrap64 ((Int.tmod (wrap64 (a0_1)) 16) + 1))] (0, 0) _ rfl (by (with_reducible repeat (first | refine blk_drewN ?_ _ | refine blk_drew ?_ | refine blk_alloc ?_ _)); refine blk_put (cs := #[.int .i64 (rd y137 (ji2)), .int .i64 1, .int .i64 0, .int .i64 0, .int .i64 0, .int .i64 0, .int .i64 0]) ?_ 6 _ rfl; (with_reducible repeat (first | refine blk_drewN ?_ _ | refine blk_drew ?_ | refine blk_alloc ?_ _)); refine blk_put (cs := #[.int .i64 (rd y137 (ji2)), .int .i64 1, .int .i64 0, .int .i64 0, .int .i64 0, .int .i64 0, .int .i64 0]) ?_ 5 _ rfl; (with_reducible repeat (first | refine blk_drewN ?_ _ | refine blk_drew ?_ | refine blk_alloc ?_ _)); refine blk_put (cs := #[.int .i64 (rd y137 (ji2)), .int .i64 1, .int .i64 0, .int .i64 0, .int .i64 0, .int .i64 0, .int .i64 0]) ?_ 4 _ rfl; (with_reducible repeat (first | refine blk_drewN ?_ _ | refine blk_drew ?_ | refine blk_alloc ?_ _)); refine blk_put (cs := #[.int .i64 (rd y137 (ji2)), .int .i64 1, .int .i64 0, .int .i64 0, .int .i64 0, .int .i64 0, .int .i64 0]) ?_ 3 _ rfl; (with_reducible repeat (first | refine blk_drewN ?_ _ | refine blk_drew ?_ | refine blk_alloc ?_ _)); refine blk_put (cs := #[.int .i64 (rd y137 (ji2)), .int .i64 1, .int .i64 0, .int .i64 0, .int .i64 0, .int .i64 0, .int .i64 0]) ?_ 2 _ rfl; (with_reducible repeat (first | refine blk_drewN ?_ _ | refine blk_drew ?_ | refine blk_alloc ?_ _)); refine blk_put (cs := #[.int .i64 (rd y137 (ji2)), .int .i64 0, .int .i64 0, .int .i64 0, .int .i64 0, .int .i64 0, .int .i64 0]) ?_ 1 _ rfl; (with_reducible repeat (first | refine blk_drewN ?_ _ | refine blk_drew ?_ | refine blk_alloc ?_ _)); refine blk_put (cs := #[.int .i64 0, .int .i64 0, .int .i64 0, .int .i64 0, .int .i64 0, .int .i64 0, .int .i64 0]) ?_ 0 _ rfl; (with_reducible repeat (first | refine blk_drewN ?_ _ | refine blk_drew ?_ | refine blk_alloc ?_ _)); refine blk_far ?_ NB136_141.out _; (with_reducible repeat (first | refine blk_drewN ?_ _ | refine blk_drew ?_ | refine blk_alloc ?_ _)); refine blk_far ?_ NB136_141.out _; (with_reducible repeat (first | refine blk_drewN ?_ _ | refine blk_drew ?_ | refine blk_alloc ?_ _)); exact BK136.out) Try.underlying28 rfl (by kernel_rfl) (.tmp (.tmp (.tmp (.tmp .nil)))))) rfl ?_
        exact ⟨by first | rfl | (simp [errW_none, errW_some] <;> rfl) | (simp only [← hji2]; first | rfl | (simp [errW_none, errW_some] <;> rfl)) | (simp [*, errW_none, errW_some] <;> rfl), by repeat (first | (with_reducible first | exact HB.out | apply below_alloc | apply pw_below_drewN | apply below_drew1 | refine below_set ?_ GE135.out | refine below_set ?_ GE136.out | refine below_set ?_ GE141.out) | exact HB.out)⟩
       ·replace c64 := Bool.eq_false_iff.mpr c64
        subst c64
        have H1 : (if (rd y137 (ji2)) = 12 then (proofmarklaw08_Made.j1 kj45 (wrap64 ((Int.tmod (wrap64 (a0_1)) 16) + 1)) (Go.bits .and .i64 (wrap64 (a0_2)) t142) (Go.bits .and .i64 (wrap64 (a0_3)) t142) (Go.bits .and .i64 (wrap64 (a0_4)) t142) (rd y137 (ji2)) ((rd y137 (ji2)) == 12) a0_0 a0_1 a0_2 a0_3 a0_4 a0_5 (rd y137 (ji2)) (wrap64 ((Int.tmod (wrap64 (a0_1)) 16) + 1)) 0 0 0 0 0) else (if (rd y137 (ji2)) = 13 then (proofmarklaw08_Made.j1 kj45 (wrap64 ((Int.tmod (wrap64 (a0_1)) 16) + 1)) (Go.bits .and .i64 (wrap64 (a0_2)) t142) (Go.bits .and .i64 (wrap64 (a0_3)) t142) (Go.bits .and .i64 (wrap64 (a0_4)) t142) (rd y137 (ji2)) ((rd y137 (ji2)) == 13) a0_0 a0_1 a0_2 a0_3 a0_4 a0_5 (rd y137 (ji2)) (wrap64 ((Int.tmod (wrap64 (a0_1)) 16) + 1)) 0 0 0 0 0) else (if (rd y137 (ji2)) = 14 then (proofmarklaw08_Made.j1 kj45 (wrap64 ((Int.tmod (wrap64 (a0_1)) 16) + 1)) (Go.bits .and .i64 (wrap64 (a0_2)) t142) (Go.bits .and .i64 (wrap64 (a0_3)) t142) (Go.bits .and .i64 (wrap64 (a0_4)) t142) (rd y137 (ji2)) ((rd y137 (ji2)) == 14) a0_0 a0_1 a0_2 a0_3 a0_4 a0_5 (rd y137 (ji2)) (wrap64 ((Int.tmod (wrap64 (a0_1)) 16) + 1)) 0 0 0 0 0) else (proofmarklaw08_Made.j1 kj45 (wrap64 ((Int.tmod (wrap64 (a0_1)) 16) + 1)) (Go.bits .and .i64 (wrap64 (a0_2)) t142) (Go.bits .and .i64 (wrap64 (a0_3)) t142) (Go.bits .and .i64 (wrap64 (a0_4)) t142) (rd y137 (ji2)) ((rd y137 (ji2)) == 15) a0_0 a0_1 a0_2 a0_3 a0_4 a0_5 (rd y137 (ji2)) (wrap64 ((Int.tmod (wrap64 (a0_1)) 16) + 1)) 0 0 0 0 0)))) = some (r1, r2, r3, r4, r5, r6, r7, r8, r9, r10, r11) := by rw [if_neg (show ¬ (false = true) by decide)] at H; exact H
        clear H
        have H := H1
        clear H1
        have HC70 := Aside0.mk H
        clear H
        go_upto_if 67 with (fail)
        go_cut [67] (fun v67 wc => ∃ (kq : Nat) (x67_69 : Bool), v67 = .bool x67_69 ∧ Aside0 (proofmarklaw08_Made.j1 kq (wrap64 ((Int.tmod (wrap64 (a0_1)) 16) + 1)) (Go.bits .and .i64 (wrap64 (a0_2)) t142) (Go.bits .and .i64 (wrap64 (a0_3)) t142) (Go.bits .and .i64 (wrap64 (a0_4)) t142) (rd y137 (ji2)) x67_69 a0_0 a0_1 a0_2 a0_3 a0_4 a0_5 (rd y137 (ji2)) (wrap64 ((Int.tmod (wrap64 (a0_1)) 16) + 1)) 0 0 0 0 0 = some (r1, r2, r3, r4, r5, r6, r7, r8, r9, r10, r11)) ∧ Aside0 (kq ≤ kj45) ∧ Aside0 (wc.heap[gb135]? = some (.cells #[.int .u8 a0_0, .int .u8 a0_1, .int .u32 a0_2, .int .u32 a0_3, .int .u32 a0_4, .int .u8 a0_5] 24 (0, 0))) ∧ Aside0 (wc.heap[gb136]? = some (.cells #[.int .i64 0, .int .i64 0, .int .i64 0, .int .i64 0, .int .i64 0, .int .i64 0, .int .i64 0] 28 (0, 0))) ∧ Aside0 (wc.heap[gb141]? = some (.cells #[.int .i64 (rd y137 (ji2)), .int .i64 (wrap64 ((Int.tmod (wrap64 (a0_1)) 16) + 1)), .int .i64 0, .int .i64 0, .int .i64 0, .int .i64 0, .int .i64 0] 28 (0, 0))) ∧ Aside0 (Below w.heap.size w wc))
        case first =>
         have H := HC70.out
         clear HC70
         by_cases c71 : (rd y137 (ji2)) = 12
         ·rw [if_pos c71] at H
          have c71b0 : ((rd y137 (ji2)) == 12) = true := beq_iff_eq.mpr c71
          have c71b1 : ((rd y137 (ji2)) != 12) = false := bne_eq_false_iff_eq.mpr c71
          clear c71
          (first | rw [c71b0] | (simp only [i64_w, i32_w]; rw [c71b0]) | skip)
          have H' := Aside0.mk H
          clear H
          go_wp2
          go_meet
          case rel => exact ⟨_, (((rd y137 (ji2)) == 12)), (by first | rfl | (simp; done) | (simp only [← hji2] <;> (first | rfl | (simp; done))) | (simp [*]; done)), H', ⟨by have := HJ45.out; first | omega | exact Nat.le_refl _⟩, ⟨by (with_reducible repeat (first | refine blk_drewN ?_ _ | refine blk_drew ?_ | refine blk_alloc ?_ _)); exact BK135.out⟩, ⟨by (with_reducible repeat (first | refine blk_drewN ?_ _ | refine blk_drew ?_ | refine blk_alloc ?_ _)); exact BK136.out⟩, ⟨by (with_reducible repeat (first | refine blk_drewN ?_ _ | refine blk_drew ?_ | refine blk_alloc ?_ _)); exact BK141.out⟩, ⟨by repeat (first | (with_reducible first | exact HB.out | apply below_alloc | apply pw_below_drewN | apply below_drew1 | refine below_set ?_ GE135.out | refine below_set ?_ GE136.out | refine below_set ?_ GE141.out) | exact HB.out)⟩⟩
         ·rw [if_neg c71] at H
          have c71b0 : ((rd y137 (ji2)) == 12) = false := beq_eq_false_iff_ne.mpr c71
          have c71b1 : ((rd y137 (ji2)) != 12) = true := bne_iff_ne.mpr c71
          (first | rw [c71b0] | (simp only [i64_w, i32_w]; rw [c71b0]) | skip)
          by_cases c72 : (rd y137 (ji2)) = 13
          ·rw [if_pos c72] at H
           have c72b0 : ((rd y137 (ji2)) == 13) = true := beq_iff_eq.mpr c72
           have c72b1 : ((rd y137 (ji2)) != 13) = false := bne_eq_false_iff_eq.mpr c72
           clear c72
           have H' := Aside0.mk H
           clear H
           go_wp2
           go_meet
           case rel => exact ⟨_, (((rd y137 (ji2)) == 13)), (by first | rfl | (simp; done) | (simp only [← hji2] <;> (first | rfl | (simp; done))) | (simp [*]; done)), H', ⟨by have := HJ45.out; first | omega | exact Nat.le_refl _⟩, ⟨by (with_reducible repeat (first | refine blk_drewN ?_ _ | refine blk_drew ?_ | refine blk_alloc ?_ _)); exact BK135.out⟩, ⟨by (with_reducible repeat (first | refine blk_drewN ?_ _ | refine blk_drew ?_ | refine blk_alloc ?_ _)); exact BK136.out⟩, ⟨by (with_reducible repeat (first | refine blk_drewN ?_ _ | refine blk_drew ?_ | refine blk_alloc ?_ _)); exact BK141.out⟩, ⟨by repeat (first | (with_reducible first | exact HB.out | apply below_alloc | apply pw_below_drewN | apply below_drew1 | refine below_set ?_ GE135.out | refine below_set ?_ GE136.out | refine below_set ?_ GE141.out) | exact HB.out)⟩⟩
          ·rw [if_neg c72] at H
           have c72b0 : ((rd y137 (ji2)) == 13) = false := beq_eq_false_iff_ne.mpr c72
           have c72b1 : ((rd y137 (ji2)) != 13) = true := bne_iff_ne.mpr c72
           by_cases c73 : (rd y137 (ji2)) = 14
           ·rw [if_pos c73] at H
            have c73b0 : ((rd y137 (ji2)) == 14) = true := beq_iff_eq.mpr c73
            have c73b1 : ((rd y137 (ji2)) != 14) = false := bne_eq_false_iff_eq.mpr c73
            clear c73
            have H' := Aside0.mk H
            clear H
            go_wp2
            go_meet
            case rel => exact ⟨_, (((rd y137 (ji2)) == 14)), (by first | rfl | (simp; done) | (simp only [← hji2] <;> (first | rfl | (simp; done))) | (simp [*]; done)), H', ⟨by have := HJ45.out; first | omega | exact Nat.le_refl _⟩, ⟨by (with_reducible repeat (first | refine blk_drewN ?_ _ | refine blk_drew ?_ | refine blk_alloc ?_ _)); exact BK135.out⟩, ⟨by (with_reducible repeat (first | refine blk_drewN ?_ _ | refine blk_drew ?_ | refine blk_alloc ?_ _)); exact BK136.out⟩, ⟨by (with_reducible repeat (first | refine blk_drewN ?_ _ | refine blk_drew ?_ | refine blk_alloc ?_ _)); exact BK141.out⟩, ⟨by repeat (first | (with_reducible first | exact HB.out | apply below_alloc | apply pw_below_drewN | apply below_drew1 | refine below_set ?_ GE135.out | refine below_set ?_ GE136.out | refine below_set ?_ GE141.out) | exact HB.out)⟩⟩
           ·rw [if_neg c73] at H
            have c73b0 : ((rd y137 (ji2)) == 14) = false := beq_eq_false_iff_ne.mpr c73
            have c73b1 : ((rd y137 (ji2)) != 14) = true := bne_iff_ne.mpr c73
            have H' := Aside0.mk H
            clear H
            go_wp2
            go_meet
            case rel => exact ⟨_, (((rd y137 (ji2)) == 15)), (by first | rfl | (simp; done) | (simp only [← hji2] <;> (first | rfl | (simp; done))) | (simp [*]; done)), H', ⟨by have := HJ45.out; first | omega | exact Nat.le_refl _⟩, ⟨by (with_reducible repeat (first | refine blk_drewN ?_ _ | refine blk_drew ?_ | refine blk_alloc ?_ _)); exact BK135.out⟩, ⟨by (with_reducible repeat (first | refine blk_drewN ?_ _ | refine blk_drew ?_ | refine blk_alloc ?_ _)); exact BK136.out⟩, ⟨by (with_reducible repeat (first | refine blk_drewN ?_ _ | refine blk_drew ?_ | refine blk_alloc ?_ _)); exact BK141.out⟩, ⟨by repeat (first | (with_reducible first | exact HB.out | apply below_alloc | apply pw_below_drewN | apply below_drew1 | refine below_set ?_ GE135.out | refine below_set ?_ GE136.out | refine below_set ?_ GE141.out) | exact HB.out)⟩⟩
        case rest =>
         clear HC70
         try clear c1
         try clear p1
         try clear q1
         try clear hx1
         try clear c2
         try clear p2
         try clear c3
         try clear c5
         try clear c6
         try clear p6
         try clear c7
         try clear c11
         try clear p14
         try clear q14
         try clear hx14
         try clear c15
         try clear c28
         try clear c28b0
         try clear c28b1
         try clear c33
         try clear c37
         try clear c38
         try clear c51
         try clear c55
         try clear c56
         try clear c63
         try clear c63b0
         try clear c63b1
         try clear c64
         try clear p64
         try clear c65
         try clear c66
         try clear c68
         try clear c71
         try clear c71b0
         try clear c71b1
         try clear c72
         try clear c72b0
         try clear c72b1
         try clear c73
         try clear c73b0
         try clear c73b1
         try clear hcz34_0
         try clear hcz34_1
         try clear hcz34_2
         try clear hcz34_3
         try clear hcz34_4
         try clear hcz34_5
         try clear hcz39_0
         try clear hcz39_1
         try clear hcz39_2
         try clear hcz39_3
         try clear hcz39_4
         try clear hcz39_5
         try clear hcz39_6
         try clear hcz44_0
         try clear hcz44_1
         try clear hcz44_2
         try clear hcz44_3
         try clear hcz44_4
         try clear hcz44_5
         try clear hcz44_6
         try clear hcz45_0
         try clear hcz45_1
         try clear hcz45_2
         try clear hcz45_3
         try clear hcz45_4
         try clear hcz45_5
         try clear hcz45_6
         try clear hcz52_0
         try clear hcz52_1
         try clear hcz52_2
         try clear hcz52_3
         try clear hcz52_4
         try clear hcz52_5
         try clear hcz57_0
         try clear hcz57_1
         try clear hcz57_2
         try clear hcz57_3
         try clear hcz57_4
         try clear hcz57_5
         try clear hcz57_6
         try clear hcz62_0
         try clear hcz62_1
         try clear hcz62_2
         try clear hcz62_3
         try clear hcz62_4
         try clear hcz62_5
         try clear hcz62_6
         try clear hcz67_0
         try clear hcz67_1
         try clear hcz67_2
         try clear hcz67_3
         try clear hcz67_4
         try clear hcz67_5
         try clear hcz67_6
         try clear hcz69_0
         try clear hcz69_1
         try clear hcz69_2
         try clear hcz69_3
         try clear hcz69_4
         try clear hcz69_5
         try clear hcz69_6
         try clear hfz34_0
         try clear hfz34_1
         try clear hfz34_2
         try clear hfz34_3
         try clear hfz34_4
         try clear hfz34_5
         try clear hfz39_0
         try clear hfz39_1
         try clear hfz39_2
         try clear hfz39_3
         try clear hfz39_4
         try clear hfz39_5
         try clear hfz39_6
         try clear hfz44_0
         try clear hfz44_1
         try clear hfz44_2
         try clear hfz44_3
         try clear hfz44_4
         try clear hfz44_5
         try clear hfz44_6
         try clear hfz45_0
         try clear hfz45_1
         try clear hfz45_2
         try clear hfz45_3
         try clear hfz45_4
         try clear hfz45_5
         try clear hfz45_6
         try clear hfz52_0
         try clear hfz52_1
         try clear hfz52_2
         try clear hfz52_3
         try clear hfz52_4
         try clear hfz52_5
         try clear hfz57_0
         try clear hfz57_1
         try clear hfz57_2
         try clear hfz57_3
         try clear hfz57_4
         try clear hfz57_5
         try clear hfz57_6
         try clear hfz62_0
         try clear hfz62_1
         try clear hfz62_2
         try clear hfz62_3
         try clear hfz62_4
         try clear hfz62_5
         try clear hfz62_6
         try clear hfz67_0
         try clear hfz67_1
         try clear hfz67_2
         try clear hfz67_3
         try clear hfz67_4
         try clear hfz67_5
         try clear hfz67_6
         try clear hfz69_0
         try clear hfz69_1
         try clear hfz69_2
         try clear hfz69_3
         try clear hfz69_4
         try clear hfz69_5
         try clear hfz69_6
         try clear hx140_0
         try clear p1
         try clear p14
         try clear p140
         try clear p2
         try clear p6
         try clear q1
         try clear q14
         try clear q140
         obtain ⟨kq, x67_69, rfl, HA, HJ69, BK135, BK136, BK141, HB⟩ := hcut
         cases kq with
         | zero => exact absurd HA.out (by simp [proofmarklaw08_Made.j1])
         | succ kj69 =>
          have H := HA.out
          clear HA
          simp only [proofmarklaw08_Made.j1] at H
          by_cases c74 : x67_69 = true
          ·subst c74
           have H1 : (some ((rd y137 (ji2)), 1, 0, 0, 0, 0, (wrap64 ((Int.tmod (wrap64 (a0_1)) 16) + 1)), (Go.bits .and .i64 (wrap64 (a0_2)) t142), (Go.bits .and .i64 (wrap64 (a0_3)) t142), 0, (wrap64 ((Int.tmod (wrap64 (a0_1)) 16) + 1)))) = some (r1, r2, r3, r4, r5, r6, r7, r8, r9, r10, r11) := by rw [if_pos rfl] at H; exact H
           clear H
           have H := H1
           clear H1
           simp only [Option.some.injEq, Prod.mk.injEq] at H
           obtain ⟨rfl, rfl, rfl, rfl, rfl, rfl, rfl, rfl, rfl, rfl, rfl⟩ := H
           have hnb75 := NB141_135.out
           have hnc75 := NB135_141.out
           have hnb76 := NB141_136.out
           have hnc76 := NB136_141.out
           have hcz77_0 : wc.cell? ⟨gb141, 0, none⟩ = some (.int .i64 (rd y137 (ji2))) := (blk_cell BK141.out 0).trans rfl
           have hcz77_1 : wc.cell? ⟨gb141, 1, none⟩ = some (.int .i64 (wrap64 ((Int.tmod (wrap64 (a0_1)) 16) + 1))) := (blk_cell BK141.out 1).trans rfl
           have hcz77_2 : wc.cell? ⟨gb141, 2, none⟩ = some (.int .i64 0) := (blk_cell BK141.out 2).trans rfl
           have hcz77_3 : wc.cell? ⟨gb141, 3, none⟩ = some (.int .i64 0) := (blk_cell BK141.out 3).trans rfl
           have hcz77_4 : wc.cell? ⟨gb141, 4, none⟩ = some (.int .i64 0) := (blk_cell BK141.out 4).trans rfl
           have hcz77_5 : wc.cell? ⟨gb141, 5, none⟩ = some (.int .i64 0) := (blk_cell BK141.out 5).trans rfl
           have hcz77_6 : wc.cell? ⟨gb141, 6, none⟩ = some (.int .i64 0) := (blk_cell BK141.out 6).trans rfl
           have hfz77_0 := blk_frozen BK141.out 0
           have hfz77_1 := blk_frozen BK141.out 1
           have hfz77_2 := blk_frozen BK141.out 2
           have hfz77_3 := blk_frozen BK141.out 3
           have hfz77_4 := blk_frozen BK141.out 4
           have hfz77_5 := blk_frozen BK141.out 5
           have hfz77_6 := blk_frozen BK141.out 6
           have hnb78 := NB136_135.out
           have hnc78 := NB135_136.out
           have hcz79_0 : wc.cell? ⟨gb136, 0, none⟩ = some (.int .i64 0) := (blk_cell BK136.out 0).trans rfl
           have hcz79_1 : wc.cell? ⟨gb136, 1, none⟩ = some (.int .i64 0) := (blk_cell BK136.out 1).trans rfl
           have hcz79_2 : wc.cell? ⟨gb136, 2, none⟩ = some (.int .i64 0) := (blk_cell BK136.out 2).trans rfl
           have hcz79_3 : wc.cell? ⟨gb136, 3, none⟩ = some (.int .i64 0) := (blk_cell BK136.out 3).trans rfl
           have hcz79_4 : wc.cell? ⟨gb136, 4, none⟩ = some (.int .i64 0) := (blk_cell BK136.out 4).trans rfl
           have hcz79_5 : wc.cell? ⟨gb136, 5, none⟩ = some (.int .i64 0) := (blk_cell BK136.out 5).trans rfl
           have hcz79_6 : wc.cell? ⟨gb136, 6, none⟩ = some (.int .i64 0) := (blk_cell BK136.out 6).trans rfl
           have hfz79_0 := blk_frozen BK136.out 0
           have hfz79_1 := blk_frozen BK136.out 1
           have hfz79_2 := blk_frozen BK136.out 2
           have hfz79_3 := blk_frozen BK136.out 3
           have hfz79_4 := blk_frozen BK136.out 4
           have hfz79_5 := blk_frozen BK136.out 5
           have hfz79_6 := blk_frozen BK136.out 6
           go_wp2
           refine bodyPost_ret (results_list (rs := [.cell 2 28, .tmp 3, .tmp 4, .tmp 5, .tmp 6]) rfl (by simp) (.cell gb136 28 #[.int .i64 (rd y137 (ji2)), .int .i64 1, .int .i64 0, .int .i64 0, .int .i64 0, .int .i64 0, .int .i64 (wrap64 ((Int.tmod (wrap64 (a0_1)) 16) + 1))] (0, 0) _ rfl (by (with_reducible repeat (first | refine blk_drewN ?_ _ | refine blk_drew ?_ | refine blk_alloc ?_ _)); refine blk_put (cs := #[.int .i64 (rd y137 (ji2)), .int .i64 1, .int .i64 0, .int .i64 0, .int .i64 0, .int .i64 0, .int .i64 0]) ?_ 6 _ rfl; (with_reducible repeat (first | refine blk_drewN ?_ _ | refine blk_drew ?_ | refine blk_alloc ?_ _)); refine blk_put (cs := #[.int .i64 (rd y137 (ji2)), .int .i64 1, .int .i64 0, .int .i64 0, .int .i64 0, .int .i64 0, .int .i64 0]) ?_ 5 _ rfl; (with_reducible repeat (first | refine blk_drewN ?_ _ | refine blk_drew ?_ | refine blk_alloc ?_ _)); refine blk_put (cs := #[.int .i64 (rd y137 (ji2)), .int .i64 1, .int .i64 0, .int .i64 0, .int .i64 0, .int .i64 0, .int .i64 0]) ?_ 4 _ rfl; (with_reducible repeat (first | refine blk_drewN ?_ _ | refine blk_drew ?_ | refine blk_alloc ?_ _)); refine blk_put (cs := #[.int .i64 (rd y137 (ji2)), .int .i64 1, .int .i64 0, .int .i64 0, .int .i64 0, .int .i64 0, .int .i64 0]) ?_ 3 _ rfl; (with_reducible repeat (first | refine blk_drewN ?_ _ | refine blk_drew ?_ | refine blk_alloc ?_ _)); refine blk_put (cs := #[.int .i64 (rd y137 (ji2)), .int .i64 1, .int .i64 0, .int .i64 0, .int .i64 0, .int .i64 0, .int .i64 0]) ?_ 2 _ rfl; (with_reducible repeat (first | refine blk_drewN ?_ _ | refine blk_drew ?_ | refine blk_alloc ?_ _)); refine blk_put (cs := #[.int .i64 (rd y137 (ji2)), .int .i64 0, .int .i64 0, .int .i64 0, .int .i64 0, .int .i64 0, .int .i64 0]) ?_ 1 _ rfl; (with_reducible repeat (first | refine blk_drewN ?_ _ | refine blk_drew ?_ | refine blk_alloc ?_ _)); refine blk_put (cs := #[.int .i64 0, .int .i64 0, .int .i64 0, .int .i64 0, .int .i64 0, .int .i64 0, .int .i64 0]) ?_ 0 _ rfl; (with_reducible repeat (first | refine blk_drewN ?_ _ | refine blk_drew ?_ | refine blk_alloc ?_ _)); refine blk_far ?_ NB136_141.out _; (with_reducible repeat (first | refine blk_drewN ?_ _ | refine blk_drew ?_ | refine blk_alloc ?_ _)); refine blk_far ?_ NB136_141.out _; (with_reducible repeat (first | refine blk_drewN ?_ _ | refine blk_drew ?_ | refine blk_alloc ?_ _)); exact BK136.out) Try.underlying28 rfl (by kernel_rfl) (.tmp (.tmp (.tmp (.tmp .nil)))))) rfl ?_
           exact ⟨by first | rfl | (simp [errW_none, errW_some] <;> rfl) | (simp only [← hji2]; first | rfl | (simp [errW_none, errW_some] <;> rfl)) | (simp [*, errW_none, errW_some] <;> rfl), by repeat (first | (with_reducible first | exact HB.out | apply below_alloc | apply pw_below_drewN | apply below_drew1 | refine below_set ?_ GE135.out | refine below_set ?_ GE136.out | refine below_set ?_ GE141.out) | exact HB.out)⟩
          ·replace c74 := Bool.eq_false_iff.mpr c74
           subst c74
           have H1 : (if (rd y137 (ji2)) = 16 then (some ((rd y137 (ji2)), (wrap64 ((Int.tmod (wrap64 (a0_1)) 16) + 1)), 0, 0, 0, 0, 0, Go.bits .and .i64 (wrap64 (a0_2)) 1, (Go.bits .and .i64 (wrap64 (a0_3)) t142), (Go.bits .and .i64 (wrap64 (a0_4)) t142), (wrap64 ((Int.tmod (wrap64 (a0_1)) 16) + 1)))) else (if (rd y137 (ji2)) = 17 then (if (wrap64 ((Int.tmod (wrap64 (a0_1)) 16) + 1)) = 0 then (none) else (if (wrap64 ((Int.tmod (wrap64 (a0_5)) (wrap64 ((Int.tmod (wrap64 (a0_1)) 16) + 1))) + 1)) = (wrap64 ((Int.tmod (wrap64 (a0_1)) 16) + 1)) then (proofmarklaw08_Made.j2 kj69 1 a0_0 a0_1 a0_2 a0_3 a0_4 a0_5 (rd y137 (ji2)) (mn (wrap64 ((wrap64 ((Int.tmod (wrap64 (a0_1)) 16) + 1)) + 1)) 16) 0 0 0 0 0) else (proofmarklaw08_Made.j2 kj69 (wrap64 ((Int.tmod (wrap64 (a0_5)) (wrap64 ((Int.tmod (wrap64 (a0_1)) 16) + 1))) + 1)) a0_0 a0_1 a0_2 a0_3 a0_4 a0_5 (rd y137 (ji2)) (wrap64 ((Int.tmod (wrap64 (a0_1)) 16) + 1)) 0 0 0 0 0))) else (if (rd y137 (ji2)) = 18 then (if (wrap64 ((Int.tmod (wrap64 (a0_1)) 16) + 1)) = 0 then (none) else (if (wrap64 ((wrap64 ((Int.tmod (wrap64 (a0_1)) 16) + 1)) - (Int.tmod (wrap64 (a0_5)) (wrap64 ((Int.tmod (wrap64 (a0_1)) 16) + 1))))) = 0 then (none) else (some ((rd y137 (ji2)), wrap64 ((wrap64 ((wrap64 ((Int.tmod (wrap64 (a0_5)) (wrap64 ((Int.tmod (wrap64 (a0_1)) 16) + 1))) + (Int.tmod (wrap64 (a0_4)) (wrap64 ((wrap64 ((Int.tmod (wrap64 (a0_1)) 16) + 1)) - (Int.tmod (wrap64 (a0_5)) (wrap64 ((Int.tmod (wrap64 (a0_1)) 16) + 1)))))))) - (Int.tmod (wrap64 (a0_5)) (wrap64 ((Int.tmod (wrap64 (a0_1)) 16) + 1))))) + 1), 0, 0, 0, wrap64 ((Int.tmod (wrap64 (a0_5)) (wrap64 ((Int.tmod (wrap64 (a0_1)) 16) + 1))) + (Int.tmod (wrap64 (a0_4)) (wrap64 ((wrap64 ((Int.tmod (wrap64 (a0_1)) 16) + 1)) - (Int.tmod (wrap64 (a0_5)) (wrap64 ((Int.tmod (wrap64 (a0_1)) 16) + 1))))))), Int.tmod (wrap64 (a0_5)) (wrap64 ((Int.tmod (wrap64 (a0_1)) 16) + 1)), (Go.bits .and .i64 (wrap64 (a0_2)) t142), 0, 0, 0)))) else (some ((rd y137 (ji2)), (wrap64 ((Int.tmod (wrap64 (a0_1)) 16) + 1)), 0, 0, 0, 0, 0, (Go.bits .and .i64 (wrap64 (a0_2)) t142), (Go.bits .and .i64 (wrap64 (a0_3)) t142), 0, (wrap64 ((Int.tmod (wrap64 (a0_1)) 16) + 1))))))) = some (r1, r2, r3, r4, r5, r6, r7, r8, r9, r10, r11) := by rw [if_neg (show ¬ (false = true) by decide)] at H; exact H
           clear H
           have H := H1
           clear H1
           by_cases c80 : (rd y137 (ji2)) = 16
           ·rw [if_pos c80] at H
            have c80b0 : ((rd y137 (ji2)) == 16) = true := beq_iff_eq.mpr c80
            have c80b1 : ((rd y137 (ji2)) != 16) = false := bne_eq_false_iff_eq.mpr c80
            clear c80
            simp only [Option.some.injEq, Prod.mk.injEq] at H
            obtain ⟨rfl, rfl, rfl, rfl, rfl, rfl, rfl, rfl, rfl, rfl, rfl⟩ := H
            try go_wp2
            have n0_ := Aside0.mk (blk_drew BK135.out)
            have n1_ := Aside0.mk (blk_drew BK136.out)
            have n2_ := Aside0.mk (blk_drew BK141.out)
            have n3_ := Aside0.mk (below_drew1 HB.out)
            clear BK135
            clear BK136
            clear BK141
            clear HB
            have BK135 := n0_
            have BK136 := n1_
            have BK141 := n2_
            have HB := n3_
            clear n0_ n1_ n2_ n3_
            refine start_ (n := 13) (S := fun w' => w'.cell? ⟨gb141, 0, none⟩ = some (.int .i64 (rd y137 (ji2))) ∧ w'.cell? ⟨gb141, 1, none⟩ = some (.int .i64 (wrap64 ((Int.tmod (wrap64 (a0_1)) 16) + 1))) ∧ w'.cell? ⟨gb141, 2, none⟩ = some (.int .i64 0) ∧ w'.cell? ⟨gb141, 3, none⟩ = some (.int .i64 0) ∧ w'.cell? ⟨gb141, 4, none⟩ = some (.int .i64 0) ∧ w'.cell? ⟨gb141, 5, none⟩ = some (.int .i64 0) ∧ w'.cell? ⟨gb141, 6, none⟩ = some (.int .i64 0) ∧ w'.cell? ⟨gb135, 0, none⟩ = some (.int .u8 a0_0) ∧ w'.cell? ⟨gb135, 1, none⟩ = some (.int .u8 a0_1) ∧ w'.cell? ⟨gb135, 2, none⟩ = some (.int .u32 a0_2) ∧ w'.cell? ⟨gb135, 3, none⟩ = some (.int .u32 a0_3) ∧ w'.cell? ⟨gb135, 4, none⟩ = some (.int .u32 a0_4) ∧ w'.cell? ⟨gb135, 5, none⟩ = some (.int .u8 a0_5)) (ds := []) #[false, false, false, false, false, false, false, false, false, false, false, false, false] (by kernel_rfl) rfl rfl ⟨(blk_cell BK141.out 0).trans rfl, (blk_cell BK141.out 1).trans rfl, (blk_cell BK141.out 2).trans rfl, (blk_cell BK141.out 3).trans rfl, (blk_cell BK141.out 4).trans rfl, (blk_cell BK141.out 5).trans rfl, (blk_cell BK141.out 6).trans rfl, (blk_cell BK135.out 0).trans rfl, (blk_cell BK135.out 1).trans rfl, (blk_cell BK135.out 2).trans rfl, (blk_cell BK135.out 3).trans rfl, (blk_cell BK135.out 4).trans rfl, (blk_cell BK135.out 5).trans rfl⟩ (fun hHeld => ?_); refine with_tabW proofmarklaw08_Made.tab26 proofmarklaw08_Made.bits26 (fun HT_ HW_ => ?_)
            generalize wc.drew = w81 at BK135 BK136 BK141 HB hHeld ⊢
            refine pure_ (i := 1) (N := some 82) (v := ?_) (a' := ?_) #[false, true, false, false, false, false, false, false, false, false, false, false, false] rfl rfl (any_of HT_.out (by kernel_rfl)) (fun _ _ _ h => h) (Or.inl ⟨by rfl, ?_⟩) ?_ ?_
            rotate_left
            ·intro w'
             go_simp
             with_reducible rfl
            rotate_left
            ·simp only [Act.put, List.setIfInBounds_toArray, List.set_cons_zero, List.set_cons_succ, i64_w, i32_w]
             rfl
            refine pure_ (i := 5) (N := some 86) (v := ?_) (a' := ?_) #[false, true, false, false, false, true, false, false, false, false, false, false, false] rfl rfl (any_of HT_.out (by kernel_rfl)) (fun _ _ _ h => h) (Or.inl ⟨by rfl, ?_⟩) ?_ ?_
            rotate_left
            ·intro w'
             go_simp
             with_reducible rfl
            rotate_left
            ·simp only [Act.put, List.setIfInBounds_toArray, List.set_cons_zero, List.set_cons_succ, i64_w, i32_w]
             rfl
            refine pure_ (i := 6) (N := some 87) (v := ?_) (a' := ?_) #[false, true, false, false, false, true, true, false, false, false, false, false, false] rfl rfl (any_of HT_.out (by kernel_rfl)) (fun _ _ _ h => h) (Or.inl ⟨by rfl, ?_⟩) ?_ ?_
            rotate_left
            ·intro w'
             go_simp
             with_reducible rfl
            rotate_left
            ·simp only [Act.put, List.setIfInBounds_toArray, List.set_cons_zero, List.set_cons_succ, i64_w, i32_w]
             rfl
            refine pure_ (i := 7) (N := some 88) (v := ?_) (a' := ?_) #[false, true, false, false, false, true, true, true, false, false, false, false, false] rfl rfl (any_of HT_.out (by kernel_rfl)) (fun _ _ _ h => h) (Or.inl ⟨by rfl, ?_⟩) ?_ ?_
            rotate_left
            ·intro w'
             go_simp
             with_reducible rfl
            rotate_left
            ·simp only [Act.put, List.setIfInBounds_toArray, List.set_cons_zero, List.set_cons_succ, i64_w, i32_w]
             rfl
            refine take_ (i := 0) (N := some 81) (v := ?_) (a' := ?_) #[true, true, false, false, false, true, true, true, false, false, false, false, false] rfl rfl (take_ofW HT_.out HW_.out (by kernel_rfl)) (fun _ _ _ h => h) (Or.inl ⟨by rfl, ?_⟩) hHeld ?_ ?_
            rotate_left
            ·rintro w' ⟨s0, s1, s2, s3, s4, s5, s6, s7, s8, s9, s10, s11, s12⟩
             go_simp
             with_reducible rfl
            rotate_left
            ·simp only [Act.put, List.setIfInBounds_toArray, List.set_cons_zero, List.set_cons_succ, i64_w, i32_w]
             rfl
            refine take_ (i := 2) (N := some 83) (v := ?_) (a' := ?_) #[true, true, true, false, false, true, true, true, false, false, false, false, false] rfl rfl (take_ofW HT_.out HW_.out (by kernel_rfl)) (fun _ _ _ h => h) (Or.inl ⟨by rfl, ?_⟩) hHeld ?_ ?_
            rotate_left
            ·rintro w' ⟨s0, s1, s2, s3, s4, s5, s6, s7, s8, s9, s10, s11, s12⟩
             go_simp
             with_reducible rfl
            rotate_left
            ·simp only [Act.put, List.setIfInBounds_toArray, List.set_cons_zero, List.set_cons_succ, i64_w, i32_w]
             rfl
            refine pure_ (i := 3) (N := some 84) (v := ?_) (a' := ?_) #[true, true, true, true, false, true, true, true, false, false, false, false, false] rfl rfl (any_of HT_.out (by kernel_rfl)) (fun _ _ _ h => h) (Or.inl ⟨by rfl, ?_⟩) ?_ ?_
            rotate_left
            ·intro w'
             go_simp
             with_reducible rfl
            rotate_left
            ·simp only [Act.put, List.setIfInBounds_toArray, List.set_cons_zero, List.set_cons_succ, i64_w, i32_w]
             rfl
            refine pure_ (i := 4) (N := some 85) (v := ?_) (a' := ?_) #[true, true, true, true, true, true, true, true, false, false, false, false, false] rfl rfl (any_of HT_.out (by kernel_rfl)) (fun _ _ _ h => h) (Or.inl ⟨by rfl, ?_⟩) ?_ ?_
            rotate_left
            ·intro w'
             go_simp
             with_reducible rfl
            rotate_left
            ·simp only [Act.put, List.setIfInBounds_toArray, List.set_cons_zero, List.set_cons_succ, i64_w, i32_w]
             rfl
            refine one_ (i := 8) (N := none) #[true, true, true, true, true, true, true, true, true, false, false, false, false] rfl rfl (one_of HT_.out (by kernel_rfl)) (by decide) (fun K hK => ?_)
            have hs82 : w81.cell? ⟨gb136, 0, none⟩ = some (.int .i64 0) := (blk_cell BK136.out 0).trans rfl
            have hfs82 := blk_frozen BK136.out 0
            have hns82_0 := NB135_136.out
            have hns82_2 := NB141_136.out
            have hms82_0 := NB136_135.out
            have hms82_2 := NB136_141.out
            have hs83 : w81.cell? ⟨gb136, 1, none⟩ = some (.int .i64 0) := (blk_cell BK136.out 1).trans rfl
            have hfs83 := blk_frozen BK136.out 1
            have hns83_0 := NB135_136.out
            have hns83_2 := NB141_136.out
            have hms83_0 := NB136_135.out
            have hms83_2 := NB136_141.out
            have hs84 : w81.cell? ⟨gb136, 2, none⟩ = some (.int .i64 0) := (blk_cell BK136.out 2).trans rfl
            have hfs84 := blk_frozen BK136.out 2
            have hns84_0 := NB135_136.out
            have hns84_2 := NB141_136.out
            have hms84_0 := NB136_135.out
            have hms84_2 := NB136_141.out
            have hs85 : w81.cell? ⟨gb136, 3, none⟩ = some (.int .i64 0) := (blk_cell BK136.out 3).trans rfl
            have hfs85 := blk_frozen BK136.out 3
            have hns85_0 := NB135_136.out
            have hns85_2 := NB141_136.out
            have hms85_0 := NB136_135.out
            have hms85_2 := NB136_141.out
            have hs86 : w81.cell? ⟨gb136, 4, none⟩ = some (.int .i64 0) := (blk_cell BK136.out 4).trans rfl
            have hfs86 := blk_frozen BK136.out 4
            have hns86_0 := NB135_136.out
            have hns86_2 := NB141_136.out
            have hms86_0 := NB136_135.out
            have hms86_2 := NB136_141.out
            have hs87 : w81.cell? ⟨gb136, 5, none⟩ = some (.int .i64 0) := (blk_cell BK136.out 5).trans rfl
            have hfs87 := blk_frozen BK136.out 5
            have hns87_0 := NB135_136.out
            have hns87_2 := NB141_136.out
            have hms87_0 := NB136_135.out
            have hms87_2 := NB136_141.out
            have hs88 : w81.cell? ⟨gb136, 6, none⟩ = some (.int .i64 0) := (blk_cell BK136.out 6).trans rfl
            have hfs88 := blk_frozen BK136.out 6
            have hns88_0 := NB135_136.out
            have hns88_2 := NB141_136.out
            have hms88_0 := NB136_135.out
            have hms88_2 := NB136_141.out
            refine skip_ (w1 := ?_) (by rfl) rfl ?_ ?_
            rotate_left
            ·go_simp
             rfl
            refine hK.out _ _ ⟨((cell_far (p := ⟨gb136, _, none⟩) NB141_136.out _).trans (((cell_far (p := ⟨gb136, _, none⟩) NB141_136.out _).trans (((cell_far (p := ⟨gb136, _, none⟩) NB141_136.out _).trans (((cell_far (p := ⟨gb136, _, none⟩) NB141_136.out _).trans (((cell_far (p := ⟨gb136, _, none⟩) NB141_136.out _).trans (((cell_far (p := ⟨gb136, _, none⟩) NB141_136.out _).trans (((cell_far (p := ⟨gb136, _, none⟩) NB141_136.out _).trans (hHeld.1)))))))))))))), ((cell_far (p := ⟨gb136, _, none⟩) NB141_136.out _).trans (((cell_far (p := ⟨gb136, _, none⟩) NB141_136.out _).trans (((cell_far (p := ⟨gb136, _, none⟩) NB141_136.out _).trans (((cell_far (p := ⟨gb136, _, none⟩) NB141_136.out _).trans (((cell_far (p := ⟨gb136, _, none⟩) NB141_136.out _).trans (((cell_far (p := ⟨gb136, _, none⟩) NB141_136.out _).trans (((cell_far (p := ⟨gb136, _, none⟩) NB141_136.out _).trans (hHeld.2.1)))))))))))))), ((cell_far (p := ⟨gb136, _, none⟩) NB141_136.out _).trans (((cell_far (p := ⟨gb136, _, none⟩) NB141_136.out _).trans (((cell_far (p := ⟨gb136, _, none⟩) NB141_136.out _).trans (((cell_far (p := ⟨gb136, _, none⟩) NB141_136.out _).trans (((cell_far (p := ⟨gb136, _, none⟩) NB141_136.out _).trans (((cell_far (p := ⟨gb136, _, none⟩) NB141_136.out _).trans (((cell_far (p := ⟨gb136, _, none⟩) NB141_136.out _).trans (hHeld.2.2.1)))))))))))))), ((cell_far (p := ⟨gb136, _, none⟩) NB141_136.out _).trans (((cell_far (p := ⟨gb136, _, none⟩) NB141_136.out _).trans (((cell_far (p := ⟨gb136, _, none⟩) NB141_136.out _).trans (((cell_far (p := ⟨gb136, _, none⟩) NB141_136.out _).trans (((cell_far (p := ⟨gb136, _, none⟩) NB141_136.out _).trans (((cell_far (p := ⟨gb136, _, none⟩) NB141_136.out _).trans (((cell_far (p := ⟨gb136, _, none⟩) NB141_136.out _).trans (hHeld.2.2.2.1)))))))))))))), ((cell_far (p := ⟨gb136, _, none⟩) NB141_136.out _).trans (((cell_far (p := ⟨gb136, _, none⟩) NB141_136.out _).trans (((cell_far (p := ⟨gb136, _, none⟩) NB141_136.out _).trans (((cell_far (p := ⟨gb136, _, none⟩) NB141_136.out _).trans (((cell_far (p := ⟨gb136, _, none⟩) NB141_136.out _).trans (((cell_far (p := ⟨gb136, _, none⟩) NB141_136.out _).trans (((cell_far (p := ⟨gb136, _, none⟩) NB141_136.out _).trans (hHeld.2.2.2.2.1)))))))))))))), ((cell_far (p := ⟨gb136, _, none⟩) NB141_136.out _).trans (((cell_far (p := ⟨gb136, _, none⟩) NB141_136.out _).trans (((cell_far (p := ⟨gb136, _, none⟩) NB141_136.out _).trans (((cell_far (p := ⟨gb136, _, none⟩) NB141_136.out _).trans (((cell_far (p := ⟨gb136, _, none⟩) NB141_136.out _).trans (((cell_far (p := ⟨gb136, _, none⟩) NB141_136.out _).trans (((cell_far (p := ⟨gb136, _, none⟩) NB141_136.out _).trans (hHeld.2.2.2.2.2.1)))))))))))))), ((cell_far (p := ⟨gb136, _, none⟩) NB141_136.out _).trans (((cell_far (p := ⟨gb136, _, none⟩) NB141_136.out _).trans (((cell_far (p := ⟨gb136, _, none⟩) NB141_136.out _).trans (((cell_far (p := ⟨gb136, _, none⟩) NB141_136.out _).trans (((cell_far (p := ⟨gb136, _, none⟩) NB141_136.out _).trans (((cell_far (p := ⟨gb136, _, none⟩) NB141_136.out _).trans (((cell_far (p := ⟨gb136, _, none⟩) NB141_136.out _).trans (hHeld.2.2.2.2.2.2.1)))))))))))))), ((cell_far (p := ⟨gb136, _, none⟩) NB135_136.out _).trans (((cell_far (p := ⟨gb136, _, none⟩) NB135_136.out _).trans (((cell_far (p := ⟨gb136, _, none⟩) NB135_136.out _).trans (((cell_far (p := ⟨gb136, _, none⟩) NB135_136.out _).trans (((cell_far (p := ⟨gb136, _, none⟩) NB135_136.out _).trans (((cell_far (p := ⟨gb136, _, none⟩) NB135_136.out _).trans (((cell_far (p := ⟨gb136, _, none⟩) NB135_136.out _).trans (hHeld.2.2.2.2.2.2.2.1)))))))))))))), ((cell_far (p := ⟨gb136, _, none⟩) NB135_136.out _).trans (((cell_far (p := ⟨gb136, _, none⟩) NB135_136.out _).trans (((cell_far (p := ⟨gb136, _, none⟩) NB135_136.out _).trans (((cell_far (p := ⟨gb136, _, none⟩) NB135_136.out _).trans (((cell_far (p := ⟨gb136, _, none⟩) NB135_136.out _).trans (((cell_far (p := ⟨gb136, _, none⟩) NB135_136.out _).trans (((cell_far (p := ⟨gb136, _, none⟩) NB135_136.out _).trans (hHeld.2.2.2.2.2.2.2.2.1)))))))))))))), ((cell_far (p := ⟨gb136, _, none⟩) NB135_136.out _).trans (((cell_far (p := ⟨gb136, _, none⟩) NB135_136.out _).trans (((cell_far (p := ⟨gb136, _, none⟩) NB135_136.out _).trans (((cell_far (p := ⟨gb136, _, none⟩) NB135_136.out _).trans (((cell_far (p := ⟨gb136, _, none⟩) NB135_136.out _).trans (((cell_far (p := ⟨gb136, _, none⟩) NB135_136.out _).trans (((cell_far (p := ⟨gb136, _, none⟩) NB135_136.out _).trans (hHeld.2.2.2.2.2.2.2.2.2.1)))))))))))))), ((cell_far (p := ⟨gb136, _, none⟩) NB135_136.out _).trans (((cell_far (p := ⟨gb136, _, none⟩) NB135_136.out _).trans (((cell_far (p := ⟨gb136, _, none⟩) NB135_136.out _).trans (((cell_far (p := ⟨gb136, _, none⟩) NB135_136.out _).trans (((cell_far (p := ⟨gb136, _, none⟩) NB135_136.out _).trans (((cell_far (p := ⟨gb136, _, none⟩) NB135_136.out _).trans (((cell_far (p := ⟨gb136, _, none⟩) NB135_136.out _).trans (hHeld.2.2.2.2.2.2.2.2.2.2.1)))))))))))))), ((cell_far (p := ⟨gb136, _, none⟩) NB135_136.out _).trans (((cell_far (p := ⟨gb136, _, none⟩) NB135_136.out _).trans (((cell_far (p := ⟨gb136, _, none⟩) NB135_136.out _).trans (((cell_far (p := ⟨gb136, _, none⟩) NB135_136.out _).trans (((cell_far (p := ⟨gb136, _, none⟩) NB135_136.out _).trans (((cell_far (p := ⟨gb136, _, none⟩) NB135_136.out _).trans (((cell_far (p := ⟨gb136, _, none⟩) NB135_136.out _).trans (hHeld.2.2.2.2.2.2.2.2.2.2.2.1)))))))))))))), ((cell_far (p := ⟨gb136, _, none⟩) NB135_136.out _).trans (((cell_far (p := ⟨gb136, _, none⟩) NB135_136.out _).trans (((cell_far (p := ⟨gb136, _, none⟩) NB135_136.out _).trans (((cell_far (p := ⟨gb136, _, none⟩) NB135_136.out _).trans (((cell_far (p := ⟨gb136, _, none⟩) NB135_136.out _).trans (((cell_far (p := ⟨gb136, _, none⟩) NB135_136.out _).trans (((cell_far (p := ⟨gb136, _, none⟩) NB135_136.out _).trans (hHeld.2.2.2.2.2.2.2.2.2.2.2.2))))))))))))))⟩ (fun hHeld => ?_)
            clear hK K
            refine pure_ (i := 9) (N := some 3) (v := ?_) (a' := ?_) #[true, true, true, true, true, true, true, true, true, true, false, false, false] rfl rfl (any_of HT_.out (by kernel_rfl)) (fun _ _ _ h => h) (Or.inl ⟨by rfl, ?_⟩) ?_ ?_
            rotate_left
            ·intro w'
             go_simp
             with_reducible rfl
            rotate_left
            ·simp only [Act.put, List.setIfInBounds_toArray, List.set_cons_zero, List.set_cons_succ, i64_w, i32_w]
             rfl
            refine pure_ (i := 10) (N := some 4) (v := ?_) (a' := ?_) #[true, true, true, true, true, true, true, true, true, true, true, false, false] rfl rfl (any_of HT_.out (by kernel_rfl)) (fun _ _ _ h => h) (Or.inl ⟨by rfl, ?_⟩) ?_ ?_
            rotate_left
            ·intro w'
             go_simp
             with_reducible rfl
            rotate_left
            ·simp only [Act.put, List.setIfInBounds_toArray, List.set_cons_zero, List.set_cons_succ, i64_w, i32_w]
             rfl
            refine pure_ (i := 11) (N := some 5) (v := ?_) (a' := ?_) #[true, true, true, true, true, true, true, true, true, true, true, true, false] rfl rfl (any_of HT_.out (by kernel_rfl)) (fun _ _ _ h => h) (Or.inl ⟨by rfl, ?_⟩) ?_ ?_
            rotate_left
            ·intro w'
             go_simp
             with_reducible rfl
            rotate_left
            ·simp only [Act.put, List.setIfInBounds_toArray, List.set_cons_zero, List.set_cons_succ, i64_w, i32_w]
             rfl
            refine pure_ (i := 12) (N := some 6) (v := ?_) (a' := ?_) #[true, true, true, true, true, true, true, true, true, true, true, true, true] rfl rfl (any_of HT_.out (by kernel_rfl)) (fun _ _ _ h => h) (Or.inl ⟨by rfl, ?_⟩) ?_ ?_
            rotate_left
            ·intro w'
             go_simp
             with_reducible rfl
            rotate_left
            ·simp only [Act.put, List.setIfInBounds_toArray, List.set_cons_zero, List.set_cons_succ, i64_w, i32_w]
             rfl
            refine done_ (done_of HT_.out (by kernel_rfl)) ?_
            try go_wp2
            refine bodyPost_ret (results_list (rs := [.cell 2 28, .tmp 3, .tmp 4, .tmp 5, .tmp 6]) rfl (by simp) (.cell gb136 28 #[.int .i64 (rd y137 (ji2)), .int .i64 (wrap64 ((Int.tmod (wrap64 (a0_1)) 16) + 1)), .int .i64 0, .int .i64 0, .int .i64 0, .int .i64 0, .int .i64 0] (0, 0) _ rfl (by (with_reducible repeat (first | refine blk_drewN ?_ _ | refine blk_drew ?_ | refine blk_alloc ?_ _)); refine blk_put (cs := #[.int .i64 (rd y137 (ji2)), .int .i64 (wrap64 ((Int.tmod (wrap64 (a0_1)) 16) + 1)), .int .i64 0, .int .i64 0, .int .i64 0, .int .i64 0, .int .i64 0]) ?_ 6 _ rfl; (with_reducible repeat (first | refine blk_drewN ?_ _ | refine blk_drew ?_ | refine blk_alloc ?_ _)); refine blk_put (cs := #[.int .i64 (rd y137 (ji2)), .int .i64 (wrap64 ((Int.tmod (wrap64 (a0_1)) 16) + 1)), .int .i64 0, .int .i64 0, .int .i64 0, .int .i64 0, .int .i64 0]) ?_ 5 _ rfl; (with_reducible repeat (first | refine blk_drewN ?_ _ | refine blk_drew ?_ | refine blk_alloc ?_ _)); refine blk_put (cs := #[.int .i64 (rd y137 (ji2)), .int .i64 (wrap64 ((Int.tmod (wrap64 (a0_1)) 16) + 1)), .int .i64 0, .int .i64 0, .int .i64 0, .int .i64 0, .int .i64 0]) ?_ 4 _ rfl; (with_reducible repeat (first | refine blk_drewN ?_ _ | refine blk_drew ?_ | refine blk_alloc ?_ _)); refine blk_put (cs := #[.int .i64 (rd y137 (ji2)), .int .i64 (wrap64 ((Int.tmod (wrap64 (a0_1)) 16) + 1)), .int .i64 0, .int .i64 0, .int .i64 0, .int .i64 0, .int .i64 0]) ?_ 3 _ rfl; (with_reducible repeat (first | refine blk_drewN ?_ _ | refine blk_drew ?_ | refine blk_alloc ?_ _)); refine blk_put (cs := #[.int .i64 (rd y137 (ji2)), .int .i64 (wrap64 ((Int.tmod (wrap64 (a0_1)) 16) + 1)), .int .i64 0, .int .i64 0, .int .i64 0, .int .i64 0, .int .i64 0]) ?_ 2 _ rfl; (with_reducible repeat (first | refine blk_drewN ?_ _ | refine blk_drew ?_ | refine blk_alloc ?_ _)); refine blk_put (cs := #[.int .i64 (rd y137 (ji2)), .int .i64 0, .int .i64 0, .int .i64 0, .int .i64 0, .int .i64 0, .int .i64 0]) ?_ 1 _ rfl; (with_reducible repeat (first | refine blk_drewN ?_ _ | refine blk_drew ?_ | refine blk_alloc ?_ _)); refine blk_put (cs := #[.int .i64 0, .int .i64 0, .int .i64 0, .int .i64 0, .int .i64 0, .int .i64 0, .int .i64 0]) ?_ 0 _ rfl; (with_reducible repeat (first | refine blk_drewN ?_ _ | refine blk_drew ?_ | refine blk_alloc ?_ _)); exact BK136.out) Try.underlying28 rfl (by kernel_rfl) (.tmp (.tmp (.tmp (.tmp .nil)))))) rfl ?_
            exact ⟨by first | rfl | (simp [errW_none, errW_some] <;> rfl) | (simp only [← hji2]; first | rfl | (simp [errW_none, errW_some] <;> rfl)) | (simp [*, errW_none, errW_some] <;> rfl), by repeat (first | (with_reducible first | exact HB.out | apply below_alloc | apply pw_below_drewN | apply below_drew1 | refine below_set ?_ GE135.out | refine below_set ?_ GE136.out | refine below_set ?_ GE141.out) | exact HB.out)⟩
           ·rw [if_neg c80] at H
            have c80b0 : ((rd y137 (ji2)) == 16) = false := beq_eq_false_iff_ne.mpr c80
            have c80b1 : ((rd y137 (ji2)) != 16) = true := bne_iff_ne.mpr c80
            by_cases c89 : (rd y137 (ji2)) = 17
            ·rw [if_pos c89] at H
             have c89b0 : ((rd y137 (ji2)) == 17) = true := beq_iff_eq.mpr c89
             have c89b1 : ((rd y137 (ji2)) != 17) = false := bne_eq_false_iff_eq.mpr c89
             clear c89
             by_cases c90 : (wrap64 ((Int.tmod (wrap64 (a0_1)) 16) + 1)) = 0
             ·rw [if_pos c90] at H
              exact absurd H (by simp)
             ·rw [if_neg c90] at H
              have c90b0 : ((wrap64 ((Int.tmod (wrap64 (a0_1)) 16) + 1)) == 0) = false := beq_eq_false_iff_ne.mpr c90
              have c90b1 : ((wrap64 ((Int.tmod (wrap64 (a0_1)) 16) + 1)) != 0) = true := bne_iff_ne.mpr c90
              have HC91 := Aside0.mk H
              clear H
              have hnb92 := NB135_136.out
              have hnc92 := NB136_135.out
              have hnb93 := NB135_141.out
              have hnc93 := NB141_135.out
              have hcz94_0 : wc.cell? ⟨gb135, 0, none⟩ = some (.int .u8 a0_0) := (blk_cell BK135.out 0).trans rfl
              have hcz94_1 : wc.cell? ⟨gb135, 1, none⟩ = some (.int .u8 a0_1) := (blk_cell BK135.out 1).trans rfl
              have hcz94_2 : wc.cell? ⟨gb135, 2, none⟩ = some (.int .u32 a0_2) := (blk_cell BK135.out 2).trans rfl
              have hcz94_3 : wc.cell? ⟨gb135, 3, none⟩ = some (.int .u32 a0_3) := (blk_cell BK135.out 3).trans rfl
              have hcz94_4 : wc.cell? ⟨gb135, 4, none⟩ = some (.int .u32 a0_4) := (blk_cell BK135.out 4).trans rfl
              have hcz94_5 : wc.cell? ⟨gb135, 5, none⟩ = some (.int .u8 a0_5) := (blk_cell BK135.out 5).trans rfl
              have hfz94_0 := blk_frozen BK135.out 0
              have hfz94_1 := blk_frozen BK135.out 1
              have hfz94_2 := blk_frozen BK135.out 2
              have hfz94_3 := blk_frozen BK135.out 3
              have hfz94_4 := blk_frozen BK135.out 4
              have hfz94_5 := blk_frozen BK135.out 5
              go_upto_if 99 with (fail)
              go_cut [13] (fun v13 wc => ∃ (kq : Nat) (x13_90 : Int) (x142001_90 : Int), v13 = .int .i64 x13_90 ∧ Aside0 (proofmarklaw08_Made.j2 kq x13_90 a0_0 a0_1 a0_2 a0_3 a0_4 a0_5 (rd y137 (ji2)) x142001_90 0 0 0 0 0 = some (r1, r2, r3, r4, r5, r6, r7, r8, r9, r10, r11)) ∧ Aside0 (kq ≤ kj69) ∧ Aside0 (wc.heap[gb135]? = some (.cells #[.int .u8 a0_0, .int .u8 a0_1, .int .u32 a0_2, .int .u32 a0_3, .int .u32 a0_4, .int .u8 a0_5] 24 (0, 0))) ∧ Aside0 (wc.heap[gb136]? = some (.cells #[.int .i64 0, .int .i64 0, .int .i64 0, .int .i64 0, .int .i64 0, .int .i64 0, .int .i64 0] 28 (0, 0))) ∧ Aside0 (wc.heap[gb141]? = some (.cells #[.int .i64 (rd y137 (ji2)), .int .i64 x142001_90, .int .i64 0, .int .i64 0, .int .i64 0, .int .i64 0, .int .i64 0] 28 (0, 0))) ∧ Aside0 (Below w.heap.size w wc))
              case first =>
               have H := HC91.out
               clear HC91
               by_cases c95 : (wrap64 ((Int.tmod (wrap64 (a0_5)) (wrap64 ((Int.tmod (wrap64 (a0_1)) 16) + 1))) + 1)) = (wrap64 ((Int.tmod (wrap64 (a0_1)) 16) + 1))
               ·rw [if_pos c95] at H
                have c95b0 : ((wrap64 ((Int.tmod (wrap64 (a0_5)) (wrap64 ((Int.tmod (wrap64 (a0_1)) 16) + 1))) + 1)) == (wrap64 ((Int.tmod (wrap64 (a0_1)) 16) + 1))) = true := beq_iff_eq.mpr c95
                have c95b1 : ((wrap64 ((Int.tmod (wrap64 (a0_5)) (wrap64 ((Int.tmod (wrap64 (a0_1)) 16) + 1))) + 1)) != (wrap64 ((Int.tmod (wrap64 (a0_1)) 16) + 1))) = false := bne_eq_false_iff_eq.mpr c95
                clear c95
                (first | rw [c95b0] | (simp only [i64_w, i32_w]; rw [c95b0]) | skip)
                obtain ⟨ji96, hji96⟩ : ∃ j_ : Int, (mn (wrap64 ((wrap64 ((Int.tmod (wrap64 (a0_1)) 16) + 1)) + 1)) 16) = j_ := ⟨_, rfl⟩
                replace H : (proofmarklaw08_Made.j2 kj69 1 a0_0 a0_1 a0_2 a0_3 a0_4 a0_5 (rd y137 (ji2)) ji96 0 0 0 0 0) = some (r1, r2, r3, r4, r5, r6, r7, r8, r9, r10, r11) := by first | (rw [hji96] at H; exact H) | (simp only [hji96] at H ⊢; exact H)
                have hji96_ : (if 16 < (wrap64 ((wrap64 ((Int.tmod (wrap64 (a0_1)) 16) + 1)) + 1)) then 16 else (wrap64 ((wrap64 ((Int.tmod (wrap64 (a0_1)) 16) + 1)) + 1))) = ji96 := hji96
                have H' := Aside0.mk H
                clear H
                have hnb97 := NB141_135.out
                have hnc97 := NB135_141.out
                have hnb98 := NB141_136.out
                have hnc98 := NB136_141.out
                have hcz99_0 : wc.cell? ⟨gb141, 0, none⟩ = some (.int .i64 (rd y137 (ji2))) := (blk_cell BK141.out 0).trans rfl
                have hcz99_1 : wc.cell? ⟨gb141, 1, none⟩ = some (.int .i64 (wrap64 ((Int.tmod (wrap64 (a0_1)) 16) + 1))) := (blk_cell BK141.out 1).trans rfl
                have hcz99_2 : wc.cell? ⟨gb141, 2, none⟩ = some (.int .i64 0) := (blk_cell BK141.out 2).trans rfl
                have hcz99_3 : wc.cell? ⟨gb141, 3, none⟩ = some (.int .i64 0) := (blk_cell BK141.out 3).trans rfl
                have hcz99_4 : wc.cell? ⟨gb141, 4, none⟩ = some (.int .i64 0) := (blk_cell BK141.out 4).trans rfl
                have hcz99_5 : wc.cell? ⟨gb141, 5, none⟩ = some (.int .i64 0) := (blk_cell BK141.out 5).trans rfl
                have hcz99_6 : wc.cell? ⟨gb141, 6, none⟩ = some (.int .i64 0) := (blk_cell BK141.out 6).trans rfl
                have hfz99_0 := blk_frozen BK141.out 0
                have hfz99_1 := blk_frozen BK141.out 1
                have hfz99_2 := blk_frozen BK141.out 2
                have hfz99_3 := blk_frozen BK141.out 3
                have hfz99_4 := blk_frozen BK141.out 4
                have hfz99_5 := blk_frozen BK141.out 5
                have hfz99_6 := blk_frozen BK141.out 6
                go_wp2
                go_meet
                case rel => exact ⟨_, (1), (ji96), (by first | rfl | (simp; done) | (simp [*]; done)), H', ⟨by have := HJ45.out; have := HJ69.out; first | omega | exact Nat.le_refl _⟩, ⟨by (with_reducible repeat (first | refine blk_drewN ?_ _ | refine blk_drew ?_ | refine blk_alloc ?_ _)); refine blk_far ?_ NB135_141.out _; (with_reducible repeat (first | refine blk_drewN ?_ _ | refine blk_drew ?_ | refine blk_alloc ?_ _)); exact BK135.out⟩, ⟨by (with_reducible repeat (first | refine blk_drewN ?_ _ | refine blk_drew ?_ | refine blk_alloc ?_ _)); refine blk_far ?_ NB136_141.out _; (with_reducible repeat (first | refine blk_drewN ?_ _ | refine blk_drew ?_ | refine blk_alloc ?_ _)); exact BK136.out⟩, ⟨by (with_reducible repeat (first | refine blk_drewN ?_ _ | refine blk_drew ?_ | refine blk_alloc ?_ _)); refine blk_put (cs := #[.int .i64 (rd y137 (ji2)), .int .i64 (wrap64 ((Int.tmod (wrap64 (a0_1)) 16) + 1)), .int .i64 0, .int .i64 0, .int .i64 0, .int .i64 0, .int .i64 0]) ?_ 1 _ rfl; (with_reducible repeat (first | refine blk_drewN ?_ _ | refine blk_drew ?_ | refine blk_alloc ?_ _)); exact BK141.out⟩, ⟨by repeat (first | (with_reducible first | exact HB.out | apply below_alloc | apply pw_below_drewN | apply below_drew1 | refine below_set ?_ GE135.out | refine below_set ?_ GE136.out | refine below_set ?_ GE141.out) | exact HB.out)⟩⟩
               ·rw [if_neg c95] at H
                have c95b0 : ((wrap64 ((Int.tmod (wrap64 (a0_5)) (wrap64 ((Int.tmod (wrap64 (a0_1)) 16) + 1))) + 1)) == (wrap64 ((Int.tmod (wrap64 (a0_1)) 16) + 1))) = false := beq_eq_false_iff_ne.mpr c95
                have c95b1 : ((wrap64 ((Int.tmod (wrap64 (a0_5)) (wrap64 ((Int.tmod (wrap64 (a0_1)) 16) + 1))) + 1)) != (wrap64 ((Int.tmod (wrap64 (a0_1)) 16) + 1))) = true := bne_iff_ne.mpr c95
                (first | rw [c95b0] | (simp only [i64_w, i32_w]; rw [c95b0]) | skip)
                have H' := Aside0.mk H
                clear H
                go_wp2
                go_meet
                case rel => exact ⟨_, (wrap64 ((Int.tmod (wrap64 (a0_5)) (wrap64 ((Int.tmod (wrap64 (a0_1)) 16) + 1))) + 1)), ((wrap64 ((Int.tmod (wrap64 (a0_1)) 16) + 1))), (by first | rfl | (simp; done) | (simp [*]; done)), H', ⟨by have := HJ45.out; have := HJ69.out; first | omega | exact Nat.le_refl _⟩, ⟨by (with_reducible repeat (first | refine blk_drewN ?_ _ | refine blk_drew ?_ | refine blk_alloc ?_ _)); exact BK135.out⟩, ⟨by (with_reducible repeat (first | refine blk_drewN ?_ _ | refine blk_drew ?_ | refine blk_alloc ?_ _)); exact BK136.out⟩, ⟨by (with_reducible repeat (first | refine blk_drewN ?_ _ | refine blk_drew ?_ | refine blk_alloc ?_ _)); exact BK141.out⟩, ⟨by repeat (first | (with_reducible first | exact HB.out | apply below_alloc | apply pw_below_drewN | apply below_drew1 | refine below_set ?_ GE135.out | refine below_set ?_ GE136.out | refine below_set ?_ GE141.out) | exact HB.out)⟩⟩
              case rest =>
               clear HC91
               try clear c1
               try clear p1
               try clear q1
               try clear hx1
               try clear c2
               try clear p2
               try clear c3
               try clear c5
               try clear c6
               try clear p6
               try clear c7
               try clear c8
               try clear c9
               try clear c11
               try clear p14
               try clear q14
               try clear hx14
               try clear c15
               try clear c28
               try clear c28b0
               try clear c28b1
               try clear c33
               try clear c37
               try clear c38
               try clear c51
               try clear c55
               try clear c56
               try clear c63
               try clear c63b0
               try clear c63b1
               try clear c64
               try clear p64
               try clear c65
               try clear c66
               try clear c68
               try clear c71
               try clear c71b0
               try clear c71b1
               try clear c72
               try clear c72b0
               try clear c72b1
               try clear c73
               try clear c73b0
               try clear c73b1
               try clear c74
               try clear c75
               try clear c76
               try clear c78
               try clear c80
               try clear c80b0
               try clear c80b1
               try clear c89
               try clear c89b0
               try clear c89b1
               try clear c90
               try clear c90b0
               try clear c90b1
               try clear c92
               try clear c93
               try clear c95
               try clear c95b0
               try clear c95b1
               try clear c97
               try clear c98
               try clear hcz34_0
               try clear hcz34_1
               try clear hcz34_2
               try clear hcz34_3
               try clear hcz34_4
               try clear hcz34_5
               try clear hcz39_0
               try clear hcz39_1
               try clear hcz39_2
               try clear hcz39_3
               try clear hcz39_4
               try clear hcz39_5
               try clear hcz39_6
               try clear hcz44_0
               try clear hcz44_1
               try clear hcz44_2
               try clear hcz44_3
               try clear hcz44_4
               try clear hcz44_5
               try clear hcz44_6
               try clear hcz45_0
               try clear hcz45_1
               try clear hcz45_2
               try clear hcz45_3
               try clear hcz45_4
               try clear hcz45_5
               try clear hcz45_6
               try clear hcz52_0
               try clear hcz52_1
               try clear hcz52_2
               try clear hcz52_3
               try clear hcz52_4
               try clear hcz52_5
               try clear hcz57_0
               try clear hcz57_1
               try clear hcz57_2
               try clear hcz57_3
               try clear hcz57_4
               try clear hcz57_5
               try clear hcz57_6
               try clear hcz62_0
               try clear hcz62_1
               try clear hcz62_2
               try clear hcz62_3
               try clear hcz62_4
               try clear hcz62_5
               try clear hcz62_6
               try clear hcz67_0
               try clear hcz67_1
               try clear hcz67_2
               try clear hcz67_3
               try clear hcz67_4
               try clear hcz67_5
               try clear hcz67_6
               try clear hcz69_0
               try clear hcz69_1
               try clear hcz69_2
               try clear hcz69_3
               try clear hcz69_4
               try clear hcz69_5
               try clear hcz69_6
               try clear hcz77_0
               try clear hcz77_1
               try clear hcz77_2
               try clear hcz77_3
               try clear hcz77_4
               try clear hcz77_5
               try clear hcz77_6
               try clear hcz79_0
               try clear hcz79_1
               try clear hcz79_2
               try clear hcz79_3
               try clear hcz79_4
               try clear hcz79_5
               try clear hcz79_6
               try clear hcz94_0
               try clear hcz94_1
               try clear hcz94_2
               try clear hcz94_3
               try clear hcz94_4
               try clear hcz94_5
               try clear hcz99_0
               try clear hcz99_1
               try clear hcz99_2
               try clear hcz99_3
               try clear hcz99_4
               try clear hcz99_5
               try clear hcz99_6
               try clear hfz34_0
               try clear hfz34_1
               try clear hfz34_2
               try clear hfz34_3
               try clear hfz34_4
               try clear hfz34_5
               try clear hfz39_0
               try clear hfz39_1
               try clear hfz39_2
               try clear hfz39_3
               try clear hfz39_4
               try clear hfz39_5
               try clear hfz39_6
               try clear hfz44_0
               try clear hfz44_1
               try clear hfz44_2
               try clear hfz44_3
               try clear hfz44_4
               try clear hfz44_5
               try clear hfz44_6
               try clear hfz45_0
               try clear hfz45_1
               try clear hfz45_2
               try clear hfz45_3
               try clear hfz45_4
               try clear hfz45_5
               try clear hfz45_6
               try clear hfz52_0
               try clear hfz52_1
               try clear hfz52_2
               try clear hfz52_3
               try clear hfz52_4
               try clear hfz52_5
               try clear hfz57_0
               try clear hfz57_1
               try clear hfz57_2
               try clear hfz57_3
               try clear hfz57_4
               try clear hfz57_5
               try clear hfz57_6
               try clear hfz62_0
               try clear hfz62_1
               try clear hfz62_2
               try clear hfz62_3
               try clear hfz62_4
               try clear hfz62_5
               try clear hfz62_6
               try clear hfz67_0
               try clear hfz67_1
               try clear hfz67_2
               try clear hfz67_3
               try clear hfz67_4
               try clear hfz67_5
               try clear hfz67_6
               try clear hfz69_0
               try clear hfz69_1
               try clear hfz69_2
               try clear hfz69_3
               try clear hfz69_4
               try clear hfz69_5
               try clear hfz69_6
               try clear hfz77_0
               try clear hfz77_1
               try clear hfz77_2
               try clear hfz77_3
               try clear hfz77_4
               try clear hfz77_5
               try clear hfz77_6
               try clear hfz79_0
               try clear hfz79_1
               try clear hfz79_2
               try clear hfz79_3
               try clear hfz79_4
               try clear hfz79_5
               try clear hfz79_6
               try clear hfz94_0
               try clear hfz94_1
               try clear hfz94_2
               try clear hfz94_3
               try clear hfz94_4
               try clear hfz94_5
               try clear hfz99_0
               try clear hfz99_1
               try clear hfz99_2
               try clear hfz99_3
               try clear hfz99_4
               try clear hfz99_5
               try clear hfz99_6
               try clear hx140_0
               try clear p1
               try clear p14
               try clear p140
               try clear p2
               try clear p6
               try clear p64
               try clear q1
               try clear q14
               try clear q140
               obtain ⟨kq, x13_90, x142001_90, rfl, HA, HJ90, BK135, BK136, BK141, HB⟩ := hcut
               cases kq with
               | zero => exact absurd HA.out (by simp [proofmarklaw08_Made.j2])
               | succ kj90 =>
                have H := HA.out
                clear HA
                simp only [proofmarklaw08_Made.j2] at H
                replace H := Option.bind_eq_some_iff.mp H
                obtain ⟨t143, A1000, H⟩ := H
                replace H : ((proofmarkref08_Mask.f x13_90).bind fun t144 => (some ((rd y137 (ji2)), x142001_90, 0, 0, 0, 0, 0, Go.bits .and .i64 (wrap64 (a0_2)) t143, Go.bits .and .i64 (wrap64 (a0_3)) t144, 0, x13_90))) = some (r1, r2, r3, r4, r5, r6, r7, r8, r9, r10, r11) := H
                have A100 := Aside0.mk A1000
                clear A1000
                replace H := Option.bind_eq_some_iff.mp H
                obtain ⟨t144, A1010, H⟩ := H
                replace H : (some ((rd y137 (ji2)), x142001_90, 0, 0, 0, 0, 0, Go.bits .and .i64 (wrap64 (a0_2)) t143, Go.bits .and .i64 (wrap64 (a0_3)) t144, 0, x13_90)) = some (r1, r2, r3, r4, r5, r6, r7, r8, r9, r10, r11) := H
                have A101 := Aside0.mk A1010
                clear A1010
                simp only [Option.some.injEq, Prod.mk.injEq] at H
                obtain ⟨rfl, rfl, rfl, rfl, rfl, rfl, rfl, rfl, rfl, rfl, rfl⟩ := H
                try go_wp2
                have n0_ := Aside0.mk (blk_drew BK135.out)
                have n1_ := Aside0.mk (blk_drew BK136.out)
                have n2_ := Aside0.mk (blk_drew BK141.out)
                have n3_ := Aside0.mk (below_drew1 HB.out)
                clear BK135
                clear BK136
                clear BK141
                clear HB
                have BK135 := n0_
                have BK136 := n1_
                have BK141 := n2_
                have HB := n3_
                clear n0_ n1_ n2_ n3_
                refine start_ (n := 22) (S := fun w' => w'.cell? ⟨gb141, 0, none⟩ = some (.int .i64 (rd y137 (ji2))) ∧ w'.cell? ⟨gb141, 1, none⟩ = some (.int .i64 x142001_90) ∧ w'.cell? ⟨gb141, 2, none⟩ = some (.int .i64 0) ∧ w'.cell? ⟨gb141, 3, none⟩ = some (.int .i64 0) ∧ w'.cell? ⟨gb141, 4, none⟩ = some (.int .i64 0) ∧ w'.cell? ⟨gb141, 5, none⟩ = some (.int .i64 0) ∧ w'.cell? ⟨gb141, 6, none⟩ = some (.int .i64 0) ∧ w'.cell? ⟨gb135, 0, none⟩ = some (.int .u8 a0_0) ∧ w'.cell? ⟨gb135, 1, none⟩ = some (.int .u8 a0_1) ∧ w'.cell? ⟨gb135, 2, none⟩ = some (.int .u32 a0_2) ∧ w'.cell? ⟨gb135, 3, none⟩ = some (.int .u32 a0_3) ∧ w'.cell? ⟨gb135, 4, none⟩ = some (.int .u32 a0_4) ∧ w'.cell? ⟨gb135, 5, none⟩ = some (.int .u8 a0_5)) (ds := []) #[false, false, false, false, false, false, false, false, false, false, false, false, false, false, false, false, false, false, false, false, false, false] (by kernel_rfl) rfl rfl ⟨(blk_cell BK141.out 0).trans rfl, (blk_cell BK141.out 1).trans rfl, (blk_cell BK141.out 2).trans rfl, (blk_cell BK141.out 3).trans rfl, (blk_cell BK141.out 4).trans rfl, (blk_cell BK141.out 5).trans rfl, (blk_cell BK141.out 6).trans rfl, (blk_cell BK135.out 0).trans rfl, (blk_cell BK135.out 1).trans rfl, (blk_cell BK135.out 2).trans rfl, (blk_cell BK135.out 3).trans rfl, (blk_cell BK135.out 4).trans rfl, (blk_cell BK135.out 5).trans rfl⟩ (fun hHeld => ?_); refine with_tabW proofmarklaw08_Made.tab32 proofmarklaw08_Made.bits32 (fun HT_ HW_ => ?_)
                generalize wc.drew = w102 at BK135 BK136 BK141 HB hHeld ⊢
                refine pure_ (i := 1) (N := some 105) (v := ?_) (a' := ?_) #[false, true, false, false, false, false, false, false, false, false, false, false, false, false, false, false, false, false, false, false, false, false] rfl rfl (any_of HT_.out (by kernel_rfl)) (fun _ _ _ h => h) (Or.inl ⟨by rfl, ?_⟩) ?_ ?_
                rotate_left
                ·intro w'
                 go_simp
                 with_reducible rfl
                rotate_left
                ·simp only [Act.put, List.setIfInBounds_toArray, List.set_cons_zero, List.set_cons_succ, i64_w, i32_w]
                 rfl
                refine pure_ (i := 4) (N := some 108) (v := ?_) (a' := ?_) #[false, true, false, false, true, false, false, false, false, false, false, false, false, false, false, false, false, false, false, false, false, false] rfl rfl (any_of HT_.out (by kernel_rfl)) (fun _ _ _ h => h) (Or.inl ⟨by rfl, ?_⟩) ?_ ?_
                rotate_left
                ·intro w'
                 go_simp
                 with_reducible rfl
                rotate_left
                ·simp only [Act.put, List.setIfInBounds_toArray, List.set_cons_zero, List.set_cons_succ, i64_w, i32_w]
                 rfl
                refine pure_ (i := 6) (N := some 110) (v := ?_) (a' := ?_) #[false, true, false, false, true, false, true, false, false, false, false, false, false, false, false, false, false, false, false, false, false, false] rfl rfl (any_of HT_.out (by kernel_rfl)) (fun _ _ _ h => h) (Or.inl ⟨by rfl, ?_⟩) ?_ ?_
                rotate_left
                ·intro w'
                 go_simp
                 with_reducible rfl
                rotate_left
                ·simp only [Act.put, List.setIfInBounds_toArray, List.set_cons_zero, List.set_cons_succ, i64_w, i32_w]
                 rfl
                refine pure_ (i := 10) (N := some 114) (v := ?_) (a' := ?_) #[false, true, false, false, true, false, true, false, false, false, true, false, false, false, false, false, false, false, false, false, false, false] rfl rfl (any_of HT_.out (by kernel_rfl)) (fun _ _ _ h => h) (Or.inl ⟨by rfl, ?_⟩) ?_ ?_
                rotate_left
                ·intro w'
                 go_simp
                 with_reducible rfl
                rotate_left
                ·simp only [Act.put, List.setIfInBounds_toArray, List.set_cons_zero, List.set_cons_succ, i64_w, i32_w]
                 rfl
                refine pure_ (i := 13) (N := some 117) (v := ?_) (a' := ?_) #[false, true, false, false, true, false, true, false, false, false, true, false, false, true, false, false, false, false, false, false, false, false] rfl rfl (any_of HT_.out (by kernel_rfl)) (fun _ _ _ h => h) (Or.inl ⟨by rfl, ?_⟩) ?_ ?_
                rotate_left
                ·intro w'
                 go_simp
                 with_reducible rfl
                rotate_left
                ·simp only [Act.put, List.setIfInBounds_toArray, List.set_cons_zero, List.set_cons_succ, i64_w, i32_w]
                 rfl
                refine pure_ (i := 16) (N := some 120) (v := ?_) (a' := ?_) #[false, true, false, false, true, false, true, false, false, false, true, false, false, true, false, false, true, false, false, false, false, false] rfl rfl (any_of HT_.out (by kernel_rfl)) (fun _ _ _ h => h) (Or.inl ⟨by rfl, ?_⟩) ?_ ?_
                rotate_left
                ·intro w'
                 go_simp
                 with_reducible rfl
                rotate_left
                ·simp only [Act.put, List.setIfInBounds_toArray, List.set_cons_zero, List.set_cons_succ, i64_w, i32_w]
                 rfl
                refine take_ (i := 0) (N := some 104) (v := ?_) (a' := ?_) #[true, true, false, false, true, false, true, false, false, false, true, false, false, true, false, false, true, false, false, false, false, false] rfl rfl (take_ofW HT_.out HW_.out (by kernel_rfl)) (fun _ _ _ h => h) (Or.inl ⟨by rfl, ?_⟩) hHeld ?_ ?_
                rotate_left
                ·rintro w' ⟨s0, s1, s2, s3, s4, s5, s6, s7, s8, s9, s10, s11, s12⟩
                 go_simp
                 with_reducible rfl
                rotate_left
                ·simp only [Act.put, List.setIfInBounds_toArray, List.set_cons_zero, List.set_cons_succ, i64_w, i32_w]
                 rfl
                refine take_ (i := 2) (N := some 106) (v := ?_) (a' := ?_) #[true, true, true, false, true, false, true, false, false, false, true, false, false, true, false, false, true, false, false, false, false, false] rfl rfl (take_ofW HT_.out HW_.out (by kernel_rfl)) (fun _ _ _ h => h) (Or.inl ⟨by rfl, ?_⟩) hHeld ?_ ?_
                rotate_left
                ·rintro w' ⟨s0, s1, s2, s3, s4, s5, s6, s7, s8, s9, s10, s11, s12⟩
                 go_simp
                 with_reducible rfl
                rotate_left
                ·simp only [Act.put, List.setIfInBounds_toArray, List.set_cons_zero, List.set_cons_succ, i64_w, i32_w]
                 rfl
                refine pure_ (i := 3) (N := some 107) (v := ?_) (a' := ?_) #[true, true, true, true, true, false, true, false, false, false, true, false, false, true, false, false, true, false, false, false, false, false] rfl rfl (any_of HT_.out (by kernel_rfl)) (fun _ _ _ h => h) (Or.inl ⟨by rfl, ?_⟩) ?_ ?_
                rotate_left
                ·intro w'
                 go_simp
                 with_reducible rfl
                rotate_left
                ·simp only [Act.put, List.setIfInBounds_toArray, List.set_cons_zero, List.set_cons_succ, i64_w, i32_w]
                 rfl
                refine take_ (i := 5) (N := some 109) (v := ?_) (a' := ?_) #[true, true, true, true, true, true, true, false, false, false, true, false, false, true, false, false, true, false, false, false, false, false] rfl rfl (take_ofW HT_.out HW_.out (by kernel_rfl)) (fun _ _ _ h => h) (Or.inl ⟨by rfl, ?_⟩) hHeld ?_ ?_
                rotate_left
                ·rintro w' ⟨s0, s1, s2, s3, s4, s5, s6, s7, s8, s9, s10, s11, s12⟩
                 go_simp
                 with_reducible rfl
                rotate_left
                ·simp only [Act.put, List.setIfInBounds_toArray, List.set_cons_zero, List.set_cons_succ, i64_w, i32_w]
                 rfl
                refine pure_ (i := 7) (N := some 111) (v := ?_) (a' := ?_) #[true, true, true, true, true, true, true, true, false, false, true, false, false, true, false, false, true, false, false, false, false, false] rfl rfl (any_of HT_.out (by kernel_rfl)) (fun _ _ _ h => h) (Or.inl ⟨by rfl, ?_⟩) ?_ ?_
                rotate_left
                ·intro w'
                 go_simp
                 with_reducible rfl
                rotate_left
                ·simp only [Act.put, List.setIfInBounds_toArray, List.set_cons_zero, List.set_cons_succ, i64_w, i32_w]
                 rfl
                refine take_ (i := 11) (N := some 115) (v := ?_) (a' := ?_) #[true, true, true, true, true, true, true, true, false, false, true, true, false, true, false, false, true, false, false, false, false, false] rfl rfl (take_ofW HT_.out HW_.out (by kernel_rfl)) (fun _ _ _ h => h) (Or.inl ⟨by rfl, ?_⟩) hHeld ?_ ?_
                rotate_left
                ·rintro w' ⟨s0, s1, s2, s3, s4, s5, s6, s7, s8, s9, s10, s11, s12⟩
                 go_simp
                 with_reducible rfl
                rotate_left
                ·simp only [Act.put, List.setIfInBounds_toArray, List.set_cons_zero, List.set_cons_succ, i64_w, i32_w]
                 rfl
                refine pure_ (i := 12) (N := some 116) (v := ?_) (a' := ?_) #[true, true, true, true, true, true, true, true, false, false, true, true, true, true, false, false, true, false, false, false, false, false] rfl rfl (any_of HT_.out (by kernel_rfl)) (fun _ _ _ h => h) (Or.inl ⟨by rfl, ?_⟩) ?_ ?_
                rotate_left
                ·intro w'
                 go_simp
                 with_reducible rfl
                rotate_left
                ·simp only [Act.put, List.setIfInBounds_toArray, List.set_cons_zero, List.set_cons_succ, i64_w, i32_w]
                 rfl
                refine one_ (i := 8) (N := some 112) #[true, true, true, true, true, true, true, true, true, false, true, true, true, true, false, false, true, false, false, false, false, false] rfl rfl (one_of HT_.out (by kernel_rfl)) (by decide) (fun K hK => ?_)
                refine goes_ Try.func15 (by kernel_rfl) rfl #[.int .i64 (wrap64 (x142001_90 - x13_90))] (by rfl) rfl rfl (by (try simp only [List.map_toArray, List.map_cons, List.map_nil]); first | done | rfl | (simp only [List.length_drop, List.length_take]; rfl)) ?_
                with_reducible refine (proofmarkref08_Mask.calls (wrap64 (x142001_90 - x13_90)) t143 _ A100.out).mono ?_
                rintro e w' ⟨rfl, ⟨nd, rfl⟩⟩
                refine ⟨_, rfl, ?_⟩
                refine hK.out _ _ ⟨(blk_cell BK141.out 0).trans rfl, (blk_cell BK141.out 1).trans rfl, (blk_cell BK141.out 2).trans rfl, (blk_cell BK141.out 3).trans rfl, (blk_cell BK141.out 4).trans rfl, (blk_cell BK141.out 5).trans rfl, (blk_cell BK141.out 6).trans rfl, (blk_cell BK135.out 0).trans rfl, (blk_cell BK135.out 1).trans rfl, (blk_cell BK135.out 2).trans rfl, (blk_cell BK135.out 3).trans rfl, (blk_cell BK135.out 4).trans rfl, (blk_cell BK135.out 5).trans rfl⟩ (fun hHeld => ?_)
                clear hK K
                refine norm_ (a' := ?_) ?_ ?_
                rotate_left
                ·show Act.put _ (some 112) _ = _
                 simp only [Act.put, List.setIfInBounds_toArray, List.set_cons_zero, List.set_cons_succ, i64_w, i32_w]
                 rfl
                refine pure_ (i := 9) (N := some 113) (v := ?_) (a' := ?_) #[true, true, true, true, true, true, true, true, true, true, true, true, true, true, false, false, true, false, false, false, false, false] rfl rfl (any_of HT_.out (by kernel_rfl)) (fun _ _ _ h => h) (Or.inl ⟨by rfl, ?_⟩) ?_ ?_
                rotate_left
                ·intro w'
                 go_simp
                 with_reducible rfl
                rotate_left
                ·simp only [Act.put, List.setIfInBounds_toArray, List.set_cons_zero, List.set_cons_succ, i64_w, i32_w]
                 rfl
                refine one_ (i := 14) (N := some 118) #[true, true, true, true, true, true, true, true, true, true, true, true, true, true, true, false, true, false, false, false, false, false] rfl rfl (one_of HT_.out (by kernel_rfl)) (by decide) (fun K hK => ?_)
                refine goes_ Try.func15 (by kernel_rfl) rfl #[.int .i64 x13_90] (by rfl) rfl rfl (by (try simp only [List.map_toArray, List.map_cons, List.map_nil]); first | done | rfl | (simp only [List.length_drop, List.length_take]; rfl)) ?_
                with_reducible refine (proofmarkref08_Mask.calls x13_90 t144 _ A101.out).mono ?_
                rintro e w' ⟨rfl, ⟨nd, rfl⟩⟩
                refine ⟨_, rfl, ?_⟩
                refine hK.out _ _ ⟨(blk_cell BK141.out 0).trans rfl, (blk_cell BK141.out 1).trans rfl, (blk_cell BK141.out 2).trans rfl, (blk_cell BK141.out 3).trans rfl, (blk_cell BK141.out 4).trans rfl, (blk_cell BK141.out 5).trans rfl, (blk_cell BK141.out 6).trans rfl, (blk_cell BK135.out 0).trans rfl, (blk_cell BK135.out 1).trans rfl, (blk_cell BK135.out 2).trans rfl, (blk_cell BK135.out 3).trans rfl, (blk_cell BK135.out 4).trans rfl, (blk_cell BK135.out 5).trans rfl⟩ (fun hHeld => ?_)
                clear hK K
                refine norm_ (a' := ?_) ?_ ?_
                rotate_left
                ·show Act.put _ (some 118) _ = _
                 simp only [Act.put, List.setIfInBounds_toArray, List.set_cons_zero, List.set_cons_succ, i64_w, i32_w]
                 rfl
                refine pure_ (i := 15) (N := some 119) (v := ?_) (a' := ?_) #[true, true, true, true, true, true, true, true, true, true, true, true, true, true, true, true, true, false, false, false, false, false] rfl rfl (any_of HT_.out (by kernel_rfl)) (fun _ _ _ h => h) (Or.inl ⟨by rfl, ?_⟩) ?_ ?_
                rotate_left
                ·intro w'
                 go_simp
                 with_reducible rfl
                rotate_left
                ·simp only [Act.put, List.setIfInBounds_toArray, List.set_cons_zero, List.set_cons_succ, i64_w, i32_w]
                 rfl
                refine one_ (i := 17) (N := none) #[true, true, true, true, true, true, true, true, true, true, true, true, true, true, true, true, true, true, false, false, false, false] rfl rfl (one_of HT_.out (by kernel_rfl)) (by decide) (fun K hK => ?_)
                have hs103 : w102.cell? ⟨gb136, 0, none⟩ = some (.int .i64 0) := (blk_cell BK136.out 0).trans rfl
                have hfs103 := blk_frozen BK136.out 0
                have hns103_0 := NB135_136.out
                have hns103_2 := NB141_136.out
                have hms103_0 := NB136_135.out
                have hms103_2 := NB136_141.out
                have hs104 : w102.cell? ⟨gb136, 1, none⟩ = some (.int .i64 0) := (blk_cell BK136.out 1).trans rfl
                have hfs104 := blk_frozen BK136.out 1
                have hns104_0 := NB135_136.out
                have hns104_2 := NB141_136.out
                have hms104_0 := NB136_135.out
                have hms104_2 := NB136_141.out
                have hs105 : w102.cell? ⟨gb136, 2, none⟩ = some (.int .i64 0) := (blk_cell BK136.out 2).trans rfl
                have hfs105 := blk_frozen BK136.out 2
                have hns105_0 := NB135_136.out
                have hns105_2 := NB141_136.out
                have hms105_0 := NB136_135.out
                have hms105_2 := NB136_141.out
                have hs106 : w102.cell? ⟨gb136, 3, none⟩ = some (.int .i64 0) := (blk_cell BK136.out 3).trans rfl
                have hfs106 := blk_frozen BK136.out 3
                have hns106_0 := NB135_136.out
                have hns106_2 := NB141_136.out
                have hms106_0 := NB136_135.out
                have hms106_2 := NB136_141.out
                have hs107 : w102.cell? ⟨gb136, 4, none⟩ = some (.int .i64 0) := (blk_cell BK136.out 4).trans rfl
                have hfs107 := blk_frozen BK136.out 4
                have hns107_0 := NB135_136.out
                have hns107_2 := NB141_136.out
                have hms107_0 := NB136_135.out
                have hms107_2 := NB136_141.out
                have hs108 : w102.cell? ⟨gb136, 5, none⟩ = some (.int .i64 0) := (blk_cell BK136.out 5).trans rfl
                have hfs108 := blk_frozen BK136.out 5
                have hns108_0 := NB135_136.out
                have hns108_2 := NB141_136.out
                have hms108_0 := NB136_135.out
                have hms108_2 := NB136_141.out
                have hs109 : w102.cell? ⟨gb136, 6, none⟩ = some (.int .i64 0) := (blk_cell BK136.out 6).trans rfl
                have hfs109 := blk_frozen BK136.out 6
                have hns109_0 := NB135_136.out
                have hns109_2 := NB141_136.out
                have hms109_0 := NB136_135.out
                have hms109_2 := NB136_141.out
                refine skip_ (w1 := ?_) (by rfl) rfl ?_ ?_
                rotate_left
                ·go_simp
                 rfl
                refine hK.out _ _ ⟨((cell_far (p := ⟨gb136, _, none⟩) NB141_136.out _).trans (((cell_far (p := ⟨gb136, _, none⟩) NB141_136.out _).trans (((cell_far (p := ⟨gb136, _, none⟩) NB141_136.out _).trans (((cell_far (p := ⟨gb136, _, none⟩) NB141_136.out _).trans (((cell_far (p := ⟨gb136, _, none⟩) NB141_136.out _).trans (((cell_far (p := ⟨gb136, _, none⟩) NB141_136.out _).trans (((cell_far (p := ⟨gb136, _, none⟩) NB141_136.out _).trans (hHeld.1)))))))))))))), ((cell_far (p := ⟨gb136, _, none⟩) NB141_136.out _).trans (((cell_far (p := ⟨gb136, _, none⟩) NB141_136.out _).trans (((cell_far (p := ⟨gb136, _, none⟩) NB141_136.out _).trans (((cell_far (p := ⟨gb136, _, none⟩) NB141_136.out _).trans (((cell_far (p := ⟨gb136, _, none⟩) NB141_136.out _).trans (((cell_far (p := ⟨gb136, _, none⟩) NB141_136.out _).trans (((cell_far (p := ⟨gb136, _, none⟩) NB141_136.out _).trans (hHeld.2.1)))))))))))))), ((cell_far (p := ⟨gb136, _, none⟩) NB141_136.out _).trans (((cell_far (p := ⟨gb136, _, none⟩) NB141_136.out _).trans (((cell_far (p := ⟨gb136, _, none⟩) NB141_136.out _).trans (((cell_far (p := ⟨gb136, _, none⟩) NB141_136.out _).trans (((cell_far (p := ⟨gb136, _, none⟩) NB141_136.out _).trans (((cell_far (p := ⟨gb136, _, none⟩) NB141_136.out _).trans (((cell_far (p := ⟨gb136, _, none⟩) NB141_136.out _).trans (hHeld.2.2.1)))))))))))))), ((cell_far (p := ⟨gb136, _, none⟩) NB141_136.out _).trans (((cell_far (p := ⟨gb136, _, none⟩) NB141_136.out _).trans (((cell_far (p := ⟨gb136, _, none⟩) NB141_136.out _).trans (((cell_far (p := ⟨gb136, _, none⟩) NB141_136.out _).trans (((cell_far (p := ⟨gb136, _, none⟩) NB141_136.out _).trans (((cell_far (p := ⟨gb136, _, none⟩) NB141_136.out _).trans (((cell_far (p := ⟨gb136, _, none⟩) NB141_136.out _).trans (hHeld.2.2.2.1)))))))))))))), ((cell_far (p := ⟨gb136, _, none⟩) NB141_136.out _).trans (((cell_far (p := ⟨gb136, _, none⟩) NB141_136.out _).trans (((cell_far (p := ⟨gb136, _, none⟩) NB141_136.out _).trans (((cell_far (p := ⟨gb136, _, none⟩) NB141_136.out _).trans (((cell_far (p := ⟨gb136, _, none⟩) NB141_136.out _).trans (((cell_far (p := ⟨gb136, _, none⟩) NB141_136.out _).trans (((cell_far (p := ⟨gb136, _, none⟩) NB141_136.out _).trans (hHeld.2.2.2.2.1)))))))))))))), ((cell_far (p := ⟨gb136, _, none⟩) NB141_136.out _).trans (((cell_far (p := ⟨gb136, _, none⟩) NB141_136.out _).trans (((cell_far (p := ⟨gb136, _, none⟩) NB141_136.out _).trans (((cell_far (p := ⟨gb136, _, none⟩) NB141_136.out _).trans (((cell_far (p := ⟨gb136, _, none⟩) NB141_136.out _).trans (((cell_far (p := ⟨gb136, _, none⟩) NB141_136.out _).trans (((cell_far (p := ⟨gb136, _, none⟩) NB141_136.out _).trans (hHeld.2.2.2.2.2.1)))))))))))))), ((cell_far (p := ⟨gb136, _, none⟩) NB141_136.out _).trans (((cell_far (p := ⟨gb136, _, none⟩) NB141_136.out _).trans (((cell_far (p := ⟨gb136, _, none⟩) NB141_136.out _).trans (((cell_far (p := ⟨gb136, _, none⟩) NB141_136.out _).trans (((cell_far (p := ⟨gb136, _, none⟩) NB141_136.out _).trans (((cell_far (p := ⟨gb136, _, none⟩) NB141_136.out _).trans (((cell_far (p := ⟨gb136, _, none⟩) NB141_136.out _).trans (hHeld.2.2.2.2.2.2.1)))))))))))))), ((cell_far (p := ⟨gb136, _, none⟩) NB135_136.out _).trans (((cell_far (p := ⟨gb136, _, none⟩) NB135_136.out _).trans (((cell_far (p := ⟨gb136, _, none⟩) NB135_136.out _).trans (((cell_far (p := ⟨gb136, _, none⟩) NB135_136.out _).trans (((cell_far (p := ⟨gb136, _, none⟩) NB135_136.out _).trans (((cell_far (p := ⟨gb136, _, none⟩) NB135_136.out _).trans (((cell_far (p := ⟨gb136, _, none⟩) NB135_136.out _).trans (hHeld.2.2.2.2.2.2.2.1)))))))))))))), ((cell_far (p := ⟨gb136, _, none⟩) NB135_136.out _).trans (((cell_far (p := ⟨gb136, _, none⟩) NB135_136.out _).trans (((cell_far (p := ⟨gb136, _, none⟩) NB135_136.out _).trans (((cell_far (p := ⟨gb136, _, none⟩) NB135_136.out _).trans (((cell_far (p := ⟨gb136, _, none⟩) NB135_136.out _).trans (((cell_far (p := ⟨gb136, _, none⟩) NB135_136.out _).trans (((cell_far (p := ⟨gb136, _, none⟩) NB135_136.out _).trans (hHeld.2.2.2.2.2.2.2.2.1)))))))))))))), ((cell_far (p := ⟨gb136, _, none⟩) NB135_136.out _).trans (((cell_far (p := ⟨gb136, _, none⟩) NB135_136.out _).trans (((cell_far (p := ⟨gb136, _, none⟩) NB135_136.out _).trans (((cell_far (p := ⟨gb136, _, none⟩) NB135_136.out _).trans (((cell_far (p := ⟨gb136, _, none⟩) NB135_136.out _).trans (((cell_far (p := ⟨gb136, _, none⟩) NB135_136.out _).trans (((cell_far (p := ⟨gb136, _, none⟩) NB135_136.out _).trans (hHeld.2.2.2.2.2.2.2.2.2.1)))))))))))))), ((cell_far (p := ⟨gb136, _, none⟩) NB135_136.out _).trans (((cell_far (p := ⟨gb136, _, none⟩) NB135_136.out _).trans (((cell_far (p := ⟨gb136, _, none⟩) NB135_136.out _).trans (((cell_far (p := ⟨gb136, _, none⟩) NB135_136.out _).trans (((cell_far (p := ⟨gb136, _, none⟩) NB135_136.out _).trans (((cell_far (p := ⟨gb136, _, none⟩) NB135_136.out _).trans (((cell_far (p := ⟨gb136, _, none⟩) NB135_136.out _).trans (hHeld.2.2.2.2.2.2.2.2.2.2.1)))))))))))))), ((cell_far (p := ⟨gb136, _, none⟩) NB135_136.out _).trans (((cell_far (p := ⟨gb136, _, none⟩) NB135_136.out _).trans (((cell_far (p := ⟨gb136, _, none⟩) NB135_136.out _).trans (((cell_far (p := ⟨gb136, _, none⟩) NB135_136.out _).trans (((cell_far (p := ⟨gb136, _, none⟩) NB135_136.out _).trans (((cell_far (p := ⟨gb136, _, none⟩) NB135_136.out _).trans (((cell_far (p := ⟨gb136, _, none⟩) NB135_136.out _).trans (hHeld.2.2.2.2.2.2.2.2.2.2.2.1)))))))))))))), ((cell_far (p := ⟨gb136, _, none⟩) NB135_136.out _).trans (((cell_far (p := ⟨gb136, _, none⟩) NB135_136.out _).trans (((cell_far (p := ⟨gb136, _, none⟩) NB135_136.out _).trans (((cell_far (p := ⟨gb136, _, none⟩) NB135_136.out _).trans (((cell_far (p := ⟨gb136, _, none⟩) NB135_136.out _).trans (((cell_far (p := ⟨gb136, _, none⟩) NB135_136.out _).trans (((cell_far (p := ⟨gb136, _, none⟩) NB135_136.out _).trans (hHeld.2.2.2.2.2.2.2.2.2.2.2.2))))))))))))))⟩ (fun hHeld => ?_)
                clear hK K
                refine pure_ (i := 18) (N := some 3) (v := ?_) (a' := ?_) #[true, true, true, true, true, true, true, true, true, true, true, true, true, true, true, true, true, true, true, false, false, false] rfl rfl (any_of HT_.out (by kernel_rfl)) (fun _ _ _ h => h) (Or.inl ⟨by rfl, ?_⟩) ?_ ?_
                rotate_left
                ·intro w'
                 go_simp
                 with_reducible rfl
                rotate_left
                ·simp only [Act.put, List.setIfInBounds_toArray, List.set_cons_zero, List.set_cons_succ, i64_w, i32_w]
                 rfl
                refine pure_ (i := 19) (N := some 4) (v := ?_) (a' := ?_) #[true, true, true, true, true, true, true, true, true, true, true, true, true, true, true, true, true, true, true, true, false, false] rfl rfl (any_of HT_.out (by kernel_rfl)) (fun _ _ _ h => h) (Or.inl ⟨by rfl, ?_⟩) ?_ ?_
                rotate_left
                ·intro w'
                 go_simp
                 with_reducible rfl
                rotate_left
                ·simp only [Act.put, List.setIfInBounds_toArray, List.set_cons_zero, List.set_cons_succ, i64_w, i32_w]
                 rfl
                refine pure_ (i := 20) (N := some 5) (v := ?_) (a' := ?_) #[true, true, true, true, true, true, true, true, true, true, true, true, true, true, true, true, true, true, true, true, true, false] rfl rfl (any_of HT_.out (by kernel_rfl)) (fun _ _ _ h => h) (Or.inl ⟨by rfl, ?_⟩) ?_ ?_
                rotate_left
                ·intro w'
                 go_simp
                 with_reducible rfl
                rotate_left
                ·simp only [Act.put, List.setIfInBounds_toArray, List.set_cons_zero, List.set_cons_succ, i64_w, i32_w]
                 rfl
                refine pure_ (i := 21) (N := some 6) (v := ?_) (a' := ?_) #[true, true, true, true, true, true, true, true, true, true, true, true, true, true, true, true, true, true, true, true, true, true] rfl rfl (any_of HT_.out (by kernel_rfl)) (fun _ _ _ h => h) (Or.inl ⟨by rfl, ?_⟩) ?_ ?_
                rotate_left
                ·intro w'
                 go_simp
                 with_reducible rfl
                rotate_left
                ·simp only [Act.put, List.setIfInBounds_toArray, List.set_cons_zero, List.set_cons_succ, i64_w, i32_w]
                 rfl
                refine done_ (done_of HT_.out (by kernel_rfl)) ?_
                try go_wp2
                refine bodyPost_ret (results_list (rs := [.cell 2 28, .tmp 3, .tmp 4, .tmp 5, .tmp 6]) rfl (by simp) (.cell gb136 28 #[.int .i64 (rd y137 (ji2)), .int .i64 x142001_90, .int .i64 0, .int .i64 0, .int .i64 0, .int .i64 0, .int .i64 0] (0, 0) _ rfl (by (with_reducible repeat (first | refine blk_drewN ?_ _ | refine blk_drew ?_ | refine blk_alloc ?_ _)); refine blk_put (cs := #[.int .i64 (rd y137 (ji2)), .int .i64 x142001_90, .int .i64 0, .int .i64 0, .int .i64 0, .int .i64 0, .int .i64 0]) ?_ 6 _ rfl; (with_reducible repeat (first | refine blk_drewN ?_ _ | refine blk_drew ?_ | refine blk_alloc ?_ _)); refine blk_put (cs := #[.int .i64 (rd y137 (ji2)), .int .i64 x142001_90, .int .i64 0, .int .i64 0, .int .i64 0, .int .i64 0, .int .i64 0]) ?_ 5 _ rfl; (with_reducible repeat (first | refine blk_drewN ?_ _ | refine blk_drew ?_ | refine blk_alloc ?_ _)); refine blk_put (cs := #[.int .i64 (rd y137 (ji2)), .int .i64 x142001_90, .int .i64 0, .int .i64 0, .int .i64 0, .int .i64 0, .int .i64 0]) ?_ 4 _ rfl; (with_reducible repeat (first | refine blk_drewN ?_ _ | refine blk_drew ?_ | refine blk_alloc ?_ _)); refine blk_put (cs := #[.int .i64 (rd y137 (ji2)), .int .i64 x142001_90, .int .i64 0, .int .i64 0, .int .i64 0, .int .i64 0, .int .i64 0]) ?_ 3 _ rfl; (with_reducible repeat (first | refine blk_drewN ?_ _ | refine blk_drew ?_ | refine blk_alloc ?_ _)); refine blk_put (cs := #[.int .i64 (rd y137 (ji2)), .int .i64 x142001_90, .int .i64 0, .int .i64 0, .int .i64 0, .int .i64 0, .int .i64 0]) ?_ 2 _ rfl; (with_reducible repeat (first | refine blk_drewN ?_ _ | refine blk_drew ?_ | refine blk_alloc ?_ _)); refine blk_put (cs := #[.int .i64 (rd y137 (ji2)), .int .i64 0, .int .i64 0, .int .i64 0, .int .i64 0, .int .i64 0, .int .i64 0]) ?_ 1 _ rfl; (with_reducible repeat (first | refine blk_drewN ?_ _ | refine blk_drew ?_ | refine blk_alloc ?_ _)); refine blk_put (cs := #[.int .i64 0, .int .i64 0, .int .i64 0, .int .i64 0, .int .i64 0, .int .i64 0, .int .i64 0]) ?_ 0 _ rfl; (with_reducible repeat (first | refine blk_drewN ?_ _ | refine blk_drew ?_ | refine blk_alloc ?_ _)); exact BK136.out) Try.underlying28 rfl (by kernel_rfl) (.tmp (.tmp (.tmp (.tmp .nil)))))) rfl ?_
                exact ⟨by first | rfl | (simp [errW_none, errW_some] <;> rfl) | (simp only [← hji2]; first | rfl | (simp [errW_none, errW_some] <;> rfl)) | (simp [*, errW_none, errW_some] <;> rfl), by repeat (first | (with_reducible first | exact HB.out | apply below_alloc | apply pw_below_drewN | apply below_drew1 | refine below_set ?_ GE135.out | refine below_set ?_ GE136.out | refine below_set ?_ GE141.out) | exact HB.out)⟩
            ·rw [if_neg c89] at H
             have c89b0 : ((rd y137 (ji2)) == 17) = false := beq_eq_false_iff_ne.mpr c89
             have c89b1 : ((rd y137 (ji2)) != 17) = true := bne_iff_ne.mpr c89
             by_cases c110 : (rd y137 (ji2)) = 18
             ·rw [if_pos c110] at H
              have c110b0 : ((rd y137 (ji2)) == 18) = true := beq_iff_eq.mpr c110
              have c110b1 : ((rd y137 (ji2)) != 18) = false := bne_eq_false_iff_eq.mpr c110
              clear c110
              by_cases c111 : (wrap64 ((Int.tmod (wrap64 (a0_1)) 16) + 1)) = 0
              ·rw [if_pos c111] at H
               exact absurd H (by simp)
              ·rw [if_neg c111] at H
               have c111b0 : ((wrap64 ((Int.tmod (wrap64 (a0_1)) 16) + 1)) == 0) = false := beq_eq_false_iff_ne.mpr c111
               have c111b1 : ((wrap64 ((Int.tmod (wrap64 (a0_1)) 16) + 1)) != 0) = true := bne_iff_ne.mpr c111
               by_cases c112 : (wrap64 ((wrap64 ((Int.tmod (wrap64 (a0_1)) 16) + 1)) - (Int.tmod (wrap64 (a0_5)) (wrap64 ((Int.tmod (wrap64 (a0_1)) 16) + 1))))) = 0
               ·rw [if_pos c112] at H
                exact absurd H (by simp)
               ·rw [if_neg c112] at H
                have c112b0 : ((wrap64 ((wrap64 ((Int.tmod (wrap64 (a0_1)) 16) + 1)) - (Int.tmod (wrap64 (a0_5)) (wrap64 ((Int.tmod (wrap64 (a0_1)) 16) + 1))))) == 0) = false := beq_eq_false_iff_ne.mpr c112
                have c112b1 : ((wrap64 ((wrap64 ((Int.tmod (wrap64 (a0_1)) 16) + 1)) - (Int.tmod (wrap64 (a0_5)) (wrap64 ((Int.tmod (wrap64 (a0_1)) 16) + 1))))) != 0) = true := bne_iff_ne.mpr c112
                simp only [Option.some.injEq, Prod.mk.injEq] at H
                obtain ⟨rfl, rfl, rfl, rfl, rfl, rfl, rfl, rfl, rfl, rfl, rfl⟩ := H
                have hnb113 := NB135_136.out
                have hnc113 := NB136_135.out
                have hnb114 := NB135_141.out
                have hnc114 := NB141_135.out
                have hcz115_0 : wc.cell? ⟨gb135, 0, none⟩ = some (.int .u8 a0_0) := (blk_cell BK135.out 0).trans rfl
                have hcz115_1 : wc.cell? ⟨gb135, 1, none⟩ = some (.int .u8 a0_1) := (blk_cell BK135.out 1).trans rfl
                have hcz115_2 : wc.cell? ⟨gb135, 2, none⟩ = some (.int .u32 a0_2) := (blk_cell BK135.out 2).trans rfl
                have hcz115_3 : wc.cell? ⟨gb135, 3, none⟩ = some (.int .u32 a0_3) := (blk_cell BK135.out 3).trans rfl
                have hcz115_4 : wc.cell? ⟨gb135, 4, none⟩ = some (.int .u32 a0_4) := (blk_cell BK135.out 4).trans rfl
                have hcz115_5 : wc.cell? ⟨gb135, 5, none⟩ = some (.int .u8 a0_5) := (blk_cell BK135.out 5).trans rfl
                have hfz115_0 := blk_frozen BK135.out 0
                have hfz115_1 := blk_frozen BK135.out 1
                have hfz115_2 := blk_frozen BK135.out 2
                have hfz115_3 := blk_frozen BK135.out 3
                have hfz115_4 := blk_frozen BK135.out 4
                have hfz115_5 := blk_frozen BK135.out 5
                have hnb116 := NB141_136.out
                have hnc116 := NB136_141.out
                have hcz117_0 : wc.cell? ⟨gb141, 0, none⟩ = some (.int .i64 (rd y137 (ji2))) := (blk_cell BK141.out 0).trans rfl
                have hcz117_1 : wc.cell? ⟨gb141, 1, none⟩ = some (.int .i64 (wrap64 ((Int.tmod (wrap64 (a0_1)) 16) + 1))) := (blk_cell BK141.out 1).trans rfl
                have hcz117_2 : wc.cell? ⟨gb141, 2, none⟩ = some (.int .i64 0) := (blk_cell BK141.out 2).trans rfl
                have hcz117_3 : wc.cell? ⟨gb141, 3, none⟩ = some (.int .i64 0) := (blk_cell BK141.out 3).trans rfl
                have hcz117_4 : wc.cell? ⟨gb141, 4, none⟩ = some (.int .i64 0) := (blk_cell BK141.out 4).trans rfl
                have hcz117_5 : wc.cell? ⟨gb141, 5, none⟩ = some (.int .i64 0) := (blk_cell BK141.out 5).trans rfl
                have hcz117_6 : wc.cell? ⟨gb141, 6, none⟩ = some (.int .i64 0) := (blk_cell BK141.out 6).trans rfl
                have hfz117_0 := blk_frozen BK141.out 0
                have hfz117_1 := blk_frozen BK141.out 1
                have hfz117_2 := blk_frozen BK141.out 2
                have hfz117_3 := blk_frozen BK141.out 3
                have hfz117_4 := blk_frozen BK141.out 4
                have hfz117_5 := blk_frozen BK141.out 5
                have hfz117_6 := blk_frozen BK141.out 6
                try go_wp2
                have n0_ : Aside0 ((wc.setCell ⟨gb141, 6, none⟩ (.int .i64 (Int.tmod (wrap64 (a0_5)) (wrap64 ((Int.tmod (wrap64 (a0_1)) 16) + 1))))).heap[gb135]? = some (.cells #[.int .u8 a0_0, .int .u8 a0_1, .int .u32 a0_2, .int .u32 a0_3, .int .u32 a0_4, .int .u8 a0_5] 24 (0, 0))) := ⟨by (with_reducible repeat (first | refine blk_drewN ?_ _ | refine blk_drew ?_ | refine blk_alloc ?_ _)); refine blk_far ?_ NB135_141.out _; (with_reducible repeat (first | refine blk_drewN ?_ _ | refine blk_drew ?_ | refine blk_alloc ?_ _)); exact BK135.out⟩
                have n1_ : Aside0 ((wc.setCell ⟨gb141, 6, none⟩ (.int .i64 (Int.tmod (wrap64 (a0_5)) (wrap64 ((Int.tmod (wrap64 (a0_1)) 16) + 1))))).heap[gb136]? = some (.cells #[.int .i64 0, .int .i64 0, .int .i64 0, .int .i64 0, .int .i64 0, .int .i64 0, .int .i64 0] 28 (0, 0))) := ⟨by (with_reducible repeat (first | refine blk_drewN ?_ _ | refine blk_drew ?_ | refine blk_alloc ?_ _)); refine blk_far ?_ NB136_141.out _; (with_reducible repeat (first | refine blk_drewN ?_ _ | refine blk_drew ?_ | refine blk_alloc ?_ _)); exact BK136.out⟩
                have n2_ : Aside0 ((wc.setCell ⟨gb141, 6, none⟩ (.int .i64 (Int.tmod (wrap64 (a0_5)) (wrap64 ((Int.tmod (wrap64 (a0_1)) 16) + 1))))).heap[gb141]? = some (.cells #[.int .i64 (rd y137 (ji2)), .int .i64 (wrap64 ((Int.tmod (wrap64 (a0_1)) 16) + 1)), .int .i64 0, .int .i64 0, .int .i64 0, .int .i64 0, .int .i64 (Int.tmod (wrap64 (a0_5)) (wrap64 ((Int.tmod (wrap64 (a0_1)) 16) + 1)))] 28 (0, 0))) := ⟨by (with_reducible repeat (first | refine blk_drewN ?_ _ | refine blk_drew ?_ | refine blk_alloc ?_ _)); refine blk_put (cs := #[.int .i64 (rd y137 (ji2)), .int .i64 (wrap64 ((Int.tmod (wrap64 (a0_1)) 16) + 1)), .int .i64 0, .int .i64 0, .int .i64 0, .int .i64 0, .int .i64 0]) ?_ 6 _ rfl; (with_reducible repeat (first | refine blk_drewN ?_ _ | refine blk_drew ?_ | refine blk_alloc ?_ _)); exact BK141.out⟩
                have n3_ : Aside0 (Below w.heap.size w (wc.setCell ⟨gb141, 6, none⟩ (.int .i64 (Int.tmod (wrap64 (a0_5)) (wrap64 ((Int.tmod (wrap64 (a0_1)) 16) + 1)))))) := ⟨by repeat (first | (with_reducible first | exact HB.out | apply below_alloc | apply pw_below_drewN | apply below_drew1 | refine below_set ?_ GE135.out | refine below_set ?_ GE136.out | refine below_set ?_ GE141.out) | exact HB.out)⟩
                (try clear BK135)
                (try clear BK136)
                (try clear BK141)
                (try clear HB)
                generalize (wc.setCell ⟨gb141, 6, none⟩ (.int .i64 (Int.tmod (wrap64 (a0_5)) (wrap64 ((Int.tmod (wrap64 (a0_1)) 16) + 1))))) = w118 at n0_ n1_ n2_ n3_ ⊢
                have BK135 := n0_
                have BK136 := n1_
                have BK141 := n2_
                have HB := n3_
                clear n0_ n1_ n2_ n3_
                have n0_ := Aside0.mk (blk_drew BK135.out)
                have n1_ := Aside0.mk (blk_drew BK136.out)
                have n2_ := Aside0.mk (blk_drew BK141.out)
                have n3_ := Aside0.mk (below_drew1 HB.out)
                clear BK135
                clear BK136
                clear BK141
                clear HB
                have BK135 := n0_
                have BK136 := n1_
                have BK141 := n2_
                have HB := n3_
                clear n0_ n1_ n2_ n3_
                refine start_ (n := 13) (S := fun w' => w'.cell? ⟨gb141, 0, none⟩ = some (.int .i64 (rd y137 (ji2))) ∧ w'.cell? ⟨gb141, 1, none⟩ = some (.int .i64 (wrap64 ((Int.tmod (wrap64 (a0_1)) 16) + 1))) ∧ w'.cell? ⟨gb141, 2, none⟩ = some (.int .i64 0) ∧ w'.cell? ⟨gb141, 3, none⟩ = some (.int .i64 0) ∧ w'.cell? ⟨gb141, 4, none⟩ = some (.int .i64 0) ∧ w'.cell? ⟨gb141, 5, none⟩ = some (.int .i64 0) ∧ w'.cell? ⟨gb141, 6, none⟩ = some (.int .i64 (Int.tmod (wrap64 (a0_5)) (wrap64 ((Int.tmod (wrap64 (a0_1)) 16) + 1)))) ∧ w'.cell? ⟨gb135, 0, none⟩ = some (.int .u8 a0_0) ∧ w'.cell? ⟨gb135, 1, none⟩ = some (.int .u8 a0_1) ∧ w'.cell? ⟨gb135, 2, none⟩ = some (.int .u32 a0_2) ∧ w'.cell? ⟨gb135, 3, none⟩ = some (.int .u32 a0_3) ∧ w'.cell? ⟨gb135, 4, none⟩ = some (.int .u32 a0_4) ∧ w'.cell? ⟨gb135, 5, none⟩ = some (.int .u8 a0_5)) (ds := [12]) #[false, false, false, false, false, false, false, false, false, false, false, false, false] (by kernel_rfl) rfl rfl ⟨(blk_cell BK141.out 0).trans rfl, (blk_cell BK141.out 1).trans rfl, (blk_cell BK141.out 2).trans rfl, (blk_cell BK141.out 3).trans rfl, (blk_cell BK141.out 4).trans rfl, (blk_cell BK141.out 5).trans rfl, (blk_cell BK141.out 6).trans rfl, (blk_cell BK135.out 0).trans rfl, (blk_cell BK135.out 1).trans rfl, (blk_cell BK135.out 2).trans rfl, (blk_cell BK135.out 3).trans rfl, (blk_cell BK135.out 4).trans rfl, (blk_cell BK135.out 5).trans rfl⟩ (fun hHeld => ?_); refine with_tabW proofmarklaw08_Made.tab35 proofmarklaw08_Made.bits35 (fun HT_ HW_ => ?_)
                generalize w118.drew = w119 at BK135 BK136 BK141 HB hHeld ⊢
                refine pure_ (i := 0) (N := some 129) (v := ?_) (a' := ?_) #[true, false, false, false, false, false, false, false, false, false, false, false, false] rfl rfl (any_of HT_.out (by kernel_rfl)) (fun _ _ _ h => h) (Or.inl ⟨by rfl, ?_⟩) ?_ ?_
                rotate_left
                ·intro w'
                 go_simp
                 with_reducible rfl
                rotate_left
                ·simp only [Act.put, List.setIfInBounds_toArray, List.set_cons_zero, List.set_cons_succ, i64_w, i32_w]
                 rfl
                refine pure_ (i := 2) (N := some 131) (v := ?_) (a' := ?_) #[true, false, true, false, false, false, false, false, false, false, false, false, false] rfl rfl (any_of HT_.out (by kernel_rfl)) (fun _ _ _ h => h) (Or.inl ⟨by rfl, ?_⟩) ?_ ?_
                rotate_left
                ·intro w'
                 go_simp
                 with_reducible rfl
                rotate_left
                ·simp only [Act.put, List.setIfInBounds_toArray, List.set_cons_zero, List.set_cons_succ, i64_w, i32_w]
                 rfl
                refine pure_ (i := 5) (N := some 134) (v := ?_) (a' := ?_) #[true, false, true, false, false, true, false, false, false, false, false, false, false] rfl rfl (any_of HT_.out (by kernel_rfl)) (fun _ _ _ h => h) (Or.inl ⟨by rfl, ?_⟩) ?_ ?_
                rotate_left
                ·intro w'
                 go_simp
                 with_reducible rfl
                rotate_left
                ·simp only [Act.put, List.setIfInBounds_toArray, List.set_cons_zero, List.set_cons_succ, i64_w, i32_w]
                 rfl
                refine pure_ (i := 6) (N := some 135) (v := ?_) (a' := ?_) #[true, false, true, false, false, true, true, false, false, false, false, false, false] rfl rfl (any_of HT_.out (by kernel_rfl)) (fun _ _ _ h => h) (Or.inl ⟨by rfl, ?_⟩) ?_ ?_
                rotate_left
                ·intro w'
                 go_simp
                 with_reducible rfl
                rotate_left
                ·simp only [Act.put, List.setIfInBounds_toArray, List.set_cons_zero, List.set_cons_succ, i64_w, i32_w]
                 rfl
                refine take_ (i := 1) (N := some 130) (v := ?_) (a' := ?_) #[true, true, true, false, false, true, true, false, false, false, false, false, false] rfl rfl (take_ofW HT_.out HW_.out (by kernel_rfl)) (fun _ _ _ h => h) (Or.inl ⟨by rfl, ?_⟩) hHeld ?_ ?_
                rotate_left
                ·rintro w' ⟨s0, s1, s2, s3, s4, s5, s6, s7, s8, s9, s10, s11, s12⟩
                 go_simp
                 with_reducible rfl
                rotate_left
                ·simp only [Act.put, List.setIfInBounds_toArray, List.set_cons_zero, List.set_cons_succ, i64_w, i32_w]
                 rfl
                refine take_ (i := 3) (N := some 132) (v := ?_) (a' := ?_) #[true, true, true, true, false, true, true, false, false, false, false, false, false] rfl rfl (take_ofW HT_.out HW_.out (by kernel_rfl)) (fun _ _ _ h => h) (Or.inl ⟨by rfl, ?_⟩) hHeld ?_ ?_
                rotate_left
                ·rintro w' ⟨s0, s1, s2, s3, s4, s5, s6, s7, s8, s9, s10, s11, s12⟩
                 go_simp
                 with_reducible rfl
                rotate_left
                ·simp only [Act.put, List.setIfInBounds_toArray, List.set_cons_zero, List.set_cons_succ, i64_w, i32_w]
                 rfl
                refine pure_ (i := 4) (N := some 133) (v := ?_) (a' := ?_) #[true, true, true, true, true, true, true, false, false, false, false, false, false] rfl rfl (any_of HT_.out (by kernel_rfl)) (fun _ _ _ h => h) (Or.inl ⟨by rfl, ?_⟩) ?_ ?_
                rotate_left
                ·intro w'
                 go_simp
                 with_reducible rfl
                rotate_left
                ·simp only [Act.put, List.setIfInBounds_toArray, List.set_cons_zero, List.set_cons_succ, i64_w, i32_w]
                 rfl
                refine take_ (i := 7) (N := some 136) (v := ?_) (a' := ?_) #[true, true, true, true, true, true, true, true, false, false, false, false, false] rfl rfl (take_ofW HT_.out HW_.out (by kernel_rfl)) (fun _ _ _ h => h) (Or.inl ⟨by rfl, ?_⟩) hHeld ?_ ?_
                rotate_left
                ·rintro w' ⟨s0, s1, s2, s3, s4, s5, s6, s7, s8, s9, s10, s11, s12⟩
                 go_simp
                 with_reducible rfl
                rotate_left
                ·simp only [Act.put, List.setIfInBounds_toArray, List.set_cons_zero, List.set_cons_succ, i64_w, i32_w]
                 rfl
                refine pure_ (i := 8) (N := some 137) (v := ?_) (a' := ?_) #[true, true, true, true, true, true, true, true, true, false, false, false, false] rfl rfl (any_of HT_.out (by kernel_rfl)) (fun _ _ _ h => h) (Or.inl ⟨by rfl, ?_⟩) ?_ ?_
                rotate_left
                ·intro w'
                 go_simp
                 with_reducible rfl
                rotate_left
                ·simp only [Act.put, List.setIfInBounds_toArray, List.set_cons_zero, List.set_cons_succ, i64_w, i32_w]
                 rfl
                refine pure_ (i := 9) (N := some 138) (v := ?_) (a' := ?_) #[true, true, true, true, true, true, true, true, true, true, false, false, false] rfl rfl (any_of HT_.out (by kernel_rfl)) (fun _ _ _ h => h) (Or.inl ⟨by rfl, ?_⟩) ?_ ?_
                rotate_left
                ·intro w'
                 go_simp
                 with_reducible rfl
                rotate_left
                ·simp only [Act.put, List.setIfInBounds_toArray, List.set_cons_zero, List.set_cons_succ, i64_w, i32_w]
                 rfl
                refine pure_ (i := 10) (N := some 139) (v := ?_) (a' := ?_) #[true, true, true, true, true, true, true, true, true, true, true, false, false] rfl rfl (any_of HT_.out (by kernel_rfl)) (fun _ _ _ h => h) (Or.inl ⟨by rfl, ?_⟩) ?_ ?_
                rotate_left
                ·intro w'
                 go_simp
                 with_reducible rfl
                rotate_left
                ·simp only [Act.put, List.setIfInBounds_toArray, List.set_cons_zero, List.set_cons_succ, i64_w, i32_w]
                 rfl
                refine pure_ (i := 11) (N := some 140) (v := ?_) (a' := ?_) #[true, true, true, true, true, true, true, true, true, true, true, true, false] rfl rfl (any_of HT_.out (by kernel_rfl)) (fun _ _ _ h => h) (Or.inl ⟨by rfl, ?_⟩) ?_ ?_
                rotate_left
                ·intro w'
                 go_simp
                 with_reducible rfl
                rotate_left
                ·simp only [Act.put, List.setIfInBounds_toArray, List.set_cons_zero, List.set_cons_succ, i64_w, i32_w]
                 rfl
                refine last_ (i := 12) (N := none) #[true, true, true, true, true, true, true, true, true, true, true, true, true] rfl rfl (one_of HT_.out (by kernel_rfl)) (by decide) (fun K hK => ?_)
                have hs120 : w119.cell? ⟨gb141, 5, none⟩ = some (.int .i64 0) := (blk_cell BK141.out 5).trans rfl
                have hfs120 := blk_frozen BK141.out 5
                have hns120_0 := NB135_141.out
                have hns120_1 := NB136_141.out
                have hms120_0 := NB141_135.out
                have hms120_1 := NB141_136.out
                refine skip_ (w1 := ?_) (by rfl) rfl ?_ ?_
                rotate_left
                ·go_simp
                 rfl
                refine hK.out _ _ ?_
                clear hK K
                refine done_ (done_of HT_.out (by kernel_rfl)) ?_
                have hcz121_0 : w119.cell? ⟨gb141, 0, none⟩ = some (.int .i64 (rd y137 (ji2))) := (blk_cell BK141.out 0).trans rfl
                have hcz121_1 : w119.cell? ⟨gb141, 1, none⟩ = some (.int .i64 (wrap64 ((Int.tmod (wrap64 (a0_1)) 16) + 1))) := (blk_cell BK141.out 1).trans rfl
                have hcz121_2 : w119.cell? ⟨gb141, 2, none⟩ = some (.int .i64 0) := (blk_cell BK141.out 2).trans rfl
                have hcz121_3 : w119.cell? ⟨gb141, 3, none⟩ = some (.int .i64 0) := (blk_cell BK141.out 3).trans rfl
                have hcz121_4 : w119.cell? ⟨gb141, 4, none⟩ = some (.int .i64 0) := (blk_cell BK141.out 4).trans rfl
                have hcz121_5 : w119.cell? ⟨gb141, 5, none⟩ = some (.int .i64 0) := (blk_cell BK141.out 5).trans rfl
                have hcz121_6 : w119.cell? ⟨gb141, 6, none⟩ = some (.int .i64 (Int.tmod (wrap64 (a0_5)) (wrap64 ((Int.tmod (wrap64 (a0_1)) 16) + 1)))) := (blk_cell BK141.out 6).trans rfl
                have hfz121_0 := blk_frozen BK141.out 0
                have hfz121_1 := blk_frozen BK141.out 1
                have hfz121_2 := blk_frozen BK141.out 2
                have hfz121_3 := blk_frozen BK141.out 3
                have hfz121_4 := blk_frozen BK141.out 4
                have hfz121_5 := blk_frozen BK141.out 5
                have hfz121_6 := blk_frozen BK141.out 6
                have hcz122_0 : w119.cell? ⟨gb136, 0, none⟩ = some (.int .i64 0) := (blk_cell BK136.out 0).trans rfl
                have hcz122_1 : w119.cell? ⟨gb136, 1, none⟩ = some (.int .i64 0) := (blk_cell BK136.out 1).trans rfl
                have hcz122_2 : w119.cell? ⟨gb136, 2, none⟩ = some (.int .i64 0) := (blk_cell BK136.out 2).trans rfl
                have hcz122_3 : w119.cell? ⟨gb136, 3, none⟩ = some (.int .i64 0) := (blk_cell BK136.out 3).trans rfl
                have hcz122_4 : w119.cell? ⟨gb136, 4, none⟩ = some (.int .i64 0) := (blk_cell BK136.out 4).trans rfl
                have hcz122_5 : w119.cell? ⟨gb136, 5, none⟩ = some (.int .i64 0) := (blk_cell BK136.out 5).trans rfl
                have hcz122_6 : w119.cell? ⟨gb136, 6, none⟩ = some (.int .i64 0) := (blk_cell BK136.out 6).trans rfl
                have hfz122_0 := blk_frozen BK136.out 0
                have hfz122_1 := blk_frozen BK136.out 1
                have hfz122_2 := blk_frozen BK136.out 2
                have hfz122_3 := blk_frozen BK136.out 3
                have hfz122_4 := blk_frozen BK136.out 4
                have hfz122_5 := blk_frozen BK136.out 5
                have hfz122_6 := blk_frozen BK136.out 6
                try go_wp2
                refine bodyPost_ret (results_list (rs := [.cell 2 28, .tmp 3, .tmp 4, .tmp 5, .tmp 6]) rfl (by simp) (.cell gb136 28 #[.int .i64 (rd y137 (ji2)), .int .i64 (wrap64 ((wrap64 ((wrap64 ((Int.tmod (wrap64 (a0_5)) (wrap64 ((Int.tmod (wrap64 (a0_1)) 16) + 1))) + (Int.tmod (wrap64 (a0_4)) (wrap64 ((wrap64 ((Int.tmod (wrap64 (a0_1)) 16) + 1)) - (Int.tmod (wrap64 (a0_5)) (wrap64 ((Int.tmod (wrap64 (a0_1)) 16) + 1)))))))) - (Int.tmod (wrap64 (a0_5)) (wrap64 ((Int.tmod (wrap64 (a0_1)) 16) + 1))))) + 1)), .int .i64 0, .int .i64 0, .int .i64 0, .int .i64 (wrap64 ((Int.tmod (wrap64 (a0_5)) (wrap64 ((Int.tmod (wrap64 (a0_1)) 16) + 1))) + (Int.tmod (wrap64 (a0_4)) (wrap64 ((wrap64 ((Int.tmod (wrap64 (a0_1)) 16) + 1)) - (Int.tmod (wrap64 (a0_5)) (wrap64 ((Int.tmod (wrap64 (a0_1)) 16) + 1)))))))), .int .i64 (Int.tmod (wrap64 (a0_5)) (wrap64 ((Int.tmod (wrap64 (a0_1)) 16) + 1)))] (0, 0) _ rfl (by (with_reducible repeat (first | refine blk_drewN ?_ _ | refine blk_drew ?_ | refine blk_alloc ?_ _)); refine blk_put (cs := #[.int .i64 (rd y137 (ji2)), .int .i64 (wrap64 ((wrap64 ((wrap64 ((Int.tmod (wrap64 (a0_5)) (wrap64 ((Int.tmod (wrap64 (a0_1)) 16) + 1))) + (Int.tmod (wrap64 (a0_4)) (wrap64 ((wrap64 ((Int.tmod (wrap64 (a0_1)) 16) + 1)) - (Int.tmod (wrap64 (a0_5)) (wrap64 ((Int.tmod (wrap64 (a0_1)) 16) + 1)))))))) - (Int.tmod (wrap64 (a0_5)) (wrap64 ((Int.tmod (wrap64 (a0_1)) 16) + 1))))) + 1)), .int .i64 0, .int .i64 0, .int .i64 0, .int .i64 (wrap64 ((Int.tmod (wrap64 (a0_5)) (wrap64 ((Int.tmod (wrap64 (a0_1)) 16) + 1))) + (Int.tmod (wrap64 (a0_4)) (wrap64 ((wrap64 ((Int.tmod (wrap64 (a0_1)) 16) + 1)) - (Int.tmod (wrap64 (a0_5)) (wrap64 ((Int.tmod (wrap64 (a0_1)) 16) + 1)))))))), .int .i64 0]) ?_ 6 _ rfl; (with_reducible repeat (first | refine blk_drewN ?_ _ | refine blk_drew ?_ | refine blk_alloc ?_ _)); refine blk_put (cs := #[.int .i64 (rd y137 (ji2)), .int .i64 (wrap64 ((wrap64 ((wrap64 ((Int.tmod (wrap64 (a0_5)) (wrap64 ((Int.tmod (wrap64 (a0_1)) 16) + 1))) + (Int.tmod (wrap64 (a0_4)) (wrap64 ((wrap64 ((Int.tmod (wrap64 (a0_1)) 16) + 1)) - (Int.tmod (wrap64 (a0_5)) (wrap64 ((Int.tmod (wrap64 (a0_1)) 16) + 1)))))))) - (Int.tmod (wrap64 (a0_5)) (wrap64 ((Int.tmod (wrap64 (a0_1)) 16) + 1))))) + 1)), .int .i64 0, .int .i64 0, .int .i64 0, .int .i64 0, .int .i64 0]) ?_ 5 _ rfl; (with_reducible repeat (first | refine blk_drewN ?_ _ | refine blk_drew ?_ | refine blk_alloc ?_ _)); refine blk_put (cs := #[.int .i64 (rd y137 (ji2)), .int .i64 (wrap64 ((wrap64 ((wrap64 ((Int.tmod (wrap64 (a0_5)) (wrap64 ((Int.tmod (wrap64 (a0_1)) 16) + 1))) + (Int.tmod (wrap64 (a0_4)) (wrap64 ((wrap64 ((Int.tmod (wrap64 (a0_1)) 16) + 1)) - (Int.tmod (wrap64 (a0_5)) (wrap64 ((Int.tmod (wrap64 (a0_1)) 16) + 1)))))))) - (Int.tmod (wrap64 (a0_5)) (wrap64 ((Int.tmod (wrap64 (a0_1)) 16) + 1))))) + 1)), .int .i64 0, .int .i64 0, .int .i64 0, .int .i64 0, .int .i64 0]) ?_ 4 _ rfl; (with_reducible repeat (first | refine blk_drewN ?_ _ | refine blk_drew ?_ | refine blk_alloc ?_ _)); refine blk_put (cs := #[.int .i64 (rd y137 (ji2)), .int .i64 (wrap64 ((wrap64 ((wrap64 ((Int.tmod (wrap64 (a0_5)) (wrap64 ((Int.tmod (wrap64 (a0_1)) 16) + 1))) + (Int.tmod (wrap64 (a0_4)) (wrap64 ((wrap64 ((Int.tmod (wrap64 (a0_1)) 16) + 1)) - (Int.tmod (wrap64 (a0_5)) (wrap64 ((Int.tmod (wrap64 (a0_1)) 16) + 1)))))))) - (Int.tmod (wrap64 (a0_5)) (wrap64 ((Int.tmod (wrap64 (a0_1)) 16) + 1))))) + 1)), .int .i64 0, .int .i64 0, .int .i64 0, .int .i64 0, .int .i64 0]) ?_ 3 _ rfl; (with_reducible repeat (first | refine blk_drewN ?_ _ | refine blk_drew ?_ | refine blk_alloc ?_ _)); refine blk_put (cs := #[.int .i64 (rd y137 (ji2)), .int .i64 (wrap64 ((wrap64 ((wrap64 ((Int.tmod (wrap64 (a0_5)) (wrap64 ((Int.tmod (wrap64 (a0_1)) 16) + 1))) + (Int.tmod (wrap64 (a0_4)) (wrap64 ((wrap64 ((Int.tmod (wrap64 (a0_1)) 16) + 1)) - (Int.tmod (wrap64 (a0_5)) (wrap64 ((Int.tmod (wrap64 (a0_1)) 16) + 1)))))))) - (Int.tmod (wrap64 (a0_5)) (wrap64 ((Int.tmod (wrap64 (a0_1)) 16) + 1))))) + 1)), .int .i64 0, .int .i64 0, .int .i64 0, .int .i64 0, .int .i64 0]) ?_ 2 _ rfl; (with_reducible repeat (first | refine blk_drewN ?_ _ | refine blk_drew ?_ | refine blk_alloc ?_ _)); refine blk_put (cs := #[.int .i64 (rd y137 (ji2)), .int .i64 0, .int .i64 0, .int .i64 0, .int .i64 0, .int .i64 0, .int .i64 0]) ?_ 1 _ rfl; (with_reducible repeat (first | refine blk_drewN ?_ _ | refine blk_drew ?_ | refine blk_alloc ?_ _)); refine blk_put (cs := #[.int .i64 0, .int .i64 0, .int .i64 0, .int .i64 0, .int .i64 0, .int .i64 0, .int .i64 0]) ?_ 0 _ rfl; (with_reducible repeat (first | refine blk_drewN ?_ _ | refine blk_drew ?_ | refine blk_alloc ?_ _)); refine blk_far ?_ NB136_141.out _; (with_reducible repeat (first | refine blk_drewN ?_ _ | refine blk_drew ?_ | refine blk_alloc ?_ _)); refine blk_far ?_ NB136_141.out _; (with_reducible repeat (first | refine blk_drewN ?_ _ | refine blk_drew ?_ | refine blk_alloc ?_ _)); exact BK136.out) Try.underlying28 rfl (by kernel_rfl) (.tmp (.tmp (.tmp (.tmp .nil)))))) rfl ?_
                exact ⟨by first | rfl | (simp [errW_none, errW_some] <;> rfl) | (simp only [← hji2]; first | rfl | (simp [errW_none, errW_some] <;> rfl)) | (simp [*, errW_none, errW_some] <;> rfl), by repeat (first | (with_reducible first | exact HB.out | apply below_alloc | apply pw_below_drewN | apply below_drew1 | refine below_set ?_ GE135.out | refine below_set ?_ GE136.out | refine below_set ?_ GE141.out) | exact HB.out)⟩
             ·rw [if_neg c110] at H
              have c110b0 : ((rd y137 (ji2)) == 18) = false := beq_eq_false_iff_ne.mpr c110
              have c110b1 : ((rd y137 (ji2)) != 18) = true := bne_iff_ne.mpr c110
              simp only [Option.some.injEq, Prod.mk.injEq] at H
              obtain ⟨rfl, rfl, rfl, rfl, rfl, rfl, rfl, rfl, rfl, rfl, rfl⟩ := H
              have hnb123 := NB141_135.out
              have hnc123 := NB135_141.out
              have hnb124 := NB141_136.out
              have hnc124 := NB136_141.out
              have hcz125_0 : wc.cell? ⟨gb141, 0, none⟩ = some (.int .i64 (rd y137 (ji2))) := (blk_cell BK141.out 0).trans rfl
              have hcz125_1 : wc.cell? ⟨gb141, 1, none⟩ = some (.int .i64 (wrap64 ((Int.tmod (wrap64 (a0_1)) 16) + 1))) := (blk_cell BK141.out 1).trans rfl
              have hcz125_2 : wc.cell? ⟨gb141, 2, none⟩ = some (.int .i64 0) := (blk_cell BK141.out 2).trans rfl
              have hcz125_3 : wc.cell? ⟨gb141, 3, none⟩ = some (.int .i64 0) := (blk_cell BK141.out 3).trans rfl
              have hcz125_4 : wc.cell? ⟨gb141, 4, none⟩ = some (.int .i64 0) := (blk_cell BK141.out 4).trans rfl
              have hcz125_5 : wc.cell? ⟨gb141, 5, none⟩ = some (.int .i64 0) := (blk_cell BK141.out 5).trans rfl
              have hcz125_6 : wc.cell? ⟨gb141, 6, none⟩ = some (.int .i64 0) := (blk_cell BK141.out 6).trans rfl
              have hfz125_0 := blk_frozen BK141.out 0
              have hfz125_1 := blk_frozen BK141.out 1
              have hfz125_2 := blk_frozen BK141.out 2
              have hfz125_3 := blk_frozen BK141.out 3
              have hfz125_4 := blk_frozen BK141.out 4
              have hfz125_5 := blk_frozen BK141.out 5
              have hfz125_6 := blk_frozen BK141.out 6
              have hnb126 := NB136_135.out
              have hnc126 := NB135_136.out
              have hcz127_0 : wc.cell? ⟨gb136, 0, none⟩ = some (.int .i64 0) := (blk_cell BK136.out 0).trans rfl
              have hcz127_1 : wc.cell? ⟨gb136, 1, none⟩ = some (.int .i64 0) := (blk_cell BK136.out 1).trans rfl
              have hcz127_2 : wc.cell? ⟨gb136, 2, none⟩ = some (.int .i64 0) := (blk_cell BK136.out 2).trans rfl
              have hcz127_3 : wc.cell? ⟨gb136, 3, none⟩ = some (.int .i64 0) := (blk_cell BK136.out 3).trans rfl
              have hcz127_4 : wc.cell? ⟨gb136, 4, none⟩ = some (.int .i64 0) := (blk_cell BK136.out 4).trans rfl
              have hcz127_5 : wc.cell? ⟨gb136, 5, none⟩ = some (.int .i64 0) := (blk_cell BK136.out 5).trans rfl
              have hcz127_6 : wc.cell? ⟨gb136, 6, none⟩ = some (.int .i64 0) := (blk_cell BK136.out 6).trans rfl
              have hfz127_0 := blk_frozen BK136.out 0
              have hfz127_1 := blk_frozen BK136.out 1
              have hfz127_2 := blk_frozen BK136.out 2
              have hfz127_3 := blk_frozen BK136.out 3
              have hfz127_4 := blk_frozen BK136.out 4
              have hfz127_5 := blk_frozen BK136.out 5
              have hfz127_6 := blk_frozen BK136.out 6
              go_wp2
              refine bodyPost_ret (results_list (rs := [.cell 2 28, .tmp 3, .tmp 4, .tmp 5, .tmp 6]) rfl (by simp) (.cell gb136 28 #[.int .i64 (rd y137 (ji2)), .int .i64 (wrap64 ((Int.tmod (wrap64 (a0_1)) 16) + 1)), .int .i64 0, .int .i64 0, .int .i64 0, .int .i64 0, .int .i64 0] (0, 0) _ rfl (by (with_reducible repeat (first | refine blk_drewN ?_ _ | refine blk_drew ?_ | refine blk_alloc ?_ _)); refine blk_put (cs := #[.int .i64 (rd y137 (ji2)), .int .i64 (wrap64 ((Int.tmod (wrap64 (a0_1)) 16) + 1)), .int .i64 0, .int .i64 0, .int .i64 0, .int .i64 0, .int .i64 0]) ?_ 6 _ rfl; (with_reducible repeat (first | refine blk_drewN ?_ _ | refine blk_drew ?_ | refine blk_alloc ?_ _)); refine blk_put (cs := #[.int .i64 (rd y137 (ji2)), .int .i64 (wrap64 ((Int.tmod (wrap64 (a0_1)) 16) + 1)), .int .i64 0, .int .i64 0, .int .i64 0, .int .i64 0, .int .i64 0]) ?_ 5 _ rfl; (with_reducible repeat (first | refine blk_drewN ?_ _ | refine blk_drew ?_ | refine blk_alloc ?_ _)); refine blk_put (cs := #[.int .i64 (rd y137 (ji2)), .int .i64 (wrap64 ((Int.tmod (wrap64 (a0_1)) 16) + 1)), .int .i64 0, .int .i64 0, .int .i64 0, .int .i64 0, .int .i64 0]) ?_ 4 _ rfl; (with_reducible repeat (first | refine blk_drewN ?_ _ | refine blk_drew ?_ | refine blk_alloc ?_ _)); refine blk_put (cs := #[.int .i64 (rd y137 (ji2)), .int .i64 (wrap64 ((Int.tmod (wrap64 (a0_1)) 16) + 1)), .int .i64 0, .int .i64 0, .int .i64 0, .int .i64 0, .int .i64 0]) ?_ 3 _ rfl; (with_reducible repeat (first | refine blk_drewN ?_ _ | refine blk_drew ?_ | refine blk_alloc ?_ _)); refine blk_put (cs := #[.int .i64 (rd y137 (ji2)), .int .i64 (wrap64 ((Int.tmod (wrap64 (a0_1)) 16) + 1)), .int .i64 0, .int .i64 0, .int .i64 0, .int .i64 0, .int .i64 0]) ?_ 2 _ rfl; (with_reducible repeat (first | refine blk_drewN ?_ _ | refine blk_drew ?_ | refine blk_alloc ?_ _)); refine blk_put (cs := #[.int .i64 (rd y137 (ji2)), .int .i64 0, .int .i64 0, .int .i64 0, .int .i64 0, .int .i64 0, .int .i64 0]) ?_ 1 _ rfl; (with_reducible repeat (first | refine blk_drewN ?_ _ | refine blk_drew ?_ | refine blk_alloc ?_ _)); refine blk_put (cs := #[.int .i64 0, .int .i64 0, .int .i64 0, .int .i64 0, .int .i64 0, .int .i64 0, .int .i64 0]) ?_ 0 _ rfl; (with_reducible repeat (first | refine blk_drewN ?_ _ | refine blk_drew ?_ | refine blk_alloc ?_ _)); exact BK136.out) Try.underlying28 rfl (by kernel_rfl) (.tmp (.tmp (.tmp (.tmp .nil)))))) rfl ?_
              exact ⟨by first | rfl | (simp [errW_none, errW_some] <;> rfl) | (simp only [← hji2]; first | rfl | (simp [errW_none, errW_some] <;> rfl)) | (simp [*, errW_none, errW_some] <;> rfl), by repeat (first | (with_reducible first | exact HB.out | apply below_alloc | apply pw_below_drewN | apply below_drew1 | refine below_set ?_ GE135.out | refine below_set ?_ GE136.out | refine below_set ?_ GE141.out) | exact HB.out)⟩
  ·rw [if_neg c4] at H
   exact absurd H (by simp)
 ·rw [if_neg c3] at H
  exact absurd H (by simp)

end Go.Proofs.Ytcfipamdinfomaa.Xb
