/- Slimmed by this session: what nothing names is struck out. -/
import Derived.Test.YteblbknmikieoaaXb0
import Derived.Test.YteblbknmikieoaaXbZ
import Derived.Test.YteblbknmikieoaaXbK3
namespace Go.Proofs.Yteblbknmikieoaa.Xb
open Go.RowKit Go.Proofs.YteblbknmikieoaaW.PrintWords Go.Proofs.YteblbknmikieoaaW.PrintLast Go.Proofs.YteblbknmikieoaaW.PrintMore
set_option maxHeartbeats 8000000
set_option maxRecDepth 100000
set_option linter.unusedVariables false
set_option linter.unusedSimpArgs false
attribute [local go_sem] max2_int min2_int max_two min_two max_three min_three max_four min_four
mutual
def r9_fits.j0 : Nat → Int → Int → Int → Bool → Int → Int → Int → Int → Int → Int → Int → Option (Bool)
 | 0, _, _, _, _, _, _, _, _, _, _, _ => none
 | k + 1, x6, x7, x8, x9, x364000, x364001, x364002, x364003, x364004, x364005, x364006 => if x364000 = 1 then (if x364005 ≥ 0 then ((r8_Mask.f x364001).bind fun t367 => (if x364005 ≤ t367 then (some (x364006 == 0)) else (some false))) else (some false)) else (if x364000 = 21 then (r9_fits.j1 k x6 x7 x8 x9 x364000 (x364000 == 21) x364000 x364001 x364002 x364003 x364004 x364005 x364006) else (r9_fits.j1 k x6 x7 x8 x9 x364000 (x364000 == 22) x364000 x364001 x364002 x364003 x364004 x364005 x364006))
def r9_fits.j1 : Nat → Int → Int → Int → Bool → Int → Bool → Int → Int → Int → Int → Int → Int → Int → Option (Bool)
 | 0, _, _, _, _, _, _, _, _, _, _, _, _, _ => none
 | k + 1, x6, x7, x8, x9, x39, x58, x364000, x364001, x364002, x364003, x364004, x364005, x364006 => if x58 = true then (some x9) else (if x39 = 3 then (if x9 = true then (some (x6 == x364001)) else (some false)) else (if x39 = 4 then (r9_fits.j2 k x6 x7 x8 x9 x39 (x39 == 4) x364000 x364001 x364002 x364003 x364004 x364005 x364006) else (r9_fits.j2 k x6 x7 x8 x9 x39 (x39 == 5) x364000 x364001 x364002 x364003 x364004 x364005 x364006)))
def r9_fits.j2 : Nat → Int → Int → Int → Bool → Int → Bool → Int → Int → Int → Int → Int → Int → Int → Option (Bool)
 | 0, _, _, _, _, _, _, _, _, _, _, _, _, _ => none
 | k + 1, x6, x7, x8, x9, x39, x71, x364000, x364001, x364002, x364003, x364004, x364005, x364006 => if x71 = true then (if x364005 = 0 then (if x364001 = 1 then (if x6 = x364006 then (some (decide (x6 > 0))) else (some false)) else (some false)) else (some false)) else (if x39 = 6 then (r9_fits.j3 k x6 x7 x8 x9 x39 (x39 == 6) x364000 x364001 x364002 x364003 x364004 x364005 x364006) else (if x39 = 7 then (r9_fits.j3 k x6 x7 x8 x9 x39 (x39 == 7) x364000 x364001 x364002 x364003 x364004 x364005 x364006) else (if x39 = 8 then (r9_fits.j3 k x6 x7 x8 x9 x39 (x39 == 8) x364000 x364001 x364002 x364003 x364004 x364005 x364006) else (if x39 = 9 then (r9_fits.j3 k x6 x7 x8 x9 x39 (x39 == 9) x364000 x364001 x364002 x364003 x364004 x364005 x364006) else (if x39 = 10 then (r9_fits.j3 k x6 x7 x8 x9 x39 (x39 == 10) x364000 x364001 x364002 x364003 x364004 x364005 x364006) else (r9_fits.j3 k x6 x7 x8 x9 x39 (x39 == 11) x364000 x364001 x364002 x364003 x364004 x364005 x364006))))))
def r9_fits.j3 : Nat → Int → Int → Int → Bool → Int → Bool → Int → Int → Int → Int → Int → Int → Int → Option (Bool)
 | 0, _, _, _, _, _, _, _, _, _, _, _, _, _ => none
 | k + 1, x6, x7, x8, x9, x39, x92, x364000, x364001, x364002, x364003, x364004, x364005, x364006 => if x92 = true then (if x9 = true then (if x6 = x364001 then (some (x7 == x364001)) else (some false)) else (some false)) else (if x39 = 12 then (r9_fits.j4 k x6 x7 x8 x9 x39 (x39 == 12) x364000 x364001 x364002 x364003 x364004 x364005 x364006) else (if x39 = 13 then (r9_fits.j4 k x6 x7 x8 x9 x39 (x39 == 13) x364000 x364001 x364002 x364003 x364004 x364005 x364006) else (if x39 = 14 then (r9_fits.j4 k x6 x7 x8 x9 x39 (x39 == 14) x364000 x364001 x364002 x364003 x364004 x364005 x364006) else (r9_fits.j4 k x6 x7 x8 x9 x39 (x39 == 15) x364000 x364001 x364002 x364003 x364004 x364005 x364006))))
def r9_fits.j4 : Nat → Int → Int → Int → Bool → Int → Bool → Int → Int → Int → Int → Int → Int → Int → Option (Bool)
 | 0, _, _, _, _, _, _, _, _, _, _, _, _, _ => none
 | k + 1, x6, x7, x8, x9, x39, x112, x364000, x364001, x364002, x364003, x364004, x364005, x364006 => if x112 = true then (if x364005 = 0 then (if x364001 = 1 then (if x6 = x364006 then (if x7 = x364006 then (some (decide (x6 > 0))) else (some false)) else (some false)) else (some false)) else (some false)) else (if x39 = 16 then (if x9 = true then (if x6 = 1 then (if x7 = x364001 then (some (x8 == x364001)) else (some false)) else (some false)) else (some false)) else (if x39 = 17 then (if x9 = true then (if x6 > 0 then (if x7 > 0 then (some ((wrap64 (x6 + x7)) == x364001)) else (some false)) else (some false)) else (some false)) else (if x364006 ≥ 0 then (if x364006 ≤ x364005 then (if x364005 < x6 then (some (x364001 == (wrap64 ((wrap64 (x364005 - x364006)) + 1)))) else (some false)) else (some false)) else (some false))))
end
def r9_fits.f (k : Nat) (l0_0 : List (S41)) (l0_1 : List (S47)) (l0_2 : List (S43)) (l0_3 : List (S61)) (l0_4 : List (S47)) (a1 : Int) : Option (Bool) := if 0 ≤ a1 then (if a1 < (l0_0.length : Int) then ((r9_wide.f l0_0 l0_1 l0_2 l0_3 l0_4 ((rd_T41 l0_0 a1).f2) a1).bind fun t364 => ((r9_wide.f l0_0 l0_1 l0_2 l0_3 l0_4 ((rd_T41 l0_0 a1).f3) a1).bind fun t365 => ((r9_wide.f l0_0 l0_1 l0_2 l0_3 l0_4 ((rd_T41 l0_0 a1).f4) a1).bind fun t366 => (if ((rd_T41 l0_0 a1).f5) = 0 then (r9_fits.j0 k t364 t365 t366 (((rd_T41 l0_0 a1).f6) == 0) ((rd_T41 l0_0 a1).f0) ((rd_T41 l0_0 a1).f1) ((rd_T41 l0_0 a1).f2) ((rd_T41 l0_0 a1).f3) ((rd_T41 l0_0 a1).f4) ((rd_T41 l0_0 a1).f5) ((rd_T41 l0_0 a1).f6)) else (r9_fits.j0 k t364 t365 t366 false ((rd_T41 l0_0 a1).f0) ((rd_T41 l0_0 a1).f1) ((rd_T41 l0_0 a1).f2) ((rd_T41 l0_0 a1).f3) ((rd_T41 l0_0 a1).f4) ((rd_T41 l0_0 a1).f5) ((rd_T41 l0_0 a1).f6)))))) else (none)) else (none)
theorem r9_fits.mono_l : ∀ k, (∀ y0 y1 y2 y3 y4 y5 y6 y7 y8 y9 y10, LeO (r9_fits.j0 k y0 y1 y2 y3 y4 y5 y6 y7 y8 y9 y10) (r9_fits.j0 (k + 1) y0 y1 y2 y3 y4 y5 y6 y7 y8 y9 y10)) ∧ (∀ y0 y1 y2 y3 y4 y5 y6 y7 y8 y9 y10 y11 y12, LeO (r9_fits.j1 k y0 y1 y2 y3 y4 y5 y6 y7 y8 y9 y10 y11 y12) (r9_fits.j1 (k + 1) y0 y1 y2 y3 y4 y5 y6 y7 y8 y9 y10 y11 y12)) ∧ (∀ y0 y1 y2 y3 y4 y5 y6 y7 y8 y9 y10 y11 y12, LeO (r9_fits.j2 k y0 y1 y2 y3 y4 y5 y6 y7 y8 y9 y10 y11 y12) (r9_fits.j2 (k + 1) y0 y1 y2 y3 y4 y5 y6 y7 y8 y9 y10 y11 y12)) ∧ (∀ y0 y1 y2 y3 y4 y5 y6 y7 y8 y9 y10 y11 y12, LeO (r9_fits.j3 k y0 y1 y2 y3 y4 y5 y6 y7 y8 y9 y10 y11 y12) (r9_fits.j3 (k + 1) y0 y1 y2 y3 y4 y5 y6 y7 y8 y9 y10 y11 y12)) ∧ (∀ y0 y1 y2 y3 y4 y5 y6 y7 y8 y9 y10 y11 y12, LeO (r9_fits.j4 k y0 y1 y2 y3 y4 y5 y6 y7 y8 y9 y10 y11 y12) (r9_fits.j4 (k + 1) y0 y1 y2 y3 y4 y5 y6 y7 y8 y9 y10 y11 y12))
 | 0 => ⟨fun _ _ _ _ _ _ _ _ _ _ _ r h => by simp [r9_fits.j0] at h, fun _ _ _ _ _ _ _ _ _ _ _ _ _ r h => by simp [r9_fits.j1] at h, fun _ _ _ _ _ _ _ _ _ _ _ _ _ r h => by simp [r9_fits.j2] at h, fun _ _ _ _ _ _ _ _ _ _ _ _ _ r h => by simp [r9_fits.j3] at h, fun _ _ _ _ _ _ _ _ _ _ _ _ _ r h => by simp [r9_fits.j4] at h⟩
 | k + 1 => by
  obtain ⟨ih0, ih1, ih2, ih3, ih4⟩ := r9_fits.mono_l k; refine ⟨?_, ?_, ?_, ?_, ?_⟩ <;> intros <;> (first | unfold r9_fits.j0 | unfold r9_fits.j1 | unfold r9_fits.j2 | unfold r9_fits.j3 | unfold r9_fits.j4) <;> repeat' first | (with_reducible first | apply ih0 | apply ih1 | apply ih2 | apply ih3 | apply ih4 | exact LeO.refl _ | exact LeO.none _ | refine LeO.ite ?_ ?_ | refine LeO.bind ?_ (fun _ => ?_)) | exact LeO.none _ | refine LeO.ite ?_ ?_ | refine LeO.bind ?_ (fun _ => ?_)
theorem r9_fits.mono : ∀ a0 a1 a2 a3 a4 a5 k, LeO (r9_fits.f k a0 a1 a2 a3 a4 a5) (r9_fits.f (k + 1) a0 a1 a2 a3 a4 a5) := by
 intro a0 a1 a2 a3 a4 a5 k
 obtain ⟨ih1, ih2, ih3, ih4, ih5⟩ := r9_fits.mono_l k; unfold r9_fits.f
 repeat' first | (with_reducible first | apply ih1 | apply ih2 | apply ih3 | apply ih4 | apply ih5 | exact LeO.refl _ | exact LeO.none _ | refine LeO.ite ?_ ?_ | refine LeO.bind ?_ (fun _ => ?_)) | exact LeO.none _ | refine LeO.ite ?_ ?_ | refine LeO.bind ?_ (fun _ => ?_)
theorem z70_1 {P : Prop} (h : P := by
 clear c11; obtain rfl := Option.some.inj H; have hnb1 := NB1_361.out; have hnc1 := NB1_363.out; obtain ⟨i10_0, i10_1, i10_2, i10_3, i10_4, i6_5, i6_6, j10_0, j10_1, j10_2, j10_3, j10_4, j6_5, j6_6⟩ := cells7 BK2.out; go_wp2_with (first | (go_at_call 24; (with_reducible refine (r8_Mask.calls ((rd_T41 l0_0 a1).f1) t4 _ A2.out).mono ?_); rintro e w' ⟨rfl, ⟨nd, rfl⟩⟩; (try first | exact ⟨rfl, _, World.drewN_drewN _ _ _⟩ | exact ⟨rfl, _, Eq.trans (World.drewN_drewN _ _ _) (congrArg (World.drewN _) (Nat.add_assoc _ _ _))⟩)))
 repeat (go_quiet (first | (go_at_call 24; (with_reducible refine (r8_Mask.calls ((rd_T41 l0_0 a1).f1) t4 _ A2.out).mono ?_); rintro e w' ⟨rfl, ⟨nd, rfl⟩⟩; (try first | exact ⟨rfl, _, World.drewN_drewN _ _ _⟩ | exact ⟨rfl, _, Eq.trans (World.drewN_drewN _ _ _) (congrArg (World.drewN _) (Nat.add_assoc _ _ _))⟩))); try go_wp2_with (first | (go_at_call 24; (with_reducible refine (r8_Mask.calls ((rd_T41 l0_0 a1).f1) t4 _ A2.out).mono ?_); rintro e w' ⟨rfl, ⟨nd, rfl⟩⟩; (try first | exact ⟨rfl, _, World.drewN_drewN _ _ _⟩ | exact ⟨rfl, _, Eq.trans (World.drewN_drewN _ _ _) (congrArg (World.drewN _) (Nat.add_assoc _ _ _))⟩))))
 go_ret
 exact ⟨q11z, q3z HB GE1 GE2⟩) : P := h
theorem z70_12 {P : Prop} (h : P := by
 go_wp2
 repeat (go_quiet (fail); try go_wp2)
 go_ret
 exact ⟨q11z, q3z HB GE1 GE2⟩) : P := h
theorem z70_11 {P : Prop} (h : P := by
 obtain rfl := Option.some.inj H; exact z70_12) : P := h
theorem z70_10 {P : Prop} (h : P := by
 clear H; have H := H1; clear H1; exact z70_11) : P := h
theorem z70_9 {P : Prop} (h : P := by
 have H1 : (some false) = some r := by rw [if_neg (show ¬ (false = true) by decide)] at H; exact H
 exact z70_10) : P := h
theorem z70_4 {P : Prop} (h : P := by
 obtain rfl := Option.some.inj H; have hnb1 := NB1_361.out; have hnc1 := NB1_363.out; obtain ⟨i15_0, i15_1, i15_2, i15_3, i15_4, i11_5, i11_6, j15_0, j15_1, j15_2, j15_3, j15_4, j11_5, j11_6⟩ := cells7 BK2.out; exact z70_12) : P := h
theorem z70_3 {P : Prop} (h : P := by
 obtain rfl := Option.some.inj H; have hnb1 := NB1_361.out; have hnc1 := NB1_363.out; obtain ⟨i19_0, i19_1, i19_2, i19_3, i19_4, i15_5, i15_6, j19_0, j19_1, j19_2, j19_3, j19_4, j15_5, j15_6⟩ := cells7 BK2.out; exact z70_12) : P := h
theorem z70_8 {P : Prop} (h : P := by
 obtain rfl := Option.some.inj H; have hnb1 := NB1_361.out; have hnc1 := NB1_363.out; obtain ⟨i1_0, i1_1, i1_2, i1_3, i1_4, i1_5, i1_6, j1_0, j1_1, j1_2, j1_3, j1_4, j1_5, j1_6⟩ := cells7 BK2.out; exact z70_12) : P := h
theorem z70_2 {P : Prop} (h : P := by
 rw [if_neg c11] at H; obtain ⟨c1b0, c1b1⟩ := zne c11; exact z70_8) : P := h
theorem z70_6 {P : Prop} (h : P := by
 clear c11; exact z70_8) : P := h
theorem z70_5 {P : Prop} (h : P := by
 replace c9 := Bool.eq_false_iff.mpr c9; subst c9; exact z70_9) : P := h
theorem z70_7 {P : Prop} (h : P := by
 clear c10; exact z70_8) : P := h
theorem r9_fits.calls (k : Nat) (A0_0 : Option Addr) (c0_0 : Nat) (l0_0 : List (S41)) (A0_1 : Option Addr) (c0_1 : Nat) (l0_1 : List (S47)) (A0_2 : Option Addr) (c0_2 : Nat) (l0_2 : List (S43)) (A0_3 : Option Addr) (c0_3 : Nat) (l0_3 : List (S61)) (A0_4 : Option Addr) (c0_4 : Nat) (l0_4 : List (S47)) (a1 : Int) (r : Bool) (w : World) (hr0_0 : Kd.C k41 w A0_0 l0_0.length l0_0) (hc0_0 : l0_0.length ≤ c0_0) (hr0_1 : Kd.C k47 w A0_1 l0_1.length l0_1) (hc0_1 : l0_1.length ≤ c0_1) (hr0_2 : Kd.C k43 w A0_2 l0_2.length l0_2) (hc0_2 : l0_2.length ≤ c0_2) (hr0_3 : Kd.C k61 w A0_3 l0_3.length l0_3) (hc0_3 : l0_3.length ≤ c0_3) (hr0_4 : Kd.C k47 w A0_4 l0_4.length l0_4) (hc0_4 : l0_4.length ≤ c0_4) (h : r9_fits.f k l0_0 l0_1 l0_2 l0_3 l0_4 a1 = some r) :
  Calls Try.prog 52 #[.agg #[.slice A0_0 l0_0.length c0_0, .slice A0_1 l0_1.length c0_1, .slice A0_2 l0_2.length c0_2, .slice A0_3 l0_3.length c0_3, .slice A0_4 l0_4.length c0_4], .int .i64 a1] w fun e w' => e = .returned (.bool r) ∧ Below w.heap.size w w' := by
 have hu1 := Try.underlying27; have hu1 := Try.underlying41; have HR1_0 := aM hr0_0; have HC1_0 := aM hc0_0; clear hr0_0 hc0_0; have HR1_1 := aM hr0_1; have HC1_1 := aM hc0_1; clear hr0_1 hc0_1; have HR1_2 := aM hr0_2; have HC1_2 := aM hc0_2; clear hr0_2 hc0_2; have HR1_3 := aM hr0_3; have HC1_3 := aM hc0_3; clear hr0_3 hc0_3; have HR1_4 := aM hr0_4; have HC1_4 := aM hc0_4; clear hr0_4 hc0_4; have HB := aM (Below.refl w.heap.size w); have H : (if 0 ≤ a1 then (if a1 < (l0_0.length : Int) then ((r9_wide.f l0_0 l0_1 l0_2 l0_3 l0_4 ((rd_T41 l0_0 a1).f2) a1).bind fun t1 => ((r9_wide.f l0_0 l0_1 l0_2 l0_3 l0_4 ((rd_T41 l0_0 a1).f3) a1).bind fun t2 => ((r9_wide.f l0_0 l0_1 l0_2 l0_3 l0_4 ((rd_T41 l0_0 a1).f4) a1).bind fun t3 => (if ((rd_T41 l0_0 a1).f5) = 0 then (r9_fits.j0 k t1 t2 t3 (((rd_T41 l0_0 a1).f6) == 0) ((rd_T41 l0_0 a1).f0) ((rd_T41 l0_0 a1).f1) ((rd_T41 l0_0 a1).f2) ((rd_T41 l0_0 a1).f3) ((rd_T41 l0_0 a1).f4) ((rd_T41 l0_0 a1).f5) ((rd_T41 l0_0 a1).f6)) else (r9_fits.j0 k t1 t2 t3 false ((rd_T41 l0_0 a1).f0) ((rd_T41 l0_0 a1).f1) ((rd_T41 l0_0 a1).f2) ((rd_T41 l0_0 a1).f3) ((rd_T41 l0_0 a1).f4) ((rd_T41 l0_0 a1).f5) ((rd_T41 l0_0 a1).f6)))))) else (none)) else (none)) = some r := h; clear h; by_cases c3 : 0 ≤ a1
 ·rw [if_pos c3] at H; have c1b0 := decide_eq_true c3; clear c3; by_cases c4 : a1 < (l0_0.length : Int)
  ·rw [if_pos c4] at H; have c2b0 := decide_eq_true c4; clear c4; replace H := Option.bind_eq_some_iff.mp H; obtain ⟨t1, A1, H⟩ := H; have A2 := aM A1; clear A1; replace H := Option.bind_eq_some_iff.mp H; obtain ⟨t2, A1, H⟩ := H; have A3 := aM A1; clear A1; replace H := Option.bind_eq_some_iff.mp H; obtain ⟨t3, A1, H⟩ := H; have A4 := aM A1; clear A1; have HC1 := aM H; clear H; go_enter Try.func52, Try.ntmps52
   go_upto_region 5 with (first | ((with_reducible refine zgd 2 rfl ?_); refine zbox 2 #[.slice A0_0 l0_0.length c0_0, .slice A0_1 l0_1.length c0_1, .slice A0_2 l0_2.length c0_2, .slice A0_3 l0_3.length c0_3, .slice A0_4 l0_4.length c0_4] 27 ?_; intro gb1 hg w1 hbox hb; have BK1 := aM (hbox); have GW1 := aM ((q7z HB : w.heap.size ≤ gb1)); have GE1 := aM ((q7z HB : w.heap.size ≤ gb1)); replace HB := aM (ym (q5z HB) hb); clear hb hbox hg; obtain ⟨i1_0, i1_1, i1_2, i1_3, i1_4, j1_0, j1_1, j1_2, j1_3, j1_4⟩ := cells5 BK1.out; have p1 : 0 ≤ (a1 : Int) := zod; have q1 : a1 < (l0_0.length : Int) := zod; obtain ⟨ad1, e1, hx1_0, hx1_1, hx1_2, hx1_3, hx1_4, hx1_5, hx1_6⟩ := at_T41 HR1_0.out a1 p1 q1; cases e1; replace hx1_0 := zx HB hx1_0; replace hx1_1 := zx HB hx1_1; replace hx1_2 := zx HB hx1_2; replace hx1_3 := zx HB hx1_3; replace hx1_4 := zx HB hx1_4; replace hx1_5 := zx HB hx1_5; replace hx1_6 := zx HB hx1_6; replace p1 := eq_true p1; replace q1 := eq_true q1) | ((with_reducible refine zgd 5 rfl ?_); refine zbox 5 #[.int .i64 0, .int .i64 0, .int .i64 0, .int .i64 0, .int .i64 0, .int .i64 0, .int .i64 0] 41 ?_; intro gb2 hg w2 hbox hb; have BK2 := aM (hbox); have GW2 := aM ((q12z HB GE1 : w.heap.size ≤ gb2)); have GE2 := aM ((q12z HB GE1 : w.heap.size ≤ gb2)); replace HB := aM (ym (q4z HB GE1) hb); have NB1_363 := aM ((q34z BK1 : gb1 ≠ gb2)); have NB1_361 := aM ((q35z BK1 : gb2 ≠ gb1)); replace BK1 := aM (yi (zi BK1) hb); clear hb hbox hg; have hnb1 := NB1_361.out; have hnc1 := NB1_363.out; obtain ⟨i2_0, i2_1, i2_2, i2_3, i2_4, i1_5, i1_6, j2_0, j2_1, j2_2, j2_3, j2_4, j1_5, j1_6⟩ := cells7 BK2.out; obtain ⟨i3_0, i3_1, i3_2, i3_3, i3_4, j3_0, j3_1, j3_2, j3_3, j3_4⟩ := cells5 BK1.out) | (go_at_call 53; (with_reducible refine (r9_wide.calls _ _ l0_0 _ _ l0_1 _ _ l0_2 _ _ l0_3 _ _ l0_4 ((rd_T41 l0_0 a1).f2) a1 t1 _ ?side1 ?side2 ?side3 ?side4 ?side5 ?side6 ?side7 ?side8 ?side9 ?side10 A2.out).mono ?_); (case side1 => exact q18z HR1_0 HB GE1 GE2); (case side2 => exact HC1_0.out); (case side3 => exact q18z HR1_1 HB GE1 GE2); (case side4 => exact HC1_1.out); (case side5 => exact q18z HR1_2 HB GE1 GE2); (case side6 => exact HC1_2.out); (case side7 => exact q18z HR1_3 HB GE1 GE2); (case side8 => exact HC1_3.out); (case side9 => exact q18z HR1_4 HB GE1 GE2); (case side10 => exact HC1_4.out); rintro e w3 ⟨rfl, hb⟩; replace BK1 := aM (yi (g := gb1) (o := .cells #[.slice (some ad1) l0_0.length c0_0, .slice A0_1 l0_1.length c0_1, .slice A0_2 l0_2.length c0_2, .slice A0_3 l0_3.length c0_3, .slice A0_4 l0_4.length c0_4] 27 (0, 0)) (q8z NB1_363 BK1) hb); replace BK2 := aM (yi (g := gb2) (o := .cells #[.int .i64 ((rd_T41 l0_0 a1).f0), .int .i64 ((rd_T41 l0_0 a1).f1), .int .i64 ((rd_T41 l0_0 a1).f2), .int .i64 ((rd_T41 l0_0 a1).f3), .int .i64 ((rd_T41 l0_0 a1).f4), .int .i64 ((rd_T41 l0_0 a1).f5), .int .i64 ((rd_T41 l0_0 a1).f6)] 41 (0, 0)) (q6z BK2) hb); replace HB := aM (ym (q3z HB GE1 GE2) hb); (try clear hb); (try clear hb2); (try clear hk); (try clear hi); obtain ⟨i4_0, i4_1, i4_2, i4_3, i4_4, j4_0, j4_1, j4_2, j4_3, j4_4⟩ := cells5 BK1.out; obtain ⟨i5_0, i5_1, i5_2, i5_3, i5_4, i2_5, i2_6, j5_0, j5_1, j5_2, j5_3, j5_4, j2_5, j2_6⟩ := cells7 BK2.out) | (go_at_call 53; (with_reducible refine (r9_wide.calls _ _ l0_0 _ _ l0_1 _ _ l0_2 _ _ l0_3 _ _ l0_4 ((rd_T41 l0_0 a1).f3) a1 t2 _ ?side1 ?side2 ?side3 ?side4 ?side5 ?side6 ?side7 ?side8 ?side9 ?side10 A3.out).mono ?_); (case side1 => exact q1z HR1_0 HB); (case side2 => exact HC1_0.out); (case side3 => exact q1z HR1_1 HB); (case side4 => exact HC1_1.out); (case side5 => exact q1z HR1_2 HB); (case side6 => exact HC1_2.out); (case side7 => exact q1z HR1_3 HB); (case side8 => exact HC1_3.out); (case side9 => exact q1z HR1_4 HB); (case side10 => exact HC1_4.out); rintro e w4 ⟨rfl, hb⟩; replace BK1 := aM (yi (zi BK1) hb); replace BK2 := aM (yi (zi BK2) hb); replace HB := aM (ym (q3z HB GE1 GE2) hb); (try clear hb); (try clear hb2); (try clear hk); (try clear hi); obtain ⟨i6_0, i6_1, i6_2, i6_3, i6_4, j6_0, j6_1, j6_2, j6_3, j6_4⟩ := cells5 BK1.out; obtain ⟨i7_0, i7_1, i7_2, i7_3, i7_4, i3_5, i3_6, j7_0, j7_1, j7_2, j7_3, j7_4, j3_5, j3_6⟩ := cells7 BK2.out) | (go_at_call 53; (with_reducible refine (r9_wide.calls _ _ l0_0 _ _ l0_1 _ _ l0_2 _ _ l0_3 _ _ l0_4 ((rd_T41 l0_0 a1).f4) a1 t3 _ ?side1 ?side2 ?side3 ?side4 ?side5 ?side6 ?side7 ?side8 ?side9 ?side10 A4.out).mono ?_); (case side1 => exact q1z HR1_0 HB); (case side2 => exact HC1_0.out); (case side3 => exact q1z HR1_1 HB); (case side4 => exact HC1_1.out); (case side5 => exact q1z HR1_2 HB); (case side6 => exact HC1_2.out); (case side7 => exact q1z HR1_3 HB); (case side8 => exact HC1_3.out); (case side9 => exact q1z HR1_4 HB); (case side10 => exact HC1_4.out); rintro e w5 ⟨rfl, hb⟩; replace BK1 := aM (yi (zi BK1) hb); replace BK2 := aM (yi (zi BK2) hb); replace HB := aM (ym (q3z HB GE1 GE2) hb); (try clear hb); (try clear hb2); (try clear hk); (try clear hi)))
   repeat (go_quiet (first | ((with_reducible refine zgd 2 rfl ?_); refine zbox 2 #[.slice A0_0 l0_0.length c0_0, .slice A0_1 l0_1.length c0_1, .slice A0_2 l0_2.length c0_2, .slice A0_3 l0_3.length c0_3, .slice A0_4 l0_4.length c0_4] 27 ?_; intro gb1 hg w1 hbox hb; have BK1 := aM (hbox); have GW1 := aM ((q7z HB : w.heap.size ≤ gb1)); have GE1 := aM ((q7z HB : w.heap.size ≤ gb1)); replace HB := aM (ym (q5z HB) hb); clear hb hbox hg; obtain ⟨i1_0, i1_1, i1_2, i1_3, i1_4, j1_0, j1_1, j1_2, j1_3, j1_4⟩ := cells5 BK1.out; have p1 : 0 ≤ (a1 : Int) := zod; have q1 : a1 < (l0_0.length : Int) := zod; obtain ⟨ad1, e1, hx1_0, hx1_1, hx1_2, hx1_3, hx1_4, hx1_5, hx1_6⟩ := at_T41 HR1_0.out a1 p1 q1; cases e1; replace hx1_0 := zx HB hx1_0; replace hx1_1 := zx HB hx1_1; replace hx1_2 := zx HB hx1_2; replace hx1_3 := zx HB hx1_3; replace hx1_4 := zx HB hx1_4; replace hx1_5 := zx HB hx1_5; replace hx1_6 := zx HB hx1_6; replace p1 := eq_true p1; replace q1 := eq_true q1) | ((with_reducible refine zgd 5 rfl ?_); refine zbox 5 #[.int .i64 0, .int .i64 0, .int .i64 0, .int .i64 0, .int .i64 0, .int .i64 0, .int .i64 0] 41 ?_; intro gb2 hg w2 hbox hb; have BK2 := aM (hbox); have GW2 := aM ((q12z HB GE1 : w.heap.size ≤ gb2)); have GE2 := aM ((q12z HB GE1 : w.heap.size ≤ gb2)); replace HB := aM (ym (q4z HB GE1) hb); have NB1_363 := aM ((q34z BK1 : gb1 ≠ gb2)); have NB1_361 := aM ((q35z BK1 : gb2 ≠ gb1)); replace BK1 := aM (yi (zi BK1) hb); clear hb hbox hg; have hnb1 := NB1_361.out; have hnc1 := NB1_363.out; obtain ⟨i2_0, i2_1, i2_2, i2_3, i2_4, i1_5, i1_6, j2_0, j2_1, j2_2, j2_3, j2_4, j1_5, j1_6⟩ := cells7 BK2.out; obtain ⟨i3_0, i3_1, i3_2, i3_3, i3_4, j3_0, j3_1, j3_2, j3_3, j3_4⟩ := cells5 BK1.out) | (go_at_call 53; (with_reducible refine (r9_wide.calls _ _ l0_0 _ _ l0_1 _ _ l0_2 _ _ l0_3 _ _ l0_4 ((rd_T41 l0_0 a1).f2) a1 t1 _ ?side1 ?side2 ?side3 ?side4 ?side5 ?side6 ?side7 ?side8 ?side9 ?side10 A2.out).mono ?_); (case side1 => exact q18z HR1_0 HB GE1 GE2); (case side2 => exact HC1_0.out); (case side3 => exact q18z HR1_1 HB GE1 GE2); (case side4 => exact HC1_1.out); (case side5 => exact q18z HR1_2 HB GE1 GE2); (case side6 => exact HC1_2.out); (case side7 => exact q18z HR1_3 HB GE1 GE2); (case side8 => exact HC1_3.out); (case side9 => exact q18z HR1_4 HB GE1 GE2); (case side10 => exact HC1_4.out); rintro e w3 ⟨rfl, hb⟩; replace BK1 := aM (yi (g := gb1) (o := .cells #[.slice (some ad1) l0_0.length c0_0, .slice A0_1 l0_1.length c0_1, .slice A0_2 l0_2.length c0_2, .slice A0_3 l0_3.length c0_3, .slice A0_4 l0_4.length c0_4] 27 (0, 0)) (q8z NB1_363 BK1) hb); replace BK2 := aM (yi (g := gb2) (o := .cells #[.int .i64 ((rd_T41 l0_0 a1).f0), .int .i64 ((rd_T41 l0_0 a1).f1), .int .i64 ((rd_T41 l0_0 a1).f2), .int .i64 ((rd_T41 l0_0 a1).f3), .int .i64 ((rd_T41 l0_0 a1).f4), .int .i64 ((rd_T41 l0_0 a1).f5), .int .i64 ((rd_T41 l0_0 a1).f6)] 41 (0, 0)) (q6z BK2) hb); replace HB := aM (ym (q3z HB GE1 GE2) hb); (try clear hb); (try clear hb2); (try clear hk); (try clear hi); obtain ⟨i4_0, i4_1, i4_2, i4_3, i4_4, j4_0, j4_1, j4_2, j4_3, j4_4⟩ := cells5 BK1.out; obtain ⟨i5_0, i5_1, i5_2, i5_3, i5_4, i2_5, i2_6, j5_0, j5_1, j5_2, j5_3, j5_4, j2_5, j2_6⟩ := cells7 BK2.out) | (go_at_call 53; (with_reducible refine (r9_wide.calls _ _ l0_0 _ _ l0_1 _ _ l0_2 _ _ l0_3 _ _ l0_4 ((rd_T41 l0_0 a1).f3) a1 t2 _ ?side1 ?side2 ?side3 ?side4 ?side5 ?side6 ?side7 ?side8 ?side9 ?side10 A3.out).mono ?_); (case side1 => exact q1z HR1_0 HB); (case side2 => exact HC1_0.out); (case side3 => exact q1z HR1_1 HB); (case side4 => exact HC1_1.out); (case side5 => exact q1z HR1_2 HB); (case side6 => exact HC1_2.out); (case side7 => exact q1z HR1_3 HB); (case side8 => exact HC1_3.out); (case side9 => exact q1z HR1_4 HB); (case side10 => exact HC1_4.out); rintro e w4 ⟨rfl, hb⟩; replace BK1 := aM (yi (zi BK1) hb); replace BK2 := aM (yi (zi BK2) hb); replace HB := aM (ym (q3z HB GE1 GE2) hb); (try clear hb); (try clear hb2); (try clear hk); (try clear hi); obtain ⟨i6_0, i6_1, i6_2, i6_3, i6_4, j6_0, j6_1, j6_2, j6_3, j6_4⟩ := cells5 BK1.out; obtain ⟨i7_0, i7_1, i7_2, i7_3, i7_4, i3_5, i3_6, j7_0, j7_1, j7_2, j7_3, j7_4, j3_5, j3_6⟩ := cells7 BK2.out) | (go_at_call 53; (with_reducible refine (r9_wide.calls _ _ l0_0 _ _ l0_1 _ _ l0_2 _ _ l0_3 _ _ l0_4 ((rd_T41 l0_0 a1).f4) a1 t3 _ ?side1 ?side2 ?side3 ?side4 ?side5 ?side6 ?side7 ?side8 ?side9 ?side10 A4.out).mono ?_); (case side1 => exact q1z HR1_0 HB); (case side2 => exact HC1_0.out); (case side3 => exact q1z HR1_1 HB); (case side4 => exact HC1_1.out); (case side5 => exact q1z HR1_2 HB); (case side6 => exact HC1_2.out); (case side7 => exact q1z HR1_3 HB); (case side8 => exact HC1_3.out); (case side9 => exact q1z HR1_4 HB); (case side10 => exact HC1_4.out); rintro e w5 ⟨rfl, hb⟩; replace BK1 := aM (yi (zi BK1) hb); replace BK2 := aM (yi (zi BK2) hb); replace HB := aM (ym (q3z HB GE1 GE2) hb); (try clear hb); (try clear hb2); (try clear hk); (try clear hi))); go_upto_region 5 with (first | ((with_reducible refine zgd 2 rfl ?_); refine zbox 2 #[.slice A0_0 l0_0.length c0_0, .slice A0_1 l0_1.length c0_1, .slice A0_2 l0_2.length c0_2, .slice A0_3 l0_3.length c0_3, .slice A0_4 l0_4.length c0_4] 27 ?_; intro gb1 hg w1 hbox hb; have BK1 := aM (hbox); have GW1 := aM ((q7z HB : w.heap.size ≤ gb1)); have GE1 := aM ((q7z HB : w.heap.size ≤ gb1)); replace HB := aM (ym (q5z HB) hb); clear hb hbox hg; obtain ⟨i1_0, i1_1, i1_2, i1_3, i1_4, j1_0, j1_1, j1_2, j1_3, j1_4⟩ := cells5 BK1.out; have p1 : 0 ≤ (a1 : Int) := zod; have q1 : a1 < (l0_0.length : Int) := zod; obtain ⟨ad1, e1, hx1_0, hx1_1, hx1_2, hx1_3, hx1_4, hx1_5, hx1_6⟩ := at_T41 HR1_0.out a1 p1 q1; cases e1; replace hx1_0 := zx HB hx1_0; replace hx1_1 := zx HB hx1_1; replace hx1_2 := zx HB hx1_2; replace hx1_3 := zx HB hx1_3; replace hx1_4 := zx HB hx1_4; replace hx1_5 := zx HB hx1_5; replace hx1_6 := zx HB hx1_6; replace p1 := eq_true p1; replace q1 := eq_true q1) | ((with_reducible refine zgd 5 rfl ?_); refine zbox 5 #[.int .i64 0, .int .i64 0, .int .i64 0, .int .i64 0, .int .i64 0, .int .i64 0, .int .i64 0] 41 ?_; intro gb2 hg w2 hbox hb; have BK2 := aM (hbox); have GW2 := aM ((q12z HB GE1 : w.heap.size ≤ gb2)); have GE2 := aM ((q12z HB GE1 : w.heap.size ≤ gb2)); replace HB := aM (ym (q4z HB GE1) hb); have NB1_363 := aM ((q34z BK1 : gb1 ≠ gb2)); have NB1_361 := aM ((q35z BK1 : gb2 ≠ gb1)); replace BK1 := aM (yi (zi BK1) hb); clear hb hbox hg; have hnb1 := NB1_361.out; have hnc1 := NB1_363.out; obtain ⟨i2_0, i2_1, i2_2, i2_3, i2_4, i1_5, i1_6, j2_0, j2_1, j2_2, j2_3, j2_4, j1_5, j1_6⟩ := cells7 BK2.out; obtain ⟨i3_0, i3_1, i3_2, i3_3, i3_4, j3_0, j3_1, j3_2, j3_3, j3_4⟩ := cells5 BK1.out) | (go_at_call 53; (with_reducible refine (r9_wide.calls _ _ l0_0 _ _ l0_1 _ _ l0_2 _ _ l0_3 _ _ l0_4 ((rd_T41 l0_0 a1).f2) a1 t1 _ ?side1 ?side2 ?side3 ?side4 ?side5 ?side6 ?side7 ?side8 ?side9 ?side10 A2.out).mono ?_); (case side1 => exact q18z HR1_0 HB GE1 GE2); (case side2 => exact HC1_0.out); (case side3 => exact q18z HR1_1 HB GE1 GE2); (case side4 => exact HC1_1.out); (case side5 => exact q18z HR1_2 HB GE1 GE2); (case side6 => exact HC1_2.out); (case side7 => exact q18z HR1_3 HB GE1 GE2); (case side8 => exact HC1_3.out); (case side9 => exact q18z HR1_4 HB GE1 GE2); (case side10 => exact HC1_4.out); rintro e w3 ⟨rfl, hb⟩; replace BK1 := aM (yi (g := gb1) (o := .cells #[.slice (some ad1) l0_0.length c0_0, .slice A0_1 l0_1.length c0_1, .slice A0_2 l0_2.length c0_2, .slice A0_3 l0_3.length c0_3, .slice A0_4 l0_4.length c0_4] 27 (0, 0)) (q8z NB1_363 BK1) hb); replace BK2 := aM (yi (g := gb2) (o := .cells #[.int .i64 ((rd_T41 l0_0 a1).f0), .int .i64 ((rd_T41 l0_0 a1).f1), .int .i64 ((rd_T41 l0_0 a1).f2), .int .i64 ((rd_T41 l0_0 a1).f3), .int .i64 ((rd_T41 l0_0 a1).f4), .int .i64 ((rd_T41 l0_0 a1).f5), .int .i64 ((rd_T41 l0_0 a1).f6)] 41 (0, 0)) (q6z BK2) hb); replace HB := aM (ym (q3z HB GE1 GE2) hb); (try clear hb); (try clear hb2); (try clear hk); (try clear hi); obtain ⟨i4_0, i4_1, i4_2, i4_3, i4_4, j4_0, j4_1, j4_2, j4_3, j4_4⟩ := cells5 BK1.out; obtain ⟨i5_0, i5_1, i5_2, i5_3, i5_4, i2_5, i2_6, j5_0, j5_1, j5_2, j5_3, j5_4, j2_5, j2_6⟩ := cells7 BK2.out) | (go_at_call 53; (with_reducible refine (r9_wide.calls _ _ l0_0 _ _ l0_1 _ _ l0_2 _ _ l0_3 _ _ l0_4 ((rd_T41 l0_0 a1).f3) a1 t2 _ ?side1 ?side2 ?side3 ?side4 ?side5 ?side6 ?side7 ?side8 ?side9 ?side10 A3.out).mono ?_); (case side1 => exact q1z HR1_0 HB); (case side2 => exact HC1_0.out); (case side3 => exact q1z HR1_1 HB); (case side4 => exact HC1_1.out); (case side5 => exact q1z HR1_2 HB); (case side6 => exact HC1_2.out); (case side7 => exact q1z HR1_3 HB); (case side8 => exact HC1_3.out); (case side9 => exact q1z HR1_4 HB); (case side10 => exact HC1_4.out); rintro e w4 ⟨rfl, hb⟩; replace BK1 := aM (yi (zi BK1) hb); replace BK2 := aM (yi (zi BK2) hb); replace HB := aM (ym (q3z HB GE1 GE2) hb); (try clear hb); (try clear hb2); (try clear hk); (try clear hi); obtain ⟨i6_0, i6_1, i6_2, i6_3, i6_4, j6_0, j6_1, j6_2, j6_3, j6_4⟩ := cells5 BK1.out; obtain ⟨i7_0, i7_1, i7_2, i7_3, i7_4, i3_5, i3_6, j7_0, j7_1, j7_2, j7_3, j7_4, j3_5, j3_6⟩ := cells7 BK2.out) | (go_at_call 53; (with_reducible refine (r9_wide.calls _ _ l0_0 _ _ l0_1 _ _ l0_2 _ _ l0_3 _ _ l0_4 ((rd_T41 l0_0 a1).f4) a1 t3 _ ?side1 ?side2 ?side3 ?side4 ?side5 ?side6 ?side7 ?side8 ?side9 ?side10 A4.out).mono ?_); (case side1 => exact q1z HR1_0 HB); (case side2 => exact HC1_0.out); (case side3 => exact q1z HR1_1 HB); (case side4 => exact HC1_1.out); (case side5 => exact q1z HR1_2 HB); (case side6 => exact HC1_2.out); (case side7 => exact q1z HR1_3 HB); (case side8 => exact HC1_3.out); (case side9 => exact q1z HR1_4 HB); (case side10 => exact HC1_4.out); rintro e w5 ⟨rfl, hb⟩; replace BK1 := aM (yi (zi BK1) hb); replace BK2 := aM (yi (zi BK2) hb); replace HB := aM (ym (q3z HB GE1 GE2) hb); (try clear hb); (try clear hb2); (try clear hk); (try clear hi))))
   (try simp only [Act.put, yu, yv, yw])
   go_cut [9] (fun v1 wc => ∃ (kq : Nat) (x1_7 : Bool), v1 = .bool x1_7 ∧ Aside0 (r9_fits.j0 kq t1 t2 t3 x1_7 ((rd_T41 l0_0 a1).f0) ((rd_T41 l0_0 a1).f1) ((rd_T41 l0_0 a1).f2) ((rd_T41 l0_0 a1).f3) ((rd_T41 l0_0 a1).f4) ((rd_T41 l0_0 a1).f5) ((rd_T41 l0_0 a1).f6) = some r) ∧ Aside0 (kq ≤ k) ∧ Aside0 (wc.heap[gb1]? = some (.cells #[(.slice (some ad1) l0_0.length c0_0), (.slice A0_1 l0_1.length c0_1), (.slice A0_2 l0_2.length c0_2), (.slice A0_3 l0_3.length c0_3), (.slice A0_4 l0_4.length c0_4)] 27 (0, 0))) ∧ Aside0 (wc.heap[gb2]? = some (.cells #[.int .i64 ((rd_T41 l0_0 a1).f0), .int .i64 ((rd_T41 l0_0 a1).f1), .int .i64 ((rd_T41 l0_0 a1).f2), .int .i64 ((rd_T41 l0_0 a1).f3), .int .i64 ((rd_T41 l0_0 a1).f4), .int .i64 ((rd_T41 l0_0 a1).f5), .int .i64 ((rd_T41 l0_0 a1).f6)] 41 (0, 0))) ∧ Aside0 (Below w.heap.size w wc))
   case first => as_aux_lemma =>
    have H := HC1.out; clear HC1; by_cases c8 : ((rd_T41 l0_0 a1).f5) = 0
    ·rw [if_pos c8] at H; obtain ⟨c3b0, c1b1⟩ := zeq c8; clear c8; (first | rw [c3b0] | (simp only [i64_w, i32_w]; rw [c3b0]) | skip)
     have H' := aM H; clear H; have hnb1 := NB1_361.out; have hnc1 := NB1_363.out; obtain ⟨i8_0, i8_1, i8_2, i8_3, i8_4, i4_5, i4_6, j8_0, j8_1, j8_2, j8_3, j8_4, j4_5, j4_6⟩ := cells7 BK2.out; go_wp2
     repeat (go_quiet (fail); try go_wp2)
     go_meet
     case rel => exact ⟨_, ((((rd_T41 l0_0 a1).f6) == 0)), q13z, H', ⟨q52z⟩, ⟨q10z BK1⟩, ⟨q10z BK2⟩, ⟨q3z HB GE1 GE2⟩⟩
    ·rw [if_neg c8] at H; obtain ⟨c3b0, c1b1⟩ := zne c8; (first | rw [c3b0] | (simp only [i64_w, i32_w]; rw [c3b0]) | skip)
     have H' := aM H; clear H; have hnb1 := NB1_361.out; have hnc1 := NB1_363.out; obtain ⟨i8_0, i8_1, i8_2, i8_3, i8_4, i4_5, i4_6, j8_0, j8_1, j8_2, j8_3, j8_4, j4_5, j4_6⟩ := cells7 BK2.out; go_wp2
     repeat (go_quiet (fail); try go_wp2)
     go_meet
     case rel => exact ⟨_, (false), q13z, H', ⟨q52z⟩, ⟨q10z BK1⟩, ⟨q10z BK2⟩, ⟨q3z HB GE1 GE2⟩⟩
   case rest => as_aux_lemma =>
    clear HC1; try clear c1
    try clear c2
    try clear p2
    try clear c3
    try clear c1b0
    try clear p3
    try clear q3
    try clear hx3
    try clear c4
    try clear c2b0
    try clear c5
    try clear c12
    try clear c8
    try clear c3b0
    try clear c1b1
    try clear c23
    try clear c25
    try clear i1_0 i1_1 i1_2 i1_3 i1_4
    try clear i2_0 i2_1 i2_2 i2_3 i2_4
    try clear i1_5 i1_6
    try clear i3_0 i3_1 i3_2 i3_3 i3_4
    try clear i4_0 i4_1 i4_2 i4_3 i4_4
    try clear i5_0 i5_1 i5_2 i5_3 i5_4
    try clear i2_5 i2_6
    try clear i6_0 i6_1 i6_2 i6_3 i6_4
    try clear i7_0 i7_1 i7_2 i7_3 i7_4
    try clear i3_5 i3_6
    try clear i8_0 i8_1 i8_2 i8_3 i8_4
    try clear i4_5 i4_6
    try clear i9_0 i9_1 i9_2 i9_3 i9_4
    try clear i5_5 i5_6
    try clear j1_0 j1_1 j1_2 j1_3 j1_4
    try clear j2_0 j2_1 j2_2 j2_3 j2_4
    try clear j1_5 j1_6
    try clear j3_0 j3_1 j3_2 j3_3 j3_4
    try clear j4_0 j4_1 j4_2 j4_3 j4_4
    try clear j5_0 j5_1 j5_2 j5_3 j5_4
    try clear j2_5 j2_6
    try clear j6_0 j6_1 j6_2 j6_3 j6_4
    try clear j7_0 j7_1 j7_2 j7_3 j7_4
    try clear j3_5 j3_6
    try clear j8_0 j8_1 j8_2 j8_3 j8_4
    try clear j4_5 j4_6
    try clear j9_0 j9_1 j9_2 j9_3 j9_4
    try clear j5_5 j5_6
    try clear hx1_0
    try clear hx1_1
    try clear hx1_2
    try clear hx1_3
    try clear hx1_4
    try clear hx1_5
    try clear hx1_6
    try clear p1
    try clear q1
    obtain ⟨kq, x1_7, rfl, HA, HJ1, BK1, BK2, HB⟩ := hcut; cases kq with
    | zero => exact absurd HA.out (by simp [r9_fits.j0])
    | succ kj1 =>
     have H := HA.out; clear HA; simp only [r9_fits.j0] at H; by_cases c9 : ((rd_T41 l0_0 a1).f0) = 1
     ·rw [if_pos c9] at H; obtain ⟨c4b0, c2b1⟩ := zeq c9; clear c9; by_cases c10 : ((rd_T41 l0_0 a1).f5) ≥ 0
      ·rw [if_pos c10] at H; have c4b0 : decide (0 ≤ ((rd_T41 l0_0 a1).f5)) = true := decide_eq_true c10; clear c10; replace H := Option.bind_eq_some_iff.mp H; obtain ⟨t4, A1, H⟩ := H; have A2 := aM A1; clear A1; by_cases c11 : ((rd_T41 l0_0 a1).f5) ≤ t4
       ·rw [if_pos c11] at H; have c4b0 := decide_eq_true c11; exact z70_1
       ·rw [if_neg c11] at H; have c4b0 := decide_eq_false c11; exact z70_1
      ·rw [if_neg c10] at H; have c4b0 : decide (0 ≤ ((rd_T41 l0_0 a1).f5)) = false := decide_eq_false c10; clear c10; obtain rfl := Option.some.inj H; have hnb1 := NB1_361.out; have hnc1 := NB1_363.out; obtain ⟨i10_0, i10_1, i10_2, i10_3, i10_4, i6_5, i6_6, j10_0, j10_1, j10_2, j10_3, j10_4, j6_5, j6_6⟩ := cells7 BK2.out; exact z70_12
     ·rw [if_neg c9] at H; obtain ⟨c4b0, c2b1⟩ := zne c9; have HC1 := aM H; clear H; have hnb1 := NB1_361.out; have hnc1 := NB1_363.out; obtain ⟨i10_0, i10_1, i10_2, i10_3, i10_4, i6_5, i6_6, j10_0, j10_1, j10_2, j10_3, j10_4, j6_5, j6_6⟩ := cells7 BK2.out; go_upto_if 58 with (fail)
      repeat (go_quiet (fail); go_upto_if 58 with (fail))
      go_cut [58] (fun v1 wc => ∃ (kq : Nat) (x1_36 : Bool), v1 = .bool x1_36 ∧ Aside0 (r9_fits.j1 kq t1 t2 t3 x1_7 ((rd_T41 l0_0 a1).f0) x1_36 ((rd_T41 l0_0 a1).f0) ((rd_T41 l0_0 a1).f1) ((rd_T41 l0_0 a1).f2) ((rd_T41 l0_0 a1).f3) ((rd_T41 l0_0 a1).f4) ((rd_T41 l0_0 a1).f5) ((rd_T41 l0_0 a1).f6) = some r) ∧ Aside0 (kq ≤ kj1) ∧ Aside0 (wc.heap[gb1]? = some (.cells #[(.slice (some ad1) l0_0.length c0_0), (.slice A0_1 l0_1.length c0_1), (.slice A0_2 l0_2.length c0_2), (.slice A0_3 l0_3.length c0_3), (.slice A0_4 l0_4.length c0_4)] 27 (0, 0))) ∧ Aside0 (wc.heap[gb2]? = some (.cells #[.int .i64 ((rd_T41 l0_0 a1).f0), .int .i64 ((rd_T41 l0_0 a1).f1), .int .i64 ((rd_T41 l0_0 a1).f2), .int .i64 ((rd_T41 l0_0 a1).f3), .int .i64 ((rd_T41 l0_0 a1).f4), .int .i64 ((rd_T41 l0_0 a1).f5), .int .i64 ((rd_T41 l0_0 a1).f6)] 41 (0, 0))) ∧ Aside0 (Below w.heap.size w wc))
      case first => as_aux_lemma =>
       have H := HC1.out; clear HC1; by_cases c10 : ((rd_T41 l0_0 a1).f0) = 21
       ·rw [if_pos c10] at H; obtain ⟨c5b0, c3b1⟩ := zeq c10; clear c10; (first | rw [c5b0] | (simp only [i64_w, i32_w]; rw [c5b0]) | skip)
        have H' := aM H; clear H; go_wp2
        repeat (go_quiet (fail); try go_wp2)
        go_meet
        case rel => exact ⟨_, ((((rd_T41 l0_0 a1).f0) == 21)), q13z, H', ⟨q55z HJ1⟩, ⟨q10z BK1⟩, ⟨q10z BK2⟩, ⟨q3z HB GE1 GE2⟩⟩
       ·rw [if_neg c10] at H; obtain ⟨c5b0, c3b1⟩ := zne c10; (first | rw [c5b0] | (simp only [i64_w, i32_w]; rw [c5b0]) | skip)
        have H' := aM H; clear H; go_wp2
        repeat (go_quiet (fail); try go_wp2)
        go_meet
        case rel => exact ⟨_, ((((rd_T41 l0_0 a1).f0) == 22)), q13z, H', ⟨q55z HJ1⟩, ⟨q10z BK1⟩, ⟨q10z BK2⟩, ⟨q3z HB GE1 GE2⟩⟩
      case rest => as_aux_lemma =>
       clear HC1; try clear c1
       try clear c2
       try clear p2
       try clear c3
       try clear c1b0
       try clear p3
       try clear q3
       try clear hx3
       try clear c4
       try clear c2b0
       try clear c5
       try clear c12
       try clear c8
       try clear c3b0
       try clear c1b1
       try clear c23
       try clear c25
       try clear c9
       try clear c4b0
       try clear c2b1
       try clear c10
       try clear c5b0
       try clear c11
       try clear c6b0
       try clear c31
       try clear c33
       try clear c35
       try clear p36
       try clear q36
       try clear hx36
       try clear c38
       try clear c13
       try clear c7b0
       try clear c3b1
       try clear i1_0 i1_1 i1_2 i1_3 i1_4
       try clear i2_0 i2_1 i2_2 i2_3 i2_4
       try clear i1_5 i1_6
       try clear i3_0 i3_1 i3_2 i3_3 i3_4
       try clear i4_0 i4_1 i4_2 i4_3 i4_4
       try clear i5_0 i5_1 i5_2 i5_3 i5_4
       try clear i2_5 i2_6
       try clear i6_0 i6_1 i6_2 i6_3 i6_4
       try clear i7_0 i7_1 i7_2 i7_3 i7_4
       try clear i3_5 i3_6
       try clear i8_0 i8_1 i8_2 i8_3 i8_4
       try clear i4_5 i4_6
       try clear i9_0 i9_1 i9_2 i9_3 i9_4
       try clear i5_5 i5_6
       try clear i11_0 i11_1 i11_2 i11_3 i11_4
       try clear i7_5 i7_6
       try clear i12_0 i12_1 i12_2 i12_3 i12_4
       try clear i8_5 i8_6
       try clear i13_0 i13_1 i13_2 i13_3 i13_4
       try clear i9_5 i9_6
       try clear i10_0 i10_1 i10_2 i10_3 i10_4
       try clear i6_5 i6_6
       try clear j1_0 j1_1 j1_2 j1_3 j1_4
       try clear j2_0 j2_1 j2_2 j2_3 j2_4
       try clear j1_5 j1_6
       try clear j3_0 j3_1 j3_2 j3_3 j3_4
       try clear j4_0 j4_1 j4_2 j4_3 j4_4
       try clear j5_0 j5_1 j5_2 j5_3 j5_4
       try clear j2_5 j2_6
       try clear j6_0 j6_1 j6_2 j6_3 j6_4
       try clear j7_0 j7_1 j7_2 j7_3 j7_4
       try clear j3_5 j3_6
       try clear j8_0 j8_1 j8_2 j8_3 j8_4
       try clear j4_5 j4_6
       try clear j9_0 j9_1 j9_2 j9_3 j9_4
       try clear j5_5 j5_6
       try clear j11_0 j11_1 j11_2 j11_3 j11_4
       try clear j7_5 j7_6
       try clear j12_0 j12_1 j12_2 j12_3 j12_4
       try clear j8_5 j8_6
       try clear j13_0 j13_1 j13_2 j13_3 j13_4
       try clear j9_5 j9_6
       try clear j10_0 j10_1 j10_2 j10_3 j10_4
       try clear j6_5 j6_6
       try clear hx1_0
       try clear hx1_1
       try clear hx1_2
       try clear hx1_3
       try clear hx1_4
       try clear hx1_5
       try clear hx1_6
       try clear p2
       try clear p3
       try clear p1
       try clear q3
       try clear q1
       obtain ⟨kq, x1_36, rfl, HA, HJ2, BK1, BK2, HB⟩ := hcut; cases kq with
       | zero => exact absurd HA.out (by simp [r9_fits.j1])
       | succ kj1 =>
        have H := HA.out; clear HA; simp only [r9_fits.j1] at H; by_cases c14 : x1_36 = true
        ·subst c14; have H1 : (some x1_7) = some r := by rw [if_pos rfl] at H; exact H
         exact z70_10
        ·replace c14 := Bool.eq_false_iff.mpr c14; subst c14; have H1 : (if ((rd_T41 l0_0 a1).f0) = 3 then (if x1_7 = true then (some (t1 == ((rd_T41 l0_0 a1).f1))) else (some false)) else (if ((rd_T41 l0_0 a1).f0) = 4 then (r9_fits.j2 kj1 t1 t2 t3 x1_7 ((rd_T41 l0_0 a1).f0) (((rd_T41 l0_0 a1).f0) == 4) ((rd_T41 l0_0 a1).f0) ((rd_T41 l0_0 a1).f1) ((rd_T41 l0_0 a1).f2) ((rd_T41 l0_0 a1).f3) ((rd_T41 l0_0 a1).f4) ((rd_T41 l0_0 a1).f5) ((rd_T41 l0_0 a1).f6)) else (r9_fits.j2 kj1 t1 t2 t3 x1_7 ((rd_T41 l0_0 a1).f0) (((rd_T41 l0_0 a1).f0) == 5) ((rd_T41 l0_0 a1).f0) ((rd_T41 l0_0 a1).f1) ((rd_T41 l0_0 a1).f2) ((rd_T41 l0_0 a1).f3) ((rd_T41 l0_0 a1).f4) ((rd_T41 l0_0 a1).f5) ((rd_T41 l0_0 a1).f6)))) = some r := by rw [if_neg (show ¬ (false = true) by decide)] at H; exact H
         clear H; have H := H1; clear H1; by_cases c15 : ((rd_T41 l0_0 a1).f0) = 3
         ·rw [if_pos c15] at H; obtain ⟨c8b0, c4b1⟩ := zeq c15; clear c15; by_cases c16 : x1_7 = true
          ·subst c16; have H1 : (some (t1 == ((rd_T41 l0_0 a1).f1))) = some r := by rw [if_pos rfl] at H; exact H
           clear H; have H := H1; clear H1; obtain rfl := Option.some.inj H; have hnb1 := NB1_361.out; have hnc1 := NB1_363.out; obtain ⟨i14_0, i14_1, i14_2, i14_3, i14_4, i10_5, i10_6, j14_0, j14_1, j14_2, j14_3, j14_4, j10_5, j10_6⟩ := cells7 BK2.out; exact z70_12
          ·replace c16 := Bool.eq_false_iff.mpr c16; subst c16; exact z70_9
         ·rw [if_neg c15] at H; obtain ⟨c8b0, c4b1⟩ := zne c15; have HC1 := aM H; clear H; go_upto_if 71 with (fail)
          repeat (go_quiet (fail); go_upto_if 71 with (fail))
          go_cut [71] (fun v1 wc => ∃ (kq : Nat) (x1_45 : Bool), v1 = .bool x1_45 ∧ Aside0 (r9_fits.j2 kq t1 t2 t3 x1_7 ((rd_T41 l0_0 a1).f0) x1_45 ((rd_T41 l0_0 a1).f0) ((rd_T41 l0_0 a1).f1) ((rd_T41 l0_0 a1).f2) ((rd_T41 l0_0 a1).f3) ((rd_T41 l0_0 a1).f4) ((rd_T41 l0_0 a1).f5) ((rd_T41 l0_0 a1).f6) = some r) ∧ Aside0 (kq ≤ kj1) ∧ Aside0 (wc.heap[gb1]? = some (.cells #[(.slice (some ad1) l0_0.length c0_0), (.slice A0_1 l0_1.length c0_1), (.slice A0_2 l0_2.length c0_2), (.slice A0_3 l0_3.length c0_3), (.slice A0_4 l0_4.length c0_4)] 27 (0, 0))) ∧ Aside0 (wc.heap[gb2]? = some (.cells #[.int .i64 ((rd_T41 l0_0 a1).f0), .int .i64 ((rd_T41 l0_0 a1).f1), .int .i64 ((rd_T41 l0_0 a1).f2), .int .i64 ((rd_T41 l0_0 a1).f3), .int .i64 ((rd_T41 l0_0 a1).f4), .int .i64 ((rd_T41 l0_0 a1).f5), .int .i64 ((rd_T41 l0_0 a1).f6)] 41 (0, 0))) ∧ Aside0 (Below w.heap.size w wc))
          case first => as_aux_lemma =>
           have H := HC1.out; clear HC1; by_cases c16 : ((rd_T41 l0_0 a1).f0) = 4
           ·rw [if_pos c16] at H; obtain ⟨c9b0, c5b1⟩ := zeq c16; clear c16; (first | rw [c9b0] | (simp only [i64_w, i32_w]; rw [c9b0]) | skip)
            have H' := aM H; clear H; go_wp2
            repeat (go_quiet (fail); try go_wp2)
            go_meet
            case rel => exact ⟨_, ((((rd_T41 l0_0 a1).f0) == 4)), q13z, H', ⟨q71z HJ1 HJ2⟩, ⟨q10z BK1⟩, ⟨q10z BK2⟩, ⟨q3z HB GE1 GE2⟩⟩
           ·rw [if_neg c16] at H; obtain ⟨c9b0, c5b1⟩ := zne c16; (first | rw [c9b0] | (simp only [i64_w, i32_w]; rw [c9b0]) | skip)
            have H' := aM H; clear H; go_wp2
            repeat (go_quiet (fail); try go_wp2)
            go_meet
            case rel => exact ⟨_, ((((rd_T41 l0_0 a1).f0) == 5)), q13z, H', ⟨q71z HJ1 HJ2⟩, ⟨q10z BK1⟩, ⟨q10z BK2⟩, ⟨q3z HB GE1 GE2⟩⟩
          case rest => as_aux_lemma =>
           clear HC1; try clear c1
           try clear c2
           try clear p2
           try clear c3
           try clear c1b0
           try clear p3
           try clear q3
           try clear hx3
           try clear c4
           try clear c2b0
           try clear c5
           try clear c12
           try clear c8
           try clear c3b0
           try clear c1b1
           try clear c23
           try clear c25
           try clear c9
           try clear c4b0
           try clear c2b1
           try clear c10
           try clear c5b0
           try clear c11
           try clear c6b0
           try clear c31
           try clear c33
           try clear c35
           try clear p36
           try clear q36
           try clear hx36
           try clear c38
           try clear c13
           try clear c7b0
           try clear c3b1
           try clear c14
           try clear c15
           try clear c8b0
           try clear c4b1
           try clear c16
           try clear c44
           try clear c17
           try clear c9b0
           try clear c5b1
           try clear i1_0 i1_1 i1_2 i1_3 i1_4
           try clear i2_0 i2_1 i2_2 i2_3 i2_4
           try clear i1_5 i1_6
           try clear i3_0 i3_1 i3_2 i3_3 i3_4
           try clear i4_0 i4_1 i4_2 i4_3 i4_4
           try clear i5_0 i5_1 i5_2 i5_3 i5_4
           try clear i2_5 i2_6
           try clear i6_0 i6_1 i6_2 i6_3 i6_4
           try clear i7_0 i7_1 i7_2 i7_3 i7_4
           try clear i3_5 i3_6
           try clear i8_0 i8_1 i8_2 i8_3 i8_4
           try clear i4_5 i4_6
           try clear i9_0 i9_1 i9_2 i9_3 i9_4
           try clear i5_5 i5_6
           try clear i11_0 i11_1 i11_2 i11_3 i11_4
           try clear i7_5 i7_6
           try clear i12_0 i12_1 i12_2 i12_3 i12_4
           try clear i8_5 i8_6
           try clear i13_0 i13_1 i13_2 i13_3 i13_4
           try clear i9_5 i9_6
           try clear i10_0 i10_1 i10_2 i10_3 i10_4
           try clear i6_5 i6_6
           try clear i14_0 i14_1 i14_2 i14_3 i14_4
           try clear i10_5 i10_6
           try clear j1_0 j1_1 j1_2 j1_3 j1_4
           try clear j2_0 j2_1 j2_2 j2_3 j2_4
           try clear j1_5 j1_6
           try clear j3_0 j3_1 j3_2 j3_3 j3_4
           try clear j4_0 j4_1 j4_2 j4_3 j4_4
           try clear j5_0 j5_1 j5_2 j5_3 j5_4
           try clear j2_5 j2_6
           try clear j6_0 j6_1 j6_2 j6_3 j6_4
           try clear j7_0 j7_1 j7_2 j7_3 j7_4
           try clear j3_5 j3_6
           try clear j8_0 j8_1 j8_2 j8_3 j8_4
           try clear j4_5 j4_6
           try clear j9_0 j9_1 j9_2 j9_3 j9_4
           try clear j5_5 j5_6
           try clear j11_0 j11_1 j11_2 j11_3 j11_4
           try clear j7_5 j7_6
           try clear j12_0 j12_1 j12_2 j12_3 j12_4
           try clear j8_5 j8_6
           try clear j13_0 j13_1 j13_2 j13_3 j13_4
           try clear j9_5 j9_6
           try clear j10_0 j10_1 j10_2 j10_3 j10_4
           try clear j6_5 j6_6
           try clear j14_0 j14_1 j14_2 j14_3 j14_4
           try clear j10_5 j10_6
           try clear hx1_0
           try clear hx1_1
           try clear hx1_2
           try clear hx1_3
           try clear hx1_4
           try clear hx1_5
           try clear hx1_6
           try clear p2
           try clear p3
           try clear p36
           try clear p1
           try clear q3
           try clear q36
           try clear q1
           obtain ⟨kq, x1_45, rfl, HA, HJ3, BK1, BK2, HB⟩ := hcut; cases kq with
           | zero => exact absurd HA.out (by simp [r9_fits.j2])
           | succ kj1 =>
            have H := HA.out; clear HA; simp only [r9_fits.j2] at H; by_cases c18 : x1_45 = true
            ·subst c18; have H1 : (if ((rd_T41 l0_0 a1).f5) = 0 then (if ((rd_T41 l0_0 a1).f1) = 1 then (if t1 = ((rd_T41 l0_0 a1).f6) then (some (decide (t1 > 0))) else (some false)) else (some false)) else (some false)) = some r := by rw [if_pos rfl] at H; exact H
             clear H; have H := H1; clear H1; by_cases c19 : ((rd_T41 l0_0 a1).f5) = 0
             ·rw [if_pos c19] at H; obtain ⟨c10b0, c6b1⟩ := zeq c19; clear c19; by_cases c20 : ((rd_T41 l0_0 a1).f1) = 1
              ·rw [if_pos c20] at H; obtain ⟨c10b0, c6b1⟩ := zeq c20; clear c20; by_cases c21 : t1 = ((rd_T41 l0_0 a1).f6)
               ·rw [if_pos c21] at H; obtain ⟨c10b0, c6b1⟩ := zeq c21; clear c21; exact z70_4
               ·rw [if_neg c21] at H; obtain ⟨c10b0, c6b1⟩ := zne c21; exact z70_4
              ·rw [if_neg c20] at H; obtain ⟨c10b0, c6b1⟩ := zne c20; exact z70_4
             ·rw [if_neg c19] at H; obtain ⟨c10b0, c6b1⟩ := zne c19; exact z70_4
            ·replace c18 := Bool.eq_false_iff.mpr c18; subst c18; have H1 : (if ((rd_T41 l0_0 a1).f0) = 6 then (r9_fits.j3 kj1 t1 t2 t3 x1_7 ((rd_T41 l0_0 a1).f0) (((rd_T41 l0_0 a1).f0) == 6) ((rd_T41 l0_0 a1).f0) ((rd_T41 l0_0 a1).f1) ((rd_T41 l0_0 a1).f2) ((rd_T41 l0_0 a1).f3) ((rd_T41 l0_0 a1).f4) ((rd_T41 l0_0 a1).f5) ((rd_T41 l0_0 a1).f6)) else (if ((rd_T41 l0_0 a1).f0) = 7 then (r9_fits.j3 kj1 t1 t2 t3 x1_7 ((rd_T41 l0_0 a1).f0) (((rd_T41 l0_0 a1).f0) == 7) ((rd_T41 l0_0 a1).f0) ((rd_T41 l0_0 a1).f1) ((rd_T41 l0_0 a1).f2) ((rd_T41 l0_0 a1).f3) ((rd_T41 l0_0 a1).f4) ((rd_T41 l0_0 a1).f5) ((rd_T41 l0_0 a1).f6)) else (if ((rd_T41 l0_0 a1).f0) = 8 then (r9_fits.j3 kj1 t1 t2 t3 x1_7 ((rd_T41 l0_0 a1).f0) (((rd_T41 l0_0 a1).f0) == 8) ((rd_T41 l0_0 a1).f0) ((rd_T41 l0_0 a1).f1) ((rd_T41 l0_0 a1).f2) ((rd_T41 l0_0 a1).f3) ((rd_T41 l0_0 a1).f4) ((rd_T41 l0_0 a1).f5) ((rd_T41 l0_0 a1).f6)) else (if ((rd_T41 l0_0 a1).f0) = 9 then (r9_fits.j3 kj1 t1 t2 t3 x1_7 ((rd_T41 l0_0 a1).f0) (((rd_T41 l0_0 a1).f0) == 9) ((rd_T41 l0_0 a1).f0) ((rd_T41 l0_0 a1).f1) ((rd_T41 l0_0 a1).f2) ((rd_T41 l0_0 a1).f3) ((rd_T41 l0_0 a1).f4) ((rd_T41 l0_0 a1).f5) ((rd_T41 l0_0 a1).f6)) else (if ((rd_T41 l0_0 a1).f0) = 10 then (r9_fits.j3 kj1 t1 t2 t3 x1_7 ((rd_T41 l0_0 a1).f0) (((rd_T41 l0_0 a1).f0) == 10) ((rd_T41 l0_0 a1).f0) ((rd_T41 l0_0 a1).f1) ((rd_T41 l0_0 a1).f2) ((rd_T41 l0_0 a1).f3) ((rd_T41 l0_0 a1).f4) ((rd_T41 l0_0 a1).f5) ((rd_T41 l0_0 a1).f6)) else (r9_fits.j3 kj1 t1 t2 t3 x1_7 ((rd_T41 l0_0 a1).f0) (((rd_T41 l0_0 a1).f0) == 11) ((rd_T41 l0_0 a1).f0) ((rd_T41 l0_0 a1).f1) ((rd_T41 l0_0 a1).f2) ((rd_T41 l0_0 a1).f3) ((rd_T41 l0_0 a1).f4) ((rd_T41 l0_0 a1).f5) ((rd_T41 l0_0 a1).f6))))))) = some r := by rw [if_neg (show ¬ (false = true) by decide)] at H; exact H
             clear H; have H := H1; clear H1; have HC1 := aM H; clear H; go_upto_if 92 with (fail)
             repeat (go_quiet (fail); go_upto_if 92 with (fail))
             go_cut [92] (fun v1 wc => ∃ (kq : Nat) (x1_59 : Bool), v1 = .bool x1_59 ∧ Aside0 (r9_fits.j3 kq t1 t2 t3 x1_7 ((rd_T41 l0_0 a1).f0) x1_59 ((rd_T41 l0_0 a1).f0) ((rd_T41 l0_0 a1).f1) ((rd_T41 l0_0 a1).f2) ((rd_T41 l0_0 a1).f3) ((rd_T41 l0_0 a1).f4) ((rd_T41 l0_0 a1).f5) ((rd_T41 l0_0 a1).f6) = some r) ∧ Aside0 (kq ≤ kj1) ∧ Aside0 (wc.heap[gb1]? = some (.cells #[(.slice (some ad1) l0_0.length c0_0), (.slice A0_1 l0_1.length c0_1), (.slice A0_2 l0_2.length c0_2), (.slice A0_3 l0_3.length c0_3), (.slice A0_4 l0_4.length c0_4)] 27 (0, 0))) ∧ Aside0 (wc.heap[gb2]? = some (.cells #[.int .i64 ((rd_T41 l0_0 a1).f0), .int .i64 ((rd_T41 l0_0 a1).f1), .int .i64 ((rd_T41 l0_0 a1).f2), .int .i64 ((rd_T41 l0_0 a1).f3), .int .i64 ((rd_T41 l0_0 a1).f4), .int .i64 ((rd_T41 l0_0 a1).f5), .int .i64 ((rd_T41 l0_0 a1).f6)] 41 (0, 0))) ∧ Aside0 (Below w.heap.size w wc))
             case first => as_aux_lemma =>
              have H := HC1.out; clear HC1; by_cases c19 : ((rd_T41 l0_0 a1).f0) = 6
              ·rw [if_pos c19] at H; obtain ⟨c10b0, c6b1⟩ := zeq c19; clear c19; (first | rw [c10b0] | (simp only [i64_w, i32_w]; rw [c10b0]) | skip)
               have H' := aM H; clear H; go_wp2
               repeat (go_quiet (fail); try go_wp2)
               go_meet
               case rel => exact ⟨_, ((((rd_T41 l0_0 a1).f0) == 6)), q13z, H', ⟨q70z HJ1 HJ2 HJ3⟩, ⟨q10z BK1⟩, ⟨q10z BK2⟩, ⟨q3z HB GE1 GE2⟩⟩
              ·rw [if_neg c19] at H; obtain ⟨c10b0, c6b1⟩ := zne c19; (first | rw [c10b0] | (simp only [i64_w, i32_w]; rw [c10b0]) | skip)
               by_cases c19 : ((rd_T41 l0_0 a1).f0) = 7
               ·rw [if_pos c19] at H; obtain ⟨c10b0, c6b1⟩ := zeq c19; clear c19; have H' := aM H; clear H; go_wp2
                repeat (go_quiet (fail); try go_wp2)
                go_meet
                case rel => exact ⟨_, ((((rd_T41 l0_0 a1).f0) == 7)), q13z, H', ⟨q70z HJ1 HJ2 HJ3⟩, ⟨q10z BK1⟩, ⟨q10z BK2⟩, ⟨q3z HB GE1 GE2⟩⟩
               ·rw [if_neg c19] at H; obtain ⟨c10b0, c6b1⟩ := zne c19; by_cases c19 : ((rd_T41 l0_0 a1).f0) = 8
                ·rw [if_pos c19] at H; obtain ⟨c10b0, c6b1⟩ := zeq c19; clear c19; have H' := aM H; clear H; go_wp2
                 repeat (go_quiet (fail); try go_wp2)
                 go_meet
                 case rel => exact ⟨_, ((((rd_T41 l0_0 a1).f0) == 8)), q13z, H', ⟨q70z HJ1 HJ2 HJ3⟩, ⟨q10z BK1⟩, ⟨q10z BK2⟩, ⟨q3z HB GE1 GE2⟩⟩
                ·rw [if_neg c19] at H; obtain ⟨c10b0, c6b1⟩ := zne c19; by_cases c19 : ((rd_T41 l0_0 a1).f0) = 9
                 ·rw [if_pos c19] at H; obtain ⟨c10b0, c6b1⟩ := zeq c19; clear c19; have H' := aM H; clear H; go_wp2
                  repeat (go_quiet (fail); try go_wp2)
                  go_meet
                  case rel => exact ⟨_, ((((rd_T41 l0_0 a1).f0) == 9)), q13z, H', ⟨q70z HJ1 HJ2 HJ3⟩, ⟨q10z BK1⟩, ⟨q10z BK2⟩, ⟨q3z HB GE1 GE2⟩⟩
                 ·rw [if_neg c19] at H; obtain ⟨c10b0, c6b1⟩ := zne c19; by_cases c19 : ((rd_T41 l0_0 a1).f0) = 10
                  ·rw [if_pos c19] at H; obtain ⟨c10b0, c6b1⟩ := zeq c19; clear c19; have H' := aM H; clear H; go_wp2
                   repeat (go_quiet (fail); try go_wp2)
                   go_meet
                   case rel => exact ⟨_, ((((rd_T41 l0_0 a1).f0) == 10)), q13z, H', ⟨q70z HJ1 HJ2 HJ3⟩, ⟨q10z BK1⟩, ⟨q10z BK2⟩, ⟨q3z HB GE1 GE2⟩⟩
                  ·rw [if_neg c19] at H; obtain ⟨c10b0, c6b1⟩ := zne c19; have H' := aM H; clear H; go_wp2
                   repeat (go_quiet (fail); try go_wp2)
                   go_meet
                   case rel => exact ⟨_, ((((rd_T41 l0_0 a1).f0) == 11)), q13z, H', ⟨q70z HJ1 HJ2 HJ3⟩, ⟨q10z BK1⟩, ⟨q10z BK2⟩, ⟨q3z HB GE1 GE2⟩⟩
             case rest => as_aux_lemma =>
              clear HC1; try clear c1
              try clear c2
              try clear p2
              try clear c3
              try clear c1b0
              try clear p3
              try clear q3
              try clear hx3
              try clear c4
              try clear c2b0
              try clear c5
              try clear c6
              try clear c12
              try clear c8
              try clear c3b0
              try clear c1b1
              try clear c23
              try clear c25
              try clear c9
              try clear c4b0
              try clear c2b1
              try clear c10
              try clear c5b0
              try clear c11
              try clear c6b0
              try clear c31
              try clear c33
              try clear c35
              try clear p36
              try clear q36
              try clear hx36
              try clear c38
              try clear c13
              try clear c7b0
              try clear c3b1
              try clear c14
              try clear c15
              try clear c8b0
              try clear c4b1
              try clear c16
              try clear c44
              try clear c17
              try clear c9b0
              try clear c5b1
              try clear c18
              try clear c19
              try clear c10b0
              try clear c6b1
              try clear c20
              try clear c11b0
              try clear c7b1
              try clear c21
              try clear c12b0
              try clear c8b1
              try clear c52
              try clear c54
              try clear c56
              try clear c58
              try clear c22
              try clear c13b0
              try clear c9b1
              try clear c24
              try clear c14b0
              try clear c10b1
              try clear c26
              try clear c15b0
              try clear c11b1
              try clear c27
              try clear c16b0
              try clear c12b1
              try clear c28
              try clear c17b0
              try clear c13b1
              try clear i1_0 i1_1 i1_2 i1_3 i1_4
              try clear i2_0 i2_1 i2_2 i2_3 i2_4
              try clear i1_5 i1_6
              try clear i3_0 i3_1 i3_2 i3_3 i3_4
              try clear i4_0 i4_1 i4_2 i4_3 i4_4
              try clear i5_0 i5_1 i5_2 i5_3 i5_4
              try clear i2_5 i2_6
              try clear i6_0 i6_1 i6_2 i6_3 i6_4
              try clear i7_0 i7_1 i7_2 i7_3 i7_4
              try clear i3_5 i3_6
              try clear i8_0 i8_1 i8_2 i8_3 i8_4
              try clear i4_5 i4_6
              try clear i9_0 i9_1 i9_2 i9_3 i9_4
              try clear i5_5 i5_6
              try clear i11_0 i11_1 i11_2 i11_3 i11_4
              try clear i7_5 i7_6
              try clear i12_0 i12_1 i12_2 i12_3 i12_4
              try clear i8_5 i8_6
              try clear i13_0 i13_1 i13_2 i13_3 i13_4
              try clear i9_5 i9_6
              try clear i10_0 i10_1 i10_2 i10_3 i10_4
              try clear i6_5 i6_6
              try clear i14_0 i14_1 i14_2 i14_3 i14_4
              try clear i10_5 i10_6
              try clear i15_0 i15_1 i15_2 i15_3 i15_4
              try clear i11_5 i11_6
              try clear i16_0 i16_1 i16_2 i16_3 i16_4
              try clear i12_5 i12_6
              try clear i17_0 i17_1 i17_2 i17_3 i17_4
              try clear i13_5 i13_6
              try clear i18_0 i18_1 i18_2 i18_3 i18_4
              try clear i14_5 i14_6
              try clear j1_0 j1_1 j1_2 j1_3 j1_4
              try clear j2_0 j2_1 j2_2 j2_3 j2_4
              try clear j1_5 j1_6
              try clear j3_0 j3_1 j3_2 j3_3 j3_4
              try clear j4_0 j4_1 j4_2 j4_3 j4_4
              try clear j5_0 j5_1 j5_2 j5_3 j5_4
              try clear j2_5 j2_6
              try clear j6_0 j6_1 j6_2 j6_3 j6_4
              try clear j7_0 j7_1 j7_2 j7_3 j7_4
              try clear j3_5 j3_6
              try clear j8_0 j8_1 j8_2 j8_3 j8_4
              try clear j4_5 j4_6
              try clear j9_0 j9_1 j9_2 j9_3 j9_4
              try clear j5_5 j5_6
              try clear j11_0 j11_1 j11_2 j11_3 j11_4
              try clear j7_5 j7_6
              try clear j12_0 j12_1 j12_2 j12_3 j12_4
              try clear j8_5 j8_6
              try clear j13_0 j13_1 j13_2 j13_3 j13_4
              try clear j9_5 j9_6
              try clear j10_0 j10_1 j10_2 j10_3 j10_4
              try clear j6_5 j6_6
              try clear j14_0 j14_1 j14_2 j14_3 j14_4
              try clear j10_5 j10_6
              try clear j15_0 j15_1 j15_2 j15_3 j15_4
              try clear j11_5 j11_6
              try clear j16_0 j16_1 j16_2 j16_3 j16_4
              try clear j12_5 j12_6
              try clear j17_0 j17_1 j17_2 j17_3 j17_4
              try clear j13_5 j13_6
              try clear j18_0 j18_1 j18_2 j18_3 j18_4
              try clear j14_5 j14_6
              try clear hx1_0
              try clear hx1_1
              try clear hx1_2
              try clear hx1_3
              try clear hx1_4
              try clear hx1_5
              try clear hx1_6
              try clear p2
              try clear p3
              try clear p36
              try clear p1
              try clear q3
              try clear q36
              try clear q1
              obtain ⟨kq, x1_59, rfl, HA, HJ4, BK1, BK2, HB⟩ := hcut; cases kq with
              | zero => exact absurd HA.out (by simp [r9_fits.j3])
              | succ kj1 =>
               have H := HA.out; clear HA; simp only [r9_fits.j3] at H; by_cases c29 : x1_59 = true
               ·subst c29; have H1 : (if x1_7 = true then (if t1 = ((rd_T41 l0_0 a1).f1) then (some (t2 == ((rd_T41 l0_0 a1).f1))) else (some false)) else (some false)) = some r := by rw [if_pos rfl] at H; exact H
                clear H; have H := H1; clear H1; by_cases c30 : x1_7 = true
                ·subst c30; have H1 : (if t1 = ((rd_T41 l0_0 a1).f1) then (some (t2 == ((rd_T41 l0_0 a1).f1))) else (some false)) = some r := by rw [if_pos rfl] at H; exact H
                 clear H; have H := H1; clear H1; by_cases c32 : t1 = ((rd_T41 l0_0 a1).f1)
                 ·rw [if_pos c32] at H; obtain ⟨c18b0, c14b1⟩ := zeq c32; clear c32; exact z70_3
                 ·rw [if_neg c32] at H; obtain ⟨c18b0, c14b1⟩ := zne c32; exact z70_3
                ·replace c30 := Bool.eq_false_iff.mpr c30; subst c30; exact z70_9
               ·replace c29 := Bool.eq_false_iff.mpr c29; subst c29; have H1 : (if ((rd_T41 l0_0 a1).f0) = 12 then (r9_fits.j4 kj1 t1 t2 t3 x1_7 ((rd_T41 l0_0 a1).f0) (((rd_T41 l0_0 a1).f0) == 12) ((rd_T41 l0_0 a1).f0) ((rd_T41 l0_0 a1).f1) ((rd_T41 l0_0 a1).f2) ((rd_T41 l0_0 a1).f3) ((rd_T41 l0_0 a1).f4) ((rd_T41 l0_0 a1).f5) ((rd_T41 l0_0 a1).f6)) else (if ((rd_T41 l0_0 a1).f0) = 13 then (r9_fits.j4 kj1 t1 t2 t3 x1_7 ((rd_T41 l0_0 a1).f0) (((rd_T41 l0_0 a1).f0) == 13) ((rd_T41 l0_0 a1).f0) ((rd_T41 l0_0 a1).f1) ((rd_T41 l0_0 a1).f2) ((rd_T41 l0_0 a1).f3) ((rd_T41 l0_0 a1).f4) ((rd_T41 l0_0 a1).f5) ((rd_T41 l0_0 a1).f6)) else (if ((rd_T41 l0_0 a1).f0) = 14 then (r9_fits.j4 kj1 t1 t2 t3 x1_7 ((rd_T41 l0_0 a1).f0) (((rd_T41 l0_0 a1).f0) == 14) ((rd_T41 l0_0 a1).f0) ((rd_T41 l0_0 a1).f1) ((rd_T41 l0_0 a1).f2) ((rd_T41 l0_0 a1).f3) ((rd_T41 l0_0 a1).f4) ((rd_T41 l0_0 a1).f5) ((rd_T41 l0_0 a1).f6)) else (r9_fits.j4 kj1 t1 t2 t3 x1_7 ((rd_T41 l0_0 a1).f0) (((rd_T41 l0_0 a1).f0) == 15) ((rd_T41 l0_0 a1).f0) ((rd_T41 l0_0 a1).f1) ((rd_T41 l0_0 a1).f2) ((rd_T41 l0_0 a1).f3) ((rd_T41 l0_0 a1).f4) ((rd_T41 l0_0 a1).f5) ((rd_T41 l0_0 a1).f6))))) = some r := by rw [if_neg (show ¬ (false = true) by decide)] at H; exact H
                clear H; have H := H1; clear H1; have HC1 := aM H; clear H; go_upto_if 112 with (fail)
                repeat (go_quiet (fail); go_upto_if 112 with (fail))
                go_cut [112] (fun v1 wc => ∃ (kq : Nat) (x1_72 : Bool), v1 = .bool x1_72 ∧ Aside0 (r9_fits.j4 kq t1 t2 t3 x1_7 ((rd_T41 l0_0 a1).f0) x1_72 ((rd_T41 l0_0 a1).f0) ((rd_T41 l0_0 a1).f1) ((rd_T41 l0_0 a1).f2) ((rd_T41 l0_0 a1).f3) ((rd_T41 l0_0 a1).f4) ((rd_T41 l0_0 a1).f5) ((rd_T41 l0_0 a1).f6) = some r) ∧ Aside0 (kq ≤ kj1) ∧ Aside0 (wc.heap[gb1]? = some (.cells #[(.slice (some ad1) l0_0.length c0_0), (.slice A0_1 l0_1.length c0_1), (.slice A0_2 l0_2.length c0_2), (.slice A0_3 l0_3.length c0_3), (.slice A0_4 l0_4.length c0_4)] 27 (0, 0))) ∧ Aside0 (wc.heap[gb2]? = some (.cells #[.int .i64 ((rd_T41 l0_0 a1).f0), .int .i64 ((rd_T41 l0_0 a1).f1), .int .i64 ((rd_T41 l0_0 a1).f2), .int .i64 ((rd_T41 l0_0 a1).f3), .int .i64 ((rd_T41 l0_0 a1).f4), .int .i64 ((rd_T41 l0_0 a1).f5), .int .i64 ((rd_T41 l0_0 a1).f6)] 41 (0, 0))) ∧ Aside0 (Below w.heap.size w wc))
                case first => as_aux_lemma =>
                 have H := HC1.out; clear HC1; by_cases c30 : ((rd_T41 l0_0 a1).f0) = 12
                 ·rw [if_pos c30] at H; obtain ⟨c18b0, c14b1⟩ := zeq c30; clear c30; (first | rw [c18b0] | (simp only [i64_w, i32_w]; rw [c18b0]) | skip)
                  have H' := aM H; clear H; go_wp2
                  repeat (go_quiet (fail); try go_wp2)
                  go_meet
                  case rel => exact ⟨_, ((((rd_T41 l0_0 a1).f0) == 12)), q13z, H', ⟨q76z HJ1 HJ2 HJ3 HJ4⟩, ⟨q10z BK1⟩, ⟨q10z BK2⟩, ⟨q3z HB GE1 GE2⟩⟩
                 ·rw [if_neg c30] at H; obtain ⟨c18b0, c14b1⟩ := zne c30; (first | rw [c18b0] | (simp only [i64_w, i32_w]; rw [c18b0]) | skip)
                  by_cases c30 : ((rd_T41 l0_0 a1).f0) = 13
                  ·rw [if_pos c30] at H; obtain ⟨c18b0, c14b1⟩ := zeq c30; clear c30; have H' := aM H; clear H; go_wp2
                   repeat (go_quiet (fail); try go_wp2)
                   go_meet
                   case rel => exact ⟨_, ((((rd_T41 l0_0 a1).f0) == 13)), q13z, H', ⟨q76z HJ1 HJ2 HJ3 HJ4⟩, ⟨q10z BK1⟩, ⟨q10z BK2⟩, ⟨q3z HB GE1 GE2⟩⟩
                  ·rw [if_neg c30] at H; obtain ⟨c18b0, c14b1⟩ := zne c30; by_cases c30 : ((rd_T41 l0_0 a1).f0) = 14
                   ·rw [if_pos c30] at H; obtain ⟨c18b0, c14b1⟩ := zeq c30; clear c30; have H' := aM H; clear H; go_wp2
                    repeat (go_quiet (fail); try go_wp2)
                    go_meet
                    case rel => exact ⟨_, ((((rd_T41 l0_0 a1).f0) == 14)), q13z, H', ⟨q76z HJ1 HJ2 HJ3 HJ4⟩, ⟨q10z BK1⟩, ⟨q10z BK2⟩, ⟨q3z HB GE1 GE2⟩⟩
                   ·rw [if_neg c30] at H; obtain ⟨c18b0, c14b1⟩ := zne c30; have H' := aM H; clear H; go_wp2
                    repeat (go_quiet (fail); try go_wp2)
                    go_meet
                    case rel => exact ⟨_, ((((rd_T41 l0_0 a1).f0) == 15)), q13z, H', ⟨q76z HJ1 HJ2 HJ3 HJ4⟩, ⟨q10z BK1⟩, ⟨q10z BK2⟩, ⟨q3z HB GE1 GE2⟩⟩
                case rest => as_aux_lemma =>
                 clear HC1; try clear c1
                 try clear c2
                 try clear p2
                 try clear c3
                 try clear c1b0
                 try clear p3
                 try clear q3
                 try clear hx3
                 try clear c4
                 try clear c2b0
                 try clear c5
                 try clear c6
                 try clear c7
                 try clear c12
                 try clear c8
                 try clear c3b0
                 try clear c1b1
                 try clear c23
                 try clear c25
                 try clear c9
                 try clear c4b0
                 try clear c2b1
                 try clear c10
                 try clear c5b0
                 try clear c11
                 try clear c6b0
                 try clear c31
                 try clear c33
                 try clear c35
                 try clear p36
                 try clear q36
                 try clear hx36
                 try clear c38
                 try clear c13
                 try clear c7b0
                 try clear c3b1
                 try clear c14
                 try clear c15
                 try clear c8b0
                 try clear c4b1
                 try clear c16
                 try clear c44
                 try clear c17
                 try clear c9b0
                 try clear c5b1
                 try clear c18
                 try clear c19
                 try clear c10b0
                 try clear c6b1
                 try clear c20
                 try clear c11b0
                 try clear c7b1
                 try clear c21
                 try clear c12b0
                 try clear c8b1
                 try clear c52
                 try clear c54
                 try clear c56
                 try clear c58
                 try clear c22
                 try clear c13b0
                 try clear c9b1
                 try clear c24
                 try clear c14b0
                 try clear c10b1
                 try clear c26
                 try clear c15b0
                 try clear c11b1
                 try clear c27
                 try clear c16b0
                 try clear c12b1
                 try clear c28
                 try clear c17b0
                 try clear c13b1
                 try clear c29
                 try clear c8
                 try clear c8
                 try clear c1b0
                 try clear c1b1
                 try clear c69
                 try clear c71
                 try clear c8
                 try clear c1b0
                 try clear c1b1
                 try clear c8
                 try clear c1b0
                 try clear c1b1
                 try clear c8
                 try clear c1b0
                 try clear c1b1
                 try clear i1_0 i1_1 i1_2 i1_3 i1_4
                 try clear i2_0 i2_1 i2_2 i2_3 i2_4
                 try clear i1_5 i1_6
                 try clear i3_0 i3_1 i3_2 i3_3 i3_4
                 try clear i4_0 i4_1 i4_2 i4_3 i4_4
                 try clear i5_0 i5_1 i5_2 i5_3 i5_4
                 try clear i2_5 i2_6
                 try clear i6_0 i6_1 i6_2 i6_3 i6_4
                 try clear i7_0 i7_1 i7_2 i7_3 i7_4
                 try clear i3_5 i3_6
                 try clear i8_0 i8_1 i8_2 i8_3 i8_4
                 try clear i4_5 i4_6
                 try clear i9_0 i9_1 i9_2 i9_3 i9_4
                 try clear i5_5 i5_6
                 try clear i11_0 i11_1 i11_2 i11_3 i11_4
                 try clear i7_5 i7_6
                 try clear i12_0 i12_1 i12_2 i12_3 i12_4
                 try clear i8_5 i8_6
                 try clear i13_0 i13_1 i13_2 i13_3 i13_4
                 try clear i9_5 i9_6
                 try clear i10_0 i10_1 i10_2 i10_3 i10_4
                 try clear i6_5 i6_6
                 try clear i14_0 i14_1 i14_2 i14_3 i14_4
                 try clear i10_5 i10_6
                 try clear i15_0 i15_1 i15_2 i15_3 i15_4
                 try clear i11_5 i11_6
                 try clear i16_0 i16_1 i16_2 i16_3 i16_4
                 try clear i12_5 i12_6
                 try clear i17_0 i17_1 i17_2 i17_3 i17_4
                 try clear i13_5 i13_6
                 try clear i18_0 i18_1 i18_2 i18_3 i18_4
                 try clear i14_5 i14_6
                 try clear i1_0 i1_1 i1_2 i1_3 i1_4 i1_5 i1_6 i1_0 i1_1 i1_2 i1_3 i1_4 i1_5 i1_6 j1_0 j1_1 j1_2 j1_3 j1_4
                 try clear j2_0 j2_1 j2_2 j2_3 j2_4
                 try clear j1_5 j1_6
                 try clear j3_0 j3_1 j3_2 j3_3 j3_4
                 try clear j4_0 j4_1 j4_2 j4_3 j4_4
                 try clear j5_0 j5_1 j5_2 j5_3 j5_4
                 try clear j2_5 j2_6
                 try clear j6_0 j6_1 j6_2 j6_3 j6_4
                 try clear j7_0 j7_1 j7_2 j7_3 j7_4
                 try clear j3_5 j3_6
                 try clear j8_0 j8_1 j8_2 j8_3 j8_4
                 try clear j4_5 j4_6
                 try clear j9_0 j9_1 j9_2 j9_3 j9_4
                 try clear j5_5 j5_6
                 try clear j11_0 j11_1 j11_2 j11_3 j11_4
                 try clear j7_5 j7_6
                 try clear j12_0 j12_1 j12_2 j12_3 j12_4
                 try clear j8_5 j8_6
                 try clear j13_0 j13_1 j13_2 j13_3 j13_4
                 try clear j9_5 j9_6
                 try clear j10_0 j10_1 j10_2 j10_3 j10_4
                 try clear j6_5 j6_6
                 try clear j14_0 j14_1 j14_2 j14_3 j14_4
                 try clear j10_5 j10_6
                 try clear j15_0 j15_1 j15_2 j15_3 j15_4
                 try clear j11_5 j11_6
                 try clear j16_0 j16_1 j16_2 j16_3 j16_4
                 try clear j12_5 j12_6
                 try clear j17_0 j17_1 j17_2 j17_3 j17_4
                 try clear j13_5 j13_6
                 try clear j18_0 j18_1 j18_2 j18_3 j18_4
                 try clear j14_5 j14_6
                 try clear j1_0 j1_1 j1_2 j1_3 j1_4 j1_5 j1_6 j1_0 j1_1 j1_2 j1_3 j1_4 j1_5 j1_6
                 try clear hx1_0
                 try clear hx1_1
                 try clear hx1_2
                 try clear hx1_3
                 try clear hx1_4
                 try clear hx1_5
                 try clear hx1_6
                 try clear p2
                 try clear p3
                 try clear p36
                 try clear p1
                 try clear q3
                 try clear q36
                 try clear q1
                 obtain ⟨kq, x1_72, rfl, HA, HJ1, BK1, BK2, HB⟩ := hcut; cases kq with
                 | zero => exact absurd HA.out (by simp [r9_fits.j4])
                 | succ kj1 =>
                  have H := HA.out; clear HA; simp only [r9_fits.j4] at H; by_cases c8 : x1_72 = true
                  ·subst c8; have H1 : (if ((rd_T41 l0_0 a1).f5) = 0 then (if ((rd_T41 l0_0 a1).f1) = 1 then (if t1 = ((rd_T41 l0_0 a1).f6) then (if t2 = ((rd_T41 l0_0 a1).f6) then (some (decide (t1 > 0))) else (some false)) else (some false)) else (some false)) else (some false)) = some r := by rw [if_pos rfl] at H; exact H
                   clear H; have H := H1; clear H1; by_cases c9 : ((rd_T41 l0_0 a1).f5) = 0
                   ·rw [if_pos c9] at H; obtain ⟨c1b0, c1b1⟩ := zeq c9; clear c9; by_cases c10 : ((rd_T41 l0_0 a1).f1) = 1
                    ·rw [if_pos c10] at H; obtain ⟨c1b0, c1b1⟩ := zeq c10; clear c10; by_cases c11 : t1 = ((rd_T41 l0_0 a1).f6)
                     ·rw [if_pos c11] at H; obtain ⟨c1b0, c1b1⟩ := zeq c11; clear c11; by_cases c13 : t2 = ((rd_T41 l0_0 a1).f6)
                      ·rw [if_pos c13] at H; obtain ⟨c1b0, c1b1⟩ := zeq c13; clear c13; exact z70_8
                      ·rw [if_neg c13] at H; obtain ⟨c1b0, c1b1⟩ := zne c13; exact z70_8
                     ·exact z70_2
                    ·rw [if_neg c10] at H; obtain ⟨c1b0, c1b1⟩ := zne c10; exact z70_8
                   ·rw [if_neg c9] at H; obtain ⟨c1b0, c1b1⟩ := zne c9; exact z70_8
                  ·replace c8 := Bool.eq_false_iff.mpr c8; subst c8; have H1 : (if ((rd_T41 l0_0 a1).f0) = 16 then (if x1_7 = true then (if t1 = 1 then (if t2 = ((rd_T41 l0_0 a1).f1) then (some (t3 == ((rd_T41 l0_0 a1).f1))) else (some false)) else (some false)) else (some false)) else (if ((rd_T41 l0_0 a1).f0) = 17 then (if x1_7 = true then (if t1 > 0 then (if t2 > 0 then (some ((wrap64 (t1 + t2)) == ((rd_T41 l0_0 a1).f1))) else (some false)) else (some false)) else (some false)) else (if ((rd_T41 l0_0 a1).f6) ≥ 0 then (if ((rd_T41 l0_0 a1).f6) ≤ ((rd_T41 l0_0 a1).f5) then (if ((rd_T41 l0_0 a1).f5) < t1 then (some (((rd_T41 l0_0 a1).f1) == (wrap64 ((wrap64 (((rd_T41 l0_0 a1).f5) - ((rd_T41 l0_0 a1).f6))) + 1)))) else (some false)) else (some false)) else (some false)))) = some r := by rw [if_neg (show ¬ (false = true) by decide)] at H; exact H
                   clear H; have H := H1; clear H1; by_cases c8 : ((rd_T41 l0_0 a1).f0) = 16
                   ·rw [if_pos c8] at H; obtain ⟨c1b0, c1b1⟩ := zeq c8; clear c8; by_cases c9 : x1_7 = true
                    ·subst c9; have H1 : (if t1 = 1 then (if t2 = ((rd_T41 l0_0 a1).f1) then (some (t3 == ((rd_T41 l0_0 a1).f1))) else (some false)) else (some false)) = some r := by rw [if_pos rfl] at H; exact H
                     clear H; have H := H1; clear H1; by_cases c10 : t1 = 1
                     ·rw [if_pos c10] at H; obtain ⟨c1b0, c1b1⟩ := zeq c10; clear c10; by_cases c11 : t2 = ((rd_T41 l0_0 a1).f1)
                      ·rw [if_pos c11] at H; obtain ⟨c1b0, c1b1⟩ := zeq c11; exact z70_6
                      ·exact z70_2
                     ·rw [if_neg c10] at H; obtain ⟨c1b0, c1b1⟩ := zne c10; exact z70_11
                    ·exact z70_5
                   ·rw [if_neg c8] at H; obtain ⟨c1b0, c1b1⟩ := zne c8; by_cases c8 : ((rd_T41 l0_0 a1).f0) = 17
                    ·rw [if_pos c8] at H; obtain ⟨c1b0, c1b1⟩ := zeq c8; clear c8; by_cases c9 : x1_7 = true
                     ·subst c9; have H1 : (if t1 > 0 then (if t2 > 0 then (some ((wrap64 (t1 + t2)) == ((rd_T41 l0_0 a1).f1))) else (some false)) else (some false)) = some r := by rw [if_pos rfl] at H; exact H
                      clear H; have H := H1; clear H1; by_cases c10 : t1 > 0
                      ·rw [if_pos c10] at H; have c1b0 : decide (0 < t1) = true := decide_eq_true c10; clear c10; by_cases c11 : t2 > 0
                       ·rw [if_pos c11] at H; have c1b0 : decide (0 < t2) = true := decide_eq_true c11; exact z70_6
                       ·rw [if_neg c11] at H; have c1b0 : decide (0 < t2) = false := decide_eq_false c11; clear c11; exact z70_11
                      ·rw [if_neg c10] at H; have c1b0 : decide (0 < t1) = false := decide_eq_false c10; clear c10; exact z70_11
                     ·exact z70_5
                    ·rw [if_neg c8] at H; obtain ⟨c1b0, c1b1⟩ := zne c8; by_cases c8 : ((rd_T41 l0_0 a1).f6) ≥ 0
                     ·rw [if_pos c8] at H; have c1b0 : decide (0 ≤ ((rd_T41 l0_0 a1).f6)) = true := decide_eq_true c8; clear c8; by_cases c9 : ((rd_T41 l0_0 a1).f6) ≤ ((rd_T41 l0_0 a1).f5)
                      ·rw [if_pos c9] at H; have c1b0 := decide_eq_true c9; clear c9; by_cases c10 : ((rd_T41 l0_0 a1).f5) < t1
                       ·rw [if_pos c10] at H; have c1b0 := decide_eq_true c10; exact z70_7
                       ·rw [if_neg c10] at H; have c1b0 := decide_eq_false c10; exact z70_7
                      ·rw [if_neg c9] at H; have c1b0 := decide_eq_false c9; clear c9; exact z70_8
                     ·rw [if_neg c8] at H; have c1b0 : decide (0 ≤ ((rd_T41 l0_0 a1).f6)) = false := decide_eq_false c8; clear c8; exact z70_8
  ·rw [if_neg c4] at H; exact absurd H (by simp)
 ·rw [if_neg c3] at H; exact absurd H (by simp)
def r9_node.j0 : Nat → Int → Bool → List (S41) → List (S47) → List (S43) → List (S61) → List (S47) → Option (Bool)
 | 0, _, _, _, _, _, _, _ => none
 | k + 1, x1, x53, x369000, x369001, x369002, x369003, x369004 => if x53 = true then (some false) else ((r9_fits.f k x369000 x369001 x369002 x369003 x369004 x1).bind fun t372 => (some t372))
def r9_node.f (k : Nat) (l0_0 : List (S41)) (l0_1 : List (S47)) (l0_2 : List (S43)) (l0_3 : List (S61)) (l0_4 : List (S47)) (a1 : Int) : Option (Bool) := if 0 ≤ a1 then (if a1 < (l0_0.length : Int) then ((r9_operands.f k ((rd_T41 l0_0 a1).f0)).bind fun t371 => (if ((rd_T41 l0_0 a1).f1) < 1 then (r9_node.j0 k a1 true l0_0 l0_1 l0_2 l0_3 l0_4) else (if ((rd_T41 l0_0 a1).f1) > 16 then (r9_node.j0 k a1 true l0_0 l0_1 l0_2 l0_3 l0_4) else (if t371 < 0 then (r9_node.j0 k a1 true l0_0 l0_1 l0_2 l0_3 l0_4) else (if t371 < 1 then (if ((rd_T41 l0_0 a1).f2) = 0 then (if t371 < 2 then (if ((rd_T41 l0_0 a1).f3) = 0 then (if t371 < 3 then (r9_node.j0 k a1 (((rd_T41 l0_0 a1).f4) != 0) l0_0 l0_1 l0_2 l0_3 l0_4) else (r9_node.j0 k a1 false l0_0 l0_1 l0_2 l0_3 l0_4)) else (r9_node.j0 k a1 true l0_0 l0_1 l0_2 l0_3 l0_4)) else (if t371 < 3 then (r9_node.j0 k a1 (((rd_T41 l0_0 a1).f4) != 0) l0_0 l0_1 l0_2 l0_3 l0_4) else (r9_node.j0 k a1 false l0_0 l0_1 l0_2 l0_3 l0_4))) else (r9_node.j0 k a1 true l0_0 l0_1 l0_2 l0_3 l0_4)) else (if t371 < 2 then (if ((rd_T41 l0_0 a1).f3) = 0 then (if t371 < 3 then (r9_node.j0 k a1 (((rd_T41 l0_0 a1).f4) != 0) l0_0 l0_1 l0_2 l0_3 l0_4) else (r9_node.j0 k a1 false l0_0 l0_1 l0_2 l0_3 l0_4)) else (r9_node.j0 k a1 true l0_0 l0_1 l0_2 l0_3 l0_4)) else (if t371 < 3 then (r9_node.j0 k a1 (((rd_T41 l0_0 a1).f4) != 0) l0_0 l0_1 l0_2 l0_3 l0_4) else (r9_node.j0 k a1 false l0_0 l0_1 l0_2 l0_3 l0_4)))))))) else (none)) else (none)
theorem r9_node.mono_l : ∀ k, (∀ y0 y1 y2 y3 y4 y5 y6, LeO (r9_node.j0 k y0 y1 y2 y3 y4 y5 y6) (r9_node.j0 (k + 1) y0 y1 y2 y3 y4 y5 y6))
 | 0 => fun _ _ _ _ _ _ _ r h => by simp [r9_node.j0] at h
 | k + 1 => by
  have ih0 := r9_node.mono_l k
  ·intro y0 y1 y2 y3 y4 y5 y6
   unfold r9_node.j0
   repeat' first | (with_reducible first | apply ih0 | apply r9_fits.mono | exact LeO.refl _ | exact LeO.none _ | refine LeO.ite ?_ ?_ | refine LeO.bind ?_ (fun _ => ?_)) | exact LeO.none _ | refine LeO.ite ?_ ?_ | refine LeO.bind ?_ (fun _ => ?_)
theorem r9_node.mono : ∀ a0 a1 a2 a3 a4 a5 k, LeO (r9_node.f k a0 a1 a2 a3 a4 a5) (r9_node.f (k + 1) a0 a1 a2 a3 a4 a5) := by
 intro a0 a1 a2 a3 a4 a5 k
 have ih1 := r9_node.mono_l k; unfold r9_node.f
 repeat' first | (with_reducible first | apply ih1 | apply r9_operands.mono | exact LeO.refl _ | exact LeO.none _ | refine LeO.ite ?_ ?_ | refine LeO.bind ?_ (fun _ => ?_)) | exact LeO.none _ | refine LeO.ite ?_ ?_ | refine LeO.bind ?_ (fun _ => ?_)
theorem z71_6 {P : Prop} (h : P := by
 have H' := aM H; clear H; have hnb1 := NB1_368.out; have hnc1 := NB1_370.out; obtain ⟨i3_0, i3_1, i3_2, i3_3, i3_4, i2_5, i2_6, j3_0, j3_1, j3_2, j3_3, j3_4, j2_5, j2_6⟩ := cells7 BK2.out; go_wp2
 go_meet
 case rel => exact ⟨_, (true), q13z, H', ⟨q52z⟩, ⟨q8z NB1_370 BK1⟩, ⟨q6z BK2⟩, ⟨q3z HB GE1 GE2⟩⟩) : P := h
theorem z71_3 {P : Prop} (h : P := by
 clear c6; exact z71_6) : P := h
theorem z71_4 {P : Prop} (h : P := by
 have H' := aM H; clear H; have hnb1 := NB1_368.out; have hnc1 := NB1_370.out; obtain ⟨i3_0, i3_1, i3_2, i3_3, i3_4, i2_5, i2_6, j3_0, j3_1, j3_2, j3_3, j3_4, j2_5, j2_6⟩ := cells7 BK2.out; go_wp2
 go_meet
 case rel => exact ⟨_, ((((rd_T41 l0_0 a1).f4) != 0)), q13z, H', ⟨q52z⟩, ⟨q8z NB1_370 BK1⟩, ⟨q6z BK2⟩, ⟨q3z HB GE1 GE2⟩⟩) : P := h
theorem z71_5 {P : Prop} (h : P := by
 have H' := aM H; clear H; have hnb1 := NB1_368.out; have hnc1 := NB1_370.out; obtain ⟨i3_0, i3_1, i3_2, i3_3, i3_4, i2_5, i2_6, j3_0, j3_1, j3_2, j3_3, j3_4, j2_5, j2_6⟩ := cells7 BK2.out; go_wp2
 go_meet
 case rel => exact ⟨_, (false), q13z, H', ⟨q52z⟩, ⟨q8z NB1_370 BK1⟩, ⟨q6z BK2⟩, ⟨q3z HB GE1 GE2⟩⟩) : P := h
theorem z71_1 {P : Prop} (h : P := by
 by_cases c8 : t1 < 3
 ·rw [if_pos c8] at H; have c3b0 := decide_eq_true c8; clear c8; exact z71_4
 ·rw [if_neg c8] at H; have c3b0 := decide_eq_false c8; clear c8; exact z71_5) : P := h
theorem z71_2 {P : Prop} (h : P := by
 rw [if_neg c7] at H; obtain ⟨c3b0, c1b1⟩ := zne c7; exact z71_6) : P := h
theorem r9_node.calls (k : Nat) (A0_0 : Option Addr) (c0_0 : Nat) (l0_0 : List (S41)) (A0_1 : Option Addr) (c0_1 : Nat) (l0_1 : List (S47)) (A0_2 : Option Addr) (c0_2 : Nat) (l0_2 : List (S43)) (A0_3 : Option Addr) (c0_3 : Nat) (l0_3 : List (S61)) (A0_4 : Option Addr) (c0_4 : Nat) (l0_4 : List (S47)) (a1 : Int) (r : Bool) (w : World) (hr0_0 : Kd.C k41 w A0_0 l0_0.length l0_0) (hc0_0 : l0_0.length ≤ c0_0) (hr0_1 : Kd.C k47 w A0_1 l0_1.length l0_1) (hc0_1 : l0_1.length ≤ c0_1) (hr0_2 : Kd.C k43 w A0_2 l0_2.length l0_2) (hc0_2 : l0_2.length ≤ c0_2) (hr0_3 : Kd.C k61 w A0_3 l0_3.length l0_3) (hc0_3 : l0_3.length ≤ c0_3) (hr0_4 : Kd.C k47 w A0_4 l0_4.length l0_4) (hc0_4 : l0_4.length ≤ c0_4) (h : r9_node.f k l0_0 l0_1 l0_2 l0_3 l0_4 a1 = some r) :
  Calls Try.prog 37 #[.agg #[.slice A0_0 l0_0.length c0_0, .slice A0_1 l0_1.length c0_1, .slice A0_2 l0_2.length c0_2, .slice A0_3 l0_3.length c0_3, .slice A0_4 l0_4.length c0_4], .int .i64 a1] w fun e w' => e = .returned (.bool r) ∧ Below w.heap.size w w' := by
 have hu1 := Try.underlying27; have hu1 := Try.underlying41; have HR1_0 := aM hr0_0; have HC1_0 := aM hc0_0; clear hr0_0 hc0_0; have HR1_1 := aM hr0_1; have HC1_1 := aM hc0_1; clear hr0_1 hc0_1; have HR1_2 := aM hr0_2; have HC1_2 := aM hc0_2; clear hr0_2 hc0_2; have HR1_3 := aM hr0_3; have HC1_3 := aM hc0_3; clear hr0_3 hc0_3; have HR1_4 := aM hr0_4; have HC1_4 := aM hc0_4; clear hr0_4 hc0_4; have HB := aM (Below.refl w.heap.size w); have H : (if 0 ≤ a1 then (if a1 < (l0_0.length : Int) then ((r9_operands.f k ((rd_T41 l0_0 a1).f0)).bind fun t1 => (if ((rd_T41 l0_0 a1).f1) < 1 then (r9_node.j0 k a1 true l0_0 l0_1 l0_2 l0_3 l0_4) else (if ((rd_T41 l0_0 a1).f1) > 16 then (r9_node.j0 k a1 true l0_0 l0_1 l0_2 l0_3 l0_4) else (if t1 < 0 then (r9_node.j0 k a1 true l0_0 l0_1 l0_2 l0_3 l0_4) else (if t1 < 1 then (if ((rd_T41 l0_0 a1).f2) = 0 then (if t1 < 2 then (if ((rd_T41 l0_0 a1).f3) = 0 then (if t1 < 3 then (r9_node.j0 k a1 (((rd_T41 l0_0 a1).f4) != 0) l0_0 l0_1 l0_2 l0_3 l0_4) else (r9_node.j0 k a1 false l0_0 l0_1 l0_2 l0_3 l0_4)) else (r9_node.j0 k a1 true l0_0 l0_1 l0_2 l0_3 l0_4)) else (if t1 < 3 then (r9_node.j0 k a1 (((rd_T41 l0_0 a1).f4) != 0) l0_0 l0_1 l0_2 l0_3 l0_4) else (r9_node.j0 k a1 false l0_0 l0_1 l0_2 l0_3 l0_4))) else (r9_node.j0 k a1 true l0_0 l0_1 l0_2 l0_3 l0_4)) else (if t1 < 2 then (if ((rd_T41 l0_0 a1).f3) = 0 then (if t1 < 3 then (r9_node.j0 k a1 (((rd_T41 l0_0 a1).f4) != 0) l0_0 l0_1 l0_2 l0_3 l0_4) else (r9_node.j0 k a1 false l0_0 l0_1 l0_2 l0_3 l0_4)) else (r9_node.j0 k a1 true l0_0 l0_1 l0_2 l0_3 l0_4)) else (if t1 < 3 then (r9_node.j0 k a1 (((rd_T41 l0_0 a1).f4) != 0) l0_0 l0_1 l0_2 l0_3 l0_4) else (r9_node.j0 k a1 false l0_0 l0_1 l0_2 l0_3 l0_4)))))))) else (none)) else (none)) = some r := h; clear h; by_cases c3 : 0 ≤ a1
 ·rw [if_pos c3] at H; have c1b0 := decide_eq_true c3; clear c3; by_cases c4 : a1 < (l0_0.length : Int)
  ·rw [if_pos c4] at H; have c2b0 := decide_eq_true c4; clear c4; replace H := Option.bind_eq_some_iff.mp H; obtain ⟨t1, A1, H⟩ := H; have A2 := aM A1; clear A1; have HC1 := aM H; clear H; go_enter Try.func37, Try.ntmps37
   go_upto_region 3 with (first | ((with_reducible refine zgd 2 rfl ?_); refine zbox 2 #[.slice A0_0 l0_0.length c0_0, .slice A0_1 l0_1.length c0_1, .slice A0_2 l0_2.length c0_2, .slice A0_3 l0_3.length c0_3, .slice A0_4 l0_4.length c0_4] 27 ?_; intro gb1 hg w1 hbox hb; have BK1 := aM (hbox); have GW1 := aM ((q7z HB : w.heap.size ≤ gb1)); have GE1 := aM ((q7z HB : w.heap.size ≤ gb1)); replace HB := aM (ym (q5z HB) hb); clear hb hbox hg; obtain ⟨i1_0, i1_1, i1_2, i1_3, i1_4, j1_0, j1_1, j1_2, j1_3, j1_4⟩ := cells5 BK1.out; have p1 : 0 ≤ (a1 : Int) := zod; have q1 : a1 < (l0_0.length : Int) := zod; obtain ⟨ad1, e1, hx1_0, hx1_1, hx1_2, hx1_3, hx1_4, hx1_5, hx1_6⟩ := at_T41 HR1_0.out a1 p1 q1; cases e1; replace hx1_0 := zx HB hx1_0; replace hx1_1 := zx HB hx1_1; replace hx1_2 := zx HB hx1_2; replace hx1_3 := zx HB hx1_3; replace hx1_4 := zx HB hx1_4; replace hx1_5 := zx HB hx1_5; replace hx1_6 := zx HB hx1_6; replace p1 := eq_true p1; replace q1 := eq_true q1) | ((with_reducible refine zgd 5 rfl ?_); refine zbox 5 #[.int .i64 0, .int .i64 0, .int .i64 0, .int .i64 0, .int .i64 0, .int .i64 0, .int .i64 0] 41 ?_; intro gb2 hg w2 hbox hb; have BK2 := aM (hbox); have GW2 := aM ((q12z HB GE1 : w.heap.size ≤ gb2)); have GE2 := aM ((q12z HB GE1 : w.heap.size ≤ gb2)); replace HB := aM (ym (q4z HB GE1) hb); have NB1_370 := aM ((q34z BK1 : gb1 ≠ gb2)); have NB1_368 := aM ((q35z BK1 : gb2 ≠ gb1)); replace BK1 := aM (yi (zi BK1) hb); clear hb hbox hg; have hnb1 := NB1_368.out; have hnc1 := NB1_370.out; obtain ⟨i2_0, i2_1, i2_2, i2_3, i2_4, i1_5, i1_6, j2_0, j2_1, j2_2, j2_3, j2_4, j1_5, j1_6⟩ := cells7 BK2.out) | ((with_reducible refine zgc 51 rfl ?_); refine zgl (some 14) Try.func51 #[.int .i64 ((rd_T41 l0_0 a1).f0)] ?_; (with_reducible refine (r9_operands.calls k ((rd_T41 l0_0 a1).f0) t1 _ A2.out).mono ?_); rintro e w' ⟨rfl, ⟨nd, rfl⟩⟩; refine ⟨_, rfl, ?_⟩))
   (try simp only [Act.put, yu, yv, yw])
   go_cut [53] (fun v1 wc => ∃ (kq : Nat) (x1_5 : Bool), v1 = .bool x1_5 ∧ Aside0 (r9_node.j0 kq a1 x1_5 l0_0 l0_1 l0_2 l0_3 l0_4 = some r) ∧ Aside0 (kq ≤ k) ∧ Aside0 (wc.heap[gb1]? = some (.cells #[(.slice (some ad1) l0_0.length c0_0), (.slice A0_1 l0_1.length c0_1), (.slice A0_2 l0_2.length c0_2), (.slice A0_3 l0_3.length c0_3), (.slice A0_4 l0_4.length c0_4)] 27 (0, 0))) ∧ Aside0 (wc.heap[gb2]? = some (.cells #[.int .i64 ((rd_T41 l0_0 a1).f0), .int .i64 ((rd_T41 l0_0 a1).f1), .int .i64 ((rd_T41 l0_0 a1).f2), .int .i64 ((rd_T41 l0_0 a1).f3), .int .i64 ((rd_T41 l0_0 a1).f4), .int .i64 ((rd_T41 l0_0 a1).f5), .int .i64 ((rd_T41 l0_0 a1).f6)] 41 (0, 0))) ∧ Aside0 (Below w.heap.size w wc))
   case first =>
    have H := HC1.out; clear HC1; by_cases c6 : ((rd_T41 l0_0 a1).f1) < 1
    ·rw [if_pos c6] at H; have c3b0 := decide_eq_true c6; clear c6; (first | rw [c3b0] | (simp only [i64_w, i32_w]; rw [c3b0]) | skip)
     exact z71_6
    ·rw [if_neg c6] at H; have c3b0 := decide_eq_false c6; clear c6; (first | rw [c3b0] | (simp only [i64_w, i32_w]; rw [c3b0]) | skip)
     by_cases c6 : ((rd_T41 l0_0 a1).f1) > 16
     ·rw [if_pos c6] at H; have c3b0 : decide (16 < ((rd_T41 l0_0 a1).f1)) = true := decide_eq_true c6; exact z71_3
     ·rw [if_neg c6] at H; have c3b0 : decide (16 < ((rd_T41 l0_0 a1).f1)) = false := decide_eq_false c6; clear c6; by_cases c6 : t1 < 0
      ·rw [if_pos c6] at H; have c3b0 := decide_eq_true c6; exact z71_3
      ·rw [if_neg c6] at H; have c3b0 := decide_eq_false c6; clear c6; by_cases c6 : t1 < 1
       ·rw [if_pos c6] at H; have c3b0 := decide_eq_true c6; clear c6; by_cases c7 : ((rd_T41 l0_0 a1).f2) = 0
        ·rw [if_pos c7] at H; obtain ⟨c3b0, c1b1⟩ := zeq c7; clear c7; by_cases c8 : t1 < 2
         ·rw [if_pos c8] at H; have c3b0 := decide_eq_true c8; clear c8; by_cases c9 : ((rd_T41 l0_0 a1).f3) = 0
          ·rw [if_pos c9] at H; obtain ⟨c3b0, c1b1⟩ := zeq c9; clear c9; by_cases c11 : t1 < 3
           ·rw [if_pos c11] at H; have c3b0 := decide_eq_true c11; clear c11; exact z71_4
           ·rw [if_neg c11] at H; have c3b0 := decide_eq_false c11; clear c11; exact z71_5
          ·rw [if_neg c9] at H; obtain ⟨c3b0, c1b1⟩ := zne c9; exact z71_6
         ·rw [if_neg c8] at H; have c3b0 := decide_eq_false c8; clear c8; exact z71_1
        ·exact z71_2
       ·rw [if_neg c6] at H; have c3b0 := decide_eq_false c6; clear c6; by_cases c6 : t1 < 2
        ·rw [if_pos c6] at H; have c3b0 := decide_eq_true c6; clear c6; by_cases c7 : ((rd_T41 l0_0 a1).f3) = 0
         ·rw [if_pos c7] at H; obtain ⟨c3b0, c1b1⟩ := zeq c7; clear c7; exact z71_1
         ·exact z71_2
        ·rw [if_neg c6] at H; have c3b0 := decide_eq_false c6; clear c6; by_cases c6 : t1 < 3
         ·rw [if_pos c6] at H; have c3b0 := decide_eq_true c6; clear c6; exact z71_4
         ·rw [if_neg c6] at H; have c3b0 := decide_eq_false c6; clear c6; exact z71_5
   case rest =>
    clear HC1; try clear c1
    try clear c2
    try clear p2
    try clear c3
    try clear c1b0
    try clear p3
    try clear q3
    try clear hx3
    try clear c4
    try clear c2b0
    try clear c5
    try clear c10
    try clear c6
    try clear c1b0
    try clear c13
    try clear c6
    try clear c1b0
    try clear c16
    try clear c6
    try clear c1b0
    try clear c19
    try clear c6
    try clear c1b0
    try clear c6
    try clear c1b0
    try clear c1b1
    try clear c6
    try clear c1b0
    try clear c6
    try clear c1b0
    try clear c1b1
    try clear c6
    try clear c1b0
    try clear c26
    try clear c28
    try clear c30
    try clear c6
    try clear c1b0
    try clear c33
    try clear c35
    try clear p36
    try clear q36
    try clear hx36
    try clear c37
    try clear c6
    try clear c1b0
    try clear c6
    try clear c1b0
    try clear c1b1
    try clear c6
    try clear c1b0
    try clear c42
    try clear c44
    try clear c46
    try clear c6
    try clear c1b0
    try clear c49
    try clear c51
    try clear i2_0 i2_1 i2_2 i2_3 i2_4
    try clear i1_5 i1_6
    try clear i2_0 i2_1 i2_2 i2_3 i2_4
    try clear i1_5 i1_6
    try clear i2_0 i2_1 i2_2 i2_3 i2_4
    try clear i1_5 i1_6
    try clear i2_0 i2_1 i2_2 i2_3 i2_4
    try clear i1_5 i1_6
    try clear i2_0 i2_1 i2_2 i2_3 i2_4
    try clear i1_5 i1_6
    try clear i2_0 i2_1 i2_2 i2_3 i2_4
    try clear i1_5 i1_6
    try clear i2_0 i2_1 i2_2 i2_3 i2_4
    try clear i1_5 i1_6
    try clear i2_0 i2_1 i2_2 i2_3 i2_4
    try clear i1_5 i1_6
    try clear i2_0 i2_1 i2_2 i2_3 i2_4
    try clear i1_5 i1_6
    try clear i2_0 i2_1 i2_2 i2_3 i2_4
    try clear i1_5 i1_6
    try clear i2_0 i2_1 i2_2 i2_3 i2_4
    try clear i1_5 i1_6
    try clear i2_0 i2_1 i2_2 i2_3 i2_4
    try clear i1_5 i1_6
    try clear i2_0 i2_1 i2_2 i2_3 i2_4
    try clear i1_5 i1_6
    try clear i2_0 i2_1 i2_2 i2_3 i2_4
    try clear i1_5 i1_6
    try clear i2_0 i2_1 i2_2 i2_3 i2_4
    try clear i1_5 i1_6 i1_0 i1_1 i1_2 i1_3 i1_4
    try clear j2_0 j2_1 j2_2 j2_3 j2_4
    try clear j1_5 j1_6
    try clear j2_0 j2_1 j2_2 j2_3 j2_4
    try clear j1_5 j1_6
    try clear j2_0 j2_1 j2_2 j2_3 j2_4
    try clear j1_5 j1_6
    try clear j2_0 j2_1 j2_2 j2_3 j2_4
    try clear j1_5 j1_6
    try clear j2_0 j2_1 j2_2 j2_3 j2_4
    try clear j1_5 j1_6
    try clear j2_0 j2_1 j2_2 j2_3 j2_4
    try clear j1_5 j1_6
    try clear j2_0 j2_1 j2_2 j2_3 j2_4
    try clear j1_5 j1_6
    try clear j2_0 j2_1 j2_2 j2_3 j2_4
    try clear j1_5 j1_6
    try clear j2_0 j2_1 j2_2 j2_3 j2_4
    try clear j1_5 j1_6
    try clear j2_0 j2_1 j2_2 j2_3 j2_4
    try clear j1_5 j1_6
    try clear j2_0 j2_1 j2_2 j2_3 j2_4
    try clear j1_5 j1_6
    try clear j2_0 j2_1 j2_2 j2_3 j2_4
    try clear j1_5 j1_6
    try clear j2_0 j2_1 j2_2 j2_3 j2_4
    try clear j1_5 j1_6
    try clear j2_0 j2_1 j2_2 j2_3 j2_4
    try clear j1_5 j1_6
    try clear j2_0 j2_1 j2_2 j2_3 j2_4
    try clear j1_5 j1_6 j1_0 j1_1 j1_2 j1_3 j1_4
    try clear hx1_0
    try clear hx1_1
    try clear hx1_2
    try clear hx1_3
    try clear hx1_4
    try clear hx1_5
    try clear hx1_6
    try clear p1
    try clear q1
    obtain ⟨kq, x1_5, rfl, HA, HJ1, BK1, BK2, HB⟩ := hcut; cases kq with
    | zero => exact absurd HA.out (by simp [r9_node.j0])
    | succ kj1 =>
     have H := HA.out; clear HA; simp only [r9_node.j0] at H; by_cases c6 : x1_5 = true
     ·subst c6; have H1 : (some false) = some r := by rw [if_pos rfl] at H; exact H
      clear H; have H := H1; clear H1; obtain rfl := Option.some.inj H; go_wp2
      go_ret
      exact ⟨q11z, q3z HB GE1 GE2⟩
     ·replace c6 := Bool.eq_false_iff.mpr c6; subst c6; have H1 : ((r9_fits.f kj1 l0_0 l0_1 l0_2 l0_3 l0_4 a1).bind fun t1 => (some t1)) = some r := by rw [if_neg (show ¬ (false = true) by decide)] at H; exact H
      clear H; have H := H1; clear H1; replace H := Option.bind_eq_some_iff.mp H; obtain ⟨t1, A1, H⟩ := H; have A2 := aM A1; clear A1; obtain rfl := Option.some.inj H; have hnb1 := NB1_370.out; have hnc1 := NB1_368.out; obtain ⟨i1_0, i1_1, i1_2, i1_3, i1_4, j1_0, j1_1, j1_2, j1_3, j1_4⟩ := cells5 BK1.out; go_wp2_with (first | ((with_reducible refine zgc 52 rfl ?_); refine zgl (some 56) Try.func52 #[.agg #[.slice (some ad1) l0_0.length c0_0, .slice A0_1 l0_1.length c0_1, .slice A0_2 l0_2.length c0_2, .slice A0_3 l0_3.length c0_3, .slice A0_4 l0_4.length c0_4], .int .i64 a1] ?_; (with_reducible refine (r9_fits.calls kj1 _ _ l0_0 _ _ l0_1 _ _ l0_2 _ _ l0_3 _ _ l0_4 a1 t1 _ ?side1 ?side2 ?side3 ?side4 ?side5 ?side6 ?side7 ?side8 ?side9 ?side10 A2.out).mono ?_); (case side1 => exact q1z HR1_0 HB); (case side2 => exact HC1_0.out); (case side3 => exact q1z HR1_1 HB); (case side4 => exact HC1_1.out); (case side5 => exact q1z HR1_2 HB); (case side6 => exact HC1_2.out); (case side7 => exact q1z HR1_3 HB); (case side8 => exact HC1_3.out); (case side9 => exact q1z HR1_4 HB); (case side10 => exact HC1_4.out); rintro e w1 ⟨rfl, hb⟩; refine ⟨_, rfl, ?_⟩; replace BK1 := aM (yi (zi BK1) hb); replace BK2 := aM (yi (zi BK2) hb); replace HB := aM (ym (q3z HB GE1 GE2) hb); (try clear hb); (try clear hb2); (try clear hk); (try clear hi)))
      go_ret
      exact ⟨q11z, q3z HB GE1 GE2⟩
  ·rw [if_neg c4] at H; exact absurd H (by simp)
 ·rw [if_neg c3] at H; exact absurd H (by simp)
mutual
def r9_Right.j0 : Nat → Bool → List (S41) → List (S47) → List (S43) → List (S61) → List (S47) → Option (Bool)
 | 0, _, _, _, _, _, _ => none
 | k + 1, x32, x381000, x381001, x381002, x381003, x381004 => if x32 = true then (some false) else (r9_Right.l0 k 0 x381000 x381001 x381002 x381003 x381004)
def r9_Right.l0 : Nat → Int → List (S41) → List (S47) → List (S43) → List (S61) → List (S47) → Option (Bool)
 | 0, _, _, _, _, _, _ => none
 | k + 1, x3, x381000, x381001, x381002, x381003, x381004 => if x3 < (x381000.length : Int) then ((r9_node.f k x381000 x381001 x381002 x381003 x381004 x3).bind fun t381 => (if t381 = true then (r9_Right.l0 k (wrap64 (x3 + 1)) x381000 x381001 x381002 x381003 x381004) else (some false))) else ((r9_pins.f k x381000 x381001 x381002 x381003 x381004).bind fun t382 => (if t382 = true then (r9_Right.l1 k 0 0 x381000 x381001 x381002 x381003 x381004) else (some false)))
def r9_Right.l1 : Nat → Int → Int → List (S41) → List (S47) → List (S43) → List (S61) → List (S47) → Option (Bool)
 | 0, _, _, _, _, _, _, _ => none
 | k + 1, x4, x5, x381000, x381001, x381002, x381003, x381004 => if x5 < (x381002.length : Int) then (if 0 ≤ x5 then (if 0 ≤ ((rd_T43 x381002 x5).f1) then (if ((rd_T43 x381002 x5).f1) < (x381000.length : Int) then ((r9_there.f x381000 x381001 x381002 x381003 x381004 ((rd_T43 x381002 x5).f2)).bind fun t386 => (if t386 = ((rd_T41 x381000 ((rd_T43 x381002 x5).f1)).f1) then (if ((rd_T43 x381002 x5).f3) < 0 then (r9_Right.j3 k (wrap64 (x4 + ((rd_T41 x381000 ((rd_T43 x381002 x5).f1)).f1))) x5 true x381000 x381001 x381002 x381003 x381004) else ((r8_Mask.f ((rd_T41 x381000 ((rd_T43 x381002 x5).f1)).f1)).bind fun t387 => (r9_Right.j3 k (wrap64 (x4 + ((rd_T41 x381000 ((rd_T43 x381002 x5).f1)).f1))) x5 (decide (((rd_T43 x381002 x5).f3) > t387)) x381000 x381001 x381002 x381003 x381004))) else (r9_Right.j3 k (wrap64 (x4 + ((rd_T41 x381000 ((rd_T43 x381002 x5).f1)).f1))) x5 true x381000 x381001 x381002 x381003 x381004))) else (none)) else (none)) else (none)) else (r9_Right.l2 k x4 0 x381000 x381001 x381002 x381003 x381004)
def r9_Right.j3 : Nat → Int → Int → Bool → List (S41) → List (S47) → List (S43) → List (S61) → List (S47) → Option (Bool)
 | 0, _, _, _, _, _, _, _, _ => none
 | k + 1, x4, x5, x86, x381000, x381001, x381002, x381003, x381004 => if x86 = true then (some false) else (r9_Right.l1 k x4 (wrap64 (x5 + 1)) x381000 x381001 x381002 x381003 x381004)
def r9_Right.l2 : Nat → Int → Int → List (S41) → List (S47) → List (S43) → List (S61) → List (S47) → Option (Bool)
 | 0, _, _, _, _, _, _, _ => none
 | k + 1, x4, x8, x381000, x381001, x381002, x381003, x381004 => if x8 < (x381003.length : Int) then (if 0 ≤ x8 then (if ((rd_T61 x381003 x8).f0) < 8 then (r9_Right.j5 k x4 x8 true x381000 x381001 x381002 x381003 x381004) else (if ((rd_T61 x381003 x8).f0) > 10 then (r9_Right.j5 k x4 x8 true x381000 x381001 x381002 x381003 x381004) else ((r9_there.f x381000 x381001 x381002 x381003 x381004 ((rd_T61 x381003 x8).f2)).bind fun t390 => (r9_Right.j5 k x4 x8 (t390 != 1) x381000 x381001 x381002 x381003 x381004)))) else (none)) else (r9_Right.l3 k x4 0 x381000 x381001 x381002 x381003 x381004)
def r9_Right.j5 : Nat → Int → Int → Bool → List (S41) → List (S47) → List (S43) → List (S61) → List (S47) → Option (Bool)
 | 0, _, _, _, _, _, _, _, _ => none
 | k + 1, x4, x8, x113, x381000, x381001, x381002, x381003, x381004 => if x113 = true then (some false) else (r9_Right.l2 k x4 (wrap64 (x8 + 1)) x381000 x381001 x381002 x381003 x381004)
def r9_Right.l3 : Nat → Int → Int → List (S41) → List (S47) → List (S43) → List (S61) → List (S47) → Option (Bool)
 | 0, _, _, _, _, _, _, _ => none
 | k + 1, x4, x10, x381000, x381001, x381002, x381003, x381004 => if x10 < (x381004.length : Int) then (if 0 ≤ x10 then ((r9_there.f x381000 x381001 x381002 x381003 x381004 ((rd_T47 x381004 x10).f1)).bind fun t392 => (if t392 = 0 then (some false) else (r9_Right.l3 k x4 (wrap64 (x10 + 1)) x381000 x381001 x381002 x381003 x381004))) else (none)) else (some (decide (x4 ≤ 256)))
end
def r9_Right.f (k : Nat) (l0_0 : List (S41)) (l0_1 : List (S47)) (l0_2 : List (S43)) (l0_3 : List (S61)) (l0_4 : List (S47)) : Option (Bool) := if (l0_0.length : Int) > 4000 then (r9_Right.j0 k true l0_0 l0_1 l0_2 l0_3 l0_4) else (if (l0_1.length : Int) > 64 then (r9_Right.j0 k true l0_0 l0_1 l0_2 l0_3 l0_4) else (if (l0_2.length : Int) > 256 then (r9_Right.j0 k true l0_0 l0_1 l0_2 l0_3 l0_4) else (r9_Right.j0 k (decide ((l0_3.length : Int) > 16)) l0_0 l0_1 l0_2 l0_3 l0_4)))
theorem r9_Right.mono_l : ∀ k, (∀ y0 y1 y2 y3 y4 y5, LeO (r9_Right.j0 k y0 y1 y2 y3 y4 y5) (r9_Right.j0 (k + 1) y0 y1 y2 y3 y4 y5)) ∧ (∀ y0 y1 y2 y3 y4 y5, LeO (r9_Right.l0 k y0 y1 y2 y3 y4 y5) (r9_Right.l0 (k + 1) y0 y1 y2 y3 y4 y5)) ∧ (∀ y0 y1 y2 y3 y4 y5 y6, LeO (r9_Right.l1 k y0 y1 y2 y3 y4 y5 y6) (r9_Right.l1 (k + 1) y0 y1 y2 y3 y4 y5 y6)) ∧ (∀ y0 y1 y2 y3 y4 y5 y6 y7, LeO (r9_Right.j3 k y0 y1 y2 y3 y4 y5 y6 y7) (r9_Right.j3 (k + 1) y0 y1 y2 y3 y4 y5 y6 y7)) ∧ (∀ y0 y1 y2 y3 y4 y5 y6, LeO (r9_Right.l2 k y0 y1 y2 y3 y4 y5 y6) (r9_Right.l2 (k + 1) y0 y1 y2 y3 y4 y5 y6)) ∧ (∀ y0 y1 y2 y3 y4 y5 y6 y7, LeO (r9_Right.j5 k y0 y1 y2 y3 y4 y5 y6 y7) (r9_Right.j5 (k + 1) y0 y1 y2 y3 y4 y5 y6 y7)) ∧ (∀ y0 y1 y2 y3 y4 y5 y6, LeO (r9_Right.l3 k y0 y1 y2 y3 y4 y5 y6) (r9_Right.l3 (k + 1) y0 y1 y2 y3 y4 y5 y6))
 | 0 => ⟨fun _ _ _ _ _ _ r h => by simp [r9_Right.j0] at h, fun _ _ _ _ _ _ r h => by simp [r9_Right.l0] at h, fun _ _ _ _ _ _ _ r h => by simp [r9_Right.l1] at h, fun _ _ _ _ _ _ _ _ r h => by simp [r9_Right.j3] at h, fun _ _ _ _ _ _ _ r h => by simp [r9_Right.l2] at h, fun _ _ _ _ _ _ _ _ r h => by simp [r9_Right.j5] at h, fun _ _ _ _ _ _ _ r h => by simp [r9_Right.l3] at h⟩
 | k + 1 => by
  obtain ⟨ih0, ih1, ih2, ih3, ih4, ih5, ih6⟩ := r9_Right.mono_l k; refine ⟨?_, ?_, ?_, ?_, ?_, ?_, ?_⟩ <;> intros <;> (first | unfold r9_Right.j0 | unfold r9_Right.l0 | unfold r9_Right.l1 | unfold r9_Right.j3 | unfold r9_Right.l2 | unfold r9_Right.j5 | unfold r9_Right.l3) <;> repeat' first | (with_reducible first | apply ih0 | apply ih1 | apply ih2 | apply ih3 | apply ih4 | apply ih5 | apply ih6 | apply r9_node.mono | apply r9_pins.mono | exact LeO.refl _ | exact LeO.none _ | refine LeO.ite ?_ ?_ | refine LeO.bind ?_ (fun _ => ?_)) | exact LeO.none _ | refine LeO.ite ?_ ?_ | refine LeO.bind ?_ (fun _ => ?_)
theorem r9_Right.mono : ∀ a0 a1 a2 a3 a4 k, LeO (r9_Right.f k a0 a1 a2 a3 a4) (r9_Right.f (k + 1) a0 a1 a2 a3 a4) := by
 intro a0 a1 a2 a3 a4 k
 obtain ⟨ih1, ih2, ih3, ih4, ih5, ih6, ih7⟩ := r9_Right.mono_l k; unfold r9_Right.f
 repeat' first | (with_reducible first | apply ih1 | apply ih2 | apply ih3 | apply ih4 | apply ih5 | apply ih6 | apply ih7 | exact LeO.refl _ | exact LeO.none _ | refine LeO.ite ?_ ?_ | refine LeO.bind ?_ (fun _ => ?_)) | exact LeO.none _ | refine LeO.ite ?_ ?_ | refine LeO.bind ?_ (fun _ => ?_)
def r9_Right.T17 : Bool × List (List Nat × List Nat) := (true, [([], []), ([], []), ([1], [1]), ([0, 2], [0, 2]), ([], []), ([3, 4], [3, 4]), ([5, 3], [5]), ([6], [6]), ([7, 6], [6, 7]), ([8, 6], [6, 8]), ([6, 9], [6, 9]), ([10, 6], [10]), ([11], [11]), ([12, 11], [11, 12]), ([11], [11]), ([14, 11, 11], [11, 14]), ([13, 15, 11], [11, 13, 15]), ([11, 16], [11, 16])])
def r9_Right.B17 : List Nat := [0, 0, 2, 7, 0, 31, 63, 127, 255, 511, 1023, 2047, 4095, 8191, 4095, 20479, 65535, 131071]
theorem r9_Right.tab17 : rtab .any (opsOf Try.f13 17) = r9_Right.T17 := by kernel_rfl
theorem r9_Right.bits17 : waitsOk r9_Right.T17.2 r9_Right.B17 = true := by kernel_rfl
def r9_Right.T28 : Bool × List (List Nat × List Nat) := (true, [([], []), ([], []), ([1], [1]), ([], []), ([2, 3], [2, 3]), ([4], [4]), ([5], [5]), ([0, 6], [0, 6]), ([7], [7])])
def r9_Right.B28 : List Nat := [0, 0, 2, 0, 14, 30, 62, 127, 255]
theorem r9_Right.tab28 : rtab .any (opsOf Try.f13 28) = r9_Right.T28 := by kernel_rfl
theorem r9_Right.bits28 : waitsOk r9_Right.T28.2 r9_Right.B28 = true := by kernel_rfl
theorem z74_5 {P : Prop} (h : P := by
 have H' := aM H; clear H; obtain ⟨i1_0, i1_1, i1_2, i1_3, i1_4, j1_0, j1_1, j1_2, j1_3, j1_4⟩ := cells5 BK1.out; go_wp2
 go_meet
 case rel => exact ⟨_, (true), q13z, H', ⟨q52z⟩, ⟨q10z BK1⟩, ⟨q4z HB GE1⟩⟩) : P := h
theorem z74_3 {P : Prop} (h : P := by
 clear c4; exact z74_5) : P := h
theorem z74_1 {P : Prop} (h : P := by
 refine zpu 10 79 (zb 18 2047) ?_; refine zpu 11 80 (zb 18 4095) ?_; refine zpn 12 81 (zb 18 8191) ?_; refine zpn 13 82 (zb 18 16383) ?_; refine zpn 14 83 (zb 18 32767) ?_; refine zpn 15 84 (zb 18 65535) ?_; refine zpn 16 85 (zb 18 131071) ?_; refine zpu 17 86 (zb 18 262143) ?_; refine zdo ?_; try go_wp2
 go_meet
 case rel => exact ⟨_, (true), q13z, H', ⟨q70z HJ1 HK1 HK2⟩, ⟨q10z BK1⟩, ⟨q10z BK2⟩, ⟨q3z HB GE1 GE2⟩⟩) : P := h
theorem z74_4 {P : Prop} (h : P := by
 have H1 : (some false) = some r := by rw [if_pos rfl] at H; exact H
 clear H; have H := H1; clear H1; obtain rfl := Option.some.inj H; go_wp2
 go_ret
 exact ⟨q11z, q3z HB GE1 GE2⟩) : P := h
theorem z74_2 {P : Prop} (h : P := by
 have H' := aM H; clear H; have hnb1 := NB1_380.out; have hnc1 := NB1_389.out; obtain ⟨i6_0, i6_1, i6_2, j6_0, j6_1, j6_2⟩ := cells3 BK2.out; go_wp2
 go_meet
 case rel => exact ⟨_, (true), q13z, H', ⟨q76z HJ1 HK1 HK2 HK3⟩, ⟨q32z NB1_389 BK1⟩, ⟨q33z BK2⟩, ⟨q3z HB GE1 GE2⟩⟩) : P := h
theorem r9_Right.calls (k : Nat) (A0_0 : Option Addr) (c0_0 : Nat) (l0_0 : List (S41)) (A0_1 : Option Addr) (c0_1 : Nat) (l0_1 : List (S47)) (A0_2 : Option Addr) (c0_2 : Nat) (l0_2 : List (S43)) (A0_3 : Option Addr) (c0_3 : Nat) (l0_3 : List (S61)) (A0_4 : Option Addr) (c0_4 : Nat) (l0_4 : List (S47)) (r : Bool) (w : World) (hr0_0 : Kd.C k41 w A0_0 l0_0.length l0_0) (hc0_0 : l0_0.length ≤ c0_0) (hr0_1 : Kd.C k47 w A0_1 l0_1.length l0_1) (hc0_1 : l0_1.length ≤ c0_1) (hr0_2 : Kd.C k43 w A0_2 l0_2.length l0_2) (hc0_2 : l0_2.length ≤ c0_2) (hr0_3 : Kd.C k61 w A0_3 l0_3.length l0_3) (hc0_3 : l0_3.length ≤ c0_3) (hr0_4 : Kd.C k47 w A0_4 l0_4.length l0_4) (hc0_4 : l0_4.length ≤ c0_4) (h : r9_Right.f k l0_0 l0_1 l0_2 l0_3 l0_4 = some r) :
  Calls Try.prog 13 #[.agg #[.slice A0_0 l0_0.length c0_0, .slice A0_1 l0_1.length c0_1, .slice A0_2 l0_2.length c0_2, .slice A0_3 l0_3.length c0_3, .slice A0_4 l0_4.length c0_4]] w fun e w' => e = .returned (.bool r) ∧ Below w.heap.size w w' := by
 have hu1 := Try.underlying27; have hu1 := Try.underlying43; have hu1 := Try.underlying61; have HR1_0 := aM hr0_0; have HC1_0 := aM hc0_0; clear hr0_0 hc0_0; have HR1_1 := aM hr0_1; have HC1_1 := aM hc0_1; clear hr0_1 hc0_1; have HR1_2 := aM hr0_2; have HC1_2 := aM hc0_2; clear hr0_2 hc0_2; have HR1_3 := aM hr0_3; have HC1_3 := aM hc0_3; clear hr0_3 hc0_3; have HR1_4 := aM hr0_4; have HC1_4 := aM hc0_4; clear hr0_4 hc0_4; have HB := aM (Below.refl w.heap.size w); have H : (if (l0_0.length : Int) > 4000 then (r9_Right.j0 k true l0_0 l0_1 l0_2 l0_3 l0_4) else (if (l0_1.length : Int) > 64 then (r9_Right.j0 k true l0_0 l0_1 l0_2 l0_3 l0_4) else (if (l0_2.length : Int) > 256 then (r9_Right.j0 k true l0_0 l0_1 l0_2 l0_3 l0_4) else (r9_Right.j0 k (decide ((l0_3.length : Int) > 16)) l0_0 l0_1 l0_2 l0_3 l0_4)))) = some r := h; clear h; have HC1 := aM H; clear H; go_enter Try.func13, Try.ntmps13
 go_upto_region 1 with (first | ((with_reducible refine gate_dst (N := 1) rfl ?_); (try (refine gate_guard (by rfl) ?_; dsimp only)); refine box_event ?hg (N := 1) ?hd (cs := #[.slice A0_0 l0_0.length c0_0, .slice A0_1 l0_1.length c0_1, .slice A0_2 l0_2.length c0_2, .slice A0_3 l0_3.length c0_3, .slice A0_4 l0_4.length c0_4]) (t := 27) ?hr ?_; (case hd => rfl); (case hg => rfl); (case hr => exact q30z); intro gb1 hg w1 hbox hb; have BK1 := aM (hbox); have GW1 := aM ((q7z HB : w.heap.size ≤ gb1)); have GE1 := aM ((q7z HB : w.heap.size ≤ gb1)); replace HB := aM (ym (q5z HB) hb); clear hb hbox hg))
 (try simp only [Act.put, yu, yv, yw])
 go_cut [32] (fun v1 wc => ∃ (kq : Nat) (x1_1 : Bool), v1 = .bool x1_1 ∧ Aside0 (r9_Right.j0 kq x1_1 l0_0 l0_1 l0_2 l0_3 l0_4 = some r) ∧ Aside0 (kq ≤ k) ∧ Aside0 (wc.heap[gb1]? = some (.cells #[(.slice A0_0 l0_0.length c0_0), (.slice A0_1 l0_1.length c0_1), (.slice A0_2 l0_2.length c0_2), (.slice A0_3 l0_3.length c0_3), (.slice A0_4 l0_4.length c0_4)] 27 (0, 0))) ∧ Aside0 (Below w.heap.size w wc))
 case first =>
  have H := HC1.out; clear HC1; by_cases c4 : (l0_0.length : Int) > 4000
  ·rw [if_pos c4] at H; have c1b0 : decide (4000 < (l0_0.length : Int)) = true := decide_eq_true c4; have c1b1 : decide (4000 < l0_0.length) = true := decide_eq_true (by omega); clear c4; (first | rw [c1b0] | (simp only [i64_w, i32_w]; rw [c1b0]) | skip)
   exact z74_5
  ·rw [if_neg c4] at H; have c1b0 : decide (4000 < (l0_0.length : Int)) = false := decide_eq_false c4; have c1b1 : decide (4000 < l0_0.length) = false := decide_eq_false (by omega); clear c4; (first | rw [c1b0] | (simp only [i64_w, i32_w]; rw [c1b0]) | skip)
   by_cases c4 : (l0_1.length : Int) > 64
   ·rw [if_pos c4] at H; have c1b0 : decide (64 < (l0_1.length : Int)) = true := decide_eq_true c4; have c1b1 : decide (64 < l0_1.length) = true := decide_eq_true (by omega); exact z74_3
   ·rw [if_neg c4] at H; have c1b0 : decide (64 < (l0_1.length : Int)) = false := decide_eq_false c4; have c1b1 : decide (64 < l0_1.length) = false := decide_eq_false (by omega); clear c4; by_cases c4 : (l0_2.length : Int) > 256
    ·rw [if_pos c4] at H; have c1b0 : decide (256 < (l0_2.length : Int)) = true := decide_eq_true c4; have c1b1 : decide (256 < l0_2.length) = true := decide_eq_true (by omega); exact z74_3
    ·rw [if_neg c4] at H; have c1b0 : decide (256 < (l0_2.length : Int)) = false := decide_eq_false c4; have c1b1 : decide (256 < l0_2.length) = false := decide_eq_false (by omega); clear c4; have H' := aM H; clear H; obtain ⟨i1_0, i1_1, i1_2, i1_3, i1_4, j1_0, j1_1, j1_2, j1_3, j1_4⟩ := cells5 BK1.out; go_wp2
     go_meet
     case rel => exact ⟨_, (decide ((l0_3.length : Int) > 16)), q13z, H', ⟨q52z⟩, ⟨q10z BK1⟩, ⟨q4z HB GE1⟩⟩
 case rest =>
  clear HC1; try clear c1
  try clear p2
  try clear c4
  try clear c1b0
  try clear c1b1
  try clear c6
  try clear c2b0
  try clear c2b1
  try clear c7
  try clear c3b0
  try clear c3b1
  try clear i1_0 i1_1 i1_2 i1_3 i1_4
  try clear i2_0 i2_1 i2_2 i2_3 i2_4
  try clear i3_0 i3_1 i3_2 i3_3 i3_4
  try clear i4_0 i4_1 i4_2 i4_3 i4_4
  try clear j1_0 j1_1 j1_2 j1_3 j1_4
  try clear j2_0 j2_1 j2_2 j2_3 j2_4
  try clear j3_0 j3_1 j3_2 j3_3 j3_4
  try clear j4_0 j4_1 j4_2 j4_3 j4_4
  obtain ⟨kq, x1_1, rfl, HA, HJ1, BK1, HB⟩ := hcut; cases kq with
  | zero => exact absurd HA.out (by simp [r9_Right.j0])
  | succ kj1 =>
   have H := HA.out; clear HA; simp only [r9_Right.j0] at H; by_cases c8 : x1_1 = true
   ·subst c8; have H1 : (some false) = some r := by rw [if_pos rfl] at H; exact H
    clear H; have H := H1; clear H1; obtain rfl := Option.some.inj H; go_wp2
    go_ret
    exact ⟨q11z, q4z HB GE1⟩
   ·replace c8 := Bool.eq_false_iff.mpr c8; subst c8; have H1 : (r9_Right.l0 kj1 0 l0_0 l0_1 l0_2 l0_3 l0_4) = some r := by rw [if_neg (show ¬ (false = true) by decide)] at H; exact H
    clear H; have H := H1; clear H1; have H' := aM H; clear H; go_wp2
    go_loopg [3] kj1 (fun kq v1 w' => ∃ (x1_2 : Int), v1 = .int .i64 x1_2 ∧ Aside0 (r9_Right.l0 kq x1_2 l0_0 l0_1 l0_2 l0_3 l0_4 = some r) ∧ Aside0 (kq ≤ kj1) ∧ Aside0 (w'.heap[gb1]? = some (.cells #[(.slice A0_0 l0_0.length c0_0), (.slice A0_1 l0_1.length c0_1), (.slice A0_2 l0_2.length c0_2), (.slice A0_3 l0_3.length c0_3), (.slice A0_4 l0_4.length c0_4)] 27 (0, 0))) ∧ Aside0 (Below w.heap.size w w'))
    case atStart => exact ⟨(0), q13z, H', ⟨Nat.le_refl _⟩, ⟨q10z BK1⟩, ⟨q4z HB GE1⟩⟩
    case round =>
     clear H'; try clear c1
     try clear p2
     try clear c4
     try clear c1b0
     try clear c1b1
     try clear c6
     try clear c2b0
     try clear c2b1
     try clear c7
     try clear c3b0
     try clear c3b1
     try clear c8
     try clear i1_0 i1_1 i1_2 i1_3 i1_4
     try clear i2_0 i2_1 i2_2 i2_3 i2_4
     try clear i3_0 i3_1 i3_2 i3_3 i3_4
     try clear i4_0 i4_1 i4_2 i4_3 i4_4
     try clear j1_0 j1_1 j1_2 j1_3 j1_4
     try clear j2_0 j2_1 j2_2 j2_3 j2_4
     try clear j3_0 j3_1 j3_2 j3_3 j3_4
     try clear j4_0 j4_1 j4_2 j4_3 j4_4
     try clear p2
     obtain ⟨x1_2, rfl, HA, HK1, BK1, HB⟩ := hrel; cases gk with
     | zero => exact absurd HA.out (by simp [r9_Right.l0])
     | succ k1 =>
      have H := HA.out; clear HA; simp only [r9_Right.l0] at H; by_cases c9 : x1_2 < (l0_0.length : Int)
      ·rw [if_pos c9] at H; have c4b0 := decide_eq_true c9; clear c9; replace H := Option.bind_eq_some_iff.mp H; obtain ⟨t1, A1, H⟩ := H; have A2 := aM A1; clear A1; by_cases c10 : t1 = true
       ·subst c10; have H1 : (r9_Right.l0 k1 (wrap64 (x1_2 + 1)) l0_0 l0_1 l0_2 l0_3 l0_4) = some r := by rw [if_pos rfl] at H; exact H
        clear H; have H := H1; clear H1; have H' := aM H; clear H; obtain ⟨i5_0, i5_1, i5_2, i5_3, i5_4, j5_0, j5_1, j5_2, j5_3, j5_4⟩ := cells5 BK1.out; go_wp2_with (first | ((with_reducible refine zgc 37 rfl ?_); refine zgl (some 42) Try.func37 #[.agg #[.slice A0_0 l0_0.length c0_0, .slice A0_1 l0_1.length c0_1, .slice A0_2 l0_2.length c0_2, .slice A0_3 l0_3.length c0_3, .slice A0_4 l0_4.length c0_4], .int .i64 x1_2] ?_; (with_reducible refine (r9_node.calls k1 _ _ l0_0 _ _ l0_1 _ _ l0_2 _ _ l0_3 _ _ l0_4 x1_2 true _ ?side1 ?side2 ?side3 ?side4 ?side5 ?side6 ?side7 ?side8 ?side9 ?side10 A2.out).mono ?_); (case side1 => exact q1z HR1_0 HB); (case side2 => exact HC1_0.out); (case side3 => exact q1z HR1_1 HB); (case side4 => exact HC1_1.out); (case side5 => exact q1z HR1_2 HB); (case side6 => exact HC1_2.out); (case side7 => exact q1z HR1_3 HB); (case side8 => exact HC1_3.out); (case side9 => exact q1z HR1_4 HB); (case side10 => exact HC1_4.out); rintro e w1 ⟨rfl, hb⟩; refine ⟨_, rfl, ?_⟩; replace BK1 := aM (yi (zi BK1) hb); replace HB := aM (ym (q4z HB GE1) hb); (try clear hb); (try clear hb2); (try clear hk); (try clear hi)))
        go_roundg k1
        case measure => have := HJ1.out; have := HK1.out; omega
        case rel => exact ⟨(wrap64 (x1_2 + 1)), q13z, H', ⟨q87z HJ1 HK1⟩, ⟨q10z BK1⟩, ⟨q4z HB GE1⟩⟩
       ·replace c10 := Bool.eq_false_iff.mpr c10; subst c10; have H1 : (some false) = some r := by rw [if_neg (show ¬ (false = true) by decide)] at H; exact H
        clear H; have H := H1; clear H1; obtain rfl := Option.some.inj H; obtain ⟨i5_0, i5_1, i5_2, i5_3, i5_4, j5_0, j5_1, j5_2, j5_3, j5_4⟩ := cells5 BK1.out; go_wp2_with (first | ((with_reducible refine zgc 37 rfl ?_); refine zgl (some 42) Try.func37 #[.agg #[.slice A0_0 l0_0.length c0_0, .slice A0_1 l0_1.length c0_1, .slice A0_2 l0_2.length c0_2, .slice A0_3 l0_3.length c0_3, .slice A0_4 l0_4.length c0_4], .int .i64 x1_2] ?_; (with_reducible refine (r9_node.calls k1 _ _ l0_0 _ _ l0_1 _ _ l0_2 _ _ l0_3 _ _ l0_4 x1_2 false _ ?side1 ?side2 ?side3 ?side4 ?side5 ?side6 ?side7 ?side8 ?side9 ?side10 A2.out).mono ?_); (case side1 => exact q1z HR1_0 HB); (case side2 => exact HC1_0.out); (case side3 => exact q1z HR1_1 HB); (case side4 => exact HC1_1.out); (case side5 => exact q1z HR1_2 HB); (case side6 => exact HC1_2.out); (case side7 => exact q1z HR1_3 HB); (case side8 => exact HC1_3.out); (case side9 => exact q1z HR1_4 HB); (case side10 => exact HC1_4.out); rintro e w1 ⟨rfl, hb⟩; refine ⟨_, rfl, ?_⟩; replace BK1 := aM (yi (zi BK1) hb); replace HB := aM (ym (q4z HB GE1) hb); (try clear hb); (try clear hb2); (try clear hk); (try clear hi)))
        go_ret
        exact ⟨q11z, q4z HB GE1⟩
      ·rw [if_neg c9] at H; have c4b0 := decide_eq_false c9; clear c9; replace H := Option.bind_eq_some_iff.mp H; obtain ⟨t1, A1, H⟩ := H; have A2 := aM A1; clear A1; by_cases c10 : t1 = true
       ·subst c10; have H1 : (r9_Right.l1 k1 0 0 l0_0 l0_1 l0_2 l0_3 l0_4) = some r := by rw [if_pos rfl] at H; exact H
        clear H; have H := H1; clear H1; have H' := aM H; clear H; obtain ⟨i5_0, i5_1, i5_2, i5_3, i5_4, j5_0, j5_1, j5_2, j5_3, j5_4⟩ := cells5 BK1.out; go_wp2_with (first | ((with_reducible refine zgc 38 rfl ?_); refine zgl (some 45) Try.func38 #[.agg #[.slice A0_0 l0_0.length c0_0, .slice A0_1 l0_1.length c0_1, .slice A0_2 l0_2.length c0_2, .slice A0_3 l0_3.length c0_3, .slice A0_4 l0_4.length c0_4]] ?_; (with_reducible refine (r9_pins.calls k1 _ _ l0_0 _ _ l0_1 _ _ l0_2 _ _ l0_3 _ _ l0_4 true _ ?side1 ?side2 ?side3 ?side4 ?side5 ?side6 ?side7 ?side8 ?side9 ?side10 A2.out).mono ?_); (case side1 => exact q1z HR1_0 HB); (case side2 => exact HC1_0.out); (case side3 => exact q1z HR1_1 HB); (case side4 => exact HC1_1.out); (case side5 => exact q1z HR1_2 HB); (case side6 => exact HC1_2.out); (case side7 => exact q1z HR1_3 HB); (case side8 => exact HC1_3.out); (case side9 => exact q1z HR1_4 HB); (case side10 => exact HC1_4.out); rintro e w1 ⟨rfl, hb⟩; refine ⟨_, rfl, ?_⟩; replace BK1 := aM (yi (zi BK1) hb); replace HB := aM (ym (q4z HB GE1) hb); (try clear hb); (try clear hb2); (try clear hk); (try clear hi)))
        go_loopg [4, 5] k1 (fun kq v1 v2 w' => ∃ (x1_3 : Int) (x2_3 : Int), v1 = .int .i64 x1_3 ∧ v2 = .int .i64 x2_3 ∧ Aside0 (r9_Right.l1 kq x1_3 x2_3 l0_0 l0_1 l0_2 l0_3 l0_4 = some r) ∧ Aside0 (kq ≤ k1) ∧ Aside0 (w'.heap[gb1]? = some (.cells #[(.slice A0_0 l0_0.length c0_0), (.slice A0_1 l0_1.length c0_1), (.slice A0_2 l0_2.length c0_2), (.slice A0_3 l0_3.length c0_3), (.slice A0_4 l0_4.length c0_4)] 27 (0, 0))) ∧ Aside0 (Below w.heap.size w w'))
        case atStart => exact ⟨(0), (0), q13z, q13z, H', ⟨Nat.le_refl _⟩, ⟨q10z BK1⟩, ⟨q4z HB GE1⟩⟩
        case round =>
         clear H'; try clear c1
         try clear c2
         try clear p2
         try clear c3
         try clear c4
         try clear c1b0
         try clear c1b1
         try clear c6
         try clear c2b0
         try clear c2b1
         try clear p6
         try clear c7
         try clear c3b0
         try clear c3b1
         try clear c8
         try clear c9
         try clear c4b0
         try clear c13
         try clear c7
         try clear c10
         try clear i1_0 i1_1 i1_2 i1_3 i1_4 i1_0 i1_1 i1_2 i1_3 i1_4 i1_0 i1_1 i1_2 i1_3 i1_4
         try clear i5_0 i5_1 i5_2 i5_3 i5_4
         try clear i2_0 i2_1 i2_2 i2_3 i2_4
         try clear i3_0 i3_1 i3_2 i3_3 i3_4
         try clear i4_0 i4_1 i4_2 i4_3 i4_4
         try clear j1_0 j1_1 j1_2 j1_3 j1_4 j1_0 j1_1 j1_2 j1_3 j1_4 j1_0 j1_1 j1_2 j1_3 j1_4
         try clear j5_0 j5_1 j5_2 j5_3 j5_4
         try clear j2_0 j2_1 j2_2 j2_3 j2_4
         try clear j3_0 j3_1 j3_2 j3_3 j3_4
         try clear j4_0 j4_1 j4_2 j4_3 j4_4
         try clear p2
         obtain ⟨x1_3, x2_3, rfl, rfl, HA, HK2, BK1, HB⟩ := hrel; cases gk with
         | zero => exact absurd HA.out (by simp [r9_Right.l1])
         | succ k2 =>
          have H := HA.out; clear HA; simp only [r9_Right.l1] at H; by_cases c7 : x2_3 < (l0_2.length : Int)
          ·rw [if_pos c7] at H; have c1b0 := decide_eq_true c7; clear c7; by_cases c8 : 0 ≤ x2_3
           ·rw [if_pos c8] at H; have c1b0 := decide_eq_true c8; clear c8; by_cases c9 : 0 ≤ ((rd_T43 l0_2 x2_3).f1)
            ·rw [if_pos c9] at H; have c1b0 := decide_eq_true c9; clear c9; by_cases c11 : ((rd_T43 l0_2 x2_3).f1) < (l0_0.length : Int)
             ·rw [if_pos c11] at H; have c1b0 := decide_eq_true c11; clear c11; have HC1 := aM H; clear H; obtain ⟨i1_0, i1_1, i1_2, i1_3, i1_4, j1_0, j1_1, j1_2, j1_3, j1_4⟩ := cells5 BK1.out; have p1 : 0 ≤ (x2_3 : Int) := zod; have q1 : x2_3 < (l0_2.length : Int) := zod; obtain ⟨ad1, e1, hx1_0, hx1_1, hx1_2, hx1_3⟩ := at_T43 HR1_2.out x2_3 p1 q1; cases e1; replace hx1_0 := zx HB hx1_0; replace hx1_1 := zx HB hx1_1; replace hx1_2 := zx HB hx1_2; replace hx1_3 := zx HB hx1_3; replace p1 := eq_true p1; replace q1 := eq_true q1; go_upto_region 17 with (first | ((with_reducible refine gate_dst (N := 6) rfl ?_); (try (refine gate_guard (by rfl) ?_; dsimp only)); refine box_event ?hg (N := 6) ?hd (cs := #[.string (⟨#[]⟩ : ByteArray), .int .i64 0, .int .i64 0, .int .i64 0]) (t := 43) ?hr ?_; (case hd => rfl); (case hg => rfl); (case hr => exact q30z); intro gb2 hg w1 hbox hb; have BK2 := aM (hbox); have GW1 := aM ((q12z HB GE1 : w.heap.size ≤ gb2)); have GE2 := aM ((q12z HB GE1 : w.heap.size ≤ gb2)); replace HB := aM (ym (q4z HB GE1) hb); have NB1_384 := aM ((q34z BK1 : gb1 ≠ gb2)); have NB1_380 := aM ((q35z BK1 : gb2 ≠ gb1)); replace BK1 := aM (yi (zi BK1) hb); clear hb hbox hg; have hnb1 := NB1_380.out; have hnc1 := NB1_384.out; obtain ⟨i1_0, i1_1, i1_2, i1_3, j1_0, j1_1, j1_2, j1_3⟩ := cells4 BK2.out; obtain ⟨i2_0, i2_1, i2_2, i2_3, i1_4, j2_0, j2_1, j2_2, j2_3, j1_4⟩ := cells5 BK1.out; have p4 : 0 ≤ (((rd_T43 l0_2 x2_3).f1) : Int) := zod; have q2 : ((rd_T43 l0_2 x2_3).f1) < (l0_0.length : Int) := zod; obtain ⟨ad2, e1, hx2_0, hx2_1, hx2_2, hx2_3, hx1_4, hx1_5, hx1_6⟩ := at_T41 HR1_0.out ((rd_T43 l0_2 x2_3).f1) p4 q2; cases e1; have hn1_0 : ad2.block ≠ gb2 := Nat.ne_of_lt (Nat.lt_of_lt_of_le q83z GW1.out); have hn1_1 : ad2.block ≠ gb2 := Nat.ne_of_lt (Nat.lt_of_lt_of_le q83z GW1.out); have hn1_2 : ad2.block ≠ gb2 := Nat.ne_of_lt (Nat.lt_of_lt_of_le q83z GW1.out); have hn1_3 : ad2.block ≠ gb2 := Nat.ne_of_lt (Nat.lt_of_lt_of_le q83z GW1.out); replace hx2_0 := zx HB hx2_0; replace hx2_1 := zx HB hx2_1; replace hx2_2 := zx HB hx2_2; replace hx2_3 := zx HB hx2_3; replace hx1_4 := zx HB hx1_4; replace hx1_5 := zx HB hx1_5; replace hx1_6 := zx HB hx1_6; replace hx2_0 := (zf 0 hn1_0 (.string ((rd_T43 l0_2 x2_3).f0))).trans hx2_0; replace hx2_1 := (zf 0 hn1_0 (.string ((rd_T43 l0_2 x2_3).f0))).trans hx2_1; replace hx2_2 := (zf 0 hn1_0 (.string ((rd_T43 l0_2 x2_3).f0))).trans hx2_2; replace hx2_3 := (zf 0 hn1_0 (.string ((rd_T43 l0_2 x2_3).f0))).trans hx2_3; replace hx1_4 := (zf 0 hn1_0 (.string ((rd_T43 l0_2 x2_3).f0))).trans hx1_4; replace hx1_5 := (zf 0 hn1_0 (.string ((rd_T43 l0_2 x2_3).f0))).trans hx1_5; replace hx1_6 := (zf 0 hn1_0 (.string ((rd_T43 l0_2 x2_3).f0))).trans hx1_6; replace hx2_0 := (zf 1 hn1_1 (.int .i64 ((rd_T43 l0_2 x2_3).f1))).trans hx2_0; replace hx2_1 := (zf 1 hn1_1 (.int .i64 ((rd_T43 l0_2 x2_3).f1))).trans hx2_1; replace hx2_2 := (zf 1 hn1_1 (.int .i64 ((rd_T43 l0_2 x2_3).f1))).trans hx2_2; replace hx2_3 := (zf 1 hn1_1 (.int .i64 ((rd_T43 l0_2 x2_3).f1))).trans hx2_3; replace hx1_4 := (zf 1 hn1_1 (.int .i64 ((rd_T43 l0_2 x2_3).f1))).trans hx1_4; replace hx1_5 := (zf 1 hn1_1 (.int .i64 ((rd_T43 l0_2 x2_3).f1))).trans hx1_5; replace hx1_6 := (zf 1 hn1_1 (.int .i64 ((rd_T43 l0_2 x2_3).f1))).trans hx1_6; replace hx2_0 := (zf 2 hn1_2 (.int .i64 ((rd_T43 l0_2 x2_3).f2))).trans hx2_0; replace hx2_1 := (zf 2 hn1_2 (.int .i64 ((rd_T43 l0_2 x2_3).f2))).trans hx2_1; replace hx2_2 := (zf 2 hn1_2 (.int .i64 ((rd_T43 l0_2 x2_3).f2))).trans hx2_2; replace hx2_3 := (zf 2 hn1_2 (.int .i64 ((rd_T43 l0_2 x2_3).f2))).trans hx2_3; replace hx1_4 := (zf 2 hn1_2 (.int .i64 ((rd_T43 l0_2 x2_3).f2))).trans hx1_4; replace hx1_5 := (zf 2 hn1_2 (.int .i64 ((rd_T43 l0_2 x2_3).f2))).trans hx1_5; replace hx1_6 := (zf 2 hn1_2 (.int .i64 ((rd_T43 l0_2 x2_3).f2))).trans hx1_6; replace hx2_0 := (zf 3 hn1_3 (.int .i64 ((rd_T43 l0_2 x2_3).f3))).trans hx2_0; replace hx2_1 := (zf 3 hn1_3 (.int .i64 ((rd_T43 l0_2 x2_3).f3))).trans hx2_1; replace hx2_2 := (zf 3 hn1_3 (.int .i64 ((rd_T43 l0_2 x2_3).f3))).trans hx2_2; replace hx2_3 := (zf 3 hn1_3 (.int .i64 ((rd_T43 l0_2 x2_3).f3))).trans hx2_3; replace hx1_4 := (zf 3 hn1_3 (.int .i64 ((rd_T43 l0_2 x2_3).f3))).trans hx1_4; replace hx1_5 := (zf 3 hn1_3 (.int .i64 ((rd_T43 l0_2 x2_3).f3))).trans hx1_5; replace hx1_6 := (zf 3 hn1_3 (.int .i64 ((rd_T43 l0_2 x2_3).f3))).trans hx1_6; clear hn1_0 hn1_1 hn1_2 hn1_3; replace p4 := eq_true p4; replace q2 := eq_true q2))
              (try simp only [Act.put, yu, yv, yw])
              go_cut [86] (fun v1 wc => ∃ (kq : Nat) (x1_26 : Bool), v1 = .bool x1_26 ∧ Aside0 (r9_Right.j3 kq (wrap64 (x1_3 + ((rd_T41 l0_0 ((rd_T43 l0_2 x2_3).f1)).f1))) x2_3 x1_26 l0_0 l0_1 l0_2 l0_3 l0_4 = some r) ∧ Aside0 (kq ≤ k2) ∧ Aside0 (wc.heap[gb1]? = some (.cells #[(.slice (some ad2) l0_0.length c0_0), (.slice A0_1 l0_1.length c0_1), (.slice (some ad1) l0_2.length c0_2), (.slice A0_3 l0_3.length c0_3), (.slice A0_4 l0_4.length c0_4)] 27 (0, 0))) ∧ Aside0 (wc.heap[gb2]? = some (.cells #[.string ((rd_T43 l0_2 x2_3).f0), .int .i64 ((rd_T43 l0_2 x2_3).f1), .int .i64 ((rd_T43 l0_2 x2_3).f2), .int .i64 ((rd_T43 l0_2 x2_3).f3)] 43 (0, 0))) ∧ Aside0 (Below w.heap.size w wc))
              case first =>
               have H := HC1.out; clear HC1; replace H := Option.bind_eq_some_iff.mp H; obtain ⟨t1, A1, H⟩ := H; have A3 := aM A1; clear A1; by_cases c12 : t1 = ((rd_T41 l0_0 ((rd_T43 l0_2 x2_3).f1)).f1)
               ·rw [if_pos c12] at H; obtain ⟨c1b0, c1b1⟩ := zeq c12; clear c12; (first | rw [c1b0] | (simp only [i64_w, i32_w]; rw [c1b0]) | skip)
                by_cases c14 : ((rd_T43 l0_2 x2_3).f3) < 0
                ·rw [if_pos c14] at H; have c1b0 := decide_eq_true c14; clear c14; have H' := aM H; clear H; try go_wp2
                 have n1_ : Aside0 (((((w1.setCell ⟨gb2, 0, none⟩ (.string ((rd_T43 l0_2 x2_3).f0))).setCell ⟨gb2, 1, none⟩ (.int .i64 ((rd_T43 l0_2 x2_3).f1))).setCell ⟨gb2, 2, none⟩ (.int .i64 ((rd_T43 l0_2 x2_3).f2))).setCell ⟨gb2, 3, none⟩ (.int .i64 ((rd_T43 l0_2 x2_3).f3))).heap[gb1]? = some (.cells #[.slice (some ad2) l0_0.length c0_0, .slice A0_1 l0_1.length c0_1, .slice (some ad1) l0_2.length c0_2, .slice A0_3 l0_3.length c0_3, .slice A0_4 l0_4.length c0_4] 27 (0, 0))) := ⟨q20z NB1_384 BK1⟩; have n2_ : Aside0 (((((w1.setCell ⟨gb2, 0, none⟩ (.string ((rd_T43 l0_2 x2_3).f0))).setCell ⟨gb2, 1, none⟩ (.int .i64 ((rd_T43 l0_2 x2_3).f1))).setCell ⟨gb2, 2, none⟩ (.int .i64 ((rd_T43 l0_2 x2_3).f2))).setCell ⟨gb2, 3, none⟩ (.int .i64 ((rd_T43 l0_2 x2_3).f3))).heap[gb2]? = some (.cells #[.string ((rd_T43 l0_2 x2_3).f0), .int .i64 ((rd_T43 l0_2 x2_3).f1), .int .i64 ((rd_T43 l0_2 x2_3).f2), .int .i64 ((rd_T43 l0_2 x2_3).f3)] 43 (0, 0))) := ⟨q25z BK2⟩; have n3_ : Aside0 (Below w.heap.size w ((((w1.setCell ⟨gb2, 0, none⟩ (.string ((rd_T43 l0_2 x2_3).f0))).setCell ⟨gb2, 1, none⟩ (.int .i64 ((rd_T43 l0_2 x2_3).f1))).setCell ⟨gb2, 2, none⟩ (.int .i64 ((rd_T43 l0_2 x2_3).f2))).setCell ⟨gb2, 3, none⟩ (.int .i64 ((rd_T43 l0_2 x2_3).f3)))) := ⟨q3z HB GE1 GE2⟩; (try clear BK1)
                 (try clear BK2)
                 (try clear HB)
                 generalize ((((w1.setCell ⟨gb2, 0, none⟩ (.string ((rd_T43 l0_2 x2_3).f0))).setCell ⟨gb2, 1, none⟩ (.int .i64 ((rd_T43 l0_2 x2_3).f1))).setCell ⟨gb2, 2, none⟩ (.int .i64 ((rd_T43 l0_2 x2_3).f2))).setCell ⟨gb2, 3, none⟩ (.int .i64 ((rd_T43 l0_2 x2_3).f3))) = w2 at n1_ n2_ n3_ ⊢; have BK1 := n1_; have BK2 := n2_; have HB := n3_; clear n1_ n2_ n3_; replace BK1 := aM (yc BK1.out); replace BK2 := aM (yc BK2.out); replace HB := aM (yk HB.out); refine start_ (n := 18) (S := fun w' => w'.cell? ⟨gb1, 0, none⟩ = some (.slice (some ad2) l0_0.length c0_0) ∧ w'.cell? ⟨gb1, 1, none⟩ = some (.slice A0_1 l0_1.length c0_1) ∧ w'.cell? ⟨gb1, 2, none⟩ = some (.slice (some ad1) l0_2.length c0_2) ∧ w'.cell? ⟨gb1, 3, none⟩ = some (.slice A0_3 l0_3.length c0_3) ∧ w'.cell? ⟨gb1, 4, none⟩ = some (.slice A0_4 l0_4.length c0_4) ∧ w'.cell? ⟨gb2, 0, none⟩ = some (.string ((rd_T43 l0_2 x2_3).f0)) ∧ w'.cell? ⟨gb2, 1, none⟩ = some (.int .i64 ((rd_T43 l0_2 x2_3).f1)) ∧ w'.cell? ⟨gb2, 2, none⟩ = some (.int .i64 ((rd_T43 l0_2 x2_3).f2)) ∧ w'.cell? ⟨gb2, 3, none⟩ = some (.int .i64 ((rd_T43 l0_2 x2_3).f3))) (ds := []) (zb 18 0) (by kernel_rfl) rfl rfl ⟨zc BK1 0, zc BK1 1, zc BK1 2, zc BK1 3, zc BK1 4, zc BK2 0, zc BK2 1, zc BK2 2, zc BK2 3⟩ (fun hHeld => ?_); refine with_tabW r9_Right.tab17 r9_Right.bits17 (fun HT_ HW_ => ?_); generalize w2.drew = w3 at BK1 BK2 HB hHeld ⊢; refine zpu 1 70 (zb 18 2) ?_; refine zpu 4 73 (zb 18 18) ?_; refine ztk9 0 69 (zb 18 19) hHeld ?_; refine ztk9 2 71 (zb 18 23) hHeld ?_; refine zon 3 (some 72) (zb 18 31) fun K hK => ?_
                 refine zgo Try.func39 #[.agg #[.slice (some ad2) l0_0.length c0_0, .slice A0_1 l0_1.length c0_1, .slice (some ad1) l0_2.length c0_2, .slice A0_3 l0_3.length c0_3, .slice A0_4 l0_4.length c0_4], .int .i64 ((rd_T43 l0_2 x2_3).f2)] ?_; with_reducible refine (r9_there.calls _ _ l0_0 _ _ l0_1 _ _ l0_2 _ _ l0_3 _ _ l0_4 ((rd_T43 l0_2 x2_3).f2) t1 _ ?side1 ?side2 ?side3 ?side4 ?side5 ?side6 ?side7 ?side8 ?side9 ?side10 A3.out).mono ?_
                 (case side1 => exact q1z HR1_0 HB)
                 (case side2 => exact HC1_0.out)
                 (case side3 => exact q1z HR1_1 HB)
                 (case side4 => exact HC1_1.out)
                 (case side5 => exact q1z HR1_2 HB)
                 (case side6 => exact HC1_2.out)
                 (case side7 => exact q1z HR1_3 HB)
                 (case side8 => exact HC1_3.out)
                 (case side9 => exact q1z HR1_4 HB)
                 (case side10 => exact HC1_4.out)
                 rintro e w2 ⟨rfl, hb⟩; refine ⟨_, rfl, ?_⟩; replace BK1 := aM (yi (zi BK1) hb); replace BK2 := aM (yi (zi BK2) hb); replace HB := aM (ym (q3z HB GE1 GE2) hb); (try clear hb)
                 (try clear hb2)
                 (try clear hk)
                 (try clear hi)
                 refine hK.out _ _ ⟨zc BK1 0, zc BK1 1, zc BK1 2, zc BK1 3, zc BK1 4, zc BK2 0, zc BK2 1, zc BK2 2, zc BK2 3⟩ (fun hHeld => ?_); clear hK K; refine zno 72 ?_; refine zpu 5 74 (zb 18 63) ?_; refine zpu 6 75 (zb 18 127) ?_; refine zpu 7 76 (zb 18 255) ?_; refine ztk9 8 77 (zb 18 511) hHeld ?_; refine zpu 9 78 (zb 18 1023) ?_; exact z74_1
                ·rw [if_neg c14] at H; have c1b0 := decide_eq_false c14; clear c14; replace H := Option.bind_eq_some_iff.mp H; obtain ⟨t2, A1, H⟩ := H; have A4 := aM A1; clear A1; have H' := aM H; clear H; try go_wp2
                 have n1_ : Aside0 (((((w1.setCell ⟨gb2, 0, none⟩ (.string ((rd_T43 l0_2 x2_3).f0))).setCell ⟨gb2, 1, none⟩ (.int .i64 ((rd_T43 l0_2 x2_3).f1))).setCell ⟨gb2, 2, none⟩ (.int .i64 ((rd_T43 l0_2 x2_3).f2))).setCell ⟨gb2, 3, none⟩ (.int .i64 ((rd_T43 l0_2 x2_3).f3))).heap[gb1]? = some (.cells #[.slice (some ad2) l0_0.length c0_0, .slice A0_1 l0_1.length c0_1, .slice (some ad1) l0_2.length c0_2, .slice A0_3 l0_3.length c0_3, .slice A0_4 l0_4.length c0_4] 27 (0, 0))) := ⟨q20z NB1_384 BK1⟩; have n2_ : Aside0 (((((w1.setCell ⟨gb2, 0, none⟩ (.string ((rd_T43 l0_2 x2_3).f0))).setCell ⟨gb2, 1, none⟩ (.int .i64 ((rd_T43 l0_2 x2_3).f1))).setCell ⟨gb2, 2, none⟩ (.int .i64 ((rd_T43 l0_2 x2_3).f2))).setCell ⟨gb2, 3, none⟩ (.int .i64 ((rd_T43 l0_2 x2_3).f3))).heap[gb2]? = some (.cells #[.string ((rd_T43 l0_2 x2_3).f0), .int .i64 ((rd_T43 l0_2 x2_3).f1), .int .i64 ((rd_T43 l0_2 x2_3).f2), .int .i64 ((rd_T43 l0_2 x2_3).f3)] 43 (0, 0))) := ⟨q25z BK2⟩; have n3_ : Aside0 (Below w.heap.size w ((((w1.setCell ⟨gb2, 0, none⟩ (.string ((rd_T43 l0_2 x2_3).f0))).setCell ⟨gb2, 1, none⟩ (.int .i64 ((rd_T43 l0_2 x2_3).f1))).setCell ⟨gb2, 2, none⟩ (.int .i64 ((rd_T43 l0_2 x2_3).f2))).setCell ⟨gb2, 3, none⟩ (.int .i64 ((rd_T43 l0_2 x2_3).f3)))) := ⟨q3z HB GE1 GE2⟩; (try clear BK1)
                 (try clear BK2)
                 (try clear HB)
                 generalize ((((w1.setCell ⟨gb2, 0, none⟩ (.string ((rd_T43 l0_2 x2_3).f0))).setCell ⟨gb2, 1, none⟩ (.int .i64 ((rd_T43 l0_2 x2_3).f1))).setCell ⟨gb2, 2, none⟩ (.int .i64 ((rd_T43 l0_2 x2_3).f2))).setCell ⟨gb2, 3, none⟩ (.int .i64 ((rd_T43 l0_2 x2_3).f3))) = w2 at n1_ n2_ n3_ ⊢; have BK1 := n1_; have BK2 := n2_; have HB := n3_; clear n1_ n2_ n3_; replace BK1 := aM (yc BK1.out); replace BK2 := aM (yc BK2.out); replace HB := aM (yk HB.out); refine start_ (n := 18) (S := fun w' => w'.cell? ⟨gb1, 0, none⟩ = some (.slice (some ad2) l0_0.length c0_0) ∧ w'.cell? ⟨gb1, 1, none⟩ = some (.slice A0_1 l0_1.length c0_1) ∧ w'.cell? ⟨gb1, 2, none⟩ = some (.slice (some ad1) l0_2.length c0_2) ∧ w'.cell? ⟨gb1, 3, none⟩ = some (.slice A0_3 l0_3.length c0_3) ∧ w'.cell? ⟨gb1, 4, none⟩ = some (.slice A0_4 l0_4.length c0_4) ∧ w'.cell? ⟨gb2, 0, none⟩ = some (.string ((rd_T43 l0_2 x2_3).f0)) ∧ w'.cell? ⟨gb2, 1, none⟩ = some (.int .i64 ((rd_T43 l0_2 x2_3).f1)) ∧ w'.cell? ⟨gb2, 2, none⟩ = some (.int .i64 ((rd_T43 l0_2 x2_3).f2)) ∧ w'.cell? ⟨gb2, 3, none⟩ = some (.int .i64 ((rd_T43 l0_2 x2_3).f3))) (ds := []) (zb 18 0) (by kernel_rfl) rfl rfl ⟨zc BK1 0, zc BK1 1, zc BK1 2, zc BK1 3, zc BK1 4, zc BK2 0, zc BK2 1, zc BK2 2, zc BK2 3⟩ (fun hHeld => ?_); refine with_tabW r9_Right.tab17 r9_Right.bits17 (fun HT_ HW_ => ?_); generalize w2.drew = w3 at BK1 BK2 HB hHeld ⊢; refine zpu 1 70 (zb 18 2) ?_; refine zpu 4 73 (zb 18 18) ?_; refine ztk9 0 69 (zb 18 19) hHeld ?_; refine ztk9 2 71 (zb 18 23) hHeld ?_; refine zon 3 (some 72) (zb 18 31) fun K hK => ?_
                 refine zgo Try.func39 #[.agg #[.slice (some ad2) l0_0.length c0_0, .slice A0_1 l0_1.length c0_1, .slice (some ad1) l0_2.length c0_2, .slice A0_3 l0_3.length c0_3, .slice A0_4 l0_4.length c0_4], .int .i64 ((rd_T43 l0_2 x2_3).f2)] ?_; with_reducible refine (r9_there.calls _ _ l0_0 _ _ l0_1 _ _ l0_2 _ _ l0_3 _ _ l0_4 ((rd_T43 l0_2 x2_3).f2) t1 _ ?side1 ?side2 ?side3 ?side4 ?side5 ?side6 ?side7 ?side8 ?side9 ?side10 A3.out).mono ?_
                 (case side1 => exact q1z HR1_0 HB)
                 (case side2 => exact HC1_0.out)
                 (case side3 => exact q1z HR1_1 HB)
                 (case side4 => exact HC1_1.out)
                 (case side5 => exact q1z HR1_2 HB)
                 (case side6 => exact HC1_2.out)
                 (case side7 => exact q1z HR1_3 HB)
                 (case side8 => exact HC1_3.out)
                 (case side9 => exact q1z HR1_4 HB)
                 (case side10 => exact HC1_4.out)
                 rintro e w2 ⟨rfl, hb⟩; refine ⟨_, rfl, ?_⟩; replace BK1 := aM (yi (zi BK1) hb); replace BK2 := aM (yi (zi BK2) hb); replace HB := aM (ym (q3z HB GE1 GE2) hb); (try clear hb)
                 (try clear hb2)
                 (try clear hk)
                 (try clear hi)
                 refine hK.out _ _ ⟨zc BK1 0, zc BK1 1, zc BK1 2, zc BK1 3, zc BK1 4, zc BK2 0, zc BK2 1, zc BK2 2, zc BK2 3⟩ (fun hHeld => ?_); clear hK K; refine zno 72 ?_; refine zpu 5 74 (zb 18 63) ?_; refine zpu 6 75 (zb 18 127) ?_; refine zpu 7 76 (zb 18 255) ?_; refine ztk9 8 77 (zb 18 511) hHeld ?_; refine zpu 9 78 (zb 18 1023) ?_; refine zpu 10 79 (zb 18 2047) ?_; refine zpu 11 80 (zb 18 4095) ?_; refine zpu 12 81 (zb 18 8191) ?_; refine zpu 14 83 (zb 18 24575) ?_; refine ztk9 13 82 (zb 18 32767) hHeld ?_; refine zon 15 (some 84) (zb 18 65535) fun K hK => ?_
                 refine zgo Try.func24 #[.int .i64 ((rd_T41 l0_0 ((rd_T43 l0_2 x2_3).f1)).f1)] ?_; with_reducible refine (r8_Mask.calls ((rd_T41 l0_0 ((rd_T43 l0_2 x2_3).f1)).f1) t2 _ A4.out).mono ?_
                 rintro e w' ⟨rfl, ⟨nd, rfl⟩⟩; refine ⟨_, rfl, ?_⟩; refine hK.out _ _ ⟨zc BK1 0, zc BK1 1, zc BK1 2, zc BK1 3, zc BK1 4, zc BK2 0, zc BK2 1, zc BK2 2, zc BK2 3⟩ (fun hHeld => ?_); clear hK K; refine zno 84 ?_; refine zpu 16 85 (zb 18 131071) ?_; refine zpu 17 86 (zb 18 262143) ?_; refine zdo ?_; try go_wp2
                 go_meet
                 case rel => exact ⟨_, (decide (((rd_T43 l0_2 x2_3).f3) > t2)), q13z, H', ⟨q70z HJ1 HK1 HK2⟩, ⟨q10z BK1⟩, ⟨q10z BK2⟩, ⟨q3z HB GE1 GE2⟩⟩
               ·rw [if_neg c12] at H; obtain ⟨c1b0, c1b1⟩ := zne c12; (first | rw [c1b0] | (simp only [i64_w, i32_w]; rw [c1b0]) | skip)
                have H' := aM H; clear H; try go_wp2
                have n1_ : Aside0 (((((w1.setCell ⟨gb2, 0, none⟩ (.string ((rd_T43 l0_2 x2_3).f0))).setCell ⟨gb2, 1, none⟩ (.int .i64 ((rd_T43 l0_2 x2_3).f1))).setCell ⟨gb2, 2, none⟩ (.int .i64 ((rd_T43 l0_2 x2_3).f2))).setCell ⟨gb2, 3, none⟩ (.int .i64 ((rd_T43 l0_2 x2_3).f3))).heap[gb1]? = some (.cells #[.slice (some ad2) l0_0.length c0_0, .slice A0_1 l0_1.length c0_1, .slice (some ad1) l0_2.length c0_2, .slice A0_3 l0_3.length c0_3, .slice A0_4 l0_4.length c0_4] 27 (0, 0))) := ⟨q20z NB1_384 BK1⟩; have n2_ : Aside0 (((((w1.setCell ⟨gb2, 0, none⟩ (.string ((rd_T43 l0_2 x2_3).f0))).setCell ⟨gb2, 1, none⟩ (.int .i64 ((rd_T43 l0_2 x2_3).f1))).setCell ⟨gb2, 2, none⟩ (.int .i64 ((rd_T43 l0_2 x2_3).f2))).setCell ⟨gb2, 3, none⟩ (.int .i64 ((rd_T43 l0_2 x2_3).f3))).heap[gb2]? = some (.cells #[.string ((rd_T43 l0_2 x2_3).f0), .int .i64 ((rd_T43 l0_2 x2_3).f1), .int .i64 ((rd_T43 l0_2 x2_3).f2), .int .i64 ((rd_T43 l0_2 x2_3).f3)] 43 (0, 0))) := ⟨q25z BK2⟩; have n3_ : Aside0 (Below w.heap.size w ((((w1.setCell ⟨gb2, 0, none⟩ (.string ((rd_T43 l0_2 x2_3).f0))).setCell ⟨gb2, 1, none⟩ (.int .i64 ((rd_T43 l0_2 x2_3).f1))).setCell ⟨gb2, 2, none⟩ (.int .i64 ((rd_T43 l0_2 x2_3).f2))).setCell ⟨gb2, 3, none⟩ (.int .i64 ((rd_T43 l0_2 x2_3).f3)))) := ⟨q3z HB GE1 GE2⟩; (try clear BK1)
                (try clear BK2)
                (try clear HB)
                generalize ((((w1.setCell ⟨gb2, 0, none⟩ (.string ((rd_T43 l0_2 x2_3).f0))).setCell ⟨gb2, 1, none⟩ (.int .i64 ((rd_T43 l0_2 x2_3).f1))).setCell ⟨gb2, 2, none⟩ (.int .i64 ((rd_T43 l0_2 x2_3).f2))).setCell ⟨gb2, 3, none⟩ (.int .i64 ((rd_T43 l0_2 x2_3).f3))) = w2 at n1_ n2_ n3_ ⊢; have BK1 := n1_; have BK2 := n2_; have HB := n3_; clear n1_ n2_ n3_; replace BK1 := aM (yc BK1.out); replace BK2 := aM (yc BK2.out); replace HB := aM (yk HB.out); refine start_ (n := 18) (S := fun w' => w'.cell? ⟨gb1, 0, none⟩ = some (.slice (some ad2) l0_0.length c0_0) ∧ w'.cell? ⟨gb1, 1, none⟩ = some (.slice A0_1 l0_1.length c0_1) ∧ w'.cell? ⟨gb1, 2, none⟩ = some (.slice (some ad1) l0_2.length c0_2) ∧ w'.cell? ⟨gb1, 3, none⟩ = some (.slice A0_3 l0_3.length c0_3) ∧ w'.cell? ⟨gb1, 4, none⟩ = some (.slice A0_4 l0_4.length c0_4) ∧ w'.cell? ⟨gb2, 0, none⟩ = some (.string ((rd_T43 l0_2 x2_3).f0)) ∧ w'.cell? ⟨gb2, 1, none⟩ = some (.int .i64 ((rd_T43 l0_2 x2_3).f1)) ∧ w'.cell? ⟨gb2, 2, none⟩ = some (.int .i64 ((rd_T43 l0_2 x2_3).f2)) ∧ w'.cell? ⟨gb2, 3, none⟩ = some (.int .i64 ((rd_T43 l0_2 x2_3).f3))) (ds := []) (zb 18 0) (by kernel_rfl) rfl rfl ⟨zc BK1 0, zc BK1 1, zc BK1 2, zc BK1 3, zc BK1 4, zc BK2 0, zc BK2 1, zc BK2 2, zc BK2 3⟩ (fun hHeld => ?_); refine with_tabW r9_Right.tab17 r9_Right.bits17 (fun HT_ HW_ => ?_); generalize w2.drew = w1 at BK1 BK2 HB hHeld ⊢; refine zpu 1 70 (zb 18 2) ?_; refine zpu 4 73 (zb 18 18) ?_; refine ztk9 0 69 (zb 18 19) hHeld ?_; refine ztk9 2 71 (zb 18 23) hHeld ?_; refine zon 3 (some 72) (zb 18 31) fun K hK => ?_
                refine zgo Try.func39 #[.agg #[.slice (some ad2) l0_0.length c0_0, .slice A0_1 l0_1.length c0_1, .slice (some ad1) l0_2.length c0_2, .slice A0_3 l0_3.length c0_3, .slice A0_4 l0_4.length c0_4], .int .i64 ((rd_T43 l0_2 x2_3).f2)] ?_; with_reducible refine (r9_there.calls _ _ l0_0 _ _ l0_1 _ _ l0_2 _ _ l0_3 _ _ l0_4 ((rd_T43 l0_2 x2_3).f2) t1 _ ?side1 ?side2 ?side3 ?side4 ?side5 ?side6 ?side7 ?side8 ?side9 ?side10 A3.out).mono ?_
                (case side1 => exact q1z HR1_0 HB)
                (case side2 => exact HC1_0.out)
                (case side3 => exact q1z HR1_1 HB)
                (case side4 => exact HC1_1.out)
                (case side5 => exact q1z HR1_2 HB)
                (case side6 => exact HC1_2.out)
                (case side7 => exact q1z HR1_3 HB)
                (case side8 => exact HC1_3.out)
                (case side9 => exact q1z HR1_4 HB)
                (case side10 => exact HC1_4.out)
                rintro e w1 ⟨rfl, hb⟩; refine ⟨_, rfl, ?_⟩; replace BK1 := aM (yi (zi BK1) hb); replace BK2 := aM (yi (zi BK2) hb); replace HB := aM (ym (q3z HB GE1 GE2) hb); (try clear hb)
                (try clear hb2)
                (try clear hk)
                (try clear hi)
                refine hK.out _ _ ⟨zc BK1 0, zc BK1 1, zc BK1 2, zc BK1 3, zc BK1 4, zc BK2 0, zc BK2 1, zc BK2 2, zc BK2 3⟩ (fun hHeld => ?_); clear hK K; refine zno 72 ?_; refine zpu 5 74 (zb 18 63) ?_; refine zpu 6 75 (zb 18 127) ?_; refine zpn 7 76 (zb 18 255) ?_; refine zpn 8 77 (zb 18 511) ?_; refine zpn 9 78 (zb 18 1023) ?_; exact z74_1
              case rest =>
               clear HC1; try clear c2
               try clear p2
               try clear c3
               try clear p3
               try clear q3
               try clear hx3
               try clear p6
               try clear c8
               try clear c30
               try clear c12
               try clear c1b0
               try clear c1b1
               try clear c12
               try clear c1b0
               try clear p38
               try clear q38
               try clear hx38
               try clear c39
               try clear i1_0 i1_1 i1_2 i1_3
               try clear i2_0 i2_1 i2_2 i2_3
               try clear i1_4 j1_0 j1_1 j1_2 j1_3
               try clear j2_0 j2_1 j2_2 j2_3
               try clear j1_4
               try clear hx1_0
               try clear hx1_1
               try clear hx1_2
               try clear hx1_3
               try clear hx2_0
               try clear hx2_1
               try clear hx2_2
               try clear hx2_3
               try clear hx1_4
               try clear hx1_5
               try clear hx1_6
               try clear p1
               try clear p4
               try clear q1
               try clear q2
               obtain ⟨kq, x1_26, rfl, HA, HJ2, BK1, BK2, HB⟩ := hcut; cases kq with
               | zero => exact absurd HA.out (by simp [r9_Right.j3])
               | succ kj1 =>
                have H := HA.out; clear HA; simp only [r9_Right.j3] at H; by_cases c12 : x1_26 = true
                ·subst c12; exact z74_4
                ·replace c12 := Bool.eq_false_iff.mpr c12; subst c12; have H1 : (r9_Right.l1 kj1 (wrap64 (x1_3 + ((rd_T41 l0_0 ((rd_T43 l0_2 x2_3).f1)).f1))) (wrap64 (x2_3 + 1)) l0_0 l0_1 l0_2 l0_3 l0_4) = some r := by rw [if_neg (show ¬ (false = true) by decide)] at H; exact H
                 clear H; have H := H1; clear H1; have H' := aM H; clear H; go_wp2
                 go_roundg kj1
                 case measure => have := HJ1.out; have := HK1.out; have := HK2.out; have := HJ2.out; omega
                 case rel => exact ⟨((wrap64 (x1_3 + ((rd_T41 l0_0 ((rd_T43 l0_2 x2_3).f1)).f1)))), (wrap64 (x2_3 + 1)), q13z, q13z, H', ⟨q123z HJ1 HK1 HK2 HJ2⟩, ⟨q10z BK1⟩, ⟨q3z HB GE1 GE2⟩⟩
             ·rw [if_neg c11] at H; exact absurd H (by simp)
            ·rw [if_neg c9] at H; exact absurd H (by simp)
           ·rw [if_neg c8] at H; exact absurd H (by simp)
          ·rw [if_neg c7] at H; have c1b0 := decide_eq_false c7; clear c7; have H' := aM H; clear H; obtain ⟨i1_0, i1_1, i1_2, i1_3, i1_4, j1_0, j1_1, j1_2, j1_3, j1_4⟩ := cells5 BK1.out; go_wp2
           go_loopg [8] k2 (fun kq v1 w' => ∃ (x1_4 : Int), v1 = .int .i64 x1_4 ∧ Aside0 (r9_Right.l2 kq x1_3 x1_4 l0_0 l0_1 l0_2 l0_3 l0_4 = some r) ∧ Aside0 (kq ≤ k2) ∧ Aside0 (w'.heap[gb1]? = some (.cells #[(.slice A0_0 l0_0.length c0_0), (.slice A0_1 l0_1.length c0_1), (.slice A0_2 l0_2.length c0_2), (.slice A0_3 l0_3.length c0_3), (.slice A0_4 l0_4.length c0_4)] 27 (0, 0))) ∧ Aside0 (Below w.heap.size w w'))
           case atStart => exact ⟨(0), q13z, H', ⟨Nat.le_refl _⟩, ⟨q10z BK1⟩, ⟨q4z HB GE1⟩⟩
           case round =>
            clear H'; try clear c2
            try clear p2
            try clear c3
            try clear p3
            try clear q3
            try clear hx3
            try clear c4
            try clear p6
            try clear c7
            try clear c1b0
            try clear c8
            try clear c9
            try clear c11
            try clear c30
            try clear c12
            try clear c2b0
            try clear c1b1
            try clear c14
            try clear c3b0
            try clear p38
            try clear q38
            try clear hx38
            try clear c39
            try clear c15
            try clear i2_0 i2_1 i2_2 i2_3
            try clear i3_0 i3_1 i3_2 i3_3
            try clear i2_4
            try clear i1_0 i1_1 i1_2 i1_3 i1_4
            try clear j2_0 j2_1 j2_2 j2_3
            try clear j3_0 j3_1 j3_2 j3_3
            try clear j2_4
            try clear j1_0 j1_1 j1_2 j1_3 j1_4
            try clear hx1_0
            try clear hx1_1
            try clear hx1_2
            try clear hx1_3
            try clear hx2_0
            try clear hx2_1
            try clear hx2_2
            try clear hx2_3
            try clear hx1_4
            try clear hx1_5
            try clear hx1_6
            try clear p2
            try clear p3
            try clear p38
            try clear p1
            try clear p4
            try clear p6
            try clear q3
            try clear q38
            try clear q1
            try clear q2
            obtain ⟨x1_4, rfl, HA, HK3, BK1, HB⟩ := hrel; cases gk with
            | zero => exact absurd HA.out (by simp [r9_Right.l2])
            | succ k2 =>
             have H := HA.out; clear HA; simp only [r9_Right.l2] at H; by_cases c16 : x1_4 < (l0_3.length : Int)
             ·rw [if_pos c16] at H; have c4b0 := decide_eq_true c16; clear c16; by_cases c17 : 0 ≤ x1_4
              ·rw [if_pos c17] at H; have c5b0 := decide_eq_true c17; clear c17; have HC1 := aM H; clear H; obtain ⟨i4_0, i4_1, i4_2, i4_3, i3_4, j4_0, j4_1, j4_2, j4_3, j3_4⟩ := cells5 BK1.out; have p5 : 0 ≤ (x1_4 : Int) := zod; have q4 : x1_4 < (l0_3.length : Int) := zod; obtain ⟨ad1, e1, hx3_0, hx3_1, hx3_2⟩ := at_T61 HR1_3.out x1_4 p5 q4; cases e1; replace hx3_0 := zx HB hx3_0; replace hx3_1 := zx HB hx3_1; replace hx3_2 := zx HB hx3_2; replace p5 := eq_true p5; replace q4 := eq_true q4; go_upto_region 23 with (first | ((with_reducible refine gate_dst (N := 9) rfl ?_); (try (refine gate_guard (by rfl) ?_; dsimp only)); refine box_event ?hg (N := 9) ?hd (cs := #[.int .i64 0, .string (⟨#[]⟩ : ByteArray), .int .i64 0]) (t := 61) ?hr ?_; (case hd => rfl); (case hg => rfl); (case hr => exact q30z); intro gb2 hg w1 hbox hb; have BK2 := aM (hbox); have GW1 := aM ((q12z HB GE1 : w.heap.size ≤ gb2)); have GE2 := aM ((q12z HB GE1 : w.heap.size ≤ gb2)); replace HB := aM (ym (q4z HB GE1) hb); have NB1_389 := aM ((q34z BK1 : gb1 ≠ gb2)); have NB1_380 := aM ((q35z BK1 : gb2 ≠ gb1)); replace BK1 := aM (yi (zi BK1) hb); clear hb hbox hg; have hnb1 := NB1_380.out; have hnc1 := NB1_389.out; obtain ⟨i5_0, i5_1, i5_2, j5_0, j5_1, j5_2⟩ := cells3 BK2.out))
               (try simp only [Act.put, yu, yv, yw])
               go_cut [113] (fun v1 wc => ∃ (kq : Nat) (x1_49 : Bool), v1 = .bool x1_49 ∧ Aside0 (r9_Right.j5 kq x1_3 x1_4 x1_49 l0_0 l0_1 l0_2 l0_3 l0_4 = some r) ∧ Aside0 (kq ≤ k2) ∧ Aside0 (wc.heap[gb1]? = some (.cells #[(.slice A0_0 l0_0.length c0_0), (.slice A0_1 l0_1.length c0_1), (.slice A0_2 l0_2.length c0_2), (.slice (some ad1) l0_3.length c0_3), (.slice A0_4 l0_4.length c0_4)] 27 (0, 0))) ∧ Aside0 (wc.heap[gb2]? = some (.cells #[.int .i64 ((rd_T61 l0_3 x1_4).f0), .string ((rd_T61 l0_3 x1_4).f1), .int .i64 ((rd_T61 l0_3 x1_4).f2)] 61 (0, 0))) ∧ Aside0 (Below w.heap.size w wc))
               case first =>
                have H := HC1.out; clear HC1; by_cases c18 : ((rd_T61 l0_3 x1_4).f0) < 8
                ·rw [if_pos c18] at H; have c6b0 := decide_eq_true c18; clear c18; (first | rw [c6b0] | (simp only [i64_w, i32_w]; rw [c6b0]) | skip)
                 exact z74_2
                ·rw [if_neg c18] at H; have c6b0 := decide_eq_false c18; clear c18; (first | rw [c6b0] | (simp only [i64_w, i32_w]; rw [c6b0]) | skip)
                 by_cases c18 : ((rd_T61 l0_3 x1_4).f0) > 10
                 ·rw [if_pos c18] at H; have c6b0 : decide (10 < ((rd_T61 l0_3 x1_4).f0)) = true := decide_eq_true c18; clear c18; exact z74_2
                 ·rw [if_neg c18] at H; have c6b0 : decide (10 < ((rd_T61 l0_3 x1_4).f0)) = false := decide_eq_false c18; clear c18; replace H := Option.bind_eq_some_iff.mp H; obtain ⟨t1, A1, H⟩ := H; have A3 := aM A1; clear A1; have H' := aM H; clear H; have hnb1 := NB1_380.out; have hnc1 := NB1_389.out; obtain ⟨i6_0, i6_1, i6_2, j6_0, j6_1, j6_2⟩ := cells3 BK2.out; obtain ⟨i6_0, i6_1, i6_2, i5_3, i4_4, j6_0, j6_1, j6_2, j5_3, j4_4⟩ := cells5 BK1.out; go_wp2_with (first | (go_at_call 39; (with_reducible refine (r9_there.calls _ _ l0_0 _ _ l0_1 _ _ l0_2 _ _ l0_3 _ _ l0_4 ((rd_T61 l0_3 x1_4).f2) t1 _ ?side1 ?side2 ?side3 ?side4 ?side5 ?side6 ?side7 ?side8 ?side9 ?side10 A3.out).mono ?_); (case side1 => exact q18z HR1_0 HB GE1 GE2); (case side2 => exact HC1_0.out); (case side3 => exact q18z HR1_1 HB GE1 GE2); (case side4 => exact HC1_1.out); (case side5 => exact q18z HR1_2 HB GE1 GE2); (case side6 => exact HC1_2.out); (case side7 => exact q18z HR1_3 HB GE1 GE2); (case side8 => exact HC1_3.out); (case side9 => exact q18z HR1_4 HB GE1 GE2); (case side10 => exact HC1_4.out); rintro e w1 ⟨rfl, hb⟩; replace BK1 := aM (yi (g := gb1) (o := .cells #[.slice A0_0 l0_0.length c0_0, .slice A0_1 l0_1.length c0_1, .slice A0_2 l0_2.length c0_2, .slice (some ad1) l0_3.length c0_3, .slice A0_4 l0_4.length c0_4] 27 (0, 0)) (q32z NB1_389 BK1) hb); replace BK2 := aM (yi (g := gb2) (o := .cells #[.int .i64 ((rd_T61 l0_3 x1_4).f0), .string ((rd_T61 l0_3 x1_4).f1), .int .i64 ((rd_T61 l0_3 x1_4).f2)] 61 (0, 0)) (q33z BK2) hb); replace HB := aM (ym (q3z HB GE1 GE2) hb); (try clear hb); (try clear hb2); (try clear hk); (try clear hi)))
                  go_meet
                  case rel => exact ⟨_, ((t1 != 1)), q13z, H', ⟨q76z HJ1 HK1 HK2 HK3⟩, ⟨q10z BK1⟩, ⟨q10z BK2⟩, ⟨q3z HB GE1 GE2⟩⟩
               case rest =>
                clear HC1; try clear c2
                try clear p2
                try clear c3
                try clear p3
                try clear q3
                try clear hx3
                try clear c4
                try clear c5
                try clear c6
                try clear p6
                try clear c7
                try clear c1b0
                try clear c8
                try clear c9
                try clear c11
                try clear c30
                try clear c12
                try clear c2b0
                try clear c1b1
                try clear c14
                try clear c3b0
                try clear p38
                try clear q38
                try clear hx38
                try clear c39
                try clear c15
                try clear c16
                try clear c4b0
                try clear c17
                try clear c5b0
                try clear c53
                try clear c18
                try clear c4b0
                try clear c56
                try clear c18
                try clear c4b0
                try clear c59
                try clear c62
                try clear p64
                try clear i2_0 i2_1 i2_2 i2_3
                try clear i3_0 i3_1 i3_2 i3_3
                try clear i2_4
                try clear i1_0 i1_1 i1_2 i1_3 i1_4
                try clear i4_0 i4_1 i4_2 i4_3
                try clear i3_4
                try clear i5_0 i5_1 i5_2
                try clear i4_0 i4_1 i4_2 i4_0 i4_1 i4_2 i4_0 i4_1 i4_2 i4_0 i4_1 i4_2 i4_3
                try clear i3_4
                try clear j2_0 j2_1 j2_2 j2_3
                try clear j3_0 j3_1 j3_2 j3_3
                try clear j2_4
                try clear j1_0 j1_1 j1_2 j1_3 j1_4
                try clear j4_0 j4_1 j4_2 j4_3
                try clear j3_4
                try clear j5_0 j5_1 j5_2
                try clear j4_0 j4_1 j4_2 j4_0 j4_1 j4_2 j4_0 j4_1 j4_2 j4_0 j4_1 j4_2 j4_3
                try clear j3_4
                try clear hx1_0
                try clear hx1_1
                try clear hx1_2
                try clear hx1_3
                try clear hx2_0
                try clear hx2_1
                try clear hx2_2
                try clear hx2_3
                try clear hx1_4
                try clear hx1_5
                try clear hx1_6
                try clear hx3_0
                try clear hx3_1
                try clear hx3_2
                try clear p2
                try clear p3
                try clear p38
                try clear p1
                try clear p4
                try clear p5
                try clear p6
                try clear q3
                try clear q38
                try clear q1
                try clear q2
                try clear q4
                obtain ⟨kq, x1_49, rfl, HA, HJ2, BK1, BK2, HB⟩ := hcut; cases kq with
                | zero => exact absurd HA.out (by simp [r9_Right.j5])
                | succ kj1 =>
                 have H := HA.out; clear HA; simp only [r9_Right.j5] at H; by_cases c18 : x1_49 = true
                 ·subst c18; exact z74_4
                 ·replace c18 := Bool.eq_false_iff.mpr c18; subst c18; have H1 : (r9_Right.l2 kj1 x1_3 (wrap64 (x1_4 + 1)) l0_0 l0_1 l0_2 l0_3 l0_4) = some r := by rw [if_neg (show ¬ (false = true) by decide)] at H; exact H
                  clear H; have H := H1; clear H1; have H' := aM H; clear H; go_wp2
                  go_roundg kj1
                  case measure => have := HJ1.out; have := HK1.out; have := HK2.out; have := HK3.out; have := HJ2.out; omega
                  case rel => exact ⟨(wrap64 (x1_4 + 1)), q13z, H', ⟨by have := HJ1.out; have := HK1.out; have := HK2.out; have := HK3.out; have := HJ2.out; omega⟩, ⟨q10z BK1⟩, ⟨q3z HB GE1 GE2⟩⟩
              ·rw [if_neg c17] at H; exact absurd H (by simp)
             ·rw [if_neg c16] at H; have c4b0 := decide_eq_false c16; clear c16; have H' := aM H; clear H; obtain ⟨i4_0, i4_1, i4_2, i4_3, i3_4, j4_0, j4_1, j4_2, j4_3, j3_4⟩ := cells5 BK1.out; go_wp2
              go_loopg [10] k2 (fun kq v1 w' => ∃ (x1_5 : Int), v1 = .int .i64 x1_5 ∧ Aside0 (r9_Right.l3 kq x1_3 x1_5 l0_0 l0_1 l0_2 l0_3 l0_4 = some r) ∧ Aside0 (kq ≤ k2) ∧ Aside0 (w'.heap[gb1]? = some (.cells #[(.slice A0_0 l0_0.length c0_0), (.slice A0_1 l0_1.length c0_1), (.slice A0_2 l0_2.length c0_2), (.slice A0_3 l0_3.length c0_3), (.slice A0_4 l0_4.length c0_4)] 27 (0, 0))) ∧ Aside0 (Below w.heap.size w w'))
              case atStart => exact ⟨(0), q13z, H', ⟨Nat.le_refl _⟩, ⟨q10z BK1⟩, ⟨q4z HB GE1⟩⟩
              case round =>
               clear H'; try clear c2
               try clear p2
               try clear c3
               try clear p3
               try clear q3
               try clear hx3
               try clear c4
               try clear c5
               try clear c6
               try clear p6
               try clear c7
               try clear c1b0
               try clear c8
               try clear c9
               try clear c11
               try clear c30
               try clear c12
               try clear c2b0
               try clear c1b1
               try clear c14
               try clear c3b0
               try clear p38
               try clear q38
               try clear hx38
               try clear c39
               try clear c15
               try clear c16
               try clear c4b0
               try clear c4
               try clear c1b0
               try clear c53
               try clear c4
               try clear c1b0
               try clear c56
               try clear c4
               try clear c1b0
               try clear c59
               try clear c62
               try clear p64
               try clear c4
               try clear i2_0 i2_1 i2_2 i2_3
               try clear i3_0 i3_1 i3_2 i3_3
               try clear i2_4
               try clear i1_0 i1_1 i1_2 i1_3 i1_4 i1_0 i1_1 i1_2 i1_3 i1_4 i1_0 i1_1 i1_2 i1_0 i1_1 i1_2 i1_0 i1_1 i1_2 i1_0 i1_1 i1_2 i1_0 i1_1 i1_2 i1_3 i1_4
               try clear i4_0 i4_1 i4_2 i4_3
               try clear i3_4
               try clear j2_0 j2_1 j2_2 j2_3
               try clear j3_0 j3_1 j3_2 j3_3
               try clear j2_4
               try clear j1_0 j1_1 j1_2 j1_3 j1_4 j1_0 j1_1 j1_2 j1_3 j1_4 j1_0 j1_1 j1_2 j1_0 j1_1 j1_2 j1_0 j1_1 j1_2 j1_0 j1_1 j1_2 j1_0 j1_1 j1_2 j1_3 j1_4
               try clear j4_0 j4_1 j4_2 j4_3
               try clear j3_4
               try clear hx1_0
               try clear hx1_1
               try clear hx1_2
               try clear hx1_3
               try clear hx2_0
               try clear hx2_1
               try clear hx2_2
               try clear hx2_3
               try clear hx1_4
               try clear hx1_5
               try clear hx1_6
               try clear hx1_0
               try clear hx1_1
               try clear hx1_2
               try clear p2
               try clear p3
               try clear p38
               try clear p1
               try clear p4
               try clear p1
               try clear p6
               try clear p64
               try clear q3
               try clear q38
               try clear q1
               try clear q2
               try clear q1
               obtain ⟨x1_5, rfl, HA, HK4, BK1, HB⟩ := hrel; cases gk with
               | zero => exact absurd HA.out (by simp [r9_Right.l3])
               | succ k2 =>
                have H := HA.out; clear HA; simp only [r9_Right.l3] at H; by_cases c4 : x1_5 < (l0_4.length : Int)
                ·rw [if_pos c4] at H; have c1b0 := decide_eq_true c4; clear c4; by_cases c6 : 0 ≤ x1_5
                 ·rw [if_pos c6] at H; have c1b0 := decide_eq_true c6; clear c6; replace H := Option.bind_eq_some_iff.mp H; obtain ⟨t1, A1, H⟩ := H; have A3 := aM A1; clear A1; by_cases c7 : t1 = 0
                  ·rw [if_pos c7] at H; obtain ⟨c1b0, c1b1⟩ := zeq c7; clear c7; obtain rfl := Option.some.inj H; obtain ⟨i1_0, i1_1, i1_2, i1_3, i1_4, j1_0, j1_1, j1_2, j1_3, j1_4⟩ := cells5 BK1.out; try go_wp2
                   replace BK1 := aM (yc BK1.out); replace HB := aM (yk HB.out); have p1 : 0 ≤ (x1_5 : Int) := zod; have q1 : x1_5 < (l0_4.length : Int) := zod; obtain ⟨ad1, e1, hx1_0, hx1_1⟩ := at_T47 HR1_4.out x1_5 p1 q1; have hw1_1 := hx1_1; have hw1_0 := hx1_0; cases e1; replace hx1_0 := zx HB hx1_0; replace hx1_1 := zx HB hx1_1; replace p1 := eq_true p1; replace q1 := eq_true q1; refine start_ (n := 9) (S := fun w' => w'.cell? ⟨gb1, 0, none⟩ = some (.slice A0_0 l0_0.length c0_0) ∧ w'.cell? ⟨gb1, 1, none⟩ = some (.slice A0_1 l0_1.length c0_1) ∧ w'.cell? ⟨gb1, 2, none⟩ = some (.slice A0_2 l0_2.length c0_2) ∧ w'.cell? ⟨gb1, 3, none⟩ = some (.slice A0_3 l0_3.length c0_3) ∧ w'.cell? ⟨gb1, 4, none⟩ = some (.slice (some ad1) l0_4.length c0_4) ∧ w'.cell? (ad1.add ((x1_5).toNat * 2)) = some (.string ((rd_T47 l0_4 x1_5).f0)) ∧ w'.cell? ⟨(ad1.add ((x1_5).toNat * 2)).block, (ad1.add ((x1_5).toNat * 2)).off + 1, none⟩ = some (.int .i64 ((rd_T47 l0_4 x1_5).f1))) (ds := []) (zb 9 0) (by kernel_rfl) rfl rfl ⟨zc BK1 0, zc BK1 1, zc BK1 2, zc BK1 3, zc BK1 4, (zx HB hw1_0), (zx HB hw1_1)⟩ (fun hHeld => ?_); refine with_tabW r9_Right.tab28 r9_Right.bits28 (fun HT_ HW_ => ?_); generalize wr.drew = w1 at BK1 HB hx1_0 hx1_1 hHeld ⊢; refine zpu 1 122 (zb 9 2) ?_; refine zpu 3 124 (zb 9 10) ?_; refine ztk7 0 121 (zb 9 11) hHeld ?_; refine ztk7 2 123 (zb 9 15) hHeld ?_; refine zpu 4 125 (zb 9 31) ?_; refine zpu 5 126 (zb 9 63) ?_; refine ztk7 6 127 (zb 9 127) hHeld ?_; refine zon 7 (some 128) (zb 9 255) fun K hK => ?_
                   refine zgo Try.func39 #[.agg #[.slice A0_0 l0_0.length c0_0, .slice A0_1 l0_1.length c0_1, .slice A0_2 l0_2.length c0_2, .slice A0_3 l0_3.length c0_3, .slice (some ad1) l0_4.length c0_4], .int .i64 ((rd_T47 l0_4 x1_5).f1)] ?_; with_reducible refine (r9_there.calls _ _ l0_0 _ _ l0_1 _ _ l0_2 _ _ l0_3 _ _ l0_4 ((rd_T47 l0_4 x1_5).f1) t1 _ ?side1 ?side2 ?side3 ?side4 ?side5 ?side6 ?side7 ?side8 ?side9 ?side10 A3.out).mono ?_
                   (case side1 => exact q1z HR1_0 HB)
                   (case side2 => exact HC1_0.out)
                   (case side3 => exact q1z HR1_1 HB)
                   (case side4 => exact HC1_1.out)
                   (case side5 => exact q1z HR1_2 HB)
                   (case side6 => exact HC1_2.out)
                   (case side7 => exact q1z HR1_3 HB)
                   (case side8 => exact HC1_3.out)
                   (case side9 => exact q1z HR1_4 HB)
                   (case side10 => exact HC1_4.out)
                   rintro e w1 ⟨rfl, hb⟩; refine ⟨_, rfl, ?_⟩; replace BK1 := aM (yi (zi BK1) hb); replace HB := aM (ym (q4z HB GE1) hb); (try clear hb)
                   (try clear hb2)
                   (try clear hk)
                   (try clear hi)
                   refine hK.out _ _ ⟨zc BK1 0, zc BK1 1, zc BK1 2, zc BK1 3, zc BK1 4, (zx HB hw1_0), (zx HB hw1_1)⟩ (fun hHeld => ?_); clear hK K; refine zno 128 ?_; refine zpu 8 129 (zb 9 511) ?_; refine zdo ?_; try go_wp2
                   go_ret
                   exact ⟨q11z, q4z HB GE1⟩
                  ·rw [if_neg c7] at H; obtain ⟨c1b0, c1b1⟩ := zne c7; have H' := aM H; clear H; obtain ⟨i1_0, i1_1, i1_2, i1_3, i1_4, j1_0, j1_1, j1_2, j1_3, j1_4⟩ := cells5 BK1.out; try go_wp2
                   replace BK1 := aM (yc BK1.out); replace HB := aM (yk HB.out); have p1 : 0 ≤ (x1_5 : Int) := zod; have q1 : x1_5 < (l0_4.length : Int) := zod; obtain ⟨ad1, e1, hx1_0, hx1_1⟩ := at_T47 HR1_4.out x1_5 p1 q1; have hw1_1 := hx1_1; have hw1_0 := hx1_0; cases e1; replace hx1_0 := zx HB hx1_0; replace hx1_1 := zx HB hx1_1; replace p1 := eq_true p1; replace q1 := eq_true q1; refine start_ (n := 9) (S := fun w' => w'.cell? ⟨gb1, 0, none⟩ = some (.slice A0_0 l0_0.length c0_0) ∧ w'.cell? ⟨gb1, 1, none⟩ = some (.slice A0_1 l0_1.length c0_1) ∧ w'.cell? ⟨gb1, 2, none⟩ = some (.slice A0_2 l0_2.length c0_2) ∧ w'.cell? ⟨gb1, 3, none⟩ = some (.slice A0_3 l0_3.length c0_3) ∧ w'.cell? ⟨gb1, 4, none⟩ = some (.slice (some ad1) l0_4.length c0_4) ∧ w'.cell? (ad1.add ((x1_5).toNat * 2)) = some (.string ((rd_T47 l0_4 x1_5).f0)) ∧ w'.cell? ⟨(ad1.add ((x1_5).toNat * 2)).block, (ad1.add ((x1_5).toNat * 2)).off + 1, none⟩ = some (.int .i64 ((rd_T47 l0_4 x1_5).f1))) (ds := []) (zb 9 0) (by kernel_rfl) rfl rfl ⟨zc BK1 0, zc BK1 1, zc BK1 2, zc BK1 3, zc BK1 4, (zx HB hw1_0), (zx HB hw1_1)⟩ (fun hHeld => ?_); refine with_tabW r9_Right.tab28 r9_Right.bits28 (fun HT_ HW_ => ?_); generalize wr.drew = w1 at BK1 HB hx1_0 hx1_1 hHeld ⊢; refine zpu 1 122 (zb 9 2) ?_; refine zpu 3 124 (zb 9 10) ?_; refine ztk7 0 121 (zb 9 11) hHeld ?_; refine ztk7 2 123 (zb 9 15) hHeld ?_; refine zpu 4 125 (zb 9 31) ?_; refine zpu 5 126 (zb 9 63) ?_; refine ztk7 6 127 (zb 9 127) hHeld ?_; refine zon 7 (some 128) (zb 9 255) fun K hK => ?_
                   refine zgo Try.func39 #[.agg #[.slice A0_0 l0_0.length c0_0, .slice A0_1 l0_1.length c0_1, .slice A0_2 l0_2.length c0_2, .slice A0_3 l0_3.length c0_3, .slice (some ad1) l0_4.length c0_4], .int .i64 ((rd_T47 l0_4 x1_5).f1)] ?_; with_reducible refine (r9_there.calls _ _ l0_0 _ _ l0_1 _ _ l0_2 _ _ l0_3 _ _ l0_4 ((rd_T47 l0_4 x1_5).f1) t1 _ ?side1 ?side2 ?side3 ?side4 ?side5 ?side6 ?side7 ?side8 ?side9 ?side10 A3.out).mono ?_
                   (case side1 => exact q1z HR1_0 HB)
                   (case side2 => exact HC1_0.out)
                   (case side3 => exact q1z HR1_1 HB)
                   (case side4 => exact HC1_1.out)
                   (case side5 => exact q1z HR1_2 HB)
                   (case side6 => exact HC1_2.out)
                   (case side7 => exact q1z HR1_3 HB)
                   (case side8 => exact HC1_3.out)
                   (case side9 => exact q1z HR1_4 HB)
                   (case side10 => exact HC1_4.out)
                   rintro e w1 ⟨rfl, hb⟩; refine ⟨_, rfl, ?_⟩; replace BK1 := aM (yi (zi BK1) hb); replace HB := aM (ym (q4z HB GE1) hb); (try clear hb)
                   (try clear hb2)
                   (try clear hk)
                   (try clear hi)
                   refine hK.out _ _ ⟨zc BK1 0, zc BK1 1, zc BK1 2, zc BK1 3, zc BK1 4, (zx HB hw1_0), (zx HB hw1_1)⟩ (fun hHeld => ?_); clear hK K; refine zno 128 ?_; refine zpu 8 129 (zb 9 511) ?_; refine zdo ?_; try go_wp2
                   go_roundg k2
                   case measure => have := HJ1.out; have := HK1.out; have := HK2.out; have := HK3.out; have := HK4.out; omega
                   case rel => exact ⟨(wrap64 (x1_5 + 1)), q13z, H', ⟨by have := HJ1.out; have := HK1.out; have := HK2.out; have := HK3.out; have := HK4.out; omega⟩, ⟨q10z BK1⟩, ⟨q4z HB GE1⟩⟩
                 ·rw [if_neg c6] at H; exact absurd H (by simp)
                ·rw [if_neg c4] at H; have c1b0 := decide_eq_false c4; clear c4; obtain rfl := Option.some.inj H; obtain ⟨i1_0, i1_1, i1_2, i1_3, i1_4, j1_0, j1_1, j1_2, j1_3, j1_4⟩ := cells5 BK1.out; go_wp2
                 go_ret
                 exact ⟨q11z, q4z HB GE1⟩
       ·replace c10 := Bool.eq_false_iff.mpr c10; subst c10; have H1 : (some false) = some r := by rw [if_neg (show ¬ (false = true) by decide)] at H; exact H
        clear H; have H := H1; clear H1; obtain rfl := Option.some.inj H; obtain ⟨i1_0, i1_1, i1_2, i1_3, i1_4, j1_0, j1_1, j1_2, j1_3, j1_4⟩ := cells5 BK1.out; go_wp2_with (first | ((with_reducible refine zgc 38 rfl ?_); refine zgl (some 45) Try.func38 #[.agg #[.slice A0_0 l0_0.length c0_0, .slice A0_1 l0_1.length c0_1, .slice A0_2 l0_2.length c0_2, .slice A0_3 l0_3.length c0_3, .slice A0_4 l0_4.length c0_4]] ?_; (with_reducible refine (r9_pins.calls k1 _ _ l0_0 _ _ l0_1 _ _ l0_2 _ _ l0_3 _ _ l0_4 false _ ?side1 ?side2 ?side3 ?side4 ?side5 ?side6 ?side7 ?side8 ?side9 ?side10 A2.out).mono ?_); (case side1 => exact q1z HR1_0 HB); (case side2 => exact HC1_0.out); (case side3 => exact q1z HR1_1 HB); (case side4 => exact HC1_1.out); (case side5 => exact q1z HR1_2 HB); (case side6 => exact HC1_2.out); (case side7 => exact q1z HR1_3 HB); (case side8 => exact HC1_3.out); (case side9 => exact q1z HR1_4 HB); (case side10 => exact HC1_4.out); rintro e w1 ⟨rfl, hb⟩; refine ⟨_, rfl, ?_⟩; replace BK1 := aM (yi (zi BK1) hb); replace HB := aM (ym (q4z HB GE1) hb); (try clear hb); (try clear hb2); (try clear hk); (try clear hi)))
        go_ret
        exact ⟨q11z, q4z HB GE1⟩
mutual
def w9_Rows.l0 : Nat → List Int → List Int → List Int → Int → List (S41) → List (S47) → List (S43) → List (S61) → List (S47) → Option (List Int × List Int)
 | 0, _, _, _, _, _, _, _, _, _ => none
 | k + 1, x1, x2, x8, x10, x406000, x406001, x406002, x406003, x406004 => if x10 < (x406002.length : Int) then (if x10 < (x1.length : Int) then (if 0 ≤ x10 then (if 0 ≤ ((rd_T43 x406002 x10).f1) then (if ((rd_T43 x406002 x10).f1) < (x406000.length : Int) then ((r8_Mask.f ((rd_T41 x406000 ((rd_T43 x406002 x10).f1)).f1)).bind fun t409 => (if x8.length < 17592186044416 then (w9_Rows.l0 k x1 x2 (x8 ++ [Go.bits .and .i64 (wrap64 (rd x1 x10)) t409]) (wrap64 (x10 + 1)) x406000 x406001 x406002 x406003 x406004) else (none))) else (none)) else (none)) else (none)) else (if x8.length < 17592186044416 then (w9_Rows.l0 k x1 x2 (x8 ++ [0]) (wrap64 (x10 + 1)) x406000 x406001 x406002 x406003 x406004) else (none))) else (w9_Rows.l1 k x2 x8 ([] : List Int) 0 x406000 x406001 x406002 x406003 x406004)
def w9_Rows.l1 : Nat → List Int → List Int → List Int → Int → List (S41) → List (S47) → List (S43) → List (S61) → List (S47) → Option (List Int × List Int)
 | 0, _, _, _, _, _, _, _, _, _ => none
 | k + 1, x2, x8, x9, x12, x406000, x406001, x406002, x406003, x406004 => if x12 < (x406001.length : Int) then (if x12 < (x2.length : Int) then (if 0 ≤ x12 then (if 0 ≤ ((rd_T47 x406001 x12).f1) then (if ((rd_T47 x406001 x12).f1) < (x406000.length : Int) then ((r8_Mask.f ((rd_T41 x406000 ((rd_T47 x406001 x12).f1)).f1)).bind fun t419 => (if x9.length < 17592186044416 then (w9_Rows.l1 k x2 x8 (x9 ++ [Go.bits .and .i64 (wrap64 (rd x2 x12)) t419]) (wrap64 (x12 + 1)) x406000 x406001 x406002 x406003 x406004) else (none))) else (none)) else (none)) else (none)) else (if x9.length < 17592186044416 then (w9_Rows.l1 k x2 x8 (x9 ++ [0]) (wrap64 (x12 + 1)) x406000 x406001 x406002 x406003 x406004) else (none))) else (some (x8, x9))
end
def w9_Rows.f (k : Nat) (l0_0 : List (S41)) (l0_1 : List (S47)) (l0_2 : List (S43)) (l0_3 : List (S61)) (l0_4 : List (S47)) (l1 : List Int) (l2 : List Int) : Option (List Int × List Int) := w9_Rows.l0 k l1 l2 ([] : List Int) 0 l0_0 l0_1 l0_2 l0_3 l0_4
theorem w9_Rows.mono_l : ∀ k, (∀ y0 y1 y2 y3 y4 y5 y6 y7 y8, LeO (w9_Rows.l0 k y0 y1 y2 y3 y4 y5 y6 y7 y8) (w9_Rows.l0 (k + 1) y0 y1 y2 y3 y4 y5 y6 y7 y8)) ∧ (∀ y0 y1 y2 y3 y4 y5 y6 y7 y8, LeO (w9_Rows.l1 k y0 y1 y2 y3 y4 y5 y6 y7 y8) (w9_Rows.l1 (k + 1) y0 y1 y2 y3 y4 y5 y6 y7 y8))
 | 0 => ⟨fun _ _ _ _ _ _ _ _ _ r h => by simp [w9_Rows.l0] at h, fun _ _ _ _ _ _ _ _ _ r h => by simp [w9_Rows.l1] at h⟩
 | k + 1 => by
  obtain ⟨ih0, ih1⟩ := w9_Rows.mono_l k; refine ⟨?_, ?_⟩ <;> intros <;> (first | unfold w9_Rows.l0 | unfold w9_Rows.l1) <;> repeat' first | (with_reducible first | apply ih0 | apply ih1 | exact LeO.refl _ | exact LeO.none _ | refine LeO.ite ?_ ?_ | refine LeO.bind ?_ (fun _ => ?_)) | exact LeO.none _ | refine LeO.ite ?_ ?_ | refine LeO.bind ?_ (fun _ => ?_)
theorem w9_Rows.mono : ∀ a0 a1 a2 a3 a4 a5 a6 k, LeO (w9_Rows.f k a0 a1 a2 a3 a4 a5 a6) (w9_Rows.f (k + 1) a0 a1 a2 a3 a4 a5 a6) := by
 intro a0 a1 a2 a3 a4 a5 a6 k
 obtain ⟨ih1, ih2⟩ := w9_Rows.mono_l k; unfold w9_Rows.f
 repeat' first | (with_reducible first | apply ih1 | apply ih2 | exact LeO.refl _ | exact LeO.none _ | refine LeO.ite ?_ ?_ | refine LeO.bind ?_ (fun _ => ?_)) | exact LeO.none _ | refine LeO.ite ?_ ?_ | refine LeO.bind ?_ (fun _ => ?_)
theorem w9_Rows.calls (k : Nat) (A0_0 : Option Addr) (c0_0 : Nat) (l0_0 : List (S41)) (A0_1 : Option Addr) (c0_1 : Nat) (l0_1 : List (S47)) (A0_2 : Option Addr) (c0_2 : Nat) (l0_2 : List (S43)) (A0_3 : Option Addr) (c0_3 : Nat) (l0_3 : List (S61)) (A0_4 : Option Addr) (c0_4 : Nat) (l0_4 : List (S47)) (A1 : Option Addr) (c1 : Nat) (l1 : List Int) (A2 : Option Addr) (c2 : Nat) (l2 : List Int) (r1 : List Int) (r2 : List Int) (w : World) (hr0_0 : Kd.C k41 w A0_0 l0_0.length l0_0) (hc0_0 : l0_0.length ≤ c0_0) (hr0_1 : Kd.C k47 w A0_1 l0_1.length l0_1) (hc0_1 : l0_1.length ≤ c0_1) (hr0_2 : Kd.C k43 w A0_2 l0_2.length l0_2) (hc0_2 : l0_2.length ≤ c0_2) (hr0_3 : Kd.C k61 w A0_3 l0_3.length l0_3) (hc0_3 : l0_3.length ≤ c0_3) (hr0_4 : Kd.C k47 w A0_4 l0_4.length l0_4) (hc0_4 : l0_4.length ≤ c0_4) (hr1 : Kd.C (Kd.int .u16) w A1 l1.length l1) (hc1 : l1.length ≤ c1) (hr2 : Kd.C (Kd.int .u16) w A2 l2.length l2) (hc2 : l2.length ≤ c2) (h : w9_Rows.f k l0_0 l0_1 l0_2 l0_3 l0_4 l1 l2 = some (r1, r2)) :
  Calls Try.prog 16 #[.agg #[.slice A0_0 l0_0.length c0_0, .slice A0_1 l0_1.length c0_1, .slice A0_2 l0_2.length c0_2, .slice A0_3 l0_3.length c0_3, .slice A0_4 l0_4.length c0_4], .slice A1 l1.length c1, .slice A2 l2.length c2] w fun e w' => ∃ v0_ v1_ : Value, e = .returned (.tuple #[v0_, v1_]) ∧ Kd.R (Kd.int .i64) 3 w' w.heap.size (fun k_ => some k_ ≠ (v1_ : Value).ownBlock) v0_ r1 ∧ Kd.R (Kd.int .i64) 3 w' w.heap.size (fun k_ => some k_ ≠ (v0_ : Value).ownBlock) v1_ r2 ∧ Below w.heap.size w w' := by
 have hu1 := Try.underlying27; have HR1_0 := aM hr0_0; have HC1_0 := aM hc0_0; clear hr0_0 hc0_0; have HR1_1 := aM hr0_1; have HC1_1 := aM hc0_1; clear hr0_1 hc0_1; have HR1_2 := aM hr0_2; have HC1_2 := aM hc0_2; clear hr0_2 hc0_2; have HR1_3 := aM hr0_3; have HC1_3 := aM hc0_3; clear hr0_3 hc0_3; have HR1_4 := aM hr0_4; have HC1_4 := aM hc0_4; clear hr0_4 hc0_4; have HR1 := aM hr1; have HC1 := aM hc1; clear hr1 hc1; have HR2 := aM hr2; have HC1 := aM hc2; clear hr2 hc2; have HB := aM (Below.refl w.heap.size w); have H : (w9_Rows.l0 k l1 l2 ([] : List Int) 0 l0_0 l0_1 l0_2 l0_3 l0_4) = some (r1, r2) := h; clear h; have H' := aM H; clear H; go_enter Try.func16, Try.ntmps16
 go_wp2_with (first | ((with_reducible refine zgd 3 rfl ?_); refine zbox 3 #[.slice A0_0 l0_0.length c0_0, .slice A0_1 l0_1.length c0_1, .slice A0_2 l0_2.length c0_2, .slice A0_3 l0_3.length c0_3, .slice A0_4 l0_4.length c0_4] 27 ?_; intro gb1 hg w1 hbox hb; have BK1 := aM (hbox); have GW1 := aM ((q7z HB : w.heap.size ≤ gb1)); have GE1 := aM ((q7z HB : w.heap.size ≤ gb1)); replace HB := aM (ym (q5z HB) hb); clear hb hbox hg))
 repeat (go_quiet (first | ((with_reducible refine zgd 3 rfl ?_); refine zbox 3 #[.slice A0_0 l0_0.length c0_0, .slice A0_1 l0_1.length c0_1, .slice A0_2 l0_2.length c0_2, .slice A0_3 l0_3.length c0_3, .slice A0_4 l0_4.length c0_4] 27 ?_; intro gb1 hg w1 hbox hb; have BK1 := aM (hbox); have GW1 := aM ((q7z HB : w.heap.size ≤ gb1)); have GE1 := aM ((q7z HB : w.heap.size ≤ gb1)); replace HB := aM (ym (q5z HB) hb); clear hb hbox hg)); try go_wp2_with (first | ((with_reducible refine zgd 3 rfl ?_); refine zbox 3 #[.slice A0_0 l0_0.length c0_0, .slice A0_1 l0_1.length c0_1, .slice A0_2 l0_2.length c0_2, .slice A0_3 l0_3.length c0_3, .slice A0_4 l0_4.length c0_4] 27 ?_; intro gb1 hg w1 hbox hb; have BK1 := aM (hbox); have GW1 := aM ((q7z HB : w.heap.size ≤ gb1)); have GE1 := aM ((q7z HB : w.heap.size ≤ gb1)); replace HB := aM (ym (q5z HB) hb); clear hb hbox hg)))
 go_loopg [8, 10] k (fun kq v1 v2 w' => ∃ (x1_1 : List Int) (x2_1 : Int), v2 = .int .i64 x2_1 ∧ Aside0 (w9_Rows.l0 kq l1 l2 x1_1 x2_1 l0_0 l0_1 l0_2 l0_3 l0_4 = some (r1, r2)) ∧ Aside0 (kq ≤ k) ∧ Aside0 (Kd.R (Kd.int .i64) 3 w' w.heap.size (fun _ => True) v1 x1_1) ∧ Aside0 (w'.heap[gb1]? = some (.cells #[(.slice A0_0 l0_0.length c0_0), (.slice A0_1 l0_1.length c0_1), (.slice A0_2 l0_2.length c0_2), (.slice A0_3 l0_3.length c0_3), (.slice A0_4 l0_4.length c0_4)] 27 (0, 0))) ∧ Aside0 (Below w.heap.size w w'))
 case atStart => exact ⟨(([] : List Int)), (0), q13z, H', ⟨Nat.le_refl _⟩, ⟨q57z⟩, ⟨q10z BK1⟩, ⟨q4z HB GE1⟩⟩
 case round =>
  clear H'; try clear c1
  try clear c2
  try clear p2
  obtain ⟨x1_1, x2_1, rfl, HA, HK1, HO_1, BK1, HB⟩ := hrel; cases gk with
  | zero => exact absurd HA.out (by simp [w9_Rows.l0])
  | succ k1 =>
   have H := HA.out; clear HA; simp only [w9_Rows.l0] at H; by_cases c3 : x2_1 < (l0_2.length : Int)
   ·rw [if_pos c3] at H; have c1b0 := decide_eq_true c3; clear c3; by_cases c4 : x2_1 < (l1.length : Int)
    ·rw [if_pos c4] at H; have c1b0 := decide_eq_true c4; clear c4; by_cases c5 : 0 ≤ x2_1
     ·rw [if_pos c5] at H; have c1b0 := decide_eq_true c5; clear c5; by_cases c6 : 0 ≤ ((rd_T43 l0_2 x2_1).f1)
      ·rw [if_pos c6] at H; have c1b0 := decide_eq_true c6; clear c6; by_cases c7 : ((rd_T43 l0_2 x2_1).f1) < (l0_0.length : Int)
       ·rw [if_pos c7] at H; have c1b0 := decide_eq_true c7; clear c7; replace H := Option.bind_eq_some_iff.mp H; obtain ⟨t1, A3, H⟩ := H; have A4 := aM A3; clear A3; by_cases c8 : x1_1.length < 17592186044416
        ·rw [if_pos c8] at H; have LMc1 := aM c8; clear c8; obtain ⟨y1, hy1⟩ : ∃ y_ : List Int, y_ = (x1_1 ++ [Go.bits .and .i64 (wrap64 (rd l1 x2_1)) t1]) := ⟨_, rfl⟩; replace H : (w9_Rows.l0 k1 l1 l2 y1 (wrap64 (x2_1 + 1)) l0_0 l0_1 l0_2 l0_3 l0_4) = some (r1, r2) := by first | (rw [hy1]; with_reducible exact H) | (have H1_ := (Option.bind_some _ _).symm.trans H; rw [hy1]; with_reducible exact H1_) | (have H1_ := (Option.bind_some _ _).symm.trans H; with_reducible exact H1_) | with_reducible exact H | (rw [hy1]; exact H) | exact H
         have Ny1 := aM hy1; clear hy1; have H' := aM H; clear H; obtain ⟨i1_0, i1_1, i1_2, i1_3, i1_4, j1_0, j1_1, j1_2, j1_3, j1_4⟩ := cells5 BK1.out; have p1 : 0 ≤ (x2_1 : Int) := zod; have q1 : x2_1 < (l1.length : Int) := zod; obtain ⟨ad1, e1, hx1_0⟩ := Kd.at_int HR1.out x2_1 p1 q1; cases e1; replace hx1_0 := zx HB hx1_0; replace p1 := eq_true p1; replace q1 := eq_true q1; have p1 : 0 ≤ (x2_1 : Int) := zod; have q1 : x2_1 < (l0_2.length : Int) := zod; obtain ⟨ad1, e1, hx1_0, hx1_1, hx1_2, hx1_3⟩ := at_T43 HR1_2.out x2_1 p1 q1; cases e1; replace hx1_0 := zx HB hx1_0; replace hx1_1 := zx HB hx1_1; replace hx1_2 := zx HB hx1_2; replace hx1_3 := zx HB hx1_3; replace p1 := eq_true p1; replace q1 := eq_true q1; have p1 : 0 ≤ (((rd_T43 l0_2 x2_1).f1) : Int) := zod; have q1 : ((rd_T43 l0_2 x2_1).f1) < (l0_0.length : Int) := zod; obtain ⟨ad2, e1, hx1_0, hx1_1, hx1_2, hx1_3, hx1_4, hx1_5, hx1_6⟩ := at_T41 HR1_0.out ((rd_T43 l0_2 x2_1).f1) p1 q1; cases e1; replace hx1_0 := zx HB hx1_0; replace hx1_1 := zx HB hx1_1; replace hx1_2 := zx HB hx1_2; replace hx1_3 := zx HB hx1_3; replace hx1_4 := zx HB hx1_4; replace hx1_5 := zx HB hx1_5; replace hx1_6 := zx HB hx1_6; replace p1 := eq_true p1; replace q1 := eq_true q1; go_wp2_with (first | (go_at_call 24; (with_reducible refine (r8_Mask.calls ((rd_T41 l0_0 ((rd_T43 l0_2 x2_1).f1)).f1) t1 _ A4.out).mono ?_); rintro e w' ⟨rfl, ⟨nd, rfl⟩⟩; (try first | exact ⟨rfl, _, World.drewN_drewN _ _ _⟩ | exact ⟨rfl, _, Eq.trans (World.drewN_drewN _ _ _) (congrArg (World.drewN _) (Nat.add_assoc _ _ _))⟩)) | ((with_reducible refine gate_builtin (b := .append) (xs := #[.tmp 43, .tmp 45]) rfl ?_); at_builtin; refine Kd.R_append (Kd.int .i64) (w0 := w) w.heap.size rfl (.tmp 43) (.tmp 45) 32 3 (.int .i64 0) 8 rfl Try.underlying32 info3 rfl (by decide) (by omega) u8 x1_1 (Go.bits .and .i64 (wrap64 (rd l1 x2_1)) t1) [.int .i64 (Go.bits .and .i64 (wrap64 (rd l1 x2_1)) t1)] (fun _ => True) (fun _ => False) rfl rfl ?aP (fun _ hk => hk.elim) ?aF ?aO ?aB ?aS ?aL ?_; (case aP => exact rfl); (case aB => exact q41z HB GE1); (case aF => exact q84z); (case aO => exact q44z HO_1); (case aS => exact q40z HB GE1); (case aL => have := LMc1.out; omega); intro v1 w1 ho hb hg hat; rw [← Ny1.out] at ho; replace BK1 := aM (blk_grown (g := gb1) (o := .cells #[.slice (some ad2) l0_0.length c0_0, .slice A0_1 l0_1.length c0_1, .slice (some ad1) l0_2.length c0_2, .slice A0_3 l0_3.length c0_3, .slice A0_4 l0_4.length c0_4] 27 (0, 0)) (zi BK1) hg (Kd.R_ne HO_1.out BK1.out (by decide))); replace HB := aM (hb); have HO1 := aM (ho); clear HO_1; clear ho hb hg hat))
         repeat (go_quiet (first | (go_at_call 24; (with_reducible refine (r8_Mask.calls ((rd_T41 l0_0 ((rd_T43 l0_2 x2_1).f1)).f1) t1 _ A4.out).mono ?_); rintro e w' ⟨rfl, ⟨nd, rfl⟩⟩; (try first | exact ⟨rfl, _, World.drewN_drewN _ _ _⟩ | exact ⟨rfl, _, Eq.trans (World.drewN_drewN _ _ _) (congrArg (World.drewN _) (Nat.add_assoc _ _ _))⟩)) | ((with_reducible refine gate_builtin (b := .append) (xs := #[.tmp 43, .tmp 45]) rfl ?_); at_builtin; refine Kd.R_append (Kd.int .i64) (w0 := w) w.heap.size rfl (.tmp 43) (.tmp 45) 32 3 (.int .i64 0) 8 rfl Try.underlying32 info3 rfl (by decide) (by omega) u8 x1_1 (Go.bits .and .i64 (wrap64 (rd l1 x2_1)) t1) [.int .i64 (Go.bits .and .i64 (wrap64 (rd l1 x2_1)) t1)] (fun _ => True) (fun _ => False) rfl rfl ?aP (fun _ hk => hk.elim) ?aF ?aO ?aB ?aS ?aL ?_; (case aP => exact rfl); (case aB => exact q41z HB GE1); (case aF => exact q84z); (case aO => exact q44z HO_1); (case aS => exact q40z HB GE1); (case aL => have := LMc1.out; omega); intro v1 w1 ho hb hg hat; rw [← Ny1.out] at ho; replace BK1 := aM (blk_grown (g := gb1) (o := .cells #[.slice (some ad2) l0_0.length c0_0, .slice A0_1 l0_1.length c0_1, .slice (some ad1) l0_2.length c0_2, .slice A0_3 l0_3.length c0_3, .slice A0_4 l0_4.length c0_4] 27 (0, 0)) (zi BK1) hg (Kd.R_ne HO_1.out BK1.out (by decide))); replace HB := aM (hb); have HO1 := aM (ho); clear HO_1; clear ho hb hg hat)); try go_wp2_with (first | (go_at_call 24; (with_reducible refine (r8_Mask.calls ((rd_T41 l0_0 ((rd_T43 l0_2 x2_1).f1)).f1) t1 _ A4.out).mono ?_); rintro e w' ⟨rfl, ⟨nd, rfl⟩⟩; (try first | exact ⟨rfl, _, World.drewN_drewN _ _ _⟩ | exact ⟨rfl, _, Eq.trans (World.drewN_drewN _ _ _) (congrArg (World.drewN _) (Nat.add_assoc _ _ _))⟩)) | ((with_reducible refine gate_builtin (b := .append) (xs := #[.tmp 43, .tmp 45]) rfl ?_); at_builtin; refine Kd.R_append (Kd.int .i64) (w0 := w) w.heap.size rfl (.tmp 43) (.tmp 45) 32 3 (.int .i64 0) 8 rfl Try.underlying32 info3 rfl (by decide) (by omega) u8 x1_1 (Go.bits .and .i64 (wrap64 (rd l1 x2_1)) t1) [.int .i64 (Go.bits .and .i64 (wrap64 (rd l1 x2_1)) t1)] (fun _ => True) (fun _ => False) rfl rfl ?aP (fun _ hk => hk.elim) ?aF ?aO ?aB ?aS ?aL ?_; (case aP => exact rfl); (case aB => exact q41z HB GE1); (case aF => exact q84z); (case aO => exact q44z HO_1); (case aS => exact q40z HB GE1); (case aL => have := LMc1.out; omega); intro v1 w1 ho hb hg hat; rw [← Ny1.out] at ho; replace BK1 := aM (blk_grown (g := gb1) (o := .cells #[.slice (some ad2) l0_0.length c0_0, .slice A0_1 l0_1.length c0_1, .slice (some ad1) l0_2.length c0_2, .slice A0_3 l0_3.length c0_3, .slice A0_4 l0_4.length c0_4] 27 (0, 0)) (zi BK1) hg (Kd.R_ne HO_1.out BK1.out (by decide))); replace HB := aM (hb); have HO1 := aM (ho); clear HO_1; clear ho hb hg hat)))
         go_roundg k1
         case measure => have := HK1.out; omega
         case rel => exact ⟨(y1), (wrap64 (x2_1 + 1)), q13z, H', ⟨by have := HK1.out; omega⟩, ⟨q2z HO1⟩, ⟨q10z BK1⟩, ⟨q4z HB GE1⟩⟩
        ·rw [if_neg c8] at H; exact absurd H (by simp)
       ·rw [if_neg c7] at H; exact absurd H (by simp)
      ·rw [if_neg c6] at H; exact absurd H (by simp)
     ·rw [if_neg c5] at H; exact absurd H (by simp)
    ·rw [if_neg c4] at H; have c1b0 := decide_eq_false c4; clear c4; by_cases c4 : x1_1.length < 17592186044416
     ·rw [if_pos c4] at H; have LMc1 := aM c4; clear c4; obtain ⟨y1, hy1⟩ : ∃ y_ : List Int, y_ = (x1_1 ++ [0]) := ⟨_, rfl⟩; replace H : (w9_Rows.l0 k1 l1 l2 y1 (wrap64 (x2_1 + 1)) l0_0 l0_1 l0_2 l0_3 l0_4) = some (r1, r2) := by first | (rw [hy1]; with_reducible exact H) | (have H1_ := (Option.bind_some _ _).symm.trans H; rw [hy1]; with_reducible exact H1_) | (have H1_ := (Option.bind_some _ _).symm.trans H; with_reducible exact H1_) | with_reducible exact H | (rw [hy1]; exact H) | exact H
      have Ny1 := aM hy1; clear hy1; have H' := aM H; clear H; obtain ⟨i1_0, i1_1, i1_2, i1_3, i1_4, j1_0, j1_1, j1_2, j1_3, j1_4⟩ := cells5 BK1.out; go_wp2_with (first | ((with_reducible refine gate_builtin (b := .append) (xs := #[.tmp 43, .tmp 45]) rfl ?_); at_builtin; refine Kd.R_append (Kd.int .i64) (w0 := w) w.heap.size rfl (.tmp 43) (.tmp 45) 32 3 (.int .i64 0) 8 rfl Try.underlying32 info3 rfl (by decide) (by omega) u8 x1_1 0 [.int .i64 0] (fun _ => True) (fun _ => False) rfl rfl ?aP (fun _ hk => hk.elim) ?aF ?aO ?aB ?aS ?aL ?_; (case aP => exact rfl); (case aB => exact q41z HB GE1); (case aF => exact q84z); (case aO => exact q44z HO_1); (case aS => exact q40z HB GE1); (case aL => have := LMc1.out; omega); intro v1 w1 ho hb hg hat; rw [← Ny1.out] at ho; replace BK1 := aM (blk_grown (g := gb1) (o := .cells #[.slice A0_0 l0_0.length c0_0, .slice A0_1 l0_1.length c0_1, .slice A0_2 l0_2.length c0_2, .slice A0_3 l0_3.length c0_3, .slice A0_4 l0_4.length c0_4] 27 (0, 0)) (zi BK1) hg (Kd.R_ne HO_1.out BK1.out (by decide))); replace HB := aM (hb); have HO1 := aM (ho); clear HO_1; clear ho hb hg hat))
      repeat (go_quiet (first | ((with_reducible refine gate_builtin (b := .append) (xs := #[.tmp 43, .tmp 45]) rfl ?_); at_builtin; refine Kd.R_append (Kd.int .i64) (w0 := w) w.heap.size rfl (.tmp 43) (.tmp 45) 32 3 (.int .i64 0) 8 rfl Try.underlying32 info3 rfl (by decide) (by omega) u8 x1_1 0 [.int .i64 0] (fun _ => True) (fun _ => False) rfl rfl ?aP (fun _ hk => hk.elim) ?aF ?aO ?aB ?aS ?aL ?_; (case aP => exact rfl); (case aB => exact q41z HB GE1); (case aF => exact q84z); (case aO => exact q44z HO_1); (case aS => exact q40z HB GE1); (case aL => have := LMc1.out; omega); intro v1 w1 ho hb hg hat; rw [← Ny1.out] at ho; replace BK1 := aM (blk_grown (g := gb1) (o := .cells #[.slice A0_0 l0_0.length c0_0, .slice A0_1 l0_1.length c0_1, .slice A0_2 l0_2.length c0_2, .slice A0_3 l0_3.length c0_3, .slice A0_4 l0_4.length c0_4] 27 (0, 0)) (zi BK1) hg (Kd.R_ne HO_1.out BK1.out (by decide))); replace HB := aM (hb); have HO1 := aM (ho); clear HO_1; clear ho hb hg hat)); try go_wp2_with (first | ((with_reducible refine gate_builtin (b := .append) (xs := #[.tmp 43, .tmp 45]) rfl ?_); at_builtin; refine Kd.R_append (Kd.int .i64) (w0 := w) w.heap.size rfl (.tmp 43) (.tmp 45) 32 3 (.int .i64 0) 8 rfl Try.underlying32 info3 rfl (by decide) (by omega) u8 x1_1 0 [.int .i64 0] (fun _ => True) (fun _ => False) rfl rfl ?aP (fun _ hk => hk.elim) ?aF ?aO ?aB ?aS ?aL ?_; (case aP => exact rfl); (case aB => exact q41z HB GE1); (case aF => exact q84z); (case aO => exact q44z HO_1); (case aS => exact q40z HB GE1); (case aL => have := LMc1.out; omega); intro v1 w1 ho hb hg hat; rw [← Ny1.out] at ho; replace BK1 := aM (blk_grown (g := gb1) (o := .cells #[.slice A0_0 l0_0.length c0_0, .slice A0_1 l0_1.length c0_1, .slice A0_2 l0_2.length c0_2, .slice A0_3 l0_3.length c0_3, .slice A0_4 l0_4.length c0_4] 27 (0, 0)) (zi BK1) hg (Kd.R_ne HO_1.out BK1.out (by decide))); replace HB := aM (hb); have HO1 := aM (ho); clear HO_1; clear ho hb hg hat)))
      go_roundg k1
      case measure => have := HK1.out; omega
      case rel => exact ⟨(y1), (wrap64 (x2_1 + 1)), q13z, H', ⟨by have := HK1.out; omega⟩, ⟨q2z HO1⟩, ⟨q10z BK1⟩, ⟨q4z HB GE1⟩⟩
     ·rw [if_neg c4] at H; exact absurd H (by simp)
   ·rw [if_neg c3] at H; have c1b0 := decide_eq_false c3; clear c3; have H' := aM H; clear H; obtain ⟨i1_0, i1_1, i1_2, i1_3, i1_4, j1_0, j1_1, j1_2, j1_3, j1_4⟩ := cells5 BK1.out; go_wp2
    repeat (go_quiet (fail); try go_wp2)
    go_loopg [9, 12] k1 (fun kq v1 v2 w' => ∃ (x1_2 : List Int) (x2_2 : Int), v2 = .int .i64 x2_2 ∧ Aside0 (w9_Rows.l1 kq l2 x1_1 x1_2 x2_2 l0_0 l0_1 l0_2 l0_3 l0_4 = some (r1, r2)) ∧ Aside0 (kq ≤ k1) ∧ Aside0 (Kd.R (Kd.int .i64) 3 w' w.heap.size (fun k_ => some k_ ≠ (v1 : Value).ownBlock) u8 x1_1) ∧ Aside0 (Kd.R (Kd.int .i64) 3 w' w.heap.size (fun k_ => some k_ ≠ (u8 : Value).ownBlock) v1 x1_2) ∧ Aside0 (w'.heap[gb1]? = some (.cells #[(.slice A0_0 l0_0.length c0_0), (.slice A0_1 l0_1.length c0_1), (.slice A0_2 l0_2.length c0_2), (.slice A0_3 l0_3.length c0_3), (.slice A0_4 l0_4.length c0_4)] 27 (0, 0))) ∧ Aside0 (Below w.heap.size w w'))
    case atStart => exact ⟨(([] : List Int)), (0), q13z, H', ⟨Nat.le_refl _⟩, ⟨q93z HO_1⟩, ⟨q57z⟩, ⟨q10z BK1⟩, ⟨q4z HB GE1⟩⟩
    case round =>
     clear H'; try clear c1
     try clear c2
     try clear p2
     try clear p4
     try clear q4
     try clear hx4
     try clear c3
     try clear c1b0
     try clear c3
     try clear c1b0
     try clear p6
     try clear c3
     try clear c1b0
     try clear c3
     try clear c1b0
     try clear c3
     try clear c1b0
     try clear c3
     try clear c3
     try clear c16
     try clear i2_0 i2_1 i2_2 i2_3 i2_4 i2_0 i2_1 i2_2 i2_3 i2_4
     try clear i1_0 i1_1 i1_2 i1_3 i1_4
     try clear j2_0 j2_1 j2_2 j2_3 j2_4 j2_0 j2_1 j2_2 j2_3 j2_4
     try clear j1_0 j1_1 j1_2 j1_3 j1_4
     try clear hx1_0
     try clear hx1_0
     try clear hx1_1
     try clear hx1_2
     try clear hx1_3
     try clear hx1_0
     try clear hx1_1
     try clear hx1_2
     try clear hx1_3
     try clear hx1_4
     try clear hx1_5
     try clear hx1_6
     try clear p2
     try clear p1
     try clear p1
     try clear p1
     try clear q1
     try clear q1
     try clear q1
     obtain ⟨x1_2, x2_2, rfl, HA, HK2, HO_1, HO_2, BK1, HB⟩ := hrel; cases gk with
     | zero => exact absurd HA.out (by simp [w9_Rows.l1])
     | succ k1 =>
      have H := HA.out; clear HA; simp only [w9_Rows.l1] at H; by_cases c3 : x2_2 < (l0_1.length : Int)
      ·rw [if_pos c3] at H; have c1b0 := decide_eq_true c3; clear c3; by_cases c4 : x2_2 < (l2.length : Int)
       ·rw [if_pos c4] at H; have c1b0 := decide_eq_true c4; clear c4; by_cases c5 : 0 ≤ x2_2
        ·rw [if_pos c5] at H; have c1b0 := decide_eq_true c5; clear c5; by_cases c6 : 0 ≤ ((rd_T47 l0_1 x2_2).f1)
         ·rw [if_pos c6] at H; have c1b0 := decide_eq_true c6; clear c6; by_cases c7 : ((rd_T47 l0_1 x2_2).f1) < (l0_0.length : Int)
          ·rw [if_pos c7] at H; have c1b0 := decide_eq_true c7; clear c7; replace H := Option.bind_eq_some_iff.mp H; obtain ⟨t1, A3, H⟩ := H; have A4 := aM A3; clear A3; by_cases c8 : x1_2.length < 17592186044416
           ·rw [if_pos c8] at H; have LMc1 := aM c8; clear c8; obtain ⟨y1, hy1⟩ : ∃ y_ : List Int, y_ = (x1_2 ++ [Go.bits .and .i64 (wrap64 (rd l2 x2_2)) t1]) := ⟨_, rfl⟩; replace H : (w9_Rows.l1 k1 l2 x1_1 y1 (wrap64 (x2_2 + 1)) l0_0 l0_1 l0_2 l0_3 l0_4) = some (r1, r2) := by first | (rw [hy1]; with_reducible exact H) | (have H1_ := (Option.bind_some _ _).symm.trans H; rw [hy1]; with_reducible exact H1_) | (have H1_ := (Option.bind_some _ _).symm.trans H; with_reducible exact H1_) | with_reducible exact H | (rw [hy1]; exact H) | exact H
            have Ny1 := aM hy1; clear hy1; have H' := aM H; clear H; obtain ⟨i1_0, i1_1, i1_2, i1_3, i1_4, j1_0, j1_1, j1_2, j1_3, j1_4⟩ := cells5 BK1.out; have p1 : 0 ≤ (x2_2 : Int) := zod; have q1 : x2_2 < (l2.length : Int) := zod; obtain ⟨ad1, e1, hx1_0⟩ := Kd.at_int HR2.out x2_2 p1 q1; cases e1; replace hx1_0 := zx HB hx1_0; replace p1 := eq_true p1; replace q1 := eq_true q1; have p1 : 0 ≤ (x2_2 : Int) := zod; have q1 : x2_2 < (l0_1.length : Int) := zod; obtain ⟨ad1, e1, hx1_0, hx1_1⟩ := at_T47 HR1_1.out x2_2 p1 q1; cases e1; replace hx1_0 := zx HB hx1_0; replace hx1_1 := zx HB hx1_1; replace p1 := eq_true p1; replace q1 := eq_true q1; have p1 : 0 ≤ (((rd_T47 l0_1 x2_2).f1) : Int) := zod; have q1 : ((rd_T47 l0_1 x2_2).f1) < (l0_0.length : Int) := zod; obtain ⟨ad2, e1, hx1_0, hx1_1, hx1_2, hx1_3, hx1_4, hx1_5, hx1_6⟩ := at_T41 HR1_0.out ((rd_T47 l0_1 x2_2).f1) p1 q1; cases e1; replace hx1_0 := zx HB hx1_0; replace hx1_1 := zx HB hx1_1; replace hx1_2 := zx HB hx1_2; replace hx1_3 := zx HB hx1_3; replace hx1_4 := zx HB hx1_4; replace hx1_5 := zx HB hx1_5; replace hx1_6 := zx HB hx1_6; replace p1 := eq_true p1; replace q1 := eq_true q1; go_wp2_with (first | (go_at_call 24; (with_reducible refine (r8_Mask.calls ((rd_T41 l0_0 ((rd_T47 l0_1 x2_2).f1)).f1) t1 _ A4.out).mono ?_); rintro e w' ⟨rfl, ⟨nd, rfl⟩⟩; (try first | exact ⟨rfl, _, World.drewN_drewN _ _ _⟩ | exact ⟨rfl, _, Eq.trans (World.drewN_drewN _ _ _) (congrArg (World.drewN _) (Nat.add_assoc _ _ _))⟩)) | ((with_reducible refine gate_builtin (b := .append) (xs := #[.tmp 76, .tmp 78]) rfl ?_); at_builtin; refine Kd.R_append (Kd.int .i64) (w0 := w) w.heap.size rfl (.tmp 76) (.tmp 78) 32 3 (.int .i64 0) 8 rfl Try.underlying32 info3 rfl (by decide) (by omega) u9 x1_2 (Go.bits .and .i64 (wrap64 (rd l2 x2_2)) t1) [.int .i64 (Go.bits .and .i64 (wrap64 (rd l2 x2_2)) t1)] (fun k_ => some k_ ≠ (u8 : Value).ownBlock) (fun _ => False) rfl rfl ?aP (fun _ hk => hk.elim) ?aF ?aO ?aB ?aS ?aL ?_; (case aP => exact rfl); (case aB => exact q41z HB GE1); (case aF => exact q65z HO_1); (case aO => exact q44z HO_2); (case aS => exact q40z HB GE1); (case aL => have := LMc1.out; omega); intro v1 w1 ho hb hg hat; rw [← Ny1.out] at ho; replace HO_1 := aM (Kd.R_after (ok := (fun _ => True)) (q64z HO_1) hg hat); replace BK1 := aM (blk_grown (g := gb1) (o := .cells #[.slice (some ad2) l0_0.length c0_0, .slice (some ad1) l0_1.length c0_1, .slice A0_2 l0_2.length c0_2, .slice A0_3 l0_3.length c0_3, .slice A0_4 l0_4.length c0_4] 27 (0, 0)) (zi BK1) hg (Kd.R_ne HO_2.out BK1.out (by decide))); replace HB := aM (hb); have HO1 := aM (ho); clear HO_2; clear ho hb hg hat))
            repeat (go_quiet (first | (go_at_call 24; (with_reducible refine (r8_Mask.calls ((rd_T41 l0_0 ((rd_T47 l0_1 x2_2).f1)).f1) t1 _ A4.out).mono ?_); rintro e w' ⟨rfl, ⟨nd, rfl⟩⟩; (try first | exact ⟨rfl, _, World.drewN_drewN _ _ _⟩ | exact ⟨rfl, _, Eq.trans (World.drewN_drewN _ _ _) (congrArg (World.drewN _) (Nat.add_assoc _ _ _))⟩)) | ((with_reducible refine gate_builtin (b := .append) (xs := #[.tmp 76, .tmp 78]) rfl ?_); at_builtin; refine Kd.R_append (Kd.int .i64) (w0 := w) w.heap.size rfl (.tmp 76) (.tmp 78) 32 3 (.int .i64 0) 8 rfl Try.underlying32 info3 rfl (by decide) (by omega) u9 x1_2 (Go.bits .and .i64 (wrap64 (rd l2 x2_2)) t1) [.int .i64 (Go.bits .and .i64 (wrap64 (rd l2 x2_2)) t1)] (fun k_ => some k_ ≠ (u8 : Value).ownBlock) (fun _ => False) rfl rfl ?aP (fun _ hk => hk.elim) ?aF ?aO ?aB ?aS ?aL ?_; (case aP => exact rfl); (case aB => exact q41z HB GE1); (case aF => exact q65z HO_1); (case aO => exact q44z HO_2); (case aS => exact q40z HB GE1); (case aL => have := LMc1.out; omega); intro v1 w1 ho hb hg hat; rw [← Ny1.out] at ho; replace HO_1 := aM (Kd.R_after (ok := (fun _ => True)) (q64z HO_1) hg hat); replace BK1 := aM (blk_grown (g := gb1) (o := .cells #[.slice (some ad2) l0_0.length c0_0, .slice (some ad1) l0_1.length c0_1, .slice A0_2 l0_2.length c0_2, .slice A0_3 l0_3.length c0_3, .slice A0_4 l0_4.length c0_4] 27 (0, 0)) (zi BK1) hg (Kd.R_ne HO_2.out BK1.out (by decide))); replace HB := aM (hb); have HO1 := aM (ho); clear HO_2; clear ho hb hg hat)); try go_wp2_with (first | (go_at_call 24; (with_reducible refine (r8_Mask.calls ((rd_T41 l0_0 ((rd_T47 l0_1 x2_2).f1)).f1) t1 _ A4.out).mono ?_); rintro e w' ⟨rfl, ⟨nd, rfl⟩⟩; (try first | exact ⟨rfl, _, World.drewN_drewN _ _ _⟩ | exact ⟨rfl, _, Eq.trans (World.drewN_drewN _ _ _) (congrArg (World.drewN _) (Nat.add_assoc _ _ _))⟩)) | ((with_reducible refine gate_builtin (b := .append) (xs := #[.tmp 76, .tmp 78]) rfl ?_); at_builtin; refine Kd.R_append (Kd.int .i64) (w0 := w) w.heap.size rfl (.tmp 76) (.tmp 78) 32 3 (.int .i64 0) 8 rfl Try.underlying32 info3 rfl (by decide) (by omega) u9 x1_2 (Go.bits .and .i64 (wrap64 (rd l2 x2_2)) t1) [.int .i64 (Go.bits .and .i64 (wrap64 (rd l2 x2_2)) t1)] (fun k_ => some k_ ≠ (u8 : Value).ownBlock) (fun _ => False) rfl rfl ?aP (fun _ hk => hk.elim) ?aF ?aO ?aB ?aS ?aL ?_; (case aP => exact rfl); (case aB => exact q41z HB GE1); (case aF => exact q65z HO_1); (case aO => exact q44z HO_2); (case aS => exact q40z HB GE1); (case aL => have := LMc1.out; omega); intro v1 w1 ho hb hg hat; rw [← Ny1.out] at ho; replace HO_1 := aM (Kd.R_after (ok := (fun _ => True)) (q64z HO_1) hg hat); replace BK1 := aM (blk_grown (g := gb1) (o := .cells #[.slice (some ad2) l0_0.length c0_0, .slice (some ad1) l0_1.length c0_1, .slice A0_2 l0_2.length c0_2, .slice A0_3 l0_3.length c0_3, .slice A0_4 l0_4.length c0_4] 27 (0, 0)) (zi BK1) hg (Kd.R_ne HO_2.out BK1.out (by decide))); replace HB := aM (hb); have HO1 := aM (ho); clear HO_2; clear ho hb hg hat)))
            go_roundg k1
            case measure => have := HK1.out; have := HK2.out; omega
            case rel => exact ⟨(y1), (wrap64 (x2_2 + 1)), q13z, H', ⟨q87z HK1 HK2⟩, ⟨q75z HO_1⟩, ⟨q2z HO1⟩, ⟨q10z BK1⟩, ⟨q4z HB GE1⟩⟩
           ·rw [if_neg c8] at H; exact absurd H (by simp)
          ·rw [if_neg c7] at H; exact absurd H (by simp)
         ·rw [if_neg c6] at H; exact absurd H (by simp)
        ·rw [if_neg c5] at H; exact absurd H (by simp)
       ·rw [if_neg c4] at H; have c1b0 := decide_eq_false c4; clear c4; by_cases c4 : x1_2.length < 17592186044416
        ·rw [if_pos c4] at H; have LMc1 := aM c4; clear c4; obtain ⟨y1, hy1⟩ : ∃ y_ : List Int, y_ = (x1_2 ++ [0]) := ⟨_, rfl⟩; replace H : (w9_Rows.l1 k1 l2 x1_1 y1 (wrap64 (x2_2 + 1)) l0_0 l0_1 l0_2 l0_3 l0_4) = some (r1, r2) := by first | (rw [hy1]; with_reducible exact H) | (have H1_ := (Option.bind_some _ _).symm.trans H; rw [hy1]; with_reducible exact H1_) | (have H1_ := (Option.bind_some _ _).symm.trans H; with_reducible exact H1_) | with_reducible exact H | (rw [hy1]; exact H) | exact H
         have Ny1 := aM hy1; clear hy1; have H' := aM H; clear H; obtain ⟨i1_0, i1_1, i1_2, i1_3, i1_4, j1_0, j1_1, j1_2, j1_3, j1_4⟩ := cells5 BK1.out; go_wp2_with (first | ((with_reducible refine gate_builtin (b := .append) (xs := #[.tmp 76, .tmp 78]) rfl ?_); at_builtin; refine Kd.R_append (Kd.int .i64) (w0 := w) w.heap.size rfl (.tmp 76) (.tmp 78) 32 3 (.int .i64 0) 8 rfl Try.underlying32 info3 rfl (by decide) (by omega) u9 x1_2 0 [.int .i64 0] (fun k_ => some k_ ≠ (u8 : Value).ownBlock) (fun _ => False) rfl rfl ?aP (fun _ hk => hk.elim) ?aF ?aO ?aB ?aS ?aL ?_; (case aP => exact rfl); (case aB => exact q41z HB GE1); (case aF => exact q65z HO_1); (case aO => exact q44z HO_2); (case aS => exact q40z HB GE1); (case aL => have := LMc1.out; omega); intro v1 w1 ho hb hg hat; rw [← Ny1.out] at ho; replace HO_1 := aM (Kd.R_after (ok := (fun _ => True)) (q64z HO_1) hg hat); replace BK1 := aM (blk_grown (g := gb1) (o := .cells #[.slice A0_0 l0_0.length c0_0, .slice A0_1 l0_1.length c0_1, .slice A0_2 l0_2.length c0_2, .slice A0_3 l0_3.length c0_3, .slice A0_4 l0_4.length c0_4] 27 (0, 0)) (zi BK1) hg (Kd.R_ne HO_2.out BK1.out (by decide))); replace HB := aM (hb); have HO1 := aM (ho); clear HO_2; clear ho hb hg hat))
         repeat (go_quiet (first | ((with_reducible refine gate_builtin (b := .append) (xs := #[.tmp 76, .tmp 78]) rfl ?_); at_builtin; refine Kd.R_append (Kd.int .i64) (w0 := w) w.heap.size rfl (.tmp 76) (.tmp 78) 32 3 (.int .i64 0) 8 rfl Try.underlying32 info3 rfl (by decide) (by omega) u9 x1_2 0 [.int .i64 0] (fun k_ => some k_ ≠ (u8 : Value).ownBlock) (fun _ => False) rfl rfl ?aP (fun _ hk => hk.elim) ?aF ?aO ?aB ?aS ?aL ?_; (case aP => exact rfl); (case aB => exact q41z HB GE1); (case aF => exact q65z HO_1); (case aO => exact q44z HO_2); (case aS => exact q40z HB GE1); (case aL => have := LMc1.out; omega); intro v1 w1 ho hb hg hat; rw [← Ny1.out] at ho; replace HO_1 := aM (Kd.R_after (ok := (fun _ => True)) (q64z HO_1) hg hat); replace BK1 := aM (blk_grown (g := gb1) (o := .cells #[.slice A0_0 l0_0.length c0_0, .slice A0_1 l0_1.length c0_1, .slice A0_2 l0_2.length c0_2, .slice A0_3 l0_3.length c0_3, .slice A0_4 l0_4.length c0_4] 27 (0, 0)) (zi BK1) hg (Kd.R_ne HO_2.out BK1.out (by decide))); replace HB := aM (hb); have HO1 := aM (ho); clear HO_2; clear ho hb hg hat)); try go_wp2_with (first | ((with_reducible refine gate_builtin (b := .append) (xs := #[.tmp 76, .tmp 78]) rfl ?_); at_builtin; refine Kd.R_append (Kd.int .i64) (w0 := w) w.heap.size rfl (.tmp 76) (.tmp 78) 32 3 (.int .i64 0) 8 rfl Try.underlying32 info3 rfl (by decide) (by omega) u9 x1_2 0 [.int .i64 0] (fun k_ => some k_ ≠ (u8 : Value).ownBlock) (fun _ => False) rfl rfl ?aP (fun _ hk => hk.elim) ?aF ?aO ?aB ?aS ?aL ?_; (case aP => exact rfl); (case aB => exact q41z HB GE1); (case aF => exact q65z HO_1); (case aO => exact q44z HO_2); (case aS => exact q40z HB GE1); (case aL => have := LMc1.out; omega); intro v1 w1 ho hb hg hat; rw [← Ny1.out] at ho; replace HO_1 := aM (Kd.R_after (ok := (fun _ => True)) (q64z HO_1) hg hat); replace BK1 := aM (blk_grown (g := gb1) (o := .cells #[.slice A0_0 l0_0.length c0_0, .slice A0_1 l0_1.length c0_1, .slice A0_2 l0_2.length c0_2, .slice A0_3 l0_3.length c0_3, .slice A0_4 l0_4.length c0_4] 27 (0, 0)) (zi BK1) hg (Kd.R_ne HO_2.out BK1.out (by decide))); replace HB := aM (hb); have HO1 := aM (ho); clear HO_2; clear ho hb hg hat)))
         go_roundg k1
         case measure => have := HK1.out; have := HK2.out; omega
         case rel => exact ⟨(y1), (wrap64 (x2_2 + 1)), q13z, H', ⟨q87z HK1 HK2⟩, ⟨q75z HO_1⟩, ⟨q2z HO1⟩, ⟨q10z BK1⟩, ⟨q4z HB GE1⟩⟩
        ·rw [if_neg c4] at H; exact absurd H (by simp)
      ·rw [if_neg c3] at H; have c1b0 := decide_eq_false c3; clear c3; simp only [Option.some.injEq, Prod.mk.injEq] at H; obtain ⟨rfl, rfl⟩ := H; obtain ⟨i1_0, i1_1, i1_2, i1_3, i1_4, j1_0, j1_1, j1_2, j1_3, j1_4⟩ := cells5 BK1.out; go_wp2
       repeat (go_quiet (fail); try go_wp2)
       go_ret2
       exact ⟨_, _, q11z, q2z HO_1, q2z HO_2, q4z HB GE1⟩
end Go.Proofs.Yteblbknmikieoaa.Xb
