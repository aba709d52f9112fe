/- Slimmed by this session: what nothing names is struck out. -/
import Derived.Test.YteblbknmikieoaaXb0
import Derived.Test.YteblbknmikieoaaXbZ
import Derived.Test.YteblbknmikieoaaXbK1
namespace Go.Proofs.Yteblbknmikieoaa.Xb
open Go.RowKit Go.Proofs.YteblbknmikieoaaW.PrintWords Go.Proofs.YteblbknmikieoaaW.PrintLast Go.Proofs.YteblbknmikieoaaW.PrintMore
set_option maxHeartbeats 8000000
set_option maxRecDepth 100000
set_option linter.unusedVariables false
set_option linter.unusedSimpArgs false
attribute [local go_sem] max2_int min2_int max_two min_two max_three min_three max_four min_four
def w9_Great.f (l0_0 : List (S41)) (l0_1 : List (S47)) (l0_2 : List (S43)) (l0_3 : List (S61)) (l0_4 : List (S47)) : Option (Bool) := if (l0_0.length : Int) > 300 then (some true) else (if (l0_1.length : Int) > 100 then (some true) else (if (l0_2.length : Int) > 300 then (some true) else (if (l0_3.length : Int) > 40 then (some true) else (some (decide ((l0_4.length : Int) > 300))))))
theorem z66_1 {P : Prop} (h : P := by
 clear c1; obtain rfl := Option.some.inj H; go_enter Try.func11, Try.ntmps11
 go_wp2_with (first | ((with_reducible refine gate_dst (N := 1) rfl ?_); (try (refine gate_guard (by rfl) ?_; dsimp only)); refine box_event ?hg (N := 1) ?hd (cs := #[.slice A0_0 l0_0.length c0_0, .slice A0_1 l0_1.length c0_1, .slice A0_2 l0_2.length c0_2, .slice A0_3 l0_3.length c0_3, .slice A0_4 l0_4.length c0_4]) (t := 27) ?hr ?_; (case hd => rfl); (case hg => rfl); (case hr => exact q30z); intro gb1 hg w1 hbox hb; have BK1 := aM (hbox); have GW1 := aM ((q7z HB : w.heap.size ≤ gb1)); have GE1 := aM ((q7z HB : w.heap.size ≤ gb1)); replace HB := aM (ym (q5z HB) hb); clear hb hbox hg; obtain ⟨i1_0, i1_1, i1_2, i1_3, i1_4, j1_0, j1_1, j1_2, j1_3, j1_4⟩ := cells5 BK1.out))
 go_ret
 exact ⟨q11z, q4z HB GE1⟩) : P := h
theorem w9_Great.calls (A0_0 : Option Addr) (c0_0 : Nat) (l0_0 : List (S41)) (A0_1 : Option Addr) (c0_1 : Nat) (l0_1 : List (S47)) (A0_2 : Option Addr) (c0_2 : Nat) (l0_2 : List (S43)) (A0_3 : Option Addr) (c0_3 : Nat) (l0_3 : List (S61)) (A0_4 : Option Addr) (c0_4 : Nat) (l0_4 : List (S47)) (r : Bool) (w : World) (hr0_0 : Kd.C k41 w A0_0 l0_0.length l0_0) (hc0_0 : l0_0.length ≤ c0_0) (hr0_1 : Kd.C k47 w A0_1 l0_1.length l0_1) (hc0_1 : l0_1.length ≤ c0_1) (hr0_2 : Kd.C k43 w A0_2 l0_2.length l0_2) (hc0_2 : l0_2.length ≤ c0_2) (hr0_3 : Kd.C k61 w A0_3 l0_3.length l0_3) (hc0_3 : l0_3.length ≤ c0_3) (hr0_4 : Kd.C k47 w A0_4 l0_4.length l0_4) (hc0_4 : l0_4.length ≤ c0_4) (h : w9_Great.f l0_0 l0_1 l0_2 l0_3 l0_4 = some r) :
  Calls Try.prog 11 #[.agg #[.slice A0_0 l0_0.length c0_0, .slice A0_1 l0_1.length c0_1, .slice A0_2 l0_2.length c0_2, .slice A0_3 l0_3.length c0_3, .slice A0_4 l0_4.length c0_4]] w fun e w' => e = .returned (.bool r) ∧ Below w.heap.size w w' := by
 have hu1 := Try.underlying27; have HR1_0 := aM hr0_0; have HC1_0 := aM hc0_0; clear hr0_0 hc0_0; have HR1_1 := aM hr0_1; have HC1_1 := aM hc0_1; clear hr0_1 hc0_1; have HR1_2 := aM hr0_2; have HC1_2 := aM hc0_2; clear hr0_2 hc0_2; have HR1_3 := aM hr0_3; have HC1_3 := aM hc0_3; clear hr0_3 hc0_3; have HR1_4 := aM hr0_4; have HC1_4 := aM hc0_4; clear hr0_4 hc0_4; have HB := aM (Below.refl w.heap.size w); have H : (if (l0_0.length : Int) > 300 then (some true) else (if (l0_1.length : Int) > 100 then (some true) else (if (l0_2.length : Int) > 300 then (some true) else (if (l0_3.length : Int) > 40 then (some true) else (some (decide ((l0_4.length : Int) > 300))))))) = some r := h; clear h; by_cases c1 : (l0_0.length : Int) > 300
 ·rw [if_pos c1] at H; have c1b0 : decide (300 < (l0_0.length : Int)) = true := decide_eq_true c1; have c1b1 : decide (300 < l0_0.length) = true := decide_eq_true (by omega); exact z66_1
 ·rw [if_neg c1] at H; have c1b0 : decide (300 < (l0_0.length : Int)) = false := decide_eq_false c1; have c1b1 : decide (300 < l0_0.length) = false := decide_eq_false (by omega); clear c1; by_cases c1 : (l0_1.length : Int) > 100
  ·rw [if_pos c1] at H; have c1b0 : decide (100 < (l0_1.length : Int)) = true := decide_eq_true c1; have c1b1 : decide (100 < l0_1.length) = true := decide_eq_true (by omega); exact z66_1
  ·rw [if_neg c1] at H; have c1b0 : decide (100 < (l0_1.length : Int)) = false := decide_eq_false c1; have c1b1 : decide (100 < l0_1.length) = false := decide_eq_false (by omega); clear c1; by_cases c1 : (l0_2.length : Int) > 300
   ·rw [if_pos c1] at H; have c1b0 : decide (300 < (l0_2.length : Int)) = true := decide_eq_true c1; have c1b1 : decide (300 < l0_2.length) = true := decide_eq_true (by omega); exact z66_1
   ·rw [if_neg c1] at H; have c1b0 : decide (300 < (l0_2.length : Int)) = false := decide_eq_false c1; have c1b1 : decide (300 < l0_2.length) = false := decide_eq_false (by omega); clear c1; by_cases c1 : (l0_3.length : Int) > 40
    ·rw [if_pos c1] at H; have c1b0 : decide (40 < (l0_3.length : Int)) = true := decide_eq_true c1; have c1b1 : decide (40 < l0_3.length) = true := decide_eq_true (by omega); exact z66_1
    ·rw [if_neg c1] at H; have c1b0 : decide (40 < (l0_3.length : Int)) = false := decide_eq_false c1; have c1b1 : decide (40 < l0_3.length) = false := decide_eq_false (by omega); exact z66_1
def r8_Mask.f (a0 : Int) : Option (Int) := if 0 ≤ a0 then (some (wrap64 ((shl .i64 1 a0) - 1))) else (none)
theorem r8_Mask.calls (a0 : Int) (r : Int) (w : World) (h : r8_Mask.f a0 = some r) :
  Calls Try.prog 24 #[.int .i64 a0] w fun e w' => e = .returned (.int .i64 r) ∧ Drawn0 w w' := by
 have H : (if 0 ≤ a0 then (some (wrap64 ((shl .i64 1 a0) - 1))) else (none)) = some r := h; clear h; by_cases c1 : 0 ≤ a0
 ·rw [if_pos c1] at H; have c1b0 := eq_true c1; have c1b1 : decide (0 ≤ a0) = true := decide_eq_true c1; clear c1; obtain ⟨ji1, hji1⟩ : ∃ j_ : Int, (shl .i64 1 a0) = j_ := ⟨_, rfl⟩; replace H : (some (wrap64 ((ji1) - 1))) = some r := by first | (rw [hji1] at H; exact H) | (simp only [hji1] at H ⊢; exact H)
  have hji1_ : (IntKind.i64.wrap (1 * 2 ^ min a0.toNat 64)) = ji1 := hji1; have hji1z : a0 ≤ 64 → (IntKind.i64.wrap (1 * 2 ^ a0.toNat)) = ji1 := shl_small hji1; have hji1u : (IntKind.i64.wrap (2 ^ min a0.toNat 64)) = ji1 := by have h_ := hji1_; rw [Int.one_mul] at h_; exact h_
  have hji1v : a0 ≤ 64 → (IntKind.i64.wrap (2 ^ a0.toNat)) = ji1 := fun hle_ => by have h_ := hji1z hle_; rw [Int.one_mul] at h_; exact h_
  have hji1y : (wrap64 (1 * 2 ^ min a0.toNat 64)) = ji1 := (i64_w _).symm.trans hji1_; have hji1x : a0 ≤ 64 → (wrap64 (1 * 2 ^ a0.toNat)) = ji1 := fun h_ => (i64_w _).symm.trans (hji1z h_)
  obtain rfl := Option.some.inj H; go_enter Try.func24, Try.ntmps24
  go_wp2
  go_ret
  exact ⟨q86z, q21z⟩
 ·rw [if_neg c1] at H; exact absurd H (by simp)
mutual
def r9_operands.j0 : Nat → Int → Bool → Option (Int)
 | 0, _, _ => none
 | k + 1, x3, x4 => if x4 = true then (some 0) else (if x3 = 3 then (r9_operands.j1 k x3 (x3 == 3)) else (if x3 = 4 then (r9_operands.j1 k x3 (x3 == 4)) else (if x3 = 5 then (r9_operands.j1 k x3 (x3 == 5)) else (r9_operands.j1 k x3 (x3 == 18)))))
def r9_operands.j1 : Nat → Int → Bool → Option (Int)
 | 0, _, _ => none
 | k + 1, x3, x8 => if x8 = true then (some 1) else (if x3 = 6 then (r9_operands.j2 k x3 (x3 == 6)) else (if x3 = 7 then (r9_operands.j2 k x3 (x3 == 7)) else (if x3 = 8 then (r9_operands.j2 k x3 (x3 == 8)) else (if x3 = 9 then (r9_operands.j2 k x3 (x3 == 9)) else (if x3 = 10 then (r9_operands.j2 k x3 (x3 == 10)) else (if x3 = 11 then (r9_operands.j2 k x3 (x3 == 11)) else (if x3 = 12 then (r9_operands.j2 k x3 (x3 == 12)) else (if x3 = 13 then (r9_operands.j2 k x3 (x3 == 13)) else (if x3 = 14 then (r9_operands.j2 k x3 (x3 == 14)) else (if x3 = 15 then (r9_operands.j2 k x3 (x3 == 15)) else (r9_operands.j2 k x3 (x3 == 17))))))))))))
def r9_operands.j2 : Nat → Int → Bool → Option (Int)
 | 0, _, _ => none
 | k + 1, x3, x13 => if x13 = true then (some 2) else (if x3 = 16 then (some 3) else (some (-1)))
end
def r9_operands.f (k : Nat) (a0 : Int) : Option (Int) := if a0 = 1 then (r9_operands.j0 k a0 (a0 == 1)) else (if a0 = 21 then (r9_operands.j0 k a0 (a0 == 21)) else (r9_operands.j0 k a0 (a0 == 22)))
theorem r9_operands.mono_l : ∀ k, (∀ y0 y1, LeO (r9_operands.j0 k y0 y1) (r9_operands.j0 (k + 1) y0 y1)) ∧ (∀ y0 y1, LeO (r9_operands.j1 k y0 y1) (r9_operands.j1 (k + 1) y0 y1)) ∧ (∀ y0 y1, LeO (r9_operands.j2 k y0 y1) (r9_operands.j2 (k + 1) y0 y1))
 | 0 => ⟨fun _ _ r h => by simp [r9_operands.j0] at h, fun _ _ r h => by simp [r9_operands.j1] at h, fun _ _ r h => by simp [r9_operands.j2] at h⟩
 | k + 1 => by
  obtain ⟨ih0, ih1, ih2⟩ := r9_operands.mono_l k; refine ⟨?_, ?_, ?_⟩ <;> intros <;> (first | unfold r9_operands.j0 | unfold r9_operands.j1 | unfold r9_operands.j2) <;> repeat' first | (with_reducible first | apply ih0 | apply ih1 | apply ih2 | exact LeO.refl _ | exact LeO.none _ | refine LeO.ite ?_ ?_ | refine LeO.bind ?_ (fun _ => ?_)) | exact LeO.none _ | refine LeO.ite ?_ ?_ | refine LeO.bind ?_ (fun _ => ?_)
theorem r9_operands.mono : ∀ a0 k, LeO (r9_operands.f k a0) (r9_operands.f (k + 1) a0) := by
 intro a0 k
 obtain ⟨ih1, ih2, ih3⟩ := r9_operands.mono_l k; unfold r9_operands.f
 repeat' first | (with_reducible first | apply ih1 | apply ih2 | apply ih3 | exact LeO.refl _ | exact LeO.none _ | refine LeO.ite ?_ ?_ | refine LeO.bind ?_ (fun _ => ?_)) | exact LeO.none _ | refine LeO.ite ?_ ?_ | refine LeO.bind ?_ (fun _ => ?_)
theorem z68_1 {P : Prop} (h : P := by
 clear H; have H := H1; clear H1; obtain rfl := Option.some.inj H; go_wp2
 go_ret
 exact ⟨q13z, q21z⟩) : P := h
theorem r9_operands.calls (k : Nat) (a0 : Int) (r : Int) (w : World) (h : r9_operands.f k a0 = some r) :
  Calls Try.prog 51 #[.int .i64 a0] w fun e w' => e = .returned (.int .i64 r) ∧ Drawn0 w w' := by
 have H : (if a0 = 1 then (r9_operands.j0 k a0 (a0 == 1)) else (if a0 = 21 then (r9_operands.j0 k a0 (a0 == 21)) else (r9_operands.j0 k a0 (a0 == 22)))) = some r := h; clear h; have HC1 := aM H; clear H; go_enter Try.func51, Try.ntmps51
 go_upto_if 4 with (fail)
 go_cut [4] (fun v1 wc => ∃ (kq : Nat) (x1_1 : Bool), v1 = .bool x1_1 ∧ Aside0 (r9_operands.j0 kq a0 x1_1 = some r) ∧ Aside0 (kq ≤ k) ∧ Drawn0 w wc)
 case first =>
  have H := HC1.out; clear HC1; by_cases c3 : a0 = 1
  ·rw [if_pos c3] at H; obtain ⟨c1b0, c1b1⟩ := zeq c3; clear c3; (first | rw [c1b0] | (simp only [i64_w, i32_w]; rw [c1b0]) | skip)
   have H' := aM H; clear H; go_wp2
   go_meet
   case rel => exact ⟨_, ((a0 == 1)), q13z, H', ⟨q52z⟩, q21z⟩
  ·rw [if_neg c3] at H; obtain ⟨c1b0, c1b1⟩ := zne c3; (first | rw [c1b0] | (simp only [i64_w, i32_w]; rw [c1b0]) | skip)
   by_cases c3 : a0 = 21
   ·rw [if_pos c3] at H; obtain ⟨c1b0, c1b1⟩ := zeq c3; clear c3; have H' := aM H; clear H; go_wp2
    go_meet
    case rel => exact ⟨_, ((a0 == 21)), q13z, H', ⟨q52z⟩, q21z⟩
   ·rw [if_neg c3] at H; obtain ⟨c1b0, c1b1⟩ := zne c3; have H' := aM H; clear H; go_wp2
    go_meet
    case rel => exact ⟨_, ((a0 == 22)), q13z, H', ⟨q52z⟩, q21z⟩
 case rest =>
  clear HC1; try clear p2
  try clear c3
  try clear c1b0
  try clear c1b1
  try clear c4
  try clear c2b0
  try clear c2b1
  obtain ⟨kq, x1_1, rfl, HA, HJ1, ⟨mc1, rfl⟩⟩ := hcut; cases kq with
  | zero => exact absurd HA.out (by simp [r9_operands.j0])
  | succ kj1 =>
   have H := HA.out; clear HA; simp only [r9_operands.j0] at H; by_cases c5 : x1_1 = true
   ·subst c5; have H1 : (some 0) = some r := by rw [if_pos rfl] at H; exact H
    exact z68_1
   ·replace c5 := Bool.eq_false_iff.mpr c5; subst c5; have H1 : (if a0 = 3 then (r9_operands.j1 kj1 a0 (a0 == 3)) else (if a0 = 4 then (r9_operands.j1 kj1 a0 (a0 == 4)) else (if a0 = 5 then (r9_operands.j1 kj1 a0 (a0 == 5)) else (r9_operands.j1 kj1 a0 (a0 == 18))))) = some r := by rw [if_neg (show ¬ (false = true) by decide)] at H; exact H
    clear H; have H := H1; clear H1; have HC1 := aM H; clear H; go_upto_if 8 with (fail)
    go_cut [8] (fun v1 wc => ∃ (kq : Nat) (x1_5 : Bool), v1 = .bool x1_5 ∧ Aside0 (r9_operands.j1 kq a0 x1_5 = some r) ∧ Aside0 (kq ≤ kj1) ∧ Drawn0 w wc)
    case first =>
     have H := HC1.out; clear HC1; by_cases c6 : a0 = 3
     ·rw [if_pos c6] at H; obtain ⟨c3b0, c3b1⟩ := zeq c6; clear c6; (first | rw [c3b0] | (simp only [i64_w, i32_w]; rw [c3b0]) | skip)
      have H' := aM H; clear H; go_wp2
      go_meet
      case rel => exact ⟨_, ((a0 == 3)), q13z, H', ⟨q55z HJ1⟩, q21z⟩
     ·rw [if_neg c6] at H; obtain ⟨c3b0, c3b1⟩ := zne c6; (first | rw [c3b0] | (simp only [i64_w, i32_w]; rw [c3b0]) | skip)
      by_cases c6 : a0 = 4
      ·rw [if_pos c6] at H; obtain ⟨c3b0, c3b1⟩ := zeq c6; clear c6; have H' := aM H; clear H; go_wp2
       go_meet
       case rel => exact ⟨_, ((a0 == 4)), q13z, H', ⟨q55z HJ1⟩, q21z⟩
      ·rw [if_neg c6] at H; obtain ⟨c3b0, c3b1⟩ := zne c6; by_cases c6 : a0 = 5
       ·rw [if_pos c6] at H; obtain ⟨c3b0, c3b1⟩ := zeq c6; clear c6; have H' := aM H; clear H; go_wp2
        go_meet
        case rel => exact ⟨_, ((a0 == 5)), q13z, H', ⟨q55z HJ1⟩, q21z⟩
       ·rw [if_neg c6] at H; obtain ⟨c3b0, c3b1⟩ := zne c6; have H' := aM H; clear H; go_wp2
        go_meet
        case rel => exact ⟨_, ((a0 == 18)), q13z, H', ⟨q55z HJ1⟩, q21z⟩
    case rest =>
     clear HC1; try clear c1
     try clear p2
     try clear c3
     try clear c1b0
     try clear c1b1
     try clear c4
     try clear c2b0
     try clear c2b1
     try clear c5
     try clear c6
     try clear c3b0
     try clear c3b1
     try clear c7
     try clear c4b0
     try clear c4b1
     try clear c8
     try clear c5b0
     try clear c5b1
     try clear p2
     obtain ⟨kq, x1_5, rfl, HA, HJ2, ⟨mc1, rfl⟩⟩ := hcut; cases kq with
     | zero => exact absurd HA.out (by simp [r9_operands.j1])
     | succ kj1 =>
      have H := HA.out; clear HA; simp only [r9_operands.j1] at H; by_cases c9 : x1_5 = true
      ·subst c9; have H1 : (some 1) = some r := by rw [if_pos rfl] at H; exact H
       exact z68_1
      ·replace c9 := Bool.eq_false_iff.mpr c9; subst c9; have H1 : (if a0 = 6 then (r9_operands.j2 kj1 a0 (a0 == 6)) else (if a0 = 7 then (r9_operands.j2 kj1 a0 (a0 == 7)) else (if a0 = 8 then (r9_operands.j2 kj1 a0 (a0 == 8)) else (if a0 = 9 then (r9_operands.j2 kj1 a0 (a0 == 9)) else (if a0 = 10 then (r9_operands.j2 kj1 a0 (a0 == 10)) else (if a0 = 11 then (r9_operands.j2 kj1 a0 (a0 == 11)) else (if a0 = 12 then (r9_operands.j2 kj1 a0 (a0 == 12)) else (if a0 = 13 then (r9_operands.j2 kj1 a0 (a0 == 13)) else (if a0 = 14 then (r9_operands.j2 kj1 a0 (a0 == 14)) else (if a0 = 15 then (r9_operands.j2 kj1 a0 (a0 == 15)) else (r9_operands.j2 kj1 a0 (a0 == 17)))))))))))) = some r := by rw [if_neg (show ¬ (false = true) by decide)] at H; exact H
       clear H; have H := H1; clear H1; have HC1 := aM H; clear H; go_upto_if 13 with (fail)
       go_cut [13] (fun v1 wc => ∃ (kq : Nat) (x1_10 : Bool), v1 = .bool x1_10 ∧ Aside0 (r9_operands.j2 kq a0 x1_10 = some r) ∧ Aside0 (kq ≤ kj1) ∧ Drawn0 w wc)
       case first =>
        have H := HC1.out; clear HC1; by_cases c10 : a0 = 6
        ·rw [if_pos c10] at H; obtain ⟨c6b0, c6b1⟩ := zeq c10; clear c10; (first | rw [c6b0] | (simp only [i64_w, i32_w]; rw [c6b0]) | skip)
         have H' := aM H; clear H; go_wp2
         go_meet
         case rel => exact ⟨_, ((a0 == 6)), q13z, H', ⟨q71z HJ1 HJ2⟩, q21z⟩
        ·rw [if_neg c10] at H; obtain ⟨c6b0, c6b1⟩ := zne c10; (first | rw [c6b0] | (simp only [i64_w, i32_w]; rw [c6b0]) | skip)
         by_cases c10 : a0 = 7
         ·rw [if_pos c10] at H; obtain ⟨c6b0, c6b1⟩ := zeq c10; clear c10; have H' := aM H; clear H; go_wp2
          go_meet
          case rel => exact ⟨_, ((a0 == 7)), q13z, H', ⟨q71z HJ1 HJ2⟩, q21z⟩
         ·rw [if_neg c10] at H; obtain ⟨c6b0, c6b1⟩ := zne c10; by_cases c10 : a0 = 8
          ·rw [if_pos c10] at H; obtain ⟨c6b0, c6b1⟩ := zeq c10; clear c10; have H' := aM H; clear H; go_wp2
           go_meet
           case rel => exact ⟨_, ((a0 == 8)), q13z, H', ⟨q71z HJ1 HJ2⟩, q21z⟩
          ·rw [if_neg c10] at H; obtain ⟨c6b0, c6b1⟩ := zne c10; by_cases c10 : a0 = 9
           ·rw [if_pos c10] at H; obtain ⟨c6b0, c6b1⟩ := zeq c10; clear c10; have H' := aM H; clear H; go_wp2
            go_meet
            case rel => exact ⟨_, ((a0 == 9)), q13z, H', ⟨q71z HJ1 HJ2⟩, q21z⟩
           ·rw [if_neg c10] at H; obtain ⟨c6b0, c6b1⟩ := zne c10; by_cases c10 : a0 = 10
            ·rw [if_pos c10] at H; obtain ⟨c6b0, c6b1⟩ := zeq c10; clear c10; have H' := aM H; clear H; go_wp2
             go_meet
             case rel => exact ⟨_, ((a0 == 10)), q13z, H', ⟨q71z HJ1 HJ2⟩, q21z⟩
            ·rw [if_neg c10] at H; obtain ⟨c6b0, c6b1⟩ := zne c10; by_cases c10 : a0 = 11
             ·rw [if_pos c10] at H; obtain ⟨c6b0, c6b1⟩ := zeq c10; clear c10; have H' := aM H; clear H; go_wp2
              go_meet
              case rel => exact ⟨_, ((a0 == 11)), q13z, H', ⟨q71z HJ1 HJ2⟩, q21z⟩
             ·rw [if_neg c10] at H; obtain ⟨c6b0, c6b1⟩ := zne c10; by_cases c10 : a0 = 12
              ·rw [if_pos c10] at H; obtain ⟨c6b0, c6b1⟩ := zeq c10; clear c10; have H' := aM H; clear H; go_wp2
               go_meet
               case rel => exact ⟨_, ((a0 == 12)), q13z, H', ⟨q71z HJ1 HJ2⟩, q21z⟩
              ·rw [if_neg c10] at H; obtain ⟨c6b0, c6b1⟩ := zne c10; by_cases c10 : a0 = 13
               ·rw [if_pos c10] at H; obtain ⟨c6b0, c6b1⟩ := zeq c10; clear c10; have H' := aM H; clear H; go_wp2
                go_meet
                case rel => exact ⟨_, ((a0 == 13)), q13z, H', ⟨q71z HJ1 HJ2⟩, q21z⟩
               ·rw [if_neg c10] at H; obtain ⟨c6b0, c6b1⟩ := zne c10; by_cases c10 : a0 = 14
                ·rw [if_pos c10] at H; obtain ⟨c6b0, c6b1⟩ := zeq c10; clear c10; have H' := aM H; clear H; go_wp2
                 go_meet
                 case rel => exact ⟨_, ((a0 == 14)), q13z, H', ⟨q71z HJ1 HJ2⟩, q21z⟩
                ·rw [if_neg c10] at H; obtain ⟨c6b0, c6b1⟩ := zne c10; by_cases c10 : a0 = 15
                 ·rw [if_pos c10] at H; obtain ⟨c6b0, c6b1⟩ := zeq c10; clear c10; have H' := aM H; clear H; go_wp2
                  go_meet
                  case rel => exact ⟨_, ((a0 == 15)), q13z, H', ⟨q71z HJ1 HJ2⟩, q21z⟩
                 ·rw [if_neg c10] at H; obtain ⟨c6b0, c6b1⟩ := zne c10; have H' := aM H; clear H; go_wp2
                  go_meet
                  case rel => exact ⟨_, ((a0 == 17)), q13z, H', ⟨q71z HJ1 HJ2⟩, q21z⟩
       case rest =>
        clear HC1; try clear c1
        try clear c2
        try clear p2
        try clear c3
        try clear c1b0
        try clear c1b1
        try clear c4
        try clear c2b0
        try clear c2b1
        try clear c5
        try clear c6
        try clear c3b0
        try clear c3b1
        try clear c7
        try clear c4b0
        try clear c4b1
        try clear c8
        try clear c5b0
        try clear c5b1
        try clear c9
        try clear c3
        try clear c1b0
        try clear c1b1
        try clear c3
        try clear c1b0
        try clear c1b1
        try clear c3
        try clear c1b0
        try clear c1b1
        try clear c3
        try clear c1b0
        try clear c1b1
        try clear c3
        try clear c1b0
        try clear c1b1
        try clear c3
        try clear c1b0
        try clear c1b1
        try clear c3
        try clear c1b0
        try clear c1b1
        try clear c3
        try clear c1b0
        try clear c1b1
        try clear c3
        try clear c1b0
        try clear c1b1
        try clear c3
        try clear c1b0
        try clear c1b1
        try clear p2
        obtain ⟨kq, x1_10, rfl, HA, HJ1, ⟨mc1, rfl⟩⟩ := hcut; cases kq with
        | zero => exact absurd HA.out (by simp [r9_operands.j2])
        | succ kj1 =>
         have H := HA.out; clear HA; simp only [r9_operands.j2] at H; by_cases c3 : x1_10 = true
         ·subst c3; have H1 : (some 2) = some r := by rw [if_pos rfl] at H; exact H
          exact z68_1
         ·replace c3 := Bool.eq_false_iff.mpr c3; subst c3; have H1 : (if a0 = 16 then (some 3) else (some (-1))) = some r := by rw [if_neg (show ¬ (false = true) by decide)] at H; exact H
          clear H; have H := H1; clear H1; by_cases c3 : a0 = 16
          ·rw [if_pos c3] at H; obtain ⟨c1b0, c1b1⟩ := zeq c3; clear c3; obtain rfl := Option.some.inj H; go_wp2
           go_ret
           exact ⟨q13z, q21z⟩
          ·rw [if_neg c3] at H; obtain ⟨c1b0, c1b1⟩ := zne c3; obtain rfl := Option.some.inj H; go_wp2
           go_ret
           exact ⟨q13z, q21z⟩
def r9_wide.f (l0_0 : List (S41)) (l0_1 : List (S47)) (l0_2 : List (S43)) (l0_3 : List (S61)) (l0_4 : List (S47)) (a1 : Int) (a2 : Int) : Option (Int) := if a1 < 0 then (some 0) else (if a1 ≥ a2 then (some 0) else (if 0 ≤ a1 then (if a1 < (l0_0.length : Int) then (some ((rd_T41 l0_0 a1).f1)) else (none)) else (none)))
theorem z69_1 {P : Prop} (h : P := by
 clear c1; obtain rfl := Option.some.inj H; go_enter Try.func53, Try.ntmps53
 go_wp2_with (first | ((with_reducible refine zgd 3 rfl ?_); refine zbox 3 #[.slice A0_0 l0_0.length c0_0, .slice A0_1 l0_1.length c0_1, .slice A0_2 l0_2.length c0_2, .slice A0_3 l0_3.length c0_3, .slice A0_4 l0_4.length c0_4] 27 ?_; intro gb1 hg w1 hbox hb; have BK1 := aM (hbox); have GW1 := aM ((q7z HB : w.heap.size ≤ gb1)); have GE1 := aM ((q7z HB : w.heap.size ≤ gb1)); replace HB := aM (ym (q5z HB) hb); clear hb hbox hg))
 go_ret
 exact ⟨q11z, q4z HB GE1⟩) : P := h
theorem r9_wide.calls (A0_0 : Option Addr) (c0_0 : Nat) (l0_0 : List (S41)) (A0_1 : Option Addr) (c0_1 : Nat) (l0_1 : List (S47)) (A0_2 : Option Addr) (c0_2 : Nat) (l0_2 : List (S43)) (A0_3 : Option Addr) (c0_3 : Nat) (l0_3 : List (S61)) (A0_4 : Option Addr) (c0_4 : Nat) (l0_4 : List (S47)) (a1 : Int) (a2 : Int) (r : Int) (w : World) (hr0_0 : Kd.C k41 w A0_0 l0_0.length l0_0) (hc0_0 : l0_0.length ≤ c0_0) (hr0_1 : Kd.C k47 w A0_1 l0_1.length l0_1) (hc0_1 : l0_1.length ≤ c0_1) (hr0_2 : Kd.C k43 w A0_2 l0_2.length l0_2) (hc0_2 : l0_2.length ≤ c0_2) (hr0_3 : Kd.C k61 w A0_3 l0_3.length l0_3) (hc0_3 : l0_3.length ≤ c0_3) (hr0_4 : Kd.C k47 w A0_4 l0_4.length l0_4) (hc0_4 : l0_4.length ≤ c0_4) (h : r9_wide.f l0_0 l0_1 l0_2 l0_3 l0_4 a1 a2 = some r) :
  Calls Try.prog 53 #[.agg #[.slice A0_0 l0_0.length c0_0, .slice A0_1 l0_1.length c0_1, .slice A0_2 l0_2.length c0_2, .slice A0_3 l0_3.length c0_3, .slice A0_4 l0_4.length c0_4], .int .i64 a1, .int .i64 a2] w fun e w' => e = .returned (.int .i64 r) ∧ Below w.heap.size w w' := by
 have hu1 := Try.underlying27; have HR1_0 := aM hr0_0; have HC1_0 := aM hc0_0; clear hr0_0 hc0_0; have HR1_1 := aM hr0_1; have HC1_1 := aM hc0_1; clear hr0_1 hc0_1; have HR1_2 := aM hr0_2; have HC1_2 := aM hc0_2; clear hr0_2 hc0_2; have HR1_3 := aM hr0_3; have HC1_3 := aM hc0_3; clear hr0_3 hc0_3; have HR1_4 := aM hr0_4; have HC1_4 := aM hc0_4; clear hr0_4 hc0_4; have HB := aM (Below.refl w.heap.size w); have H : (if a1 < 0 then (some 0) else (if a1 ≥ a2 then (some 0) else (if 0 ≤ a1 then (if a1 < (l0_0.length : Int) then (some ((rd_T41 l0_0 a1).f1)) else (none)) else (none)))) = some r := h; clear h; by_cases c1 : a1 < 0
 ·rw [if_pos c1] at H; have c1b0 := decide_eq_true c1; exact z69_1
 ·rw [if_neg c1] at H; have c1b0 := decide_eq_false c1; clear c1; by_cases c1 : a1 ≥ a2
  ·rw [if_pos c1] at H; have c1b0 : decide (a2 ≤ a1) = true := decide_eq_true c1; exact z69_1
  ·rw [if_neg c1] at H; have c1b0 : decide (a2 ≤ a1) = false := decide_eq_false c1; clear c1; by_cases c1 : 0 ≤ a1
   ·rw [if_pos c1] at H; have c1b0 := decide_eq_true c1; clear c1; by_cases c2 : a1 < (l0_0.length : Int)
    ·rw [if_pos c2] at H; have c1b0 := decide_eq_true c2; clear c2; obtain rfl := Option.some.inj H; go_enter Try.func53, Try.ntmps53
     go_wp2_with (first | ((with_reducible refine zgd 3 rfl ?_); refine zbox 3 #[.slice A0_0 l0_0.length c0_0, .slice A0_1 l0_1.length c0_1, .slice A0_2 l0_2.length c0_2, .slice A0_3 l0_3.length c0_3, .slice A0_4 l0_4.length c0_4] 27 ?_; intro gb1 hg w1 hbox hb; have BK1 := aM (hbox); have GW1 := aM ((q7z HB : w.heap.size ≤ gb1)); have GE1 := aM ((q7z HB : w.heap.size ≤ gb1)); replace HB := aM (ym (q5z HB) hb); clear hb hbox hg; obtain ⟨i1_0, i1_1, i1_2, i1_3, i1_4, j1_0, j1_1, j1_2, j1_3, j1_4⟩ := cells5 BK1.out; have p1 : 0 ≤ (a1 : Int) := zod; have q1 : a1 < (l0_0.length : Int) := zod; obtain ⟨ad1, e1, hx1_0, hx1_1, hx1_2, hx1_3, hx1_4, hx1_5, hx1_6⟩ := at_T41 HR1_0.out a1 p1 q1; cases e1; replace hx1_0 := zx HB hx1_0; replace hx1_1 := zx HB hx1_1; replace hx1_2 := zx HB hx1_2; replace hx1_3 := zx HB hx1_3; replace hx1_4 := zx HB hx1_4; replace hx1_5 := zx HB hx1_5; replace hx1_6 := zx HB hx1_6; replace p1 := eq_true p1; replace q1 := eq_true q1))
     go_ret
     exact ⟨q11z, q4z HB GE1⟩
    ·rw [if_neg c2] at H; exact absurd H (by simp)
   ·rw [if_neg c1] at H; exact absurd H (by simp)
mutual
def r9_pins.l0 : Nat → Int → Int → Int → List (S41) → List (S47) → List (S43) → List (S61) → List (S47) → Option (Bool)
 | 0, _, _, _, _, _, _, _, _ => none
 | k + 1, x3, x4, x5, x374000, x374001, x374002, x374003, x374004 => if x5 < (x374000.length : Int) then (if 0 ≤ x5 then (if ((rd_T41 x374000 x5).f0) = 21 then (if x3 ≥ (x374001.length : Int) then (some false) else (if 0 ≤ x3 then (if x3 < (x374001.length : Int) then (if ((rd_T47 x374001 x3).f1) = x5 then (r9_pins.j1 k (wrap64 (x3 + 1)) x4 x5 x374000 x374001 x374002 x374003 x374004) else (some false)) else (none)) else (none))) else (r9_pins.j1 k x3 x4 x5 x374000 x374001 x374002 x374003 x374004)) else (none)) else (if x3 = (x374001.length : Int) then (some (x4 == (x374002.length : Int))) else (some false))
def r9_pins.j1 : Nat → Int → Int → Int → List (S41) → List (S47) → List (S43) → List (S61) → List (S47) → Option (Bool)
 | 0, _, _, _, _, _, _, _, _ => none
 | k + 1, x3, x4, x5, x374000, x374001, x374002, x374003, x374004 => if 0 ≤ x5 then (if x5 < (x374000.length : Int) then (if ((rd_T41 x374000 x5).f0) = 22 then (if x4 ≥ (x374002.length : Int) then (some false) else (if 0 ≤ x4 then (if x4 < (x374002.length : Int) then (if ((rd_T43 x374002 x4).f1) = x5 then (r9_pins.l0 k x3 (wrap64 (x4 + 1)) (wrap64 (x5 + 1)) x374000 x374001 x374002 x374003 x374004) else (some false)) else (none)) else (none))) else (r9_pins.l0 k x3 x4 (wrap64 (x5 + 1)) x374000 x374001 x374002 x374003 x374004)) else (none)) else (none)
end
def r9_pins.f (k : Nat) (l0_0 : List (S41)) (l0_1 : List (S47)) (l0_2 : List (S43)) (l0_3 : List (S61)) (l0_4 : List (S47)) : Option (Bool) := r9_pins.l0 k 0 0 0 l0_0 l0_1 l0_2 l0_3 l0_4
theorem r9_pins.mono_l : ∀ k, (∀ y0 y1 y2 y3 y4 y5 y6 y7, LeO (r9_pins.l0 k y0 y1 y2 y3 y4 y5 y6 y7) (r9_pins.l0 (k + 1) y0 y1 y2 y3 y4 y5 y6 y7)) ∧ (∀ y0 y1 y2 y3 y4 y5 y6 y7, LeO (r9_pins.j1 k y0 y1 y2 y3 y4 y5 y6 y7) (r9_pins.j1 (k + 1) y0 y1 y2 y3 y4 y5 y6 y7))
 | 0 => ⟨fun _ _ _ _ _ _ _ _ r h => by simp [r9_pins.l0] at h, fun _ _ _ _ _ _ _ _ r h => by simp [r9_pins.j1] at h⟩
 | k + 1 => by
  obtain ⟨ih0, ih1⟩ := r9_pins.mono_l k; refine ⟨?_, ?_⟩ <;> intros <;> (first | unfold r9_pins.l0 | unfold r9_pins.j1) <;> repeat' first | (with_reducible first | apply ih0 | apply ih1 | exact LeO.refl _ | exact LeO.none _ | refine LeO.ite ?_ ?_ | refine LeO.bind ?_ (fun _ => ?_)) | exact LeO.none _ | refine LeO.ite ?_ ?_ | refine LeO.bind ?_ (fun _ => ?_)
theorem r9_pins.mono : ∀ a0 a1 a2 a3 a4 k, LeO (r9_pins.f k a0 a1 a2 a3 a4) (r9_pins.f (k + 1) a0 a1 a2 a3 a4) := by
 intro a0 a1 a2 a3 a4 k
 obtain ⟨ih1, ih2⟩ := r9_pins.mono_l k; unfold r9_pins.f
 repeat' first | (with_reducible first | apply ih1 | apply ih2 | exact LeO.refl _ | exact LeO.none _ | refine LeO.ite ?_ ?_ | refine LeO.bind ?_ (fun _ => ?_)) | exact LeO.none _ | refine LeO.ite ?_ ?_ | refine LeO.bind ?_ (fun _ => ?_)
theorem z72_1 {P : Prop} (h : P := by
 obtain rfl := Option.some.inj H; obtain ⟨i1_0, i1_1, i1_2, i1_3, i1_4, j1_0, j1_1, j1_2, j1_3, j1_4⟩ := cells5 BK1.out; go_wp2
 go_ret
 exact ⟨q11z, q4z HB GE1⟩) : P := h
theorem r9_pins.calls (k : Nat) (A0_0 : Option Addr) (c0_0 : Nat) (l0_0 : List (S41)) (A0_1 : Option Addr) (c0_1 : Nat) (l0_1 : List (S47)) (A0_2 : Option Addr) (c0_2 : Nat) (l0_2 : List (S43)) (A0_3 : Option Addr) (c0_3 : Nat) (l0_3 : List (S61)) (A0_4 : Option Addr) (c0_4 : Nat) (l0_4 : List (S47)) (r : Bool) (w : World) (hr0_0 : Kd.C k41 w A0_0 l0_0.length l0_0) (hc0_0 : l0_0.length ≤ c0_0) (hr0_1 : Kd.C k47 w A0_1 l0_1.length l0_1) (hc0_1 : l0_1.length ≤ c0_1) (hr0_2 : Kd.C k43 w A0_2 l0_2.length l0_2) (hc0_2 : l0_2.length ≤ c0_2) (hr0_3 : Kd.C k61 w A0_3 l0_3.length l0_3) (hc0_3 : l0_3.length ≤ c0_3) (hr0_4 : Kd.C k47 w A0_4 l0_4.length l0_4) (hc0_4 : l0_4.length ≤ c0_4) (h : r9_pins.f k l0_0 l0_1 l0_2 l0_3 l0_4 = some r) :
  Calls Try.prog 38 #[.agg #[.slice A0_0 l0_0.length c0_0, .slice A0_1 l0_1.length c0_1, .slice A0_2 l0_2.length c0_2, .slice A0_3 l0_3.length c0_3, .slice A0_4 l0_4.length c0_4]] w fun e w' => e = .returned (.bool r) ∧ Below w.heap.size w w' := by
 have hu1 := Try.underlying27; have HR1_0 := aM hr0_0; have HC1_0 := aM hc0_0; clear hr0_0 hc0_0; have HR1_1 := aM hr0_1; have HC1_1 := aM hc0_1; clear hr0_1 hc0_1; have HR1_2 := aM hr0_2; have HC1_2 := aM hc0_2; clear hr0_2 hc0_2; have HR1_3 := aM hr0_3; have HC1_3 := aM hc0_3; clear hr0_3 hc0_3; have HR1_4 := aM hr0_4; have HC1_4 := aM hc0_4; clear hr0_4 hc0_4; have HB := aM (Below.refl w.heap.size w); have H : (r9_pins.l0 k 0 0 0 l0_0 l0_1 l0_2 l0_3 l0_4) = some r := h; clear h; have H' := aM H; clear H; go_enter Try.func38, Try.ntmps38
 go_wp2_with (first | ((with_reducible refine gate_dst (N := 1) rfl ?_); (try (refine gate_guard (by rfl) ?_; dsimp only)); refine box_event ?hg (N := 1) ?hd (cs := #[.slice A0_0 l0_0.length c0_0, .slice A0_1 l0_1.length c0_1, .slice A0_2 l0_2.length c0_2, .slice A0_3 l0_3.length c0_3, .slice A0_4 l0_4.length c0_4]) (t := 27) ?hr ?_; (case hd => rfl); (case hg => rfl); (case hr => exact q30z); intro gb1 hg w1 hbox hb; have BK1 := aM (hbox); have GW1 := aM ((q7z HB : w.heap.size ≤ gb1)); have GE1 := aM ((q7z HB : w.heap.size ≤ gb1)); replace HB := aM (ym (q5z HB) hb); clear hb hbox hg))
 go_loopg [3, 4, 5] k (fun kq v1 v2 v3 w' => ∃ (x1_1 : Int) (x2_1 : Int) (x3_1 : Int), v1 = .int .i64 x1_1 ∧ v2 = .int .i64 x2_1 ∧ v3 = .int .i64 x3_1 ∧ Aside0 (r9_pins.l0 kq x1_1 x2_1 x3_1 l0_0 l0_1 l0_2 l0_3 l0_4 = some r) ∧ Aside0 (kq ≤ k) ∧ Aside0 (w'.heap[gb1]? = some (.cells #[(.slice A0_0 l0_0.length c0_0), (.slice A0_1 l0_1.length c0_1), (.slice A0_2 l0_2.length c0_2), (.slice A0_3 l0_3.length c0_3), (.slice A0_4 l0_4.length c0_4)] 27 (0, 0))) ∧ Aside0 (Below w.heap.size w w'))
 case atStart => exact ⟨(0), (0), (0), q13z, q13z, q13z, H', ⟨Nat.le_refl _⟩, ⟨q10z BK1⟩, ⟨q4z HB GE1⟩⟩
 case round =>
  clear H'; try clear p2
  obtain ⟨x1_1, x2_1, x3_1, rfl, rfl, rfl, HA, HK1, BK1, HB⟩ := hrel; cases gk with
  | zero => exact absurd HA.out (by simp [r9_pins.l0])
  | succ k1 =>
   have H := HA.out; clear HA; simp only [r9_pins.l0] at H; by_cases c2 : x3_1 < (l0_0.length : Int)
   ·rw [if_pos c2] at H; have c1b0 := decide_eq_true c2; clear c2; by_cases c3 : 0 ≤ x3_1
    ·rw [if_pos c3] at H; have c2b0 := decide_eq_true c3; clear c3; have HC1 := aM H; clear H; obtain ⟨i1_0, i1_1, i1_2, i1_3, i1_4, j1_0, j1_1, j1_2, j1_3, j1_4⟩ := cells5 BK1.out; have p1 : 0 ≤ (x3_1 : Int) := zod; have q1 : x3_1 < (l0_0.length : Int) := zod; obtain ⟨ad1, e1, hx1_0, hx1_1, hx1_2, hx1_3, hx1_4, hx1_5, hx1_6⟩ := at_T41 HR1_0.out x3_1 p1 q1; cases e1; replace hx1_0 := zx HB hx1_0; replace hx1_1 := zx HB hx1_1; replace hx1_2 := zx HB hx1_2; replace hx1_3 := zx HB hx1_3; replace hx1_4 := zx HB hx1_4; replace hx1_5 := zx HB hx1_5; replace hx1_6 := zx HB hx1_6; replace p1 := eq_true p1; replace q1 := eq_true q1; go_upto_if 19 with (fail)
     go_cut [3] (fun v1 wc => ∃ (kq : Nat) (x1_4 : Int), v1 = .int .i64 x1_4 ∧ Aside0 (r9_pins.j1 kq x1_4 x2_1 x3_1 l0_0 l0_1 l0_2 l0_3 l0_4 = some r) ∧ Aside0 (kq ≤ k1) ∧ Aside0 (wc.heap[gb1]? = some (.cells #[(.slice (some ad1) l0_0.length c0_0), (.slice A0_1 l0_1.length c0_1), (.slice A0_2 l0_2.length c0_2), (.slice A0_3 l0_3.length c0_3), (.slice A0_4 l0_4.length c0_4)] 27 (0, 0))) ∧ Aside0 (Below w.heap.size w wc))
     case first =>
      have H := HC1.out; clear HC1; by_cases c4 : ((rd_T41 l0_0 x3_1).f0) = 21
      ·rw [if_pos c4] at H; obtain ⟨c3b0, c1b1⟩ := zeq c4; clear c4; (first | rw [c3b0] | (simp only [i64_w, i32_w]; rw [c3b0]) | skip)
       by_cases c5 : x1_1 ≥ (l0_1.length : Int)
       ·rw [if_pos c5] at H; have c3b0 : decide ((l0_1.length : Int) ≤ x1_1) = true := decide_eq_true c5; clear c5; obtain rfl := Option.some.inj H; obtain ⟨i2_0, i2_1, i2_2, i2_3, i2_4, j2_0, j2_1, j2_2, j2_3, j2_4⟩ := cells5 BK1.out; go_wp2
        go_ret
        exact ⟨q11z, q4z HB GE1⟩
       ·rw [if_neg c5] at H; have c3b0 : decide ((l0_1.length : Int) ≤ x1_1) = false := decide_eq_false c5; clear c5; by_cases c5 : 0 ≤ x1_1
        ·rw [if_pos c5] at H; have c3b0 := decide_eq_true c5; clear c5; by_cases c6 : x1_1 < (l0_1.length : Int)
         ·rw [if_pos c6] at H; have c3b0 := decide_eq_true c6; clear c6; by_cases c7 : ((rd_T47 l0_1 x1_1).f1) = x3_1
          ·rw [if_pos c7] at H; obtain ⟨c3b0, c1b1⟩ := zeq c7; clear c7; have H' := aM H; clear H; obtain ⟨i2_0, i2_1, i2_2, i2_3, i2_4, j2_0, j2_1, j2_2, j2_3, j2_4⟩ := cells5 BK1.out; have p4 : 0 ≤ (x1_1 : Int) := zod; have q2 : x1_1 < (l0_1.length : Int) := zod; obtain ⟨ad2, e1, hx2_0, hx2_1⟩ := at_T47 HR1_1.out x1_1 p4 q2; cases e1; replace hx2_0 := zx HB hx2_0; replace hx2_1 := zx HB hx2_1; replace p4 := eq_true p4; replace q2 := eq_true q2; go_wp2
           go_meet
           case rel => exact ⟨_, (wrap64 (x1_1 + 1)), q13z, H', ⟨q55z HK1⟩, ⟨q10z BK1⟩, ⟨q4z HB GE1⟩⟩
          ·rw [if_neg c7] at H; obtain ⟨c3b0, c1b1⟩ := zne c7; obtain rfl := Option.some.inj H; obtain ⟨i2_0, i2_1, i2_2, i2_3, i2_4, j2_0, j2_1, j2_2, j2_3, j2_4⟩ := cells5 BK1.out; have p4 : 0 ≤ (x1_1 : Int) := zod; have q2 : x1_1 < (l0_1.length : Int) := zod; obtain ⟨ad2, e1, hx2_0, hx2_1⟩ := at_T47 HR1_1.out x1_1 p4 q2; cases e1; replace hx2_0 := zx HB hx2_0; replace hx2_1 := zx HB hx2_1; replace p4 := eq_true p4; replace q2 := eq_true q2; go_wp2
           go_ret
           exact ⟨q11z, q4z HB GE1⟩
         ·rw [if_neg c6] at H; exact absurd H (by simp)
        ·rw [if_neg c5] at H; exact absurd H (by simp)
      ·rw [if_neg c4] at H; obtain ⟨c3b0, c1b1⟩ := zne c4; (first | rw [c3b0] | (simp only [i64_w, i32_w]; rw [c3b0]) | skip)
       have H' := aM H; clear H; go_wp2
       go_meet
       case rel => exact ⟨_, (x1_1), q13z, H', ⟨q55z HK1⟩, ⟨q10z BK1⟩, ⟨q4z HB GE1⟩⟩
     case rest =>
      clear HC1; try clear c1
      try clear p2
      try clear c2
      try clear c1b0
      try clear p3
      try clear q3
      try clear hx3
      try clear c3
      try clear c2b0
      try clear p6
      try clear c4
      try clear c1b0
      try clear c1b1
      try clear c4
      try clear c1b0
      try clear c4
      try clear c1b0
      try clear c4
      try clear c1b0
      try clear c4
      try clear c1b0
      try clear c1b1
      try clear i2_0 i2_1 i2_2 i2_3 i2_4 i2_0 i2_1 i2_2 i2_3 i2_4
      try clear i1_0 i1_1 i1_2 i1_3 i1_4 i1_0 i1_1 i1_2 i1_3 i1_4
      try clear j2_0 j2_1 j2_2 j2_3 j2_4 j2_0 j2_1 j2_2 j2_3 j2_4
      try clear j1_0 j1_1 j1_2 j1_3 j1_4 j1_0 j1_1 j1_2 j1_3 j1_4
      try clear hx1_0
      try clear hx1_1
      try clear hx1_2
      try clear hx1_3
      try clear hx1_4
      try clear hx1_5
      try clear hx1_6
      try clear hx1_0
      try clear hx1_1
      try clear p2
      try clear p1
      try clear p1
      try clear q1
      try clear q1
      obtain ⟨kq, x1_4, rfl, HA, HJ1, BK1, HB⟩ := hcut; cases kq with
      | zero => exact absurd HA.out (by simp [r9_pins.j1])
      | succ kj1 =>
       have H := HA.out; clear HA; simp only [r9_pins.j1] at H; by_cases c4 : 0 ≤ x3_1
       ·rw [if_pos c4] at H; have c1b0 := decide_eq_true c4; clear c4; by_cases c5 : x3_1 < (l0_0.length : Int)
        ·rw [if_pos c5] at H; have c1b0 := decide_eq_true c5; clear c5; by_cases c6 : ((rd_T41 l0_0 x3_1).f0) = 22
         ·rw [if_pos c6] at H; obtain ⟨c1b0, c1b1⟩ := zeq c6; clear c6; by_cases c7 : x2_1 ≥ (l0_2.length : Int)
          ·rw [if_pos c7] at H; have c1b0 : decide ((l0_2.length : Int) ≤ x2_1) = true := decide_eq_true c7; clear c7; obtain rfl := Option.some.inj H; obtain ⟨i1_0, i1_1, i1_2, i1_3, i1_4, j1_0, j1_1, j1_2, j1_3, j1_4⟩ := cells5 BK1.out; have p1 : 0 ≤ (x3_1 : Int) := zod; have q1 : x3_1 < (l0_0.length : Int) := zod; obtain ⟨ad2, e1, hx1_0, hx1_1, hx1_2, hx1_3, hx1_4, hx1_5, hx1_6⟩ := at_T41 HR1_0.out x3_1 p1 q1; obtain rfl : ad1 = ad2 := (by injection e1); replace hx1_0 := zx HB hx1_0; replace hx1_1 := zx HB hx1_1; replace hx1_2 := zx HB hx1_2; replace hx1_3 := zx HB hx1_3; replace hx1_4 := zx HB hx1_4; replace hx1_5 := zx HB hx1_5; replace hx1_6 := zx HB hx1_6; replace p1 := eq_true p1; replace q1 := eq_true q1; go_wp2
           go_ret
           exact ⟨q11z, q4z HB GE1⟩
          ·rw [if_neg c7] at H; have c1b0 : decide ((l0_2.length : Int) ≤ x2_1) = false := decide_eq_false c7; clear c7; by_cases c7 : 0 ≤ x2_1
           ·rw [if_pos c7] at H; have c1b0 := decide_eq_true c7; clear c7; by_cases c8 : x2_1 < (l0_2.length : Int)
            ·rw [if_pos c8] at H; have c1b0 := decide_eq_true c8; clear c8; by_cases c9 : ((rd_T43 l0_2 x2_1).f1) = x3_1
             ·rw [if_pos c9] at H; obtain ⟨c1b0, c1b1⟩ := zeq c9; clear c9; have H' := aM H; clear H; obtain ⟨i1_0, i1_1, i1_2, i1_3, i1_4, j1_0, j1_1, j1_2, j1_3, j1_4⟩ := cells5 BK1.out; have p1 : 0 ≤ (x3_1 : Int) := zod; have q1 : x3_1 < (l0_0.length : Int) := zod; obtain ⟨ad2, e1, hx1_0, hx1_1, hx1_2, hx1_3, hx1_4, hx1_5, hx1_6⟩ := at_T41 HR1_0.out x3_1 p1 q1; obtain rfl : ad1 = ad2 := (by injection e1); replace hx1_0 := zx HB hx1_0; replace hx1_1 := zx HB hx1_1; replace hx1_2 := zx HB hx1_2; replace hx1_3 := zx HB hx1_3; replace hx1_4 := zx HB hx1_4; replace hx1_5 := zx HB hx1_5; replace hx1_6 := zx HB hx1_6; replace p1 := eq_true p1; replace q1 := eq_true q1; have p1 : 0 ≤ (x2_1 : Int) := zod; have q1 : x2_1 < (l0_2.length : Int) := zod; obtain ⟨ad2, e1, hx1_0, hx1_1, hx1_2, hx1_3⟩ := at_T43 HR1_2.out x2_1 p1 q1; cases e1; replace hx1_0 := zx HB hx1_0; replace hx1_1 := zx HB hx1_1; replace hx1_2 := zx HB hx1_2; replace hx1_3 := zx HB hx1_3; replace p1 := eq_true p1; replace q1 := eq_true q1; go_wp2
              go_roundg kj1
              case measure => have := HK1.out; have := HJ1.out; omega
              case rel => exact ⟨(x1_4), (wrap64 (x2_1 + 1)), (wrap64 (x3_1 + 1)), q13z, q13z, q13z, H', ⟨q87z HK1 HJ1⟩, ⟨q10z BK1⟩, ⟨q4z HB GE1⟩⟩
             ·rw [if_neg c9] at H; obtain ⟨c1b0, c1b1⟩ := zne c9; obtain rfl := Option.some.inj H; obtain ⟨i1_0, i1_1, i1_2, i1_3, i1_4, j1_0, j1_1, j1_2, j1_3, j1_4⟩ := cells5 BK1.out; have p1 : 0 ≤ (x3_1 : Int) := zod; have q1 : x3_1 < (l0_0.length : Int) := zod; obtain ⟨ad2, e1, hx1_0, hx1_1, hx1_2, hx1_3, hx1_4, hx1_5, hx1_6⟩ := at_T41 HR1_0.out x3_1 p1 q1; obtain rfl : ad1 = ad2 := (by injection e1); replace hx1_0 := zx HB hx1_0; replace hx1_1 := zx HB hx1_1; replace hx1_2 := zx HB hx1_2; replace hx1_3 := zx HB hx1_3; replace hx1_4 := zx HB hx1_4; replace hx1_5 := zx HB hx1_5; replace hx1_6 := zx HB hx1_6; replace p1 := eq_true p1; replace q1 := eq_true q1; have p1 : 0 ≤ (x2_1 : Int) := zod; have q1 : x2_1 < (l0_2.length : Int) := zod; obtain ⟨ad2, e1, hx1_0, hx1_1, hx1_2, hx1_3⟩ := at_T43 HR1_2.out x2_1 p1 q1; cases e1; replace hx1_0 := zx HB hx1_0; replace hx1_1 := zx HB hx1_1; replace hx1_2 := zx HB hx1_2; replace hx1_3 := zx HB hx1_3; replace p1 := eq_true p1; replace q1 := eq_true q1; go_wp2
              go_ret
              exact ⟨q11z, q4z HB GE1⟩
            ·rw [if_neg c8] at H; exact absurd H (by simp)
           ·rw [if_neg c7] at H; exact absurd H (by simp)
         ·rw [if_neg c6] at H; obtain ⟨c1b0, c1b1⟩ := zne c6; have H' := aM H; clear H; obtain ⟨i1_0, i1_1, i1_2, i1_3, i1_4, j1_0, j1_1, j1_2, j1_3, j1_4⟩ := cells5 BK1.out; have p1 : 0 ≤ (x3_1 : Int) := zod; have q1 : x3_1 < (l0_0.length : Int) := zod; obtain ⟨ad2, e1, hx1_0, hx1_1, hx1_2, hx1_3, hx1_4, hx1_5, hx1_6⟩ := at_T41 HR1_0.out x3_1 p1 q1; obtain rfl : ad1 = ad2 := (by injection e1); replace hx1_0 := zx HB hx1_0; replace hx1_1 := zx HB hx1_1; replace hx1_2 := zx HB hx1_2; replace hx1_3 := zx HB hx1_3; replace hx1_4 := zx HB hx1_4; replace hx1_5 := zx HB hx1_5; replace hx1_6 := zx HB hx1_6; replace p1 := eq_true p1; replace q1 := eq_true q1; go_wp2
          go_roundg kj1
          case measure => have := HK1.out; have := HJ1.out; omega
          case rel => exact ⟨(x1_4), (x2_1), (wrap64 (x3_1 + 1)), q13z, q13z, q13z, H', ⟨q87z HK1 HJ1⟩, ⟨q10z BK1⟩, ⟨q4z HB GE1⟩⟩
        ·rw [if_neg c5] at H; exact absurd H (by simp)
       ·rw [if_neg c4] at H; exact absurd H (by simp)
    ·rw [if_neg c3] at H; exact absurd H (by simp)
   ·rw [if_neg c2] at H; have c1b0 := decide_eq_false c2; clear c2; by_cases c2 : x1_1 = (l0_1.length : Int)
    ·rw [if_pos c2] at H; obtain ⟨c1b0, c1b1⟩ := zeq c2; clear c2; exact z72_1
    ·rw [if_neg c2] at H; obtain ⟨c1b0, c1b1⟩ := zne c2; exact z72_1
def r9_there.f (l0_0 : List (S41)) (l0_1 : List (S47)) (l0_2 : List (S43)) (l0_3 : List (S61)) (l0_4 : List (S47)) (a1 : Int) : Option (Int) := (r9_wide.f l0_0 l0_1 l0_2 l0_3 l0_4 a1 (l0_0.length : Int)).bind fun t379 => (some t379)
theorem r9_there.calls (A0_0 : Option Addr) (c0_0 : Nat) (l0_0 : List (S41)) (A0_1 : Option Addr) (c0_1 : Nat) (l0_1 : List (S47)) (A0_2 : Option Addr) (c0_2 : Nat) (l0_2 : List (S43)) (A0_3 : Option Addr) (c0_3 : Nat) (l0_3 : List (S61)) (A0_4 : Option Addr) (c0_4 : Nat) (l0_4 : List (S47)) (a1 : Int) (r : Int) (w : World) (hr0_0 : Kd.C k41 w A0_0 l0_0.length l0_0) (hc0_0 : l0_0.length ≤ c0_0) (hr0_1 : Kd.C k47 w A0_1 l0_1.length l0_1) (hc0_1 : l0_1.length ≤ c0_1) (hr0_2 : Kd.C k43 w A0_2 l0_2.length l0_2) (hc0_2 : l0_2.length ≤ c0_2) (hr0_3 : Kd.C k61 w A0_3 l0_3.length l0_3) (hc0_3 : l0_3.length ≤ c0_3) (hr0_4 : Kd.C k47 w A0_4 l0_4.length l0_4) (hc0_4 : l0_4.length ≤ c0_4) (h : r9_there.f l0_0 l0_1 l0_2 l0_3 l0_4 a1 = some r) :
  Calls Try.prog 39 #[.agg #[.slice A0_0 l0_0.length c0_0, .slice A0_1 l0_1.length c0_1, .slice A0_2 l0_2.length c0_2, .slice A0_3 l0_3.length c0_3, .slice A0_4 l0_4.length c0_4], .int .i64 a1] w fun e w' => e = .returned (.int .i64 r) ∧ Below w.heap.size w w' := by
 have hu1 := Try.underlying27; have HR1_0 := aM hr0_0; have HC1_0 := aM hc0_0; clear hr0_0 hc0_0; have HR1_1 := aM hr0_1; have HC1_1 := aM hc0_1; clear hr0_1 hc0_1; have HR1_2 := aM hr0_2; have HC1_2 := aM hc0_2; clear hr0_2 hc0_2; have HR1_3 := aM hr0_3; have HC1_3 := aM hc0_3; clear hr0_3 hc0_3; have HR1_4 := aM hr0_4; have HC1_4 := aM hc0_4; clear hr0_4 hc0_4; have HB := aM (Below.refl w.heap.size w); have H : ((r9_wide.f l0_0 l0_1 l0_2 l0_3 l0_4 a1 (l0_0.length : Int)).bind fun t1 => (some t1)) = some r := h; clear h; replace H := Option.bind_eq_some_iff.mp H; obtain ⟨t1, A1, H⟩ := H; have A2 := aM A1; clear A1; obtain rfl := Option.some.inj H; go_enter Try.func39, Try.ntmps39
 go_wp2_with (first | ((with_reducible refine zgd 2 rfl ?_); refine zbox 2 #[.slice A0_0 l0_0.length c0_0, .slice A0_1 l0_1.length c0_1, .slice A0_2 l0_2.length c0_2, .slice A0_3 l0_3.length c0_3, .slice A0_4 l0_4.length c0_4] 27 ?_; intro gb1 hg w1 hbox hb; have BK1 := aM (hbox); have GW1 := aM ((q7z HB : w.heap.size ≤ gb1)); have GE1 := aM ((q7z HB : w.heap.size ≤ gb1)); replace HB := aM (ym (q5z HB) hb); clear hb hbox hg; obtain ⟨i1_0, i1_1, i1_2, i1_3, i1_4, j1_0, j1_1, j1_2, j1_3, j1_4⟩ := cells5 BK1.out) | ((with_reducible refine zgc 53 rfl ?_); refine zgl (some 10) Try.func53 #[.agg #[.slice A0_0 l0_0.length c0_0, .slice A0_1 l0_1.length c0_1, .slice A0_2 l0_2.length c0_2, .slice A0_3 l0_3.length c0_3, .slice A0_4 l0_4.length c0_4], .int .i64 a1, .int .i64 (l0_0.length : Int)] ?_; (with_reducible refine (r9_wide.calls _ _ l0_0 _ _ l0_1 _ _ l0_2 _ _ l0_3 _ _ l0_4 a1 (l0_0.length : Int) t1 _ ?side1 ?side2 ?side3 ?side4 ?side5 ?side6 ?side7 ?side8 ?side9 ?side10 A2.out).mono ?_); (case side1 => exact q1z HR1_0 HB); (case side2 => exact HC1_0.out); (case side3 => exact q1z HR1_1 HB); (case side4 => exact HC1_1.out); (case side5 => exact q1z HR1_2 HB); (case side6 => exact HC1_2.out); (case side7 => exact q1z HR1_3 HB); (case side8 => exact HC1_3.out); (case side9 => exact q1z HR1_4 HB); (case side10 => exact HC1_4.out); rintro e w2 ⟨rfl, hb⟩; refine ⟨_, rfl, ?_⟩; replace BK1 := aM (yi (zi BK1) hb); replace HB := aM (ym (q4z HB GE1) hb); (try clear hb); (try clear hb2); (try clear hk); (try clear hi)))
 go_ret
 exact ⟨q11z, q4z HB GE1⟩
open Go.Maps (Keyed) in
structure vec_Do.TM (w : World) (b : Nat) (kvs : List (Value × Value)) : Prop where
 ex : ∃ es clock, w.heap[b]? = some (.map es clock) ∧ es.toList.map (fun e => (e.key, e.val)) = kvs
 keys : ∀ p ∈ kvs, ∃ l, keyOf Try.prog 3 p.1 = some l
theorem vec_Do.keyed : Go.Maps.Keyed Try.prog 3 := Go.Maps.int_keyed Try.underlying3
theorem vec_Do.key {n : Int} (h : (Lit.int .i64 n).wf = true) : keyOf Try.prog 3 (.int .i64 n) = some (.int .i64 n) := Go.Maps.keyOf_int_mk Try.underlying3 h
theorem vec_Do.TM.lt {w : World} {b : Nat} {kvs : List (Value × Value)} (h : vec_Do.TM w b kvs) : b < w.heap.size := by
 obtain ⟨es, clock, hb, _⟩ := h.ex; exact (Array.getElem?_eq_some_iff.1 hb).1
theorem vec_Do.TM.block {w w' : World} {b : Nat} {kvs : List (Value × Value)} (h : vec_Do.TM w b kvs) (he : w'.heap[b]? = w.heap[b]?) : vec_Do.TM w' b kvs := by
 obtain ⟨es, clock, hb, hm⟩ := h.ex; exact ⟨⟨es, clock, he.trans hb, hm⟩, h.keys⟩
theorem vec_Do.TM.hit {w : World} {b : Nat} {kvs : List (Value × Value)} (h : vec_Do.TM w b kvs) {n : Int} {v : Value} (hn : (Lit.int .i64 n).wf = true) (hv : ∀ p ∈ kvs, p.1 = .int .i64 n → p.2 = v) (hin : ∃ p ∈ kvs, p.1 = .int .i64 n) :
  (Instr.lookup 85 (.map (some b)) (.int .i64 n) true).run Try.prog w = .ok (.tuple #[v, .bool true]) w := by
 have hx := vec_Do.key hn; obtain ⟨es, clock, hb, rfl⟩ := h.ex; have hk : ∀ e ∈ es.toList, ∃ l, keyOf Try.prog 3 e.key = some l := fun e he => h.keys (e.key, e.val) (List.mem_map.2 ⟨e, he, rfl⟩)
 rcases vec_Do.keyed.find w hx es.toList hk with ⟨_, hne⟩ | ⟨j, e1, hrun, hj, he⟩
 ·obtain ⟨p, hp, hpx⟩ := hin; obtain ⟨e, he, rfl⟩ := List.mem_map.1 hp; exact absurd hpx (hne e he)
 ·have hv1 : e1.val = v := hv (e1.key, e1.val) (List.mem_map.2 ⟨e1, List.mem_of_getElem? hj, rfl⟩) he; subst hv1; simp [Instr.lookup, run_underlying Try.underlying85, Result.andThen, MapKept.run_getObj_map hb, vec_Do.keyed.check w _ hx, hrun]
theorem z61_1 {P : Prop} (h : P := by
 exact absurd he (hne (e1.key, e1.val) (List.mem_map.2 ⟨e1, List.mem_of_getElem? hj, rfl⟩))) : P := h
theorem vec_Do.TM.miss {w : World} {b : Nat} {kvs : List (Value × Value)} (h : vec_Do.TM w b kvs) {n : Int} (hn : (Lit.int .i64 n).wf = true) (hne : ∀ p ∈ kvs, p.1 ≠ .int .i64 n) :
  (Instr.lookup 85 (.map (some b)) (.int .i64 n) true).run Try.prog w = .ok (.tuple #[.nilFunc, .bool false]) w := by
 have hx := vec_Do.key hn; obtain ⟨es, clock, hb, rfl⟩ := h.ex; have hz : (zeroValue 83).run Try.prog w = .ok .nilFunc w := by kernel_rfl
 have hk : ∀ e ∈ es.toList, ∃ l, keyOf Try.prog 3 e.key = some l := fun e he => h.keys (e.key, e.val) (List.mem_map.2 ⟨e, he, rfl⟩)
 rcases vec_Do.keyed.find w hx es.toList hk with ⟨hrun, _⟩ | ⟨j, e1, _, hj, he⟩
 ·simp [Instr.lookup, run_underlying Try.underlying85, Result.andThen, MapKept.run_getObj_map hb, vec_Do.keyed.check w _ hx, hrun, hz]
 ·exact z61_1
theorem vec_Do.TM.store {w : World} {b : Nat} {kvs : List (Value × Value)} (h : vec_Do.TM w b kvs) {n : Int} (hn : (Lit.int .i64 n).wf = true) (hne : ∀ p ∈ kvs, p.1 ≠ .int .i64 n) (v : Value) :
  ∃ w', (Instr.mapUpdate 85 (.map (some b)) (.int .i64 n) v).run Try.prog w = .ok () w' ∧ vec_Do.TM w' b (kvs ++ [(.int .i64 n, v)]) ∧ w.grownBy w' (some b) := by
 have hx := vec_Do.key hn; obtain ⟨es, clock, hb, rfl⟩ := h.ex; have hk : ∀ e ∈ es.toList, ∃ l, keyOf Try.prog 3 e.key = some l := fun e he => h.keys (e.key, e.val) (List.mem_map.2 ⟨e, he, rfl⟩)
 rcases vec_Do.keyed.find w hx es.toList hk with ⟨hrun, _⟩ | ⟨j, e1, _, hj, he⟩
 ·refine ⟨Go.ChangeMaps.setBlock w b (.map (es.push { key := .int .i64 n, val := v, born := clock }) (clock + 1)), ?_, ⟨⟨_, _, ChangeMaps.heap_setBlock_same hb _, by simp⟩, ?_⟩, ⟨rfl, rfl, rfl, by simp [Go.ChangeMaps.setBlock], fun i _ hi => ChangeMaps.heap_setBlock_other hb _ (fun e => hi (by rw [e]))⟩⟩
  ·simp [Instr.mapUpdate, run_underlying Try.underlying85, Result.andThen, MapKept.run_getObj_map hb, vec_Do.keyed.check w _ hx, hrun, MapKept.run_setObj_map _ hb, Go.ChangeMaps.setBlock]
  ·intro p hp
   rcases List.mem_append.1 hp with hp | hp
   ·exact h.keys p hp
   ·simp at hp
    subst hp; exact ⟨_, hx⟩
 ·exact z61_1
structure vec_Do.St (w0 : World) (g : Nat) (kvs : List (Value × Value)) (fl : List (Nat × FuncId × TypeId)) (w : World) : Prop where
 below : Below w0.heap.size w0 w
 ge : w0.heap.size ≤ g
 tm : vec_Do.TM w g kvs
 fns : ∀ p ∈ fl, p.1 ≠ g ∧ w.heap[p.1]? = some (.cells #[.func (.func p.2.1) #[] #[]] p.2.2 (0, 0))
theorem vec_Do.St.call {w0 w w' : World} {g b : Nat} {kvs : List (Value × Value)} {fl : List (Nat × FuncId × TypeId)} {G : FuncId} {t : TypeId} (h : vec_Do.St w0 g kvs fl w) (hb : Below w.heap.size w w') (hn : w.heap.size ≤ b) (hc : w'.heap[b]? = some (.cells #[.func (.func G) #[] #[]] t (0, 0))) : vec_Do.St w0 g kvs (fl ++ [(b, G, t)]) w' := by
 refine ⟨ym h.below hb, h.ge, h.tm.block (hb.block _ h.tm.lt), fun p hp => ?_⟩; rcases List.mem_append.1 hp with hp | hp
 ·obtain ⟨h1, h2⟩ := h.fns p hp; exact ⟨h1, (hb.block _ (Array.getElem?_eq_some_iff.1 h2).1).trans h2⟩
 ·simp at hp
  subst hp; exact ⟨fun e => by have := h.tm.lt; simp at e; omega, hc⟩
theorem vec_Do.St.put {w0 w : World} {g : Nat} {kvs : List (Value × Value)} {fl : List (Nat × FuncId × TypeId)} (h : vec_Do.St w0 g kvs fl w) {n : Int} (hn : (Lit.int .i64 n).wf = true) (hne : ∀ p ∈ kvs, p.1 ≠ .int .i64 n) (v : Value) :
  ∃ w', (Instr.mapUpdate 85 (.map (some g)) (.int .i64 n) v).run Try.prog w = .ok () w' ∧ vec_Do.St w0 g (kvs ++ [(.int .i64 n, v)]) fl w' := by
 obtain ⟨w', hrun, htm, hgr⟩ := h.tm.store hn hne v; refine ⟨w', hrun, pw_below_grown h.below (some g) h.below.size hgr (fun k hk => by cases hk; exact h.ge), h.ge, htm, fun p hp => ?_⟩; obtain ⟨h1, h2⟩ := h.fns p hp; exact ⟨h1, (hgr.block _ (Array.getElem?_eq_some_iff.1 h2).1 (fun e => h1 (Option.some.inj e))).trans h2⟩
theorem vec_Do.St.made (W : World) : vec_Do.St W W.heap.size [] [] (W.alloc (.map #[] 0)) :=
 ⟨yl (Below.refl _ _) _, Nat.le_refl _, ⟨⟨#[], 0, (MapKept.heap_alloc W _).1, rfl⟩, fun p hp => by cases hp⟩, fun p hp => by cases hp⟩
section
variable {ops : Array Oper} {o : Oper} {a : Act} {Q : Exit → Act → World → Prop} {rest : List Oper}
theorem vec_Do.map_event {W : World} (hgd : o.guard = none) {N : Tmp} (_hd : o.dst = some N) (hrun : (execOp a.eval o).run Try.prog W = .ok (.value (.map (some W.heap.size))) (W.alloc (.map #[] 0)))
  (h : ∀ g, ∀ w1, vec_Do.St W g [] [] w1 → wpList Try.prog ops Q rest (a.put o.dst (.map (some g))) w1) : wpList Try.prog ops Q (o :: rest) a W :=
 Kd.event_run hgd hrun (h _ _ (vec_Do.St.made W))
theorem vec_Do.ins_event {w0 W : World} {g : Nat} {kvs : List (Value × Value)} {fl : List (Nat × FuncId × TypeId)} (HS : vec_Do.St w0 g kvs fl W) (hgd : o.guard = none) (m x v : Operand) (n : Int) (val : Value) (hop : o.op = Op.insert 85 m x v) (hm : a.eval m = .map (some g)) (hx : a.eval x = .int .i64 n) (hv : a.eval v = val)
  (hn : (Lit.int .i64 n).wf = true) (hne : ∀ p ∈ kvs, p.1 ≠ .int .i64 n) (h : ∀ w', vec_Do.St w0 g (kvs ++ [(.int .i64 n, val)]) fl w' → wpList Try.prog ops Q rest (a.put o.dst undef) w') : wpList Try.prog ops Q (o :: rest) a W := by
 refine wpList_plain hgd fun K' hK' => ?_
 obtain ⟨w', hrun, r⟩ := HS.put hn hne val; unfold Oper.wp
 simp [execOp, hop, hm, hx, hv, hrun, Result.andThen]
 exact hK' _ _ (h w' r)
end
theorem vec_Do.by_2 (a0_0 a0_1 a0_2 a0_3 a0_4 a0_5 a0_6 a1 a2 a3 a4 : Int) (t : Int) (m : Int) (bk : Nat) (w : World) (hk : w.heap[bk]? = some (.cells #[.func (.func 69) #[] #[]] 90 (0, 0))) (h1 : vec_works_2.f a1 a2 = some t) (h2 : vec_Mask.f a0_1 = some m) :
  Calls Try.prog 87 #[.agg #[.int .i64 a0_0, .int .i64 a0_1, .int .i64 a0_2, .int .i64 a0_3, .int .i64 a0_4, .int .i64 a0_5, .int .i64 a0_6], .int .i64 a1, .int .i64 a2, .int .i64 a3, .int .i64 a4, .pointer (some ⟨bk, 0, none⟩)] w fun e w' => e = .returned (.int .i64 (Go.bits .and .i64 t m)) ∧ Below w.heap.size w w' := by
 have hu_ := Try.underlying41; have HB := aM (Below.refl w.heap.size w); have HK := aM hk; have hl := blk_lt hk; clear hk; have A1 := aM h1; have A2 := aM h2; clear h1 h2; go_enter Try.func87, Try.ntmps87
 go_wp2_with (((with_reducible refine zgd 6 rfl ?_); refine zbox 6 #[.int .i64 a0_0, .int .i64 a0_1, .int .i64 a0_2, .int .i64 a0_3, .int .i64 a0_4, .int .i64 a0_5, .int .i64 a0_6] 41 ?_; intro gb hg w1 hbox hb; have n1_ := aM (ym (q5z HB) hb); have n2_ := aM (hbox); have n3_ := aM ((q7z HB) : w.heap.size ≤ gb); have kb_ := aM ((hb.block bk (Nat.lt_of_lt_of_le hl (yn (q5z HB)))).trans HK.out); have hkz : w1.cell? ⟨bk, 0, none⟩ = some (.func (.func 69) #[] #[]) := zc kb_ 0; have hkf := blk_frozen kb_.out 0; clear HB; have HB := n1_; have BK := n2_; have GE := n3_; clear n1_ n2_ n3_; clear hb hbox hg; have hcz_1 : w1.cell? ⟨gb, 0, none⟩ = some (.int .i64 a0_0) := zc BK 0; have hfz_1 := blk_frozen BK.out 0; have hcz_2 : w1.cell? ⟨gb, 1, none⟩ = some (.int .i64 a0_1) := zc BK 1; have hfz_2 := blk_frozen BK.out 1; have hcz_3 : w1.cell? ⟨gb, 2, none⟩ = some (.int .i64 a0_2) := zc BK 2; have hfz_3 := blk_frozen BK.out 2; have hcz_4 : w1.cell? ⟨gb, 3, none⟩ = some (.int .i64 a0_3) := zc BK 3; have hfz_4 := blk_frozen BK.out 3; have hcz_5 : w1.cell? ⟨gb, 4, none⟩ = some (.int .i64 a0_4) := zc BK 4; have hfz_5 := blk_frozen BK.out 4; have hcz_6 : w1.cell? ⟨gb, 5, none⟩ = some (.int .i64 a0_5) := zc BK 5; have hfz_6 := blk_frozen BK.out 5; have hcz_7 : w1.cell? ⟨gb, 6, none⟩ = some (.int .i64 a0_6) := zc BK 6; have hfz_7 := blk_frozen BK.out 6))
 go_quiet (first | (go_at_call 69; (with_reducible refine (vec_works_2.calls a1 a2 t _ A1.out).mono ?_); rintro e w' ⟨rfl, ⟨nd, rfl⟩⟩; (try first | exact ⟨rfl, _, World.drewN_drewN _ _ _⟩ | exact ⟨rfl, _, Eq.trans (World.drewN_drewN _ _ _) (congrArg (World.drewN _) (Nat.add_assoc _ _ _))⟩)) | (go_at_call 49; (with_reducible refine (vec_Mask.calls a0_1 m _ A2.out).mono ?_); rintro e w' ⟨rfl, ⟨nd, rfl⟩⟩; (try first | exact ⟨rfl, _, World.drewN_drewN _ _ _⟩ | exact ⟨rfl, _, Eq.trans (World.drewN_drewN _ _ _) (congrArg (World.drewN _) (Nat.add_assoc _ _ _))⟩)))
 go_wp2
 go_ret
 exact ⟨q11z, q5z HB⟩
theorem vec_Do.by_5 (a0_0 a0_1 a0_2 a0_3 a0_4 a0_5 a0_6 a1 a2 a3 a4 : Int) (t : Int) (m : Int) (bk : Nat) (w : World) (hk : w.heap[bk]? = some (.cells #[.func (.func 74) #[] #[]] 90 (0, 0))) (h1 : vec_works_5.f a1 a2 = some t) (h2 : vec_Mask.f a0_1 = some m) :
  Calls Try.prog 87 #[.agg #[.int .i64 a0_0, .int .i64 a0_1, .int .i64 a0_2, .int .i64 a0_3, .int .i64 a0_4, .int .i64 a0_5, .int .i64 a0_6], .int .i64 a1, .int .i64 a2, .int .i64 a3, .int .i64 a4, .pointer (some ⟨bk, 0, none⟩)] w fun e w' => e = .returned (.int .i64 (Go.bits .and .i64 t m)) ∧ Below w.heap.size w w' := by
 have hu_ := Try.underlying41; have HB := aM (Below.refl w.heap.size w); have HK := aM hk; have hl := blk_lt hk; clear hk; have A1 := aM h1; have A2 := aM h2; clear h1 h2; go_enter Try.func87, Try.ntmps87
 go_wp2_with (((with_reducible refine zgd 6 rfl ?_); refine zbox 6 #[.int .i64 a0_0, .int .i64 a0_1, .int .i64 a0_2, .int .i64 a0_3, .int .i64 a0_4, .int .i64 a0_5, .int .i64 a0_6] 41 ?_; intro gb hg w1 hbox hb; have n1_ := aM (ym (q5z HB) hb); have n2_ := aM (hbox); have n3_ := aM ((q7z HB) : w.heap.size ≤ gb); have kb_ := aM ((hb.block bk (Nat.lt_of_lt_of_le hl (yn (q5z HB)))).trans HK.out); have hkz : w1.cell? ⟨bk, 0, none⟩ = some (.func (.func 74) #[] #[]) := zc kb_ 0; have hkf := blk_frozen kb_.out 0; clear HB; have HB := n1_; have BK := n2_; have GE := n3_; clear n1_ n2_ n3_; clear hb hbox hg; have hcz_1 : w1.cell? ⟨gb, 0, none⟩ = some (.int .i64 a0_0) := zc BK 0; have hfz_1 := blk_frozen BK.out 0; have hcz_2 : w1.cell? ⟨gb, 1, none⟩ = some (.int .i64 a0_1) := zc BK 1; have hfz_2 := blk_frozen BK.out 1; have hcz_3 : w1.cell? ⟨gb, 2, none⟩ = some (.int .i64 a0_2) := zc BK 2; have hfz_3 := blk_frozen BK.out 2; have hcz_4 : w1.cell? ⟨gb, 3, none⟩ = some (.int .i64 a0_3) := zc BK 3; have hfz_4 := blk_frozen BK.out 3; have hcz_5 : w1.cell? ⟨gb, 4, none⟩ = some (.int .i64 a0_4) := zc BK 4; have hfz_5 := blk_frozen BK.out 4; have hcz_6 : w1.cell? ⟨gb, 5, none⟩ = some (.int .i64 a0_5) := zc BK 5; have hfz_6 := blk_frozen BK.out 5; have hcz_7 : w1.cell? ⟨gb, 6, none⟩ = some (.int .i64 a0_6) := zc BK 6; have hfz_7 := blk_frozen BK.out 6))
 go_quiet (first | (go_at_call 74; (with_reducible refine (vec_works_5.calls a1 a2 t _ A1.out).mono ?_); rintro e w' ⟨rfl, ⟨nd, rfl⟩⟩; (try first | exact ⟨rfl, _, World.drewN_drewN _ _ _⟩ | exact ⟨rfl, _, Eq.trans (World.drewN_drewN _ _ _) (congrArg (World.drewN _) (Nat.add_assoc _ _ _))⟩)) | (go_at_call 49; (with_reducible refine (vec_Mask.calls a0_1 m _ A2.out).mono ?_); rintro e w' ⟨rfl, ⟨nd, rfl⟩⟩; (try first | exact ⟨rfl, _, World.drewN_drewN _ _ _⟩ | exact ⟨rfl, _, Eq.trans (World.drewN_drewN _ _ _) (congrArg (World.drewN _) (Nat.add_assoc _ _ _))⟩)))
 go_wp2
 go_ret
 exact ⟨q11z, q5z HB⟩
theorem vec_Do.by_6 (a0_0 a0_1 a0_2 a0_3 a0_4 a0_5 a0_6 a1 a2 a3 a4 : Int) (t : Int) (m : Int) (bk : Nat) (w : World) (hk : w.heap[bk]? = some (.cells #[.func (.func 75) #[] #[]] 90 (0, 0))) (h1 : vec_works_6.f a1 a2 = some t) (h2 : vec_Mask.f a0_1 = some m) :
  Calls Try.prog 87 #[.agg #[.int .i64 a0_0, .int .i64 a0_1, .int .i64 a0_2, .int .i64 a0_3, .int .i64 a0_4, .int .i64 a0_5, .int .i64 a0_6], .int .i64 a1, .int .i64 a2, .int .i64 a3, .int .i64 a4, .pointer (some ⟨bk, 0, none⟩)] w fun e w' => e = .returned (.int .i64 (Go.bits .and .i64 t m)) ∧ Below w.heap.size w w' := by
 have hu_ := Try.underlying41; have HB := aM (Below.refl w.heap.size w); have HK := aM hk; have hl := blk_lt hk; clear hk; have A1 := aM h1; have A2 := aM h2; clear h1 h2; go_enter Try.func87, Try.ntmps87
 go_wp2_with (((with_reducible refine zgd 6 rfl ?_); refine zbox 6 #[.int .i64 a0_0, .int .i64 a0_1, .int .i64 a0_2, .int .i64 a0_3, .int .i64 a0_4, .int .i64 a0_5, .int .i64 a0_6] 41 ?_; intro gb hg w1 hbox hb; have n1_ := aM (ym (q5z HB) hb); have n2_ := aM (hbox); have n3_ := aM ((q7z HB) : w.heap.size ≤ gb); have kb_ := aM ((hb.block bk (Nat.lt_of_lt_of_le hl (yn (q5z HB)))).trans HK.out); have hkz : w1.cell? ⟨bk, 0, none⟩ = some (.func (.func 75) #[] #[]) := zc kb_ 0; have hkf := blk_frozen kb_.out 0; clear HB; have HB := n1_; have BK := n2_; have GE := n3_; clear n1_ n2_ n3_; clear hb hbox hg; have hcz_1 : w1.cell? ⟨gb, 0, none⟩ = some (.int .i64 a0_0) := zc BK 0; have hfz_1 := blk_frozen BK.out 0; have hcz_2 : w1.cell? ⟨gb, 1, none⟩ = some (.int .i64 a0_1) := zc BK 1; have hfz_2 := blk_frozen BK.out 1; have hcz_3 : w1.cell? ⟨gb, 2, none⟩ = some (.int .i64 a0_2) := zc BK 2; have hfz_3 := blk_frozen BK.out 2; have hcz_4 : w1.cell? ⟨gb, 3, none⟩ = some (.int .i64 a0_3) := zc BK 3; have hfz_4 := blk_frozen BK.out 3; have hcz_5 : w1.cell? ⟨gb, 4, none⟩ = some (.int .i64 a0_4) := zc BK 4; have hfz_5 := blk_frozen BK.out 4; have hcz_6 : w1.cell? ⟨gb, 5, none⟩ = some (.int .i64 a0_5) := zc BK 5; have hfz_6 := blk_frozen BK.out 5; have hcz_7 : w1.cell? ⟨gb, 6, none⟩ = some (.int .i64 a0_6) := zc BK 6; have hfz_7 := blk_frozen BK.out 6))
 go_quiet (first | (go_at_call 75; (with_reducible refine (vec_works_6.calls a1 a2 t _ A1.out).mono ?_); rintro e w' ⟨rfl, ⟨nd, rfl⟩⟩; (try first | exact ⟨rfl, _, World.drewN_drewN _ _ _⟩ | exact ⟨rfl, _, Eq.trans (World.drewN_drewN _ _ _) (congrArg (World.drewN _) (Nat.add_assoc _ _ _))⟩)) | (go_at_call 49; (with_reducible refine (vec_Mask.calls a0_1 m _ A2.out).mono ?_); rintro e w' ⟨rfl, ⟨nd, rfl⟩⟩; (try first | exact ⟨rfl, _, World.drewN_drewN _ _ _⟩ | exact ⟨rfl, _, Eq.trans (World.drewN_drewN _ _ _) (congrArg (World.drewN _) (Nat.add_assoc _ _ _))⟩)))
 go_wp2
 go_ret
 exact ⟨q11z, q5z HB⟩
theorem vec_Do.by_7 (a0_0 a0_1 a0_2 a0_3 a0_4 a0_5 a0_6 a1 a2 a3 a4 : Int) (t : Int) (m : Int) (bk : Nat) (w : World) (hk : w.heap[bk]? = some (.cells #[.func (.func 76) #[] #[]] 90 (0, 0))) (h1 : vec_works_7.f a1 a2 = some t) (h2 : vec_Mask.f a0_1 = some m) :
  Calls Try.prog 87 #[.agg #[.int .i64 a0_0, .int .i64 a0_1, .int .i64 a0_2, .int .i64 a0_3, .int .i64 a0_4, .int .i64 a0_5, .int .i64 a0_6], .int .i64 a1, .int .i64 a2, .int .i64 a3, .int .i64 a4, .pointer (some ⟨bk, 0, none⟩)] w fun e w' => e = .returned (.int .i64 (Go.bits .and .i64 t m)) ∧ Below w.heap.size w w' := by
 have hu_ := Try.underlying41; have HB := aM (Below.refl w.heap.size w); have HK := aM hk; have hl := blk_lt hk; clear hk; have A1 := aM h1; have A2 := aM h2; clear h1 h2; go_enter Try.func87, Try.ntmps87
 go_wp2_with (((with_reducible refine zgd 6 rfl ?_); refine zbox 6 #[.int .i64 a0_0, .int .i64 a0_1, .int .i64 a0_2, .int .i64 a0_3, .int .i64 a0_4, .int .i64 a0_5, .int .i64 a0_6] 41 ?_; intro gb hg w1 hbox hb; have n1_ := aM (ym (q5z HB) hb); have n2_ := aM (hbox); have n3_ := aM ((q7z HB) : w.heap.size ≤ gb); have kb_ := aM ((hb.block bk (Nat.lt_of_lt_of_le hl (yn (q5z HB)))).trans HK.out); have hkz : w1.cell? ⟨bk, 0, none⟩ = some (.func (.func 76) #[] #[]) := zc kb_ 0; have hkf := blk_frozen kb_.out 0; clear HB; have HB := n1_; have BK := n2_; have GE := n3_; clear n1_ n2_ n3_; clear hb hbox hg; have hcz_1 : w1.cell? ⟨gb, 0, none⟩ = some (.int .i64 a0_0) := zc BK 0; have hfz_1 := blk_frozen BK.out 0; have hcz_2 : w1.cell? ⟨gb, 1, none⟩ = some (.int .i64 a0_1) := zc BK 1; have hfz_2 := blk_frozen BK.out 1; have hcz_3 : w1.cell? ⟨gb, 2, none⟩ = some (.int .i64 a0_2) := zc BK 2; have hfz_3 := blk_frozen BK.out 2; have hcz_4 : w1.cell? ⟨gb, 3, none⟩ = some (.int .i64 a0_3) := zc BK 3; have hfz_4 := blk_frozen BK.out 3; have hcz_5 : w1.cell? ⟨gb, 4, none⟩ = some (.int .i64 a0_4) := zc BK 4; have hfz_5 := blk_frozen BK.out 4; have hcz_6 : w1.cell? ⟨gb, 5, none⟩ = some (.int .i64 a0_5) := zc BK 5; have hfz_6 := blk_frozen BK.out 5; have hcz_7 : w1.cell? ⟨gb, 6, none⟩ = some (.int .i64 a0_6) := zc BK 6; have hfz_7 := blk_frozen BK.out 6))
 go_quiet (first | (go_at_call 76; (with_reducible refine (vec_works_7.calls a1 a2 t _ A1.out).mono ?_); rintro e w' ⟨rfl, ⟨nd, rfl⟩⟩; (try first | exact ⟨rfl, _, World.drewN_drewN _ _ _⟩ | exact ⟨rfl, _, Eq.trans (World.drewN_drewN _ _ _) (congrArg (World.drewN _) (Nat.add_assoc _ _ _))⟩)) | (go_at_call 49; (with_reducible refine (vec_Mask.calls a0_1 m _ A2.out).mono ?_); rintro e w' ⟨rfl, ⟨nd, rfl⟩⟩; (try first | exact ⟨rfl, _, World.drewN_drewN _ _ _⟩ | exact ⟨rfl, _, Eq.trans (World.drewN_drewN _ _ _) (congrArg (World.drewN _) (Nat.add_assoc _ _ _))⟩)))
 go_wp2
 go_ret
 exact ⟨q11z, q5z HB⟩
theorem vec_Do.by_8 (a0_0 a0_1 a0_2 a0_3 a0_4 a0_5 a0_6 a1 a2 a3 a4 : Int) (t : Int) (m : Int) (bk : Nat) (w : World) (hk : w.heap[bk]? = some (.cells #[.func (.func 77) #[] #[]] 90 (0, 0))) (h1 : vec_works_8.f a1 a2 = some t) (h2 : vec_Mask.f a0_1 = some m) :
  Calls Try.prog 87 #[.agg #[.int .i64 a0_0, .int .i64 a0_1, .int .i64 a0_2, .int .i64 a0_3, .int .i64 a0_4, .int .i64 a0_5, .int .i64 a0_6], .int .i64 a1, .int .i64 a2, .int .i64 a3, .int .i64 a4, .pointer (some ⟨bk, 0, none⟩)] w fun e w' => e = .returned (.int .i64 (Go.bits .and .i64 t m)) ∧ Below w.heap.size w w' := by
 have hu_ := Try.underlying41; have HB := aM (Below.refl w.heap.size w); have HK := aM hk; have hl := blk_lt hk; clear hk; have A1 := aM h1; have A2 := aM h2; clear h1 h2; go_enter Try.func87, Try.ntmps87
 go_wp2_with (((with_reducible refine zgd 6 rfl ?_); refine zbox 6 #[.int .i64 a0_0, .int .i64 a0_1, .int .i64 a0_2, .int .i64 a0_3, .int .i64 a0_4, .int .i64 a0_5, .int .i64 a0_6] 41 ?_; intro gb hg w1 hbox hb; have n1_ := aM (ym (q5z HB) hb); have n2_ := aM (hbox); have n3_ := aM ((q7z HB) : w.heap.size ≤ gb); have kb_ := aM ((hb.block bk (Nat.lt_of_lt_of_le hl (yn (q5z HB)))).trans HK.out); have hkz : w1.cell? ⟨bk, 0, none⟩ = some (.func (.func 77) #[] #[]) := zc kb_ 0; have hkf := blk_frozen kb_.out 0; clear HB; have HB := n1_; have BK := n2_; have GE := n3_; clear n1_ n2_ n3_; clear hb hbox hg; have hcz_1 : w1.cell? ⟨gb, 0, none⟩ = some (.int .i64 a0_0) := zc BK 0; have hfz_1 := blk_frozen BK.out 0; have hcz_2 : w1.cell? ⟨gb, 1, none⟩ = some (.int .i64 a0_1) := zc BK 1; have hfz_2 := blk_frozen BK.out 1; have hcz_3 : w1.cell? ⟨gb, 2, none⟩ = some (.int .i64 a0_2) := zc BK 2; have hfz_3 := blk_frozen BK.out 2; have hcz_4 : w1.cell? ⟨gb, 3, none⟩ = some (.int .i64 a0_3) := zc BK 3; have hfz_4 := blk_frozen BK.out 3; have hcz_5 : w1.cell? ⟨gb, 4, none⟩ = some (.int .i64 a0_4) := zc BK 4; have hfz_5 := blk_frozen BK.out 4; have hcz_6 : w1.cell? ⟨gb, 5, none⟩ = some (.int .i64 a0_5) := zc BK 5; have hfz_6 := blk_frozen BK.out 5; have hcz_7 : w1.cell? ⟨gb, 6, none⟩ = some (.int .i64 a0_6) := zc BK 6; have hfz_7 := blk_frozen BK.out 6))
 go_quiet (first | (go_at_call 77; (with_reducible refine (vec_works_8.calls a1 a2 t _ A1.out).mono ?_); rintro e w' ⟨rfl, ⟨nd, rfl⟩⟩; (try first | exact ⟨rfl, _, World.drewN_drewN _ _ _⟩ | exact ⟨rfl, _, Eq.trans (World.drewN_drewN _ _ _) (congrArg (World.drewN _) (Nat.add_assoc _ _ _))⟩)) | (go_at_call 49; (with_reducible refine (vec_Mask.calls a0_1 m _ A2.out).mono ?_); rintro e w' ⟨rfl, ⟨nd, rfl⟩⟩; (try first | exact ⟨rfl, _, World.drewN_drewN _ _ _⟩ | exact ⟨rfl, _, Eq.trans (World.drewN_drewN _ _ _) (congrArg (World.drewN _) (Nat.add_assoc _ _ _))⟩)))
 go_wp2
 go_ret
 exact ⟨q11z, q5z HB⟩
theorem vec_Do.by_9 (a0_0 a0_1 a0_2 a0_3 a0_4 a0_5 a0_6 a1 a2 a3 a4 : Int) (t : Int) (m : Int) (bk : Nat) (w : World) (hk : w.heap[bk]? = some (.cells #[.func (.func 78) #[] #[]] 90 (0, 0))) (h1 : vec_works_9.f a1 a2 = some t) (h2 : vec_Mask.f a0_1 = some m) :
  Calls Try.prog 87 #[.agg #[.int .i64 a0_0, .int .i64 a0_1, .int .i64 a0_2, .int .i64 a0_3, .int .i64 a0_4, .int .i64 a0_5, .int .i64 a0_6], .int .i64 a1, .int .i64 a2, .int .i64 a3, .int .i64 a4, .pointer (some ⟨bk, 0, none⟩)] w fun e w' => e = .returned (.int .i64 (Go.bits .and .i64 t m)) ∧ Below w.heap.size w w' := by
 have hu_ := Try.underlying41; have HB := aM (Below.refl w.heap.size w); have HK := aM hk; have hl := blk_lt hk; clear hk; have A1 := aM h1; have A2 := aM h2; clear h1 h2; go_enter Try.func87, Try.ntmps87
 go_wp2_with (((with_reducible refine zgd 6 rfl ?_); refine zbox 6 #[.int .i64 a0_0, .int .i64 a0_1, .int .i64 a0_2, .int .i64 a0_3, .int .i64 a0_4, .int .i64 a0_5, .int .i64 a0_6] 41 ?_; intro gb hg w1 hbox hb; have n1_ := aM (ym (q5z HB) hb); have n2_ := aM (hbox); have n3_ := aM ((q7z HB) : w.heap.size ≤ gb); have kb_ := aM ((hb.block bk (Nat.lt_of_lt_of_le hl (yn (q5z HB)))).trans HK.out); have hkz : w1.cell? ⟨bk, 0, none⟩ = some (.func (.func 78) #[] #[]) := zc kb_ 0; have hkf := blk_frozen kb_.out 0; clear HB; have HB := n1_; have BK := n2_; have GE := n3_; clear n1_ n2_ n3_; clear hb hbox hg; have hcz_1 : w1.cell? ⟨gb, 0, none⟩ = some (.int .i64 a0_0) := zc BK 0; have hfz_1 := blk_frozen BK.out 0; have hcz_2 : w1.cell? ⟨gb, 1, none⟩ = some (.int .i64 a0_1) := zc BK 1; have hfz_2 := blk_frozen BK.out 1; have hcz_3 : w1.cell? ⟨gb, 2, none⟩ = some (.int .i64 a0_2) := zc BK 2; have hfz_3 := blk_frozen BK.out 2; have hcz_4 : w1.cell? ⟨gb, 3, none⟩ = some (.int .i64 a0_3) := zc BK 3; have hfz_4 := blk_frozen BK.out 3; have hcz_5 : w1.cell? ⟨gb, 4, none⟩ = some (.int .i64 a0_4) := zc BK 4; have hfz_5 := blk_frozen BK.out 4; have hcz_6 : w1.cell? ⟨gb, 5, none⟩ = some (.int .i64 a0_5) := zc BK 5; have hfz_6 := blk_frozen BK.out 5; have hcz_7 : w1.cell? ⟨gb, 6, none⟩ = some (.int .i64 a0_6) := zc BK 6; have hfz_7 := blk_frozen BK.out 6))
 go_quiet (first | (go_at_call 78; (with_reducible refine (vec_works_9.calls a1 a2 t _ A1.out).mono ?_); rintro e w' ⟨rfl, ⟨nd, rfl⟩⟩; (try first | exact ⟨rfl, _, World.drewN_drewN _ _ _⟩ | exact ⟨rfl, _, Eq.trans (World.drewN_drewN _ _ _) (congrArg (World.drewN _) (Nat.add_assoc _ _ _))⟩)) | (go_at_call 49; (with_reducible refine (vec_Mask.calls a0_1 m _ A2.out).mono ?_); rintro e w' ⟨rfl, ⟨nd, rfl⟩⟩; (try first | exact ⟨rfl, _, World.drewN_drewN _ _ _⟩ | exact ⟨rfl, _, Eq.trans (World.drewN_drewN _ _ _) (congrArg (World.drewN _) (Nat.add_assoc _ _ _))⟩)))
 go_wp2
 go_ret
 exact ⟨q11z, q5z HB⟩
theorem vec_Do.by_10 (a0_0 a0_1 a0_2 a0_3 a0_4 a0_5 a0_6 a1 a2 a3 a4 : Int) (t : Int) (m : Int) (bk : Nat) (w : World) (hk : w.heap[bk]? = some (.cells #[.func (.func 79) #[] #[]] 90 (0, 0))) (h1 : vec_works_10.f a1 a2 = some t) (h2 : vec_Mask.f a0_1 = some m) :
  Calls Try.prog 87 #[.agg #[.int .i64 a0_0, .int .i64 a0_1, .int .i64 a0_2, .int .i64 a0_3, .int .i64 a0_4, .int .i64 a0_5, .int .i64 a0_6], .int .i64 a1, .int .i64 a2, .int .i64 a3, .int .i64 a4, .pointer (some ⟨bk, 0, none⟩)] w fun e w' => e = .returned (.int .i64 (Go.bits .and .i64 t m)) ∧ Below w.heap.size w w' := by
 have hu_ := Try.underlying41; have HB := aM (Below.refl w.heap.size w); have HK := aM hk; have hl := blk_lt hk; clear hk; have A1 := aM h1; have A2 := aM h2; clear h1 h2; go_enter Try.func87, Try.ntmps87
 go_wp2_with (((with_reducible refine zgd 6 rfl ?_); refine zbox 6 #[.int .i64 a0_0, .int .i64 a0_1, .int .i64 a0_2, .int .i64 a0_3, .int .i64 a0_4, .int .i64 a0_5, .int .i64 a0_6] 41 ?_; intro gb hg w1 hbox hb; have n1_ := aM (ym (q5z HB) hb); have n2_ := aM (hbox); have n3_ := aM ((q7z HB) : w.heap.size ≤ gb); have kb_ := aM ((hb.block bk (Nat.lt_of_lt_of_le hl (yn (q5z HB)))).trans HK.out); have hkz : w1.cell? ⟨bk, 0, none⟩ = some (.func (.func 79) #[] #[]) := zc kb_ 0; have hkf := blk_frozen kb_.out 0; clear HB; have HB := n1_; have BK := n2_; have GE := n3_; clear n1_ n2_ n3_; clear hb hbox hg; have hcz_1 : w1.cell? ⟨gb, 0, none⟩ = some (.int .i64 a0_0) := zc BK 0; have hfz_1 := blk_frozen BK.out 0; have hcz_2 : w1.cell? ⟨gb, 1, none⟩ = some (.int .i64 a0_1) := zc BK 1; have hfz_2 := blk_frozen BK.out 1; have hcz_3 : w1.cell? ⟨gb, 2, none⟩ = some (.int .i64 a0_2) := zc BK 2; have hfz_3 := blk_frozen BK.out 2; have hcz_4 : w1.cell? ⟨gb, 3, none⟩ = some (.int .i64 a0_3) := zc BK 3; have hfz_4 := blk_frozen BK.out 3; have hcz_5 : w1.cell? ⟨gb, 4, none⟩ = some (.int .i64 a0_4) := zc BK 4; have hfz_5 := blk_frozen BK.out 4; have hcz_6 : w1.cell? ⟨gb, 5, none⟩ = some (.int .i64 a0_5) := zc BK 5; have hfz_6 := blk_frozen BK.out 5; have hcz_7 : w1.cell? ⟨gb, 6, none⟩ = some (.int .i64 a0_6) := zc BK 6; have hfz_7 := blk_frozen BK.out 6))
 go_quiet (first | (go_at_call 79; (with_reducible refine (vec_works_10.calls a1 a2 t _ A1.out).mono ?_); rintro e w' ⟨rfl, ⟨nd, rfl⟩⟩; (try first | exact ⟨rfl, _, World.drewN_drewN _ _ _⟩ | exact ⟨rfl, _, Eq.trans (World.drewN_drewN _ _ _) (congrArg (World.drewN _) (Nat.add_assoc _ _ _))⟩)) | (go_at_call 49; (with_reducible refine (vec_Mask.calls a0_1 m _ A2.out).mono ?_); rintro e w' ⟨rfl, ⟨nd, rfl⟩⟩; (try first | exact ⟨rfl, _, World.drewN_drewN _ _ _⟩ | exact ⟨rfl, _, Eq.trans (World.drewN_drewN _ _ _) (congrArg (World.drewN _) (Nat.add_assoc _ _ _))⟩)))
 go_wp2
 go_ret
 exact ⟨q11z, q5z HB⟩
theorem vec_Do.by_3 (a0_0 a0_1 a0_2 a0_3 a0_4 a0_5 a0_6 a1 a2 a3 a4 : Int) (t : Bool) (m : Int) (bk : Nat) (w : World) (hk : w.heap[bk]? = some (.cells #[.func (.func 71) #[] #[]] 92 (0, 0))) (h1 : vec_works_3.f a1 a2 = some t) (h2 : vec_flag.f t = some m) :
  Calls Try.prog 88 #[.agg #[.int .i64 a0_0, .int .i64 a0_1, .int .i64 a0_2, .int .i64 a0_3, .int .i64 a0_4, .int .i64 a0_5, .int .i64 a0_6], .int .i64 a1, .int .i64 a2, .int .i64 a3, .int .i64 a4, .pointer (some ⟨bk, 0, none⟩)] w fun e w' => e = .returned (.int .i64 (m)) ∧ Below w.heap.size w w' := by
 have hu_ := Try.underlying41; have HB := aM (Below.refl w.heap.size w); have HK := aM hk; have hl := blk_lt hk; clear hk; have A1 := aM h1; have A2 := aM h2; clear h1 h2; go_enter Try.func88, Try.ntmps88
 go_wp2_with (first | ((with_reducible refine zgd 6 rfl ?_); refine zbox 6 #[.int .i64 a0_0, .int .i64 a0_1, .int .i64 a0_2, .int .i64 a0_3, .int .i64 a0_4, .int .i64 a0_5, .int .i64 a0_6] 41 ?_; intro gb hg w1 hbox hb; have n1_ := aM (ym (q5z HB) hb); have n2_ := aM (hbox); have n3_ := aM ((q7z HB) : w.heap.size ≤ gb); have kb_ := aM ((hb.block bk (Nat.lt_of_lt_of_le hl (yn (q5z HB)))).trans HK.out); have hkz : w1.cell? ⟨bk, 0, none⟩ = some (.func (.func 71) #[] #[]) := zc kb_ 0; have hkf := blk_frozen kb_.out 0; clear HB; have HB := n1_; have BK := n2_; have GE := n3_; clear n1_ n2_ n3_; clear hb hbox hg; have hcz_1 : w1.cell? ⟨gb, 0, none⟩ = some (.int .i64 a0_0) := zc BK 0; have hfz_1 := blk_frozen BK.out 0; have hcz_2 : w1.cell? ⟨gb, 1, none⟩ = some (.int .i64 a0_1) := zc BK 1; have hfz_2 := blk_frozen BK.out 1; have hcz_3 : w1.cell? ⟨gb, 2, none⟩ = some (.int .i64 a0_2) := zc BK 2; have hfz_3 := blk_frozen BK.out 2; have hcz_4 : w1.cell? ⟨gb, 3, none⟩ = some (.int .i64 a0_3) := zc BK 3; have hfz_4 := blk_frozen BK.out 3; have hcz_5 : w1.cell? ⟨gb, 4, none⟩ = some (.int .i64 a0_4) := zc BK 4; have hfz_5 := blk_frozen BK.out 4; have hcz_6 : w1.cell? ⟨gb, 5, none⟩ = some (.int .i64 a0_5) := zc BK 5; have hfz_6 := blk_frozen BK.out 5; have hcz_7 : w1.cell? ⟨gb, 6, none⟩ = some (.int .i64 a0_6) := zc BK 6; have hfz_7 := blk_frozen BK.out 6) | (go_at_call 71; (with_reducible refine (vec_works_3.calls a1 a2 t _ A1.out).mono ?_); rintro e w' ⟨rfl, ⟨nd, rfl⟩⟩; (try first | exact ⟨rfl, _, World.drewN_drewN _ _ _⟩ | exact ⟨rfl, _, Eq.trans (World.drewN_drewN _ _ _) (congrArg (World.drewN _) (Nat.add_assoc _ _ _))⟩)) | (go_at_call 73; (with_reducible refine (vec_flag.calls t m _ A2.out).mono ?_); rintro e w' ⟨rfl, ⟨nd, rfl⟩⟩; (try first | exact ⟨rfl, _, World.drewN_drewN _ _ _⟩ | exact ⟨rfl, _, Eq.trans (World.drewN_drewN _ _ _) (congrArg (World.drewN _) (Nat.add_assoc _ _ _))⟩)))
 go_ret
 exact ⟨q11z, q5z HB⟩
theorem vec_Do.by_11 (a0_0 a0_1 a0_2 a0_3 a0_4 a0_5 a0_6 a1 a2 a3 a4 : Int) (t : Bool) (m : Int) (bk : Nat) (w : World) (hk : w.heap[bk]? = some (.cells #[.func (.func 80) #[] #[]] 92 (0, 0))) (h1 : vec_works_11.f a1 a2 = some t) (h2 : vec_flag.f t = some m) :
  Calls Try.prog 88 #[.agg #[.int .i64 a0_0, .int .i64 a0_1, .int .i64 a0_2, .int .i64 a0_3, .int .i64 a0_4, .int .i64 a0_5, .int .i64 a0_6], .int .i64 a1, .int .i64 a2, .int .i64 a3, .int .i64 a4, .pointer (some ⟨bk, 0, none⟩)] w fun e w' => e = .returned (.int .i64 (m)) ∧ Below w.heap.size w w' := by
 have hu_ := Try.underlying41; have HB := aM (Below.refl w.heap.size w); have HK := aM hk; have hl := blk_lt hk; clear hk; have A1 := aM h1; have A2 := aM h2; clear h1 h2; go_enter Try.func88, Try.ntmps88
 go_wp2_with (first | ((with_reducible refine zgd 6 rfl ?_); refine zbox 6 #[.int .i64 a0_0, .int .i64 a0_1, .int .i64 a0_2, .int .i64 a0_3, .int .i64 a0_4, .int .i64 a0_5, .int .i64 a0_6] 41 ?_; intro gb hg w1 hbox hb; have n1_ := aM (ym (q5z HB) hb); have n2_ := aM (hbox); have n3_ := aM ((q7z HB) : w.heap.size ≤ gb); have kb_ := aM ((hb.block bk (Nat.lt_of_lt_of_le hl (yn (q5z HB)))).trans HK.out); have hkz : w1.cell? ⟨bk, 0, none⟩ = some (.func (.func 80) #[] #[]) := zc kb_ 0; have hkf := blk_frozen kb_.out 0; clear HB; have HB := n1_; have BK := n2_; have GE := n3_; clear n1_ n2_ n3_; clear hb hbox hg; have hcz_1 : w1.cell? ⟨gb, 0, none⟩ = some (.int .i64 a0_0) := zc BK 0; have hfz_1 := blk_frozen BK.out 0; have hcz_2 : w1.cell? ⟨gb, 1, none⟩ = some (.int .i64 a0_1) := zc BK 1; have hfz_2 := blk_frozen BK.out 1; have hcz_3 : w1.cell? ⟨gb, 2, none⟩ = some (.int .i64 a0_2) := zc BK 2; have hfz_3 := blk_frozen BK.out 2; have hcz_4 : w1.cell? ⟨gb, 3, none⟩ = some (.int .i64 a0_3) := zc BK 3; have hfz_4 := blk_frozen BK.out 3; have hcz_5 : w1.cell? ⟨gb, 4, none⟩ = some (.int .i64 a0_4) := zc BK 4; have hfz_5 := blk_frozen BK.out 4; have hcz_6 : w1.cell? ⟨gb, 5, none⟩ = some (.int .i64 a0_5) := zc BK 5; have hfz_6 := blk_frozen BK.out 5; have hcz_7 : w1.cell? ⟨gb, 6, none⟩ = some (.int .i64 a0_6) := zc BK 6; have hfz_7 := blk_frozen BK.out 6) | (go_at_call 80; (with_reducible refine (vec_works_11.calls a1 a2 t _ A1.out).mono ?_); rintro e w' ⟨rfl, ⟨nd, rfl⟩⟩; (try first | exact ⟨rfl, _, World.drewN_drewN _ _ _⟩ | exact ⟨rfl, _, Eq.trans (World.drewN_drewN _ _ _) (congrArg (World.drewN _) (Nat.add_assoc _ _ _))⟩)) | (go_at_call 73; (with_reducible refine (vec_flag.calls t m _ A2.out).mono ?_); rintro e w' ⟨rfl, ⟨nd, rfl⟩⟩; (try first | exact ⟨rfl, _, World.drewN_drewN _ _ _⟩ | exact ⟨rfl, _, Eq.trans (World.drewN_drewN _ _ _) (congrArg (World.drewN _) (Nat.add_assoc _ _ _))⟩)))
 go_ret
 exact ⟨q11z, q5z HB⟩
theorem vec_Do.by_12 (a0_0 a0_1 a0_2 a0_3 a0_4 a0_5 a0_6 a1 a2 a3 a4 : Int) (t : Bool) (m : Int) (bk : Nat) (w : World) (hk : w.heap[bk]? = some (.cells #[.func (.func 81) #[] #[]] 92 (0, 0))) (h1 : vec_works_12.f a1 a2 = some t) (h2 : vec_flag.f t = some m) :
  Calls Try.prog 88 #[.agg #[.int .i64 a0_0, .int .i64 a0_1, .int .i64 a0_2, .int .i64 a0_3, .int .i64 a0_4, .int .i64 a0_5, .int .i64 a0_6], .int .i64 a1, .int .i64 a2, .int .i64 a3, .int .i64 a4, .pointer (some ⟨bk, 0, none⟩)] w fun e w' => e = .returned (.int .i64 (m)) ∧ Below w.heap.size w w' := by
 have hu_ := Try.underlying41; have HB := aM (Below.refl w.heap.size w); have HK := aM hk; have hl := blk_lt hk; clear hk; have A1 := aM h1; have A2 := aM h2; clear h1 h2; go_enter Try.func88, Try.ntmps88
 go_wp2_with (first | ((with_reducible refine zgd 6 rfl ?_); refine zbox 6 #[.int .i64 a0_0, .int .i64 a0_1, .int .i64 a0_2, .int .i64 a0_3, .int .i64 a0_4, .int .i64 a0_5, .int .i64 a0_6] 41 ?_; intro gb hg w1 hbox hb; have n1_ := aM (ym (q5z HB) hb); have n2_ := aM (hbox); have n3_ := aM ((q7z HB) : w.heap.size ≤ gb); have kb_ := aM ((hb.block bk (Nat.lt_of_lt_of_le hl (yn (q5z HB)))).trans HK.out); have hkz : w1.cell? ⟨bk, 0, none⟩ = some (.func (.func 81) #[] #[]) := zc kb_ 0; have hkf := blk_frozen kb_.out 0; clear HB; have HB := n1_; have BK := n2_; have GE := n3_; clear n1_ n2_ n3_; clear hb hbox hg; have hcz_1 : w1.cell? ⟨gb, 0, none⟩ = some (.int .i64 a0_0) := zc BK 0; have hfz_1 := blk_frozen BK.out 0; have hcz_2 : w1.cell? ⟨gb, 1, none⟩ = some (.int .i64 a0_1) := zc BK 1; have hfz_2 := blk_frozen BK.out 1; have hcz_3 : w1.cell? ⟨gb, 2, none⟩ = some (.int .i64 a0_2) := zc BK 2; have hfz_3 := blk_frozen BK.out 2; have hcz_4 : w1.cell? ⟨gb, 3, none⟩ = some (.int .i64 a0_3) := zc BK 3; have hfz_4 := blk_frozen BK.out 3; have hcz_5 : w1.cell? ⟨gb, 4, none⟩ = some (.int .i64 a0_4) := zc BK 4; have hfz_5 := blk_frozen BK.out 4; have hcz_6 : w1.cell? ⟨gb, 5, none⟩ = some (.int .i64 a0_5) := zc BK 5; have hfz_6 := blk_frozen BK.out 5; have hcz_7 : w1.cell? ⟨gb, 6, none⟩ = some (.int .i64 a0_6) := zc BK 6; have hfz_7 := blk_frozen BK.out 6) | (go_at_call 81; (with_reducible refine (vec_works_12.calls a1 a2 t _ A1.out).mono ?_); rintro e w' ⟨rfl, ⟨nd, rfl⟩⟩; (try first | exact ⟨rfl, _, World.drewN_drewN _ _ _⟩ | exact ⟨rfl, _, Eq.trans (World.drewN_drewN _ _ _) (congrArg (World.drewN _) (Nat.add_assoc _ _ _))⟩)) | (go_at_call 73; (with_reducible refine (vec_flag.calls t m _ A2.out).mono ?_); rintro e w' ⟨rfl, ⟨nd, rfl⟩⟩; (try first | exact ⟨rfl, _, World.drewN_drewN _ _ _⟩ | exact ⟨rfl, _, Eq.trans (World.drewN_drewN _ _ _) (congrArg (World.drewN _) (Nat.add_assoc _ _ _))⟩)))
 go_ret
 exact ⟨q11z, q5z HB⟩
theorem vec_Do.by_13 (a0_0 a0_1 a0_2 a0_3 a0_4 a0_5 a0_6 a1 a2 a3 a4 : Int) (t : Bool) (m : Int) (bk : Nat) (w : World) (hk : w.heap[bk]? = some (.cells #[.func (.func 82) #[] #[]] 92 (0, 0))) (h1 : vec_works_13.f a1 a2 = some t) (h2 : vec_flag.f t = some m) :
  Calls Try.prog 88 #[.agg #[.int .i64 a0_0, .int .i64 a0_1, .int .i64 a0_2, .int .i64 a0_3, .int .i64 a0_4, .int .i64 a0_5, .int .i64 a0_6], .int .i64 a1, .int .i64 a2, .int .i64 a3, .int .i64 a4, .pointer (some ⟨bk, 0, none⟩)] w fun e w' => e = .returned (.int .i64 (m)) ∧ Below w.heap.size w w' := by
 have hu_ := Try.underlying41; have HB := aM (Below.refl w.heap.size w); have HK := aM hk; have hl := blk_lt hk; clear hk; have A1 := aM h1; have A2 := aM h2; clear h1 h2; go_enter Try.func88, Try.ntmps88
 go_wp2_with (first | ((with_reducible refine zgd 6 rfl ?_); refine zbox 6 #[.int .i64 a0_0, .int .i64 a0_1, .int .i64 a0_2, .int .i64 a0_3, .int .i64 a0_4, .int .i64 a0_5, .int .i64 a0_6] 41 ?_; intro gb hg w1 hbox hb; have n1_ := aM (ym (q5z HB) hb); have n2_ := aM (hbox); have n3_ := aM ((q7z HB) : w.heap.size ≤ gb); have kb_ := aM ((hb.block bk (Nat.lt_of_lt_of_le hl (yn (q5z HB)))).trans HK.out); have hkz : w1.cell? ⟨bk, 0, none⟩ = some (.func (.func 82) #[] #[]) := zc kb_ 0; have hkf := blk_frozen kb_.out 0; clear HB; have HB := n1_; have BK := n2_; have GE := n3_; clear n1_ n2_ n3_; clear hb hbox hg; have hcz_1 : w1.cell? ⟨gb, 0, none⟩ = some (.int .i64 a0_0) := zc BK 0; have hfz_1 := blk_frozen BK.out 0; have hcz_2 : w1.cell? ⟨gb, 1, none⟩ = some (.int .i64 a0_1) := zc BK 1; have hfz_2 := blk_frozen BK.out 1; have hcz_3 : w1.cell? ⟨gb, 2, none⟩ = some (.int .i64 a0_2) := zc BK 2; have hfz_3 := blk_frozen BK.out 2; have hcz_4 : w1.cell? ⟨gb, 3, none⟩ = some (.int .i64 a0_3) := zc BK 3; have hfz_4 := blk_frozen BK.out 3; have hcz_5 : w1.cell? ⟨gb, 4, none⟩ = some (.int .i64 a0_4) := zc BK 4; have hfz_5 := blk_frozen BK.out 4; have hcz_6 : w1.cell? ⟨gb, 5, none⟩ = some (.int .i64 a0_5) := zc BK 5; have hfz_6 := blk_frozen BK.out 5; have hcz_7 : w1.cell? ⟨gb, 6, none⟩ = some (.int .i64 a0_6) := zc BK 6; have hfz_7 := blk_frozen BK.out 6) | (go_at_call 82; (with_reducible refine (vec_works_13.calls a1 a2 t _ A1.out).mono ?_); rintro e w' ⟨rfl, ⟨nd, rfl⟩⟩; (try first | exact ⟨rfl, _, World.drewN_drewN _ _ _⟩ | exact ⟨rfl, _, Eq.trans (World.drewN_drewN _ _ _) (congrArg (World.drewN _) (Nat.add_assoc _ _ _))⟩)) | (go_at_call 73; (with_reducible refine (vec_flag.calls t m _ A2.out).mono ?_); rintro e w' ⟨rfl, ⟨nd, rfl⟩⟩; (try first | exact ⟨rfl, _, World.drewN_drewN _ _ _⟩ | exact ⟨rfl, _, Eq.trans (World.drewN_drewN _ _ _) (congrArg (World.drewN _) (Nat.add_assoc _ _ _))⟩)))
 go_ret
 exact ⟨q11z, q5z HB⟩
theorem vec_Do.by_14 (a0_0 a0_1 a0_2 a0_3 a0_4 a0_5 a0_6 a1 a2 a3 a4 : Int) (t : Bool) (m : Int) (bk : Nat) (w : World) (hk : w.heap[bk]? = some (.cells #[.func (.func 83) #[] #[]] 92 (0, 0))) (h1 : vec_works_14.f a1 a2 = some t) (h2 : vec_flag.f t = some m) :
  Calls Try.prog 88 #[.agg #[.int .i64 a0_0, .int .i64 a0_1, .int .i64 a0_2, .int .i64 a0_3, .int .i64 a0_4, .int .i64 a0_5, .int .i64 a0_6], .int .i64 a1, .int .i64 a2, .int .i64 a3, .int .i64 a4, .pointer (some ⟨bk, 0, none⟩)] w fun e w' => e = .returned (.int .i64 (m)) ∧ Below w.heap.size w w' := by
 have hu_ := Try.underlying41; have HB := aM (Below.refl w.heap.size w); have HK := aM hk; have hl := blk_lt hk; clear hk; have A1 := aM h1; have A2 := aM h2; clear h1 h2; go_enter Try.func88, Try.ntmps88
 go_wp2_with (first | ((with_reducible refine zgd 6 rfl ?_); refine zbox 6 #[.int .i64 a0_0, .int .i64 a0_1, .int .i64 a0_2, .int .i64 a0_3, .int .i64 a0_4, .int .i64 a0_5, .int .i64 a0_6] 41 ?_; intro gb hg w1 hbox hb; have n1_ := aM (ym (q5z HB) hb); have n2_ := aM (hbox); have n3_ := aM ((q7z HB) : w.heap.size ≤ gb); have kb_ := aM ((hb.block bk (Nat.lt_of_lt_of_le hl (yn (q5z HB)))).trans HK.out); have hkz : w1.cell? ⟨bk, 0, none⟩ = some (.func (.func 83) #[] #[]) := zc kb_ 0; have hkf := blk_frozen kb_.out 0; clear HB; have HB := n1_; have BK := n2_; have GE := n3_; clear n1_ n2_ n3_; clear hb hbox hg; have hcz_1 : w1.cell? ⟨gb, 0, none⟩ = some (.int .i64 a0_0) := zc BK 0; have hfz_1 := blk_frozen BK.out 0; have hcz_2 : w1.cell? ⟨gb, 1, none⟩ = some (.int .i64 a0_1) := zc BK 1; have hfz_2 := blk_frozen BK.out 1; have hcz_3 : w1.cell? ⟨gb, 2, none⟩ = some (.int .i64 a0_2) := zc BK 2; have hfz_3 := blk_frozen BK.out 2; have hcz_4 : w1.cell? ⟨gb, 3, none⟩ = some (.int .i64 a0_3) := zc BK 3; have hfz_4 := blk_frozen BK.out 3; have hcz_5 : w1.cell? ⟨gb, 4, none⟩ = some (.int .i64 a0_4) := zc BK 4; have hfz_5 := blk_frozen BK.out 4; have hcz_6 : w1.cell? ⟨gb, 5, none⟩ = some (.int .i64 a0_5) := zc BK 5; have hfz_6 := blk_frozen BK.out 5; have hcz_7 : w1.cell? ⟨gb, 6, none⟩ = some (.int .i64 a0_6) := zc BK 6; have hfz_7 := blk_frozen BK.out 6) | (go_at_call 83; (with_reducible refine (vec_works_14.calls a1 a2 t _ A1.out).mono ?_); rintro e w' ⟨rfl, ⟨nd, rfl⟩⟩; (try first | exact ⟨rfl, _, World.drewN_drewN _ _ _⟩ | exact ⟨rfl, _, Eq.trans (World.drewN_drewN _ _ _) (congrArg (World.drewN _) (Nat.add_assoc _ _ _))⟩)) | (go_at_call 73; (with_reducible refine (vec_flag.calls t m _ A2.out).mono ?_); rintro e w' ⟨rfl, ⟨nd, rfl⟩⟩; (try first | exact ⟨rfl, _, World.drewN_drewN _ _ _⟩ | exact ⟨rfl, _, Eq.trans (World.drewN_drewN _ _ _) (congrArg (World.drewN _) (Nat.add_assoc _ _ _))⟩)))
 go_ret
 exact ⟨q11z, q5z HB⟩
theorem vec_Do.two (G : FuncId) (w : World) : Calls Try.prog 68 #[.func (.func G) #[] #[]] w fun e w' => ∃ b, e = .returned (.func (.func 87) #[] #[.pointer (some ⟨b, 0, none⟩)]) ∧ w'.heap[b]? = some (.cells #[.func (.func G) #[] #[]] 90 (0, 0)) ∧ w.heap.size ≤ b ∧ Below w.heap.size w w' := by
 have hmf : ∀ (fn : Fn) (first cap : Array Value) (w : World), (Instr.makeFunc fn first cap).run Try.prog w = .ok (.func fn first cap) w := fun _ _ _ _ => rfl
 have hu_ := Try.underlying90; have HB := aM (Below.refl w.heap.size w); go_enter Try.func68, Try.ntmps68
 go_wp2_with (first | ((with_reducible refine zgd 1 rfl ?_); refine zbox 1 #[.func (.func G) #[] #[]] 90 ?_; intro gb hg w1 hbox hb; have BK := aM (hbox); have GE := aM ((q7z HB) : w.heap.size ≤ gb); replace HB := aM (ym (q5z HB) hb); clear hb hbox hg))
 repeat (go_quiet (first | ((with_reducible refine zgd 1 rfl ?_); refine zbox 1 #[.func (.func G) #[] #[]] 90 ?_; intro gb hg w1 hbox hb; have BK := aM (hbox); have GE := aM ((q7z HB) : w.heap.size ≤ gb); replace HB := aM (ym (q5z HB) hb); clear hb hbox hg)); try go_wp2_with (first | ((with_reducible refine zgd 1 rfl ?_); refine zbox 1 #[.func (.func G) #[] #[]] 90 ?_; intro gb hg w1 hbox hb; have BK := aM (hbox); have GE := aM ((q7z HB) : w.heap.size ≤ gb); replace HB := aM (ym (q5z HB) hb); clear hb hbox hg)))
 go_ret
 exact ⟨_, rfl, by (with_reducible repeat (first | refine ya ?_ _ | refine yc ?_)); exact BK.out, GE.out, by repeat (first | (with_reducible first | exact HB.out | apply yj | apply yk) | exact HB.out)⟩
theorem vec_Do.asked (G : FuncId) (w : World) : Calls Try.prog 70 #[.func (.func G) #[] #[]] w fun e w' => ∃ b, e = .returned (.func (.func 88) #[] #[.pointer (some ⟨b, 0, none⟩)]) ∧ w'.heap[b]? = some (.cells #[.func (.func G) #[] #[]] 92 (0, 0)) ∧ w.heap.size ≤ b ∧ Below w.heap.size w w' := by
 have hmf : ∀ (fn : Fn) (first cap : Array Value) (w : World), (Instr.makeFunc fn first cap).run Try.prog w = .ok (.func fn first cap) w := fun _ _ _ _ => rfl
 have hu_ := Try.underlying92; have HB := aM (Below.refl w.heap.size w); go_enter Try.func70, Try.ntmps70
 go_wp2_with (first | ((with_reducible refine zgd 1 rfl ?_); refine zbox 1 #[.func (.func G) #[] #[]] 92 ?_; intro gb hg w1 hbox hb; have BK := aM (hbox); have GE := aM ((q7z HB) : w.heap.size ≤ gb); replace HB := aM (ym (q5z HB) hb); clear hb hbox hg))
 repeat (go_quiet (first | ((with_reducible refine zgd 1 rfl ?_); refine zbox 1 #[.func (.func G) #[] #[]] 92 ?_; intro gb hg w1 hbox hb; have BK := aM (hbox); have GE := aM ((q7z HB) : w.heap.size ≤ gb); replace HB := aM (ym (q5z HB) hb); clear hb hbox hg)); try go_wp2_with (first | ((with_reducible refine zgd 1 rfl ?_); refine zbox 1 #[.func (.func G) #[] #[]] 92 ?_; intro gb hg w1 hbox hb; have BK := aM (hbox); have GE := aM ((q7z HB) : w.heap.size ≤ gb); replace HB := aM (ym (q5z HB) hb); clear hb hbox hg)))
 go_ret
 exact ⟨_, rfl, by (with_reducible repeat (first | refine ya ?_ _ | refine yc ?_)); exact BK.out, GE.out, by repeat (first | (with_reducible first | exact HB.out | apply yj | apply yk) | exact HB.out)⟩
def vec_Do.kvs (b2 b3 b5 b6 b7 b8 b9 b10 b11 b12 b13 b14 : Nat) : List (Value × Value) := [(.int .i64 1, .func (.func 67) #[] #[]), (.int .i64 3, .func (.func 87) #[] #[.pointer (some ⟨b2, 0, none⟩)]), (.int .i64 4, .func (.func 88) #[] #[.pointer (some ⟨b3, 0, none⟩)]), (.int .i64 5, .func (.func 72) #[] #[]), (.int .i64 6, .func (.func 87) #[] #[.pointer (some ⟨b5, 0, none⟩)]), (.int .i64 7, .func (.func 87) #[] #[.pointer (some ⟨b6, 0, none⟩)]), (.int .i64 8, .func (.func 87) #[] #[.pointer (some ⟨b7, 0, none⟩)]), (.int .i64 9, .func (.func 87) #[] #[.pointer (some ⟨b8, 0, none⟩)]), (.int .i64 10, .func (.func 87) #[] #[.pointer (some ⟨b9, 0, none⟩)]), (.int .i64 11, .func (.func 87) #[] #[.pointer (some ⟨b10, 0, none⟩)]), (.int .i64 12, .func (.func 88) #[] #[.pointer (some ⟨b11, 0, none⟩)]), (.int .i64 13, .func (.func 88) #[] #[.pointer (some ⟨b12, 0, none⟩)]), (.int .i64 14, .func (.func 88) #[] #[.pointer (some ⟨b13, 0, none⟩)]), (.int .i64 15, .func (.func 88) #[] #[.pointer (some ⟨b14, 0, none⟩)]), (.int .i64 16, .func (.func 84) #[] #[]), (.int .i64 17, .func (.func 85) #[] #[]), (.int .i64 18, .func (.func 86) #[] #[])]
def vec_Do.fls (b2 b3 b5 b6 b7 b8 b9 b10 b11 b12 b13 b14 : Nat) : List (Nat × FuncId × TypeId) := [(b2, 69, 90), (b3, 71, 92), (b5, 74, 90), (b6, 75, 90), (b7, 76, 90), (b8, 77, 90), (b9, 78, 90), (b10, 79, 90), (b11, 80, 92), (b12, 81, 92), (b13, 82, 92), (b14, 83, 92)]
def vec_Do.Made (w : World) (e : Ending) (w' : World) : Prop := ∃ g b2 b3 b5 b6 b7 b8 b9 b10 b11 b12 b13 b14, e = .returned (.map (some g)) ∧ vec_Do.St w g (vec_Do.kvs b2 b3 b5 b6 b7 b8 b9 b10 b11 b12 b13 b14) (vec_Do.fls b2 b3 b5 b6 b7 b8 b9 b10 b11 b12 b13 b14) w'
theorem vec_Do.works (w : World) : Calls Try.prog 54 #[] w fun e w' => vec_Do.Made w e w' := by
 have hmf : ∀ (fn : Fn) (first cap : Array Value) (w : World), (Instr.makeFunc fn first cap).run Try.prog w = .ok (.func fn first cap) w := fun _ _ _ _ => rfl
 have hu_ := Try.underlying85; go_enter Try.func54, Try.ntmps54
 go_wp2_with (first | (refine vec_Do.ins_event HS.out rfl _ _ _ _ _ rfl rfl rfl rfl (by rfl) (by simp) ?_; intro w1 hs_; clear HS; have HS := aM hs_; clear hs_) | (go_at_call 68; refine (vec_Do.two _ _).mono ?_; rintro e w1 ⟨b, rfl, hc_, hn_, hb_⟩; have hs_ := HS.out.call hb_ hn_ hc_; clear HS hb_ hn_ hc_; have HS := aM hs_; clear hs_) | (go_at_call 70; refine (vec_Do.asked _ _).mono ?_; rintro e w1 ⟨b, rfl, hc_, hn_, hb_⟩; have hs_ := HS.out.call hb_ hn_ hc_; clear HS hb_ hn_ hc_; have HS := aM hs_; clear hs_) | ((with_reducible refine gate_dst (N := 1) rfl ?_); refine vec_Do.map_event ?hg (N := 1) ?hd ?hr ?_; (case hd => rfl); (case hg => rfl); (case hr => exact q30z); intro g w1 hs_; have HS := aM hs_; clear hs_))
 repeat (go_quiet (first | (refine vec_Do.ins_event HS.out rfl _ _ _ _ _ rfl rfl rfl rfl (by rfl) (by simp) ?_; intro w1 hs_; clear HS; have HS := aM hs_; clear hs_) | (go_at_call 68; refine (vec_Do.two _ _).mono ?_; rintro e w1 ⟨b, rfl, hc_, hn_, hb_⟩; have hs_ := HS.out.call hb_ hn_ hc_; clear HS hb_ hn_ hc_; have HS := aM hs_; clear hs_) | (go_at_call 70; refine (vec_Do.asked _ _).mono ?_; rintro e w1 ⟨b, rfl, hc_, hn_, hb_⟩; have hs_ := HS.out.call hb_ hn_ hc_; clear HS hb_ hn_ hc_; have HS := aM hs_; clear hs_) | ((with_reducible refine gate_dst (N := 1) rfl ?_); refine vec_Do.map_event ?hg (N := 1) ?hd ?hr ?_; (case hd => rfl); (case hg => rfl); (case hr => exact q30z); intro g w1 hs_; have HS := aM hs_; clear hs_)); try go_wp2_with (first | (refine vec_Do.ins_event HS.out rfl _ _ _ _ _ rfl rfl rfl rfl (by rfl) (by simp) ?_; intro w1 hs_; clear HS; have HS := aM hs_; clear hs_) | (go_at_call 68; refine (vec_Do.two _ _).mono ?_; rintro e w1 ⟨b, rfl, hc_, hn_, hb_⟩; have hs_ := HS.out.call hb_ hn_ hc_; clear HS hb_ hn_ hc_; have HS := aM hs_; clear hs_) | (go_at_call 70; refine (vec_Do.asked _ _).mono ?_; rintro e w1 ⟨b, rfl, hc_, hn_, hb_⟩; have hs_ := HS.out.call hb_ hn_ hc_; clear HS hb_ hn_ hc_; have HS := aM hs_; clear hs_) | ((with_reducible refine gate_dst (N := 1) rfl ?_); refine vec_Do.map_event ?hg (N := 1) ?hd ?hr ?_; (case hd => rfl); (case hg => rfl); (case hr => exact q30z); intro g w1 hs_; have HS := aM hs_; clear hs_)))
 go_ret
 exact ⟨_, _, _, _, _, _, _, _, _, _, _, _, _, rfl, HS.out⟩
def vec_Do.f (a0_0 a0_1 a0_2 a0_3 a0_4 a0_5 a0_6 a1 a2 a3 a4 : Int) : Option (Int) := if (Lit.int .i64 a0_0).wf = true then (if a0_0 = 1 then (vec_works_1.f 1 a0_1 a0_2 a0_3 a0_4 a0_5 a0_6 a1 a2 a3 a4) else (if a0_0 = 3 then ((vec_works_2.f a1 a2).bind fun t => (vec_Mask.f a0_1).bind fun m => some (Go.bits .and .i64 t m)) else (if a0_0 = 4 then ((vec_works_3.f a1 a2).bind fun t => vec_flag.f t) else (if a0_0 = 5 then (vec_works_4.f 5 a0_1 a0_2 a0_3 a0_4 a0_5 a0_6 a1 a2 a3 a4) else (if a0_0 = 6 then ((vec_works_5.f a1 a2).bind fun t => (vec_Mask.f a0_1).bind fun m => some (Go.bits .and .i64 t m)) else (if a0_0 = 7 then ((vec_works_6.f a1 a2).bind fun t => (vec_Mask.f a0_1).bind fun m => some (Go.bits .and .i64 t m)) else (if a0_0 = 8 then ((vec_works_7.f a1 a2).bind fun t => (vec_Mask.f a0_1).bind fun m => some (Go.bits .and .i64 t m)) else (if a0_0 = 9 then ((vec_works_8.f a1 a2).bind fun t => (vec_Mask.f a0_1).bind fun m => some (Go.bits .and .i64 t m)) else (if a0_0 = 10 then ((vec_works_9.f a1 a2).bind fun t => (vec_Mask.f a0_1).bind fun m => some (Go.bits .and .i64 t m)) else (if a0_0 = 11 then ((vec_works_10.f a1 a2).bind fun t => (vec_Mask.f a0_1).bind fun m => some (Go.bits .and .i64 t m)) else (if a0_0 = 12 then ((vec_works_11.f a1 a2).bind fun t => vec_flag.f t) else (if a0_0 = 13 then ((vec_works_12.f a1 a2).bind fun t => vec_flag.f t) else (if a0_0 = 14 then ((vec_works_13.f a1 a2).bind fun t => vec_flag.f t) else (if a0_0 = 15 then ((vec_works_14.f a1 a2).bind fun t => vec_flag.f t) else (if a0_0 = 16 then (vec_works_15.f 16 a0_1 a0_2 a0_3 a0_4 a0_5 a0_6 a1 a2 a3 a4) else (if a0_0 = 17 then (vec_works_16.f 17 a0_1 a0_2 a0_3 a0_4 a0_5 a0_6 a1 a2 a3 a4) else (if a0_0 = 18 then (vec_works_17.f 18 a0_1 a0_2 a0_3 a0_4 a0_5 a0_6 a1 a2 a3 a4) else (some 0)))))))))))))))))) else none
theorem vec_Do.run (a0_0 a0_1 a0_2 a0_3 a0_4 a0_5 a0_6 a1 a2 a3 a4 : Int) (r : Int) (w : World) {F : FuncId} {fn : Func} (hf : Try.prog.funcs[F]? = some fn) (hname : (fn.name == "runtime.NumGoroutine") = false) (hb : fn.body.isSome = true)
  (hit : ∀ w0 g b2 b3 b5 b6 b7 b8 b9 b10 b11 b12 b13 b14 w8, vec_Do.St w0 g (vec_Do.kvs b2 b3 b5 b6 b7 b8 b9 b10 b11 b12 b13 b14) (vec_Do.fls b2 b3 b5 b6 b7 b8 b9 b10 b11 b12 b13 b14) w8 → ∃ cap, (Instr.lookup 85 (.map (some g)) (.int .i64 a0_0) true).run Try.prog w8 = .ok (.tuple #[.func (.func F) #[] cap, .bool true]) w8 ∧ Calls Try.prog F (#[.agg #[.int .i64 a0_0, .int .i64 a0_1, .int .i64 a0_2, .int .i64 a0_3, .int .i64 a0_4, .int .i64 a0_5, .int .i64 a0_6], .int .i64 a1, .int .i64 a2, .int .i64 a3, .int .i64 a4] ++ cap) w8 fun e w' => e = .returned (.int .i64 r) ∧ Below w8.heap.size w8 w') :
  Calls Try.prog 44 #[.agg #[.int .i64 a0_0, .int .i64 a0_1, .int .i64 a0_2, .int .i64 a0_3, .int .i64 a0_4, .int .i64 a0_5, .int .i64 a0_6], .int .i64 a1, .int .i64 a2, .int .i64 a3, .int .i64 a4] w fun e w' => e = .returned (.int .i64 r) ∧ Below w.heap.size w w' := by
 have hu_ := Try.underlying41; have HB := aM (Below.refl w.heap.size w); go_enter Try.func44, Try.ntmps44
 go_wp2_with (((with_reducible refine zgd 5 rfl ?_); refine zbox 5 #[.int .i64 a0_0, .int .i64 a0_1, .int .i64 a0_2, .int .i64 a0_3, .int .i64 a0_4, .int .i64 a0_5, .int .i64 a0_6] 41 ?_; intro gb hg w1 hbox hb; have BK := aM (hbox); have GE := aM ((q7z HB) : w.heap.size ≤ gb); replace HB := aM (ym (q5z HB) hb); clear hb hbox hg; have hcz_1 : w1.cell? ⟨gb, 0, none⟩ = some (.int .i64 a0_0) := zc BK 0; have hfz_1 := blk_frozen BK.out 0; have hcz_2 : w1.cell? ⟨gb, 1, none⟩ = some (.int .i64 a0_1) := zc BK 1; have hfz_2 := blk_frozen BK.out 1; have hcz_3 : w1.cell? ⟨gb, 2, none⟩ = some (.int .i64 a0_2) := zc BK 2; have hfz_3 := blk_frozen BK.out 2; have hcz_4 : w1.cell? ⟨gb, 3, none⟩ = some (.int .i64 a0_3) := zc BK 3; have hfz_4 := blk_frozen BK.out 3; have hcz_5 : w1.cell? ⟨gb, 4, none⟩ = some (.int .i64 a0_4) := zc BK 4; have hfz_5 := blk_frozen BK.out 4; have hcz_6 : w1.cell? ⟨gb, 5, none⟩ = some (.int .i64 a0_5) := zc BK 5; have hfz_6 := blk_frozen BK.out 5; have hcz_7 : w1.cell? ⟨gb, 6, none⟩ = some (.int .i64 a0_6) := zc BK 6; have hfz_7 := blk_frozen BK.out 6))
 go_region_with ((go_at_call 54; refine (vec_Do.works _).mono ?_; rintro e w8 ⟨g, b2, b3, b5, b6, b7, b8, b9, b10, b11, b12, b13, b14, rfl, hs_⟩; replace BK := aM (yi (g := gb) (o := .cells #[.int .i64 a0_0, .int .i64 a0_1, .int .i64 a0_2, .int .i64 a0_3, .int .i64 a0_4, .int .i64 a0_5, .int .i64 a0_6] 41 (0, 0)) (zi BK) hs_.below); replace HB := aM (ym (q5z HB) hs_.below); obtain ⟨cap, hlk, hgo⟩ := hit _ _ _ _ _ _ _ _ _ _ _ _ _ _ _ hs_; have hent := enters_ hf hname hb (#[.agg #[.int .i64 a0_0, .int .i64 a0_1, .int .i64 a0_2, .int .i64 a0_3, .int .i64 a0_4, .int .i64 a0_5, .int .i64 a0_6], .int .i64 a1, .int .i64 a2, .int .i64 a3, .int .i64 a4] ++ cap) w8; clear hs_; have hcy_1 : w8.cell? ⟨gb, 0, none⟩ = some (.int .i64 a0_0) := zc BK 0; have hfy_1 := blk_frozen BK.out 0; have hcy_2 : w8.cell? ⟨gb, 1, none⟩ = some (.int .i64 a0_1) := zc BK 1; have hfy_2 := blk_frozen BK.out 1; have hcy_3 : w8.cell? ⟨gb, 2, none⟩ = some (.int .i64 a0_2) := zc BK 2; have hfy_3 := blk_frozen BK.out 2; have hcy_4 : w8.cell? ⟨gb, 3, none⟩ = some (.int .i64 a0_3) := zc BK 3; have hfy_4 := blk_frozen BK.out 3; have hcy_5 : w8.cell? ⟨gb, 4, none⟩ = some (.int .i64 a0_4) := zc BK 4; have hfy_5 := blk_frozen BK.out 4; have hcy_6 : w8.cell? ⟨gb, 5, none⟩ = some (.int .i64 a0_5) := zc BK 5; have hfy_6 := blk_frozen BK.out 5; have hcy_7 : w8.cell? ⟨gb, 6, none⟩ = some (.int .i64 a0_6) := zc BK 6; have hfy_7 := blk_frozen BK.out 6))
 all_goals go_wp2_with (((with_reducible refine hgo.mono ?_); rintro e w1 ⟨rfl, hb⟩; have n1_ := aM (ym (q5z HB) hb); clear HB; have HB := n1_; clear n1_ hb))
 all_goals go_ret
 all_goals exact ⟨q11z, q5z HB⟩
theorem vec_Do.run0 (a0_0 a0_1 a0_2 a0_3 a0_4 a0_5 a0_6 a1 a2 a3 a4 : Int) (r : Int) (w : World) (h0 : r = 0) (miss : ∀ w0 g b2 b3 b5 b6 b7 b8 b9 b10 b11 b12 b13 b14 w8, vec_Do.St w0 g (vec_Do.kvs b2 b3 b5 b6 b7 b8 b9 b10 b11 b12 b13 b14) (vec_Do.fls b2 b3 b5 b6 b7 b8 b9 b10 b11 b12 b13 b14) w8 → (Instr.lookup 85 (.map (some g)) (.int .i64 a0_0) true).run Try.prog w8 = .ok (.tuple #[.nilFunc, .bool false]) w8) :
  Calls Try.prog 44 #[.agg #[.int .i64 a0_0, .int .i64 a0_1, .int .i64 a0_2, .int .i64 a0_3, .int .i64 a0_4, .int .i64 a0_5, .int .i64 a0_6], .int .i64 a1, .int .i64 a2, .int .i64 a3, .int .i64 a4] w fun e w' => e = .returned (.int .i64 r) ∧ Below w.heap.size w w' := by
 subst h0; have hu_ := Try.underlying41; have HB := aM (Below.refl w.heap.size w); go_enter Try.func44, Try.ntmps44
 go_wp2_with (((with_reducible refine zgd 5 rfl ?_); refine zbox 5 #[.int .i64 a0_0, .int .i64 a0_1, .int .i64 a0_2, .int .i64 a0_3, .int .i64 a0_4, .int .i64 a0_5, .int .i64 a0_6] 41 ?_; intro gb hg w1 hbox hb; have BK := aM (hbox); have GE := aM ((q7z HB) : w.heap.size ≤ gb); replace HB := aM (ym (q5z HB) hb); clear hb hbox hg; have hcz_1 : w1.cell? ⟨gb, 0, none⟩ = some (.int .i64 a0_0) := zc BK 0; have hfz_1 := blk_frozen BK.out 0; have hcz_2 : w1.cell? ⟨gb, 1, none⟩ = some (.int .i64 a0_1) := zc BK 1; have hfz_2 := blk_frozen BK.out 1; have hcz_3 : w1.cell? ⟨gb, 2, none⟩ = some (.int .i64 a0_2) := zc BK 2; have hfz_3 := blk_frozen BK.out 2; have hcz_4 : w1.cell? ⟨gb, 3, none⟩ = some (.int .i64 a0_3) := zc BK 3; have hfz_4 := blk_frozen BK.out 3; have hcz_5 : w1.cell? ⟨gb, 4, none⟩ = some (.int .i64 a0_4) := zc BK 4; have hfz_5 := blk_frozen BK.out 4; have hcz_6 : w1.cell? ⟨gb, 5, none⟩ = some (.int .i64 a0_5) := zc BK 5; have hfz_6 := blk_frozen BK.out 5; have hcz_7 : w1.cell? ⟨gb, 6, none⟩ = some (.int .i64 a0_6) := zc BK 6; have hfz_7 := blk_frozen BK.out 6))
 go_region_with ((go_at_call 54; refine (vec_Do.works _).mono ?_; rintro e w8 ⟨g, b2, b3, b5, b6, b7, b8, b9, b10, b11, b12, b13, b14, rfl, hs_⟩; replace BK := aM (yi (g := gb) (o := .cells #[.int .i64 a0_0, .int .i64 a0_1, .int .i64 a0_2, .int .i64 a0_3, .int .i64 a0_4, .int .i64 a0_5, .int .i64 a0_6] 41 (0, 0)) (zi BK) hs_.below); replace HB := aM (ym (q5z HB) hs_.below); have hlk := miss _ _ _ _ _ _ _ _ _ _ _ _ _ _ _ hs_; clear hs_; have hcy_1 : w8.cell? ⟨gb, 0, none⟩ = some (.int .i64 a0_0) := zc BK 0; have hfy_1 := blk_frozen BK.out 0; have hcy_2 : w8.cell? ⟨gb, 1, none⟩ = some (.int .i64 a0_1) := zc BK 1; have hfy_2 := blk_frozen BK.out 1; have hcy_3 : w8.cell? ⟨gb, 2, none⟩ = some (.int .i64 a0_2) := zc BK 2; have hfy_3 := blk_frozen BK.out 2; have hcy_4 : w8.cell? ⟨gb, 3, none⟩ = some (.int .i64 a0_3) := zc BK 3; have hfy_4 := blk_frozen BK.out 3; have hcy_5 : w8.cell? ⟨gb, 4, none⟩ = some (.int .i64 a0_4) := zc BK 4; have hfy_5 := blk_frozen BK.out 4; have hcy_6 : w8.cell? ⟨gb, 5, none⟩ = some (.int .i64 a0_5) := zc BK 5; have hfy_6 := blk_frozen BK.out 5; have hcy_7 : w8.cell? ⟨gb, 6, none⟩ = some (.int .i64 a0_6) := zc BK 6; have hfy_7 := blk_frozen BK.out 6))
 all_goals go_wp2_with (fail)
 all_goals go_ret
 all_goals exact ⟨q11z, q5z HB⟩
theorem vec_Do.calls_1 (a0_1 a0_2 a0_3 a0_4 a0_5 a0_6 a1 a2 a3 a4 : Int) (r : Int) (w : World) (h : (vec_works_1.f 1 a0_1 a0_2 a0_3 a0_4 a0_5 a0_6 a1 a2 a3 a4) = some r) :
  Calls Try.prog 44 #[.agg #[.int .i64 1, .int .i64 a0_1, .int .i64 a0_2, .int .i64 a0_3, .int .i64 a0_4, .int .i64 a0_5, .int .i64 a0_6], .int .i64 a1, .int .i64 a2, .int .i64 a3, .int .i64 a4] w fun e w' => e = .returned (.int .i64 r) ∧ Below w.heap.size w w' := by
 exact vec_Do.run 1 a0_1 a0_2 a0_3 a0_4 a0_5 a0_6 a1 a2 a3 a4 _ w Try.func67 (by kernel_rfl) rfl fun _ _ b1 b2 b3 b4 b5 b6 b7 b8 b9 b10 b11 b12 _ hs => ⟨#[], hs.tm.hit (by rfl) q80z q80z, calls_of_args (by rfl) ((vec_works_1.calls 1 a0_1 a0_2 a0_3 a0_4 a0_5 a0_6 a1 a2 a3 a4 r _ h).mono fun e w' h' => h')⟩
theorem vec_Do.calls_2 (a0_1 a0_2 a0_3 a0_4 a0_5 a0_6 a1 a2 a3 a4 : Int) (r : Int) (w : World) (h : ((vec_works_2.f a1 a2).bind fun t => (vec_Mask.f a0_1).bind fun m => some (Go.bits .and .i64 t m)) = some r) :
  Calls Try.prog 44 #[.agg #[.int .i64 3, .int .i64 a0_1, .int .i64 a0_2, .int .i64 a0_3, .int .i64 a0_4, .int .i64 a0_5, .int .i64 a0_6], .int .i64 a1, .int .i64 a2, .int .i64 a3, .int .i64 a4] w fun e w' => e = .returned (.int .i64 r) ∧ Below w.heap.size w w' := by
 replace h := Option.bind_eq_some_iff.mp h; obtain ⟨t, h1, h⟩ := h; replace h := Option.bind_eq_some_iff.mp h; obtain ⟨m, h2, h⟩ := h; obtain rfl := Option.some.inj h; exact vec_Do.run 3 a0_1 a0_2 a0_3 a0_4 a0_5 a0_6 a1 a2 a3 a4 _ w Try.func87 (by kernel_rfl) rfl fun _ _ b1 b2 b3 b4 b5 b6 b7 b8 b9 b10 b11 b12 _ hs => ⟨#[.pointer (some ⟨b1, 0, none⟩)], hs.tm.hit (by rfl) q80z q80z, calls_of_args (by rfl) ((vec_Do.by_2 3 a0_1 a0_2 a0_3 a0_4 a0_5 a0_6 a1 a2 a3 a4 t m b1 _ (hs.fns (b1, 69, 90) (by simp [vec_Do.fls])).2 h1 h2).mono fun e w' h' => h')⟩
theorem vec_Do.calls_3 (a0_1 a0_2 a0_3 a0_4 a0_5 a0_6 a1 a2 a3 a4 : Int) (r : Int) (w : World) (h : ((vec_works_3.f a1 a2).bind fun t => vec_flag.f t) = some r) :
  Calls Try.prog 44 #[.agg #[.int .i64 4, .int .i64 a0_1, .int .i64 a0_2, .int .i64 a0_3, .int .i64 a0_4, .int .i64 a0_5, .int .i64 a0_6], .int .i64 a1, .int .i64 a2, .int .i64 a3, .int .i64 a4] w fun e w' => e = .returned (.int .i64 r) ∧ Below w.heap.size w w' := by
 replace h := Option.bind_eq_some_iff.mp h; obtain ⟨t, h1, h⟩ := h; exact vec_Do.run 4 a0_1 a0_2 a0_3 a0_4 a0_5 a0_6 a1 a2 a3 a4 _ w Try.func88 (by kernel_rfl) rfl fun _ _ b1 b2 b3 b4 b5 b6 b7 b8 b9 b10 b11 b12 _ hs => ⟨#[.pointer (some ⟨b2, 0, none⟩)], hs.tm.hit (by rfl) q80z q80z, calls_of_args (by rfl) ((vec_Do.by_3 4 a0_1 a0_2 a0_3 a0_4 a0_5 a0_6 a1 a2 a3 a4 t r b2 _ (hs.fns (b2, 71, 92) (by simp [vec_Do.fls])).2 h1 h).mono fun e w' h' => h')⟩
theorem vec_Do.calls_4 (a0_1 a0_2 a0_3 a0_4 a0_5 a0_6 a1 a2 a3 a4 : Int) (r : Int) (w : World) (h : (vec_works_4.f 5 a0_1 a0_2 a0_3 a0_4 a0_5 a0_6 a1 a2 a3 a4) = some r) :
  Calls Try.prog 44 #[.agg #[.int .i64 5, .int .i64 a0_1, .int .i64 a0_2, .int .i64 a0_3, .int .i64 a0_4, .int .i64 a0_5, .int .i64 a0_6], .int .i64 a1, .int .i64 a2, .int .i64 a3, .int .i64 a4] w fun e w' => e = .returned (.int .i64 r) ∧ Below w.heap.size w w' := by
 exact vec_Do.run 5 a0_1 a0_2 a0_3 a0_4 a0_5 a0_6 a1 a2 a3 a4 _ w Try.func72 (by kernel_rfl) rfl fun _ _ b1 b2 b3 b4 b5 b6 b7 b8 b9 b10 b11 b12 _ hs => ⟨#[], hs.tm.hit (by rfl) q80z q80z, calls_of_args (by rfl) ((vec_works_4.calls 5 a0_1 a0_2 a0_3 a0_4 a0_5 a0_6 a1 a2 a3 a4 r _ h).mono fun e w' h' => h')⟩
theorem vec_Do.calls_5 (a0_1 a0_2 a0_3 a0_4 a0_5 a0_6 a1 a2 a3 a4 : Int) (r : Int) (w : World) (h : ((vec_works_5.f a1 a2).bind fun t => (vec_Mask.f a0_1).bind fun m => some (Go.bits .and .i64 t m)) = some r) :
  Calls Try.prog 44 #[.agg #[.int .i64 6, .int .i64 a0_1, .int .i64 a0_2, .int .i64 a0_3, .int .i64 a0_4, .int .i64 a0_5, .int .i64 a0_6], .int .i64 a1, .int .i64 a2, .int .i64 a3, .int .i64 a4] w fun e w' => e = .returned (.int .i64 r) ∧ Below w.heap.size w w' := by
 replace h := Option.bind_eq_some_iff.mp h; obtain ⟨t, h1, h⟩ := h; replace h := Option.bind_eq_some_iff.mp h; obtain ⟨m, h2, h⟩ := h; obtain rfl := Option.some.inj h; exact vec_Do.run 6 a0_1 a0_2 a0_3 a0_4 a0_5 a0_6 a1 a2 a3 a4 _ w Try.func87 (by kernel_rfl) rfl fun _ _ b1 b2 b3 b4 b5 b6 b7 b8 b9 b10 b11 b12 _ hs => ⟨#[.pointer (some ⟨b3, 0, none⟩)], hs.tm.hit (by rfl) q80z q80z, calls_of_args (by rfl) ((vec_Do.by_5 6 a0_1 a0_2 a0_3 a0_4 a0_5 a0_6 a1 a2 a3 a4 t m b3 _ (hs.fns (b3, 74, 90) (by simp [vec_Do.fls])).2 h1 h2).mono fun e w' h' => h')⟩
theorem vec_Do.calls_6 (a0_1 a0_2 a0_3 a0_4 a0_5 a0_6 a1 a2 a3 a4 : Int) (r : Int) (w : World) (h : ((vec_works_6.f a1 a2).bind fun t => (vec_Mask.f a0_1).bind fun m => some (Go.bits .and .i64 t m)) = some r) :
  Calls Try.prog 44 #[.agg #[.int .i64 7, .int .i64 a0_1, .int .i64 a0_2, .int .i64 a0_3, .int .i64 a0_4, .int .i64 a0_5, .int .i64 a0_6], .int .i64 a1, .int .i64 a2, .int .i64 a3, .int .i64 a4] w fun e w' => e = .returned (.int .i64 r) ∧ Below w.heap.size w w' := by
 replace h := Option.bind_eq_some_iff.mp h; obtain ⟨t, h1, h⟩ := h; replace h := Option.bind_eq_some_iff.mp h; obtain ⟨m, h2, h⟩ := h; obtain rfl := Option.some.inj h; exact vec_Do.run 7 a0_1 a0_2 a0_3 a0_4 a0_5 a0_6 a1 a2 a3 a4 _ w Try.func87 (by kernel_rfl) rfl fun _ _ b1 b2 b3 b4 b5 b6 b7 b8 b9 b10 b11 b12 _ hs => ⟨#[.pointer (some ⟨b4, 0, none⟩)], hs.tm.hit (by rfl) q80z q80z, calls_of_args (by rfl) ((vec_Do.by_6 7 a0_1 a0_2 a0_3 a0_4 a0_5 a0_6 a1 a2 a3 a4 t m b4 _ (hs.fns (b4, 75, 90) (by simp [vec_Do.fls])).2 h1 h2).mono fun e w' h' => h')⟩
theorem vec_Do.calls_7 (a0_1 a0_2 a0_3 a0_4 a0_5 a0_6 a1 a2 a3 a4 : Int) (r : Int) (w : World) (h : ((vec_works_7.f a1 a2).bind fun t => (vec_Mask.f a0_1).bind fun m => some (Go.bits .and .i64 t m)) = some r) :
  Calls Try.prog 44 #[.agg #[.int .i64 8, .int .i64 a0_1, .int .i64 a0_2, .int .i64 a0_3, .int .i64 a0_4, .int .i64 a0_5, .int .i64 a0_6], .int .i64 a1, .int .i64 a2, .int .i64 a3, .int .i64 a4] w fun e w' => e = .returned (.int .i64 r) ∧ Below w.heap.size w w' := by
 replace h := Option.bind_eq_some_iff.mp h; obtain ⟨t, h1, h⟩ := h; replace h := Option.bind_eq_some_iff.mp h; obtain ⟨m, h2, h⟩ := h; obtain rfl := Option.some.inj h; exact vec_Do.run 8 a0_1 a0_2 a0_3 a0_4 a0_5 a0_6 a1 a2 a3 a4 _ w Try.func87 (by kernel_rfl) rfl fun _ _ b1 b2 b3 b4 b5 b6 b7 b8 b9 b10 b11 b12 _ hs => ⟨#[.pointer (some ⟨b5, 0, none⟩)], hs.tm.hit (by rfl) q80z q80z, calls_of_args (by rfl) ((vec_Do.by_7 8 a0_1 a0_2 a0_3 a0_4 a0_5 a0_6 a1 a2 a3 a4 t m b5 _ (hs.fns (b5, 76, 90) (by simp [vec_Do.fls])).2 h1 h2).mono fun e w' h' => h')⟩
theorem vec_Do.calls_8 (a0_1 a0_2 a0_3 a0_4 a0_5 a0_6 a1 a2 a3 a4 : Int) (r : Int) (w : World) (h : ((vec_works_8.f a1 a2).bind fun t => (vec_Mask.f a0_1).bind fun m => some (Go.bits .and .i64 t m)) = some r) :
  Calls Try.prog 44 #[.agg #[.int .i64 9, .int .i64 a0_1, .int .i64 a0_2, .int .i64 a0_3, .int .i64 a0_4, .int .i64 a0_5, .int .i64 a0_6], .int .i64 a1, .int .i64 a2, .int .i64 a3, .int .i64 a4] w fun e w' => e = .returned (.int .i64 r) ∧ Below w.heap.size w w' := by
 replace h := Option.bind_eq_some_iff.mp h; obtain ⟨t, h1, h⟩ := h; replace h := Option.bind_eq_some_iff.mp h; obtain ⟨m, h2, h⟩ := h; obtain rfl := Option.some.inj h; exact vec_Do.run 9 a0_1 a0_2 a0_3 a0_4 a0_5 a0_6 a1 a2 a3 a4 _ w Try.func87 (by kernel_rfl) rfl fun _ _ b1 b2 b3 b4 b5 b6 b7 b8 b9 b10 b11 b12 _ hs => ⟨#[.pointer (some ⟨b6, 0, none⟩)], hs.tm.hit (by rfl) q80z q80z, calls_of_args (by rfl) ((vec_Do.by_8 9 a0_1 a0_2 a0_3 a0_4 a0_5 a0_6 a1 a2 a3 a4 t m b6 _ (hs.fns (b6, 77, 90) (by simp [vec_Do.fls])).2 h1 h2).mono fun e w' h' => h')⟩
theorem vec_Do.calls_9 (a0_1 a0_2 a0_3 a0_4 a0_5 a0_6 a1 a2 a3 a4 : Int) (r : Int) (w : World) (h : ((vec_works_9.f a1 a2).bind fun t => (vec_Mask.f a0_1).bind fun m => some (Go.bits .and .i64 t m)) = some r) :
  Calls Try.prog 44 #[.agg #[.int .i64 10, .int .i64 a0_1, .int .i64 a0_2, .int .i64 a0_3, .int .i64 a0_4, .int .i64 a0_5, .int .i64 a0_6], .int .i64 a1, .int .i64 a2, .int .i64 a3, .int .i64 a4] w fun e w' => e = .returned (.int .i64 r) ∧ Below w.heap.size w w' := by
 replace h := Option.bind_eq_some_iff.mp h; obtain ⟨t, h1, h⟩ := h; replace h := Option.bind_eq_some_iff.mp h; obtain ⟨m, h2, h⟩ := h; obtain rfl := Option.some.inj h; exact vec_Do.run 10 a0_1 a0_2 a0_3 a0_4 a0_5 a0_6 a1 a2 a3 a4 _ w Try.func87 (by kernel_rfl) rfl fun _ _ b1 b2 b3 b4 b5 b6 b7 b8 b9 b10 b11 b12 _ hs => ⟨#[.pointer (some ⟨b7, 0, none⟩)], hs.tm.hit (by rfl) q80z q80z, calls_of_args (by rfl) ((vec_Do.by_9 10 a0_1 a0_2 a0_3 a0_4 a0_5 a0_6 a1 a2 a3 a4 t m b7 _ (hs.fns (b7, 78, 90) (by simp [vec_Do.fls])).2 h1 h2).mono fun e w' h' => h')⟩
theorem vec_Do.calls_10 (a0_1 a0_2 a0_3 a0_4 a0_5 a0_6 a1 a2 a3 a4 : Int) (r : Int) (w : World) (h : ((vec_works_10.f a1 a2).bind fun t => (vec_Mask.f a0_1).bind fun m => some (Go.bits .and .i64 t m)) = some r) :
  Calls Try.prog 44 #[.agg #[.int .i64 11, .int .i64 a0_1, .int .i64 a0_2, .int .i64 a0_3, .int .i64 a0_4, .int .i64 a0_5, .int .i64 a0_6], .int .i64 a1, .int .i64 a2, .int .i64 a3, .int .i64 a4] w fun e w' => e = .returned (.int .i64 r) ∧ Below w.heap.size w w' := by
 replace h := Option.bind_eq_some_iff.mp h; obtain ⟨t, h1, h⟩ := h; replace h := Option.bind_eq_some_iff.mp h; obtain ⟨m, h2, h⟩ := h; obtain rfl := Option.some.inj h; exact vec_Do.run 11 a0_1 a0_2 a0_3 a0_4 a0_5 a0_6 a1 a2 a3 a4 _ w Try.func87 (by kernel_rfl) rfl fun _ _ b1 b2 b3 b4 b5 b6 b7 b8 b9 b10 b11 b12 _ hs => ⟨#[.pointer (some ⟨b8, 0, none⟩)], hs.tm.hit (by rfl) q80z q80z, calls_of_args (by rfl) ((vec_Do.by_10 11 a0_1 a0_2 a0_3 a0_4 a0_5 a0_6 a1 a2 a3 a4 t m b8 _ (hs.fns (b8, 79, 90) (by simp [vec_Do.fls])).2 h1 h2).mono fun e w' h' => h')⟩
theorem vec_Do.calls_11 (a0_1 a0_2 a0_3 a0_4 a0_5 a0_6 a1 a2 a3 a4 : Int) (r : Int) (w : World) (h : ((vec_works_11.f a1 a2).bind fun t => vec_flag.f t) = some r) :
  Calls Try.prog 44 #[.agg #[.int .i64 12, .int .i64 a0_1, .int .i64 a0_2, .int .i64 a0_3, .int .i64 a0_4, .int .i64 a0_5, .int .i64 a0_6], .int .i64 a1, .int .i64 a2, .int .i64 a3, .int .i64 a4] w fun e w' => e = .returned (.int .i64 r) ∧ Below w.heap.size w w' := by
 replace h := Option.bind_eq_some_iff.mp h; obtain ⟨t, h1, h⟩ := h; exact vec_Do.run 12 a0_1 a0_2 a0_3 a0_4 a0_5 a0_6 a1 a2 a3 a4 _ w Try.func88 (by kernel_rfl) rfl fun _ _ b1 b2 b3 b4 b5 b6 b7 b8 b9 b10 b11 b12 _ hs => ⟨#[.pointer (some ⟨b9, 0, none⟩)], hs.tm.hit (by rfl) q80z q80z, calls_of_args (by rfl) ((vec_Do.by_11 12 a0_1 a0_2 a0_3 a0_4 a0_5 a0_6 a1 a2 a3 a4 t r b9 _ (hs.fns (b9, 80, 92) (by simp [vec_Do.fls])).2 h1 h).mono fun e w' h' => h')⟩
theorem vec_Do.calls_12 (a0_1 a0_2 a0_3 a0_4 a0_5 a0_6 a1 a2 a3 a4 : Int) (r : Int) (w : World) (h : ((vec_works_12.f a1 a2).bind fun t => vec_flag.f t) = some r) :
  Calls Try.prog 44 #[.agg #[.int .i64 13, .int .i64 a0_1, .int .i64 a0_2, .int .i64 a0_3, .int .i64 a0_4, .int .i64 a0_5, .int .i64 a0_6], .int .i64 a1, .int .i64 a2, .int .i64 a3, .int .i64 a4] w fun e w' => e = .returned (.int .i64 r) ∧ Below w.heap.size w w' := by
 replace h := Option.bind_eq_some_iff.mp h; obtain ⟨t, h1, h⟩ := h; exact vec_Do.run 13 a0_1 a0_2 a0_3 a0_4 a0_5 a0_6 a1 a2 a3 a4 _ w Try.func88 (by kernel_rfl) rfl fun _ _ b1 b2 b3 b4 b5 b6 b7 b8 b9 b10 b11 b12 _ hs => ⟨#[.pointer (some ⟨b10, 0, none⟩)], hs.tm.hit (by rfl) q80z q80z, calls_of_args (by rfl) ((vec_Do.by_12 13 a0_1 a0_2 a0_3 a0_4 a0_5 a0_6 a1 a2 a3 a4 t r b10 _ (hs.fns (b10, 81, 92) (by simp [vec_Do.fls])).2 h1 h).mono fun e w' h' => h')⟩
theorem vec_Do.calls_13 (a0_1 a0_2 a0_3 a0_4 a0_5 a0_6 a1 a2 a3 a4 : Int) (r : Int) (w : World) (h : ((vec_works_13.f a1 a2).bind fun t => vec_flag.f t) = some r) :
  Calls Try.prog 44 #[.agg #[.int .i64 14, .int .i64 a0_1, .int .i64 a0_2, .int .i64 a0_3, .int .i64 a0_4, .int .i64 a0_5, .int .i64 a0_6], .int .i64 a1, .int .i64 a2, .int .i64 a3, .int .i64 a4] w fun e w' => e = .returned (.int .i64 r) ∧ Below w.heap.size w w' := by
 replace h := Option.bind_eq_some_iff.mp h; obtain ⟨t, h1, h⟩ := h; exact vec_Do.run 14 a0_1 a0_2 a0_3 a0_4 a0_5 a0_6 a1 a2 a3 a4 _ w Try.func88 (by kernel_rfl) rfl fun _ _ b1 b2 b3 b4 b5 b6 b7 b8 b9 b10 b11 b12 _ hs => ⟨#[.pointer (some ⟨b11, 0, none⟩)], hs.tm.hit (by rfl) q80z q80z, calls_of_args (by rfl) ((vec_Do.by_13 14 a0_1 a0_2 a0_3 a0_4 a0_5 a0_6 a1 a2 a3 a4 t r b11 _ (hs.fns (b11, 82, 92) (by simp [vec_Do.fls])).2 h1 h).mono fun e w' h' => h')⟩
theorem vec_Do.calls_14 (a0_1 a0_2 a0_3 a0_4 a0_5 a0_6 a1 a2 a3 a4 : Int) (r : Int) (w : World) (h : ((vec_works_14.f a1 a2).bind fun t => vec_flag.f t) = some r) :
  Calls Try.prog 44 #[.agg #[.int .i64 15, .int .i64 a0_1, .int .i64 a0_2, .int .i64 a0_3, .int .i64 a0_4, .int .i64 a0_5, .int .i64 a0_6], .int .i64 a1, .int .i64 a2, .int .i64 a3, .int .i64 a4] w fun e w' => e = .returned (.int .i64 r) ∧ Below w.heap.size w w' := by
 replace h := Option.bind_eq_some_iff.mp h; obtain ⟨t, h1, h⟩ := h; exact vec_Do.run 15 a0_1 a0_2 a0_3 a0_4 a0_5 a0_6 a1 a2 a3 a4 _ w Try.func88 (by kernel_rfl) rfl fun _ _ b1 b2 b3 b4 b5 b6 b7 b8 b9 b10 b11 b12 _ hs => ⟨#[.pointer (some ⟨b12, 0, none⟩)], hs.tm.hit (by rfl) q80z q80z, calls_of_args (by rfl) ((vec_Do.by_14 15 a0_1 a0_2 a0_3 a0_4 a0_5 a0_6 a1 a2 a3 a4 t r b12 _ (hs.fns (b12, 83, 92) (by simp [vec_Do.fls])).2 h1 h).mono fun e w' h' => h')⟩
theorem vec_Do.calls_15 (a0_1 a0_2 a0_3 a0_4 a0_5 a0_6 a1 a2 a3 a4 : Int) (r : Int) (w : World) (h : (vec_works_15.f 16 a0_1 a0_2 a0_3 a0_4 a0_5 a0_6 a1 a2 a3 a4) = some r) :
  Calls Try.prog 44 #[.agg #[.int .i64 16, .int .i64 a0_1, .int .i64 a0_2, .int .i64 a0_3, .int .i64 a0_4, .int .i64 a0_5, .int .i64 a0_6], .int .i64 a1, .int .i64 a2, .int .i64 a3, .int .i64 a4] w fun e w' => e = .returned (.int .i64 r) ∧ Below w.heap.size w w' := by
 exact vec_Do.run 16 a0_1 a0_2 a0_3 a0_4 a0_5 a0_6 a1 a2 a3 a4 _ w Try.func84 (by kernel_rfl) rfl fun _ _ b1 b2 b3 b4 b5 b6 b7 b8 b9 b10 b11 b12 _ hs => ⟨#[], hs.tm.hit (by rfl) q80z q80z, calls_of_args (by rfl) ((vec_works_15.calls 16 a0_1 a0_2 a0_3 a0_4 a0_5 a0_6 a1 a2 a3 a4 r _ h).mono fun e w' h' => h')⟩
theorem vec_Do.calls_16 (a0_1 a0_2 a0_3 a0_4 a0_5 a0_6 a1 a2 a3 a4 : Int) (r : Int) (w : World) (h : (vec_works_16.f 17 a0_1 a0_2 a0_3 a0_4 a0_5 a0_6 a1 a2 a3 a4) = some r) :
  Calls Try.prog 44 #[.agg #[.int .i64 17, .int .i64 a0_1, .int .i64 a0_2, .int .i64 a0_3, .int .i64 a0_4, .int .i64 a0_5, .int .i64 a0_6], .int .i64 a1, .int .i64 a2, .int .i64 a3, .int .i64 a4] w fun e w' => e = .returned (.int .i64 r) ∧ Below w.heap.size w w' := by
 exact vec_Do.run 17 a0_1 a0_2 a0_3 a0_4 a0_5 a0_6 a1 a2 a3 a4 _ w Try.func85 (by kernel_rfl) rfl fun _ _ b1 b2 b3 b4 b5 b6 b7 b8 b9 b10 b11 b12 _ hs => ⟨#[], hs.tm.hit (by rfl) q80z q80z, calls_of_args (by rfl) ((vec_works_16.calls 17 a0_1 a0_2 a0_3 a0_4 a0_5 a0_6 a1 a2 a3 a4 r _ h).mono fun e w' h' => h')⟩
theorem vec_Do.calls_17 (a0_1 a0_2 a0_3 a0_4 a0_5 a0_6 a1 a2 a3 a4 : Int) (r : Int) (w : World) (h : (vec_works_17.f 18 a0_1 a0_2 a0_3 a0_4 a0_5 a0_6 a1 a2 a3 a4) = some r) :
  Calls Try.prog 44 #[.agg #[.int .i64 18, .int .i64 a0_1, .int .i64 a0_2, .int .i64 a0_3, .int .i64 a0_4, .int .i64 a0_5, .int .i64 a0_6], .int .i64 a1, .int .i64 a2, .int .i64 a3, .int .i64 a4] w fun e w' => e = .returned (.int .i64 r) ∧ Below w.heap.size w w' := by
 exact vec_Do.run 18 a0_1 a0_2 a0_3 a0_4 a0_5 a0_6 a1 a2 a3 a4 _ w Try.func86 (by kernel_rfl) rfl fun _ _ b1 b2 b3 b4 b5 b6 b7 b8 b9 b10 b11 b12 _ hs => ⟨#[], hs.tm.hit (by rfl) q80z q80z, calls_of_args (by rfl) ((vec_works_17.calls 18 a0_1 a0_2 a0_3 a0_4 a0_5 a0_6 a1 a2 a3 a4 r _ h).mono fun e w' h' => h')⟩
theorem vec_Do.calls (a0_0 a0_1 a0_2 a0_3 a0_4 a0_5 a0_6 a1 a2 a3 a4 : Int) (r : Int) (w : World) (h : vec_Do.f a0_0 a0_1 a0_2 a0_3 a0_4 a0_5 a0_6 a1 a2 a3 a4 = some r) :
  Calls Try.prog 44 #[.agg #[.int .i64 a0_0, .int .i64 a0_1, .int .i64 a0_2, .int .i64 a0_3, .int .i64 a0_4, .int .i64 a0_5, .int .i64 a0_6], .int .i64 a1, .int .i64 a2, .int .i64 a3, .int .i64 a4] w fun e w' => e = .returned (.int .i64 r) ∧ Below w.heap.size w w' := by
 unfold vec_Do.f at h
 by_cases hw : (Lit.int .i64 a0_0).wf = true
 ·rw [if_pos hw] at h; by_cases c1 : a0_0 = 1
  ·rw [if_pos c1] at h; subst c1; exact vec_Do.calls_1 a0_1 a0_2 a0_3 a0_4 a0_5 a0_6 a1 a2 a3 a4 r w h
  rw [if_neg c1] at h; by_cases c1 : a0_0 = 3
  ·rw [if_pos c1] at h; subst c1; exact vec_Do.calls_2 a0_1 a0_2 a0_3 a0_4 a0_5 a0_6 a1 a2 a3 a4 r w h
  rw [if_neg c1] at h; by_cases c1 : a0_0 = 4
  ·rw [if_pos c1] at h; subst c1; exact vec_Do.calls_3 a0_1 a0_2 a0_3 a0_4 a0_5 a0_6 a1 a2 a3 a4 r w h
  rw [if_neg c1] at h; by_cases c1 : a0_0 = 5
  ·rw [if_pos c1] at h; subst c1; exact vec_Do.calls_4 a0_1 a0_2 a0_3 a0_4 a0_5 a0_6 a1 a2 a3 a4 r w h
  rw [if_neg c1] at h; by_cases c1 : a0_0 = 6
  ·rw [if_pos c1] at h; subst c1; exact vec_Do.calls_5 a0_1 a0_2 a0_3 a0_4 a0_5 a0_6 a1 a2 a3 a4 r w h
  rw [if_neg c1] at h; by_cases c1 : a0_0 = 7
  ·rw [if_pos c1] at h; subst c1; exact vec_Do.calls_6 a0_1 a0_2 a0_3 a0_4 a0_5 a0_6 a1 a2 a3 a4 r w h
  rw [if_neg c1] at h; by_cases c1 : a0_0 = 8
  ·rw [if_pos c1] at h; subst c1; exact vec_Do.calls_7 a0_1 a0_2 a0_3 a0_4 a0_5 a0_6 a1 a2 a3 a4 r w h
  rw [if_neg c1] at h; by_cases c1 : a0_0 = 9
  ·rw [if_pos c1] at h; subst c1; exact vec_Do.calls_8 a0_1 a0_2 a0_3 a0_4 a0_5 a0_6 a1 a2 a3 a4 r w h
  rw [if_neg c1] at h; by_cases c1 : a0_0 = 10
  ·rw [if_pos c1] at h; subst c1; exact vec_Do.calls_9 a0_1 a0_2 a0_3 a0_4 a0_5 a0_6 a1 a2 a3 a4 r w h
  rw [if_neg c1] at h; by_cases c1 : a0_0 = 11
  ·rw [if_pos c1] at h; subst c1; exact vec_Do.calls_10 a0_1 a0_2 a0_3 a0_4 a0_5 a0_6 a1 a2 a3 a4 r w h
  rw [if_neg c1] at h; by_cases c1 : a0_0 = 12
  ·rw [if_pos c1] at h; subst c1; exact vec_Do.calls_11 a0_1 a0_2 a0_3 a0_4 a0_5 a0_6 a1 a2 a3 a4 r w h
  rw [if_neg c1] at h; by_cases c1 : a0_0 = 13
  ·rw [if_pos c1] at h; subst c1; exact vec_Do.calls_12 a0_1 a0_2 a0_3 a0_4 a0_5 a0_6 a1 a2 a3 a4 r w h
  rw [if_neg c1] at h; by_cases c1 : a0_0 = 14
  ·rw [if_pos c1] at h; subst c1; exact vec_Do.calls_13 a0_1 a0_2 a0_3 a0_4 a0_5 a0_6 a1 a2 a3 a4 r w h
  rw [if_neg c1] at h; by_cases c1 : a0_0 = 15
  ·rw [if_pos c1] at h; subst c1; exact vec_Do.calls_14 a0_1 a0_2 a0_3 a0_4 a0_5 a0_6 a1 a2 a3 a4 r w h
  rw [if_neg c1] at h; by_cases c1 : a0_0 = 16
  ·rw [if_pos c1] at h; subst c1; exact vec_Do.calls_15 a0_1 a0_2 a0_3 a0_4 a0_5 a0_6 a1 a2 a3 a4 r w h
  rw [if_neg c1] at h; by_cases c1 : a0_0 = 17
  ·rw [if_pos c1] at h; subst c1; exact vec_Do.calls_16 a0_1 a0_2 a0_3 a0_4 a0_5 a0_6 a1 a2 a3 a4 r w h
  rw [if_neg c1] at h; by_cases c1 : a0_0 = 18
  ·rw [if_pos c1] at h; subst c1; exact vec_Do.calls_17 a0_1 a0_2 a0_3 a0_4 a0_5 a0_6 a1 a2 a3 a4 r w h
  rw [if_neg c1] at h; refine vec_Do.run0 a0_0 a0_1 a0_2 a0_3 a0_4 a0_5 a0_6 a1 a2 a3 a4 r w (Option.some.inj h).symm fun _ _ b1 b2 b3 b4 b5 b6 b7 b8 b9 b10 b11 b12 _ hs => hs.tm.miss hw ?_
  intro p hp
  unfold vec_Do.kvs at hp
  simp only [List.mem_cons, List.not_mem_nil, or_false] at hp; rcases hp with rfl | rfl | rfl | rfl | rfl | rfl | rfl | rfl | rfl | rfl | rfl | rfl | rfl | rfl | rfl | rfl | rfl <;> simp only [ne_eq, Value.int.injEq, true_and] <;> omega
 ·rw [if_neg hw] at h; cases h
mutual
def net_Eval.l0 : Nat → List Int → List Int → List Int → List (S47) → Int → Int → List (S41) → List (S47) → List (S43) → List (S61) → List (S47) → Option (List Int)
 | 0, _, _, _, _, _, _, _, _, _, _, _ => none
 | k + 1, x1, x2, x7, x19, x20, x21, x214000, x214001, x214002, x214003, x214004 => if x21 < x20 then (if 0 ≤ x21 then (if x21 < (x19.length : Int) then (if x21 < (x2.length : Int) then (if 0 ≤ ((rd_T47 x19 x21).f1) then (if ((rd_T47 x19 x21).f1) < (x7.length : Int) then (net_Eval.l0 k x1 x2 (x7.set (((rd_T47 x19 x21).f1) : Int).toNat (rd x2 x21)) x19 x20 (wrap64 (x21 + 1)) x214000 x214001 x214002 x214003 x214004) else (none)) else (none)) else (none)) else (none)) else (none)) else (net_Eval.l1 k x1 x7 x214002 (x214002.length : Int) 0 x214000 x214001 x214002 x214003 x214004)
def net_Eval.l1 : Nat → List Int → List Int → List (S43) → Int → Int → List (S41) → List (S47) → List (S43) → List (S61) → List (S47) → Option (List Int)
 | 0, _, _, _, _, _, _, _, _, _, _ => none
 | k + 1, x1, x7, x36, x37, x38, x214000, x214001, x214002, x214003, x214004 => if x38 < x37 then (if 0 ≤ x38 then (if x38 < (x36.length : Int) then (if x38 < (x1.length : Int) then (if 0 ≤ ((rd_T43 x36 x38).f1) then (if ((rd_T43 x36 x38).f1) < (x7.length : Int) then (net_Eval.l1 k x1 (x7.set (((rd_T43 x36 x38).f1) : Int).toNat (rd x1 x38)) x36 x37 (wrap64 (x38 + 1)) x214000 x214001 x214002 x214003 x214004) else (none)) else (none)) else (none)) else (none)) else (none)) else (net_Eval.l2 k x7 x214000 (x214000.length : Int) 0 x214000 x214001 x214002 x214003 x214004)
def net_Eval.l2 : Nat → List Int → List (S41) → Int → Int → List (S41) → List (S47) → List (S43) → List (S61) → List (S47) → Option (List Int)
 | 0, _, _, _, _, _, _, _, _, _ => none
 | k + 1, x7, x53, x54, x55, x214000, x214001, x214002, x214003, x214004 => if x55 < x54 then (if 0 ≤ x55 then (if x55 < (x53.length : Int) then (if ((rd_T41 x53 x55).f0) = 21 then (net_Eval.l2 k x7 x53 x54 (wrap64 (x55 + 1)) x214000 x214001 x214002 x214003 x214004) else (if ((rd_T41 x53 x55).f0) = 22 then (net_Eval.l2 k x7 x53 x54 (wrap64 (x55 + 1)) x214000 x214001 x214002 x214003 x214004) else (if 0 ≤ ((rd_T41 x53 x55).f2) then (if ((rd_T41 x53 x55).f2) < (x7.length : Int) then (if 0 ≤ ((rd_T41 x53 x55).f3) then (if ((rd_T41 x53 x55).f3) < (x7.length : Int) then (if 0 ≤ ((rd_T41 x53 x55).f4) then (if ((rd_T41 x53 x55).f4) < (x7.length : Int) then (if ((rd_T41 x53 x55).f3) < (x214000.length : Int) then ((vec_Do.f ((rd_T41 x53 x55).f0) ((rd_T41 x53 x55).f1) ((rd_T41 x53 x55).f2) ((rd_T41 x53 x55).f3) ((rd_T41 x53 x55).f4) ((rd_T41 x53 x55).f5) ((rd_T41 x53 x55).f6) (rd x7 ((rd_T41 x53 x55).f2)) (rd x7 ((rd_T41 x53 x55).f3)) (rd x7 ((rd_T41 x53 x55).f4)) ((rd_T41 x214000 ((rd_T41 x53 x55).f3)).f1)).bind fun t231 => (if x55 < (x7.length : Int) then (net_Eval.l2 k (x7.set (x55 : Int).toNat t231) x53 x54 (wrap64 (x55 + 1)) x214000 x214001 x214002 x214003 x214004) else (none))) else (none)) else (none)) else (none)) else (none)) else (none)) else (none)) else (none)))) else (none)) else (none)) else (some x7)
end
def net_Eval.f (k : Nat) (l0_0 : List (S41)) (l0_1 : List (S47)) (l0_2 : List (S43)) (l0_3 : List (S61)) (l0_4 : List (S47)) (l1 : List Int) (l2 : List Int) : Option (List Int) := if 0 ≤ (l0_0.length : Int) then (if ((l0_0.length : Int) : Int).toNat ≤ 35184372088832 then (net_Eval.l0 k l1 l2 (List.replicate ((l0_0.length : Int) : Int).toNat 0) l0_1 (l0_1.length : Int) 0 l0_0 l0_1 l0_2 l0_3 l0_4) else (none)) else (none)
theorem net_Eval.mono_l : ∀ k, (∀ y0 y1 y2 y3 y4 y5 y6 y7 y8 y9 y10, LeO (net_Eval.l0 k y0 y1 y2 y3 y4 y5 y6 y7 y8 y9 y10) (net_Eval.l0 (k + 1) y0 y1 y2 y3 y4 y5 y6 y7 y8 y9 y10)) ∧ (∀ y0 y1 y2 y3 y4 y5 y6 y7 y8 y9, LeO (net_Eval.l1 k y0 y1 y2 y3 y4 y5 y6 y7 y8 y9) (net_Eval.l1 (k + 1) y0 y1 y2 y3 y4 y5 y6 y7 y8 y9)) ∧ (∀ y0 y1 y2 y3 y4 y5 y6 y7 y8, LeO (net_Eval.l2 k y0 y1 y2 y3 y4 y5 y6 y7 y8) (net_Eval.l2 (k + 1) y0 y1 y2 y3 y4 y5 y6 y7 y8))
 | 0 => ⟨fun _ _ _ _ _ _ _ _ _ _ _ r h => by simp [net_Eval.l0] at h, fun _ _ _ _ _ _ _ _ _ _ r h => by simp [net_Eval.l1] at h, fun _ _ _ _ _ _ _ _ _ r h => by simp [net_Eval.l2] at h⟩
 | k + 1 => by
  obtain ⟨ih0, ih1, ih2⟩ := net_Eval.mono_l k; refine ⟨?_, ?_, ?_⟩ <;> intros <;> (first | unfold net_Eval.l0 | unfold net_Eval.l1 | unfold net_Eval.l2) <;> repeat' first | (with_reducible first | apply ih0 | apply ih1 | apply ih2 | exact LeO.refl _ | exact LeO.none _ | refine LeO.ite ?_ ?_ | refine LeO.bind ?_ (fun _ => ?_)) | exact LeO.none _ | refine LeO.ite ?_ ?_ | refine LeO.bind ?_ (fun _ => ?_)
theorem net_Eval.mono : ∀ a0 a1 a2 a3 a4 a5 a6 k, LeO (net_Eval.f k a0 a1 a2 a3 a4 a5 a6) (net_Eval.f (k + 1) a0 a1 a2 a3 a4 a5 a6) := by
 intro a0 a1 a2 a3 a4 a5 a6 k
 obtain ⟨ih1, ih2, ih3⟩ := net_Eval.mono_l k; unfold net_Eval.f
 repeat' first | (with_reducible first | apply ih1 | apply ih2 | apply ih3 | exact LeO.refl _ | exact LeO.none _ | refine LeO.ite ?_ ?_ | refine LeO.bind ?_ (fun _ => ?_)) | exact LeO.none _ | refine LeO.ite ?_ ?_ | refine LeO.bind ?_ (fun _ => ?_)
def net_Eval.T5 : Bool × List (List Nat × List Nat) := (true, [([], []), ([], []), ([1], [1]), ([], []), ([], []), ([3, 4], [3, 4]), ([5], [5]), ([0, 2, 0, 1, 2, 3, 4, 5, 6], [0, 2]), ([7, 6, 0, 1, 2, 3, 4, 5, 6], [6, 7])])
def net_Eval.B5 : List Nat := [0, 0, 2, 0, 0, 24, 56, 127, 255]
theorem net_Eval.tab5 : rtab .any (opsOf Try.f20 5) = net_Eval.T5 := by kernel_rfl
theorem net_Eval.bits5 : waitsOk net_Eval.T5.2 net_Eval.B5 = true := by kernel_rfl
def net_Eval.T10 : Bool × List (List Nat × List Nat) := (true, [([], []), ([], []), ([1], [1]), ([], []), ([], []), ([3, 4], [3, 4]), ([5], [5]), ([0, 2, 0, 1, 2, 3, 4, 5, 6], [0, 2]), ([7, 6, 0, 1, 2, 3, 4, 5, 6], [6, 7])])
def net_Eval.B10 : List Nat := [0, 0, 2, 0, 0, 24, 56, 127, 255]
theorem net_Eval.tab10 : rtab .any (opsOf Try.f20 10) = net_Eval.T10 := by kernel_rfl
theorem net_Eval.bits10 : waitsOk net_Eval.T10.2 net_Eval.B10 = true := by kernel_rfl
def net_Eval.T16 : Bool × List (List Nat × List Nat) := (true, [([], []), ([], []), ([], []), ([], []), ([], []), ([4], [4]), ([3, 5], [3, 5]), ([6], [6]), ([], []), ([], []), ([9], [9]), ([8, 10], [8, 10]), ([11], [11]), ([], []), ([], []), ([14], [14]), ([13, 15], [13, 15]), ([16], [16]), ([], []), ([18], [18]), ([], []), ([20], [20]), ([19, 21], [19, 21]), ([22], [22]), ([23], [23]), ([2, 7, 12, 17, 24], [2, 7, 12, 17, 24]), ([0, 1, 0, 1, 2, 3, 4, 5, 6, 7, 8, 9, 10, 11, 12, 13, 14, 15, 16, 17, 18, 19, 20, 21, 22, 23, 24, 25], [0, 1]), ([26, 25, 25, 0, 1, 2, 3, 4, 5, 6, 7, 8, 9, 10, 11, 12, 13, 14, 15, 16, 17, 18, 19, 20, 21, 22, 23, 24, 25], [25, 26])])
def net_Eval.B16 : List Nat := [0, 0, 0, 0, 0, 16, 56, 120, 0, 0, 512, 1792, 3840, 0, 0, 16384, 57344, 122880, 0, 262144, 0, 1048576, 3932160, 8126464, 16515072, 33554428, 67108863, 134217727]
theorem net_Eval.tab16 : rtab .any (opsOf Try.f20 16) = net_Eval.T16 := by kernel_rfl
theorem net_Eval.bits16 : waitsOk net_Eval.T16.2 net_Eval.B16 = true := by kernel_rfl
theorem z62_1 {P : Prop} (h : P := by
 rw [if_pos c9] at H; obtain ⟨c1b0, c1b1⟩ := zeq c9; clear c9; have H' := aM H; clear H; have p4 : 0 ≤ (x2_3 : Int) := zod; have q4 : x2_3 < (l0_0.length : Int) := zod; obtain ⟨ad1, e1, hx1_0, hx1_1, hx1_2, hx1_3, hx1_4, hx1_5, hx1_6⟩ := at_T41 HR1_0.out x2_3 p4 q4; cases e1; replace hx1_0 := zx HB hx1_0; replace hx1_1 := zx HB hx1_1; replace hx1_2 := zx HB hx1_2; replace hx1_3 := zx HB hx1_3; replace hx1_4 := zx HB hx1_4; replace hx1_5 := zx HB hx1_5; replace hx1_6 := zx HB hx1_6; replace p4 := eq_true p4; replace q4 := eq_true q4; go_wp2_with (first | ((with_reducible refine zgd 13 rfl ?_); refine zbox 13 #[.int .i64 0, .int .i64 0, .int .i64 0, .int .i64 0, .int .i64 0, .int .i64 0, .int .i64 0] 41 ?_; intro gb2 hg w2 hbox hb; replace HO_1 := aM (yr (q2z HO_1) hb); have BK2 := aM (hbox); have GW1 := aM ((q12z HB GE1 : w.heap.size ≤ gb2)); have GE2 := aM ((q12z HB GE1 : w.heap.size ≤ gb2)); replace HB := aM (ym (q4z HB GE1) hb); have NB1_226 := aM ((q34z BK1 : gb1 ≠ gb2)); have NB1_213 := aM ((q35z BK1 : gb2 ≠ gb1)); replace BK1 := aM (yi (zi BK1) hb); clear hb hbox hg; have hnb1 := NB1_213.out; have hnc1 := NB1_226.out; obtain ⟨i1_0, i1_1, i1_2, i1_3, i1_4, i1_5, i1_6, j1_0, j1_1, j1_2, j1_3, j1_4, j1_5, j1_6⟩ := cells7 BK2.out))
 go_roundg k1
 case measure => have := HK1.out; have := HK2.out; have := HK3.out; omega
 case rel => exact ⟨(x1_3), (wrap64 (x2_3 + 1)), q13z, H', ⟨q85z HK1 HK2 HK3⟩, ⟨q31z HO_1 BK2⟩, ⟨q8z NB1_226 BK1⟩, ⟨q3z HB GE1 GE2⟩⟩) : P := h
theorem net_Eval.calls (k : Nat) (A0_0 : Option Addr) (c0_0 : Nat) (l0_0 : List (S41)) (A0_1 : Option Addr) (c0_1 : Nat) (l0_1 : List (S47)) (A0_2 : Option Addr) (c0_2 : Nat) (l0_2 : List (S43)) (A0_3 : Option Addr) (c0_3 : Nat) (l0_3 : List (S61)) (A0_4 : Option Addr) (c0_4 : Nat) (l0_4 : List (S47)) (A1 : Option Addr) (c1 : Nat) (l1 : List Int) (A2 : Option Addr) (c2 : Nat) (l2 : List Int) (r : List Int) (w : World) (hr0_0 : Kd.C k41 w A0_0 l0_0.length l0_0) (hc0_0 : l0_0.length ≤ c0_0) (hr0_1 : Kd.C k47 w A0_1 l0_1.length l0_1) (hc0_1 : l0_1.length ≤ c0_1) (hr0_2 : Kd.C k43 w A0_2 l0_2.length l0_2) (hc0_2 : l0_2.length ≤ c0_2) (hr0_3 : Kd.C k61 w A0_3 l0_3.length l0_3) (hc0_3 : l0_3.length ≤ c0_3) (hr0_4 : Kd.C k47 w A0_4 l0_4.length l0_4) (hc0_4 : l0_4.length ≤ c0_4) (hr1 : Kd.C (Kd.int .i64) w A1 l1.length l1) (hc1 : l1.length ≤ c1) (hr2 : Kd.C (Kd.int .i64) w A2 l2.length l2) (hc2 : l2.length ≤ c2) (h : net_Eval.f k l0_0 l0_1 l0_2 l0_3 l0_4 l1 l2 = some r) :
  Calls Try.prog 20 #[.agg #[.slice A0_0 l0_0.length c0_0, .slice A0_1 l0_1.length c0_1, .slice A0_2 l0_2.length c0_2, .slice A0_3 l0_3.length c0_3, .slice A0_4 l0_4.length c0_4], .slice A1 l1.length c1, .slice A2 l2.length c2] w fun e w' => ∃ v0_ : Value, e = .returned (v0_) ∧ Kd.R (Kd.int .i64) 3 w' w.heap.size (fun _ => True) v0_ r ∧ Below w.heap.size w w' := by
 have hu1 := Try.underlying27; have hu1 := Try.underlying47; have hu1 := Try.underlying43; have hu1 := Try.underlying41; have HR1_0 := aM hr0_0; have HC1_0 := aM hc0_0; clear hr0_0 hc0_0; have HR1_1 := aM hr0_1; have HC1_1 := aM hc0_1; clear hr0_1 hc0_1; have HR1_2 := aM hr0_2; have HC1_2 := aM hc0_2; clear hr0_2 hc0_2; have HR1_3 := aM hr0_3; have HC1_3 := aM hc0_3; clear hr0_3 hc0_3; have HR1_4 := aM hr0_4; have HC1_4 := aM hc0_4; clear hr0_4 hc0_4; have HR1 := aM hr1; have HC1 := aM hc1; clear hr1 hc1; have HR2 := aM hr2; have HC1 := aM hc2; clear hr2 hc2; have HB := aM (Below.refl w.heap.size w); have H : (if 0 ≤ (l0_0.length : Int) then (if ((l0_0.length : Int) : Int).toNat ≤ 35184372088832 then (net_Eval.l0 k l1 l2 (List.replicate ((l0_0.length : Int) : Int).toNat 0) l0_1 (l0_1.length : Int) 0 l0_0 l0_1 l0_2 l0_3 l0_4) else (none)) else (none)) = some r := h; clear h; by_cases c4 : 0 ≤ (l0_0.length : Int)
 ·rw [if_pos c4] at H; have c1b0 := eq_true c4; have c1b1 : decide (0 ≤ (l0_0.length : Int)) = true := decide_eq_true c4; clear c4; by_cases c5 : ((l0_0.length : Int) : Int).toNat ≤ 35184372088832
  ·rw [if_pos c5] at H; have c2b0 := eq_true c5; have c2b1 : decide (((l0_0.length : Int) : Int).toNat ≤ 35184372088832) = true := decide_eq_true c5; clear c5; obtain ⟨y1, hy1⟩ : ∃ y_ : List Int, y_ = (List.replicate ((l0_0.length : Int) : Int).toNat 0) := ⟨_, rfl⟩; replace H : (net_Eval.l0 k l1 l2 y1 l0_1 (l0_1.length : Int) 0 l0_0 l0_1 l0_2 l0_3 l0_4) = some r := by first | (rw [hy1]; with_reducible exact H) | (have H1_ := (Option.bind_some _ _).symm.trans H; rw [hy1]; with_reducible exact H1_) | (have H1_ := (Option.bind_some _ _).symm.trans H; with_reducible exact H1_) | with_reducible exact H | (rw [hy1]; exact H) | exact H
   have Ny1 := aM hy1; clear hy1; have H' := aM H; clear H; go_enter Try.func20, Try.ntmps20
   go_wp2_with (first | ((with_reducible refine zgd 3 rfl ?_); refine zbox 3 #[.slice A0_0 l0_0.length c0_0, .slice A0_1 l0_1.length c0_1, .slice A0_2 l0_2.length c0_2, .slice A0_3 l0_3.length c0_3, .slice A0_4 l0_4.length c0_4] 27 ?_; intro gb1 hg w2 hbox hb; have BK1 := aM (hbox); have GW1 := aM ((q7z HB : w.heap.size ≤ gb1)); have GE1 := aM ((q7z HB : w.heap.size ≤ gb1)); replace HB := aM (ym (q5z HB) hb); clear hb hbox hg; obtain ⟨i1_0, i1_1, i1_2, i1_3, i1_4, j1_0, j1_1, j1_2, j1_3, j1_4⟩ := cells5 BK1.out) | ((with_reducible refine gate_dst (N := 17) rfl ?_); refine Kd.R_make (Kd.int .i64) _ 3 rfl (N := 17) rfl 32 _ _ rfl (l0_0.length : Int) rfl rfl Try.underlying32 (.int .i64 0) 8 info3 rfl (by decide) (by omega) 0 (ok := fun _ => True) (okp := fun _ => True) rfl (fun _ hk => hk) trivial (of_decide_eq_true q72z) (Nat.le_trans (Nat.mul_le_mul_right _ (of_decide_eq_true q72z : (l0_0.length : Int).toNat ≤ 35184372088832)) (by omega)) (Below.refl _ _) (Nat.le_refl _) ?_; intro v1 w3 ho1 hb hg_ hnew_; clear hg_ hnew_; (first | rw [← Ny1.out] at ho1 | (simp only [Int.reduceToNat] at ho1; rw [← Ny1.out] at ho1)); have HO1 := aM (Kd.R_lower ho1 (yn (q4z HB GE1))); replace BK1 := aM (yi (zi BK1) hb); replace HB := aM (ym (q4z HB GE1) hb); clear hb ho1; obtain ⟨i2_0, i2_1, i2_2, i2_3, i2_4, j2_0, j2_1, j2_2, j2_3, j2_4⟩ := cells5 BK1.out))
   go_loopg [21] k (fun kq v2 w' => ∃ (x1_1 : List Int) (x2_1 : Int), v2 = .int .i64 x2_1 ∧ Aside0 (net_Eval.l0 kq l1 l2 x1_1 l0_1 (l0_1.length : Int) x2_1 l0_0 l0_1 l0_2 l0_3 l0_4 = some r) ∧ Aside0 (kq ≤ k) ∧ Aside0 (Kd.R (Kd.int .i64) 3 w' w.heap.size (fun _ => True) v1 x1_1) ∧ Aside0 (w'.heap[gb1]? = some (.cells #[(.slice A0_0 l0_0.length c0_0), (.slice A0_1 l0_1.length c0_1), (.slice A0_2 l0_2.length c0_2), (.slice A0_3 l0_3.length c0_3), (.slice A0_4 l0_4.length c0_4)] 27 (0, 0))) ∧ Aside0 (Below w.heap.size w w'))
   case atStart => exact ⟨(y1), (0), q13z, H', ⟨Nat.le_refl _⟩, ⟨q2z HO1⟩, ⟨q10z BK1⟩, ⟨q4z HB GE1⟩⟩
   case round =>
    clear H'; try clear c1
    try clear c2
    try clear p2
    try clear c4
    try clear c1b0
    try clear c1b1
    try clear c5
    try clear c2b0
    try clear c2b1
    try clear i2_0 i2_1 i2_2 i2_3 i2_4
    try clear i1_0 i1_1 i1_2 i1_3 i1_4
    try clear j2_0 j2_1 j2_2 j2_3 j2_4
    try clear j1_0 j1_1 j1_2 j1_3 j1_4
    obtain ⟨x1_1, x2_1, rfl, HA, HK1, HO_1, BK1, HB⟩ := hrel; cases gk with
    | zero => exact absurd HA.out (by simp [net_Eval.l0])
    | succ k1 =>
     have H := HA.out; clear HA; simp only [net_Eval.l0] at H; by_cases c6 : x2_1 < (l0_1.length : Int)
     ·rw [if_pos c6] at H; have c3b0 := decide_eq_true c6; clear c6; by_cases c7 : 0 ≤ x2_1
      ·rw [if_pos c7] at H; have c3b0 := decide_eq_true c7; clear c7; by_cases c8 : x2_1 < (l0_1.length : Int)
       ·rw [if_pos c8] at H; have c3b0 := decide_eq_true c8; clear c8; by_cases c9 : x2_1 < (l2.length : Int)
        ·rw [if_pos c9] at H; have c3b0 := decide_eq_true c9; clear c9; by_cases c10 : 0 ≤ ((rd_T47 l0_1 x2_1).f1)
         ·rw [if_pos c10] at H; have c3b0 := decide_eq_true c10; clear c10; by_cases c11 : ((rd_T47 l0_1 x2_1).f1) < (x1_1.length : Int)
          ·rw [if_pos c11] at H; have c3b0 := decide_eq_true c11; clear c11; obtain ⟨y1, hy1⟩ : ∃ y_ : List Int, y_ = (x1_1.set (((rd_T47 l0_1 x2_1).f1) : Int).toNat (rd l2 x2_1)) := ⟨_, rfl⟩; replace H : (net_Eval.l0 k1 l1 l2 y1 l0_1 (l0_1.length : Int) (wrap64 (x2_1 + 1)) l0_0 l0_1 l0_2 l0_3 l0_4) = some r := by first | (rw [hy1]; with_reducible exact H) | (have H1_ := (Option.bind_some _ _).symm.trans H; rw [hy1]; with_reducible exact H1_) | (have H1_ := (Option.bind_some _ _).symm.trans H; with_reducible exact H1_) | with_reducible exact H | (rw [hy1]; exact H) | exact H
           have Ny1 := aM hy1; clear hy1; have H' := aM H; clear H; have p4 : 0 ≤ (x2_1 : Int) := zod; have q4 : x2_1 < (l0_1.length : Int) := zod; obtain ⟨ad1, e1, hx1_0, hx1_1⟩ := at_T47 HR1_1.out x2_1 p4 q4; cases e1; replace hx1_0 := zx HB hx1_0; replace hx1_1 := zx HB hx1_1; replace p4 := eq_true p4; replace q4 := eq_true q4; try go_wp2_with (first | ((with_reducible refine zgd 9 rfl ?_); refine zbox 9 #[.string (⟨#[]⟩ : ByteArray), .int .i64 0] 47 ?_; intro gb2 hg w2 hbox hb; replace HO_1 := aM (yr (q2z HO_1) hb); have BK2 := aM (hbox); have GW1 := aM ((q12z HB GE1 : w.heap.size ≤ gb2)); have GE2 := aM ((q12z HB GE1 : w.heap.size ≤ gb2)); replace HB := aM (ym (q4z HB GE1) hb); have NB1_218 := aM ((q34z BK1 : gb1 ≠ gb2)); have NB1_213 := aM ((q35z BK1 : gb2 ≠ gb1)); replace BK1 := aM (yi (zi BK1) hb); clear hb hbox hg; have hnb1 := NB1_213.out; have hnc1 := NB1_218.out; obtain ⟨i3_0, i3_1, j3_0, j3_1⟩ := cells2 BK2.out))
           have n1_ : Aside0 (Kd.R (Kd.int .i64) 3 ((w2.setCell ⟨gb2, 0, none⟩ (.string ((rd_T47 l0_1 x2_1).f0))).setCell ⟨gb2, 1, none⟩ (.int .i64 ((rd_T47 l0_1 x2_1).f1))) w.heap.size (fun _ => True) v1 x1_1) := ⟨by (with_reducible repeat (first | apply yf | apply yg | apply yh)); exact Kd.R_mono (Kd.R_far (p := ⟨gb2, 1, none⟩) (Kd.R_far (p := ⟨gb2, 0, none⟩) (Kd.R_types HO_1.out BK2.out (by decide)) (fun _ hk => hk.2) (.string ((rd_T47 l0_1 x2_1).f0))) (fun _ hk => hk.2) (.int .i64 ((rd_T47 l0_1 x2_1).f1))) (fun _ hk => trivial)⟩; have n2_ : Aside0 (((w2.setCell ⟨gb2, 0, none⟩ (.string ((rd_T47 l0_1 x2_1).f0))).setCell ⟨gb2, 1, none⟩ (.int .i64 ((rd_T47 l0_1 x2_1).f1))).heap[gb1]? = some (.cells #[.slice A0_0 l0_0.length c0_0, .slice (some ad1) l0_1.length c0_1, .slice A0_2 l0_2.length c0_2, .slice A0_3 l0_3.length c0_3, .slice A0_4 l0_4.length c0_4] 27 (0, 0))) := ⟨q63z NB1_218 BK1⟩; have n3_ : Aside0 (((w2.setCell ⟨gb2, 0, none⟩ (.string ((rd_T47 l0_1 x2_1).f0))).setCell ⟨gb2, 1, none⟩ (.int .i64 ((rd_T47 l0_1 x2_1).f1))).heap[gb2]? = some (.cells #[.string ((rd_T47 l0_1 x2_1).f0), .int .i64 ((rd_T47 l0_1 x2_1).f1)] 47 (0, 0))) := ⟨by (with_reducible repeat (first | refine ya ?_ _ | refine yc ?_ | refine yb ?_ _)); refine ys (cs := #[.string ((rd_T47 l0_1 x2_1).f0), .int .i64 0]) ?_ 1 _ rfl; (with_reducible repeat (first | refine ya ?_ _ | refine yc ?_ | refine yb ?_ _)); refine ys (cs := #[.string (⟨#[]⟩ : ByteArray), .int .i64 0]) ?_ 0 _ rfl; (with_reducible repeat (first | refine ya ?_ _ | refine yc ?_ | refine yb ?_ _)); exact BK2.out⟩; have n4_ : Aside0 (Below w.heap.size w ((w2.setCell ⟨gb2, 0, none⟩ (.string ((rd_T47 l0_1 x2_1).f0))).setCell ⟨gb2, 1, none⟩ (.int .i64 ((rd_T47 l0_1 x2_1).f1)))) := ⟨q3z HB GE1 GE2⟩; (try clear HO_1)
           (try clear BK1)
           (try clear BK2)
           (try clear HB)
           generalize ((w2.setCell ⟨gb2, 0, none⟩ (.string ((rd_T47 l0_1 x2_1).f0))).setCell ⟨gb2, 1, none⟩ (.int .i64 ((rd_T47 l0_1 x2_1).f1))) = w3 at n1_ n2_ n3_ n4_ ⊢; have HO_1 := n1_; have BK1 := n2_; have BK2 := n3_; have HB := n4_; clear n1_ n2_ n3_ n4_; replace HO_1 := aM (yh HO_1.out); replace BK1 := aM (yc BK1.out); replace BK2 := aM (yc BK2.out); replace HB := aM (yk HB.out); have p4 : 0 ≤ (x2_1 : Int) := zod; have q4 : x2_1 < (l2.length : Int) := zod; obtain ⟨ad1, e1, hx1_0⟩ := Kd.at_int HR2.out x2_1 p4 q4; have hw1_0 := hx1_0; cases e1; replace hx1_0 := zx HB hx1_0; replace p4 := eq_true p4; replace q4 := eq_true q4; have p4 : 0 ≤ (((rd_T47 l0_1 x2_1).f1) : Int) := zod; have q4 : (((rd_T47 l0_1 x2_1).f1) : Int) < ((x1_1.length : Int) : Int) := zod; obtain ⟨go1, co1, eo1, gb3, gl1, cl1, HG1⟩ := Kd.R_form HO_1.out (by omega); (first | cases eo1 | (injection eo1 with ea_ en_ ec_; (first | subst ea_ | (injection ea_ with ea_; subst ea_)); subst ec_; clear en_))
           have GB1 := aM gb3; have GG1 := aM HG1; clear gb3 gl1 HG1; obtain ⟨hx2_0, hf1_0⟩ := Kd.R_celln 0 HO_1.out (((rd_T47 l0_1 x2_1).f1) : Int) p4 q4; replace p4 := eq_true p4; replace q4 := eq_true q4; have HP1 := Kd.R_putn HO_1.out (((rd_T47 l0_1 x2_1).f1) : Int) (rd l2 x2_1); rw [← Ny1.out] at HP1; have HQ1 := aM HP1; clear HP1; refine start_ (n := 9) (S := fun w' => w'.cell? ⟨gb2, 0, none⟩ = some (.string ((rd_T47 l0_1 x2_1).f0)) ∧ w'.cell? ⟨gb2, 1, none⟩ = some (.int .i64 ((rd_T47 l0_1 x2_1).f1)) ∧ w'.cell? (ad1.add (x2_1).toNat) = some (.int .i64 (rd l2 x2_1))) (ds := [8]) (zb 9 0) (by kernel_rfl) rfl rfl ⟨zc BK2 0, zc BK2 1, (zx HB hw1_0)⟩ (fun hHeld => ?_); refine with_tabW net_Eval.tab5 net_Eval.bits5 (fun HT_ HW_ => ?_); generalize w3.drew = w2 at HO_1 BK1 BK2 HB GG1 HQ1 hf1_0 hx2_0 hx1_0 hHeld ⊢; refine zpu 0 26 (zb 9 1) ?_; refine zpu 1 27 (zb 9 3) ?_; refine zpu 3 29 (zb 9 11) ?_; refine zpu 4 30 (zb 9 27) ?_; refine zpu 5 31 (zb 9 59) ?_; refine ztk3 2 28 (zb 9 63) hHeld ?_; refine ztk3 6 32 (zb 9 127) hHeld ?_; refine zpu 7 33 (zb 9 255) ?_; refine zla 8 (none) (zb 9 511) fun K hK => ?_
           refine skip_ (w1 := ?_) (by rfl) rfl ?_ ?_
           rotate_left
           ·go_simp
            rfl
           refine hK.out _ _ ?_; clear hK K; refine zdo ?_; try go_wp2
           go_roundg k1
           case measure => have := HK1.out; omega
           case rel => exact ⟨(y1), (wrap64 (x2_1 + 1)), q13z, H', ⟨by have := HK1.out; omega⟩, ⟨q2z HQ1⟩, ⟨q69z HO_1 BK1⟩, ⟨q47z HB GB1 GE1 GE2⟩⟩
          ·rw [if_neg c11] at H; exact absurd H (by simp)
         ·rw [if_neg c10] at H; exact absurd H (by simp)
        ·rw [if_neg c9] at H; exact absurd H (by simp)
       ·rw [if_neg c8] at H; exact absurd H (by simp)
      ·rw [if_neg c7] at H; exact absurd H (by simp)
     ·rw [if_neg c6] at H; have c3b0 := decide_eq_false c6; clear c6; have H' := aM H; clear H; obtain ⟨i3_0, i3_1, i3_2, i3_3, i3_4, j3_0, j3_1, j3_2, j3_3, j3_4⟩ := cells5 BK1.out; go_wp2
      go_loopg [38] k1 (fun kq v2 w' => ∃ (x1_2 : List Int) (x2_2 : Int), v2 = .int .i64 x2_2 ∧ Aside0 (net_Eval.l1 kq l1 x1_2 l0_2 (l0_2.length : Int) x2_2 l0_0 l0_1 l0_2 l0_3 l0_4 = some r) ∧ Aside0 (kq ≤ k1) ∧ Aside0 (Kd.R (Kd.int .i64) 3 w' w.heap.size (fun _ => True) v1 x1_2) ∧ Aside0 (w'.heap[gb1]? = some (.cells #[(.slice A0_0 l0_0.length c0_0), (.slice A0_1 l0_1.length c0_1), (.slice A0_2 l0_2.length c0_2), (.slice A0_3 l0_3.length c0_3), (.slice A0_4 l0_4.length c0_4)] 27 (0, 0))) ∧ Aside0 (Below w.heap.size w w'))
      case atStart => exact ⟨(x1_1), (0), q13z, H', ⟨Nat.le_refl _⟩, ⟨q2z HO_1⟩, ⟨q10z BK1⟩, ⟨q4z HB GE1⟩⟩
      case round =>
       clear H'; try clear c1
       try clear p1
       try clear q1
       try clear hx1
       try clear c2
       try clear p2
       try clear q2
       try clear hx2
       try clear c4
       try clear c1b0
       try clear c1b1
       try clear c5
       try clear c2b0
       try clear c2b1
       try clear p6
       try clear c6
       try clear c3b0
       try clear c7
       try clear c4b0
       try clear c8
       try clear c5b0
       try clear c9
       try clear c6b0
       try clear c10
       try clear c7b0
       try clear c11
       try clear c8b0
       try clear p4
       try clear q4
       try clear hx17
       try clear hf17
       try clear c19
       try clear c20
       try clear p21
       try clear q21
       try clear hx21
       try clear i2_0 i2_1 i2_2 i2_3 i2_4
       try clear i4_0 i4_1
       try clear i3_0 i3_1 i3_2 i3_3 i3_4
       try clear i1_0 i1_1 i1_2 i1_3 i1_4
       try clear j2_0 j2_1 j2_2 j2_3 j2_4
       try clear j4_0 j4_1
       try clear j3_0 j3_1 j3_2 j3_3 j3_4
       try clear j1_0 j1_1 j1_2 j1_3 j1_4
       try clear hx1_0
       try clear hx2_0
       try clear hx1_1
       try clear hx3_0
       try clear p4
       try clear p2
       try clear p5
       try clear p7
       try clear q4
       try clear q5
       try clear q6
       obtain ⟨x1_2, x2_2, rfl, HA, HK2, HO_1, BK1, HB⟩ := hrel; cases gk with
       | zero => exact absurd HA.out (by simp [net_Eval.l1])
       | succ k1 =>
        have H := HA.out; clear HA; simp only [net_Eval.l1] at H; by_cases c12 : x2_2 < (l0_2.length : Int)
        ·rw [if_pos c12] at H; have c9b0 := decide_eq_true c12; clear c12; by_cases c13 : 0 ≤ x2_2
         ·rw [if_pos c13] at H; have c9b0 := decide_eq_true c13; clear c13; by_cases c14 : x2_2 < (l0_2.length : Int)
          ·rw [if_pos c14] at H; have c9b0 := decide_eq_true c14; clear c14; by_cases c15 : x2_2 < (l1.length : Int)
           ·rw [if_pos c15] at H; have c9b0 := decide_eq_true c15; clear c15; by_cases c16 : 0 ≤ ((rd_T43 l0_2 x2_2).f1)
            ·rw [if_pos c16] at H; have c9b0 := decide_eq_true c16; clear c16; by_cases c17 : ((rd_T43 l0_2 x2_2).f1) < (x1_2.length : Int)
             ·rw [if_pos c17] at H; have c9b0 := decide_eq_true c17; clear c17; obtain ⟨y1, hy1⟩ : ∃ y_ : List Int, y_ = (x1_2.set (((rd_T43 l0_2 x2_2).f1) : Int).toNat (rd l1 x2_2)) := ⟨_, rfl⟩; replace H : (net_Eval.l1 k1 l1 y1 l0_2 (l0_2.length : Int) (wrap64 (x2_2 + 1)) l0_0 l0_1 l0_2 l0_3 l0_4) = some r := by first | (rw [hy1]; with_reducible exact H) | (have H1_ := (Option.bind_some _ _).symm.trans H; rw [hy1]; with_reducible exact H1_) | (have H1_ := (Option.bind_some _ _).symm.trans H; with_reducible exact H1_) | with_reducible exact H | (rw [hy1]; exact H) | exact H
              have Ny1 := aM hy1; clear hy1; have H' := aM H; clear H; have p8 : 0 ≤ (x2_2 : Int) := zod; have q7 : x2_2 < (l0_2.length : Int) := zod; obtain ⟨ad1, e1, hx4_0, hx2_1, hx1_2, hx1_3⟩ := at_T43 HR1_2.out x2_2 p8 q7; cases e1; replace hx4_0 := zx HB hx4_0; replace hx2_1 := zx HB hx2_1; replace hx1_2 := zx HB hx1_2; replace hx1_3 := zx HB hx1_3; replace p8 := eq_true p8; replace q7 := eq_true q7; try go_wp2_with (first | ((with_reducible refine zgd 11 rfl ?_); refine zbox 11 #[.string (⟨#[]⟩ : ByteArray), .int .i64 0, .int .i64 0, .int .i64 0] 43 ?_; intro gb2 hg w2 hbox hb; replace HO_1 := aM (yr (q2z HO_1) hb); have BK2 := aM (hbox); have GW1 := aM ((q12z HB GE1 : w.heap.size ≤ gb2)); have GE2 := aM ((q12z HB GE1 : w.heap.size ≤ gb2)); replace HB := aM (ym (q4z HB GE1) hb); have NB1_222 := aM ((q34z BK1 : gb1 ≠ gb2)); have NB1_213 := aM ((q35z BK1 : gb2 ≠ gb1)); replace BK1 := aM (yi (zi BK1) hb); clear hb hbox hg; have hnb1 := NB1_213.out; have hnc1 := NB1_222.out; obtain ⟨i5_0, i5_1, i4_2, i4_3, j5_0, j5_1, j4_2, j4_3⟩ := cells4 BK2.out))
              have n1_ : Aside0 (Kd.R (Kd.int .i64) 3 ((((w2.setCell ⟨gb2, 0, none⟩ (.string ((rd_T43 l0_2 x2_2).f0))).setCell ⟨gb2, 1, none⟩ (.int .i64 ((rd_T43 l0_2 x2_2).f1))).setCell ⟨gb2, 2, none⟩ (.int .i64 ((rd_T43 l0_2 x2_2).f2))).setCell ⟨gb2, 3, none⟩ (.int .i64 ((rd_T43 l0_2 x2_2).f3))) w.heap.size (fun _ => True) v1 x1_2) := ⟨by (with_reducible repeat (first | apply yf | apply yg | apply yh)); exact Kd.R_mono (Kd.R_far (p := ⟨gb2, 3, none⟩) (Kd.R_far (p := ⟨gb2, 2, none⟩) (Kd.R_far (p := ⟨gb2, 1, none⟩) (Kd.R_far (p := ⟨gb2, 0, none⟩) (Kd.R_types HO_1.out BK2.out (by decide)) (fun _ hk => hk.2) (.string ((rd_T43 l0_2 x2_2).f0))) (fun _ hk => hk.2) (.int .i64 ((rd_T43 l0_2 x2_2).f1))) (fun _ hk => hk.2) (.int .i64 ((rd_T43 l0_2 x2_2).f2))) (fun _ hk => hk.2) (.int .i64 ((rd_T43 l0_2 x2_2).f3))) (fun _ hk => trivial)⟩; have n2_ : Aside0 (((((w2.setCell ⟨gb2, 0, none⟩ (.string ((rd_T43 l0_2 x2_2).f0))).setCell ⟨gb2, 1, none⟩ (.int .i64 ((rd_T43 l0_2 x2_2).f1))).setCell ⟨gb2, 2, none⟩ (.int .i64 ((rd_T43 l0_2 x2_2).f2))).setCell ⟨gb2, 3, none⟩ (.int .i64 ((rd_T43 l0_2 x2_2).f3))).heap[gb1]? = some (.cells #[.slice A0_0 l0_0.length c0_0, .slice A0_1 l0_1.length c0_1, .slice (some ad1) l0_2.length c0_2, .slice A0_3 l0_3.length c0_3, .slice A0_4 l0_4.length c0_4] 27 (0, 0))) := ⟨q20z NB1_222 BK1⟩; have n3_ : Aside0 (((((w2.setCell ⟨gb2, 0, none⟩ (.string ((rd_T43 l0_2 x2_2).f0))).setCell ⟨gb2, 1, none⟩ (.int .i64 ((rd_T43 l0_2 x2_2).f1))).setCell ⟨gb2, 2, none⟩ (.int .i64 ((rd_T43 l0_2 x2_2).f2))).setCell ⟨gb2, 3, none⟩ (.int .i64 ((rd_T43 l0_2 x2_2).f3))).heap[gb2]? = some (.cells #[.string ((rd_T43 l0_2 x2_2).f0), .int .i64 ((rd_T43 l0_2 x2_2).f1), .int .i64 ((rd_T43 l0_2 x2_2).f2), .int .i64 ((rd_T43 l0_2 x2_2).f3)] 43 (0, 0))) := ⟨by (with_reducible repeat (first | refine ya ?_ _ | refine yc ?_ | refine yb ?_ _)); refine ys (cs := #[.string ((rd_T43 l0_2 x2_2).f0), .int .i64 ((rd_T43 l0_2 x2_2).f1), .int .i64 ((rd_T43 l0_2 x2_2).f2), .int .i64 0]) ?_ 3 _ rfl; (with_reducible repeat (first | refine ya ?_ _ | refine yc ?_ | refine yb ?_ _)); refine ys (cs := #[.string ((rd_T43 l0_2 x2_2).f0), .int .i64 ((rd_T43 l0_2 x2_2).f1), .int .i64 0, .int .i64 0]) ?_ 2 _ rfl; (with_reducible repeat (first | refine ya ?_ _ | refine yc ?_ | refine yb ?_ _)); refine ys (cs := #[.string ((rd_T43 l0_2 x2_2).f0), .int .i64 0, .int .i64 0, .int .i64 0]) ?_ 1 _ rfl; (with_reducible repeat (first | refine ya ?_ _ | refine yc ?_ | refine yb ?_ _)); refine ys (cs := #[.string (⟨#[]⟩ : ByteArray), .int .i64 0, .int .i64 0, .int .i64 0]) ?_ 0 _ rfl; (with_reducible repeat (first | refine ya ?_ _ | refine yc ?_ | refine yb ?_ _)); exact BK2.out⟩; have n4_ : Aside0 (Below w.heap.size w ((((w2.setCell ⟨gb2, 0, none⟩ (.string ((rd_T43 l0_2 x2_2).f0))).setCell ⟨gb2, 1, none⟩ (.int .i64 ((rd_T43 l0_2 x2_2).f1))).setCell ⟨gb2, 2, none⟩ (.int .i64 ((rd_T43 l0_2 x2_2).f2))).setCell ⟨gb2, 3, none⟩ (.int .i64 ((rd_T43 l0_2 x2_2).f3)))) := ⟨q3z HB GE1 GE2⟩; (try clear HO_1)
              (try clear BK1)
              (try clear BK2)
              (try clear HB)
              generalize ((((w2.setCell ⟨gb2, 0, none⟩ (.string ((rd_T43 l0_2 x2_2).f0))).setCell ⟨gb2, 1, none⟩ (.int .i64 ((rd_T43 l0_2 x2_2).f1))).setCell ⟨gb2, 2, none⟩ (.int .i64 ((rd_T43 l0_2 x2_2).f2))).setCell ⟨gb2, 3, none⟩ (.int .i64 ((rd_T43 l0_2 x2_2).f3))) = w3 at n1_ n2_ n3_ n4_ ⊢; have HO_1 := n1_; have BK1 := n2_; have BK2 := n3_; have HB := n4_; clear n1_ n2_ n3_ n4_; replace HO_1 := aM (yh HO_1.out); replace BK1 := aM (yc BK1.out); replace BK2 := aM (yc BK2.out); replace HB := aM (yk HB.out); have p8 : 0 ≤ (x2_2 : Int) := zod; have q7 : x2_2 < (l1.length : Int) := zod; obtain ⟨ad1, e1, hx4_0⟩ := Kd.at_int HR1.out x2_2 p8 q7; have hw1_0 := hx4_0; cases e1; replace hx4_0 := zx HB hx4_0; replace p8 := eq_true p8; replace q7 := eq_true q7; have p8 : 0 ≤ (((rd_T43 l0_2 x2_2).f1) : Int) := zod; have q7 : (((rd_T43 l0_2 x2_2).f1) : Int) < ((x1_2.length : Int) : Int) := zod; obtain ⟨go1, co1, eo1, gb3, gl1, cl1, HG1⟩ := Kd.R_form HO_1.out (by omega); (first | cases eo1 | (injection eo1 with ea_ en_ ec_; (first | subst ea_ | (injection ea_ with ea_; subst ea_)); subst ec_; clear en_))
              have GB1 := aM gb3; have GG1 := aM HG1; clear gb3 gl1 HG1; obtain ⟨hx5_0, hf1_0⟩ := Kd.R_celln 0 HO_1.out (((rd_T43 l0_2 x2_2).f1) : Int) p8 q7; replace p8 := eq_true p8; replace q7 := eq_true q7; have HP1 := Kd.R_putn HO_1.out (((rd_T43 l0_2 x2_2).f1) : Int) (rd l1 x2_2); rw [← Ny1.out] at HP1; have HQ1 := aM HP1; clear HP1; refine start_ (n := 9) (S := fun w' => w'.cell? ⟨gb2, 0, none⟩ = some (.string ((rd_T43 l0_2 x2_2).f0)) ∧ w'.cell? ⟨gb2, 1, none⟩ = some (.int .i64 ((rd_T43 l0_2 x2_2).f1)) ∧ w'.cell? ⟨gb2, 2, none⟩ = some (.int .i64 ((rd_T43 l0_2 x2_2).f2)) ∧ w'.cell? ⟨gb2, 3, none⟩ = some (.int .i64 ((rd_T43 l0_2 x2_2).f3)) ∧ w'.cell? (ad1.add (x2_2).toNat) = some (.int .i64 (rd l1 x2_2))) (ds := [8]) (zb 9 0) (by kernel_rfl) rfl rfl ⟨zc BK2 0, zc BK2 1, zc BK2 2, zc BK2 3, (zx HB hw1_0)⟩ (fun hHeld => ?_); refine with_tabW net_Eval.tab10 net_Eval.bits10 (fun HT_ HW_ => ?_); generalize w3.drew = w2 at HO_1 BK1 BK2 HB GG1 HQ1 hf1_0 hx4_0 hx5_0 hHeld ⊢; refine zpu 0 43 (zb 9 1) ?_; refine zpu 1 44 (zb 9 3) ?_; refine zpu 3 46 (zb 9 11) ?_; refine zpu 4 47 (zb 9 27) ?_; refine zpu 5 48 (zb 9 59) ?_; refine ztk5 2 45 (zb 9 63) hHeld ?_; refine ztk5 6 49 (zb 9 127) hHeld ?_; refine zpu 7 50 (zb 9 255) ?_; refine zla 8 (none) (zb 9 511) fun K hK => ?_
              refine skip_ (w1 := ?_) (by rfl) rfl ?_ ?_
              rotate_left
              ·go_simp
               rfl
              refine hK.out _ _ ?_; clear hK K; refine zdo ?_; try go_wp2
              go_roundg k1
              case measure => have := HK1.out; have := HK2.out; omega
              case rel => exact ⟨(y1), (wrap64 (x2_2 + 1)), q13z, H', ⟨q87z HK1 HK2⟩, ⟨q2z HQ1⟩, ⟨q69z HO_1 BK1⟩, ⟨q47z HB GB1 GE1 GE2⟩⟩
             ·rw [if_neg c17] at H; exact absurd H (by simp)
            ·rw [if_neg c16] at H; exact absurd H (by simp)
           ·rw [if_neg c15] at H; exact absurd H (by simp)
          ·rw [if_neg c14] at H; exact absurd H (by simp)
         ·rw [if_neg c13] at H; exact absurd H (by simp)
        ·rw [if_neg c12] at H; have c9b0 := decide_eq_false c12; clear c12; have H' := aM H; clear H; obtain ⟨i5_0, i5_1, i4_2, i4_3, i4_4, j5_0, j5_1, j4_2, j4_3, j4_4⟩ := cells5 BK1.out; go_wp2
         go_loopg [55] k1 (fun kq v2 w' => ∃ (x1_3 : List Int) (x2_3 : Int), v2 = .int .i64 x2_3 ∧ Aside0 (net_Eval.l2 kq x1_3 l0_0 (l0_0.length : Int) x2_3 l0_0 l0_1 l0_2 l0_3 l0_4 = some r) ∧ Aside0 (kq ≤ k1) ∧ Aside0 (Kd.R (Kd.int .i64) 3 w' w.heap.size (fun _ => True) v1 x1_3) ∧ Aside0 (w'.heap[gb1]? = some (.cells #[(.slice A0_0 l0_0.length c0_0), (.slice A0_1 l0_1.length c0_1), (.slice A0_2 l0_2.length c0_2), (.slice A0_3 l0_3.length c0_3), (.slice A0_4 l0_4.length c0_4)] 27 (0, 0))) ∧ Aside0 (Below w.heap.size w w'))
         case atStart => exact ⟨(x1_2), (0), q13z, H', ⟨Nat.le_refl _⟩, ⟨q2z HO_1⟩, ⟨q10z BK1⟩, ⟨q4z HB GE1⟩⟩
         case round =>
          clear H'; try clear c1
          try clear p1
          try clear q1
          try clear hx1
          try clear c2
          try clear p2
          try clear q2
          try clear hx2
          try clear c3
          try clear p3
          try clear q3
          try clear hx3
          try clear hf3
          try clear c4
          try clear c1b0
          try clear c1b1
          try clear c5
          try clear c2b0
          try clear c2b1
          try clear p6
          try clear c6
          try clear c3b0
          try clear c7
          try clear c4b0
          try clear c8
          try clear c5b0
          try clear c9
          try clear c6b0
          try clear c10
          try clear c7b0
          try clear c11
          try clear c8b0
          try clear p4
          try clear q4
          try clear hx17
          try clear hf17
          try clear c19
          try clear c20
          try clear p21
          try clear q21
          try clear hx21
          try clear p22
          try clear q22
          try clear hx22
          try clear c12
          try clear c9b0
          try clear c6
          try clear c1b0
          try clear c6
          try clear c1b0
          try clear c6
          try clear c1b0
          try clear c6
          try clear c1b0
          try clear c6
          try clear c1b0
          try clear p8
          try clear q7
          try clear hx31
          try clear hf31
          try clear c33
          try clear i2_0 i2_1 i2_2 i2_3 i2_4
          try clear i4_0 i4_1
          try clear i3_0 i3_1 i3_2 i3_3 i3_4
          try clear i2_0 i2_1 i2_2 i2_3
          try clear i5_0 i5_1
          try clear i4_2 i4_3 i4_4
          try clear i1_0 i1_1 i1_2 i1_3 i1_4
          try clear j2_0 j2_1 j2_2 j2_3 j2_4
          try clear j4_0 j4_1
          try clear j3_0 j3_1 j3_2 j3_3 j3_4
          try clear j2_0 j2_1 j2_2 j2_3
          try clear j5_0 j5_1
          try clear j4_2 j4_3 j4_4
          try clear j1_0 j1_1 j1_2 j1_3 j1_4
          try clear hx1_0
          try clear hx2_0
          try clear hx1_1
          try clear hx3_0
          try clear hx1_0
          try clear hx1_1
          try clear hx1_2
          try clear hx1_3
          try clear hx1_0
          try clear hx1_0
          try clear p1
          try clear p4
          try clear p2
          try clear p21
          try clear p5
          try clear p7
          try clear p4
          try clear p4
          try clear p8
          try clear p6
          try clear q1
          try clear q4
          try clear q2
          try clear q21
          try clear q5
          try clear q6
          try clear q4
          try clear q4
          try clear q7
          obtain ⟨x1_3, x2_3, rfl, HA, HK3, HO_1, BK1, HB⟩ := hrel; cases gk with
          | zero => exact absurd HA.out (by simp [net_Eval.l2])
          | succ k1 =>
           have H := HA.out; clear HA; simp only [net_Eval.l2] at H; by_cases c6 : x2_3 < (l0_0.length : Int)
           ·rw [if_pos c6] at H; have c1b0 := decide_eq_true c6; clear c6; by_cases c7 : 0 ≤ x2_3
            ·rw [if_pos c7] at H; have c1b0 := decide_eq_true c7; clear c7; by_cases c8 : x2_3 < (l0_0.length : Int)
             ·rw [if_pos c8] at H; have c1b0 := decide_eq_true c8; clear c8; by_cases c9 : ((rd_T41 l0_0 x2_3).f0) = 21
              ·exact z62_1
              ·rw [if_neg c9] at H; obtain ⟨c1b0, c1b1⟩ := zne c9; by_cases c9 : ((rd_T41 l0_0 x2_3).f0) = 22
               ·exact z62_1
               ·rw [if_neg c9] at H; obtain ⟨c1b0, c1b1⟩ := zne c9; by_cases c9 : 0 ≤ ((rd_T41 l0_0 x2_3).f2)
                ·rw [if_pos c9] at H; have c1b0 := decide_eq_true c9; clear c9; by_cases c10 : ((rd_T41 l0_0 x2_3).f2) < (x1_3.length : Int)
                 ·rw [if_pos c10] at H; have c1b0 := decide_eq_true c10; clear c10; by_cases c11 : 0 ≤ ((rd_T41 l0_0 x2_3).f3)
                  ·rw [if_pos c11] at H; have c1b0 := decide_eq_true c11; clear c11; by_cases c12 : ((rd_T41 l0_0 x2_3).f3) < (x1_3.length : Int)
                   ·rw [if_pos c12] at H; have c1b0 := decide_eq_true c12; clear c12; by_cases c13 : 0 ≤ ((rd_T41 l0_0 x2_3).f4)
                    ·rw [if_pos c13] at H; have c1b0 := decide_eq_true c13; clear c13; by_cases c14 : ((rd_T41 l0_0 x2_3).f4) < (x1_3.length : Int)
                     ·rw [if_pos c14] at H; have c1b0 := decide_eq_true c14; clear c14; by_cases c15 : ((rd_T41 l0_0 x2_3).f3) < (l0_0.length : Int)
                      ·rw [if_pos c15] at H; have c1b0 := decide_eq_true c15; clear c15; replace H := Option.bind_eq_some_iff.mp H; obtain ⟨t1, A3, H⟩ := H; have A4 := aM A3; clear A3; by_cases c16 : x2_3 < (x1_3.length : Int)
                       ·rw [if_pos c16] at H; have c1b0 := decide_eq_true c16; clear c16; obtain ⟨y1, hy1⟩ : ∃ y_ : List Int, y_ = (x1_3.set (x2_3 : Int).toNat t1) := ⟨_, rfl⟩; replace H : (net_Eval.l2 k1 y1 l0_0 (l0_0.length : Int) (wrap64 (x2_3 + 1)) l0_0 l0_1 l0_2 l0_3 l0_4) = some r := by first | (rw [hy1]; with_reducible exact H) | (have H1_ := (Option.bind_some _ _).symm.trans H; rw [hy1]; with_reducible exact H1_) | (have H1_ := (Option.bind_some _ _).symm.trans H; with_reducible exact H1_) | with_reducible exact H | (rw [hy1]; exact H) | exact H
                        have Ny1 := aM hy1; clear hy1; have H' := aM H; clear H; have p4 : 0 ≤ (x2_3 : Int) := zod; have q4 : x2_3 < (l0_0.length : Int) := zod; obtain ⟨ad1, e1, hx1_0, hx1_1, hx1_2, hx1_3, hx1_4, hx1_5, hx1_6⟩ := at_T41 HR1_0.out x2_3 p4 q4; cases e1; replace hx1_0 := zx HB hx1_0; replace hx1_1 := zx HB hx1_1; replace hx1_2 := zx HB hx1_2; replace hx1_3 := zx HB hx1_3; replace hx1_4 := zx HB hx1_4; replace hx1_5 := zx HB hx1_5; replace hx1_6 := zx HB hx1_6; replace p4 := eq_true p4; replace q4 := eq_true q4; try go_wp2_with (first | ((with_reducible refine zgd 13 rfl ?_); refine zbox 13 #[.int .i64 0, .int .i64 0, .int .i64 0, .int .i64 0, .int .i64 0, .int .i64 0, .int .i64 0] 41 ?_; intro gb2 hg w2 hbox hb; replace HO_1 := aM (yr (q2z HO_1) hb); have BK2 := aM (hbox); have GW1 := aM ((q12z HB GE1 : w.heap.size ≤ gb2)); have GE2 := aM ((q12z HB GE1 : w.heap.size ≤ gb2)); replace HB := aM (ym (q4z HB GE1) hb); have NB1_226 := aM ((q34z BK1 : gb1 ≠ gb2)); have NB1_213 := aM ((q35z BK1 : gb2 ≠ gb1)); replace BK1 := aM (yi (zi BK1) hb); clear hb hbox hg; have hnb1 := NB1_213.out; have hnc1 := NB1_226.out; obtain ⟨i1_0, i1_1, i1_2, i1_3, i1_4, i1_5, i1_6, j1_0, j1_1, j1_2, j1_3, j1_4, j1_5, j1_6⟩ := cells7 BK2.out))
                        have n1_ : Aside0 (Kd.R (Kd.int .i64) 3 (((((((w2.setCell ⟨gb2, 0, none⟩ (.int .i64 ((rd_T41 l0_0 x2_3).f0))).setCell ⟨gb2, 1, none⟩ (.int .i64 ((rd_T41 l0_0 x2_3).f1))).setCell ⟨gb2, 2, none⟩ (.int .i64 ((rd_T41 l0_0 x2_3).f2))).setCell ⟨gb2, 3, none⟩ (.int .i64 ((rd_T41 l0_0 x2_3).f3))).setCell ⟨gb2, 4, none⟩ (.int .i64 ((rd_T41 l0_0 x2_3).f4))).setCell ⟨gb2, 5, none⟩ (.int .i64 ((rd_T41 l0_0 x2_3).f5))).setCell ⟨gb2, 6, none⟩ (.int .i64 ((rd_T41 l0_0 x2_3).f6))) w.heap.size (fun _ => True) v1 x1_3) := ⟨q31z HO_1 BK2⟩; have n2_ : Aside0 ((((((((w2.setCell ⟨gb2, 0, none⟩ (.int .i64 ((rd_T41 l0_0 x2_3).f0))).setCell ⟨gb2, 1, none⟩ (.int .i64 ((rd_T41 l0_0 x2_3).f1))).setCell ⟨gb2, 2, none⟩ (.int .i64 ((rd_T41 l0_0 x2_3).f2))).setCell ⟨gb2, 3, none⟩ (.int .i64 ((rd_T41 l0_0 x2_3).f3))).setCell ⟨gb2, 4, none⟩ (.int .i64 ((rd_T41 l0_0 x2_3).f4))).setCell ⟨gb2, 5, none⟩ (.int .i64 ((rd_T41 l0_0 x2_3).f5))).setCell ⟨gb2, 6, none⟩ (.int .i64 ((rd_T41 l0_0 x2_3).f6))).heap[gb1]? = some (.cells #[.slice (some ad1) l0_0.length c0_0, .slice A0_1 l0_1.length c0_1, .slice A0_2 l0_2.length c0_2, .slice A0_3 l0_3.length c0_3, .slice A0_4 l0_4.length c0_4] 27 (0, 0))) := ⟨q8z NB1_226 BK1⟩; have n3_ : Aside0 ((((((((w2.setCell ⟨gb2, 0, none⟩ (.int .i64 ((rd_T41 l0_0 x2_3).f0))).setCell ⟨gb2, 1, none⟩ (.int .i64 ((rd_T41 l0_0 x2_3).f1))).setCell ⟨gb2, 2, none⟩ (.int .i64 ((rd_T41 l0_0 x2_3).f2))).setCell ⟨gb2, 3, none⟩ (.int .i64 ((rd_T41 l0_0 x2_3).f3))).setCell ⟨gb2, 4, none⟩ (.int .i64 ((rd_T41 l0_0 x2_3).f4))).setCell ⟨gb2, 5, none⟩ (.int .i64 ((rd_T41 l0_0 x2_3).f5))).setCell ⟨gb2, 6, none⟩ (.int .i64 ((rd_T41 l0_0 x2_3).f6))).heap[gb2]? = some (.cells #[.int .i64 ((rd_T41 l0_0 x2_3).f0), .int .i64 ((rd_T41 l0_0 x2_3).f1), .int .i64 ((rd_T41 l0_0 x2_3).f2), .int .i64 ((rd_T41 l0_0 x2_3).f3), .int .i64 ((rd_T41 l0_0 x2_3).f4), .int .i64 ((rd_T41 l0_0 x2_3).f5), .int .i64 ((rd_T41 l0_0 x2_3).f6)] 41 (0, 0))) := ⟨by (with_reducible repeat (first | refine ya ?_ _ | refine yc ?_ | refine yb ?_ _)); refine ys (cs := #[.int .i64 ((rd_T41 l0_0 x2_3).f0), .int .i64 ((rd_T41 l0_0 x2_3).f1), .int .i64 ((rd_T41 l0_0 x2_3).f2), .int .i64 ((rd_T41 l0_0 x2_3).f3), .int .i64 ((rd_T41 l0_0 x2_3).f4), .int .i64 ((rd_T41 l0_0 x2_3).f5), .int .i64 0]) ?_ 6 _ rfl; (with_reducible repeat (first | refine ya ?_ _ | refine yc ?_ | refine yb ?_ _)); refine ys (cs := #[.int .i64 ((rd_T41 l0_0 x2_3).f0), .int .i64 ((rd_T41 l0_0 x2_3).f1), .int .i64 ((rd_T41 l0_0 x2_3).f2), .int .i64 ((rd_T41 l0_0 x2_3).f3), .int .i64 ((rd_T41 l0_0 x2_3).f4), .int .i64 0, .int .i64 0]) ?_ 5 _ rfl; (with_reducible repeat (first | refine ya ?_ _ | refine yc ?_ | refine yb ?_ _)); refine ys (cs := #[.int .i64 ((rd_T41 l0_0 x2_3).f0), .int .i64 ((rd_T41 l0_0 x2_3).f1), .int .i64 ((rd_T41 l0_0 x2_3).f2), .int .i64 ((rd_T41 l0_0 x2_3).f3), .int .i64 0, .int .i64 0, .int .i64 0]) ?_ 4 _ rfl; (with_reducible repeat (first | refine ya ?_ _ | refine yc ?_ | refine yb ?_ _)); refine ys (cs := #[.int .i64 ((rd_T41 l0_0 x2_3).f0), .int .i64 ((rd_T41 l0_0 x2_3).f1), .int .i64 ((rd_T41 l0_0 x2_3).f2), .int .i64 0, .int .i64 0, .int .i64 0, .int .i64 0]) ?_ 3 _ rfl; (with_reducible repeat (first | refine ya ?_ _ | refine yc ?_ | refine yb ?_ _)); refine ys (cs := #[.int .i64 ((rd_T41 l0_0 x2_3).f0), .int .i64 ((rd_T41 l0_0 x2_3).f1), .int .i64 0, .int .i64 0, .int .i64 0, .int .i64 0, .int .i64 0]) ?_ 2 _ rfl; (with_reducible repeat (first | refine ya ?_ _ | refine yc ?_ | refine yb ?_ _)); refine ys (cs := #[.int .i64 ((rd_T41 l0_0 x2_3).f0), .int .i64 0, .int .i64 0, .int .i64 0, .int .i64 0, .int .i64 0, .int .i64 0]) ?_ 1 _ rfl; (with_reducible repeat (first | refine ya ?_ _ | refine yc ?_ | refine yb ?_ _)); refine ys (cs := #[.int .i64 0, .int .i64 0, .int .i64 0, .int .i64 0, .int .i64 0, .int .i64 0, .int .i64 0]) ?_ 0 _ rfl; (with_reducible repeat (first | refine ya ?_ _ | refine yc ?_ | refine yb ?_ _)); exact BK2.out⟩
                        have n4_ : Aside0 (Below w.heap.size w (((((((w2.setCell ⟨gb2, 0, none⟩ (.int .i64 ((rd_T41 l0_0 x2_3).f0))).setCell ⟨gb2, 1, none⟩ (.int .i64 ((rd_T41 l0_0 x2_3).f1))).setCell ⟨gb2, 2, none⟩ (.int .i64 ((rd_T41 l0_0 x2_3).f2))).setCell ⟨gb2, 3, none⟩ (.int .i64 ((rd_T41 l0_0 x2_3).f3))).setCell ⟨gb2, 4, none⟩ (.int .i64 ((rd_T41 l0_0 x2_3).f4))).setCell ⟨gb2, 5, none⟩ (.int .i64 ((rd_T41 l0_0 x2_3).f5))).setCell ⟨gb2, 6, none⟩ (.int .i64 ((rd_T41 l0_0 x2_3).f6)))) := ⟨q3z HB GE1 GE2⟩; (try clear HO_1)
                        (try clear BK1)
                        (try clear BK2)
                        (try clear HB)
                        generalize (((((((w2.setCell ⟨gb2, 0, none⟩ (.int .i64 ((rd_T41 l0_0 x2_3).f0))).setCell ⟨gb2, 1, none⟩ (.int .i64 ((rd_T41 l0_0 x2_3).f1))).setCell ⟨gb2, 2, none⟩ (.int .i64 ((rd_T41 l0_0 x2_3).f2))).setCell ⟨gb2, 3, none⟩ (.int .i64 ((rd_T41 l0_0 x2_3).f3))).setCell ⟨gb2, 4, none⟩ (.int .i64 ((rd_T41 l0_0 x2_3).f4))).setCell ⟨gb2, 5, none⟩ (.int .i64 ((rd_T41 l0_0 x2_3).f5))).setCell ⟨gb2, 6, none⟩ (.int .i64 ((rd_T41 l0_0 x2_3).f6))) = w3 at n1_ n2_ n3_ n4_ ⊢; have HO_1 := n1_; have BK1 := n2_; have BK2 := n3_; have HB := n4_; clear n1_ n2_ n3_ n4_; replace HO_1 := aM (yh HO_1.out); replace BK1 := aM (yc BK1.out); replace BK2 := aM (yc BK2.out); replace HB := aM (yk HB.out); obtain ⟨Ao1, co1, eo1⟩ := Kd.R_slice HO_1.out; (first | subst eo1 | (injection eo1 with f1_ f2_ f3_; have f4_ := f1_.symm; have f5_ := f3_.symm; clear f1_ f2_ f3_; subst f4_; subst f5_))
                        have p4 : 0 ≤ (((rd_T41 l0_0 x2_3).f2) : Int) := zod; have q4 : ((rd_T41 l0_0 x2_3).f2) < (x1_3.length : Int) := zod; obtain ⟨ad2, e1, hx1_0⟩ := Kd.at_int (Kd.R_reads' HO_1.out).2.2 ((rd_T41 l0_0 x2_3).f2) p4 q4; cases e1; replace p4 := eq_true p4; replace q4 := eq_true q4; have p4 : 0 ≤ (((rd_T41 l0_0 x2_3).f3) : Int) := zod; have q4 : ((rd_T41 l0_0 x2_3).f3) < (x1_3.length : Int) := zod; obtain ⟨ad3, e1, hx2_0⟩ := Kd.at_int (Kd.R_reads' HO_1.out).2.2 ((rd_T41 l0_0 x2_3).f3) p4 q4; obtain rfl : ad2 = ad3 := (by injection e1); replace p4 := eq_true p4; replace q4 := eq_true q4; have p4 : 0 ≤ (((rd_T41 l0_0 x2_3).f4) : Int) := zod; have q4 : ((rd_T41 l0_0 x2_3).f4) < (x1_3.length : Int) := zod; obtain ⟨ad3, e1, hx3_0⟩ := Kd.at_int (Kd.R_reads' HO_1.out).2.2 ((rd_T41 l0_0 x2_3).f4) p4 q4; obtain rfl : ad2 = ad3 := (by injection e1); replace p4 := eq_true p4; replace q4 := eq_true q4; have p4 : 0 ≤ (((rd_T41 l0_0 x2_3).f3) : Int) := zod; have q4 : ((rd_T41 l0_0 x2_3).f3) < (l0_0.length : Int) := zod; obtain ⟨ad3, e1, hx4_0, hx1_1, hx1_2, hx1_3, hx1_4, hx1_5, hx1_6⟩ := at_T41 HR1_0.out ((rd_T41 l0_0 x2_3).f3) p4 q4; have hw1_6 := hx1_6; have hw1_5 := hx1_5; have hw1_4 := hx1_4; have hw1_3 := hx1_3; have hw1_2 := hx1_2; have hw1_1 := hx1_1; have hw1_0 := hx4_0; obtain rfl : ad1 = ad3 := (by injection e1); replace hx4_0 := zx HB hx4_0; replace hx1_1 := zx HB hx1_1; replace hx1_2 := zx HB hx1_2; replace hx1_3 := zx HB hx1_3; replace hx1_4 := zx HB hx1_4; replace hx1_5 := zx HB hx1_5; replace hx1_6 := zx HB hx1_6; replace p4 := eq_true p4; replace q4 := eq_true q4; refine start_ (n := 28) (S := fun w' => w'.cell? ⟨gb2, 0, none⟩ = some (.int .i64 ((rd_T41 l0_0 x2_3).f0)) ∧ w'.cell? ⟨gb2, 1, none⟩ = some (.int .i64 ((rd_T41 l0_0 x2_3).f1)) ∧ w'.cell? ⟨gb2, 2, none⟩ = some (.int .i64 ((rd_T41 l0_0 x2_3).f2)) ∧ w'.cell? ⟨gb2, 3, none⟩ = some (.int .i64 ((rd_T41 l0_0 x2_3).f3)) ∧ w'.cell? ⟨gb2, 4, none⟩ = some (.int .i64 ((rd_T41 l0_0 x2_3).f4)) ∧ w'.cell? ⟨gb2, 5, none⟩ = some (.int .i64 ((rd_T41 l0_0 x2_3).f5)) ∧ w'.cell? ⟨gb2, 6, none⟩ = some (.int .i64 ((rd_T41 l0_0 x2_3).f6)) ∧ w'.cell? ⟨gb1, 0, none⟩ = some (.slice (some ad1) l0_0.length c0_0) ∧ w'.cell? ⟨gb1, 1, none⟩ = some (.slice A0_1 l0_1.length c0_1) ∧ w'.cell? ⟨gb1, 2, none⟩ = some (.slice A0_2 l0_2.length c0_2) ∧ w'.cell? ⟨gb1, 3, none⟩ = some (.slice A0_3 l0_3.length c0_3) ∧ w'.cell? ⟨gb1, 4, none⟩ = some (.slice A0_4 l0_4.length c0_4) ∧ w'.cell? (ad2.add (((rd_T41 l0_0 x2_3).f2)).toNat) = some (.int .i64 (rd x1_3 ((rd_T41 l0_0 x2_3).f2))) ∧ w'.cell? (ad2.add (((rd_T41 l0_0 x2_3).f3)).toNat) = some (.int .i64 (rd x1_3 ((rd_T41 l0_0 x2_3).f3))) ∧ w'.cell? (ad2.add (((rd_T41 l0_0 x2_3).f4)).toNat) = some (.int .i64 (rd x1_3 ((rd_T41 l0_0 x2_3).f4))) ∧ w'.cell? (ad1.add ((((rd_T41 l0_0 x2_3).f3)).toNat * 7)) = some (.int .i64 ((rd_T41 l0_0 ((rd_T41 l0_0 x2_3).f3)).f0)) ∧ w'.cell? ⟨(ad1.add ((((rd_T41 l0_0 x2_3).f3)).toNat * 7)).block, (ad1.add ((((rd_T41 l0_0 x2_3).f3)).toNat * 7)).off + 1, none⟩ = some (.int .i64 ((rd_T41 l0_0 ((rd_T41 l0_0 x2_3).f3)).f1)) ∧ w'.cell? ⟨(ad1.add ((((rd_T41 l0_0 x2_3).f3)).toNat * 7)).block, (ad1.add ((((rd_T41 l0_0 x2_3).f3)).toNat * 7)).off + 2, none⟩ = some (.int .i64 ((rd_T41 l0_0 ((rd_T41 l0_0 x2_3).f3)).f2)) ∧ w'.cell? ⟨(ad1.add ((((rd_T41 l0_0 x2_3).f3)).toNat * 7)).block, (ad1.add ((((rd_T41 l0_0 x2_3).f3)).toNat * 7)).off + 3, none⟩ = some (.int .i64 ((rd_T41 l0_0 ((rd_T41 l0_0 x2_3).f3)).f3)) ∧ w'.cell? ⟨(ad1.add ((((rd_T41 l0_0 x2_3).f3)).toNat * 7)).block, (ad1.add ((((rd_T41 l0_0 x2_3).f3)).toNat * 7)).off + 4, none⟩ = some (.int .i64 ((rd_T41 l0_0 ((rd_T41 l0_0 x2_3).f3)).f4)) ∧ w'.cell? ⟨(ad1.add ((((rd_T41 l0_0 x2_3).f3)).toNat * 7)).block, (ad1.add ((((rd_T41 l0_0 x2_3).f3)).toNat * 7)).off + 5, none⟩ = some (.int .i64 ((rd_T41 l0_0 ((rd_T41 l0_0 x2_3).f3)).f5)) ∧ w'.cell? ⟨(ad1.add ((((rd_T41 l0_0 x2_3).f3)).toNat * 7)).block, (ad1.add ((((rd_T41 l0_0 x2_3).f3)).toNat * 7)).off + 6, none⟩ = some (.int .i64 ((rd_T41 l0_0 ((rd_T41 l0_0 x2_3).f3)).f6))) (ds := [27]) (zb 28 0) (by kernel_rfl) rfl rfl ⟨zc BK2 0, zc BK2 1, zc BK2 2, zc BK2 3, zc BK2 4, zc BK2 5, zc BK2 6, zc BK1 0, zc BK1 1, zc BK1 2, zc BK1 3, zc BK1 4, hx1_0, hx2_0, hx3_0, (zx HB hw1_0), (zx HB hw1_1), (zx HB hw1_2), (zx HB hw1_3), (zx HB hw1_4), (zx HB hw1_5), (zx HB hw1_6)⟩ (fun hHeld => ?_); refine with_tabW net_Eval.tab16 net_Eval.bits16 (fun HT_ HW_ => ?_)
                        generalize w3.drew = w2 at HO_1 BK1 BK2 HB hx1_0 hx2_0 hx3_0 hx4_0 hx1_1 hx1_2 hx1_3 hx1_4 hx1_5 hx1_6 hHeld ⊢; refine zpu 0 68 (zb 28 1) ?_; refine zpu 1 69 (zb 28 3) ?_; refine zpu 3 71 (zb 28 11) ?_; refine zpu 4 72 (zb 28 27) ?_; refine zpu 8 76 (zb 28 283) ?_; refine zpu 9 77 (zb 28 795) ?_; refine zpu 13 81 (zb 28 8987) ?_; refine zpu 14 82 (zb 28 25371) ?_; refine zpu 18 86 (zb 28 287515) ?_; refine zpu 20 88 (zb 28 1336091) ?_; refine ztk22 2 70 (zb 28 1336095) hHeld ?_; refine ztk22 5 73 (zb 28 1336127) hHeld ?_; refine zpu 6 74 (zb 28 1336191) ?_; refine ztk22 7 75 (zb 28 1336319) hHeld ?_; refine ztk22 10 78 (zb 28 1337343) hHeld ?_; refine zpu 11 79 (zb 28 1339391) ?_; refine ztk22 12 80 (zb 28 1343487) hHeld ?_; refine ztk22 15 83 (zb 28 1376255) hHeld ?_; refine zpu 16 84 (zb 28 1441791) ?_; refine ztk22 17 85 (zb 28 1572863) hHeld ?_; refine ztk22 19 87 (zb 28 2097151) hHeld ?_; refine ztk22 21 89 (zb 28 4194303) hHeld ?_; refine zpu 22 90 (zb 28 8388607) ?_; refine zpu 23 91 (zb 28 16777215) ?_; refine ztk22 24 92 (zb 28 33554431) hHeld ?_; refine zon 25 (some 93) (zb 28 67108863) fun K hK => ?_
                        refine zgo Try.func44 #[.agg #[.int .i64 ((rd_T41 l0_0 x2_3).f0), .int .i64 ((rd_T41 l0_0 x2_3).f1), .int .i64 ((rd_T41 l0_0 x2_3).f2), .int .i64 ((rd_T41 l0_0 x2_3).f3), .int .i64 ((rd_T41 l0_0 x2_3).f4), .int .i64 ((rd_T41 l0_0 x2_3).f5), .int .i64 ((rd_T41 l0_0 x2_3).f6)], .int .i64 (rd x1_3 ((rd_T41 l0_0 x2_3).f2)), .int .i64 (rd x1_3 ((rd_T41 l0_0 x2_3).f3)), .int .i64 (rd x1_3 ((rd_T41 l0_0 x2_3).f4)), .int .i64 ((rd_T41 l0_0 ((rd_T41 l0_0 x2_3).f3)).f1)] ?_; with_reducible refine (vec_Do.calls ((rd_T41 l0_0 x2_3).f0) ((rd_T41 l0_0 x2_3).f1) ((rd_T41 l0_0 x2_3).f2) ((rd_T41 l0_0 x2_3).f3) ((rd_T41 l0_0 x2_3).f4) ((rd_T41 l0_0 x2_3).f5) ((rd_T41 l0_0 x2_3).f6) (rd x1_3 ((rd_T41 l0_0 x2_3).f2)) (rd x1_3 ((rd_T41 l0_0 x2_3).f3)) (rd x1_3 ((rd_T41 l0_0 x2_3).f4)) ((rd_T41 l0_0 ((rd_T41 l0_0 x2_3).f3)).f1) t1 _ A4.out).mono ?_
                        rintro e w2 ⟨rfl, hb⟩; have HS1_ := (hb.cell (World.block_lt_of_cell? _ _ (hHeld.2.2.2.2.2.2.2.2.2.2.2.2.1))).trans (hHeld.2.2.2.2.2.2.2.2.2.2.2.2.1); have HS2_ := (hb.cell (World.block_lt_of_cell? _ _ (hHeld.2.2.2.2.2.2.2.2.2.2.2.2.2.1))).trans (hHeld.2.2.2.2.2.2.2.2.2.2.2.2.2.1); have HS3_ := (hb.cell (World.block_lt_of_cell? _ _ (hHeld.2.2.2.2.2.2.2.2.2.2.2.2.2.2.1))).trans (hHeld.2.2.2.2.2.2.2.2.2.2.2.2.2.2.1); refine ⟨_, rfl, ?_⟩; replace HO_1 := aM (yr (q2z HO_1) hb); replace BK1 := aM (yi (zi BK1) hb); replace BK2 := aM (yi (zi BK2) hb); replace HB := aM (ym (q3z HB GE1 GE2) hb); (try clear hb)
                        (try clear hb2)
                        (try clear hk)
                        (try clear hi)
                        have p4 : 0 ≤ (x2_3 : Int) := zod; have q4 : (x2_3 : Int) < ((x1_3.length : Int) : Int) := zod; obtain ⟨go1, co1, eo1, gb1, gl1, cl1, HG1⟩ := Kd.R_form HO_1.out (by omega); (first | cases eo1 | (injection eo1 with ea_ en_ ec_; (first | subst ea_ | (injection ea_ with ea_; subst ea_)); subst ec_; clear en_))
                        have GB1 := aM gb1; have GG1 := aM HG1; clear gb1 gl1 HG1; (first | simp only [add_plain] at hx1_0 | skip)
                        (first | simp only [add_plain] at hx2_0 | skip)
                        (first | simp only [add_plain] at hx3_0 | skip)
                        obtain ⟨hx1_0, hf1_0⟩ := Kd.R_celln 0 HO_1.out (x2_3 : Int) p4 q4; replace p4 := eq_true p4; replace q4 := eq_true q4; have HP1 := Kd.R_putn HO_1.out (x2_3 : Int) t1; rw [← Ny1.out] at HP1; have HQ1 := aM HP1; clear HP1; refine hK.out _ _ ⟨zc BK2 0, zc BK2 1, zc BK2 2, zc BK2 3, zc BK2 4, zc BK2 5, zc BK2 6, zc BK1 0, zc BK1 1, zc BK1 2, zc BK1 3, zc BK1 4, HS1_, HS2_, HS3_, (zx HB hw1_0), (zx HB hw1_1), (zx HB hw1_2), (zx HB hw1_3), (zx HB hw1_4), (zx HB hw1_5), (zx HB hw1_6)⟩ (fun hHeld => ?_); clear hK K; refine zno 93 ?_; refine zpu 26 94 (zb 28 134217727) ?_; refine zla 27 (none) (zb 28 268435455) fun K hK => ?_
                        refine skip_ (w1 := ?_) (by rfl) rfl ?_ ?_
                        rotate_left
                        ·go_simp
                         rfl
                        refine hK.out _ _ ?_; clear hK K; refine zdo ?_; try go_wp2
                        go_roundg k1
                        case measure => have := HK1.out; have := HK2.out; have := HK3.out; omega
                        case rel => exact ⟨(y1), (wrap64 (x2_3 + 1)), q13z, H', ⟨q85z HK1 HK2 HK3⟩, ⟨q2z HQ1⟩, ⟨q69z HO_1 BK1⟩, ⟨q47z HB GB1 GE1 GE2⟩⟩
                       ·rw [if_neg c16] at H; exact absurd H (by simp)
                      ·rw [if_neg c15] at H; exact absurd H (by simp)
                     ·rw [if_neg c14] at H; exact absurd H (by simp)
                    ·rw [if_neg c13] at H; exact absurd H (by simp)
                   ·rw [if_neg c12] at H; exact absurd H (by simp)
                  ·rw [if_neg c11] at H; exact absurd H (by simp)
                 ·rw [if_neg c10] at H; exact absurd H (by simp)
                ·rw [if_neg c9] at H; exact absurd H (by simp)
             ·rw [if_neg c8] at H; exact absurd H (by simp)
            ·rw [if_neg c7] at H; exact absurd H (by simp)
           ·rw [if_neg c6] at H; have c1b0 := decide_eq_false c6; clear c6; obtain rfl := Option.some.inj H; go_wp2
            go_ret
            exact ⟨_, q11z, q2z HO_1, q4z HB GE1⟩
  ·rw [if_neg c5] at H; exact absurd H (by simp)
 ·rw [if_neg c4] at H; exact absurd H (by simp)
def net_After.l0 : Nat → List Int → List Int → List (S43) → Int → Int → Option (List Int)
 | 0, _, _, _, _, _ => none
 | k + 1, x7, x8, x20, x21, x22 => if x22 < x21 then (if 0 ≤ x22 then (if x22 < (x20.length : Int) then (if 0 ≤ ((rd_T43 x20 x22).f2) then (if ((rd_T43 x20 x22).f2) < (x7.length : Int) then (if x22 < (x8.length : Int) then (net_After.l0 k x7 (x8.set (x22 : Int).toNat (rd x7 ((rd_T43 x20 x22).f2))) x20 x21 (wrap64 (x22 + 1))) else (none)) else (none)) else (none)) else (none)) else (none)) else (some x8)
def net_After.f (k : Nat) (l0_0 : List (S41)) (l0_1 : List (S47)) (l0_2 : List (S43)) (l0_3 : List (S61)) (l0_4 : List (S47)) (l1 : List Int) (l2 : List Int) : Option (List Int) := (net_Eval.f k l0_0 l0_1 l0_2 l0_3 l0_4 l1 l2).bind fun t234 => (if 0 ≤ (l0_2.length : Int) then (if ((l0_2.length : Int) : Int).toNat ≤ 35184372088832 then (net_After.l0 k t234 (List.replicate ((l0_2.length : Int) : Int).toNat 0) l0_2 (l0_2.length : Int) 0) else (none)) else (none))
theorem net_After.mono_l : ∀ k, (∀ y0 y1 y2 y3 y4, LeO (net_After.l0 k y0 y1 y2 y3 y4) (net_After.l0 (k + 1) y0 y1 y2 y3 y4))
 | 0 => fun _ _ _ _ _ r h => by simp [net_After.l0] at h
 | k + 1 => by
  have ih0 := net_After.mono_l k
  ·intro y0 y1 y2 y3 y4
   unfold net_After.l0
   repeat' first | (with_reducible first | apply ih0 | exact LeO.refl _ | exact LeO.none _ | refine LeO.ite ?_ ?_ | refine LeO.bind ?_ (fun _ => ?_)) | exact LeO.none _ | refine LeO.ite ?_ ?_ | refine LeO.bind ?_ (fun _ => ?_)
theorem net_After.mono : ∀ a0 a1 a2 a3 a4 a5 a6 k, LeO (net_After.f k a0 a1 a2 a3 a4 a5 a6) (net_After.f (k + 1) a0 a1 a2 a3 a4 a5 a6) := by
 intro a0 a1 a2 a3 a4 a5 a6 k
 have ih1 := net_After.mono_l k; unfold net_After.f
 repeat' first | (with_reducible first | apply ih1 | apply net_Eval.mono | exact LeO.refl _ | exact LeO.none _ | refine LeO.ite ?_ ?_ | refine LeO.bind ?_ (fun _ => ?_)) | exact LeO.none _ | refine LeO.ite ?_ ?_ | refine LeO.bind ?_ (fun _ => ?_)
theorem net_After.calls (k : Nat) (A0_0 : Option Addr) (c0_0 : Nat) (l0_0 : List (S41)) (A0_1 : Option Addr) (c0_1 : Nat) (l0_1 : List (S47)) (A0_2 : Option Addr) (c0_2 : Nat) (l0_2 : List (S43)) (A0_3 : Option Addr) (c0_3 : Nat) (l0_3 : List (S61)) (A0_4 : Option Addr) (c0_4 : Nat) (l0_4 : List (S47)) (A1 : Option Addr) (c1 : Nat) (l1 : List Int) (A2 : Option Addr) (c2 : Nat) (l2 : List Int) (r : List Int) (w : World) (hr0_0 : Kd.C k41 w A0_0 l0_0.length l0_0) (hc0_0 : l0_0.length ≤ c0_0) (hr0_1 : Kd.C k47 w A0_1 l0_1.length l0_1) (hc0_1 : l0_1.length ≤ c0_1) (hr0_2 : Kd.C k43 w A0_2 l0_2.length l0_2) (hc0_2 : l0_2.length ≤ c0_2) (hr0_3 : Kd.C k61 w A0_3 l0_3.length l0_3) (hc0_3 : l0_3.length ≤ c0_3) (hr0_4 : Kd.C k47 w A0_4 l0_4.length l0_4) (hc0_4 : l0_4.length ≤ c0_4) (hr1 : Kd.C (Kd.int .i64) w A1 l1.length l1) (hc1 : l1.length ≤ c1) (hr2 : Kd.C (Kd.int .i64) w A2 l2.length l2) (hc2 : l2.length ≤ c2) (h : net_After.f k l0_0 l0_1 l0_2 l0_3 l0_4 l1 l2 = some r) :
  Calls Try.prog 22 #[.agg #[.slice A0_0 l0_0.length c0_0, .slice A0_1 l0_1.length c0_1, .slice A0_2 l0_2.length c0_2, .slice A0_3 l0_3.length c0_3, .slice A0_4 l0_4.length c0_4], .slice A1 l1.length c1, .slice A2 l2.length c2] w fun e w' => ∃ v0_ : Value, e = .returned (v0_) ∧ Kd.R (Kd.int .i64) 3 w' w.heap.size (fun _ => True) v0_ r ∧ Below w.heap.size w w' := by
 have hu1 := Try.underlying27; have hu1 := Try.underlying43; have HR1_0 := aM hr0_0; have HC1_0 := aM hc0_0; clear hr0_0 hc0_0; have HR1_1 := aM hr0_1; have HC1_1 := aM hc0_1; clear hr0_1 hc0_1; have HR1_2 := aM hr0_2; have HC1_2 := aM hc0_2; clear hr0_2 hc0_2; have HR1_3 := aM hr0_3; have HC1_3 := aM hc0_3; clear hr0_3 hc0_3; have HR1_4 := aM hr0_4; have HC1_4 := aM hc0_4; clear hr0_4 hc0_4; have HR1 := aM hr1; have HC1 := aM hc1; clear hr1 hc1; have HR2 := aM hr2; have HC2 := aM hc2; clear hr2 hc2; have HB := aM (Below.refl w.heap.size w); have H : ((net_Eval.f k l0_0 l0_1 l0_2 l0_3 l0_4 l1 l2).bind fun t1 => (if 0 ≤ (l0_2.length : Int) then (if ((l0_2.length : Int) : Int).toNat ≤ 35184372088832 then (net_After.l0 k t1 (List.replicate ((l0_2.length : Int) : Int).toNat 0) l0_2 (l0_2.length : Int) 0) else (none)) else (none))) = some r := h; clear h; replace H := Option.bind_eq_some_iff.mp H; obtain ⟨t1, A3, H⟩ := H; have A4 := aM A3; clear A3; by_cases c3 : 0 ≤ (l0_2.length : Int)
 ·rw [if_pos c3] at H; have c1b0 := eq_true c3; have c1b1 : decide (0 ≤ (l0_2.length : Int)) = true := decide_eq_true c3; clear c3; by_cases c4 : ((l0_2.length : Int) : Int).toNat ≤ 35184372088832
  ·rw [if_pos c4] at H; have c2b0 := eq_true c4; have c2b1 : decide (((l0_2.length : Int) : Int).toNat ≤ 35184372088832) = true := decide_eq_true c4; clear c4; obtain ⟨y1, hy1⟩ : ∃ y_ : List Int, y_ = (List.replicate ((l0_2.length : Int) : Int).toNat 0) := ⟨_, rfl⟩; replace H : (net_After.l0 k t1 y1 l0_2 (l0_2.length : Int) 0) = some r := by first | (rw [hy1]; with_reducible exact H) | (have H1_ := (Option.bind_some _ _).symm.trans H; rw [hy1]; with_reducible exact H1_) | (have H1_ := (Option.bind_some _ _).symm.trans H; with_reducible exact H1_) | with_reducible exact H | (rw [hy1]; exact H) | exact H
   have Ny1 := aM hy1; clear hy1; have H' := aM H; clear H; go_enter Try.func22, Try.ntmps22
   go_wp2_with (first | ((with_reducible refine zgd 3 rfl ?_); refine zbox 3 #[.slice A0_0 l0_0.length c0_0, .slice A0_1 l0_1.length c0_1, .slice A0_2 l0_2.length c0_2, .slice A0_3 l0_3.length c0_3, .slice A0_4 l0_4.length c0_4] 27 ?_; intro gb1 hg w2 hbox hb; have BK1 := aM (hbox); have GW1 := aM ((q7z HB : w.heap.size ≤ gb1)); have GE1 := aM ((q7z HB : w.heap.size ≤ gb1)); replace HB := aM (ym (q5z HB) hb); clear hb hbox hg; obtain ⟨i1_0, i1_1, i1_2, i1_3, i1_4, j1_0, j1_1, j1_2, j1_3, j1_4⟩ := cells5 BK1.out) | ((with_reducible refine zgc 20 rfl ?_); refine zgl (some 14) Try.func20 #[.agg #[.slice A0_0 l0_0.length c0_0, .slice A0_1 l0_1.length c0_1, .slice A0_2 l0_2.length c0_2, .slice A0_3 l0_3.length c0_3, .slice A0_4 l0_4.length c0_4], .slice A1 l1.length c1, .slice A2 l2.length c2] ?_; (with_reducible refine (net_Eval.calls k _ _ l0_0 _ _ l0_1 _ _ l0_2 _ _ l0_3 _ _ l0_4 _ _ l1 _ _ l2 t1 _ ?side1 ?side2 ?side3 ?side4 ?side5 ?side6 ?side7 ?side8 ?side9 ?side10 ?side11 ?side12 ?side13 ?side14 A4.out).mono ?_); (case side1 => exact q1z HR1_0 HB); (case side2 => exact HC1_0.out); (case side3 => exact q1z HR1_1 HB); (case side4 => exact HC1_1.out); (case side5 => exact q1z HR1_2 HB); (case side6 => exact HC1_2.out); (case side7 => exact q1z HR1_3 HB); (case side8 => exact HC1_3.out); (case side9 => exact q1z HR1_4 HB); (case side10 => exact HC1_4.out); (case side11 => exact q1z HR1 HB); (case side12 => exact HC1.out); (case side13 => exact q1z HR2 HB); (case side14 => exact HC2.out); rintro e w3 ⟨v2, rfl, ho1, hb⟩; refine ⟨_, rfl, ?_⟩; have HO1 := aM (Kd.R_lower ho1 (yn (q4z HB GE1))); replace BK1 := aM (yi (zi BK1) hb); replace HB := aM (ym (q4z HB GE1) hb); (try clear hb); (try clear hb2); (try clear hk); (try clear hi); (try clear ho1); obtain ⟨i2_0, i2_1, i2_2, i2_3, i2_4, j2_0, j2_1, j2_2, j2_3, j2_4⟩ := cells5 BK1.out) | ((with_reducible refine gate_dst (N := 18) rfl ?_); refine Kd.R_make (Kd.int .i64) _ 3 rfl (N := 18) rfl 32 _ _ rfl (l0_2.length : Int) rfl rfl Try.underlying32 (.int .i64 0) 8 info3 rfl (by decide) (by omega) 0 (ok := fun _ => True) (okp := fun _ => True) rfl (fun _ hk => hk) trivial (of_decide_eq_true q72z) (Nat.le_trans (Nat.mul_le_mul_right _ (of_decide_eq_true q72z : (l0_2.length : Int).toNat ≤ 35184372088832)) (by omega)) (Below.refl _ _) (Nat.le_refl _) ?_; intro v3 w4 ho2 hb hg_ hnew_; clear hg_ hnew_; (first | rw [← Ny1.out] at ho2 | (simp only [Int.reduceToNat] at ho2; rw [← Ny1.out] at ho2)); have HO2 := aM (Kd.R_lower (Kd.R_new' ho2 (Kd.R_lt (q2z HO1))) (yn (q4z HB GE1))); replace HO1 := aM (Kd.R_elder' (q2z HO1) (Kd.R_base ho2) hb); replace BK1 := aM (yi (zi BK1) hb); replace HB := aM (ym (q4z HB GE1) hb); clear hb ho2; obtain ⟨i3_0, i3_1, i3_2, i3_3, i3_4, j3_0, j3_1, j3_2, j3_3, j3_4⟩ := cells5 BK1.out))
   go_loopg [22] k (fun kq v4 w' => ∃ (x1_1 : List Int) (x2_1 : Int), v4 = .int .i64 x2_1 ∧ Aside0 (net_After.l0 kq t1 x1_1 l0_2 (l0_2.length : Int) x2_1 = some r) ∧ Aside0 (kq ≤ k) ∧ Aside0 (Kd.R (Kd.int .i64) 3 w' w.heap.size (fun k_ => some k_ ≠ (v3 : Value).ownBlock) v2 t1) ∧ Aside0 (Kd.R (Kd.int .i64) 3 w' w.heap.size (fun k_ => some k_ ≠ (v2 : Value).ownBlock) v3 x1_1) ∧ Aside0 (w'.heap[gb1]? = some (.cells #[(.slice A0_0 l0_0.length c0_0), (.slice A0_1 l0_1.length c0_1), (.slice A0_2 l0_2.length c0_2), (.slice A0_3 l0_3.length c0_3), (.slice A0_4 l0_4.length c0_4)] 27 (0, 0))) ∧ Aside0 (Below w.heap.size w w'))
   case atStart => exact ⟨(y1), (0), q13z, H', ⟨Nat.le_refl _⟩, ⟨q75z HO1⟩, ⟨q75z HO2⟩, ⟨q10z BK1⟩, ⟨q4z HB GE1⟩⟩
   case round =>
    clear H'; try clear c1
    try clear c2
    try clear p2
    try clear c3
    try clear c1b0
    try clear c1b1
    try clear c4
    try clear c2b0
    try clear c2b1
    try clear i2_0 i2_1 i2_2 i2_3 i2_4
    try clear i3_0 i3_1 i3_2 i3_3 i3_4
    try clear i1_0 i1_1 i1_2 i1_3 i1_4
    try clear j2_0 j2_1 j2_2 j2_3 j2_4
    try clear j3_0 j3_1 j3_2 j3_3 j3_4
    try clear j1_0 j1_1 j1_2 j1_3 j1_4
    obtain ⟨x1_1, x2_1, rfl, HA, HK1, HO_1, HO_2, BK1, HB⟩ := hrel; cases gk with
    | zero => exact absurd HA.out (by simp [net_After.l0])
    | succ k1 =>
     have H := HA.out; clear HA; simp only [net_After.l0] at H; by_cases c5 : x2_1 < (l0_2.length : Int)
     ·rw [if_pos c5] at H; have c1b0 := decide_eq_true c5; clear c5; by_cases c6 : 0 ≤ x2_1
      ·rw [if_pos c6] at H; have c1b0 := decide_eq_true c6; clear c6; by_cases c7 : x2_1 < (l0_2.length : Int)
       ·rw [if_pos c7] at H; have c1b0 := decide_eq_true c7; clear c7; by_cases c8 : 0 ≤ ((rd_T43 l0_2 x2_1).f2)
        ·rw [if_pos c8] at H; have c1b0 := decide_eq_true c8; clear c8; by_cases c9 : ((rd_T43 l0_2 x2_1).f2) < (t1.length : Int)
         ·rw [if_pos c9] at H; have c1b0 := decide_eq_true c9; clear c9; by_cases c10 : x2_1 < (x1_1.length : Int)
          ·rw [if_pos c10] at H; have c1b0 := decide_eq_true c10; clear c10; obtain ⟨y1, hy1⟩ : ∃ y_ : List Int, y_ = (x1_1.set (x2_1 : Int).toNat (rd t1 ((rd_T43 l0_2 x2_1).f2))) := ⟨_, rfl⟩; replace H : (net_After.l0 k1 t1 y1 l0_2 (l0_2.length : Int) (wrap64 (x2_1 + 1))) = some r := by first | (rw [hy1]; with_reducible exact H) | (have H1_ := (Option.bind_some _ _).symm.trans H; rw [hy1]; with_reducible exact H1_) | (have H1_ := (Option.bind_some _ _).symm.trans H; with_reducible exact H1_) | with_reducible exact H | (rw [hy1]; exact H) | exact H
           have Ny1 := aM hy1; clear hy1; have H' := aM H; clear H; have p1 : 0 ≤ (x2_1 : Int) := zod; have q1 : x2_1 < (l0_2.length : Int) := zod; obtain ⟨ad1, e1, hx1_0, hx1_1, hx1_2, hx1_3⟩ := at_T43 HR1_2.out x2_1 p1 q1; cases e1; replace hx1_0 := zx HB hx1_0; replace hx1_1 := zx HB hx1_1; replace hx1_2 := zx HB hx1_2; replace hx1_3 := zx HB hx1_3; replace p1 := eq_true p1; replace q1 := eq_true q1; go_wp2_with (first | ((with_reducible refine zgd 10 rfl ?_); refine zbox 10 #[.string (⟨#[]⟩ : ByteArray), .int .i64 0, .int .i64 0, .int .i64 0] 43 ?_; intro gb2 hg w2 hbox hb; replace HO_1 := aM (yr (q2z HO_1) hb); replace HO_2 := aM (yr (q2z HO_2) hb); have BK2 := aM (hbox); have GW1 := aM ((q12z HB GE1 : w.heap.size ≤ gb2)); have GE2 := aM ((q12z HB GE1 : w.heap.size ≤ gb2)); replace HB := aM (ym (q4z HB GE1) hb); have NB1_241 := aM ((q34z BK1 : gb1 ≠ gb2)); have NB1_233 := aM ((q35z BK1 : gb2 ≠ gb1)); replace BK1 := aM (yi (zi BK1) hb); clear hb hbox hg; have hnb1 := NB1_233.out; have hnc1 := NB1_241.out; obtain ⟨i1_0, i1_1, i1_2, i1_3, j1_0, j1_1, j1_2, j1_3⟩ := cells4 BK2.out) | ((with_reducible refine gate_store (t := 43) (p := 10) rfl ?_); refine store_event (t := 43) (p := 10) (v := ?vo_w24) (w1 := ((((w2.setCell ⟨gb2, 0, none⟩ (.string ((rd_T43 l0_2 x2_1).f0))).setCell ⟨gb2, 1, none⟩ (.int .i64 ((rd_T43 l0_2 x2_1).f1))).setCell ⟨gb2, 2, none⟩ (.int .i64 ((rd_T43 l0_2 x2_1).f2))).setCell ⟨gb2, 3, none⟩ (.int .i64 ((rd_T43 l0_2 x2_1).f3)))) ?hg ?ho ?hn ?hr ?_; (case ho => rfl); (case hg => rfl); (case hn => rfl); (case hr => exact q30z); intro w3 hw; replace HO_1 : Aside0 (Kd.R (Kd.int .i64) 3 w3 w.heap.size (fun k_ => some k_ ≠ (v3 : Value).ownBlock) v2 t1) := ⟨(q60z HO_1 BK2)⟩; replace HO_2 : Aside0 (Kd.R (Kd.int .i64) 3 w3 w.heap.size (fun k_ => some k_ ≠ (v2 : Value).ownBlock) v3 x1_1) := ⟨(q60z HO_2 BK2)⟩; replace BK1 : Aside0 (w3.heap[gb1]? = some (.cells #[.slice A0_0 l0_0.length c0_0, .slice A0_1 l0_1.length c0_1, .slice (some ad1) l0_2.length c0_2, .slice A0_3 l0_3.length c0_3, .slice A0_4 l0_4.length c0_4] 27 (0, 0))) := ⟨(q59z NB1_241 BK1)⟩; replace BK2 : Aside0 (w3.heap[gb2]? = some (.cells #[.string ((rd_T43 l0_2 x2_1).f0), .int .i64 ((rd_T43 l0_2 x2_1).f1), .int .i64 ((rd_T43 l0_2 x2_1).f2), .int .i64 ((rd_T43 l0_2 x2_1).f3)] 43 (0, 0))) := ⟨(q36z BK2)⟩; replace HB : Aside0 (Below w.heap.size w w3) := ⟨q125z⟩; clear hw; obtain ⟨i2_0, i2_1, i2_2, i2_3, j2_0, j2_1, j2_2, j2_3⟩ := cells4 BK2.out; obtain ⟨Ao1, co1, eo1⟩ := Kd.R_slice HO_1.out; subst eo1; have p1 : 0 ≤ (((rd_T43 l0_2 x2_1).f2) : Int) := zod; have q1 : ((rd_T43 l0_2 x2_1).f2) < (t1.length : Int) := zod; obtain ⟨ad2, e1, hx1_0⟩ := Kd.at_int (Kd.R_reads' HO_1.out).2.2 ((rd_T43 l0_2 x2_1).f2) p1 q1; cases e1; replace p1 := eq_true p1; replace q1 := eq_true q1; have p3 : 0 ≤ (x2_1 : Int) := zod; have q2 : (x2_1 : Int) < ((x1_1.length : Int) : Int) := zod; obtain ⟨go1, co2, eo2, gb3, gl1, cl1, HG1⟩ := Kd.R_form HO_2.out (by omega); (first | cases eo2 | (injection eo2 with ea_ en_ ec_; (first | subst ea_ | (injection ea_ with ea_; subst ea_)); subst ec_; clear en_)); have GB1 := aM gb3; have GG1 := aM HG1; clear gb3 gl1 HG1; obtain ⟨hx2_0, hf1_0⟩ := Kd.R_celln 0 HO_2.out (x2_1 : Int) p3 q2; replace p3 := eq_true p3; replace q2 := eq_true q2; obtain ⟨hy1_, hz1_⟩ := Kd.R_celln 0 HO_2.out (x2_1 : Int) (of_decide_eq_true q72z) (of_decide_eq_true q72z); have HP1 := Kd.R_putg HO_2.out (x2_1 : Int) (rd t1 ((rd_T43 l0_2 x2_1).f2))) | ((with_reducible refine gate_store (t := 3) (p := 34) rfl ?_); refine store_event (t := 3) (p := 34) (v := ?vo_w28) (w1 := (w3.setCell ⟨go1, (x2_1 : Int).toNat, none⟩ (.int .i64 (rd t1 ((rd_T43 l0_2 x2_1).f2))))) ?hg ?ho ?hn ?hr ?_; (case ho => rfl); (case hg => rfl); (case hn => rfl); (case hr => exact q30z); intro w4 hw; have hg : w3.grownBy w4 (some go1) := q111z; have hp_ : Kd.R (Kd.int .i64) 3 w4 w.heap.size (fun k_ => some k_ ≠ (.slice (some ad2) t1.length co1 : Value).ownBlock) (.slice (some ⟨go1, 0, none⟩) x1_1.length co2) y1 := (q108z Ny1); clear HP1; replace HO_1 := aM (Kd.R_after (v := (.slice (some ⟨go1, 0, none⟩) x1_1.length co2)) (v1 := (.slice (some ⟨go1, 0, none⟩) x1_1.length co2)) (ok := (fun _ => True)) (q64z HO_1) hg (.inl rfl)); replace BK1 := aM (blk_grown (g := gb1) (o := .cells #[.slice A0_0 l0_0.length c0_0, .slice A0_1 l0_1.length c0_1, .slice (some ad1) l0_2.length c0_2, .slice A0_3 l0_3.length c0_3, .slice A0_4 l0_4.length c0_4] 27 (0, 0)) (zi BK1) hg (Kd.R_ne HO_2.out BK1.out (by decide))); replace BK2 := aM (blk_grown (g := gb2) (o := .cells #[.string ((rd_T43 l0_2 x2_1).f0), .int .i64 ((rd_T43 l0_2 x2_1).f1), .int .i64 ((rd_T43 l0_2 x2_1).f2), .int .i64 ((rd_T43 l0_2 x2_1).f3)] 43 (0, 0)) (zi BK2) hg (Kd.R_ne HO_2.out BK2.out (by decide))); replace HO_2 := aM (hp_); replace HB := aM ((q107z HB GB1 : Below w.heap.size w w4)); clear hg hw hp_))
           go_roundg k1
           case measure => have := HK1.out; omega
           case rel => exact ⟨(y1), (wrap64 (x2_1 + 1)), q13z, H', ⟨by have := HK1.out; omega⟩, ⟨q75z HO_1⟩, ⟨q2z HO_2⟩, ⟨q10z BK1⟩, ⟨q3z HB GE1 GE2⟩⟩
          ·rw [if_neg c10] at H; exact absurd H (by simp)
         ·rw [if_neg c9] at H; exact absurd H (by simp)
        ·rw [if_neg c8] at H; exact absurd H (by simp)
       ·rw [if_neg c7] at H; exact absurd H (by simp)
      ·rw [if_neg c6] at H; exact absurd H (by simp)
     ·rw [if_neg c5] at H; have c1b0 := decide_eq_false c5; clear c5; obtain rfl := Option.some.inj H; go_wp2
      go_ret
      exact ⟨_, q11z, by (with_reducible repeat (first | apply yf | apply yg | apply yh)); exact Kd.R_mono HO_2.out (fun _ hk => trivial), q4z HB GE1⟩
  ·rw [if_neg c4] at H; exact absurd H (by simp)
 ·rw [if_neg c3] at H; exact absurd H (by simp)
def w9_Base.f  : Option ((List (S41)) × (List (S47)) × (List (S43)) × (List (S61)) × (List (S47))) := some ((([(⟨21, 1, 0, 0, 0, 0, 0⟩ : S41), (⟨22, 4, 0, 0, 0, 0, 0⟩ : S41), (⟨1, 4, 0, 0, 0, 1, 0⟩ : S41), (⟨9, 4, 1, 2, 0, 0, 0⟩ : S41), (⟨1, 4, 0, 0, 0, 11, 0⟩ : S41), (⟨14, 1, 1, 4, 0, 0, 4⟩ : S41), (⟨1, 4, 0, 0, 0, 0, 0⟩ : S41), (⟨16, 4, 5, 3, 6, 0, 0⟩ : S41), (⟨16, 4, 0, 7, 1, 0, 0⟩ : S41), (⟨1, 4, 0, 0, 0, 12, 0⟩ : S41), (⟨13, 1, 1, 9, 0, 0, 4⟩ : S41), (⟨12, 1, 1, 4, 0, 0, 4⟩ : S41)] : List (S41))), (([(⟨(⟨#[103, 111]⟩ : ByteArray), 0⟩ : S47)] : List (S47))), (([(⟨(⟨#[110]⟩ : ByteArray), 1, 8, 0⟩ : S43)] : List (S43))), (([(⟨8, (⟨#[108, 111, 119]⟩ : ByteArray), 10⟩ : S61), (⟨10, (⟨#[116, 111, 112]⟩ : ByteArray), 11⟩ : S61)] : List (S61))), (([(⟨(⟨#[110]⟩ : ByteArray), 1⟩ : S47)] : List (S47))))
theorem w9_Base.calls  (r1 : List (S41)) (r2 : List (S47)) (r3 : List (S43)) (r4 : List (S61)) (r5 : List (S47)) (w : World) (h : w9_Base.f  = some (r1, r2, r3, r4, r5)) :
  Calls Try.prog 26 #[] w fun e w' => ∃ v0_ v1_ v2_ v3_ v4_ : Value, e = .returned (.agg #[v0_, v1_, v2_, v3_, v4_]) ∧ Kd.R k41 41 w' w.heap.size (fun _ => True) v0_ r1 ∧ Kd.R k47 47 w' w.heap.size (fun k_ => some k_ ≠ (v4_ : Value).ownBlock) v1_ r2 ∧ Kd.R k43 43 w' w.heap.size (fun _ => True) v2_ r3 ∧ Kd.R k61 61 w' w.heap.size (fun _ => True) v3_ r4 ∧ Kd.R k47 47 w' w.heap.size (fun k_ => some k_ ≠ (v1_ : Value).ownBlock) v4_ r5 ∧ Below w.heap.size w w' := by
 have hu1 := Try.underlying27; have hu1 := Try.underlying41; have hu1 := Try.underlying47; have hu1 := Try.underlying43; have hu1 := Try.underlying61; have HB := aM (Below.refl w.heap.size w); have H : (some ((([(⟨21, 1, 0, 0, 0, 0, 0⟩ : S41), (⟨22, 4, 0, 0, 0, 0, 0⟩ : S41), (⟨1, 4, 0, 0, 0, 1, 0⟩ : S41), (⟨9, 4, 1, 2, 0, 0, 0⟩ : S41), (⟨1, 4, 0, 0, 0, 11, 0⟩ : S41), (⟨14, 1, 1, 4, 0, 0, 4⟩ : S41), (⟨1, 4, 0, 0, 0, 0, 0⟩ : S41), (⟨16, 4, 5, 3, 6, 0, 0⟩ : S41), (⟨16, 4, 0, 7, 1, 0, 0⟩ : S41), (⟨1, 4, 0, 0, 0, 12, 0⟩ : S41), (⟨13, 1, 1, 9, 0, 0, 4⟩ : S41), (⟨12, 1, 1, 4, 0, 0, 4⟩ : S41)] : List (S41))), (([(⟨(⟨#[103, 111]⟩ : ByteArray), 0⟩ : S47)] : List (S47))), (([(⟨(⟨#[110]⟩ : ByteArray), 1, 8, 0⟩ : S43)] : List (S43))), (([(⟨8, (⟨#[108, 111, 119]⟩ : ByteArray), 10⟩ : S61), (⟨10, (⟨#[116, 111, 112]⟩ : ByteArray), 11⟩ : S61)] : List (S61))), (([(⟨(⟨#[110]⟩ : ByteArray), 1⟩ : S47)] : List (S47))))) = some (r1, r2, r3, r4, r5) := h; clear h; obtain ⟨y1, hy1⟩ : ∃ y_ : List (S41), y_ = (([(⟨21, 1, 0, 0, 0, 0, 0⟩ : S41), (⟨22, 4, 0, 0, 0, 0, 0⟩ : S41), (⟨1, 4, 0, 0, 0, 1, 0⟩ : S41), (⟨9, 4, 1, 2, 0, 0, 0⟩ : S41), (⟨1, 4, 0, 0, 0, 11, 0⟩ : S41), (⟨14, 1, 1, 4, 0, 0, 4⟩ : S41), (⟨1, 4, 0, 0, 0, 0, 0⟩ : S41), (⟨16, 4, 5, 3, 6, 0, 0⟩ : S41), (⟨16, 4, 0, 7, 1, 0, 0⟩ : S41), (⟨1, 4, 0, 0, 0, 12, 0⟩ : S41), (⟨13, 1, 1, 9, 0, 0, 4⟩ : S41), (⟨12, 1, 1, 4, 0, 0, 4⟩ : S41)] : List (S41))) := ⟨_, rfl⟩; replace H : (some (y1, (([(⟨(⟨#[103, 111]⟩ : ByteArray), 0⟩ : S47)] : List (S47))), (([(⟨(⟨#[110]⟩ : ByteArray), 1, 8, 0⟩ : S43)] : List (S43))), (([(⟨8, (⟨#[108, 111, 119]⟩ : ByteArray), 10⟩ : S61), (⟨10, (⟨#[116, 111, 112]⟩ : ByteArray), 11⟩ : S61)] : List (S61))), (([(⟨(⟨#[110]⟩ : ByteArray), 1⟩ : S47)] : List (S47))))) = some (r1, r2, r3, r4, r5) := by first | (rw [hy1]; with_reducible exact H) | (have H1_ := (Option.bind_some _ _).symm.trans H; rw [hy1]; with_reducible exact H1_) | (have H1_ := (Option.bind_some _ _).symm.trans H; with_reducible exact H1_) | with_reducible exact H | (rw [hy1]; exact H) | exact H
 have Ny1 := aM hy1; clear hy1; obtain ⟨y2, hy1⟩ : ∃ y_ : List (S47), y_ = (([(⟨(⟨#[103, 111]⟩ : ByteArray), 0⟩ : S47)] : List (S47))) := ⟨_, rfl⟩; replace H : (some (y1, y2, (([(⟨(⟨#[110]⟩ : ByteArray), 1, 8, 0⟩ : S43)] : List (S43))), (([(⟨8, (⟨#[108, 111, 119]⟩ : ByteArray), 10⟩ : S61), (⟨10, (⟨#[116, 111, 112]⟩ : ByteArray), 11⟩ : S61)] : List (S61))), (([(⟨(⟨#[110]⟩ : ByteArray), 1⟩ : S47)] : List (S47))))) = some (r1, r2, r3, r4, r5) := by first | (rw [hy1]; with_reducible exact H) | (have H1_ := (Option.bind_some _ _).symm.trans H; rw [hy1]; with_reducible exact H1_) | (have H1_ := (Option.bind_some _ _).symm.trans H; with_reducible exact H1_) | with_reducible exact H | (rw [hy1]; exact H) | exact H
 have Ny2 := aM hy1; clear hy1; obtain ⟨y3, hy1⟩ : ∃ y_ : List (S43), y_ = (([(⟨(⟨#[110]⟩ : ByteArray), 1, 8, 0⟩ : S43)] : List (S43))) := ⟨_, rfl⟩; replace H : (some (y1, y2, y3, (([(⟨8, (⟨#[108, 111, 119]⟩ : ByteArray), 10⟩ : S61), (⟨10, (⟨#[116, 111, 112]⟩ : ByteArray), 11⟩ : S61)] : List (S61))), (([(⟨(⟨#[110]⟩ : ByteArray), 1⟩ : S47)] : List (S47))))) = some (r1, r2, r3, r4, r5) := by first | (rw [hy1]; with_reducible exact H) | (have H1_ := (Option.bind_some _ _).symm.trans H; rw [hy1]; with_reducible exact H1_) | (have H1_ := (Option.bind_some _ _).symm.trans H; with_reducible exact H1_) | with_reducible exact H | (rw [hy1]; exact H) | exact H
 have Ny3 := aM hy1; clear hy1; obtain ⟨y4, hy1⟩ : ∃ y_ : List (S61), y_ = (([(⟨8, (⟨#[108, 111, 119]⟩ : ByteArray), 10⟩ : S61), (⟨10, (⟨#[116, 111, 112]⟩ : ByteArray), 11⟩ : S61)] : List (S61))) := ⟨_, rfl⟩; replace H : (some (y1, y2, y3, y4, (([(⟨(⟨#[110]⟩ : ByteArray), 1⟩ : S47)] : List (S47))))) = some (r1, r2, r3, r4, r5) := by first | (rw [hy1]; with_reducible exact H) | (have H1_ := (Option.bind_some _ _).symm.trans H; rw [hy1]; with_reducible exact H1_) | (have H1_ := (Option.bind_some _ _).symm.trans H; with_reducible exact H1_) | with_reducible exact H | (rw [hy1]; exact H) | exact H
 have Ny4 := aM hy1; clear hy1; obtain ⟨y5, hy1⟩ : ∃ y_ : List (S47), y_ = (([(⟨(⟨#[110]⟩ : ByteArray), 1⟩ : S47)] : List (S47))) := ⟨_, rfl⟩; replace H : (some (y1, y2, y3, y4, y5)) = some (r1, r2, r3, r4, r5) := by first | (rw [hy1]; with_reducible exact H) | (have H1_ := (Option.bind_some _ _).symm.trans H; rw [hy1]; with_reducible exact H1_) | (have H1_ := (Option.bind_some _ _).symm.trans H; with_reducible exact H1_) | with_reducible exact H | (rw [hy1]; exact H) | exact H
 have Ny5 := aM hy1; clear hy1; simp only [Option.some.injEq, Prod.mk.injEq] at H; obtain ⟨rfl, rfl, rfl, rfl, rfl⟩ := H; go_enter Try.func26, Try.ntmps26
 go_wp2_with (first | ((with_reducible refine zgd 0 rfl ?_); refine zbox 0 #[.slice none 0 0, .slice none 0 0, .slice none 0 0, .slice none 0 0, .slice none 0 0] 27 ?_; intro gb1 hg w1 hbox hb; have BK1 := aM (hbox); have GW1 := aM ((q7z HB : w.heap.size ≤ gb1)); have GE1 := aM ((q7z HB : w.heap.size ≤ gb1)); replace HB := aM (ym (q5z HB) hb); clear hb hbox hg) | ((with_reducible refine gate_dst (N := 13) rfl ?_); refine Kd.R_lit k41 _ 41 ?hg (N := 13) ?hd (xs := ([(⟨21, 1, 0, 0, 0, 0, 0⟩ : S41), (⟨22, 4, 0, 0, 0, 0, 0⟩ : S41), (⟨1, 4, 0, 0, 0, 1, 0⟩ : S41), (⟨9, 4, 1, 2, 0, 0, 0⟩ : S41), (⟨1, 4, 0, 0, 0, 11, 0⟩ : S41), (⟨14, 1, 1, 4, 0, 0, 4⟩ : S41), (⟨1, 4, 0, 0, 0, 0, 0⟩ : S41), (⟨16, 4, 5, 3, 6, 0, 0⟩ : S41), (⟨16, 4, 0, 7, 1, 0, 0⟩ : S41), (⟨1, 4, 0, 0, 0, 12, 0⟩ : S41), (⟨13, 1, 1, 9, 0, 0, 4⟩ : S41), (⟨12, 1, 1, 4, 0, 0, 4⟩ : S41)] : List (S41))) (inner := [.int .i64 21, .int .i64 1, .int .i64 0, .int .i64 0, .int .i64 0, .int .i64 0, .int .i64 0, .int .i64 22, .int .i64 4, .int .i64 0, .int .i64 0, .int .i64 0, .int .i64 0, .int .i64 0, .int .i64 1, .int .i64 4, .int .i64 0, .int .i64 0, .int .i64 0, .int .i64 1, .int .i64 0, .int .i64 9, .int .i64 4, .int .i64 1, .int .i64 2, .int .i64 0, .int .i64 0, .int .i64 0, .int .i64 1, .int .i64 4, .int .i64 0, .int .i64 0, .int .i64 0, .int .i64 11, .int .i64 0, .int .i64 14, .int .i64 1, .int .i64 1, .int .i64 4, .int .i64 0, .int .i64 0, .int .i64 4, .int .i64 1, .int .i64 4, .int .i64 0, .int .i64 0, .int .i64 0, .int .i64 0, .int .i64 0, .int .i64 16, .int .i64 4, .int .i64 5, .int .i64 3, .int .i64 6, .int .i64 0, .int .i64 0, .int .i64 16, .int .i64 4, .int .i64 0, .int .i64 7, .int .i64 1, .int .i64 0, .int .i64 0, .int .i64 1, .int .i64 4, .int .i64 0, .int .i64 0, .int .i64 0, .int .i64 12, .int .i64 0, .int .i64 13, .int .i64 1, .int .i64 1, .int .i64 9, .int .i64 0, .int .i64 0, .int .i64 4, .int .i64 12, .int .i64 1, .int .i64 1, .int .i64 4, .int .i64 0, .int .i64 0, .int .i64 4]) (ok := fun _ => True) (okp := fun _ => True) ?hr ?hp (fun _ hk => hk) trivial (Below.refl _ _) (Nat.le_refl _) (by simp) ?_; (case hd => rfl); (case hg => rfl); (case hr => exact q30z); (case hp => exact (Reps.c7 (show Kd.M k41 _ _ _ (⟨21, 1, 0, 0, 0, 0, 0⟩ : S41) [.int .i64 21, .int .i64 1, .int .i64 0, .int .i64 0, .int .i64 0, .int .i64 0, .int .i64 0] from (k41_mkM _ _ _ (⟨21, 1, 0, 0, 0, 0, 0⟩ : S41) )) (Reps.c7 (show Kd.M k41 _ _ _ (⟨22, 4, 0, 0, 0, 0, 0⟩ : S41) [.int .i64 22, .int .i64 4, .int .i64 0, .int .i64 0, .int .i64 0, .int .i64 0, .int .i64 0] from (k41_mkM _ _ _ (⟨22, 4, 0, 0, 0, 0, 0⟩ : S41) )) (Reps.c7 (show Kd.M k41 _ _ _ (⟨1, 4, 0, 0, 0, 1, 0⟩ : S41) [.int .i64 1, .int .i64 4, .int .i64 0, .int .i64 0, .int .i64 0, .int .i64 1, .int .i64 0] from (k41_mkM _ _ _ (⟨1, 4, 0, 0, 0, 1, 0⟩ : S41) )) (Reps.c7 (show Kd.M k41 _ _ _ (⟨9, 4, 1, 2, 0, 0, 0⟩ : S41) [.int .i64 9, .int .i64 4, .int .i64 1, .int .i64 2, .int .i64 0, .int .i64 0, .int .i64 0] from (k41_mkM _ _ _ (⟨9, 4, 1, 2, 0, 0, 0⟩ : S41) )) (Reps.c7 (show Kd.M k41 _ _ _ (⟨1, 4, 0, 0, 0, 11, 0⟩ : S41) [.int .i64 1, .int .i64 4, .int .i64 0, .int .i64 0, .int .i64 0, .int .i64 11, .int .i64 0] from (k41_mkM _ _ _ (⟨1, 4, 0, 0, 0, 11, 0⟩ : S41) )) (Reps.c7 (show Kd.M k41 _ _ _ (⟨14, 1, 1, 4, 0, 0, 4⟩ : S41) [.int .i64 14, .int .i64 1, .int .i64 1, .int .i64 4, .int .i64 0, .int .i64 0, .int .i64 4] from (k41_mkM _ _ _ (⟨14, 1, 1, 4, 0, 0, 4⟩ : S41) )) (Reps.c7 (show Kd.M k41 _ _ _ (⟨1, 4, 0, 0, 0, 0, 0⟩ : S41) [.int .i64 1, .int .i64 4, .int .i64 0, .int .i64 0, .int .i64 0, .int .i64 0, .int .i64 0] from (k41_mkM _ _ _ (⟨1, 4, 0, 0, 0, 0, 0⟩ : S41) )) (Reps.c7 (show Kd.M k41 _ _ _ (⟨16, 4, 5, 3, 6, 0, 0⟩ : S41) [.int .i64 16, .int .i64 4, .int .i64 5, .int .i64 3, .int .i64 6, .int .i64 0, .int .i64 0] from (k41_mkM _ _ _ (⟨16, 4, 5, 3, 6, 0, 0⟩ : S41) )) (Reps.c7 (show Kd.M k41 _ _ _ (⟨16, 4, 0, 7, 1, 0, 0⟩ : S41) [.int .i64 16, .int .i64 4, .int .i64 0, .int .i64 7, .int .i64 1, .int .i64 0, .int .i64 0] from (k41_mkM _ _ _ (⟨16, 4, 0, 7, 1, 0, 0⟩ : S41) )) (Reps.c7 (show Kd.M k41 _ _ _ (⟨1, 4, 0, 0, 0, 12, 0⟩ : S41) [.int .i64 1, .int .i64 4, .int .i64 0, .int .i64 0, .int .i64 0, .int .i64 12, .int .i64 0] from (k41_mkM _ _ _ (⟨1, 4, 0, 0, 0, 12, 0⟩ : S41) )) (Reps.c7 (show Kd.M k41 _ _ _ (⟨13, 1, 1, 9, 0, 0, 4⟩ : S41) [.int .i64 13, .int .i64 1, .int .i64 1, .int .i64 9, .int .i64 0, .int .i64 0, .int .i64 4] from (k41_mkM _ _ _ (⟨13, 1, 1, 9, 0, 0, 4⟩ : S41) )) (Reps.c7 (show Kd.M k41 _ _ _ (⟨12, 1, 1, 4, 0, 0, 4⟩ : S41) [.int .i64 12, .int .i64 1, .int .i64 1, .int .i64 4, .int .i64 0, .int .i64 0, .int .i64 4] from (k41_mkM _ _ _ (⟨12, 1, 1, 4, 0, 0, 4⟩ : S41) )) (Reps.none _ _)))))))))))))); intro v1 w2 ho1 hb hg_ hnew_; clear hg_ hnew_; (first | rw [← Ny1.out] at ho1 | (simp only [Int.reduceToNat] at ho1; rw [← Ny1.out] at ho1)); have HO1 := aM (Kd.R_lower ho1 (yn (q4z HB GE1))); replace BK1 := aM (yi (zi BK1) hb); replace HB := aM (ym (q4z HB GE1) hb); clear hb ho1) | ((with_reducible refine gate_dst (N := 15) rfl ?_); refine Kd.R_lit k47 _ 47 ?hg (N := 15) ?hd (xs := ([(⟨(⟨#[103, 111]⟩ : ByteArray), 0⟩ : S47)] : List (S47))) (inner := [.string (⟨#[103, 111]⟩ : ByteArray), .int .i64 0]) (ok := fun _ => True) (okp := fun _ => True) ?hr ?hp (fun _ hk => hk) trivial (Below.refl _ _) (Nat.le_refl _) (by simp) ?_; (case hd => rfl); (case hg => rfl); (case hr => exact q30z); (case hp => exact (Reps.c2 (show Kd.M k47 _ _ _ (⟨(⟨#[103, 111]⟩ : ByteArray), 0⟩ : S47) [.string (⟨#[103, 111]⟩ : ByteArray), .int .i64 0] from (k47_mkM _ _ _ (⟨(⟨#[103, 111]⟩ : ByteArray), 0⟩ : S47) )) (Reps.none _ _))); intro v2 w3 ho2 hb hg_ hnew_; clear hg_ hnew_; (first | rw [← Ny2.out] at ho2 | (simp only [Int.reduceToNat] at ho2; rw [← Ny2.out] at ho2)); replace HO1 := aM (yr (q2z HO1) hb); have HO2 := aM (Kd.R_lower ho2 (yn (q4z HB GE1))); replace BK1 := aM (yi (zi BK1) hb); replace HB := aM (ym (q4z HB GE1) hb); clear hb ho2) | ((with_reducible refine gate_dst (N := 17) rfl ?_); refine Kd.R_lit k43 _ 43 ?hg (N := 17) ?hd (xs := ([(⟨(⟨#[110]⟩ : ByteArray), 1, 8, 0⟩ : S43)] : List (S43))) (inner := [.string (⟨#[110]⟩ : ByteArray), .int .i64 1, .int .i64 8, .int .i64 0]) (ok := fun _ => True) (okp := fun _ => True) ?hr ?hp (fun _ hk => hk) trivial (Below.refl _ _) (Nat.le_refl _) (by simp) ?_; (case hd => rfl); (case hg => rfl); (case hr => exact q30z); (case hp => exact (Reps.c4 (show Kd.M k43 _ _ _ (⟨(⟨#[110]⟩ : ByteArray), 1, 8, 0⟩ : S43) [.string (⟨#[110]⟩ : ByteArray), .int .i64 1, .int .i64 8, .int .i64 0] from (k43_mkM _ _ _ (⟨(⟨#[110]⟩ : ByteArray), 1, 8, 0⟩ : S43) )) (Reps.none _ _))); intro v3 w4 ho3 hb hg_ hnew_; clear hg_ hnew_; (first | rw [← Ny3.out] at ho3 | (simp only [Int.reduceToNat] at ho3; rw [← Ny3.out] at ho3)); replace HO1 := aM (yr (q2z HO1) hb); replace HO2 := aM (yr (q2z HO2) hb); have HO3 := aM (Kd.R_lower ho3 (yn (q4z HB GE1))); replace BK1 := aM (yi (zi BK1) hb); replace HB := aM (ym (q4z HB GE1) hb); clear hb ho3) | ((with_reducible refine gate_dst (N := 20) rfl ?_); refine Kd.R_lit k61 _ 61 ?hg (N := 20) ?hd (xs := ([(⟨8, (⟨#[108, 111, 119]⟩ : ByteArray), 10⟩ : S61), (⟨10, (⟨#[116, 111, 112]⟩ : ByteArray), 11⟩ : S61)] : List (S61))) (inner := [.int .i64 8, .string (⟨#[108, 111, 119]⟩ : ByteArray), .int .i64 10, .int .i64 10, .string (⟨#[116, 111, 112]⟩ : ByteArray), .int .i64 11]) (ok := fun _ => True) (okp := fun _ => True) ?hr ?hp (fun _ hk => hk) trivial (Below.refl _ _) (Nat.le_refl _) (by simp) ?_; (case hd => rfl); (case hg => rfl); (case hr => exact q30z); (case hp => exact (Reps.c3 (show Kd.M k61 _ _ _ (⟨8, (⟨#[108, 111, 119]⟩ : ByteArray), 10⟩ : S61) [.int .i64 8, .string (⟨#[108, 111, 119]⟩ : ByteArray), .int .i64 10] from (k61_mkM _ _ _ (⟨8, (⟨#[108, 111, 119]⟩ : ByteArray), 10⟩ : S61) )) (Reps.c3 (show Kd.M k61 _ _ _ (⟨10, (⟨#[116, 111, 112]⟩ : ByteArray), 11⟩ : S61) [.int .i64 10, .string (⟨#[116, 111, 112]⟩ : ByteArray), .int .i64 11] from (k61_mkM _ _ _ (⟨10, (⟨#[116, 111, 112]⟩ : ByteArray), 11⟩ : S61) )) (Reps.none _ _)))); intro v4 w5 ho4 hb hg_ hnew_; clear hg_ hnew_; (first | rw [← Ny4.out] at ho4 | (simp only [Int.reduceToNat] at ho4; rw [← Ny4.out] at ho4)); replace HO1 := aM (yr (q2z HO1) hb); replace HO2 := aM (yr (q2z HO2) hb); replace HO3 := aM (yr (q2z HO3) hb); have HO4 := aM (Kd.R_lower ho4 (yn (q4z HB GE1))); replace BK1 := aM (yi (zi BK1) hb); replace HB := aM (ym (q4z HB GE1) hb); clear hb ho4) | ((with_reducible refine gate_dst (N := 22) rfl ?_); refine Kd.R_lit k47 _ 47 ?hg (N := 22) ?hd (xs := ([(⟨(⟨#[110]⟩ : ByteArray), 1⟩ : S47)] : List (S47))) (inner := [.string (⟨#[110]⟩ : ByteArray), .int .i64 1]) (ok := fun _ => True) (okp := fun _ => True) ?hr ?hp (fun _ hk => hk) trivial (Below.refl _ _) (Nat.le_refl _) (by simp) ?_; (case hd => rfl); (case hg => rfl); (case hr => exact q30z); (case hp => exact (Reps.c2 (show Kd.M k47 _ _ _ (⟨(⟨#[110]⟩ : ByteArray), 1⟩ : S47) [.string (⟨#[110]⟩ : ByteArray), .int .i64 1] from (k47_mkM _ _ _ (⟨(⟨#[110]⟩ : ByteArray), 1⟩ : S47) )) (Reps.none _ _))); intro v5 w6 ho5 hb hg_ hnew_; clear hg_ hnew_; (first | rw [← Ny5.out] at ho5 | (simp only [Int.reduceToNat] at ho5; rw [← Ny5.out] at ho5)); replace HO1 := aM (yr (q2z HO1) hb); replace HO3 := aM (yr (q2z HO3) hb); replace HO4 := aM (yr (q2z HO4) hb); have HO5 := aM (Kd.R_lower (Kd.R_new' ho5 (Kd.R_lt (q2z HO2))) (yn (q4z HB GE1))); replace HO2 := aM (Kd.R_elder' (q2z HO2) (Kd.R_base ho5) hb); replace BK1 := aM (yi (zi BK1) hb); replace HB := aM (ym (q4z HB GE1) hb); clear hb ho5; obtain ⟨Ao1, co1, eo1⟩ := Kd.R_slice HO5.out; subst eo1; obtain ⟨Ao2, co2, eo2⟩ := Kd.R_slice HO4.out; subst eo2; obtain ⟨Ao3, co3, eo3⟩ := Kd.R_slice HO3.out; subst eo3; obtain ⟨Ao4, co4, eo4⟩ := Kd.R_slice HO2.out; subst eo4; obtain ⟨Ao5, co5, eo5⟩ := Kd.R_slice HO1.out; subst eo5; obtain ⟨i1_0, i1_1, i1_2, i1_3, i1_4, j1_0, j1_1, j1_2, j1_3, j1_4⟩ := cells5 BK1.out))
 refine bodyPost_ret (results_cell_row rfl _ _ gb1 27 #[.slice Ao5 y1.length co5, .slice Ao4 y2.length co4, .slice Ao3 y3.length co3, .slice Ao2 y4.length co2, .slice Ao1 y5.length co1] (0, 0) _ rfl (by (with_reducible repeat (first | refine ya ?_ _ | refine yc ?_ | refine yb ?_ _)); refine ys (cs := #[.slice Ao5 y1.length co5, .slice Ao4 y2.length co4, .slice Ao3 y3.length co3, .slice Ao2 y4.length co2, .slice none 0 0]) ?_ 4 _ rfl; (with_reducible repeat (first | refine ya ?_ _ | refine yc ?_ | refine yb ?_ _)); refine ys (cs := #[.slice Ao5 y1.length co5, .slice Ao4 y2.length co4, .slice Ao3 y3.length co3, .slice none 0 0, .slice none 0 0]) ?_ 3 _ rfl; (with_reducible repeat (first | refine ya ?_ _ | refine yc ?_ | refine yb ?_ _)); refine ys (cs := #[.slice Ao5 y1.length co5, .slice Ao4 y2.length co4, .slice none 0 0, .slice none 0 0, .slice none 0 0]) ?_ 2 _ rfl; (with_reducible repeat (first | refine ya ?_ _ | refine yc ?_ | refine yb ?_ _)); refine ys (cs := #[.slice Ao5 y1.length co5, .slice none 0 0, .slice none 0 0, .slice none 0 0, .slice none 0 0]) ?_ 1 _ rfl; (with_reducible repeat (first | refine ya ?_ _ | refine yc ?_ | refine yb ?_ _)); refine ys (cs := #[.slice none 0 0, .slice none 0 0, .slice none 0 0, .slice none 0 0, .slice none 0 0]) ?_ 0 _ rfl; (with_reducible repeat (first | refine ya ?_ _ | refine yc ?_ | refine yb ?_ _)); exact BK1.out) Try.underlying27 rfl (by kernel_rfl)) rfl ?_; exact ⟨_, _, _, _, _, q11z, q43z HO1 BK1, q58z HO2 BK1, q43z HO3 BK1, q43z HO4 BK1, q58z HO5 BK1, q4z HB GE1⟩
end Go.Proofs.Yteblbknmikieoaa.Xb
