/- Slimmed by this session: what nothing names is struck out. -/
import Derived.Test.YteblbknmikieoaaXb0
import Derived.Test.YteblbknmikieoaaXbZ
namespace Go.Proofs.Yteblbknmikieoaa.Xb
open Go.RowKit Go.Proofs.YteblbknmikieoaaW.PrintWords Go.Proofs.YteblbknmikieoaaW.PrintLast Go.Proofs.YteblbknmikieoaaW.PrintMore
attribute [local go_sem] max2_int min2_int max_two min_two max_three min_three max_four min_four
set_option linter.unusedVariables false
set_option linter.unusedSimpArgs false
theorem cells5_66 {w : World} {g : Nat} {t : TypeId} {x0 x1 x2 x3 x4 : Value} (h : w.heap[g]? = some (.cells #[x0, x1, x2, x3, x4] t (0, 0))) : w.cell? ⟨g, 0, none⟩ = some x0 ∧ w.cell? ⟨g, 1, none⟩ = some x1 ∧ w.cell? ⟨g, 2, none⟩ = some x2 ∧ w.cell? ⟨g, 3, none⟩ = some x3 ∧ w.cell? ⟨g, 4, none⟩ = some x4 ∧ w.frozen? ⟨g, 0, none⟩ = false ∧ w.frozen? ⟨g, 1, none⟩ = false ∧ w.frozen? ⟨g, 2, none⟩ = false ∧ w.frozen? ⟨g, 3, none⟩ = false ∧ w.frozen? ⟨g, 4, none⟩ = false := ⟨(blk_cell h 0).trans rfl, (blk_cell h 1).trans rfl, (blk_cell h 2).trans rfl, (blk_cell h 3).trans rfl, (blk_cell h 4).trans rfl, blk_frozen h 0, blk_frozen h 1, blk_frozen h 2, blk_frozen h 3, blk_frozen h 4⟩
def w9_Great.f (l0_0 : List (S41)) (l0_1 : List (S47)) (l0_2 : List (S43)) (l0_3 : List (S61)) (l0_4 : List (S47)) : Option (Bool) := if (l0_0.length : Int) > 300 then (some true) else (if (l0_1.length : Int) > 100 then (some true) else (if (l0_2.length : Int) > 300 then (some true) else (if (l0_3.length : Int) > 40 then (some true) else (some (decide ((l0_4.length : Int) > 300))))))
theorem z66_1 {P : Prop} (h : P := by
 clear c1; obtain rfl := Option.some.inj H; go_enter Try.func11, Try.ntmps11
 go_wp2_with (first | ((with_reducible refine gate_dst (N := 1) rfl ?_); (try (refine gate_guard (by rfl) ?_; dsimp only)); refine box_event ?hg (N := 1) ?hd (cs := #[.slice A0_0 l0_0.length c0_0, .slice A0_1 l0_1.length c0_1, .slice A0_2 l0_2.length c0_2, .slice A0_3 l0_3.length c0_3, .slice A0_4 l0_4.length c0_4]) (t := 27) ?hr ?_; (case hd => rfl); (case hg => rfl); (case hr => exact q27z); intro gb1 hg w1 hbox hb; have BK1 := aM (hbox); have GW1 := aM ((q7z HB : w.heap.size ≤ gb1)); have GE1 := aM ((q7z HB : w.heap.size ≤ gb1)); replace HB := aM (ym (q4z HB) hb); clear hb hbox hg; obtain ⟨i1_0, i1_1, i1_2, i1_3, i1_4, j1_0, j1_1, j1_2, j1_3, j1_4⟩ := cells5_66 BK1.out))
 go_ret
 exact ⟨q11z, q3z HB GE1⟩) : P := h
set_option maxHeartbeats 8000000 in
set_option maxRecDepth 100000 in
theorem w9_Great.calls (A0_0 : Option Addr) (c0_0 : Nat) (l0_0 : List (S41)) (A0_1 : Option Addr) (c0_1 : Nat) (l0_1 : List (S47)) (A0_2 : Option Addr) (c0_2 : Nat) (l0_2 : List (S43)) (A0_3 : Option Addr) (c0_3 : Nat) (l0_3 : List (S61)) (A0_4 : Option Addr) (c0_4 : Nat) (l0_4 : List (S47)) (r : Bool) (w : World) (hr0_0 : Kd.C k41 w A0_0 l0_0.length l0_0) (hc0_0 : l0_0.length ≤ c0_0) (hr0_1 : Kd.C k47 w A0_1 l0_1.length l0_1) (hc0_1 : l0_1.length ≤ c0_1) (hr0_2 : Kd.C k43 w A0_2 l0_2.length l0_2) (hc0_2 : l0_2.length ≤ c0_2) (hr0_3 : Kd.C k61 w A0_3 l0_3.length l0_3) (hc0_3 : l0_3.length ≤ c0_3) (hr0_4 : Kd.C k47 w A0_4 l0_4.length l0_4) (hc0_4 : l0_4.length ≤ c0_4) (h : w9_Great.f l0_0 l0_1 l0_2 l0_3 l0_4 = some r) :
  Calls Try.prog 11 #[.agg #[.slice A0_0 l0_0.length c0_0, .slice A0_1 l0_1.length c0_1, .slice A0_2 l0_2.length c0_2, .slice A0_3 l0_3.length c0_3, .slice A0_4 l0_4.length c0_4]] w fun e w' => e = .returned (.bool r) ∧ Below w.heap.size w w' := by
 have hu1 := Try.underlying27; have HR1_0 := aM hr0_0; have HC1_0 := aM hc0_0; clear hr0_0 hc0_0; have HR1_1 := aM hr0_1; have HC1_1 := aM hc0_1; clear hr0_1 hc0_1; have HR1_2 := aM hr0_2; have HC1_2 := aM hc0_2; clear hr0_2 hc0_2; have HR1_3 := aM hr0_3; have HC1_3 := aM hc0_3; clear hr0_3 hc0_3; have HR1_4 := aM hr0_4; have HC1_4 := aM hc0_4; clear hr0_4 hc0_4; have HB := aM (Below.refl w.heap.size w); have H : (if (l0_0.length : Int) > 300 then (some true) else (if (l0_1.length : Int) > 100 then (some true) else (if (l0_2.length : Int) > 300 then (some true) else (if (l0_3.length : Int) > 40 then (some true) else (some (decide ((l0_4.length : Int) > 300))))))) = some r := h; clear h; by_cases c1 : (l0_0.length : Int) > 300
 ·rw [if_pos c1] at H; have c1b0 : decide (300 < (l0_0.length : Int)) = true := decide_eq_true c1; have c1b1 : decide (300 < l0_0.length) = true := decide_eq_true (by omega); exact z66_1
 ·rw [if_neg c1] at H; have c1b0 : decide (300 < (l0_0.length : Int)) = false := decide_eq_false c1; have c1b1 : decide (300 < l0_0.length) = false := decide_eq_false (by omega); clear c1; by_cases c1 : (l0_1.length : Int) > 100
  ·rw [if_pos c1] at H; have c1b0 : decide (100 < (l0_1.length : Int)) = true := decide_eq_true c1; have c1b1 : decide (100 < l0_1.length) = true := decide_eq_true (by omega); exact z66_1
  ·rw [if_neg c1] at H; have c1b0 : decide (100 < (l0_1.length : Int)) = false := decide_eq_false c1; have c1b1 : decide (100 < l0_1.length) = false := decide_eq_false (by omega); clear c1; by_cases c1 : (l0_2.length : Int) > 300
   ·rw [if_pos c1] at H; have c1b0 : decide (300 < (l0_2.length : Int)) = true := decide_eq_true c1; have c1b1 : decide (300 < l0_2.length) = true := decide_eq_true (by omega); exact z66_1
   ·rw [if_neg c1] at H; have c1b0 : decide (300 < (l0_2.length : Int)) = false := decide_eq_false c1; have c1b1 : decide (300 < l0_2.length) = false := decide_eq_false (by omega); clear c1; by_cases c1 : (l0_3.length : Int) > 40
    ·rw [if_pos c1] at H; have c1b0 : decide (40 < (l0_3.length : Int)) = true := decide_eq_true c1; have c1b1 : decide (40 < l0_3.length) = true := decide_eq_true (by omega); exact z66_1
    ·rw [if_neg c1] at H; have c1b0 : decide (40 < (l0_3.length : Int)) = false := decide_eq_false c1; have c1b1 : decide (40 < l0_3.length) = false := decide_eq_false (by omega); exact z66_1
end Go.Proofs.Yteblbknmikieoaa.Xb
namespace Go.Proofs.Yteblbknmikieoaa.Xb
open Go.RowKit Go.Proofs.YteblbknmikieoaaW.PrintWords Go.Proofs.YteblbknmikieoaaW.PrintLast Go.Proofs.YteblbknmikieoaaW.PrintMore
attribute [local go_sem] max2_int min2_int max_two min_two max_three min_three max_four min_four
set_option linter.unusedVariables false
set_option linter.unusedSimpArgs false
def r8_Mask.f (a0 : Int) : Option (Int) := if 0 ≤ a0 then (some (wrap64 ((shl .i64 1 a0) - 1))) else (none)
set_option maxHeartbeats 8000000 in
set_option maxRecDepth 100000 in
theorem r8_Mask.calls (a0 : Int) (r : Int) (w : World) (h : r8_Mask.f a0 = some r) :
  Calls Try.prog 24 #[.int .i64 a0] w fun e w' => e = .returned (.int .i64 r) ∧ Drawn0 w w' := by
 have H : (if 0 ≤ a0 then (some (wrap64 ((shl .i64 1 a0) - 1))) else (none)) = some r := h; clear h; by_cases c1 : 0 ≤ a0
 ·rw [if_pos c1] at H; have c1b0 := eq_true c1; have c1b1 : decide (0 ≤ a0) = true := decide_eq_true c1; clear c1; obtain ⟨ji1, hji1⟩ : ∃ j_ : Int, (shl .i64 1 a0) = j_ := ⟨_, rfl⟩; replace H : (some (wrap64 ((ji1) - 1))) = some r := by first | (rw [hji1] at H; exact H) | (simp only [hji1] at H ⊢; exact H)
  have hji1_ : (IntKind.i64.wrap (1 * 2 ^ min a0.toNat 64)) = ji1 := hji1; have hji1z : a0 ≤ 64 → (IntKind.i64.wrap (1 * 2 ^ a0.toNat)) = ji1 := shl_small hji1; have hji1u : (IntKind.i64.wrap (2 ^ min a0.toNat 64)) = ji1 := by have h_ := hji1_; rw [Int.one_mul] at h_; exact h_
  have hji1v : a0 ≤ 64 → (IntKind.i64.wrap (2 ^ a0.toNat)) = ji1 := fun hle_ => by have h_ := hji1z hle_; rw [Int.one_mul] at h_; exact h_
  have hji1y : (wrap64 (1 * 2 ^ min a0.toNat 64)) = ji1 := (i64_w _).symm.trans hji1_; have hji1x : a0 ≤ 64 → (wrap64 (1 * 2 ^ a0.toNat)) = ji1 := fun h_ => (i64_w _).symm.trans (hji1z h_)
  obtain rfl := Option.some.inj H; go_enter Try.func24, Try.ntmps24
  go_wp2
  go_ret
  exact ⟨q82z, q22z⟩
 ·rw [if_neg c1] at H; exact absurd H (by simp)
end Go.Proofs.Yteblbknmikieoaa.Xb
namespace Go.Proofs.Yteblbknmikieoaa.Xb
open Go.RowKit Go.Proofs.YteblbknmikieoaaW.PrintWords Go.Proofs.YteblbknmikieoaaW.PrintLast Go.Proofs.YteblbknmikieoaaW.PrintMore
attribute [local go_sem] max2_int min2_int max_two min_two max_three min_three max_four min_four
set_option linter.unusedVariables false
set_option linter.unusedSimpArgs false
mutual
def r9_operands.j0 : Nat → Int → Bool → Option (Int)
 | 0, _, _ => none
 | k + 1, x3, x4 => if x4 = true then (some 0) else (if x3 = 3 then (r9_operands.j1 k x3 (x3 == 3)) else (if x3 = 4 then (r9_operands.j1 k x3 (x3 == 4)) else (if x3 = 5 then (r9_operands.j1 k x3 (x3 == 5)) else (r9_operands.j1 k x3 (x3 == 18)))))
def r9_operands.j1 : Nat → Int → Bool → Option (Int)
 | 0, _, _ => none
 | k + 1, x3, x8 => if x8 = true then (some 1) else (if x3 = 6 then (r9_operands.j2 k x3 (x3 == 6)) else (if x3 = 7 then (r9_operands.j2 k x3 (x3 == 7)) else (if x3 = 8 then (r9_operands.j2 k x3 (x3 == 8)) else (if x3 = 9 then (r9_operands.j2 k x3 (x3 == 9)) else (if x3 = 10 then (r9_operands.j2 k x3 (x3 == 10)) else (if x3 = 11 then (r9_operands.j2 k x3 (x3 == 11)) else (if x3 = 12 then (r9_operands.j2 k x3 (x3 == 12)) else (if x3 = 13 then (r9_operands.j2 k x3 (x3 == 13)) else (if x3 = 14 then (r9_operands.j2 k x3 (x3 == 14)) else (if x3 = 15 then (r9_operands.j2 k x3 (x3 == 15)) else (r9_operands.j2 k x3 (x3 == 17))))))))))))
def r9_operands.j2 : Nat → Int → Bool → Option (Int)
 | 0, _, _ => none
 | k + 1, x3, x13 => if x13 = true then (some 2) else (if x3 = 16 then (some 3) else (some (-1)))
end
def r9_operands.f (k : Nat) (a0 : Int) : Option (Int) := if a0 = 1 then (r9_operands.j0 k a0 (a0 == 1)) else (if a0 = 21 then (r9_operands.j0 k a0 (a0 == 21)) else (r9_operands.j0 k a0 (a0 == 22)))
theorem r9_operands.mono_l : ∀ k, (∀ y0 y1, LeO (r9_operands.j0 k y0 y1) (r9_operands.j0 (k + 1) y0 y1)) ∧ (∀ y0 y1, LeO (r9_operands.j1 k y0 y1) (r9_operands.j1 (k + 1) y0 y1)) ∧ (∀ y0 y1, LeO (r9_operands.j2 k y0 y1) (r9_operands.j2 (k + 1) y0 y1))
 | 0 => ⟨fun _ _ r h => by simp [r9_operands.j0] at h, fun _ _ r h => by simp [r9_operands.j1] at h, fun _ _ r h => by simp [r9_operands.j2] at h⟩
 | k + 1 => by
  obtain ⟨ih0, ih1, ih2⟩ := r9_operands.mono_l k; refine ⟨?_, ?_, ?_⟩
  ·intro y0 y1
   unfold r9_operands.j0
   repeat' first
   | (with_reducible exact ih0 _ _)
   | (with_reducible exact ih1 _ _)
   | (with_reducible exact ih2 _ _)
   | (with_reducible exact LeO.refl _)
   | (with_reducible exact LeO.none _)
   | (with_reducible refine LeO.ite ?_ ?_)
   | (with_reducible refine LeO.bind ?_ (fun _ => ?_))
   | exact ih0 _ _
   | exact ih1 _ _
   | exact ih2 _ _
   | exact LeO.none _
   | refine LeO.ite ?_ ?_
   | refine LeO.bind ?_ (fun _ => ?_)
  ·intro y0 y1
   unfold r9_operands.j1
   repeat' first
   | (with_reducible exact ih0 _ _)
   | (with_reducible exact ih1 _ _)
   | (with_reducible exact ih2 _ _)
   | (with_reducible exact LeO.refl _)
   | (with_reducible exact LeO.none _)
   | (with_reducible refine LeO.ite ?_ ?_)
   | (with_reducible refine LeO.bind ?_ (fun _ => ?_))
   | exact ih0 _ _
   | exact ih1 _ _
   | exact ih2 _ _
   | exact LeO.none _
   | refine LeO.ite ?_ ?_
   | refine LeO.bind ?_ (fun _ => ?_)
  ·intro y0 y1
   unfold r9_operands.j2
   repeat' first
   | (with_reducible exact ih0 _ _)
   | (with_reducible exact ih1 _ _)
   | (with_reducible exact ih2 _ _)
   | (with_reducible exact LeO.refl _)
   | (with_reducible exact LeO.none _)
   | (with_reducible refine LeO.ite ?_ ?_)
   | (with_reducible refine LeO.bind ?_ (fun _ => ?_))
   | exact ih0 _ _
   | exact ih1 _ _
   | exact ih2 _ _
   | exact LeO.none _
   | refine LeO.ite ?_ ?_
   | refine LeO.bind ?_ (fun _ => ?_)
theorem r9_operands.mono : ∀ a0 k, LeO (r9_operands.f k a0) (r9_operands.f (k + 1) a0) := by
 intro a0 k
 obtain ⟨ih1, ih2, ih3⟩ := r9_operands.mono_l k; unfold r9_operands.f
 repeat' first
   | (with_reducible exact ih1 _ _)
   | (with_reducible exact ih2 _ _)
   | (with_reducible exact ih3 _ _)
   | (with_reducible exact LeO.refl _)
   | (with_reducible exact LeO.none _)
   | (with_reducible refine LeO.ite ?_ ?_)
   | (with_reducible refine LeO.bind ?_ (fun _ => ?_))
   | exact ih1 _ _
   | exact ih2 _ _
   | exact ih3 _ _
   | exact LeO.none _
   | refine LeO.ite ?_ ?_
   | refine LeO.bind ?_ (fun _ => ?_)
theorem z68_1 {P : Prop} (h : P := by
 clear H; have H := H1; clear H1; obtain rfl := Option.some.inj H; go_wp2
 go_ret
 exact ⟨q13z, q22z⟩) : P := h
set_option maxHeartbeats 8000000 in
set_option maxRecDepth 100000 in
theorem r9_operands.calls (k : Nat) (a0 : Int) (r : Int) (w : World) (h : r9_operands.f k a0 = some r) :
  Calls Try.prog 51 #[.int .i64 a0] w fun e w' => e = .returned (.int .i64 r) ∧ Drawn0 w w' := by
 have H : (if a0 = 1 then (r9_operands.j0 k a0 (a0 == 1)) else (if a0 = 21 then (r9_operands.j0 k a0 (a0 == 21)) else (r9_operands.j0 k a0 (a0 == 22)))) = some r := h; clear h; have HC1 := aM H; clear H; go_enter Try.func51, Try.ntmps51
 go_upto_if 4 with (fail)
 go_cut [4] (fun v1 wc => ∃ (kq : Nat) (x1_1 : Bool), v1 = .bool x1_1 ∧ Aside0 (r9_operands.j0 kq a0 x1_1 = some r) ∧ Aside0 (kq ≤ k) ∧ Drawn0 w wc)
 case first =>
  have H := HC1.out; clear HC1; by_cases c3 : a0 = 1
  ·rw [if_pos c3] at H; obtain ⟨c1b0, c1b1⟩ := zeq c3; clear c3; (first | rw [c1b0] | (simp only [i64_w, i32_w]; rw [c1b0]) | skip)
   have H' := aM H; clear H; go_wp2
   go_meet
   case rel => exact ⟨_, ((a0 == 1)), q13z, H', ⟨q51z⟩, q22z⟩
  ·rw [if_neg c3] at H; obtain ⟨c1b0, c1b1⟩ := zne c3; (first | rw [c1b0] | (simp only [i64_w, i32_w]; rw [c1b0]) | skip)
   by_cases c3 : a0 = 21
   ·rw [if_pos c3] at H; obtain ⟨c1b0, c1b1⟩ := zeq c3; clear c3; have H' := aM H; clear H; go_wp2
    go_meet
    case rel => exact ⟨_, ((a0 == 21)), q13z, H', ⟨q51z⟩, q22z⟩
   ·rw [if_neg c3] at H; obtain ⟨c1b0, c1b1⟩ := zne c3; have H' := aM H; clear H; go_wp2
    go_meet
    case rel => exact ⟨_, ((a0 == 22)), q13z, H', ⟨q51z⟩, q22z⟩
 case rest =>
  clear HC1; try clear p2
  try clear c3
  try clear c1b0
  try clear c1b1
  try clear c4
  try clear c2b0
  try clear c2b1
  obtain ⟨kq, x1_1, rfl, HA, HJ1, ⟨mc1, rfl⟩⟩ := hcut; cases kq with
  | zero => exact absurd HA.out (by simp [r9_operands.j0])
  | succ kj1 =>
   have H := HA.out; clear HA; simp only [r9_operands.j0] at H; by_cases c5 : x1_1 = true
   ·subst c5; have H1 : (some 0) = some r := by rw [if_pos rfl] at H; exact H
    exact z68_1
   ·replace c5 := Bool.eq_false_iff.mpr c5; subst c5; have H1 : (if a0 = 3 then (r9_operands.j1 kj1 a0 (a0 == 3)) else (if a0 = 4 then (r9_operands.j1 kj1 a0 (a0 == 4)) else (if a0 = 5 then (r9_operands.j1 kj1 a0 (a0 == 5)) else (r9_operands.j1 kj1 a0 (a0 == 18))))) = some r := by rw [if_neg (show ¬ (false = true) by decide)] at H; exact H
    clear H; have H := H1; clear H1; have HC1 := aM H; clear H; go_upto_if 8 with (fail)
    go_cut [8] (fun v1 wc => ∃ (kq : Nat) (x1_5 : Bool), v1 = .bool x1_5 ∧ Aside0 (r9_operands.j1 kq a0 x1_5 = some r) ∧ Aside0 (kq ≤ kj1) ∧ Drawn0 w wc)
    case first =>
     have H := HC1.out; clear HC1; by_cases c6 : a0 = 3
     ·rw [if_pos c6] at H; obtain ⟨c3b0, c3b1⟩ := zeq c6; clear c6; (first | rw [c3b0] | (simp only [i64_w, i32_w]; rw [c3b0]) | skip)
      have H' := aM H; clear H; go_wp2
      go_meet
      case rel => exact ⟨_, ((a0 == 3)), q13z, H', ⟨q55z HJ1⟩, q22z⟩
     ·rw [if_neg c6] at H; obtain ⟨c3b0, c3b1⟩ := zne c6; (first | rw [c3b0] | (simp only [i64_w, i32_w]; rw [c3b0]) | skip)
      by_cases c6 : a0 = 4
      ·rw [if_pos c6] at H; obtain ⟨c3b0, c3b1⟩ := zeq c6; clear c6; have H' := aM H; clear H; go_wp2
       go_meet
       case rel => exact ⟨_, ((a0 == 4)), q13z, H', ⟨q55z HJ1⟩, q22z⟩
      ·rw [if_neg c6] at H; obtain ⟨c3b0, c3b1⟩ := zne c6; by_cases c6 : a0 = 5
       ·rw [if_pos c6] at H; obtain ⟨c3b0, c3b1⟩ := zeq c6; clear c6; have H' := aM H; clear H; go_wp2
        go_meet
        case rel => exact ⟨_, ((a0 == 5)), q13z, H', ⟨q55z HJ1⟩, q22z⟩
       ·rw [if_neg c6] at H; obtain ⟨c3b0, c3b1⟩ := zne c6; have H' := aM H; clear H; go_wp2
        go_meet
        case rel => exact ⟨_, ((a0 == 18)), q13z, H', ⟨q55z HJ1⟩, q22z⟩
    case rest =>
     clear HC1; try clear c1
     try clear p2
     try clear c3
     try clear c1b0
     try clear c1b1
     try clear c4
     try clear c2b0
     try clear c2b1
     try clear c5
     try clear c6
     try clear c3b0
     try clear c3b1
     try clear c7
     try clear c4b0
     try clear c4b1
     try clear c8
     try clear c5b0
     try clear c5b1
     try clear p2
     obtain ⟨kq, x1_5, rfl, HA, HJ2, ⟨mc1, rfl⟩⟩ := hcut; cases kq with
     | zero => exact absurd HA.out (by simp [r9_operands.j1])
     | succ kj1 =>
      have H := HA.out; clear HA; simp only [r9_operands.j1] at H; by_cases c9 : x1_5 = true
      ·subst c9; have H1 : (some 1) = some r := by rw [if_pos rfl] at H; exact H
       exact z68_1
      ·replace c9 := Bool.eq_false_iff.mpr c9; subst c9; have H1 : (if a0 = 6 then (r9_operands.j2 kj1 a0 (a0 == 6)) else (if a0 = 7 then (r9_operands.j2 kj1 a0 (a0 == 7)) else (if a0 = 8 then (r9_operands.j2 kj1 a0 (a0 == 8)) else (if a0 = 9 then (r9_operands.j2 kj1 a0 (a0 == 9)) else (if a0 = 10 then (r9_operands.j2 kj1 a0 (a0 == 10)) else (if a0 = 11 then (r9_operands.j2 kj1 a0 (a0 == 11)) else (if a0 = 12 then (r9_operands.j2 kj1 a0 (a0 == 12)) else (if a0 = 13 then (r9_operands.j2 kj1 a0 (a0 == 13)) else (if a0 = 14 then (r9_operands.j2 kj1 a0 (a0 == 14)) else (if a0 = 15 then (r9_operands.j2 kj1 a0 (a0 == 15)) else (r9_operands.j2 kj1 a0 (a0 == 17)))))))))))) = some r := by rw [if_neg (show ¬ (false = true) by decide)] at H; exact H
       clear H; have H := H1; clear H1; have HC1 := aM H; clear H; go_upto_if 13 with (fail)
       go_cut [13] (fun v1 wc => ∃ (kq : Nat) (x1_10 : Bool), v1 = .bool x1_10 ∧ Aside0 (r9_operands.j2 kq a0 x1_10 = some r) ∧ Aside0 (kq ≤ kj1) ∧ Drawn0 w wc)
       case first =>
        have H := HC1.out; clear HC1; by_cases c10 : a0 = 6
        ·rw [if_pos c10] at H; obtain ⟨c6b0, c6b1⟩ := zeq c10; clear c10; (first | rw [c6b0] | (simp only [i64_w, i32_w]; rw [c6b0]) | skip)
         have H' := aM H; clear H; go_wp2
         go_meet
         case rel => exact ⟨_, ((a0 == 6)), q13z, H', ⟨q74z HJ1 HJ2⟩, q22z⟩
        ·rw [if_neg c10] at H; obtain ⟨c6b0, c6b1⟩ := zne c10; (first | rw [c6b0] | (simp only [i64_w, i32_w]; rw [c6b0]) | skip)
         by_cases c10 : a0 = 7
         ·rw [if_pos c10] at H; obtain ⟨c6b0, c6b1⟩ := zeq c10; clear c10; have H' := aM H; clear H; go_wp2
          go_meet
          case rel => exact ⟨_, ((a0 == 7)), q13z, H', ⟨q74z HJ1 HJ2⟩, q22z⟩
         ·rw [if_neg c10] at H; obtain ⟨c6b0, c6b1⟩ := zne c10; by_cases c10 : a0 = 8
          ·rw [if_pos c10] at H; obtain ⟨c6b0, c6b1⟩ := zeq c10; clear c10; have H' := aM H; clear H; go_wp2
           go_meet
           case rel => exact ⟨_, ((a0 == 8)), q13z, H', ⟨q74z HJ1 HJ2⟩, q22z⟩
          ·rw [if_neg c10] at H; obtain ⟨c6b0, c6b1⟩ := zne c10; by_cases c10 : a0 = 9
           ·rw [if_pos c10] at H; obtain ⟨c6b0, c6b1⟩ := zeq c10; clear c10; have H' := aM H; clear H; go_wp2
            go_meet
            case rel => exact ⟨_, ((a0 == 9)), q13z, H', ⟨q74z HJ1 HJ2⟩, q22z⟩
           ·rw [if_neg c10] at H; obtain ⟨c6b0, c6b1⟩ := zne c10; by_cases c10 : a0 = 10
            ·rw [if_pos c10] at H; obtain ⟨c6b0, c6b1⟩ := zeq c10; clear c10; have H' := aM H; clear H; go_wp2
             go_meet
             case rel => exact ⟨_, ((a0 == 10)), q13z, H', ⟨q74z HJ1 HJ2⟩, q22z⟩
            ·rw [if_neg c10] at H; obtain ⟨c6b0, c6b1⟩ := zne c10; by_cases c10 : a0 = 11
             ·rw [if_pos c10] at H; obtain ⟨c6b0, c6b1⟩ := zeq c10; clear c10; have H' := aM H; clear H; go_wp2
              go_meet
              case rel => exact ⟨_, ((a0 == 11)), q13z, H', ⟨q74z HJ1 HJ2⟩, q22z⟩
             ·rw [if_neg c10] at H; obtain ⟨c6b0, c6b1⟩ := zne c10; by_cases c10 : a0 = 12
              ·rw [if_pos c10] at H; obtain ⟨c6b0, c6b1⟩ := zeq c10; clear c10; have H' := aM H; clear H; go_wp2
               go_meet
               case rel => exact ⟨_, ((a0 == 12)), q13z, H', ⟨q74z HJ1 HJ2⟩, q22z⟩
              ·rw [if_neg c10] at H; obtain ⟨c6b0, c6b1⟩ := zne c10; by_cases c10 : a0 = 13
               ·rw [if_pos c10] at H; obtain ⟨c6b0, c6b1⟩ := zeq c10; clear c10; have H' := aM H; clear H; go_wp2
                go_meet
                case rel => exact ⟨_, ((a0 == 13)), q13z, H', ⟨q74z HJ1 HJ2⟩, q22z⟩
               ·rw [if_neg c10] at H; obtain ⟨c6b0, c6b1⟩ := zne c10; by_cases c10 : a0 = 14
                ·rw [if_pos c10] at H; obtain ⟨c6b0, c6b1⟩ := zeq c10; clear c10; have H' := aM H; clear H; go_wp2
                 go_meet
                 case rel => exact ⟨_, ((a0 == 14)), q13z, H', ⟨q74z HJ1 HJ2⟩, q22z⟩
                ·rw [if_neg c10] at H; obtain ⟨c6b0, c6b1⟩ := zne c10; by_cases c10 : a0 = 15
                 ·rw [if_pos c10] at H; obtain ⟨c6b0, c6b1⟩ := zeq c10; clear c10; have H' := aM H; clear H; go_wp2
                  go_meet
                  case rel => exact ⟨_, ((a0 == 15)), q13z, H', ⟨q74z HJ1 HJ2⟩, q22z⟩
                 ·rw [if_neg c10] at H; obtain ⟨c6b0, c6b1⟩ := zne c10; have H' := aM H; clear H; go_wp2
                  go_meet
                  case rel => exact ⟨_, ((a0 == 17)), q13z, H', ⟨q74z HJ1 HJ2⟩, q22z⟩
       case rest =>
        clear HC1; try clear c1
        try clear c2
        try clear p2
        try clear c3
        try clear c1b0
        try clear c1b1
        try clear c4
        try clear c2b0
        try clear c2b1
        try clear c5
        try clear c6
        try clear c3b0
        try clear c3b1
        try clear c7
        try clear c4b0
        try clear c4b1
        try clear c8
        try clear c5b0
        try clear c5b1
        try clear c9
        try clear c3
        try clear c1b0
        try clear c1b1
        try clear c3
        try clear c1b0
        try clear c1b1
        try clear c3
        try clear c1b0
        try clear c1b1
        try clear c3
        try clear c1b0
        try clear c1b1
        try clear c3
        try clear c1b0
        try clear c1b1
        try clear c3
        try clear c1b0
        try clear c1b1
        try clear c3
        try clear c1b0
        try clear c1b1
        try clear c3
        try clear c1b0
        try clear c1b1
        try clear c3
        try clear c1b0
        try clear c1b1
        try clear c3
        try clear c1b0
        try clear c1b1
        try clear p2
        obtain ⟨kq, x1_10, rfl, HA, HJ1, ⟨mc1, rfl⟩⟩ := hcut; cases kq with
        | zero => exact absurd HA.out (by simp [r9_operands.j2])
        | succ kj1 =>
         have H := HA.out; clear HA; simp only [r9_operands.j2] at H; by_cases c3 : x1_10 = true
         ·subst c3; have H1 : (some 2) = some r := by rw [if_pos rfl] at H; exact H
          exact z68_1
         ·replace c3 := Bool.eq_false_iff.mpr c3; subst c3; have H1 : (if a0 = 16 then (some 3) else (some (-1))) = some r := by rw [if_neg (show ¬ (false = true) by decide)] at H; exact H
          clear H; have H := H1; clear H1; by_cases c3 : a0 = 16
          ·rw [if_pos c3] at H; obtain ⟨c1b0, c1b1⟩ := zeq c3; clear c3; obtain rfl := Option.some.inj H; go_wp2
           go_ret
           exact ⟨q13z, q22z⟩
          ·rw [if_neg c3] at H; obtain ⟨c1b0, c1b1⟩ := zne c3; obtain rfl := Option.some.inj H; go_wp2
           go_ret
           exact ⟨q13z, q22z⟩
end Go.Proofs.Yteblbknmikieoaa.Xb
namespace Go.Proofs.Yteblbknmikieoaa.Xb
open Go.RowKit Go.Proofs.YteblbknmikieoaaW.PrintWords Go.Proofs.YteblbknmikieoaaW.PrintLast Go.Proofs.YteblbknmikieoaaW.PrintMore
attribute [local go_sem] max2_int min2_int max_two min_two max_three min_three max_four min_four
set_option linter.unusedVariables false
set_option linter.unusedSimpArgs false
theorem cells5_69 {w : World} {g : Nat} {t : TypeId} {x0 x1 x2 x3 x4 : Value} (h : w.heap[g]? = some (.cells #[x0, x1, x2, x3, x4] t (0, 0))) : w.cell? ⟨g, 0, none⟩ = some x0 ∧ w.cell? ⟨g, 1, none⟩ = some x1 ∧ w.cell? ⟨g, 2, none⟩ = some x2 ∧ w.cell? ⟨g, 3, none⟩ = some x3 ∧ w.cell? ⟨g, 4, none⟩ = some x4 ∧ w.frozen? ⟨g, 0, none⟩ = false ∧ w.frozen? ⟨g, 1, none⟩ = false ∧ w.frozen? ⟨g, 2, none⟩ = false ∧ w.frozen? ⟨g, 3, none⟩ = false ∧ w.frozen? ⟨g, 4, none⟩ = false := ⟨(blk_cell h 0).trans rfl, (blk_cell h 1).trans rfl, (blk_cell h 2).trans rfl, (blk_cell h 3).trans rfl, (blk_cell h 4).trans rfl, blk_frozen h 0, blk_frozen h 1, blk_frozen h 2, blk_frozen h 3, blk_frozen h 4⟩
def r9_wide.f (l0_0 : List (S41)) (l0_1 : List (S47)) (l0_2 : List (S43)) (l0_3 : List (S61)) (l0_4 : List (S47)) (a1 : Int) (a2 : Int) : Option (Int) := if a1 < 0 then (some 0) else (if a1 ≥ a2 then (some 0) else (if 0 ≤ a1 then (if a1 < (l0_0.length : Int) then (some ((rd_T41 l0_0 a1).f1)) else (none)) else (none)))
theorem z69_1 {P : Prop} (h : P := by
 clear c1; obtain rfl := Option.some.inj H; go_enter Try.func53, Try.ntmps53
 go_wp2_with (first | ((with_reducible refine zgd 3 rfl ?_); refine zbox 3 #[.slice A0_0 l0_0.length c0_0, .slice A0_1 l0_1.length c0_1, .slice A0_2 l0_2.length c0_2, .slice A0_3 l0_3.length c0_3, .slice A0_4 l0_4.length c0_4] 27 ?_; intro gb1 hg w1 hbox hb; have BK1 := aM (hbox); have GW1 := aM ((q7z HB : w.heap.size ≤ gb1)); have GE1 := aM ((q7z HB : w.heap.size ≤ gb1)); replace HB := aM (ym (q4z HB) hb); clear hb hbox hg))
 go_ret
 exact ⟨q11z, q3z HB GE1⟩) : P := h
set_option maxHeartbeats 8000000 in
set_option maxRecDepth 100000 in
theorem r9_wide.calls (A0_0 : Option Addr) (c0_0 : Nat) (l0_0 : List (S41)) (A0_1 : Option Addr) (c0_1 : Nat) (l0_1 : List (S47)) (A0_2 : Option Addr) (c0_2 : Nat) (l0_2 : List (S43)) (A0_3 : Option Addr) (c0_3 : Nat) (l0_3 : List (S61)) (A0_4 : Option Addr) (c0_4 : Nat) (l0_4 : List (S47)) (a1 : Int) (a2 : Int) (r : Int) (w : World) (hr0_0 : Kd.C k41 w A0_0 l0_0.length l0_0) (hc0_0 : l0_0.length ≤ c0_0) (hr0_1 : Kd.C k47 w A0_1 l0_1.length l0_1) (hc0_1 : l0_1.length ≤ c0_1) (hr0_2 : Kd.C k43 w A0_2 l0_2.length l0_2) (hc0_2 : l0_2.length ≤ c0_2) (hr0_3 : Kd.C k61 w A0_3 l0_3.length l0_3) (hc0_3 : l0_3.length ≤ c0_3) (hr0_4 : Kd.C k47 w A0_4 l0_4.length l0_4) (hc0_4 : l0_4.length ≤ c0_4) (h : r9_wide.f l0_0 l0_1 l0_2 l0_3 l0_4 a1 a2 = some r) :
  Calls Try.prog 53 #[.agg #[.slice A0_0 l0_0.length c0_0, .slice A0_1 l0_1.length c0_1, .slice A0_2 l0_2.length c0_2, .slice A0_3 l0_3.length c0_3, .slice A0_4 l0_4.length c0_4], .int .i64 a1, .int .i64 a2] w fun e w' => e = .returned (.int .i64 r) ∧ Below w.heap.size w w' := by
 have hu1 := Try.underlying27; have HR1_0 := aM hr0_0; have HC1_0 := aM hc0_0; clear hr0_0 hc0_0; have HR1_1 := aM hr0_1; have HC1_1 := aM hc0_1; clear hr0_1 hc0_1; have HR1_2 := aM hr0_2; have HC1_2 := aM hc0_2; clear hr0_2 hc0_2; have HR1_3 := aM hr0_3; have HC1_3 := aM hc0_3; clear hr0_3 hc0_3; have HR1_4 := aM hr0_4; have HC1_4 := aM hc0_4; clear hr0_4 hc0_4; have HB := aM (Below.refl w.heap.size w); have H : (if a1 < 0 then (some 0) else (if a1 ≥ a2 then (some 0) else (if 0 ≤ a1 then (if a1 < (l0_0.length : Int) then (some ((rd_T41 l0_0 a1).f1)) else (none)) else (none)))) = some r := h; clear h; by_cases c1 : a1 < 0
 ·rw [if_pos c1] at H; have c1b0 := decide_eq_true c1; exact z69_1
 ·rw [if_neg c1] at H; have c1b0 := decide_eq_false c1; clear c1; by_cases c1 : a1 ≥ a2
  ·rw [if_pos c1] at H; have c1b0 : decide (a2 ≤ a1) = true := decide_eq_true c1; exact z69_1
  ·rw [if_neg c1] at H; have c1b0 : decide (a2 ≤ a1) = false := decide_eq_false c1; clear c1; by_cases c1 : 0 ≤ a1
   ·rw [if_pos c1] at H; have c1b0 := decide_eq_true c1; clear c1; by_cases c2 : a1 < (l0_0.length : Int)
    ·rw [if_pos c2] at H; have c1b0 := decide_eq_true c2; clear c2; obtain rfl := Option.some.inj H; go_enter Try.func53, Try.ntmps53
     go_wp2_with (first | ((with_reducible refine zgd 3 rfl ?_); refine zbox 3 #[.slice A0_0 l0_0.length c0_0, .slice A0_1 l0_1.length c0_1, .slice A0_2 l0_2.length c0_2, .slice A0_3 l0_3.length c0_3, .slice A0_4 l0_4.length c0_4] 27 ?_; intro gb1 hg w1 hbox hb; have BK1 := aM (hbox); have GW1 := aM ((q7z HB : w.heap.size ≤ gb1)); have GE1 := aM ((q7z HB : w.heap.size ≤ gb1)); replace HB := aM (ym (q4z HB) hb); clear hb hbox hg; obtain ⟨i1_0, i1_1, i1_2, i1_3, i1_4, j1_0, j1_1, j1_2, j1_3, j1_4⟩ := cells5_69 BK1.out; have p1 : 0 ≤ (a1 : Int) := zod; have q1 : a1 < (l0_0.length : Int) := zod; obtain ⟨ad1, e1, hx1_0, hx1_1, hx1_2, hx1_3, hx1_4, hx1_5, hx1_6⟩ := at_T41 HR1_0.out a1 p1 q1; cases e1; replace hx1_0 := zx HB hx1_0; replace hx1_1 := zx HB hx1_1; replace hx1_2 := zx HB hx1_2; replace hx1_3 := zx HB hx1_3; replace hx1_4 := zx HB hx1_4; replace hx1_5 := zx HB hx1_5; replace hx1_6 := zx HB hx1_6; replace p1 := eq_true p1; replace q1 := eq_true q1))
     go_ret
     exact ⟨q11z, q3z HB GE1⟩
    ·rw [if_neg c2] at H; exact absurd H (by simp)
   ·rw [if_neg c1] at H; exact absurd H (by simp)
end Go.Proofs.Yteblbknmikieoaa.Xb
