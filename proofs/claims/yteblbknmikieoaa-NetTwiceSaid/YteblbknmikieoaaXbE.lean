/- Slimmed by this session: what nothing names is struck out. -/
import Derived.Test.YteblbknmikieoaaXb0
import Derived.Test.YteblbknmikieoaaXbZ
import Derived.Test.YteblbknmikieoaaXbA
namespace Go.Proofs.Yteblbknmikieoaa.Xb
open Go.RowKit Go.Proofs.YteblbknmikieoaaW.PrintWords Go.Proofs.YteblbknmikieoaaW.PrintLast Go.Proofs.YteblbknmikieoaaW.PrintMore
attribute [local go_sem] max2_int min2_int max_two min_two max_three min_three max_four min_four
set_option linter.unusedVariables false
set_option linter.unusedSimpArgs false
attribute [local go_sem high] eqA41
def api_Node.l0 : Nat → List (S41) → List (S41) → Int → Int → Option (Bool)
 | 0, _, _, _, _ => none
 | k + 1, x0, x1, x12, x13 => if x13 < x12 then (if 0 ≤ x13 then (if x13 < (x0.length : Int) then (if x13 < (x1.length : Int) then (if (!(((rd_T41 x0 x13).f0) == ((rd_T41 x1 x13).f0)) || (!(((rd_T41 x0 x13).f1) == ((rd_T41 x1 x13).f1)) || (!(((rd_T41 x0 x13).f2) == ((rd_T41 x1 x13).f2)) || (!(((rd_T41 x0 x13).f3) == ((rd_T41 x1 x13).f3)) || (!(((rd_T41 x0 x13).f4) == ((rd_T41 x1 x13).f4)) || (!(((rd_T41 x0 x13).f5) == ((rd_T41 x1 x13).f5)) || (!(((rd_T41 x0 x13).f6) == ((rd_T41 x1 x13).f6))))))))) = true then (some false) else (api_Node.l0 k x0 x1 x12 (wrap64 (x13 + 1)))) else (none)) else (none)) else (none)) else (some true)
def api_Node.f (k : Nat) (l0 : List (S41)) (l1 : List (S41)) : Option (Bool) := if (l0.length : Int) = (l1.length : Int) then (api_Node.l0 k l0 l1 (l0.length : Int) 0) else (some false)
theorem api_Node.mono_l : ∀ k, (∀ y0 y1 y2 y3, LeO (api_Node.l0 k y0 y1 y2 y3) (api_Node.l0 (k + 1) y0 y1 y2 y3))
 | 0 => fun _ _ _ _ r h => by simp [api_Node.l0] at h
 | k + 1 => by
  have ih0 := api_Node.mono_l k
  ·intro y0 y1 y2 y3
   unfold api_Node.l0
   repeat' first
   | (with_reducible exact ih0 _ _ _ _)
   | (with_reducible exact LeO.refl _)
   | (with_reducible exact LeO.none _)
   | (with_reducible refine LeO.ite ?_ ?_)
   | (with_reducible refine LeO.bind ?_ (fun _ => ?_))
   | exact ih0 _ _ _ _
   | exact LeO.none _
   | refine LeO.ite ?_ ?_
   | refine LeO.bind ?_ (fun _ => ?_)
theorem api_Node.mono : ∀ a0 a1 k, LeO (api_Node.f k a0 a1) (api_Node.f (k + 1) a0 a1) := by
 intro a0 a1 k
 have ih1 := api_Node.mono_l k; unfold api_Node.f
 repeat' first
   | (with_reducible exact ih1 _ _ _ _)
   | (with_reducible exact LeO.refl _)
   | (with_reducible exact LeO.none _)
   | (with_reducible refine LeO.ite ?_ ?_)
   | (with_reducible refine LeO.bind ?_ (fun _ => ?_))
   | exact ih1 _ _ _ _
   | exact LeO.none _
   | refine LeO.ite ?_ ?_
   | refine LeO.bind ?_ (fun _ => ?_)
set_option maxHeartbeats 8000000 in
set_option maxRecDepth 100000 in
theorem api_Node.calls (k : Nat) (A0 : Option Addr) (c0 : Nat) (l0 : List (S41)) (A1 : Option Addr) (c1 : Nat) (l1 : List (S41)) (r : Bool) (w : World) (hr0 : Kd.C k41 w A0 l0.length l0) (hc0 : l0.length ≤ c0) (hr1 : Kd.C k41 w A1 l1.length l1) (hc1 : l1.length ≤ c1) (h : api_Node.f k l0 l1 = some r) :
  Calls Try.prog 40 #[.slice A0 l0.length c0, .slice A1 l1.length c1] w fun e w' => e = .returned (.bool r) ∧ Drawn0 w w' := by
 have hu1 := Try.underlying41; have HR1 := aM hr0; have HC1 := aM hc0; clear hr0 hc0; have HR2 := aM hr1; have HC1 := aM hc1; clear hr1 hc1; have H : (if (l0.length : Int) = (l1.length : Int) then (api_Node.l0 k l0 l1 (l0.length : Int) 0) else (some false)) = some r := h; clear h; by_cases c2 : (l0.length : Int) = (l1.length : Int)
 ·rw [if_pos c2] at H; obtain ⟨c1b0, c1b1⟩ := zeq c2; have c1b2 : (l0.length == l1.length) = true := by first | simpa using c2 | (simp at c2 ⊢; omega)
  clear c2; have H' := aM H; clear H; go_enter Try.func40, Try.ntmps40
  go_wp2
  repeat (go_quiet (fail); try go_wp2)
  go_loopg [13] k (fun kq v1 w' => ∃ (x1_1 : Int), v1 = .int .i64 x1_1 ∧ Aside0 (api_Node.l0 kq l0 l1 (l0.length : Int) x1_1 = some r) ∧ Aside0 (kq ≤ k) ∧ Drawn0 w w')
  case atStart => exact ⟨(0), q13z, H', ⟨Nat.le_refl _⟩, q22z⟩
  case round =>
   clear H'; try clear c1
   try clear p2
   try clear c2
   try clear c1b0
   try clear c1b1
   try clear c1b2
   obtain ⟨x1_1, rfl, HA, HK1, ⟨m1, rfl⟩⟩ := hrel; cases gk with
   | zero => exact absurd HA.out (by simp [api_Node.l0])
   | succ k1 =>
    have H := HA.out; clear HA; simp only [api_Node.l0] at H; by_cases c3 : x1_1 < (l0.length : Int)
    ·rw [if_pos c3] at H; have c1b0 := decide_eq_true c3; clear c3; by_cases c4 : 0 ≤ x1_1
     ·rw [if_pos c4] at H; have c1b0 := decide_eq_true c4; clear c4; by_cases c5 : x1_1 < (l0.length : Int)
      ·rw [if_pos c5] at H; have c1b0 := decide_eq_true c5; clear c5; by_cases c6 : x1_1 < (l1.length : Int)
       ·rw [if_pos c6] at H; have c1b0 := decide_eq_true c6; clear c6; by_cases c7 : (!(((rd_T41 l0 x1_1).f0) == ((rd_T41 l1 x1_1).f0)) || (!(((rd_T41 l0 x1_1).f1) == ((rd_T41 l1 x1_1).f1)) || (!(((rd_T41 l0 x1_1).f2) == ((rd_T41 l1 x1_1).f2)) || (!(((rd_T41 l0 x1_1).f3) == ((rd_T41 l1 x1_1).f3)) || (!(((rd_T41 l0 x1_1).f4) == ((rd_T41 l1 x1_1).f4)) || (!(((rd_T41 l0 x1_1).f5) == ((rd_T41 l1 x1_1).f5)) || (!(((rd_T41 l0 x1_1).f6) == ((rd_T41 l1 x1_1).f6))))))))) = true
        ·rw [if_pos c7] at H; have c1b0 : (!(((rd_T41 l0 x1_1).f0) == ((rd_T41 l1 x1_1).f0)) || (!(((rd_T41 l0 x1_1).f1) == ((rd_T41 l1 x1_1).f1)) || (!(((rd_T41 l0 x1_1).f2) == ((rd_T41 l1 x1_1).f2)) || (!(((rd_T41 l0 x1_1).f3) == ((rd_T41 l1 x1_1).f3)) || (!(((rd_T41 l0 x1_1).f4) == ((rd_T41 l1 x1_1).f4)) || (!(((rd_T41 l0 x1_1).f5) == ((rd_T41 l1 x1_1).f5)) || (!(((rd_T41 l0 x1_1).f6) == ((rd_T41 l1 x1_1).f6))))))))) = true := c7; clear c7; obtain rfl := Option.some.inj H; have p1 : 0 ≤ (x1_1 : Int) := zod; have q1 : x1_1 < (l0.length : Int) := zod; obtain ⟨ad1, e1, hx1_0, hx1_1, hx1_2, hx1_3, hx1_4, hx1_5, hx1_6⟩ := at_T41 HR1.out x1_1 p1 q1; cases e1; replace p1 := eq_true p1; replace q1 := eq_true q1; have p1 : 0 ≤ (x1_1 : Int) := zod; have q1 : x1_1 < (l1.length : Int) := zod; obtain ⟨ad1, e1, hx1_0, hx1_1, hx1_2, hx1_3, hx1_4, hx1_5, hx1_6⟩ := at_T41 HR2.out x1_1 p1 q1; cases e1; replace p1 := eq_true p1; replace q1 := eq_true q1; go_wp2
         repeat (go_quiet (fail); try go_wp2)
         go_ret
         exact ⟨q13z, q22z⟩
        ·rw [if_neg c7] at H; have c1b0 : (!(((rd_T41 l0 x1_1).f0) == ((rd_T41 l1 x1_1).f0)) || (!(((rd_T41 l0 x1_1).f1) == ((rd_T41 l1 x1_1).f1)) || (!(((rd_T41 l0 x1_1).f2) == ((rd_T41 l1 x1_1).f2)) || (!(((rd_T41 l0 x1_1).f3) == ((rd_T41 l1 x1_1).f3)) || (!(((rd_T41 l0 x1_1).f4) == ((rd_T41 l1 x1_1).f4)) || (!(((rd_T41 l0 x1_1).f5) == ((rd_T41 l1 x1_1).f5)) || (!(((rd_T41 l0 x1_1).f6) == ((rd_T41 l1 x1_1).f6))))))))) = false := by simpa using c7
         clear c7; have H' := aM H; clear H; have p1 : 0 ≤ (x1_1 : Int) := zod; have q1 : x1_1 < (l0.length : Int) := zod; obtain ⟨ad1, e1, hx1_0, hx1_1, hx1_2, hx1_3, hx1_4, hx1_5, hx1_6⟩ := at_T41 HR1.out x1_1 p1 q1; cases e1; replace p1 := eq_true p1; replace q1 := eq_true q1; have p1 : 0 ≤ (x1_1 : Int) := zod; have q1 : x1_1 < (l1.length : Int) := zod; obtain ⟨ad1, e1, hx1_0, hx1_1, hx1_2, hx1_3, hx1_4, hx1_5, hx1_6⟩ := at_T41 HR2.out x1_1 p1 q1; cases e1; replace p1 := eq_true p1; replace q1 := eq_true q1; go_wp2
         repeat (go_quiet (fail); try go_wp2)
         go_roundg k1
         case measure => have := HK1.out; omega
         case rel => exact ⟨(wrap64 (x1_1 + 1)), q13z, H', ⟨by have := HK1.out; omega⟩, q22z⟩
       ·rw [if_neg c6] at H; exact absurd H (by simp)
      ·rw [if_neg c5] at H; exact absurd H (by simp)
     ·rw [if_neg c4] at H; exact absurd H (by simp)
    ·rw [if_neg c3] at H; have c1b0 := decide_eq_false c3; clear c3; obtain rfl := Option.some.inj H; go_wp2
     repeat (go_quiet (fail); try go_wp2)
     go_ret
     exact ⟨q13z, q22z⟩
 ·rw [if_neg c2] at H; obtain ⟨c1b0, c1b1⟩ := zne c2; have c1b2 : (l0.length == l1.length) = false := by first | simpa using c2 | (simp at c2 ⊢; omega)
  obtain rfl := Option.some.inj H; go_enter Try.func40, Try.ntmps40
  go_wp2
  repeat (go_quiet (fail); try go_wp2)
  go_ret
  exact ⟨q13z, q22z⟩
end Go.Proofs.Yteblbknmikieoaa.Xb
namespace Go.Proofs.Yteblbknmikieoaa.Xb
open Go.RowKit Go.Proofs.YteblbknmikieoaaW.PrintWords Go.Proofs.YteblbknmikieoaaW.PrintLast Go.Proofs.YteblbknmikieoaaW.PrintMore
attribute [local go_sem] max2_int min2_int max_two min_two max_three min_three max_four min_four
set_option linter.unusedVariables false
set_option linter.unusedSimpArgs false
attribute [local go_sem high] eqA47
def api_Pin_41.l0 : Nat → List (S47) → List (S47) → Int → Int → Option (Bool)
 | 0, _, _, _, _ => none
 | k + 1, x0, x1, x12, x13 => if x13 < x12 then (if 0 ≤ x13 then (if x13 < (x0.length : Int) then (if x13 < (x1.length : Int) then (if (!((((rd_T47 x0 x13).f0).toList) == (((rd_T47 x1 x13).f0).toList)) || (!(((rd_T47 x0 x13).f1) == ((rd_T47 x1 x13).f1)))) = true then (some false) else (api_Pin_41.l0 k x0 x1 x12 (wrap64 (x13 + 1)))) else (none)) else (none)) else (none)) else (some true)
def api_Pin_41.f (k : Nat) (l0 : List (S47)) (l1 : List (S47)) : Option (Bool) := if (l0.length : Int) = (l1.length : Int) then (api_Pin_41.l0 k l0 l1 (l0.length : Int) 0) else (some false)
theorem api_Pin_41.mono_l : ∀ k, (∀ y0 y1 y2 y3, LeO (api_Pin_41.l0 k y0 y1 y2 y3) (api_Pin_41.l0 (k + 1) y0 y1 y2 y3))
 | 0 => fun _ _ _ _ r h => by simp [api_Pin_41.l0] at h
 | k + 1 => by
  have ih0 := api_Pin_41.mono_l k
  ·intro y0 y1 y2 y3
   unfold api_Pin_41.l0
   repeat' first
   | (with_reducible exact ih0 _ _ _ _)
   | (with_reducible exact LeO.refl _)
   | (with_reducible exact LeO.none _)
   | (with_reducible refine LeO.ite ?_ ?_)
   | (with_reducible refine LeO.bind ?_ (fun _ => ?_))
   | exact ih0 _ _ _ _
   | exact LeO.none _
   | refine LeO.ite ?_ ?_
   | refine LeO.bind ?_ (fun _ => ?_)
theorem api_Pin_41.mono : ∀ a0 a1 k, LeO (api_Pin_41.f k a0 a1) (api_Pin_41.f (k + 1) a0 a1) := by
 intro a0 a1 k
 have ih1 := api_Pin_41.mono_l k; unfold api_Pin_41.f
 repeat' first
   | (with_reducible exact ih1 _ _ _ _)
   | (with_reducible exact LeO.refl _)
   | (with_reducible exact LeO.none _)
   | (with_reducible refine LeO.ite ?_ ?_)
   | (with_reducible refine LeO.bind ?_ (fun _ => ?_))
   | exact ih1 _ _ _ _
   | exact LeO.none _
   | refine LeO.ite ?_ ?_
   | refine LeO.bind ?_ (fun _ => ?_)
set_option maxHeartbeats 8000000 in
set_option maxRecDepth 100000 in
theorem api_Pin_41.calls (k : Nat) (A0 : Option Addr) (c0 : Nat) (l0 : List (S47)) (A1 : Option Addr) (c1 : Nat) (l1 : List (S47)) (r : Bool) (w : World) (hr0 : Kd.C k47 w A0 l0.length l0) (hc0 : l0.length ≤ c0) (hr1 : Kd.C k47 w A1 l1.length l1) (hc1 : l1.length ≤ c1) (h : api_Pin_41.f k l0 l1 = some r) :
  Calls Try.prog 41 #[.slice A0 l0.length c0, .slice A1 l1.length c1] w fun e w' => e = .returned (.bool r) ∧ Drawn0 w w' := by
 have hu1 := Try.underlying47; have HR1 := aM hr0; have HC1 := aM hc0; clear hr0 hc0; have HR2 := aM hr1; have HC1 := aM hc1; clear hr1 hc1; have H : (if (l0.length : Int) = (l1.length : Int) then (api_Pin_41.l0 k l0 l1 (l0.length : Int) 0) else (some false)) = some r := h; clear h; by_cases c2 : (l0.length : Int) = (l1.length : Int)
 ·rw [if_pos c2] at H; obtain ⟨c1b0, c1b1⟩ := zeq c2; have c1b2 : (l0.length == l1.length) = true := by first | simpa using c2 | (simp at c2 ⊢; omega)
  clear c2; have H' := aM H; clear H; go_enter Try.func41, Try.ntmps41
  go_wp2
  repeat (go_quiet (fail); try go_wp2)
  go_loopg [13] k (fun kq v1 w' => ∃ (x1_1 : Int), v1 = .int .i64 x1_1 ∧ Aside0 (api_Pin_41.l0 kq l0 l1 (l0.length : Int) x1_1 = some r) ∧ Aside0 (kq ≤ k) ∧ Drawn0 w w')
  case atStart => exact ⟨(0), q13z, H', ⟨Nat.le_refl _⟩, q22z⟩
  case round =>
   clear H'; try clear c1
   try clear p2
   try clear c2
   try clear c1b0
   try clear c1b1
   try clear c1b2
   obtain ⟨x1_1, rfl, HA, HK1, ⟨m1, rfl⟩⟩ := hrel; cases gk with
   | zero => exact absurd HA.out (by simp [api_Pin_41.l0])
   | succ k1 =>
    have H := HA.out; clear HA; simp only [api_Pin_41.l0] at H; by_cases c3 : x1_1 < (l0.length : Int)
    ·rw [if_pos c3] at H; have c1b0 := decide_eq_true c3; clear c3; by_cases c4 : 0 ≤ x1_1
     ·rw [if_pos c4] at H; have c1b0 := decide_eq_true c4; clear c4; by_cases c5 : x1_1 < (l0.length : Int)
      ·rw [if_pos c5] at H; have c1b0 := decide_eq_true c5; clear c5; by_cases c6 : x1_1 < (l1.length : Int)
       ·rw [if_pos c6] at H; have c1b0 := decide_eq_true c6; clear c6; by_cases c7 : (!((((rd_T47 l0 x1_1).f0).toList) == (((rd_T47 l1 x1_1).f0).toList)) || (!(((rd_T47 l0 x1_1).f1) == ((rd_T47 l1 x1_1).f1)))) = true
        ·rw [if_pos c7] at H; have c1b0 : (!((((rd_T47 l0 x1_1).f0).toList) == (((rd_T47 l1 x1_1).f0).toList)) || (!(((rd_T47 l0 x1_1).f1) == ((rd_T47 l1 x1_1).f1)))) = true := c7; clear c7; obtain rfl := Option.some.inj H; have p1 : 0 ≤ (x1_1 : Int) := zod; have q1 : x1_1 < (l0.length : Int) := zod; obtain ⟨ad1, e1, hx1_0, hx1_1⟩ := at_T47 HR1.out x1_1 p1 q1; cases e1; replace p1 := eq_true p1; replace q1 := eq_true q1; have p1 : 0 ≤ (x1_1 : Int) := zod; have q1 : x1_1 < (l1.length : Int) := zod; obtain ⟨ad1, e1, hx1_0, hx1_1⟩ := at_T47 HR2.out x1_1 p1 q1; cases e1; replace p1 := eq_true p1; replace q1 := eq_true q1; go_wp2
         repeat (go_quiet (fail); try go_wp2)
         go_ret
         exact ⟨q13z, q22z⟩
        ·rw [if_neg c7] at H; have c1b0 : (!((((rd_T47 l0 x1_1).f0).toList) == (((rd_T47 l1 x1_1).f0).toList)) || (!(((rd_T47 l0 x1_1).f1) == ((rd_T47 l1 x1_1).f1)))) = false := by simpa using c7
         clear c7; have H' := aM H; clear H; have p1 : 0 ≤ (x1_1 : Int) := zod; have q1 : x1_1 < (l0.length : Int) := zod; obtain ⟨ad1, e1, hx1_0, hx1_1⟩ := at_T47 HR1.out x1_1 p1 q1; cases e1; replace p1 := eq_true p1; replace q1 := eq_true q1; have p1 : 0 ≤ (x1_1 : Int) := zod; have q1 : x1_1 < (l1.length : Int) := zod; obtain ⟨ad1, e1, hx1_0, hx1_1⟩ := at_T47 HR2.out x1_1 p1 q1; cases e1; replace p1 := eq_true p1; replace q1 := eq_true q1; go_wp2
         repeat (go_quiet (fail); try go_wp2)
         go_roundg k1
         case measure => have := HK1.out; omega
         case rel => exact ⟨(wrap64 (x1_1 + 1)), q13z, H', ⟨by have := HK1.out; omega⟩, q22z⟩
       ·rw [if_neg c6] at H; exact absurd H (by simp)
      ·rw [if_neg c5] at H; exact absurd H (by simp)
     ·rw [if_neg c4] at H; exact absurd H (by simp)
    ·rw [if_neg c3] at H; have c1b0 := decide_eq_false c3; clear c3; obtain rfl := Option.some.inj H; go_wp2
     repeat (go_quiet (fail); try go_wp2)
     go_ret
     exact ⟨q13z, q22z⟩
 ·rw [if_neg c2] at H; obtain ⟨c1b0, c1b1⟩ := zne c2; have c1b2 : (l0.length == l1.length) = false := by first | simpa using c2 | (simp at c2 ⊢; omega)
  obtain rfl := Option.some.inj H; go_enter Try.func41, Try.ntmps41
  go_wp2
  repeat (go_quiet (fail); try go_wp2)
  go_ret
  exact ⟨q13z, q22z⟩
end Go.Proofs.Yteblbknmikieoaa.Xb
namespace Go.Proofs.Yteblbknmikieoaa.Xb
open Go.RowKit Go.Proofs.YteblbknmikieoaaW.PrintWords Go.Proofs.YteblbknmikieoaaW.PrintLast Go.Proofs.YteblbknmikieoaaW.PrintMore
attribute [local go_sem] max2_int min2_int max_two min_two max_three min_three max_four min_four
set_option linter.unusedVariables false
set_option linter.unusedSimpArgs false
attribute [local go_sem high] eqA43
def api_Cell.l0 : Nat → List (S43) → List (S43) → Int → Int → Option (Bool)
 | 0, _, _, _, _ => none
 | k + 1, x0, x1, x12, x13 => if x13 < x12 then (if 0 ≤ x13 then (if x13 < (x0.length : Int) then (if x13 < (x1.length : Int) then (if (!((((rd_T43 x0 x13).f0).toList) == (((rd_T43 x1 x13).f0).toList)) || (!(((rd_T43 x0 x13).f1) == ((rd_T43 x1 x13).f1)) || (!(((rd_T43 x0 x13).f2) == ((rd_T43 x1 x13).f2)) || (!(((rd_T43 x0 x13).f3) == ((rd_T43 x1 x13).f3)))))) = true then (some false) else (api_Cell.l0 k x0 x1 x12 (wrap64 (x13 + 1)))) else (none)) else (none)) else (none)) else (some true)
def api_Cell.f (k : Nat) (l0 : List (S43)) (l1 : List (S43)) : Option (Bool) := if (l0.length : Int) = (l1.length : Int) then (api_Cell.l0 k l0 l1 (l0.length : Int) 0) else (some false)
theorem api_Cell.mono_l : ∀ k, (∀ y0 y1 y2 y3, LeO (api_Cell.l0 k y0 y1 y2 y3) (api_Cell.l0 (k + 1) y0 y1 y2 y3))
 | 0 => fun _ _ _ _ r h => by simp [api_Cell.l0] at h
 | k + 1 => by
  have ih0 := api_Cell.mono_l k
  ·intro y0 y1 y2 y3
   unfold api_Cell.l0
   repeat' first
   | (with_reducible exact ih0 _ _ _ _)
   | (with_reducible exact LeO.refl _)
   | (with_reducible exact LeO.none _)
   | (with_reducible refine LeO.ite ?_ ?_)
   | (with_reducible refine LeO.bind ?_ (fun _ => ?_))
   | exact ih0 _ _ _ _
   | exact LeO.none _
   | refine LeO.ite ?_ ?_
   | refine LeO.bind ?_ (fun _ => ?_)
theorem api_Cell.mono : ∀ a0 a1 k, LeO (api_Cell.f k a0 a1) (api_Cell.f (k + 1) a0 a1) := by
 intro a0 a1 k
 have ih1 := api_Cell.mono_l k; unfold api_Cell.f
 repeat' first
   | (with_reducible exact ih1 _ _ _ _)
   | (with_reducible exact LeO.refl _)
   | (with_reducible exact LeO.none _)
   | (with_reducible refine LeO.ite ?_ ?_)
   | (with_reducible refine LeO.bind ?_ (fun _ => ?_))
   | exact ih1 _ _ _ _
   | exact LeO.none _
   | refine LeO.ite ?_ ?_
   | refine LeO.bind ?_ (fun _ => ?_)
set_option maxHeartbeats 8000000 in
set_option maxRecDepth 100000 in
theorem api_Cell.calls (k : Nat) (A0 : Option Addr) (c0 : Nat) (l0 : List (S43)) (A1 : Option Addr) (c1 : Nat) (l1 : List (S43)) (r : Bool) (w : World) (hr0 : Kd.C k43 w A0 l0.length l0) (hc0 : l0.length ≤ c0) (hr1 : Kd.C k43 w A1 l1.length l1) (hc1 : l1.length ≤ c1) (h : api_Cell.f k l0 l1 = some r) :
  Calls Try.prog 42 #[.slice A0 l0.length c0, .slice A1 l1.length c1] w fun e w' => e = .returned (.bool r) ∧ Drawn0 w w' := by
 have hu1 := Try.underlying43; have HR1 := aM hr0; have HC1 := aM hc0; clear hr0 hc0; have HR2 := aM hr1; have HC1 := aM hc1; clear hr1 hc1; have H : (if (l0.length : Int) = (l1.length : Int) then (api_Cell.l0 k l0 l1 (l0.length : Int) 0) else (some false)) = some r := h; clear h; by_cases c2 : (l0.length : Int) = (l1.length : Int)
 ·rw [if_pos c2] at H; obtain ⟨c1b0, c1b1⟩ := zeq c2; have c1b2 : (l0.length == l1.length) = true := by first | simpa using c2 | (simp at c2 ⊢; omega)
  clear c2; have H' := aM H; clear H; go_enter Try.func42, Try.ntmps42
  go_wp2
  repeat (go_quiet (fail); try go_wp2)
  go_loopg [13] k (fun kq v1 w' => ∃ (x1_1 : Int), v1 = .int .i64 x1_1 ∧ Aside0 (api_Cell.l0 kq l0 l1 (l0.length : Int) x1_1 = some r) ∧ Aside0 (kq ≤ k) ∧ Drawn0 w w')
  case atStart => exact ⟨(0), q13z, H', ⟨Nat.le_refl _⟩, q22z⟩
  case round =>
   clear H'; try clear c1
   try clear p2
   try clear c2
   try clear c1b0
   try clear c1b1
   try clear c1b2
   obtain ⟨x1_1, rfl, HA, HK1, ⟨m1, rfl⟩⟩ := hrel; cases gk with
   | zero => exact absurd HA.out (by simp [api_Cell.l0])
   | succ k1 =>
    have H := HA.out; clear HA; simp only [api_Cell.l0] at H; by_cases c3 : x1_1 < (l0.length : Int)
    ·rw [if_pos c3] at H; have c1b0 := decide_eq_true c3; clear c3; by_cases c4 : 0 ≤ x1_1
     ·rw [if_pos c4] at H; have c1b0 := decide_eq_true c4; clear c4; by_cases c5 : x1_1 < (l0.length : Int)
      ·rw [if_pos c5] at H; have c1b0 := decide_eq_true c5; clear c5; by_cases c6 : x1_1 < (l1.length : Int)
       ·rw [if_pos c6] at H; have c1b0 := decide_eq_true c6; clear c6; by_cases c7 : (!((((rd_T43 l0 x1_1).f0).toList) == (((rd_T43 l1 x1_1).f0).toList)) || (!(((rd_T43 l0 x1_1).f1) == ((rd_T43 l1 x1_1).f1)) || (!(((rd_T43 l0 x1_1).f2) == ((rd_T43 l1 x1_1).f2)) || (!(((rd_T43 l0 x1_1).f3) == ((rd_T43 l1 x1_1).f3)))))) = true
        ·rw [if_pos c7] at H; have c1b0 : (!((((rd_T43 l0 x1_1).f0).toList) == (((rd_T43 l1 x1_1).f0).toList)) || (!(((rd_T43 l0 x1_1).f1) == ((rd_T43 l1 x1_1).f1)) || (!(((rd_T43 l0 x1_1).f2) == ((rd_T43 l1 x1_1).f2)) || (!(((rd_T43 l0 x1_1).f3) == ((rd_T43 l1 x1_1).f3)))))) = true := c7; clear c7; obtain rfl := Option.some.inj H; have p1 : 0 ≤ (x1_1 : Int) := zod; have q1 : x1_1 < (l0.length : Int) := zod; obtain ⟨ad1, e1, hx1_0, hx1_1, hx1_2, hx1_3⟩ := at_T43 HR1.out x1_1 p1 q1; cases e1; replace p1 := eq_true p1; replace q1 := eq_true q1; have p1 : 0 ≤ (x1_1 : Int) := zod; have q1 : x1_1 < (l1.length : Int) := zod; obtain ⟨ad1, e1, hx1_0, hx1_1, hx1_2, hx1_3⟩ := at_T43 HR2.out x1_1 p1 q1; cases e1; replace p1 := eq_true p1; replace q1 := eq_true q1; go_wp2
         repeat (go_quiet (fail); try go_wp2)
         go_ret
         exact ⟨q13z, q22z⟩
        ·rw [if_neg c7] at H; have c1b0 : (!((((rd_T43 l0 x1_1).f0).toList) == (((rd_T43 l1 x1_1).f0).toList)) || (!(((rd_T43 l0 x1_1).f1) == ((rd_T43 l1 x1_1).f1)) || (!(((rd_T43 l0 x1_1).f2) == ((rd_T43 l1 x1_1).f2)) || (!(((rd_T43 l0 x1_1).f3) == ((rd_T43 l1 x1_1).f3)))))) = false := by simpa using c7
         clear c7; have H' := aM H; clear H; have p1 : 0 ≤ (x1_1 : Int) := zod; have q1 : x1_1 < (l0.length : Int) := zod; obtain ⟨ad1, e1, hx1_0, hx1_1, hx1_2, hx1_3⟩ := at_T43 HR1.out x1_1 p1 q1; cases e1; replace p1 := eq_true p1; replace q1 := eq_true q1; have p1 : 0 ≤ (x1_1 : Int) := zod; have q1 : x1_1 < (l1.length : Int) := zod; obtain ⟨ad1, e1, hx1_0, hx1_1, hx1_2, hx1_3⟩ := at_T43 HR2.out x1_1 p1 q1; cases e1; replace p1 := eq_true p1; replace q1 := eq_true q1; go_wp2
         repeat (go_quiet (fail); try go_wp2)
         go_roundg k1
         case measure => have := HK1.out; omega
         case rel => exact ⟨(wrap64 (x1_1 + 1)), q13z, H', ⟨by have := HK1.out; omega⟩, q22z⟩
       ·rw [if_neg c6] at H; exact absurd H (by simp)
      ·rw [if_neg c5] at H; exact absurd H (by simp)
     ·rw [if_neg c4] at H; exact absurd H (by simp)
    ·rw [if_neg c3] at H; have c1b0 := decide_eq_false c3; clear c3; obtain rfl := Option.some.inj H; go_wp2
     repeat (go_quiet (fail); try go_wp2)
     go_ret
     exact ⟨q13z, q22z⟩
 ·rw [if_neg c2] at H; obtain ⟨c1b0, c1b1⟩ := zne c2; have c1b2 : (l0.length == l1.length) = false := by first | simpa using c2 | (simp at c2 ⊢; omega)
  obtain rfl := Option.some.inj H; go_enter Try.func42, Try.ntmps42
  go_wp2
  repeat (go_quiet (fail); try go_wp2)
  go_ret
  exact ⟨q13z, q22z⟩
end Go.Proofs.Yteblbknmikieoaa.Xb
namespace Go.Proofs.Yteblbknmikieoaa.Xb
open Go.RowKit Go.Proofs.YteblbknmikieoaaW.PrintWords Go.Proofs.YteblbknmikieoaaW.PrintLast Go.Proofs.YteblbknmikieoaaW.PrintMore
attribute [local go_sem] max2_int min2_int max_two min_two max_three min_three max_four min_four
set_option linter.unusedVariables false
set_option linter.unusedSimpArgs false
attribute [local go_sem high] eqA61
def api_Prop.l0 : Nat → List (S61) → List (S61) → Int → Int → Option (Bool)
 | 0, _, _, _, _ => none
 | k + 1, x0, x1, x12, x13 => if x13 < x12 then (if 0 ≤ x13 then (if x13 < (x0.length : Int) then (if x13 < (x1.length : Int) then (if (!(((rd_T61 x0 x13).f0) == ((rd_T61 x1 x13).f0)) || (!((((rd_T61 x0 x13).f1).toList) == (((rd_T61 x1 x13).f1).toList)) || (!(((rd_T61 x0 x13).f2) == ((rd_T61 x1 x13).f2))))) = true then (some false) else (api_Prop.l0 k x0 x1 x12 (wrap64 (x13 + 1)))) else (none)) else (none)) else (none)) else (some true)
def api_Prop.f (k : Nat) (l0 : List (S61)) (l1 : List (S61)) : Option (Bool) := if (l0.length : Int) = (l1.length : Int) then (api_Prop.l0 k l0 l1 (l0.length : Int) 0) else (some false)
theorem api_Prop.mono_l : ∀ k, (∀ y0 y1 y2 y3, LeO (api_Prop.l0 k y0 y1 y2 y3) (api_Prop.l0 (k + 1) y0 y1 y2 y3))
 | 0 => fun _ _ _ _ r h => by simp [api_Prop.l0] at h
 | k + 1 => by
  have ih0 := api_Prop.mono_l k
  ·intro y0 y1 y2 y3
   unfold api_Prop.l0
   repeat' first
   | (with_reducible exact ih0 _ _ _ _)
   | (with_reducible exact LeO.refl _)
   | (with_reducible exact LeO.none _)
   | (with_reducible refine LeO.ite ?_ ?_)
   | (with_reducible refine LeO.bind ?_ (fun _ => ?_))
   | exact ih0 _ _ _ _
   | exact LeO.none _
   | refine LeO.ite ?_ ?_
   | refine LeO.bind ?_ (fun _ => ?_)
theorem api_Prop.mono : ∀ a0 a1 k, LeO (api_Prop.f k a0 a1) (api_Prop.f (k + 1) a0 a1) := by
 intro a0 a1 k
 have ih1 := api_Prop.mono_l k; unfold api_Prop.f
 repeat' first
   | (with_reducible exact ih1 _ _ _ _)
   | (with_reducible exact LeO.refl _)
   | (with_reducible exact LeO.none _)
   | (with_reducible refine LeO.ite ?_ ?_)
   | (with_reducible refine LeO.bind ?_ (fun _ => ?_))
   | exact ih1 _ _ _ _
   | exact LeO.none _
   | refine LeO.ite ?_ ?_
   | refine LeO.bind ?_ (fun _ => ?_)
set_option maxHeartbeats 8000000 in
set_option maxRecDepth 100000 in
theorem api_Prop.calls (k : Nat) (A0 : Option Addr) (c0 : Nat) (l0 : List (S61)) (A1 : Option Addr) (c1 : Nat) (l1 : List (S61)) (r : Bool) (w : World) (hr0 : Kd.C k61 w A0 l0.length l0) (hc0 : l0.length ≤ c0) (hr1 : Kd.C k61 w A1 l1.length l1) (hc1 : l1.length ≤ c1) (h : api_Prop.f k l0 l1 = some r) :
  Calls Try.prog 43 #[.slice A0 l0.length c0, .slice A1 l1.length c1] w fun e w' => e = .returned (.bool r) ∧ Drawn0 w w' := by
 have hu1 := Try.underlying61; have HR1 := aM hr0; have HC1 := aM hc0; clear hr0 hc0; have HR2 := aM hr1; have HC1 := aM hc1; clear hr1 hc1; have H : (if (l0.length : Int) = (l1.length : Int) then (api_Prop.l0 k l0 l1 (l0.length : Int) 0) else (some false)) = some r := h; clear h; by_cases c2 : (l0.length : Int) = (l1.length : Int)
 ·rw [if_pos c2] at H; obtain ⟨c1b0, c1b1⟩ := zeq c2; have c1b2 : (l0.length == l1.length) = true := by first | simpa using c2 | (simp at c2 ⊢; omega)
  clear c2; have H' := aM H; clear H; go_enter Try.func43, Try.ntmps43
  go_wp2
  repeat (go_quiet (fail); try go_wp2)
  go_loopg [13] k (fun kq v1 w' => ∃ (x1_1 : Int), v1 = .int .i64 x1_1 ∧ Aside0 (api_Prop.l0 kq l0 l1 (l0.length : Int) x1_1 = some r) ∧ Aside0 (kq ≤ k) ∧ Drawn0 w w')
  case atStart => exact ⟨(0), q13z, H', ⟨Nat.le_refl _⟩, q22z⟩
  case round =>
   clear H'; try clear c1
   try clear p2
   try clear c2
   try clear c1b0
   try clear c1b1
   try clear c1b2
   obtain ⟨x1_1, rfl, HA, HK1, ⟨m1, rfl⟩⟩ := hrel; cases gk with
   | zero => exact absurd HA.out (by simp [api_Prop.l0])
   | succ k1 =>
    have H := HA.out; clear HA; simp only [api_Prop.l0] at H; by_cases c3 : x1_1 < (l0.length : Int)
    ·rw [if_pos c3] at H; have c1b0 := decide_eq_true c3; clear c3; by_cases c4 : 0 ≤ x1_1
     ·rw [if_pos c4] at H; have c1b0 := decide_eq_true c4; clear c4; by_cases c5 : x1_1 < (l0.length : Int)
      ·rw [if_pos c5] at H; have c1b0 := decide_eq_true c5; clear c5; by_cases c6 : x1_1 < (l1.length : Int)
       ·rw [if_pos c6] at H; have c1b0 := decide_eq_true c6; clear c6; by_cases c7 : (!(((rd_T61 l0 x1_1).f0) == ((rd_T61 l1 x1_1).f0)) || (!((((rd_T61 l0 x1_1).f1).toList) == (((rd_T61 l1 x1_1).f1).toList)) || (!(((rd_T61 l0 x1_1).f2) == ((rd_T61 l1 x1_1).f2))))) = true
        ·rw [if_pos c7] at H; have c1b0 : (!(((rd_T61 l0 x1_1).f0) == ((rd_T61 l1 x1_1).f0)) || (!((((rd_T61 l0 x1_1).f1).toList) == (((rd_T61 l1 x1_1).f1).toList)) || (!(((rd_T61 l0 x1_1).f2) == ((rd_T61 l1 x1_1).f2))))) = true := c7; clear c7; obtain rfl := Option.some.inj H; have p1 : 0 ≤ (x1_1 : Int) := zod; have q1 : x1_1 < (l0.length : Int) := zod; obtain ⟨ad1, e1, hx1_0, hx1_1, hx1_2⟩ := at_T61 HR1.out x1_1 p1 q1; cases e1; replace p1 := eq_true p1; replace q1 := eq_true q1; have p1 : 0 ≤ (x1_1 : Int) := zod; have q1 : x1_1 < (l1.length : Int) := zod; obtain ⟨ad1, e1, hx1_0, hx1_1, hx1_2⟩ := at_T61 HR2.out x1_1 p1 q1; cases e1; replace p1 := eq_true p1; replace q1 := eq_true q1; go_wp2
         repeat (go_quiet (fail); try go_wp2)
         go_ret
         exact ⟨q13z, q22z⟩
        ·rw [if_neg c7] at H; have c1b0 : (!(((rd_T61 l0 x1_1).f0) == ((rd_T61 l1 x1_1).f0)) || (!((((rd_T61 l0 x1_1).f1).toList) == (((rd_T61 l1 x1_1).f1).toList)) || (!(((rd_T61 l0 x1_1).f2) == ((rd_T61 l1 x1_1).f2))))) = false := by simpa using c7
         clear c7; have H' := aM H; clear H; have p1 : 0 ≤ (x1_1 : Int) := zod; have q1 : x1_1 < (l0.length : Int) := zod; obtain ⟨ad1, e1, hx1_0, hx1_1, hx1_2⟩ := at_T61 HR1.out x1_1 p1 q1; cases e1; replace p1 := eq_true p1; replace q1 := eq_true q1; have p1 : 0 ≤ (x1_1 : Int) := zod; have q1 : x1_1 < (l1.length : Int) := zod; obtain ⟨ad1, e1, hx1_0, hx1_1, hx1_2⟩ := at_T61 HR2.out x1_1 p1 q1; cases e1; replace p1 := eq_true p1; replace q1 := eq_true q1; go_wp2
         repeat (go_quiet (fail); try go_wp2)
         go_roundg k1
         case measure => have := HK1.out; omega
         case rel => exact ⟨(wrap64 (x1_1 + 1)), q13z, H', ⟨by have := HK1.out; omega⟩, q22z⟩
       ·rw [if_neg c6] at H; exact absurd H (by simp)
      ·rw [if_neg c5] at H; exact absurd H (by simp)
     ·rw [if_neg c4] at H; exact absurd H (by simp)
    ·rw [if_neg c3] at H; have c1b0 := decide_eq_false c3; clear c3; obtain rfl := Option.some.inj H; go_wp2
     repeat (go_quiet (fail); try go_wp2)
     go_ret
     exact ⟨q13z, q22z⟩
 ·rw [if_neg c2] at H; obtain ⟨c1b0, c1b1⟩ := zne c2; have c1b2 : (l0.length == l1.length) = false := by first | simpa using c2 | (simp at c2 ⊢; omega)
  obtain rfl := Option.some.inj H; go_enter Try.func43, Try.ntmps43
  go_wp2
  repeat (go_quiet (fail); try go_wp2)
  go_ret
  exact ⟨q13z, q22z⟩
end Go.Proofs.Yteblbknmikieoaa.Xb
namespace Go.Proofs.Yteblbknmikieoaa.Xb
open Go.RowKit Go.Proofs.YteblbknmikieoaaW.PrintWords Go.Proofs.YteblbknmikieoaaW.PrintLast Go.Proofs.YteblbknmikieoaaW.PrintMore
attribute [local go_sem] max2_int min2_int max_two min_two max_three min_three max_four min_four
set_option linter.unusedVariables false
set_option linter.unusedSimpArgs false
theorem cells5_55 {w : World} {g : Nat} {t : TypeId} {x0 x1 x2 x3 x4 : Value} (h : w.heap[g]? = some (.cells #[x0, x1, x2, x3, x4] t (0, 0))) : w.cell? ⟨g, 0, none⟩ = some x0 ∧ w.cell? ⟨g, 1, none⟩ = some x1 ∧ w.cell? ⟨g, 2, none⟩ = some x2 ∧ w.cell? ⟨g, 3, none⟩ = some x3 ∧ w.cell? ⟨g, 4, none⟩ = some x4 ∧ w.frozen? ⟨g, 0, none⟩ = false ∧ w.frozen? ⟨g, 1, none⟩ = false ∧ w.frozen? ⟨g, 2, none⟩ = false ∧ w.frozen? ⟨g, 3, none⟩ = false ∧ w.frozen? ⟨g, 4, none⟩ = false := ⟨(blk_cell h 0).trans rfl, (blk_cell h 1).trans rfl, (blk_cell h 2).trans rfl, (blk_cell h 3).trans rfl, (blk_cell h 4).trans rfl, blk_frozen h 0, blk_frozen h 1, blk_frozen h 2, blk_frozen h 3, blk_frozen h 4⟩
def net_Same.f (k : Nat) (l0_0 : List (S41)) (l0_1 : List (S47)) (l0_2 : List (S43)) (l0_3 : List (S61)) (l0_4 : List (S47)) (l1_0 : List (S41)) (l1_1 : List (S47)) (l1_2 : List (S43)) (l1_3 : List (S61)) (l1_4 : List (S47)) : Option (Bool) := (api_Node.f k l0_0 l1_0).bind fun t199 => (if t199 = true then ((api_Pin_41.f k l0_1 l1_1).bind fun t200 => (if t200 = true then ((api_Cell.f k l0_2 l1_2).bind fun t201 => (if t201 = true then ((api_Prop.f k l0_3 l1_3).bind fun t202 => (if t202 = true then ((api_Pin_41.f k l0_4 l1_4).bind fun t203 => (some t203)) else (some false))) else (some false))) else (some false))) else (some false))
theorem net_Same.mono : ∀ a0 a1 a2 a3 a4 a5 a6 a7 a8 a9 k, LeO (net_Same.f k a0 a1 a2 a3 a4 a5 a6 a7 a8 a9) (net_Same.f (k + 1) a0 a1 a2 a3 a4 a5 a6 a7 a8 a9) := by
 intro a0 a1 a2 a3 a4 a5 a6 a7 a8 a9 k
 unfold net_Same.f
 repeat' first
   | (with_reducible exact api_Cell.mono _ _ _)
   | (with_reducible exact api_Node.mono _ _ _)
   | (with_reducible exact api_Pin_41.mono _ _ _)
   | (with_reducible exact api_Prop.mono _ _ _)
   | (with_reducible exact LeO.refl _)
   | (with_reducible exact LeO.none _)
   | (with_reducible refine LeO.ite ?_ ?_)
   | (with_reducible refine LeO.bind ?_ (fun _ => ?_))
   | exact api_Cell.mono _ _ _
   | exact api_Node.mono _ _ _
   | exact api_Pin_41.mono _ _ _
   | exact api_Prop.mono _ _ _
   | exact LeO.none _
   | refine LeO.ite ?_ ?_
   | refine LeO.bind ?_ (fun _ => ?_)
set_option maxHeartbeats 8000000 in
set_option maxRecDepth 100000 in
theorem net_Same.calls (k : Nat) (A0_0 : Option Addr) (c0_0 : Nat) (l0_0 : List (S41)) (A0_1 : Option Addr) (c0_1 : Nat) (l0_1 : List (S47)) (A0_2 : Option Addr) (c0_2 : Nat) (l0_2 : List (S43)) (A0_3 : Option Addr) (c0_3 : Nat) (l0_3 : List (S61)) (A0_4 : Option Addr) (c0_4 : Nat) (l0_4 : List (S47)) (A1_0 : Option Addr) (c1_0 : Nat) (l1_0 : List (S41)) (A1_1 : Option Addr) (c1_1 : Nat) (l1_1 : List (S47)) (A1_2 : Option Addr) (c1_2 : Nat) (l1_2 : List (S43)) (A1_3 : Option Addr) (c1_3 : Nat) (l1_3 : List (S61)) (A1_4 : Option Addr) (c1_4 : Nat) (l1_4 : List (S47)) (r : Bool) (w : World) (hr0_0 : Kd.C k41 w A0_0 l0_0.length l0_0) (hc0_0 : l0_0.length ≤ c0_0) (hr0_1 : Kd.C k47 w A0_1 l0_1.length l0_1) (hc0_1 : l0_1.length ≤ c0_1) (hr0_2 : Kd.C k43 w A0_2 l0_2.length l0_2) (hc0_2 : l0_2.length ≤ c0_2) (hr0_3 : Kd.C k61 w A0_3 l0_3.length l0_3) (hc0_3 : l0_3.length ≤ c0_3) (hr0_4 : Kd.C k47 w A0_4 l0_4.length l0_4) (hc0_4 : l0_4.length ≤ c0_4) (hr1_0 : Kd.C k41 w A1_0 l1_0.length l1_0) (hc1_0 : l1_0.length ≤ c1_0) (hr1_1 : Kd.C k47 w A1_1 l1_1.length l1_1) (hc1_1 : l1_1.length ≤ c1_1) (hr1_2 : Kd.C k43 w A1_2 l1_2.length l1_2) (hc1_2 : l1_2.length ≤ c1_2) (hr1_3 : Kd.C k61 w A1_3 l1_3.length l1_3) (hc1_3 : l1_3.length ≤ c1_3) (hr1_4 : Kd.C k47 w A1_4 l1_4.length l1_4) (hc1_4 : l1_4.length ≤ c1_4) (h : net_Same.f k l0_0 l0_1 l0_2 l0_3 l0_4 l1_0 l1_1 l1_2 l1_3 l1_4 = some r) :
  Calls Try.prog 14 #[.agg #[.slice A0_0 l0_0.length c0_0, .slice A0_1 l0_1.length c0_1, .slice A0_2 l0_2.length c0_2, .slice A0_3 l0_3.length c0_3, .slice A0_4 l0_4.length c0_4], .agg #[.slice A1_0 l1_0.length c1_0, .slice A1_1 l1_1.length c1_1, .slice A1_2 l1_2.length c1_2, .slice A1_3 l1_3.length c1_3, .slice A1_4 l1_4.length c1_4]] w fun e w' => e = .returned (.bool r) ∧ Below w.heap.size w w' := by
 have hu1 := Try.underlying27; have HR1_0 := aM hr0_0; have HC1_0 := aM hc0_0; clear hr0_0 hc0_0; have HR1_1 := aM hr0_1; have HC1_1 := aM hc0_1; clear hr0_1 hc0_1; have HR1_2 := aM hr0_2; have HC1_2 := aM hc0_2; clear hr0_2 hc0_2; have HR1_3 := aM hr0_3; have HC1_3 := aM hc0_3; clear hr0_3 hc0_3; have HR1_4 := aM hr0_4; have HC1_4 := aM hc0_4; clear hr0_4 hc0_4; have HR2_0 := aM hr1_0; have HC2_0 := aM hc1_0; clear hr1_0 hc1_0; have HR2_1 := aM hr1_1; have HC2_1 := aM hc1_1; clear hr1_1 hc1_1; have HR2_2 := aM hr1_2; have HC2_2 := aM hc1_2; clear hr1_2 hc1_2; have HR2_3 := aM hr1_3; have HC2_3 := aM hc1_3; clear hr1_3 hc1_3; have HR2_4 := aM hr1_4; have HC2_4 := aM hc1_4; clear hr1_4 hc1_4; have HB := aM (Below.refl w.heap.size w); have H : ((api_Node.f k l0_0 l1_0).bind fun t1 => (if t1 = true then ((api_Pin_41.f k l0_1 l1_1).bind fun t2 => (if t2 = true then ((api_Cell.f k l0_2 l1_2).bind fun t3 => (if t3 = true then ((api_Prop.f k l0_3 l1_3).bind fun t4 => (if t4 = true then ((api_Pin_41.f k l0_4 l1_4).bind fun t5 => (some t5)) else (some false))) else (some false))) else (some false))) else (some false))) = some r := h; clear h; replace H := Option.bind_eq_some_iff.mp H; obtain ⟨t1, A1, H⟩ := H; have A2 := aM A1; clear A1; by_cases c1 : t1 = true
 ·subst c1; have H1 : ((api_Pin_41.f k l0_1 l1_1).bind fun t2 => (if t2 = true then ((api_Cell.f k l0_2 l1_2).bind fun t3 => (if t3 = true then ((api_Prop.f k l0_3 l1_3).bind fun t4 => (if t4 = true then ((api_Pin_41.f k l0_4 l1_4).bind fun t5 => (some t5)) else (some false))) else (some false))) else (some false))) = some r := by rw [if_pos rfl] at H; exact H
  clear H; have H := H1; clear H1; replace H := Option.bind_eq_some_iff.mp H; obtain ⟨t2, A1, H⟩ := H; have A3 := aM A1; clear A1; by_cases c2 : t2 = true
  ·subst c2; have H1 : ((api_Cell.f k l0_2 l1_2).bind fun t3 => (if t3 = true then ((api_Prop.f k l0_3 l1_3).bind fun t4 => (if t4 = true then ((api_Pin_41.f k l0_4 l1_4).bind fun t5 => (some t5)) else (some false))) else (some false))) = some r := by rw [if_pos rfl] at H; exact H
   clear H; have H := H1; clear H1; replace H := Option.bind_eq_some_iff.mp H; obtain ⟨t3, A1, H⟩ := H; have A4 := aM A1; clear A1; by_cases c3 : t3 = true
   ·subst c3; have H1 : ((api_Prop.f k l0_3 l1_3).bind fun t4 => (if t4 = true then ((api_Pin_41.f k l0_4 l1_4).bind fun t5 => (some t5)) else (some false))) = some r := by rw [if_pos rfl] at H; exact H
    clear H; have H := H1; clear H1; replace H := Option.bind_eq_some_iff.mp H; obtain ⟨t4, A1, H⟩ := H; have A5 := aM A1; clear A1; by_cases c4 : t4 = true
    ·subst c4; have H1 : ((api_Pin_41.f k l0_4 l1_4).bind fun t5 => (some t5)) = some r := by rw [if_pos rfl] at H; exact H
     clear H; have H := H1; clear H1; replace H := Option.bind_eq_some_iff.mp H; obtain ⟨t5, A1, H⟩ := H; have A6 := aM A1; clear A1; obtain rfl := Option.some.inj H; go_enter Try.func14, Try.ntmps14
     go_wp2_with (first | ((with_reducible refine zgd 2 rfl ?_); refine zbox 2 #[.slice A0_0 l0_0.length c0_0, .slice A0_1 l0_1.length c0_1, .slice A0_2 l0_2.length c0_2, .slice A0_3 l0_3.length c0_3, .slice A0_4 l0_4.length c0_4] 27 ?_; intro gb1 hg w1 hbox hb; have BK1 := aM (hbox); have GW1 := aM ((q7z HB : w.heap.size ≤ gb1)); have GE1 := aM ((q7z HB : w.heap.size ≤ gb1)); replace HB := aM (ym (q4z HB) hb); clear hb hbox hg) | ((with_reducible refine zgd 3 rfl ?_); refine zbox 3 #[.slice A1_0 l1_0.length c1_0, .slice A1_1 l1_1.length c1_1, .slice A1_2 l1_2.length c1_2, .slice A1_3 l1_3.length c1_3, .slice A1_4 l1_4.length c1_4] 27 ?_; intro gb2 hg w2 hbox hb; have BK2 := aM (hbox); have GW2 := aM ((q14z HB GE1 : w.heap.size ≤ gb2)); have GE2 := aM ((q14z HB GE1 : w.heap.size ≤ gb2)); replace HB := aM (ym (q3z HB GE1) hb); have NB1_198 := aM ((q38z BK1 : gb1 ≠ gb2)); have NB1_197 := aM ((q39z BK1 : gb2 ≠ gb1)); replace BK1 := aM (yi (zi BK1) hb); clear hb hbox hg; have hnb1 := NB1_198.out; have hnc1 := NB1_197.out; obtain ⟨i1_0, i1_1, i1_2, i1_3, i1_4, j1_0, j1_1, j1_2, j1_3, j1_4⟩ := cells5_55 BK1.out; obtain ⟨i2_0, i2_1, i2_2, i2_3, i2_4, j2_0, j2_1, j2_2, j2_3, j2_4⟩ := cells5_55 BK2.out) | ((with_reducible refine zgc 40 rfl ?_); refine zgl (some 9) Try.func40 #[.slice A0_0 l0_0.length c0_0, .slice A1_0 l1_0.length c1_0] ?_; (with_reducible refine (api_Node.calls k _ _ l0_0 _ _ l1_0 true _ ?side1 ?side2 ?side3 ?side4 A2.out).mono ?_); (case side1 => exact q1z HR1_0 HB); (case side2 => exact HC1_0.out); (case side3 => exact q1z HR2_0 HB); (case side4 => exact HC2_0.out); rintro e w' ⟨rfl, ⟨nd, rfl⟩⟩; refine ⟨_, rfl, ?_⟩) | (go_at_call 41; (with_reducible refine (api_Pin_41.calls k _ _ l0_1 _ _ l1_1 true _ ?side1 ?side2 ?side3 ?side4 A3.out).mono ?_); (case side1 => exact q17z HR1_1 HB GE1 GE2); (case side2 => exact HC1_1.out); (case side3 => exact q17z HR2_1 HB GE1 GE2); (case side4 => exact HC2_1.out); rintro e w' ⟨rfl, ⟨nd, rfl⟩⟩) | (go_at_call 42; (with_reducible refine (api_Cell.calls k _ _ l0_2 _ _ l1_2 true _ ?side1 ?side2 ?side3 ?side4 A4.out).mono ?_); (case side1 => exact q17z HR1_2 HB GE1 GE2); (case side2 => exact HC1_2.out); (case side3 => exact q17z HR2_2 HB GE1 GE2); (case side4 => exact HC2_2.out); rintro e w' ⟨rfl, ⟨nd, rfl⟩⟩) | (go_at_call 43; (with_reducible refine (api_Prop.calls k _ _ l0_3 _ _ l1_3 true _ ?side1 ?side2 ?side3 ?side4 A5.out).mono ?_); (case side1 => exact q17z HR1_3 HB GE1 GE2); (case side2 => exact HC1_3.out); (case side3 => exact q17z HR2_3 HB GE1 GE2); (case side4 => exact HC2_3.out); rintro e w' ⟨rfl, ⟨nd, rfl⟩⟩) | (go_at_call 41; (with_reducible refine (api_Pin_41.calls k _ _ l0_4 _ _ l1_4 t5 _ ?side1 ?side2 ?side3 ?side4 A6.out).mono ?_); (case side1 => exact q17z HR1_4 HB GE1 GE2); (case side2 => exact HC1_4.out); (case side3 => exact q17z HR2_4 HB GE1 GE2); (case side4 => exact HC2_4.out); rintro e w' ⟨rfl, ⟨nd, rfl⟩⟩))
     go_ret
     exact ⟨q11z, q5z HB GE1 GE2⟩
    ·replace c4 := Bool.eq_false_iff.mpr c4; subst c4; have H1 : (some false) = some r := by rw [if_neg (show ¬ (false = true) by decide)] at H; exact H
     clear H; have H := H1; clear H1; obtain rfl := Option.some.inj H; go_enter Try.func14, Try.ntmps14
     go_wp2_with (first | ((with_reducible refine zgd 2 rfl ?_); refine zbox 2 #[.slice A0_0 l0_0.length c0_0, .slice A0_1 l0_1.length c0_1, .slice A0_2 l0_2.length c0_2, .slice A0_3 l0_3.length c0_3, .slice A0_4 l0_4.length c0_4] 27 ?_; intro gb1 hg w1 hbox hb; have BK1 := aM (hbox); have GW1 := aM ((q7z HB : w.heap.size ≤ gb1)); have GE1 := aM ((q7z HB : w.heap.size ≤ gb1)); replace HB := aM (ym (q4z HB) hb); clear hb hbox hg) | ((with_reducible refine zgd 3 rfl ?_); refine zbox 3 #[.slice A1_0 l1_0.length c1_0, .slice A1_1 l1_1.length c1_1, .slice A1_2 l1_2.length c1_2, .slice A1_3 l1_3.length c1_3, .slice A1_4 l1_4.length c1_4] 27 ?_; intro gb2 hg w2 hbox hb; have BK2 := aM (hbox); have GW2 := aM ((q14z HB GE1 : w.heap.size ≤ gb2)); have GE2 := aM ((q14z HB GE1 : w.heap.size ≤ gb2)); replace HB := aM (ym (q3z HB GE1) hb); have NB1_198 := aM ((q38z BK1 : gb1 ≠ gb2)); have NB1_197 := aM ((q39z BK1 : gb2 ≠ gb1)); replace BK1 := aM (yi (zi BK1) hb); clear hb hbox hg; have hnb1 := NB1_198.out; have hnc1 := NB1_197.out; obtain ⟨i1_0, i1_1, i1_2, i1_3, i1_4, j1_0, j1_1, j1_2, j1_3, j1_4⟩ := cells5_55 BK1.out; obtain ⟨i2_0, i2_1, i2_2, i2_3, i2_4, j2_0, j2_1, j2_2, j2_3, j2_4⟩ := cells5_55 BK2.out) | ((with_reducible refine zgc 40 rfl ?_); refine zgl (some 9) Try.func40 #[.slice A0_0 l0_0.length c0_0, .slice A1_0 l1_0.length c1_0] ?_; (with_reducible refine (api_Node.calls k _ _ l0_0 _ _ l1_0 true _ ?side1 ?side2 ?side3 ?side4 A2.out).mono ?_); (case side1 => exact q1z HR1_0 HB); (case side2 => exact HC1_0.out); (case side3 => exact q1z HR2_0 HB); (case side4 => exact HC2_0.out); rintro e w' ⟨rfl, ⟨nd, rfl⟩⟩; refine ⟨_, rfl, ?_⟩) | (go_at_call 41; (with_reducible refine (api_Pin_41.calls k _ _ l0_1 _ _ l1_1 true _ ?side1 ?side2 ?side3 ?side4 A3.out).mono ?_); (case side1 => exact q17z HR1_1 HB GE1 GE2); (case side2 => exact HC1_1.out); (case side3 => exact q17z HR2_1 HB GE1 GE2); (case side4 => exact HC2_1.out); rintro e w' ⟨rfl, ⟨nd, rfl⟩⟩) | (go_at_call 42; (with_reducible refine (api_Cell.calls k _ _ l0_2 _ _ l1_2 true _ ?side1 ?side2 ?side3 ?side4 A4.out).mono ?_); (case side1 => exact q17z HR1_2 HB GE1 GE2); (case side2 => exact HC1_2.out); (case side3 => exact q17z HR2_2 HB GE1 GE2); (case side4 => exact HC2_2.out); rintro e w' ⟨rfl, ⟨nd, rfl⟩⟩) | (go_at_call 43; (with_reducible refine (api_Prop.calls k _ _ l0_3 _ _ l1_3 false _ ?side1 ?side2 ?side3 ?side4 A5.out).mono ?_); (case side1 => exact q17z HR1_3 HB GE1 GE2); (case side2 => exact HC1_3.out); (case side3 => exact q17z HR2_3 HB GE1 GE2); (case side4 => exact HC2_3.out); rintro e w' ⟨rfl, ⟨nd, rfl⟩⟩))
     go_ret
     exact ⟨q11z, q5z HB GE1 GE2⟩
   ·replace c3 := Bool.eq_false_iff.mpr c3; subst c3; have H1 : (some false) = some r := by rw [if_neg (show ¬ (false = true) by decide)] at H; exact H
    clear H; have H := H1; clear H1; obtain rfl := Option.some.inj H; go_enter Try.func14, Try.ntmps14
    go_wp2_with (first | ((with_reducible refine zgd 2 rfl ?_); refine zbox 2 #[.slice A0_0 l0_0.length c0_0, .slice A0_1 l0_1.length c0_1, .slice A0_2 l0_2.length c0_2, .slice A0_3 l0_3.length c0_3, .slice A0_4 l0_4.length c0_4] 27 ?_; intro gb1 hg w1 hbox hb; have BK1 := aM (hbox); have GW1 := aM ((q7z HB : w.heap.size ≤ gb1)); have GE1 := aM ((q7z HB : w.heap.size ≤ gb1)); replace HB := aM (ym (q4z HB) hb); clear hb hbox hg) | ((with_reducible refine zgd 3 rfl ?_); refine zbox 3 #[.slice A1_0 l1_0.length c1_0, .slice A1_1 l1_1.length c1_1, .slice A1_2 l1_2.length c1_2, .slice A1_3 l1_3.length c1_3, .slice A1_4 l1_4.length c1_4] 27 ?_; intro gb2 hg w2 hbox hb; have BK2 := aM (hbox); have GW2 := aM ((q14z HB GE1 : w.heap.size ≤ gb2)); have GE2 := aM ((q14z HB GE1 : w.heap.size ≤ gb2)); replace HB := aM (ym (q3z HB GE1) hb); have NB1_198 := aM ((q38z BK1 : gb1 ≠ gb2)); have NB1_197 := aM ((q39z BK1 : gb2 ≠ gb1)); replace BK1 := aM (yi (zi BK1) hb); clear hb hbox hg; have hnb1 := NB1_198.out; have hnc1 := NB1_197.out; obtain ⟨i1_0, i1_1, i1_2, i1_3, i1_4, j1_0, j1_1, j1_2, j1_3, j1_4⟩ := cells5_55 BK1.out; obtain ⟨i2_0, i2_1, i2_2, i2_3, i2_4, j2_0, j2_1, j2_2, j2_3, j2_4⟩ := cells5_55 BK2.out) | ((with_reducible refine zgc 40 rfl ?_); refine zgl (some 9) Try.func40 #[.slice A0_0 l0_0.length c0_0, .slice A1_0 l1_0.length c1_0] ?_; (with_reducible refine (api_Node.calls k _ _ l0_0 _ _ l1_0 true _ ?side1 ?side2 ?side3 ?side4 A2.out).mono ?_); (case side1 => exact q1z HR1_0 HB); (case side2 => exact HC1_0.out); (case side3 => exact q1z HR2_0 HB); (case side4 => exact HC2_0.out); rintro e w' ⟨rfl, ⟨nd, rfl⟩⟩; refine ⟨_, rfl, ?_⟩) | (go_at_call 41; (with_reducible refine (api_Pin_41.calls k _ _ l0_1 _ _ l1_1 true _ ?side1 ?side2 ?side3 ?side4 A3.out).mono ?_); (case side1 => exact q17z HR1_1 HB GE1 GE2); (case side2 => exact HC1_1.out); (case side3 => exact q17z HR2_1 HB GE1 GE2); (case side4 => exact HC2_1.out); rintro e w' ⟨rfl, ⟨nd, rfl⟩⟩) | (go_at_call 42; (with_reducible refine (api_Cell.calls k _ _ l0_2 _ _ l1_2 false _ ?side1 ?side2 ?side3 ?side4 A4.out).mono ?_); (case side1 => exact q17z HR1_2 HB GE1 GE2); (case side2 => exact HC1_2.out); (case side3 => exact q17z HR2_2 HB GE1 GE2); (case side4 => exact HC2_2.out); rintro e w' ⟨rfl, ⟨nd, rfl⟩⟩))
    go_ret
    exact ⟨q11z, q5z HB GE1 GE2⟩
  ·replace c2 := Bool.eq_false_iff.mpr c2; subst c2; have H1 : (some false) = some r := by rw [if_neg (show ¬ (false = true) by decide)] at H; exact H
   clear H; have H := H1; clear H1; obtain rfl := Option.some.inj H; go_enter Try.func14, Try.ntmps14
   go_wp2_with (first | ((with_reducible refine zgd 2 rfl ?_); refine zbox 2 #[.slice A0_0 l0_0.length c0_0, .slice A0_1 l0_1.length c0_1, .slice A0_2 l0_2.length c0_2, .slice A0_3 l0_3.length c0_3, .slice A0_4 l0_4.length c0_4] 27 ?_; intro gb1 hg w1 hbox hb; have BK1 := aM (hbox); have GW1 := aM ((q7z HB : w.heap.size ≤ gb1)); have GE1 := aM ((q7z HB : w.heap.size ≤ gb1)); replace HB := aM (ym (q4z HB) hb); clear hb hbox hg) | ((with_reducible refine zgd 3 rfl ?_); refine zbox 3 #[.slice A1_0 l1_0.length c1_0, .slice A1_1 l1_1.length c1_1, .slice A1_2 l1_2.length c1_2, .slice A1_3 l1_3.length c1_3, .slice A1_4 l1_4.length c1_4] 27 ?_; intro gb2 hg w2 hbox hb; have BK2 := aM (hbox); have GW2 := aM ((q14z HB GE1 : w.heap.size ≤ gb2)); have GE2 := aM ((q14z HB GE1 : w.heap.size ≤ gb2)); replace HB := aM (ym (q3z HB GE1) hb); have NB1_198 := aM ((q38z BK1 : gb1 ≠ gb2)); have NB1_197 := aM ((q39z BK1 : gb2 ≠ gb1)); replace BK1 := aM (yi (zi BK1) hb); clear hb hbox hg; have hnb1 := NB1_198.out; have hnc1 := NB1_197.out; obtain ⟨i1_0, i1_1, i1_2, i1_3, i1_4, j1_0, j1_1, j1_2, j1_3, j1_4⟩ := cells5_55 BK1.out; obtain ⟨i2_0, i2_1, i2_2, i2_3, i2_4, j2_0, j2_1, j2_2, j2_3, j2_4⟩ := cells5_55 BK2.out) | ((with_reducible refine zgc 40 rfl ?_); refine zgl (some 9) Try.func40 #[.slice A0_0 l0_0.length c0_0, .slice A1_0 l1_0.length c1_0] ?_; (with_reducible refine (api_Node.calls k _ _ l0_0 _ _ l1_0 true _ ?side1 ?side2 ?side3 ?side4 A2.out).mono ?_); (case side1 => exact q1z HR1_0 HB); (case side2 => exact HC1_0.out); (case side3 => exact q1z HR2_0 HB); (case side4 => exact HC2_0.out); rintro e w' ⟨rfl, ⟨nd, rfl⟩⟩; refine ⟨_, rfl, ?_⟩) | (go_at_call 41; (with_reducible refine (api_Pin_41.calls k _ _ l0_1 _ _ l1_1 false _ ?side1 ?side2 ?side3 ?side4 A3.out).mono ?_); (case side1 => exact q17z HR1_1 HB GE1 GE2); (case side2 => exact HC1_1.out); (case side3 => exact q17z HR2_1 HB GE1 GE2); (case side4 => exact HC2_1.out); rintro e w' ⟨rfl, ⟨nd, rfl⟩⟩))
   go_ret
   exact ⟨q11z, q5z HB GE1 GE2⟩
 ·replace c1 := Bool.eq_false_iff.mpr c1; subst c1; have H1 : (some false) = some r := by rw [if_neg (show ¬ (false = true) by decide)] at H; exact H
  clear H; have H := H1; clear H1; obtain rfl := Option.some.inj H; go_enter Try.func14, Try.ntmps14
  go_wp2_with (first | ((with_reducible refine zgd 2 rfl ?_); refine zbox 2 #[.slice A0_0 l0_0.length c0_0, .slice A0_1 l0_1.length c0_1, .slice A0_2 l0_2.length c0_2, .slice A0_3 l0_3.length c0_3, .slice A0_4 l0_4.length c0_4] 27 ?_; intro gb1 hg w1 hbox hb; have BK1 := aM (hbox); have GW1 := aM ((q7z HB : w.heap.size ≤ gb1)); have GE1 := aM ((q7z HB : w.heap.size ≤ gb1)); replace HB := aM (ym (q4z HB) hb); clear hb hbox hg) | ((with_reducible refine zgd 3 rfl ?_); refine zbox 3 #[.slice A1_0 l1_0.length c1_0, .slice A1_1 l1_1.length c1_1, .slice A1_2 l1_2.length c1_2, .slice A1_3 l1_3.length c1_3, .slice A1_4 l1_4.length c1_4] 27 ?_; intro gb2 hg w2 hbox hb; have BK2 := aM (hbox); have GW2 := aM ((q14z HB GE1 : w.heap.size ≤ gb2)); have GE2 := aM ((q14z HB GE1 : w.heap.size ≤ gb2)); replace HB := aM (ym (q3z HB GE1) hb); have NB1_198 := aM ((q38z BK1 : gb1 ≠ gb2)); have NB1_197 := aM ((q39z BK1 : gb2 ≠ gb1)); replace BK1 := aM (yi (zi BK1) hb); clear hb hbox hg; have hnb1 := NB1_198.out; have hnc1 := NB1_197.out; obtain ⟨i1_0, i1_1, i1_2, i1_3, i1_4, j1_0, j1_1, j1_2, j1_3, j1_4⟩ := cells5_55 BK1.out; obtain ⟨i2_0, i2_1, i2_2, i2_3, i2_4, j2_0, j2_1, j2_2, j2_3, j2_4⟩ := cells5_55 BK2.out) | ((with_reducible refine zgc 40 rfl ?_); refine zgl (some 9) Try.func40 #[.slice A0_0 l0_0.length c0_0, .slice A1_0 l1_0.length c1_0] ?_; (with_reducible refine (api_Node.calls k _ _ l0_0 _ _ l1_0 false _ ?side1 ?side2 ?side3 ?side4 A2.out).mono ?_); (case side1 => exact q1z HR1_0 HB); (case side2 => exact HC1_0.out); (case side3 => exact q1z HR2_0 HB); (case side4 => exact HC2_0.out); rintro e w' ⟨rfl, ⟨nd, rfl⟩⟩; refine ⟨_, rfl, ?_⟩))
  go_ret
  exact ⟨q11z, q5z HB GE1 GE2⟩
end Go.Proofs.Yteblbknmikieoaa.Xb
namespace Go.Proofs.Yteblbknmikieoaa.Xb
open Go.RowKit Go.Proofs.YteblbknmikieoaaW.PrintWords Go.Proofs.YteblbknmikieoaaW.PrintLast Go.Proofs.YteblbknmikieoaaW.PrintMore
attribute [local go_sem] max2_int min2_int max_two min_two max_three min_three max_four min_four
set_option linter.unusedVariables false
set_option linter.unusedSimpArgs false
def r4_SameInts.l0 : Nat → List Int → List Int → Int → Option (Bool)
 | 0, _, _, _ => none
 | k + 1, x0, x1, x5 => if x5 < (x0.length : Int) then (if 0 ≤ x5 then (if x5 < (x1.length : Int) then (if (rd x0 x5) = (rd x1 x5) then (r4_SameInts.l0 k x0 x1 (wrap64 (x5 + 1))) else (some false)) else (none)) else (none)) else (some true)
def r4_SameInts.f (k : Nat) (l0 : List Int) (l1 : List Int) : Option (Bool) := if (l0.length : Int) = (l1.length : Int) then (r4_SameInts.l0 k l0 l1 0) else (some false)
theorem r4_SameInts.mono_l : ∀ k, (∀ y0 y1 y2, LeO (r4_SameInts.l0 k y0 y1 y2) (r4_SameInts.l0 (k + 1) y0 y1 y2))
 | 0 => fun _ _ _ r h => by simp [r4_SameInts.l0] at h
 | k + 1 => by
  have ih0 := r4_SameInts.mono_l k
  ·intro y0 y1 y2
   unfold r4_SameInts.l0
   repeat' first
   | (with_reducible exact ih0 _ _ _)
   | (with_reducible exact LeO.refl _)
   | (with_reducible exact LeO.none _)
   | (with_reducible refine LeO.ite ?_ ?_)
   | (with_reducible refine LeO.bind ?_ (fun _ => ?_))
   | exact ih0 _ _ _
   | exact LeO.none _
   | refine LeO.ite ?_ ?_
   | refine LeO.bind ?_ (fun _ => ?_)
theorem r4_SameInts.mono : ∀ a0 a1 k, LeO (r4_SameInts.f k a0 a1) (r4_SameInts.f (k + 1) a0 a1) := by
 intro a0 a1 k
 have ih1 := r4_SameInts.mono_l k; unfold r4_SameInts.f
 repeat' first
   | (with_reducible exact ih1 _ _ _)
   | (with_reducible exact LeO.refl _)
   | (with_reducible exact LeO.none _)
   | (with_reducible refine LeO.ite ?_ ?_)
   | (with_reducible refine LeO.bind ?_ (fun _ => ?_))
   | exact ih1 _ _ _
   | exact LeO.none _
   | refine LeO.ite ?_ ?_
   | refine LeO.bind ?_ (fun _ => ?_)
set_option maxHeartbeats 8000000 in
set_option maxRecDepth 100000 in
theorem r4_SameInts.calls (k : Nat) (A0 : Option Addr) (c0 : Nat) (l0 : List Int) (A1 : Option Addr) (c1 : Nat) (l1 : List Int) (r : Bool) (w : World) (hr0 : Kd.C (Kd.int .i64) w A0 l0.length l0) (hc0 : l0.length ≤ c0) (hr1 : Kd.C (Kd.int .i64) w A1 l1.length l1) (hc1 : l1.length ≤ c1) (h : r4_SameInts.f k l0 l1 = some r) :
  Calls Try.prog 17 #[.slice A0 l0.length c0, .slice A1 l1.length c1] w fun e w' => e = .returned (.bool r) ∧ Drawn0 w w' := by
 have HR1 := aM hr0; have HC1 := aM hc0; clear hr0 hc0; have HR2 := aM hr1; have HC1 := aM hc1; clear hr1 hc1; have H : (if (l0.length : Int) = (l1.length : Int) then (r4_SameInts.l0 k l0 l1 0) else (some false)) = some r := h; clear h; by_cases c2 : (l0.length : Int) = (l1.length : Int)
 ·rw [if_pos c2] at H; obtain ⟨c1b0, c1b1⟩ := zeq c2; have c1b2 : (l0.length == l1.length) = true := by first | simpa using c2 | (simp at c2 ⊢; omega)
  clear c2; have H' := aM H; clear H; go_enter Try.func17, Try.ntmps17
  go_wp2
  repeat (go_quiet (fail); try go_wp2)
  go_loopg [5] k (fun kq v1 w' => ∃ (x1_1 : Int), v1 = .int .i64 x1_1 ∧ Aside0 (r4_SameInts.l0 kq l0 l1 x1_1 = some r) ∧ Aside0 (kq ≤ k) ∧ Drawn0 w w')
  case atStart => exact ⟨(0), q13z, H', ⟨Nat.le_refl _⟩, q22z⟩
  case round =>
   clear H'; try clear c1
   try clear p2
   try clear c2
   try clear c1b0
   try clear c1b1
   try clear c1b2
   obtain ⟨x1_1, rfl, HA, HK1, ⟨m1, rfl⟩⟩ := hrel; cases gk with
   | zero => exact absurd HA.out (by simp [r4_SameInts.l0])
   | succ k1 =>
    have H := HA.out; clear HA; simp only [r4_SameInts.l0] at H; by_cases c3 : x1_1 < (l0.length : Int)
    ·rw [if_pos c3] at H; have c1b0 := decide_eq_true c3; clear c3; by_cases c4 : 0 ≤ x1_1
     ·rw [if_pos c4] at H; have c1b0 := decide_eq_true c4; clear c4; by_cases c5 : x1_1 < (l1.length : Int)
      ·rw [if_pos c5] at H; have c1b0 := decide_eq_true c5; clear c5; by_cases c6 : (rd l0 x1_1) = (rd l1 x1_1)
       ·rw [if_pos c6] at H; obtain ⟨c1b0, c1b1⟩ := zeq c6; clear c6; have H' := aM H; clear H; have p1 : 0 ≤ (x1_1 : Int) := zod; have q1 : x1_1 < (l0.length : Int) := zod; obtain ⟨ad1, e1, hx1_0⟩ := Kd.at_int HR1.out x1_1 p1 q1; cases e1; replace p1 := eq_true p1; replace q1 := eq_true q1; have p1 : 0 ≤ (x1_1 : Int) := zod; have q1 : x1_1 < (l1.length : Int) := zod; obtain ⟨ad1, e1, hx1_0⟩ := Kd.at_int HR2.out x1_1 p1 q1; cases e1; replace p1 := eq_true p1; replace q1 := eq_true q1; go_wp2
        repeat (go_quiet (fail); try go_wp2)
        go_roundg k1
        case measure => have := HK1.out; omega
        case rel => exact ⟨(wrap64 (x1_1 + 1)), q13z, H', ⟨by have := HK1.out; omega⟩, q22z⟩
       ·rw [if_neg c6] at H; obtain ⟨c1b0, c1b1⟩ := zne c6; obtain rfl := Option.some.inj H; have p1 : 0 ≤ (x1_1 : Int) := zod; have q1 : x1_1 < (l0.length : Int) := zod; obtain ⟨ad1, e1, hx1_0⟩ := Kd.at_int HR1.out x1_1 p1 q1; cases e1; replace p1 := eq_true p1; replace q1 := eq_true q1; have p1 : 0 ≤ (x1_1 : Int) := zod; have q1 : x1_1 < (l1.length : Int) := zod; obtain ⟨ad1, e1, hx1_0⟩ := Kd.at_int HR2.out x1_1 p1 q1; cases e1; replace p1 := eq_true p1; replace q1 := eq_true q1; go_wp2
        repeat (go_quiet (fail); try go_wp2)
        go_ret
        exact ⟨q13z, q22z⟩
      ·rw [if_neg c5] at H; exact absurd H (by simp)
     ·rw [if_neg c4] at H; exact absurd H (by simp)
    ·rw [if_neg c3] at H; have c1b0 := decide_eq_false c3; clear c3; obtain rfl := Option.some.inj H; go_wp2
     repeat (go_quiet (fail); try go_wp2)
     go_ret
     exact ⟨q13z, q22z⟩
 ·rw [if_neg c2] at H; obtain ⟨c1b0, c1b1⟩ := zne c2; have c1b2 : (l0.length == l1.length) = false := by first | simpa using c2 | (simp at c2 ⊢; omega)
  obtain rfl := Option.some.inj H; go_enter Try.func17, Try.ntmps17
  go_wp2
  repeat (go_quiet (fail); try go_wp2)
  go_ret
  exact ⟨q13z, q22z⟩
end Go.Proofs.Yteblbknmikieoaa.Xb
namespace Go.Proofs.Yteblbknmikieoaa.Xb
open Go.RowKit Go.Proofs.YteblbknmikieoaaW.PrintWords Go.Proofs.YteblbknmikieoaaW.PrintLast Go.Proofs.YteblbknmikieoaaW.PrintMore
attribute [local go_sem] max2_int min2_int max_two min_two max_three min_three max_four min_four
set_option linter.unusedVariables false
set_option linter.unusedSimpArgs false
theorem cells4_57 {w : World} {g : Nat} {t : TypeId} {x0 x1 x2 x3 : Value} (h : w.heap[g]? = some (.cells #[x0, x1, x2, x3] t (0, 0))) : w.cell? ⟨g, 0, none⟩ = some x0 ∧ w.cell? ⟨g, 1, none⟩ = some x1 ∧ w.cell? ⟨g, 2, none⟩ = some x2 ∧ w.cell? ⟨g, 3, none⟩ = some x3 ∧ w.frozen? ⟨g, 0, none⟩ = false ∧ w.frozen? ⟨g, 1, none⟩ = false ∧ w.frozen? ⟨g, 2, none⟩ = false ∧ w.frozen? ⟨g, 3, none⟩ = false := ⟨(blk_cell h 0).trans rfl, (blk_cell h 1).trans rfl, (blk_cell h 2).trans rfl, (blk_cell h 3).trans rfl, blk_frozen h 0, blk_frozen h 1, blk_frozen h 2, blk_frozen h 3⟩
theorem cells5_57 {w : World} {g : Nat} {t : TypeId} {x0 x1 x2 x3 x4 : Value} (h : w.heap[g]? = some (.cells #[x0, x1, x2, x3, x4] t (0, 0))) : w.cell? ⟨g, 0, none⟩ = some x0 ∧ w.cell? ⟨g, 1, none⟩ = some x1 ∧ w.cell? ⟨g, 2, none⟩ = some x2 ∧ w.cell? ⟨g, 3, none⟩ = some x3 ∧ w.cell? ⟨g, 4, none⟩ = some x4 ∧ w.frozen? ⟨g, 0, none⟩ = false ∧ w.frozen? ⟨g, 1, none⟩ = false ∧ w.frozen? ⟨g, 2, none⟩ = false ∧ w.frozen? ⟨g, 3, none⟩ = false ∧ w.frozen? ⟨g, 4, none⟩ = false := ⟨(blk_cell h 0).trans rfl, (blk_cell h 1).trans rfl, (blk_cell h 2).trans rfl, (blk_cell h 3).trans rfl, (blk_cell h 4).trans rfl, blk_frozen h 0, blk_frozen h 1, blk_frozen h 2, blk_frozen h 3, blk_frozen h 4⟩
def net_First.l0 : Nat → List Int → List (S43) → Int → Int → Option (List Int)
 | 0, _, _, _, _ => none
 | k + 1, x3, x11, x12, x13 => if x13 < x12 then (if 0 ≤ x13 then (if x13 < (x11.length : Int) then (if x13 < (x3.length : Int) then (net_First.l0 k (x3.set (x13 : Int).toNat ((rd_T43 x11 x13).f3)) x11 x12 (wrap64 (x13 + 1))) else (none)) else (none)) else (none)) else (some x3)
def net_First.f (k : Nat) (l0_0 : List (S41)) (l0_1 : List (S47)) (l0_2 : List (S43)) (l0_3 : List (S61)) (l0_4 : List (S47)) : Option (List Int) := if 0 ≤ (l0_2.length : Int) then (if ((l0_2.length : Int) : Int).toNat ≤ 35184372088832 then (net_First.l0 k (List.replicate ((l0_2.length : Int) : Int).toNat 0) l0_2 (l0_2.length : Int) 0) else (none)) else (none)
theorem net_First.mono_l : ∀ k, (∀ y0 y1 y2 y3, LeO (net_First.l0 k y0 y1 y2 y3) (net_First.l0 (k + 1) y0 y1 y2 y3))
 | 0 => fun _ _ _ _ r h => by simp [net_First.l0] at h
 | k + 1 => by
  have ih0 := net_First.mono_l k
  ·intro y0 y1 y2 y3
   unfold net_First.l0
   repeat' first
   | (with_reducible exact ih0 _ _ _ _)
   | (with_reducible exact LeO.refl _)
   | (with_reducible exact LeO.none _)
   | (with_reducible refine LeO.ite ?_ ?_)
   | (with_reducible refine LeO.bind ?_ (fun _ => ?_))
   | exact ih0 _ _ _ _
   | exact LeO.none _
   | refine LeO.ite ?_ ?_
   | refine LeO.bind ?_ (fun _ => ?_)
theorem net_First.mono : ∀ a0 a1 a2 a3 a4 k, LeO (net_First.f k a0 a1 a2 a3 a4) (net_First.f (k + 1) a0 a1 a2 a3 a4) := by
 intro a0 a1 a2 a3 a4 k
 have ih1 := net_First.mono_l k; unfold net_First.f
 repeat' first
   | (with_reducible exact ih1 _ _ _ _)
   | (with_reducible exact LeO.refl _)
   | (with_reducible exact LeO.none _)
   | (with_reducible refine LeO.ite ?_ ?_)
   | (with_reducible refine LeO.bind ?_ (fun _ => ?_))
   | exact ih1 _ _ _ _
   | exact LeO.none _
   | refine LeO.ite ?_ ?_
   | refine LeO.bind ?_ (fun _ => ?_)
set_option maxHeartbeats 8000000 in
set_option maxRecDepth 100000 in
theorem net_First.calls (k : Nat) (A0_0 : Option Addr) (c0_0 : Nat) (l0_0 : List (S41)) (A0_1 : Option Addr) (c0_1 : Nat) (l0_1 : List (S47)) (A0_2 : Option Addr) (c0_2 : Nat) (l0_2 : List (S43)) (A0_3 : Option Addr) (c0_3 : Nat) (l0_3 : List (S61)) (A0_4 : Option Addr) (c0_4 : Nat) (l0_4 : List (S47)) (r : List Int) (w : World) (hr0_0 : Kd.C k41 w A0_0 l0_0.length l0_0) (hc0_0 : l0_0.length ≤ c0_0) (hr0_1 : Kd.C k47 w A0_1 l0_1.length l0_1) (hc0_1 : l0_1.length ≤ c0_1) (hr0_2 : Kd.C k43 w A0_2 l0_2.length l0_2) (hc0_2 : l0_2.length ≤ c0_2) (hr0_3 : Kd.C k61 w A0_3 l0_3.length l0_3) (hc0_3 : l0_3.length ≤ c0_3) (hr0_4 : Kd.C k47 w A0_4 l0_4.length l0_4) (hc0_4 : l0_4.length ≤ c0_4) (h : net_First.f k l0_0 l0_1 l0_2 l0_3 l0_4 = some r) :
  Calls Try.prog 18 #[.agg #[.slice A0_0 l0_0.length c0_0, .slice A0_1 l0_1.length c0_1, .slice A0_2 l0_2.length c0_2, .slice A0_3 l0_3.length c0_3, .slice A0_4 l0_4.length c0_4]] w fun e w' => ∃ v0_ : Value, e = .returned (v0_) ∧ Kd.R (Kd.int .i64) 3 w' w.heap.size (fun _ => True) v0_ r ∧ Below w.heap.size w w' := by
 have hu1 := Try.underlying27; have hu1 := Try.underlying43; have HR1_0 := aM hr0_0; have HC1_0 := aM hc0_0; clear hr0_0 hc0_0; have HR1_1 := aM hr0_1; have HC1_1 := aM hc0_1; clear hr0_1 hc0_1; have HR1_2 := aM hr0_2; have HC1_2 := aM hc0_2; clear hr0_2 hc0_2; have HR1_3 := aM hr0_3; have HC1_3 := aM hc0_3; clear hr0_3 hc0_3; have HR1_4 := aM hr0_4; have HC1_4 := aM hc0_4; clear hr0_4 hc0_4; have HB := aM (Below.refl w.heap.size w); have H : (if 0 ≤ (l0_2.length : Int) then (if ((l0_2.length : Int) : Int).toNat ≤ 35184372088832 then (net_First.l0 k (List.replicate ((l0_2.length : Int) : Int).toNat 0) l0_2 (l0_2.length : Int) 0) else (none)) else (none)) = some r := h; clear h; by_cases c2 : 0 ≤ (l0_2.length : Int)
 ·rw [if_pos c2] at H; have c1b0 := eq_true c2; have c1b1 : decide (0 ≤ (l0_2.length : Int)) = true := decide_eq_true c2; clear c2; by_cases c3 : ((l0_2.length : Int) : Int).toNat ≤ 35184372088832
  ·rw [if_pos c3] at H; have c2b0 := eq_true c3; have c2b1 : decide (((l0_2.length : Int) : Int).toNat ≤ 35184372088832) = true := decide_eq_true c3; clear c3; obtain ⟨y1, hy1⟩ : ∃ y_ : List Int, y_ = (List.replicate ((l0_2.length : Int) : Int).toNat 0) := ⟨_, rfl⟩; replace H : (net_First.l0 k y1 l0_2 (l0_2.length : Int) 0) = some r := by first | (rw [hy1]; with_reducible exact H) | (have H1_ := (Option.bind_some _ _).symm.trans H; rw [hy1]; with_reducible exact H1_) | (have H1_ := (Option.bind_some _ _).symm.trans H; with_reducible exact H1_) | with_reducible exact H | (rw [hy1]; exact H) | exact H
   have Ny1 := aM hy1; clear hy1; have H' := aM H; clear H; go_enter Try.func18, Try.ntmps18
   go_wp2_with (first | ((with_reducible refine zgd 1 rfl ?_); refine zbox 1 #[.slice A0_0 l0_0.length c0_0, .slice A0_1 l0_1.length c0_1, .slice A0_2 l0_2.length c0_2, .slice A0_3 l0_3.length c0_3, .slice A0_4 l0_4.length c0_4] 27 ?_; intro gb1 hg w2 hbox hb; have BK1 := aM (hbox); have GW1 := aM ((q7z HB : w.heap.size ≤ gb1)); have GE1 := aM ((q7z HB : w.heap.size ≤ gb1)); replace HB := aM (ym (q4z HB) hb); clear hb hbox hg; obtain ⟨i1_0, i1_1, i1_2, i1_3, i1_4, j1_0, j1_1, j1_2, j1_3, j1_4⟩ := cells5_57 BK1.out) | ((with_reducible refine gate_dst (N := 9) rfl ?_); refine Kd.R_make (Kd.int .i64) _ 3 rfl (N := 9) rfl 32 _ _ rfl (l0_2.length : Int) rfl rfl Try.underlying32 (.int .i64 0) 8 info3 rfl (by decide) (by omega) 0 (ok := fun _ => True) (okp := fun _ => True) rfl (fun _ hk => hk) trivial (of_decide_eq_true q75z) (Nat.le_trans (Nat.mul_le_mul_right _ (of_decide_eq_true q75z : (l0_2.length : Int).toNat ≤ 35184372088832)) (by omega)) (Below.refl _ _) (Nat.le_refl _) ?_; intro v1 w3 ho1 hb hg_ hnew_; clear hg_ hnew_; (first | rw [← Ny1.out] at ho1 | (simp only [Int.reduceToNat] at ho1; rw [← Ny1.out] at ho1)); have HO1 := aM (Kd.R_lower ho1 (yn (q3z HB GE1))); replace BK1 := aM (yi (zi BK1) hb); replace HB := aM (ym (q3z HB GE1) hb); clear hb ho1; obtain ⟨i2_0, i2_1, i2_2, i2_3, i2_4, j2_0, j2_1, j2_2, j2_3, j2_4⟩ := cells5_57 BK1.out))
   go_loopg [13] k (fun kq v2 w' => ∃ (x1_1 : List Int) (x2_1 : Int), v2 = .int .i64 x2_1 ∧ Aside0 (net_First.l0 kq x1_1 l0_2 (l0_2.length : Int) x2_1 = some r) ∧ Aside0 (kq ≤ k) ∧ Aside0 (Kd.R (Kd.int .i64) 3 w' w.heap.size (fun _ => True) v1 x1_1) ∧ Aside0 (w'.heap[gb1]? = some (.cells #[(.slice A0_0 l0_0.length c0_0), (.slice A0_1 l0_1.length c0_1), (.slice A0_2 l0_2.length c0_2), (.slice A0_3 l0_3.length c0_3), (.slice A0_4 l0_4.length c0_4)] 27 (0, 0))) ∧ Aside0 (Below w.heap.size w w'))
   case atStart => exact ⟨(y1), (0), q13z, H', ⟨Nat.le_refl _⟩, ⟨q2z HO1⟩, ⟨q10z BK1⟩, ⟨q3z HB GE1⟩⟩
   case round =>
    clear H'; try clear c1
    try clear c2
    try clear c1b0
    try clear c1b1
    try clear p2
    try clear c3
    try clear c2b0
    try clear c2b1
    try clear i1_0 i1_1 i1_2 i1_3 i1_4
    try clear i2_0 i2_1 i2_2 i2_3 i2_4
    try clear j1_0 j1_1 j1_2 j1_3 j1_4
    try clear j2_0 j2_1 j2_2 j2_3 j2_4
    obtain ⟨x1_1, x2_1, rfl, HA, HK1, HO_1, BK1, HB⟩ := hrel; cases gk with
    | zero => exact absurd HA.out (by simp [net_First.l0])
    | succ k1 =>
     have H := HA.out; clear HA; simp only [net_First.l0] at H; by_cases c4 : x2_1 < (l0_2.length : Int)
     ·rw [if_pos c4] at H; have c1b0 := decide_eq_true c4; clear c4; by_cases c5 : 0 ≤ x2_1
      ·rw [if_pos c5] at H; have c1b0 := decide_eq_true c5; clear c5; by_cases c6 : x2_1 < (l0_2.length : Int)
       ·rw [if_pos c6] at H; have c1b0 := decide_eq_true c6; clear c6; by_cases c7 : x2_1 < (x1_1.length : Int)
        ·rw [if_pos c7] at H; have c1b0 := decide_eq_true c7; clear c7; obtain ⟨y1, hy1⟩ : ∃ y_ : List Int, y_ = (x1_1.set (x2_1 : Int).toNat ((rd_T43 l0_2 x2_1).f3)) := ⟨_, rfl⟩; replace H : (net_First.l0 k1 y1 l0_2 (l0_2.length : Int) (wrap64 (x2_1 + 1))) = some r := by first | (rw [hy1]; with_reducible exact H) | (have H1_ := (Option.bind_some _ _).symm.trans H; rw [hy1]; with_reducible exact H1_) | (have H1_ := (Option.bind_some _ _).symm.trans H; with_reducible exact H1_) | with_reducible exact H | (rw [hy1]; exact H) | exact H
         have Ny1 := aM hy1; clear hy1; have H' := aM H; clear H; have p1 : 0 ≤ (x2_1 : Int) := zod; have q1 : x2_1 < (l0_2.length : Int) := zod; obtain ⟨ad1, e1, hx1_0, hx1_1, hx1_2, hx1_3⟩ := at_T43 HR1_2.out x2_1 p1 q1; cases e1; replace hx1_0 := zx HB hx1_0; replace hx1_1 := zx HB hx1_1; replace hx1_2 := zx HB hx1_2; replace hx1_3 := zx HB hx1_3; replace p1 := eq_true p1; replace q1 := eq_true q1; go_wp2_with (first | ((with_reducible refine zgd 5 rfl ?_); refine zbox 5 #[.string (⟨#[]⟩ : ByteArray), .int .i64 0, .int .i64 0, .int .i64 0] 43 ?_; intro gb2 hg w2 hbox hb; replace HO_1 := aM (yr (q2z HO_1) hb); have BK2 := aM (hbox); have GW1 := aM ((q14z HB GE1 : w.heap.size ≤ gb2)); have GE2 := aM ((q14z HB GE1 : w.heap.size ≤ gb2)); replace HB := aM (ym (q3z HB GE1) hb); have NB1_211 := aM ((q38z BK1 : gb1 ≠ gb2)); have NB1_206 := aM ((q39z BK1 : gb2 ≠ gb1)); replace BK1 := aM (yi (zi BK1) hb); clear hb hbox hg; have hnb1 := NB1_206.out; have hnc1 := NB1_211.out; obtain ⟨i1_0, i1_1, i1_2, i1_3, j1_0, j1_1, j1_2, j1_3⟩ := cells4_57 BK2.out) | ((with_reducible refine gate_store (t := 43) (p := 5) rfl ?_); refine store_event (t := 43) (p := 5) (v := ?vo_w17) (w1 := ((((w2.setCell ⟨gb2, 0, none⟩ (.string ((rd_T43 l0_2 x2_1).f0))).setCell ⟨gb2, 1, none⟩ (.int .i64 ((rd_T43 l0_2 x2_1).f1))).setCell ⟨gb2, 2, none⟩ (.int .i64 ((rd_T43 l0_2 x2_1).f2))).setCell ⟨gb2, 3, none⟩ (.int .i64 ((rd_T43 l0_2 x2_1).f3)))) ?hg ?ho ?hn ?hr ?_; (case ho => rfl); (case hg => rfl); (case hn => rfl); (case hr => exact q27z); intro w3 hw; replace HO_1 : Aside0 (Kd.R (Kd.int .i64) 3 w3 w.heap.size (fun _ => True) v1 x1_1) := ⟨(by rw [hw]; exact (by (with_reducible repeat (first | apply yf | apply yg | apply yh)); exact Kd.R_mono (Kd.R_far (p := ⟨gb2, 3, none⟩) (Kd.R_far (p := ⟨gb2, 2, none⟩) (Kd.R_far (p := ⟨gb2, 1, none⟩) (Kd.R_far (p := ⟨gb2, 0, none⟩) (Kd.R_types HO_1.out BK2.out (by decide)) (fun _ hk => hk.2) (.string ((rd_T43 l0_2 x2_1).f0))) (fun _ hk => hk.2) (.int .i64 ((rd_T43 l0_2 x2_1).f1))) (fun _ hk => hk.2) (.int .i64 ((rd_T43 l0_2 x2_1).f2))) (fun _ hk => hk.2) (.int .i64 ((rd_T43 l0_2 x2_1).f3))) (fun _ hk => trivial)))⟩; replace BK1 : Aside0 (w3.heap[gb1]? = some (.cells #[.slice A0_0 l0_0.length c0_0, .slice A0_1 l0_1.length c0_1, .slice (some ad1) l0_2.length c0_2, .slice A0_3 l0_3.length c0_3, .slice A0_4 l0_4.length c0_4] 27 (0, 0))) := ⟨(q58z NB1_211 BK1)⟩; replace BK2 : Aside0 (w3.heap[gb2]? = some (.cells #[.string ((rd_T43 l0_2 x2_1).f0), .int .i64 ((rd_T43 l0_2 x2_1).f1), .int .i64 ((rd_T43 l0_2 x2_1).f2), .int .i64 ((rd_T43 l0_2 x2_1).f3)] 43 (0, 0))) := ⟨(q35z BK2)⟩; replace HB : Aside0 (Below w.heap.size w w3) := ⟨(by rw [hw]; exact (q5z HB GE1 GE2))⟩; clear hw; obtain ⟨i2_0, i2_1, i2_2, i2_3, j2_0, j2_1, j2_2, j2_3⟩ := cells4_57 BK2.out; have p1 : 0 ≤ (x2_1 : Int) := zod; have q1 : (x2_1 : Int) < ((x1_1.length : Int) : Int) := zod; obtain ⟨go1, co1, eo1, gb3, gl1, cl1, HG1⟩ := Kd.R_form HO_1.out (by omega); (first | cases eo1 | (injection eo1 with ea_ en_ ec_; (first | subst ea_ | (injection ea_ with ea_; subst ea_)); subst ec_; clear en_)); have GB1 := aM gb3; have GG1 := aM HG1; clear gb3 gl1 HG1; obtain ⟨hx1_0, hf1_0⟩ := Kd.R_celln 0 HO_1.out (x2_1 : Int) p1 q1; replace p1 := eq_true p1; replace q1 := eq_true q1; obtain ⟨hy1_, hz1_⟩ := Kd.R_celln 0 HO_1.out (x2_1 : Int) (of_decide_eq_true q75z) (of_decide_eq_true q75z); have HP1 := Kd.R_putg HO_1.out (x2_1 : Int) ((rd_T43 l0_2 x2_1).f3)) | ((with_reducible refine gate_store (t := 3) (p := 22) rfl ?_); refine store_event (t := 3) (p := 22) (v := ?vo_w20) (w1 := (w3.setCell ⟨go1, (x2_1 : Int).toNat, none⟩ (.int .i64 ((rd_T43 l0_2 x2_1).f3)))) ?hg ?ho ?hn ?hr ?_; (case ho => rfl); (case hg => rfl); (case hn => rfl); (case hr => exact q27z); intro w4 hw; have hg : w3.grownBy w4 (some go1) := (by rw [hw]; exact HP1.2); have hp_ : Kd.R (Kd.int .i64) 3 w4 w.heap.size (fun _ => True) (.slice (some ⟨go1, 0, none⟩) x1_1.length co1) y1 := (by rw [hw, Ny1.out]; exact HP1.1); clear HP1; replace BK1 := aM (blk_grown (g := gb1) (o := .cells #[.slice A0_0 l0_0.length c0_0, .slice A0_1 l0_1.length c0_1, .slice (some ad1) l0_2.length c0_2, .slice A0_3 l0_3.length c0_3, .slice A0_4 l0_4.length c0_4] 27 (0, 0)) (zi BK1) hg (Kd.R_ne HO_1.out BK1.out (by decide))); replace BK2 := aM (blk_grown (g := gb2) (o := .cells #[.string ((rd_T43 l0_2 x2_1).f0), .int .i64 ((rd_T43 l0_2 x2_1).f1), .int .i64 ((rd_T43 l0_2 x2_1).f2), .int .i64 ((rd_T43 l0_2 x2_1).f3)] 43 (0, 0)) (zi BK2) hg (Kd.R_ne HO_1.out BK2.out (by decide))); replace HO_1 := aM (hp_); replace HB := aM ((by rw [hw]; exact yd (HB.out) GB1.out : Below w.heap.size w w4)); clear hg hw hp_))
         go_roundg k1
         case measure => have := HK1.out; omega
         case rel => exact ⟨(y1), (wrap64 (x2_1 + 1)), q13z, H', ⟨by have := HK1.out; omega⟩, ⟨q2z HO_1⟩, ⟨q10z BK1⟩, ⟨q5z HB GE1 GE2⟩⟩
        ·rw [if_neg c7] at H; exact absurd H (by simp)
       ·rw [if_neg c6] at H; exact absurd H (by simp)
      ·rw [if_neg c5] at H; exact absurd H (by simp)
     ·rw [if_neg c4] at H; have c1b0 := decide_eq_false c4; clear c4; obtain rfl := Option.some.inj H; go_wp2
      go_ret
      exact ⟨_, q11z, q2z HO_1, q3z HB GE1⟩
  ·rw [if_neg c3] at H; exact absurd H (by simp)
 ·rw [if_neg c2] at H; exact absurd H (by simp)
end Go.Proofs.Yteblbknmikieoaa.Xb
namespace Go.Proofs.Yteblbknmikieoaa.Xb
open Go.RowKit Go.Proofs.YteblbknmikieoaaW.PrintWords Go.Proofs.YteblbknmikieoaaW.PrintLast Go.Proofs.YteblbknmikieoaaW.PrintMore
attribute [local go_sem] max2_int min2_int max_two min_two max_three min_three max_four min_four
set_option linter.unusedVariables false
set_option linter.unusedSimpArgs false
end Go.Proofs.Yteblbknmikieoaa.Xb
namespace Go.Proofs.Yteblbknmikieoaa.Xb
open Go.RowKit Go.Proofs.YteblbknmikieoaaW.PrintWords Go.Proofs.YteblbknmikieoaaW.PrintLast Go.Proofs.YteblbknmikieoaaW.PrintMore
attribute [local go_sem] max2_int min2_int max_two min_two max_three min_three max_four min_four
set_option linter.unusedVariables false
set_option linter.unusedSimpArgs false
end Go.Proofs.Yteblbknmikieoaa.Xb
namespace Go.Proofs.Yteblbknmikieoaa.Xb
open Go.RowKit Go.Proofs.YteblbknmikieoaaW.PrintWords Go.Proofs.YteblbknmikieoaaW.PrintLast Go.Proofs.YteblbknmikieoaaW.PrintMore
attribute [local go_sem] max2_int min2_int max_two min_two max_three min_three max_four min_four
set_option linter.unusedVariables false
set_option linter.unusedSimpArgs false
end Go.Proofs.Yteblbknmikieoaa.Xb
