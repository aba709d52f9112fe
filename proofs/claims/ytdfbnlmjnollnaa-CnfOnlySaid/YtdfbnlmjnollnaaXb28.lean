/- Slimmed by this session: what nothing names is struck out. -/
import Derived.Test.YtdfbnlmjnollnaaXb0
namespace Go.Proofs.Ytdfbnlmjnollnaa.Xb
open Go.RowKit Go.Proofs.YtdfbnlmjnollnaaW.PrintWords Go.Proofs.YtdfbnlmjnollnaaW.PrintLast Go.Proofs.YtdfbnlmjnollnaaW.PrintMore
attribute [local go_sem] max2_int min2_int max_two min_two max_three min_three max_four min_four
set_option linter.unusedVariables false
set_option linter.unusedSimpArgs false
mutual
def proofmarkref17_Met.l0 : Nat → List (List Int) → List Bool → Int → Option (Bool)
 | 0, _, _, _ => none
 | k + 1, x0, x1, x5 => if x5 < (x0.length : Int) then (proofmarkref17_Met.l1 k x0 x1 x5 false 0) else (some true)
def proofmarkref17_Met.l1 : Nat → List (List Int) → List Bool → Int → Bool → Int → Option (Bool)
 | 0, _, _, _, _, _ => none
 | k + 1, x0, x1, x5, x6, x7 => if 0 ≤ x5 then (if x5 < (x0.length : Int) then (if x7 < ((rd_L2 x0 x5).length : Int) then (if 0 ≤ x7 then (if x6 = true then (proofmarkref17_Met.l1 k x0 x1 x5 true (wrap64 (x7 + 1))) else (if (rd (rd_L2 x0 x5) x7) > 0 then (if 0 ≤ (wrap64 ((rd (rd_L2 x0 x5) x7) - 1)) then (if (wrap64 ((rd (rd_L2 x0 x5) x7) - 1)) < (x1.length : Int) then (if rdOf false x1 (wrap64 ((rd (rd_L2 x0 x5) x7) - 1)) = true then (proofmarkref17_Met.l1 k x0 x1 x5 true (wrap64 (x7 + 1))) else (if (rd (rd_L2 x0 x5) x7) < 0 then (if 0 ≤ (wrap64 ((wrap64 (-(rd (rd_L2 x0 x5) x7))) - 1)) then (if (wrap64 ((wrap64 (-(rd (rd_L2 x0 x5) x7))) - 1)) < (x1.length : Int) then (proofmarkref17_Met.l1 k x0 x1 x5 (!(rdOf false x1 (wrap64 ((wrap64 (-(rd (rd_L2 x0 x5) x7))) - 1)))) (wrap64 (x7 + 1))) else (none)) else (none)) else (proofmarkref17_Met.l1 k x0 x1 x5 false (wrap64 (x7 + 1))))) else (none)) else (none)) else (if (rd (rd_L2 x0 x5) x7) < 0 then (if 0 ≤ (wrap64 ((wrap64 (-(rd (rd_L2 x0 x5) x7))) - 1)) then (if (wrap64 ((wrap64 (-(rd (rd_L2 x0 x5) x7))) - 1)) < (x1.length : Int) then (proofmarkref17_Met.l1 k x0 x1 x5 (!(rdOf false x1 (wrap64 ((wrap64 (-(rd (rd_L2 x0 x5) x7))) - 1)))) (wrap64 (x7 + 1))) else (none)) else (none)) else (proofmarkref17_Met.l1 k x0 x1 x5 false (wrap64 (x7 + 1)))))) else (none)) else (if x6 = true then (proofmarkref17_Met.l0 k x0 x1 (wrap64 (x5 + 1))) else (some false))) else (none)) else (none)
end
def proofmarkref17_Met.f (k : Nat) (l0 : List (List Int)) (l1 : List Bool) : Option (Bool) := proofmarkref17_Met.l0 k l0 l1 0
theorem proofmarkref17_Met.mono_l : ∀ k, (∀ y0 y1 y2, LeO (proofmarkref17_Met.l0 k y0 y1 y2) (proofmarkref17_Met.l0 (k + 1) y0 y1 y2)) ∧ (∀ y0 y1 y2 y3 y4, LeO (proofmarkref17_Met.l1 k y0 y1 y2 y3 y4) (proofmarkref17_Met.l1 (k + 1) y0 y1 y2 y3 y4))
 | 0 => ⟨fun _ _ _ r h => by simp [proofmarkref17_Met.l0] at h, fun _ _ _ _ _ r h => by simp [proofmarkref17_Met.l1] at h⟩
 | k + 1 => by
  obtain ⟨ih0, ih1⟩ := proofmarkref17_Met.mono_l k
  refine ⟨?_, ?_⟩
  ·intro y0 y1 y2
   unfold proofmarkref17_Met.l0
   repeat' first
   | (with_reducible exact ih0 _ _ _)
   | (with_reducible exact ih1 _ _ _ _ _)
   | (with_reducible exact LeO.refl _)
   | (with_reducible exact LeO.none _)
   | (with_reducible refine LeO.ite ?_ ?_)
   | (with_reducible refine LeO.bind ?_ (fun _ => ?_))
   | exact ih0 _ _ _
   | exact ih1 _ _ _ _ _
   | exact LeO.none _
   | refine LeO.ite ?_ ?_
   | refine LeO.bind ?_ (fun _ => ?_)
  ·intro y0 y1 y2 y3 y4
   unfold proofmarkref17_Met.l1
   repeat' first
   | (with_reducible exact ih0 _ _ _)
   | (with_reducible exact ih1 _ _ _ _ _)
   | (with_reducible exact LeO.refl _)
   | (with_reducible exact LeO.none _)
   | (with_reducible refine LeO.ite ?_ ?_)
   | (with_reducible refine LeO.bind ?_ (fun _ => ?_))
   | exact ih0 _ _ _
   | exact ih1 _ _ _ _ _
   | exact LeO.none _
   | refine LeO.ite ?_ ?_
   | refine LeO.bind ?_ (fun _ => ?_)
theorem proofmarkref17_Met.mono : ∀ a0 a1 k, LeO (proofmarkref17_Met.f k a0 a1) (proofmarkref17_Met.f (k + 1) a0 a1) := by
 intro a0 a1 k
 obtain ⟨ih0, ih1⟩ := proofmarkref17_Met.mono_l k
 unfold proofmarkref17_Met.f
 repeat' first
   | (with_reducible exact ih0 _ _ _)
   | (with_reducible exact ih1 _ _ _ _ _)
   | (with_reducible exact LeO.refl _)
   | (with_reducible exact LeO.none _)
   | (with_reducible refine LeO.ite ?_ ?_)
   | (with_reducible refine LeO.bind ?_ (fun _ => ?_))
   | exact ih0 _ _ _
   | exact ih1 _ _ _ _ _
   | exact LeO.none _
   | refine LeO.ite ?_ ?_
   | refine LeO.bind ?_ (fun _ => ?_)
set_option maxHeartbeats 8000000 in
set_option maxRecDepth 100000 in
theorem proofmarkref17_Met.calls (k : Nat) (A0 : Option Addr) (c0 : Nat) (l0 : List (List Int)) (A1 : Option Addr) (c1 : Nat) (l1 : List Bool) (r : Bool) (w : World) (hr0 : Kd.C (Kd.slice 3 (Kd.int .i64)) w A0 l0.length l0) (hc0 : l0.length ≤ c0) (hr1 : Kd.C Kd.bool w A1 l1.length l1) (hc1 : l1.length ≤ c1) (h : proofmarkref17_Met.f k l0 l1 = some r) :
  Calls Try.prog 23 #[.slice A0 l0.length c0, .slice A1 l1.length c1] w fun e w' => e = .returned (.bool r) ∧ Drawn0 w w' := by
 have HR0 := Aside0.mk hr0
 have HC0 := Aside0.mk hc0
 clear hr0 hc0
 have HR1 := Aside0.mk hr1
 have HC1 := Aside0.mk hc1
 clear hr1 hc1
 have H : (proofmarkref17_Met.l0 k l0 l1 0) = some r := h
 clear h
 have H' := Aside0.mk H
 clear H
 go_enter Try.func23, Try.ntmps23
 go_wp2
 go_loopg [5] k (fun kq v5 w' => ∃ (x5_1 : Int), v5 = .int .i64 x5_1 ∧ Aside0 (proofmarkref17_Met.l0 kq l0 l1 x5_1 = some r) ∧ Aside0 (kq ≤ k) ∧ Drawn0 w w')
 case atStart => exact ⟨(0), (by first | rfl | (simp; done) | (simp [*]; done)), H', ⟨Nat.le_refl _⟩, by repeat (first | exact Drawn0.refl _ | apply Drawn0.step)⟩
 case round =>
  clear H'
  try clear c1
  try clear c2
  try clear p2
  obtain ⟨x5_1, rfl, HA, HK1, ⟨m1, rfl⟩⟩ := hrel
  cases gk with
  | zero => exact absurd HA.out (by simp [proofmarkref17_Met.l0])
  | succ k1 =>
   have H := HA.out
   clear HA
   simp only [proofmarkref17_Met.l0] at H
   by_cases c3 : x5_1 < (l0.length : Int)
   ·rw [if_pos c3] at H
    have c3b0 : decide (x5_1 < (l0.length : Int)) = true := decide_eq_true c3
    clear c3
    have H' := Aside0.mk H
    clear H
    go_wp2
    go_loopg [6, 7] k1 (fun kq v6 v7 w' => ∃ (x6_2 : Bool) (x7_2 : Int), v6 = .bool x6_2 ∧ v7 = .int .i64 x7_2 ∧ Aside0 (proofmarkref17_Met.l1 kq l0 l1 x5_1 x6_2 x7_2 = some r) ∧ Aside0 (kq ≤ k1) ∧ Drawn0 w w')
    case atStart => exact ⟨(false), (0), (by first | rfl | (simp; done) | (simp [*]; done)), (by first | rfl | (simp; done) | (simp [*]; done)), H', ⟨Nat.le_refl _⟩, by repeat (first | exact Drawn0.refl _ | apply Drawn0.step)⟩
    case round =>
     clear H'
     try clear c1
     try clear c2
     try clear p2
     try clear c3
     try clear c3b0
     try clear p2
     obtain ⟨x6_2, x7_2, rfl, rfl, HA, HK2, ⟨m2, rfl⟩⟩ := hrel
     cases gk with
     | zero => exact absurd HA.out (by simp [proofmarkref17_Met.l1])
     | succ k2 =>
      have H := HA.out
      clear HA
      simp only [proofmarkref17_Met.l1] at H
      by_cases c4 : 0 ≤ x5_1
      ·rw [if_pos c4] at H
       have c4b0 : decide (0 ≤ x5_1) = true := decide_eq_true c4
       clear c4
       by_cases c5 : x5_1 < (l0.length : Int)
       ·rw [if_pos c5] at H
        have c5b0 : decide (x5_1 < (l0.length : Int)) = true := decide_eq_true c5
        clear c5
        by_cases c6 : x7_2 < ((rd_L2 l0 x5_1).length : Int)
        ·rw [if_pos c6] at H
         have c6b0 : decide (x7_2 < ((rd_L2 l0 x5_1).length : Int)) = true := decide_eq_true c6
         clear c6
         by_cases c7 : 0 ≤ x7_2
         ·rw [if_pos c7] at H
          have c7b0 : decide (0 ≤ x7_2) = true := decide_eq_true c7
          clear c7
          by_cases c8 : x6_2 = true
          ·subst c8
           have H1 : (proofmarkref17_Met.l1 k2 l0 l1 x5_1 true (wrap64 (x7_2 + 1))) = some r := by rw [if_pos rfl] at H; exact H
           clear H
           have H := H1
           clear H1
           have H' := Aside0.mk H
           clear H
           have p382 : 0 ≤ (x5_1 : Int) := of_decide_eq_true (by first | (with_reducible assumption) | assumption)
           have q382 : x5_1 < (l0.length : Int) := of_decide_eq_true (by first | (with_reducible assumption) | assumption)
           obtain ⟨ad382, A382_0, c382_0, e382, hx382_0, hl382_0, hi382_0⟩ := at_L2 HR0.out x5_1 p382 q382
           cases e382
           have HR382_0 := Aside0.mk hi382_0
           have HC382_0 := Aside0.mk hl382_0
           clear hi382_0 hl382_0
           replace p382 := eq_true p382
           replace q382 := eq_true q382
           have p383 : 0 ≤ (x5_1 : Int) := of_decide_eq_true (by first | (with_reducible assumption) | assumption)
           have q383 : x5_1 < (l0.length : Int) := of_decide_eq_true (by first | (with_reducible assumption) | assumption)
           obtain ⟨ad383, A383_0, c383_0, e383, hx383_0, hl383_0, hi383_0⟩ := at_L2 HR0.out x5_1 p383 q383
           obtain rfl : ad382 = ad383 := (by injection e383)
           have HR383_0 := Aside0.mk hi383_0
           have HC383_0 := Aside0.mk hl383_0
           clear hi383_0 hl383_0
           replace p383 := eq_true p383
           replace q383 := eq_true q383
           have ea_ := Option.some.inj (hx382_0.symm.trans hx383_0)
           injection ea_ with ea_ en_ ec_
           subst ea_
           subst ec_
           clear en_
           have p384 : 0 ≤ (x7_2 : Int) := of_decide_eq_true (by first | (with_reducible assumption) | assumption)
           have q384 : x7_2 < ((rd_L2 l0 x5_1).length : Int) := of_decide_eq_true (by first | (with_reducible assumption) | assumption)
           obtain ⟨ad384, e384, hx384_0⟩ := Kd.at_int HR383_0.out x7_2 p384 q384
           cases e384
           replace p384 := eq_true p384
           replace q384 := eq_true q384
           go_wp2
           go_roundg k2
           case measure => have := HK1.out; have := HK2.out; omega
           case rel => exact ⟨(true), (wrap64 (x7_2 + 1)), (by first | rfl | (simp; done) | (simp [*]; done)), (by first | rfl | (simp; done) | (simp [*]; done)), H', ⟨by have := HK1.out; have := HK2.out; omega⟩, by repeat (first | exact Drawn0.refl _ | apply Drawn0.step)⟩
          ·replace c8 := Bool.eq_false_iff.mpr c8
           subst c8
           have H1 : (if (rd (rd_L2 l0 x5_1) x7_2) > 0 then (if 0 ≤ (wrap64 ((rd (rd_L2 l0 x5_1) x7_2) - 1)) then (if (wrap64 ((rd (rd_L2 l0 x5_1) x7_2) - 1)) < (l1.length : Int) then (if rdOf false l1 (wrap64 ((rd (rd_L2 l0 x5_1) x7_2) - 1)) = true then (proofmarkref17_Met.l1 k2 l0 l1 x5_1 true (wrap64 (x7_2 + 1))) else (if (rd (rd_L2 l0 x5_1) x7_2) < 0 then (if 0 ≤ (wrap64 ((wrap64 (-(rd (rd_L2 l0 x5_1) x7_2))) - 1)) then (if (wrap64 ((wrap64 (-(rd (rd_L2 l0 x5_1) x7_2))) - 1)) < (l1.length : Int) then (proofmarkref17_Met.l1 k2 l0 l1 x5_1 (!(rdOf false l1 (wrap64 ((wrap64 (-(rd (rd_L2 l0 x5_1) x7_2))) - 1)))) (wrap64 (x7_2 + 1))) else (none)) else (none)) else (proofmarkref17_Met.l1 k2 l0 l1 x5_1 false (wrap64 (x7_2 + 1))))) else (none)) else (none)) else (if (rd (rd_L2 l0 x5_1) x7_2) < 0 then (if 0 ≤ (wrap64 ((wrap64 (-(rd (rd_L2 l0 x5_1) x7_2))) - 1)) then (if (wrap64 ((wrap64 (-(rd (rd_L2 l0 x5_1) x7_2))) - 1)) < (l1.length : Int) then (proofmarkref17_Met.l1 k2 l0 l1 x5_1 (!(rdOf false l1 (wrap64 ((wrap64 (-(rd (rd_L2 l0 x5_1) x7_2))) - 1)))) (wrap64 (x7_2 + 1))) else (none)) else (none)) else (proofmarkref17_Met.l1 k2 l0 l1 x5_1 false (wrap64 (x7_2 + 1))))) = some r := by rw [if_neg (show ¬ (false = true) by decide)] at H; exact H
           clear H
           have H := H1
           clear H1
           by_cases c9 : (rd (rd_L2 l0 x5_1) x7_2) > 0
           ·rw [if_pos c9] at H
            have c9b0 : decide (0 < (rd (rd_L2 l0 x5_1) x7_2)) = true := decide_eq_true c9
            clear c9
            obtain ⟨ji10, hji10⟩ : ∃ j_ : Int, (wrap64 ((rd (rd_L2 l0 x5_1) x7_2) - 1)) = j_ := ⟨_, rfl⟩
            replace H : (if 0 ≤ (ji10) then (if (ji10) < (l1.length : Int) then (if rdOf false l1 (ji10) = true then (proofmarkref17_Met.l1 k2 l0 l1 x5_1 true (wrap64 (x7_2 + 1))) else (if (rd (rd_L2 l0 x5_1) x7_2) < 0 then (if 0 ≤ (wrap64 ((wrap64 (-(rd (rd_L2 l0 x5_1) x7_2))) - 1)) then (if (wrap64 ((wrap64 (-(rd (rd_L2 l0 x5_1) x7_2))) - 1)) < (l1.length : Int) then (proofmarkref17_Met.l1 k2 l0 l1 x5_1 (!(rdOf false l1 (wrap64 ((wrap64 (-(rd (rd_L2 l0 x5_1) x7_2))) - 1)))) (wrap64 (x7_2 + 1))) else (none)) else (none)) else (proofmarkref17_Met.l1 k2 l0 l1 x5_1 false (wrap64 (x7_2 + 1))))) else (none)) else (none)) = some r := by first | (rw [hji10] at H; exact H) | (simp only [hji10] at H ⊢; exact H)
            have hji10w : (IntKind.i64.wrap ((rd (rd_L2 l0 x5_1) x7_2) - 1)) = ji10 := (i64_w _).trans hji10
            by_cases c11 : 0 ≤ (ji10)
            ·rw [if_pos c11] at H
             have c11b0 : decide (0 ≤ (ji10)) = true := decide_eq_true c11
             clear c11
             by_cases c12 : (ji10) < (l1.length : Int)
             ·rw [if_pos c12] at H
              have c12b0 : decide ((ji10) < (l1.length : Int)) = true := decide_eq_true c12
              clear c12
              obtain ⟨bq13, hbq13⟩ : ∃ b_ : Bool, b_ = (rdOf false l1 (ji10)) := ⟨_, rfl⟩
              replace H : (if bq13 = true then (proofmarkref17_Met.l1 k2 l0 l1 x5_1 true (wrap64 (x7_2 + 1))) else (if (rd (rd_L2 l0 x5_1) x7_2) < 0 then (if 0 ≤ (wrap64 ((wrap64 (-(rd (rd_L2 l0 x5_1) x7_2))) - 1)) then (if (wrap64 ((wrap64 (-(rd (rd_L2 l0 x5_1) x7_2))) - 1)) < (l1.length : Int) then (proofmarkref17_Met.l1 k2 l0 l1 x5_1 (!(rdOf false l1 (wrap64 ((wrap64 (-(rd (rd_L2 l0 x5_1) x7_2))) - 1)))) (wrap64 (x7_2 + 1))) else (none)) else (none)) else (proofmarkref17_Met.l1 k2 l0 l1 x5_1 false (wrap64 (x7_2 + 1))))) = some r := by rw [← hbq13] at H; exact H
              have Nbq13 := Aside0.mk hbq13
              clear hbq13
              by_cases c14 : bq13 = true
              ·subst c14
               have H1 : (proofmarkref17_Met.l1 k2 l0 l1 x5_1 true (wrap64 (x7_2 + 1))) = some r := by rw [if_pos rfl] at H; exact H
               clear H
               have H := H1
               clear H1
               have H' := Aside0.mk H
               clear H
               have p382 : 0 ≤ (x5_1 : Int) := of_decide_eq_true (by first | (with_reducible assumption) | assumption)
               have q382 : x5_1 < (l0.length : Int) := of_decide_eq_true (by first | (with_reducible assumption) | assumption)
               obtain ⟨ad382, A382_0, c382_0, e382, hx382_0, hl382_0, hi382_0⟩ := at_L2 HR0.out x5_1 p382 q382
               cases e382
               have HR382_0 := Aside0.mk hi382_0
               have HC382_0 := Aside0.mk hl382_0
               clear hi382_0 hl382_0
               replace p382 := eq_true p382
               replace q382 := eq_true q382
               have p383 : 0 ≤ (x5_1 : Int) := of_decide_eq_true (by first | (with_reducible assumption) | assumption)
               have q383 : x5_1 < (l0.length : Int) := of_decide_eq_true (by first | (with_reducible assumption) | assumption)
               obtain ⟨ad383, A383_0, c383_0, e383, hx383_0, hl383_0, hi383_0⟩ := at_L2 HR0.out x5_1 p383 q383
               obtain rfl : ad382 = ad383 := (by injection e383)
               have HR383_0 := Aside0.mk hi383_0
               have HC383_0 := Aside0.mk hl383_0
               clear hi383_0 hl383_0
               replace p383 := eq_true p383
               replace q383 := eq_true q383
               have ea_ := Option.some.inj (hx382_0.symm.trans hx383_0)
               injection ea_ with ea_ en_ ec_
               subst ea_
               subst ec_
               clear en_
               have p384 : 0 ≤ (x7_2 : Int) := of_decide_eq_true (by first | (with_reducible assumption) | assumption)
               have q384 : x7_2 < ((rd_L2 l0 x5_1).length : Int) := of_decide_eq_true (by first | (with_reducible assumption) | assumption)
               obtain ⟨ad384, e384, hx384_0⟩ := Kd.at_int HR383_0.out x7_2 p384 q384
               cases e384
               replace p384 := eq_true p384
               replace q384 := eq_true q384
               have p385 : 0 ≤ ((ji10) : Int) := of_decide_eq_true (by first | (with_reducible assumption) | assumption)
               have q385 : (ji10) < (l1.length : Int) := of_decide_eq_true (by first | (with_reducible assumption) | assumption)
               obtain ⟨ad385, e385, hx385_0⟩ := Kd.at_bool HR1.out (ji10) p385 q385
               (try rw [← Nbq13.out] at hx385_0)
               cases e385
               replace p385 := eq_true p385
               replace q385 := eq_true q385
               go_wp2
               go_roundg k2
               case measure => have := HK1.out; have := HK2.out; omega
               case rel => exact ⟨(true), (wrap64 (x7_2 + 1)), (by first | rfl | (simp; done) | (simp [*]; done)), (by first | rfl | (simp; done) | (simp [*]; done)), H', ⟨by have := HK1.out; have := HK2.out; omega⟩, by repeat (first | exact Drawn0.refl _ | apply Drawn0.step)⟩
              ·replace c14 := Bool.eq_false_iff.mpr c14
               subst c14
               have H1 : (if (rd (rd_L2 l0 x5_1) x7_2) < 0 then (if 0 ≤ (wrap64 ((wrap64 (-(rd (rd_L2 l0 x5_1) x7_2))) - 1)) then (if (wrap64 ((wrap64 (-(rd (rd_L2 l0 x5_1) x7_2))) - 1)) < (l1.length : Int) then (proofmarkref17_Met.l1 k2 l0 l1 x5_1 (!(rdOf false l1 (wrap64 ((wrap64 (-(rd (rd_L2 l0 x5_1) x7_2))) - 1)))) (wrap64 (x7_2 + 1))) else (none)) else (none)) else (proofmarkref17_Met.l1 k2 l0 l1 x5_1 false (wrap64 (x7_2 + 1)))) = some r := by rw [if_neg (show ¬ (false = true) by decide)] at H; exact H
               clear H
               have H := H1
               clear H1
               by_cases c15 : (rd (rd_L2 l0 x5_1) x7_2) < 0
               ·rw [if_pos c15] at H
                have c15b0 : decide ((rd (rd_L2 l0 x5_1) x7_2) < 0) = true := decide_eq_true c15
                clear c15
                obtain ⟨ji16, hji16⟩ : ∃ j_ : Int, (wrap64 ((wrap64 (-(rd (rd_L2 l0 x5_1) x7_2))) - 1)) = j_ := ⟨_, rfl⟩
                replace H : (if 0 ≤ (ji16) then (if (ji16) < (l1.length : Int) then (proofmarkref17_Met.l1 k2 l0 l1 x5_1 (!(rdOf false l1 (ji16))) (wrap64 (x7_2 + 1))) else (none)) else (none)) = some r := by first | (rw [hji16] at H; exact H) | (simp only [hji16] at H ⊢; exact H)
                have hji16w : (IntKind.i64.wrap ((wrap64 (-(rd (rd_L2 l0 x5_1) x7_2))) - 1)) = ji16 := (i64_w _).trans hji16
                by_cases c17 : 0 ≤ (ji16)
                ·rw [if_pos c17] at H
                 have c17b0 : decide (0 ≤ (ji16)) = true := decide_eq_true c17
                 clear c17
                 by_cases c18 : (ji16) < (l1.length : Int)
                 ·rw [if_pos c18] at H
                  have c18b0 : decide ((ji16) < (l1.length : Int)) = true := decide_eq_true c18
                  clear c18
                  have H' := Aside0.mk H
                  clear H
                  have p382 : 0 ≤ (x5_1 : Int) := of_decide_eq_true (by first | (with_reducible assumption) | assumption)
                  have q382 : x5_1 < (l0.length : Int) := of_decide_eq_true (by first | (with_reducible assumption) | assumption)
                  obtain ⟨ad382, A382_0, c382_0, e382, hx382_0, hl382_0, hi382_0⟩ := at_L2 HR0.out x5_1 p382 q382
                  cases e382
                  have HR382_0 := Aside0.mk hi382_0
                  have HC382_0 := Aside0.mk hl382_0
                  clear hi382_0 hl382_0
                  replace p382 := eq_true p382
                  replace q382 := eq_true q382
                  have p383 : 0 ≤ (x5_1 : Int) := of_decide_eq_true (by first | (with_reducible assumption) | assumption)
                  have q383 : x5_1 < (l0.length : Int) := of_decide_eq_true (by first | (with_reducible assumption) | assumption)
                  obtain ⟨ad383, A383_0, c383_0, e383, hx383_0, hl383_0, hi383_0⟩ := at_L2 HR0.out x5_1 p383 q383
                  obtain rfl : ad382 = ad383 := (by injection e383)
                  have HR383_0 := Aside0.mk hi383_0
                  have HC383_0 := Aside0.mk hl383_0
                  clear hi383_0 hl383_0
                  replace p383 := eq_true p383
                  replace q383 := eq_true q383
                  have ea_ := Option.some.inj (hx382_0.symm.trans hx383_0)
                  injection ea_ with ea_ en_ ec_
                  subst ea_
                  subst ec_
                  clear en_
                  have p384 : 0 ≤ (x7_2 : Int) := of_decide_eq_true (by first | (with_reducible assumption) | assumption)
                  have q384 : x7_2 < ((rd_L2 l0 x5_1).length : Int) := of_decide_eq_true (by first | (with_reducible assumption) | assumption)
                  obtain ⟨ad384, e384, hx384_0⟩ := Kd.at_int HR383_0.out x7_2 p384 q384
                  cases e384
                  replace p384 := eq_true p384
                  replace q384 := eq_true q384
                  have p385 : 0 ≤ ((ji10) : Int) := of_decide_eq_true (by first | (with_reducible assumption) | assumption)
                  have q385 : (ji10) < (l1.length : Int) := of_decide_eq_true (by first | (with_reducible assumption) | assumption)
                  obtain ⟨ad385, e385, hx385_0⟩ := Kd.at_bool HR1.out (ji10) p385 q385
                  (try rw [← Nbq13.out] at hx385_0)
                  cases e385
                  replace p385 := eq_true p385
                  replace q385 := eq_true q385
                  have p386 : 0 ≤ ((ji16) : Int) := of_decide_eq_true (by first | (with_reducible assumption) | assumption)
                  have q386 : (ji16) < (l1.length : Int) := of_decide_eq_true (by first | (with_reducible assumption) | assumption)
                  obtain ⟨ad386, e386, hx386_0⟩ := Kd.at_bool HR1.out (ji16) p386 q386
                  (try rw [← Nbq13.out] at hx386_0)
                  obtain rfl : ad385 = ad386 := (by injection e386)
                  replace p386 := eq_true p386
                  replace q386 := eq_true q386
                  go_wp2
                  go_roundg k2
                  case measure => have := HK1.out; have := HK2.out; omega
                  case rel => exact ⟨(!(rdOf false l1 (ji16))), (wrap64 (x7_2 + 1)), (by first | rfl | (simp; done) | (simp only [← hji16] <;> (first | rfl | simp)) | (simp [*]; done)), (by first | rfl | (simp; done) | (simp [*]; done)), H', ⟨by have := HK1.out; have := HK2.out; omega⟩, by repeat (first | exact Drawn0.refl _ | apply Drawn0.step)⟩
                 ·rw [if_neg c18] at H
                  exact absurd H (by simp)
                ·rw [if_neg c17] at H
                 exact absurd H (by simp)
               ·rw [if_neg c15] at H
                have c15b0 : decide ((rd (rd_L2 l0 x5_1) x7_2) < 0) = false := decide_eq_false c15
                clear c15
                have H' := Aside0.mk H
                clear H
                have p382 : 0 ≤ (x5_1 : Int) := of_decide_eq_true (by first | (with_reducible assumption) | assumption)
                have q382 : x5_1 < (l0.length : Int) := of_decide_eq_true (by first | (with_reducible assumption) | assumption)
                obtain ⟨ad382, A382_0, c382_0, e382, hx382_0, hl382_0, hi382_0⟩ := at_L2 HR0.out x5_1 p382 q382
                cases e382
                have HR382_0 := Aside0.mk hi382_0
                have HC382_0 := Aside0.mk hl382_0
                clear hi382_0 hl382_0
                replace p382 := eq_true p382
                replace q382 := eq_true q382
                have p383 : 0 ≤ (x5_1 : Int) := of_decide_eq_true (by first | (with_reducible assumption) | assumption)
                have q383 : x5_1 < (l0.length : Int) := of_decide_eq_true (by first | (with_reducible assumption) | assumption)
                obtain ⟨ad383, A383_0, c383_0, e383, hx383_0, hl383_0, hi383_0⟩ := at_L2 HR0.out x5_1 p383 q383
                obtain rfl : ad382 = ad383 := (by injection e383)
                have HR383_0 := Aside0.mk hi383_0
                have HC383_0 := Aside0.mk hl383_0
                clear hi383_0 hl383_0
                replace p383 := eq_true p383
                replace q383 := eq_true q383
                have ea_ := Option.some.inj (hx382_0.symm.trans hx383_0)
                injection ea_ with ea_ en_ ec_
                subst ea_
                subst ec_
                clear en_
                have p384 : 0 ≤ (x7_2 : Int) := of_decide_eq_true (by first | (with_reducible assumption) | assumption)
                have q384 : x7_2 < ((rd_L2 l0 x5_1).length : Int) := of_decide_eq_true (by first | (with_reducible assumption) | assumption)
                obtain ⟨ad384, e384, hx384_0⟩ := Kd.at_int HR383_0.out x7_2 p384 q384
                cases e384
                replace p384 := eq_true p384
                replace q384 := eq_true q384
                have p385 : 0 ≤ ((ji10) : Int) := of_decide_eq_true (by first | (with_reducible assumption) | assumption)
                have q385 : (ji10) < (l1.length : Int) := of_decide_eq_true (by first | (with_reducible assumption) | assumption)
                obtain ⟨ad385, e385, hx385_0⟩ := Kd.at_bool HR1.out (ji10) p385 q385
                (try rw [← Nbq13.out] at hx385_0)
                cases e385
                replace p385 := eq_true p385
                replace q385 := eq_true q385
                go_wp2
                go_roundg k2
                case measure => have := HK1.out; have := HK2.out; omega
                case rel => exact ⟨(false), (wrap64 (x7_2 + 1)), (by first | rfl | (simp; done) | (simp [*]; done)), (by first | rfl | (simp; done) | (simp [*]; done)), H', ⟨by have := HK1.out; have := HK2.out; omega⟩, by repeat (first | exact Drawn0.refl _ | apply Drawn0.step)⟩
             ·rw [if_neg c12] at H
              exact absurd H (by simp)
            ·rw [if_neg c11] at H
             exact absurd H (by simp)
           ·rw [if_neg c9] at H
            have c9b0 : decide (0 < (rd (rd_L2 l0 x5_1) x7_2)) = false := decide_eq_false c9
            clear c9
            by_cases c19 : (rd (rd_L2 l0 x5_1) x7_2) < 0
            ·rw [if_pos c19] at H
             have c19b0 : decide ((rd (rd_L2 l0 x5_1) x7_2) < 0) = true := decide_eq_true c19
             clear c19
             obtain ⟨ji20, hji20⟩ : ∃ j_ : Int, (wrap64 ((wrap64 (-(rd (rd_L2 l0 x5_1) x7_2))) - 1)) = j_ := ⟨_, rfl⟩
             replace H : (if 0 ≤ (ji20) then (if (ji20) < (l1.length : Int) then (proofmarkref17_Met.l1 k2 l0 l1 x5_1 (!(rdOf false l1 (ji20))) (wrap64 (x7_2 + 1))) else (none)) else (none)) = some r := by first | (rw [hji20] at H; exact H) | (simp only [hji20] at H ⊢; exact H)
             have hji20w : (IntKind.i64.wrap ((wrap64 (-(rd (rd_L2 l0 x5_1) x7_2))) - 1)) = ji20 := (i64_w _).trans hji20
             by_cases c21 : 0 ≤ (ji20)
             ·rw [if_pos c21] at H
              have c21b0 : decide (0 ≤ (ji20)) = true := decide_eq_true c21
              clear c21
              by_cases c22 : (ji20) < (l1.length : Int)
              ·rw [if_pos c22] at H
               have c22b0 : decide ((ji20) < (l1.length : Int)) = true := decide_eq_true c22
               clear c22
               have H' := Aside0.mk H
               clear H
               have p382 : 0 ≤ (x5_1 : Int) := of_decide_eq_true (by first | (with_reducible assumption) | assumption)
               have q382 : x5_1 < (l0.length : Int) := of_decide_eq_true (by first | (with_reducible assumption) | assumption)
               obtain ⟨ad382, A382_0, c382_0, e382, hx382_0, hl382_0, hi382_0⟩ := at_L2 HR0.out x5_1 p382 q382
               cases e382
               have HR382_0 := Aside0.mk hi382_0
               have HC382_0 := Aside0.mk hl382_0
               clear hi382_0 hl382_0
               replace p382 := eq_true p382
               replace q382 := eq_true q382
               have p383 : 0 ≤ (x5_1 : Int) := of_decide_eq_true (by first | (with_reducible assumption) | assumption)
               have q383 : x5_1 < (l0.length : Int) := of_decide_eq_true (by first | (with_reducible assumption) | assumption)
               obtain ⟨ad383, A383_0, c383_0, e383, hx383_0, hl383_0, hi383_0⟩ := at_L2 HR0.out x5_1 p383 q383
               obtain rfl : ad382 = ad383 := (by injection e383)
               have HR383_0 := Aside0.mk hi383_0
               have HC383_0 := Aside0.mk hl383_0
               clear hi383_0 hl383_0
               replace p383 := eq_true p383
               replace q383 := eq_true q383
               have ea_ := Option.some.inj (hx382_0.symm.trans hx383_0)
               injection ea_ with ea_ en_ ec_
               subst ea_
               subst ec_
               clear en_
               have p384 : 0 ≤ (x7_2 : Int) := of_decide_eq_true (by first | (with_reducible assumption) | assumption)
               have q384 : x7_2 < ((rd_L2 l0 x5_1).length : Int) := of_decide_eq_true (by first | (with_reducible assumption) | assumption)
               obtain ⟨ad384, e384, hx384_0⟩ := Kd.at_int HR383_0.out x7_2 p384 q384
               cases e384
               replace p384 := eq_true p384
               replace q384 := eq_true q384
               have p387 : 0 ≤ ((ji20) : Int) := of_decide_eq_true (by first | (with_reducible assumption) | assumption)
               have q387 : (ji20) < (l1.length : Int) := of_decide_eq_true (by first | (with_reducible assumption) | assumption)
               obtain ⟨ad387, e387, hx387_0⟩ := Kd.at_bool HR1.out (ji20) p387 q387
               cases e387
               replace p387 := eq_true p387
               replace q387 := eq_true q387
               go_wp2
               go_roundg k2
               case measure => have := HK1.out; have := HK2.out; omega
               case rel => exact ⟨(!(rdOf false l1 (ji20))), (wrap64 (x7_2 + 1)), (by first | rfl | (simp; done) | (simp only [← hji20] <;> (first | rfl | simp)) | (simp [*]; done)), (by first | rfl | (simp; done) | (simp [*]; done)), H', ⟨by have := HK1.out; have := HK2.out; omega⟩, by repeat (first | exact Drawn0.refl _ | apply Drawn0.step)⟩
              ·rw [if_neg c22] at H
               exact absurd H (by simp)
             ·rw [if_neg c21] at H
              exact absurd H (by simp)
            ·rw [if_neg c19] at H
             have c19b0 : decide ((rd (rd_L2 l0 x5_1) x7_2) < 0) = false := decide_eq_false c19
             clear c19
             have H' := Aside0.mk H
             clear H
             have p382 : 0 ≤ (x5_1 : Int) := of_decide_eq_true (by first | (with_reducible assumption) | assumption)
             have q382 : x5_1 < (l0.length : Int) := of_decide_eq_true (by first | (with_reducible assumption) | assumption)
             obtain ⟨ad382, A382_0, c382_0, e382, hx382_0, hl382_0, hi382_0⟩ := at_L2 HR0.out x5_1 p382 q382
             cases e382
             have HR382_0 := Aside0.mk hi382_0
             have HC382_0 := Aside0.mk hl382_0
             clear hi382_0 hl382_0
             replace p382 := eq_true p382
             replace q382 := eq_true q382
             have p383 : 0 ≤ (x5_1 : Int) := of_decide_eq_true (by first | (with_reducible assumption) | assumption)
             have q383 : x5_1 < (l0.length : Int) := of_decide_eq_true (by first | (with_reducible assumption) | assumption)
             obtain ⟨ad383, A383_0, c383_0, e383, hx383_0, hl383_0, hi383_0⟩ := at_L2 HR0.out x5_1 p383 q383
             obtain rfl : ad382 = ad383 := (by injection e383)
             have HR383_0 := Aside0.mk hi383_0
             have HC383_0 := Aside0.mk hl383_0
             clear hi383_0 hl383_0
             replace p383 := eq_true p383
             replace q383 := eq_true q383
             have ea_ := Option.some.inj (hx382_0.symm.trans hx383_0)
             injection ea_ with ea_ en_ ec_
             subst ea_
             subst ec_
             clear en_
             have p384 : 0 ≤ (x7_2 : Int) := of_decide_eq_true (by first | (with_reducible assumption) | assumption)
             have q384 : x7_2 < ((rd_L2 l0 x5_1).length : Int) := of_decide_eq_true (by first | (with_reducible assumption) | assumption)
             obtain ⟨ad384, e384, hx384_0⟩ := Kd.at_int HR383_0.out x7_2 p384 q384
             cases e384
             replace p384 := eq_true p384
             replace q384 := eq_true q384
             go_wp2
             go_roundg k2
             case measure => have := HK1.out; have := HK2.out; omega
             case rel => exact ⟨(false), (wrap64 (x7_2 + 1)), (by first | rfl | (simp; done) | (simp [*]; done)), (by first | rfl | (simp; done) | (simp [*]; done)), H', ⟨by have := HK1.out; have := HK2.out; omega⟩, by repeat (first | exact Drawn0.refl _ | apply Drawn0.step)⟩
         ·rw [if_neg c7] at H
          exact absurd H (by simp)
        ·rw [if_neg c6] at H
         have c6b0 : decide (x7_2 < ((rd_L2 l0 x5_1).length : Int)) = false := decide_eq_false c6
         clear c6
         by_cases c23 : x6_2 = true
         ·subst c23
          have H1 : (proofmarkref17_Met.l0 k2 l0 l1 (wrap64 (x5_1 + 1))) = some r := by rw [if_pos rfl] at H; exact H
          clear H
          have H := H1
          clear H1
          have H' := Aside0.mk H
          clear H
          have p382 : 0 ≤ (x5_1 : Int) := of_decide_eq_true (by first | (with_reducible assumption) | assumption)
          have q382 : x5_1 < (l0.length : Int) := of_decide_eq_true (by first | (with_reducible assumption) | assumption)
          obtain ⟨ad382, A382_0, c382_0, e382, hx382_0, hl382_0, hi382_0⟩ := at_L2 HR0.out x5_1 p382 q382
          cases e382
          have HR382_0 := Aside0.mk hi382_0
          have HC382_0 := Aside0.mk hl382_0
          clear hi382_0 hl382_0
          replace p382 := eq_true p382
          replace q382 := eq_true q382
          go_wp2
          go_roundg k2
          case measure => have := HK1.out; have := HK2.out; omega
          case rel => exact ⟨(wrap64 (x5_1 + 1)), (by first | rfl | (simp; done) | (simp [*]; done)), H', ⟨by have := HK1.out; have := HK2.out; omega⟩, by repeat (first | exact Drawn0.refl _ | apply Drawn0.step)⟩
         ·replace c23 := Bool.eq_false_iff.mpr c23
          subst c23
          have H1 : (some false) = some r := by rw [if_neg (show ¬ (false = true) by decide)] at H; exact H
          clear H
          have H := H1
          clear H1
          obtain rfl := Option.some.inj H
          have p382 : 0 ≤ (x5_1 : Int) := of_decide_eq_true (by first | (with_reducible assumption) | assumption)
          have q382 : x5_1 < (l0.length : Int) := of_decide_eq_true (by first | (with_reducible assumption) | assumption)
          obtain ⟨ad382, A382_0, c382_0, e382, hx382_0, hl382_0, hi382_0⟩ := at_L2 HR0.out x5_1 p382 q382
          cases e382
          have HR382_0 := Aside0.mk hi382_0
          have HC382_0 := Aside0.mk hl382_0
          clear hi382_0 hl382_0
          replace p382 := eq_true p382
          replace q382 := eq_true q382
          go_wp2
          go_ret
          exact ⟨by first | rfl | (simp; done) | (simp [*]; done), by repeat (first | exact Drawn0.refl _ | apply Drawn0.step)⟩
       ·rw [if_neg c5] at H
        exact absurd H (by simp)
      ·rw [if_neg c4] at H
       exact absurd H (by simp)
   ·rw [if_neg c3] at H
    have c3b0 : decide (x5_1 < (l0.length : Int)) = false := decide_eq_false c3
    clear c3
    obtain rfl := Option.some.inj H
    go_wp2
    go_ret
    exact ⟨by first | rfl | (simp; done) | (simp [*]; done), by repeat (first | exact Drawn0.refl _ | apply Drawn0.step)⟩
end Go.Proofs.Ytdfbnlmjnollnaa.Xb
