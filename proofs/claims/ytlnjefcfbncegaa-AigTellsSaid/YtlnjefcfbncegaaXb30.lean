/- Slimmed by this session: what nothing names is struck out. -/
import Derived.Test.YtlnjefcfbncegaaXb0
namespace Go.Proofs.Ytlnjefcfbncegaa.Xb
open Go.RowKit Go.Proofs.YtlnjefcfbncegaaW.PrintWords Go.Proofs.YtlnjefcfbncegaaW.PrintLast Go.Proofs.YtlnjefcfbncegaaW.PrintMore
attribute [local go_sem] max2_int min2_int max_two min_two max_three min_three max_four min_four
set_option linter.unusedVariables false
set_option linter.unusedSimpArgs false
def proofmarkref13_Lit.f (l0 : List Bool) (a1 : Int) : Option (Bool) := if 0 ≤ (wrap64 (Int.tdiv a1 2)) then (if (wrap64 (Int.tdiv a1 2)) < (l0.length : Int) then (some ((rdOf false l0 (wrap64 (Int.tdiv a1 2))) != ((Int.tmod a1 2) == 1))) else (none)) else (none)
set_option maxHeartbeats 8000000 in
set_option maxRecDepth 100000 in
theorem proofmarkref13_Lit.calls (A0 : Option Addr) (c0 : Nat) (l0 : List Bool) (a1 : Int) (r : Bool) (w : World) (hr0 : Kd.C Kd.bool w A0 l0.length l0) (hc0 : l0.length ≤ c0) (h : proofmarkref13_Lit.f l0 a1 = some r) :
  Calls Try.prog 30 #[.slice A0 l0.length c0, .int .i64 a1] w fun e w' => e = .returned (.bool r) ∧ Drawn0 w w' := by
 have HR0 := Aside0.mk hr0
 have HC0 := Aside0.mk hc0
 clear hr0 hc0
 have H : (if 0 ≤ (wrap64 (Int.tdiv a1 2)) then (if (wrap64 (Int.tdiv a1 2)) < (l0.length : Int) then (some ((rdOf false l0 (wrap64 (Int.tdiv a1 2))) != ((Int.tmod a1 2) == 1))) else (none)) else (none)) = some r := h
 clear h
 obtain ⟨ji3, hji3⟩ : ∃ j_ : Int, (wrap64 (Int.tdiv a1 2)) = j_ := ⟨_, rfl⟩
 replace H : (if 0 ≤ (ji3) then (if (ji3) < (l0.length : Int) then (some ((rdOf false l0 (ji3)) != ((Int.tmod a1 2) == 1))) else (none)) else (none)) = some r := by first | (rw [hji3] at H; exact H) | (simp only [hji3] at H ⊢; exact H)
 have hji3w : (IntKind.i64.wrap (Int.tdiv a1 2)) = ji3 := (i64_w _).trans hji3
 by_cases c4 : 0 ≤ (ji3)
 ·rw [if_pos c4] at H
  have c4b0 : decide (0 ≤ (ji3)) = true := decide_eq_true c4
  clear c4
  by_cases c5 : (ji3) < (l0.length : Int)
  ·rw [if_pos c5] at H
   have c5b0 : decide ((ji3) < (l0.length : Int)) = true := decide_eq_true c5
   clear c5
   obtain rfl := Option.some.inj H
   have p343 : 0 ≤ ((ji3) : Int) := of_decide_eq_true (by first | (with_reducible assumption) | assumption)
   have q343 : (ji3) < (l0.length : Int) := of_decide_eq_true (by first | (with_reducible assumption) | assumption)
   obtain ⟨ad343, e343, hx343_0⟩ := Kd.at_bool HR0.out (ji3) p343 q343
   cases e343
   replace p343 := eq_true p343
   replace q343 := eq_true q343
   go_enter Try.func30, Try.ntmps30
   go_wp2
   go_ret
   exact ⟨by first | rfl | (simp; done) | (simp only [← hji3] <;> (first | rfl | (simp; done))) | (simp [*]; done), by repeat (first | exact Drawn0.refl _ | apply Drawn0.step)⟩
  ·rw [if_neg c5] at H
   exact absurd H (by simp)
 ·rw [if_neg c4] at H
  exact absurd H (by simp)
end Go.Proofs.Ytlnjefcfbncegaa.Xb
