/- Slimmed by this session: what nothing names is struck out. -/
import Derived.Test.YteblbknmikieoaaXb0
import Derived.Test.YteblbknmikieoaaXbZ
namespace Go.Proofs.Yteblbknmikieoaa.Xb
open Go.RowKit Go.Proofs.YteblbknmikieoaaW.PrintWords Go.Proofs.YteblbknmikieoaaW.PrintLast Go.Proofs.YteblbknmikieoaaW.PrintMore
set_option maxHeartbeats 8000000
set_option maxRecDepth 100000
set_option linter.unusedVariables false
set_option linter.unusedSimpArgs false
attribute [local go_sem] max2_int min2_int max_two min_two max_three min_three max_four min_four
theorem eqA41 (d : Nat) (w : World) (x0 y0 : Int) (x1 y1 : Int) (x2 y2 : Int) (x3 y3 : Int) (x4 y4 : Int) (x5 y5 : Int) (x6 y6 : Int) :
  (Op.equalIn (d + 2) 41 (.agg #[.int .i64 x0, .int .i64 x1, .int .i64 x2, .int .i64 x3, .int .i64 x4, .int .i64 x5, .int .i64 x6]) (.agg #[.int .i64 y0, .int .i64 y1, .int .i64 y2, .int .i64 y3, .int .i64 y4, .int .i64 y5, .int .i64 y6])).run Try.prog w = .ok (x0 == y0 && (x1 == y1 && (x2 == y2 && (x3 == y3 && (x4 == y4 && (x5 == y5 && (x6 == y6))))))) w := by
 refine eqA_of Try.underlying41 (by kernel_rfl) ?_; refine eqf_cons (by rfl) (by go_simp; rfl) (by go_simp; rfl) (by go_simp) ?_; refine eqf_cons (by rfl) (by go_simp; rfl) (by go_simp; rfl) (by go_simp) ?_; refine eqf_cons (by rfl) (by go_simp; rfl) (by go_simp; rfl) (by go_simp) ?_; refine eqf_cons (by rfl) (by go_simp; rfl) (by go_simp; rfl) (by go_simp) ?_; refine eqf_cons (by rfl) (by go_simp; rfl) (by go_simp; rfl) (by go_simp) ?_; refine eqf_cons (by rfl) (by go_simp; rfl) (by go_simp; rfl) (by go_simp) ?_; exact eqf_last (by rfl) (by go_simp; rfl) (by go_simp; rfl) (by go_simp)
theorem eqA43 (d : Nat) (w : World) (x0 y0 : ByteArray) (x1 y1 : Int) (x2 y2 : Int) (x3 y3 : Int) :
  (Op.equalIn (d + 2) 43 (.agg #[.string x0, .int .i64 x1, .int .i64 x2, .int .i64 x3]) (.agg #[.string y0, .int .i64 y1, .int .i64 y2, .int .i64 y3])).run Try.prog w = .ok (x0.toList == y0.toList && (x1 == y1 && (x2 == y2 && (x3 == y3)))) w := by
 refine eqA_of Try.underlying43 (by kernel_rfl) ?_; refine eqf_cons (by rfl) (by go_simp; rfl) (by go_simp; rfl) (by go_simp) ?_; refine eqf_cons (by rfl) (by go_simp; rfl) (by go_simp; rfl) (by go_simp) ?_; refine eqf_cons (by rfl) (by go_simp; rfl) (by go_simp; rfl) (by go_simp) ?_; exact eqf_last (by rfl) (by go_simp; rfl) (by go_simp; rfl) (by go_simp)
theorem eqA47 (d : Nat) (w : World) (x0 y0 : ByteArray) (x1 y1 : Int) :
  (Op.equalIn (d + 2) 47 (.agg #[.string x0, .int .i64 x1]) (.agg #[.string y0, .int .i64 y1])).run Try.prog w = .ok (x0.toList == y0.toList && (x1 == y1)) w := by
 refine eqA_of Try.underlying47 (by kernel_rfl) ?_; refine eqf_cons (by rfl) (by go_simp; rfl) (by go_simp; rfl) (by go_simp) ?_; exact eqf_last (by rfl) (by go_simp; rfl) (by go_simp; rfl) (by go_simp)
theorem eqA61 (d : Nat) (w : World) (x0 y0 : Int) (x1 y1 : ByteArray) (x2 y2 : Int) :
  (Op.equalIn (d + 2) 61 (.agg #[.int .i64 x0, .string x1, .int .i64 x2]) (.agg #[.int .i64 y0, .string y1, .int .i64 y2])).run Try.prog w = .ok (x0 == y0 && (x1.toList == y1.toList && (x2 == y2))) w := by
 refine eqA_of Try.underlying61 (by kernel_rfl) ?_; refine eqf_cons (by rfl) (by go_simp; rfl) (by go_simp; rfl) (by go_simp) ?_; refine eqf_cons (by rfl) (by go_simp; rfl) (by go_simp; rfl) (by go_simp) ?_; exact eqf_last (by rfl) (by go_simp; rfl) (by go_simp; rfl) (by go_simp)
def vec_works_1.f (a0_0 : Int) (a0_1 : Int) (a0_2 : Int) (a0_3 : Int) (a0_4 : Int) (a0_5 : Int) (a0_6 : Int) (a1 : Int) (a2 : Int) (a3 : Int) (a4 : Int) : Option (Int) := some a0_5
theorem vec_works_1.calls (a0_0 : Int) (a0_1 : Int) (a0_2 : Int) (a0_3 : Int) (a0_4 : Int) (a0_5 : Int) (a0_6 : Int) (a1 : Int) (a2 : Int) (a3 : Int) (a4 : Int) (r : Int) (w : World) (h : vec_works_1.f a0_0 a0_1 a0_2 a0_3 a0_4 a0_5 a0_6 a1 a2 a3 a4 = some r) :
  Calls Try.prog 67 #[.agg #[.int .i64 a0_0, .int .i64 a0_1, .int .i64 a0_2, .int .i64 a0_3, .int .i64 a0_4, .int .i64 a0_5, .int .i64 a0_6], .int .i64 a1, .int .i64 a2, .int .i64 a3, .int .i64 a4] w fun e w' => e = .returned (.int .i64 r) ∧ Below w.heap.size w w' := by
 have hu1 := Try.underlying41; have HB := aM (Below.refl w.heap.size w); have H : (some a0_5) = some r := h; clear h; obtain rfl := Option.some.inj H; go_enter Try.func67, Try.ntmps67
 go_wp2_with (first | ((with_reducible refine zgd 5 rfl ?_); refine zbox 5 #[.int .i64 a0_0, .int .i64 a0_1, .int .i64 a0_2, .int .i64 a0_3, .int .i64 a0_4, .int .i64 a0_5, .int .i64 a0_6] 41 ?_; intro gb1 hg w1 hbox hb; have BK1 := aM (hbox); have GW1 := aM ((q7z HB : w.heap.size ≤ gb1)); have GE1 := aM ((q7z HB : w.heap.size ≤ gb1)); replace HB := aM (ym (q5z HB) hb); clear hb hbox hg; obtain ⟨i1_0, i1_1, i1_2, i1_3, i1_4, i1_5, i1_6, j1_0, j1_1, j1_2, j1_3, j1_4, j1_5, j1_6⟩ := cells7 BK1.out))
 go_ret
 exact ⟨q11z, q4z HB GE1⟩
def vec_works_2.f (a0 : Int) (a1 : Int) : Option (Int) := some (Go.bits .xor .i64 (-1) a0)
theorem vec_works_2.calls (a0 : Int) (a1 : Int) (r : Int) (w : World) (h : vec_works_2.f a0 a1 = some r) :
  Calls Try.prog 69 #[.int .i64 a0, .int .i64 a1] w fun e w' => e = .returned (.int .i64 r) ∧ Drawn0 w w' := by
 have H : (some (Go.bits .xor .i64 (-1) a0)) = some r := h; clear h; obtain rfl := Option.some.inj H; go_enter Try.func69, Try.ntmps69
 go_wp2
 go_ret
 exact ⟨q13z, q21z⟩
def vec_works_3.f (a0 : Int) (a1 : Int) : Option (Bool) := some (a0 != 0)
theorem vec_works_3.calls (a0 : Int) (a1 : Int) (r : Bool) (w : World) (h : vec_works_3.f a0 a1 = some r) :
  Calls Try.prog 71 #[.int .i64 a0, .int .i64 a1] w fun e w' => e = .returned (.bool r) ∧ Drawn0 w w' := by
 have H : (some (a0 != 0)) = some r := h; clear h; obtain rfl := Option.some.inj H; go_enter Try.func71, Try.ntmps71
 go_wp2
 go_ret
 exact ⟨q13z, q21z⟩
def vec_Mask.f (a0 : Int) : Option (Int) := if 0 ≤ a0 then (some (wrap64 ((shl .i64 1 a0) - 1))) else (none)
theorem vec_Mask.calls (a0 : Int) (r : Int) (w : World) (h : vec_Mask.f a0 = some r) :
  Calls Try.prog 49 #[.int .i64 a0] w fun e w' => e = .returned (.int .i64 r) ∧ Drawn0 w w' := by
 have H : (if 0 ≤ a0 then (some (wrap64 ((shl .i64 1 a0) - 1))) else (none)) = some r := h; clear h; by_cases c1 : 0 ≤ a0
 ·rw [if_pos c1] at H; have c1b0 := eq_true c1; have c1b1 : decide (0 ≤ a0) = true := decide_eq_true c1; clear c1; obtain ⟨ji1, hji1⟩ : ∃ j_ : Int, (shl .i64 1 a0) = j_ := ⟨_, rfl⟩; replace H : (some (wrap64 ((ji1) - 1))) = some r := by first | (rw [hji1] at H; exact H) | (simp only [hji1] at H ⊢; exact H)
  have hji1_ : (IntKind.i64.wrap (1 * 2 ^ min a0.toNat 64)) = ji1 := hji1; have hji1z : a0 ≤ 64 → (IntKind.i64.wrap (1 * 2 ^ a0.toNat)) = ji1 := shl_small hji1; have hji1u : (IntKind.i64.wrap (2 ^ min a0.toNat 64)) = ji1 := by have h_ := hji1_; rw [Int.one_mul] at h_; exact h_
  have hji1v : a0 ≤ 64 → (IntKind.i64.wrap (2 ^ a0.toNat)) = ji1 := fun hle_ => by have h_ := hji1z hle_; rw [Int.one_mul] at h_; exact h_
  have hji1y : (wrap64 (1 * 2 ^ min a0.toNat 64)) = ji1 := (i64_w _).symm.trans hji1_; have hji1x : a0 ≤ 64 → (wrap64 (1 * 2 ^ a0.toNat)) = ji1 := fun h_ => (i64_w _).symm.trans (hji1z h_)
  obtain rfl := Option.some.inj H; go_enter Try.func49, Try.ntmps49
  go_wp2
  go_ret
  exact ⟨q86z, q21z⟩
 ·rw [if_neg c1] at H; exact absurd H (by simp)
def vec_flag.f (a0 : Bool) : Option (Int) := if a0 = true then (some 1) else (some 0)
theorem z9_1 {P : Prop} (h : P := by
 clear H; have H := H1; clear H1; obtain rfl := Option.some.inj H; go_enter Try.func73, Try.ntmps73
 go_wp2
 go_ret
 exact ⟨q13z, q21z⟩) : P := h
theorem vec_flag.calls (a0 : Bool) (r : Int) (w : World) (h : vec_flag.f a0 = some r) :
  Calls Try.prog 73 #[.bool a0] w fun e w' => e = .returned (.int .i64 r) ∧ Drawn0 w w' := by
 have H : (if a0 = true then (some 1) else (some 0)) = some r := h; clear h; by_cases c1 : a0 = true
 ·subst c1; have H1 : (some 1) = some r := by rw [if_pos rfl] at H; exact H
  exact z9_1
 ·replace c1 := Bool.eq_false_iff.mpr c1; subst c1; have H1 : (some 0) = some r := by rw [if_neg (show ¬ (false = true) by decide)] at H; exact H
  exact z9_1
def vec_works_4.f (a0_0 : Int) (a0_1 : Int) (a0_2 : Int) (a0_3 : Int) (a0_4 : Int) (a0_5 : Int) (a0_6 : Int) (a1 : Int) (a2 : Int) (a3 : Int) (a4 : Int) : Option (Int) := (vec_Mask.f a0_6).bind fun t103 => ((vec_flag.f (a1 == t103)).bind fun t104 => (some t104))
theorem vec_works_4.calls (a0_0 : Int) (a0_1 : Int) (a0_2 : Int) (a0_3 : Int) (a0_4 : Int) (a0_5 : Int) (a0_6 : Int) (a1 : Int) (a2 : Int) (a3 : Int) (a4 : Int) (r : Int) (w : World) (h : vec_works_4.f a0_0 a0_1 a0_2 a0_3 a0_4 a0_5 a0_6 a1 a2 a3 a4 = some r) :
  Calls Try.prog 72 #[.agg #[.int .i64 a0_0, .int .i64 a0_1, .int .i64 a0_2, .int .i64 a0_3, .int .i64 a0_4, .int .i64 a0_5, .int .i64 a0_6], .int .i64 a1, .int .i64 a2, .int .i64 a3, .int .i64 a4] w fun e w' => e = .returned (.int .i64 r) ∧ Below w.heap.size w w' := by
 have hu1 := Try.underlying41; have HB := aM (Below.refl w.heap.size w); have H : ((vec_Mask.f a0_6).bind fun t1 => ((vec_flag.f (a1 == t1)).bind fun t2 => (some t2))) = some r := h; clear h; replace H := Option.bind_eq_some_iff.mp H; obtain ⟨t1, A1, H⟩ := H; have A2 := aM A1; clear A1; replace H := Option.bind_eq_some_iff.mp H; obtain ⟨t2, A1, H⟩ := H; have A3 := aM A1; clear A1; obtain rfl := Option.some.inj H; go_enter Try.func72, Try.ntmps72
 go_wp2_with (first | ((with_reducible refine zgd 5 rfl ?_); refine zbox 5 #[.int .i64 a0_0, .int .i64 a0_1, .int .i64 a0_2, .int .i64 a0_3, .int .i64 a0_4, .int .i64 a0_5, .int .i64 a0_6] 41 ?_; intro gb1 hg w1 hbox hb; have BK1 := aM (hbox); have GW1 := aM ((q7z HB : w.heap.size ≤ gb1)); have GE1 := aM ((q7z HB : w.heap.size ≤ gb1)); replace HB := aM (ym (q5z HB) hb); clear hb hbox hg; obtain ⟨i1_0, i1_1, i1_2, i1_3, i1_4, i1_5, i1_6, j1_0, j1_1, j1_2, j1_3, j1_4, j1_5, j1_6⟩ := cells7 BK1.out) | ((with_reducible refine zgc 49 rfl ?_); refine zgl (some 14) Try.func49 #[.int .i64 a0_6] ?_; (with_reducible refine (vec_Mask.calls a0_6 t1 _ A2.out).mono ?_); rintro e w' ⟨rfl, ⟨nd, rfl⟩⟩; refine ⟨_, rfl, ?_⟩) | ((with_reducible refine zgc 73 rfl ?_); refine zgl (some 16) Try.func73 #[.bool (a1 == t1)] ?_; (with_reducible refine (vec_flag.calls (a1 == t1) t2 _ A3.out).mono ?_); rintro e w' ⟨rfl, ⟨nd, rfl⟩⟩; refine ⟨_, rfl, ?_⟩))
 go_ret
 exact ⟨q11z, q4z HB GE1⟩
def vec_works_5.f (a0 : Int) (a1 : Int) : Option (Int) := some (Go.bits .and .i64 a0 a1)
theorem vec_works_5.calls (a0 : Int) (a1 : Int) (r : Int) (w : World) (h : vec_works_5.f a0 a1 = some r) :
  Calls Try.prog 74 #[.int .i64 a0, .int .i64 a1] w fun e w' => e = .returned (.int .i64 r) ∧ Drawn0 w w' := by
 have H : (some (Go.bits .and .i64 a0 a1)) = some r := h; clear h; obtain rfl := Option.some.inj H; go_enter Try.func74, Try.ntmps74
 go_wp2
 go_ret
 exact ⟨q13z, q21z⟩
def vec_works_6.f (a0 : Int) (a1 : Int) : Option (Int) := some (Go.bits .or .i64 a0 a1)
theorem vec_works_6.calls (a0 : Int) (a1 : Int) (r : Int) (w : World) (h : vec_works_6.f a0 a1 = some r) :
  Calls Try.prog 75 #[.int .i64 a0, .int .i64 a1] w fun e w' => e = .returned (.int .i64 r) ∧ Drawn0 w w' := by
 have H : (some (Go.bits .or .i64 a0 a1)) = some r := h; clear h; obtain rfl := Option.some.inj H; go_enter Try.func75, Try.ntmps75
 go_wp2
 go_ret
 exact ⟨q13z, q21z⟩
def vec_works_7.f (a0 : Int) (a1 : Int) : Option (Int) := some (Go.bits .xor .i64 a0 a1)
theorem vec_works_7.calls (a0 : Int) (a1 : Int) (r : Int) (w : World) (h : vec_works_7.f a0 a1 = some r) :
  Calls Try.prog 76 #[.int .i64 a0, .int .i64 a1] w fun e w' => e = .returned (.int .i64 r) ∧ Drawn0 w w' := by
 have H : (some (Go.bits .xor .i64 a0 a1)) = some r := h; clear h; obtain rfl := Option.some.inj H; go_enter Try.func76, Try.ntmps76
 go_wp2
 go_ret
 exact ⟨q13z, q21z⟩
def vec_works_8.f (a0 : Int) (a1 : Int) : Option (Int) := some (wrap64 (a0 + a1))
theorem vec_works_8.calls (a0 : Int) (a1 : Int) (r : Int) (w : World) (h : vec_works_8.f a0 a1 = some r) :
  Calls Try.prog 77 #[.int .i64 a0, .int .i64 a1] w fun e w' => e = .returned (.int .i64 r) ∧ Drawn0 w w' := by
 have H : (some (wrap64 (a0 + a1))) = some r := h; clear h; obtain rfl := Option.some.inj H; go_enter Try.func77, Try.ntmps77
 go_wp2
 go_ret
 exact ⟨q13z, q21z⟩
def vec_works_9.f (a0 : Int) (a1 : Int) : Option (Int) := some (wrap64 (a0 - a1))
theorem vec_works_9.calls (a0 : Int) (a1 : Int) (r : Int) (w : World) (h : vec_works_9.f a0 a1 = some r) :
  Calls Try.prog 78 #[.int .i64 a0, .int .i64 a1] w fun e w' => e = .returned (.int .i64 r) ∧ Drawn0 w w' := by
 have H : (some (wrap64 (a0 - a1))) = some r := h; clear h; obtain rfl := Option.some.inj H; go_enter Try.func78, Try.ntmps78
 go_wp2
 go_ret
 exact ⟨q13z, q21z⟩
def vec_works_10.f (a0 : Int) (a1 : Int) : Option (Int) := some (wrap64 (a0 * a1))
theorem vec_works_10.calls (a0 : Int) (a1 : Int) (r : Int) (w : World) (h : vec_works_10.f a0 a1 = some r) :
  Calls Try.prog 79 #[.int .i64 a0, .int .i64 a1] w fun e w' => e = .returned (.int .i64 r) ∧ Drawn0 w w' := by
 have H : (some (wrap64 (a0 * a1))) = some r := h; clear h; obtain rfl := Option.some.inj H; go_enter Try.func79, Try.ntmps79
 go_wp2
 go_ret
 exact ⟨q13z, q21z⟩
def vec_works_11.f (a0 : Int) (a1 : Int) : Option (Bool) := some (a0 == a1)
theorem vec_works_11.calls (a0 : Int) (a1 : Int) (r : Bool) (w : World) (h : vec_works_11.f a0 a1 = some r) :
  Calls Try.prog 80 #[.int .i64 a0, .int .i64 a1] w fun e w' => e = .returned (.bool r) ∧ Drawn0 w w' := by
 have H : (some (a0 == a1)) = some r := h; clear h; obtain rfl := Option.some.inj H; go_enter Try.func80, Try.ntmps80
 go_wp2
 go_ret
 exact ⟨q13z, q21z⟩
def vec_works_12.f (a0 : Int) (a1 : Int) : Option (Bool) := some (a0 != a1)
theorem vec_works_12.calls (a0 : Int) (a1 : Int) (r : Bool) (w : World) (h : vec_works_12.f a0 a1 = some r) :
  Calls Try.prog 81 #[.int .i64 a0, .int .i64 a1] w fun e w' => e = .returned (.bool r) ∧ Drawn0 w w' := by
 have H : (some (a0 != a1)) = some r := h; clear h; obtain rfl := Option.some.inj H; go_enter Try.func81, Try.ntmps81
 go_wp2
 go_ret
 exact ⟨q13z, q21z⟩
def vec_works_13.f (a0 : Int) (a1 : Int) : Option (Bool) := some (decide (a0 < a1))
theorem vec_works_13.calls (a0 : Int) (a1 : Int) (r : Bool) (w : World) (h : vec_works_13.f a0 a1 = some r) :
  Calls Try.prog 82 #[.int .i64 a0, .int .i64 a1] w fun e w' => e = .returned (.bool r) ∧ Drawn0 w w' := by
 have H : (some (decide (a0 < a1))) = some r := h; clear h; obtain rfl := Option.some.inj H; go_enter Try.func82, Try.ntmps82
 go_wp2
 go_ret
 exact ⟨q13z, q21z⟩
def vec_works_14.f (a0 : Int) (a1 : Int) : Option (Bool) := some (decide (a0 ≤ a1))
theorem vec_works_14.calls (a0 : Int) (a1 : Int) (r : Bool) (w : World) (h : vec_works_14.f a0 a1 = some r) :
  Calls Try.prog 83 #[.int .i64 a0, .int .i64 a1] w fun e w' => e = .returned (.bool r) ∧ Drawn0 w w' := by
 have H : (some (decide (a0 ≤ a1))) = some r := h; clear h; obtain rfl := Option.some.inj H; go_enter Try.func83, Try.ntmps83
 go_wp2
 go_ret
 exact ⟨q13z, q21z⟩
def vec_works_15.f (a0_0 : Int) (a0_1 : Int) (a0_2 : Int) (a0_3 : Int) (a0_4 : Int) (a0_5 : Int) (a0_6 : Int) (a1 : Int) (a2 : Int) (a3 : Int) (a4 : Int) : Option (Int) := if a1 = 1 then (some a2) else (some a3)
theorem z21_1 {P : Prop} (h : P := by
 obtain rfl := Option.some.inj H; go_enter Try.func84, Try.ntmps84
 go_wp2_with (first | ((with_reducible refine zgd 5 rfl ?_); refine zbox 5 #[.int .i64 a0_0, .int .i64 a0_1, .int .i64 a0_2, .int .i64 a0_3, .int .i64 a0_4, .int .i64 a0_5, .int .i64 a0_6] 41 ?_; intro gb1 hg w1 hbox hb; have BK1 := aM (hbox); have GW1 := aM ((q7z HB : w.heap.size ≤ gb1)); have GE1 := aM ((q7z HB : w.heap.size ≤ gb1)); replace HB := aM (ym (q5z HB) hb); clear hb hbox hg))
 go_ret
 exact ⟨q11z, q4z HB GE1⟩) : P := h
theorem vec_works_15.calls (a0_0 : Int) (a0_1 : Int) (a0_2 : Int) (a0_3 : Int) (a0_4 : Int) (a0_5 : Int) (a0_6 : Int) (a1 : Int) (a2 : Int) (a3 : Int) (a4 : Int) (r : Int) (w : World) (h : vec_works_15.f a0_0 a0_1 a0_2 a0_3 a0_4 a0_5 a0_6 a1 a2 a3 a4 = some r) :
  Calls Try.prog 84 #[.agg #[.int .i64 a0_0, .int .i64 a0_1, .int .i64 a0_2, .int .i64 a0_3, .int .i64 a0_4, .int .i64 a0_5, .int .i64 a0_6], .int .i64 a1, .int .i64 a2, .int .i64 a3, .int .i64 a4] w fun e w' => e = .returned (.int .i64 r) ∧ Below w.heap.size w w' := by
 have hu1 := Try.underlying41; have HB := aM (Below.refl w.heap.size w); have H : (if a1 = 1 then (some a2) else (some a3)) = some r := h; clear h; by_cases c1 : a1 = 1
 ·rw [if_pos c1] at H; obtain ⟨c1b0, c1b1⟩ := zeq c1; clear c1; exact z21_1
 ·rw [if_neg c1] at H; obtain ⟨c1b0, c1b1⟩ := zne c1; exact z21_1
def vec_works_16.f (a0_0 : Int) (a0_1 : Int) (a0_2 : Int) (a0_3 : Int) (a0_4 : Int) (a0_5 : Int) (a0_6 : Int) (a1 : Int) (a2 : Int) (a3 : Int) (a4 : Int) : Option (Int) := if 0 ≤ a4 then (some (Go.bits .or .i64 (shl .i64 a1 a4) a2)) else (none)
theorem vec_works_16.calls (a0_0 : Int) (a0_1 : Int) (a0_2 : Int) (a0_3 : Int) (a0_4 : Int) (a0_5 : Int) (a0_6 : Int) (a1 : Int) (a2 : Int) (a3 : Int) (a4 : Int) (r : Int) (w : World) (h : vec_works_16.f a0_0 a0_1 a0_2 a0_3 a0_4 a0_5 a0_6 a1 a2 a3 a4 = some r) :
  Calls Try.prog 85 #[.agg #[.int .i64 a0_0, .int .i64 a0_1, .int .i64 a0_2, .int .i64 a0_3, .int .i64 a0_4, .int .i64 a0_5, .int .i64 a0_6], .int .i64 a1, .int .i64 a2, .int .i64 a3, .int .i64 a4] w fun e w' => e = .returned (.int .i64 r) ∧ Below w.heap.size w w' := by
 have hu1 := Try.underlying41; have HB := aM (Below.refl w.heap.size w); have H : (if 0 ≤ a4 then (some (Go.bits .or .i64 (shl .i64 a1 a4) a2)) else (none)) = some r := h; clear h; by_cases c1 : 0 ≤ a4
 ·rw [if_pos c1] at H; have c1b0 := eq_true c1; have c1b1 : decide (0 ≤ a4) = true := decide_eq_true c1; clear c1; obtain ⟨ji1, hji1⟩ : ∃ j_ : Int, (shl .i64 a1 a4) = j_ := ⟨_, rfl⟩; replace H : (some (Go.bits .or .i64 (ji1) a2)) = some r := by first | (rw [hji1] at H; exact H) | (simp only [hji1] at H ⊢; exact H)
  have hji1_ : (IntKind.i64.wrap (a1 * 2 ^ min a4.toNat 64)) = ji1 := hji1; have hji1z : a4 ≤ 64 → (IntKind.i64.wrap (a1 * 2 ^ a4.toNat)) = ji1 := shl_small hji1; have hji1y : (wrap64 (a1 * 2 ^ min a4.toNat 64)) = ji1 := (i64_w _).symm.trans hji1_; have hji1x : a4 ≤ 64 → (wrap64 (a1 * 2 ^ a4.toNat)) = ji1 := fun h_ => (i64_w _).symm.trans (hji1z h_)
  obtain rfl := Option.some.inj H; go_enter Try.func85, Try.ntmps85
  go_wp2_with (first | ((with_reducible refine zgd 5 rfl ?_); refine zbox 5 #[.int .i64 a0_0, .int .i64 a0_1, .int .i64 a0_2, .int .i64 a0_3, .int .i64 a0_4, .int .i64 a0_5, .int .i64 a0_6] 41 ?_; intro gb1 hg w1 hbox hb; have BK1 := aM (hbox); have GW1 := aM ((q7z HB : w.heap.size ≤ gb1)); have GE1 := aM ((q7z HB : w.heap.size ≤ gb1)); replace HB := aM (ym (q5z HB) hb); clear hb hbox hg))
  go_ret
  exact ⟨q66z, q4z HB GE1⟩
 ·rw [if_neg c1] at H; exact absurd H (by simp)
def vec_works_17.f (a0_0 : Int) (a0_1 : Int) (a0_2 : Int) (a0_3 : Int) (a0_4 : Int) (a0_5 : Int) (a0_6 : Int) (a1 : Int) (a2 : Int) (a3 : Int) (a4 : Int) : Option (Int) := if 0 ≤ a0_6 then ((vec_Mask.f (wrap64 ((wrap64 (a0_5 - a0_6)) + 1))).bind fun t108 => (some (Go.bits .and .i64 (shr .i64 a1 a0_6) t108))) else (none)
theorem vec_works_17.calls (a0_0 : Int) (a0_1 : Int) (a0_2 : Int) (a0_3 : Int) (a0_4 : Int) (a0_5 : Int) (a0_6 : Int) (a1 : Int) (a2 : Int) (a3 : Int) (a4 : Int) (r : Int) (w : World) (h : vec_works_17.f a0_0 a0_1 a0_2 a0_3 a0_4 a0_5 a0_6 a1 a2 a3 a4 = some r) :
  Calls Try.prog 86 #[.agg #[.int .i64 a0_0, .int .i64 a0_1, .int .i64 a0_2, .int .i64 a0_3, .int .i64 a0_4, .int .i64 a0_5, .int .i64 a0_6], .int .i64 a1, .int .i64 a2, .int .i64 a3, .int .i64 a4] w fun e w' => e = .returned (.int .i64 r) ∧ Below w.heap.size w w' := by
 have hu1 := Try.underlying41; have HB := aM (Below.refl w.heap.size w); have H : (if 0 ≤ a0_6 then ((vec_Mask.f (wrap64 ((wrap64 (a0_5 - a0_6)) + 1))).bind fun t1 => (some (Go.bits .and .i64 (shr .i64 a1 a0_6) t1))) else (none)) = some r := h; clear h; by_cases c1 : 0 ≤ a0_6
 ·rw [if_pos c1] at H; have c1b0 := eq_true c1; have c1b1 : decide (0 ≤ a0_6) = true := decide_eq_true c1; clear c1; obtain ⟨ji1, hji1⟩ : ∃ j_ : Int, (shr .i64 a1 a0_6) = j_ := ⟨_, rfl⟩; replace H : ((vec_Mask.f (wrap64 ((wrap64 (a0_5 - a0_6)) + 1))).bind fun t1 => (some (Go.bits .and .i64 (ji1) t1))) = some r := by first | (rw [hji1] at H; exact H) | (simp only [hji1] at H ⊢; exact H)
  have hji1_ : (a1 / 2 ^ min a0_6.toNat 64) = ji1 := hji1; have hji1z : a0_6 ≤ 64 → (a1 / 2 ^ a0_6.toNat) = ji1 := shr_small hji1; replace H := Option.bind_eq_some_iff.mp H; obtain ⟨t1, A1, H⟩ := H; have A2 := aM A1; clear A1; obtain rfl := Option.some.inj H; go_enter Try.func86, Try.ntmps86
  go_wp2_with (first | ((with_reducible refine zgd 5 rfl ?_); refine zbox 5 #[.int .i64 a0_0, .int .i64 a0_1, .int .i64 a0_2, .int .i64 a0_3, .int .i64 a0_4, .int .i64 a0_5, .int .i64 a0_6] 41 ?_; intro gb1 hg w1 hbox hb; have BK1 := aM (hbox); have GW1 := aM ((q7z HB : w.heap.size ≤ gb1)); have GE1 := aM ((q7z HB : w.heap.size ≤ gb1)); replace HB := aM (ym (q5z HB) hb); clear hb hbox hg; obtain ⟨i1_0, i1_1, i1_2, i1_3, i1_4, i1_5, i1_6, j1_0, j1_1, j1_2, j1_3, j1_4, j1_5, j1_6⟩ := cells7 BK1.out) | (go_at_call 49; (with_reducible refine (vec_Mask.calls (wrap64 ((wrap64 (a0_5 - a0_6)) + 1)) t1 _ A2.out).mono ?_); rintro e w' ⟨rfl, ⟨nd, rfl⟩⟩; (try first | exact ⟨rfl, _, World.drewN_drewN _ _ _⟩ | exact ⟨rfl, _, Eq.trans (World.drewN_drewN _ _ _) (congrArg (World.drewN _) (Nat.add_assoc _ _ _))⟩)))
  repeat (go_quiet (first | ((with_reducible refine zgd 5 rfl ?_); refine zbox 5 #[.int .i64 a0_0, .int .i64 a0_1, .int .i64 a0_2, .int .i64 a0_3, .int .i64 a0_4, .int .i64 a0_5, .int .i64 a0_6] 41 ?_; intro gb1 hg w1 hbox hb; have BK1 := aM (hbox); have GW1 := aM ((q7z HB : w.heap.size ≤ gb1)); have GE1 := aM ((q7z HB : w.heap.size ≤ gb1)); replace HB := aM (ym (q5z HB) hb); clear hb hbox hg; obtain ⟨i1_0, i1_1, i1_2, i1_3, i1_4, i1_5, i1_6, j1_0, j1_1, j1_2, j1_3, j1_4, j1_5, j1_6⟩ := cells7 BK1.out) | (go_at_call 49; (with_reducible refine (vec_Mask.calls (wrap64 ((wrap64 (a0_5 - a0_6)) + 1)) t1 _ A2.out).mono ?_); rintro e w' ⟨rfl, ⟨nd, rfl⟩⟩; (try first | exact ⟨rfl, _, World.drewN_drewN _ _ _⟩ | exact ⟨rfl, _, Eq.trans (World.drewN_drewN _ _ _) (congrArg (World.drewN _) (Nat.add_assoc _ _ _))⟩))); try go_wp2_with (first | ((with_reducible refine zgd 5 rfl ?_); refine zbox 5 #[.int .i64 a0_0, .int .i64 a0_1, .int .i64 a0_2, .int .i64 a0_3, .int .i64 a0_4, .int .i64 a0_5, .int .i64 a0_6] 41 ?_; intro gb1 hg w1 hbox hb; have BK1 := aM (hbox); have GW1 := aM ((q7z HB : w.heap.size ≤ gb1)); have GE1 := aM ((q7z HB : w.heap.size ≤ gb1)); replace HB := aM (ym (q5z HB) hb); clear hb hbox hg; obtain ⟨i1_0, i1_1, i1_2, i1_3, i1_4, i1_5, i1_6, j1_0, j1_1, j1_2, j1_3, j1_4, j1_5, j1_6⟩ := cells7 BK1.out) | (go_at_call 49; (with_reducible refine (vec_Mask.calls (wrap64 ((wrap64 (a0_5 - a0_6)) + 1)) t1 _ A2.out).mono ?_); rintro e w' ⟨rfl, ⟨nd, rfl⟩⟩; (try first | exact ⟨rfl, _, World.drewN_drewN _ _ _⟩ | exact ⟨rfl, _, Eq.trans (World.drewN_drewN _ _ _) (congrArg (World.drewN _) (Nat.add_assoc _ _ _))⟩))))
  go_ret
  exact ⟨q66z, q4z HB GE1⟩
 ·rw [if_neg c1] at H; exact absurd H (by simp)
def net_Right_1.f (a0_0 : ByteArray) (a0_1 : Int) (a1 : Int) : Option (Bool) := some (a0_1 == a1)
theorem net_Right_1.calls (a0_0 : ByteArray) (a0_1 : Int) (a1 : Int) (r : Bool) (w : World) (h : net_Right_1.f a0_0 a0_1 a1 = some r) :
  Calls Try.prog 28 #[.agg #[.string a0_0, .int .i64 a0_1], .int .i64 a1] w fun e w' => e = .returned (.bool r) ∧ Below w.heap.size w w' := by
 have hu1 := Try.underlying47; have HB := aM (Below.refl w.heap.size w); have H : (some (a0_1 == a1)) = some r := h; clear h; obtain rfl := Option.some.inj H; go_enter Try.func28, Try.ntmps28
 go_wp2_with (first | ((with_reducible refine zgd 2 rfl ?_); refine zbox 2 #[.string a0_0, .int .i64 a0_1] 47 ?_; intro gb1 hg w1 hbox hb; have BK1 := aM (hbox); have GW1 := aM ((q7z HB : w.heap.size ≤ gb1)); have GE1 := aM ((q7z HB : w.heap.size ≤ gb1)); replace HB := aM (ym (q5z HB) hb); clear hb hbox hg; obtain ⟨i1_0, i1_1, j1_0, j1_1⟩ := cells2 BK1.out))
 go_ret
 exact ⟨q11z, q4z HB GE1⟩
def net_Right_2.f (a0_0 : ByteArray) (a0_1 : Int) (a0_2 : Int) (a0_3 : Int) (a1 : Int) : Option (Bool) := some (a0_1 == a1)
theorem net_Right_2.calls (a0_0 : ByteArray) (a0_1 : Int) (a0_2 : Int) (a0_3 : Int) (a1 : Int) (r : Bool) (w : World) (h : net_Right_2.f a0_0 a0_1 a0_2 a0_3 a1 = some r) :
  Calls Try.prog 29 #[.agg #[.string a0_0, .int .i64 a0_1, .int .i64 a0_2, .int .i64 a0_3], .int .i64 a1] w fun e w' => e = .returned (.bool r) ∧ Below w.heap.size w w' := by
 have hu1 := Try.underlying43; have HB := aM (Below.refl w.heap.size w); have H : (some (a0_1 == a1)) = some r := h; clear h; obtain rfl := Option.some.inj H; go_enter Try.func29, Try.ntmps29
 go_wp2_with (first | ((with_reducible refine zgd 2 rfl ?_); refine zbox 2 #[.string a0_0, .int .i64 a0_1, .int .i64 a0_2, .int .i64 a0_3] 43 ?_; intro gb1 hg w1 hbox hb; have BK1 := aM (hbox); have GW1 := aM ((q7z HB : w.heap.size ≤ gb1)); have GE1 := aM ((q7z HB : w.heap.size ≤ gb1)); replace HB := aM (ym (q5z HB) hb); clear hb hbox hg; obtain ⟨i1_0, i1_1, i1_2, i1_3, j1_0, j1_1, j1_2, j1_3⟩ := cells4 BK1.out))
 go_ret
 exact ⟨q11z, q4z HB GE1⟩
def net_width.f (l0_0 : List (S41)) (l0_1 : List (S47)) (l0_2 : List (S43)) (l0_3 : List (S61)) (l0_4 : List (S47)) (a1 : Int) (a2 : Int) : Option (Int) := if a1 < 0 then (some 0) else (if a1 ≥ a2 then (some 0) else (if 0 ≤ a1 then (if a1 < (l0_0.length : Int) then (some ((rd_T41 l0_0 a1).f1)) else (none)) else (none)))
theorem z26_1 {P : Prop} (h : P := by
 clear c1; obtain rfl := Option.some.inj H; go_enter Try.func34, Try.ntmps34
 go_wp2_with (first | ((with_reducible refine zgd 3 rfl ?_); refine zbox 3 #[.slice A0_0 l0_0.length c0_0, .slice A0_1 l0_1.length c0_1, .slice A0_2 l0_2.length c0_2, .slice A0_3 l0_3.length c0_3, .slice A0_4 l0_4.length c0_4] 27 ?_; intro gb1 hg w1 hbox hb; have BK1 := aM (hbox); have GW1 := aM ((q7z HB : w.heap.size ≤ gb1)); have GE1 := aM ((q7z HB : w.heap.size ≤ gb1)); replace HB := aM (ym (q5z HB) hb); clear hb hbox hg))
 go_ret
 exact ⟨q11z, q4z HB GE1⟩) : P := h
theorem net_width.calls (A0_0 : Option Addr) (c0_0 : Nat) (l0_0 : List (S41)) (A0_1 : Option Addr) (c0_1 : Nat) (l0_1 : List (S47)) (A0_2 : Option Addr) (c0_2 : Nat) (l0_2 : List (S43)) (A0_3 : Option Addr) (c0_3 : Nat) (l0_3 : List (S61)) (A0_4 : Option Addr) (c0_4 : Nat) (l0_4 : List (S47)) (a1 : Int) (a2 : Int) (r : Int) (w : World) (hr0_0 : Kd.C k41 w A0_0 l0_0.length l0_0) (hc0_0 : l0_0.length ≤ c0_0) (hr0_1 : Kd.C k47 w A0_1 l0_1.length l0_1) (hc0_1 : l0_1.length ≤ c0_1) (hr0_2 : Kd.C k43 w A0_2 l0_2.length l0_2) (hc0_2 : l0_2.length ≤ c0_2) (hr0_3 : Kd.C k61 w A0_3 l0_3.length l0_3) (hc0_3 : l0_3.length ≤ c0_3) (hr0_4 : Kd.C k47 w A0_4 l0_4.length l0_4) (hc0_4 : l0_4.length ≤ c0_4) (h : net_width.f l0_0 l0_1 l0_2 l0_3 l0_4 a1 a2 = some r) :
  Calls Try.prog 34 #[.agg #[.slice A0_0 l0_0.length c0_0, .slice A0_1 l0_1.length c0_1, .slice A0_2 l0_2.length c0_2, .slice A0_3 l0_3.length c0_3, .slice A0_4 l0_4.length c0_4], .int .i64 a1, .int .i64 a2] w fun e w' => e = .returned (.int .i64 r) ∧ Below w.heap.size w w' := by
 have hu1 := Try.underlying27; have HR1_0 := aM hr0_0; have HC1_0 := aM hc0_0; clear hr0_0 hc0_0; have HR1_1 := aM hr0_1; have HC1_1 := aM hc0_1; clear hr0_1 hc0_1; have HR1_2 := aM hr0_2; have HC1_2 := aM hc0_2; clear hr0_2 hc0_2; have HR1_3 := aM hr0_3; have HC1_3 := aM hc0_3; clear hr0_3 hc0_3; have HR1_4 := aM hr0_4; have HC1_4 := aM hc0_4; clear hr0_4 hc0_4; have HB := aM (Below.refl w.heap.size w); have H : (if a1 < 0 then (some 0) else (if a1 ≥ a2 then (some 0) else (if 0 ≤ a1 then (if a1 < (l0_0.length : Int) then (some ((rd_T41 l0_0 a1).f1)) else (none)) else (none)))) = some r := h; clear h; by_cases c1 : a1 < 0
 ·rw [if_pos c1] at H; have c1b0 := decide_eq_true c1; exact z26_1
 ·rw [if_neg c1] at H; have c1b0 := decide_eq_false c1; clear c1; by_cases c1 : a1 ≥ a2
  ·rw [if_pos c1] at H; have c1b0 : decide (a2 ≤ a1) = true := decide_eq_true c1; exact z26_1
  ·rw [if_neg c1] at H; have c1b0 : decide (a2 ≤ a1) = false := decide_eq_false c1; clear c1; by_cases c1 : 0 ≤ a1
   ·rw [if_pos c1] at H; have c1b0 := decide_eq_true c1; clear c1; by_cases c2 : a1 < (l0_0.length : Int)
    ·rw [if_pos c2] at H; have c1b0 := decide_eq_true c2; clear c2; obtain rfl := Option.some.inj H; go_enter Try.func34, Try.ntmps34
     go_wp2_with (first | ((with_reducible refine zgd 3 rfl ?_); refine zbox 3 #[.slice A0_0 l0_0.length c0_0, .slice A0_1 l0_1.length c0_1, .slice A0_2 l0_2.length c0_2, .slice A0_3 l0_3.length c0_3, .slice A0_4 l0_4.length c0_4] 27 ?_; intro gb1 hg w1 hbox hb; have BK1 := aM (hbox); have GW1 := aM ((q7z HB : w.heap.size ≤ gb1)); have GE1 := aM ((q7z HB : w.heap.size ≤ gb1)); replace HB := aM (ym (q5z HB) hb); clear hb hbox hg; obtain ⟨i1_0, i1_1, i1_2, i1_3, i1_4, j1_0, j1_1, j1_2, j1_3, j1_4⟩ := cells5 BK1.out; have p1 : 0 ≤ (a1 : Int) := zod; have q1 : a1 < (l0_0.length : Int) := zod; obtain ⟨ad1, e1, hx1_0, hx1_1, hx1_2, hx1_3, hx1_4, hx1_5, hx1_6⟩ := at_T41 HR1_0.out a1 p1 q1; cases e1; replace hx1_0 := zx HB hx1_0; replace hx1_1 := zx HB hx1_1; replace hx1_2 := zx HB hx1_2; replace hx1_3 := zx HB hx1_3; replace hx1_4 := zx HB hx1_4; replace hx1_5 := zx HB hx1_5; replace hx1_6 := zx HB hx1_6; replace p1 := eq_true p1; replace q1 := eq_true q1))
     go_ret
     exact ⟨q11z, q4z HB GE1⟩
    ·rw [if_neg c2] at H; exact absurd H (by simp)
   ·rw [if_neg c1] at H; exact absurd H (by simp)
structure net_NL where
 n0 : List (S41)
 n1 : List (S47)
 n2 : List (S43)
 n3 : List (S61)
 n4 : List (S47)
def net_Held (w : World) (gk : Nat) (n : net_NL) : Prop := ∃ A0 c0 A1 c1 A2 c2 A3 c3 A4 c4, w.heap[gk]? = some (.cells #[.slice A0 n.n0.length c0, .slice A1 n.n1.length c1, .slice A2 n.n2.length c2, .slice A3 n.n3.length c3, .slice A4 n.n4.length c4] 27 (0, 0)) ∧
  (Kd.C k41 w A0 n.n0.length n.n0 ∧ n.n0.length ≤ c0) ∧ (Kd.C k47 w A1 n.n1.length n.n1 ∧ n.n1.length ≤ c1) ∧ (Kd.C k43 w A2 n.n2.length n.n2 ∧ n.n2.length ≤ c2) ∧ (Kd.C k61 w A3 n.n3.length n.n3 ∧ n.n3.length ≤ c3) ∧ (Kd.C k47 w A4 n.n4.length n.n4 ∧ n.n4.length ≤ c4)
theorem net_Held.below {w w' : World} {gk : Nat} {n : net_NL} (h : net_Held w gk n) (hb : Below w.heap.size w w') : net_Held w' gk n := by
 obtain ⟨A1, c1, A2, c2, A3, c3, A4, c4, A5, c5, hk, ⟨h0, k1⟩, ⟨h1, k2⟩, ⟨h2, k3⟩, ⟨h3, k4⟩, h4, k5⟩ := h; exact ⟨A1, c1, A2, c2, A3, c3, A4, c4, A5, c5, (hb.block gk (blk_lt hk)).trans hk, ⟨Kd.C_below h0 hb, k1⟩, ⟨Kd.C_below h1 hb, k2⟩, ⟨Kd.C_below h2 hb, k3⟩, ⟨Kd.C_below h3 hb, k4⟩, Kd.C_below h4 hb, k5⟩
def net_Right_3.f (_s : ByteArray) (a : Int) (n : net_NL) : Option (Bool) := (net_width.f n.n0 n.n1 n.n2 n.n3 n.n4 a (n.n0.length : Int)).bind fun t => some (t == 0)
theorem net_Right_3.walk (s0 : ByteArray) (a1 : Int) (A0_0 : Option Addr) (c0_0 : Nat) (l0_0 : List (S41)) (A0_1 : Option Addr) (c0_1 : Nat) (l0_1 : List (S47)) (A0_2 : Option Addr) (c0_2 : Nat) (l0_2 : List (S43)) (A0_3 : Option Addr) (c0_3 : Nat) (l0_3 : List (S61)) (A0_4 : Option Addr) (c0_4 : Nat) (l0_4 : List (S47)) (r : Bool) (w : World) (hr0_0 : Kd.C k41 w A0_0 l0_0.length l0_0) (hc0_0 : l0_0.length ≤ c0_0) (hr0_1 : Kd.C k47 w A0_1 l0_1.length l0_1) (hc0_1 : l0_1.length ≤ c0_1) (hr0_2 : Kd.C k43 w A0_2 l0_2.length l0_2) (hc0_2 : l0_2.length ≤ c0_2) (hr0_3 : Kd.C k61 w A0_3 l0_3.length l0_3) (hc0_3 : l0_3.length ≤ c0_3) (hr0_4 : Kd.C k47 w A0_4 l0_4.length l0_4) (hc0_4 : l0_4.length ≤ c0_4) (h : (net_width.f l0_0 l0_1 l0_2 l0_3 l0_4 a1 (l0_0.length : Int)).bind (fun t => some (t == 0)) = some r)
  (gk : Nat) (hk : w.heap[gk]? = some (.cells #[.slice A0_0 l0_0.length c0_0, .slice A0_1 l0_1.length c0_1, .slice A0_2 l0_2.length c0_2, .slice A0_3 l0_3.length c0_3, .slice A0_4 l0_4.length c0_4] 27 (0, 0))) :
  Calls Try.prog 36 #[.agg #[.string s0, .int .i64 a1], .pointer (some ⟨gk, 0, none⟩)] w fun e w' => e = .returned (.bool r) ∧ Below w.heap.size w w' := by
 have hu_ := Try.underlying27; have hv_ := Try.underlying47; have HB := aM (Below.refl w.heap.size w); have HK := aM hk; have hl := blk_lt hk; clear hk; have H1 := aM hr0_0; have H2 := aM hr0_1; have H3 := aM hr0_2; have H4 := aM hr0_3; have H5 := aM hr0_4; clear hr0_0 hr0_1 hr0_2 hr0_3 hr0_4; replace h := Option.bind_eq_some_iff.mp h; obtain ⟨t, h1, h⟩ := h; obtain rfl := Option.some.inj h; have A1 := aM h1; clear h1 h; go_enter Try.func36, Try.ntmps36
 go_wp2_with (first | ((with_reducible refine zgd 2 rfl ?_); refine zbox 2 #[.string s0, .int .i64 a1] 47 ?_; intro gb hg w1 hbox hb; have n1_ := aM (ym HB.out hb); have n2_ := aM hbox; have n3_ := aM ((hb.block gk (by first | exact hl | (simp only [World.size_drewN]; exact hl))).trans HK.out); have m1_ := aM (Kd.C_below H1.out hb); have m2_ := aM (Kd.C_below H2.out hb); have m3_ := aM (Kd.C_below H3.out hb); have m4_ := aM (Kd.C_below H4.out hb); have m5_ := aM (Kd.C_below H5.out hb); clear HB HK H1 H2 H3 H4 H5; have HB := n1_; have BK := n2_; have HK := n3_; have H1 := m1_; have H2 := m2_; have H3 := m3_; have H4 := m4_; have H5 := m5_; clear n1_ n2_ n3_ m1_ m2_ m3_ m4_ m5_ hb hbox hg; have hcz_1 : w1.cell? ⟨gb, 0, none⟩ = some (.string s0) := zc BK 0; have hcz_2 : w1.cell? ⟨gb, 1, none⟩ = some (.int .i64 a1) := zc BK 1; have hkz_1 : w1.cell? ⟨gk, 0, none⟩ = some (.slice A0_0 l0_0.length c0_0) := zc HK 0; have hkz_2 : w1.cell? ⟨gk, 1, none⟩ = some (.slice A0_1 l0_1.length c0_1) := zc HK 1; have hkz_3 : w1.cell? ⟨gk, 2, none⟩ = some (.slice A0_2 l0_2.length c0_2) := zc HK 2; have hkz_4 : w1.cell? ⟨gk, 3, none⟩ = some (.slice A0_3 l0_3.length c0_3) := zc HK 3; have hkz_5 : w1.cell? ⟨gk, 4, none⟩ = some (.slice A0_4 l0_4.length c0_4) := zc HK 4; have hf1 := blk_frozen BK.out 0; have hf2 := blk_frozen BK.out 1; have hf3 := blk_frozen HK.out 0; have hf4 := blk_frozen HK.out 1; have hf5 := blk_frozen HK.out 2; have hf6 := blk_frozen HK.out 3; have hf7 := blk_frozen HK.out 4) | (go_at_call 34; refine (net_width.calls _ _ _ _ _ _ _ _ _ _ _ _ _ _ _ a1 _ t _ ?s0 ?t0 ?s1 ?t1 ?s2 ?t2 ?s3 ?t3 ?s4 ?t4 A1.out).mono ?_; (case s0 => first | exact H1.out | exact yp H1.out _); (case s1 => first | exact H2.out | exact yp H2.out _); (case s2 => first | exact H3.out | exact yp H3.out _); (case s3 => first | exact H4.out | exact yp H4.out _); (case s4 => first | exact H5.out | exact yp H5.out _); (case t0 => assumption); (case t1 => assumption); (case t2 => assumption); (case t3 => assumption); (case t4 => assumption); rintro e w2 ⟨rfl, hb⟩; have n2_ := aM (ym (q5z HB) hb); clear HB; have HB := n2_; clear n2_ hb))
 go_ret
 exact ⟨q13z, q5z HB⟩
theorem net_Right_3.calls (s0 : ByteArray) (a1 : Int) (n : net_NL) (r : Bool) (w : World) (h : net_Right_3.f s0 a1 n = some r) (gk : Nat) (hk : net_Held w gk n) :
  Calls Try.prog 36 #[.agg #[.string s0, .int .i64 a1], .pointer (some ⟨gk, 0, none⟩)] w fun e w' => e = .returned (.bool r) ∧ Below w.heap.size w w' := by
 obtain ⟨A1, c1, A2, c2, A3, c3, A4, c4, A5, c5, hb, ⟨h0, k1⟩, ⟨h1, k2⟩, ⟨h2, k3⟩, ⟨h3, k4⟩, h4, k5⟩ := hk; exact net_Right_3.walk s0 a1 A1 c1 n.n0 A2 c2 n.n1 A3 c3 n.n2 A4 c4 n.n3 A5 c5 n.n4 r w h0 k1 h1 k2 h2 k3 h3 k4 h4 k5 h gk hb
def net_nodes_1.f (a0 : Int) : Option (Bool) := some (a0 != 0)
theorem net_nodes_1.calls (a0 : Int) (r : Bool) (w : World) (h : net_nodes_1.f a0 = some r) :
  Calls Try.prog 48 #[.int .i64 a0] w fun e w' => e = .returned (.bool r) ∧ Drawn0 w w' := by
 have H : (some (a0 != 0)) = some r := h; clear h; obtain rfl := Option.some.inj H; go_enter Try.func48, Try.ntmps48
 go_wp2
 go_ret
 exact ⟨q13z, q21z⟩
def net_seen_bare.f (a0_0 : Int) (a0_1 : Int) (a0_2 : Int) (a0_3 : Int) (a0_4 : Int) (a0_5 : Int) (a0_6 : Int) (a0_7 : Int) (a0_8 : Int) (a0_9 : Int) : Option (Bool) := if a0_5 = 0 then (some (a0_6 == 0)) else (some false)
theorem z29_1 {P : Prop} (h : P := by
 obtain rfl := Option.some.inj H; go_enter Try.func60, Try.ntmps60
 go_wp2_with (first | ((with_reducible refine zgd 1 rfl ?_); refine zbox 1 #[.int .i64 a0_0, .int .i64 a0_1, .int .i64 a0_2, .int .i64 a0_3, .int .i64 a0_4, .int .i64 a0_5, .int .i64 a0_6, .int .i64 a0_7, .int .i64 a0_8, .int .i64 a0_9] 81 ?_; intro gb1 hg w1 hbox hb; have BK1 := aM (hbox); have GW1 := aM ((q7z HB : w.heap.size ≤ gb1)); have GE1 := aM ((q7z HB : w.heap.size ≤ gb1)); replace HB := aM (ym (q5z HB) hb); clear hb hbox hg; have i1_0 : w1.cell? ⟨gb1, 0, none⟩ = some (.int .i64 a0_0) := zc BK1 0; have i1_1 : w1.cell? ⟨gb1, 1, none⟩ = some (.int .i64 a0_1) := zc BK1 1; have i1_2 : w1.cell? ⟨gb1, 2, none⟩ = some (.int .i64 a0_2) := zc BK1 2; have i1_3 : w1.cell? ⟨gb1, 3, none⟩ = some (.int .i64 a0_3) := zc BK1 3; have i1_4 : w1.cell? ⟨gb1, 4, none⟩ = some (.int .i64 a0_4) := zc BK1 4; have i1_5 : w1.cell? ⟨gb1, 5, none⟩ = some (.int .i64 a0_5) := zc BK1 5; have i1_6 : w1.cell? ⟨gb1, 6, none⟩ = some (.int .i64 a0_6) := zc BK1 6; have i1_7 : w1.cell? ⟨gb1, 7, none⟩ = some (.int .i64 a0_7) := zc BK1 7; have i1_8 : w1.cell? ⟨gb1, 8, none⟩ = some (.int .i64 a0_8) := zc BK1 8; have i1_9 : w1.cell? ⟨gb1, 9, none⟩ = some (.int .i64 a0_9) := zc BK1 9; have j1_0 := blk_frozen BK1.out 0; have j1_1 := blk_frozen BK1.out 1; have j1_2 := blk_frozen BK1.out 2; have j1_3 := blk_frozen BK1.out 3; have j1_4 := blk_frozen BK1.out 4; have j1_5 := blk_frozen BK1.out 5; have j1_6 := blk_frozen BK1.out 6; have j1_7 := blk_frozen BK1.out 7; have j1_8 := blk_frozen BK1.out 8; have j1_9 := blk_frozen BK1.out 9))
 go_ret
 exact ⟨q11z, q4z HB GE1⟩) : P := h
theorem net_seen_bare.calls (a0_0 : Int) (a0_1 : Int) (a0_2 : Int) (a0_3 : Int) (a0_4 : Int) (a0_5 : Int) (a0_6 : Int) (a0_7 : Int) (a0_8 : Int) (a0_9 : Int) (r : Bool) (w : World) (h : net_seen_bare.f a0_0 a0_1 a0_2 a0_3 a0_4 a0_5 a0_6 a0_7 a0_8 a0_9 = some r) :
  Calls Try.prog 60 #[.agg #[.int .i64 a0_0, .int .i64 a0_1, .int .i64 a0_2, .int .i64 a0_3, .int .i64 a0_4, .int .i64 a0_5, .int .i64 a0_6, .int .i64 a0_7, .int .i64 a0_8, .int .i64 a0_9]] w fun e w' => e = .returned (.bool r) ∧ Below w.heap.size w w' := by
 have hu1 := Try.underlying81; have HB := aM (Below.refl w.heap.size w); have H : (if a0_5 = 0 then (some (a0_6 == 0)) else (some false)) = some r := h; clear h; by_cases c1 : a0_5 = 0
 ·rw [if_pos c1] at H; obtain ⟨c1b0, c1b1⟩ := zeq c1; clear c1; exact z29_1
 ·rw [if_neg c1] at H; obtain ⟨c1b0, c1b1⟩ := zne c1; exact z29_1
def net_seen_lit.f (a0_0 : Int) (a0_1 : Int) (a0_2 : Int) (a0_3 : Int) (a0_4 : Int) (a0_5 : Int) (a0_6 : Int) (a0_7 : Int) (a0_8 : Int) (a0_9 : Int) : Option (Bool) := if a0_5 ≥ 0 then ((vec_Mask.f a0_1).bind fun t115 => (if a0_5 ≤ t115 then (some (a0_6 == 0)) else (some false))) else (some false)
theorem z30_1 {P : Prop} (h : P := by
 clear c2; obtain rfl := Option.some.inj H; go_enter Try.func59, Try.ntmps59
 go_wp2_with (first | ((with_reducible refine zgd 1 rfl ?_); refine zbox 1 #[.int .i64 a0_0, .int .i64 a0_1, .int .i64 a0_2, .int .i64 a0_3, .int .i64 a0_4, .int .i64 a0_5, .int .i64 a0_6, .int .i64 a0_7, .int .i64 a0_8, .int .i64 a0_9] 81 ?_; intro gb1 hg w1 hbox hb; have BK1 := aM (hbox); have GW1 := aM ((q7z HB : w.heap.size ≤ gb1)); have GE1 := aM ((q7z HB : w.heap.size ≤ gb1)); replace HB := aM (ym (q5z HB) hb); clear hb hbox hg; have i1_0 : w1.cell? ⟨gb1, 0, none⟩ = some (.int .i64 a0_0) := zc BK1 0; have i1_1 : w1.cell? ⟨gb1, 1, none⟩ = some (.int .i64 a0_1) := zc BK1 1; have i1_2 : w1.cell? ⟨gb1, 2, none⟩ = some (.int .i64 a0_2) := zc BK1 2; have i1_3 : w1.cell? ⟨gb1, 3, none⟩ = some (.int .i64 a0_3) := zc BK1 3; have i1_4 : w1.cell? ⟨gb1, 4, none⟩ = some (.int .i64 a0_4) := zc BK1 4; have i1_5 : w1.cell? ⟨gb1, 5, none⟩ = some (.int .i64 a0_5) := zc BK1 5; have i1_6 : w1.cell? ⟨gb1, 6, none⟩ = some (.int .i64 a0_6) := zc BK1 6; have i1_7 : w1.cell? ⟨gb1, 7, none⟩ = some (.int .i64 a0_7) := zc BK1 7; have i1_8 : w1.cell? ⟨gb1, 8, none⟩ = some (.int .i64 a0_8) := zc BK1 8; have i1_9 : w1.cell? ⟨gb1, 9, none⟩ = some (.int .i64 a0_9) := zc BK1 9; have j1_0 := blk_frozen BK1.out 0; have j1_1 := blk_frozen BK1.out 1; have j1_2 := blk_frozen BK1.out 2; have j1_3 := blk_frozen BK1.out 3; have j1_4 := blk_frozen BK1.out 4; have j1_5 := blk_frozen BK1.out 5; have j1_6 := blk_frozen BK1.out 6; have j1_7 := blk_frozen BK1.out 7; have j1_8 := blk_frozen BK1.out 8; have j1_9 := blk_frozen BK1.out 9) | (go_at_call 49; (with_reducible refine (vec_Mask.calls a0_1 t1 _ A2.out).mono ?_); rintro e w' ⟨rfl, ⟨nd, rfl⟩⟩; (try first | exact ⟨rfl, _, World.drewN_drewN _ _ _⟩ | exact ⟨rfl, _, Eq.trans (World.drewN_drewN _ _ _) (congrArg (World.drewN _) (Nat.add_assoc _ _ _))⟩)))
 repeat (go_quiet (first | ((with_reducible refine zgd 1 rfl ?_); refine zbox 1 #[.int .i64 a0_0, .int .i64 a0_1, .int .i64 a0_2, .int .i64 a0_3, .int .i64 a0_4, .int .i64 a0_5, .int .i64 a0_6, .int .i64 a0_7, .int .i64 a0_8, .int .i64 a0_9] 81 ?_; intro gb1 hg w1 hbox hb; have BK1 := aM (hbox); have GW1 := aM ((q7z HB : w.heap.size ≤ gb1)); have GE1 := aM ((q7z HB : w.heap.size ≤ gb1)); replace HB := aM (ym (q5z HB) hb); clear hb hbox hg; have i1_0 : w1.cell? ⟨gb1, 0, none⟩ = some (.int .i64 a0_0) := zc BK1 0; have i1_1 : w1.cell? ⟨gb1, 1, none⟩ = some (.int .i64 a0_1) := zc BK1 1; have i1_2 : w1.cell? ⟨gb1, 2, none⟩ = some (.int .i64 a0_2) := zc BK1 2; have i1_3 : w1.cell? ⟨gb1, 3, none⟩ = some (.int .i64 a0_3) := zc BK1 3; have i1_4 : w1.cell? ⟨gb1, 4, none⟩ = some (.int .i64 a0_4) := zc BK1 4; have i1_5 : w1.cell? ⟨gb1, 5, none⟩ = some (.int .i64 a0_5) := zc BK1 5; have i1_6 : w1.cell? ⟨gb1, 6, none⟩ = some (.int .i64 a0_6) := zc BK1 6; have i1_7 : w1.cell? ⟨gb1, 7, none⟩ = some (.int .i64 a0_7) := zc BK1 7; have i1_8 : w1.cell? ⟨gb1, 8, none⟩ = some (.int .i64 a0_8) := zc BK1 8; have i1_9 : w1.cell? ⟨gb1, 9, none⟩ = some (.int .i64 a0_9) := zc BK1 9; have j1_0 := blk_frozen BK1.out 0; have j1_1 := blk_frozen BK1.out 1; have j1_2 := blk_frozen BK1.out 2; have j1_3 := blk_frozen BK1.out 3; have j1_4 := blk_frozen BK1.out 4; have j1_5 := blk_frozen BK1.out 5; have j1_6 := blk_frozen BK1.out 6; have j1_7 := blk_frozen BK1.out 7; have j1_8 := blk_frozen BK1.out 8; have j1_9 := blk_frozen BK1.out 9) | (go_at_call 49; (with_reducible refine (vec_Mask.calls a0_1 t1 _ A2.out).mono ?_); rintro e w' ⟨rfl, ⟨nd, rfl⟩⟩; (try first | exact ⟨rfl, _, World.drewN_drewN _ _ _⟩ | exact ⟨rfl, _, Eq.trans (World.drewN_drewN _ _ _) (congrArg (World.drewN _) (Nat.add_assoc _ _ _))⟩))); try go_wp2_with (first | ((with_reducible refine zgd 1 rfl ?_); refine zbox 1 #[.int .i64 a0_0, .int .i64 a0_1, .int .i64 a0_2, .int .i64 a0_3, .int .i64 a0_4, .int .i64 a0_5, .int .i64 a0_6, .int .i64 a0_7, .int .i64 a0_8, .int .i64 a0_9] 81 ?_; intro gb1 hg w1 hbox hb; have BK1 := aM (hbox); have GW1 := aM ((q7z HB : w.heap.size ≤ gb1)); have GE1 := aM ((q7z HB : w.heap.size ≤ gb1)); replace HB := aM (ym (q5z HB) hb); clear hb hbox hg; have i1_0 : w1.cell? ⟨gb1, 0, none⟩ = some (.int .i64 a0_0) := zc BK1 0; have i1_1 : w1.cell? ⟨gb1, 1, none⟩ = some (.int .i64 a0_1) := zc BK1 1; have i1_2 : w1.cell? ⟨gb1, 2, none⟩ = some (.int .i64 a0_2) := zc BK1 2; have i1_3 : w1.cell? ⟨gb1, 3, none⟩ = some (.int .i64 a0_3) := zc BK1 3; have i1_4 : w1.cell? ⟨gb1, 4, none⟩ = some (.int .i64 a0_4) := zc BK1 4; have i1_5 : w1.cell? ⟨gb1, 5, none⟩ = some (.int .i64 a0_5) := zc BK1 5; have i1_6 : w1.cell? ⟨gb1, 6, none⟩ = some (.int .i64 a0_6) := zc BK1 6; have i1_7 : w1.cell? ⟨gb1, 7, none⟩ = some (.int .i64 a0_7) := zc BK1 7; have i1_8 : w1.cell? ⟨gb1, 8, none⟩ = some (.int .i64 a0_8) := zc BK1 8; have i1_9 : w1.cell? ⟨gb1, 9, none⟩ = some (.int .i64 a0_9) := zc BK1 9; have j1_0 := blk_frozen BK1.out 0; have j1_1 := blk_frozen BK1.out 1; have j1_2 := blk_frozen BK1.out 2; have j1_3 := blk_frozen BK1.out 3; have j1_4 := blk_frozen BK1.out 4; have j1_5 := blk_frozen BK1.out 5; have j1_6 := blk_frozen BK1.out 6; have j1_7 := blk_frozen BK1.out 7; have j1_8 := blk_frozen BK1.out 8; have j1_9 := blk_frozen BK1.out 9) | (go_at_call 49; (with_reducible refine (vec_Mask.calls a0_1 t1 _ A2.out).mono ?_); rintro e w' ⟨rfl, ⟨nd, rfl⟩⟩; (try first | exact ⟨rfl, _, World.drewN_drewN _ _ _⟩ | exact ⟨rfl, _, Eq.trans (World.drewN_drewN _ _ _) (congrArg (World.drewN _) (Nat.add_assoc _ _ _))⟩))))
 go_ret
 exact ⟨q11z, q4z HB GE1⟩) : P := h
theorem net_seen_lit.calls (a0_0 : Int) (a0_1 : Int) (a0_2 : Int) (a0_3 : Int) (a0_4 : Int) (a0_5 : Int) (a0_6 : Int) (a0_7 : Int) (a0_8 : Int) (a0_9 : Int) (r : Bool) (w : World) (h : net_seen_lit.f a0_0 a0_1 a0_2 a0_3 a0_4 a0_5 a0_6 a0_7 a0_8 a0_9 = some r) :
  Calls Try.prog 59 #[.agg #[.int .i64 a0_0, .int .i64 a0_1, .int .i64 a0_2, .int .i64 a0_3, .int .i64 a0_4, .int .i64 a0_5, .int .i64 a0_6, .int .i64 a0_7, .int .i64 a0_8, .int .i64 a0_9]] w fun e w' => e = .returned (.bool r) ∧ Below w.heap.size w w' := by
 have hu1 := Try.underlying81; have HB := aM (Below.refl w.heap.size w); have H : (if a0_5 ≥ 0 then ((vec_Mask.f a0_1).bind fun t1 => (if a0_5 ≤ t1 then (some (a0_6 == 0)) else (some false))) else (some false)) = some r := h; clear h; by_cases c1 : a0_5 ≥ 0
 ·rw [if_pos c1] at H; have c1b0 : decide (0 ≤ a0_5) = true := decide_eq_true c1; clear c1; replace H := Option.bind_eq_some_iff.mp H; obtain ⟨t1, A1, H⟩ := H; have A2 := aM A1; clear A1; by_cases c2 : a0_5 ≤ t1
  ·rw [if_pos c2] at H; have c1b0 := decide_eq_true c2; exact z30_1
  ·rw [if_neg c2] at H; have c1b0 := decide_eq_false c2; exact z30_1
 ·rw [if_neg c1] at H; have c1b0 : decide (0 ≤ a0_5) = false := decide_eq_false c1; clear c1; obtain rfl := Option.some.inj H; go_enter Try.func59, Try.ntmps59
  go_wp2_with (first | ((with_reducible refine zgd 1 rfl ?_); refine zbox 1 #[.int .i64 a0_0, .int .i64 a0_1, .int .i64 a0_2, .int .i64 a0_3, .int .i64 a0_4, .int .i64 a0_5, .int .i64 a0_6, .int .i64 a0_7, .int .i64 a0_8, .int .i64 a0_9] 81 ?_; intro gb1 hg w1 hbox hb; have BK1 := aM (hbox); have GW1 := aM ((q7z HB : w.heap.size ≤ gb1)); have GE1 := aM ((q7z HB : w.heap.size ≤ gb1)); replace HB := aM (ym (q5z HB) hb); clear hb hbox hg; have i1_0 : w1.cell? ⟨gb1, 0, none⟩ = some (.int .i64 a0_0) := zc BK1 0; have i1_1 : w1.cell? ⟨gb1, 1, none⟩ = some (.int .i64 a0_1) := zc BK1 1; have i1_2 : w1.cell? ⟨gb1, 2, none⟩ = some (.int .i64 a0_2) := zc BK1 2; have i1_3 : w1.cell? ⟨gb1, 3, none⟩ = some (.int .i64 a0_3) := zc BK1 3; have i1_4 : w1.cell? ⟨gb1, 4, none⟩ = some (.int .i64 a0_4) := zc BK1 4; have i1_5 : w1.cell? ⟨gb1, 5, none⟩ = some (.int .i64 a0_5) := zc BK1 5; have i1_6 : w1.cell? ⟨gb1, 6, none⟩ = some (.int .i64 a0_6) := zc BK1 6; have i1_7 : w1.cell? ⟨gb1, 7, none⟩ = some (.int .i64 a0_7) := zc BK1 7; have i1_8 : w1.cell? ⟨gb1, 8, none⟩ = some (.int .i64 a0_8) := zc BK1 8; have i1_9 : w1.cell? ⟨gb1, 9, none⟩ = some (.int .i64 a0_9) := zc BK1 9; have j1_0 := blk_frozen BK1.out 0; have j1_1 := blk_frozen BK1.out 1; have j1_2 := blk_frozen BK1.out 2; have j1_3 := blk_frozen BK1.out 3; have j1_4 := blk_frozen BK1.out 4; have j1_5 := blk_frozen BK1.out 5; have j1_6 := blk_frozen BK1.out 6; have j1_7 := blk_frozen BK1.out 7; have j1_8 := blk_frozen BK1.out 8; have j1_9 := blk_frozen BK1.out 9))
  repeat (go_quiet (first | ((with_reducible refine zgd 1 rfl ?_); refine zbox 1 #[.int .i64 a0_0, .int .i64 a0_1, .int .i64 a0_2, .int .i64 a0_3, .int .i64 a0_4, .int .i64 a0_5, .int .i64 a0_6, .int .i64 a0_7, .int .i64 a0_8, .int .i64 a0_9] 81 ?_; intro gb1 hg w1 hbox hb; have BK1 := aM (hbox); have GW1 := aM ((q7z HB : w.heap.size ≤ gb1)); have GE1 := aM ((q7z HB : w.heap.size ≤ gb1)); replace HB := aM (ym (q5z HB) hb); clear hb hbox hg; have i1_0 : w1.cell? ⟨gb1, 0, none⟩ = some (.int .i64 a0_0) := zc BK1 0; have i1_1 : w1.cell? ⟨gb1, 1, none⟩ = some (.int .i64 a0_1) := zc BK1 1; have i1_2 : w1.cell? ⟨gb1, 2, none⟩ = some (.int .i64 a0_2) := zc BK1 2; have i1_3 : w1.cell? ⟨gb1, 3, none⟩ = some (.int .i64 a0_3) := zc BK1 3; have i1_4 : w1.cell? ⟨gb1, 4, none⟩ = some (.int .i64 a0_4) := zc BK1 4; have i1_5 : w1.cell? ⟨gb1, 5, none⟩ = some (.int .i64 a0_5) := zc BK1 5; have i1_6 : w1.cell? ⟨gb1, 6, none⟩ = some (.int .i64 a0_6) := zc BK1 6; have i1_7 : w1.cell? ⟨gb1, 7, none⟩ = some (.int .i64 a0_7) := zc BK1 7; have i1_8 : w1.cell? ⟨gb1, 8, none⟩ = some (.int .i64 a0_8) := zc BK1 8; have i1_9 : w1.cell? ⟨gb1, 9, none⟩ = some (.int .i64 a0_9) := zc BK1 9; have j1_0 := blk_frozen BK1.out 0; have j1_1 := blk_frozen BK1.out 1; have j1_2 := blk_frozen BK1.out 2; have j1_3 := blk_frozen BK1.out 3; have j1_4 := blk_frozen BK1.out 4; have j1_5 := blk_frozen BK1.out 5; have j1_6 := blk_frozen BK1.out 6; have j1_7 := blk_frozen BK1.out 7; have j1_8 := blk_frozen BK1.out 8; have j1_9 := blk_frozen BK1.out 9)); try go_wp2_with (first | ((with_reducible refine zgd 1 rfl ?_); refine zbox 1 #[.int .i64 a0_0, .int .i64 a0_1, .int .i64 a0_2, .int .i64 a0_3, .int .i64 a0_4, .int .i64 a0_5, .int .i64 a0_6, .int .i64 a0_7, .int .i64 a0_8, .int .i64 a0_9] 81 ?_; intro gb1 hg w1 hbox hb; have BK1 := aM (hbox); have GW1 := aM ((q7z HB : w.heap.size ≤ gb1)); have GE1 := aM ((q7z HB : w.heap.size ≤ gb1)); replace HB := aM (ym (q5z HB) hb); clear hb hbox hg; have i1_0 : w1.cell? ⟨gb1, 0, none⟩ = some (.int .i64 a0_0) := zc BK1 0; have i1_1 : w1.cell? ⟨gb1, 1, none⟩ = some (.int .i64 a0_1) := zc BK1 1; have i1_2 : w1.cell? ⟨gb1, 2, none⟩ = some (.int .i64 a0_2) := zc BK1 2; have i1_3 : w1.cell? ⟨gb1, 3, none⟩ = some (.int .i64 a0_3) := zc BK1 3; have i1_4 : w1.cell? ⟨gb1, 4, none⟩ = some (.int .i64 a0_4) := zc BK1 4; have i1_5 : w1.cell? ⟨gb1, 5, none⟩ = some (.int .i64 a0_5) := zc BK1 5; have i1_6 : w1.cell? ⟨gb1, 6, none⟩ = some (.int .i64 a0_6) := zc BK1 6; have i1_7 : w1.cell? ⟨gb1, 7, none⟩ = some (.int .i64 a0_7) := zc BK1 7; have i1_8 : w1.cell? ⟨gb1, 8, none⟩ = some (.int .i64 a0_8) := zc BK1 8; have i1_9 : w1.cell? ⟨gb1, 9, none⟩ = some (.int .i64 a0_9) := zc BK1 9; have j1_0 := blk_frozen BK1.out 0; have j1_1 := blk_frozen BK1.out 1; have j1_2 := blk_frozen BK1.out 2; have j1_3 := blk_frozen BK1.out 3; have j1_4 := blk_frozen BK1.out 4; have j1_5 := blk_frozen BK1.out 5; have j1_6 := blk_frozen BK1.out 6; have j1_7 := blk_frozen BK1.out 7; have j1_8 := blk_frozen BK1.out 8; have j1_9 := blk_frozen BK1.out 9)))
  go_ret
  exact ⟨q11z, q4z HB GE1⟩
def net_seen_one.f (a0_0 : Int) (a0_1 : Int) (a0_2 : Int) (a0_3 : Int) (a0_4 : Int) (a0_5 : Int) (a0_6 : Int) (a0_7 : Int) (a0_8 : Int) (a0_9 : Int) : Option (Bool) := (net_seen_bare.f a0_0 a0_1 a0_2 a0_3 a0_4 a0_5 a0_6 a0_7 a0_8 a0_9).bind fun t117 => (if t117 = true then (some (a0_7 == a0_1)) else (some false))
theorem net_seen_one.calls (a0_0 : Int) (a0_1 : Int) (a0_2 : Int) (a0_3 : Int) (a0_4 : Int) (a0_5 : Int) (a0_6 : Int) (a0_7 : Int) (a0_8 : Int) (a0_9 : Int) (r : Bool) (w : World) (h : net_seen_one.f a0_0 a0_1 a0_2 a0_3 a0_4 a0_5 a0_6 a0_7 a0_8 a0_9 = some r) :
  Calls Try.prog 61 #[.agg #[.int .i64 a0_0, .int .i64 a0_1, .int .i64 a0_2, .int .i64 a0_3, .int .i64 a0_4, .int .i64 a0_5, .int .i64 a0_6, .int .i64 a0_7, .int .i64 a0_8, .int .i64 a0_9]] w fun e w' => e = .returned (.bool r) ∧ Below w.heap.size w w' := by
 have hu1 := Try.underlying81; have HB := aM (Below.refl w.heap.size w); have H : ((net_seen_bare.f a0_0 a0_1 a0_2 a0_3 a0_4 a0_5 a0_6 a0_7 a0_8 a0_9).bind fun t1 => (if t1 = true then (some (a0_7 == a0_1)) else (some false))) = some r := h; clear h; replace H := Option.bind_eq_some_iff.mp H; obtain ⟨t1, A1, H⟩ := H; have A2 := aM A1; clear A1; by_cases c1 : t1 = true
 ·subst c1; have H1 : (some (a0_7 == a0_1)) = some r := by rw [if_pos rfl] at H; exact H
  clear H; have H := H1; clear H1; obtain rfl := Option.some.inj H; go_enter Try.func61, Try.ntmps61
  go_wp2_with (first | ((with_reducible refine zgd 1 rfl ?_); refine zbox 1 #[.int .i64 a0_0, .int .i64 a0_1, .int .i64 a0_2, .int .i64 a0_3, .int .i64 a0_4, .int .i64 a0_5, .int .i64 a0_6, .int .i64 a0_7, .int .i64 a0_8, .int .i64 a0_9] 81 ?_; intro gb1 hg w1 hbox hb; have BK1 := aM (hbox); have GW1 := aM ((q7z HB : w.heap.size ≤ gb1)); have GE1 := aM ((q7z HB : w.heap.size ≤ gb1)); replace HB := aM (ym (q5z HB) hb); clear hb hbox hg; have i1_0 : w1.cell? ⟨gb1, 0, none⟩ = some (.int .i64 a0_0) := zc BK1 0; have i1_1 : w1.cell? ⟨gb1, 1, none⟩ = some (.int .i64 a0_1) := zc BK1 1; have i1_2 : w1.cell? ⟨gb1, 2, none⟩ = some (.int .i64 a0_2) := zc BK1 2; have i1_3 : w1.cell? ⟨gb1, 3, none⟩ = some (.int .i64 a0_3) := zc BK1 3; have i1_4 : w1.cell? ⟨gb1, 4, none⟩ = some (.int .i64 a0_4) := zc BK1 4; have i1_5 : w1.cell? ⟨gb1, 5, none⟩ = some (.int .i64 a0_5) := zc BK1 5; have i1_6 : w1.cell? ⟨gb1, 6, none⟩ = some (.int .i64 a0_6) := zc BK1 6; have i1_7 : w1.cell? ⟨gb1, 7, none⟩ = some (.int .i64 a0_7) := zc BK1 7; have i1_8 : w1.cell? ⟨gb1, 8, none⟩ = some (.int .i64 a0_8) := zc BK1 8; have i1_9 : w1.cell? ⟨gb1, 9, none⟩ = some (.int .i64 a0_9) := zc BK1 9; have j1_0 := blk_frozen BK1.out 0; have j1_1 := blk_frozen BK1.out 1; have j1_2 := blk_frozen BK1.out 2; have j1_3 := blk_frozen BK1.out 3; have j1_4 := blk_frozen BK1.out 4; have j1_5 := blk_frozen BK1.out 5; have j1_6 := blk_frozen BK1.out 6; have j1_7 := blk_frozen BK1.out 7; have j1_8 := blk_frozen BK1.out 8; have j1_9 := blk_frozen BK1.out 9) | ((with_reducible refine zgc 60 rfl ?_); refine zgl (some 4) Try.func60 #[.agg #[.int .i64 a0_0, .int .i64 a0_1, .int .i64 a0_2, .int .i64 a0_3, .int .i64 a0_4, .int .i64 a0_5, .int .i64 a0_6, .int .i64 a0_7, .int .i64 a0_8, .int .i64 a0_9]] ?_; (with_reducible refine (net_seen_bare.calls a0_0 a0_1 a0_2 a0_3 a0_4 a0_5 a0_6 a0_7 a0_8 a0_9 true _ A2.out).mono ?_); rintro e w2 ⟨rfl, hb⟩; refine ⟨_, rfl, ?_⟩; replace BK1 := aM (yi (zi BK1) hb); replace HB := aM (ym (q4z HB GE1) hb); (try clear hb); (try clear hb2); (try clear hk); (try clear hi); have i2_0 : w2.cell? ⟨gb1, 0, none⟩ = some (.int .i64 a0_0) := zc BK1 0; have i2_1 : w2.cell? ⟨gb1, 1, none⟩ = some (.int .i64 a0_1) := zc BK1 1; have i2_2 : w2.cell? ⟨gb1, 2, none⟩ = some (.int .i64 a0_2) := zc BK1 2; have i2_3 : w2.cell? ⟨gb1, 3, none⟩ = some (.int .i64 a0_3) := zc BK1 3; have i2_4 : w2.cell? ⟨gb1, 4, none⟩ = some (.int .i64 a0_4) := zc BK1 4; have i2_5 : w2.cell? ⟨gb1, 5, none⟩ = some (.int .i64 a0_5) := zc BK1 5; have i2_6 : w2.cell? ⟨gb1, 6, none⟩ = some (.int .i64 a0_6) := zc BK1 6; have i2_7 : w2.cell? ⟨gb1, 7, none⟩ = some (.int .i64 a0_7) := zc BK1 7; have i2_8 : w2.cell? ⟨gb1, 8, none⟩ = some (.int .i64 a0_8) := zc BK1 8; have i2_9 : w2.cell? ⟨gb1, 9, none⟩ = some (.int .i64 a0_9) := zc BK1 9; have j2_0 := blk_frozen BK1.out 0; have j2_1 := blk_frozen BK1.out 1; have j2_2 := blk_frozen BK1.out 2; have j2_3 := blk_frozen BK1.out 3; have j2_4 := blk_frozen BK1.out 4; have j2_5 := blk_frozen BK1.out 5; have j2_6 := blk_frozen BK1.out 6; have j2_7 := blk_frozen BK1.out 7; have j2_8 := blk_frozen BK1.out 8; have j2_9 := blk_frozen BK1.out 9))
  go_ret
  exact ⟨q11z, q4z HB GE1⟩
 ·replace c1 := Bool.eq_false_iff.mpr c1; subst c1; have H1 : (some false) = some r := by rw [if_neg (show ¬ (false = true) by decide)] at H; exact H
  clear H; have H := H1; clear H1; obtain rfl := Option.some.inj H; go_enter Try.func61, Try.ntmps61
  go_wp2_with (first | ((with_reducible refine zgd 1 rfl ?_); refine zbox 1 #[.int .i64 a0_0, .int .i64 a0_1, .int .i64 a0_2, .int .i64 a0_3, .int .i64 a0_4, .int .i64 a0_5, .int .i64 a0_6, .int .i64 a0_7, .int .i64 a0_8, .int .i64 a0_9] 81 ?_; intro gb1 hg w1 hbox hb; have BK1 := aM (hbox); have GW1 := aM ((q7z HB : w.heap.size ≤ gb1)); have GE1 := aM ((q7z HB : w.heap.size ≤ gb1)); replace HB := aM (ym (q5z HB) hb); clear hb hbox hg; have i1_0 : w1.cell? ⟨gb1, 0, none⟩ = some (.int .i64 a0_0) := zc BK1 0; have i1_1 : w1.cell? ⟨gb1, 1, none⟩ = some (.int .i64 a0_1) := zc BK1 1; have i1_2 : w1.cell? ⟨gb1, 2, none⟩ = some (.int .i64 a0_2) := zc BK1 2; have i1_3 : w1.cell? ⟨gb1, 3, none⟩ = some (.int .i64 a0_3) := zc BK1 3; have i1_4 : w1.cell? ⟨gb1, 4, none⟩ = some (.int .i64 a0_4) := zc BK1 4; have i1_5 : w1.cell? ⟨gb1, 5, none⟩ = some (.int .i64 a0_5) := zc BK1 5; have i1_6 : w1.cell? ⟨gb1, 6, none⟩ = some (.int .i64 a0_6) := zc BK1 6; have i1_7 : w1.cell? ⟨gb1, 7, none⟩ = some (.int .i64 a0_7) := zc BK1 7; have i1_8 : w1.cell? ⟨gb1, 8, none⟩ = some (.int .i64 a0_8) := zc BK1 8; have i1_9 : w1.cell? ⟨gb1, 9, none⟩ = some (.int .i64 a0_9) := zc BK1 9; have j1_0 := blk_frozen BK1.out 0; have j1_1 := blk_frozen BK1.out 1; have j1_2 := blk_frozen BK1.out 2; have j1_3 := blk_frozen BK1.out 3; have j1_4 := blk_frozen BK1.out 4; have j1_5 := blk_frozen BK1.out 5; have j1_6 := blk_frozen BK1.out 6; have j1_7 := blk_frozen BK1.out 7; have j1_8 := blk_frozen BK1.out 8; have j1_9 := blk_frozen BK1.out 9) | ((with_reducible refine zgc 60 rfl ?_); refine zgl (some 4) Try.func60 #[.agg #[.int .i64 a0_0, .int .i64 a0_1, .int .i64 a0_2, .int .i64 a0_3, .int .i64 a0_4, .int .i64 a0_5, .int .i64 a0_6, .int .i64 a0_7, .int .i64 a0_8, .int .i64 a0_9]] ?_; (with_reducible refine (net_seen_bare.calls a0_0 a0_1 a0_2 a0_3 a0_4 a0_5 a0_6 a0_7 a0_8 a0_9 false _ A2.out).mono ?_); rintro e w2 ⟨rfl, hb⟩; refine ⟨_, rfl, ?_⟩; replace BK1 := aM (yi (zi BK1) hb); replace HB := aM (ym (q4z HB GE1) hb); (try clear hb); (try clear hb2); (try clear hk); (try clear hi)))
  go_ret
  exact ⟨q11z, q4z HB GE1⟩
def net_seen_two.f (a0_0 : Int) (a0_1 : Int) (a0_2 : Int) (a0_3 : Int) (a0_4 : Int) (a0_5 : Int) (a0_6 : Int) (a0_7 : Int) (a0_8 : Int) (a0_9 : Int) : Option (Bool) := (net_seen_one.f a0_0 a0_1 a0_2 a0_3 a0_4 a0_5 a0_6 a0_7 a0_8 a0_9).bind fun t119 => (if t119 = true then (some (a0_8 == a0_1)) else (some false))
theorem net_seen_two.calls (a0_0 : Int) (a0_1 : Int) (a0_2 : Int) (a0_3 : Int) (a0_4 : Int) (a0_5 : Int) (a0_6 : Int) (a0_7 : Int) (a0_8 : Int) (a0_9 : Int) (r : Bool) (w : World) (h : net_seen_two.f a0_0 a0_1 a0_2 a0_3 a0_4 a0_5 a0_6 a0_7 a0_8 a0_9 = some r) :
  Calls Try.prog 57 #[.agg #[.int .i64 a0_0, .int .i64 a0_1, .int .i64 a0_2, .int .i64 a0_3, .int .i64 a0_4, .int .i64 a0_5, .int .i64 a0_6, .int .i64 a0_7, .int .i64 a0_8, .int .i64 a0_9]] w fun e w' => e = .returned (.bool r) ∧ Below w.heap.size w w' := by
 have hu1 := Try.underlying81; have HB := aM (Below.refl w.heap.size w); have H : ((net_seen_one.f a0_0 a0_1 a0_2 a0_3 a0_4 a0_5 a0_6 a0_7 a0_8 a0_9).bind fun t1 => (if t1 = true then (some (a0_8 == a0_1)) else (some false))) = some r := h; clear h; replace H := Option.bind_eq_some_iff.mp H; obtain ⟨t1, A1, H⟩ := H; have A2 := aM A1; clear A1; by_cases c1 : t1 = true
 ·subst c1; have H1 : (some (a0_8 == a0_1)) = some r := by rw [if_pos rfl] at H; exact H
  clear H; have H := H1; clear H1; obtain rfl := Option.some.inj H; go_enter Try.func57, Try.ntmps57
  go_wp2_with (first | ((with_reducible refine zgd 1 rfl ?_); refine zbox 1 #[.int .i64 a0_0, .int .i64 a0_1, .int .i64 a0_2, .int .i64 a0_3, .int .i64 a0_4, .int .i64 a0_5, .int .i64 a0_6, .int .i64 a0_7, .int .i64 a0_8, .int .i64 a0_9] 81 ?_; intro gb1 hg w1 hbox hb; have BK1 := aM (hbox); have GW1 := aM ((q7z HB : w.heap.size ≤ gb1)); have GE1 := aM ((q7z HB : w.heap.size ≤ gb1)); replace HB := aM (ym (q5z HB) hb); clear hb hbox hg; have i1_0 : w1.cell? ⟨gb1, 0, none⟩ = some (.int .i64 a0_0) := zc BK1 0; have i1_1 : w1.cell? ⟨gb1, 1, none⟩ = some (.int .i64 a0_1) := zc BK1 1; have i1_2 : w1.cell? ⟨gb1, 2, none⟩ = some (.int .i64 a0_2) := zc BK1 2; have i1_3 : w1.cell? ⟨gb1, 3, none⟩ = some (.int .i64 a0_3) := zc BK1 3; have i1_4 : w1.cell? ⟨gb1, 4, none⟩ = some (.int .i64 a0_4) := zc BK1 4; have i1_5 : w1.cell? ⟨gb1, 5, none⟩ = some (.int .i64 a0_5) := zc BK1 5; have i1_6 : w1.cell? ⟨gb1, 6, none⟩ = some (.int .i64 a0_6) := zc BK1 6; have i1_7 : w1.cell? ⟨gb1, 7, none⟩ = some (.int .i64 a0_7) := zc BK1 7; have i1_8 : w1.cell? ⟨gb1, 8, none⟩ = some (.int .i64 a0_8) := zc BK1 8; have i1_9 : w1.cell? ⟨gb1, 9, none⟩ = some (.int .i64 a0_9) := zc BK1 9; have j1_0 := blk_frozen BK1.out 0; have j1_1 := blk_frozen BK1.out 1; have j1_2 := blk_frozen BK1.out 2; have j1_3 := blk_frozen BK1.out 3; have j1_4 := blk_frozen BK1.out 4; have j1_5 := blk_frozen BK1.out 5; have j1_6 := blk_frozen BK1.out 6; have j1_7 := blk_frozen BK1.out 7; have j1_8 := blk_frozen BK1.out 8; have j1_9 := blk_frozen BK1.out 9) | ((with_reducible refine zgc 61 rfl ?_); refine zgl (some 4) Try.func61 #[.agg #[.int .i64 a0_0, .int .i64 a0_1, .int .i64 a0_2, .int .i64 a0_3, .int .i64 a0_4, .int .i64 a0_5, .int .i64 a0_6, .int .i64 a0_7, .int .i64 a0_8, .int .i64 a0_9]] ?_; (with_reducible refine (net_seen_one.calls a0_0 a0_1 a0_2 a0_3 a0_4 a0_5 a0_6 a0_7 a0_8 a0_9 true _ A2.out).mono ?_); rintro e w2 ⟨rfl, hb⟩; refine ⟨_, rfl, ?_⟩; replace BK1 := aM (yi (zi BK1) hb); replace HB := aM (ym (q4z HB GE1) hb); (try clear hb); (try clear hb2); (try clear hk); (try clear hi); have i2_0 : w2.cell? ⟨gb1, 0, none⟩ = some (.int .i64 a0_0) := zc BK1 0; have i2_1 : w2.cell? ⟨gb1, 1, none⟩ = some (.int .i64 a0_1) := zc BK1 1; have i2_2 : w2.cell? ⟨gb1, 2, none⟩ = some (.int .i64 a0_2) := zc BK1 2; have i2_3 : w2.cell? ⟨gb1, 3, none⟩ = some (.int .i64 a0_3) := zc BK1 3; have i2_4 : w2.cell? ⟨gb1, 4, none⟩ = some (.int .i64 a0_4) := zc BK1 4; have i2_5 : w2.cell? ⟨gb1, 5, none⟩ = some (.int .i64 a0_5) := zc BK1 5; have i2_6 : w2.cell? ⟨gb1, 6, none⟩ = some (.int .i64 a0_6) := zc BK1 6; have i2_7 : w2.cell? ⟨gb1, 7, none⟩ = some (.int .i64 a0_7) := zc BK1 7; have i2_8 : w2.cell? ⟨gb1, 8, none⟩ = some (.int .i64 a0_8) := zc BK1 8; have i2_9 : w2.cell? ⟨gb1, 9, none⟩ = some (.int .i64 a0_9) := zc BK1 9; have j2_0 := blk_frozen BK1.out 0; have j2_1 := blk_frozen BK1.out 1; have j2_2 := blk_frozen BK1.out 2; have j2_3 := blk_frozen BK1.out 3; have j2_4 := blk_frozen BK1.out 4; have j2_5 := blk_frozen BK1.out 5; have j2_6 := blk_frozen BK1.out 6; have j2_7 := blk_frozen BK1.out 7; have j2_8 := blk_frozen BK1.out 8; have j2_9 := blk_frozen BK1.out 9))
  go_ret
  exact ⟨q11z, q4z HB GE1⟩
 ·replace c1 := Bool.eq_false_iff.mpr c1; subst c1; have H1 : (some false) = some r := by rw [if_neg (show ¬ (false = true) by decide)] at H; exact H
  clear H; have H := H1; clear H1; obtain rfl := Option.some.inj H; go_enter Try.func57, Try.ntmps57
  go_wp2_with (first | ((with_reducible refine zgd 1 rfl ?_); refine zbox 1 #[.int .i64 a0_0, .int .i64 a0_1, .int .i64 a0_2, .int .i64 a0_3, .int .i64 a0_4, .int .i64 a0_5, .int .i64 a0_6, .int .i64 a0_7, .int .i64 a0_8, .int .i64 a0_9] 81 ?_; intro gb1 hg w1 hbox hb; have BK1 := aM (hbox); have GW1 := aM ((q7z HB : w.heap.size ≤ gb1)); have GE1 := aM ((q7z HB : w.heap.size ≤ gb1)); replace HB := aM (ym (q5z HB) hb); clear hb hbox hg; have i1_0 : w1.cell? ⟨gb1, 0, none⟩ = some (.int .i64 a0_0) := zc BK1 0; have i1_1 : w1.cell? ⟨gb1, 1, none⟩ = some (.int .i64 a0_1) := zc BK1 1; have i1_2 : w1.cell? ⟨gb1, 2, none⟩ = some (.int .i64 a0_2) := zc BK1 2; have i1_3 : w1.cell? ⟨gb1, 3, none⟩ = some (.int .i64 a0_3) := zc BK1 3; have i1_4 : w1.cell? ⟨gb1, 4, none⟩ = some (.int .i64 a0_4) := zc BK1 4; have i1_5 : w1.cell? ⟨gb1, 5, none⟩ = some (.int .i64 a0_5) := zc BK1 5; have i1_6 : w1.cell? ⟨gb1, 6, none⟩ = some (.int .i64 a0_6) := zc BK1 6; have i1_7 : w1.cell? ⟨gb1, 7, none⟩ = some (.int .i64 a0_7) := zc BK1 7; have i1_8 : w1.cell? ⟨gb1, 8, none⟩ = some (.int .i64 a0_8) := zc BK1 8; have i1_9 : w1.cell? ⟨gb1, 9, none⟩ = some (.int .i64 a0_9) := zc BK1 9; have j1_0 := blk_frozen BK1.out 0; have j1_1 := blk_frozen BK1.out 1; have j1_2 := blk_frozen BK1.out 2; have j1_3 := blk_frozen BK1.out 3; have j1_4 := blk_frozen BK1.out 4; have j1_5 := blk_frozen BK1.out 5; have j1_6 := blk_frozen BK1.out 6; have j1_7 := blk_frozen BK1.out 7; have j1_8 := blk_frozen BK1.out 8; have j1_9 := blk_frozen BK1.out 9) | ((with_reducible refine zgc 61 rfl ?_); refine zgl (some 4) Try.func61 #[.agg #[.int .i64 a0_0, .int .i64 a0_1, .int .i64 a0_2, .int .i64 a0_3, .int .i64 a0_4, .int .i64 a0_5, .int .i64 a0_6, .int .i64 a0_7, .int .i64 a0_8, .int .i64 a0_9]] ?_; (with_reducible refine (net_seen_one.calls a0_0 a0_1 a0_2 a0_3 a0_4 a0_5 a0_6 a0_7 a0_8 a0_9 false _ A2.out).mono ?_); rintro e w2 ⟨rfl, hb⟩; refine ⟨_, rfl, ?_⟩; replace BK1 := aM (yi (zi BK1) hb); replace HB := aM (ym (q4z HB GE1) hb); (try clear hb); (try clear hb2); (try clear hk); (try clear hi)))
  go_ret
  exact ⟨q11z, q4z HB GE1⟩
def net_seen_red.f (a0_0 : Int) (a0_1 : Int) (a0_2 : Int) (a0_3 : Int) (a0_4 : Int) (a0_5 : Int) (a0_6 : Int) (a0_7 : Int) (a0_8 : Int) (a0_9 : Int) : Option (Bool) := if a0_5 = 0 then (if a0_1 = 1 then (if a0_7 > 0 then (some (a0_7 == a0_6)) else (some false)) else (some false)) else (some false)
theorem z33_2 {P : Prop} (h : P := by
 obtain rfl := Option.some.inj H; go_enter Try.func62, Try.ntmps62
 go_wp2_with (first | ((with_reducible refine zgd 1 rfl ?_); refine zbox 1 #[.int .i64 a0_0, .int .i64 a0_1, .int .i64 a0_2, .int .i64 a0_3, .int .i64 a0_4, .int .i64 a0_5, .int .i64 a0_6, .int .i64 a0_7, .int .i64 a0_8, .int .i64 a0_9] 81 ?_; intro gb1 hg w1 hbox hb; have BK1 := aM (hbox); have GW1 := aM ((q7z HB : w.heap.size ≤ gb1)); have GE1 := aM ((q7z HB : w.heap.size ≤ gb1)); replace HB := aM (ym (q5z HB) hb); clear hb hbox hg; have i1_0 : w1.cell? ⟨gb1, 0, none⟩ = some (.int .i64 a0_0) := zc BK1 0; have i1_1 : w1.cell? ⟨gb1, 1, none⟩ = some (.int .i64 a0_1) := zc BK1 1; have i1_2 : w1.cell? ⟨gb1, 2, none⟩ = some (.int .i64 a0_2) := zc BK1 2; have i1_3 : w1.cell? ⟨gb1, 3, none⟩ = some (.int .i64 a0_3) := zc BK1 3; have i1_4 : w1.cell? ⟨gb1, 4, none⟩ = some (.int .i64 a0_4) := zc BK1 4; have i1_5 : w1.cell? ⟨gb1, 5, none⟩ = some (.int .i64 a0_5) := zc BK1 5; have i1_6 : w1.cell? ⟨gb1, 6, none⟩ = some (.int .i64 a0_6) := zc BK1 6; have i1_7 : w1.cell? ⟨gb1, 7, none⟩ = some (.int .i64 a0_7) := zc BK1 7; have i1_8 : w1.cell? ⟨gb1, 8, none⟩ = some (.int .i64 a0_8) := zc BK1 8; have i1_9 : w1.cell? ⟨gb1, 9, none⟩ = some (.int .i64 a0_9) := zc BK1 9; have j1_0 := blk_frozen BK1.out 0; have j1_1 := blk_frozen BK1.out 1; have j1_2 := blk_frozen BK1.out 2; have j1_3 := blk_frozen BK1.out 3; have j1_4 := blk_frozen BK1.out 4; have j1_5 := blk_frozen BK1.out 5; have j1_6 := blk_frozen BK1.out 6; have j1_7 := blk_frozen BK1.out 7; have j1_8 := blk_frozen BK1.out 8; have j1_9 := blk_frozen BK1.out 9))
 go_ret
 exact ⟨q11z, q4z HB GE1⟩) : P := h
theorem z33_1 {P : Prop} (h : P := by
 clear c3; exact z33_2) : P := h
theorem net_seen_red.calls (a0_0 : Int) (a0_1 : Int) (a0_2 : Int) (a0_3 : Int) (a0_4 : Int) (a0_5 : Int) (a0_6 : Int) (a0_7 : Int) (a0_8 : Int) (a0_9 : Int) (r : Bool) (w : World) (h : net_seen_red.f a0_0 a0_1 a0_2 a0_3 a0_4 a0_5 a0_6 a0_7 a0_8 a0_9 = some r) :
  Calls Try.prog 62 #[.agg #[.int .i64 a0_0, .int .i64 a0_1, .int .i64 a0_2, .int .i64 a0_3, .int .i64 a0_4, .int .i64 a0_5, .int .i64 a0_6, .int .i64 a0_7, .int .i64 a0_8, .int .i64 a0_9]] w fun e w' => e = .returned (.bool r) ∧ Below w.heap.size w w' := by
 have hu1 := Try.underlying81; have HB := aM (Below.refl w.heap.size w); have H : (if a0_5 = 0 then (if a0_1 = 1 then (if a0_7 > 0 then (some (a0_7 == a0_6)) else (some false)) else (some false)) else (some false)) = some r := h; clear h; by_cases c1 : a0_5 = 0
 ·rw [if_pos c1] at H; obtain ⟨c1b0, c1b1⟩ := zeq c1; clear c1; by_cases c2 : a0_1 = 1
  ·rw [if_pos c2] at H; obtain ⟨c1b0, c1b1⟩ := zeq c2; clear c2; by_cases c3 : a0_7 > 0
   ·rw [if_pos c3] at H; have c1b0 : decide (0 < a0_7) = true := decide_eq_true c3; exact z33_1
   ·rw [if_neg c3] at H; have c1b0 : decide (0 < a0_7) = false := decide_eq_false c3; exact z33_1
  ·rw [if_neg c2] at H; obtain ⟨c1b0, c1b1⟩ := zne c2; exact z33_2
 ·rw [if_neg c1] at H; obtain ⟨c1b0, c1b1⟩ := zne c1; exact z33_2
def net_seen_asked.f (a0_0 : Int) (a0_1 : Int) (a0_2 : Int) (a0_3 : Int) (a0_4 : Int) (a0_5 : Int) (a0_6 : Int) (a0_7 : Int) (a0_8 : Int) (a0_9 : Int) : Option (Bool) := (net_seen_red.f a0_0 a0_1 a0_2 a0_3 a0_4 a0_5 a0_6 a0_7 a0_8 a0_9).bind fun t122 => (if t122 = true then (some (a0_8 == a0_6)) else (some false))
theorem net_seen_asked.calls (a0_0 : Int) (a0_1 : Int) (a0_2 : Int) (a0_3 : Int) (a0_4 : Int) (a0_5 : Int) (a0_6 : Int) (a0_7 : Int) (a0_8 : Int) (a0_9 : Int) (r : Bool) (w : World) (h : net_seen_asked.f a0_0 a0_1 a0_2 a0_3 a0_4 a0_5 a0_6 a0_7 a0_8 a0_9 = some r) :
  Calls Try.prog 58 #[.agg #[.int .i64 a0_0, .int .i64 a0_1, .int .i64 a0_2, .int .i64 a0_3, .int .i64 a0_4, .int .i64 a0_5, .int .i64 a0_6, .int .i64 a0_7, .int .i64 a0_8, .int .i64 a0_9]] w fun e w' => e = .returned (.bool r) ∧ Below w.heap.size w w' := by
 have hu1 := Try.underlying81; have HB := aM (Below.refl w.heap.size w); have H : ((net_seen_red.f a0_0 a0_1 a0_2 a0_3 a0_4 a0_5 a0_6 a0_7 a0_8 a0_9).bind fun t1 => (if t1 = true then (some (a0_8 == a0_6)) else (some false))) = some r := h; clear h; replace H := Option.bind_eq_some_iff.mp H; obtain ⟨t1, A1, H⟩ := H; have A2 := aM A1; clear A1; by_cases c1 : t1 = true
 ·subst c1; have H1 : (some (a0_8 == a0_6)) = some r := by rw [if_pos rfl] at H; exact H
  clear H; have H := H1; clear H1; obtain rfl := Option.some.inj H; go_enter Try.func58, Try.ntmps58
  go_wp2_with (first | ((with_reducible refine zgd 1 rfl ?_); refine zbox 1 #[.int .i64 a0_0, .int .i64 a0_1, .int .i64 a0_2, .int .i64 a0_3, .int .i64 a0_4, .int .i64 a0_5, .int .i64 a0_6, .int .i64 a0_7, .int .i64 a0_8, .int .i64 a0_9] 81 ?_; intro gb1 hg w1 hbox hb; have BK1 := aM (hbox); have GW1 := aM ((q7z HB : w.heap.size ≤ gb1)); have GE1 := aM ((q7z HB : w.heap.size ≤ gb1)); replace HB := aM (ym (q5z HB) hb); clear hb hbox hg; have i1_0 : w1.cell? ⟨gb1, 0, none⟩ = some (.int .i64 a0_0) := zc BK1 0; have i1_1 : w1.cell? ⟨gb1, 1, none⟩ = some (.int .i64 a0_1) := zc BK1 1; have i1_2 : w1.cell? ⟨gb1, 2, none⟩ = some (.int .i64 a0_2) := zc BK1 2; have i1_3 : w1.cell? ⟨gb1, 3, none⟩ = some (.int .i64 a0_3) := zc BK1 3; have i1_4 : w1.cell? ⟨gb1, 4, none⟩ = some (.int .i64 a0_4) := zc BK1 4; have i1_5 : w1.cell? ⟨gb1, 5, none⟩ = some (.int .i64 a0_5) := zc BK1 5; have i1_6 : w1.cell? ⟨gb1, 6, none⟩ = some (.int .i64 a0_6) := zc BK1 6; have i1_7 : w1.cell? ⟨gb1, 7, none⟩ = some (.int .i64 a0_7) := zc BK1 7; have i1_8 : w1.cell? ⟨gb1, 8, none⟩ = some (.int .i64 a0_8) := zc BK1 8; have i1_9 : w1.cell? ⟨gb1, 9, none⟩ = some (.int .i64 a0_9) := zc BK1 9; have j1_0 := blk_frozen BK1.out 0; have j1_1 := blk_frozen BK1.out 1; have j1_2 := blk_frozen BK1.out 2; have j1_3 := blk_frozen BK1.out 3; have j1_4 := blk_frozen BK1.out 4; have j1_5 := blk_frozen BK1.out 5; have j1_6 := blk_frozen BK1.out 6; have j1_7 := blk_frozen BK1.out 7; have j1_8 := blk_frozen BK1.out 8; have j1_9 := blk_frozen BK1.out 9) | ((with_reducible refine zgc 62 rfl ?_); refine zgl (some 4) Try.func62 #[.agg #[.int .i64 a0_0, .int .i64 a0_1, .int .i64 a0_2, .int .i64 a0_3, .int .i64 a0_4, .int .i64 a0_5, .int .i64 a0_6, .int .i64 a0_7, .int .i64 a0_8, .int .i64 a0_9]] ?_; (with_reducible refine (net_seen_red.calls a0_0 a0_1 a0_2 a0_3 a0_4 a0_5 a0_6 a0_7 a0_8 a0_9 true _ A2.out).mono ?_); rintro e w2 ⟨rfl, hb⟩; refine ⟨_, rfl, ?_⟩; replace BK1 := aM (yi (zi BK1) hb); replace HB := aM (ym (q4z HB GE1) hb); (try clear hb); (try clear hb2); (try clear hk); (try clear hi); have i2_0 : w2.cell? ⟨gb1, 0, none⟩ = some (.int .i64 a0_0) := zc BK1 0; have i2_1 : w2.cell? ⟨gb1, 1, none⟩ = some (.int .i64 a0_1) := zc BK1 1; have i2_2 : w2.cell? ⟨gb1, 2, none⟩ = some (.int .i64 a0_2) := zc BK1 2; have i2_3 : w2.cell? ⟨gb1, 3, none⟩ = some (.int .i64 a0_3) := zc BK1 3; have i2_4 : w2.cell? ⟨gb1, 4, none⟩ = some (.int .i64 a0_4) := zc BK1 4; have i2_5 : w2.cell? ⟨gb1, 5, none⟩ = some (.int .i64 a0_5) := zc BK1 5; have i2_6 : w2.cell? ⟨gb1, 6, none⟩ = some (.int .i64 a0_6) := zc BK1 6; have i2_7 : w2.cell? ⟨gb1, 7, none⟩ = some (.int .i64 a0_7) := zc BK1 7; have i2_8 : w2.cell? ⟨gb1, 8, none⟩ = some (.int .i64 a0_8) := zc BK1 8; have i2_9 : w2.cell? ⟨gb1, 9, none⟩ = some (.int .i64 a0_9) := zc BK1 9; have j2_0 := blk_frozen BK1.out 0; have j2_1 := blk_frozen BK1.out 1; have j2_2 := blk_frozen BK1.out 2; have j2_3 := blk_frozen BK1.out 3; have j2_4 := blk_frozen BK1.out 4; have j2_5 := blk_frozen BK1.out 5; have j2_6 := blk_frozen BK1.out 6; have j2_7 := blk_frozen BK1.out 7; have j2_8 := blk_frozen BK1.out 8; have j2_9 := blk_frozen BK1.out 9))
  go_ret
  exact ⟨q11z, q4z HB GE1⟩
 ·replace c1 := Bool.eq_false_iff.mpr c1; subst c1; have H1 : (some false) = some r := by rw [if_neg (show ¬ (false = true) by decide)] at H; exact H
  clear H; have H := H1; clear H1; obtain rfl := Option.some.inj H; go_enter Try.func58, Try.ntmps58
  go_wp2_with (first | ((with_reducible refine zgd 1 rfl ?_); refine zbox 1 #[.int .i64 a0_0, .int .i64 a0_1, .int .i64 a0_2, .int .i64 a0_3, .int .i64 a0_4, .int .i64 a0_5, .int .i64 a0_6, .int .i64 a0_7, .int .i64 a0_8, .int .i64 a0_9] 81 ?_; intro gb1 hg w1 hbox hb; have BK1 := aM (hbox); have GW1 := aM ((q7z HB : w.heap.size ≤ gb1)); have GE1 := aM ((q7z HB : w.heap.size ≤ gb1)); replace HB := aM (ym (q5z HB) hb); clear hb hbox hg; have i1_0 : w1.cell? ⟨gb1, 0, none⟩ = some (.int .i64 a0_0) := zc BK1 0; have i1_1 : w1.cell? ⟨gb1, 1, none⟩ = some (.int .i64 a0_1) := zc BK1 1; have i1_2 : w1.cell? ⟨gb1, 2, none⟩ = some (.int .i64 a0_2) := zc BK1 2; have i1_3 : w1.cell? ⟨gb1, 3, none⟩ = some (.int .i64 a0_3) := zc BK1 3; have i1_4 : w1.cell? ⟨gb1, 4, none⟩ = some (.int .i64 a0_4) := zc BK1 4; have i1_5 : w1.cell? ⟨gb1, 5, none⟩ = some (.int .i64 a0_5) := zc BK1 5; have i1_6 : w1.cell? ⟨gb1, 6, none⟩ = some (.int .i64 a0_6) := zc BK1 6; have i1_7 : w1.cell? ⟨gb1, 7, none⟩ = some (.int .i64 a0_7) := zc BK1 7; have i1_8 : w1.cell? ⟨gb1, 8, none⟩ = some (.int .i64 a0_8) := zc BK1 8; have i1_9 : w1.cell? ⟨gb1, 9, none⟩ = some (.int .i64 a0_9) := zc BK1 9; have j1_0 := blk_frozen BK1.out 0; have j1_1 := blk_frozen BK1.out 1; have j1_2 := blk_frozen BK1.out 2; have j1_3 := blk_frozen BK1.out 3; have j1_4 := blk_frozen BK1.out 4; have j1_5 := blk_frozen BK1.out 5; have j1_6 := blk_frozen BK1.out 6; have j1_7 := blk_frozen BK1.out 7; have j1_8 := blk_frozen BK1.out 8; have j1_9 := blk_frozen BK1.out 9) | ((with_reducible refine zgc 62 rfl ?_); refine zgl (some 4) Try.func62 #[.agg #[.int .i64 a0_0, .int .i64 a0_1, .int .i64 a0_2, .int .i64 a0_3, .int .i64 a0_4, .int .i64 a0_5, .int .i64 a0_6, .int .i64 a0_7, .int .i64 a0_8, .int .i64 a0_9]] ?_; (with_reducible refine (net_seen_red.calls a0_0 a0_1 a0_2 a0_3 a0_4 a0_5 a0_6 a0_7 a0_8 a0_9 false _ A2.out).mono ?_); rintro e w2 ⟨rfl, hb⟩; refine ⟨_, rfl, ?_⟩; replace BK1 := aM (yi (zi BK1) hb); replace HB := aM (ym (q4z HB GE1) hb); (try clear hb); (try clear hb2); (try clear hk); (try clear hi)))
  go_ret
  exact ⟨q11z, q4z HB GE1⟩
def net_seen_mux.f (a0_0 : Int) (a0_1 : Int) (a0_2 : Int) (a0_3 : Int) (a0_4 : Int) (a0_5 : Int) (a0_6 : Int) (a0_7 : Int) (a0_8 : Int) (a0_9 : Int) : Option (Bool) := (net_seen_bare.f a0_0 a0_1 a0_2 a0_3 a0_4 a0_5 a0_6 a0_7 a0_8 a0_9).bind fun t124 => (if t124 = true then (if a0_7 = 1 then (if a0_8 = a0_1 then (some (a0_9 == a0_1)) else (some false)) else (some false)) else (some false))
theorem z35_1 {P : Prop} (h : P := by
 obtain rfl := Option.some.inj H; go_enter Try.func65, Try.ntmps65
 go_wp2_with (first | ((with_reducible refine zgd 1 rfl ?_); refine zbox 1 #[.int .i64 a0_0, .int .i64 a0_1, .int .i64 a0_2, .int .i64 a0_3, .int .i64 a0_4, .int .i64 a0_5, .int .i64 a0_6, .int .i64 a0_7, .int .i64 a0_8, .int .i64 a0_9] 81 ?_; intro gb1 hg w1 hbox hb; have BK1 := aM (hbox); have GW1 := aM ((q7z HB : w.heap.size ≤ gb1)); have GE1 := aM ((q7z HB : w.heap.size ≤ gb1)); replace HB := aM (ym (q5z HB) hb); clear hb hbox hg; have i1_0 : w1.cell? ⟨gb1, 0, none⟩ = some (.int .i64 a0_0) := zc BK1 0; have i1_1 : w1.cell? ⟨gb1, 1, none⟩ = some (.int .i64 a0_1) := zc BK1 1; have i1_2 : w1.cell? ⟨gb1, 2, none⟩ = some (.int .i64 a0_2) := zc BK1 2; have i1_3 : w1.cell? ⟨gb1, 3, none⟩ = some (.int .i64 a0_3) := zc BK1 3; have i1_4 : w1.cell? ⟨gb1, 4, none⟩ = some (.int .i64 a0_4) := zc BK1 4; have i1_5 : w1.cell? ⟨gb1, 5, none⟩ = some (.int .i64 a0_5) := zc BK1 5; have i1_6 : w1.cell? ⟨gb1, 6, none⟩ = some (.int .i64 a0_6) := zc BK1 6; have i1_7 : w1.cell? ⟨gb1, 7, none⟩ = some (.int .i64 a0_7) := zc BK1 7; have i1_8 : w1.cell? ⟨gb1, 8, none⟩ = some (.int .i64 a0_8) := zc BK1 8; have i1_9 : w1.cell? ⟨gb1, 9, none⟩ = some (.int .i64 a0_9) := zc BK1 9; have j1_0 := blk_frozen BK1.out 0; have j1_1 := blk_frozen BK1.out 1; have j1_2 := blk_frozen BK1.out 2; have j1_3 := blk_frozen BK1.out 3; have j1_4 := blk_frozen BK1.out 4; have j1_5 := blk_frozen BK1.out 5; have j1_6 := blk_frozen BK1.out 6; have j1_7 := blk_frozen BK1.out 7; have j1_8 := blk_frozen BK1.out 8; have j1_9 := blk_frozen BK1.out 9) | ((with_reducible refine zgc 60 rfl ?_); refine zgl (some 4) Try.func60 #[.agg #[.int .i64 a0_0, .int .i64 a0_1, .int .i64 a0_2, .int .i64 a0_3, .int .i64 a0_4, .int .i64 a0_5, .int .i64 a0_6, .int .i64 a0_7, .int .i64 a0_8, .int .i64 a0_9]] ?_; (with_reducible refine (net_seen_bare.calls a0_0 a0_1 a0_2 a0_3 a0_4 a0_5 a0_6 a0_7 a0_8 a0_9 true _ A2.out).mono ?_); rintro e w2 ⟨rfl, hb⟩; refine ⟨_, rfl, ?_⟩; replace BK1 := aM (yi (zi BK1) hb); replace HB := aM (ym (q4z HB GE1) hb); (try clear hb); (try clear hb2); (try clear hk); (try clear hi); have i2_0 : w2.cell? ⟨gb1, 0, none⟩ = some (.int .i64 a0_0) := zc BK1 0; have i2_1 : w2.cell? ⟨gb1, 1, none⟩ = some (.int .i64 a0_1) := zc BK1 1; have i2_2 : w2.cell? ⟨gb1, 2, none⟩ = some (.int .i64 a0_2) := zc BK1 2; have i2_3 : w2.cell? ⟨gb1, 3, none⟩ = some (.int .i64 a0_3) := zc BK1 3; have i2_4 : w2.cell? ⟨gb1, 4, none⟩ = some (.int .i64 a0_4) := zc BK1 4; have i2_5 : w2.cell? ⟨gb1, 5, none⟩ = some (.int .i64 a0_5) := zc BK1 5; have i2_6 : w2.cell? ⟨gb1, 6, none⟩ = some (.int .i64 a0_6) := zc BK1 6; have i2_7 : w2.cell? ⟨gb1, 7, none⟩ = some (.int .i64 a0_7) := zc BK1 7; have i2_8 : w2.cell? ⟨gb1, 8, none⟩ = some (.int .i64 a0_8) := zc BK1 8; have i2_9 : w2.cell? ⟨gb1, 9, none⟩ = some (.int .i64 a0_9) := zc BK1 9; have j2_0 := blk_frozen BK1.out 0; have j2_1 := blk_frozen BK1.out 1; have j2_2 := blk_frozen BK1.out 2; have j2_3 := blk_frozen BK1.out 3; have j2_4 := blk_frozen BK1.out 4; have j2_5 := blk_frozen BK1.out 5; have j2_6 := blk_frozen BK1.out 6; have j2_7 := blk_frozen BK1.out 7; have j2_8 := blk_frozen BK1.out 8; have j2_9 := blk_frozen BK1.out 9))
 go_ret
 exact ⟨q11z, q4z HB GE1⟩) : P := h
theorem net_seen_mux.calls (a0_0 : Int) (a0_1 : Int) (a0_2 : Int) (a0_3 : Int) (a0_4 : Int) (a0_5 : Int) (a0_6 : Int) (a0_7 : Int) (a0_8 : Int) (a0_9 : Int) (r : Bool) (w : World) (h : net_seen_mux.f a0_0 a0_1 a0_2 a0_3 a0_4 a0_5 a0_6 a0_7 a0_8 a0_9 = some r) :
  Calls Try.prog 65 #[.agg #[.int .i64 a0_0, .int .i64 a0_1, .int .i64 a0_2, .int .i64 a0_3, .int .i64 a0_4, .int .i64 a0_5, .int .i64 a0_6, .int .i64 a0_7, .int .i64 a0_8, .int .i64 a0_9]] w fun e w' => e = .returned (.bool r) ∧ Below w.heap.size w w' := by
 have hu1 := Try.underlying81; have HB := aM (Below.refl w.heap.size w); have H : ((net_seen_bare.f a0_0 a0_1 a0_2 a0_3 a0_4 a0_5 a0_6 a0_7 a0_8 a0_9).bind fun t1 => (if t1 = true then (if a0_7 = 1 then (if a0_8 = a0_1 then (some (a0_9 == a0_1)) else (some false)) else (some false)) else (some false))) = some r := h; clear h; replace H := Option.bind_eq_some_iff.mp H; obtain ⟨t1, A1, H⟩ := H; have A2 := aM A1; clear A1; by_cases c1 : t1 = true
 ·subst c1; have H1 : (if a0_7 = 1 then (if a0_8 = a0_1 then (some (a0_9 == a0_1)) else (some false)) else (some false)) = some r := by rw [if_pos rfl] at H; exact H
  clear H; have H := H1; clear H1; by_cases c2 : a0_7 = 1
  ·rw [if_pos c2] at H; obtain ⟨c1b0, c1b1⟩ := zeq c2; clear c2; by_cases c3 : a0_8 = a0_1
   ·rw [if_pos c3] at H; obtain ⟨c1b0, c1b1⟩ := zeq c3; clear c3; exact z35_1
   ·rw [if_neg c3] at H; obtain ⟨c1b0, c1b1⟩ := zne c3; exact z35_1
  ·rw [if_neg c2] at H; obtain ⟨c1b0, c1b1⟩ := zne c2; exact z35_1
 ·replace c1 := Bool.eq_false_iff.mpr c1; subst c1; have H1 : (some false) = some r := by rw [if_neg (show ¬ (false = true) by decide)] at H; exact H
  clear H; have H := H1; clear H1; obtain rfl := Option.some.inj H; go_enter Try.func65, Try.ntmps65
  go_wp2_with (first | ((with_reducible refine zgd 1 rfl ?_); refine zbox 1 #[.int .i64 a0_0, .int .i64 a0_1, .int .i64 a0_2, .int .i64 a0_3, .int .i64 a0_4, .int .i64 a0_5, .int .i64 a0_6, .int .i64 a0_7, .int .i64 a0_8, .int .i64 a0_9] 81 ?_; intro gb1 hg w1 hbox hb; have BK1 := aM (hbox); have GW1 := aM ((q7z HB : w.heap.size ≤ gb1)); have GE1 := aM ((q7z HB : w.heap.size ≤ gb1)); replace HB := aM (ym (q5z HB) hb); clear hb hbox hg; have i1_0 : w1.cell? ⟨gb1, 0, none⟩ = some (.int .i64 a0_0) := zc BK1 0; have i1_1 : w1.cell? ⟨gb1, 1, none⟩ = some (.int .i64 a0_1) := zc BK1 1; have i1_2 : w1.cell? ⟨gb1, 2, none⟩ = some (.int .i64 a0_2) := zc BK1 2; have i1_3 : w1.cell? ⟨gb1, 3, none⟩ = some (.int .i64 a0_3) := zc BK1 3; have i1_4 : w1.cell? ⟨gb1, 4, none⟩ = some (.int .i64 a0_4) := zc BK1 4; have i1_5 : w1.cell? ⟨gb1, 5, none⟩ = some (.int .i64 a0_5) := zc BK1 5; have i1_6 : w1.cell? ⟨gb1, 6, none⟩ = some (.int .i64 a0_6) := zc BK1 6; have i1_7 : w1.cell? ⟨gb1, 7, none⟩ = some (.int .i64 a0_7) := zc BK1 7; have i1_8 : w1.cell? ⟨gb1, 8, none⟩ = some (.int .i64 a0_8) := zc BK1 8; have i1_9 : w1.cell? ⟨gb1, 9, none⟩ = some (.int .i64 a0_9) := zc BK1 9; have j1_0 := blk_frozen BK1.out 0; have j1_1 := blk_frozen BK1.out 1; have j1_2 := blk_frozen BK1.out 2; have j1_3 := blk_frozen BK1.out 3; have j1_4 := blk_frozen BK1.out 4; have j1_5 := blk_frozen BK1.out 5; have j1_6 := blk_frozen BK1.out 6; have j1_7 := blk_frozen BK1.out 7; have j1_8 := blk_frozen BK1.out 8; have j1_9 := blk_frozen BK1.out 9) | ((with_reducible refine zgc 60 rfl ?_); refine zgl (some 4) Try.func60 #[.agg #[.int .i64 a0_0, .int .i64 a0_1, .int .i64 a0_2, .int .i64 a0_3, .int .i64 a0_4, .int .i64 a0_5, .int .i64 a0_6, .int .i64 a0_7, .int .i64 a0_8, .int .i64 a0_9]] ?_; (with_reducible refine (net_seen_bare.calls a0_0 a0_1 a0_2 a0_3 a0_4 a0_5 a0_6 a0_7 a0_8 a0_9 false _ A2.out).mono ?_); rintro e w2 ⟨rfl, hb⟩; refine ⟨_, rfl, ?_⟩; replace BK1 := aM (yi (zi BK1) hb); replace HB := aM (ym (q4z HB GE1) hb); (try clear hb); (try clear hb2); (try clear hk); (try clear hi)))
  go_ret
  exact ⟨q11z, q4z HB GE1⟩
def net_seen_cat.f (a0_0 : Int) (a0_1 : Int) (a0_2 : Int) (a0_3 : Int) (a0_4 : Int) (a0_5 : Int) (a0_6 : Int) (a0_7 : Int) (a0_8 : Int) (a0_9 : Int) : Option (Bool) := (net_seen_bare.f a0_0 a0_1 a0_2 a0_3 a0_4 a0_5 a0_6 a0_7 a0_8 a0_9).bind fun t126 => (if t126 = true then (if a0_7 > 0 then (if a0_8 > 0 then (some ((wrap64 (a0_7 + a0_8)) == a0_1)) else (some false)) else (some false)) else (some false))
theorem z36_2 {P : Prop} (h : P := by
 obtain rfl := Option.some.inj H; go_enter Try.func64, Try.ntmps64
 go_wp2_with (first | ((with_reducible refine zgd 1 rfl ?_); refine zbox 1 #[.int .i64 a0_0, .int .i64 a0_1, .int .i64 a0_2, .int .i64 a0_3, .int .i64 a0_4, .int .i64 a0_5, .int .i64 a0_6, .int .i64 a0_7, .int .i64 a0_8, .int .i64 a0_9] 81 ?_; intro gb1 hg w1 hbox hb; have BK1 := aM (hbox); have GW1 := aM ((q7z HB : w.heap.size ≤ gb1)); have GE1 := aM ((q7z HB : w.heap.size ≤ gb1)); replace HB := aM (ym (q5z HB) hb); clear hb hbox hg; have i1_0 : w1.cell? ⟨gb1, 0, none⟩ = some (.int .i64 a0_0) := zc BK1 0; have i1_1 : w1.cell? ⟨gb1, 1, none⟩ = some (.int .i64 a0_1) := zc BK1 1; have i1_2 : w1.cell? ⟨gb1, 2, none⟩ = some (.int .i64 a0_2) := zc BK1 2; have i1_3 : w1.cell? ⟨gb1, 3, none⟩ = some (.int .i64 a0_3) := zc BK1 3; have i1_4 : w1.cell? ⟨gb1, 4, none⟩ = some (.int .i64 a0_4) := zc BK1 4; have i1_5 : w1.cell? ⟨gb1, 5, none⟩ = some (.int .i64 a0_5) := zc BK1 5; have i1_6 : w1.cell? ⟨gb1, 6, none⟩ = some (.int .i64 a0_6) := zc BK1 6; have i1_7 : w1.cell? ⟨gb1, 7, none⟩ = some (.int .i64 a0_7) := zc BK1 7; have i1_8 : w1.cell? ⟨gb1, 8, none⟩ = some (.int .i64 a0_8) := zc BK1 8; have i1_9 : w1.cell? ⟨gb1, 9, none⟩ = some (.int .i64 a0_9) := zc BK1 9; have j1_0 := blk_frozen BK1.out 0; have j1_1 := blk_frozen BK1.out 1; have j1_2 := blk_frozen BK1.out 2; have j1_3 := blk_frozen BK1.out 3; have j1_4 := blk_frozen BK1.out 4; have j1_5 := blk_frozen BK1.out 5; have j1_6 := blk_frozen BK1.out 6; have j1_7 := blk_frozen BK1.out 7; have j1_8 := blk_frozen BK1.out 8; have j1_9 := blk_frozen BK1.out 9) | ((with_reducible refine zgc 60 rfl ?_); refine zgl (some 4) Try.func60 #[.agg #[.int .i64 a0_0, .int .i64 a0_1, .int .i64 a0_2, .int .i64 a0_3, .int .i64 a0_4, .int .i64 a0_5, .int .i64 a0_6, .int .i64 a0_7, .int .i64 a0_8, .int .i64 a0_9]] ?_; (with_reducible refine (net_seen_bare.calls a0_0 a0_1 a0_2 a0_3 a0_4 a0_5 a0_6 a0_7 a0_8 a0_9 true _ A2.out).mono ?_); rintro e w2 ⟨rfl, hb⟩; refine ⟨_, rfl, ?_⟩; replace BK1 := aM (yi (zi BK1) hb); replace HB := aM (ym (q4z HB GE1) hb); (try clear hb); (try clear hb2); (try clear hk); (try clear hi); have i2_0 : w2.cell? ⟨gb1, 0, none⟩ = some (.int .i64 a0_0) := zc BK1 0; have i2_1 : w2.cell? ⟨gb1, 1, none⟩ = some (.int .i64 a0_1) := zc BK1 1; have i2_2 : w2.cell? ⟨gb1, 2, none⟩ = some (.int .i64 a0_2) := zc BK1 2; have i2_3 : w2.cell? ⟨gb1, 3, none⟩ = some (.int .i64 a0_3) := zc BK1 3; have i2_4 : w2.cell? ⟨gb1, 4, none⟩ = some (.int .i64 a0_4) := zc BK1 4; have i2_5 : w2.cell? ⟨gb1, 5, none⟩ = some (.int .i64 a0_5) := zc BK1 5; have i2_6 : w2.cell? ⟨gb1, 6, none⟩ = some (.int .i64 a0_6) := zc BK1 6; have i2_7 : w2.cell? ⟨gb1, 7, none⟩ = some (.int .i64 a0_7) := zc BK1 7; have i2_8 : w2.cell? ⟨gb1, 8, none⟩ = some (.int .i64 a0_8) := zc BK1 8; have i2_9 : w2.cell? ⟨gb1, 9, none⟩ = some (.int .i64 a0_9) := zc BK1 9; have j2_0 := blk_frozen BK1.out 0; have j2_1 := blk_frozen BK1.out 1; have j2_2 := blk_frozen BK1.out 2; have j2_3 := blk_frozen BK1.out 3; have j2_4 := blk_frozen BK1.out 4; have j2_5 := blk_frozen BK1.out 5; have j2_6 := blk_frozen BK1.out 6; have j2_7 := blk_frozen BK1.out 7; have j2_8 := blk_frozen BK1.out 8; have j2_9 := blk_frozen BK1.out 9))
 go_ret
 exact ⟨q11z, q4z HB GE1⟩) : P := h
theorem z36_1 {P : Prop} (h : P := by
 clear c3; exact z36_2) : P := h
theorem net_seen_cat.calls (a0_0 : Int) (a0_1 : Int) (a0_2 : Int) (a0_3 : Int) (a0_4 : Int) (a0_5 : Int) (a0_6 : Int) (a0_7 : Int) (a0_8 : Int) (a0_9 : Int) (r : Bool) (w : World) (h : net_seen_cat.f a0_0 a0_1 a0_2 a0_3 a0_4 a0_5 a0_6 a0_7 a0_8 a0_9 = some r) :
  Calls Try.prog 64 #[.agg #[.int .i64 a0_0, .int .i64 a0_1, .int .i64 a0_2, .int .i64 a0_3, .int .i64 a0_4, .int .i64 a0_5, .int .i64 a0_6, .int .i64 a0_7, .int .i64 a0_8, .int .i64 a0_9]] w fun e w' => e = .returned (.bool r) ∧ Below w.heap.size w w' := by
 have hu1 := Try.underlying81; have HB := aM (Below.refl w.heap.size w); have H : ((net_seen_bare.f a0_0 a0_1 a0_2 a0_3 a0_4 a0_5 a0_6 a0_7 a0_8 a0_9).bind fun t1 => (if t1 = true then (if a0_7 > 0 then (if a0_8 > 0 then (some ((wrap64 (a0_7 + a0_8)) == a0_1)) else (some false)) else (some false)) else (some false))) = some r := h; clear h; replace H := Option.bind_eq_some_iff.mp H; obtain ⟨t1, A1, H⟩ := H; have A2 := aM A1; clear A1; by_cases c1 : t1 = true
 ·subst c1; have H1 : (if a0_7 > 0 then (if a0_8 > 0 then (some ((wrap64 (a0_7 + a0_8)) == a0_1)) else (some false)) else (some false)) = some r := by rw [if_pos rfl] at H; exact H
  clear H; have H := H1; clear H1; by_cases c2 : a0_7 > 0
  ·rw [if_pos c2] at H; have c1b0 : decide (0 < a0_7) = true := decide_eq_true c2; clear c2; by_cases c3 : a0_8 > 0
   ·rw [if_pos c3] at H; have c1b0 : decide (0 < a0_8) = true := decide_eq_true c3; exact z36_1
   ·rw [if_neg c3] at H; have c1b0 : decide (0 < a0_8) = false := decide_eq_false c3; exact z36_1
  ·rw [if_neg c2] at H; have c1b0 : decide (0 < a0_7) = false := decide_eq_false c2; clear c2; exact z36_2
 ·replace c1 := Bool.eq_false_iff.mpr c1; subst c1; have H1 : (some false) = some r := by rw [if_neg (show ¬ (false = true) by decide)] at H; exact H
  clear H; have H := H1; clear H1; obtain rfl := Option.some.inj H; go_enter Try.func64, Try.ntmps64
  go_wp2_with (first | ((with_reducible refine zgd 1 rfl ?_); refine zbox 1 #[.int .i64 a0_0, .int .i64 a0_1, .int .i64 a0_2, .int .i64 a0_3, .int .i64 a0_4, .int .i64 a0_5, .int .i64 a0_6, .int .i64 a0_7, .int .i64 a0_8, .int .i64 a0_9] 81 ?_; intro gb1 hg w1 hbox hb; have BK1 := aM (hbox); have GW1 := aM ((q7z HB : w.heap.size ≤ gb1)); have GE1 := aM ((q7z HB : w.heap.size ≤ gb1)); replace HB := aM (ym (q5z HB) hb); clear hb hbox hg; have i1_0 : w1.cell? ⟨gb1, 0, none⟩ = some (.int .i64 a0_0) := zc BK1 0; have i1_1 : w1.cell? ⟨gb1, 1, none⟩ = some (.int .i64 a0_1) := zc BK1 1; have i1_2 : w1.cell? ⟨gb1, 2, none⟩ = some (.int .i64 a0_2) := zc BK1 2; have i1_3 : w1.cell? ⟨gb1, 3, none⟩ = some (.int .i64 a0_3) := zc BK1 3; have i1_4 : w1.cell? ⟨gb1, 4, none⟩ = some (.int .i64 a0_4) := zc BK1 4; have i1_5 : w1.cell? ⟨gb1, 5, none⟩ = some (.int .i64 a0_5) := zc BK1 5; have i1_6 : w1.cell? ⟨gb1, 6, none⟩ = some (.int .i64 a0_6) := zc BK1 6; have i1_7 : w1.cell? ⟨gb1, 7, none⟩ = some (.int .i64 a0_7) := zc BK1 7; have i1_8 : w1.cell? ⟨gb1, 8, none⟩ = some (.int .i64 a0_8) := zc BK1 8; have i1_9 : w1.cell? ⟨gb1, 9, none⟩ = some (.int .i64 a0_9) := zc BK1 9; have j1_0 := blk_frozen BK1.out 0; have j1_1 := blk_frozen BK1.out 1; have j1_2 := blk_frozen BK1.out 2; have j1_3 := blk_frozen BK1.out 3; have j1_4 := blk_frozen BK1.out 4; have j1_5 := blk_frozen BK1.out 5; have j1_6 := blk_frozen BK1.out 6; have j1_7 := blk_frozen BK1.out 7; have j1_8 := blk_frozen BK1.out 8; have j1_9 := blk_frozen BK1.out 9) | ((with_reducible refine zgc 60 rfl ?_); refine zgl (some 4) Try.func60 #[.agg #[.int .i64 a0_0, .int .i64 a0_1, .int .i64 a0_2, .int .i64 a0_3, .int .i64 a0_4, .int .i64 a0_5, .int .i64 a0_6, .int .i64 a0_7, .int .i64 a0_8, .int .i64 a0_9]] ?_; (with_reducible refine (net_seen_bare.calls a0_0 a0_1 a0_2 a0_3 a0_4 a0_5 a0_6 a0_7 a0_8 a0_9 false _ A2.out).mono ?_); rintro e w2 ⟨rfl, hb⟩; refine ⟨_, rfl, ?_⟩; replace BK1 := aM (yi (zi BK1) hb); replace HB := aM (ym (q4z HB GE1) hb); (try clear hb); (try clear hb2); (try clear hk); (try clear hi)))
  go_ret
  exact ⟨q11z, q4z HB GE1⟩
def net_seen_slice.f (a0_0 : Int) (a0_1 : Int) (a0_2 : Int) (a0_3 : Int) (a0_4 : Int) (a0_5 : Int) (a0_6 : Int) (a0_7 : Int) (a0_8 : Int) (a0_9 : Int) : Option (Bool) := if a0_6 ≥ 0 then (if a0_6 ≤ a0_5 then (if a0_5 < a0_7 then (some (a0_1 == (wrap64 ((wrap64 (a0_5 - a0_6)) + 1)))) else (some false)) else (some false)) else (some false)
theorem z37_2 {P : Prop} (h : P := by
 obtain rfl := Option.some.inj H; go_enter Try.func63, Try.ntmps63
 go_wp2_with (first | ((with_reducible refine zgd 1 rfl ?_); refine zbox 1 #[.int .i64 a0_0, .int .i64 a0_1, .int .i64 a0_2, .int .i64 a0_3, .int .i64 a0_4, .int .i64 a0_5, .int .i64 a0_6, .int .i64 a0_7, .int .i64 a0_8, .int .i64 a0_9] 81 ?_; intro gb1 hg w1 hbox hb; have BK1 := aM (hbox); have GW1 := aM ((q7z HB : w.heap.size ≤ gb1)); have GE1 := aM ((q7z HB : w.heap.size ≤ gb1)); replace HB := aM (ym (q5z HB) hb); clear hb hbox hg; have i1_0 : w1.cell? ⟨gb1, 0, none⟩ = some (.int .i64 a0_0) := zc BK1 0; have i1_1 : w1.cell? ⟨gb1, 1, none⟩ = some (.int .i64 a0_1) := zc BK1 1; have i1_2 : w1.cell? ⟨gb1, 2, none⟩ = some (.int .i64 a0_2) := zc BK1 2; have i1_3 : w1.cell? ⟨gb1, 3, none⟩ = some (.int .i64 a0_3) := zc BK1 3; have i1_4 : w1.cell? ⟨gb1, 4, none⟩ = some (.int .i64 a0_4) := zc BK1 4; have i1_5 : w1.cell? ⟨gb1, 5, none⟩ = some (.int .i64 a0_5) := zc BK1 5; have i1_6 : w1.cell? ⟨gb1, 6, none⟩ = some (.int .i64 a0_6) := zc BK1 6; have i1_7 : w1.cell? ⟨gb1, 7, none⟩ = some (.int .i64 a0_7) := zc BK1 7; have i1_8 : w1.cell? ⟨gb1, 8, none⟩ = some (.int .i64 a0_8) := zc BK1 8; have i1_9 : w1.cell? ⟨gb1, 9, none⟩ = some (.int .i64 a0_9) := zc BK1 9; have j1_0 := blk_frozen BK1.out 0; have j1_1 := blk_frozen BK1.out 1; have j1_2 := blk_frozen BK1.out 2; have j1_3 := blk_frozen BK1.out 3; have j1_4 := blk_frozen BK1.out 4; have j1_5 := blk_frozen BK1.out 5; have j1_6 := blk_frozen BK1.out 6; have j1_7 := blk_frozen BK1.out 7; have j1_8 := blk_frozen BK1.out 8; have j1_9 := blk_frozen BK1.out 9))
 go_ret
 exact ⟨q11z, q4z HB GE1⟩) : P := h
theorem z37_1 {P : Prop} (h : P := by
 clear c3; exact z37_2) : P := h
theorem net_seen_slice.calls (a0_0 : Int) (a0_1 : Int) (a0_2 : Int) (a0_3 : Int) (a0_4 : Int) (a0_5 : Int) (a0_6 : Int) (a0_7 : Int) (a0_8 : Int) (a0_9 : Int) (r : Bool) (w : World) (h : net_seen_slice.f a0_0 a0_1 a0_2 a0_3 a0_4 a0_5 a0_6 a0_7 a0_8 a0_9 = some r) :
  Calls Try.prog 63 #[.agg #[.int .i64 a0_0, .int .i64 a0_1, .int .i64 a0_2, .int .i64 a0_3, .int .i64 a0_4, .int .i64 a0_5, .int .i64 a0_6, .int .i64 a0_7, .int .i64 a0_8, .int .i64 a0_9]] w fun e w' => e = .returned (.bool r) ∧ Below w.heap.size w w' := by
 have hu1 := Try.underlying81; have HB := aM (Below.refl w.heap.size w); have H : (if a0_6 ≥ 0 then (if a0_6 ≤ a0_5 then (if a0_5 < a0_7 then (some (a0_1 == (wrap64 ((wrap64 (a0_5 - a0_6)) + 1)))) else (some false)) else (some false)) else (some false)) = some r := h; clear h; by_cases c1 : a0_6 ≥ 0
 ·rw [if_pos c1] at H; have c1b0 : decide (0 ≤ a0_6) = true := decide_eq_true c1; clear c1; by_cases c2 : a0_6 ≤ a0_5
  ·rw [if_pos c2] at H; have c1b0 := decide_eq_true c2; clear c2; by_cases c3 : a0_5 < a0_7
   ·rw [if_pos c3] at H; have c1b0 := decide_eq_true c3; exact z37_1
   ·rw [if_neg c3] at H; have c1b0 := decide_eq_false c3; exact z37_1
  ·rw [if_neg c2] at H; have c1b0 := decide_eq_false c2; clear c2; exact z37_2
 ·rw [if_neg c1] at H; have c1b0 : decide (0 ≤ a0_6) = false := decide_eq_false c1; clear c1; exact z37_2
open Go.Maps (Keyed) in
structure net_rules.TM (w : World) (b : Nat) (kvs : List (Value × Value)) : Prop where
 ex : ∃ es clock, w.heap[b]? = some (.map es clock) ∧ es.toList.map (fun e => (e.key, e.val)) = kvs
 keys : ∀ p ∈ kvs, ∃ l, keyOf Try.prog 3 p.1 = some l
theorem net_rules.keyed : Go.Maps.Keyed Try.prog 3 := Go.Maps.int_keyed Try.underlying3
theorem net_rules.key {n : Int} (h : (Lit.int .i64 n).wf = true) : keyOf Try.prog 3 (.int .i64 n) = some (.int .i64 n) := Go.Maps.keyOf_int_mk Try.underlying3 h
theorem net_rules.TM.lt {w : World} {b : Nat} {kvs : List (Value × Value)} (h : net_rules.TM w b kvs) : b < w.heap.size := by
 obtain ⟨es, clock, hb, _⟩ := h.ex; exact (Array.getElem?_eq_some_iff.1 hb).1
theorem net_rules.TM.block {w w' : World} {b : Nat} {kvs : List (Value × Value)} (h : net_rules.TM w b kvs) (he : w'.heap[b]? = w.heap[b]?) : net_rules.TM w' b kvs := by
 obtain ⟨es, clock, hb, hm⟩ := h.ex; exact ⟨⟨es, clock, he.trans hb, hm⟩, h.keys⟩
theorem net_rules.TM.hit {w : World} {b : Nat} {kvs : List (Value × Value)} (h : net_rules.TM w b kvs) {n : Int} {v : Value} (hn : (Lit.int .i64 n).wf = true) (hv : ∀ p ∈ kvs, p.1 = .int .i64 n → p.2 = v) (hin : ∃ p ∈ kvs, p.1 = .int .i64 n) :
  (Instr.lookup 72 (.map (some b)) (.int .i64 n) true).run Try.prog w = .ok (.tuple #[v, .bool true]) w := by
 have hx := net_rules.key hn; obtain ⟨es, clock, hb, rfl⟩ := h.ex; have hk : ∀ e ∈ es.toList, ∃ l, keyOf Try.prog 3 e.key = some l := fun e he => h.keys (e.key, e.val) (List.mem_map.2 ⟨e, he, rfl⟩)
 rcases net_rules.keyed.find w hx es.toList hk with ⟨_, hne⟩ | ⟨j, e1, hrun, hj, he⟩
 ·obtain ⟨p, hp, hpx⟩ := hin; obtain ⟨e, he, rfl⟩ := List.mem_map.1 hp; exact absurd hpx (hne e he)
 ·have hv1 : e1.val = v := hv (e1.key, e1.val) (List.mem_map.2 ⟨e1, List.mem_of_getElem? hj, rfl⟩) he; subst hv1; simp [Instr.lookup, run_underlying Try.underlying72, Result.andThen, MapKept.run_getObj_map hb, net_rules.keyed.check w _ hx, hrun]
theorem z38_5 {P : Prop} (h : P := by
 exact absurd he (hne (e1.key, e1.val) (List.mem_map.2 ⟨e1, List.mem_of_getElem? hj, rfl⟩))) : P := h
theorem net_rules.TM.miss {w : World} {b : Nat} {kvs : List (Value × Value)} (h : net_rules.TM w b kvs) {n : Int} (hn : (Lit.int .i64 n).wf = true) (hne : ∀ p ∈ kvs, p.1 ≠ .int .i64 n) :
  (Instr.lookup 72 (.map (some b)) (.int .i64 n) true).run Try.prog w = .ok (.tuple #[.agg #[.int .i64 0, .nilFunc], .bool false]) w := by
 have hx := net_rules.key hn; obtain ⟨es, clock, hb, rfl⟩ := h.ex; have hz : (zeroValue 76).run Try.prog w = .ok (.agg #[.int .i64 0, .nilFunc]) w := by kernel_rfl
 have hk : ∀ e ∈ es.toList, ∃ l, keyOf Try.prog 3 e.key = some l := fun e he => h.keys (e.key, e.val) (List.mem_map.2 ⟨e, he, rfl⟩)
 rcases net_rules.keyed.find w hx es.toList hk with ⟨hrun, _⟩ | ⟨j, e1, _, hj, he⟩
 ·simp [Instr.lookup, run_underlying Try.underlying72, Result.andThen, MapKept.run_getObj_map hb, net_rules.keyed.check w _ hx, hrun, hz]
 ·exact z38_5
theorem net_rules.TM.store {w : World} {b : Nat} {kvs : List (Value × Value)} (h : net_rules.TM w b kvs) {n : Int} (hn : (Lit.int .i64 n).wf = true) (hne : ∀ p ∈ kvs, p.1 ≠ .int .i64 n) (v : Value) :
  ∃ w', (Instr.mapUpdate 72 (.map (some b)) (.int .i64 n) v).run Try.prog w = .ok () w' ∧ net_rules.TM w' b (kvs ++ [(.int .i64 n, v)]) ∧ w.grownBy w' (some b) := by
 have hx := net_rules.key hn; obtain ⟨es, clock, hb, rfl⟩ := h.ex; have hk : ∀ e ∈ es.toList, ∃ l, keyOf Try.prog 3 e.key = some l := fun e he => h.keys (e.key, e.val) (List.mem_map.2 ⟨e, he, rfl⟩)
 rcases net_rules.keyed.find w hx es.toList hk with ⟨hrun, _⟩ | ⟨j, e1, _, hj, he⟩
 ·refine ⟨Go.ChangeMaps.setBlock w b (.map (es.push { key := .int .i64 n, val := v, born := clock }) (clock + 1)), ?_, ⟨⟨_, _, ChangeMaps.heap_setBlock_same hb _, by simp⟩, ?_⟩, ⟨rfl, rfl, rfl, by simp [Go.ChangeMaps.setBlock], fun i _ hi => ChangeMaps.heap_setBlock_other hb _ (fun e => hi (by rw [e]))⟩⟩
  ·simp [Instr.mapUpdate, run_underlying Try.underlying72, Result.andThen, MapKept.run_getObj_map hb, net_rules.keyed.check w _ hx, hrun, MapKept.run_setObj_map _ hb, Go.ChangeMaps.setBlock]
  ·intro p hp
   rcases List.mem_append.1 hp with hp | hp
   ·exact h.keys p hp
   ·simp at hp
    subst hp; exact ⟨_, hx⟩
 ·exact z38_5
def net_rules.rv (k : Int) (F : FuncId) : Value := .agg #[.int .i64 k, .func (.func F) #[] #[]]
structure net_rules.St (w0 : World) (g g1 g2 : Nat) (kvs : List (Value × Value)) (w : World) : Prop where
 below : Below w0.heap.size w0 w
 ge : w0.heap.size ≤ g
 tm : net_rules.TM w g kvs
 b1 : w.heap[g1]? = some (.cells #[.int .i64 2, .func (.func 57) #[] #[]] 76 (0, 0))
 b2 : w.heap[g2]? = some (.cells #[.int .i64 2, .func (.func 58) #[] #[]] 76 (0, 0))
 n1 : g1 ≠ g
 n2 : g2 ≠ g
theorem net_rules.St.put {w0 w : World} {g g1 g2 : Nat} {kvs : List (Value × Value)} (h : net_rules.St w0 g g1 g2 kvs w) {n : Int} (hn : (Lit.int .i64 n).wf = true) (hne : ∀ p ∈ kvs, p.1 ≠ .int .i64 n) (v : Value) :
  ∃ w', (Instr.mapUpdate 72 (.map (some g)) (.int .i64 n) v).run Try.prog w = .ok () w' ∧ net_rules.St w0 g g1 g2 (kvs ++ [(.int .i64 n, v)]) w' := by
 obtain ⟨w', hrun, htm, hgr⟩ := h.tm.store hn hne v; exact ⟨w', hrun, pw_below_grown h.below (some g) h.below.size hgr (fun k hk => by cases hk; exact h.ge), h.ge, htm, blk_grown h.b1 hgr (fun e => h.n1 (Option.some.inj e)), blk_grown h.b2 hgr (fun e => h.n2 (Option.some.inj e)), h.n1, h.n2⟩
theorem net_rules.St.made {w0 W : World} {g1 g2 : Nat} (hb : Below w0.heap.size w0 W) (h1 : W.heap[g1]? = some (.cells #[.int .i64 2, .func (.func 57) #[] #[]] 76 (0, 0))) (h2 : W.heap[g2]? = some (.cells #[.int .i64 2, .func (.func 58) #[] #[]] 76 (0, 0))) : net_rules.St w0 W.heap.size g1 g2 [] (W.alloc (.map #[] 0)) :=
 ⟨yl hb _, hb.size, ⟨⟨#[], 0, (MapKept.heap_alloc W _).1, rfl⟩, fun p hp => by cases hp⟩, yb h1 _, yb h2 _, Nat.ne_of_lt (blk_lt h1), Nat.ne_of_lt (blk_lt h2)⟩
section
variable {ops : Array Oper} {o : Oper} {a : Act} {Q : Exit → Act → World → Prop} {rest : List Oper}
theorem net_rules.map_event {w0 W : World} {g1 g2 : Nat} (hb : Below w0.heap.size w0 W) (h1 : W.heap[g1]? = some (.cells #[.int .i64 2, .func (.func 57) #[] #[]] 76 (0, 0))) (h2 : W.heap[g2]? = some (.cells #[.int .i64 2, .func (.func 58) #[] #[]] 76 (0, 0))) (hgd : o.guard = none) {N : Tmp} (_hd : o.dst = some N) (hrun : (execOp a.eval o).run Try.prog W = .ok (.value (.map (some W.heap.size))) (W.alloc (.map #[] 0)))
  (h : ∀ g, ∀ w1, net_rules.St w0 g g1 g2 [] w1 → wpList Try.prog ops Q rest (a.put o.dst (.map (some g))) w1) : wpList Try.prog ops Q (o :: rest) a W :=
 Kd.event_run hgd hrun (h _ _ (net_rules.St.made hb h1 h2))
theorem net_rules.ins_event {w0 W : World} {g g1 g2 : Nat} {kvs : List (Value × Value)} (HS : net_rules.St w0 g g1 g2 kvs W) (hgd : o.guard = none) (m x v : Operand) (n : Int) (val : Value) (hop : o.op = Op.insert 72 m x v) (hm : a.eval m = .map (some g)) (hx : a.eval x = .int .i64 n) (hv : a.eval v = val)
  (hn : (Lit.int .i64 n).wf = true) (hne : ∀ p ∈ kvs, p.1 ≠ .int .i64 n) (h : ∀ w', net_rules.St w0 g g1 g2 (kvs ++ [(.int .i64 n, val)]) w' → wpList Try.prog ops Q rest (a.put o.dst undef) w') : wpList Try.prog ops Q (o :: rest) a W := by
 refine wpList_plain hgd fun K' hK' => ?_
 obtain ⟨w', hrun, r⟩ := HS.put hn hne val; unfold Oper.wp
 simp [execOp, hop, hm, hx, hv, hrun, Result.andThen]
 exact hK' _ _ (h w' r)
end
def net_rules.tab : List (Int × Int × FuncId) := [(1, 0, 59), (21, 0, 60), (22, 0, 60), (3, 1, 61), (4, 1, 62), (5, 1, 62), (18, 1, 63), (6, 2, 57), (7, 2, 57), (8, 2, 57), (9, 2, 57), (10, 2, 57), (11, 2, 57), (12, 2, 58), (13, 2, 58), (14, 2, 58), (15, 2, 58), (17, 2, 64), (16, 3, 65)]
def net_rules.kvs : List (Value × Value) := net_rules.tab.map fun p => (.int .i64 p.1, net_rules.rv p.2.1 p.2.2)
def net_rules.Made (w : World) (e : Ending) (w' : World) : Prop := ∃ g, e = .returned (.map (some g)) ∧ w.heap.size ≤ g ∧ net_rules.TM w' g net_rules.kvs ∧ Below w.heap.size w w'
theorem net_rules.calls (w : World) : Calls Try.prog 46 #[] w fun e w' => net_rules.Made w e w' := by
 have hu_ := Try.underlying72; have hv_ := Try.underlying76; have HB := aM (Below.refl w.heap.size w); go_enter Try.func46, Try.ntmps46
 go_wp2_with (first | (refine net_rules.ins_event HS.out rfl _ _ _ _ _ rfl rfl rfl rfl (by rfl) (by simp) ?_; intro w2 hs_; clear HS; have HS := aM hs_; clear hs_; have hb1 : w2.cell? ⟨g1, 0, none⟩ = some (.int .i64 2) := (blk_cell HS.out.b1 0).trans rfl; have fb1 := blk_frozen HS.out.b1 0; have hb2 : w2.cell? ⟨g1, 1, none⟩ = some (.func (.func 57) #[] #[]) := (blk_cell HS.out.b1 1).trans rfl; have fb2 := blk_frozen HS.out.b1 1; have hb3 : w2.cell? ⟨g2, 0, none⟩ = some (.int .i64 2) := (blk_cell HS.out.b2 0).trans rfl; have fb3 := blk_frozen HS.out.b2 0; have hb4 : w2.cell? ⟨g2, 1, none⟩ = some (.func (.func 58) #[] #[]) := (blk_cell HS.out.b2 1).trans rfl; have fb4 := blk_frozen HS.out.b2 1) | ((with_reducible refine gate_dst (N := 5) rfl ?_); refine net_rules.map_event HB.out B1.out B2.out ?hg (N := 5) ?hd ?hr ?_; (case hd => rfl); (case hg => rfl); (case hr => exact q30z); intro g w2 hs_; have HS := aM hs_; clear hs_; have hb1 : w2.cell? ⟨g1, 0, none⟩ = some (.int .i64 2) := (blk_cell HS.out.b1 0).trans rfl; have fb1 := blk_frozen HS.out.b1 0; have hb2 : w2.cell? ⟨g1, 1, none⟩ = some (.func (.func 57) #[] #[]) := (blk_cell HS.out.b1 1).trans rfl; have fb2 := blk_frozen HS.out.b1 1; have hb3 : w2.cell? ⟨g2, 0, none⟩ = some (.int .i64 2) := (blk_cell HS.out.b2 0).trans rfl; have fb3 := blk_frozen HS.out.b2 0; have hb4 : w2.cell? ⟨g2, 1, none⟩ = some (.func (.func 58) #[] #[]) := (blk_cell HS.out.b2 1).trans rfl; have fb4 := blk_frozen HS.out.b2 1) | ((with_reducible refine zgd 1 rfl ?_); refine zbox 1 #[.int .i64 0, .nilFunc] 76 ?_; intro g1 hg w3 hbox hb; have n1_ := aM (ym HB.out hb); have n2_ := aM hbox; have n3_ := aM ((by rw [hg]; exact yn HB.out) : w.heap.size ≤ g1); clear HB; have HB := n1_; have B1 := n2_; have G1 := n3_; clear n1_ n2_ n3_ hb hbox hg; have hfa_ := blk_frozen B1.out 0; have hfb_ := blk_frozen B1.out 1) | ((with_reducible refine zgd 2 rfl ?_); refine zbox 2 #[.int .i64 0, .nilFunc] 76 ?_; intro g2 hg w4 hbox hb; have n1_ := aM (ym HB.out hb); have n2_ := aM hbox; have n3_ := aM ((by rw [hg]; exact yn HB.out) : w.heap.size ≤ g2); have n4_ := aM (yi B1.out hb); have n5_ := aM ((by rw [hg]; exact Nat.ne_of_lt (blk_lt B1.out)) : g1 ≠ g2); clear HB B1; have HB := n1_; have B2 := n2_; have G2 := n3_; have B1 := n4_; have NE := n5_; clear n1_ n2_ n3_ n4_ n5_ hb hbox hg; have hfc_ := blk_frozen B1.out 0; have hfd_ := blk_frozen B1.out 1; have hfe_ := blk_frozen B2.out 0; have hff_ := blk_frozen B2.out 1; have hca_ : w4.cell? ⟨g1, 0, none⟩ = some (.int .i64 0) := zc B1 0; have hcb_ : w4.cell? ⟨g1, 1, none⟩ = some .nilFunc := zc B1 1; have hcc_ : w4.cell? ⟨g2, 0, none⟩ = some (.int .i64 0) := zc B2 0; have hcd_ : w4.cell? ⟨g2, 1, none⟩ = some .nilFunc := zc B2 1) | ((with_reducible refine gate_store (t := 76) (p := 1) rfl ?_); refine store_event (t := 76) (p := 1) (v := ?vo_w10) (w1 := ((w4.setCell ⟨g1, 0, none⟩ (.int .i64 2)).setCell ⟨g1, 1, none⟩ (.func (.func 57) #[] #[]))) ?hg ?ho ?hn ?hr ?_; (case ho => rfl); (case hg => rfl); (case hn => rfl); (case hr => exact q30z); intro w5 hw; have n2_ : Aside0 (w5.heap[g1]? = some (.cells #[.int .i64 2, .func (.func 57) #[] #[]] 76 (0, 0))) := ⟨q91z B1⟩; have n3_ : Aside0 (w5.heap[g2]? = some (.cells #[.int .i64 0, .nilFunc] 76 (0, 0))) := ⟨by rw [hw]; exact yt (yt B2.out NE.out.symm _) NE.out.symm _⟩; have n1_ : Aside0 (Below w.heap.size w w5) := ⟨by rw [hw]; exact yd (yd HB.out G1.out) G1.out⟩; clear HB B1 B2; have HB := n1_; have B1 := n2_; have B2 := n3_; clear n1_ n2_ n3_ hw; have hfg_ := blk_frozen B2.out 0; have hfh_ := blk_frozen B2.out 1; have hce_ : w5.cell? ⟨g2, 0, none⟩ = some (.int .i64 0) := zc B2 0; have hcf_ : w5.cell? ⟨g2, 1, none⟩ = some .nilFunc := zc B2 1) | ((with_reducible refine gate_store (t := 76) (p := 2) rfl ?_); refine store_event (t := 76) (p := 2) (v := ?vo_w11) (w1 := ((w5.setCell ⟨g2, 0, none⟩ (.int .i64 2)).setCell ⟨g2, 1, none⟩ (.func (.func 58) #[] #[]))) ?hg ?ho ?hn ?hr ?_; (case ho => rfl); (case hg => rfl); (case hn => rfl); (case hr => exact q30z); intro w6 hw; have n2_ : Aside0 (w6.heap[g2]? = some (.cells #[.int .i64 2, .func (.func 58) #[] #[]] 76 (0, 0))) := ⟨q91z B2⟩; have n3_ : Aside0 (w6.heap[g1]? = some (.cells #[.int .i64 2, .func (.func 57) #[] #[]] 76 (0, 0))) := ⟨by rw [hw]; exact yt (yt B1.out NE.out _) NE.out _⟩; have n1_ : Aside0 (Below w.heap.size w w6) := ⟨by rw [hw]; exact yd (yd HB.out G2.out) G2.out⟩; clear HB B1 B2; have HB := n1_; have B2 := n2_; have B1 := n3_; clear n1_ n2_ n3_ hw))
 go_ret
 exact ⟨_, rfl, HS.out.ge, HS.out.tm, HS.out.below⟩
def main_main.f (op : Int) : Option (Int × Int × Bool) := if op = 1 then some (0, 59, true) else if op = 21 then some (0, 60, true) else if op = 22 then some (0, 60, true) else if op = 3 then some (1, 61, true) else if op = 4 then some (1, 62, true) else if op = 5 then some (1, 62, true) else if op = 18 then some (1, 63, true) else if op = 6 then some (2, 57, true) else if op = 7 then some (2, 57, true) else if op = 8 then some (2, 57, true) else if op = 9 then some (2, 57, true) else if op = 10 then some (2, 57, true) else if op = 11 then some (2, 57, true) else if op = 12 then some (2, 58, true) else if op = 13 then some (2, 58, true) else if op = 14 then some (2, 58, true) else if op = 15 then some (2, 58, true) else if op = 17 then some (2, 64, true) else if op = 16 then some (3, 65, true) else if (Lit.int .i64 op).wf = true then some (0, -1, false) else none
def net_rules.fvOf (t : Int) : Value := if t = -1 then .nilFunc else .func (.func t.toNat) #[] #[]
theorem net_rules.fvOf_pos {t : Int} (h : t ≠ -1) : net_rules.fvOf t = .func (.func t.toNat) #[] #[] := if_neg h
theorem net_rules.fvOf_one (t : Int) : (net_rules.fvOf t).oneCell' = true := by
  unfold net_rules.fvOf
  split <;> rfl
@[go_sem] theorem net_rules.run_store_fv {P : Program} {w : World} {a : Addr} {m : Mode} (t : Int) : (store a (net_rules.fvOf t) m).run P w = stored P w a (net_rules.fvOf t) m := run_store P w a _ m (net_rules.fvOf_one t)
theorem z38_4 {P : Prop} (h : P := by
 rw [if_pos c1] at h; obtain ⟨rfl, rfl, rfl⟩ : 0 = t1 ∧ 60 = t2 ∧ true = t3 := by simpa using h
 subst c1; exact .inl ⟨rfl, by rfl, by decide, q67z, q77z⟩) : P := h
theorem z38_3 {P : Prop} (h : P := by
 rw [if_pos c1] at h; obtain ⟨rfl, rfl, rfl⟩ : 1 = t1 ∧ 62 = t2 ∧ true = t3 := by simpa using h
 subst c1; exact .inl ⟨rfl, by rfl, by decide, q67z, q77z⟩) : P := h
theorem z38_2 {P : Prop} (h : P := by
 rw [if_pos c1] at h; obtain ⟨rfl, rfl, rfl⟩ : 2 = t1 ∧ 57 = t2 ∧ true = t3 := by simpa using h
 subst c1; exact .inl ⟨rfl, by rfl, by decide, q67z, q77z⟩) : P := h
theorem z38_1 {P : Prop} (h : P := by
 rw [if_pos c1] at h; obtain ⟨rfl, rfl, rfl⟩ : 2 = t1 ∧ 58 = t2 ∧ true = t3 := by simpa using h
 subst c1; exact .inl ⟨rfl, by rfl, by decide, q67z, q77z⟩) : P := h
theorem main_main.told {op t1 t2 : Int} {t3 : Bool} (h : main_main.f op = some (t1, t2, t3)) : (t3 = true ∧ (Lit.int .i64 op).wf = true ∧ t2 ≠ -1 ∧ (∀ p ∈ net_rules.kvs, p.1 = .int .i64 op → p.2 = net_rules.rv t1 t2.toNat) ∧ ∃ p ∈ net_rules.kvs, p.1 = .int .i64 op) ∨ (t1 = 0 ∧ t2 = -1 ∧ t3 = false ∧ (Lit.int .i64 op).wf = true ∧ ∀ p ∈ net_rules.kvs, p.1 ≠ .int .i64 op) := by
 unfold main_main.f at h
 by_cases c1 : op = 1
 ·rw [if_pos c1] at h; obtain ⟨rfl, rfl, rfl⟩ : 0 = t1 ∧ 59 = t2 ∧ true = t3 := by simpa using h
  subst c1; exact .inl ⟨rfl, by rfl, by decide, q67z, q77z⟩
 rw [if_neg c1] at h; by_cases c1 : op = 21
 ·exact z38_4
 rw [if_neg c1] at h; by_cases c1 : op = 22
 ·exact z38_4
 rw [if_neg c1] at h; by_cases c1 : op = 3
 ·rw [if_pos c1] at h; obtain ⟨rfl, rfl, rfl⟩ : 1 = t1 ∧ 61 = t2 ∧ true = t3 := by simpa using h
  subst c1; exact .inl ⟨rfl, by rfl, by decide, q67z, q77z⟩
 rw [if_neg c1] at h; by_cases c1 : op = 4
 ·exact z38_3
 rw [if_neg c1] at h; by_cases c1 : op = 5
 ·exact z38_3
 rw [if_neg c1] at h; by_cases c1 : op = 18
 ·rw [if_pos c1] at h; obtain ⟨rfl, rfl, rfl⟩ : 1 = t1 ∧ 63 = t2 ∧ true = t3 := by simpa using h
  subst c1; exact .inl ⟨rfl, by rfl, by decide, q67z, q77z⟩
 rw [if_neg c1] at h; by_cases c1 : op = 6
 ·exact z38_2
 rw [if_neg c1] at h; by_cases c1 : op = 7
 ·exact z38_2
 rw [if_neg c1] at h; by_cases c1 : op = 8
 ·exact z38_2
 rw [if_neg c1] at h; by_cases c1 : op = 9
 ·exact z38_2
 rw [if_neg c1] at h; by_cases c1 : op = 10
 ·exact z38_2
 rw [if_neg c1] at h; by_cases c1 : op = 11
 ·exact z38_2
 rw [if_neg c1] at h; by_cases c1 : op = 12
 ·exact z38_1
 rw [if_neg c1] at h; by_cases c1 : op = 13
 ·exact z38_1
 rw [if_neg c1] at h; by_cases c1 : op = 14
 ·exact z38_1
 rw [if_neg c1] at h; by_cases c1 : op = 15
 ·exact z38_1
 rw [if_neg c1] at h; by_cases c1 : op = 17
 ·rw [if_pos c1] at h; obtain ⟨rfl, rfl, rfl⟩ : 2 = t1 ∧ 64 = t2 ∧ true = t3 := by simpa using h
  subst c1; exact .inl ⟨rfl, by rfl, by decide, q67z, q77z⟩
 rw [if_neg c1] at h; by_cases c1 : op = 16
 ·rw [if_pos c1] at h; obtain ⟨rfl, rfl, rfl⟩ : 3 = t1 ∧ 65 = t2 ∧ true = t3 := by simpa using h
  subst c1; exact .inl ⟨rfl, by rfl, by decide, q67z, q77z⟩
 rw [if_neg c1] at h; by_cases cw : (Lit.int .i64 op).wf = true
 ·rw [if_pos cw] at h; obtain ⟨rfl, rfl, rfl⟩ : 0 = t1 ∧ -1 = t2 ∧ false = t3 := by simpa using h
  refine .inr ⟨rfl, rfl, rfl, cw, ?_⟩; intro p hp e
  simp only [net_rules.kvs, net_rules.tab, List.map_cons, List.map_nil, List.mem_cons, List.not_mem_nil, or_false] at hp; rcases hp with rfl | rfl | rfl | rfl | rfl | rfl | rfl | rfl | rfl | rfl | rfl | rfl | rfl | rfl | rfl | rfl | rfl | rfl | rfl <;> (simp only [Value.int.injEq, true_and] at e; omega)
 rw [if_neg cw] at h; cases h
theorem net_rules.eqb {W w1 : World} (h : w1 = W) : Below W.heap.size W w1 := by
 subst h; exact Below.refl _ _
theorem net_rules.farc {w : World} {g : Nat} {o : Obj} (h : w.heap[g]? = some o) {p : Addr} (hp : g ≠ p.block) (u : Value) : (w.setCell p u).heap[g]? = some o := (Below.heap_setCell w p u g hp).trans h
section
variable {ops : Array Oper} {o : Oper} {a : Act} {Q : Exit → Act → World → Prop} {rest : List Oper}
theorem net_rules.gate_look {W : World} {t : TypeId} {m x : Operand} {c : Bool} (_ho : o.op = Op.lookup t m x c) (h : wpList Try.prog ops Q (o :: rest) a W) : wpList Try.prog ops Q (o :: rest) a W := h
theorem net_rules.look_event {W : World} {g : Nat} {om : Array MapEntry} {clk : Nat} {op t1 t2 : Int} {t3 : Bool} (hb : W.heap[g]? = some (.map om clk)) (hkv : om.toList.map (fun e => (e.key, e.val)) = net_rules.kvs) (hky : ∀ p ∈ net_rules.kvs, ∃ l, keyOf Try.prog 3 p.1 = some l) (hf : main_main.f op = some (t1, t2, t3))
  (hgd : o.guard = none) (m x : Operand) (hop : o.op = Op.lookup 72 m x true) (hm : a.eval m = .map (some g)) (hx : a.eval x = .int .i64 op) (h : ∀ w1, w1 = W → wpList Try.prog ops Q rest (a.put o.dst (.tuple #[.agg #[.int .i64 t1, net_rules.fvOf t2], .bool t3])) w1) : wpList Try.prog ops Q (o :: rest) a W := by
 refine wpList_plain hgd fun K' hK' => ?_
 have hl : (Instr.lookup 72 (.map (some g)) (.int .i64 op) true).run Try.prog W = .ok (.tuple #[.agg #[.int .i64 t1, net_rules.fvOf t2], .bool t3]) W := by
  rcases main_main.told hf with ⟨rfl, hw, hne, hv, hin⟩ | ⟨rfl, rfl, rfl, hw, hne⟩
  ·have hl := net_rules.TM.hit (w := W) (b := g) ⟨⟨om, clk, hb, hkv⟩, hky⟩ hw hv hin; rw [net_rules.fvOf_pos hne]; exact hl
  ·exact net_rules.TM.miss (w := W) (b := g) ⟨⟨om, clk, hb, hkv⟩, hky⟩ hw hne
 unfold Oper.wp
 simp [execOp, hop, hm, hx, hl, Result.andThen]
 exact hK' _ _ (h W rfl)
end
def gosem_cut.f (a0_0 a0_1 a0_2 a0_3 a0_4 a0_5 a0_6 a0_7 a0_8 a0_9 tag : Int) : Option (Bool) := if tag = 57 then net_seen_two.f a0_0 a0_1 a0_2 a0_3 a0_4 a0_5 a0_6 a0_7 a0_8 a0_9 else if tag = 58 then net_seen_asked.f a0_0 a0_1 a0_2 a0_3 a0_4 a0_5 a0_6 a0_7 a0_8 a0_9 else if tag = 59 then net_seen_lit.f a0_0 a0_1 a0_2 a0_3 a0_4 a0_5 a0_6 a0_7 a0_8 a0_9 else if tag = 60 then net_seen_bare.f a0_0 a0_1 a0_2 a0_3 a0_4 a0_5 a0_6 a0_7 a0_8 a0_9 else if tag = 61 then net_seen_one.f a0_0 a0_1 a0_2 a0_3 a0_4 a0_5 a0_6 a0_7 a0_8 a0_9 else if tag = 62 then net_seen_red.f a0_0 a0_1 a0_2 a0_3 a0_4 a0_5 a0_6 a0_7 a0_8 a0_9 else if tag = 63 then net_seen_slice.f a0_0 a0_1 a0_2 a0_3 a0_4 a0_5 a0_6 a0_7 a0_8 a0_9 else if tag = 64 then net_seen_cat.f a0_0 a0_1 a0_2 a0_3 a0_4 a0_5 a0_6 a0_7 a0_8 a0_9 else if tag = 65 then net_seen_mux.f a0_0 a0_1 a0_2 a0_3 a0_4 a0_5 a0_6 a0_7 a0_8 a0_9 else none
theorem gosem_cut.calls (a0_0 a0_1 a0_2 a0_3 a0_4 a0_5 a0_6 a0_7 a0_8 a0_9 tag : Int) (r : Bool) (w : World) (h : gosem_cut.f a0_0 a0_1 a0_2 a0_3 a0_4 a0_5 a0_6 a0_7 a0_8 a0_9 tag = some r) : Calls Try.prog tag.toNat #[.agg #[.int .i64 a0_0, .int .i64 a0_1, .int .i64 a0_2, .int .i64 a0_3, .int .i64 a0_4, .int .i64 a0_5, .int .i64 a0_6, .int .i64 a0_7, .int .i64 a0_8, .int .i64 a0_9]] w fun e w' => e = .returned (.bool r) ∧ Below w.heap.size w w' := by
 unfold gosem_cut.f at h
 by_cases ctwo : tag = 57
 ·rw [if_pos ctwo] at h; subst ctwo; exact (net_seen_two.calls a0_0 a0_1 a0_2 a0_3 a0_4 a0_5 a0_6 a0_7 a0_8 a0_9 r w h).mono fun e w' hh => by first | exact hh | exact ⟨hh.1, q56z⟩
 rw [if_neg ctwo] at h; by_cases casked : tag = 58
 ·rw [if_pos casked] at h; subst casked; exact (net_seen_asked.calls a0_0 a0_1 a0_2 a0_3 a0_4 a0_5 a0_6 a0_7 a0_8 a0_9 r w h).mono fun e w' hh => by first | exact hh | exact ⟨hh.1, q56z⟩
 rw [if_neg casked] at h; by_cases clit : tag = 59
 ·rw [if_pos clit] at h; subst clit; exact (net_seen_lit.calls a0_0 a0_1 a0_2 a0_3 a0_4 a0_5 a0_6 a0_7 a0_8 a0_9 r w h).mono fun e w' hh => by first | exact hh | exact ⟨hh.1, q56z⟩
 rw [if_neg clit] at h; by_cases cbare : tag = 60
 ·rw [if_pos cbare] at h; subst cbare; exact (net_seen_bare.calls a0_0 a0_1 a0_2 a0_3 a0_4 a0_5 a0_6 a0_7 a0_8 a0_9 r w h).mono fun e w' hh => by first | exact hh | exact ⟨hh.1, q56z⟩
 rw [if_neg cbare] at h; by_cases cone : tag = 61
 ·rw [if_pos cone] at h; subst cone; exact (net_seen_one.calls a0_0 a0_1 a0_2 a0_3 a0_4 a0_5 a0_6 a0_7 a0_8 a0_9 r w h).mono fun e w' hh => by first | exact hh | exact ⟨hh.1, q56z⟩
 rw [if_neg cone] at h; by_cases cred : tag = 62
 ·rw [if_pos cred] at h; subst cred; exact (net_seen_red.calls a0_0 a0_1 a0_2 a0_3 a0_4 a0_5 a0_6 a0_7 a0_8 a0_9 r w h).mono fun e w' hh => by first | exact hh | exact ⟨hh.1, q56z⟩
 rw [if_neg cred] at h; by_cases cslice : tag = 63
 ·rw [if_pos cslice] at h; subst cslice; exact (net_seen_slice.calls a0_0 a0_1 a0_2 a0_3 a0_4 a0_5 a0_6 a0_7 a0_8 a0_9 r w h).mono fun e w' hh => by first | exact hh | exact ⟨hh.1, q56z⟩
 rw [if_neg cslice] at h; by_cases ccat : tag = 64
 ·rw [if_pos ccat] at h; subst ccat; exact (net_seen_cat.calls a0_0 a0_1 a0_2 a0_3 a0_4 a0_5 a0_6 a0_7 a0_8 a0_9 r w h).mono fun e w' hh => by first | exact hh | exact ⟨hh.1, q56z⟩
 rw [if_neg ccat] at h; by_cases cmux : tag = 65
 ·rw [if_pos cmux] at h; subst cmux; exact (net_seen_mux.calls a0_0 a0_1 a0_2 a0_3 a0_4 a0_5 a0_6 a0_7 a0_8 a0_9 r w h).mono fun e w' hh => by first | exact hh | exact ⟨hh.1, q56z⟩
 rw [if_neg cmux] at h; cases h
theorem net_fits.fn {a0_0 a0_1 a0_2 a0_3 a0_4 a0_5 a0_6 a0_7 a0_8 a0_9 tag : Int} {r : Bool} (h : gosem_cut.f a0_0 a0_1 a0_2 a0_3 a0_4 a0_5 a0_6 a0_7 a0_8 a0_9 tag = some r) : ∃ fn, Try.prog.funcs[tag.toNat]? = some fn ∧ (fn.name == "runtime.NumGoroutine") = false ∧ fn.body.isSome = true := by
 unfold gosem_cut.f at h
 by_cases ctwo : tag = 57
 ·subst ctwo; exact ⟨_, Try.func57, by kernel_rfl, rfl⟩
 rw [if_neg ctwo] at h; by_cases casked : tag = 58
 ·subst casked; exact ⟨_, Try.func58, by kernel_rfl, rfl⟩
 rw [if_neg casked] at h; by_cases clit : tag = 59
 ·subst clit; exact ⟨_, Try.func59, by kernel_rfl, rfl⟩
 rw [if_neg clit] at h; by_cases cbare : tag = 60
 ·subst cbare; exact ⟨_, Try.func60, by kernel_rfl, rfl⟩
 rw [if_neg cbare] at h; by_cases cone : tag = 61
 ·subst cone; exact ⟨_, Try.func61, by kernel_rfl, rfl⟩
 rw [if_neg cone] at h; by_cases cred : tag = 62
 ·subst cred; exact ⟨_, Try.func62, by kernel_rfl, rfl⟩
 rw [if_neg cred] at h; by_cases cslice : tag = 63
 ·subst cslice; exact ⟨_, Try.func63, by kernel_rfl, rfl⟩
 rw [if_neg cslice] at h; by_cases ccat : tag = 64
 ·subst ccat; exact ⟨_, Try.func64, by kernel_rfl, rfl⟩
 rw [if_neg ccat] at h; by_cases cmux : tag = 65
 ·subst cmux; exact ⟨_, Try.func65, by kernel_rfl, rfl⟩
 rw [if_neg cmux] at h; cases h
theorem net_fits.ne {a0_0 a0_1 a0_2 a0_3 a0_4 a0_5 a0_6 a0_7 a0_8 a0_9 tag : Int} {r : Bool} (h : gosem_cut.f a0_0 a0_1 a0_2 a0_3 a0_4 a0_5 a0_6 a0_7 a0_8 a0_9 tag = some r) : tag ≠ -1 := by
 rintro rfl; simp [gosem_cut.f] at h
section
variable {ops : Array Oper} {Q : Exit → Act → World → Prop}
theorem net_fits.goes {oi : Oper} {N : Option Tmp} {a : Act} {w : World} {K : Act → World → Prop} {f : FuncId} {fn : Func} {x : Operand} {ars : Array Operand} {ts : Array TypeId} (hf : Try.prog.funcs[f]? = some fn) (hname : (fn.name == "runtime.NumGoroutine") = false) (hb : fn.body.isSome = true) (args : Array Value)
  (hw : Region.wanted oi (yielded ops a.tmps) = true) (hN : oi.dst = N) (hop : oi.op = .call { callee := .value x, args := ars, argTypes := ts }) (hx : a.eval x = .func (.func f) #[] #[]) (hargs : ars.map a.eval = args)
  (h : Calls Try.prog f args w fun e w' => ∃ v, e = .returned v ∧ K (a.put N v) w') : if Region.wanted oi (yielded ops a.tmps) = true then Oper.wp Try.prog oi a w K Q else K (a.put N undef) w := by
 refine call_ f args hw hN ?_ h; have he := enters_ hf hname hb args w; unfold execOp
 simp [hop, resolve, Deferred.ofValue, invoke, hx, hargs, he]
end
def slices_IndexFunc_int_int.l0 : Nat → List Int → Int → Int → Option (Int)
 | 0, _, _, _ => none
 | k + 1, x0, x7, x8 => if x8 < x7 then (if 0 ≤ x8 then (if x8 < (x0.length : Int) then ((net_nodes_1.f (rd x0 x8)).bind fun t129 => (if t129 = true then (some x8) else (slices_IndexFunc_int_int.l0 k x0 x7 (wrap64 (x8 + 1))))) else (none)) else (none)) else (some (-1))
def slices_IndexFunc_int_int.f (k : Nat) (l0 : List Int) (a1 : Int) : Option (Int) := slices_IndexFunc_int_int.l0 k l0 (l0.length : Int) 0
theorem slices_IndexFunc_int_int.mono_l : ∀ k, (∀ y0 y1 y2, LeO (slices_IndexFunc_int_int.l0 k y0 y1 y2) (slices_IndexFunc_int_int.l0 (k + 1) y0 y1 y2))
 | 0 => fun _ _ _ r h => by simp [slices_IndexFunc_int_int.l0] at h
 | k + 1 => by
  have ih0 := slices_IndexFunc_int_int.mono_l k
  ·intro y0 y1 y2
   unfold slices_IndexFunc_int_int.l0
   repeat' first | (with_reducible first | apply ih0 | exact LeO.refl _ | exact LeO.none _ | refine LeO.ite ?_ ?_ | refine LeO.bind ?_ (fun _ => ?_)) | exact LeO.none _ | refine LeO.ite ?_ ?_ | refine LeO.bind ?_ (fun _ => ?_)
theorem slices_IndexFunc_int_int.mono : ∀ a0 a1 k, LeO (slices_IndexFunc_int_int.f k a0 a1) (slices_IndexFunc_int_int.f (k + 1) a0 a1) := by
 intro a0 a1 k
 have ih1 := slices_IndexFunc_int_int.mono_l k; unfold slices_IndexFunc_int_int.f
 repeat' first | (with_reducible first | apply ih1 | exact LeO.refl _ | exact LeO.none _ | refine LeO.ite ?_ ?_ | refine LeO.bind ?_ (fun _ => ?_)) | exact LeO.none _ | refine LeO.ite ?_ ?_ | refine LeO.bind ?_ (fun _ => ?_)
theorem slices_IndexFunc_int_int.calls (k : Nat) (A0 : Option Addr) (c0 : Nat) (l0 : List Int) (a1 : Int) (r : Int) (w : World) (hr0 : Kd.C (Kd.int .i64) w A0 l0.length l0) (hc0 : l0.length ≤ c0) (h : slices_IndexFunc_int_int.f k l0 a1 = some r) :
  Calls Try.prog 66 #[.slice A0 l0.length c0, .func (.func 48) #[] #[]] w fun e w' => e = .returned (.int .i64 r) ∧ Drawn0 w w' := by
 have HR1 := aM hr0; have HC1 := aM hc0; clear hr0 hc0; have H : (slices_IndexFunc_int_int.l0 k l0 (l0.length : Int) 0) = some r := h; clear h; have H' := aM H; clear H; go_enter Try.func66, Try.ntmps66
 go_wp2
 go_loopg [8] k (fun kq v1 w' => ∃ (x1_1 : Int), v1 = .int .i64 x1_1 ∧ Aside0 (slices_IndexFunc_int_int.l0 kq l0 (l0.length : Int) x1_1 = some r) ∧ Aside0 (kq ≤ k) ∧ Drawn0 w w')
 case atStart => exact ⟨(0), q13z, H', ⟨Nat.le_refl _⟩, q21z⟩
 case round =>
  clear H'; try clear p2
  obtain ⟨x1_1, rfl, HA, HK1, ⟨m1, rfl⟩⟩ := hrel; cases gk with
  | zero => exact absurd HA.out (by simp [slices_IndexFunc_int_int.l0])
  | succ k1 =>
   have H := HA.out; clear HA; simp only [slices_IndexFunc_int_int.l0] at H; by_cases c1 : x1_1 < (l0.length : Int)
   ·rw [if_pos c1] at H; have c1b0 := decide_eq_true c1; clear c1; by_cases c2 : 0 ≤ x1_1
    ·rw [if_pos c2] at H; have c1b0 := decide_eq_true c2; clear c2; by_cases c3 : x1_1 < (l0.length : Int)
     ·rw [if_pos c3] at H; have c1b0 := decide_eq_true c3; clear c3; replace H := Option.bind_eq_some_iff.mp H; obtain ⟨t1, A1, H⟩ := H; have A2 := aM A1; clear A1; by_cases c4 : t1 = true
      ·subst c4; have H1 : (some x1_1) = some r := by rw [if_pos rfl] at H; exact H
       clear H; have H := H1; clear H1; obtain rfl := Option.some.inj H; have p1 : 0 ≤ (x1_1 : Int) := zod; have q1 : x1_1 < (l0.length : Int) := zod; obtain ⟨ad1, e1, hx1_0⟩ := Kd.at_int HR1.out x1_1 p1 q1; cases e1; replace p1 := eq_true p1; replace q1 := eq_true q1; go_wp2_with (first | (go_at_call 48; (with_reducible refine (net_nodes_1.calls (rd l0 x1_1) true _ A2.out).mono ?_); rintro e w' ⟨rfl, ⟨nd, rfl⟩⟩))
       go_ret
       exact ⟨q13z, q21z⟩
      ·replace c4 := Bool.eq_false_iff.mpr c4; subst c4; have H1 : (slices_IndexFunc_int_int.l0 k1 l0 (l0.length : Int) (wrap64 (x1_1 + 1))) = some r := by rw [if_neg (show ¬ (false = true) by decide)] at H; exact H
       clear H; have H := H1; clear H1; have H' := aM H; clear H; have p1 : 0 ≤ (x1_1 : Int) := zod; have q1 : x1_1 < (l0.length : Int) := zod; obtain ⟨ad1, e1, hx1_0⟩ := Kd.at_int HR1.out x1_1 p1 q1; cases e1; replace p1 := eq_true p1; replace q1 := eq_true q1; go_wp2_with (first | (go_at_call 48; (with_reducible refine (net_nodes_1.calls (rd l0 x1_1) false _ A2.out).mono ?_); rintro e w' ⟨rfl, ⟨nd, rfl⟩⟩))
       go_roundg k1
       case measure => have := HK1.out; omega
       case rel => exact ⟨(wrap64 (x1_1 + 1)), q13z, H', ⟨by have := HK1.out; omega⟩, q21z⟩
     ·rw [if_neg c3] at H; exact absurd H (by simp)
    ·rw [if_neg c2] at H; exact absurd H (by simp)
   ·rw [if_neg c1] at H; have c1b0 := decide_eq_false c1; clear c1; obtain rfl := Option.some.inj H; go_wp2
    go_ret
    exact ⟨q13z, q21z⟩
def slices_ContainsFunc_int_int.f (k : Nat) (l0 : List Int) (a1 : Int) : Option (Bool) := (slices_IndexFunc_int_int.f k l0 a1).bind fun t130 => (some (decide (t130 ≥ 0)))
theorem slices_ContainsFunc_int_int.mono : ∀ a0 a1 k, LeO (slices_ContainsFunc_int_int.f k a0 a1) (slices_ContainsFunc_int_int.f (k + 1) a0 a1) := by
 intro a0 a1 k
 unfold slices_ContainsFunc_int_int.f
 repeat' first | (with_reducible first | apply slices_IndexFunc_int_int.mono | exact LeO.refl _ | exact LeO.none _ | refine LeO.ite ?_ ?_ | refine LeO.bind ?_ (fun _ => ?_)) | exact LeO.none _ | refine LeO.ite ?_ ?_ | refine LeO.bind ?_ (fun _ => ?_)
theorem slices_ContainsFunc_int_int.calls (k : Nat) (A0 : Option Addr) (c0 : Nat) (l0 : List Int) (a1 : Int) (r : Bool) (w : World) (hr0 : Kd.C (Kd.int .i64) w A0 l0.length l0) (hc0 : l0.length ≤ c0) (h : slices_ContainsFunc_int_int.f k l0 a1 = some r) :
  Calls Try.prog 47 #[.slice A0 l0.length c0, .func (.func 48) #[] #[]] w fun e w' => e = .returned (.bool r) ∧ Drawn0 w w' := by
 have HR1 := aM hr0; have HC1 := aM hc0; clear hr0 hc0; have H : ((slices_IndexFunc_int_int.f k l0 a1).bind fun t1 => (some (decide (t1 ≥ 0)))) = some r := h; clear h; replace H := Option.bind_eq_some_iff.mp H; obtain ⟨t1, A1, H⟩ := H; have A2 := aM A1; clear A1; obtain rfl := Option.some.inj H; go_enter Try.func47, Try.ntmps47
 go_wp2_with (first | ((with_reducible refine zgc 66 rfl ?_); refine zgl (some 7) Try.func66 #[.slice A0 l0.length c0, .func (.func 48) #[] #[]] ?_; (with_reducible refine (slices_IndexFunc_int_int.calls k _ _ l0 a1 t1 _ ?side1 ?side2 A2.out).mono ?_); (case side1 => exact q92z HR1); (case side2 => exact HC1.out); rintro e w' ⟨rfl, ⟨nd, rfl⟩⟩; refine ⟨_, rfl, ?_⟩))
 go_ret
 exact ⟨q13z, q21z⟩
mutual
def net_nodes.l0 : Nat → List (S41) → Int → Int → List (S41) → List (S47) → List (S43) → List (S61) → List (S47) → Option (Bool)
 | 0, _, _, _, _, _, _, _, _ => none
 | k + 1, x11, x12, x13, x132000, x132001, x132002, x132003, x132004 => if x13 < x12 then (if 0 ≤ x13 then (if x13 < (x11.length : Int) then ((main_main.f ((rd_T41 x11 x13).f0)).bind fun bt135 => ((some (([(rd_T41 x11 x13).f2, (rd_T41 x11 x13).f3, (rd_T41 x11 x13).f4] : List Int) : List Int)).bind fun y139 => (if bt135.2.2 = true then (if ((rd_T41 x11 x13).f1) < 1 then (net_nodes.j1 k x13 x11 x12 x13 true x132000 x132001 x132002 x132003 x132004 ((rd_T41 x11 x13).f0) ((rd_T41 x11 x13).f1) ((rd_T41 x11 x13).f2) ((rd_T41 x11 x13).f3) ((rd_T41 x11 x13).f4) ((rd_T41 x11 x13).f5) ((rd_T41 x11 x13).f6) bt135.1 bt135.2.1) else (if ((rd_T41 x11 x13).f1) > 16 then (net_nodes.j1 k x13 x11 x12 x13 true x132000 x132001 x132002 x132003 x132004 ((rd_T41 x11 x13).f0) ((rd_T41 x11 x13).f1) ((rd_T41 x11 x13).f2) ((rd_T41 x11 x13).f3) ((rd_T41 x11 x13).f4) ((rd_T41 x11 x13).f5) ((rd_T41 x11 x13).f6) bt135.1 bt135.2.1) else (if 0 ≤ bt135.1 then (if bt135.1 ≤ (y139.length : Int) then ((slices_ContainsFunc_int_int.f k (y139.drop (bt135.1 : Int).toNat) 0).bind fun t146 => (net_nodes.j1 k x13 x11 x12 x13 t146 x132000 x132001 x132002 x132003 x132004 ((rd_T41 x11 x13).f0) ((rd_T41 x11 x13).f1) ((rd_T41 x11 x13).f2) ((rd_T41 x11 x13).f3) ((rd_T41 x11 x13).f4) ((rd_T41 x11 x13).f5) ((rd_T41 x11 x13).f6) bt135.1 bt135.2.1)) else (none)) else (none)))) else (net_nodes.j1 k x13 x11 x12 x13 true x132000 x132001 x132002 x132003 x132004 ((rd_T41 x11 x13).f0) ((rd_T41 x11 x13).f1) ((rd_T41 x11 x13).f2) ((rd_T41 x11 x13).f3) ((rd_T41 x11 x13).f4) ((rd_T41 x11 x13).f5) ((rd_T41 x11 x13).f6) bt135.1 bt135.2.1)))) else (none)) else (none)) else (some true)
def net_nodes.j1 : Nat → Int → List (S41) → Int → Int → Bool → List (S41) → List (S47) → List (S43) → List (S61) → List (S47) → Int → Int → Int → Int → Int → Int → Int → Int → Int → Option (Bool)
 | 0, _, _, _, _, _, _, _, _, _, _, _, _, _, _, _, _, _, _, _ => none
 | k + 1, x4, x11, x12, x13, x50, x132000, x132001, x132002, x132003, x132004, x135000, x135001, x135002, x135003, x135004, x135005, x135006, x139000, x139001 => if x50 = true then (some false) else ((net_width.f x132000 x132001 x132002 x132003 x132004 x135002 x4).bind fun t147 => ((net_width.f x132000 x132001 x132002 x132003 x132004 x135003 x4).bind fun t148 => ((net_width.f x132000 x132001 x132002 x132003 x132004 x135004 x4).bind fun t149 => ((gosem_cut.f x135000 x135001 x135002 x135003 x135004 x135005 x135006 t147 t148 t149 x139001).bind fun t150 => (if t150 = true then (net_nodes.l0 k x11 x12 (wrap64 (x13 + 1)) x132000 x132001 x132002 x132003 x132004) else (some false))))))
end
def net_nodes.f (k : Nat) (l0_0 : List (S41)) (l0_1 : List (S47)) (l0_2 : List (S43)) (l0_3 : List (S61)) (l0_4 : List (S47)) : Option (Bool) := net_nodes.l0 k l0_0 (l0_0.length : Int) 0 l0_0 l0_1 l0_2 l0_3 l0_4
theorem net_nodes.mono_l : ∀ k, (∀ y0 y1 y2 y3 y4 y5 y6 y7, LeO (net_nodes.l0 k y0 y1 y2 y3 y4 y5 y6 y7) (net_nodes.l0 (k + 1) y0 y1 y2 y3 y4 y5 y6 y7)) ∧ (∀ y0 y1 y2 y3 y4 y5 y6 y7 y8 y9 y10 y11 y12 y13 y14 y15 y16 y17 y18, LeO (net_nodes.j1 k y0 y1 y2 y3 y4 y5 y6 y7 y8 y9 y10 y11 y12 y13 y14 y15 y16 y17 y18) (net_nodes.j1 (k + 1) y0 y1 y2 y3 y4 y5 y6 y7 y8 y9 y10 y11 y12 y13 y14 y15 y16 y17 y18))
 | 0 => ⟨fun _ _ _ _ _ _ _ _ r h => by simp [net_nodes.l0] at h, fun _ _ _ _ _ _ _ _ _ _ _ _ _ _ _ _ _ _ _ r h => by simp [net_nodes.j1] at h⟩
 | k + 1 => by
  obtain ⟨ih0, ih1⟩ := net_nodes.mono_l k; refine ⟨?_, ?_⟩ <;> intros <;> (first | unfold net_nodes.l0 | unfold net_nodes.j1) <;> repeat' first | (with_reducible first | apply ih0 | apply ih1 | apply slices_ContainsFunc_int_int.mono | exact LeO.refl _ | exact LeO.none _ | refine LeO.ite ?_ ?_ | refine LeO.bind ?_ (fun _ => ?_)) | exact LeO.none _ | refine LeO.ite ?_ ?_ | refine LeO.bind ?_ (fun _ => ?_)
theorem net_nodes.mono : ∀ a0 a1 a2 a3 a4 k, LeO (net_nodes.f k a0 a1 a2 a3 a4) (net_nodes.f (k + 1) a0 a1 a2 a3 a4) := by
 intro a0 a1 a2 a3 a4 k
 obtain ⟨ih1, ih2⟩ := net_nodes.mono_l k; unfold net_nodes.f
 repeat' first | (with_reducible first | apply ih1 | apply ih2 | exact LeO.refl _ | exact LeO.none _ | refine LeO.ite ?_ ?_ | refine LeO.bind ?_ (fun _ => ?_)) | exact LeO.none _ | refine LeO.ite ?_ ?_ | refine LeO.bind ?_ (fun _ => ?_)
def net_nodes.T9 : Bool × List (List Nat × List Nat) := (true, [([], []), ([0], [0]), ([], []), ([], []), ([], []), ([4], [4]), ([], []), ([3, 5, 6], [3, 5, 6]), ([], []), ([], []), ([9], [9]), ([], []), ([8, 10, 11, 7], [8, 10, 11]), ([], []), ([], []), ([14], [14]), ([], []), ([13, 15, 16, 12], [13, 15, 16]), ([2, 7, 12, 17], [2, 7, 12, 17]), ([1, 18, 17], [1, 18]), ([19], [19])])
def net_nodes.B9 : List Nat := [0, 1, 0, 0, 0, 16, 0, 120, 0, 0, 512, 0, 4088, 0, 0, 16384, 0, 131064, 262140, 524287, 1048575]
theorem net_nodes.tab9 : rtab .any (opsOf Try.f27 9) = net_nodes.T9 := by kernel_rfl
theorem net_nodes.bits9 : waitsOk net_nodes.T9.2 net_nodes.B9 = true := by kernel_rfl
theorem z43_2 {P : Prop} (h : P := by
 go_wp2
 go_meet
 case rel => exact ⟨_, (true), q13z, H', ⟨q55z HK1⟩, ⟨q10z BK1⟩, ⟨q10z BK2⟩, ⟨q10z BK3⟩, ⟨q10z BK4⟩, ⟨q23z HB GE1 GE2 GE3 GE4⟩⟩) : P := h
theorem z43_1 {P : Prop} (h : P := by
 have H' := aM H; clear H; have hnb1 := NB1_131.out; have hnc1 := NB1_134.out; have hnb1 := NB1_132.out; have hnc1 := NB2_134.out; have hnb1 := NB3_138.out; have hnc1 := NB3_134.out; obtain ⟨i5_0, i5_1, i4_2, i4_3, i4_4, i3_5, i3_6, j5_0, j5_1, j4_2, j4_3, j4_4, j3_5, j3_6⟩ := cells7 BK3.out; exact z43_2) : P := h
theorem net_nodes.calls (k : Nat) (A0_0 : Option Addr) (c0_0 : Nat) (l0_0 : List (S41)) (A0_1 : Option Addr) (c0_1 : Nat) (l0_1 : List (S47)) (A0_2 : Option Addr) (c0_2 : Nat) (l0_2 : List (S43)) (A0_3 : Option Addr) (c0_3 : Nat) (l0_3 : List (S61)) (A0_4 : Option Addr) (c0_4 : Nat) (l0_4 : List (S47)) (r : Bool) (w : World) (hr0_0 : Kd.C k41 w A0_0 l0_0.length l0_0) (hc0_0 : l0_0.length ≤ c0_0) (hr0_1 : Kd.C k47 w A0_1 l0_1.length l0_1) (hc0_1 : l0_1.length ≤ c0_1) (hr0_2 : Kd.C k43 w A0_2 l0_2.length l0_2) (hc0_2 : l0_2.length ≤ c0_2) (hr0_3 : Kd.C k61 w A0_3 l0_3.length l0_3) (hc0_3 : l0_3.length ≤ c0_3) (hr0_4 : Kd.C k47 w A0_4 l0_4.length l0_4) (hc0_4 : l0_4.length ≤ c0_4) (h : net_nodes.f k l0_0 l0_1 l0_2 l0_3 l0_4 = some r) :
  Calls Try.prog 27 #[.agg #[.slice A0_0 l0_0.length c0_0, .slice A0_1 l0_1.length c0_1, .slice A0_2 l0_2.length c0_2, .slice A0_3 l0_3.length c0_3, .slice A0_4 l0_4.length c0_4]] w fun e w' => e = .returned (.bool r) ∧ Below w.heap.size w w' := by
 have hu1 := Try.underlying27; have hu1 := Try.underlying76; have hu1 := Try.underlying41; have hu1 := Try.underlying81; have HR1_0 := aM hr0_0; have HC1_0 := aM hc0_0; clear hr0_0 hc0_0; have HR1_1 := aM hr0_1; have HC1_1 := aM hc0_1; clear hr0_1 hc0_1; have HR1_2 := aM hr0_2; have HC1_2 := aM hc0_2; clear hr0_2 hc0_2; have HR1_3 := aM hr0_3; have HC1_3 := aM hc0_3; clear hr0_3 hc0_3; have HR1_4 := aM hr0_4; have HC1_4 := aM hc0_4; clear hr0_4 hc0_4; have HB := aM (Below.refl w.heap.size w); have H : (net_nodes.l0 k l0_0 (l0_0.length : Int) 0 l0_0 l0_1 l0_2 l0_3 l0_4) = some r := h; clear h; have H' := aM H; clear H; go_enter Try.func27, Try.ntmps27
 go_wp2_with (first | ((with_reducible refine zgd 1 rfl ?_); refine zbox 1 #[.slice A0_0 l0_0.length c0_0, .slice A0_1 l0_1.length c0_1, .slice A0_2 l0_2.length c0_2, .slice A0_3 l0_3.length c0_3, .slice A0_4 l0_4.length c0_4] 27 ?_; intro gb1 hg w1 hbox hb; have BK1 := aM (hbox); have GW1 := aM ((q7z HB : w.heap.size ≤ gb1)); have GE1 := aM ((q7z HB : w.heap.size ≤ gb1)); replace HB := aM (ym (q5z HB) hb); clear hb hbox hg) | (go_at_call 46; refine (net_rules.calls _).mono ?_; rintro e w2 ⟨gb2, rfl, hge_, htm_, hb⟩; obtain ⟨⟨om, clk, hbox, hkv_⟩, hky_⟩ := htm_; have HKV := aM hkv_; have HKY := aM hky_; clear hkv_ hky_; have BK2 := aM (hbox); have GW2 := aM ((Nat.le_trans (yn (q4z HB GE1)) hge_ : w.heap.size ≤ gb2)); have GE2 := aM ((Nat.le_trans (yn (q4z HB GE1)) hge_ : w.heap.size ≤ gb2)); replace HB := aM (ym (q4z HB GE1) hb); have NB1_132 := aM ((Nat.ne_of_lt (Nat.lt_of_lt_of_le (blk_lt (zi BK1)) hge_) : gb1 ≠ gb2)); have NB1_131 := aM ((Nat.ne_of_gt (Nat.lt_of_lt_of_le (blk_lt (zi BK1)) hge_) : gb2 ≠ gb1)); replace BK1 := aM (yi (zi BK1) hb); clear hb hbox hge_; have hnb1 := NB1_132.out; have hnc1 := NB1_131.out; obtain ⟨i1_0, i1_1, i1_2, i1_3, i1_4, j1_0, j1_1, j1_2, j1_3, j1_4⟩ := cells5 BK1.out))
 go_loopg [13] k (fun kq v1 w' => ∃ (x1_1 : Int), v1 = .int .i64 x1_1 ∧ Aside0 (net_nodes.l0 kq l0_0 (l0_0.length : Int) x1_1 l0_0 l0_1 l0_2 l0_3 l0_4 = some r) ∧ Aside0 (kq ≤ k) ∧ Aside0 (w'.heap[gb1]? = some (.cells #[(.slice A0_0 l0_0.length c0_0), (.slice A0_1 l0_1.length c0_1), (.slice A0_2 l0_2.length c0_2), (.slice A0_3 l0_3.length c0_3), (.slice A0_4 l0_4.length c0_4)] 27 (0, 0))) ∧ Aside0 (w'.heap[gb2]? = some (.map om clk)) ∧ Aside0 (Below w.heap.size w w'))
 case atStart => exact ⟨(0), q13z, H', ⟨Nat.le_refl _⟩, ⟨q10z BK1⟩, ⟨q10z BK2⟩, ⟨q3z HB GE1 GE2⟩⟩
 case round =>
  clear H'; try clear c2
  try clear p2
  try clear c4
  try clear i1_0 i1_1 i1_2 i1_3 i1_4 j1_0 j1_1 j1_2 j1_3 j1_4
  obtain ⟨x1_1, rfl, HA, HK1, BK1, BK2, HB⟩ := hrel; cases gk with
  | zero => exact absurd HA.out (by simp [net_nodes.l0])
  | succ k1 =>
   have H := HA.out; clear HA; simp only [net_nodes.l0] at H; by_cases c1 : x1_1 < (l0_0.length : Int)
   ·rw [if_pos c1] at H; have c1b0 := decide_eq_true c1; clear c1; by_cases c5 : 0 ≤ x1_1
    ·rw [if_pos c5] at H; have c2b0 := decide_eq_true c5; clear c5; by_cases c6 : x1_1 < (l0_0.length : Int)
     ·rw [if_pos c6] at H; have c3b0 := decide_eq_true c6; clear c6; replace H := Option.bind_eq_some_iff.mp H; obtain ⟨⟨t1, t2, t3⟩, A1, H⟩ := H; replace H : ((some (([(rd_T41 l0_0 x1_1).f2, (rd_T41 l0_0 x1_1).f3, (rd_T41 l0_0 x1_1).f4] : List Int) : List Int)).bind fun y1 => (if t3 = true then (if ((rd_T41 l0_0 x1_1).f1) < 1 then (net_nodes.j1 k1 x1_1 l0_0 (l0_0.length : Int) x1_1 true l0_0 l0_1 l0_2 l0_3 l0_4 ((rd_T41 l0_0 x1_1).f0) ((rd_T41 l0_0 x1_1).f1) ((rd_T41 l0_0 x1_1).f2) ((rd_T41 l0_0 x1_1).f3) ((rd_T41 l0_0 x1_1).f4) ((rd_T41 l0_0 x1_1).f5) ((rd_T41 l0_0 x1_1).f6) t1 t2) else (if ((rd_T41 l0_0 x1_1).f1) > 16 then (net_nodes.j1 k1 x1_1 l0_0 (l0_0.length : Int) x1_1 true l0_0 l0_1 l0_2 l0_3 l0_4 ((rd_T41 l0_0 x1_1).f0) ((rd_T41 l0_0 x1_1).f1) ((rd_T41 l0_0 x1_1).f2) ((rd_T41 l0_0 x1_1).f3) ((rd_T41 l0_0 x1_1).f4) ((rd_T41 l0_0 x1_1).f5) ((rd_T41 l0_0 x1_1).f6) t1 t2) else (if 0 ≤ t1 then (if t1 ≤ (y1.length : Int) then ((slices_ContainsFunc_int_int.f k1 (y1.drop (t1 : Int).toNat) 0).bind fun t4 => (net_nodes.j1 k1 x1_1 l0_0 (l0_0.length : Int) x1_1 t4 l0_0 l0_1 l0_2 l0_3 l0_4 ((rd_T41 l0_0 x1_1).f0) ((rd_T41 l0_0 x1_1).f1) ((rd_T41 l0_0 x1_1).f2) ((rd_T41 l0_0 x1_1).f3) ((rd_T41 l0_0 x1_1).f4) ((rd_T41 l0_0 x1_1).f5) ((rd_T41 l0_0 x1_1).f6) t1 t2)) else (none)) else (none)))) else (net_nodes.j1 k1 x1_1 l0_0 (l0_0.length : Int) x1_1 true l0_0 l0_1 l0_2 l0_3 l0_4 ((rd_T41 l0_0 x1_1).f0) ((rd_T41 l0_0 x1_1).f1) ((rd_T41 l0_0 x1_1).f2) ((rd_T41 l0_0 x1_1).f3) ((rd_T41 l0_0 x1_1).f4) ((rd_T41 l0_0 x1_1).f5) ((rd_T41 l0_0 x1_1).f6) t1 t2))) = some r := H; have A2 := aM A1; clear A1; obtain ⟨y1, hy1⟩ : ∃ y_ : List Int, y_ = (([(rd_T41 l0_0 x1_1).f2, (rd_T41 l0_0 x1_1).f3, (rd_T41 l0_0 x1_1).f4] : List Int)) := ⟨_, rfl⟩; replace H : (if t3 = true then (if ((rd_T41 l0_0 x1_1).f1) < 1 then (net_nodes.j1 k1 x1_1 l0_0 (l0_0.length : Int) x1_1 true l0_0 l0_1 l0_2 l0_3 l0_4 ((rd_T41 l0_0 x1_1).f0) ((rd_T41 l0_0 x1_1).f1) ((rd_T41 l0_0 x1_1).f2) ((rd_T41 l0_0 x1_1).f3) ((rd_T41 l0_0 x1_1).f4) ((rd_T41 l0_0 x1_1).f5) ((rd_T41 l0_0 x1_1).f6) t1 t2) else (if ((rd_T41 l0_0 x1_1).f1) > 16 then (net_nodes.j1 k1 x1_1 l0_0 (l0_0.length : Int) x1_1 true l0_0 l0_1 l0_2 l0_3 l0_4 ((rd_T41 l0_0 x1_1).f0) ((rd_T41 l0_0 x1_1).f1) ((rd_T41 l0_0 x1_1).f2) ((rd_T41 l0_0 x1_1).f3) ((rd_T41 l0_0 x1_1).f4) ((rd_T41 l0_0 x1_1).f5) ((rd_T41 l0_0 x1_1).f6) t1 t2) else (if 0 ≤ t1 then (if t1 ≤ (y1.length : Int) then ((slices_ContainsFunc_int_int.f k1 (y1.drop (t1 : Int).toNat) 0).bind fun t4 => (net_nodes.j1 k1 x1_1 l0_0 (l0_0.length : Int) x1_1 t4 l0_0 l0_1 l0_2 l0_3 l0_4 ((rd_T41 l0_0 x1_1).f0) ((rd_T41 l0_0 x1_1).f1) ((rd_T41 l0_0 x1_1).f2) ((rd_T41 l0_0 x1_1).f3) ((rd_T41 l0_0 x1_1).f4) ((rd_T41 l0_0 x1_1).f5) ((rd_T41 l0_0 x1_1).f6) t1 t2)) else (none)) else (none)))) else (net_nodes.j1 k1 x1_1 l0_0 (l0_0.length : Int) x1_1 true l0_0 l0_1 l0_2 l0_3 l0_4 ((rd_T41 l0_0 x1_1).f0) ((rd_T41 l0_0 x1_1).f1) ((rd_T41 l0_0 x1_1).f2) ((rd_T41 l0_0 x1_1).f3) ((rd_T41 l0_0 x1_1).f4) ((rd_T41 l0_0 x1_1).f5) ((rd_T41 l0_0 x1_1).f6) t1 t2)) = some r := by first | (rw [hy1]; with_reducible exact H) | (have H1_ := (Option.bind_some _ _).symm.trans H; rw [hy1]; with_reducible exact H1_) | (have H1_ := (Option.bind_some _ _).symm.trans H; with_reducible exact H1_) | with_reducible exact H | (rw [hy1]; exact H) | exact H
      have Ny1 := aM hy1; clear hy1; have HC1 := aM H; clear H; have p3 : 0 ≤ (x1_1 : Int) := zod; have q2 : x1_1 < (l0_0.length : Int) := zod; obtain ⟨ad1, e1, hx1_0, hx1_1, hx1_2, hx1_3, hx1_4, hx1_5, hx1_6⟩ := at_T41 HR1_0.out x1_1 p3 q2; cases e1; replace hx1_0 := zx HB hx1_0; replace hx1_1 := zx HB hx1_1; replace hx1_2 := zx HB hx1_2; replace hx1_3 := zx HB hx1_3; replace hx1_4 := zx HB hx1_4; replace hx1_5 := zx HB hx1_5; replace hx1_6 := zx HB hx1_6; replace p3 := eq_true p3; replace q2 := eq_true q2; go_upto_region 7 with (first | ((with_reducible refine zgd 5 rfl ?_); refine zbox 5 #[.int .i64 0, .int .i64 0, .int .i64 0, .int .i64 0, .int .i64 0, .int .i64 0, .int .i64 0] 41 ?_; intro gb3 hg w1 hbox hb; have BK3 := aM (hbox); have GW1 := aM ((q74z HB GE1 GE2 : w.heap.size ≤ gb3)); have GE3 := aM ((q74z HB GE1 GE2 : w.heap.size ≤ gb3)); replace HB := aM (ym (q3z HB GE1 GE2) hb); have NB1_134 := aM ((q34z BK1 : gb1 ≠ gb3)); have NB1_131 := aM ((q35z BK1 : gb3 ≠ gb1)); replace BK1 := aM (yi (zi BK1) hb); have NB2_134 := aM ((by rw [hg]; exact Nat.ne_of_lt (blk_lt (g := gb2) (o := .map om clk) (zi BK2)) : gb2 ≠ gb3)); have NB1_132 := aM ((by rw [hg]; exact Nat.ne_of_gt (blk_lt (g := gb2) (o := .map om clk) (zi BK2)) : gb3 ≠ gb2)); replace BK2 := aM (yi (g := gb2) (o := .map om clk) (zi BK2) hb); clear hb hbox hg; have hnb1 := NB1_131.out; have hnc1 := NB1_134.out; have hnb2 := NB1_132.out; have hnc2 := NB2_134.out; obtain ⟨i2_0, i2_1, i2_2, i2_3, i2_4, i1_5, i1_6, j2_0, j2_1, j2_2, j2_3, j2_4, j1_5, j1_6⟩ := cells7 BK3.out) | ((with_reducible refine net_rules.gate_look rfl ?_); refine net_rules.look_event (q38z NB2_134 BK2) HKV.out HKY.out A2.out rfl _ _ rfl rfl rfl ?_; intro w2 hw_; have hb := net_rules.eqb hw_; clear hw_; replace BK1 := aM (yi (g := gb1) (o := .cells #[.slice (some ad1) l0_0.length c0_0, .slice A0_1 l0_1.length c0_1, .slice A0_2 l0_2.length c0_2, .slice A0_3 l0_3.length c0_3, .slice A0_4 l0_4.length c0_4] 27 (0, 0)) (q8z NB1_134 BK1) hb); replace BK2 := aM (yi (g := gb2) (o := .map om clk) (q38z NB2_134 BK2) hb); replace BK3 := aM (yi (g := gb3) (o := .cells #[.int .i64 ((rd_T41 l0_0 x1_1).f0), .int .i64 ((rd_T41 l0_0 x1_1).f1), .int .i64 ((rd_T41 l0_0 x1_1).f2), .int .i64 ((rd_T41 l0_0 x1_1).f3), .int .i64 ((rd_T41 l0_0 x1_1).f4), .int .i64 ((rd_T41 l0_0 x1_1).f5), .int .i64 ((rd_T41 l0_0 x1_1).f6)] 41 (0, 0)) (by (with_reducible repeat (first | refine ya ?_ _ | refine yc ?_ | refine yb ?_ _)); refine ys (cs := #[.int .i64 ((rd_T41 l0_0 x1_1).f0), .int .i64 ((rd_T41 l0_0 x1_1).f1), .int .i64 ((rd_T41 l0_0 x1_1).f2), .int .i64 ((rd_T41 l0_0 x1_1).f3), .int .i64 ((rd_T41 l0_0 x1_1).f4), .int .i64 ((rd_T41 l0_0 x1_1).f5), .int .i64 0]) ?_ 6 _ rfl; (with_reducible repeat (first | refine ya ?_ _ | refine yc ?_ | refine yb ?_ _)); refine ys (cs := #[.int .i64 ((rd_T41 l0_0 x1_1).f0), .int .i64 ((rd_T41 l0_0 x1_1).f1), .int .i64 ((rd_T41 l0_0 x1_1).f2), .int .i64 ((rd_T41 l0_0 x1_1).f3), .int .i64 ((rd_T41 l0_0 x1_1).f4), .int .i64 0, .int .i64 0]) ?_ 5 _ rfl; (with_reducible repeat (first | refine ya ?_ _ | refine yc ?_ | refine yb ?_ _)); refine ys (cs := #[.int .i64 ((rd_T41 l0_0 x1_1).f0), .int .i64 ((rd_T41 l0_0 x1_1).f1), .int .i64 ((rd_T41 l0_0 x1_1).f2), .int .i64 ((rd_T41 l0_0 x1_1).f3), .int .i64 0, .int .i64 0, .int .i64 0]) ?_ 4 _ rfl; (with_reducible repeat (first | refine ya ?_ _ | refine yc ?_ | refine yb ?_ _)); refine ys (cs := #[.int .i64 ((rd_T41 l0_0 x1_1).f0), .int .i64 ((rd_T41 l0_0 x1_1).f1), .int .i64 ((rd_T41 l0_0 x1_1).f2), .int .i64 0, .int .i64 0, .int .i64 0, .int .i64 0]) ?_ 3 _ rfl; (with_reducible repeat (first | refine ya ?_ _ | refine yc ?_ | refine yb ?_ _)); refine ys (cs := #[.int .i64 ((rd_T41 l0_0 x1_1).f0), .int .i64 ((rd_T41 l0_0 x1_1).f1), .int .i64 0, .int .i64 0, .int .i64 0, .int .i64 0, .int .i64 0]) ?_ 2 _ rfl; (with_reducible repeat (first | refine ya ?_ _ | refine yc ?_ | refine yb ?_ _)); refine ys (cs := #[.int .i64 ((rd_T41 l0_0 x1_1).f0), .int .i64 0, .int .i64 0, .int .i64 0, .int .i64 0, .int .i64 0, .int .i64 0]) ?_ 1 _ rfl; (with_reducible repeat (first | refine ya ?_ _ | refine yc ?_ | refine yb ?_ _)); refine ys (cs := #[.int .i64 0, .int .i64 0, .int .i64 0, .int .i64 0, .int .i64 0, .int .i64 0, .int .i64 0]) ?_ 0 _ rfl; (with_reducible repeat (first | refine ya ?_ _ | refine yc ?_ | refine yb ?_ _)); exact BK3.out) hb); replace HB := aM (ym (q47z HB GE1 GE2 GE3) hb); (try clear hb); (try clear hb2); (try clear hk); (try clear hi)) | ((with_reducible refine zgd 6 rfl ?_); refine zbox 6 #[.int .i64 0, .nilFunc] 76 ?_; intro gb4 hg w3 hbox hb; have BK4 := aM (hbox); have GW2 := aM ((q81z HB GE1 GE2 GE3 : w.heap.size ≤ gb4)); have GE4 := aM ((q81z HB GE1 GE2 GE3 : w.heap.size ≤ gb4)); replace HB := aM (ym (q47z HB GE1 GE2 GE3) hb); have NB1_138 := aM ((q34z BK1 : gb1 ≠ gb4)); have NB2_131 := aM ((q35z BK1 : gb4 ≠ gb1)); replace BK1 := aM (yi (zi BK1) hb); have NB2_138 := aM ((by rw [hg]; exact Nat.ne_of_lt (blk_lt (g := gb2) (o := .map om clk) (zi BK2)) : gb2 ≠ gb4)); have NB2_132 := aM ((by rw [hg]; exact Nat.ne_of_gt (blk_lt (g := gb2) (o := .map om clk) (zi BK2)) : gb4 ≠ gb2)); replace BK2 := aM (yi (g := gb2) (o := .map om clk) (zi BK2) hb); have NB3_138 := aM ((q34z BK3 : gb3 ≠ gb4)); have NB3_134 := aM ((q35z BK3 : gb4 ≠ gb3)); replace BK3 := aM (yi (zi BK3) hb); clear hb hbox hg; have hnb3 := NB2_131.out; have hnc3 := NB1_138.out; have hnb4 := NB2_132.out; have hnc4 := NB2_138.out; have hnb5 := NB3_134.out; have hnc5 := NB3_138.out; obtain ⟨i3_0, i3_1, j3_0, j3_1⟩ := cells2 BK4.out; obtain ⟨i4_0, i4_1, i3_2, i3_3, i3_4, i2_5, i2_6, j4_0, j4_1, j3_2, j3_3, j3_4, j2_5, j2_6⟩ := cells7 BK3.out) | ((with_reducible refine gate_dst (N := 31) rfl ?_); refine Kd.R_lit (Kd.int .i64) _ 3 ?hg (N := 31) ?hd (xs := ([(rd_T41 l0_0 x1_1).f2, (rd_T41 l0_0 x1_1).f3, (rd_T41 l0_0 x1_1).f4] : List Int)) (inner := [.int .i64 ((rd_T41 l0_0 x1_1).f2), .int .i64 ((rd_T41 l0_0 x1_1).f3), .int .i64 ((rd_T41 l0_0 x1_1).f4)]) (ok := fun _ => True) (okp := fun _ => True) ?hr ?hp (fun _ hk => hk) trivial (Below.refl _ _) (Nat.le_refl _) (by simp) ?_; (case hd => rfl); (case hg => rfl); (case hr => exact q30z); (case hp => exact (Reps.one (show Kd.M (Kd.int .i64) _ _ _ ((rd_T41 l0_0 x1_1).f2) [.int .i64 ((rd_T41 l0_0 x1_1).f2)] from rfl) (Reps.one (show Kd.M (Kd.int .i64) _ _ _ ((rd_T41 l0_0 x1_1).f3) [.int .i64 ((rd_T41 l0_0 x1_1).f3)] from rfl) (Reps.one (show Kd.M (Kd.int .i64) _ _ _ ((rd_T41 l0_0 x1_1).f4) [.int .i64 ((rd_T41 l0_0 x1_1).f4)] from rfl) (Reps.none _ _))))); intro v1 w4 ho1 hb hg_ hnew_; clear hg_ hnew_; (first | rw [← Ny1.out] at ho1 | (simp only [Int.reduceToNat] at ho1; rw [← Ny1.out] at ho1)); have HO1 := aM (Kd.R_lower ho1 (yn (q23z HB GE1 GE2 GE3 GE4))); replace BK1 := aM (yi (g := gb1) (o := .cells #[.slice (some ad1) l0_0.length c0_0, .slice A0_1 l0_1.length c0_1, .slice A0_2 l0_2.length c0_2, .slice A0_3 l0_3.length c0_3, .slice A0_4 l0_4.length c0_4] 27 (0, 0)) (q63z NB1_138 BK1) hb); replace BK2 := aM (yi (g := gb2) (o := .map om clk) (by (with_reducible repeat (first | refine ya ?_ _ | refine yc ?_ | refine yb ?_ _)); refine net_rules.farc ?_ NB2_138.out _; (with_reducible repeat (first | refine ya ?_ _ | refine yc ?_ | refine yb ?_ _)); refine net_rules.farc ?_ NB2_138.out _; (with_reducible repeat (first | refine ya ?_ _ | refine yc ?_ | refine yb ?_ _)); exact BK2.out) hb); replace BK3 := aM (yi (g := gb3) (o := .cells #[.int .i64 ((rd_T41 l0_0 x1_1).f0), .int .i64 ((rd_T41 l0_0 x1_1).f1), .int .i64 ((rd_T41 l0_0 x1_1).f2), .int .i64 ((rd_T41 l0_0 x1_1).f3), .int .i64 ((rd_T41 l0_0 x1_1).f4), .int .i64 ((rd_T41 l0_0 x1_1).f5), .int .i64 ((rd_T41 l0_0 x1_1).f6)] 41 (0, 0)) (q63z NB3_138 BK3) hb); replace BK4 := aM (yi (g := gb4) (o := .cells #[.int .i64 t1, (net_rules.fvOf t2)] 76 (0, 0)) (by (with_reducible repeat (first | refine ya ?_ _ | refine yc ?_ | refine yb ?_ _)); refine ys (cs := #[.int .i64 t1, .nilFunc]) ?_ 1 _ rfl; (with_reducible repeat (first | refine ya ?_ _ | refine yc ?_ | refine yb ?_ _)); refine ys (cs := #[.int .i64 0, .nilFunc]) ?_ 0 _ rfl; (with_reducible repeat (first | refine ya ?_ _ | refine yc ?_ | refine yb ?_ _)); exact BK4.out) hb); replace HB := aM (ym (q23z HB GE1 GE2 GE3 GE4) hb); clear hb ho1))
      (try simp only [Act.put, yu, yv, yw])
      go_cut [50] (fun v1 wc => ∃ (kq : Nat) (x1_9 : Bool), v1 = .bool x1_9 ∧ Aside0 (net_nodes.j1 kq x1_1 l0_0 (l0_0.length : Int) x1_1 x1_9 l0_0 l0_1 l0_2 l0_3 l0_4 ((rd_T41 l0_0 x1_1).f0) ((rd_T41 l0_0 x1_1).f1) ((rd_T41 l0_0 x1_1).f2) ((rd_T41 l0_0 x1_1).f3) ((rd_T41 l0_0 x1_1).f4) ((rd_T41 l0_0 x1_1).f5) ((rd_T41 l0_0 x1_1).f6) t1 t2 = some r) ∧ Aside0 (kq ≤ k1) ∧ Aside0 (wc.heap[gb1]? = some (.cells #[(.slice (some ad1) l0_0.length c0_0), (.slice A0_1 l0_1.length c0_1), (.slice A0_2 l0_2.length c0_2), (.slice A0_3 l0_3.length c0_3), (.slice A0_4 l0_4.length c0_4)] 27 (0, 0))) ∧ Aside0 (wc.heap[gb2]? = some (.map om clk)) ∧ Aside0 (wc.heap[gb3]? = some (.cells #[.int .i64 ((rd_T41 l0_0 x1_1).f0), .int .i64 ((rd_T41 l0_0 x1_1).f1), .int .i64 ((rd_T41 l0_0 x1_1).f2), .int .i64 ((rd_T41 l0_0 x1_1).f3), .int .i64 ((rd_T41 l0_0 x1_1).f4), .int .i64 ((rd_T41 l0_0 x1_1).f5), .int .i64 ((rd_T41 l0_0 x1_1).f6)] 41 (0, 0))) ∧ Aside0 (wc.heap[gb4]? = some (.cells #[.int .i64 t1, (net_rules.fvOf t2)] 76 (0, 0))) ∧ Aside0 (Below w.heap.size w wc))
      case first =>
       have H := HC1.out; clear HC1; by_cases c7 : t3 = true
       ·subst c7; have H1 : (if ((rd_T41 l0_0 x1_1).f1) < 1 then (net_nodes.j1 k1 x1_1 l0_0 (l0_0.length : Int) x1_1 true l0_0 l0_1 l0_2 l0_3 l0_4 ((rd_T41 l0_0 x1_1).f0) ((rd_T41 l0_0 x1_1).f1) ((rd_T41 l0_0 x1_1).f2) ((rd_T41 l0_0 x1_1).f3) ((rd_T41 l0_0 x1_1).f4) ((rd_T41 l0_0 x1_1).f5) ((rd_T41 l0_0 x1_1).f6) t1 t2) else (if ((rd_T41 l0_0 x1_1).f1) > 16 then (net_nodes.j1 k1 x1_1 l0_0 (l0_0.length : Int) x1_1 true l0_0 l0_1 l0_2 l0_3 l0_4 ((rd_T41 l0_0 x1_1).f0) ((rd_T41 l0_0 x1_1).f1) ((rd_T41 l0_0 x1_1).f2) ((rd_T41 l0_0 x1_1).f3) ((rd_T41 l0_0 x1_1).f4) ((rd_T41 l0_0 x1_1).f5) ((rd_T41 l0_0 x1_1).f6) t1 t2) else (if 0 ≤ t1 then (if t1 ≤ (y1.length : Int) then ((slices_ContainsFunc_int_int.f k1 (y1.drop (t1 : Int).toNat) 0).bind fun t4 => (net_nodes.j1 k1 x1_1 l0_0 (l0_0.length : Int) x1_1 t4 l0_0 l0_1 l0_2 l0_3 l0_4 ((rd_T41 l0_0 x1_1).f0) ((rd_T41 l0_0 x1_1).f1) ((rd_T41 l0_0 x1_1).f2) ((rd_T41 l0_0 x1_1).f3) ((rd_T41 l0_0 x1_1).f4) ((rd_T41 l0_0 x1_1).f5) ((rd_T41 l0_0 x1_1).f6) t1 t2)) else (none)) else (none)))) = some r := by rw [if_pos rfl] at H; exact H
        clear H; have H := H1; clear H1; by_cases c8 : ((rd_T41 l0_0 x1_1).f1) < 1
        ·rw [if_pos c8] at H; have c4b0 := decide_eq_true c8; clear c8; (first | rw [c4b0] | (simp only [i64_w, i32_w]; rw [c4b0]) | skip)
         exact z43_1
        ·rw [if_neg c8] at H; have c4b0 := decide_eq_false c8; clear c8; (first | rw [c4b0] | (simp only [i64_w, i32_w]; rw [c4b0]) | skip)
         by_cases c8 : ((rd_T41 l0_0 x1_1).f1) > 16
         ·rw [if_pos c8] at H; have c4b0 : decide (16 < ((rd_T41 l0_0 x1_1).f1)) = true := decide_eq_true c8; clear c8; exact z43_1
         ·rw [if_neg c8] at H; have c4b0 : decide (16 < ((rd_T41 l0_0 x1_1).f1)) = false := decide_eq_false c8; clear c8; by_cases c8 : 0 ≤ t1
          ·rw [if_pos c8] at H; have c4b0 := eq_true c8; have c1b1 : decide (0 ≤ t1) = true := decide_eq_true c8; clear c8; by_cases c9 : t1 ≤ (y1.length : Int)
           ·rw [if_pos c9] at H; have c4b0 := eq_true c9; have c1b1 : decide (t1 ≤ (y1.length : Int)) = true := decide_eq_true c9; clear c9; obtain ⟨y2, hy1⟩ : ∃ y_ : List Int, y_ = (y1.drop (t1 : Int).toNat) := ⟨_, rfl⟩; replace H : ((slices_ContainsFunc_int_int.f k1 y2 0).bind fun t4 => (net_nodes.j1 k1 x1_1 l0_0 (l0_0.length : Int) x1_1 t4 l0_0 l0_1 l0_2 l0_3 l0_4 ((rd_T41 l0_0 x1_1).f0) ((rd_T41 l0_0 x1_1).f1) ((rd_T41 l0_0 x1_1).f2) ((rd_T41 l0_0 x1_1).f3) ((rd_T41 l0_0 x1_1).f4) ((rd_T41 l0_0 x1_1).f5) ((rd_T41 l0_0 x1_1).f6) t1 t2)) = some r := by first | (rw [hy1]; with_reducible exact H) | (have H1_ := (Option.bind_some _ _).symm.trans H; rw [hy1]; with_reducible exact H1_) | (have H1_ := (Option.bind_some _ _).symm.trans H; with_reducible exact H1_) | with_reducible exact H | (rw [hy1]; exact H) | exact H
            have Ny1 := aM hy1; clear hy1; replace H := Option.bind_eq_some_iff.mp H; obtain ⟨t4, A1, H⟩ := H; have A2 := aM A1; clear A1; have H' := aM H; clear H; have hnb1 := NB1_131.out; have hnc1 := NB1_134.out; have hnb1 := NB1_132.out; have hnc1 := NB2_134.out; have hnb1 := NB3_138.out; have hnc1 := NB3_134.out; obtain ⟨i5_0, i5_1, i4_2, i4_3, i4_4, i3_5, i3_6, j5_0, j5_1, j4_2, j4_3, j4_4, j3_5, j3_6⟩ := cells7 BK3.out; have hnb1 := NB2_131.out; have hnc1 := NB1_138.out; have hnb1 := NB2_132.out; have hnc1 := NB2_138.out; obtain ⟨i5_0, i5_1, j5_0, j5_1⟩ := cells2 BK4.out; obtain ⟨Ao1, co1, eo1⟩ := Kd.R_slice HO1.out; subst eo1; have q3 : (t1 : Int) ≤ ((y1.length : Int) : Int) := zod; obtain ⟨i1, hi1, _, hsz1, _⟩ := info_parts info3; have hroom1 : y1.length ≤ co1 := (Kd.R_reads' HO1.out).2.1; have hC1 : Kd.C (Kd.int .i64) _ Ao1 y1.length y1 := (Kd.R_reads' HO1.out).2.2; have q5 : (0 : Int) ≤ (t1 : Int) := zod; have hcut1 := cut_from (P := Try.prog) 32 3 .i64 Try.underlying32 hi1 1 hsz1 Ao1 y1.length co1 t1 q5 q3; have hr1 := Kd.C_drop (m := (t1 : Int).toNat) (c := co1) hC1 (by omega) hroom1; obtain ⟨A1, hA45⟩ : ∃ A3, A3 = (if co1 = (t1 : Int).toNat then Ao1 else (Ao1 : Option Addr).map (·.add ((t1 : Int).toNat * 1))) := ⟨_, rfl⟩; obtain ⟨c10, hc1⟩ : ∃ c11, c11 = co1 - (t1 : Int).toNat := ⟨_, rfl⟩; have hy1 : y2.length = y1.length - (t1 : Int).toNat := (by rw [Ny1.out, List.length_drop] <;> omega); rw [show (y1).drop (t1 : Int).toNat = y2 from Ny1.out.symm] at hr1; replace hr1 : Kd.C (Kd.int .i64) _ A1 y2.length y2 := (by rw [hA45]; exact hr1); rw [← hy1, ← hA45, ← hc1] at hcut1; have HR1 := aM hr1; have HC2 := aM (show y2.length ≤ c10 from by rw [hy1, hc1]; exact Nat.sub_le_sub_right hroom1 _); clear hr1 hC1 hroom1 hi1 hsz1 hc1; have KY1 := aM hy1; have KA1 := aM hA45; clear hy1 hA45; have KL1 := aM (show (t1 : Int).toNat ≤ y1.length from by omega); replace q3 := eq_true q3; go_wp2_with (first | (go_at_call 47; (with_reducible refine (slices_ContainsFunc_int_int.calls k1 _ _ y2 0 t4 _ ?side1 ?side2 A2.out).mono ?_); (case side1 => exact q48z HR1); (case side2 => exact HC2.out); rintro e w' ⟨rfl, ⟨nd, rfl⟩⟩))
            go_meet
            case rel => exact ⟨_, (t4), q13z, H', ⟨q55z HK1⟩, ⟨q10z BK1⟩, ⟨q10z BK2⟩, ⟨q10z BK3⟩, ⟨q10z BK4⟩, ⟨q23z HB GE1 GE2 GE3 GE4⟩⟩
           ·rw [if_neg c9] at H; exact absurd H (by simp)
          ·rw [if_neg c8] at H; exact absurd H (by simp)
       ·replace c7 := Bool.eq_false_iff.mpr c7; subst c7; have H1 : (net_nodes.j1 k1 x1_1 l0_0 (l0_0.length : Int) x1_1 true l0_0 l0_1 l0_2 l0_3 l0_4 ((rd_T41 l0_0 x1_1).f0) ((rd_T41 l0_0 x1_1).f1) ((rd_T41 l0_0 x1_1).f2) ((rd_T41 l0_0 x1_1).f3) ((rd_T41 l0_0 x1_1).f4) ((rd_T41 l0_0 x1_1).f5) ((rd_T41 l0_0 x1_1).f6) t1 t2) = some r := by rw [if_neg (show ¬ (false = true) by decide)] at H; exact H
        clear H; have H := H1; clear H1; have H' := aM H; clear H; exact z43_2
      case rest =>
       clear HC1; try clear c7
       try clear p1
       try clear q1
       try clear hx1
       try clear c2
       try clear p2
       try clear c3
       try clear c4
       try clear q4
       try clear c1
       try clear c1b0
       try clear c5
       try clear c2b0
       try clear c6
       try clear c3b0
       try clear c12
       try clear c13
       try clear p13
       try clear q13
       try clear hx13
       try clear c17
       try clear c18
       try clear c19
       try clear c7
       try clear c7
       try clear c1b0
       try clear c26
       try clear c27
       try clear c28
       try clear c7
       try clear c1b0
       try clear c31
       try clear c32
       try clear c33
       try clear c7
       try clear c1b0
       try clear c1b1
       try clear c7
       try clear c1b0
       try clear c1b1
       try clear c38
       try clear c39
       try clear c40
       try clear c42
       try clear c43
       try clear c7
       try clear q3
       try clear i2_0 i2_1 i2_2 i2_3 i2_4
       try clear i1_5 i1_6
       try clear i3_0 i3_1
       try clear i4_0 i4_1
       try clear i3_2 i3_3 i3_4
       try clear i2_5 i2_6 i2_0 i2_1 i2_2 i2_3 i2_4
       try clear i1_5 i1_6
       try clear i2_0 i2_1 i2_2 i2_3 i2_4
       try clear i1_5 i1_6
       try clear i2_0 i2_1 i2_2 i2_3 i2_4
       try clear i1_5 i1_6
       try clear i2_0 i2_1
       try clear i1_0 i1_1 i1_2 i1_3 i1_4
       try clear j2_0 j2_1 j2_2 j2_3 j2_4
       try clear j1_5 j1_6
       try clear j3_0 j3_1
       try clear j4_0 j4_1
       try clear j3_2 j3_3 j3_4
       try clear j2_5 j2_6 j2_0 j2_1 j2_2 j2_3 j2_4
       try clear j1_5 j1_6
       try clear j2_0 j2_1 j2_2 j2_3 j2_4
       try clear j1_5 j1_6
       try clear j2_0 j2_1 j2_2 j2_3 j2_4
       try clear j1_5 j1_6
       try clear j2_0 j2_1
       try clear j1_0 j1_1 j1_2 j1_3 j1_4
       try clear hx1_0
       try clear hx1_1
       try clear hx1_2
       try clear hx1_3
       try clear hx1_4
       try clear hx1_5
       try clear hx1_6
       try clear p3
       try clear p2
       try clear q5
       try clear q2
       try clear q3
       obtain ⟨kq, x1_9, rfl, HA, HJ1, BK1, BK2, BK3, BK4, HB⟩ := hcut; cases kq with
       | zero => exact absurd HA.out (by simp [net_nodes.j1])
       | succ kj1 =>
        have H := HA.out; clear HA; simp only [net_nodes.j1] at H; by_cases c7 : x1_9 = true
        ·subst c7; have H1 : (some false) = some r := by rw [if_pos rfl] at H; exact H
         clear H; have H := H1; clear H1; obtain rfl := Option.some.inj H; go_wp2
         go_ret
         exact ⟨q11z, q23z HB GE1 GE2 GE3 GE4⟩
        ·replace c7 := Bool.eq_false_iff.mpr c7; subst c7; have H1 : ((net_width.f l0_0 l0_1 l0_2 l0_3 l0_4 ((rd_T41 l0_0 x1_1).f2) x1_1).bind fun t3 => ((net_width.f l0_0 l0_1 l0_2 l0_3 l0_4 ((rd_T41 l0_0 x1_1).f3) x1_1).bind fun t4 => ((net_width.f l0_0 l0_1 l0_2 l0_3 l0_4 ((rd_T41 l0_0 x1_1).f4) x1_1).bind fun t5 => ((gosem_cut.f ((rd_T41 l0_0 x1_1).f0) ((rd_T41 l0_0 x1_1).f1) ((rd_T41 l0_0 x1_1).f2) ((rd_T41 l0_0 x1_1).f3) ((rd_T41 l0_0 x1_1).f4) ((rd_T41 l0_0 x1_1).f5) ((rd_T41 l0_0 x1_1).f6) t3 t4 t5 t2).bind fun t6 => (if t6 = true then (net_nodes.l0 kj1 l0_0 (l0_0.length : Int) (wrap64 (x1_1 + 1)) l0_0 l0_1 l0_2 l0_3 l0_4) else (some false)))))) = some r := by rw [if_neg (show ¬ (false = true) by decide)] at H; exact H
         clear H; have H := H1; clear H1; replace H := Option.bind_eq_some_iff.mp H; obtain ⟨t3, A1, H⟩ := H; have A2 := aM A1; clear A1; replace H := Option.bind_eq_some_iff.mp H; obtain ⟨t4, A1, H⟩ := H; have A3 := aM A1; clear A1; replace H := Option.bind_eq_some_iff.mp H; obtain ⟨t5, A1, H⟩ := H; have A4 := aM A1; clear A1; replace H := Option.bind_eq_some_iff.mp H; obtain ⟨t6, A1, H⟩ := H; have A5 := aM A1; clear A1; by_cases c7 : t6 = true
         ·subst c7; have H1 : (net_nodes.l0 kj1 l0_0 (l0_0.length : Int) (wrap64 (x1_1 + 1)) l0_0 l0_1 l0_2 l0_3 l0_4) = some r := by rw [if_pos rfl] at H; exact H
          clear H; have H := H1; clear H1; have H' := aM H; clear H; try go_wp2
          replace BK1 := aM (yc BK1.out); replace BK2 := aM (yc BK2.out); replace BK3 := aM (yc BK3.out); replace BK4 := aM (yc BK4.out); replace HB := aM (yk HB.out); refine start_ (n := 21) (S := fun w' => w'.cell? ⟨gb4, 0, none⟩ = some (.int .i64 t1) ∧ w'.cell? ⟨gb4, 1, none⟩ = some ((net_rules.fvOf t2)) ∧ w'.cell? ⟨gb3, 0, none⟩ = some (.int .i64 ((rd_T41 l0_0 x1_1).f0)) ∧ w'.cell? ⟨gb3, 1, none⟩ = some (.int .i64 ((rd_T41 l0_0 x1_1).f1)) ∧ w'.cell? ⟨gb3, 2, none⟩ = some (.int .i64 ((rd_T41 l0_0 x1_1).f2)) ∧ w'.cell? ⟨gb3, 3, none⟩ = some (.int .i64 ((rd_T41 l0_0 x1_1).f3)) ∧ w'.cell? ⟨gb3, 4, none⟩ = some (.int .i64 ((rd_T41 l0_0 x1_1).f4)) ∧ w'.cell? ⟨gb3, 5, none⟩ = some (.int .i64 ((rd_T41 l0_0 x1_1).f5)) ∧ w'.cell? ⟨gb3, 6, none⟩ = some (.int .i64 ((rd_T41 l0_0 x1_1).f6)) ∧ w'.cell? ⟨gb1, 0, none⟩ = some (.slice (some ad1) l0_0.length c0_0) ∧ w'.cell? ⟨gb1, 1, none⟩ = some (.slice A0_1 l0_1.length c0_1) ∧ w'.cell? ⟨gb1, 2, none⟩ = some (.slice A0_2 l0_2.length c0_2) ∧ w'.cell? ⟨gb1, 3, none⟩ = some (.slice A0_3 l0_3.length c0_3) ∧ w'.cell? ⟨gb1, 4, none⟩ = some (.slice A0_4 l0_4.length c0_4)) (ds := []) (zb 21 0) (by kernel_rfl) rfl rfl ⟨zc BK4 0, zc BK4 1, zc BK3 0, zc BK3 1, zc BK3 2, zc BK3 3, zc BK3 4, zc BK3 5, zc BK3 6, zc BK1 0, zc BK1 1, zc BK1 2, zc BK1 3, zc BK1 4⟩ (fun hHeld => ?_); refine with_tabW net_nodes.tab9 net_nodes.bits9 (fun HT_ HW_ => ?_); generalize wc.drew = w1 at BK1 BK2 BK3 BK4 HB hHeld ⊢; refine zpu 0 51 (zb 21 1) ?_; refine zpu 4 55 (zb 21 17) ?_; refine zpu 6 57 (zb 21 81) ?_; refine zpu 9 60 (zb 21 593) ?_; refine zpu 11 62 (zb 21 2641) ?_; refine zpu 14 65 (zb 21 19025) ?_; refine zpu 16 67 (zb 21 84561) ?_; refine ztk14 1 52 (zb 21 84563) hHeld ?_; refine ztk14 2 53 (zb 21 84567) hHeld ?_; refine ztk14 3 54 (zb 21 84575) hHeld ?_; refine ztk14 5 56 (zb 21 84607) hHeld ?_; refine ztk14 8 59 (zb 21 84863) hHeld ?_; refine ztk14 10 61 (zb 21 85887) hHeld ?_; refine ztk14 13 64 (zb 21 94079) hHeld ?_; refine ztk14 15 66 (zb 21 126847) hHeld ?_; refine zon 7 (some 58) (zb 21 126975) fun K hK => ?_
          refine zgo Try.func34 #[.agg #[.slice (some ad1) l0_0.length c0_0, .slice A0_1 l0_1.length c0_1, .slice A0_2 l0_2.length c0_2, .slice A0_3 l0_3.length c0_3, .slice A0_4 l0_4.length c0_4], .int .i64 ((rd_T41 l0_0 x1_1).f2), .int .i64 x1_1] ?_; with_reducible refine (net_width.calls _ _ l0_0 _ _ l0_1 _ _ l0_2 _ _ l0_3 _ _ l0_4 ((rd_T41 l0_0 x1_1).f2) x1_1 t3 _ ?side1 ?side2 ?side3 ?side4 ?side5 ?side6 ?side7 ?side8 ?side9 ?side10 A2.out).mono ?_
          (case side1 => exact q1z HR1_0 HB)
          (case side2 => exact HC1_0.out)
          (case side3 => exact q1z HR1_1 HB)
          (case side4 => exact HC1_1.out)
          (case side5 => exact q1z HR1_2 HB)
          (case side6 => exact HC1_2.out)
          (case side7 => exact q1z HR1_3 HB)
          (case side8 => exact HC1_3.out)
          (case side9 => exact q1z HR1_4 HB)
          (case side10 => exact HC1_4.out)
          rintro e w1 ⟨rfl, hb⟩; refine ⟨_, rfl, ?_⟩; replace BK1 := aM (yi (zi BK1) hb); replace BK2 := aM (yi (g := gb2) (o := .map om clk) (zi BK2) hb); replace BK3 := aM (yi (zi BK3) hb); replace BK4 := aM (yi (zi BK4) hb); replace HB := aM (ym (q23z HB GE1 GE2 GE3 GE4) hb); (try clear hb)
          (try clear hb2)
          (try clear hk)
          (try clear hi)
          refine hK.out _ _ ⟨zc BK4 0, zc BK4 1, zc BK3 0, zc BK3 1, zc BK3 2, zc BK3 3, zc BK3 4, zc BK3 5, zc BK3 6, zc BK1 0, zc BK1 1, zc BK1 2, zc BK1 3, zc BK1 4⟩ (fun hHeld => ?_); clear hK K; refine zno 58 ?_; refine zon 12 (some 63) (zb 21 131071) fun K hK => ?_
          refine zgo Try.func34 #[.agg #[.slice (some ad1) l0_0.length c0_0, .slice A0_1 l0_1.length c0_1, .slice A0_2 l0_2.length c0_2, .slice A0_3 l0_3.length c0_3, .slice A0_4 l0_4.length c0_4], .int .i64 ((rd_T41 l0_0 x1_1).f3), .int .i64 x1_1] ?_; with_reducible refine (net_width.calls _ _ l0_0 _ _ l0_1 _ _ l0_2 _ _ l0_3 _ _ l0_4 ((rd_T41 l0_0 x1_1).f3) x1_1 t4 _ ?side1 ?side2 ?side3 ?side4 ?side5 ?side6 ?side7 ?side8 ?side9 ?side10 A3.out).mono ?_
          (case side1 => exact q1z HR1_0 HB)
          (case side2 => exact HC1_0.out)
          (case side3 => exact q1z HR1_1 HB)
          (case side4 => exact HC1_1.out)
          (case side5 => exact q1z HR1_2 HB)
          (case side6 => exact HC1_2.out)
          (case side7 => exact q1z HR1_3 HB)
          (case side8 => exact HC1_3.out)
          (case side9 => exact q1z HR1_4 HB)
          (case side10 => exact HC1_4.out)
          rintro e w1 ⟨rfl, hb⟩; refine ⟨_, rfl, ?_⟩; replace BK1 := aM (yi (zi BK1) hb); replace BK2 := aM (yi (g := gb2) (o := .map om clk) (zi BK2) hb); replace BK3 := aM (yi (zi BK3) hb); replace BK4 := aM (yi (zi BK4) hb); replace HB := aM (ym (q23z HB GE1 GE2 GE3 GE4) hb); (try clear hb)
          (try clear hb2)
          (try clear hk)
          (try clear hi)
          refine hK.out _ _ ⟨zc BK4 0, zc BK4 1, zc BK3 0, zc BK3 1, zc BK3 2, zc BK3 3, zc BK3 4, zc BK3 5, zc BK3 6, zc BK1 0, zc BK1 1, zc BK1 2, zc BK1 3, zc BK1 4⟩ (fun hHeld => ?_); clear hK K; refine zno 63 ?_; refine zon 17 (some 68) (zb 21 262143) fun K hK => ?_
          refine zgo Try.func34 #[.agg #[.slice (some ad1) l0_0.length c0_0, .slice A0_1 l0_1.length c0_1, .slice A0_2 l0_2.length c0_2, .slice A0_3 l0_3.length c0_3, .slice A0_4 l0_4.length c0_4], .int .i64 ((rd_T41 l0_0 x1_1).f4), .int .i64 x1_1] ?_; with_reducible refine (net_width.calls _ _ l0_0 _ _ l0_1 _ _ l0_2 _ _ l0_3 _ _ l0_4 ((rd_T41 l0_0 x1_1).f4) x1_1 t5 _ ?side1 ?side2 ?side3 ?side4 ?side5 ?side6 ?side7 ?side8 ?side9 ?side10 A4.out).mono ?_
          (case side1 => exact q1z HR1_0 HB)
          (case side2 => exact HC1_0.out)
          (case side3 => exact q1z HR1_1 HB)
          (case side4 => exact HC1_1.out)
          (case side5 => exact q1z HR1_2 HB)
          (case side6 => exact HC1_2.out)
          (case side7 => exact q1z HR1_3 HB)
          (case side8 => exact HC1_3.out)
          (case side9 => exact q1z HR1_4 HB)
          (case side10 => exact HC1_4.out)
          rintro e w1 ⟨rfl, hb⟩; refine ⟨_, rfl, ?_⟩; replace BK1 := aM (yi (zi BK1) hb); replace BK2 := aM (yi (g := gb2) (o := .map om clk) (zi BK2) hb); replace BK3 := aM (yi (zi BK3) hb); replace BK4 := aM (yi (zi BK4) hb); replace HB := aM (ym (q23z HB GE1 GE2 GE3 GE4) hb); (try clear hb)
          (try clear hb2)
          (try clear hk)
          (try clear hi)
          refine hK.out _ _ ⟨zc BK4 0, zc BK4 1, zc BK3 0, zc BK3 1, zc BK3 2, zc BK3 3, zc BK3 4, zc BK3 5, zc BK3 6, zc BK1 0, zc BK1 1, zc BK1 2, zc BK1 3, zc BK1 4⟩ (fun hHeld => ?_); clear hK K; refine zno 68 ?_; refine zpu 18 69 (zb 21 524287) ?_; refine zon 19 (some 70) (zb 21 1048575) fun K hK => ?_
          obtain ⟨fn_, hfn_, hnm_, hbd_⟩ := net_fits.fn A5.out; refine net_fits.goes hfn_ hnm_ hbd_ #[.agg #[.int .i64 ((rd_T41 l0_0 x1_1).f0), .int .i64 ((rd_T41 l0_0 x1_1).f1), .int .i64 ((rd_T41 l0_0 x1_1).f2), .int .i64 ((rd_T41 l0_0 x1_1).f3), .int .i64 ((rd_T41 l0_0 x1_1).f4), .int .i64 ((rd_T41 l0_0 x1_1).f5), .int .i64 ((rd_T41 l0_0 x1_1).f6), .int .i64 t3, .int .i64 t4, .int .i64 t5]] (by rfl) rfl rfl (net_rules.fvOf_pos (net_fits.ne A5.out)) q88z ?_; with_reducible refine (gosem_cut.calls ((rd_T41 l0_0 x1_1).f0) ((rd_T41 l0_0 x1_1).f1) ((rd_T41 l0_0 x1_1).f2) ((rd_T41 l0_0 x1_1).f3) ((rd_T41 l0_0 x1_1).f4) ((rd_T41 l0_0 x1_1).f5) ((rd_T41 l0_0 x1_1).f6) t3 t4 t5 t2 true _ A5.out).mono ?_
          rintro e w1 ⟨rfl, hb⟩; refine ⟨_, rfl, ?_⟩; replace BK1 := aM (yi (zi BK1) hb); replace BK2 := aM (yi (g := gb2) (o := .map om clk) (zi BK2) hb); replace BK3 := aM (yi (zi BK3) hb); replace BK4 := aM (yi (zi BK4) hb); replace HB := aM (ym (q23z HB GE1 GE2 GE3 GE4) hb); (try clear hb)
          (try clear hb2)
          (try clear hk)
          (try clear hi)
          refine hK.out _ _ ⟨zc BK4 0, zc BK4 1, zc BK3 0, zc BK3 1, zc BK3 2, zc BK3 3, zc BK3 4, zc BK3 5, zc BK3 6, zc BK1 0, zc BK1 1, zc BK1 2, zc BK1 3, zc BK1 4⟩ (fun hHeld => ?_); clear hK K; refine zno 70 ?_; refine zpu 20 71 (zb 21 2097151) ?_; refine zdo ?_; try go_wp2
          go_roundg kj1
          case measure => have := HK1.out; have := HJ1.out; omega
          case rel => exact ⟨(wrap64 (x1_1 + 1)), q13z, H', ⟨q87z HK1 HJ1⟩, ⟨q10z BK1⟩, ⟨q10z BK2⟩, ⟨q23z HB GE1 GE2 GE3 GE4⟩⟩
         ·replace c7 := Bool.eq_false_iff.mpr c7; subst c7; have H1 : (some false) = some r := by rw [if_neg (show ¬ (false = true) by decide)] at H; exact H
          clear H; have H := H1; clear H1; obtain rfl := Option.some.inj H; try go_wp2
          replace BK1 := aM (yc BK1.out); replace BK2 := aM (yc BK2.out); replace BK3 := aM (yc BK3.out); replace BK4 := aM (yc BK4.out); replace HB := aM (yk HB.out); refine start_ (n := 21) (S := fun w' => w'.cell? ⟨gb4, 0, none⟩ = some (.int .i64 t1) ∧ w'.cell? ⟨gb4, 1, none⟩ = some ((net_rules.fvOf t2)) ∧ w'.cell? ⟨gb3, 0, none⟩ = some (.int .i64 ((rd_T41 l0_0 x1_1).f0)) ∧ w'.cell? ⟨gb3, 1, none⟩ = some (.int .i64 ((rd_T41 l0_0 x1_1).f1)) ∧ w'.cell? ⟨gb3, 2, none⟩ = some (.int .i64 ((rd_T41 l0_0 x1_1).f2)) ∧ w'.cell? ⟨gb3, 3, none⟩ = some (.int .i64 ((rd_T41 l0_0 x1_1).f3)) ∧ w'.cell? ⟨gb3, 4, none⟩ = some (.int .i64 ((rd_T41 l0_0 x1_1).f4)) ∧ w'.cell? ⟨gb3, 5, none⟩ = some (.int .i64 ((rd_T41 l0_0 x1_1).f5)) ∧ w'.cell? ⟨gb3, 6, none⟩ = some (.int .i64 ((rd_T41 l0_0 x1_1).f6)) ∧ w'.cell? ⟨gb1, 0, none⟩ = some (.slice (some ad1) l0_0.length c0_0) ∧ w'.cell? ⟨gb1, 1, none⟩ = some (.slice A0_1 l0_1.length c0_1) ∧ w'.cell? ⟨gb1, 2, none⟩ = some (.slice A0_2 l0_2.length c0_2) ∧ w'.cell? ⟨gb1, 3, none⟩ = some (.slice A0_3 l0_3.length c0_3) ∧ w'.cell? ⟨gb1, 4, none⟩ = some (.slice A0_4 l0_4.length c0_4)) (ds := []) (zb 21 0) (by kernel_rfl) rfl rfl ⟨zc BK4 0, zc BK4 1, zc BK3 0, zc BK3 1, zc BK3 2, zc BK3 3, zc BK3 4, zc BK3 5, zc BK3 6, zc BK1 0, zc BK1 1, zc BK1 2, zc BK1 3, zc BK1 4⟩ (fun hHeld => ?_); refine with_tabW net_nodes.tab9 net_nodes.bits9 (fun HT_ HW_ => ?_); generalize wc.drew = w1 at BK1 BK2 BK3 BK4 HB hHeld ⊢; refine zpu 0 51 (zb 21 1) ?_; refine zpu 4 55 (zb 21 17) ?_; refine zpu 6 57 (zb 21 81) ?_; refine zpu 9 60 (zb 21 593) ?_; refine zpu 11 62 (zb 21 2641) ?_; refine zpu 14 65 (zb 21 19025) ?_; refine zpu 16 67 (zb 21 84561) ?_; refine ztk14 1 52 (zb 21 84563) hHeld ?_; refine ztk14 2 53 (zb 21 84567) hHeld ?_; refine ztk14 3 54 (zb 21 84575) hHeld ?_; refine ztk14 5 56 (zb 21 84607) hHeld ?_; refine ztk14 8 59 (zb 21 84863) hHeld ?_; refine ztk14 10 61 (zb 21 85887) hHeld ?_; refine ztk14 13 64 (zb 21 94079) hHeld ?_; refine ztk14 15 66 (zb 21 126847) hHeld ?_; refine zon 7 (some 58) (zb 21 126975) fun K hK => ?_
          refine zgo Try.func34 #[.agg #[.slice (some ad1) l0_0.length c0_0, .slice A0_1 l0_1.length c0_1, .slice A0_2 l0_2.length c0_2, .slice A0_3 l0_3.length c0_3, .slice A0_4 l0_4.length c0_4], .int .i64 ((rd_T41 l0_0 x1_1).f2), .int .i64 x1_1] ?_; with_reducible refine (net_width.calls _ _ l0_0 _ _ l0_1 _ _ l0_2 _ _ l0_3 _ _ l0_4 ((rd_T41 l0_0 x1_1).f2) x1_1 t3 _ ?side1 ?side2 ?side3 ?side4 ?side5 ?side6 ?side7 ?side8 ?side9 ?side10 A2.out).mono ?_
          (case side1 => exact q1z HR1_0 HB)
          (case side2 => exact HC1_0.out)
          (case side3 => exact q1z HR1_1 HB)
          (case side4 => exact HC1_1.out)
          (case side5 => exact q1z HR1_2 HB)
          (case side6 => exact HC1_2.out)
          (case side7 => exact q1z HR1_3 HB)
          (case side8 => exact HC1_3.out)
          (case side9 => exact q1z HR1_4 HB)
          (case side10 => exact HC1_4.out)
          rintro e w1 ⟨rfl, hb⟩; refine ⟨_, rfl, ?_⟩; replace BK1 := aM (yi (zi BK1) hb); replace BK2 := aM (yi (g := gb2) (o := .map om clk) (zi BK2) hb); replace BK3 := aM (yi (zi BK3) hb); replace BK4 := aM (yi (zi BK4) hb); replace HB := aM (ym (q23z HB GE1 GE2 GE3 GE4) hb); (try clear hb)
          (try clear hb2)
          (try clear hk)
          (try clear hi)
          refine hK.out _ _ ⟨zc BK4 0, zc BK4 1, zc BK3 0, zc BK3 1, zc BK3 2, zc BK3 3, zc BK3 4, zc BK3 5, zc BK3 6, zc BK1 0, zc BK1 1, zc BK1 2, zc BK1 3, zc BK1 4⟩ (fun hHeld => ?_); clear hK K; refine zno 58 ?_; refine zon 12 (some 63) (zb 21 131071) fun K hK => ?_
          refine zgo Try.func34 #[.agg #[.slice (some ad1) l0_0.length c0_0, .slice A0_1 l0_1.length c0_1, .slice A0_2 l0_2.length c0_2, .slice A0_3 l0_3.length c0_3, .slice A0_4 l0_4.length c0_4], .int .i64 ((rd_T41 l0_0 x1_1).f3), .int .i64 x1_1] ?_; with_reducible refine (net_width.calls _ _ l0_0 _ _ l0_1 _ _ l0_2 _ _ l0_3 _ _ l0_4 ((rd_T41 l0_0 x1_1).f3) x1_1 t4 _ ?side1 ?side2 ?side3 ?side4 ?side5 ?side6 ?side7 ?side8 ?side9 ?side10 A3.out).mono ?_
          (case side1 => exact q1z HR1_0 HB)
          (case side2 => exact HC1_0.out)
          (case side3 => exact q1z HR1_1 HB)
          (case side4 => exact HC1_1.out)
          (case side5 => exact q1z HR1_2 HB)
          (case side6 => exact HC1_2.out)
          (case side7 => exact q1z HR1_3 HB)
          (case side8 => exact HC1_3.out)
          (case side9 => exact q1z HR1_4 HB)
          (case side10 => exact HC1_4.out)
          rintro e w1 ⟨rfl, hb⟩; refine ⟨_, rfl, ?_⟩; replace BK1 := aM (yi (zi BK1) hb); replace BK2 := aM (yi (g := gb2) (o := .map om clk) (zi BK2) hb); replace BK3 := aM (yi (zi BK3) hb); replace BK4 := aM (yi (zi BK4) hb); replace HB := aM (ym (q23z HB GE1 GE2 GE3 GE4) hb); (try clear hb)
          (try clear hb2)
          (try clear hk)
          (try clear hi)
          refine hK.out _ _ ⟨zc BK4 0, zc BK4 1, zc BK3 0, zc BK3 1, zc BK3 2, zc BK3 3, zc BK3 4, zc BK3 5, zc BK3 6, zc BK1 0, zc BK1 1, zc BK1 2, zc BK1 3, zc BK1 4⟩ (fun hHeld => ?_); clear hK K; refine zno 63 ?_; refine zon 17 (some 68) (zb 21 262143) fun K hK => ?_
          refine zgo Try.func34 #[.agg #[.slice (some ad1) l0_0.length c0_0, .slice A0_1 l0_1.length c0_1, .slice A0_2 l0_2.length c0_2, .slice A0_3 l0_3.length c0_3, .slice A0_4 l0_4.length c0_4], .int .i64 ((rd_T41 l0_0 x1_1).f4), .int .i64 x1_1] ?_; with_reducible refine (net_width.calls _ _ l0_0 _ _ l0_1 _ _ l0_2 _ _ l0_3 _ _ l0_4 ((rd_T41 l0_0 x1_1).f4) x1_1 t5 _ ?side1 ?side2 ?side3 ?side4 ?side5 ?side6 ?side7 ?side8 ?side9 ?side10 A4.out).mono ?_
          (case side1 => exact q1z HR1_0 HB)
          (case side2 => exact HC1_0.out)
          (case side3 => exact q1z HR1_1 HB)
          (case side4 => exact HC1_1.out)
          (case side5 => exact q1z HR1_2 HB)
          (case side6 => exact HC1_2.out)
          (case side7 => exact q1z HR1_3 HB)
          (case side8 => exact HC1_3.out)
          (case side9 => exact q1z HR1_4 HB)
          (case side10 => exact HC1_4.out)
          rintro e w1 ⟨rfl, hb⟩; refine ⟨_, rfl, ?_⟩; replace BK1 := aM (yi (zi BK1) hb); replace BK2 := aM (yi (g := gb2) (o := .map om clk) (zi BK2) hb); replace BK3 := aM (yi (zi BK3) hb); replace BK4 := aM (yi (zi BK4) hb); replace HB := aM (ym (q23z HB GE1 GE2 GE3 GE4) hb); (try clear hb)
          (try clear hb2)
          (try clear hk)
          (try clear hi)
          refine hK.out _ _ ⟨zc BK4 0, zc BK4 1, zc BK3 0, zc BK3 1, zc BK3 2, zc BK3 3, zc BK3 4, zc BK3 5, zc BK3 6, zc BK1 0, zc BK1 1, zc BK1 2, zc BK1 3, zc BK1 4⟩ (fun hHeld => ?_); clear hK K; refine zno 68 ?_; refine zpu 18 69 (zb 21 524287) ?_; refine zon 19 (some 70) (zb 21 1048575) fun K hK => ?_
          obtain ⟨fn_, hfn_, hnm_, hbd_⟩ := net_fits.fn A5.out; refine net_fits.goes hfn_ hnm_ hbd_ #[.agg #[.int .i64 ((rd_T41 l0_0 x1_1).f0), .int .i64 ((rd_T41 l0_0 x1_1).f1), .int .i64 ((rd_T41 l0_0 x1_1).f2), .int .i64 ((rd_T41 l0_0 x1_1).f3), .int .i64 ((rd_T41 l0_0 x1_1).f4), .int .i64 ((rd_T41 l0_0 x1_1).f5), .int .i64 ((rd_T41 l0_0 x1_1).f6), .int .i64 t3, .int .i64 t4, .int .i64 t5]] (by rfl) rfl rfl (net_rules.fvOf_pos (net_fits.ne A5.out)) q88z ?_; with_reducible refine (gosem_cut.calls ((rd_T41 l0_0 x1_1).f0) ((rd_T41 l0_0 x1_1).f1) ((rd_T41 l0_0 x1_1).f2) ((rd_T41 l0_0 x1_1).f3) ((rd_T41 l0_0 x1_1).f4) ((rd_T41 l0_0 x1_1).f5) ((rd_T41 l0_0 x1_1).f6) t3 t4 t5 t2 false _ A5.out).mono ?_
          rintro e w1 ⟨rfl, hb⟩; refine ⟨_, rfl, ?_⟩; replace BK1 := aM (yi (zi BK1) hb); replace BK2 := aM (yi (g := gb2) (o := .map om clk) (zi BK2) hb); replace BK3 := aM (yi (zi BK3) hb); replace BK4 := aM (yi (zi BK4) hb); replace HB := aM (ym (q23z HB GE1 GE2 GE3 GE4) hb); (try clear hb)
          (try clear hb2)
          (try clear hk)
          (try clear hi)
          refine hK.out _ _ ⟨zc BK4 0, zc BK4 1, zc BK3 0, zc BK3 1, zc BK3 2, zc BK3 3, zc BK3 4, zc BK3 5, zc BK3 6, zc BK1 0, zc BK1 1, zc BK1 2, zc BK1 3, zc BK1 4⟩ (fun hHeld => ?_); clear hK K; refine zno 70 ?_; refine zpu 20 71 (zb 21 2097151) ?_; refine zdo ?_; try go_wp2
          go_ret
          exact ⟨q11z, q23z HB GE1 GE2 GE3 GE4⟩
     ·rw [if_neg c6] at H; exact absurd H (by simp)
    ·rw [if_neg c5] at H; exact absurd H (by simp)
   ·rw [if_neg c1] at H; have c1b0 : decide (x1_1 < (l0_0.length : Int)) = false := decide_eq_false c1; clear c1; obtain rfl := Option.some.inj H; go_wp2
    go_ret
    exact ⟨q11z, q3z HB GE1 GE2⟩
end Go.Proofs.Yteblbknmikieoaa.Xb
