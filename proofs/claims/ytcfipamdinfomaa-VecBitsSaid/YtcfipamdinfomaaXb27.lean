/- Printed by this session's program xprint.py (over the kit's print): the Go functions named below come to the Lean functions of the same names, whatever the world. -/
import Derived.Test.YtcfipamdinfomaaXb0
import Derived.Test.YtcfipamdinfomaaXbL
import Derived.Test.YtcfipamdinfomaaXb23
import Derived.Test.YtcfipamdinfomaaXb24
import Derived.Test.YtcfipamdinfomaaXb25
import Derived.Test.YtcfipamdinfomaaXb26
namespace Go.Proofs.Ytcfipamdinfomaa.Xb
open Go.RowKit Go.Proofs.YtcfipamdinfomaaW.PrintWords Go.Proofs.YtcfipamdinfomaaW.PrintLast Go.Proofs.YtcfipamdinfomaaW.PrintMore
attribute [local go_sem] max2_int min2_int max_two min_two max_three min_three max_four min_four   -- for this text's walks alone
set_option linter.unusedVariables false
set_option linter.unusedSimpArgs false

/-! ### proofmarklaw08_head: function 10 -/
def proofmarklaw08_head.f (k : Nat)  : Option (Bool) := (vec_Do.f 10 4 0 0 0 0 0 2 3 0 0).bind fun t117 => (if t117 = 15 then ((vec_Do.f 17 7 0 0 0 0 0 5 3 0 4).bind fun t118 => (if t118 = 83 then ((vec_Do.f 18 2 0 0 0 2 1 13 0 0 0).bind fun t119 => (if t119 = 2 then ((vec_Do.f 5 1 0 0 0 0 3 7 0 0 0).bind fun t120 => (if t120 = 1 then ((vec_Do.f 16 5 0 0 0 0 0 1 9 8 0).bind fun t121 => (if t121 = 9 then ((vec_Mask.f 4).bind fun t122 => (if t122 = 15 then ((vec_Mask.f 0).bind fun t123 => (if t123 = 0 then ((vec_Bits.f k 6 4).bind fun t124 => ((proofmarkref08_Same.f k t124 (([false, true, true, false] : List Bool))).bind fun t130 => (if t130 = true then ((vec_Num.f k (([false, true, true, false] : List Bool))).bind fun t134 => (some (t134 == 6))) else (none)))) else (none))) else (none))) else (none))) else (none))) else (none))) else (none))) else (none))
theorem proofmarklaw08_head.mono : ∀ k, LeO (proofmarklaw08_head.f k ) (proofmarklaw08_head.f (k + 1) ) := by
 intro  k
 unfold proofmarklaw08_head.f
 repeat' first
   | (with_reducible exact proofmarkref08_Same.mono _ _ _)
   | (with_reducible exact vec_Bits.mono _ _ _)
   | (with_reducible exact vec_Num.mono _ _)
   | (with_reducible exact LeO.refl _)
   | (with_reducible exact LeO.none _)
   | (with_reducible refine LeO.ite ?_ ?_)
   | (with_reducible refine LeO.bind ?_ (fun _ => ?_))
   | exact proofmarkref08_Same.mono _ _ _
   | exact vec_Bits.mono _ _ _
   | exact vec_Num.mono _ _
   | exact LeO.none _
   | refine LeO.ite ?_ ?_
   | refine LeO.bind ?_ (fun _ => ?_)
set_option maxHeartbeats 8000000 in
set_option maxRecDepth 100000 in
theorem proofmarklaw08_head.calls (k : Nat)  (r : Bool) (w : World) (h : proofmarklaw08_head.f k  = some r) :
  Calls Try.prog 10 #[] w fun e w' => e = .returned (.bool r) ∧ Below w.heap.size w w' := by
 have hu28 := Try.underlying28
 have HB := Aside0.mk (Below.refl w.heap.size w)
 have H : ((vec_Do.f 10 4 0 0 0 0 0 2 3 0 0).bind fun t117 => (if t117 = 15 then ((vec_Do.f 17 7 0 0 0 0 0 5 3 0 4).bind fun t118 => (if t118 = 83 then ((vec_Do.f 18 2 0 0 0 2 1 13 0 0 0).bind fun t119 => (if t119 = 2 then ((vec_Do.f 5 1 0 0 0 0 3 7 0 0 0).bind fun t120 => (if t120 = 1 then ((vec_Do.f 16 5 0 0 0 0 0 1 9 8 0).bind fun t121 => (if t121 = 9 then ((vec_Mask.f 4).bind fun t122 => (if t122 = 15 then ((vec_Mask.f 0).bind fun t123 => (if t123 = 0 then ((vec_Bits.f k 6 4).bind fun t124 => ((proofmarkref08_Same.f k t124 (([false, true, true, false] : List Bool))).bind fun t130 => (if t130 = true then ((vec_Num.f k (([false, true, true, false] : List Bool))).bind fun t134 => (some (t134 == 6))) else (none)))) else (none))) else (none))) else (none))) else (none))) else (none))) else (none))) else (none))) = some r := h
 clear h
 replace H := Option.bind_eq_some_iff.mp H
 obtain ⟨t117, A10, H⟩ := H
 replace H : (if t117 = 15 then ((vec_Do.f 17 7 0 0 0 0 0 5 3 0 4).bind fun t118 => (if t118 = 83 then ((vec_Do.f 18 2 0 0 0 2 1 13 0 0 0).bind fun t119 => (if t119 = 2 then ((vec_Do.f 5 1 0 0 0 0 3 7 0 0 0).bind fun t120 => (if t120 = 1 then ((vec_Do.f 16 5 0 0 0 0 0 1 9 8 0).bind fun t121 => (if t121 = 9 then ((vec_Mask.f 4).bind fun t122 => (if t122 = 15 then ((vec_Mask.f 0).bind fun t123 => (if t123 = 0 then ((vec_Bits.f k 6 4).bind fun t124 => ((proofmarkref08_Same.f k t124 (([false, true, true, false] : List Bool))).bind fun t130 => (if t130 = true then ((vec_Num.f k (([false, true, true, false] : List Bool))).bind fun t134 => (some (t134 == 6))) else (none)))) else (none))) else (none))) else (none))) else (none))) else (none))) else (none))) else (none)) = some r := H
 have A1 := Aside0.mk A10
 clear A10
 by_cases c2 : t117 = 15
 ·rw [if_pos c2] at H
  have c2b0 : (t117 == 15) = true := beq_iff_eq.mpr c2
  have c2b1 : (t117 != 15) = false := bne_eq_false_iff_eq.mpr c2
  clear c2
  replace H := Option.bind_eq_some_iff.mp H
  obtain ⟨t118, A30, H⟩ := H
  replace H : (if t118 = 83 then ((vec_Do.f 18 2 0 0 0 2 1 13 0 0 0).bind fun t119 => (if t119 = 2 then ((vec_Do.f 5 1 0 0 0 0 3 7 0 0 0).bind fun t120 => (if t120 = 1 then ((vec_Do.f 16 5 0 0 0 0 0 1 9 8 0).bind fun t121 => (if t121 = 9 then ((vec_Mask.f 4).bind fun t122 => (if t122 = 15 then ((vec_Mask.f 0).bind fun t123 => (if t123 = 0 then ((vec_Bits.f k 6 4).bind fun t124 => ((proofmarkref08_Same.f k t124 (([false, true, true, false] : List Bool))).bind fun t130 => (if t130 = true then ((vec_Num.f k (([false, true, true, false] : List Bool))).bind fun t134 => (some (t134 == 6))) else (none)))) else (none))) else (none))) else (none))) else (none))) else (none))) else (none)) = some r := H
  have A3 := Aside0.mk A30
  clear A30
  by_cases c4 : t118 = 83
  ·rw [if_pos c4] at H
   have c4b0 : (t118 == 83) = true := beq_iff_eq.mpr c4
   have c4b1 : (t118 != 83) = false := bne_eq_false_iff_eq.mpr c4
   clear c4
   replace H := Option.bind_eq_some_iff.mp H
   obtain ⟨t119, A50, H⟩ := H
   replace H : (if t119 = 2 then ((vec_Do.f 5 1 0 0 0 0 3 7 0 0 0).bind fun t120 => (if t120 = 1 then ((vec_Do.f 16 5 0 0 0 0 0 1 9 8 0).bind fun t121 => (if t121 = 9 then ((vec_Mask.f 4).bind fun t122 => (if t122 = 15 then ((vec_Mask.f 0).bind fun t123 => (if t123 = 0 then ((vec_Bits.f k 6 4).bind fun t124 => ((proofmarkref08_Same.f k t124 (([false, true, true, false] : List Bool))).bind fun t130 => (if t130 = true then ((vec_Num.f k (([false, true, true, false] : List Bool))).bind fun t134 => (some (t134 == 6))) else (none)))) else (none))) else (none))) else (none))) else (none))) else (none)) = some r := H
   have A5 := Aside0.mk A50
   clear A50
   by_cases c6 : t119 = 2
   ·rw [if_pos c6] at H
    have c6b0 : (t119 == 2) = true := beq_iff_eq.mpr c6
    have c6b1 : (t119 != 2) = false := bne_eq_false_iff_eq.mpr c6
    clear c6
    replace H := Option.bind_eq_some_iff.mp H
    obtain ⟨t120, A70, H⟩ := H
    replace H : (if t120 = 1 then ((vec_Do.f 16 5 0 0 0 0 0 1 9 8 0).bind fun t121 => (if t121 = 9 then ((vec_Mask.f 4).bind fun t122 => (if t122 = 15 then ((vec_Mask.f 0).bind fun t123 => (if t123 = 0 then ((vec_Bits.f k 6 4).bind fun t124 => ((proofmarkref08_Same.f k t124 (([false, true, true, false] : List Bool))).bind fun t130 => (if t130 = true then ((vec_Num.f k (([false, true, true, false] : List Bool))).bind fun t134 => (some (t134 == 6))) else (none)))) else (none))) else (none))) else (none))) else (none)) = some r := H
    have A7 := Aside0.mk A70
    clear A70
    by_cases c8 : t120 = 1
    ·rw [if_pos c8] at H
     have c8b0 : (t120 == 1) = true := beq_iff_eq.mpr c8
     have c8b1 : (t120 != 1) = false := bne_eq_false_iff_eq.mpr c8
     clear c8
     replace H := Option.bind_eq_some_iff.mp H
     obtain ⟨t121, A90, H⟩ := H
     replace H : (if t121 = 9 then ((vec_Mask.f 4).bind fun t122 => (if t122 = 15 then ((vec_Mask.f 0).bind fun t123 => (if t123 = 0 then ((vec_Bits.f k 6 4).bind fun t124 => ((proofmarkref08_Same.f k t124 (([false, true, true, false] : List Bool))).bind fun t130 => (if t130 = true then ((vec_Num.f k (([false, true, true, false] : List Bool))).bind fun t134 => (some (t134 == 6))) else (none)))) else (none))) else (none))) else (none)) = some r := H
     have A9 := Aside0.mk A90
     clear A90
     by_cases c10 : t121 = 9
     ·rw [if_pos c10] at H
      have c10b0 : (t121 == 9) = true := beq_iff_eq.mpr c10
      have c10b1 : (t121 != 9) = false := bne_eq_false_iff_eq.mpr c10
      clear c10
      replace H := Option.bind_eq_some_iff.mp H
      obtain ⟨t122, A110, H⟩ := H
      replace H : (if t122 = 15 then ((vec_Mask.f 0).bind fun t123 => (if t123 = 0 then ((vec_Bits.f k 6 4).bind fun t124 => ((proofmarkref08_Same.f k t124 (([false, true, true, false] : List Bool))).bind fun t130 => (if t130 = true then ((vec_Num.f k (([false, true, true, false] : List Bool))).bind fun t134 => (some (t134 == 6))) else (none)))) else (none))) else (none)) = some r := H
      have A11 := Aside0.mk A110
      clear A110
      by_cases c12 : t122 = 15
      ·rw [if_pos c12] at H
       have c12b0 : (t122 == 15) = true := beq_iff_eq.mpr c12
       have c12b1 : (t122 != 15) = false := bne_eq_false_iff_eq.mpr c12
       clear c12
       replace H := Option.bind_eq_some_iff.mp H
       obtain ⟨t123, A130, H⟩ := H
       replace H : (if t123 = 0 then ((vec_Bits.f k 6 4).bind fun t124 => ((proofmarkref08_Same.f k t124 (([false, true, true, false] : List Bool))).bind fun t130 => (if t130 = true then ((vec_Num.f k (([false, true, true, false] : List Bool))).bind fun t134 => (some (t134 == 6))) else (none)))) else (none)) = some r := H
       have A13 := Aside0.mk A130
       clear A130
       by_cases c14 : t123 = 0
       ·rw [if_pos c14] at H
        have c14b0 : (t123 == 0) = true := beq_iff_eq.mpr c14
        have c14b1 : (t123 != 0) = false := bne_eq_false_iff_eq.mpr c14
        clear c14
        replace H := Option.bind_eq_some_iff.mp H
        obtain ⟨t124, A150, H⟩ := H
        replace H : ((proofmarkref08_Same.f k t124 (([false, true, true, false] : List Bool))).bind fun t130 => (if t130 = true then ((vec_Num.f k (([false, true, true, false] : List Bool))).bind fun t134 => (some (t134 == 6))) else (none))) = some r := H
        have A15 := Aside0.mk A150
        clear A150
        obtain ⟨y127, hy127⟩ : ∃ y_ : List Bool, y_ = (([false, true, true, false] : List Bool)) := ⟨_, rfl⟩
        replace H : ((proofmarkref08_Same.f k t124 y127).bind fun t130 => (if t130 = true then ((vec_Num.f k (([false, true, true, false] : List Bool))).bind fun t134 => (some (t134 == 6))) else (none))) = some r := by first | (rw [hy127]; with_reducible exact H) | (have H2_ := (Option.bind_some _ _).symm.trans H; rw [hy127]; with_reducible exact H2_) | (have H2_ := (Option.bind_some _ _).symm.trans H; with_reducible exact H2_) | with_reducible exact H | (rw [hy127]; exact H) | exact H
        have Ny127 := Aside0.mk hy127
        clear hy127
        replace H := Option.bind_eq_some_iff.mp H
        obtain ⟨t130, A160, H⟩ := H
        replace H : (if t130 = true then ((vec_Num.f k (([false, true, true, false] : List Bool))).bind fun t134 => (some (t134 == 6))) else (none)) = some r := H
        have A16 := Aside0.mk A160
        clear A160
        by_cases c17 : t130 = true
        ·subst c17
         have H1 : ((vec_Num.f k (([false, true, true, false] : List Bool))).bind fun t134 => (some (t134 == 6))) = some r := by rw [if_pos rfl] at H; exact H
         clear H
         have H := H1
         clear H1
         obtain ⟨y131, hy131⟩ : ∃ y_ : List Bool, y_ = (([false, true, true, false] : List Bool)) := ⟨_, rfl⟩
         replace H : ((vec_Num.f k y131).bind fun t134 => (some (t134 == 6))) = some r := by first | (rw [hy131]; with_reducible exact H) | (have H2_ := (Option.bind_some _ _).symm.trans H; rw [hy131]; with_reducible exact H2_) | (have H2_ := (Option.bind_some _ _).symm.trans H; with_reducible exact H2_) | with_reducible exact H | (rw [hy131]; exact H) | exact H
         have Ny131 := Aside0.mk hy131
         clear hy131
         replace H := Option.bind_eq_some_iff.mp H
         obtain ⟨t134, A180, H⟩ := H
         replace H : (some (t134 == 6)) = some r := H
         have A18 := Aside0.mk A180
         clear A180
         obtain rfl := Option.some.inj H
         go_enter Try.func10, Try.ntmps10
         go_wp2_with (first | ((with_reducible refine gate_callee (f := 12) rfl ?_); refine goesL_ (some 2) rfl rfl Try.func12 (by kernel_rfl) rfl #[.agg #[.int .i64 10, .int .i64 4, .int .i64 0, .int .i64 0, .int .i64 0, .int .i64 0, .int .i64 0], .int .i64 2, .int .i64 3, .int .i64 0, .int .i64 0] rfl (by (try simp only [List.map_toArray, List.map_cons, List.map_nil]); first | done | rfl | (simp only [List.length_drop, List.length_take]; rfl)) ?_; (with_reducible refine (vec_Do.calls 10 4 0 0 0 0 0 2 3 0 0 t117 _ A1.out).mono ?_); rintro e w19 ⟨rfl, hb⟩; refine ⟨_, rfl, ?_⟩; have n0_ := Aside0.mk (below_step (by repeat (first | (with_reducible first | exact HB.out | apply below_alloc | apply pw_below_drewN | apply below_drew1) | exact HB.out)) hb); clear HB; have HB := n0_; clear n0_; (try clear hb); (try clear hb2); (try clear hk); (try clear hi)) | (go_at_call 12; (with_reducible refine (vec_Do.calls 17 7 0 0 0 0 0 5 3 0 4 t118 _ A3.out).mono ?_); rintro e w20 ⟨rfl, hb⟩; have n0_ := Aside0.mk (below_step (by repeat (first | (with_reducible first | exact HB.out | apply below_alloc | apply pw_below_drewN | apply below_drew1) | exact HB.out)) hb); clear HB; have HB := n0_; clear n0_; (try clear hb); (try clear hb2); (try clear hk); (try clear hi)) | (go_at_call 12; (with_reducible refine (vec_Do.calls 18 2 0 0 0 2 1 13 0 0 0 t119 _ A5.out).mono ?_); rintro e w21 ⟨rfl, hb⟩; have n0_ := Aside0.mk (below_step (by repeat (first | (with_reducible first | exact HB.out | apply below_alloc | apply pw_below_drewN | apply below_drew1) | exact HB.out)) hb); clear HB; have HB := n0_; clear n0_; (try clear hb); (try clear hb2); (try clear hk); (try clear hi)) | (go_at_call 12; (with_reducible refine (vec_Do.calls 5 1 0 0 0 0 3 7 0 0 0 t120 _ A7.out).mono ?_); rintro e w22 ⟨rfl, hb⟩; have n0_ := Aside0.mk (below_step (by repeat (first | (with_reducible first | exact HB.out | apply below_alloc | apply pw_below_drewN | apply below_drew1) | exact HB.out)) hb); clear HB; have HB := n0_; clear n0_; (try clear hb); (try clear hb2); (try clear hk); (try clear hi)) | (go_at_call 12; (with_reducible refine (vec_Do.calls 16 5 0 0 0 0 0 1 9 8 0 t121 _ A9.out).mono ?_); rintro e w23 ⟨rfl, hb⟩; have n0_ := Aside0.mk (below_step (by repeat (first | (with_reducible first | exact HB.out | apply below_alloc | apply pw_below_drewN | apply below_drew1) | exact HB.out)) hb); clear HB; have HB := n0_; clear n0_; (try clear hb); (try clear hb2); (try clear hk); (try clear hi)) | (go_at_call 14; (with_reducible refine (vec_Mask.calls 4 t122 _ A11.out).mono ?_); rintro e w' ⟨rfl, ⟨nd, rfl⟩⟩) | (go_at_call 14; (with_reducible refine (vec_Mask.calls 0 t123 _ A13.out).mono ?_); rintro e w' ⟨rfl, ⟨nd, rfl⟩⟩) | (go_at_call 17; (with_reducible refine (vec_Bits.calls k 6 4 t124 _ A15.out).mono ?_); rintro e w24 ⟨v125, rfl, ho0, hb⟩; have n0_ := Aside0.mk (Kd.R_lower ho0 (below_size (by repeat (first | (with_reducible first | exact HB.out | apply below_alloc | apply pw_below_drewN | apply below_drew1) | exact HB.out)))); have n1_ := Aside0.mk (below_step (by repeat (first | (with_reducible first | exact HB.out | apply below_alloc | apply pw_below_drewN | apply below_drew1) | exact HB.out)) hb); clear HB; have HO126 := n0_; have HB := n1_; clear n0_ n1_; (try clear hb); (try clear hb2); (try clear hk); (try clear hi); (try clear ho0)) | ((with_reducible refine gate_dst (N := 34) rfl ?_); (try (refine gate_guard (by rfl) ?_; dsimp only)); refine Kd.R_lit Kd.bool _ 4 ?hg (N := 34) ?hd (xs := ([false, true, true, false] : List Bool)) (inner := [.bool false, .bool true, .bool true, .bool false]) (ok := fun _ => True) (okp := fun _ => True) ?hr ?hp (fun _ hk => hk) trivial (Below.refl _ _) (Nat.le_refl _) (by simp) ?_; (case hd => rfl); (case hg => rfl); (case hr => first | (go_simp; done) | (go_simp; rfl)); (case hp => exact (Reps.one (show Kd.M Kd.bool _ _ _ false [.bool false] from rfl) (Reps.one (show Kd.M Kd.bool _ _ _ true [.bool true] from rfl) (Reps.one (show Kd.M Kd.bool _ _ _ true [.bool true] from rfl) (Reps.one (show Kd.M Kd.bool _ _ _ false [.bool false] from rfl) (Reps.none _ _)))))); intro v128 w25 ho26 hb hg_ hnew_; clear hg_ hnew_; (first | rw [← Ny127.out] at ho26 | (simp only [Int.reduceToNat] at ho26; rw [← Ny127.out] at ho26)); have n0_ := Aside0.mk (Kd.R_elder' (by (with_reducible repeat (first | apply Kd.R_alloc | apply Kd.R_drewN | apply Kd.R_drew)); exact HO126.out) (Kd.R_base ho26) hb); have n1_ := Aside0.mk (Kd.R_lower (Kd.R_new' ho26 (Kd.R_lt (by (with_reducible repeat (first | apply Kd.R_alloc | apply Kd.R_drewN | apply Kd.R_drew)); exact HO126.out))) (below_size (by repeat (first | (with_reducible first | exact HB.out | apply below_alloc | apply pw_below_drewN | apply below_drew1) | exact HB.out)))); have n2_ := Aside0.mk (below_step (by repeat (first | (with_reducible first | exact HB.out | apply below_alloc | apply pw_below_drewN | apply below_drew1) | exact HB.out)) hb); clear HO126; clear HB; have HO126 := n0_; have HO129 := n1_; have HB := n2_; clear n0_ n1_ n2_; clear hb ho26; obtain ⟨Ao27, co27, eo27⟩ := Kd.R_slice HO126.out; subst eo27; obtain ⟨Ao28, co28, eo28⟩ := Kd.R_slice HO129.out; subst eo28) | (go_at_call 16; (with_reducible refine (proofmarkref08_Same.calls k _ _ t124 _ _ y127 true _ ?side1 ?side2 ?side3 ?side4 A16.out).mono ?_); (case side1 => repeat (first | exact (Kd.R_reads' HO126.out).2.2 | (with_reducible refine Kd.C_alloc ?_ _) | (with_reducible refine Kd.C_drewN ?_ _) | (with_reducible refine Kd.C_drew ?_))); (case side2 => exact (Kd.R_reads' HO126.out).2.1); (case side3 => repeat (first | exact (Kd.R_reads' HO129.out).2.2 | (with_reducible refine Kd.C_alloc ?_ _) | (with_reducible refine Kd.C_drewN ?_ _) | (with_reducible refine Kd.C_drew ?_))); (case side4 => exact (Kd.R_reads' HO129.out).2.1); rintro e w' ⟨rfl, ⟨nd, rfl⟩⟩) | ((with_reducible refine gate_dst (N := 38) rfl ?_); (try (refine gate_guard (by rfl) ?_; dsimp only)); refine Kd.R_lit Kd.bool _ 4 ?hg (N := 38) ?hd (xs := ([false, true, true, false] : List Bool)) (inner := [.bool false, .bool true, .bool true, .bool false]) (ok := fun _ => True) (okp := fun _ => True) ?hr ?hp (fun _ hk => hk) trivial (Below.refl _ _) (Nat.le_refl _) (by simp) ?_; (case hd => rfl); (case hg => rfl); (case hr => first | (go_simp; done) | (go_simp; rfl)); (case hp => exact (Reps.one (show Kd.M Kd.bool _ _ _ false [.bool false] from rfl) (Reps.one (show Kd.M Kd.bool _ _ _ true [.bool true] from rfl) (Reps.one (show Kd.M Kd.bool _ _ _ true [.bool true] from rfl) (Reps.one (show Kd.M Kd.bool _ _ _ false [.bool false] from rfl) (Reps.none _ _)))))); intro v132 w29 ho30 hb hg_ hnew_; clear hg_ hnew_; (first | rw [← Ny131.out] at ho30 | (simp only [Int.reduceToNat] at ho30; rw [← Ny131.out] at ho30)); have n0_ := Aside0.mk (Kd.R_elder' (by (with_reducible repeat (first | apply Kd.R_alloc | apply Kd.R_drewN | apply Kd.R_drew)); exact HO126.out) (Kd.R_base ho30) hb); have n1_ := Aside0.mk (Kd.R_elder' (by (with_reducible repeat (first | apply Kd.R_alloc | apply Kd.R_drewN | apply Kd.R_drew)); exact HO129.out) (Kd.R_base ho30) hb); have n2_ := Aside0.mk (Kd.R_lower (Kd.R_new' (Kd.R_new' ho30 (Kd.R_lt (by (with_reducible repeat (first | apply Kd.R_alloc | apply Kd.R_drewN | apply Kd.R_drew)); exact HO126.out))) (Kd.R_lt (by (with_reducible repeat (first | apply Kd.R_alloc | apply Kd.R_drewN | apply Kd.R_drew)); exact HO129.out))) (below_size (by repeat (first | (with_reducible first | exact HB.out | apply below_alloc | apply pw_below_drewN | apply below_drew1) | exact HB.out)))); have n3_ := Aside0.mk (below_step (by repeat (first | (with_reducible first | exact HB.out | apply below_alloc | apply pw_below_drewN | apply below_drew1) | exact HB.out)) hb); clear HO126; clear HO129; clear HB; have HO126 := n0_; have HO129 := n1_; have HO133 := n2_; have HB := n3_; clear n0_ n1_ n2_ n3_; clear hb ho30; obtain ⟨Ao31, co31, eo31⟩ := Kd.R_slice HO133.out; subst eo31) | (go_at_call 19; (with_reducible refine (vec_Num.calls k _ _ y131 t134 _ ?side1 ?side2 A18.out).mono ?_); (case side1 => repeat (first | exact (Kd.R_reads' HO133.out).2.2 | (with_reducible refine Kd.C_alloc ?_ _) | (with_reducible refine Kd.C_drewN ?_ _) | (with_reducible refine Kd.C_drew ?_))); (case side2 => exact (Kd.R_reads' HO133.out).2.1); rintro e w' ⟨rfl, ⟨nd, rfl⟩⟩))
         go_ret
         exact ⟨by first | rfl | (simp [errW_none, errW_some] <;> rfl) | (simp [*, errW_none, errW_some] <;> rfl), by repeat (first | (with_reducible first | exact HB.out | apply below_alloc | apply pw_below_drewN | apply below_drew1) | exact HB.out)⟩
        ·replace c17 := Bool.eq_false_iff.mpr c17
         subst c17
         have H1 : (none) = some r := by rw [if_neg (show ¬ (false = true) by decide)] at H; exact H
         clear H
         have H := H1
         clear H1
         exact absurd H (by simp)
       ·rw [if_neg c14] at H
        exact absurd H (by simp)
      ·rw [if_neg c12] at H
       exact absurd H (by simp)
     ·rw [if_neg c10] at H
      exact absurd H (by simp)
    ·rw [if_neg c8] at H
     exact absurd H (by simp)
   ·rw [if_neg c6] at H
    exact absurd H (by simp)
  ·rw [if_neg c4] at H
   exact absurd H (by simp)
 ·rw [if_neg c2] at H
  exact absurd H (by simp)

end Go.Proofs.Ytcfipamdinfomaa.Xb
