/- Printed by this session's program xprint.py (over the kit's print): the Go functions named below come to the Lean functions of the same names, whatever the world. -/
import Derived.Test.YtcfipamdinfomaaXb0
import Derived.Test.YtcfipamdinfomaaXb23
import Derived.Test.YtcfipamdinfomaaXb24
import Derived.Test.YtcfipamdinfomaaXb25
import Derived.Test.YtcfipamdinfomaaXb26
import Derived.Test.YtcfipamdinfomaaXb27
import Derived.Test.YtcfipamdinfomaaXb28
namespace Go.Proofs.Ytcfipamdinfomaa.Xb
open Go.RowKit Go.Proofs.YtcfipamdinfomaaW.PrintWords Go.Proofs.YtcfipamdinfomaaW.PrintLast Go.Proofs.YtcfipamdinfomaaW.PrintMore
attribute [local go_sem] max2_int min2_int max_two min_two max_three min_three max_four min_four   -- for this text's walks alone
set_option linter.unusedVariables false
set_option linter.unusedSimpArgs false

/-! ### proofmarklaw08_VecBits: function 7 -/
mutual
def proofmarklaw08_VecBits.j0 : Nat → List Bool → Bool → Int → Int → Int → List Bool → List Bool → Bool → Option (Bool)
 | 0, _, _, _, _, _, _, _, _ => none
 | k + 1, x3, x9, x10, x11, x12, x13, x14, x71 => if x71 = true then (if x9 = true then (some (decide ((x3.length : Int) > 32))) else (none)) else ((vec_Do.f 6 x10 0 0 0 0 0 x11 x12 0 x10).bind fun t241 => ((vec_Bits.f k t241 x10).bind fun t242 => ((vec_Do.f 7 x10 0 0 0 0 0 x11 x12 0 x10).bind fun t245 => ((vec_Bits.f k t245 x10).bind fun t246 => ((vec_Do.f 8 x10 0 0 0 0 0 x11 x12 0 x10).bind fun t249 => ((vec_Bits.f k t249 x10).bind fun t250 => ((vec_Do.f 3 x10 0 0 0 0 0 x11 0 0 x10).bind fun t253 => ((vec_Bits.f k t253 x10).bind fun t254 => (if (t242.length : Int) = x10 then (if (t246.length : Int) = x10 then (if (t250.length : Int) = x10 then (proofmarklaw08_VecBits.j1 k x9 x10 x13 x14 t242 t246 t250 t254 ((t254.length : Int) != x10)) else (proofmarklaw08_VecBits.j1 k x9 x10 x13 x14 t242 t246 t250 t254 true)) else (proofmarklaw08_VecBits.j1 k x9 x10 x13 x14 t242 t246 t250 t254 true)) else (proofmarklaw08_VecBits.j1 k x9 x10 x13 x14 t242 t246 t250 t254 true))))))))))
def proofmarklaw08_VecBits.j1 : Nat → Bool → Int → List Bool → List Bool → List Bool → List Bool → List Bool → List Bool → Bool → Option (Bool)
 | 0, _, _, _, _, _, _, _, _, _ => none
 | k + 1, x9, x10, x13, x14, x15, x16, x17, x18, x130 => if x130 = true then (none) else (proofmarklaw08_VecBits.l0 k x9 x10 x13 x14 x15 x16 x17 x18 0)
def proofmarklaw08_VecBits.l0 : Nat → Bool → Int → List Bool → List Bool → List Bool → List Bool → List Bool → List Bool → Int → Option (Bool)
 | 0, _, _, _, _, _, _, _, _, _ => none
 | k + 1, x9, x10, x13, x14, x15, x16, x17, x18, x19 => if x19 < x10 then (if 0 ≤ x19 then (if x19 < (x15.length : Int) then (if x19 < (x13.length : Int) then (if rdOf false x13 x19 = true then (if x19 < (x14.length : Int) then (if ((rdOf false x15 x19) != (rdOf false x14 x19)) = true then (none) else (if x19 < (x16.length : Int) then (if ((rdOf false x16 x19) != true) = true then (none) else (if x19 < (x17.length : Int) then (if ((rdOf false x17 x19) != ((rdOf false x13 x19) != (rdOf false x14 x19))) = true then (none) else (if x19 < (x18.length : Int) then (if ((rdOf false x18 x19) == (rdOf false x13 x19)) = true then (none) else (proofmarklaw08_VecBits.l0 k x9 x10 x13 x14 x15 x16 x17 x18 (wrap64 (x19 + 1)))) else (none))) else (none))) else (none))) else (none)) else (if ((rdOf false x15 x19) != false) = true then (none) else (if x19 < (x16.length : Int) then (if x19 < (x14.length : Int) then (if ((rdOf false x16 x19) != (rdOf false x14 x19)) = true then (none) else (if x19 < (x17.length : Int) then (if ((rdOf false x17 x19) != ((rdOf false x13 x19) != (rdOf false x14 x19))) = true then (none) else (if x19 < (x18.length : Int) then (if ((rdOf false x18 x19) == (rdOf false x13 x19)) = true then (none) else (proofmarklaw08_VecBits.l0 k x9 x10 x13 x14 x15 x16 x17 x18 (wrap64 (x19 + 1)))) else (none))) else (none))) else (none)) else (none)))) else (none)) else (none)) else (none)) else (some x9)
end
def proofmarklaw08_VecBits.f (k : Nat) (a0 : Int) (a1 : Int) (a2 : Int) (l3 : List Bool) : Option (Bool) := (proofmarklaw08_head.f k).bind fun t227 => ((proofmarkref08_Mask.f (wrap64 ((Int.tmod (wrap64 (a2)) 16) + 1))).bind fun t228 => ((proofmarkref08_Mask.f (wrap64 ((Int.tmod (wrap64 (a2)) 16) + 1))).bind fun t228 => ((vec_Bits.f k (Go.bits .and .i64 (wrap64 (a0)) t228) (wrap64 ((Int.tmod (wrap64 (a2)) 16) + 1))).bind fun t229 => ((vec_Bits.f k (Go.bits .and .i64 (wrap64 (a1)) t228) (wrap64 ((Int.tmod (wrap64 (a2)) 16) + 1))).bind fun t232 => (if (t229.length : Int) = (wrap64 ((Int.tmod (wrap64 (a2)) 16) + 1)) then (if (t232.length : Int) = (wrap64 ((Int.tmod (wrap64 (a2)) 16) + 1)) then ((vec_Num.f k t229).bind fun t235 => (if t235 = (Go.bits .and .i64 (wrap64 (a0)) t228) then (if (l3.length : Int) > 32 then (proofmarklaw08_VecBits.j0 k l3 t227 (wrap64 ((Int.tmod (wrap64 (a2)) 16) + 1)) (Go.bits .and .i64 (wrap64 (a0)) t228) (Go.bits .and .i64 (wrap64 (a1)) t228) t229 t232 true) else ((vec_Num.f k l3).bind fun t236 => ((vec_Bits.f k t236 (l3.length : Int)).bind fun t237 => ((proofmarkref08_Same.f k t237 l3).bind fun t240 => (proofmarklaw08_VecBits.j0 k l3 t227 (wrap64 ((Int.tmod (wrap64 (a2)) 16) + 1)) (Go.bits .and .i64 (wrap64 (a0)) t228) (Go.bits .and .i64 (wrap64 (a1)) t228) t229 t232 (!t240)))))) else (proofmarklaw08_VecBits.j0 k l3 t227 (wrap64 ((Int.tmod (wrap64 (a2)) 16) + 1)) (Go.bits .and .i64 (wrap64 (a0)) t228) (Go.bits .and .i64 (wrap64 (a1)) t228) t229 t232 true))) else (proofmarklaw08_VecBits.j0 k l3 t227 (wrap64 ((Int.tmod (wrap64 (a2)) 16) + 1)) (Go.bits .and .i64 (wrap64 (a0)) t228) (Go.bits .and .i64 (wrap64 (a1)) t228) t229 t232 true)) else (proofmarklaw08_VecBits.j0 k l3 t227 (wrap64 ((Int.tmod (wrap64 (a2)) 16) + 1)) (Go.bits .and .i64 (wrap64 (a0)) t228) (Go.bits .and .i64 (wrap64 (a1)) t228) t229 t232 true))))))
theorem proofmarklaw08_VecBits.mono_l : ∀ k, (∀ y0 y1 y2 y3 y4 y5 y6 y7, LeO (proofmarklaw08_VecBits.j0 k y0 y1 y2 y3 y4 y5 y6 y7) (proofmarklaw08_VecBits.j0 (k + 1) y0 y1 y2 y3 y4 y5 y6 y7)) ∧ (∀ y0 y1 y2 y3 y4 y5 y6 y7 y8, LeO (proofmarklaw08_VecBits.j1 k y0 y1 y2 y3 y4 y5 y6 y7 y8) (proofmarklaw08_VecBits.j1 (k + 1) y0 y1 y2 y3 y4 y5 y6 y7 y8)) ∧ (∀ y0 y1 y2 y3 y4 y5 y6 y7 y8, LeO (proofmarklaw08_VecBits.l0 k y0 y1 y2 y3 y4 y5 y6 y7 y8) (proofmarklaw08_VecBits.l0 (k + 1) y0 y1 y2 y3 y4 y5 y6 y7 y8))
 | 0 => ⟨fun _ _ _ _ _ _ _ _ r h => by simp [proofmarklaw08_VecBits.j0] at h, fun _ _ _ _ _ _ _ _ _ r h => by simp [proofmarklaw08_VecBits.j1] at h, fun _ _ _ _ _ _ _ _ _ r h => by simp [proofmarklaw08_VecBits.l0] at h⟩
 | k + 1 => by
  obtain ⟨ih0, ih1, ih2⟩ := proofmarklaw08_VecBits.mono_l k
  refine ⟨?_, ?_, ?_⟩
  ·intro y0 y1 y2 y3 y4 y5 y6 y7
   unfold proofmarklaw08_VecBits.j0
   repeat' first
   | (with_reducible exact ih0 _ _ _ _ _ _ _ _)
   | (with_reducible exact ih1 _ _ _ _ _ _ _ _ _)
   | (with_reducible exact ih2 _ _ _ _ _ _ _ _ _)
   | (with_reducible exact proofmarklaw08_head.mono _)
   | (with_reducible exact proofmarkref08_Same.mono _ _ _)
   | (with_reducible exact vec_Bits.mono _ _ _)
   | (with_reducible exact vec_Num.mono _ _)
   | (with_reducible exact LeO.refl _)
   | (with_reducible exact LeO.none _)
   | (with_reducible refine LeO.ite ?_ ?_)
   | (with_reducible refine LeO.bind ?_ (fun _ => ?_))
   | exact ih0 _ _ _ _ _ _ _ _
   | exact ih1 _ _ _ _ _ _ _ _ _
   | exact ih2 _ _ _ _ _ _ _ _ _
   | exact proofmarklaw08_head.mono _
   | exact proofmarkref08_Same.mono _ _ _
   | exact vec_Bits.mono _ _ _
   | exact vec_Num.mono _ _
   | exact LeO.none _
   | refine LeO.ite ?_ ?_
   | refine LeO.bind ?_ (fun _ => ?_)
  ·intro y0 y1 y2 y3 y4 y5 y6 y7 y8
   unfold proofmarklaw08_VecBits.j1
   repeat' first
   | (with_reducible exact ih0 _ _ _ _ _ _ _ _)
   | (with_reducible exact ih1 _ _ _ _ _ _ _ _ _)
   | (with_reducible exact ih2 _ _ _ _ _ _ _ _ _)
   | (with_reducible exact proofmarklaw08_head.mono _)
   | (with_reducible exact proofmarkref08_Same.mono _ _ _)
   | (with_reducible exact vec_Bits.mono _ _ _)
   | (with_reducible exact vec_Num.mono _ _)
   | (with_reducible exact LeO.refl _)
   | (with_reducible exact LeO.none _)
   | (with_reducible refine LeO.ite ?_ ?_)
   | (with_reducible refine LeO.bind ?_ (fun _ => ?_))
   | exact ih0 _ _ _ _ _ _ _ _
   | exact ih1 _ _ _ _ _ _ _ _ _
   | exact ih2 _ _ _ _ _ _ _ _ _
   | exact proofmarklaw08_head.mono _
   | exact proofmarkref08_Same.mono _ _ _
   | exact vec_Bits.mono _ _ _
   | exact vec_Num.mono _ _
   | exact LeO.none _
   | refine LeO.ite ?_ ?_
   | refine LeO.bind ?_ (fun _ => ?_)
  ·intro y0 y1 y2 y3 y4 y5 y6 y7 y8
   unfold proofmarklaw08_VecBits.l0
   repeat' first
   | (with_reducible exact ih0 _ _ _ _ _ _ _ _)
   | (with_reducible exact ih1 _ _ _ _ _ _ _ _ _)
   | (with_reducible exact ih2 _ _ _ _ _ _ _ _ _)
   | (with_reducible exact proofmarklaw08_head.mono _)
   | (with_reducible exact proofmarkref08_Same.mono _ _ _)
   | (with_reducible exact vec_Bits.mono _ _ _)
   | (with_reducible exact vec_Num.mono _ _)
   | (with_reducible exact LeO.refl _)
   | (with_reducible exact LeO.none _)
   | (with_reducible refine LeO.ite ?_ ?_)
   | (with_reducible refine LeO.bind ?_ (fun _ => ?_))
   | exact ih0 _ _ _ _ _ _ _ _
   | exact ih1 _ _ _ _ _ _ _ _ _
   | exact ih2 _ _ _ _ _ _ _ _ _
   | exact proofmarklaw08_head.mono _
   | exact proofmarkref08_Same.mono _ _ _
   | exact vec_Bits.mono _ _ _
   | exact vec_Num.mono _ _
   | exact LeO.none _
   | refine LeO.ite ?_ ?_
   | refine LeO.bind ?_ (fun _ => ?_)
theorem proofmarklaw08_VecBits.mono : ∀ a0 a1 a2 a3 k, LeO (proofmarklaw08_VecBits.f k a0 a1 a2 a3) (proofmarklaw08_VecBits.f (k + 1) a0 a1 a2 a3) := by
 intro a0 a1 a2 a3 k
 obtain ⟨ih0, ih1, ih2⟩ := proofmarklaw08_VecBits.mono_l k
 unfold proofmarklaw08_VecBits.f
 repeat' first
   | (with_reducible exact ih0 _ _ _ _ _ _ _ _)
   | (with_reducible exact ih1 _ _ _ _ _ _ _ _ _)
   | (with_reducible exact ih2 _ _ _ _ _ _ _ _ _)
   | (with_reducible exact proofmarklaw08_head.mono _)
   | (with_reducible exact proofmarkref08_Same.mono _ _ _)
   | (with_reducible exact vec_Bits.mono _ _ _)
   | (with_reducible exact vec_Num.mono _ _)
   | (with_reducible exact LeO.refl _)
   | (with_reducible exact LeO.none _)
   | (with_reducible refine LeO.ite ?_ ?_)
   | (with_reducible refine LeO.bind ?_ (fun _ => ?_))
   | exact ih0 _ _ _ _ _ _ _ _
   | exact ih1 _ _ _ _ _ _ _ _ _
   | exact ih2 _ _ _ _ _ _ _ _ _
   | exact proofmarklaw08_head.mono _
   | exact proofmarkref08_Same.mono _ _ _
   | exact vec_Bits.mono _ _ _
   | exact vec_Num.mono _ _
   | exact LeO.none _
   | refine LeO.ite ?_ ?_
   | refine LeO.bind ?_ (fun _ => ?_)
set_option maxHeartbeats 8000000 in
set_option maxRecDepth 100000 in
theorem proofmarklaw08_VecBits.calls (k : Nat) (a0 : Int) (a1 : Int) (a2 : Int) (A3 : Option Addr) (c3 : Nat) (l3 : List Bool) (r : Bool) (w : World) (hr3 : Kd.C Kd.bool w A3 l3.length l3) (hc3 : l3.length ≤ c3) (h : proofmarklaw08_VecBits.f k a0 a1 a2 l3 = some r) :
  Calls Try.prog 7 #[.int .u16 a0, .int .u16 a1, .int .u8 a2, .slice A3 l3.length c3] w fun e w' => e = .returned (.bool r) ∧ Below w.heap.size w w' := by
 have hu28 := Try.underlying28
 have HR3 := Aside0.mk hr3
 have HC3 := Aside0.mk hc3
 clear hr3 hc3
 have HB := Aside0.mk (Below.refl w.heap.size w)
 have H : ((proofmarklaw08_head.f k).bind fun t227 => ((proofmarkref08_Mask.f (wrap64 ((Int.tmod (wrap64 (a2)) 16) + 1))).bind fun t228 => ((proofmarkref08_Mask.f (wrap64 ((Int.tmod (wrap64 (a2)) 16) + 1))).bind fun t228 => ((vec_Bits.f k (Go.bits .and .i64 (wrap64 (a0)) t228) (wrap64 ((Int.tmod (wrap64 (a2)) 16) + 1))).bind fun t229 => ((vec_Bits.f k (Go.bits .and .i64 (wrap64 (a1)) t228) (wrap64 ((Int.tmod (wrap64 (a2)) 16) + 1))).bind fun t232 => (if (t229.length : Int) = (wrap64 ((Int.tmod (wrap64 (a2)) 16) + 1)) then (if (t232.length : Int) = (wrap64 ((Int.tmod (wrap64 (a2)) 16) + 1)) then ((vec_Num.f k t229).bind fun t235 => (if t235 = (Go.bits .and .i64 (wrap64 (a0)) t228) then (if (l3.length : Int) > 32 then (proofmarklaw08_VecBits.j0 k l3 t227 (wrap64 ((Int.tmod (wrap64 (a2)) 16) + 1)) (Go.bits .and .i64 (wrap64 (a0)) t228) (Go.bits .and .i64 (wrap64 (a1)) t228) t229 t232 true) else ((vec_Num.f k l3).bind fun t236 => ((vec_Bits.f k t236 (l3.length : Int)).bind fun t237 => ((proofmarkref08_Same.f k t237 l3).bind fun t240 => (proofmarklaw08_VecBits.j0 k l3 t227 (wrap64 ((Int.tmod (wrap64 (a2)) 16) + 1)) (Go.bits .and .i64 (wrap64 (a0)) t228) (Go.bits .and .i64 (wrap64 (a1)) t228) t229 t232 (!t240)))))) else (proofmarklaw08_VecBits.j0 k l3 t227 (wrap64 ((Int.tmod (wrap64 (a2)) 16) + 1)) (Go.bits .and .i64 (wrap64 (a0)) t228) (Go.bits .and .i64 (wrap64 (a1)) t228) t229 t232 true))) else (proofmarklaw08_VecBits.j0 k l3 t227 (wrap64 ((Int.tmod (wrap64 (a2)) 16) + 1)) (Go.bits .and .i64 (wrap64 (a0)) t228) (Go.bits .and .i64 (wrap64 (a1)) t228) t229 t232 true)) else (proofmarklaw08_VecBits.j0 k l3 t227 (wrap64 ((Int.tmod (wrap64 (a2)) 16) + 1)) (Go.bits .and .i64 (wrap64 (a0)) t228) (Go.bits .and .i64 (wrap64 (a1)) t228) t229 t232 true))))))) = some r := h
 clear h
 replace H := Option.bind_eq_some_iff.mp H
 obtain ⟨t227, A50, H⟩ := H
 replace H : ((proofmarkref08_Mask.f (wrap64 ((Int.tmod (wrap64 (a2)) 16) + 1))).bind fun t228 => ((proofmarkref08_Mask.f (wrap64 ((Int.tmod (wrap64 (a2)) 16) + 1))).bind fun t228 => ((vec_Bits.f k (Go.bits .and .i64 (wrap64 (a0)) t228) (wrap64 ((Int.tmod (wrap64 (a2)) 16) + 1))).bind fun t229 => ((vec_Bits.f k (Go.bits .and .i64 (wrap64 (a1)) t228) (wrap64 ((Int.tmod (wrap64 (a2)) 16) + 1))).bind fun t232 => (if (t229.length : Int) = (wrap64 ((Int.tmod (wrap64 (a2)) 16) + 1)) then (if (t232.length : Int) = (wrap64 ((Int.tmod (wrap64 (a2)) 16) + 1)) then ((vec_Num.f k t229).bind fun t235 => (if t235 = (Go.bits .and .i64 (wrap64 (a0)) t228) then (if (l3.length : Int) > 32 then (proofmarklaw08_VecBits.j0 k l3 t227 (wrap64 ((Int.tmod (wrap64 (a2)) 16) + 1)) (Go.bits .and .i64 (wrap64 (a0)) t228) (Go.bits .and .i64 (wrap64 (a1)) t228) t229 t232 true) else ((vec_Num.f k l3).bind fun t236 => ((vec_Bits.f k t236 (l3.length : Int)).bind fun t237 => ((proofmarkref08_Same.f k t237 l3).bind fun t240 => (proofmarklaw08_VecBits.j0 k l3 t227 (wrap64 ((Int.tmod (wrap64 (a2)) 16) + 1)) (Go.bits .and .i64 (wrap64 (a0)) t228) (Go.bits .and .i64 (wrap64 (a1)) t228) t229 t232 (!t240)))))) else (proofmarklaw08_VecBits.j0 k l3 t227 (wrap64 ((Int.tmod (wrap64 (a2)) 16) + 1)) (Go.bits .and .i64 (wrap64 (a0)) t228) (Go.bits .and .i64 (wrap64 (a1)) t228) t229 t232 true))) else (proofmarklaw08_VecBits.j0 k l3 t227 (wrap64 ((Int.tmod (wrap64 (a2)) 16) + 1)) (Go.bits .and .i64 (wrap64 (a0)) t228) (Go.bits .and .i64 (wrap64 (a1)) t228) t229 t232 true)) else (proofmarklaw08_VecBits.j0 k l3 t227 (wrap64 ((Int.tmod (wrap64 (a2)) 16) + 1)) (Go.bits .and .i64 (wrap64 (a0)) t228) (Go.bits .and .i64 (wrap64 (a1)) t228) t229 t232 true)))))) = some r := H
 have A5 := Aside0.mk A50
 clear A50
 replace H := Option.bind_eq_some_iff.mp H
 obtain ⟨t228, A60, H⟩ := H
 replace H : ((proofmarkref08_Mask.f (wrap64 ((Int.tmod (wrap64 (a2)) 16) + 1))).bind fun t228 => ((vec_Bits.f k (Go.bits .and .i64 (wrap64 (a0)) t228) (wrap64 ((Int.tmod (wrap64 (a2)) 16) + 1))).bind fun t229 => ((vec_Bits.f k (Go.bits .and .i64 (wrap64 (a1)) t228) (wrap64 ((Int.tmod (wrap64 (a2)) 16) + 1))).bind fun t232 => (if (t229.length : Int) = (wrap64 ((Int.tmod (wrap64 (a2)) 16) + 1)) then (if (t232.length : Int) = (wrap64 ((Int.tmod (wrap64 (a2)) 16) + 1)) then ((vec_Num.f k t229).bind fun t235 => (if t235 = (Go.bits .and .i64 (wrap64 (a0)) t228) then (if (l3.length : Int) > 32 then (proofmarklaw08_VecBits.j0 k l3 t227 (wrap64 ((Int.tmod (wrap64 (a2)) 16) + 1)) (Go.bits .and .i64 (wrap64 (a0)) t228) (Go.bits .and .i64 (wrap64 (a1)) t228) t229 t232 true) else ((vec_Num.f k l3).bind fun t236 => ((vec_Bits.f k t236 (l3.length : Int)).bind fun t237 => ((proofmarkref08_Same.f k t237 l3).bind fun t240 => (proofmarklaw08_VecBits.j0 k l3 t227 (wrap64 ((Int.tmod (wrap64 (a2)) 16) + 1)) (Go.bits .and .i64 (wrap64 (a0)) t228) (Go.bits .and .i64 (wrap64 (a1)) t228) t229 t232 (!t240)))))) else (proofmarklaw08_VecBits.j0 k l3 t227 (wrap64 ((Int.tmod (wrap64 (a2)) 16) + 1)) (Go.bits .and .i64 (wrap64 (a0)) t228) (Go.bits .and .i64 (wrap64 (a1)) t228) t229 t232 true))) else (proofmarklaw08_VecBits.j0 k l3 t227 (wrap64 ((Int.tmod (wrap64 (a2)) 16) + 1)) (Go.bits .and .i64 (wrap64 (a0)) t228) (Go.bits .and .i64 (wrap64 (a1)) t228) t229 t232 true)) else (proofmarklaw08_VecBits.j0 k l3 t227 (wrap64 ((Int.tmod (wrap64 (a2)) 16) + 1)) (Go.bits .and .i64 (wrap64 (a0)) t228) (Go.bits .and .i64 (wrap64 (a1)) t228) t229 t232 true))))) = some r := H
 have A6 := Aside0.mk A60
 clear A60
 replace H := Option.bind_eq_some_iff.mp H
 obtain ⟨dup8, A70, H⟩ := H
 have E_ := Option.some.inj (A6.out.symm.trans A70)
 subst E_
 replace H : ((vec_Bits.f k (Go.bits .and .i64 (wrap64 (a0)) t228) (wrap64 ((Int.tmod (wrap64 (a2)) 16) + 1))).bind fun t229 => ((vec_Bits.f k (Go.bits .and .i64 (wrap64 (a1)) t228) (wrap64 ((Int.tmod (wrap64 (a2)) 16) + 1))).bind fun t232 => (if (t229.length : Int) = (wrap64 ((Int.tmod (wrap64 (a2)) 16) + 1)) then (if (t232.length : Int) = (wrap64 ((Int.tmod (wrap64 (a2)) 16) + 1)) then ((vec_Num.f k t229).bind fun t235 => (if t235 = (Go.bits .and .i64 (wrap64 (a0)) t228) then (if (l3.length : Int) > 32 then (proofmarklaw08_VecBits.j0 k l3 t227 (wrap64 ((Int.tmod (wrap64 (a2)) 16) + 1)) (Go.bits .and .i64 (wrap64 (a0)) t228) (Go.bits .and .i64 (wrap64 (a1)) t228) t229 t232 true) else ((vec_Num.f k l3).bind fun t236 => ((vec_Bits.f k t236 (l3.length : Int)).bind fun t237 => ((proofmarkref08_Same.f k t237 l3).bind fun t240 => (proofmarklaw08_VecBits.j0 k l3 t227 (wrap64 ((Int.tmod (wrap64 (a2)) 16) + 1)) (Go.bits .and .i64 (wrap64 (a0)) t228) (Go.bits .and .i64 (wrap64 (a1)) t228) t229 t232 (!t240)))))) else (proofmarklaw08_VecBits.j0 k l3 t227 (wrap64 ((Int.tmod (wrap64 (a2)) 16) + 1)) (Go.bits .and .i64 (wrap64 (a0)) t228) (Go.bits .and .i64 (wrap64 (a1)) t228) t229 t232 true))) else (proofmarklaw08_VecBits.j0 k l3 t227 (wrap64 ((Int.tmod (wrap64 (a2)) 16) + 1)) (Go.bits .and .i64 (wrap64 (a0)) t228) (Go.bits .and .i64 (wrap64 (a1)) t228) t229 t232 true)) else (proofmarklaw08_VecBits.j0 k l3 t227 (wrap64 ((Int.tmod (wrap64 (a2)) 16) + 1)) (Go.bits .and .i64 (wrap64 (a0)) t228) (Go.bits .and .i64 (wrap64 (a1)) t228) t229 t232 true)))) = some r := H
 have A7 := Aside0.mk A70
 clear A70
 replace H := Option.bind_eq_some_iff.mp H
 obtain ⟨t229, A90, H⟩ := H
 replace H : ((vec_Bits.f k (Go.bits .and .i64 (wrap64 (a1)) t228) (wrap64 ((Int.tmod (wrap64 (a2)) 16) + 1))).bind fun t232 => (if (t229.length : Int) = (wrap64 ((Int.tmod (wrap64 (a2)) 16) + 1)) then (if (t232.length : Int) = (wrap64 ((Int.tmod (wrap64 (a2)) 16) + 1)) then ((vec_Num.f k t229).bind fun t235 => (if t235 = (Go.bits .and .i64 (wrap64 (a0)) t228) then (if (l3.length : Int) > 32 then (proofmarklaw08_VecBits.j0 k l3 t227 (wrap64 ((Int.tmod (wrap64 (a2)) 16) + 1)) (Go.bits .and .i64 (wrap64 (a0)) t228) (Go.bits .and .i64 (wrap64 (a1)) t228) t229 t232 true) else ((vec_Num.f k l3).bind fun t236 => ((vec_Bits.f k t236 (l3.length : Int)).bind fun t237 => ((proofmarkref08_Same.f k t237 l3).bind fun t240 => (proofmarklaw08_VecBits.j0 k l3 t227 (wrap64 ((Int.tmod (wrap64 (a2)) 16) + 1)) (Go.bits .and .i64 (wrap64 (a0)) t228) (Go.bits .and .i64 (wrap64 (a1)) t228) t229 t232 (!t240)))))) else (proofmarklaw08_VecBits.j0 k l3 t227 (wrap64 ((Int.tmod (wrap64 (a2)) 16) + 1)) (Go.bits .and .i64 (wrap64 (a0)) t228) (Go.bits .and .i64 (wrap64 (a1)) t228) t229 t232 true))) else (proofmarklaw08_VecBits.j0 k l3 t227 (wrap64 ((Int.tmod (wrap64 (a2)) 16) + 1)) (Go.bits .and .i64 (wrap64 (a0)) t228) (Go.bits .and .i64 (wrap64 (a1)) t228) t229 t232 true)) else (proofmarklaw08_VecBits.j0 k l3 t227 (wrap64 ((Int.tmod (wrap64 (a2)) 16) + 1)) (Go.bits .and .i64 (wrap64 (a0)) t228) (Go.bits .and .i64 (wrap64 (a1)) t228) t229 t232 true))) = some r := H
 have A9 := Aside0.mk A90
 clear A90
 replace H := Option.bind_eq_some_iff.mp H
 obtain ⟨t232, A100, H⟩ := H
 replace H : (if (t229.length : Int) = (wrap64 ((Int.tmod (wrap64 (a2)) 16) + 1)) then (if (t232.length : Int) = (wrap64 ((Int.tmod (wrap64 (a2)) 16) + 1)) then ((vec_Num.f k t229).bind fun t235 => (if t235 = (Go.bits .and .i64 (wrap64 (a0)) t228) then (if (l3.length : Int) > 32 then (proofmarklaw08_VecBits.j0 k l3 t227 (wrap64 ((Int.tmod (wrap64 (a2)) 16) + 1)) (Go.bits .and .i64 (wrap64 (a0)) t228) (Go.bits .and .i64 (wrap64 (a1)) t228) t229 t232 true) else ((vec_Num.f k l3).bind fun t236 => ((vec_Bits.f k t236 (l3.length : Int)).bind fun t237 => ((proofmarkref08_Same.f k t237 l3).bind fun t240 => (proofmarklaw08_VecBits.j0 k l3 t227 (wrap64 ((Int.tmod (wrap64 (a2)) 16) + 1)) (Go.bits .and .i64 (wrap64 (a0)) t228) (Go.bits .and .i64 (wrap64 (a1)) t228) t229 t232 (!t240)))))) else (proofmarklaw08_VecBits.j0 k l3 t227 (wrap64 ((Int.tmod (wrap64 (a2)) 16) + 1)) (Go.bits .and .i64 (wrap64 (a0)) t228) (Go.bits .and .i64 (wrap64 (a1)) t228) t229 t232 true))) else (proofmarklaw08_VecBits.j0 k l3 t227 (wrap64 ((Int.tmod (wrap64 (a2)) 16) + 1)) (Go.bits .and .i64 (wrap64 (a0)) t228) (Go.bits .and .i64 (wrap64 (a1)) t228) t229 t232 true)) else (proofmarklaw08_VecBits.j0 k l3 t227 (wrap64 ((Int.tmod (wrap64 (a2)) 16) + 1)) (Go.bits .and .i64 (wrap64 (a0)) t228) (Go.bits .and .i64 (wrap64 (a1)) t228) t229 t232 true)) = some r := H
 have A10 := Aside0.mk A100
 clear A100
 have HC11 := Aside0.mk H
 clear H
 go_enter Try.func7, Try.ntmps7
 go_upto_region 7 with (first | (go_at_call 10; (with_reducible refine (proofmarklaw08_head.calls k  t227 _ A5.out).mono ?_); rintro e w12 ⟨rfl, hb⟩; have n0_ := Aside0.mk (below_step (by repeat (first | (with_reducible first | exact HB.out | apply below_alloc | apply pw_below_drewN | apply below_drew1) | exact HB.out)) hb); clear HB; have HB := n0_; clear n0_; (try clear hb); (try clear hb2); (try clear hk); (try clear hi)) | (go_at_call 15; (with_reducible refine (proofmarkref08_Mask.calls (wrap64 ((Int.tmod (wrap64 (a2)) 16) + 1)) t228 _ A6.out).mono ?_); rintro e w' ⟨rfl, ⟨nd, rfl⟩⟩; (try first | exact ⟨rfl, _, World.drewN_drewN _ _ _⟩ | exact ⟨rfl, _, Eq.trans (World.drewN_drewN _ _ _) (congrArg (World.drewN _) (Nat.add_assoc _ _ _))⟩)) | (go_at_call 15; (with_reducible refine (proofmarkref08_Mask.calls (wrap64 ((Int.tmod (wrap64 (a2)) 16) + 1)) t228 _ A7.out).mono ?_); rintro e w' ⟨rfl, ⟨nd, rfl⟩⟩; (try first | exact ⟨rfl, _, World.drewN_drewN _ _ _⟩ | exact ⟨rfl, _, Eq.trans (World.drewN_drewN _ _ _) (congrArg (World.drewN _) (Nat.add_assoc _ _ _))⟩)) | (go_at_call 17; (with_reducible refine (vec_Bits.calls k (Go.bits .and .i64 (wrap64 (a0)) t228) (wrap64 ((Int.tmod (wrap64 (a2)) 16) + 1)) t229 _ A9.out).mono ?_); rintro e w13 ⟨v230, rfl, ho0, hb⟩; have n0_ := Aside0.mk (Kd.R_lower ho0 (below_size (by repeat (first | (with_reducible first | exact HB.out | apply below_alloc | apply pw_below_drewN | apply below_drew1) | exact HB.out)))); have n1_ := Aside0.mk (below_step (by repeat (first | (with_reducible first | exact HB.out | apply below_alloc | apply pw_below_drewN | apply below_drew1) | exact HB.out)) hb); clear HB; have HO231 := n0_; have HB := n1_; clear n0_ n1_; (try clear hb); (try clear hb2); (try clear hk); (try clear hi); (try clear ho0)) | (go_at_call 17; (with_reducible refine (vec_Bits.calls k (Go.bits .and .i64 (wrap64 (a1)) t228) (wrap64 ((Int.tmod (wrap64 (a2)) 16) + 1)) t232 _ A10.out).mono ?_); rintro e w14 ⟨v233, rfl, ho0, hb⟩; have n0_ := Aside0.mk (Kd.R_elder' (by (with_reducible repeat (first | apply Kd.R_alloc | apply Kd.R_drewN | apply Kd.R_drew)); exact HO231.out) (Kd.R_base ho0) hb); have n1_ := Aside0.mk (Kd.R_lower (Kd.R_new' ho0 (Kd.R_lt (by (with_reducible repeat (first | apply Kd.R_alloc | apply Kd.R_drewN | apply Kd.R_drew)); exact HO231.out))) (below_size (by repeat (first | (with_reducible first | exact HB.out | apply below_alloc | apply pw_below_drewN | apply below_drew1) | exact HB.out)))); have n2_ := Aside0.mk (below_step (by repeat (first | (with_reducible first | exact HB.out | apply below_alloc | apply pw_below_drewN | apply below_drew1) | exact HB.out)) hb); clear HO231; clear HB; have HO231 := n0_; have HO234 := n1_; have HB := n2_; clear n0_ n1_ n2_; (try clear hb); (try clear hb2); (try clear hk); (try clear hi); (try clear ho0)))
 repeat (go_quiet (first | (go_at_call 10; (with_reducible refine (proofmarklaw08_head.calls k  t227 _ A5.out).mono ?_); rintro e w12 ⟨rfl, hb⟩; have n0_ := Aside0.mk (below_step (by repeat (first | (with_reducible first | exact HB.out | apply below_alloc | apply pw_below_drewN | apply below_drew1) | exact HB.out)) hb); clear HB; have HB := n0_; clear n0_; (try clear hb); (try clear hb2); (try clear hk); (try clear hi)) | (go_at_call 15; (with_reducible refine (proofmarkref08_Mask.calls (wrap64 ((Int.tmod (wrap64 (a2)) 16) + 1)) t228 _ A6.out).mono ?_); rintro e w' ⟨rfl, ⟨nd, rfl⟩⟩; (try first | exact ⟨rfl, _, World.drewN_drewN _ _ _⟩ | exact ⟨rfl, _, Eq.trans (World.drewN_drewN _ _ _) (congrArg (World.drewN _) (Nat.add_assoc _ _ _))⟩)) | (go_at_call 15; (with_reducible refine (proofmarkref08_Mask.calls (wrap64 ((Int.tmod (wrap64 (a2)) 16) + 1)) t228 _ A7.out).mono ?_); rintro e w' ⟨rfl, ⟨nd, rfl⟩⟩; (try first | exact ⟨rfl, _, World.drewN_drewN _ _ _⟩ | exact ⟨rfl, _, Eq.trans (World.drewN_drewN _ _ _) (congrArg (World.drewN _) (Nat.add_assoc _ _ _))⟩)) | (go_at_call 17; (with_reducible refine (vec_Bits.calls k (Go.bits .and .i64 (wrap64 (a0)) t228) (wrap64 ((Int.tmod (wrap64 (a2)) 16) + 1)) t229 _ A9.out).mono ?_); rintro e w13 ⟨v230, rfl, ho0, hb⟩; have n0_ := Aside0.mk (Kd.R_lower ho0 (below_size (by repeat (first | (with_reducible first | exact HB.out | apply below_alloc | apply pw_below_drewN | apply below_drew1) | exact HB.out)))); have n1_ := Aside0.mk (below_step (by repeat (first | (with_reducible first | exact HB.out | apply below_alloc | apply pw_below_drewN | apply below_drew1) | exact HB.out)) hb); clear HB; have HO231 := n0_; have HB := n1_; clear n0_ n1_; (try clear hb); (try clear hb2); (try clear hk); (try clear hi); (try clear ho0)) | (go_at_call 17; (with_reducible refine (vec_Bits.calls k (Go.bits .and .i64 (wrap64 (a1)) t228) (wrap64 ((Int.tmod (wrap64 (a2)) 16) + 1)) t232 _ A10.out).mono ?_); rintro e w14 ⟨v233, rfl, ho0, hb⟩; have n0_ := Aside0.mk (Kd.R_elder' (by (with_reducible repeat (first | apply Kd.R_alloc | apply Kd.R_drewN | apply Kd.R_drew)); exact HO231.out) (Kd.R_base ho0) hb); have n1_ := Aside0.mk (Kd.R_lower (Kd.R_new' ho0 (Kd.R_lt (by (with_reducible repeat (first | apply Kd.R_alloc | apply Kd.R_drewN | apply Kd.R_drew)); exact HO231.out))) (below_size (by repeat (first | (with_reducible first | exact HB.out | apply below_alloc | apply pw_below_drewN | apply below_drew1) | exact HB.out)))); have n2_ := Aside0.mk (below_step (by repeat (first | (with_reducible first | exact HB.out | apply below_alloc | apply pw_below_drewN | apply below_drew1) | exact HB.out)) hb); clear HO231; clear HB; have HO231 := n0_; have HO234 := n1_; have HB := n2_; clear n0_ n1_ n2_; (try clear hb); (try clear hb2); (try clear hk); (try clear hi); (try clear ho0))); go_upto_region 7 with (first | (go_at_call 10; (with_reducible refine (proofmarklaw08_head.calls k  t227 _ A5.out).mono ?_); rintro e w12 ⟨rfl, hb⟩; have n0_ := Aside0.mk (below_step (by repeat (first | (with_reducible first | exact HB.out | apply below_alloc | apply pw_below_drewN | apply below_drew1) | exact HB.out)) hb); clear HB; have HB := n0_; clear n0_; (try clear hb); (try clear hb2); (try clear hk); (try clear hi)) | (go_at_call 15; (with_reducible refine (proofmarkref08_Mask.calls (wrap64 ((Int.tmod (wrap64 (a2)) 16) + 1)) t228 _ A6.out).mono ?_); rintro e w' ⟨rfl, ⟨nd, rfl⟩⟩; (try first | exact ⟨rfl, _, World.drewN_drewN _ _ _⟩ | exact ⟨rfl, _, Eq.trans (World.drewN_drewN _ _ _) (congrArg (World.drewN _) (Nat.add_assoc _ _ _))⟩)) | (go_at_call 15; (with_reducible refine (proofmarkref08_Mask.calls (wrap64 ((Int.tmod (wrap64 (a2)) 16) + 1)) t228 _ A7.out).mono ?_); rintro e w' ⟨rfl, ⟨nd, rfl⟩⟩; (try first | exact ⟨rfl, _, World.drewN_drewN _ _ _⟩ | exact ⟨rfl, _, Eq.trans (World.drewN_drewN _ _ _) (congrArg (World.drewN _) (Nat.add_assoc _ _ _))⟩)) | (go_at_call 17; (with_reducible refine (vec_Bits.calls k (Go.bits .and .i64 (wrap64 (a0)) t228) (wrap64 ((Int.tmod (wrap64 (a2)) 16) + 1)) t229 _ A9.out).mono ?_); rintro e w13 ⟨v230, rfl, ho0, hb⟩; have n0_ := Aside0.mk (Kd.R_lower ho0 (below_size (by repeat (first | (with_reducible first | exact HB.out | apply below_alloc | apply pw_below_drewN | apply below_drew1) | exact HB.out)))); have n1_ := Aside0.mk (below_step (by repeat (first | (with_reducible first | exact HB.out | apply below_alloc | apply pw_below_drewN | apply below_drew1) | exact HB.out)) hb); clear HB; have HO231 := n0_; have HB := n1_; clear n0_ n1_; (try clear hb); (try clear hb2); (try clear hk); (try clear hi); (try clear ho0)) | (go_at_call 17; (with_reducible refine (vec_Bits.calls k (Go.bits .and .i64 (wrap64 (a1)) t228) (wrap64 ((Int.tmod (wrap64 (a2)) 16) + 1)) t232 _ A10.out).mono ?_); rintro e w14 ⟨v233, rfl, ho0, hb⟩; have n0_ := Aside0.mk (Kd.R_elder' (by (with_reducible repeat (first | apply Kd.R_alloc | apply Kd.R_drewN | apply Kd.R_drew)); exact HO231.out) (Kd.R_base ho0) hb); have n1_ := Aside0.mk (Kd.R_lower (Kd.R_new' ho0 (Kd.R_lt (by (with_reducible repeat (first | apply Kd.R_alloc | apply Kd.R_drewN | apply Kd.R_drew)); exact HO231.out))) (below_size (by repeat (first | (with_reducible first | exact HB.out | apply below_alloc | apply pw_below_drewN | apply below_drew1) | exact HB.out)))); have n2_ := Aside0.mk (below_step (by repeat (first | (with_reducible first | exact HB.out | apply below_alloc | apply pw_below_drewN | apply below_drew1) | exact HB.out)) hb); clear HO231; clear HB; have HO231 := n0_; have HO234 := n1_; have HB := n2_; clear n0_ n1_ n2_; (try clear hb); (try clear hb2); (try clear hk); (try clear hi); (try clear ho0))))
 (try simp only [Act.put, List.setIfInBounds_toArray, List.set_cons_zero, List.set_cons_succ])
 go_cut [71] (fun v71 wc => ∃ (kq : Nat) (x71_10 : Bool), v71 = .bool x71_10 ∧ Aside0 (proofmarklaw08_VecBits.j0 kq l3 t227 (wrap64 ((Int.tmod (wrap64 (a2)) 16) + 1)) (Go.bits .and .i64 (wrap64 (a0)) t228) (Go.bits .and .i64 (wrap64 (a1)) t228) t229 t232 x71_10 = some r) ∧ Aside0 (kq ≤ k) ∧ Aside0 (Kd.R Kd.bool 4 wc w.heap.size (fun k_ => some k_ ≠ (v233 : Value).ownBlock) v230 t229) ∧ Aside0 (Kd.R Kd.bool 4 wc w.heap.size (fun k_ => some k_ ≠ (v230 : Value).ownBlock) v233 t232) ∧ Aside0 (Below w.heap.size w wc))
 case first =>
  have H := HC11.out
  clear HC11
  by_cases c15 : (t229.length : Int) = (wrap64 ((Int.tmod (wrap64 (a2)) 16) + 1))
  ·rw [if_pos c15] at H
   have c15b0 : ((t229.length : Int) == (wrap64 ((Int.tmod (wrap64 (a2)) 16) + 1))) = true := beq_iff_eq.mpr c15
   have c15b1 : ((t229.length : Int) != (wrap64 ((Int.tmod (wrap64 (a2)) 16) + 1))) = false := bne_eq_false_iff_eq.mpr c15
   clear c15
   (first | rw [c15b0] | (simp only [i64_w, i32_w]; rw [c15b0]) | skip)
   by_cases c16 : (t232.length : Int) = (wrap64 ((Int.tmod (wrap64 (a2)) 16) + 1))
   ·rw [if_pos c16] at H
    have c16b0 : ((t232.length : Int) == (wrap64 ((Int.tmod (wrap64 (a2)) 16) + 1))) = true := beq_iff_eq.mpr c16
    have c16b1 : ((t232.length : Int) != (wrap64 ((Int.tmod (wrap64 (a2)) 16) + 1))) = false := bne_eq_false_iff_eq.mpr c16
    clear c16
    replace H := Option.bind_eq_some_iff.mp H
    obtain ⟨t235, A170, H⟩ := H
    replace H : (if t235 = (Go.bits .and .i64 (wrap64 (a0)) t228) then (if (l3.length : Int) > 32 then (proofmarklaw08_VecBits.j0 k l3 t227 (wrap64 ((Int.tmod (wrap64 (a2)) 16) + 1)) (Go.bits .and .i64 (wrap64 (a0)) t228) (Go.bits .and .i64 (wrap64 (a1)) t228) t229 t232 true) else ((vec_Num.f k l3).bind fun t236 => ((vec_Bits.f k t236 (l3.length : Int)).bind fun t237 => ((proofmarkref08_Same.f k t237 l3).bind fun t240 => (proofmarklaw08_VecBits.j0 k l3 t227 (wrap64 ((Int.tmod (wrap64 (a2)) 16) + 1)) (Go.bits .and .i64 (wrap64 (a0)) t228) (Go.bits .and .i64 (wrap64 (a1)) t228) t229 t232 (!t240)))))) else (proofmarklaw08_VecBits.j0 k l3 t227 (wrap64 ((Int.tmod (wrap64 (a2)) 16) + 1)) (Go.bits .and .i64 (wrap64 (a0)) t228) (Go.bits .and .i64 (wrap64 (a1)) t228) t229 t232 true)) = some r := H
    have A17 := Aside0.mk A170
    clear A170
    by_cases c18 : t235 = (Go.bits .and .i64 (wrap64 (a0)) t228)
    ·rw [if_pos c18] at H
     have c18b0 : (t235 == (Go.bits .and .i64 (wrap64 (a0)) t228)) = true := beq_iff_eq.mpr c18
     have c18b1 : (t235 != (Go.bits .and .i64 (wrap64 (a0)) t228)) = false := bne_eq_false_iff_eq.mpr c18
     clear c18
     by_cases c19 : (l3.length : Int) > 32
     ·rw [if_pos c19] at H
      have c19b0 : decide (32 < (l3.length : Int)) = true := decide_eq_true c19
      have c19b1 : decide (32 < l3.length) = true := decide_eq_true (by omega)
      clear c19
      have H' := Aside0.mk H
      clear H
      obtain ⟨Ao20, co20, eo20⟩ := Kd.R_slice HO231.out
      subst eo20
      obtain ⟨Ao21, co21, eo21⟩ := Kd.R_slice HO234.out
      subst eo21
      go_wp2_with (first | (go_at_call 19; (with_reducible refine (vec_Num.calls k _ _ t229 t235 _ ?side1 ?side2 A17.out).mono ?_); (case side1 => repeat (first | exact (Kd.R_reads' HO231.out).2.2 | (with_reducible refine Kd.C_alloc ?_ _) | (with_reducible refine Kd.C_drewN ?_ _) | (with_reducible refine Kd.C_drew ?_))); (case side2 => exact (Kd.R_reads' HO231.out).2.1); rintro e w' ⟨rfl, ⟨nd, rfl⟩⟩; (try first | exact ⟨rfl, _, World.drewN_drewN _ _ _⟩ | exact ⟨rfl, _, Eq.trans (World.drewN_drewN _ _ _) (congrArg (World.drewN _) (Nat.add_assoc _ _ _))⟩)))
      repeat (go_quiet (first | (go_at_call 19; (with_reducible refine (vec_Num.calls k _ _ t229 t235 _ ?side1 ?side2 A17.out).mono ?_); (case side1 => repeat (first | exact (Kd.R_reads' HO231.out).2.2 | (with_reducible refine Kd.C_alloc ?_ _) | (with_reducible refine Kd.C_drewN ?_ _) | (with_reducible refine Kd.C_drew ?_))); (case side2 => exact (Kd.R_reads' HO231.out).2.1); rintro e w' ⟨rfl, ⟨nd, rfl⟩⟩; (try first | exact ⟨rfl, _, World.drewN_drewN _ _ _⟩ | exact ⟨rfl, _, Eq.trans (World.drewN_drewN _ _ _) (congrArg (World.drewN _) (Nat.add_assoc _ _ _))⟩))); try go_wp2_with (first | (go_at_call 19; (with_reducible refine (vec_Num.calls k _ _ t229 t235 _ ?side1 ?side2 A17.out).mono ?_); (case side1 => repeat (first | exact (Kd.R_reads' HO231.out).2.2 | (with_reducible refine Kd.C_alloc ?_ _) | (with_reducible refine Kd.C_drewN ?_ _) | (with_reducible refine Kd.C_drew ?_))); (case side2 => exact (Kd.R_reads' HO231.out).2.1); rintro e w' ⟨rfl, ⟨nd, rfl⟩⟩; (try first | exact ⟨rfl, _, World.drewN_drewN _ _ _⟩ | exact ⟨rfl, _, Eq.trans (World.drewN_drewN _ _ _) (congrArg (World.drewN _) (Nat.add_assoc _ _ _))⟩))))
      go_meet
      case rel => exact ⟨_, (true), (by first | rfl | (simp; done) | (simp [*]; done)), H', ⟨by first | omega | exact Nat.le_refl _⟩, ⟨by (with_reducible repeat (first | apply Kd.R_alloc | apply Kd.R_drewN | apply Kd.R_drew)); exact Kd.R_mono HO231.out (fun _ hk => hk.2)⟩, ⟨by (with_reducible repeat (first | apply Kd.R_alloc | apply Kd.R_drewN | apply Kd.R_drew)); exact Kd.R_mono HO234.out (fun _ hk => hk.2)⟩, ⟨by repeat (first | (with_reducible first | exact HB.out | apply below_alloc | apply pw_below_drewN | apply below_drew1) | exact HB.out)⟩⟩
     ·rw [if_neg c19] at H
      have c19b0 : decide (32 < (l3.length : Int)) = false := decide_eq_false c19
      have c19b1 : decide (32 < l3.length) = false := decide_eq_false (by omega)
      clear c19
      replace H := Option.bind_eq_some_iff.mp H
      obtain ⟨t236, A220, H⟩ := H
      replace H : ((vec_Bits.f k t236 (l3.length : Int)).bind fun t237 => ((proofmarkref08_Same.f k t237 l3).bind fun t240 => (proofmarklaw08_VecBits.j0 k l3 t227 (wrap64 ((Int.tmod (wrap64 (a2)) 16) + 1)) (Go.bits .and .i64 (wrap64 (a0)) t228) (Go.bits .and .i64 (wrap64 (a1)) t228) t229 t232 (!t240)))) = some r := H
      have A22 := Aside0.mk A220
      clear A220
      replace H := Option.bind_eq_some_iff.mp H
      obtain ⟨t237, A230, H⟩ := H
      replace H : ((proofmarkref08_Same.f k t237 l3).bind fun t240 => (proofmarklaw08_VecBits.j0 k l3 t227 (wrap64 ((Int.tmod (wrap64 (a2)) 16) + 1)) (Go.bits .and .i64 (wrap64 (a0)) t228) (Go.bits .and .i64 (wrap64 (a1)) t228) t229 t232 (!t240))) = some r := H
      have A23 := Aside0.mk A230
      clear A230
      replace H := Option.bind_eq_some_iff.mp H
      obtain ⟨t240, A240, H⟩ := H
      replace H : (proofmarklaw08_VecBits.j0 k l3 t227 (wrap64 ((Int.tmod (wrap64 (a2)) 16) + 1)) (Go.bits .and .i64 (wrap64 (a0)) t228) (Go.bits .and .i64 (wrap64 (a1)) t228) t229 t232 (!t240)) = some r := H
      have A24 := Aside0.mk A240
      clear A240
      have H' := Aside0.mk H
      clear H
      obtain ⟨Ao25, co25, eo25⟩ := Kd.R_slice HO231.out
      subst eo25
      obtain ⟨Ao26, co26, eo26⟩ := Kd.R_slice HO234.out
      subst eo26
      go_wp2_with (first | (go_at_call 19; (with_reducible refine (vec_Num.calls k _ _ t229 t235 _ ?side1 ?side2 A17.out).mono ?_); (case side1 => repeat (first | exact (Kd.R_reads' HO231.out).2.2 | (with_reducible refine Kd.C_alloc ?_ _) | (with_reducible refine Kd.C_drewN ?_ _) | (with_reducible refine Kd.C_drew ?_))); (case side2 => exact (Kd.R_reads' HO231.out).2.1); rintro e w' ⟨rfl, ⟨nd, rfl⟩⟩; (try first | exact ⟨rfl, _, World.drewN_drewN _ _ _⟩ | exact ⟨rfl, _, Eq.trans (World.drewN_drewN _ _ _) (congrArg (World.drewN _) (Nat.add_assoc _ _ _))⟩)) | (go_at_call 19; (with_reducible refine (vec_Num.calls k _ _ l3 t236 _ ?side1 ?side2 A22.out).mono ?_); (case side1 => repeat (first | exact (Kd.C_below HR3.out (by repeat (first | (with_reducible first | exact HB.out | apply below_alloc | apply pw_below_drewN | apply below_drew1) | exact HB.out))) | (with_reducible refine Kd.C_alloc ?_ _) | (with_reducible refine Kd.C_drewN ?_ _) | (with_reducible refine Kd.C_drew ?_))); (case side2 => exact HC3.out); rintro e w' ⟨rfl, ⟨nd, rfl⟩⟩; (try first | exact ⟨rfl, _, World.drewN_drewN _ _ _⟩ | exact ⟨rfl, _, Eq.trans (World.drewN_drewN _ _ _) (congrArg (World.drewN _) (Nat.add_assoc _ _ _))⟩)) | (go_at_call 17; (with_reducible refine (vec_Bits.calls k t236 (l3.length : Int) t237 _ A23.out).mono ?_); rintro e w27 ⟨v238, rfl, ho0, hb⟩; have n0_ := Aside0.mk (Kd.R_elder' (by (with_reducible repeat (first | apply Kd.R_alloc | apply Kd.R_drewN | apply Kd.R_drew)); exact HO231.out) (Kd.R_base ho0) hb); have n1_ := Aside0.mk (Kd.R_elder' (by (with_reducible repeat (first | apply Kd.R_alloc | apply Kd.R_drewN | apply Kd.R_drew)); exact HO234.out) (Kd.R_base ho0) hb); have n2_ := Aside0.mk (Kd.R_lower (Kd.R_new' (Kd.R_new' ho0 (Kd.R_lt (by (with_reducible repeat (first | apply Kd.R_alloc | apply Kd.R_drewN | apply Kd.R_drew)); exact HO231.out))) (Kd.R_lt (by (with_reducible repeat (first | apply Kd.R_alloc | apply Kd.R_drewN | apply Kd.R_drew)); exact HO234.out))) (below_size (by repeat (first | (with_reducible first | exact HB.out | apply below_alloc | apply pw_below_drewN | apply below_drew1) | exact HB.out)))); have n3_ := Aside0.mk (below_step (by repeat (first | (with_reducible first | exact HB.out | apply below_alloc | apply pw_below_drewN | apply below_drew1) | exact HB.out)) hb); clear HO231; clear HO234; clear HB; have HO231 := n0_; have HO234 := n1_; have HO239 := n2_; have HB := n3_; clear n0_ n1_ n2_ n3_; (try clear hb); (try clear hb2); (try clear hk); (try clear hi); (try clear ho0); obtain ⟨Ao28, co28, eo28⟩ := Kd.R_slice HO239.out; subst eo28) | (go_at_call 16; (with_reducible refine (proofmarkref08_Same.calls k _ _ t237 _ _ l3 t240 _ ?side1 ?side2 ?side3 ?side4 A24.out).mono ?_); (case side1 => repeat (first | exact (Kd.R_reads' HO239.out).2.2 | (with_reducible refine Kd.C_alloc ?_ _) | (with_reducible refine Kd.C_drewN ?_ _) | (with_reducible refine Kd.C_drew ?_))); (case side2 => exact (Kd.R_reads' HO239.out).2.1); (case side3 => repeat (first | exact (Kd.C_below HR3.out HB.out) | (with_reducible refine Kd.C_alloc ?_ _) | (with_reducible refine Kd.C_drewN ?_ _) | (with_reducible refine Kd.C_drew ?_))); (case side4 => exact HC3.out); rintro e w' ⟨rfl, ⟨nd, rfl⟩⟩; (try first | exact ⟨rfl, _, World.drewN_drewN _ _ _⟩ | exact ⟨rfl, _, Eq.trans (World.drewN_drewN _ _ _) (congrArg (World.drewN _) (Nat.add_assoc _ _ _))⟩)))
      repeat (go_quiet (first | (go_at_call 19; (with_reducible refine (vec_Num.calls k _ _ t229 t235 _ ?side1 ?side2 A17.out).mono ?_); (case side1 => repeat (first | exact (Kd.R_reads' HO231.out).2.2 | (with_reducible refine Kd.C_alloc ?_ _) | (with_reducible refine Kd.C_drewN ?_ _) | (with_reducible refine Kd.C_drew ?_))); (case side2 => exact (Kd.R_reads' HO231.out).2.1); rintro e w' ⟨rfl, ⟨nd, rfl⟩⟩; (try first | exact ⟨rfl, _, World.drewN_drewN _ _ _⟩ | exact ⟨rfl, _, Eq.trans (World.drewN_drewN _ _ _) (congrArg (World.drewN _) (Nat.add_assoc _ _ _))⟩)) | (go_at_call 19; (with_reducible refine (vec_Num.calls k _ _ l3 t236 _ ?side1 ?side2 A22.out).mono ?_); (case side1 => repeat (first | exact (Kd.C_below HR3.out (by repeat (first | (with_reducible first | exact HB.out | apply below_alloc | apply pw_below_drewN | apply below_drew1) | exact HB.out))) | (with_reducible refine Kd.C_alloc ?_ _) | (with_reducible refine Kd.C_drewN ?_ _) | (with_reducible refine Kd.C_drew ?_))); (case side2 => exact HC3.out); rintro e w' ⟨rfl, ⟨nd, rfl⟩⟩; (try first | exact ⟨rfl, _, World.drewN_drewN _ _ _⟩ | exact ⟨rfl, _, Eq.trans (World.drewN_drewN _ _ _) (congrArg (World.drewN _) (Nat.add_assoc _ _ _))⟩)) | (go_at_call 17; (with_reducible refine (vec_Bits.calls k t236 (l3.length : Int) t237 _ A23.out).mono ?_); rintro e w27 ⟨v238, rfl, ho0, hb⟩; have n0_ := Aside0.mk (Kd.R_elder' (by (with_reducible repeat (first | apply Kd.R_alloc | apply Kd.R_drewN | apply Kd.R_drew)); exact HO231.out) (Kd.R_base ho0) hb); have n1_ := Aside0.mk (Kd.R_elder' (by (with_reducible repeat (first | apply Kd.R_alloc | apply Kd.R_drewN | apply Kd.R_drew)); exact HO234.out) (Kd.R_base ho0) hb); have n2_ := Aside0.mk (Kd.R_lower (Kd.R_new' (Kd.R_new' ho0 (Kd.R_lt (by (with_reducible repeat (first | apply Kd.R_alloc | apply Kd.R_drewN | apply Kd.R_drew)); exact HO231.out))) (Kd.R_lt (by (with_reducible repeat (first | apply Kd.R_alloc | apply Kd.R_drewN | apply Kd.R_drew)); exact HO234.out))) (below_size (by repeat (first | (with_reducible first | exact HB.out | apply below_alloc | apply pw_below_drewN | apply below_drew1) | exact HB.out)))); have n3_ := Aside0.mk (below_step (by repeat (first | (with_reducible first | exact HB.out | apply below_alloc | apply pw_below_drewN | apply below_drew1) | exact HB.out)) hb); clear HO231; clear HO234; clear HB; have HO231 := n0_; have HO234 := n1_; have HO239 := n2_; have HB := n3_; clear n0_ n1_ n2_ n3_; (try clear hb); (try clear hb2); (try clear hk); (try clear hi); (try clear ho0); obtain ⟨Ao28, co28, eo28⟩ := Kd.R_slice HO239.out; subst eo28) | (go_at_call 16; (with_reducible refine (proofmarkref08_Same.calls k _ _ t237 _ _ l3 t240 _ ?side1 ?side2 ?side3 ?side4 A24.out).mono ?_); (case side1 => repeat (first | exact (Kd.R_reads' HO239.out).2.2 | (with_reducible refine Kd.C_alloc ?_ _) | (with_reducible refine Kd.C_drewN ?_ _) | (with_reducible refine Kd.C_drew ?_))); (case side2 => exact (Kd.R_reads' HO239.out).2.1); (case side3 => repeat (first | exact (Kd.C_below HR3.out HB.out) | (with_reducible refine Kd.C_alloc ?_ _) | (with_reducible refine Kd.C_drewN ?_ _) | (with_reducible refine Kd.C_drew ?_))); (case side4 => exact HC3.out); rintro e w' ⟨rfl, ⟨nd, rfl⟩⟩; (try first | exact ⟨rfl, _, World.drewN_drewN _ _ _⟩ | exact ⟨rfl, _, Eq.trans (World.drewN_drewN _ _ _) (congrArg (World.drewN _) (Nat.add_assoc _ _ _))⟩))); try go_wp2_with (first | (go_at_call 19; (with_reducible refine (vec_Num.calls k _ _ t229 t235 _ ?side1 ?side2 A17.out).mono ?_); (case side1 => repeat (first | exact (Kd.R_reads' HO231.out).2.2 | (with_reducible refine Kd.C_alloc ?_ _) | (with_reducible refine Kd.C_drewN ?_ _) | (with_reducible refine Kd.C_drew ?_))); (case side2 => exact (Kd.R_reads' HO231.out).2.1); rintro e w' ⟨rfl, ⟨nd, rfl⟩⟩; (try first | exact ⟨rfl, _, World.drewN_drewN _ _ _⟩ | exact ⟨rfl, _, Eq.trans (World.drewN_drewN _ _ _) (congrArg (World.drewN _) (Nat.add_assoc _ _ _))⟩)) | (go_at_call 19; (with_reducible refine (vec_Num.calls k _ _ l3 t236 _ ?side1 ?side2 A22.out).mono ?_); (case side1 => repeat (first | exact (Kd.C_below HR3.out (by repeat (first | (with_reducible first | exact HB.out | apply below_alloc | apply pw_below_drewN | apply below_drew1) | exact HB.out))) | (with_reducible refine Kd.C_alloc ?_ _) | (with_reducible refine Kd.C_drewN ?_ _) | (with_reducible refine Kd.C_drew ?_))); (case side2 => exact HC3.out); rintro e w' ⟨rfl, ⟨nd, rfl⟩⟩; (try first | exact ⟨rfl, _, World.drewN_drewN _ _ _⟩ | exact ⟨rfl, _, Eq.trans (World.drewN_drewN _ _ _) (congrArg (World.drewN _) (Nat.add_assoc _ _ _))⟩)) | (go_at_call 17; (with_reducible refine (vec_Bits.calls k t236 (l3.length : Int) t237 _ A23.out).mono ?_); rintro e w27 ⟨v238, rfl, ho0, hb⟩; have n0_ := Aside0.mk (Kd.R_elder' (by (with_reducible repeat (first | apply Kd.R_alloc | apply Kd.R_drewN | apply Kd.R_drew)); exact HO231.out) (Kd.R_base ho0) hb); have n1_ := Aside0.mk (Kd.R_elder' (by (with_reducible repeat (first | apply Kd.R_alloc | apply Kd.R_drewN | apply Kd.R_drew)); exact HO234.out) (Kd.R_base ho0) hb); have n2_ := Aside0.mk (Kd.R_lower (Kd.R_new' (Kd.R_new' ho0 (Kd.R_lt (by (with_reducible repeat (first | apply Kd.R_alloc | apply Kd.R_drewN | apply Kd.R_drew)); exact HO231.out))) (Kd.R_lt (by (with_reducible repeat (first | apply Kd.R_alloc | apply Kd.R_drewN | apply Kd.R_drew)); exact HO234.out))) (below_size (by repeat (first | (with_reducible first | exact HB.out | apply below_alloc | apply pw_below_drewN | apply below_drew1) | exact HB.out)))); have n3_ := Aside0.mk (below_step (by repeat (first | (with_reducible first | exact HB.out | apply below_alloc | apply pw_below_drewN | apply below_drew1) | exact HB.out)) hb); clear HO231; clear HO234; clear HB; have HO231 := n0_; have HO234 := n1_; have HO239 := n2_; have HB := n3_; clear n0_ n1_ n2_ n3_; (try clear hb); (try clear hb2); (try clear hk); (try clear hi); (try clear ho0); obtain ⟨Ao28, co28, eo28⟩ := Kd.R_slice HO239.out; subst eo28) | (go_at_call 16; (with_reducible refine (proofmarkref08_Same.calls k _ _ t237 _ _ l3 t240 _ ?side1 ?side2 ?side3 ?side4 A24.out).mono ?_); (case side1 => repeat (first | exact (Kd.R_reads' HO239.out).2.2 | (with_reducible refine Kd.C_alloc ?_ _) | (with_reducible refine Kd.C_drewN ?_ _) | (with_reducible refine Kd.C_drew ?_))); (case side2 => exact (Kd.R_reads' HO239.out).2.1); (case side3 => repeat (first | exact (Kd.C_below HR3.out HB.out) | (with_reducible refine Kd.C_alloc ?_ _) | (with_reducible refine Kd.C_drewN ?_ _) | (with_reducible refine Kd.C_drew ?_))); (case side4 => exact HC3.out); rintro e w' ⟨rfl, ⟨nd, rfl⟩⟩; (try first | exact ⟨rfl, _, World.drewN_drewN _ _ _⟩ | exact ⟨rfl, _, Eq.trans (World.drewN_drewN _ _ _) (congrArg (World.drewN _) (Nat.add_assoc _ _ _))⟩))))
      go_meet
      case rel => exact ⟨_, (!t240), (by first | rfl | (simp; done) | (simp [*]; done)), H', ⟨by first | omega | exact Nat.le_refl _⟩, ⟨by (with_reducible repeat (first | apply Kd.R_alloc | apply Kd.R_drewN | apply Kd.R_drew)); exact Kd.R_mono HO231.out (fun _ hk => hk.1.2)⟩, ⟨by (with_reducible repeat (first | apply Kd.R_alloc | apply Kd.R_drewN | apply Kd.R_drew)); exact Kd.R_mono HO234.out (fun _ hk => hk.1.2)⟩, ⟨by repeat (first | (with_reducible first | exact HB.out | apply below_alloc | apply pw_below_drewN | apply below_drew1) | exact HB.out)⟩⟩
    ·rw [if_neg c18] at H
     have c18b0 : (t235 == (Go.bits .and .i64 (wrap64 (a0)) t228)) = false := beq_eq_false_iff_ne.mpr c18
     have c18b1 : (t235 != (Go.bits .and .i64 (wrap64 (a0)) t228)) = true := bne_iff_ne.mpr c18
     have H' := Aside0.mk H
     clear H
     obtain ⟨Ao29, co29, eo29⟩ := Kd.R_slice HO231.out
     subst eo29
     obtain ⟨Ao30, co30, eo30⟩ := Kd.R_slice HO234.out
     subst eo30
     go_wp2_with (first | (go_at_call 19; (with_reducible refine (vec_Num.calls k _ _ t229 t235 _ ?side1 ?side2 A17.out).mono ?_); (case side1 => repeat (first | exact (Kd.R_reads' HO231.out).2.2 | (with_reducible refine Kd.C_alloc ?_ _) | (with_reducible refine Kd.C_drewN ?_ _) | (with_reducible refine Kd.C_drew ?_))); (case side2 => exact (Kd.R_reads' HO231.out).2.1); rintro e w' ⟨rfl, ⟨nd, rfl⟩⟩; (try first | exact ⟨rfl, _, World.drewN_drewN _ _ _⟩ | exact ⟨rfl, _, Eq.trans (World.drewN_drewN _ _ _) (congrArg (World.drewN _) (Nat.add_assoc _ _ _))⟩)))
     repeat (go_quiet (first | (go_at_call 19; (with_reducible refine (vec_Num.calls k _ _ t229 t235 _ ?side1 ?side2 A17.out).mono ?_); (case side1 => repeat (first | exact (Kd.R_reads' HO231.out).2.2 | (with_reducible refine Kd.C_alloc ?_ _) | (with_reducible refine Kd.C_drewN ?_ _) | (with_reducible refine Kd.C_drew ?_))); (case side2 => exact (Kd.R_reads' HO231.out).2.1); rintro e w' ⟨rfl, ⟨nd, rfl⟩⟩; (try first | exact ⟨rfl, _, World.drewN_drewN _ _ _⟩ | exact ⟨rfl, _, Eq.trans (World.drewN_drewN _ _ _) (congrArg (World.drewN _) (Nat.add_assoc _ _ _))⟩))); try go_wp2_with (first | (go_at_call 19; (with_reducible refine (vec_Num.calls k _ _ t229 t235 _ ?side1 ?side2 A17.out).mono ?_); (case side1 => repeat (first | exact (Kd.R_reads' HO231.out).2.2 | (with_reducible refine Kd.C_alloc ?_ _) | (with_reducible refine Kd.C_drewN ?_ _) | (with_reducible refine Kd.C_drew ?_))); (case side2 => exact (Kd.R_reads' HO231.out).2.1); rintro e w' ⟨rfl, ⟨nd, rfl⟩⟩; (try first | exact ⟨rfl, _, World.drewN_drewN _ _ _⟩ | exact ⟨rfl, _, Eq.trans (World.drewN_drewN _ _ _) (congrArg (World.drewN _) (Nat.add_assoc _ _ _))⟩))))
     go_meet
     case rel => exact ⟨_, (true), (by first | rfl | (simp; done) | (simp [*]; done)), H', ⟨by first | omega | exact Nat.le_refl _⟩, ⟨by (with_reducible repeat (first | apply Kd.R_alloc | apply Kd.R_drewN | apply Kd.R_drew)); exact Kd.R_mono HO231.out (fun _ hk => hk.2)⟩, ⟨by (with_reducible repeat (first | apply Kd.R_alloc | apply Kd.R_drewN | apply Kd.R_drew)); exact Kd.R_mono HO234.out (fun _ hk => hk.2)⟩, ⟨by repeat (first | (with_reducible first | exact HB.out | apply below_alloc | apply pw_below_drewN | apply below_drew1) | exact HB.out)⟩⟩
   ·rw [if_neg c16] at H
    have c16b0 : ((t232.length : Int) == (wrap64 ((Int.tmod (wrap64 (a2)) 16) + 1))) = false := beq_eq_false_iff_ne.mpr c16
    have c16b1 : ((t232.length : Int) != (wrap64 ((Int.tmod (wrap64 (a2)) 16) + 1))) = true := bne_iff_ne.mpr c16
    have H' := Aside0.mk H
    clear H
    obtain ⟨Ao31, co31, eo31⟩ := Kd.R_slice HO231.out
    subst eo31
    obtain ⟨Ao32, co32, eo32⟩ := Kd.R_slice HO234.out
    subst eo32
    go_wp2
    repeat (go_quiet (fail); try go_wp2)
    go_meet
    case rel => exact ⟨_, (true), (by first | rfl | (simp; done) | (simp [*]; done)), H', ⟨by first | omega | exact Nat.le_refl _⟩, ⟨by (with_reducible repeat (first | apply Kd.R_alloc | apply Kd.R_drewN | apply Kd.R_drew)); exact Kd.R_mono HO231.out (fun _ hk => hk.2)⟩, ⟨by (with_reducible repeat (first | apply Kd.R_alloc | apply Kd.R_drewN | apply Kd.R_drew)); exact Kd.R_mono HO234.out (fun _ hk => hk.2)⟩, ⟨by repeat (first | (with_reducible first | exact HB.out | apply below_alloc | apply pw_below_drewN | apply below_drew1) | exact HB.out)⟩⟩
  ·rw [if_neg c15] at H
   have c15b0 : ((t229.length : Int) == (wrap64 ((Int.tmod (wrap64 (a2)) 16) + 1))) = false := beq_eq_false_iff_ne.mpr c15
   have c15b1 : ((t229.length : Int) != (wrap64 ((Int.tmod (wrap64 (a2)) 16) + 1))) = true := bne_iff_ne.mpr c15
   (first | rw [c15b0] | (simp only [i64_w, i32_w]; rw [c15b0]) | skip)
   have H' := Aside0.mk H
   clear H
   obtain ⟨Ao33, co33, eo33⟩ := Kd.R_slice HO231.out
   subst eo33
   go_wp2
   repeat (go_quiet (fail); try go_wp2)
   go_meet
   case rel => exact ⟨_, (true), (by first | rfl | (simp; done) | (simp [*]; done)), H', ⟨by first | omega | exact Nat.le_refl _⟩, ⟨by (with_reducible repeat (first | apply Kd.R_alloc | apply Kd.R_drewN | apply Kd.R_drew)); exact Kd.R_mono HO231.out (fun _ hk => hk.2)⟩, ⟨by (with_reducible repeat (first | apply Kd.R_alloc | apply Kd.R_drewN | apply Kd.R_drew)); exact Kd.R_mono HO234.out (fun _ hk => hk.2)⟩, ⟨by repeat (first | (with_reducible first | exact HB.out | apply below_alloc | apply pw_below_drewN | apply below_drew1) | exact HB.out)⟩⟩
 case rest =>
  clear HC11
  try clear c1
  try clear p2
  try clear c3
  try clear p6
  try clear c7
  try clear p8
  try clear c15
  try clear c15b0
  try clear c15b1
  try clear c16
  try clear c16b0
  try clear c16b1
  try clear c18
  try clear c18b0
  try clear c18b1
  try clear c19
  try clear c19b0
  try clear c19b1
  obtain ⟨kq, x71_10, rfl, HA, HJ10, HO_13, HO_14, HB⟩ := hcut
  cases kq with
  | zero => exact absurd HA.out (by simp [proofmarklaw08_VecBits.j0])
  | succ kj10 =>
   have H := HA.out
   clear HA
   simp only [proofmarklaw08_VecBits.j0] at H
   by_cases c34 : x71_10 = true
   ·subst c34
    have H1 : (if t227 = true then (some (decide ((l3.length : Int) > 32))) else (none)) = some r := by rw [if_pos rfl] at H; exact H
    clear H
    have H := H1
    clear H1
    by_cases c35 : t227 = true
    ·subst c35
     have H1 : (some (decide ((l3.length : Int) > 32))) = some r := by rw [if_pos rfl] at H; exact H
     clear H
     have H := H1
     clear H1
     obtain rfl := Option.some.inj H
     go_wp2
     repeat (go_quiet (fail); try go_wp2)
     go_ret
     exact ⟨by first | rfl | (simp [errW_none, errW_some] <;> rfl) | (simp [*, errW_none, errW_some] <;> rfl), by repeat (first | (with_reducible first | exact HB.out | apply below_alloc | apply pw_below_drewN | apply below_drew1) | exact HB.out)⟩
    ·replace c35 := Bool.eq_false_iff.mpr c35
     subst c35
     have H1 : (none) = some r := by rw [if_neg (show ¬ (false = true) by decide)] at H; exact H
     clear H
     have H := H1
     clear H1
     exact absurd H (by simp)
   ·replace c34 := Bool.eq_false_iff.mpr c34
    subst c34
    have H1 : ((vec_Do.f 6 (wrap64 ((Int.tmod (wrap64 (a2)) 16) + 1)) 0 0 0 0 0 (Go.bits .and .i64 (wrap64 (a0)) t228) (Go.bits .and .i64 (wrap64 (a1)) t228) 0 (wrap64 ((Int.tmod (wrap64 (a2)) 16) + 1))).bind fun t241 => ((vec_Bits.f kj10 t241 (wrap64 ((Int.tmod (wrap64 (a2)) 16) + 1))).bind fun t242 => ((vec_Do.f 7 (wrap64 ((Int.tmod (wrap64 (a2)) 16) + 1)) 0 0 0 0 0 (Go.bits .and .i64 (wrap64 (a0)) t228) (Go.bits .and .i64 (wrap64 (a1)) t228) 0 (wrap64 ((Int.tmod (wrap64 (a2)) 16) + 1))).bind fun t245 => ((vec_Bits.f kj10 t245 (wrap64 ((Int.tmod (wrap64 (a2)) 16) + 1))).bind fun t246 => ((vec_Do.f 8 (wrap64 ((Int.tmod (wrap64 (a2)) 16) + 1)) 0 0 0 0 0 (Go.bits .and .i64 (wrap64 (a0)) t228) (Go.bits .and .i64 (wrap64 (a1)) t228) 0 (wrap64 ((Int.tmod (wrap64 (a2)) 16) + 1))).bind fun t249 => ((vec_Bits.f kj10 t249 (wrap64 ((Int.tmod (wrap64 (a2)) 16) + 1))).bind fun t250 => ((vec_Do.f 3 (wrap64 ((Int.tmod (wrap64 (a2)) 16) + 1)) 0 0 0 0 0 (Go.bits .and .i64 (wrap64 (a0)) t228) 0 0 (wrap64 ((Int.tmod (wrap64 (a2)) 16) + 1))).bind fun t253 => ((vec_Bits.f kj10 t253 (wrap64 ((Int.tmod (wrap64 (a2)) 16) + 1))).bind fun t254 => (if (t242.length : Int) = (wrap64 ((Int.tmod (wrap64 (a2)) 16) + 1)) then (if (t246.length : Int) = (wrap64 ((Int.tmod (wrap64 (a2)) 16) + 1)) then (if (t250.length : Int) = (wrap64 ((Int.tmod (wrap64 (a2)) 16) + 1)) then (proofmarklaw08_VecBits.j1 kj10 t227 (wrap64 ((Int.tmod (wrap64 (a2)) 16) + 1)) t229 t232 t242 t246 t250 t254 ((t254.length : Int) != (wrap64 ((Int.tmod (wrap64 (a2)) 16) + 1)))) else (proofmarklaw08_VecBits.j1 kj10 t227 (wrap64 ((Int.tmod (wrap64 (a2)) 16) + 1)) t229 t232 t242 t246 t250 t254 true)) else (proofmarklaw08_VecBits.j1 kj10 t227 (wrap64 ((Int.tmod (wrap64 (a2)) 16) + 1)) t229 t232 t242 t246 t250 t254 true)) else (proofmarklaw08_VecBits.j1 kj10 t227 (wrap64 ((Int.tmod (wrap64 (a2)) 16) + 1)) t229 t232 t242 t246 t250 t254 true)))))))))) = some r := by rw [if_neg (show ¬ (false = true) by decide)] at H; exact H
    clear H
    have H := H1
    clear H1
    replace H := Option.bind_eq_some_iff.mp H
    obtain ⟨t241, A360, H⟩ := H
    replace H : ((vec_Bits.f kj10 t241 (wrap64 ((Int.tmod (wrap64 (a2)) 16) + 1))).bind fun t242 => ((vec_Do.f 7 (wrap64 ((Int.tmod (wrap64 (a2)) 16) + 1)) 0 0 0 0 0 (Go.bits .and .i64 (wrap64 (a0)) t228) (Go.bits .and .i64 (wrap64 (a1)) t228) 0 (wrap64 ((Int.tmod (wrap64 (a2)) 16) + 1))).bind fun t245 => ((vec_Bits.f kj10 t245 (wrap64 ((Int.tmod (wrap64 (a2)) 16) + 1))).bind fun t246 => ((vec_Do.f 8 (wrap64 ((Int.tmod (wrap64 (a2)) 16) + 1)) 0 0 0 0 0 (Go.bits .and .i64 (wrap64 (a0)) t228) (Go.bits .and .i64 (wrap64 (a1)) t228) 0 (wrap64 ((Int.tmod (wrap64 (a2)) 16) + 1))).bind fun t249 => ((vec_Bits.f kj10 t249 (wrap64 ((Int.tmod (wrap64 (a2)) 16) + 1))).bind fun t250 => ((vec_Do.f 3 (wrap64 ((Int.tmod (wrap64 (a2)) 16) + 1)) 0 0 0 0 0 (Go.bits .and .i64 (wrap64 (a0)) t228) 0 0 (wrap64 ((Int.tmod (wrap64 (a2)) 16) + 1))).bind fun t253 => ((vec_Bits.f kj10 t253 (wrap64 ((Int.tmod (wrap64 (a2)) 16) + 1))).bind fun t254 => (if (t242.length : Int) = (wrap64 ((Int.tmod (wrap64 (a2)) 16) + 1)) then (if (t246.length : Int) = (wrap64 ((Int.tmod (wrap64 (a2)) 16) + 1)) then (if (t250.length : Int) = (wrap64 ((Int.tmod (wrap64 (a2)) 16) + 1)) then (proofmarklaw08_VecBits.j1 kj10 t227 (wrap64 ((Int.tmod (wrap64 (a2)) 16) + 1)) t229 t232 t242 t246 t250 t254 ((t254.length : Int) != (wrap64 ((Int.tmod (wrap64 (a2)) 16) + 1)))) else (proofmarklaw08_VecBits.j1 kj10 t227 (wrap64 ((Int.tmod (wrap64 (a2)) 16) + 1)) t229 t232 t242 t246 t250 t254 true)) else (proofmarklaw08_VecBits.j1 kj10 t227 (wrap64 ((Int.tmod (wrap64 (a2)) 16) + 1)) t229 t232 t242 t246 t250 t254 true)) else (proofmarklaw08_VecBits.j1 kj10 t227 (wrap64 ((Int.tmod (wrap64 (a2)) 16) + 1)) t229 t232 t242 t246 t250 t254 true))))))))) = some r := H
    have A36 := Aside0.mk A360
    clear A360
    replace H := Option.bind_eq_some_iff.mp H
    obtain ⟨t242, A370, H⟩ := H
    replace H : ((vec_Do.f 7 (wrap64 ((Int.tmod (wrap64 (a2)) 16) + 1)) 0 0 0 0 0 (Go.bits .and .i64 (wrap64 (a0)) t228) (Go.bits .and .i64 (wrap64 (a1)) t228) 0 (wrap64 ((Int.tmod (wrap64 (a2)) 16) + 1))).bind fun t245 => ((vec_Bits.f kj10 t245 (wrap64 ((Int.tmod (wrap64 (a2)) 16) + 1))).bind fun t246 => ((vec_Do.f 8 (wrap64 ((Int.tmod (wrap64 (a2)) 16) + 1)) 0 0 0 0 0 (Go.bits .and .i64 (wrap64 (a0)) t228) (Go.bits .and .i64 (wrap64 (a1)) t228) 0 (wrap64 ((Int.tmod (wrap64 (a2)) 16) + 1))).bind fun t249 => ((vec_Bits.f kj10 t249 (wrap64 ((Int.tmod (wrap64 (a2)) 16) + 1))).bind fun t250 => ((vec_Do.f 3 (wrap64 ((Int.tmod (wrap64 (a2)) 16) + 1)) 0 0 0 0 0 (Go.bits .and .i64 (wrap64 (a0)) t228) 0 0 (wrap64 ((Int.tmod (wrap64 (a2)) 16) + 1))).bind fun t253 => ((vec_Bits.f kj10 t253 (wrap64 ((Int.tmod (wrap64 (a2)) 16) + 1))).bind fun t254 => (if (t242.length : Int) = (wrap64 ((Int.tmod (wrap64 (a2)) 16) + 1)) then (if (t246.length : Int) = (wrap64 ((Int.tmod (wrap64 (a2)) 16) + 1)) then (if (t250.length : Int) = (wrap64 ((Int.tmod (wrap64 (a2)) 16) + 1)) then (proofmarklaw08_VecBits.j1 kj10 t227 (wrap64 ((Int.tmod (wrap64 (a2)) 16) + 1)) t229 t232 t242 t246 t250 t254 ((t254.length : Int) != (wrap64 ((Int.tmod (wrap64 (a2)) 16) + 1)))) else (proofmarklaw08_VecBits.j1 kj10 t227 (wrap64 ((Int.tmod (wrap64 (a2)) 16) + 1)) t229 t232 t242 t246 t250 t254 true)) else (proofmarklaw08_VecBits.j1 kj10 t227 (wrap64 ((Int.tmod (wrap64 (a2)) 16) + 1)) t229 t232 t242 t246 t250 t254 true)) else (proofmarklaw08_VecBits.j1 kj10 t227 (wrap64 ((Int.tmod (wrap64 (a2)) 16) + 1)) t229 t232 t242 t246 t250 t254 true)))))))) = some r := H
    have A37 := Aside0.mk A370
    clear A370
    replace H := Option.bind_eq_some_iff.mp H
    obtain ⟨t245, A380, H⟩ := H
    replace H : ((vec_Bits.f kj10 t245 (wrap64 ((Int.tmod (wrap64 (a2)) 16) + 1))).bind fun t246 => ((vec_Do.f 8 (wrap64 ((Int.tmod (wrap64 (a2)) 16) + 1)) 0 0 0 0 0 (Go.bits .and .i64 (wrap64 (a0)) t228) (Go.bits .and .i64 (wrap64 (a1)) t228) 0 (wrap64 ((Int.tmod (wrap64 (a2)) 16) + 1))).bind fun t249 => ((vec_Bits.f kj10 t249 (wrap64 ((Int.tmod (wrap64 (a2)) 16) + 1))).bind fun t250 => ((vec_Do.f 3 (wrap64 ((Int.tmod (wrap64 (a2)) 16) + 1)) 0 0 0 0 0 (Go.bits .and .i64 (wrap64 (a0)) t228) 0 0 (wrap64 ((Int.tmod (wrap64 (a2)) 16) + 1))).bind fun t253 => ((vec_Bits.f kj10 t253 (wrap64 ((Int.tmod (wrap64 (a2)) 16) + 1))).bind fun t254 => (if (t242.length : Int) = (wrap64 ((Int.tmod (wrap64 (a2)) 16) + 1)) then (if (t246.length : Int) = (wrap64 ((Int.tmod (wrap64 (a2)) 16) + 1)) then (if (t250.length : Int) = (wrap64 ((Int.tmod (wrap64 (a2)) 16) + 1)) then (proofmarklaw08_VecBits.j1 kj10 t227 (wrap64 ((Int.tmod (wrap64 (a2)) 16) + 1)) t229 t232 t242 t246 t250 t254 ((t254.length : Int) != (wrap64 ((Int.tmod (wrap64 (a2)) 16) + 1)))) else (proofmarklaw08_VecBits.j1 kj10 t227 (wrap64 ((Int.tmod (wrap64 (a2)) 16) + 1)) t229 t232 t242 t246 t250 t254 true)) else (proofmarklaw08_VecBits.j1 kj10 t227 (wrap64 ((Int.tmod (wrap64 (a2)) 16) + 1)) t229 t232 t242 t246 t250 t254 true)) else (proofmarklaw08_VecBits.j1 kj10 t227 (wrap64 ((Int.tmod (wrap64 (a2)) 16) + 1)) t229 t232 t242 t246 t250 t254 true))))))) = some r := H
    have A38 := Aside0.mk A380
    clear A380
    replace H := Option.bind_eq_some_iff.mp H
    obtain ⟨t246, A390, H⟩ := H
    replace H : ((vec_Do.f 8 (wrap64 ((Int.tmod (wrap64 (a2)) 16) + 1)) 0 0 0 0 0 (Go.bits .and .i64 (wrap64 (a0)) t228) (Go.bits .and .i64 (wrap64 (a1)) t228) 0 (wrap64 ((Int.tmod (wrap64 (a2)) 16) + 1))).bind fun t249 => ((vec_Bits.f kj10 t249 (wrap64 ((Int.tmod (wrap64 (a2)) 16) + 1))).bind fun t250 => ((vec_Do.f 3 (wrap64 ((Int.tmod (wrap64 (a2)) 16) + 1)) 0 0 0 0 0 (Go.bits .and .i64 (wrap64 (a0)) t228) 0 0 (wrap64 ((Int.tmod (wrap64 (a2)) 16) + 1))).bind fun t253 => ((vec_Bits.f kj10 t253 (wrap64 ((Int.tmod (wrap64 (a2)) 16) + 1))).bind fun t254 => (if (t242.length : Int) = (wrap64 ((Int.tmod (wrap64 (a2)) 16) + 1)) then (if (t246.length : Int) = (wrap64 ((Int.tmod (wrap64 (a2)) 16) + 1)) then (if (t250.length : Int) = (wrap64 ((Int.tmod (wrap64 (a2)) 16) + 1)) then (proofmarklaw08_VecBits.j1 kj10 t227 (wrap64 ((Int.tmod (wrap64 (a2)) 16) + 1)) t229 t232 t242 t246 t250 t254 ((t254.length : Int) != (wrap64 ((Int.tmod (wrap64 (a2)) 16) + 1)))) else (proofmarklaw08_VecBits.j1 kj10 t227 (wrap64 ((Int.tmod (wrap64 (a2)) 16) + 1)) t229 t232 t242 t246 t250 t254 true)) else (proofmarklaw08_VecBits.j1 kj10 t227 (wrap64 ((Int.tmod (wrap64 (a2)) 16) + 1)) t229 t232 t242 t246 t250 t254 true)) else (proofmarklaw08_VecBits.j1 kj10 t227 (wrap64 ((Int.tmod (wrap64 (a2)) 16) + 1)) t229 t232 t242 t246 t250 t254 true)))))) = some r := H
    have A39 := Aside0.mk A390
    clear A390
    replace H := Option.bind_eq_some_iff.mp H
    obtain ⟨t249, A400, H⟩ := H
    replace H : ((vec_Bits.f kj10 t249 (wrap64 ((Int.tmod (wrap64 (a2)) 16) + 1))).bind fun t250 => ((vec_Do.f 3 (wrap64 ((Int.tmod (wrap64 (a2)) 16) + 1)) 0 0 0 0 0 (Go.bits .and .i64 (wrap64 (a0)) t228) 0 0 (wrap64 ((Int.tmod (wrap64 (a2)) 16) + 1))).bind fun t253 => ((vec_Bits.f kj10 t253 (wrap64 ((Int.tmod (wrap64 (a2)) 16) + 1))).bind fun t254 => (if (t242.length : Int) = (wrap64 ((Int.tmod (wrap64 (a2)) 16) + 1)) then (if (t246.length : Int) = (wrap64 ((Int.tmod (wrap64 (a2)) 16) + 1)) then (if (t250.length : Int) = (wrap64 ((Int.tmod (wrap64 (a2)) 16) + 1)) then (proofmarklaw08_VecBits.j1 kj10 t227 (wrap64 ((Int.tmod (wrap64 (a2)) 16) + 1)) t229 t232 t242 t246 t250 t254 ((t254.length : Int) != (wrap64 ((Int.tmod (wrap64 (a2)) 16) + 1)))) else (proofmarklaw08_VecBits.j1 kj10 t227 (wrap64 ((Int.tmod (wrap64 (a2)) 16) + 1)) t229 t232 t242 t246 t250 t254 true)) else (proofmarklaw08_VecBits.j1 kj10 t227 (wrap64 ((Int.tmod (wrap64 (a2)) 16) + 1)) t229 t232 t242 t246 t250 t254 true)) else (proofmarklaw08_VecBits.j1 kj10 t227 (wrap64 ((Int.tmod (wrap64 (a2)) 16) + 1)) t229 t232 t242 t246 t250 t254 true))))) = some r := H
    have A40 := Aside0.mk A400
    clear A400
    replace H := Option.bind_eq_some_iff.mp H
    obtain ⟨t250, A410, H⟩ := H
    replace H : ((vec_Do.f 3 (wrap64 ((Int.tmod (wrap64 (a2)) 16) + 1)) 0 0 0 0 0 (Go.bits .and .i64 (wrap64 (a0)) t228) 0 0 (wrap64 ((Int.tmod (wrap64 (a2)) 16) + 1))).bind fun t253 => ((vec_Bits.f kj10 t253 (wrap64 ((Int.tmod (wrap64 (a2)) 16) + 1))).bind fun t254 => (if (t242.length : Int) = (wrap64 ((Int.tmod (wrap64 (a2)) 16) + 1)) then (if (t246.length : Int) = (wrap64 ((Int.tmod (wrap64 (a2)) 16) + 1)) then (if (t250.length : Int) = (wrap64 ((Int.tmod (wrap64 (a2)) 16) + 1)) then (proofmarklaw08_VecBits.j1 kj10 t227 (wrap64 ((Int.tmod (wrap64 (a2)) 16) + 1)) t229 t232 t242 t246 t250 t254 ((t254.length : Int) != (wrap64 ((Int.tmod (wrap64 (a2)) 16) + 1)))) else (proofmarklaw08_VecBits.j1 kj10 t227 (wrap64 ((Int.tmod (wrap64 (a2)) 16) + 1)) t229 t232 t242 t246 t250 t254 true)) else (proofmarklaw08_VecBits.j1 kj10 t227 (wrap64 ((Int.tmod (wrap64 (a2)) 16) + 1)) t229 t232 t242 t246 t250 t254 true)) else (proofmarklaw08_VecBits.j1 kj10 t227 (wrap64 ((Int.tmod (wrap64 (a2)) 16) + 1)) t229 t232 t242 t246 t250 t254 true)))) = some r := H
    have A41 := Aside0.mk A410
    clear A410
    replace H := Option.bind_eq_some_iff.mp H
    obtain ⟨t253, A420, H⟩ := H
    replace H : ((vec_Bits.f kj10 t253 (wrap64 ((Int.tmod (wrap64 (a2)) 16) + 1))).bind fun t254 => (if (t242.length : Int) = (wrap64 ((Int.tmod (wrap64 (a2)) 16) + 1)) then (if (t246.length : Int) = (wrap64 ((Int.tmod (wrap64 (a2)) 16) + 1)) then (if (t250.length : Int) = (wrap64 ((Int.tmod (wrap64 (a2)) 16) + 1)) then (proofmarklaw08_VecBits.j1 kj10 t227 (wrap64 ((Int.tmod (wrap64 (a2)) 16) + 1)) t229 t232 t242 t246 t250 t254 ((t254.length : Int) != (wrap64 ((Int.tmod (wrap64 (a2)) 16) + 1)))) else (proofmarklaw08_VecBits.j1 kj10 t227 (wrap64 ((Int.tmod (wrap64 (a2)) 16) + 1)) t229 t232 t242 t246 t250 t254 true)) else (proofmarklaw08_VecBits.j1 kj10 t227 (wrap64 ((Int.tmod (wrap64 (a2)) 16) + 1)) t229 t232 t242 t246 t250 t254 true)) else (proofmarklaw08_VecBits.j1 kj10 t227 (wrap64 ((Int.tmod (wrap64 (a2)) 16) + 1)) t229 t232 t242 t246 t250 t254 true))) = some r := H
    have A42 := Aside0.mk A420
    clear A420
    replace H := Option.bind_eq_some_iff.mp H
    obtain ⟨t254, A430, H⟩ := H
    replace H : (if (t242.length : Int) = (wrap64 ((Int.tmod (wrap64 (a2)) 16) + 1)) then (if (t246.length : Int) = (wrap64 ((Int.tmod (wrap64 (a2)) 16) + 1)) then (if (t250.length : Int) = (wrap64 ((Int.tmod (wrap64 (a2)) 16) + 1)) then (proofmarklaw08_VecBits.j1 kj10 t227 (wrap64 ((Int.tmod (wrap64 (a2)) 16) + 1)) t229 t232 t242 t246 t250 t254 ((t254.length : Int) != (wrap64 ((Int.tmod (wrap64 (a2)) 16) + 1)))) else (proofmarklaw08_VecBits.j1 kj10 t227 (wrap64 ((Int.tmod (wrap64 (a2)) 16) + 1)) t229 t232 t242 t246 t250 t254 true)) else (proofmarklaw08_VecBits.j1 kj10 t227 (wrap64 ((Int.tmod (wrap64 (a2)) 16) + 1)) t229 t232 t242 t246 t250 t254 true)) else (proofmarklaw08_VecBits.j1 kj10 t227 (wrap64 ((Int.tmod (wrap64 (a2)) 16) + 1)) t229 t232 t242 t246 t250 t254 true)) = some r := H
    have A43 := Aside0.mk A430
    clear A430
    have HC44 := Aside0.mk H
    clear H
    go_upto_region 13 with (first | (go_at_call 12; (with_reducible refine (vec_Do.calls 6 (wrap64 ((Int.tmod (wrap64 (a2)) 16) + 1)) 0 0 0 0 0 (Go.bits .and .i64 (wrap64 (a0)) t228) (Go.bits .and .i64 (wrap64 (a1)) t228) 0 (wrap64 ((Int.tmod (wrap64 (a2)) 16) + 1)) t241 _ A36.out).mono ?_); rintro e w45 ⟨rfl, hb⟩; have n0_ := Aside0.mk (Kd.R_below (by (with_reducible repeat (first | apply Kd.R_alloc | apply Kd.R_drewN | apply Kd.R_drew)); exact HO_13.out) hb); have n1_ := Aside0.mk (Kd.R_below (by (with_reducible repeat (first | apply Kd.R_alloc | apply Kd.R_drewN | apply Kd.R_drew)); exact HO_14.out) hb); have n2_ := Aside0.mk (below_step (by repeat (first | (with_reducible first | exact HB.out | apply below_alloc | apply pw_below_drewN | apply below_drew1) | exact HB.out)) hb); clear HO_13; clear HO_14; clear HB; have HO_13 := n0_; have HO_14 := n1_; have HB := n2_; clear n0_ n1_ n2_; (try clear hb); (try clear hb2); (try clear hk); (try clear hi)) | (go_at_call 17; (with_reducible refine (vec_Bits.calls kj10 t241 (wrap64 ((Int.tmod (wrap64 (a2)) 16) + 1)) t242 _ A37.out).mono ?_); rintro e w46 ⟨v243, rfl, ho0, hb⟩; have n0_ := Aside0.mk (Kd.R_elder' (by (with_reducible repeat (first | apply Kd.R_alloc | apply Kd.R_drewN | apply Kd.R_drew)); exact HO_13.out) (Kd.R_base ho0) hb); have n1_ := Aside0.mk (Kd.R_elder' (by (with_reducible repeat (first | apply Kd.R_alloc | apply Kd.R_drewN | apply Kd.R_drew)); exact HO_14.out) (Kd.R_base ho0) hb); have n2_ := Aside0.mk (Kd.R_lower (Kd.R_new' (Kd.R_new' ho0 (Kd.R_lt (by (with_reducible repeat (first | apply Kd.R_alloc | apply Kd.R_drewN | apply Kd.R_drew)); exact HO_13.out))) (Kd.R_lt (by (with_reducible repeat (first | apply Kd.R_alloc | apply Kd.R_drewN | apply Kd.R_drew)); exact HO_14.out))) (below_size (by repeat (first | (with_reducible first | exact HB.out | apply below_alloc | apply pw_below_drewN | apply below_drew1) | exact HB.out)))); have n3_ := Aside0.mk (below_step (by repeat (first | (with_reducible first | exact HB.out | apply below_alloc | apply pw_below_drewN | apply below_drew1) | exact HB.out)) hb); clear HO_13; clear HO_14; clear HB; have HO_13 := n0_; have HO_14 := n1_; have HO244 := n2_; have HB := n3_; clear n0_ n1_ n2_ n3_; (try clear hb); (try clear hb2); (try clear hk); (try clear hi); (try clear ho0)) | (go_at_call 12; (with_reducible refine (vec_Do.calls 7 (wrap64 ((Int.tmod (wrap64 (a2)) 16) + 1)) 0 0 0 0 0 (Go.bits .and .i64 (wrap64 (a0)) t228) (Go.bits .and .i64 (wrap64 (a1)) t228) 0 (wrap64 ((Int.tmod (wrap64 (a2)) 16) + 1)) t245 _ A38.out).mono ?_); rintro e w47 ⟨rfl, hb⟩; have n0_ := Aside0.mk (Kd.R_below (by (with_reducible repeat (first | apply Kd.R_alloc | apply Kd.R_drewN | apply Kd.R_drew)); exact HO_13.out) hb); have n1_ := Aside0.mk (Kd.R_below (by (with_reducible repeat (first | apply Kd.R_alloc | apply Kd.R_drewN | apply Kd.R_drew)); exact HO_14.out) hb); have n2_ := Aside0.mk (Kd.R_below (by (with_reducible repeat (first | apply Kd.R_alloc | apply Kd.R_drewN | apply Kd.R_drew)); exact HO244.out) hb); have n3_ := Aside0.mk (below_step (by repeat (first | (with_reducible first | exact HB.out | apply below_alloc | apply pw_below_drewN | apply below_drew1) | exact HB.out)) hb); clear HO_13; clear HO_14; clear HO244; clear HB; have HO_13 := n0_; have HO_14 := n1_; have HO244 := n2_; have HB := n3_; clear n0_ n1_ n2_ n3_; (try clear hb); (try clear hb2); (try clear hk); (try clear hi)) | (go_at_call 17; (with_reducible refine (vec_Bits.calls kj10 t245 (wrap64 ((Int.tmod (wrap64 (a2)) 16) + 1)) t246 _ A39.out).mono ?_); rintro e w48 ⟨v247, rfl, ho0, hb⟩; have n0_ := Aside0.mk (Kd.R_elder' (by (with_reducible repeat (first | apply Kd.R_alloc | apply Kd.R_drewN | apply Kd.R_drew)); exact HO_13.out) (Kd.R_base ho0) hb); have n1_ := Aside0.mk (Kd.R_elder' (by (with_reducible repeat (first | apply Kd.R_alloc | apply Kd.R_drewN | apply Kd.R_drew)); exact HO_14.out) (Kd.R_base ho0) hb); have n2_ := Aside0.mk (Kd.R_elder' (by (with_reducible repeat (first | apply Kd.R_alloc | apply Kd.R_drewN | apply Kd.R_drew)); exact HO244.out) (Kd.R_base ho0) hb); have n3_ := Aside0.mk (Kd.R_lower (Kd.R_new' (Kd.R_new' (Kd.R_new' ho0 (Kd.R_lt (by (with_reducible repeat (first | apply Kd.R_alloc | apply Kd.R_drewN | apply Kd.R_drew)); exact HO_13.out))) (Kd.R_lt (by (with_reducible repeat (first | apply Kd.R_alloc | apply Kd.R_drewN | apply Kd.R_drew)); exact HO_14.out))) (Kd.R_lt (by (with_reducible repeat (first | apply Kd.R_alloc | apply Kd.R_drewN | apply Kd.R_drew)); exact HO244.out))) (below_size (by repeat (first | (with_reducible first | exact HB.out | apply below_alloc | apply pw_below_drewN | apply below_drew1) | exact HB.out)))); have n4_ := Aside0.mk (below_step (by repeat (first | (with_reducible first | exact HB.out | apply below_alloc | apply pw_below_drewN | apply below_drew1) | exact HB.out)) hb); clear HO_13; clear HO_14; clear HO244; clear HB; have HO_13 := n0_; have HO_14 := n1_; have HO244 := n2_; have HO248 := n3_; have HB := n4_; clear n0_ n1_ n2_ n3_ n4_; (try clear hb); (try clear hb2); (try clear hk); (try clear hi); (try clear ho0)) | (go_at_call 12; (with_reducible refine (vec_Do.calls 8 (wrap64 ((Int.tmod (wrap64 (a2)) 16) + 1)) 0 0 0 0 0 (Go.bits .and .i64 (wrap64 (a0)) t228) (Go.bits .and .i64 (wrap64 (a1)) t228) 0 (wrap64 ((Int.tmod (wrap64 (a2)) 16) + 1)) t249 _ A40.out).mono ?_); rintro e w49 ⟨rfl, hb⟩; have n0_ := Aside0.mk (Kd.R_below (by (with_reducible repeat (first | apply Kd.R_alloc | apply Kd.R_drewN | apply Kd.R_drew)); exact HO_13.out) hb); have n1_ := Aside0.mk (Kd.R_below (by (with_reducible repeat (first | apply Kd.R_alloc | apply Kd.R_drewN | apply Kd.R_drew)); exact HO_14.out) hb); have n2_ := Aside0.mk (Kd.R_below (by (with_reducible repeat (first | apply Kd.R_alloc | apply Kd.R_drewN | apply Kd.R_drew)); exact HO244.out) hb); have n3_ := Aside0.mk (Kd.R_below (by (with_reducible repeat (first | apply Kd.R_alloc | apply Kd.R_drewN | apply Kd.R_drew)); exact HO248.out) hb); have n4_ := Aside0.mk (below_step (by repeat (first | (with_reducible first | exact HB.out | apply below_alloc | apply pw_below_drewN | apply below_drew1) | exact HB.out)) hb); clear HO_13; clear HO_14; clear HO244; clear HO248; clear HB; have HO_13 := n0_; have HO_14 := n1_; have HO244 := n2_; have HO248 := n3_; have HB := n4_; clear n0_ n1_ n2_ n3_ n4_; (try clear hb); (try clear hb2); (try clear hk); (try clear hi)) | (go_at_call 17; (with_reducible refine (vec_Bits.calls kj10 t249 (wrap64 ((Int.tmod (wrap64 (a2)) 16) + 1)) t250 _ A41.out).mono ?_); rintro e w50 ⟨v251, rfl, ho0, hb⟩; have n0_ := Aside0.mk (Kd.R_elder' (by (with_reducible repeat (first | apply Kd.R_alloc | apply Kd.R_drewN | apply Kd.R_drew)); exact HO_13.out) (Kd.R_base ho0) hb); have n1_ := Aside0.mk (Kd.R_elder' (by (with_reducible repeat (first | apply Kd.R_alloc | apply Kd.R_drewN | apply Kd.R_drew)); exact HO_14.out) (Kd.R_base ho0) hb); have n2_ := Aside0.mk (Kd.R_elder' (by (with_reducible repeat (first | apply Kd.R_alloc | apply Kd.R_drewN | apply Kd.R_drew)); exact HO244.out) (Kd.R_base ho0) hb); have n3_ := Aside0.mk (Kd.R_elder' (by (with_reducible repeat (first | apply Kd.R_alloc | apply Kd.R_drewN | apply Kd.R_drew)); exact HO248.out) (Kd.R_base ho0) hb); have n4_ := Aside0.mk (Kd.R_lower (Kd.R_new' (Kd.R_new' (Kd.R_new' (Kd.R_new' ho0 (Kd.R_lt (by (with_reducible repeat (first | apply Kd.R_alloc | apply Kd.R_drewN | apply Kd.R_drew)); exact HO_13.out))) (Kd.R_lt (by (with_reducible repeat (first | apply Kd.R_alloc | apply Kd.R_drewN | apply Kd.R_drew)); exact HO_14.out))) (Kd.R_lt (by (with_reducible repeat (first | apply Kd.R_alloc | apply Kd.R_drewN | apply Kd.R_drew)); exact HO244.out))) (Kd.R_lt (by (with_reducible repeat (first | apply Kd.R_alloc | apply Kd.R_drewN | apply Kd.R_drew)); exact HO248.out))) (below_size (by repeat (first | (with_reducible first | exact HB.out | apply below_alloc | apply pw_below_drewN | apply below_drew1) | exact HB.out)))); have n5_ := Aside0.mk (below_step (by repeat (first | (with_reducible first | exact HB.out | apply below_alloc | apply pw_below_drewN | apply below_drew1) | exact HB.out)) hb); clear HO_13; clear HO_14; clear HO244; clear HO248; clear HB; have HO_13 := n0_; have HO_14 := n1_; have HO244 := n2_; have HO248 := n3_; have HO252 := n4_; have HB := n5_; clear n0_ n1_ n2_ n3_ n4_ n5_; (try clear hb); (try clear hb2); (try clear hk); (try clear hi); (try clear ho0)) | (go_at_call 12; (with_reducible refine (vec_Do.calls 3 (wrap64 ((Int.tmod (wrap64 (a2)) 16) + 1)) 0 0 0 0 0 (Go.bits .and .i64 (wrap64 (a0)) t228) 0 0 (wrap64 ((Int.tmod (wrap64 (a2)) 16) + 1)) t253 _ A42.out).mono ?_); rintro e w51 ⟨rfl, hb⟩; have n0_ := Aside0.mk (Kd.R_below (by (with_reducible repeat (first | apply Kd.R_alloc | apply Kd.R_drewN | apply Kd.R_drew)); exact HO_13.out) hb); have n1_ := Aside0.mk (Kd.R_below (by (with_reducible repeat (first | apply Kd.R_alloc | apply Kd.R_drewN | apply Kd.R_drew)); exact HO_14.out) hb); have n2_ := Aside0.mk (Kd.R_below (by (with_reducible repeat (first | apply Kd.R_alloc | apply Kd.R_drewN | apply Kd.R_drew)); exact HO244.out) hb); have n3_ := Aside0.mk (Kd.R_below (by (with_reducible repeat (first | apply Kd.R_alloc | apply Kd.R_drewN | apply Kd.R_drew)); exact HO248.out) hb); have n4_ := Aside0.mk (Kd.R_below (by (with_reducible repeat (first | apply Kd.R_alloc | apply Kd.R_drewN | apply Kd.R_drew)); exact HO252.out) hb); have n5_ := Aside0.mk (below_step (by repeat (first | (with_reducible first | exact HB.out | apply below_alloc | apply pw_below_drewN | apply below_drew1) | exact HB.out)) hb); clear HO_13; clear HO_14; clear HO244; clear HO248; clear HO252; clear HB; have HO_13 := n0_; have HO_14 := n1_; have HO244 := n2_; have HO248 := n3_; have HO252 := n4_; have HB := n5_; clear n0_ n1_ n2_ n3_ n4_ n5_; (try clear hb); (try clear hb2); (try clear hk); (try clear hi)) | (go_at_call 17; (with_reducible refine (vec_Bits.calls kj10 t253 (wrap64 ((Int.tmod (wrap64 (a2)) 16) + 1)) t254 _ A43.out).mono ?_); rintro e w52 ⟨v255, rfl, ho0, hb⟩; have n0_ := Aside0.mk (Kd.R_elder' (by (with_reducible repeat (first | apply Kd.R_alloc | apply Kd.R_drewN | apply Kd.R_drew)); exact HO_13.out) (Kd.R_base ho0) hb); have n1_ := Aside0.mk (Kd.R_elder' (by (with_reducible repeat (first | apply Kd.R_alloc | apply Kd.R_drewN | apply Kd.R_drew)); exact HO_14.out) (Kd.R_base ho0) hb); have n2_ := Aside0.mk (Kd.R_elder' (by (with_reducible repeat (first | apply Kd.R_alloc | apply Kd.R_drewN | apply Kd.R_drew)); exact HO244.out) (Kd.R_base ho0) hb); have n3_ := Aside0.mk (Kd.R_elder' (by (with_reducible repeat (first | apply Kd.R_alloc | apply Kd.R_drewN | apply Kd.R_drew)); exact HO248.out) (Kd.R_base ho0) hb); have n4_ := Aside0.mk (Kd.R_elder' (by (with_reducible repeat (first | apply Kd.R_alloc | apply Kd.R_drewN | apply Kd.R_drew)); exact HO252.out) (Kd.R_base ho0) hb); have n5_ := Aside0.mk (Kd.R_lower (Kd.R_new' (Kd.R_new' (Kd.R_new' (Kd.R_new' (Kd.R_new' ho0 (Kd.R_lt (by (with_reducible repeat (first | apply Kd.R_alloc | apply Kd.R_drewN | apply Kd.R_drew)); exact HO_13.out))) (Kd.R_lt (by (with_reducible repeat (first | apply Kd.R_alloc | apply Kd.R_drewN | apply Kd.R_drew)); exact HO_14.out))) (Kd.R_lt (by (with_reducible repeat (first | apply Kd.R_alloc | apply Kd.R_drewN | apply Kd.R_drew)); exact HO244.out))) (Kd.R_lt (by (with_reducible repeat (first | apply Kd.R_alloc | apply Kd.R_drewN | apply Kd.R_drew)); exact HO248.out))) (Kd.R_lt (by (with_reducible repeat (first | apply Kd.R_alloc | apply Kd.R_drewN | apply Kd.R_drew)); exact HO252.out))) (below_size (by repeat (first | (with_reducible first | exact HB.out | apply below_alloc | apply pw_below_drewN | apply below_drew1) | exact HB.out)))); have n6_ := Aside0.mk (below_step (by repeat (first | (with_reducible first | exact HB.out | apply below_alloc | apply pw_below_drewN | apply below_drew1) | exact HB.out)) hb); clear HO_13; clear HO_14; clear HO244; clear HO248; clear HO252; clear HB; have HO_13 := n0_; have HO_14 := n1_; have HO244 := n2_; have HO248 := n3_; have HO252 := n4_; have HO256 := n5_; have HB := n6_; clear n0_ n1_ n2_ n3_ n4_ n5_ n6_; (try clear hb); (try clear hb2); (try clear hk); (try clear hi); (try clear ho0)))
    repeat (go_quiet (first | (go_at_call 12; (with_reducible refine (vec_Do.calls 6 (wrap64 ((Int.tmod (wrap64 (a2)) 16) + 1)) 0 0 0 0 0 (Go.bits .and .i64 (wrap64 (a0)) t228) (Go.bits .and .i64 (wrap64 (a1)) t228) 0 (wrap64 ((Int.tmod (wrap64 (a2)) 16) + 1)) t241 _ A36.out).mono ?_); rintro e w45 ⟨rfl, hb⟩; have n0_ := Aside0.mk (Kd.R_below (by (with_reducible repeat (first | apply Kd.R_alloc | apply Kd.R_drewN | apply Kd.R_drew)); exact HO_13.out) hb); have n1_ := Aside0.mk (Kd.R_below (by (with_reducible repeat (first | apply Kd.R_alloc | apply Kd.R_drewN | apply Kd.R_drew)); exact HO_14.out) hb); have n2_ := Aside0.mk (below_step (by repeat (first | (with_reducible first | exact HB.out | apply below_alloc | apply pw_below_drewN | apply below_drew1) | exact HB.out)) hb); clear HO_13; clear HO_14; clear HB; have HO_13 := n0_; have HO_14 := n1_; have HB := n2_; clear n0_ n1_ n2_; (try clear hb); (try clear hb2); (try clear hk); (try clear hi)) | (go_at_call 17; (with_reducible refine (vec_Bits.calls kj10 t241 (wrap64 ((Int.tmod (wrap64 (a2)) 16) + 1)) t242 _ A37.out).mono ?_); rintro e w46 ⟨v243, rfl, ho0, hb⟩; have n0_ := Aside0.mk (Kd.R_elder' (by (with_reducible repeat (first | apply Kd.R_alloc | apply Kd.R_drewN | apply Kd.R_drew)); exact HO_13.out) (Kd.R_base ho0) hb); have n1_ := Aside0.mk (Kd.R_elder' (by (with_reducible repeat (first | apply Kd.R_alloc | apply Kd.R_drewN | apply Kd.R_drew)); exact HO_14.out) (Kd.R_base ho0) hb); have n2_ := Aside0.mk (Kd.R_lower (Kd.R_new' (Kd.R_new' ho0 (Kd.R_lt (by (with_reducible repeat (first | apply Kd.R_alloc | apply Kd.R_drewN | apply Kd.R_drew)); exact HO_13.out))) (Kd.R_lt (by (with_reducible repeat (first | apply Kd.R_alloc | apply Kd.R_drewN | apply Kd.R_drew)); exact HO_14.out))) (below_size (by repeat (first | (with_reducible first | exact HB.out | apply below_alloc | apply pw_below_drewN | apply below_drew1) | exact HB.out)))); have n3_ := Aside0.mk (below_step (by repeat (first | (with_reducible first | exact HB.out | apply below_alloc | apply pw_below_drewN | apply below_drew1) | exact HB.out)) hb); clear HO_13; clear HO_14; clear HB; have HO_13 := n0_; have HO_14 := n1_; have HO244 := n2_; have HB := n3_; clear n0_ n1_ n2_ n3_; (try clear hb); (try clear hb2); (try clear hk); (try clear hi); (try clear ho0)) | (go_at_call 12; (with_reducible refine (vec_Do.calls 7 (wrap64 ((Int.tmod (wrap64 (a2)) 16) + 1)) 0 0 0 0 0 (Go.bits .and .i64 (wrap64 (a0)) t228) (Go.bits .and .i64 (wrap64 (a1)) t228) 0 (wrap64 ((Int.tmod (wrap64 (a2)) 16) + 1)) t245 _ A38.out).mono ?_); rintro e w47 ⟨rfl, hb⟩; have n0_ := Aside0.mk (Kd.R_below (by (with_reducible repeat (first | apply Kd.R_alloc | apply Kd.R_drewN | apply Kd.R_drew)); exact HO_13.out) hb); have n1_ := Aside0.mk (Kd.R_below (by (with_reducible repeat (first | apply Kd.R_alloc | apply Kd.R_drewN | apply Kd.R_drew)); exact HO_14.out) hb); have n2_ := Aside0.mk (Kd.R_below (by (with_reducible repeat (first | apply Kd.R_alloc | apply Kd.R_drewN | apply Kd.R_drew)); exact HO244.out) hb); have n3_ := Aside0.mk (below_step (by repeat (first | (with_reducible first | exact HB.out | apply below_alloc | apply pw_below_drewN | apply below_drew1) | exact HB.out)) hb); clear HO_13; clear HO_14; clear HO244; clear HB; have HO_13 := n0_; have HO_14 := n1_; have HO244 := n2_; have HB := n3_; clear n0_ n1_ n2_ n3_; (try clear hb); (try clear hb2); (try clear hk); (try clear hi)) | (go_at_call 17; (with_reducible refine (vec_Bits.calls kj10 t245 (wrap64 ((Int.tmod (wrap64 (a2)) 16) + 1)) t246 _ A39.out).mono ?_); rintro e w48 ⟨v247, rfl, ho0, hb⟩; have n0_ := Aside0.mk (Kd.R_elder' (by (with_reducible repeat (first | apply Kd.R_alloc | apply Kd.R_drewN | apply Kd.R_drew)); exact HO_13.out) (Kd.R_base ho0) hb); have n1_ := Aside0.mk (Kd.R_elder' (by (with_reducible repeat (first | apply Kd.R_alloc | apply Kd.R_drewN | apply Kd.R_drew)); exact HO_14.out) (Kd.R_base ho0) hb); have n2_ := Aside0.mk (Kd.R_elder' (by (with_reducible repeat (first | apply Kd.R_alloc | apply Kd.R_drewN | apply Kd.R_drew)); exact HO244.out) (Kd.R_base ho0) hb); have n3_ := Aside0.mk (Kd.R_lower (Kd.R_new' (Kd.R_new' (Kd.R_new' ho0 (Kd.R_lt (by (with_reducible repeat (first | apply Kd.R_alloc | apply Kd.R_drewN | apply Kd.R_drew)); exact HO_13.out))) (Kd.R_lt (by (with_reducible repeat (first | apply Kd.R_alloc | apply Kd.R_drewN | apply Kd.R_drew)); exact HO_14.out))) (Kd.R_lt (by (with_reducible repeat (first | apply Kd.R_alloc | apply Kd.R_drewN | apply Kd.R_drew)); exact HO244.out))) (below_size (by repeat (first | (with_reducible first | exact HB.out | apply below_alloc | apply pw_below_drewN | apply below_drew1) | exact HB.out)))); have n4_ := Aside0.mk (below_step (by repeat (first | (with_reducible first | exact HB.out | apply below_alloc | apply pw_below_drewN | apply below_drew1) | exact HB.out)) hb); clear HO_13; clear HO_14; clear HO244; clear HB; have HO_13 := n0_; have HO_14 := n1_; have HO244 := n2_; have HO248 := n3_; have HB := n4_; clear n0_ n1_ n2_ n3_ n4_; (try clear hb); (try clear hb2); (try clear hk); (try clear hi); (try clear ho0)) | (go_at_call 12; (with_reducible refine (vec_Do.calls 8 (wrap64 ((Int.tmod (wrap64 (a2)) 16) + 1)) 0 0 0 0 0 (Go.bits .and .i64 (wrap64 (a0)) t228) (Go.bits .and .i64 (wrap64 (a1)) t228) 0 (wrap64 ((Int.tmod (wrap64 (a2)) 16) + 1)) t249 _ A40.out).mono ?_); rintro e w49 ⟨rfl, hb⟩; have n0_ := Aside0.mk (Kd.R_below (by (with_reducible repeat (first | apply Kd.R_alloc | apply Kd.R_drewN | apply Kd.R_drew)); exact HO_13.out) hb); have n1_ := Aside0.mk (Kd.R_below (by (with_reducible repeat (first | apply Kd.R_alloc | apply Kd.R_drewN | apply Kd.R_drew)); exact HO_14.out) hb); have n2_ := Aside0.mk (Kd.R_below (by (with_reducible repeat (first | apply Kd.R_alloc | apply Kd.R_drewN | apply Kd.R_drew)); exact HO244.out) hb); have n3_ := Aside0.mk (Kd.R_below (by (with_reducible repeat (first | apply Kd.R_alloc | apply Kd.R_drewN | apply Kd.R_drew)); exact HO248.out) hb); have n4_ := Aside0.mk (below_step (by repeat (first | (with_reducible first | exact HB.out | apply below_alloc | apply pw_below_drewN | apply below_drew1) | exact HB.out)) hb); clear HO_13; clear HO_14; clear HO244; clear HO248; clear HB; have HO_13 := n0_; have HO_14 := n1_; have HO244 := n2_; have HO248 := n3_; have HB := n4_; clear n0_ n1_ n2_ n3_ n4_; (try clear hb); (try clear hb2); (try clear hk); (try clear hi)) | (go_at_call 17; (with_reducible refine (vec_Bits.calls kj10 t249 (wrap64 ((Int.tmod (wrap64 (a2)) 16) + 1)) t250 _ A41.out).mono ?_); rintro e w50 ⟨v251, rfl, ho0, hb⟩; have n0_ := Aside0.mk (Kd.R_elder' (by (with_reducible repeat (first | apply Kd.R_alloc | apply Kd.R_drewN | apply Kd.R_drew)); exact HO_13.out) (Kd.R_base ho0) hb); have n1_ := Aside0.mk (Kd.R_elder' (by (with_reducible repeat (first | apply Kd.R_alloc | apply Kd.R_drewN | apply Kd.R_drew)); exact HO_14.out) (Kd.R_base ho0) hb); have n2_ := Aside0.mk (Kd.R_elder' (by (with_reducible repeat (first | apply Kd.R_alloc | apply Kd.R_drewN | apply Kd.R_drew)); exact HO244.out) (Kd.R_base ho0) hb); have n3_ := Aside0.mk (Kd.R_elder' (by (with_reducible repeat (first | apply Kd.R_alloc | apply Kd.R_drewN | apply Kd.R_drew)); exact HO248.out) (Kd.R_base ho0) hb); have n4_ := Aside0.mk (Kd.R_lower (Kd.R_new' (Kd.R_new' (Kd.R_new' (Kd.R_new' ho0 (Kd.R_lt (by (with_reducible repeat (first | apply Kd.R_alloc | apply Kd.R_drewN | apply Kd.R_drew)); exact HO_13.out))) (Kd.R_lt (by (with_reducible repeat (first | apply Kd.R_alloc | apply Kd.R_drewN | apply Kd.R_drew)); exact HO_14.out))) (Kd.R_lt (by (with_reducible repeat (first | apply Kd.R_alloc | apply Kd.R_drewN | apply Kd.R_drew)); exact HO244.out))) (Kd.R_lt (by (with_reducible repeat (first | apply Kd.R_alloc | apply Kd.R_drewN | apply Kd.R_drew)); exact HO248.out))) (below_size (by repeat (first | (with_reducible first | exact HB.out | apply below_alloc | apply pw_below_drewN | apply below_drew1) | exact HB.out)))); have n5_ := Aside0.mk (below_step (by repeat (first | (with_reducible first | exact HB.out | apply below_alloc | apply pw_below_drewN | apply below_drew1) | exact HB.out)) hb); clear HO_13; clear HO_14; clear HO244; clear HO248; clear HB; have HO_13 := n0_; have HO_14 := n1_; have HO244 := n2_; have HO248 := n3_; have HO252 := n4_; have HB := n5_; clear n0_ n1_ n2_ n3_ n4_ n5_; (try clear hb); (try clear hb2); (try clear hk); (try clear hi); (try clear ho0)) | (go_at_call 12; (with_reducible refine (vec_Do.calls 3 (wrap64 ((Int.tmod (wrap64 (a2)) 16) + 1)) 0 0 0 0 0 (Go.bits .and .i64 (wrap64 (a0)) t228) 0 0 (wrap64 ((Int.tmod (wrap64 (a2)) 16) + 1)) t253 _ A42.out).mono ?_); rintro e w51 ⟨rfl, hb⟩; have n0_ := Aside0.mk (Kd.R_below (by (with_reducible repeat (first | apply Kd.R_alloc | apply Kd.R_drewN | apply Kd.R_drew)); exact HO_13.out) hb); have n1_ := Aside0.mk (Kd.R_below (by (with_reducible repeat (first | apply Kd.R_alloc | apply Kd.R_drewN | apply Kd.R_drew)); exact HO_14.out) hb); have n2_ := Aside0.mk (Kd.R_below (by (with_reducible repeat (first | apply Kd.R_alloc | apply Kd.R_drewN | apply Kd.R_drew)); exact HO244.out) hb); have n3_ := Aside0.mk (Kd.R_below (by (with_reducible repeat (first | apply Kd.R_alloc | apply Kd.R_drewN | apply Kd.R_drew)); exact HO248.out) hb); have n4_ := Aside0.mk (Kd.R_below (by (with_reducible repeat (first | apply Kd.R_alloc | apply Kd.R_drewN | apply Kd.R_drew)); exact HO252.out) hb); have n5_ := Aside0.mk (below_step (by repeat (first | (with_reducible first | exact HB.out | apply below_alloc | apply pw_below_drewN | apply below_drew1) | exact HB.out)) hb); clear HO_13; clear HO_14; clear HO244; clear HO248; clear HO252; clear HB; have HO_13 := n0_; have HO_14 := n1_; have HO244 := n2_; have HO248 := n3_; have HO252 := n4_; have HB := n5_; clear n0_ n1_ n2_ n3_ n4_ n5_; (try clear hb); (try clear hb2); (try clear hk); (try clear hi)) | (go_at_call 17; (with_reducible refine (vec_Bits.calls kj10 t253 (wrap64 ((Int.tmod (wrap64 (a2)) 16) + 1)) t254 _ A43.out).mono ?_); rintro e w52 ⟨v255, rfl, ho0, hb⟩; have n0_ := Aside0.mk (Kd.R_elder' (by (with_reducible repeat (first | apply Kd.R_alloc | apply Kd.R_drewN | apply Kd.R_drew)); exact HO_13.out) (Kd.R_base ho0) hb); have n1_ := Aside0.mk (Kd.R_elder' (by (with_reducible repeat (first | apply Kd.R_alloc | apply Kd.R_drewN | apply Kd.R_drew)); exact HO_14.out) (Kd.R_base ho0) hb); have n2_ := Aside0.mk (Kd.R_elder' (by (with_reducible repeat (first | apply Kd.R_alloc | apply Kd.R_drewN | apply Kd.R_drew)); exact HO244.out) (Kd.R_base ho0) hb); have n3_ := Aside0.mk (Kd.R_elder' (by (with_reducible repeat (first | apply Kd.R_alloc | apply Kd.R_drewN | apply Kd.R_drew)); exact HO248.out) (Kd.R_base ho0) hb); have n4_ := Aside0.mk (Kd.R_elder' (by (with_reducible repeat (first | apply Kd.R_alloc | apply Kd.R_drewN | apply Kd.R_drew)); exact HO252.out) (Kd.R_base ho0) hb); have n5_ := Aside0.mk (Kd.R_lower (Kd.R_new' (Kd.R_new' (Kd.R_new' (Kd.R_new' (Kd.R_new' ho0 (Kd.R_lt (by (with_reducible repeat (first | apply Kd.R_alloc | apply Kd.R_drewN | apply Kd.R_drew)); exact HO_13.out))) (Kd.R_lt (by (with_reducible repeat (first | apply Kd.R_alloc | apply Kd.R_drewN | apply Kd.R_drew)); exact HO_14.out))) (Kd.R_lt (by (with_reducible repeat (first | apply Kd.R_alloc | apply Kd.R_drewN | apply Kd.R_drew)); exact HO244.out))) (Kd.R_lt (by (with_reducible repeat (first | apply Kd.R_alloc | apply Kd.R_drewN | apply Kd.R_drew)); exact HO248.out))) (Kd.R_lt (by (with_reducible repeat (first | apply Kd.R_alloc | apply Kd.R_drewN | apply Kd.R_drew)); exact HO252.out))) (below_size (by repeat (first | (with_reducible first | exact HB.out | apply below_alloc | apply pw_below_drewN | apply below_drew1) | exact HB.out)))); have n6_ := Aside0.mk (below_step (by repeat (first | (with_reducible first | exact HB.out | apply below_alloc | apply pw_below_drewN | apply below_drew1) | exact HB.out)) hb); clear HO_13; clear HO_14; clear HO244; clear HO248; clear HO252; clear HB; have HO_13 := n0_; have HO_14 := n1_; have HO244 := n2_; have HO248 := n3_; have HO252 := n4_; have HO256 := n5_; have HB := n6_; clear n0_ n1_ n2_ n3_ n4_ n5_ n6_; (try clear hb); (try clear hb2); (try clear hk); (try clear hi); (try clear ho0))); go_upto_region 13 with (first | (go_at_call 12; (with_reducible refine (vec_Do.calls 6 (wrap64 ((Int.tmod (wrap64 (a2)) 16) + 1)) 0 0 0 0 0 (Go.bits .and .i64 (wrap64 (a0)) t228) (Go.bits .and .i64 (wrap64 (a1)) t228) 0 (wrap64 ((Int.tmod (wrap64 (a2)) 16) + 1)) t241 _ A36.out).mono ?_); rintro e w45 ⟨rfl, hb⟩; have n0_ := Aside0.mk (Kd.R_below (by (with_reducible repeat (first | apply Kd.R_alloc | apply Kd.R_drewN | apply Kd.R_drew)); exact HO_13.out) hb); have n1_ := Aside0.mk (Kd.R_below (by (with_reducible repeat (first | apply Kd.R_alloc | apply Kd.R_drewN | apply Kd.R_drew)); exact HO_14.out) hb); have n2_ := Aside0.mk (below_step (by repeat (first | (with_reducible first | exact HB.out | apply below_alloc | apply pw_below_drewN | apply below_drew1) | exact HB.out)) hb); clear HO_13; clear HO_14; clear HB; have HO_13 := n0_; have HO_14 := n1_; have HB := n2_; clear n0_ n1_ n2_; (try clear hb); (try clear hb2); (try clear hk); (try clear hi)) | (go_at_call 17; (with_reducible refine (vec_Bits.calls kj10 t241 (wrap64 ((Int.tmod (wrap64 (a2)) 16) + 1)) t242 _ A37.out).mono ?_); rintro e w46 ⟨v243, rfl, ho0, hb⟩; have n0_ := Aside0.mk (Kd.R_elder' (by (with_reducible repeat (first | apply Kd.R_alloc | apply Kd.R_drewN | apply Kd.R_drew)); exact HO_13.out) (Kd.R_base ho0) hb); have n1_ := Aside0.mk (Kd.R_elder' (by (with_reducible repeat (first | apply Kd.R_alloc | apply Kd.R_drewN | apply Kd.R_drew)); exact HO_14.out) (Kd.R_base ho0) hb); have n2_ := Aside0.mk (Kd.R_lower (Kd.R_new' (Kd.R_new' ho0 (Kd.R_lt (by (with_reducible repeat (first | apply Kd.R_alloc | apply Kd.R_drewN | apply Kd.R_drew)); exact HO_13.out))) (Kd.R_lt (by (with_reducible repeat (first | apply Kd.R_alloc | apply Kd.R_drewN | apply Kd.R_drew)); exact HO_14.out))) (below_size (by repeat (first | (with_reducible first | exact HB.out | apply below_alloc | apply pw_below_drewN | apply below_drew1) | exact HB.out)))); have n3_ := Aside0.mk (below_step (by repeat (first | (with_reducible first | exact HB.out | apply below_alloc | apply pw_below_drewN | apply below_drew1) | exact HB.out)) hb); clear HO_13; clear HO_14; clear HB; have HO_13 := n0_; have HO_14 := n1_; have HO244 := n2_; have HB := n3_; clear n0_ n1_ n2_ n3_; (try clear hb); (try clear hb2); (try clear hk); (try clear hi); (try clear ho0)) | (go_at_call 12; (with_reducible refine (vec_Do.calls 7 (wrap64 ((Int.tmod (wrap64 (a2)) 16) + 1)) 0 0 0 0 0 (Go.bits .and .i64 (wrap64 (a0)) t228) (Go.bits .and .i64 (wrap64 (a1)) t228) 0 (wrap64 ((Int.tmod (wrap64 (a2)) 16) + 1)) t245 _ A38.out).mono ?_); rintro e w47 ⟨rfl, hb⟩; have n0_ := Aside0.mk (Kd.R_below (by (with_reducible repeat (first | apply Kd.R_alloc | apply Kd.R_drewN | apply Kd.R_drew)); exact HO_13.out) hb); have n1_ := Aside0.mk (Kd.R_below (by (with_reducible repeat (first | apply Kd.R_alloc | apply Kd.R_drewN | apply Kd.R_drew)); exact HO_14.out) hb); have n2_ := Aside0.mk (Kd.R_below (by (with_reducible repeat (first | apply Kd.R_alloc | apply Kd.R_drewN | apply Kd.R_drew)); exact HO244.out) hb); have n3_ := Aside0.mk (below_step (by repeat (first | (with_reducible first | exact HB.out | apply below_alloc | apply pw_below_drewN | apply below_drew1) | exact HB.out)) hb); clear HO_13; clear HO_14; clear HO244; clear HB; have HO_13 := n0_; have HO_14 := n1_; have HO244 := n2_; have HB := n3_; clear n0_ n1_ n2_ n3_; (try clear hb); (try clear hb2); (try clear hk); (try clear hi)) | (go_at_call 17; (with_reducible refine (vec_Bits.calls kj10 t245 (wrap64 ((Int.tmod (wrap64 (a2)) 16) + 1)) t246 _ A39.out).mono ?_); rintro e w48 ⟨v247, rfl, ho0, hb⟩; have n0_ := Aside0.mk (Kd.R_elder' (by (with_reducible repeat (first | apply Kd.R_alloc | apply Kd.R_drewN | apply Kd.R_drew)); exact HO_13.out) (Kd.R_base ho0) hb); have n1_ := Aside0.mk (Kd.R_elder' (by (with_reducible repeat (first | apply Kd.R_alloc | apply Kd.R_drewN | apply Kd.R_drew)); exact HO_14.out) (Kd.R_base ho0) hb); have n2_ := Aside0.mk (Kd.R_elder' (by (with_reducible repeat (first | apply Kd.R_alloc | apply Kd.R_drewN | apply Kd.R_drew)); exact HO244.out) (Kd.R_base ho0) hb); have n3_ := Aside0.mk (Kd.R_lower (Kd.R_new' (Kd.R_new' (Kd.R_new' ho0 (Kd.R_lt (by (with_reducible repeat (first | apply Kd.R_alloc | apply Kd.R_drewN | apply Kd.R_drew)); exact HO_13.out))) (Kd.R_lt (by (with_reducible repeat (first | apply Kd.R_alloc | apply Kd.R_drewN | apply Kd.R_drew)); exact HO_14.out))) (Kd.R_lt (by (with_reducible repeat (first | apply Kd.R_alloc | apply Kd.R_drewN | apply Kd.R_drew)); exact HO244.out))) (below_size (by repeat (first | (with_reducible first | exact HB.out | apply below_alloc | apply pw_below_drewN | apply below_drew1) | exact HB.out)))); have n4_ := Aside0.mk (below_step (by repeat (first | (with_reducible first | exact HB.out | apply below_alloc | apply pw_below_drewN | apply below_drew1) | exact HB.out)) hb); clear HO_13; clear HO_14; clear HO244; clear HB; have HO_13 := n0_; have HO_14 := n1_; have HO244 := n2_; have HO248 := n3_; have HB := n4_; clear n0_ n1_ n2_ n3_ n4_; (try clear hb); (try clear hb2); (try clear hk); (try clear hi); (try clear ho0)) | (go_at_call 12; (with_reducible refine (vec_Do.calls 8 (wrap64 ((Int.tmod (wrap64 (a2)) 16) + 1)) 0 0 0 0 0 (Go.bits .and .i64 (wrap64 (a0)) t228) (Go.bits .and .i64 (wrap64 (a1)) t228) 0 (wrap64 ((Int.tmod (wrap64 (a2)) 16) + 1)) t249 _ A40.out).mono ?_); rintro e w49 ⟨rfl, hb⟩; have n0_ := Aside0.mk (Kd.R_below (by (with_reducible repeat (first | apply Kd.R_alloc | apply Kd.R_drewN | apply Kd.R_drew)); exact HO_13.out) hb); have n1_ := Aside0.mk (Kd.R_below (by (with_reducible repeat (first | apply Kd.R_alloc | apply Kd.R_drewN | apply Kd.R_drew)); exact HO_14.out) hb); have n2_ := Aside0.mk (Kd.R_below (by (with_reducible repeat (first | apply Kd.R_alloc | apply Kd.R_drewN | apply Kd.R_drew)); exact HO244.out) hb); have n3_ := Aside0.mk (Kd.R_below (by (with_reducible repeat (first | apply Kd.R_alloc | apply Kd.R_drewN | apply Kd.R_drew)); exact HO248.out) hb); have n4_ := Aside0.mk (below_step (by repeat (first | (with_reducible first | exact HB.out | apply below_alloc | apply pw_below_drewN | apply below_drew1) | exact HB.out)) hb); clear HO_13; clear HO_14; clear HO244; clear HO248; clear HB; have HO_13 := n0_; have HO_14 := n1_; have HO244 := n2_; have HO248 := n3_; have HB := n4_; clear n0_ n1_ n2_ n3_ n4_; (try clear hb); (try clear hb2); (try clear hk); (try clear hi)) | (go_at_call 17; (with_reducible refine (vec_Bits.calls kj10 t249 (wrap64 ((Int.tmod (wrap64 (a2)) 16) + 1)) t250 _ A41.out).mono ?_); rintro e w50 ⟨v251, rfl, ho0, hb⟩; have n0_ := Aside0.mk (Kd.R_elder' (by (with_reducible repeat (first | apply Kd.R_alloc | apply Kd.R_drewN | apply Kd.R_drew)); exact HO_13.out) (Kd.R_base ho0) hb); have n1_ := Aside0.mk (Kd.R_elder' (by (with_reducible repeat (first | apply Kd.R_alloc | apply Kd.R_drewN | apply Kd.R_drew)); exact HO_14.out) (Kd.R_base ho0) hb); have n2_ := Aside0.mk (Kd.R_elder' (by (with_reducible repeat (first | apply Kd.R_alloc | apply Kd.R_drewN | apply Kd.R_drew)); exact HO244.out) (Kd.R_base ho0) hb); have n3_ := Aside0.mk (Kd.R_elder' (by (with_reducible repeat (first | apply Kd.R_alloc | apply Kd.R_drewN | apply Kd.R_drew)); exact HO248.out) (Kd.R_base ho0) hb); have n4_ := Aside0.mk (Kd.R_lower (Kd.R_new' (Kd.R_new' (Kd.R_new' (Kd.R_new' ho0 (Kd.R_lt (by (with_reducible repeat (first | apply Kd.R_alloc | apply Kd.R_drewN | apply Kd.R_drew)); exact HO_13.out))) (Kd.R_lt (by (with_reducible repeat (first | apply Kd.R_alloc | apply Kd.R_drewN | apply Kd.R_drew)); exact HO_14.out))) (Kd.R_lt (by (with_reducible repeat (first | apply Kd.R_alloc | apply Kd.R_drewN | apply Kd.R_drew)); exact HO244.out))) (Kd.R_lt (by (with_reducible repeat (first | apply Kd.R_alloc | apply Kd.R_drewN | apply Kd.R_drew)); exact HO248.out))) (below_size (by repeat (first | (with_reducible first | exact HB.out | apply below_alloc | apply pw_below_drewN | apply below_drew1) | exact HB.out)))); have n5_ := Aside0.mk (below_step (by repeat (first | (with_reducible first | exact HB.out | apply below_alloc | apply pw_below_drewN | apply below_drew1) | exact HB.out)) hb); clear HO_13; clear HO_14; clear HO244; clear HO248; clear HB; have HO_13 := n0_; have HO_14 := n1_; have HO244 := n2_; have HO248 := n3_; have HO252 := n4_; have HB := n5_; clear n0_ n1_ n2_ n3_ n4_ n5_; (try clear hb); (try clear hb2); (try clear hk); (try clear hi); (try clear ho0)) | (go_at_call 12; (with_reducible refine (vec_Do.calls 3 (wrap64 ((Int.tmod (wrap64 (a2)) 16) + 1)) 0 0 0 0 0 (Go.bits .and .i64 (wrap64 (a0)) t228) 0 0 (wrap64 ((Int.tmod (wrap64 (a2)) 16) + 1)) t253 _ A42.out).mono ?_); rintro e w51 ⟨rfl, hb⟩; have n0_ := Aside0.mk (Kd.R_below (by (with_reducible repeat (first | apply Kd.R_alloc | apply Kd.R_drewN | apply Kd.R_drew)); exact HO_13.out) hb); have n1_ := Aside0.mk (Kd.R_below (by (with_reducible repeat (first | apply Kd.R_alloc | apply Kd.R_drewN | apply Kd.R_drew)); exact HO_14.out) hb); have n2_ := Aside0.mk (Kd.R_below (by (with_reducible repeat (first | apply Kd.R_alloc | apply Kd.R_drewN | apply Kd.R_drew)); exact HO244.out) hb); have n3_ := Aside0.mk (Kd.R_below (by (with_reducible repeat (first | apply Kd.R_alloc | apply Kd.R_drewN | apply Kd.R_drew)); exact HO248.out) hb); have n4_ := Aside0.mk (Kd.R_below (by (with_reducible repeat (first | apply Kd.R_alloc | apply Kd.R_drewN | apply Kd.R_drew)); exact HO252.out) hb); have n5_ := Aside0.mk (below_step (by repeat (first | (with_reducible first | exact HB.out | apply below_alloc | apply pw_below_drewN | apply below_drew1) | exact HB.out)) hb); clear HO_13; clear HO_14; clear HO244; clear HO248; clear HO252; clear HB; have HO_13 := n0_; have HO_14 := n1_; have HO244 := n2_; have HO248 := n3_; have HO252 := n4_; have HB := n5_; clear n0_ n1_ n2_ n3_ n4_ n5_; (try clear hb); (try clear hb2); (try clear hk); (try clear hi)) | (go_at_call 17; (with_reducible refine (vec_Bits.calls kj10 t253 (wrap64 ((Int.tmod (wrap64 (a2)) 16) + 1)) t254 _ A43.out).mono ?_); rintro e w52 ⟨v255, rfl, ho0, hb⟩; have n0_ := Aside0.mk (Kd.R_elder' (by (with_reducible repeat (first | apply Kd.R_alloc | apply Kd.R_drewN | apply Kd.R_drew)); exact HO_13.out) (Kd.R_base ho0) hb); have n1_ := Aside0.mk (Kd.R_elder' (by (with_reducible repeat (first | apply Kd.R_alloc | apply Kd.R_drewN | apply Kd.R_drew)); exact HO_14.out) (Kd.R_base ho0) hb); have n2_ := Aside0.mk (Kd.R_elder' (by (with_reducible repeat (first | apply Kd.R_alloc | apply Kd.R_drewN | apply Kd.R_drew)); exact HO244.out) (Kd.R_base ho0) hb); have n3_ := Aside0.mk (Kd.R_elder' (by (with_reducible repeat (first | apply Kd.R_alloc | apply Kd.R_drewN | apply Kd.R_drew)); exact HO248.out) (Kd.R_base ho0) hb); have n4_ := Aside0.mk (Kd.R_elder' (by (with_reducible repeat (first | apply Kd.R_alloc | apply Kd.R_drewN | apply Kd.R_drew)); exact HO252.out) (Kd.R_base ho0) hb); have n5_ := Aside0.mk (Kd.R_lower (Kd.R_new' (Kd.R_new' (Kd.R_new' (Kd.R_new' (Kd.R_new' ho0 (Kd.R_lt (by (with_reducible repeat (first | apply Kd.R_alloc | apply Kd.R_drewN | apply Kd.R_drew)); exact HO_13.out))) (Kd.R_lt (by (with_reducible repeat (first | apply Kd.R_alloc | apply Kd.R_drewN | apply Kd.R_drew)); exact HO_14.out))) (Kd.R_lt (by (with_reducible repeat (first | apply Kd.R_alloc | apply Kd.R_drewN | apply Kd.R_drew)); exact HO244.out))) (Kd.R_lt (by (with_reducible repeat (first | apply Kd.R_alloc | apply Kd.R_drewN | apply Kd.R_drew)); exact HO248.out))) (Kd.R_lt (by (with_reducible repeat (first | apply Kd.R_alloc | apply Kd.R_drewN | apply Kd.R_drew)); exact HO252.out))) (below_size (by repeat (first | (with_reducible first | exact HB.out | apply below_alloc | apply pw_below_drewN | apply below_drew1) | exact HB.out)))); have n6_ := Aside0.mk (below_step (by repeat (first | (with_reducible first | exact HB.out | apply below_alloc | apply pw_below_drewN | apply below_drew1) | exact HB.out)) hb); clear HO_13; clear HO_14; clear HO244; clear HO248; clear HO252; clear HB; have HO_13 := n0_; have HO_14 := n1_; have HO244 := n2_; have HO248 := n3_; have HO252 := n4_; have HO256 := n5_; have HB := n6_; clear n0_ n1_ n2_ n3_ n4_ n5_ n6_; (try clear hb); (try clear hb2); (try clear hk); (try clear hi); (try clear ho0))))
    (try simp only [Act.put, List.setIfInBounds_toArray, List.set_cons_zero, List.set_cons_succ])
    go_cut [130] (fun v130 wc => ∃ (kq : Nat) (x130_43 : Bool), v130 = .bool x130_43 ∧ Aside0 (proofmarklaw08_VecBits.j1 kq t227 (wrap64 ((Int.tmod (wrap64 (a2)) 16) + 1)) t229 t232 t242 t246 t250 t254 x130_43 = some r) ∧ Aside0 (kq ≤ kj10) ∧ Aside0 (Kd.R Kd.bool 4 wc w.heap.size (fun k_ => some k_ ≠ (v233 : Value).ownBlock ∧ some k_ ≠ (v243 : Value).ownBlock ∧ some k_ ≠ (v247 : Value).ownBlock ∧ some k_ ≠ (v251 : Value).ownBlock ∧ some k_ ≠ (v255 : Value).ownBlock) v230 t229) ∧ Aside0 (Kd.R Kd.bool 4 wc w.heap.size (fun k_ => some k_ ≠ (v230 : Value).ownBlock ∧ some k_ ≠ (v243 : Value).ownBlock ∧ some k_ ≠ (v247 : Value).ownBlock ∧ some k_ ≠ (v251 : Value).ownBlock ∧ some k_ ≠ (v255 : Value).ownBlock) v233 t232) ∧ Aside0 (Kd.R Kd.bool 4 wc w.heap.size (fun k_ => some k_ ≠ (v230 : Value).ownBlock ∧ some k_ ≠ (v233 : Value).ownBlock ∧ some k_ ≠ (v247 : Value).ownBlock ∧ some k_ ≠ (v251 : Value).ownBlock ∧ some k_ ≠ (v255 : Value).ownBlock) v243 t242) ∧ Aside0 (Kd.R Kd.bool 4 wc w.heap.size (fun k_ => some k_ ≠ (v230 : Value).ownBlock ∧ some k_ ≠ (v233 : Value).ownBlock ∧ some k_ ≠ (v243 : Value).ownBlock ∧ some k_ ≠ (v251 : Value).ownBlock ∧ some k_ ≠ (v255 : Value).ownBlock) v247 t246) ∧ Aside0 (Kd.R Kd.bool 4 wc w.heap.size (fun k_ => some k_ ≠ (v230 : Value).ownBlock ∧ some k_ ≠ (v233 : Value).ownBlock ∧ some k_ ≠ (v243 : Value).ownBlock ∧ some k_ ≠ (v247 : Value).ownBlock ∧ some k_ ≠ (v255 : Value).ownBlock) v251 t250) ∧ Aside0 (Kd.R Kd.bool 4 wc w.heap.size (fun k_ => some k_ ≠ (v230 : Value).ownBlock ∧ some k_ ≠ (v233 : Value).ownBlock ∧ some k_ ≠ (v243 : Value).ownBlock ∧ some k_ ≠ (v247 : Value).ownBlock ∧ some k_ ≠ (v251 : Value).ownBlock) v255 t254) ∧ Aside0 (Below w.heap.size w wc))
    case first =>
     have H := HC44.out
     clear HC44
     by_cases c53 : (t242.length : Int) = (wrap64 ((Int.tmod (wrap64 (a2)) 16) + 1))
     ·rw [if_pos c53] at H
      have c53b0 : ((t242.length : Int) == (wrap64 ((Int.tmod (wrap64 (a2)) 16) + 1))) = true := beq_iff_eq.mpr c53
      have c53b1 : ((t242.length : Int) != (wrap64 ((Int.tmod (wrap64 (a2)) 16) + 1))) = false := bne_eq_false_iff_eq.mpr c53
      clear c53
      (first | rw [c53b0] | (simp only [i64_w, i32_w]; rw [c53b0]) | skip)
      by_cases c54 : (t246.length : Int) = (wrap64 ((Int.tmod (wrap64 (a2)) 16) + 1))
      ·rw [if_pos c54] at H
       have c54b0 : ((t246.length : Int) == (wrap64 ((Int.tmod (wrap64 (a2)) 16) + 1))) = true := beq_iff_eq.mpr c54
       have c54b1 : ((t246.length : Int) != (wrap64 ((Int.tmod (wrap64 (a2)) 16) + 1))) = false := bne_eq_false_iff_eq.mpr c54
       clear c54
       by_cases c55 : (t250.length : Int) = (wrap64 ((Int.tmod (wrap64 (a2)) 16) + 1))
       ·rw [if_pos c55] at H
        have c55b0 : ((t250.length : Int) == (wrap64 ((Int.tmod (wrap64 (a2)) 16) + 1))) = true := beq_iff_eq.mpr c55
        have c55b1 : ((t250.length : Int) != (wrap64 ((Int.tmod (wrap64 (a2)) 16) + 1))) = false := bne_eq_false_iff_eq.mpr c55
        clear c55
        have H' := Aside0.mk H
        clear H
        obtain ⟨Ao56, co56, eo56⟩ := Kd.R_slice HO244.out
        subst eo56
        obtain ⟨Ao57, co57, eo57⟩ := Kd.R_slice HO248.out
        subst eo57
        obtain ⟨Ao58, co58, eo58⟩ := Kd.R_slice HO252.out
        subst eo58
        obtain ⟨Ao59, co59, eo59⟩ := Kd.R_slice HO256.out
        subst eo59
        go_wp2
        repeat (go_quiet (fail); try go_wp2)
        go_meet
        case rel => exact ⟨_, (((t254.length : Int) != (wrap64 ((Int.tmod (wrap64 (a2)) 16) + 1)))), (by first | rfl | (simp; done) | (simp [*]; done)), H', ⟨by have := HJ10.out; first | omega | exact Nat.le_refl _⟩, ⟨by (with_reducible repeat (first | apply Kd.R_alloc | apply Kd.R_drewN | apply Kd.R_drew)); exact Kd.R_mono HO_13.out (fun _ hk => ⟨hk.1.1.1.1, ⟨hk.1.1.1.2, ⟨hk.1.1.2, ⟨hk.1.2, hk.2⟩⟩⟩⟩)⟩, ⟨by (with_reducible repeat (first | apply Kd.R_alloc | apply Kd.R_drewN | apply Kd.R_drew)); exact Kd.R_mono HO_14.out (fun _ hk => ⟨hk.1.1.1.1, ⟨hk.1.1.1.2, ⟨hk.1.1.2, ⟨hk.1.2, hk.2⟩⟩⟩⟩)⟩, ⟨by (with_reducible repeat (first | apply Kd.R_alloc | apply Kd.R_drewN | apply Kd.R_drew)); exact Kd.R_mono HO244.out (fun _ hk => ⟨hk.1.1.1.1.2, ⟨hk.1.1.1.2, ⟨hk.1.1.2, ⟨hk.1.2, hk.2⟩⟩⟩⟩)⟩, ⟨by (with_reducible repeat (first | apply Kd.R_alloc | apply Kd.R_drewN | apply Kd.R_drew)); exact Kd.R_mono HO248.out (fun _ hk => ⟨hk.1.1.1.1.2, ⟨hk.1.1.1.2, ⟨hk.1.1.2, ⟨hk.1.2, hk.2⟩⟩⟩⟩)⟩, ⟨by (with_reducible repeat (first | apply Kd.R_alloc | apply Kd.R_drewN | apply Kd.R_drew)); exact Kd.R_mono HO252.out (fun _ hk => ⟨hk.1.1.1.1.2, ⟨hk.1.1.1.2, ⟨hk.1.1.2, ⟨hk.1.2, hk.2⟩⟩⟩⟩)⟩, ⟨by (with_reducible repeat (first | apply Kd.R_alloc | apply Kd.R_drewN | apply Kd.R_drew)); exact Kd.R_mono HO256.out (fun _ hk => ⟨hk.1.1.1.1.2, ⟨hk.1.1.1.2, ⟨hk.1.1.2, ⟨hk.1.2, hk.2⟩⟩⟩⟩)⟩, ⟨by repeat (first | (with_reducible first | exact HB.out | apply below_alloc | apply pw_below_drewN | apply below_drew1) | exact HB.out)⟩⟩
       ·rw [if_neg c55] at H
        have c55b0 : ((t250.length : Int) == (wrap64 ((Int.tmod (wrap64 (a2)) 16) + 1))) = false := beq_eq_false_iff_ne.mpr c55
        have c55b1 : ((t250.length : Int) != (wrap64 ((Int.tmod (wrap64 (a2)) 16) + 1))) = true := bne_iff_ne.mpr c55
        have H' := Aside0.mk H
        clear H
        obtain ⟨Ao60, co60, eo60⟩ := Kd.R_slice HO244.out
        subst eo60
        obtain ⟨Ao61, co61, eo61⟩ := Kd.R_slice HO248.out
        subst eo61
        obtain ⟨Ao62, co62, eo62⟩ := Kd.R_slice HO252.out
        subst eo62
        go_wp2
        repeat (go_quiet (fail); try go_wp2)
        go_meet
        case rel => exact ⟨_, (true), (by first | rfl | (simp; done) | (simp [*]; done)), H', ⟨by have := HJ10.out; first | omega | exact Nat.le_refl _⟩, ⟨by (with_reducible repeat (first | apply Kd.R_alloc | apply Kd.R_drewN | apply Kd.R_drew)); exact Kd.R_mono HO_13.out (fun _ hk => ⟨hk.1.1.1.1, ⟨hk.1.1.1.2, ⟨hk.1.1.2, ⟨hk.1.2, hk.2⟩⟩⟩⟩)⟩, ⟨by (with_reducible repeat (first | apply Kd.R_alloc | apply Kd.R_drewN | apply Kd.R_drew)); exact Kd.R_mono HO_14.out (fun _ hk => ⟨hk.1.1.1.1, ⟨hk.1.1.1.2, ⟨hk.1.1.2, ⟨hk.1.2, hk.2⟩⟩⟩⟩)⟩, ⟨by (with_reducible repeat (first | apply Kd.R_alloc | apply Kd.R_drewN | apply Kd.R_drew)); exact Kd.R_mono HO244.out (fun _ hk => ⟨hk.1.1.1.1.2, ⟨hk.1.1.1.2, ⟨hk.1.1.2, ⟨hk.1.2, hk.2⟩⟩⟩⟩)⟩, ⟨by (with_reducible repeat (first | apply Kd.R_alloc | apply Kd.R_drewN | apply Kd.R_drew)); exact Kd.R_mono HO248.out (fun _ hk => ⟨hk.1.1.1.1.2, ⟨hk.1.1.1.2, ⟨hk.1.1.2, ⟨hk.1.2, hk.2⟩⟩⟩⟩)⟩, ⟨by (with_reducible repeat (first | apply Kd.R_alloc | apply Kd.R_drewN | apply Kd.R_drew)); exact Kd.R_mono HO252.out (fun _ hk => ⟨hk.1.1.1.1.2, ⟨hk.1.1.1.2, ⟨hk.1.1.2, ⟨hk.1.2, hk.2⟩⟩⟩⟩)⟩, ⟨by (with_reducible repeat (first | apply Kd.R_alloc | apply Kd.R_drewN | apply Kd.R_drew)); exact Kd.R_mono HO256.out (fun _ hk => ⟨hk.1.1.1.1.2, ⟨hk.1.1.1.2, ⟨hk.1.1.2, ⟨hk.1.2, hk.2⟩⟩⟩⟩)⟩, ⟨by repeat (first | (with_reducible first | exact HB.out | apply below_alloc | apply pw_below_drewN | apply below_drew1) | exact HB.out)⟩⟩
      ·rw [if_neg c54] at H
       have c54b0 : ((t246.length : Int) == (wrap64 ((Int.tmod (wrap64 (a2)) 16) + 1))) = false := beq_eq_false_iff_ne.mpr c54
       have c54b1 : ((t246.length : Int) != (wrap64 ((Int.tmod (wrap64 (a2)) 16) + 1))) = true := bne_iff_ne.mpr c54
       have H' := Aside0.mk H
       clear H
       obtain ⟨Ao63, co63, eo63⟩ := Kd.R_slice HO244.out
       subst eo63
       obtain ⟨Ao64, co64, eo64⟩ := Kd.R_slice HO248.out
       subst eo64
       go_wp2
       repeat (go_quiet (fail); try go_wp2)
       go_meet
       case rel => exact ⟨_, (true), (by first | rfl | (simp; done) | (simp [*]; done)), H', ⟨by have := HJ10.out; first | omega | exact Nat.le_refl _⟩, ⟨by (with_reducible repeat (first | apply Kd.R_alloc | apply Kd.R_drewN | apply Kd.R_drew)); exact Kd.R_mono HO_13.out (fun _ hk => ⟨hk.1.1.1.1, ⟨hk.1.1.1.2, ⟨hk.1.1.2, ⟨hk.1.2, hk.2⟩⟩⟩⟩)⟩, ⟨by (with_reducible repeat (first | apply Kd.R_alloc | apply Kd.R_drewN | apply Kd.R_drew)); exact Kd.R_mono HO_14.out (fun _ hk => ⟨hk.1.1.1.1, ⟨hk.1.1.1.2, ⟨hk.1.1.2, ⟨hk.1.2, hk.2⟩⟩⟩⟩)⟩, ⟨by (with_reducible repeat (first | apply Kd.R_alloc | apply Kd.R_drewN | apply Kd.R_drew)); exact Kd.R_mono HO244.out (fun _ hk => ⟨hk.1.1.1.1.2, ⟨hk.1.1.1.2, ⟨hk.1.1.2, ⟨hk.1.2, hk.2⟩⟩⟩⟩)⟩, ⟨by (with_reducible repeat (first | apply Kd.R_alloc | apply Kd.R_drewN | apply Kd.R_drew)); exact Kd.R_mono HO248.out (fun _ hk => ⟨hk.1.1.1.1.2, ⟨hk.1.1.1.2, ⟨hk.1.1.2, ⟨hk.1.2, hk.2⟩⟩⟩⟩)⟩, ⟨by (with_reducible repeat (first | apply Kd.R_alloc | apply Kd.R_drewN | apply Kd.R_drew)); exact Kd.R_mono HO252.out (fun _ hk => ⟨hk.1.1.1.1.2, ⟨hk.1.1.1.2, ⟨hk.1.1.2, ⟨hk.1.2, hk.2⟩⟩⟩⟩)⟩, ⟨by (with_reducible repeat (first | apply Kd.R_alloc | apply Kd.R_drewN | apply Kd.R_drew)); exact Kd.R_mono HO256.out (fun _ hk => ⟨hk.1.1.1.1.2, ⟨hk.1.1.1.2, ⟨hk.1.1.2, ⟨hk.1.2, hk.2⟩⟩⟩⟩)⟩, ⟨by repeat (first | (with_reducible first | exact HB.out | apply below_alloc | apply pw_below_drewN | apply below_drew1) | exact HB.out)⟩⟩
     ·rw [if_neg c53] at H
      have c53b0 : ((t242.length : Int) == (wrap64 ((Int.tmod (wrap64 (a2)) 16) + 1))) = false := beq_eq_false_iff_ne.mpr c53
      have c53b1 : ((t242.length : Int) != (wrap64 ((Int.tmod (wrap64 (a2)) 16) + 1))) = true := bne_iff_ne.mpr c53
      (first | rw [c53b0] | (simp only [i64_w, i32_w]; rw [c53b0]) | skip)
      have H' := Aside0.mk H
      clear H
      obtain ⟨Ao65, co65, eo65⟩ := Kd.R_slice HO244.out
      subst eo65
      go_wp2
      repeat (go_quiet (fail); try go_wp2)
      go_meet
      case rel => exact ⟨_, (true), (by first | rfl | (simp; done) | (simp [*]; done)), H', ⟨by have := HJ10.out; first | omega | exact Nat.le_refl _⟩, ⟨by (with_reducible repeat (first | apply Kd.R_alloc | apply Kd.R_drewN | apply Kd.R_drew)); exact Kd.R_mono HO_13.out (fun _ hk => ⟨hk.1.1.1.1, ⟨hk.1.1.1.2, ⟨hk.1.1.2, ⟨hk.1.2, hk.2⟩⟩⟩⟩)⟩, ⟨by (with_reducible repeat (first | apply Kd.R_alloc | apply Kd.R_drewN | apply Kd.R_drew)); exact Kd.R_mono HO_14.out (fun _ hk => ⟨hk.1.1.1.1, ⟨hk.1.1.1.2, ⟨hk.1.1.2, ⟨hk.1.2, hk.2⟩⟩⟩⟩)⟩, ⟨by (with_reducible repeat (first | apply Kd.R_alloc | apply Kd.R_drewN | apply Kd.R_drew)); exact Kd.R_mono HO244.out (fun _ hk => ⟨hk.1.1.1.1.2, ⟨hk.1.1.1.2, ⟨hk.1.1.2, ⟨hk.1.2, hk.2⟩⟩⟩⟩)⟩, ⟨by (with_reducible repeat (first | apply Kd.R_alloc | apply Kd.R_drewN | apply Kd.R_drew)); exact Kd.R_mono HO248.out (fun _ hk => ⟨hk.1.1.1.1.2, ⟨hk.1.1.1.2, ⟨hk.1.1.2, ⟨hk.1.2, hk.2⟩⟩⟩⟩)⟩, ⟨by (with_reducible repeat (first | apply Kd.R_alloc | apply Kd.R_drewN | apply Kd.R_drew)); exact Kd.R_mono HO252.out (fun _ hk => ⟨hk.1.1.1.1.2, ⟨hk.1.1.1.2, ⟨hk.1.1.2, ⟨hk.1.2, hk.2⟩⟩⟩⟩)⟩, ⟨by (with_reducible repeat (first | apply Kd.R_alloc | apply Kd.R_drewN | apply Kd.R_drew)); exact Kd.R_mono HO256.out (fun _ hk => ⟨hk.1.1.1.1.2, ⟨hk.1.1.1.2, ⟨hk.1.1.2, ⟨hk.1.2, hk.2⟩⟩⟩⟩)⟩, ⟨by repeat (first | (with_reducible first | exact HB.out | apply below_alloc | apply pw_below_drewN | apply below_drew1) | exact HB.out)⟩⟩
    case rest =>
     clear HC44
     try clear c1
     try clear p2
     try clear c3
     try clear c5
     try clear p6
     try clear c7
     try clear p8
     try clear c15
     try clear c15b0
     try clear c15b1
     try clear c16
     try clear c16b0
     try clear c16b1
     try clear c18
     try clear c18b0
     try clear c18b1
     try clear c19
     try clear c19b0
     try clear c19b1
     try clear c34
     try clear c35
     try clear c53
     try clear c53b0
     try clear c53b1
     try clear c54
     try clear c54b0
     try clear c54b1
     try clear c55
     try clear c55b0
     try clear c55b1
     try clear p64
     try clear p2
     try clear p6
     try clear p8
     obtain ⟨kq, x130_43, rfl, HA, HJ43, HO_13, HO_14, HO_15, HO_16, HO_17, HO_18, HB⟩ := hcut
     cases kq with
     | zero => exact absurd HA.out (by simp [proofmarklaw08_VecBits.j1])
     | succ kj43 =>
      have H := HA.out
      clear HA
      simp only [proofmarklaw08_VecBits.j1] at H
      by_cases c66 : x130_43 = true
      ·subst c66
       have H1 : (none) = some r := by rw [if_pos rfl] at H; exact H
       clear H
       have H := H1
       clear H1
       exact absurd H (by simp)
      ·replace c66 := Bool.eq_false_iff.mpr c66
       subst c66
       have H1 : (proofmarklaw08_VecBits.l0 kj43 t227 (wrap64 ((Int.tmod (wrap64 (a2)) 16) + 1)) t229 t232 t242 t246 t250 t254 0) = some r := by rw [if_neg (show ¬ (false = true) by decide)] at H; exact H
       clear H
       have H := H1
       clear H1
       have H' := Aside0.mk H
       clear H
       go_wp2
       repeat (go_quiet (fail); try go_wp2)
       go_loopg [19] kj43 (fun kq v19 w' => ∃ (x19_3 : Int), v19 = .int .i64 x19_3 ∧ Aside0 (proofmarklaw08_VecBits.l0 kq t227 (wrap64 ((Int.tmod (wrap64 (a2)) 16) + 1)) t229 t232 t242 t246 t250 t254 x19_3 = some r) ∧ Aside0 (kq ≤ kj43) ∧ Aside0 (Kd.R Kd.bool 4 w' w.heap.size (fun k_ => some k_ ≠ (v233 : Value).ownBlock ∧ some k_ ≠ (v243 : Value).ownBlock ∧ some k_ ≠ (v247 : Value).ownBlock ∧ some k_ ≠ (v251 : Value).ownBlock ∧ some k_ ≠ (v255 : Value).ownBlock) v230 t229) ∧ Aside0 (Kd.R Kd.bool 4 w' w.heap.size (fun k_ => some k_ ≠ (v230 : Value).ownBlock ∧ some k_ ≠ (v243 : Value).ownBlock ∧ some k_ ≠ (v247 : Value).ownBlock ∧ some k_ ≠ (v251 : Value).ownBlock ∧ some k_ ≠ (v255 : Value).ownBlock) v233 t232) ∧ Aside0 (Kd.R Kd.bool 4 w' w.heap.size (fun k_ => some k_ ≠ (v230 : Value).ownBlock ∧ some k_ ≠ (v233 : Value).ownBlock ∧ some k_ ≠ (v247 : Value).ownBlock ∧ some k_ ≠ (v251 : Value).ownBlock ∧ some k_ ≠ (v255 : Value).ownBlock) v243 t242) ∧ Aside0 (Kd.R Kd.bool 4 w' w.heap.size (fun k_ => some k_ ≠ (v230 : Value).ownBlock ∧ some k_ ≠ (v233 : Value).ownBlock ∧ some k_ ≠ (v243 : Value).ownBlock ∧ some k_ ≠ (v251 : Value).ownBlock ∧ some k_ ≠ (v255 : Value).ownBlock) v247 t246) ∧ Aside0 (Kd.R Kd.bool 4 w' w.heap.size (fun k_ => some k_ ≠ (v230 : Value).ownBlock ∧ some k_ ≠ (v233 : Value).ownBlock ∧ some k_ ≠ (v243 : Value).ownBlock ∧ some k_ ≠ (v247 : Value).ownBlock ∧ some k_ ≠ (v255 : Value).ownBlock) v251 t250) ∧ Aside0 (Kd.R Kd.bool 4 w' w.heap.size (fun k_ => some k_ ≠ (v230 : Value).ownBlock ∧ some k_ ≠ (v233 : Value).ownBlock ∧ some k_ ≠ (v243 : Value).ownBlock ∧ some k_ ≠ (v247 : Value).ownBlock ∧ some k_ ≠ (v251 : Value).ownBlock) v255 t254) ∧ Aside0 (Below w.heap.size w w'))
       case atStart => exact ⟨(0), (by first | rfl | (simp; done) | (simp [*]; done)), H', ⟨Nat.le_refl _⟩, ⟨by (with_reducible repeat (first | apply Kd.R_alloc | apply Kd.R_drewN | apply Kd.R_drew)); exact HO_13.out⟩, ⟨by (with_reducible repeat (first | apply Kd.R_alloc | apply Kd.R_drewN | apply Kd.R_drew)); exact HO_14.out⟩, ⟨by (with_reducible repeat (first | apply Kd.R_alloc | apply Kd.R_drewN | apply Kd.R_drew)); exact HO_15.out⟩, ⟨by (with_reducible repeat (first | apply Kd.R_alloc | apply Kd.R_drewN | apply Kd.R_drew)); exact HO_16.out⟩, ⟨by (with_reducible repeat (first | apply Kd.R_alloc | apply Kd.R_drewN | apply Kd.R_drew)); exact HO_17.out⟩, ⟨by (with_reducible repeat (first | apply Kd.R_alloc | apply Kd.R_drewN | apply Kd.R_drew)); exact HO_18.out⟩, ⟨by repeat (first | (with_reducible first | exact HB.out | apply below_alloc | apply pw_below_drewN | apply below_drew1) | exact HB.out)⟩⟩
       case round =>
        clear H'
        try clear c1
        try clear p2
        try clear c3
        try clear c5
        try clear c6
        try clear p6
        try clear c7
        try clear p8
        try clear c15
        try clear c15b0
        try clear c15b1
        try clear c16
        try clear c16b0
        try clear c16b1
        try clear c18
        try clear c18b0
        try clear c18b1
        try clear c19
        try clear c19b0
        try clear c19b1
        try clear c34
        try clear c35
        try clear c53
        try clear c53b0
        try clear c53b1
        try clear c54
        try clear c54b0
        try clear c54b1
        try clear c55
        try clear c55b0
        try clear c55b1
        try clear p64
        try clear c66
        try clear p2
        try clear p6
        try clear p64
        try clear p8
        obtain ⟨x19_3, rfl, HA, HK3, HO_13, HO_14, HO_15, HO_16, HO_17, HO_18, HB⟩ := hrel
        cases gk with
        | zero => exact absurd HA.out (by simp [proofmarklaw08_VecBits.l0])
        | succ k3 =>
         have H := HA.out
         clear HA
         simp only [proofmarklaw08_VecBits.l0] at H
         by_cases c67 : x19_3 < (wrap64 ((Int.tmod (wrap64 (a2)) 16) + 1))
         ·rw [if_pos c67] at H
          have c67b0 : decide (x19_3 < (wrap64 ((Int.tmod (wrap64 (a2)) 16) + 1))) = true := decide_eq_true c67
          clear c67
          by_cases c68 : 0 ≤ x19_3
          ·rw [if_pos c68] at H
           have c68b0 : decide (0 ≤ x19_3) = true := decide_eq_true c68
           clear c68
           by_cases c69 : x19_3 < (t242.length : Int)
           ·rw [if_pos c69] at H
            have c69b0 : decide (x19_3 < (t242.length : Int)) = true := decide_eq_true c69
            clear c69
            by_cases c70 : x19_3 < (t229.length : Int)
            ·rw [if_pos c70] at H
             have c70b0 : decide (x19_3 < (t229.length : Int)) = true := decide_eq_true c70
             clear c70
             obtain ⟨bq71, hbq71⟩ : ∃ b_ : Bool, b_ = (rdOf false t229 x19_3) := ⟨_, rfl⟩
             replace H : (if bq71 = true then (if x19_3 < (t232.length : Int) then (if ((rdOf false t242 x19_3) != (rdOf false t232 x19_3)) = true then (none) else (if x19_3 < (t246.length : Int) then (if ((rdOf false t246 x19_3) != true) = true then (none) else (if x19_3 < (t250.length : Int) then (if ((rdOf false t250 x19_3) != ((bq71) != (rdOf false t232 x19_3))) = true then (none) else (if x19_3 < (t254.length : Int) then (if ((rdOf false t254 x19_3) == (bq71)) = true then (none) else (proofmarklaw08_VecBits.l0 k3 t227 (wrap64 ((Int.tmod (wrap64 (a2)) 16) + 1)) t229 t232 t242 t246 t250 t254 (wrap64 (x19_3 + 1)))) else (none))) else (none))) else (none))) else (none)) else (if ((rdOf false t242 x19_3) != false) = true then (none) else (if x19_3 < (t246.length : Int) then (if x19_3 < (t232.length : Int) then (if ((rdOf false t246 x19_3) != (rdOf false t232 x19_3)) = true then (none) else (if x19_3 < (t250.length : Int) then (if ((rdOf false t250 x19_3) != ((bq71) != (rdOf false t232 x19_3))) = true then (none) else (if x19_3 < (t254.length : Int) then (if ((rdOf false t254 x19_3) == (bq71)) = true then (none) else (proofmarklaw08_VecBits.l0 k3 t227 (wrap64 ((Int.tmod (wrap64 (a2)) 16) + 1)) t229 t232 t242 t246 t250 t254 (wrap64 (x19_3 + 1)))) else (none))) else (none))) else (none)) else (none)))) = some r := by rw [← hbq71] at H; exact H
             have Nbq71 := Aside0.mk hbq71
             clear hbq71
             by_cases c72 : bq71 = true
             ·subst c72
              have H1 : (if x19_3 < (t232.length : Int) then (if ((rdOf false t242 x19_3) != (rdOf false t232 x19_3)) = true then (none) else (if x19_3 < (t246.length : Int) then (if ((rdOf false t246 x19_3) != true) = true then (none) else (if x19_3 < (t250.length : Int) then (if ((rdOf false t250 x19_3) != ((true) != (rdOf false t232 x19_3))) = true then (none) else (if x19_3 < (t254.length : Int) then (if ((rdOf false t254 x19_3) == (true)) = true then (none) else (proofmarklaw08_VecBits.l0 k3 t227 (wrap64 ((Int.tmod (wrap64 (a2)) 16) + 1)) t229 t232 t242 t246 t250 t254 (wrap64 (x19_3 + 1)))) else (none))) else (none))) else (none))) else (none)) = some r := by rw [if_pos rfl] at H; exact H
              clear H
              have H := H1
              clear H1
              by_cases c73 : x19_3 < (t232.length : Int)
              ·rw [if_pos c73] at H
               have c73b0 : decide (x19_3 < (t232.length : Int)) = true := decide_eq_true c73
               clear c73
               by_cases c74 : ((rdOf false t242 x19_3) != (rdOf false t232 x19_3)) = true
               ·rw [if_pos c74] at H
                exact absurd H (by simp)
               ·rw [if_neg c74] at H
                have c74b0 : ((rdOf false t242 x19_3) != (rdOf false t232 x19_3)) = false := by simpa using c74
                (try (have c74b1 : decide ((rdOf false t242 x19_3) = (rdOf false t232 x19_3)) = true := by simpa using c74))
                (try (have c74b2 : ((rdOf false t242 x19_3) == (rdOf false t232 x19_3)) = true := by simpa using c74))
                clear c74
                by_cases c75 : x19_3 < (t246.length : Int)
                ·rw [if_pos c75] at H
                 have c75b0 : decide (x19_3 < (t246.length : Int)) = true := decide_eq_true c75
                 clear c75
                 by_cases c76 : ((rdOf false t246 x19_3) != true) = true
                 ·rw [if_pos c76] at H
                  exact absurd H (by simp)
                 ·rw [if_neg c76] at H
                  have c76b0 : ((rdOf false t246 x19_3) != true) = false := by simpa using c76
                  (try (have c76b1 : decide ((rdOf false t246 x19_3) = true) = true := by simpa using c76))
                  (try (have c76b2 : ((rdOf false t246 x19_3) == true) = true := by simpa using c76))
                  clear c76
                  by_cases c77 : x19_3 < (t250.length : Int)
                  ·rw [if_pos c77] at H
                   have c77b0 : decide (x19_3 < (t250.length : Int)) = true := decide_eq_true c77
                   clear c77
                   by_cases c78 : ((rdOf false t250 x19_3) != ((true) != (rdOf false t232 x19_3))) = true
                   ·rw [if_pos c78] at H
                    exact absurd H (by simp)
                   ·rw [if_neg c78] at H
                    have c78b0 : ((rdOf false t250 x19_3) != ((true) != (rdOf false t232 x19_3))) = false := by simpa using c78
                    (try (have c78b1 : decide ((rdOf false t250 x19_3) = ((true) != (rdOf false t232 x19_3))) = true := by simpa using c78))
                    (try (have c78b2 : ((rdOf false t250 x19_3) == ((true) != (rdOf false t232 x19_3))) = true := by simpa using c78))
                    clear c78
                    by_cases c79 : x19_3 < (t254.length : Int)
                    ·rw [if_pos c79] at H
                     have c79b0 : decide (x19_3 < (t254.length : Int)) = true := decide_eq_true c79
                     clear c79
                     by_cases c80 : ((rdOf false t254 x19_3) == (true)) = true
                     ·rw [if_pos c80] at H
                      exact absurd H (by simp)
                     ·rw [if_neg c80] at H
                      have c80b0 : ((rdOf false t254 x19_3) == (true)) = false := by simpa using c80
                      (try (have c80b1 : decide ((rdOf false t254 x19_3) = (true)) = false := by simpa using c80))
                      (try (have c80b2 : ((rdOf false t254 x19_3) == (true)) = false := by simpa using c80))
                      (try (have c80b3 : ¬ ((rdOf false t254 x19_3) = (true)) := by simpa using c80))
                      clear c80
                      have H' := Aside0.mk H
                      clear H
                      obtain ⟨Ao81, co81, eo81⟩ := Kd.R_slice HO_15.out
                      subst eo81
                      have p257 : 0 ≤ (x19_3 : Int) := of_decide_eq_true (by first | (with_reducible assumption) | assumption)
                      have q257 : x19_3 < (t242.length : Int) := of_decide_eq_true (by first | (with_reducible assumption) | assumption)
                      obtain ⟨ad257, e257, hx257_0⟩ := Kd.at_bool (Kd.R_reads' HO_15.out).2.2 x19_3 p257 q257
                      (try rw [← Nbq71.out] at hx257_0)
                      cases e257
                      replace p257 := eq_true p257
                      replace q257 := eq_true q257
                      obtain ⟨Ao82, co82, eo82⟩ := Kd.R_slice HO_13.out
                      subst eo82
                      have p258 : 0 ≤ (x19_3 : Int) := of_decide_eq_true (by first | (with_reducible assumption) | assumption)
                      have q258 : x19_3 < (t229.length : Int) := of_decide_eq_true (by first | (with_reducible assumption) | assumption)
                      obtain ⟨ad258, e258, hx258_0⟩ := Kd.at_bool (Kd.R_reads' HO_13.out).2.2 x19_3 p258 q258
                      (try rw [← Nbq71.out] at hx258_0)
                      cases e258
                      replace p258 := eq_true p258
                      replace q258 := eq_true q258
                      obtain ⟨Ao83, co83, eo83⟩ := Kd.R_slice HO_14.out
                      subst eo83
                      have p259 : 0 ≤ (x19_3 : Int) := of_decide_eq_true (by first | (with_reducible assumption) | assumption)
                      have q259 : x19_3 < (t232.length : Int) := of_decide_eq_true (by first | (with_reducible assumption) | assumption)
                      obtain ⟨ad259, e259, hx259_0⟩ := Kd.at_bool (Kd.R_reads' HO_14.out).2.2 x19_3 p259 q259
                      (try rw [← Nbq71.out] at hx259_0)
                      cases e259
                      replace p259 := eq_true p259
                      replace q259 := eq_true q259
                      obtain ⟨Ao84, co84, eo84⟩ := Kd.R_slice HO_16.out
                      subst eo84
                      have p260 : 0 ≤ (x19_3 : Int) := of_decide_eq_true (by first | (with_reducible assumption) | assumption)
                      have q260 : x19_3 < (t246.length : Int) := of_decide_eq_true (by first | (with_reducible assumption) | assumption)
                      obtain ⟨ad260, e260, hx260_0⟩ := Kd.at_bool (Kd.R_reads' HO_16.out).2.2 x19_3 p260 q260
                      (try rw [← Nbq71.out] at hx260_0)
                      cases e260
                      replace p260 := eq_true p260
                      replace q260 := eq_true q260
                      have p261 : 0 ≤ (x19_3 : Int) := of_decide_eq_true (by first | (with_reducible assumption) | assumption)
                      have q261 : x19_3 < (t229.length : Int) := of_decide_eq_true (by first | (with_reducible assumption) | assumption)
                      obtain ⟨ad261, e261, hx261_0⟩ := Kd.at_bool (Kd.R_reads' HO_13.out).2.2 x19_3 p261 q261
                      (try rw [← Nbq71.out] at hx261_0)
                      obtain rfl : ad258 = ad261 := (by injection e261)
                      replace p261 := eq_true p261
                      replace q261 := eq_true q261
                      obtain ⟨Ao85, co85, eo85⟩ := Kd.R_slice HO_17.out
                      subst eo85
                      have p262 : 0 ≤ (x19_3 : Int) := of_decide_eq_true (by first | (with_reducible assumption) | assumption)
                      have q262 : x19_3 < (t250.length : Int) := of_decide_eq_true (by first | (with_reducible assumption) | assumption)
                      obtain ⟨ad262, e262, hx262_0⟩ := Kd.at_bool (Kd.R_reads' HO_17.out).2.2 x19_3 p262 q262
                      (try rw [← Nbq71.out] at hx262_0)
                      cases e262
                      replace p262 := eq_true p262
                      replace q262 := eq_true q262
                      have p263 : 0 ≤ (x19_3 : Int) := of_decide_eq_true (by first | (with_reducible assumption) | assumption)
                      have q263 : x19_3 < (t229.length : Int) := of_decide_eq_true (by first | (with_reducible assumption) | assumption)
                      obtain ⟨ad263, e263, hx263_0⟩ := Kd.at_bool (Kd.R_reads' HO_13.out).2.2 x19_3 p263 q263
                      (try rw [← Nbq71.out] at hx263_0)
                      obtain rfl : ad258 = ad263 := (by injection e263)
                      replace p263 := eq_true p263
                      replace q263 := eq_true q263
                      have p264 : 0 ≤ (x19_3 : Int) := of_decide_eq_true (by first | (with_reducible assumption) | assumption)
                      have q264 : x19_3 < (t232.length : Int) := of_decide_eq_true (by first | (with_reducible assumption) | assumption)
                      obtain ⟨ad264, e264, hx264_0⟩ := Kd.at_bool (Kd.R_reads' HO_14.out).2.2 x19_3 p264 q264
                      (try rw [← Nbq71.out] at hx264_0)
                      obtain rfl : ad259 = ad264 := (by injection e264)
                      replace p264 := eq_true p264
                      replace q264 := eq_true q264
                      obtain ⟨Ao86, co86, eo86⟩ := Kd.R_slice HO_18.out
                      subst eo86
                      have p265 : 0 ≤ (x19_3 : Int) := of_decide_eq_true (by first | (with_reducible assumption) | assumption)
                      have q265 : x19_3 < (t254.length : Int) := of_decide_eq_true (by first | (with_reducible assumption) | assumption)
                      obtain ⟨ad265, e265, hx265_0⟩ := Kd.at_bool (Kd.R_reads' HO_18.out).2.2 x19_3 p265 q265
                      (try rw [← Nbq71.out] at hx265_0)
                      cases e265
                      replace p265 := eq_true p265
                      replace q265 := eq_true q265
                      have p266 : 0 ≤ (x19_3 : Int) := of_decide_eq_true (by first | (with_reducible assumption) | assumption)
                      have q266 : x19_3 < (t229.length : Int) := of_decide_eq_true (by first | (with_reducible assumption) | assumption)
                      obtain ⟨ad266, e266, hx266_0⟩ := Kd.at_bool (Kd.R_reads' HO_13.out).2.2 x19_3 p266 q266
                      (try rw [← Nbq71.out] at hx266_0)
                      obtain rfl : ad258 = ad266 := (by injection e266)
                      replace p266 := eq_true p266
                      replace q266 := eq_true q266
                      (try clear c74b1); (try clear c74b2)
                      (try clear c76b1); (try clear c76b2)
                      (try clear c78b1); (try clear c78b2)
                      (try clear c80b1); (try clear c80b2)
                      obtain ⟨z0_, h0_⟩ : ∃ b_ : Bool, b_ = (rdOf false t232 x19_3) := ⟨_, rfl⟩
                      rw [← h0_] at c74b0
                      rw [← h0_] at c78b0
                      (try rw [← h0_] at hx257_0)
                      (try rw [← h0_] at hx258_0)
                      (try rw [← h0_] at hx259_0)
                      (try rw [← h0_] at hx260_0)
                      (try rw [← h0_] at hx261_0)
                      (try rw [← h0_] at hx262_0)
                      (try rw [← h0_] at hx263_0)
                      (try rw [← h0_] at hx264_0)
                      (try rw [← h0_] at hx265_0)
                      (try rw [← h0_] at hx266_0)
                      clear h0_
                      obtain ⟨z1_, h1_⟩ : ∃ b_ : Bool, b_ = (rdOf false t242 x19_3) := ⟨_, rfl⟩
                      rw [← h1_] at c74b0
                      (try rw [← h1_] at hx257_0)
                      (try rw [← h1_] at hx258_0)
                      (try rw [← h1_] at hx259_0)
                      (try rw [← h1_] at hx260_0)
                      (try rw [← h1_] at hx261_0)
                      (try rw [← h1_] at hx262_0)
                      (try rw [← h1_] at hx263_0)
                      (try rw [← h1_] at hx264_0)
                      (try rw [← h1_] at hx265_0)
                      (try rw [← h1_] at hx266_0)
                      clear h1_
                      obtain ⟨z2_, h2_⟩ : ∃ b_ : Bool, b_ = (rdOf false t246 x19_3) := ⟨_, rfl⟩
                      rw [← h2_] at c76b0
                      (try rw [← h2_] at hx257_0)
                      (try rw [← h2_] at hx258_0)
                      (try rw [← h2_] at hx259_0)
                      (try rw [← h2_] at hx260_0)
                      (try rw [← h2_] at hx261_0)
                      (try rw [← h2_] at hx262_0)
                      (try rw [← h2_] at hx263_0)
                      (try rw [← h2_] at hx264_0)
                      (try rw [← h2_] at hx265_0)
                      (try rw [← h2_] at hx266_0)
                      clear h2_
                      obtain ⟨z3_, h3_⟩ : ∃ b_ : Bool, b_ = (rdOf false t250 x19_3) := ⟨_, rfl⟩
                      rw [← h3_] at c78b0
                      (try rw [← h3_] at hx257_0)
                      (try rw [← h3_] at hx258_0)
                      (try rw [← h3_] at hx259_0)
                      (try rw [← h3_] at hx260_0)
                      (try rw [← h3_] at hx261_0)
                      (try rw [← h3_] at hx262_0)
                      (try rw [← h3_] at hx263_0)
                      (try rw [← h3_] at hx264_0)
                      (try rw [← h3_] at hx265_0)
                      (try rw [← h3_] at hx266_0)
                      clear h3_
                      obtain ⟨z4_, h4_⟩ : ∃ b_ : Bool, b_ = (rdOf false t254 x19_3) := ⟨_, rfl⟩
                      rw [← h4_] at c80b0
                      (try rw [← h4_] at hx257_0)
                      (try rw [← h4_] at hx258_0)
                      (try rw [← h4_] at hx259_0)
                      (try rw [← h4_] at hx260_0)
                      (try rw [← h4_] at hx261_0)
                      (try rw [← h4_] at hx262_0)
                      (try rw [← h4_] at hx263_0)
                      (try rw [← h4_] at hx264_0)
                      (try rw [← h4_] at hx265_0)
                      (try rw [← h4_] at hx266_0)
                      clear h4_
                      have ez1_ : z1_ = (z0_) := by revert c74b0; cases z0_ <;> cases z1_ <;> decide
                      subst z1_
                      clear c74b0
                      have ez2_ : z2_ = (true) := by revert c76b0; cases z0_ <;> cases z2_ <;> decide
                      subst z2_
                      clear c76b0
                      have ez3_ : z3_ = (!z0_) := by revert c78b0; cases z0_ <;> cases z3_ <;> decide
                      subst z3_
                      clear c78b0
                      have ez4_ : z4_ = (false) := by revert c80b0; cases z0_ <;> cases z4_ <;> decide
                      subst z4_
                      clear c80b0
                      have hs1_ : (z0_ != z0_) = false := by cases z0_ <;> rfl
                      have hs2_ : ((!z0_) != (!z0_)) = false := by cases z0_ <;> rfl
                      have hs3_ : ((!z0_) != (true != z0_)) = false := by cases z0_ <;> rfl
                      have hs4_ : (z0_ != (false != z0_)) = false := by cases z0_ <;> rfl
                      go_wp2
                      repeat (go_quiet (fail); try go_wp2)
                      go_roundg k3
                      case measure => have := HJ10.out; have := HJ43.out; have := HK3.out; omega
                      case rel => exact ⟨(wrap64 (x19_3 + 1)), (by first | rfl | (simp; done) | (simp [*]; done)), H', ⟨by have := HJ10.out; have := HJ43.out; have := HK3.out; omega⟩, ⟨by (with_reducible repeat (first | apply Kd.R_alloc | apply Kd.R_drewN | apply Kd.R_drew)); exact HO_13.out⟩, ⟨by (with_reducible repeat (first | apply Kd.R_alloc | apply Kd.R_drewN | apply Kd.R_drew)); exact HO_14.out⟩, ⟨by (with_reducible repeat (first | apply Kd.R_alloc | apply Kd.R_drewN | apply Kd.R_drew)); exact HO_15.out⟩, ⟨by (with_reducible repeat (first | apply Kd.R_alloc | apply Kd.R_drewN | apply Kd.R_drew)); exact HO_16.out⟩, ⟨by (with_reducible repeat (first | apply Kd.R_alloc | apply Kd.R_drewN | apply Kd.R_drew)); exact HO_17.out⟩, ⟨by (with_reducible repeat (first | apply Kd.R_alloc | apply Kd.R_drewN | apply Kd.R_drew)); exact HO_18.out⟩, ⟨by repeat (first | (with_reducible first | exact HB.out | apply below_alloc | apply pw_below_drewN | apply below_drew1) | exact HB.out)⟩⟩
                    ·rw [if_neg c79] at H
                     exact absurd H (by simp)
                  ·rw [if_neg c77] at H
                   exact absurd H (by simp)
                ·rw [if_neg c75] at H
                 exact absurd H (by simp)
              ·rw [if_neg c73] at H
               exact absurd H (by simp)
             ·replace c72 := Bool.eq_false_iff.mpr c72
              subst c72
              have H1 : (if ((rdOf false t242 x19_3) != false) = true then (none) else (if x19_3 < (t246.length : Int) then (if x19_3 < (t232.length : Int) then (if ((rdOf false t246 x19_3) != (rdOf false t232 x19_3)) = true then (none) else (if x19_3 < (t250.length : Int) then (if ((rdOf false t250 x19_3) != ((false) != (rdOf false t232 x19_3))) = true then (none) else (if x19_3 < (t254.length : Int) then (if ((rdOf false t254 x19_3) == (false)) = true then (none) else (proofmarklaw08_VecBits.l0 k3 t227 (wrap64 ((Int.tmod (wrap64 (a2)) 16) + 1)) t229 t232 t242 t246 t250 t254 (wrap64 (x19_3 + 1)))) else (none))) else (none))) else (none)) else (none))) = some r := by rw [if_neg (show ¬ (false = true) by decide)] at H; exact H
              clear H
              have H := H1
              clear H1
              by_cases c87 : ((rdOf false t242 x19_3) != false) = true
              ·rw [if_pos c87] at H
               exact absurd H (by simp)
              ·rw [if_neg c87] at H
               have c87b0 : ((rdOf false t242 x19_3) != false) = false := by simpa using c87
               (try (have c87b1 : decide ((rdOf false t242 x19_3) = false) = true := by simpa using c87))
               (try (have c87b2 : ((rdOf false t242 x19_3) == false) = true := by simpa using c87))
               clear c87
               by_cases c88 : x19_3 < (t246.length : Int)
               ·rw [if_pos c88] at H
                have c88b0 : decide (x19_3 < (t246.length : Int)) = true := decide_eq_true c88
                clear c88
                by_cases c89 : x19_3 < (t232.length : Int)
                ·rw [if_pos c89] at H
                 have c89b0 : decide (x19_3 < (t232.length : Int)) = true := decide_eq_true c89
                 clear c89
                 by_cases c90 : ((rdOf false t246 x19_3) != (rdOf false t232 x19_3)) = true
                 ·rw [if_pos c90] at H
                  exact absurd H (by simp)
                 ·rw [if_neg c90] at H
                  have c90b0 : ((rdOf false t246 x19_3) != (rdOf false t232 x19_3)) = false := by simpa using c90
                  (try (have c90b1 : decide ((rdOf false t246 x19_3) = (rdOf false t232 x19_3)) = true := by simpa using c90))
                  (try (have c90b2 : ((rdOf false t246 x19_3) == (rdOf false t232 x19_3)) = true := by simpa using c90))
                  clear c90
                  by_cases c91 : x19_3 < (t250.length : Int)
                  ·rw [if_pos c91] at H
                   have c91b0 : decide (x19_3 < (t250.length : Int)) = true := decide_eq_true c91
                   clear c91
                   by_cases c92 : ((rdOf false t250 x19_3) != ((false) != (rdOf false t232 x19_3))) = true
                   ·rw [if_pos c92] at H
                    exact absurd H (by simp)
                   ·rw [if_neg c92] at H
                    have c92b0 : ((rdOf false t250 x19_3) != ((false) != (rdOf false t232 x19_3))) = false := by simpa using c92
                    (try (have c92b1 : decide ((rdOf false t250 x19_3) = ((false) != (rdOf false t232 x19_3))) = true := by simpa using c92))
                    (try (have c92b2 : ((rdOf false t250 x19_3) == ((false) != (rdOf false t232 x19_3))) = true := by simpa using c92))
                    clear c92
                    by_cases c93 : x19_3 < (t254.length : Int)
                    ·rw [if_pos c93] at H
                     have c93b0 : decide (x19_3 < (t254.length : Int)) = true := decide_eq_true c93
                     clear c93
                     by_cases c94 : ((rdOf false t254 x19_3) == (false)) = true
                     ·rw [if_pos c94] at H
                      exact absurd H (by simp)
                     ·rw [if_neg c94] at H
                      have c94b0 : ((rdOf false t254 x19_3) == (false)) = false := by simpa using c94
                      (try (have c94b1 : decide ((rdOf false t254 x19_3) = (false)) = false := by simpa using c94))
                      (try (have c94b2 : ((rdOf false t254 x19_3) == (false)) = false := by simpa using c94))
                      (try (have c94b3 : ¬ ((rdOf false t254 x19_3) = (false)) := by simpa using c94))
                      clear c94
                      have H' := Aside0.mk H
                      clear H
                      obtain ⟨Ao95, co95, eo95⟩ := Kd.R_slice HO_15.out
                      subst eo95
                      have p257 : 0 ≤ (x19_3 : Int) := of_decide_eq_true (by first | (with_reducible assumption) | assumption)
                      have q257 : x19_3 < (t242.length : Int) := of_decide_eq_true (by first | (with_reducible assumption) | assumption)
                      obtain ⟨ad257, e257, hx257_0⟩ := Kd.at_bool (Kd.R_reads' HO_15.out).2.2 x19_3 p257 q257
                      (try rw [← Nbq71.out] at hx257_0)
                      cases e257
                      replace p257 := eq_true p257
                      replace q257 := eq_true q257
                      obtain ⟨Ao96, co96, eo96⟩ := Kd.R_slice HO_13.out
                      subst eo96
                      have p258 : 0 ≤ (x19_3 : Int) := of_decide_eq_true (by first | (with_reducible assumption) | assumption)
                      have q258 : x19_3 < (t229.length : Int) := of_decide_eq_true (by first | (with_reducible assumption) | assumption)
                      obtain ⟨ad258, e258, hx258_0⟩ := Kd.at_bool (Kd.R_reads' HO_13.out).2.2 x19_3 p258 q258
                      (try rw [← Nbq71.out] at hx258_0)
                      cases e258
                      replace p258 := eq_true p258
                      replace q258 := eq_true q258
                      obtain ⟨Ao97, co97, eo97⟩ := Kd.R_slice HO_16.out
                      subst eo97
                      have p267 : 0 ≤ (x19_3 : Int) := of_decide_eq_true (by first | (with_reducible assumption) | assumption)
                      have q267 : x19_3 < (t246.length : Int) := of_decide_eq_true (by first | (with_reducible assumption) | assumption)
                      obtain ⟨ad267, e267, hx267_0⟩ := Kd.at_bool (Kd.R_reads' HO_16.out).2.2 x19_3 p267 q267
                      (try rw [← Nbq71.out] at hx267_0)
                      cases e267
                      replace p267 := eq_true p267
                      replace q267 := eq_true q267
                      have p268 : 0 ≤ (x19_3 : Int) := of_decide_eq_true (by first | (with_reducible assumption) | assumption)
                      have q268 : x19_3 < (t229.length : Int) := of_decide_eq_true (by first | (with_reducible assumption) | assumption)
                      obtain ⟨ad268, e268, hx268_0⟩ := Kd.at_bool (Kd.R_reads' HO_13.out).2.2 x19_3 p268 q268
                      (try rw [← Nbq71.out] at hx268_0)
                      obtain rfl : ad258 = ad268 := (by injection e268)
                      replace p268 := eq_true p268
                      replace q268 := eq_true q268
                      obtain ⟨Ao98, co98, eo98⟩ := Kd.R_slice HO_14.out
                      subst eo98
                      have p269 : 0 ≤ (x19_3 : Int) := of_decide_eq_true (by first | (with_reducible assumption) | assumption)
                      have q269 : x19_3 < (t232.length : Int) := of_decide_eq_true (by first | (with_reducible assumption) | assumption)
                      obtain ⟨ad269, e269, hx269_0⟩ := Kd.at_bool (Kd.R_reads' HO_14.out).2.2 x19_3 p269 q269
                      (try rw [← Nbq71.out] at hx269_0)
                      cases e269
                      replace p269 := eq_true p269
                      replace q269 := eq_true q269
                      obtain ⟨Ao99, co99, eo99⟩ := Kd.R_slice HO_17.out
                      subst eo99
                      have p270 : 0 ≤ (x19_3 : Int) := of_decide_eq_true (by first | (with_reducible assumption) | assumption)
                      have q270 : x19_3 < (t250.length : Int) := of_decide_eq_true (by first | (with_reducible assumption) | assumption)
                      obtain ⟨ad270, e270, hx270_0⟩ := Kd.at_bool (Kd.R_reads' HO_17.out).2.2 x19_3 p270 q270
                      (try rw [← Nbq71.out] at hx270_0)
                      cases e270
                      replace p270 := eq_true p270
                      replace q270 := eq_true q270
                      have p271 : 0 ≤ (x19_3 : Int) := of_decide_eq_true (by first | (with_reducible assumption) | assumption)
                      have q271 : x19_3 < (t229.length : Int) := of_decide_eq_true (by first | (with_reducible assumption) | assumption)
                      obtain ⟨ad271, e271, hx271_0⟩ := Kd.at_bool (Kd.R_reads' HO_13.out).2.2 x19_3 p271 q271
                      (try rw [← Nbq71.out] at hx271_0)
                      obtain rfl : ad258 = ad271 := (by injection e271)
                      replace p271 := eq_true p271
                      replace q271 := eq_true q271
                      have p272 : 0 ≤ (x19_3 : Int) := of_decide_eq_true (by first | (with_reducible assumption) | assumption)
                      have q272 : x19_3 < (t232.length : Int) := of_decide_eq_true (by first | (with_reducible assumption) | assumption)
                      obtain ⟨ad272, e272, hx272_0⟩ := Kd.at_bool (Kd.R_reads' HO_14.out).2.2 x19_3 p272 q272
                      (try rw [← Nbq71.out] at hx272_0)
                      obtain rfl : ad269 = ad272 := (by injection e272)
                      replace p272 := eq_true p272
                      replace q272 := eq_true q272
                      obtain ⟨Ao100, co100, eo100⟩ := Kd.R_slice HO_18.out
                      subst eo100
                      have p273 : 0 ≤ (x19_3 : Int) := of_decide_eq_true (by first | (with_reducible assumption) | assumption)
                      have q273 : x19_3 < (t254.length : Int) := of_decide_eq_true (by first | (with_reducible assumption) | assumption)
                      obtain ⟨ad273, e273, hx273_0⟩ := Kd.at_bool (Kd.R_reads' HO_18.out).2.2 x19_3 p273 q273
                      (try rw [← Nbq71.out] at hx273_0)
                      cases e273
                      replace p273 := eq_true p273
                      replace q273 := eq_true q273
                      have p274 : 0 ≤ (x19_3 : Int) := of_decide_eq_true (by first | (with_reducible assumption) | assumption)
                      have q274 : x19_3 < (t229.length : Int) := of_decide_eq_true (by first | (with_reducible assumption) | assumption)
                      obtain ⟨ad274, e274, hx274_0⟩ := Kd.at_bool (Kd.R_reads' HO_13.out).2.2 x19_3 p274 q274
                      (try rw [← Nbq71.out] at hx274_0)
                      obtain rfl : ad258 = ad274 := (by injection e274)
                      replace p274 := eq_true p274
                      replace q274 := eq_true q274
                      (try clear c87b1); (try clear c87b2)
                      (try clear c90b1); (try clear c90b2)
                      (try clear c92b1); (try clear c92b2)
                      (try clear c94b1); (try clear c94b2)
                      obtain ⟨z0_, h0_⟩ : ∃ b_ : Bool, b_ = (rdOf false t232 x19_3) := ⟨_, rfl⟩
                      rw [← h0_] at c90b0
                      rw [← h0_] at c92b0
                      (try rw [← h0_] at hx257_0)
                      (try rw [← h0_] at hx258_0)
                      (try rw [← h0_] at hx267_0)
                      (try rw [← h0_] at hx268_0)
                      (try rw [← h0_] at hx269_0)
                      (try rw [← h0_] at hx270_0)
                      (try rw [← h0_] at hx271_0)
                      (try rw [← h0_] at hx272_0)
                      (try rw [← h0_] at hx273_0)
                      (try rw [← h0_] at hx274_0)
                      clear h0_
                      obtain ⟨z1_, h1_⟩ : ∃ b_ : Bool, b_ = (rdOf false t242 x19_3) := ⟨_, rfl⟩
                      rw [← h1_] at c87b0
                      (try rw [← h1_] at hx257_0)
                      (try rw [← h1_] at hx258_0)
                      (try rw [← h1_] at hx267_0)
                      (try rw [← h1_] at hx268_0)
                      (try rw [← h1_] at hx269_0)
                      (try rw [← h1_] at hx270_0)
                      (try rw [← h1_] at hx271_0)
                      (try rw [← h1_] at hx272_0)
                      (try rw [← h1_] at hx273_0)
                      (try rw [← h1_] at hx274_0)
                      clear h1_
                      obtain ⟨z2_, h2_⟩ : ∃ b_ : Bool, b_ = (rdOf false t246 x19_3) := ⟨_, rfl⟩
                      rw [← h2_] at c90b0
                      (try rw [← h2_] at hx257_0)
                      (try rw [← h2_] at hx258_0)
                      (try rw [← h2_] at hx267_0)
                      (try rw [← h2_] at hx268_0)
                      (try rw [← h2_] at hx269_0)
                      (try rw [← h2_] at hx270_0)
                      (try rw [← h2_] at hx271_0)
                      (try rw [← h2_] at hx272_0)
                      (try rw [← h2_] at hx273_0)
                      (try rw [← h2_] at hx274_0)
                      clear h2_
                      obtain ⟨z3_, h3_⟩ : ∃ b_ : Bool, b_ = (rdOf false t250 x19_3) := ⟨_, rfl⟩
                      rw [← h3_] at c92b0
                      (try rw [← h3_] at hx257_0)
                      (try rw [← h3_] at hx258_0)
                      (try rw [← h3_] at hx267_0)
                      (try rw [← h3_] at hx268_0)
                      (try rw [← h3_] at hx269_0)
                      (try rw [← h3_] at hx270_0)
                      (try rw [← h3_] at hx271_0)
                      (try rw [← h3_] at hx272_0)
                      (try rw [← h3_] at hx273_0)
                      (try rw [← h3_] at hx274_0)
                      clear h3_
                      obtain ⟨z4_, h4_⟩ : ∃ b_ : Bool, b_ = (rdOf false t254 x19_3) := ⟨_, rfl⟩
                      rw [← h4_] at c94b0
                      (try rw [← h4_] at hx257_0)
                      (try rw [← h4_] at hx258_0)
                      (try rw [← h4_] at hx267_0)
                      (try rw [← h4_] at hx268_0)
                      (try rw [← h4_] at hx269_0)
                      (try rw [← h4_] at hx270_0)
                      (try rw [← h4_] at hx271_0)
                      (try rw [← h4_] at hx272_0)
                      (try rw [← h4_] at hx273_0)
                      (try rw [← h4_] at hx274_0)
                      clear h4_
                      have ez1_ : z1_ = (false) := by revert c87b0; cases z0_ <;> cases z1_ <;> decide
                      subst z1_
                      clear c87b0
                      have ez2_ : z2_ = (z0_) := by revert c90b0; cases z0_ <;> cases z2_ <;> decide
                      subst z2_
                      clear c90b0
                      have ez3_ : z3_ = (z0_) := by revert c92b0; cases z0_ <;> cases z3_ <;> decide
                      subst z3_
                      clear c92b0
                      have ez4_ : z4_ = (true) := by revert c94b0; cases z0_ <;> cases z4_ <;> decide
                      subst z4_
                      clear c94b0
                      have hs1_ : (z0_ != z0_) = false := by cases z0_ <;> rfl
                      have hs2_ : ((!z0_) != (!z0_)) = false := by cases z0_ <;> rfl
                      have hs3_ : ((!z0_) != (true != z0_)) = false := by cases z0_ <;> rfl
                      have hs4_ : (z0_ != (false != z0_)) = false := by cases z0_ <;> rfl
                      go_wp2
                      repeat (go_quiet (fail); try go_wp2)
                      go_roundg k3
                      case measure => have := HJ10.out; have := HJ43.out; have := HK3.out; omega
                      case rel => exact ⟨(wrap64 (x19_3 + 1)), (by first | rfl | (simp; done) | (simp [*]; done)), H', ⟨by have := HJ10.out; have := HJ43.out; have := HK3.out; omega⟩, ⟨by (with_reducible repeat (first | apply Kd.R_alloc | apply Kd.R_drewN | apply Kd.R_drew)); exact HO_13.out⟩, ⟨by (with_reducible repeat (first | apply Kd.R_alloc | apply Kd.R_drewN | apply Kd.R_drew)); exact HO_14.out⟩, ⟨by (with_reducible repeat (first | apply Kd.R_alloc | apply Kd.R_drewN | apply Kd.R_drew)); exact HO_15.out⟩, ⟨by (with_reducible repeat (first | apply Kd.R_alloc | apply Kd.R_drewN | apply Kd.R_drew)); exact HO_16.out⟩, ⟨by (with_reducible repeat (first | apply Kd.R_alloc | apply Kd.R_drewN | apply Kd.R_drew)); exact HO_17.out⟩, ⟨by (with_reducible repeat (first | apply Kd.R_alloc | apply Kd.R_drewN | apply Kd.R_drew)); exact HO_18.out⟩, ⟨by repeat (first | (with_reducible first | exact HB.out | apply below_alloc | apply pw_below_drewN | apply below_drew1) | exact HB.out)⟩⟩
                    ·rw [if_neg c93] at H
                     exact absurd H (by simp)
                  ·rw [if_neg c91] at H
                   exact absurd H (by simp)
                ·rw [if_neg c89] at H
                 exact absurd H (by simp)
               ·rw [if_neg c88] at H
                exact absurd H (by simp)
            ·rw [if_neg c70] at H
             exact absurd H (by simp)
           ·rw [if_neg c69] at H
            exact absurd H (by simp)
          ·rw [if_neg c68] at H
           exact absurd H (by simp)
         ·rw [if_neg c67] at H
          have c67b0 : decide (x19_3 < (wrap64 ((Int.tmod (wrap64 (a2)) 16) + 1))) = false := decide_eq_false c67
          clear c67
          obtain rfl := Option.some.inj H
          go_wp2
          repeat (go_quiet (fail); try go_wp2)
          go_ret
          exact ⟨by first | rfl | (simp [errW_none, errW_some] <;> rfl) | (simp [*, errW_none, errW_some] <;> rfl), by repeat (first | (with_reducible first | exact HB.out | apply below_alloc | apply pw_below_drewN | apply below_drew1) | exact HB.out)⟩

end Go.Proofs.Ytcfipamdinfomaa.Xb
