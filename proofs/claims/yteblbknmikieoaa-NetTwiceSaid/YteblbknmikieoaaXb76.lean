/- Slimmed by this session: what nothing names is struck out. -/
import Derived.Test.YteblbknmikieoaaXb0
import Derived.Test.YteblbknmikieoaaXbZ
import Derived.Test.YteblbknmikieoaaXbF
namespace Go.Proofs.Yteblbknmikieoaa.Xb
open Go.RowKit Go.Proofs.YteblbknmikieoaaW.PrintWords Go.Proofs.YteblbknmikieoaaW.PrintLast Go.Proofs.YteblbknmikieoaaW.PrintMore
attribute [local go_sem] max2_int min2_int max_two min_two max_three min_three max_four min_four
set_option linter.unusedVariables false
set_option linter.unusedSimpArgs false
theorem cells5_76 {w : World} {g : Nat} {t : TypeId} {x0 x1 x2 x3 x4 : Value} (h : w.heap[g]? = some (.cells #[x0, x1, x2, x3, x4] t (0, 0))) : w.cell? ⟨g, 0, none⟩ = some x0 ∧ w.cell? ⟨g, 1, none⟩ = some x1 ∧ w.cell? ⟨g, 2, none⟩ = some x2 ∧ w.cell? ⟨g, 3, none⟩ = some x3 ∧ w.cell? ⟨g, 4, none⟩ = some x4 ∧ w.frozen? ⟨g, 0, none⟩ = false ∧ w.frozen? ⟨g, 1, none⟩ = false ∧ w.frozen? ⟨g, 2, none⟩ = false ∧ w.frozen? ⟨g, 3, none⟩ = false ∧ w.frozen? ⟨g, 4, none⟩ = false := ⟨(blk_cell h 0).trans rfl, (blk_cell h 1).trans rfl, (blk_cell h 2).trans rfl, (blk_cell h 3).trans rfl, (blk_cell h 4).trans rfl, blk_frozen h 0, blk_frozen h 1, blk_frozen h 2, blk_frozen h 3, blk_frozen h 4⟩
mutual
def w9_Rows.l0 : Nat → List Int → List Int → List Int → Int → List (S41) → List (S47) → List (S43) → List (S61) → List (S47) → Option (List Int × List Int)
 | 0, _, _, _, _, _, _, _, _, _ => none
 | k + 1, x1, x2, x8, x10, x406000, x406001, x406002, x406003, x406004 => if x10 < (x406002.length : Int) then (if x10 < (x1.length : Int) then (if 0 ≤ x10 then (if 0 ≤ ((rd_T43 x406002 x10).f1) then (if ((rd_T43 x406002 x10).f1) < (x406000.length : Int) then ((r8_Mask.f ((rd_T41 x406000 ((rd_T43 x406002 x10).f1)).f1)).bind fun t409 => (if x8.length < 17592186044416 then (w9_Rows.l0 k x1 x2 (x8 ++ [Go.bits .and .i64 (wrap64 (rd x1 x10)) t409]) (wrap64 (x10 + 1)) x406000 x406001 x406002 x406003 x406004) else (none))) else (none)) else (none)) else (none)) else (if x8.length < 17592186044416 then (w9_Rows.l0 k x1 x2 (x8 ++ [0]) (wrap64 (x10 + 1)) x406000 x406001 x406002 x406003 x406004) else (none))) else (w9_Rows.l1 k x2 x8 ([] : List Int) 0 x406000 x406001 x406002 x406003 x406004)
def w9_Rows.l1 : Nat → List Int → List Int → List Int → Int → List (S41) → List (S47) → List (S43) → List (S61) → List (S47) → Option (List Int × List Int)
 | 0, _, _, _, _, _, _, _, _, _ => none
 | k + 1, x2, x8, x9, x12, x406000, x406001, x406002, x406003, x406004 => if x12 < (x406001.length : Int) then (if x12 < (x2.length : Int) then (if 0 ≤ x12 then (if 0 ≤ ((rd_T47 x406001 x12).f1) then (if ((rd_T47 x406001 x12).f1) < (x406000.length : Int) then ((r8_Mask.f ((rd_T41 x406000 ((rd_T47 x406001 x12).f1)).f1)).bind fun t419 => (if x9.length < 17592186044416 then (w9_Rows.l1 k x2 x8 (x9 ++ [Go.bits .and .i64 (wrap64 (rd x2 x12)) t419]) (wrap64 (x12 + 1)) x406000 x406001 x406002 x406003 x406004) else (none))) else (none)) else (none)) else (none)) else (if x9.length < 17592186044416 then (w9_Rows.l1 k x2 x8 (x9 ++ [0]) (wrap64 (x12 + 1)) x406000 x406001 x406002 x406003 x406004) else (none))) else (some (x8, x9))
end
def w9_Rows.f (k : Nat) (l0_0 : List (S41)) (l0_1 : List (S47)) (l0_2 : List (S43)) (l0_3 : List (S61)) (l0_4 : List (S47)) (l1 : List Int) (l2 : List Int) : Option (List Int × List Int) := w9_Rows.l0 k l1 l2 ([] : List Int) 0 l0_0 l0_1 l0_2 l0_3 l0_4
theorem w9_Rows.mono_l : ∀ k, (∀ y0 y1 y2 y3 y4 y5 y6 y7 y8, LeO (w9_Rows.l0 k y0 y1 y2 y3 y4 y5 y6 y7 y8) (w9_Rows.l0 (k + 1) y0 y1 y2 y3 y4 y5 y6 y7 y8)) ∧ (∀ y0 y1 y2 y3 y4 y5 y6 y7 y8, LeO (w9_Rows.l1 k y0 y1 y2 y3 y4 y5 y6 y7 y8) (w9_Rows.l1 (k + 1) y0 y1 y2 y3 y4 y5 y6 y7 y8))
 | 0 => ⟨fun _ _ _ _ _ _ _ _ _ r h => by simp [w9_Rows.l0] at h, fun _ _ _ _ _ _ _ _ _ r h => by simp [w9_Rows.l1] at h⟩
 | k + 1 => by
  obtain ⟨ih0, ih1⟩ := w9_Rows.mono_l k; refine ⟨?_, ?_⟩
  ·intro y0 y1 y2 y3 y4 y5 y6 y7 y8
   unfold w9_Rows.l0
   repeat' first
   | (with_reducible exact ih0 _ _ _ _ _ _ _ _ _)
   | (with_reducible exact ih1 _ _ _ _ _ _ _ _ _)
   | (with_reducible exact LeO.refl _)
   | (with_reducible exact LeO.none _)
   | (with_reducible refine LeO.ite ?_ ?_)
   | (with_reducible refine LeO.bind ?_ (fun _ => ?_))
   | exact ih0 _ _ _ _ _ _ _ _ _
   | exact ih1 _ _ _ _ _ _ _ _ _
   | exact LeO.none _
   | refine LeO.ite ?_ ?_
   | refine LeO.bind ?_ (fun _ => ?_)
  ·intro y0 y1 y2 y3 y4 y5 y6 y7 y8
   unfold w9_Rows.l1
   repeat' first
   | (with_reducible exact ih0 _ _ _ _ _ _ _ _ _)
   | (with_reducible exact ih1 _ _ _ _ _ _ _ _ _)
   | (with_reducible exact LeO.refl _)
   | (with_reducible exact LeO.none _)
   | (with_reducible refine LeO.ite ?_ ?_)
   | (with_reducible refine LeO.bind ?_ (fun _ => ?_))
   | exact ih0 _ _ _ _ _ _ _ _ _
   | exact ih1 _ _ _ _ _ _ _ _ _
   | exact LeO.none _
   | refine LeO.ite ?_ ?_
   | refine LeO.bind ?_ (fun _ => ?_)
theorem w9_Rows.mono : ∀ a0 a1 a2 a3 a4 a5 a6 k, LeO (w9_Rows.f k a0 a1 a2 a3 a4 a5 a6) (w9_Rows.f (k + 1) a0 a1 a2 a3 a4 a5 a6) := by
 intro a0 a1 a2 a3 a4 a5 a6 k
 obtain ⟨ih1, ih2⟩ := w9_Rows.mono_l k; unfold w9_Rows.f
 repeat' first
   | (with_reducible exact ih1 _ _ _ _ _ _ _ _ _)
   | (with_reducible exact ih2 _ _ _ _ _ _ _ _ _)
   | (with_reducible exact LeO.refl _)
   | (with_reducible exact LeO.none _)
   | (with_reducible refine LeO.ite ?_ ?_)
   | (with_reducible refine LeO.bind ?_ (fun _ => ?_))
   | exact ih1 _ _ _ _ _ _ _ _ _
   | exact ih2 _ _ _ _ _ _ _ _ _
   | exact LeO.none _
   | refine LeO.ite ?_ ?_
   | refine LeO.bind ?_ (fun _ => ?_)
set_option maxHeartbeats 8000000 in
set_option maxRecDepth 100000 in
theorem w9_Rows.calls (k : Nat) (A0_0 : Option Addr) (c0_0 : Nat) (l0_0 : List (S41)) (A0_1 : Option Addr) (c0_1 : Nat) (l0_1 : List (S47)) (A0_2 : Option Addr) (c0_2 : Nat) (l0_2 : List (S43)) (A0_3 : Option Addr) (c0_3 : Nat) (l0_3 : List (S61)) (A0_4 : Option Addr) (c0_4 : Nat) (l0_4 : List (S47)) (A1 : Option Addr) (c1 : Nat) (l1 : List Int) (A2 : Option Addr) (c2 : Nat) (l2 : List Int) (r1 : List Int) (r2 : List Int) (w : World) (hr0_0 : Kd.C k41 w A0_0 l0_0.length l0_0) (hc0_0 : l0_0.length ≤ c0_0) (hr0_1 : Kd.C k47 w A0_1 l0_1.length l0_1) (hc0_1 : l0_1.length ≤ c0_1) (hr0_2 : Kd.C k43 w A0_2 l0_2.length l0_2) (hc0_2 : l0_2.length ≤ c0_2) (hr0_3 : Kd.C k61 w A0_3 l0_3.length l0_3) (hc0_3 : l0_3.length ≤ c0_3) (hr0_4 : Kd.C k47 w A0_4 l0_4.length l0_4) (hc0_4 : l0_4.length ≤ c0_4) (hr1 : Kd.C (Kd.int .u16) w A1 l1.length l1) (hc1 : l1.length ≤ c1) (hr2 : Kd.C (Kd.int .u16) w A2 l2.length l2) (hc2 : l2.length ≤ c2) (h : w9_Rows.f k l0_0 l0_1 l0_2 l0_3 l0_4 l1 l2 = some (r1, r2)) :
  Calls Try.prog 16 #[.agg #[.slice A0_0 l0_0.length c0_0, .slice A0_1 l0_1.length c0_1, .slice A0_2 l0_2.length c0_2, .slice A0_3 l0_3.length c0_3, .slice A0_4 l0_4.length c0_4], .slice A1 l1.length c1, .slice A2 l2.length c2] w fun e w' => ∃ v0_ v1_ : Value, e = .returned (.tuple #[v0_, v1_]) ∧ Kd.R (Kd.int .i64) 3 w' w.heap.size (fun k_ => some k_ ≠ (v1_ : Value).ownBlock) v0_ r1 ∧ Kd.R (Kd.int .i64) 3 w' w.heap.size (fun k_ => some k_ ≠ (v0_ : Value).ownBlock) v1_ r2 ∧ Below w.heap.size w w' := by
 have hu1 := Try.underlying27; have HR1_0 := aM hr0_0; have HC1_0 := aM hc0_0; clear hr0_0 hc0_0; have HR1_1 := aM hr0_1; have HC1_1 := aM hc0_1; clear hr0_1 hc0_1; have HR1_2 := aM hr0_2; have HC1_2 := aM hc0_2; clear hr0_2 hc0_2; have HR1_3 := aM hr0_3; have HC1_3 := aM hc0_3; clear hr0_3 hc0_3; have HR1_4 := aM hr0_4; have HC1_4 := aM hc0_4; clear hr0_4 hc0_4; have HR1 := aM hr1; have HC1 := aM hc1; clear hr1 hc1; have HR2 := aM hr2; have HC1 := aM hc2; clear hr2 hc2; have HB := aM (Below.refl w.heap.size w); have H : (w9_Rows.l0 k l1 l2 ([] : List Int) 0 l0_0 l0_1 l0_2 l0_3 l0_4) = some (r1, r2) := h; clear h; have H' := aM H; clear H; go_enter Try.func16, Try.ntmps16
 go_wp2_with (first | ((with_reducible refine zgd 3 rfl ?_); refine zbox 3 #[.slice A0_0 l0_0.length c0_0, .slice A0_1 l0_1.length c0_1, .slice A0_2 l0_2.length c0_2, .slice A0_3 l0_3.length c0_3, .slice A0_4 l0_4.length c0_4] 27 ?_; intro gb1 hg w1 hbox hb; have BK1 := aM (hbox); have GW1 := aM ((q7z HB : w.heap.size ≤ gb1)); have GE1 := aM ((q7z HB : w.heap.size ≤ gb1)); replace HB := aM (ym (q4z HB) hb); clear hb hbox hg))
 repeat (go_quiet (first | ((with_reducible refine zgd 3 rfl ?_); refine zbox 3 #[.slice A0_0 l0_0.length c0_0, .slice A0_1 l0_1.length c0_1, .slice A0_2 l0_2.length c0_2, .slice A0_3 l0_3.length c0_3, .slice A0_4 l0_4.length c0_4] 27 ?_; intro gb1 hg w1 hbox hb; have BK1 := aM (hbox); have GW1 := aM ((q7z HB : w.heap.size ≤ gb1)); have GE1 := aM ((q7z HB : w.heap.size ≤ gb1)); replace HB := aM (ym (q4z HB) hb); clear hb hbox hg)); try go_wp2_with (first | ((with_reducible refine zgd 3 rfl ?_); refine zbox 3 #[.slice A0_0 l0_0.length c0_0, .slice A0_1 l0_1.length c0_1, .slice A0_2 l0_2.length c0_2, .slice A0_3 l0_3.length c0_3, .slice A0_4 l0_4.length c0_4] 27 ?_; intro gb1 hg w1 hbox hb; have BK1 := aM (hbox); have GW1 := aM ((q7z HB : w.heap.size ≤ gb1)); have GE1 := aM ((q7z HB : w.heap.size ≤ gb1)); replace HB := aM (ym (q4z HB) hb); clear hb hbox hg)))
 go_loopg [8, 10] k (fun kq v1 v2 w' => ∃ (x1_1 : List Int) (x2_1 : Int), v2 = .int .i64 x2_1 ∧ Aside0 (w9_Rows.l0 kq l1 l2 x1_1 x2_1 l0_0 l0_1 l0_2 l0_3 l0_4 = some (r1, r2)) ∧ Aside0 (kq ≤ k) ∧ Aside0 (Kd.R (Kd.int .i64) 3 w' w.heap.size (fun _ => True) v1 x1_1) ∧ Aside0 (w'.heap[gb1]? = some (.cells #[(.slice A0_0 l0_0.length c0_0), (.slice A0_1 l0_1.length c0_1), (.slice A0_2 l0_2.length c0_2), (.slice A0_3 l0_3.length c0_3), (.slice A0_4 l0_4.length c0_4)] 27 (0, 0))) ∧ Aside0 (Below w.heap.size w w'))
 case atStart => exact ⟨(([] : List Int)), (0), q13z, H', ⟨Nat.le_refl _⟩, ⟨q68z⟩, ⟨q10z BK1⟩, ⟨q3z HB GE1⟩⟩
 case round =>
  clear H'; try clear c1
  try clear c2
  try clear p2
  obtain ⟨x1_1, x2_1, rfl, HA, HK1, HO_1, BK1, HB⟩ := hrel; cases gk with
  | zero => exact absurd HA.out (by simp [w9_Rows.l0])
  | succ k1 =>
   have H := HA.out; clear HA; simp only [w9_Rows.l0] at H; by_cases c3 : x2_1 < (l0_2.length : Int)
   ·rw [if_pos c3] at H; have c1b0 := decide_eq_true c3; clear c3; by_cases c4 : x2_1 < (l1.length : Int)
    ·rw [if_pos c4] at H; have c1b0 := decide_eq_true c4; clear c4; by_cases c5 : 0 ≤ x2_1
     ·rw [if_pos c5] at H; have c1b0 := decide_eq_true c5; clear c5; by_cases c6 : 0 ≤ ((rd_T43 l0_2 x2_1).f1)
      ·rw [if_pos c6] at H; have c1b0 := decide_eq_true c6; clear c6; by_cases c7 : ((rd_T43 l0_2 x2_1).f1) < (l0_0.length : Int)
       ·rw [if_pos c7] at H; have c1b0 := decide_eq_true c7; clear c7; replace H := Option.bind_eq_some_iff.mp H; obtain ⟨t1, A3, H⟩ := H; have A4 := aM A3; clear A3; by_cases c8 : x1_1.length < 17592186044416
        ·rw [if_pos c8] at H; have LMc1 := aM c8; clear c8; obtain ⟨y1, hy1⟩ : ∃ y_ : List Int, y_ = (x1_1 ++ [Go.bits .and .i64 (wrap64 (rd l1 x2_1)) t1]) := ⟨_, rfl⟩; replace H : (w9_Rows.l0 k1 l1 l2 y1 (wrap64 (x2_1 + 1)) l0_0 l0_1 l0_2 l0_3 l0_4) = some (r1, r2) := by first | (rw [hy1]; with_reducible exact H) | (have H1_ := (Option.bind_some _ _).symm.trans H; rw [hy1]; with_reducible exact H1_) | (have H1_ := (Option.bind_some _ _).symm.trans H; with_reducible exact H1_) | with_reducible exact H | (rw [hy1]; exact H) | exact H
         have Ny1 := aM hy1; clear hy1; have H' := aM H; clear H; obtain ⟨i1_0, i1_1, i1_2, i1_3, i1_4, j1_0, j1_1, j1_2, j1_3, j1_4⟩ := cells5_76 BK1.out; have p1 : 0 ≤ (x2_1 : Int) := zod; have q1 : x2_1 < (l1.length : Int) := zod; obtain ⟨ad1, e1, hx1_0⟩ := Kd.at_int HR1.out x2_1 p1 q1; cases e1; replace hx1_0 := zx HB hx1_0; replace p1 := eq_true p1; replace q1 := eq_true q1; have p1 : 0 ≤ (x2_1 : Int) := zod; have q1 : x2_1 < (l0_2.length : Int) := zod; obtain ⟨ad1, e1, hx1_0, hx1_1, hx1_2, hx1_3⟩ := at_T43 HR1_2.out x2_1 p1 q1; cases e1; replace hx1_0 := zx HB hx1_0; replace hx1_1 := zx HB hx1_1; replace hx1_2 := zx HB hx1_2; replace hx1_3 := zx HB hx1_3; replace p1 := eq_true p1; replace q1 := eq_true q1; have p1 : 0 ≤ (((rd_T43 l0_2 x2_1).f1) : Int) := zod; have q1 : ((rd_T43 l0_2 x2_1).f1) < (l0_0.length : Int) := zod; obtain ⟨ad2, e1, hx1_0, hx1_1, hx1_2, hx1_3, hx1_4, hx1_5, hx1_6⟩ := at_T41 HR1_0.out ((rd_T43 l0_2 x2_1).f1) p1 q1; cases e1; replace hx1_0 := zx HB hx1_0; replace hx1_1 := zx HB hx1_1; replace hx1_2 := zx HB hx1_2; replace hx1_3 := zx HB hx1_3; replace hx1_4 := zx HB hx1_4; replace hx1_5 := zx HB hx1_5; replace hx1_6 := zx HB hx1_6; replace p1 := eq_true p1; replace q1 := eq_true q1; go_wp2_with (first | (go_at_call 24; (with_reducible refine (r8_Mask.calls ((rd_T41 l0_0 ((rd_T43 l0_2 x2_1).f1)).f1) t1 _ A4.out).mono ?_); rintro e w' ⟨rfl, ⟨nd, rfl⟩⟩; (try first | exact ⟨rfl, _, World.drewN_drewN _ _ _⟩ | exact ⟨rfl, _, Eq.trans (World.drewN_drewN _ _ _) (congrArg (World.drewN _) (Nat.add_assoc _ _ _))⟩)) | ((with_reducible refine gate_builtin (b := .append) (xs := #[.tmp 43, .tmp 45]) rfl ?_); at_builtin; refine Kd.R_append (Kd.int .i64) (w0 := w) w.heap.size rfl (.tmp 43) (.tmp 45) 32 3 (.int .i64 0) 8 rfl Try.underlying32 info3 rfl (by decide) (by omega) u8 x1_1 (Go.bits .and .i64 (wrap64 (rd l1 x2_1)) t1) [.int .i64 (Go.bits .and .i64 (wrap64 (rd l1 x2_1)) t1)] (fun _ => True) (fun _ => False) rfl rfl ?aP (fun _ hk => hk.elim) ?aF ?aO ?aB ?aS ?aL ?_; (case aP => exact rfl); (case aB => exact q44z HB GE1); (case aF => exact q94z); (case aO => exact q45z HO_1); (case aS => exact q42z HB GE1); (case aL => have := LMc1.out; omega); intro v1 w1 ho hb hg hat; rw [← Ny1.out] at ho; replace BK1 := aM (blk_grown (g := gb1) (o := .cells #[.slice (some ad2) l0_0.length c0_0, .slice A0_1 l0_1.length c0_1, .slice (some ad1) l0_2.length c0_2, .slice A0_3 l0_3.length c0_3, .slice A0_4 l0_4.length c0_4] 27 (0, 0)) (zi BK1) hg (Kd.R_ne HO_1.out BK1.out (by decide))); replace HB := aM (hb); have HO1 := aM (ho); clear HO_1; clear ho hb hg hat))
         repeat (go_quiet (first | (go_at_call 24; (with_reducible refine (r8_Mask.calls ((rd_T41 l0_0 ((rd_T43 l0_2 x2_1).f1)).f1) t1 _ A4.out).mono ?_); rintro e w' ⟨rfl, ⟨nd, rfl⟩⟩; (try first | exact ⟨rfl, _, World.drewN_drewN _ _ _⟩ | exact ⟨rfl, _, Eq.trans (World.drewN_drewN _ _ _) (congrArg (World.drewN _) (Nat.add_assoc _ _ _))⟩)) | ((with_reducible refine gate_builtin (b := .append) (xs := #[.tmp 43, .tmp 45]) rfl ?_); at_builtin; refine Kd.R_append (Kd.int .i64) (w0 := w) w.heap.size rfl (.tmp 43) (.tmp 45) 32 3 (.int .i64 0) 8 rfl Try.underlying32 info3 rfl (by decide) (by omega) u8 x1_1 (Go.bits .and .i64 (wrap64 (rd l1 x2_1)) t1) [.int .i64 (Go.bits .and .i64 (wrap64 (rd l1 x2_1)) t1)] (fun _ => True) (fun _ => False) rfl rfl ?aP (fun _ hk => hk.elim) ?aF ?aO ?aB ?aS ?aL ?_; (case aP => exact rfl); (case aB => exact q44z HB GE1); (case aF => exact q94z); (case aO => exact q45z HO_1); (case aS => exact q42z HB GE1); (case aL => have := LMc1.out; omega); intro v1 w1 ho hb hg hat; rw [← Ny1.out] at ho; replace BK1 := aM (blk_grown (g := gb1) (o := .cells #[.slice (some ad2) l0_0.length c0_0, .slice A0_1 l0_1.length c0_1, .slice (some ad1) l0_2.length c0_2, .slice A0_3 l0_3.length c0_3, .slice A0_4 l0_4.length c0_4] 27 (0, 0)) (zi BK1) hg (Kd.R_ne HO_1.out BK1.out (by decide))); replace HB := aM (hb); have HO1 := aM (ho); clear HO_1; clear ho hb hg hat)); try go_wp2_with (first | (go_at_call 24; (with_reducible refine (r8_Mask.calls ((rd_T41 l0_0 ((rd_T43 l0_2 x2_1).f1)).f1) t1 _ A4.out).mono ?_); rintro e w' ⟨rfl, ⟨nd, rfl⟩⟩; (try first | exact ⟨rfl, _, World.drewN_drewN _ _ _⟩ | exact ⟨rfl, _, Eq.trans (World.drewN_drewN _ _ _) (congrArg (World.drewN _) (Nat.add_assoc _ _ _))⟩)) | ((with_reducible refine gate_builtin (b := .append) (xs := #[.tmp 43, .tmp 45]) rfl ?_); at_builtin; refine Kd.R_append (Kd.int .i64) (w0 := w) w.heap.size rfl (.tmp 43) (.tmp 45) 32 3 (.int .i64 0) 8 rfl Try.underlying32 info3 rfl (by decide) (by omega) u8 x1_1 (Go.bits .and .i64 (wrap64 (rd l1 x2_1)) t1) [.int .i64 (Go.bits .and .i64 (wrap64 (rd l1 x2_1)) t1)] (fun _ => True) (fun _ => False) rfl rfl ?aP (fun _ hk => hk.elim) ?aF ?aO ?aB ?aS ?aL ?_; (case aP => exact rfl); (case aB => exact q44z HB GE1); (case aF => exact q94z); (case aO => exact q45z HO_1); (case aS => exact q42z HB GE1); (case aL => have := LMc1.out; omega); intro v1 w1 ho hb hg hat; rw [← Ny1.out] at ho; replace BK1 := aM (blk_grown (g := gb1) (o := .cells #[.slice (some ad2) l0_0.length c0_0, .slice A0_1 l0_1.length c0_1, .slice (some ad1) l0_2.length c0_2, .slice A0_3 l0_3.length c0_3, .slice A0_4 l0_4.length c0_4] 27 (0, 0)) (zi BK1) hg (Kd.R_ne HO_1.out BK1.out (by decide))); replace HB := aM (hb); have HO1 := aM (ho); clear HO_1; clear ho hb hg hat)))
         go_roundg k1
         case measure => have := HK1.out; omega
         case rel => exact ⟨(y1), (wrap64 (x2_1 + 1)), q13z, H', ⟨by have := HK1.out; omega⟩, ⟨q2z HO1⟩, ⟨q10z BK1⟩, ⟨q3z HB GE1⟩⟩
        ·rw [if_neg c8] at H; exact absurd H (by simp)
       ·rw [if_neg c7] at H; exact absurd H (by simp)
      ·rw [if_neg c6] at H; exact absurd H (by simp)
     ·rw [if_neg c5] at H; exact absurd H (by simp)
    ·rw [if_neg c4] at H; have c1b0 := decide_eq_false c4; clear c4; by_cases c4 : x1_1.length < 17592186044416
     ·rw [if_pos c4] at H; have LMc1 := aM c4; clear c4; obtain ⟨y1, hy1⟩ : ∃ y_ : List Int, y_ = (x1_1 ++ [0]) := ⟨_, rfl⟩; replace H : (w9_Rows.l0 k1 l1 l2 y1 (wrap64 (x2_1 + 1)) l0_0 l0_1 l0_2 l0_3 l0_4) = some (r1, r2) := by first | (rw [hy1]; with_reducible exact H) | (have H1_ := (Option.bind_some _ _).symm.trans H; rw [hy1]; with_reducible exact H1_) | (have H1_ := (Option.bind_some _ _).symm.trans H; with_reducible exact H1_) | with_reducible exact H | (rw [hy1]; exact H) | exact H
      have Ny1 := aM hy1; clear hy1; have H' := aM H; clear H; obtain ⟨i1_0, i1_1, i1_2, i1_3, i1_4, j1_0, j1_1, j1_2, j1_3, j1_4⟩ := cells5_76 BK1.out; go_wp2_with (first | ((with_reducible refine gate_builtin (b := .append) (xs := #[.tmp 43, .tmp 45]) rfl ?_); at_builtin; refine Kd.R_append (Kd.int .i64) (w0 := w) w.heap.size rfl (.tmp 43) (.tmp 45) 32 3 (.int .i64 0) 8 rfl Try.underlying32 info3 rfl (by decide) (by omega) u8 x1_1 0 [.int .i64 0] (fun _ => True) (fun _ => False) rfl rfl ?aP (fun _ hk => hk.elim) ?aF ?aO ?aB ?aS ?aL ?_; (case aP => exact rfl); (case aB => exact q44z HB GE1); (case aF => exact q94z); (case aO => exact q45z HO_1); (case aS => exact q42z HB GE1); (case aL => have := LMc1.out; omega); intro v1 w1 ho hb hg hat; rw [← Ny1.out] at ho; replace BK1 := aM (blk_grown (g := gb1) (o := .cells #[.slice A0_0 l0_0.length c0_0, .slice A0_1 l0_1.length c0_1, .slice A0_2 l0_2.length c0_2, .slice A0_3 l0_3.length c0_3, .slice A0_4 l0_4.length c0_4] 27 (0, 0)) (zi BK1) hg (Kd.R_ne HO_1.out BK1.out (by decide))); replace HB := aM (hb); have HO1 := aM (ho); clear HO_1; clear ho hb hg hat))
      repeat (go_quiet (first | ((with_reducible refine gate_builtin (b := .append) (xs := #[.tmp 43, .tmp 45]) rfl ?_); at_builtin; refine Kd.R_append (Kd.int .i64) (w0 := w) w.heap.size rfl (.tmp 43) (.tmp 45) 32 3 (.int .i64 0) 8 rfl Try.underlying32 info3 rfl (by decide) (by omega) u8 x1_1 0 [.int .i64 0] (fun _ => True) (fun _ => False) rfl rfl ?aP (fun _ hk => hk.elim) ?aF ?aO ?aB ?aS ?aL ?_; (case aP => exact rfl); (case aB => exact q44z HB GE1); (case aF => exact q94z); (case aO => exact q45z HO_1); (case aS => exact q42z HB GE1); (case aL => have := LMc1.out; omega); intro v1 w1 ho hb hg hat; rw [← Ny1.out] at ho; replace BK1 := aM (blk_grown (g := gb1) (o := .cells #[.slice A0_0 l0_0.length c0_0, .slice A0_1 l0_1.length c0_1, .slice A0_2 l0_2.length c0_2, .slice A0_3 l0_3.length c0_3, .slice A0_4 l0_4.length c0_4] 27 (0, 0)) (zi BK1) hg (Kd.R_ne HO_1.out BK1.out (by decide))); replace HB := aM (hb); have HO1 := aM (ho); clear HO_1; clear ho hb hg hat)); try go_wp2_with (first | ((with_reducible refine gate_builtin (b := .append) (xs := #[.tmp 43, .tmp 45]) rfl ?_); at_builtin; refine Kd.R_append (Kd.int .i64) (w0 := w) w.heap.size rfl (.tmp 43) (.tmp 45) 32 3 (.int .i64 0) 8 rfl Try.underlying32 info3 rfl (by decide) (by omega) u8 x1_1 0 [.int .i64 0] (fun _ => True) (fun _ => False) rfl rfl ?aP (fun _ hk => hk.elim) ?aF ?aO ?aB ?aS ?aL ?_; (case aP => exact rfl); (case aB => exact q44z HB GE1); (case aF => exact q94z); (case aO => exact q45z HO_1); (case aS => exact q42z HB GE1); (case aL => have := LMc1.out; omega); intro v1 w1 ho hb hg hat; rw [← Ny1.out] at ho; replace BK1 := aM (blk_grown (g := gb1) (o := .cells #[.slice A0_0 l0_0.length c0_0, .slice A0_1 l0_1.length c0_1, .slice A0_2 l0_2.length c0_2, .slice A0_3 l0_3.length c0_3, .slice A0_4 l0_4.length c0_4] 27 (0, 0)) (zi BK1) hg (Kd.R_ne HO_1.out BK1.out (by decide))); replace HB := aM (hb); have HO1 := aM (ho); clear HO_1; clear ho hb hg hat)))
      go_roundg k1
      case measure => have := HK1.out; omega
      case rel => exact ⟨(y1), (wrap64 (x2_1 + 1)), q13z, H', ⟨by have := HK1.out; omega⟩, ⟨q2z HO1⟩, ⟨q10z BK1⟩, ⟨q3z HB GE1⟩⟩
     ·rw [if_neg c4] at H; exact absurd H (by simp)
   ·rw [if_neg c3] at H; have c1b0 := decide_eq_false c3; clear c3; have H' := aM H; clear H; obtain ⟨i1_0, i1_1, i1_2, i1_3, i1_4, j1_0, j1_1, j1_2, j1_3, j1_4⟩ := cells5_76 BK1.out; go_wp2
    repeat (go_quiet (fail); try go_wp2)
    go_loopg [9, 12] k1 (fun kq v1 v2 w' => ∃ (x1_2 : List Int) (x2_2 : Int), v2 = .int .i64 x2_2 ∧ Aside0 (w9_Rows.l1 kq l2 x1_1 x1_2 x2_2 l0_0 l0_1 l0_2 l0_3 l0_4 = some (r1, r2)) ∧ Aside0 (kq ≤ k1) ∧ Aside0 (Kd.R (Kd.int .i64) 3 w' w.heap.size (fun k_ => some k_ ≠ (v1 : Value).ownBlock) u8 x1_1) ∧ Aside0 (Kd.R (Kd.int .i64) 3 w' w.heap.size (fun k_ => some k_ ≠ (u8 : Value).ownBlock) v1 x1_2) ∧ Aside0 (w'.heap[gb1]? = some (.cells #[(.slice A0_0 l0_0.length c0_0), (.slice A0_1 l0_1.length c0_1), (.slice A0_2 l0_2.length c0_2), (.slice A0_3 l0_3.length c0_3), (.slice A0_4 l0_4.length c0_4)] 27 (0, 0))) ∧ Aside0 (Below w.heap.size w w'))
    case atStart => exact ⟨(([] : List Int)), (0), q13z, H', ⟨Nat.le_refl _⟩, ⟨by (with_reducible repeat (first | apply yf | apply yg | apply yh)); exact Kd.R_mono HO_1.out (fun _ hk => (by simp [Value.ownBlock]))⟩, ⟨q68z⟩, ⟨q10z BK1⟩, ⟨q3z HB GE1⟩⟩
    case round =>
     clear H'; try clear c1
     try clear c2
     try clear p2
     try clear p4
     try clear q4
     try clear hx4
     try clear c3
     try clear c1b0
     try clear c3
     try clear c1b0
     try clear p6
     try clear c3
     try clear c1b0
     try clear c3
     try clear c1b0
     try clear c3
     try clear c1b0
     try clear c3
     try clear c3
     try clear c16
     try clear i2_0 i2_1 i2_2 i2_3 i2_4 i2_0 i2_1 i2_2 i2_3 i2_4
     try clear i1_0 i1_1 i1_2 i1_3 i1_4
     try clear j2_0 j2_1 j2_2 j2_3 j2_4 j2_0 j2_1 j2_2 j2_3 j2_4
     try clear j1_0 j1_1 j1_2 j1_3 j1_4
     try clear hx1_0
     try clear hx1_0
     try clear hx1_1
     try clear hx1_2
     try clear hx1_3
     try clear hx1_0
     try clear hx1_1
     try clear hx1_2
     try clear hx1_3
     try clear hx1_4
     try clear hx1_5
     try clear hx1_6
     try clear p2
     try clear p1
     try clear p1
     try clear p1
     try clear q1
     try clear q1
     try clear q1
     obtain ⟨x1_2, x2_2, rfl, HA, HK2, HO_1, HO_2, BK1, HB⟩ := hrel; cases gk with
     | zero => exact absurd HA.out (by simp [w9_Rows.l1])
     | succ k1 =>
      have H := HA.out; clear HA; simp only [w9_Rows.l1] at H; by_cases c3 : x2_2 < (l0_1.length : Int)
      ·rw [if_pos c3] at H; have c1b0 := decide_eq_true c3; clear c3; by_cases c4 : x2_2 < (l2.length : Int)
       ·rw [if_pos c4] at H; have c1b0 := decide_eq_true c4; clear c4; by_cases c5 : 0 ≤ x2_2
        ·rw [if_pos c5] at H; have c1b0 := decide_eq_true c5; clear c5; by_cases c6 : 0 ≤ ((rd_T47 l0_1 x2_2).f1)
         ·rw [if_pos c6] at H; have c1b0 := decide_eq_true c6; clear c6; by_cases c7 : ((rd_T47 l0_1 x2_2).f1) < (l0_0.length : Int)
          ·rw [if_pos c7] at H; have c1b0 := decide_eq_true c7; clear c7; replace H := Option.bind_eq_some_iff.mp H; obtain ⟨t1, A3, H⟩ := H; have A4 := aM A3; clear A3; by_cases c8 : x1_2.length < 17592186044416
           ·rw [if_pos c8] at H; have LMc1 := aM c8; clear c8; obtain ⟨y1, hy1⟩ : ∃ y_ : List Int, y_ = (x1_2 ++ [Go.bits .and .i64 (wrap64 (rd l2 x2_2)) t1]) := ⟨_, rfl⟩; replace H : (w9_Rows.l1 k1 l2 x1_1 y1 (wrap64 (x2_2 + 1)) l0_0 l0_1 l0_2 l0_3 l0_4) = some (r1, r2) := by first | (rw [hy1]; with_reducible exact H) | (have H1_ := (Option.bind_some _ _).symm.trans H; rw [hy1]; with_reducible exact H1_) | (have H1_ := (Option.bind_some _ _).symm.trans H; with_reducible exact H1_) | with_reducible exact H | (rw [hy1]; exact H) | exact H
            have Ny1 := aM hy1; clear hy1; have H' := aM H; clear H; obtain ⟨i1_0, i1_1, i1_2, i1_3, i1_4, j1_0, j1_1, j1_2, j1_3, j1_4⟩ := cells5_76 BK1.out; have p1 : 0 ≤ (x2_2 : Int) := zod; have q1 : x2_2 < (l2.length : Int) := zod; obtain ⟨ad1, e1, hx1_0⟩ := Kd.at_int HR2.out x2_2 p1 q1; cases e1; replace hx1_0 := zx HB hx1_0; replace p1 := eq_true p1; replace q1 := eq_true q1; have p1 : 0 ≤ (x2_2 : Int) := zod; have q1 : x2_2 < (l0_1.length : Int) := zod; obtain ⟨ad1, e1, hx1_0, hx1_1⟩ := at_T47 HR1_1.out x2_2 p1 q1; cases e1; replace hx1_0 := zx HB hx1_0; replace hx1_1 := zx HB hx1_1; replace p1 := eq_true p1; replace q1 := eq_true q1; have p1 : 0 ≤ (((rd_T47 l0_1 x2_2).f1) : Int) := zod; have q1 : ((rd_T47 l0_1 x2_2).f1) < (l0_0.length : Int) := zod; obtain ⟨ad2, e1, hx1_0, hx1_1, hx1_2, hx1_3, hx1_4, hx1_5, hx1_6⟩ := at_T41 HR1_0.out ((rd_T47 l0_1 x2_2).f1) p1 q1; cases e1; replace hx1_0 := zx HB hx1_0; replace hx1_1 := zx HB hx1_1; replace hx1_2 := zx HB hx1_2; replace hx1_3 := zx HB hx1_3; replace hx1_4 := zx HB hx1_4; replace hx1_5 := zx HB hx1_5; replace hx1_6 := zx HB hx1_6; replace p1 := eq_true p1; replace q1 := eq_true q1; go_wp2_with (first | (go_at_call 24; (with_reducible refine (r8_Mask.calls ((rd_T41 l0_0 ((rd_T47 l0_1 x2_2).f1)).f1) t1 _ A4.out).mono ?_); rintro e w' ⟨rfl, ⟨nd, rfl⟩⟩; (try first | exact ⟨rfl, _, World.drewN_drewN _ _ _⟩ | exact ⟨rfl, _, Eq.trans (World.drewN_drewN _ _ _) (congrArg (World.drewN _) (Nat.add_assoc _ _ _))⟩)) | ((with_reducible refine gate_builtin (b := .append) (xs := #[.tmp 76, .tmp 78]) rfl ?_); at_builtin; refine Kd.R_append (Kd.int .i64) (w0 := w) w.heap.size rfl (.tmp 76) (.tmp 78) 32 3 (.int .i64 0) 8 rfl Try.underlying32 info3 rfl (by decide) (by omega) u9 x1_2 (Go.bits .and .i64 (wrap64 (rd l2 x2_2)) t1) [.int .i64 (Go.bits .and .i64 (wrap64 (rd l2 x2_2)) t1)] (fun k_ => some k_ ≠ (u8 : Value).ownBlock) (fun _ => False) rfl rfl ?aP (fun _ hk => hk.elim) ?aF ?aO ?aB ?aS ?aL ?_; (case aP => exact rfl); (case aB => exact q44z HB GE1); (case aF => exact q72z HO_1); (case aO => exact q45z HO_2); (case aS => exact q42z HB GE1); (case aL => have := LMc1.out; omega); intro v1 w1 ho hb hg hat; rw [← Ny1.out] at ho; replace HO_1 := aM (Kd.R_after (ok := (fun _ => True)) (q71z HO_1) hg hat); replace BK1 := aM (blk_grown (g := gb1) (o := .cells #[.slice (some ad2) l0_0.length c0_0, .slice (some ad1) l0_1.length c0_1, .slice A0_2 l0_2.length c0_2, .slice A0_3 l0_3.length c0_3, .slice A0_4 l0_4.length c0_4] 27 (0, 0)) (zi BK1) hg (Kd.R_ne HO_2.out BK1.out (by decide))); replace HB := aM (hb); have HO1 := aM (ho); clear HO_2; clear ho hb hg hat))
            repeat (go_quiet (first | (go_at_call 24; (with_reducible refine (r8_Mask.calls ((rd_T41 l0_0 ((rd_T47 l0_1 x2_2).f1)).f1) t1 _ A4.out).mono ?_); rintro e w' ⟨rfl, ⟨nd, rfl⟩⟩; (try first | exact ⟨rfl, _, World.drewN_drewN _ _ _⟩ | exact ⟨rfl, _, Eq.trans (World.drewN_drewN _ _ _) (congrArg (World.drewN _) (Nat.add_assoc _ _ _))⟩)) | ((with_reducible refine gate_builtin (b := .append) (xs := #[.tmp 76, .tmp 78]) rfl ?_); at_builtin; refine Kd.R_append (Kd.int .i64) (w0 := w) w.heap.size rfl (.tmp 76) (.tmp 78) 32 3 (.int .i64 0) 8 rfl Try.underlying32 info3 rfl (by decide) (by omega) u9 x1_2 (Go.bits .and .i64 (wrap64 (rd l2 x2_2)) t1) [.int .i64 (Go.bits .and .i64 (wrap64 (rd l2 x2_2)) t1)] (fun k_ => some k_ ≠ (u8 : Value).ownBlock) (fun _ => False) rfl rfl ?aP (fun _ hk => hk.elim) ?aF ?aO ?aB ?aS ?aL ?_; (case aP => exact rfl); (case aB => exact q44z HB GE1); (case aF => exact q72z HO_1); (case aO => exact q45z HO_2); (case aS => exact q42z HB GE1); (case aL => have := LMc1.out; omega); intro v1 w1 ho hb hg hat; rw [← Ny1.out] at ho; replace HO_1 := aM (Kd.R_after (ok := (fun _ => True)) (q71z HO_1) hg hat); replace BK1 := aM (blk_grown (g := gb1) (o := .cells #[.slice (some ad2) l0_0.length c0_0, .slice (some ad1) l0_1.length c0_1, .slice A0_2 l0_2.length c0_2, .slice A0_3 l0_3.length c0_3, .slice A0_4 l0_4.length c0_4] 27 (0, 0)) (zi BK1) hg (Kd.R_ne HO_2.out BK1.out (by decide))); replace HB := aM (hb); have HO1 := aM (ho); clear HO_2; clear ho hb hg hat)); try go_wp2_with (first | (go_at_call 24; (with_reducible refine (r8_Mask.calls ((rd_T41 l0_0 ((rd_T47 l0_1 x2_2).f1)).f1) t1 _ A4.out).mono ?_); rintro e w' ⟨rfl, ⟨nd, rfl⟩⟩; (try first | exact ⟨rfl, _, World.drewN_drewN _ _ _⟩ | exact ⟨rfl, _, Eq.trans (World.drewN_drewN _ _ _) (congrArg (World.drewN _) (Nat.add_assoc _ _ _))⟩)) | ((with_reducible refine gate_builtin (b := .append) (xs := #[.tmp 76, .tmp 78]) rfl ?_); at_builtin; refine Kd.R_append (Kd.int .i64) (w0 := w) w.heap.size rfl (.tmp 76) (.tmp 78) 32 3 (.int .i64 0) 8 rfl Try.underlying32 info3 rfl (by decide) (by omega) u9 x1_2 (Go.bits .and .i64 (wrap64 (rd l2 x2_2)) t1) [.int .i64 (Go.bits .and .i64 (wrap64 (rd l2 x2_2)) t1)] (fun k_ => some k_ ≠ (u8 : Value).ownBlock) (fun _ => False) rfl rfl ?aP (fun _ hk => hk.elim) ?aF ?aO ?aB ?aS ?aL ?_; (case aP => exact rfl); (case aB => exact q44z HB GE1); (case aF => exact q72z HO_1); (case aO => exact q45z HO_2); (case aS => exact q42z HB GE1); (case aL => have := LMc1.out; omega); intro v1 w1 ho hb hg hat; rw [← Ny1.out] at ho; replace HO_1 := aM (Kd.R_after (ok := (fun _ => True)) (q71z HO_1) hg hat); replace BK1 := aM (blk_grown (g := gb1) (o := .cells #[.slice (some ad2) l0_0.length c0_0, .slice (some ad1) l0_1.length c0_1, .slice A0_2 l0_2.length c0_2, .slice A0_3 l0_3.length c0_3, .slice A0_4 l0_4.length c0_4] 27 (0, 0)) (zi BK1) hg (Kd.R_ne HO_2.out BK1.out (by decide))); replace HB := aM (hb); have HO1 := aM (ho); clear HO_2; clear ho hb hg hat)))
            go_roundg k1
            case measure => have := HK1.out; have := HK2.out; omega
            case rel => exact ⟨(y1), (wrap64 (x2_2 + 1)), q13z, H', ⟨q92z HK1 HK2⟩, ⟨q78z HO_1⟩, ⟨q2z HO1⟩, ⟨q10z BK1⟩, ⟨q3z HB GE1⟩⟩
           ·rw [if_neg c8] at H; exact absurd H (by simp)
          ·rw [if_neg c7] at H; exact absurd H (by simp)
         ·rw [if_neg c6] at H; exact absurd H (by simp)
        ·rw [if_neg c5] at H; exact absurd H (by simp)
       ·rw [if_neg c4] at H; have c1b0 := decide_eq_false c4; clear c4; by_cases c4 : x1_2.length < 17592186044416
        ·rw [if_pos c4] at H; have LMc1 := aM c4; clear c4; obtain ⟨y1, hy1⟩ : ∃ y_ : List Int, y_ = (x1_2 ++ [0]) := ⟨_, rfl⟩; replace H : (w9_Rows.l1 k1 l2 x1_1 y1 (wrap64 (x2_2 + 1)) l0_0 l0_1 l0_2 l0_3 l0_4) = some (r1, r2) := by first | (rw [hy1]; with_reducible exact H) | (have H1_ := (Option.bind_some _ _).symm.trans H; rw [hy1]; with_reducible exact H1_) | (have H1_ := (Option.bind_some _ _).symm.trans H; with_reducible exact H1_) | with_reducible exact H | (rw [hy1]; exact H) | exact H
         have Ny1 := aM hy1; clear hy1; have H' := aM H; clear H; obtain ⟨i1_0, i1_1, i1_2, i1_3, i1_4, j1_0, j1_1, j1_2, j1_3, j1_4⟩ := cells5_76 BK1.out; go_wp2_with (first | ((with_reducible refine gate_builtin (b := .append) (xs := #[.tmp 76, .tmp 78]) rfl ?_); at_builtin; refine Kd.R_append (Kd.int .i64) (w0 := w) w.heap.size rfl (.tmp 76) (.tmp 78) 32 3 (.int .i64 0) 8 rfl Try.underlying32 info3 rfl (by decide) (by omega) u9 x1_2 0 [.int .i64 0] (fun k_ => some k_ ≠ (u8 : Value).ownBlock) (fun _ => False) rfl rfl ?aP (fun _ hk => hk.elim) ?aF ?aO ?aB ?aS ?aL ?_; (case aP => exact rfl); (case aB => exact q44z HB GE1); (case aF => exact q72z HO_1); (case aO => exact q45z HO_2); (case aS => exact q42z HB GE1); (case aL => have := LMc1.out; omega); intro v1 w1 ho hb hg hat; rw [← Ny1.out] at ho; replace HO_1 := aM (Kd.R_after (ok := (fun _ => True)) (q71z HO_1) hg hat); replace BK1 := aM (blk_grown (g := gb1) (o := .cells #[.slice A0_0 l0_0.length c0_0, .slice A0_1 l0_1.length c0_1, .slice A0_2 l0_2.length c0_2, .slice A0_3 l0_3.length c0_3, .slice A0_4 l0_4.length c0_4] 27 (0, 0)) (zi BK1) hg (Kd.R_ne HO_2.out BK1.out (by decide))); replace HB := aM (hb); have HO1 := aM (ho); clear HO_2; clear ho hb hg hat))
         repeat (go_quiet (first | ((with_reducible refine gate_builtin (b := .append) (xs := #[.tmp 76, .tmp 78]) rfl ?_); at_builtin; refine Kd.R_append (Kd.int .i64) (w0 := w) w.heap.size rfl (.tmp 76) (.tmp 78) 32 3 (.int .i64 0) 8 rfl Try.underlying32 info3 rfl (by decide) (by omega) u9 x1_2 0 [.int .i64 0] (fun k_ => some k_ ≠ (u8 : Value).ownBlock) (fun _ => False) rfl rfl ?aP (fun _ hk => hk.elim) ?aF ?aO ?aB ?aS ?aL ?_; (case aP => exact rfl); (case aB => exact q44z HB GE1); (case aF => exact q72z HO_1); (case aO => exact q45z HO_2); (case aS => exact q42z HB GE1); (case aL => have := LMc1.out; omega); intro v1 w1 ho hb hg hat; rw [← Ny1.out] at ho; replace HO_1 := aM (Kd.R_after (ok := (fun _ => True)) (q71z HO_1) hg hat); replace BK1 := aM (blk_grown (g := gb1) (o := .cells #[.slice A0_0 l0_0.length c0_0, .slice A0_1 l0_1.length c0_1, .slice A0_2 l0_2.length c0_2, .slice A0_3 l0_3.length c0_3, .slice A0_4 l0_4.length c0_4] 27 (0, 0)) (zi BK1) hg (Kd.R_ne HO_2.out BK1.out (by decide))); replace HB := aM (hb); have HO1 := aM (ho); clear HO_2; clear ho hb hg hat)); try go_wp2_with (first | ((with_reducible refine gate_builtin (b := .append) (xs := #[.tmp 76, .tmp 78]) rfl ?_); at_builtin; refine Kd.R_append (Kd.int .i64) (w0 := w) w.heap.size rfl (.tmp 76) (.tmp 78) 32 3 (.int .i64 0) 8 rfl Try.underlying32 info3 rfl (by decide) (by omega) u9 x1_2 0 [.int .i64 0] (fun k_ => some k_ ≠ (u8 : Value).ownBlock) (fun _ => False) rfl rfl ?aP (fun _ hk => hk.elim) ?aF ?aO ?aB ?aS ?aL ?_; (case aP => exact rfl); (case aB => exact q44z HB GE1); (case aF => exact q72z HO_1); (case aO => exact q45z HO_2); (case aS => exact q42z HB GE1); (case aL => have := LMc1.out; omega); intro v1 w1 ho hb hg hat; rw [← Ny1.out] at ho; replace HO_1 := aM (Kd.R_after (ok := (fun _ => True)) (q71z HO_1) hg hat); replace BK1 := aM (blk_grown (g := gb1) (o := .cells #[.slice A0_0 l0_0.length c0_0, .slice A0_1 l0_1.length c0_1, .slice A0_2 l0_2.length c0_2, .slice A0_3 l0_3.length c0_3, .slice A0_4 l0_4.length c0_4] 27 (0, 0)) (zi BK1) hg (Kd.R_ne HO_2.out BK1.out (by decide))); replace HB := aM (hb); have HO1 := aM (ho); clear HO_2; clear ho hb hg hat)))
         go_roundg k1
         case measure => have := HK1.out; have := HK2.out; omega
         case rel => exact ⟨(y1), (wrap64 (x2_2 + 1)), q13z, H', ⟨q92z HK1 HK2⟩, ⟨q78z HO_1⟩, ⟨q2z HO1⟩, ⟨q10z BK1⟩, ⟨q3z HB GE1⟩⟩
        ·rw [if_neg c4] at H; exact absurd H (by simp)
      ·rw [if_neg c3] at H; have c1b0 := decide_eq_false c3; clear c3; simp only [Option.some.injEq, Prod.mk.injEq] at H; obtain ⟨rfl, rfl⟩ := H; obtain ⟨i1_0, i1_1, i1_2, i1_3, i1_4, j1_0, j1_1, j1_2, j1_3, j1_4⟩ := cells5_76 BK1.out; go_wp2
       repeat (go_quiet (fail); try go_wp2)
       go_ret2
       exact ⟨_, _, q11z, q2z HO_1, q2z HO_2, q3z HB GE1⟩
end Go.Proofs.Yteblbknmikieoaa.Xb
