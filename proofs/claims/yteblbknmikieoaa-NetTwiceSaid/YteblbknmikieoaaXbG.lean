/- Slimmed by this session: what nothing names is struck out. -/
import Derived.Test.YteblbknmikieoaaXb0
import Derived.Test.YteblbknmikieoaaXbZ
import Derived.Test.YteblbknmikieoaaXbF
namespace Go.Proofs.Yteblbknmikieoaa.Xb
open Go.RowKit Go.Proofs.YteblbknmikieoaaW.PrintWords Go.Proofs.YteblbknmikieoaaW.PrintLast Go.Proofs.YteblbknmikieoaaW.PrintMore
attribute [local go_sem] max2_int min2_int max_two min_two max_three min_three max_four min_four
set_option linter.unusedVariables false
set_option linter.unusedSimpArgs false
theorem cells5_72 {w : World} {g : Nat} {t : TypeId} {x0 x1 x2 x3 x4 : Value} (h : w.heap[g]? = some (.cells #[x0, x1, x2, x3, x4] t (0, 0))) : w.cell? ⟨g, 0, none⟩ = some x0 ∧ w.cell? ⟨g, 1, none⟩ = some x1 ∧ w.cell? ⟨g, 2, none⟩ = some x2 ∧ w.cell? ⟨g, 3, none⟩ = some x3 ∧ w.cell? ⟨g, 4, none⟩ = some x4 ∧ w.frozen? ⟨g, 0, none⟩ = false ∧ w.frozen? ⟨g, 1, none⟩ = false ∧ w.frozen? ⟨g, 2, none⟩ = false ∧ w.frozen? ⟨g, 3, none⟩ = false ∧ w.frozen? ⟨g, 4, none⟩ = false := ⟨(blk_cell h 0).trans rfl, (blk_cell h 1).trans rfl, (blk_cell h 2).trans rfl, (blk_cell h 3).trans rfl, (blk_cell h 4).trans rfl, blk_frozen h 0, blk_frozen h 1, blk_frozen h 2, blk_frozen h 3, blk_frozen h 4⟩
mutual
def r9_pins.l0 : Nat → Int → Int → Int → List (S41) → List (S47) → List (S43) → List (S61) → List (S47) → Option (Bool)
 | 0, _, _, _, _, _, _, _, _ => none
 | k + 1, x3, x4, x5, x374000, x374001, x374002, x374003, x374004 => if x5 < (x374000.length : Int) then (if 0 ≤ x5 then (if ((rd_T41 x374000 x5).f0) = 21 then (if x3 ≥ (x374001.length : Int) then (some false) else (if 0 ≤ x3 then (if x3 < (x374001.length : Int) then (if ((rd_T47 x374001 x3).f1) = x5 then (r9_pins.j1 k (wrap64 (x3 + 1)) x4 x5 x374000 x374001 x374002 x374003 x374004) else (some false)) else (none)) else (none))) else (r9_pins.j1 k x3 x4 x5 x374000 x374001 x374002 x374003 x374004)) else (none)) else (if x3 = (x374001.length : Int) then (some (x4 == (x374002.length : Int))) else (some false))
def r9_pins.j1 : Nat → Int → Int → Int → List (S41) → List (S47) → List (S43) → List (S61) → List (S47) → Option (Bool)
 | 0, _, _, _, _, _, _, _, _ => none
 | k + 1, x3, x4, x5, x374000, x374001, x374002, x374003, x374004 => if 0 ≤ x5 then (if x5 < (x374000.length : Int) then (if ((rd_T41 x374000 x5).f0) = 22 then (if x4 ≥ (x374002.length : Int) then (some false) else (if 0 ≤ x4 then (if x4 < (x374002.length : Int) then (if ((rd_T43 x374002 x4).f1) = x5 then (r9_pins.l0 k x3 (wrap64 (x4 + 1)) (wrap64 (x5 + 1)) x374000 x374001 x374002 x374003 x374004) else (some false)) else (none)) else (none))) else (r9_pins.l0 k x3 x4 (wrap64 (x5 + 1)) x374000 x374001 x374002 x374003 x374004)) else (none)) else (none)
end
def r9_pins.f (k : Nat) (l0_0 : List (S41)) (l0_1 : List (S47)) (l0_2 : List (S43)) (l0_3 : List (S61)) (l0_4 : List (S47)) : Option (Bool) := r9_pins.l0 k 0 0 0 l0_0 l0_1 l0_2 l0_3 l0_4
theorem r9_pins.mono_l : ∀ k, (∀ y0 y1 y2 y3 y4 y5 y6 y7, LeO (r9_pins.l0 k y0 y1 y2 y3 y4 y5 y6 y7) (r9_pins.l0 (k + 1) y0 y1 y2 y3 y4 y5 y6 y7)) ∧ (∀ y0 y1 y2 y3 y4 y5 y6 y7, LeO (r9_pins.j1 k y0 y1 y2 y3 y4 y5 y6 y7) (r9_pins.j1 (k + 1) y0 y1 y2 y3 y4 y5 y6 y7))
 | 0 => ⟨fun _ _ _ _ _ _ _ _ r h => by simp [r9_pins.l0] at h, fun _ _ _ _ _ _ _ _ r h => by simp [r9_pins.j1] at h⟩
 | k + 1 => by
  obtain ⟨ih0, ih1⟩ := r9_pins.mono_l k; refine ⟨?_, ?_⟩
  ·intro y0 y1 y2 y3 y4 y5 y6 y7
   unfold r9_pins.l0
   repeat' first
   | (with_reducible exact ih0 _ _ _ _ _ _ _ _)
   | (with_reducible exact ih1 _ _ _ _ _ _ _ _)
   | (with_reducible exact LeO.refl _)
   | (with_reducible exact LeO.none _)
   | (with_reducible refine LeO.ite ?_ ?_)
   | (with_reducible refine LeO.bind ?_ (fun _ => ?_))
   | exact ih0 _ _ _ _ _ _ _ _
   | exact ih1 _ _ _ _ _ _ _ _
   | exact LeO.none _
   | refine LeO.ite ?_ ?_
   | refine LeO.bind ?_ (fun _ => ?_)
  ·intro y0 y1 y2 y3 y4 y5 y6 y7
   unfold r9_pins.j1
   repeat' first
   | (with_reducible exact ih0 _ _ _ _ _ _ _ _)
   | (with_reducible exact ih1 _ _ _ _ _ _ _ _)
   | (with_reducible exact LeO.refl _)
   | (with_reducible exact LeO.none _)
   | (with_reducible refine LeO.ite ?_ ?_)
   | (with_reducible refine LeO.bind ?_ (fun _ => ?_))
   | exact ih0 _ _ _ _ _ _ _ _
   | exact ih1 _ _ _ _ _ _ _ _
   | exact LeO.none _
   | refine LeO.ite ?_ ?_
   | refine LeO.bind ?_ (fun _ => ?_)
theorem r9_pins.mono : ∀ a0 a1 a2 a3 a4 k, LeO (r9_pins.f k a0 a1 a2 a3 a4) (r9_pins.f (k + 1) a0 a1 a2 a3 a4) := by
 intro a0 a1 a2 a3 a4 k
 obtain ⟨ih1, ih2⟩ := r9_pins.mono_l k; unfold r9_pins.f
 repeat' first
   | (with_reducible exact ih1 _ _ _ _ _ _ _ _)
   | (with_reducible exact ih2 _ _ _ _ _ _ _ _)
   | (with_reducible exact LeO.refl _)
   | (with_reducible exact LeO.none _)
   | (with_reducible refine LeO.ite ?_ ?_)
   | (with_reducible refine LeO.bind ?_ (fun _ => ?_))
   | exact ih1 _ _ _ _ _ _ _ _
   | exact ih2 _ _ _ _ _ _ _ _
   | exact LeO.none _
   | refine LeO.ite ?_ ?_
   | refine LeO.bind ?_ (fun _ => ?_)
theorem z72_1 {P : Prop} (h : P := by
 obtain rfl := Option.some.inj H; obtain ⟨i1_0, i1_1, i1_2, i1_3, i1_4, j1_0, j1_1, j1_2, j1_3, j1_4⟩ := cells5_72 BK1.out; go_wp2
 go_ret
 exact ⟨q11z, q3z HB GE1⟩) : P := h
set_option maxHeartbeats 8000000 in
set_option maxRecDepth 100000 in
theorem r9_pins.calls (k : Nat) (A0_0 : Option Addr) (c0_0 : Nat) (l0_0 : List (S41)) (A0_1 : Option Addr) (c0_1 : Nat) (l0_1 : List (S47)) (A0_2 : Option Addr) (c0_2 : Nat) (l0_2 : List (S43)) (A0_3 : Option Addr) (c0_3 : Nat) (l0_3 : List (S61)) (A0_4 : Option Addr) (c0_4 : Nat) (l0_4 : List (S47)) (r : Bool) (w : World) (hr0_0 : Kd.C k41 w A0_0 l0_0.length l0_0) (hc0_0 : l0_0.length ≤ c0_0) (hr0_1 : Kd.C k47 w A0_1 l0_1.length l0_1) (hc0_1 : l0_1.length ≤ c0_1) (hr0_2 : Kd.C k43 w A0_2 l0_2.length l0_2) (hc0_2 : l0_2.length ≤ c0_2) (hr0_3 : Kd.C k61 w A0_3 l0_3.length l0_3) (hc0_3 : l0_3.length ≤ c0_3) (hr0_4 : Kd.C k47 w A0_4 l0_4.length l0_4) (hc0_4 : l0_4.length ≤ c0_4) (h : r9_pins.f k l0_0 l0_1 l0_2 l0_3 l0_4 = some r) :
  Calls Try.prog 38 #[.agg #[.slice A0_0 l0_0.length c0_0, .slice A0_1 l0_1.length c0_1, .slice A0_2 l0_2.length c0_2, .slice A0_3 l0_3.length c0_3, .slice A0_4 l0_4.length c0_4]] w fun e w' => e = .returned (.bool r) ∧ Below w.heap.size w w' := by
 have hu1 := Try.underlying27; have HR1_0 := aM hr0_0; have HC1_0 := aM hc0_0; clear hr0_0 hc0_0; have HR1_1 := aM hr0_1; have HC1_1 := aM hc0_1; clear hr0_1 hc0_1; have HR1_2 := aM hr0_2; have HC1_2 := aM hc0_2; clear hr0_2 hc0_2; have HR1_3 := aM hr0_3; have HC1_3 := aM hc0_3; clear hr0_3 hc0_3; have HR1_4 := aM hr0_4; have HC1_4 := aM hc0_4; clear hr0_4 hc0_4; have HB := aM (Below.refl w.heap.size w); have H : (r9_pins.l0 k 0 0 0 l0_0 l0_1 l0_2 l0_3 l0_4) = some r := h; clear h; have H' := aM H; clear H; go_enter Try.func38, Try.ntmps38
 go_wp2_with (first | ((with_reducible refine gate_dst (N := 1) rfl ?_); (try (refine gate_guard (by rfl) ?_; dsimp only)); refine box_event ?hg (N := 1) ?hd (cs := #[.slice A0_0 l0_0.length c0_0, .slice A0_1 l0_1.length c0_1, .slice A0_2 l0_2.length c0_2, .slice A0_3 l0_3.length c0_3, .slice A0_4 l0_4.length c0_4]) (t := 27) ?hr ?_; (case hd => rfl); (case hg => rfl); (case hr => exact q27z); intro gb1 hg w1 hbox hb; have BK1 := aM (hbox); have GW1 := aM ((q7z HB : w.heap.size ≤ gb1)); have GE1 := aM ((q7z HB : w.heap.size ≤ gb1)); replace HB := aM (ym (q4z HB) hb); clear hb hbox hg))
 go_loopg [3, 4, 5] k (fun kq v1 v2 v3 w' => ∃ (x1_1 : Int) (x2_1 : Int) (x3_1 : Int), v1 = .int .i64 x1_1 ∧ v2 = .int .i64 x2_1 ∧ v3 = .int .i64 x3_1 ∧ Aside0 (r9_pins.l0 kq x1_1 x2_1 x3_1 l0_0 l0_1 l0_2 l0_3 l0_4 = some r) ∧ Aside0 (kq ≤ k) ∧ Aside0 (w'.heap[gb1]? = some (.cells #[(.slice A0_0 l0_0.length c0_0), (.slice A0_1 l0_1.length c0_1), (.slice A0_2 l0_2.length c0_2), (.slice A0_3 l0_3.length c0_3), (.slice A0_4 l0_4.length c0_4)] 27 (0, 0))) ∧ Aside0 (Below w.heap.size w w'))
 case atStart => exact ⟨(0), (0), (0), q13z, q13z, q13z, H', ⟨Nat.le_refl _⟩, ⟨q10z BK1⟩, ⟨q3z HB GE1⟩⟩
 case round =>
  clear H'; try clear p2
  obtain ⟨x1_1, x2_1, x3_1, rfl, rfl, rfl, HA, HK1, BK1, HB⟩ := hrel; cases gk with
  | zero => exact absurd HA.out (by simp [r9_pins.l0])
  | succ k1 =>
   have H := HA.out; clear HA; simp only [r9_pins.l0] at H; by_cases c2 : x3_1 < (l0_0.length : Int)
   ·rw [if_pos c2] at H; have c1b0 := decide_eq_true c2; clear c2; by_cases c3 : 0 ≤ x3_1
    ·rw [if_pos c3] at H; have c2b0 := decide_eq_true c3; clear c3; have HC1 := aM H; clear H; obtain ⟨i1_0, i1_1, i1_2, i1_3, i1_4, j1_0, j1_1, j1_2, j1_3, j1_4⟩ := cells5_72 BK1.out; have p1 : 0 ≤ (x3_1 : Int) := zod; have q1 : x3_1 < (l0_0.length : Int) := zod; obtain ⟨ad1, e1, hx1_0, hx1_1, hx1_2, hx1_3, hx1_4, hx1_5, hx1_6⟩ := at_T41 HR1_0.out x3_1 p1 q1; cases e1; replace hx1_0 := zx HB hx1_0; replace hx1_1 := zx HB hx1_1; replace hx1_2 := zx HB hx1_2; replace hx1_3 := zx HB hx1_3; replace hx1_4 := zx HB hx1_4; replace hx1_5 := zx HB hx1_5; replace hx1_6 := zx HB hx1_6; replace p1 := eq_true p1; replace q1 := eq_true q1; go_upto_if 19 with (fail)
     go_cut [3] (fun v1 wc => ∃ (kq : Nat) (x1_4 : Int), v1 = .int .i64 x1_4 ∧ Aside0 (r9_pins.j1 kq x1_4 x2_1 x3_1 l0_0 l0_1 l0_2 l0_3 l0_4 = some r) ∧ Aside0 (kq ≤ k1) ∧ Aside0 (wc.heap[gb1]? = some (.cells #[(.slice (some ad1) l0_0.length c0_0), (.slice A0_1 l0_1.length c0_1), (.slice A0_2 l0_2.length c0_2), (.slice A0_3 l0_3.length c0_3), (.slice A0_4 l0_4.length c0_4)] 27 (0, 0))) ∧ Aside0 (Below w.heap.size w wc))
     case first =>
      have H := HC1.out; clear HC1; by_cases c4 : ((rd_T41 l0_0 x3_1).f0) = 21
      ·rw [if_pos c4] at H; obtain ⟨c3b0, c1b1⟩ := zeq c4; clear c4; (first | rw [c3b0] | (simp only [i64_w, i32_w]; rw [c3b0]) | skip)
       by_cases c5 : x1_1 ≥ (l0_1.length : Int)
       ·rw [if_pos c5] at H; have c3b0 : decide ((l0_1.length : Int) ≤ x1_1) = true := decide_eq_true c5; clear c5; obtain rfl := Option.some.inj H; obtain ⟨i2_0, i2_1, i2_2, i2_3, i2_4, j2_0, j2_1, j2_2, j2_3, j2_4⟩ := cells5_72 BK1.out; go_wp2
        go_ret
        exact ⟨q11z, q3z HB GE1⟩
       ·rw [if_neg c5] at H; have c3b0 : decide ((l0_1.length : Int) ≤ x1_1) = false := decide_eq_false c5; clear c5; by_cases c5 : 0 ≤ x1_1
        ·rw [if_pos c5] at H; have c3b0 := decide_eq_true c5; clear c5; by_cases c6 : x1_1 < (l0_1.length : Int)
         ·rw [if_pos c6] at H; have c3b0 := decide_eq_true c6; clear c6; by_cases c7 : ((rd_T47 l0_1 x1_1).f1) = x3_1
          ·rw [if_pos c7] at H; obtain ⟨c3b0, c1b1⟩ := zeq c7; clear c7; have H' := aM H; clear H; obtain ⟨i2_0, i2_1, i2_2, i2_3, i2_4, j2_0, j2_1, j2_2, j2_3, j2_4⟩ := cells5_72 BK1.out; have p4 : 0 ≤ (x1_1 : Int) := zod; have q2 : x1_1 < (l0_1.length : Int) := zod; obtain ⟨ad2, e1, hx2_0, hx2_1⟩ := at_T47 HR1_1.out x1_1 p4 q2; cases e1; replace hx2_0 := zx HB hx2_0; replace hx2_1 := zx HB hx2_1; replace p4 := eq_true p4; replace q2 := eq_true q2; go_wp2
           go_meet
           case rel => exact ⟨_, (wrap64 (x1_1 + 1)), q13z, H', ⟨q55z HK1⟩, ⟨q10z BK1⟩, ⟨q3z HB GE1⟩⟩
          ·rw [if_neg c7] at H; obtain ⟨c3b0, c1b1⟩ := zne c7; obtain rfl := Option.some.inj H; obtain ⟨i2_0, i2_1, i2_2, i2_3, i2_4, j2_0, j2_1, j2_2, j2_3, j2_4⟩ := cells5_72 BK1.out; have p4 : 0 ≤ (x1_1 : Int) := zod; have q2 : x1_1 < (l0_1.length : Int) := zod; obtain ⟨ad2, e1, hx2_0, hx2_1⟩ := at_T47 HR1_1.out x1_1 p4 q2; cases e1; replace hx2_0 := zx HB hx2_0; replace hx2_1 := zx HB hx2_1; replace p4 := eq_true p4; replace q2 := eq_true q2; go_wp2
           go_ret
           exact ⟨q11z, q3z HB GE1⟩
         ·rw [if_neg c6] at H; exact absurd H (by simp)
        ·rw [if_neg c5] at H; exact absurd H (by simp)
      ·rw [if_neg c4] at H; obtain ⟨c3b0, c1b1⟩ := zne c4; (first | rw [c3b0] | (simp only [i64_w, i32_w]; rw [c3b0]) | skip)
       have H' := aM H; clear H; go_wp2
       go_meet
       case rel => exact ⟨_, (x1_1), q13z, H', ⟨q55z HK1⟩, ⟨q10z BK1⟩, ⟨q3z HB GE1⟩⟩
     case rest =>
      clear HC1; try clear c1
      try clear p2
      try clear c2
      try clear c1b0
      try clear p3
      try clear q3
      try clear hx3
      try clear c3
      try clear c2b0
      try clear p6
      try clear c4
      try clear c1b0
      try clear c1b1
      try clear c4
      try clear c1b0
      try clear c4
      try clear c1b0
      try clear c4
      try clear c1b0
      try clear c4
      try clear c1b0
      try clear c1b1
      try clear i2_0 i2_1 i2_2 i2_3 i2_4 i2_0 i2_1 i2_2 i2_3 i2_4
      try clear i1_0 i1_1 i1_2 i1_3 i1_4 i1_0 i1_1 i1_2 i1_3 i1_4
      try clear j2_0 j2_1 j2_2 j2_3 j2_4 j2_0 j2_1 j2_2 j2_3 j2_4
      try clear j1_0 j1_1 j1_2 j1_3 j1_4 j1_0 j1_1 j1_2 j1_3 j1_4
      try clear hx1_0
      try clear hx1_1
      try clear hx1_2
      try clear hx1_3
      try clear hx1_4
      try clear hx1_5
      try clear hx1_6
      try clear hx1_0
      try clear hx1_1
      try clear p2
      try clear p1
      try clear p1
      try clear q1
      try clear q1
      obtain ⟨kq, x1_4, rfl, HA, HJ1, BK1, HB⟩ := hcut; cases kq with
      | zero => exact absurd HA.out (by simp [r9_pins.j1])
      | succ kj1 =>
       have H := HA.out; clear HA; simp only [r9_pins.j1] at H; by_cases c4 : 0 ≤ x3_1
       ·rw [if_pos c4] at H; have c1b0 := decide_eq_true c4; clear c4; by_cases c5 : x3_1 < (l0_0.length : Int)
        ·rw [if_pos c5] at H; have c1b0 := decide_eq_true c5; clear c5; by_cases c6 : ((rd_T41 l0_0 x3_1).f0) = 22
         ·rw [if_pos c6] at H; obtain ⟨c1b0, c1b1⟩ := zeq c6; clear c6; by_cases c7 : x2_1 ≥ (l0_2.length : Int)
          ·rw [if_pos c7] at H; have c1b0 : decide ((l0_2.length : Int) ≤ x2_1) = true := decide_eq_true c7; clear c7; obtain rfl := Option.some.inj H; obtain ⟨i1_0, i1_1, i1_2, i1_3, i1_4, j1_0, j1_1, j1_2, j1_3, j1_4⟩ := cells5_72 BK1.out; have p1 : 0 ≤ (x3_1 : Int) := zod; have q1 : x3_1 < (l0_0.length : Int) := zod; obtain ⟨ad2, e1, hx1_0, hx1_1, hx1_2, hx1_3, hx1_4, hx1_5, hx1_6⟩ := at_T41 HR1_0.out x3_1 p1 q1; obtain rfl : ad1 = ad2 := (by injection e1); replace hx1_0 := zx HB hx1_0; replace hx1_1 := zx HB hx1_1; replace hx1_2 := zx HB hx1_2; replace hx1_3 := zx HB hx1_3; replace hx1_4 := zx HB hx1_4; replace hx1_5 := zx HB hx1_5; replace hx1_6 := zx HB hx1_6; replace p1 := eq_true p1; replace q1 := eq_true q1; go_wp2
           go_ret
           exact ⟨q11z, q3z HB GE1⟩
          ·rw [if_neg c7] at H; have c1b0 : decide ((l0_2.length : Int) ≤ x2_1) = false := decide_eq_false c7; clear c7; by_cases c7 : 0 ≤ x2_1
           ·rw [if_pos c7] at H; have c1b0 := decide_eq_true c7; clear c7; by_cases c8 : x2_1 < (l0_2.length : Int)
            ·rw [if_pos c8] at H; have c1b0 := decide_eq_true c8; clear c8; by_cases c9 : ((rd_T43 l0_2 x2_1).f1) = x3_1
             ·rw [if_pos c9] at H; obtain ⟨c1b0, c1b1⟩ := zeq c9; clear c9; have H' := aM H; clear H; obtain ⟨i1_0, i1_1, i1_2, i1_3, i1_4, j1_0, j1_1, j1_2, j1_3, j1_4⟩ := cells5_72 BK1.out; have p1 : 0 ≤ (x3_1 : Int) := zod; have q1 : x3_1 < (l0_0.length : Int) := zod; obtain ⟨ad2, e1, hx1_0, hx1_1, hx1_2, hx1_3, hx1_4, hx1_5, hx1_6⟩ := at_T41 HR1_0.out x3_1 p1 q1; obtain rfl : ad1 = ad2 := (by injection e1); replace hx1_0 := zx HB hx1_0; replace hx1_1 := zx HB hx1_1; replace hx1_2 := zx HB hx1_2; replace hx1_3 := zx HB hx1_3; replace hx1_4 := zx HB hx1_4; replace hx1_5 := zx HB hx1_5; replace hx1_6 := zx HB hx1_6; replace p1 := eq_true p1; replace q1 := eq_true q1; have p1 : 0 ≤ (x2_1 : Int) := zod; have q1 : x2_1 < (l0_2.length : Int) := zod; obtain ⟨ad2, e1, hx1_0, hx1_1, hx1_2, hx1_3⟩ := at_T43 HR1_2.out x2_1 p1 q1; cases e1; replace hx1_0 := zx HB hx1_0; replace hx1_1 := zx HB hx1_1; replace hx1_2 := zx HB hx1_2; replace hx1_3 := zx HB hx1_3; replace p1 := eq_true p1; replace q1 := eq_true q1; go_wp2
              go_roundg kj1
              case measure => have := HK1.out; have := HJ1.out; omega
              case rel => exact ⟨(x1_4), (wrap64 (x2_1 + 1)), (wrap64 (x3_1 + 1)), q13z, q13z, q13z, H', ⟨q92z HK1 HJ1⟩, ⟨q10z BK1⟩, ⟨q3z HB GE1⟩⟩
             ·rw [if_neg c9] at H; obtain ⟨c1b0, c1b1⟩ := zne c9; obtain rfl := Option.some.inj H; obtain ⟨i1_0, i1_1, i1_2, i1_3, i1_4, j1_0, j1_1, j1_2, j1_3, j1_4⟩ := cells5_72 BK1.out; have p1 : 0 ≤ (x3_1 : Int) := zod; have q1 : x3_1 < (l0_0.length : Int) := zod; obtain ⟨ad2, e1, hx1_0, hx1_1, hx1_2, hx1_3, hx1_4, hx1_5, hx1_6⟩ := at_T41 HR1_0.out x3_1 p1 q1; obtain rfl : ad1 = ad2 := (by injection e1); replace hx1_0 := zx HB hx1_0; replace hx1_1 := zx HB hx1_1; replace hx1_2 := zx HB hx1_2; replace hx1_3 := zx HB hx1_3; replace hx1_4 := zx HB hx1_4; replace hx1_5 := zx HB hx1_5; replace hx1_6 := zx HB hx1_6; replace p1 := eq_true p1; replace q1 := eq_true q1; have p1 : 0 ≤ (x2_1 : Int) := zod; have q1 : x2_1 < (l0_2.length : Int) := zod; obtain ⟨ad2, e1, hx1_0, hx1_1, hx1_2, hx1_3⟩ := at_T43 HR1_2.out x2_1 p1 q1; cases e1; replace hx1_0 := zx HB hx1_0; replace hx1_1 := zx HB hx1_1; replace hx1_2 := zx HB hx1_2; replace hx1_3 := zx HB hx1_3; replace p1 := eq_true p1; replace q1 := eq_true q1; go_wp2
              go_ret
              exact ⟨q11z, q3z HB GE1⟩
            ·rw [if_neg c8] at H; exact absurd H (by simp)
           ·rw [if_neg c7] at H; exact absurd H (by simp)
         ·rw [if_neg c6] at H; obtain ⟨c1b0, c1b1⟩ := zne c6; have H' := aM H; clear H; obtain ⟨i1_0, i1_1, i1_2, i1_3, i1_4, j1_0, j1_1, j1_2, j1_3, j1_4⟩ := cells5_72 BK1.out; have p1 : 0 ≤ (x3_1 : Int) := zod; have q1 : x3_1 < (l0_0.length : Int) := zod; obtain ⟨ad2, e1, hx1_0, hx1_1, hx1_2, hx1_3, hx1_4, hx1_5, hx1_6⟩ := at_T41 HR1_0.out x3_1 p1 q1; obtain rfl : ad1 = ad2 := (by injection e1); replace hx1_0 := zx HB hx1_0; replace hx1_1 := zx HB hx1_1; replace hx1_2 := zx HB hx1_2; replace hx1_3 := zx HB hx1_3; replace hx1_4 := zx HB hx1_4; replace hx1_5 := zx HB hx1_5; replace hx1_6 := zx HB hx1_6; replace p1 := eq_true p1; replace q1 := eq_true q1; go_wp2
          go_roundg kj1
          case measure => have := HK1.out; have := HJ1.out; omega
          case rel => exact ⟨(x1_4), (x2_1), (wrap64 (x3_1 + 1)), q13z, q13z, q13z, H', ⟨q92z HK1 HJ1⟩, ⟨q10z BK1⟩, ⟨q3z HB GE1⟩⟩
        ·rw [if_neg c5] at H; exact absurd H (by simp)
       ·rw [if_neg c4] at H; exact absurd H (by simp)
    ·rw [if_neg c3] at H; exact absurd H (by simp)
   ·rw [if_neg c2] at H; have c1b0 := decide_eq_false c2; clear c2; by_cases c2 : x1_1 = (l0_1.length : Int)
    ·rw [if_pos c2] at H; obtain ⟨c1b0, c1b1⟩ := zeq c2; clear c2; exact z72_1
    ·rw [if_neg c2] at H; obtain ⟨c1b0, c1b1⟩ := zne c2; exact z72_1
end Go.Proofs.Yteblbknmikieoaa.Xb
namespace Go.Proofs.Yteblbknmikieoaa.Xb
open Go.RowKit Go.Proofs.YteblbknmikieoaaW.PrintWords Go.Proofs.YteblbknmikieoaaW.PrintLast Go.Proofs.YteblbknmikieoaaW.PrintMore
attribute [local go_sem] max2_int min2_int max_two min_two max_three min_three max_four min_four
set_option linter.unusedVariables false
set_option linter.unusedSimpArgs false
theorem cells5_73 {w : World} {g : Nat} {t : TypeId} {x0 x1 x2 x3 x4 : Value} (h : w.heap[g]? = some (.cells #[x0, x1, x2, x3, x4] t (0, 0))) : w.cell? ⟨g, 0, none⟩ = some x0 ∧ w.cell? ⟨g, 1, none⟩ = some x1 ∧ w.cell? ⟨g, 2, none⟩ = some x2 ∧ w.cell? ⟨g, 3, none⟩ = some x3 ∧ w.cell? ⟨g, 4, none⟩ = some x4 ∧ w.frozen? ⟨g, 0, none⟩ = false ∧ w.frozen? ⟨g, 1, none⟩ = false ∧ w.frozen? ⟨g, 2, none⟩ = false ∧ w.frozen? ⟨g, 3, none⟩ = false ∧ w.frozen? ⟨g, 4, none⟩ = false := ⟨(blk_cell h 0).trans rfl, (blk_cell h 1).trans rfl, (blk_cell h 2).trans rfl, (blk_cell h 3).trans rfl, (blk_cell h 4).trans rfl, blk_frozen h 0, blk_frozen h 1, blk_frozen h 2, blk_frozen h 3, blk_frozen h 4⟩
def r9_there.f (l0_0 : List (S41)) (l0_1 : List (S47)) (l0_2 : List (S43)) (l0_3 : List (S61)) (l0_4 : List (S47)) (a1 : Int) : Option (Int) := (r9_wide.f l0_0 l0_1 l0_2 l0_3 l0_4 a1 (l0_0.length : Int)).bind fun t379 => (some t379)
set_option maxHeartbeats 8000000 in
set_option maxRecDepth 100000 in
theorem r9_there.calls (A0_0 : Option Addr) (c0_0 : Nat) (l0_0 : List (S41)) (A0_1 : Option Addr) (c0_1 : Nat) (l0_1 : List (S47)) (A0_2 : Option Addr) (c0_2 : Nat) (l0_2 : List (S43)) (A0_3 : Option Addr) (c0_3 : Nat) (l0_3 : List (S61)) (A0_4 : Option Addr) (c0_4 : Nat) (l0_4 : List (S47)) (a1 : Int) (r : Int) (w : World) (hr0_0 : Kd.C k41 w A0_0 l0_0.length l0_0) (hc0_0 : l0_0.length ≤ c0_0) (hr0_1 : Kd.C k47 w A0_1 l0_1.length l0_1) (hc0_1 : l0_1.length ≤ c0_1) (hr0_2 : Kd.C k43 w A0_2 l0_2.length l0_2) (hc0_2 : l0_2.length ≤ c0_2) (hr0_3 : Kd.C k61 w A0_3 l0_3.length l0_3) (hc0_3 : l0_3.length ≤ c0_3) (hr0_4 : Kd.C k47 w A0_4 l0_4.length l0_4) (hc0_4 : l0_4.length ≤ c0_4) (h : r9_there.f l0_0 l0_1 l0_2 l0_3 l0_4 a1 = some r) :
  Calls Try.prog 39 #[.agg #[.slice A0_0 l0_0.length c0_0, .slice A0_1 l0_1.length c0_1, .slice A0_2 l0_2.length c0_2, .slice A0_3 l0_3.length c0_3, .slice A0_4 l0_4.length c0_4], .int .i64 a1] w fun e w' => e = .returned (.int .i64 r) ∧ Below w.heap.size w w' := by
 have hu1 := Try.underlying27; have HR1_0 := aM hr0_0; have HC1_0 := aM hc0_0; clear hr0_0 hc0_0; have HR1_1 := aM hr0_1; have HC1_1 := aM hc0_1; clear hr0_1 hc0_1; have HR1_2 := aM hr0_2; have HC1_2 := aM hc0_2; clear hr0_2 hc0_2; have HR1_3 := aM hr0_3; have HC1_3 := aM hc0_3; clear hr0_3 hc0_3; have HR1_4 := aM hr0_4; have HC1_4 := aM hc0_4; clear hr0_4 hc0_4; have HB := aM (Below.refl w.heap.size w); have H : ((r9_wide.f l0_0 l0_1 l0_2 l0_3 l0_4 a1 (l0_0.length : Int)).bind fun t1 => (some t1)) = some r := h; clear h; replace H := Option.bind_eq_some_iff.mp H; obtain ⟨t1, A1, H⟩ := H; have A2 := aM A1; clear A1; obtain rfl := Option.some.inj H; go_enter Try.func39, Try.ntmps39
 go_wp2_with (first | ((with_reducible refine zgd 2 rfl ?_); refine zbox 2 #[.slice A0_0 l0_0.length c0_0, .slice A0_1 l0_1.length c0_1, .slice A0_2 l0_2.length c0_2, .slice A0_3 l0_3.length c0_3, .slice A0_4 l0_4.length c0_4] 27 ?_; intro gb1 hg w1 hbox hb; have BK1 := aM (hbox); have GW1 := aM ((q7z HB : w.heap.size ≤ gb1)); have GE1 := aM ((q7z HB : w.heap.size ≤ gb1)); replace HB := aM (ym (q4z HB) hb); clear hb hbox hg; obtain ⟨i1_0, i1_1, i1_2, i1_3, i1_4, j1_0, j1_1, j1_2, j1_3, j1_4⟩ := cells5_73 BK1.out) | ((with_reducible refine zgc 53 rfl ?_); refine zgl (some 10) Try.func53 #[.agg #[.slice A0_0 l0_0.length c0_0, .slice A0_1 l0_1.length c0_1, .slice A0_2 l0_2.length c0_2, .slice A0_3 l0_3.length c0_3, .slice A0_4 l0_4.length c0_4], .int .i64 a1, .int .i64 (l0_0.length : Int)] ?_; (with_reducible refine (r9_wide.calls _ _ l0_0 _ _ l0_1 _ _ l0_2 _ _ l0_3 _ _ l0_4 a1 (l0_0.length : Int) t1 _ ?side1 ?side2 ?side3 ?side4 ?side5 ?side6 ?side7 ?side8 ?side9 ?side10 A2.out).mono ?_); (case side1 => exact q1z HR1_0 HB); (case side2 => exact HC1_0.out); (case side3 => exact q1z HR1_1 HB); (case side4 => exact HC1_1.out); (case side5 => exact q1z HR1_2 HB); (case side6 => exact HC1_2.out); (case side7 => exact q1z HR1_3 HB); (case side8 => exact HC1_3.out); (case side9 => exact q1z HR1_4 HB); (case side10 => exact HC1_4.out); rintro e w2 ⟨rfl, hb⟩; refine ⟨_, rfl, ?_⟩; replace BK1 := aM (yi (zi BK1) hb); replace HB := aM (ym (q3z HB GE1) hb); (try clear hb); (try clear hb2); (try clear hk); (try clear hi)))
 go_ret
 exact ⟨q11z, q3z HB GE1⟩
end Go.Proofs.Yteblbknmikieoaa.Xb
