/- Slimmed by this session: what nothing names is struck out. -/
import Derived.Test.YteblbknmikieoaaXb0
import Derived.Test.YteblbknmikieoaaXbZ
import Derived.Test.YteblbknmikieoaaXbA
import Derived.Test.YteblbknmikieoaaXbB
namespace Go.Proofs.Yteblbknmikieoaa.Xb
open Go.RowKit Go.Proofs.YteblbknmikieoaaW.PrintWords Go.Proofs.YteblbknmikieoaaW.PrintLast Go.Proofs.YteblbknmikieoaaW.PrintMore
attribute [local go_sem] max2_int min2_int max_two min_two max_three min_three max_four min_four
set_option linter.unusedVariables false
set_option linter.unusedSimpArgs false
theorem cells2_44 {w : World} {g : Nat} {t : TypeId} {x0 x1 : Value} (h : w.heap[g]? = some (.cells #[x0, x1] t (0, 0))) : w.cell? ⟨g, 0, none⟩ = some x0 ∧ w.cell? ⟨g, 1, none⟩ = some x1 ∧ w.frozen? ⟨g, 0, none⟩ = false ∧ w.frozen? ⟨g, 1, none⟩ = false := ⟨(blk_cell h 0).trans rfl, (blk_cell h 1).trans rfl, blk_frozen h 0, blk_frozen h 1⟩
def api_Pin_int.l0 : Nat → List Int → List (S47) → Int → Int → Option (Bool)
 | 0, _, _, _, _ => none
 | k + 1, x1, x15, x16, x17 => if x17 < x16 then (if 0 ≤ x17 then (if x17 < (x15.length : Int) then (if x17 < (x1.length : Int) then ((net_Right_1.f ((rd_T47 x15 x17).f0) ((rd_T47 x15 x17).f1) (rd x1 x17)).bind fun t154 => (if t154 = true then (api_Pin_int.l0 k x1 x15 x16 (wrap64 (x17 + 1))) else (some false))) else (none)) else (none)) else (none)) else (some true)
def api_Pin_int.f (k : Nat) (l0 : List (S47)) (l1 : List Int) (a2 : Int) : Option (Bool) := if (l0.length : Int) = (l1.length : Int) then (api_Pin_int.l0 k l1 l0 (l0.length : Int) 0) else (some false)
theorem api_Pin_int.mono_l : ∀ k, (∀ y0 y1 y2 y3, LeO (api_Pin_int.l0 k y0 y1 y2 y3) (api_Pin_int.l0 (k + 1) y0 y1 y2 y3))
 | 0 => fun _ _ _ _ r h => by simp [api_Pin_int.l0] at h
 | k + 1 => by
  have ih0 := api_Pin_int.mono_l k
  ·intro y0 y1 y2 y3
   unfold api_Pin_int.l0
   repeat' first
   | (with_reducible exact ih0 _ _ _ _)
   | (with_reducible exact LeO.refl _)
   | (with_reducible exact LeO.none _)
   | (with_reducible refine LeO.ite ?_ ?_)
   | (with_reducible refine LeO.bind ?_ (fun _ => ?_))
   | exact ih0 _ _ _ _
   | exact LeO.none _
   | refine LeO.ite ?_ ?_
   | refine LeO.bind ?_ (fun _ => ?_)
theorem api_Pin_int.mono : ∀ a0 a1 a2 k, LeO (api_Pin_int.f k a0 a1 a2) (api_Pin_int.f (k + 1) a0 a1 a2) := by
 intro a0 a1 a2 k
 have ih1 := api_Pin_int.mono_l k; unfold api_Pin_int.f
 repeat' first
   | (with_reducible exact ih1 _ _ _ _)
   | (with_reducible exact LeO.refl _)
   | (with_reducible exact LeO.none _)
   | (with_reducible refine LeO.ite ?_ ?_)
   | (with_reducible refine LeO.bind ?_ (fun _ => ?_))
   | exact ih1 _ _ _ _
   | exact LeO.none _
   | refine LeO.ite ?_ ?_
   | refine LeO.bind ?_ (fun _ => ?_)
set_option maxHeartbeats 8000000 in
set_option maxRecDepth 100000 in
theorem api_Pin_int.calls (k : Nat) (A0 : Option Addr) (c0 : Nat) (l0 : List (S47)) (A1 : Option Addr) (c1 : Nat) (l1 : List Int) (a2 : Int) (r : Bool) (w : World) (hr0 : Kd.C k47 w A0 l0.length l0) (hc0 : l0.length ≤ c0) (hr1 : Kd.C (Kd.int .i64) w A1 l1.length l1) (hc1 : l1.length ≤ c1) (h : api_Pin_int.f k l0 l1 a2 = some r) :
  Calls Try.prog 30 #[.slice A0 l0.length c0, .slice A1 l1.length c1, .func (.func 28) #[] #[]] w fun e w' => e = .returned (.bool r) ∧ Below w.heap.size w w' := by
 have hu1 := Try.underlying47; have HR1 := aM hr0; have HC1 := aM hc0; clear hr0 hc0; have HR2 := aM hr1; have HC1 := aM hc1; clear hr1 hc1; have HB := aM (Below.refl w.heap.size w); have H : (if (l0.length : Int) = (l1.length : Int) then (api_Pin_int.l0 k l1 l0 (l0.length : Int) 0) else (some false)) = some r := h; clear h; by_cases c2 : (l0.length : Int) = (l1.length : Int)
 ·rw [if_pos c2] at H; obtain ⟨c1b0, c1b1⟩ := zeq c2; have c1b2 : (l0.length == l1.length) = true := by first | simpa using c2 | (simp at c2 ⊢; omega)
  clear c2; have H' := aM H; clear H; go_enter Try.func30, Try.ntmps30
  go_wp2
  go_loopg [17] k (fun kq v1 w' => ∃ (x1_1 : Int), v1 = .int .i64 x1_1 ∧ Aside0 (api_Pin_int.l0 kq l1 l0 (l0.length : Int) x1_1 = some r) ∧ Aside0 (kq ≤ k) ∧ Aside0 (Below w.heap.size w w'))
  case atStart => exact ⟨(0), q13z, H', ⟨Nat.le_refl _⟩, ⟨q4z HB⟩⟩
  case round =>
   clear H'; try clear c1
   try clear p2
   try clear c3
   try clear c2
   try clear c1b0
   try clear c1b1
   try clear c1b2
   obtain ⟨x1_1, rfl, HA, HK1, HB⟩ := hrel; cases gk with
   | zero => exact absurd HA.out (by simp [api_Pin_int.l0])
   | succ k1 =>
    have H := HA.out; clear HA; simp only [api_Pin_int.l0] at H; by_cases c4 : x1_1 < (l0.length : Int)
    ·rw [if_pos c4] at H; have c1b0 := decide_eq_true c4; clear c4; by_cases c5 : 0 ≤ x1_1
     ·rw [if_pos c5] at H; have c1b0 := decide_eq_true c5; clear c5; by_cases c6 : x1_1 < (l0.length : Int)
      ·rw [if_pos c6] at H; have c1b0 := decide_eq_true c6; clear c6; by_cases c7 : x1_1 < (l1.length : Int)
       ·rw [if_pos c7] at H; have c1b0 := decide_eq_true c7; clear c7; replace H := Option.bind_eq_some_iff.mp H; obtain ⟨t1, A2, H⟩ := H; have A3 := aM A2; clear A2; by_cases c8 : t1 = true
        ·subst c8; have H1 : (api_Pin_int.l0 k1 l1 l0 (l0.length : Int) (wrap64 (x1_1 + 1))) = some r := by rw [if_pos rfl] at H; exact H
         clear H; have H := H1; clear H1; have H' := aM H; clear H; have p1 : 0 ≤ (x1_1 : Int) := zod; have q1 : x1_1 < (l0.length : Int) := zod; obtain ⟨ad1, e1, hx1_0, hx1_1⟩ := at_T47 HR1.out x1_1 p1 q1; cases e1; replace hx1_0 := zx HB hx1_0; replace hx1_1 := zx HB hx1_1; replace p1 := eq_true p1; replace q1 := eq_true q1; go_wp2_with (first | ((with_reducible refine zgd 8 rfl ?_); refine zbox 8 #[.string (⟨#[]⟩ : ByteArray), .int .i64 0] 47 ?_; intro gb1 hg w1 hbox hb; have BK1 := aM (hbox); have GW1 := aM ((q7z HB : w.heap.size ≤ gb1)); have GE1 := aM ((q7z HB : w.heap.size ≤ gb1)); replace HB := aM (ym (q4z HB) hb); clear hb hbox hg; obtain ⟨i1_0, i1_1, j1_0, j1_1⟩ := cells2_44 BK1.out; have p1 : 0 ≤ (x1_1 : Int) := zod; have q1 : x1_1 < (l1.length : Int) := zod; obtain ⟨ad1, e1, hx1_0⟩ := Kd.at_int HR2.out x1_1 p1 q1; cases e1; have hn1_0 : ad1.block ≠ gb1 := Nat.ne_of_lt (Nat.lt_of_lt_of_le q49z GW1.out); have hn1_1 : ad1.block ≠ gb1 := Nat.ne_of_lt (Nat.lt_of_lt_of_le q49z GW1.out); replace hx1_0 := zx HB hx1_0; replace hx1_0 := (zf 0 hn1_0 (.string ((rd_T47 l0 x1_1).f0))).trans hx1_0; replace hx1_0 := (zf 1 hn1_1 (.int .i64 ((rd_T47 l0 x1_1).f1))).trans hx1_0; clear hn1_0 hn1_1; replace p1 := eq_true p1; replace q1 := eq_true q1) | (go_at_call 28; (with_reducible refine (net_Right_1.calls ((rd_T47 l0 x1_1).f0) ((rd_T47 l0 x1_1).f1) (rd l1 x1_1) true _ A3.out).mono ?_); rintro e w2 ⟨rfl, hb⟩; replace BK1 := aM (yi (g := gb1) (o := .cells #[.string ((rd_T47 l0 x1_1).f0), .int .i64 ((rd_T47 l0 x1_1).f1)] 47 (0, 0)) (q69z BK1) hb); replace HB := aM (ym (q3z HB GE1) hb); (try clear hb); (try clear hb2); (try clear hk); (try clear hi)))
         go_roundg k1
         case measure => have := HK1.out; omega
         case rel => exact ⟨(wrap64 (x1_1 + 1)), q13z, H', ⟨by have := HK1.out; omega⟩, ⟨q3z HB GE1⟩⟩
        ·replace c8 := Bool.eq_false_iff.mpr c8; subst c8; have H1 : (some false) = some r := by rw [if_neg (show ¬ (false = true) by decide)] at H; exact H
         clear H; have H := H1; clear H1; obtain rfl := Option.some.inj H; have p1 : 0 ≤ (x1_1 : Int) := zod; have q1 : x1_1 < (l0.length : Int) := zod; obtain ⟨ad1, e1, hx1_0, hx1_1⟩ := at_T47 HR1.out x1_1 p1 q1; cases e1; replace hx1_0 := zx HB hx1_0; replace hx1_1 := zx HB hx1_1; replace p1 := eq_true p1; replace q1 := eq_true q1; go_wp2_with (first | ((with_reducible refine zgd 8 rfl ?_); refine zbox 8 #[.string (⟨#[]⟩ : ByteArray), .int .i64 0] 47 ?_; intro gb1 hg w1 hbox hb; have BK1 := aM (hbox); have GW1 := aM ((q7z HB : w.heap.size ≤ gb1)); have GE1 := aM ((q7z HB : w.heap.size ≤ gb1)); replace HB := aM (ym (q4z HB) hb); clear hb hbox hg; obtain ⟨i1_0, i1_1, j1_0, j1_1⟩ := cells2_44 BK1.out; have p1 : 0 ≤ (x1_1 : Int) := zod; have q1 : x1_1 < (l1.length : Int) := zod; obtain ⟨ad1, e1, hx1_0⟩ := Kd.at_int HR2.out x1_1 p1 q1; cases e1; have hn1_0 : ad1.block ≠ gb1 := Nat.ne_of_lt (Nat.lt_of_lt_of_le q49z GW1.out); have hn1_1 : ad1.block ≠ gb1 := Nat.ne_of_lt (Nat.lt_of_lt_of_le q49z GW1.out); replace hx1_0 := zx HB hx1_0; replace hx1_0 := (zf 0 hn1_0 (.string ((rd_T47 l0 x1_1).f0))).trans hx1_0; replace hx1_0 := (zf 1 hn1_1 (.int .i64 ((rd_T47 l0 x1_1).f1))).trans hx1_0; clear hn1_0 hn1_1; replace p1 := eq_true p1; replace q1 := eq_true q1) | (go_at_call 28; (with_reducible refine (net_Right_1.calls ((rd_T47 l0 x1_1).f0) ((rd_T47 l0 x1_1).f1) (rd l1 x1_1) false _ A3.out).mono ?_); rintro e w2 ⟨rfl, hb⟩; replace BK1 := aM (yi (g := gb1) (o := .cells #[.string ((rd_T47 l0 x1_1).f0), .int .i64 ((rd_T47 l0 x1_1).f1)] 47 (0, 0)) (q69z BK1) hb); replace HB := aM (ym (q3z HB GE1) hb); (try clear hb); (try clear hb2); (try clear hk); (try clear hi)))
         go_ret
         exact ⟨q11z, q3z HB GE1⟩
       ·rw [if_neg c7] at H; exact absurd H (by simp)
      ·rw [if_neg c6] at H; exact absurd H (by simp)
     ·rw [if_neg c5] at H; exact absurd H (by simp)
    ·rw [if_neg c4] at H; have c1b0 := decide_eq_false c4; clear c4; obtain rfl := Option.some.inj H; go_wp2
     go_ret
     exact ⟨q11z, q4z HB⟩
 ·rw [if_neg c2] at H; obtain ⟨c1b0, c1b1⟩ := zne c2; have c1b2 : (l0.length == l1.length) = false := by first | simpa using c2 | (simp at c2 ⊢; omega)
  obtain rfl := Option.some.inj H; go_enter Try.func30, Try.ntmps30
  go_wp2
  go_ret
  exact ⟨q11z, q4z HB⟩
end Go.Proofs.Yteblbknmikieoaa.Xb
namespace Go.Proofs.Yteblbknmikieoaa.Xb
open Go.RowKit Go.Proofs.YteblbknmikieoaaW.PrintWords Go.Proofs.YteblbknmikieoaaW.PrintLast Go.Proofs.YteblbknmikieoaaW.PrintMore
attribute [local go_sem] max2_int min2_int max_two min_two max_three min_three max_four min_four
set_option linter.unusedVariables false
set_option linter.unusedSimpArgs false
theorem cells5_45 {w : World} {g : Nat} {t : TypeId} {x0 x1 x2 x3 x4 : Value} (h : w.heap[g]? = some (.cells #[x0, x1, x2, x3, x4] t (0, 0))) : w.cell? ⟨g, 0, none⟩ = some x0 ∧ w.cell? ⟨g, 1, none⟩ = some x1 ∧ w.cell? ⟨g, 2, none⟩ = some x2 ∧ w.cell? ⟨g, 3, none⟩ = some x3 ∧ w.cell? ⟨g, 4, none⟩ = some x4 ∧ w.frozen? ⟨g, 0, none⟩ = false ∧ w.frozen? ⟨g, 1, none⟩ = false ∧ w.frozen? ⟨g, 2, none⟩ = false ∧ w.frozen? ⟨g, 3, none⟩ = false ∧ w.frozen? ⟨g, 4, none⟩ = false := ⟨(blk_cell h 0).trans rfl, (blk_cell h 1).trans rfl, (blk_cell h 2).trans rfl, (blk_cell h 3).trans rfl, (blk_cell h 4).trans rfl, blk_frozen h 0, blk_frozen h 1, blk_frozen h 2, blk_frozen h 3, blk_frozen h 4⟩
theorem cells7_45 {w : World} {g : Nat} {t : TypeId} {x0 x1 x2 x3 x4 x5 x6 : Value} (h : w.heap[g]? = some (.cells #[x0, x1, x2, x3, x4, x5, x6] t (0, 0))) : w.cell? ⟨g, 0, none⟩ = some x0 ∧ w.cell? ⟨g, 1, none⟩ = some x1 ∧ w.cell? ⟨g, 2, none⟩ = some x2 ∧ w.cell? ⟨g, 3, none⟩ = some x3 ∧ w.cell? ⟨g, 4, none⟩ = some x4 ∧ w.cell? ⟨g, 5, none⟩ = some x5 ∧ w.cell? ⟨g, 6, none⟩ = some x6 ∧ w.frozen? ⟨g, 0, none⟩ = false ∧ w.frozen? ⟨g, 1, none⟩ = false ∧ w.frozen? ⟨g, 2, none⟩ = false ∧ w.frozen? ⟨g, 3, none⟩ = false ∧ w.frozen? ⟨g, 4, none⟩ = false ∧ w.frozen? ⟨g, 5, none⟩ = false ∧ w.frozen? ⟨g, 6, none⟩ = false := ⟨(blk_cell h 0).trans rfl, (blk_cell h 1).trans rfl, (blk_cell h 2).trans rfl, (blk_cell h 3).trans rfl, (blk_cell h 4).trans rfl, (blk_cell h 5).trans rfl, (blk_cell h 6).trans rfl, blk_frozen h 0, blk_frozen h 1, blk_frozen h 2, blk_frozen h 3, blk_frozen h 4, blk_frozen h 5, blk_frozen h 6⟩
def net_places.l0 : Nat → Int → List Int → List (S41) → Int → Int → Option (List Int)
 | 0, _, _, _, _, _ => none
 | k + 1, x1, x5, x9, x10, x11 => if x11 < x10 then (if 0 ≤ x11 then (if x11 < (x9.length : Int) then (if ((rd_T41 x9 x11).f0) = x1 then (if x5.length < 17592186044416 then (net_places.l0 k x1 (x5 ++ [x11]) x9 x10 (wrap64 (x11 + 1))) else (none)) else (net_places.l0 k x1 x5 x9 x10 (wrap64 (x11 + 1)))) else (none)) else (none)) else (some x5)
def net_places.f (k : Nat) (l0_0 : List (S41)) (l0_1 : List (S47)) (l0_2 : List (S43)) (l0_3 : List (S61)) (l0_4 : List (S47)) (a1 : Int) : Option (List Int) := net_places.l0 k a1 ([] : List Int) l0_0 (l0_0.length : Int) 0
theorem net_places.mono_l : ∀ k, (∀ y0 y1 y2 y3 y4, LeO (net_places.l0 k y0 y1 y2 y3 y4) (net_places.l0 (k + 1) y0 y1 y2 y3 y4))
 | 0 => fun _ _ _ _ _ r h => by simp [net_places.l0] at h
 | k + 1 => by
  have ih0 := net_places.mono_l k
  ·intro y0 y1 y2 y3 y4
   unfold net_places.l0
   repeat' first
   | (with_reducible exact ih0 _ _ _ _ _)
   | (with_reducible exact LeO.refl _)
   | (with_reducible exact LeO.none _)
   | (with_reducible refine LeO.ite ?_ ?_)
   | (with_reducible refine LeO.bind ?_ (fun _ => ?_))
   | exact ih0 _ _ _ _ _
   | exact LeO.none _
   | refine LeO.ite ?_ ?_
   | refine LeO.bind ?_ (fun _ => ?_)
theorem net_places.mono : ∀ a0 a1 a2 a3 a4 a5 k, LeO (net_places.f k a0 a1 a2 a3 a4 a5) (net_places.f (k + 1) a0 a1 a2 a3 a4 a5) := by
 intro a0 a1 a2 a3 a4 a5 k
 have ih1 := net_places.mono_l k; unfold net_places.f
 repeat' first
   | (with_reducible exact ih1 _ _ _ _ _)
   | (with_reducible exact LeO.refl _)
   | (with_reducible exact LeO.none _)
   | (with_reducible refine LeO.ite ?_ ?_)
   | (with_reducible refine LeO.bind ?_ (fun _ => ?_))
   | exact ih1 _ _ _ _ _
   | exact LeO.none _
   | refine LeO.ite ?_ ?_
   | refine LeO.bind ?_ (fun _ => ?_)
set_option maxHeartbeats 8000000 in
set_option maxRecDepth 100000 in
theorem net_places.calls (k : Nat) (A0_0 : Option Addr) (c0_0 : Nat) (l0_0 : List (S41)) (A0_1 : Option Addr) (c0_1 : Nat) (l0_1 : List (S47)) (A0_2 : Option Addr) (c0_2 : Nat) (l0_2 : List (S43)) (A0_3 : Option Addr) (c0_3 : Nat) (l0_3 : List (S61)) (A0_4 : Option Addr) (c0_4 : Nat) (l0_4 : List (S47)) (a1 : Int) (r : List Int) (w : World) (hr0_0 : Kd.C k41 w A0_0 l0_0.length l0_0) (hc0_0 : l0_0.length ≤ c0_0) (hr0_1 : Kd.C k47 w A0_1 l0_1.length l0_1) (hc0_1 : l0_1.length ≤ c0_1) (hr0_2 : Kd.C k43 w A0_2 l0_2.length l0_2) (hc0_2 : l0_2.length ≤ c0_2) (hr0_3 : Kd.C k61 w A0_3 l0_3.length l0_3) (hc0_3 : l0_3.length ≤ c0_3) (hr0_4 : Kd.C k47 w A0_4 l0_4.length l0_4) (hc0_4 : l0_4.length ≤ c0_4) (h : net_places.f k l0_0 l0_1 l0_2 l0_3 l0_4 a1 = some r) :
  Calls Try.prog 31 #[.agg #[.slice A0_0 l0_0.length c0_0, .slice A0_1 l0_1.length c0_1, .slice A0_2 l0_2.length c0_2, .slice A0_3 l0_3.length c0_3, .slice A0_4 l0_4.length c0_4], .int .i64 a1] w fun e w' => ∃ v0_ : Value, e = .returned (v0_) ∧ Kd.R (Kd.int .i64) 3 w' w.heap.size (fun _ => True) v0_ r ∧ Below w.heap.size w w' := by
 have hu1 := Try.underlying27; have hu1 := Try.underlying41; have HR1_0 := aM hr0_0; have HC1_0 := aM hc0_0; clear hr0_0 hc0_0; have HR1_1 := aM hr0_1; have HC1_1 := aM hc0_1; clear hr0_1 hc0_1; have HR1_2 := aM hr0_2; have HC1_2 := aM hc0_2; clear hr0_2 hc0_2; have HR1_3 := aM hr0_3; have HC1_3 := aM hc0_3; clear hr0_3 hc0_3; have HR1_4 := aM hr0_4; have HC1_4 := aM hc0_4; clear hr0_4 hc0_4; have HB := aM (Below.refl w.heap.size w); have H : (net_places.l0 k a1 ([] : List Int) l0_0 (l0_0.length : Int) 0) = some r := h; clear h; have H' := aM H; clear H; go_enter Try.func31, Try.ntmps31
 go_wp2_with (first | ((with_reducible refine zgd 2 rfl ?_); refine zbox 2 #[.slice A0_0 l0_0.length c0_0, .slice A0_1 l0_1.length c0_1, .slice A0_2 l0_2.length c0_2, .slice A0_3 l0_3.length c0_3, .slice A0_4 l0_4.length c0_4] 27 ?_; intro gb1 hg w1 hbox hb; have BK1 := aM (hbox); have GW1 := aM ((q7z HB : w.heap.size ≤ gb1)); have GE1 := aM ((q7z HB : w.heap.size ≤ gb1)); replace HB := aM (ym (q4z HB) hb); clear hb hbox hg; obtain ⟨i1_0, i1_1, i1_2, i1_3, i1_4, j1_0, j1_1, j1_2, j1_3, j1_4⟩ := cells5_45 BK1.out))
 go_loopg [5, 11] k (fun kq v1 v2 w' => ∃ (x1_1 : List Int) (x2_1 : Int), v2 = .int .i64 x2_1 ∧ Aside0 (net_places.l0 kq a1 x1_1 l0_0 (l0_0.length : Int) x2_1 = some r) ∧ Aside0 (kq ≤ k) ∧ Aside0 (Kd.R (Kd.int .i64) 3 w' w.heap.size (fun _ => True) v1 x1_1) ∧ Aside0 (w'.heap[gb1]? = some (.cells #[(.slice A0_0 l0_0.length c0_0), (.slice A0_1 l0_1.length c0_1), (.slice A0_2 l0_2.length c0_2), (.slice A0_3 l0_3.length c0_3), (.slice A0_4 l0_4.length c0_4)] 27 (0, 0))) ∧ Aside0 (Below w.heap.size w w'))
 case atStart => exact ⟨(([] : List Int)), (0), q13z, H', ⟨Nat.le_refl _⟩, ⟨q68z⟩, ⟨q10z BK1⟩, ⟨q3z HB GE1⟩⟩
 case round =>
  clear H'; try clear p2
  try clear c3
  try clear i1_0 i1_1 i1_2 i1_3 i1_4 j1_0 j1_1 j1_2 j1_3 j1_4
  obtain ⟨x1_1, x2_1, rfl, HA, HK1, HO_1, BK1, HB⟩ := hrel; cases gk with
  | zero => exact absurd HA.out (by simp [net_places.l0])
  | succ k1 =>
   have H := HA.out; clear HA; simp only [net_places.l0] at H; by_cases c1 : x2_1 < (l0_0.length : Int)
   ·rw [if_pos c1] at H; have c1b0 := decide_eq_true c1; clear c1; by_cases c2 : 0 ≤ x2_1
    ·rw [if_pos c2] at H; have c1b0 := decide_eq_true c2; clear c2; by_cases c4 : x2_1 < (l0_0.length : Int)
     ·rw [if_pos c4] at H; have c1b0 := decide_eq_true c4; clear c4; by_cases c5 : ((rd_T41 l0_0 x2_1).f0) = a1
      ·rw [if_pos c5] at H; obtain ⟨c1b0, c1b1⟩ := zeq c5; clear c5; by_cases c6 : x1_1.length < 17592186044416
       ·rw [if_pos c6] at H; have LMc1 := aM c6; clear c6; obtain ⟨y1, hy1⟩ : ∃ y_ : List Int, y_ = (x1_1 ++ [x2_1]) := ⟨_, rfl⟩; replace H : (net_places.l0 k1 a1 y1 l0_0 (l0_0.length : Int) (wrap64 (x2_1 + 1))) = some r := by first | (rw [hy1]; with_reducible exact H) | (have H1_ := (Option.bind_some _ _).symm.trans H; rw [hy1]; with_reducible exact H1_) | (have H1_ := (Option.bind_some _ _).symm.trans H; with_reducible exact H1_) | with_reducible exact H | (rw [hy1]; exact H) | exact H
        have Ny1 := aM hy1; clear hy1; have H' := aM H; clear H; have p1 : 0 ≤ (x2_1 : Int) := zod; have q1 : x2_1 < (l0_0.length : Int) := zod; obtain ⟨ad1, e1, hx1_0, hx1_1, hx1_2, hx1_3, hx1_4, hx1_5, hx1_6⟩ := at_T41 HR1_0.out x2_1 p1 q1; cases e1; replace hx1_0 := zx HB hx1_0; replace hx1_1 := zx HB hx1_1; replace hx1_2 := zx HB hx1_2; replace hx1_3 := zx HB hx1_3; replace hx1_4 := zx HB hx1_4; replace hx1_5 := zx HB hx1_5; replace hx1_6 := zx HB hx1_6; replace p1 := eq_true p1; replace q1 := eq_true q1; go_wp2_with (first | ((with_reducible refine zgd 7 rfl ?_); refine zbox 7 #[.int .i64 0, .int .i64 0, .int .i64 0, .int .i64 0, .int .i64 0, .int .i64 0, .int .i64 0] 41 ?_; intro gb2 hg w1 hbox hb; replace HO_1 := aM (yr (q2z HO_1) hb); have BK2 := aM (hbox); have GW1 := aM ((q14z HB GE1 : w.heap.size ≤ gb2)); have GE2 := aM ((q14z HB GE1 : w.heap.size ≤ gb2)); replace HB := aM (ym (q3z HB GE1) hb); have NB1_157 := aM ((q38z BK1 : gb1 ≠ gb2)); have NB1_155 := aM ((q39z BK1 : gb2 ≠ gb1)); replace BK1 := aM (yi (zi BK1) hb); clear hb hbox hg; have hnb1 := NB1_155.out; have hnc1 := NB1_157.out; obtain ⟨i1_0, i1_1, i1_2, i1_3, i1_4, i1_5, i1_6, j1_0, j1_1, j1_2, j1_3, j1_4, j1_5, j1_6⟩ := cells7_45 BK2.out) | ((with_reducible refine gate_builtin (b := .append) (xs := #[.tmp 20, .tmp 22]) rfl ?_); at_builtin; refine Kd.R_append (Kd.int .i64) (w0 := w) w.heap.size rfl (.tmp 20) (.tmp 22) 32 3 (.int .i64 0) 8 rfl Try.underlying32 info3 rfl (by decide) (by omega) u5 x1_1 x2_1 [.int .i64 x2_1] (fun _ => True) (fun _ => False) rfl q27z ?aP (fun _ hk => hk.elim) ?aF ?aO ?aB ?aS ?aL ?_; (case aP => exact rfl); (case aB => exact q76z HB GE1 GE2); (case aF => exact q94z); (case aO => exact (q46z HO_1 BK2)); (case aS => exact q73z HB GE1 GE2); (case aL => have := LMc1.out; omega); intro v1 w2 ho hb hg hat; rw [← Ny1.out] at ho; replace BK1 := aM (blk_grown (g := gb1) (o := .cells #[.slice (some ad1) l0_0.length c0_0, .slice A0_1 l0_1.length c0_1, .slice A0_2 l0_2.length c0_2, .slice A0_3 l0_3.length c0_3, .slice A0_4 l0_4.length c0_4] 27 (0, 0)) (q8z NB1_157 BK1) hg (Kd.R_ne HO_1.out BK1.out (by decide))); replace BK2 := aM (blk_grown (g := gb2) (o := .cells #[.int .i64 ((rd_T41 l0_0 x2_1).f0), .int .i64 ((rd_T41 l0_0 x2_1).f1), .int .i64 ((rd_T41 l0_0 x2_1).f2), .int .i64 ((rd_T41 l0_0 x2_1).f3), .int .i64 ((rd_T41 l0_0 x2_1).f4), .int .i64 ((rd_T41 l0_0 x2_1).f5), .int .i64 ((rd_T41 l0_0 x2_1).f6)] 41 (0, 0)) (by (with_reducible repeat (first | refine ya ?_ _ | refine yc ?_ | refine yb ?_ _)); refine ys (cs := #[.int .i64 ((rd_T41 l0_0 x2_1).f0), .int .i64 ((rd_T41 l0_0 x2_1).f1), .int .i64 ((rd_T41 l0_0 x2_1).f2), .int .i64 ((rd_T41 l0_0 x2_1).f3), .int .i64 ((rd_T41 l0_0 x2_1).f4), .int .i64 ((rd_T41 l0_0 x2_1).f5), .int .i64 0]) ?_ 6 _ rfl; (with_reducible repeat (first | refine ya ?_ _ | refine yc ?_ | refine yb ?_ _)); refine ys (cs := #[.int .i64 ((rd_T41 l0_0 x2_1).f0), .int .i64 ((rd_T41 l0_0 x2_1).f1), .int .i64 ((rd_T41 l0_0 x2_1).f2), .int .i64 ((rd_T41 l0_0 x2_1).f3), .int .i64 ((rd_T41 l0_0 x2_1).f4), .int .i64 0, .int .i64 0]) ?_ 5 _ rfl; (with_reducible repeat (first | refine ya ?_ _ | refine yc ?_ | refine yb ?_ _)); refine ys (cs := #[.int .i64 ((rd_T41 l0_0 x2_1).f0), .int .i64 ((rd_T41 l0_0 x2_1).f1), .int .i64 ((rd_T41 l0_0 x2_1).f2), .int .i64 ((rd_T41 l0_0 x2_1).f3), .int .i64 0, .int .i64 0, .int .i64 0]) ?_ 4 _ rfl; (with_reducible repeat (first | refine ya ?_ _ | refine yc ?_ | refine yb ?_ _)); refine ys (cs := #[.int .i64 ((rd_T41 l0_0 x2_1).f0), .int .i64 ((rd_T41 l0_0 x2_1).f1), .int .i64 ((rd_T41 l0_0 x2_1).f2), .int .i64 0, .int .i64 0, .int .i64 0, .int .i64 0]) ?_ 3 _ rfl; (with_reducible repeat (first | refine ya ?_ _ | refine yc ?_ | refine yb ?_ _)); refine ys (cs := #[.int .i64 ((rd_T41 l0_0 x2_1).f0), .int .i64 ((rd_T41 l0_0 x2_1).f1), .int .i64 0, .int .i64 0, .int .i64 0, .int .i64 0, .int .i64 0]) ?_ 2 _ rfl; (with_reducible repeat (first | refine ya ?_ _ | refine yc ?_ | refine yb ?_ _)); refine ys (cs := #[.int .i64 ((rd_T41 l0_0 x2_1).f0), .int .i64 0, .int .i64 0, .int .i64 0, .int .i64 0, .int .i64 0, .int .i64 0]) ?_ 1 _ rfl; (with_reducible repeat (first | refine ya ?_ _ | refine yc ?_ | refine yb ?_ _)); refine ys (cs := #[.int .i64 0, .int .i64 0, .int .i64 0, .int .i64 0, .int .i64 0, .int .i64 0, .int .i64 0]) ?_ 0 _ rfl; (with_reducible repeat (first | refine ya ?_ _ | refine yc ?_ | refine yb ?_ _)); exact BK2.out) hg (Kd.R_ne HO_1.out BK2.out (by decide))); replace HB := aM (hb); have HO1 := aM (ho); clear HO_1; clear ho hb hg hat))
        go_roundg k1
        case measure => have := HK1.out; omega
        case rel => exact ⟨(y1), (wrap64 (x2_1 + 1)), q13z, H', ⟨by have := HK1.out; omega⟩, ⟨q2z HO1⟩, ⟨q10z BK1⟩, ⟨q5z HB GE1 GE2⟩⟩
       ·rw [if_neg c6] at H; exact absurd H (by simp)
      ·rw [if_neg c5] at H; obtain ⟨c1b0, c1b1⟩ := zne c5; have H' := aM H; clear H; have p1 : 0 ≤ (x2_1 : Int) := zod; have q1 : x2_1 < (l0_0.length : Int) := zod; obtain ⟨ad1, e1, hx1_0, hx1_1, hx1_2, hx1_3, hx1_4, hx1_5, hx1_6⟩ := at_T41 HR1_0.out x2_1 p1 q1; cases e1; replace hx1_0 := zx HB hx1_0; replace hx1_1 := zx HB hx1_1; replace hx1_2 := zx HB hx1_2; replace hx1_3 := zx HB hx1_3; replace hx1_4 := zx HB hx1_4; replace hx1_5 := zx HB hx1_5; replace hx1_6 := zx HB hx1_6; replace p1 := eq_true p1; replace q1 := eq_true q1; go_wp2_with (first | ((with_reducible refine zgd 7 rfl ?_); refine zbox 7 #[.int .i64 0, .int .i64 0, .int .i64 0, .int .i64 0, .int .i64 0, .int .i64 0, .int .i64 0] 41 ?_; intro gb2 hg w1 hbox hb; replace HO_1 := aM (yr (q2z HO_1) hb); have BK2 := aM (hbox); have GW1 := aM ((q14z HB GE1 : w.heap.size ≤ gb2)); have GE2 := aM ((q14z HB GE1 : w.heap.size ≤ gb2)); replace HB := aM (ym (q3z HB GE1) hb); have NB1_157 := aM ((q38z BK1 : gb1 ≠ gb2)); have NB1_155 := aM ((q39z BK1 : gb2 ≠ gb1)); replace BK1 := aM (yi (zi BK1) hb); clear hb hbox hg; have hnb1 := NB1_155.out; have hnc1 := NB1_157.out; obtain ⟨i1_0, i1_1, i1_2, i1_3, i1_4, i1_5, i1_6, j1_0, j1_1, j1_2, j1_3, j1_4, j1_5, j1_6⟩ := cells7_45 BK2.out))
       go_roundg k1
       case measure => have := HK1.out; omega
       case rel => exact ⟨(x1_1), (wrap64 (x2_1 + 1)), q13z, H', ⟨by have := HK1.out; omega⟩, ⟨q46z HO_1 BK2⟩, ⟨q8z NB1_157 BK1⟩, ⟨q5z HB GE1 GE2⟩⟩
     ·rw [if_neg c4] at H; exact absurd H (by simp)
    ·rw [if_neg c2] at H; exact absurd H (by simp)
   ·rw [if_neg c1] at H; have c1b0 := decide_eq_false c1; clear c1; obtain rfl := Option.some.inj H; go_wp2
    go_ret
    exact ⟨_, q11z, q2z HO_1, q3z HB GE1⟩
end Go.Proofs.Yteblbknmikieoaa.Xb
namespace Go.Proofs.Yteblbknmikieoaa.Xb
open Go.RowKit Go.Proofs.YteblbknmikieoaaW.PrintWords Go.Proofs.YteblbknmikieoaaW.PrintLast Go.Proofs.YteblbknmikieoaaW.PrintMore
attribute [local go_sem] max2_int min2_int max_two min_two max_three min_three max_four min_four
set_option linter.unusedVariables false
set_option linter.unusedSimpArgs false
theorem cells4_46 {w : World} {g : Nat} {t : TypeId} {x0 x1 x2 x3 : Value} (h : w.heap[g]? = some (.cells #[x0, x1, x2, x3] t (0, 0))) : w.cell? ⟨g, 0, none⟩ = some x0 ∧ w.cell? ⟨g, 1, none⟩ = some x1 ∧ w.cell? ⟨g, 2, none⟩ = some x2 ∧ w.cell? ⟨g, 3, none⟩ = some x3 ∧ w.frozen? ⟨g, 0, none⟩ = false ∧ w.frozen? ⟨g, 1, none⟩ = false ∧ w.frozen? ⟨g, 2, none⟩ = false ∧ w.frozen? ⟨g, 3, none⟩ = false := ⟨(blk_cell h 0).trans rfl, (blk_cell h 1).trans rfl, (blk_cell h 2).trans rfl, (blk_cell h 3).trans rfl, blk_frozen h 0, blk_frozen h 1, blk_frozen h 2, blk_frozen h 3⟩
def api_Cell_int.l0 : Nat → List Int → List (S43) → Int → Int → Option (Bool)
 | 0, _, _, _, _ => none
 | k + 1, x1, x15, x16, x17 => if x17 < x16 then (if 0 ≤ x17 then (if x17 < (x15.length : Int) then (if x17 < (x1.length : Int) then ((net_Right_2.f ((rd_T43 x15 x17).f0) ((rd_T43 x15 x17).f1) ((rd_T43 x15 x17).f2) ((rd_T43 x15 x17).f3) (rd x1 x17)).bind fun t164 => (if t164 = true then (api_Cell_int.l0 k x1 x15 x16 (wrap64 (x17 + 1))) else (some false))) else (none)) else (none)) else (none)) else (some true)
def api_Cell_int.f (k : Nat) (l0 : List (S43)) (l1 : List Int) (a2 : Int) : Option (Bool) := if (l0.length : Int) = (l1.length : Int) then (api_Cell_int.l0 k l1 l0 (l0.length : Int) 0) else (some false)
theorem api_Cell_int.mono_l : ∀ k, (∀ y0 y1 y2 y3, LeO (api_Cell_int.l0 k y0 y1 y2 y3) (api_Cell_int.l0 (k + 1) y0 y1 y2 y3))
 | 0 => fun _ _ _ _ r h => by simp [api_Cell_int.l0] at h
 | k + 1 => by
  have ih0 := api_Cell_int.mono_l k
  ·intro y0 y1 y2 y3
   unfold api_Cell_int.l0
   repeat' first
   | (with_reducible exact ih0 _ _ _ _)
   | (with_reducible exact LeO.refl _)
   | (with_reducible exact LeO.none _)
   | (with_reducible refine LeO.ite ?_ ?_)
   | (with_reducible refine LeO.bind ?_ (fun _ => ?_))
   | exact ih0 _ _ _ _
   | exact LeO.none _
   | refine LeO.ite ?_ ?_
   | refine LeO.bind ?_ (fun _ => ?_)
theorem api_Cell_int.mono : ∀ a0 a1 a2 k, LeO (api_Cell_int.f k a0 a1 a2) (api_Cell_int.f (k + 1) a0 a1 a2) := by
 intro a0 a1 a2 k
 have ih1 := api_Cell_int.mono_l k; unfold api_Cell_int.f
 repeat' first
   | (with_reducible exact ih1 _ _ _ _)
   | (with_reducible exact LeO.refl _)
   | (with_reducible exact LeO.none _)
   | (with_reducible refine LeO.ite ?_ ?_)
   | (with_reducible refine LeO.bind ?_ (fun _ => ?_))
   | exact ih1 _ _ _ _
   | exact LeO.none _
   | refine LeO.ite ?_ ?_
   | refine LeO.bind ?_ (fun _ => ?_)
set_option maxHeartbeats 8000000 in
set_option maxRecDepth 100000 in
theorem api_Cell_int.calls (k : Nat) (A0 : Option Addr) (c0 : Nat) (l0 : List (S43)) (A1 : Option Addr) (c1 : Nat) (l1 : List Int) (a2 : Int) (r : Bool) (w : World) (hr0 : Kd.C k43 w A0 l0.length l0) (hc0 : l0.length ≤ c0) (hr1 : Kd.C (Kd.int .i64) w A1 l1.length l1) (hc1 : l1.length ≤ c1) (h : api_Cell_int.f k l0 l1 a2 = some r) :
  Calls Try.prog 32 #[.slice A0 l0.length c0, .slice A1 l1.length c1, .func (.func 29) #[] #[]] w fun e w' => e = .returned (.bool r) ∧ Below w.heap.size w w' := by
 have hu1 := Try.underlying43; have HR1 := aM hr0; have HC1 := aM hc0; clear hr0 hc0; have HR2 := aM hr1; have HC1 := aM hc1; clear hr1 hc1; have HB := aM (Below.refl w.heap.size w); have H : (if (l0.length : Int) = (l1.length : Int) then (api_Cell_int.l0 k l1 l0 (l0.length : Int) 0) else (some false)) = some r := h; clear h; by_cases c2 : (l0.length : Int) = (l1.length : Int)
 ·rw [if_pos c2] at H; obtain ⟨c1b0, c1b1⟩ := zeq c2; have c1b2 : (l0.length == l1.length) = true := by first | simpa using c2 | (simp at c2 ⊢; omega)
  clear c2; have H' := aM H; clear H; go_enter Try.func32, Try.ntmps32
  go_wp2
  go_loopg [17] k (fun kq v1 w' => ∃ (x1_1 : Int), v1 = .int .i64 x1_1 ∧ Aside0 (api_Cell_int.l0 kq l1 l0 (l0.length : Int) x1_1 = some r) ∧ Aside0 (kq ≤ k) ∧ Aside0 (Below w.heap.size w w'))
  case atStart => exact ⟨(0), q13z, H', ⟨Nat.le_refl _⟩, ⟨q4z HB⟩⟩
  case round =>
   clear H'; try clear c1
   try clear p2
   try clear c3
   try clear c2
   try clear c1b0
   try clear c1b1
   try clear c1b2
   obtain ⟨x1_1, rfl, HA, HK1, HB⟩ := hrel; cases gk with
   | zero => exact absurd HA.out (by simp [api_Cell_int.l0])
   | succ k1 =>
    have H := HA.out; clear HA; simp only [api_Cell_int.l0] at H; by_cases c4 : x1_1 < (l0.length : Int)
    ·rw [if_pos c4] at H; have c1b0 := decide_eq_true c4; clear c4; by_cases c5 : 0 ≤ x1_1
     ·rw [if_pos c5] at H; have c1b0 := decide_eq_true c5; clear c5; by_cases c6 : x1_1 < (l0.length : Int)
      ·rw [if_pos c6] at H; have c1b0 := decide_eq_true c6; clear c6; by_cases c7 : x1_1 < (l1.length : Int)
       ·rw [if_pos c7] at H; have c1b0 := decide_eq_true c7; clear c7; replace H := Option.bind_eq_some_iff.mp H; obtain ⟨t1, A2, H⟩ := H; have A3 := aM A2; clear A2; by_cases c8 : t1 = true
        ·subst c8; have H1 : (api_Cell_int.l0 k1 l1 l0 (l0.length : Int) (wrap64 (x1_1 + 1))) = some r := by rw [if_pos rfl] at H; exact H
         clear H; have H := H1; clear H1; have H' := aM H; clear H; have p1 : 0 ≤ (x1_1 : Int) := zod; have q1 : x1_1 < (l0.length : Int) := zod; obtain ⟨ad1, e1, hx1_0, hx1_1, hx1_2, hx1_3⟩ := at_T43 HR1.out x1_1 p1 q1; cases e1; replace hx1_0 := zx HB hx1_0; replace hx1_1 := zx HB hx1_1; replace hx1_2 := zx HB hx1_2; replace hx1_3 := zx HB hx1_3; replace p1 := eq_true p1; replace q1 := eq_true q1; go_wp2_with (first | ((with_reducible refine zgd 8 rfl ?_); refine zbox 8 #[.string (⟨#[]⟩ : ByteArray), .int .i64 0, .int .i64 0, .int .i64 0] 43 ?_; intro gb1 hg w1 hbox hb; have BK1 := aM (hbox); have GW1 := aM ((q7z HB : w.heap.size ≤ gb1)); have GE1 := aM ((q7z HB : w.heap.size ≤ gb1)); replace HB := aM (ym (q4z HB) hb); clear hb hbox hg; obtain ⟨i1_0, i1_1, i1_2, i1_3, j1_0, j1_1, j1_2, j1_3⟩ := cells4_46 BK1.out; have p1 : 0 ≤ (x1_1 : Int) := zod; have q1 : x1_1 < (l1.length : Int) := zod; obtain ⟨ad1, e1, hx1_0⟩ := Kd.at_int HR2.out x1_1 p1 q1; cases e1; have hn1_0 : ad1.block ≠ gb1 := Nat.ne_of_lt (Nat.lt_of_lt_of_le q49z GW1.out); have hn1_1 : ad1.block ≠ gb1 := Nat.ne_of_lt (Nat.lt_of_lt_of_le q49z GW1.out); have hn1_2 : ad1.block ≠ gb1 := Nat.ne_of_lt (Nat.lt_of_lt_of_le q49z GW1.out); have hn1_3 : ad1.block ≠ gb1 := Nat.ne_of_lt (Nat.lt_of_lt_of_le q49z GW1.out); replace hx1_0 := zx HB hx1_0; replace hx1_0 := (zf 0 hn1_0 (.string ((rd_T43 l0 x1_1).f0))).trans hx1_0; replace hx1_0 := (zf 1 hn1_1 (.int .i64 ((rd_T43 l0 x1_1).f1))).trans hx1_0; replace hx1_0 := (zf 2 hn1_2 (.int .i64 ((rd_T43 l0 x1_1).f2))).trans hx1_0; replace hx1_0 := (zf 3 hn1_3 (.int .i64 ((rd_T43 l0 x1_1).f3))).trans hx1_0; clear hn1_0 hn1_1 hn1_2 hn1_3; replace p1 := eq_true p1; replace q1 := eq_true q1) | (go_at_call 29; (with_reducible refine (net_Right_2.calls ((rd_T43 l0 x1_1).f0) ((rd_T43 l0 x1_1).f1) ((rd_T43 l0 x1_1).f2) ((rd_T43 l0 x1_1).f3) (rd l1 x1_1) true _ A3.out).mono ?_); rintro e w2 ⟨rfl, hb⟩; replace BK1 := aM (yi (g := gb1) (o := .cells #[.string ((rd_T43 l0 x1_1).f0), .int .i64 ((rd_T43 l0 x1_1).f1), .int .i64 ((rd_T43 l0 x1_1).f2), .int .i64 ((rd_T43 l0 x1_1).f3)] 43 (0, 0)) (q37z BK1) hb); replace HB := aM (ym (q3z HB GE1) hb); (try clear hb); (try clear hb2); (try clear hk); (try clear hi)))
         go_roundg k1
         case measure => have := HK1.out; omega
         case rel => exact ⟨(wrap64 (x1_1 + 1)), q13z, H', ⟨by have := HK1.out; omega⟩, ⟨q3z HB GE1⟩⟩
        ·replace c8 := Bool.eq_false_iff.mpr c8; subst c8; have H1 : (some false) = some r := by rw [if_neg (show ¬ (false = true) by decide)] at H; exact H
         clear H; have H := H1; clear H1; obtain rfl := Option.some.inj H; have p1 : 0 ≤ (x1_1 : Int) := zod; have q1 : x1_1 < (l0.length : Int) := zod; obtain ⟨ad1, e1, hx1_0, hx1_1, hx1_2, hx1_3⟩ := at_T43 HR1.out x1_1 p1 q1; cases e1; replace hx1_0 := zx HB hx1_0; replace hx1_1 := zx HB hx1_1; replace hx1_2 := zx HB hx1_2; replace hx1_3 := zx HB hx1_3; replace p1 := eq_true p1; replace q1 := eq_true q1; go_wp2_with (first | ((with_reducible refine zgd 8 rfl ?_); refine zbox 8 #[.string (⟨#[]⟩ : ByteArray), .int .i64 0, .int .i64 0, .int .i64 0] 43 ?_; intro gb1 hg w1 hbox hb; have BK1 := aM (hbox); have GW1 := aM ((q7z HB : w.heap.size ≤ gb1)); have GE1 := aM ((q7z HB : w.heap.size ≤ gb1)); replace HB := aM (ym (q4z HB) hb); clear hb hbox hg; obtain ⟨i1_0, i1_1, i1_2, i1_3, j1_0, j1_1, j1_2, j1_3⟩ := cells4_46 BK1.out; have p1 : 0 ≤ (x1_1 : Int) := zod; have q1 : x1_1 < (l1.length : Int) := zod; obtain ⟨ad1, e1, hx1_0⟩ := Kd.at_int HR2.out x1_1 p1 q1; cases e1; have hn1_0 : ad1.block ≠ gb1 := Nat.ne_of_lt (Nat.lt_of_lt_of_le q49z GW1.out); have hn1_1 : ad1.block ≠ gb1 := Nat.ne_of_lt (Nat.lt_of_lt_of_le q49z GW1.out); have hn1_2 : ad1.block ≠ gb1 := Nat.ne_of_lt (Nat.lt_of_lt_of_le q49z GW1.out); have hn1_3 : ad1.block ≠ gb1 := Nat.ne_of_lt (Nat.lt_of_lt_of_le q49z GW1.out); replace hx1_0 := zx HB hx1_0; replace hx1_0 := (zf 0 hn1_0 (.string ((rd_T43 l0 x1_1).f0))).trans hx1_0; replace hx1_0 := (zf 1 hn1_1 (.int .i64 ((rd_T43 l0 x1_1).f1))).trans hx1_0; replace hx1_0 := (zf 2 hn1_2 (.int .i64 ((rd_T43 l0 x1_1).f2))).trans hx1_0; replace hx1_0 := (zf 3 hn1_3 (.int .i64 ((rd_T43 l0 x1_1).f3))).trans hx1_0; clear hn1_0 hn1_1 hn1_2 hn1_3; replace p1 := eq_true p1; replace q1 := eq_true q1) | (go_at_call 29; (with_reducible refine (net_Right_2.calls ((rd_T43 l0 x1_1).f0) ((rd_T43 l0 x1_1).f1) ((rd_T43 l0 x1_1).f2) ((rd_T43 l0 x1_1).f3) (rd l1 x1_1) false _ A3.out).mono ?_); rintro e w2 ⟨rfl, hb⟩; replace BK1 := aM (yi (g := gb1) (o := .cells #[.string ((rd_T43 l0 x1_1).f0), .int .i64 ((rd_T43 l0 x1_1).f1), .int .i64 ((rd_T43 l0 x1_1).f2), .int .i64 ((rd_T43 l0 x1_1).f3)] 43 (0, 0)) (q37z BK1) hb); replace HB := aM (ym (q3z HB GE1) hb); (try clear hb); (try clear hb2); (try clear hk); (try clear hi)))
         go_ret
         exact ⟨q11z, q3z HB GE1⟩
       ·rw [if_neg c7] at H; exact absurd H (by simp)
      ·rw [if_neg c6] at H; exact absurd H (by simp)
     ·rw [if_neg c5] at H; exact absurd H (by simp)
    ·rw [if_neg c4] at H; have c1b0 := decide_eq_false c4; clear c4; obtain rfl := Option.some.inj H; go_wp2
     go_ret
     exact ⟨q11z, q4z HB⟩
 ·rw [if_neg c2] at H; obtain ⟨c1b0, c1b1⟩ := zne c2; have c1b2 : (l0.length == l1.length) = false := by first | simpa using c2 | (simp at c2 ⊢; omega)
  obtain rfl := Option.some.inj H; go_enter Try.func32, Try.ntmps32
  go_wp2
  go_ret
  exact ⟨q11z, q4z HB⟩
end Go.Proofs.Yteblbknmikieoaa.Xb
namespace Go.Proofs.Yteblbknmikieoaa.Xb
open Go.RowKit Go.Proofs.YteblbknmikieoaaW.PrintWords Go.Proofs.YteblbknmikieoaaW.PrintLast Go.Proofs.YteblbknmikieoaaW.PrintMore
attribute [local go_sem] max2_int min2_int max_two min_two max_three min_three max_four min_four
set_option linter.unusedVariables false
set_option linter.unusedSimpArgs false
theorem cells4_47 {w : World} {g : Nat} {t : TypeId} {x0 x1 x2 x3 : Value} (h : w.heap[g]? = some (.cells #[x0, x1, x2, x3] t (0, 0))) : w.cell? ⟨g, 0, none⟩ = some x0 ∧ w.cell? ⟨g, 1, none⟩ = some x1 ∧ w.cell? ⟨g, 2, none⟩ = some x2 ∧ w.cell? ⟨g, 3, none⟩ = some x3 ∧ w.frozen? ⟨g, 0, none⟩ = false ∧ w.frozen? ⟨g, 1, none⟩ = false ∧ w.frozen? ⟨g, 2, none⟩ = false ∧ w.frozen? ⟨g, 3, none⟩ = false := ⟨(blk_cell h 0).trans rfl, (blk_cell h 1).trans rfl, (blk_cell h 2).trans rfl, (blk_cell h 3).trans rfl, blk_frozen h 0, blk_frozen h 1, blk_frozen h 2, blk_frozen h 3⟩
theorem cells5_47 {w : World} {g : Nat} {t : TypeId} {x0 x1 x2 x3 x4 : Value} (h : w.heap[g]? = some (.cells #[x0, x1, x2, x3, x4] t (0, 0))) : w.cell? ⟨g, 0, none⟩ = some x0 ∧ w.cell? ⟨g, 1, none⟩ = some x1 ∧ w.cell? ⟨g, 2, none⟩ = some x2 ∧ w.cell? ⟨g, 3, none⟩ = some x3 ∧ w.cell? ⟨g, 4, none⟩ = some x4 ∧ w.frozen? ⟨g, 0, none⟩ = false ∧ w.frozen? ⟨g, 1, none⟩ = false ∧ w.frozen? ⟨g, 2, none⟩ = false ∧ w.frozen? ⟨g, 3, none⟩ = false ∧ w.frozen? ⟨g, 4, none⟩ = false := ⟨(blk_cell h 0).trans rfl, (blk_cell h 1).trans rfl, (blk_cell h 2).trans rfl, (blk_cell h 3).trans rfl, (blk_cell h 4).trans rfl, blk_frozen h 0, blk_frozen h 1, blk_frozen h 2, blk_frozen h 3, blk_frozen h 4⟩
mutual
def net_cells.l0 : Nat → Int → List (S43) → Int → Int → List (S41) → List (S47) → List (S43) → List (S61) → List (S47) → Option (Bool)
 | 0, _, _, _, _, _, _, _, _, _ => none
 | k + 1, x3, x8, x9, x10, x166000, x166001, x166002, x166003, x166004 => if x10 < x9 then (if 0 ≤ x10 then (if x10 < (x8.length : Int) then (if 0 ≤ ((rd_T43 x8 x10).f1) then (if ((rd_T43 x8 x10).f1) < (x166000.length : Int) then ((net_width.f x166000 x166001 x166002 x166003 x166004 ((rd_T43 x8 x10).f2) (x166000.length : Int)).bind fun t169 => (if t169 = ((rd_T41 x166000 ((rd_T43 x8 x10).f1)).f1) then (if ((rd_T43 x8 x10).f3) < 0 then (net_cells.j1 k (wrap64 (x3 + ((rd_T41 x166000 ((rd_T43 x8 x10).f1)).f1))) x8 x9 x10 true x166000 x166001 x166002 x166003 x166004) else ((vec_Mask.f ((rd_T41 x166000 ((rd_T43 x8 x10).f1)).f1)).bind fun t170 => (net_cells.j1 k (wrap64 (x3 + ((rd_T41 x166000 ((rd_T43 x8 x10).f1)).f1))) x8 x9 x10 (decide (((rd_T43 x8 x10).f3) > t170)) x166000 x166001 x166002 x166003 x166004))) else (net_cells.j1 k (wrap64 (x3 + ((rd_T41 x166000 ((rd_T43 x8 x10).f1)).f1))) x8 x9 x10 true x166000 x166001 x166002 x166003 x166004))) else (none)) else (none)) else (none)) else (none)) else (some (decide (x3 ≤ 256)))
def net_cells.j1 : Nat → Int → List (S43) → Int → Int → Bool → List (S41) → List (S47) → List (S43) → List (S61) → List (S47) → Option (Bool)
 | 0, _, _, _, _, _, _, _, _, _, _ => none
 | k + 1, x3, x8, x9, x10, x44, x166000, x166001, x166002, x166003, x166004 => if x44 = true then (some false) else (net_cells.l0 k x3 x8 x9 (wrap64 (x10 + 1)) x166000 x166001 x166002 x166003 x166004)
end
def net_cells.f (k : Nat) (l0_0 : List (S41)) (l0_1 : List (S47)) (l0_2 : List (S43)) (l0_3 : List (S61)) (l0_4 : List (S47)) : Option (Bool) := net_cells.l0 k 0 l0_2 (l0_2.length : Int) 0 l0_0 l0_1 l0_2 l0_3 l0_4
theorem net_cells.mono_l : ∀ k, (∀ y0 y1 y2 y3 y4 y5 y6 y7 y8, LeO (net_cells.l0 k y0 y1 y2 y3 y4 y5 y6 y7 y8) (net_cells.l0 (k + 1) y0 y1 y2 y3 y4 y5 y6 y7 y8)) ∧ (∀ y0 y1 y2 y3 y4 y5 y6 y7 y8 y9, LeO (net_cells.j1 k y0 y1 y2 y3 y4 y5 y6 y7 y8 y9) (net_cells.j1 (k + 1) y0 y1 y2 y3 y4 y5 y6 y7 y8 y9))
 | 0 => ⟨fun _ _ _ _ _ _ _ _ _ r h => by simp [net_cells.l0] at h, fun _ _ _ _ _ _ _ _ _ _ r h => by simp [net_cells.j1] at h⟩
 | k + 1 => by
  obtain ⟨ih0, ih1⟩ := net_cells.mono_l k; refine ⟨?_, ?_⟩
  ·intro y0 y1 y2 y3 y4 y5 y6 y7 y8
   unfold net_cells.l0
   repeat' first
   | (with_reducible exact ih0 _ _ _ _ _ _ _ _ _)
   | (with_reducible exact ih1 _ _ _ _ _ _ _ _ _ _)
   | (with_reducible exact LeO.refl _)
   | (with_reducible exact LeO.none _)
   | (with_reducible refine LeO.ite ?_ ?_)
   | (with_reducible refine LeO.bind ?_ (fun _ => ?_))
   | exact ih0 _ _ _ _ _ _ _ _ _
   | exact ih1 _ _ _ _ _ _ _ _ _ _
   | exact LeO.none _
   | refine LeO.ite ?_ ?_
   | refine LeO.bind ?_ (fun _ => ?_)
  ·intro y0 y1 y2 y3 y4 y5 y6 y7 y8 y9
   unfold net_cells.j1
   repeat' first
   | (with_reducible exact ih0 _ _ _ _ _ _ _ _ _)
   | (with_reducible exact ih1 _ _ _ _ _ _ _ _ _ _)
   | (with_reducible exact LeO.refl _)
   | (with_reducible exact LeO.none _)
   | (with_reducible refine LeO.ite ?_ ?_)
   | (with_reducible refine LeO.bind ?_ (fun _ => ?_))
   | exact ih0 _ _ _ _ _ _ _ _ _
   | exact ih1 _ _ _ _ _ _ _ _ _ _
   | exact LeO.none _
   | refine LeO.ite ?_ ?_
   | refine LeO.bind ?_ (fun _ => ?_)
theorem net_cells.mono : ∀ a0 a1 a2 a3 a4 k, LeO (net_cells.f k a0 a1 a2 a3 a4) (net_cells.f (k + 1) a0 a1 a2 a3 a4) := by
 intro a0 a1 a2 a3 a4 k
 obtain ⟨ih1, ih2⟩ := net_cells.mono_l k; unfold net_cells.f
 repeat' first
   | (with_reducible exact ih1 _ _ _ _ _ _ _ _ _)
   | (with_reducible exact ih2 _ _ _ _ _ _ _ _ _ _)
   | (with_reducible exact LeO.refl _)
   | (with_reducible exact LeO.none _)
   | (with_reducible refine LeO.ite ?_ ?_)
   | (with_reducible refine LeO.bind ?_ (fun _ => ?_))
   | exact ih1 _ _ _ _ _ _ _ _ _
   | exact ih2 _ _ _ _ _ _ _ _ _ _
   | exact LeO.none _
   | refine LeO.ite ?_ ?_
   | refine LeO.bind ?_ (fun _ => ?_)
def net_cells.T7 : Bool × List (List Nat × List Nat) := (true, [([], []), ([], []), ([1], [1]), ([], []), ([3], [3]), ([4], [4]), ([0, 2, 5], [0, 2, 5]), ([], []), ([6, 7], [6, 7]), ([8, 6], [8]), ([9], [9]), ([10, 9], [9, 10]), ([11, 9], [9, 11]), ([9, 12], [9, 12]), ([13, 9], [13]), ([14], [14]), ([15, 14], [14, 15]), ([14], [14]), ([17, 14, 14], [14, 17]), ([16, 18, 14], [14, 16, 18]), ([14, 19], [14, 19])])
def net_cells.B7 : List Nat := [0, 0, 2, 0, 8, 24, 63, 0, 255, 511, 1023, 2047, 4095, 8191, 16383, 32767, 65535, 32767, 163839, 524287, 1048575]
theorem net_cells.tab7 : rtab .any (opsOf Try.f33 7) = net_cells.T7 := by kernel_rfl
theorem net_cells.bits7 : waitsOk net_cells.T7.2 net_cells.B7 = true := by kernel_rfl
theorem z47_1 {P : Prop} (h : P := by
 refine zpu 13 37 (zb 21 16383) ?_; refine zpu 14 38 (zb 21 32767) ?_; refine zpn 15 39 (zb 21 65535) ?_; refine zpn 16 40 (zb 21 131071) ?_; refine zpn 17 41 (zb 21 262143) ?_; refine zpn 18 42 (zb 21 524287) ?_; refine zpn 19 43 (zb 21 1048575) ?_; refine zpu 20 44 (zb 21 2097151) ?_; refine zdo ?_; try go_wp2
 go_meet
 case rel => exact ⟨_, (true), q13z, H', ⟨q55z HK1⟩, ⟨q10z BK1⟩, ⟨q10z BK2⟩, ⟨q5z HB GE1 GE2⟩⟩) : P := h
set_option maxHeartbeats 8000000 in
set_option maxRecDepth 100000 in
theorem net_cells.calls (k : Nat) (A0_0 : Option Addr) (c0_0 : Nat) (l0_0 : List (S41)) (A0_1 : Option Addr) (c0_1 : Nat) (l0_1 : List (S47)) (A0_2 : Option Addr) (c0_2 : Nat) (l0_2 : List (S43)) (A0_3 : Option Addr) (c0_3 : Nat) (l0_3 : List (S61)) (A0_4 : Option Addr) (c0_4 : Nat) (l0_4 : List (S47)) (r : Bool) (w : World) (hr0_0 : Kd.C k41 w A0_0 l0_0.length l0_0) (hc0_0 : l0_0.length ≤ c0_0) (hr0_1 : Kd.C k47 w A0_1 l0_1.length l0_1) (hc0_1 : l0_1.length ≤ c0_1) (hr0_2 : Kd.C k43 w A0_2 l0_2.length l0_2) (hc0_2 : l0_2.length ≤ c0_2) (hr0_3 : Kd.C k61 w A0_3 l0_3.length l0_3) (hc0_3 : l0_3.length ≤ c0_3) (hr0_4 : Kd.C k47 w A0_4 l0_4.length l0_4) (hc0_4 : l0_4.length ≤ c0_4) (h : net_cells.f k l0_0 l0_1 l0_2 l0_3 l0_4 = some r) :
  Calls Try.prog 33 #[.agg #[.slice A0_0 l0_0.length c0_0, .slice A0_1 l0_1.length c0_1, .slice A0_2 l0_2.length c0_2, .slice A0_3 l0_3.length c0_3, .slice A0_4 l0_4.length c0_4]] w fun e w' => e = .returned (.bool r) ∧ Below w.heap.size w w' := by
 have hu1 := Try.underlying27; have hu1 := Try.underlying43; have HR1_0 := aM hr0_0; have HC1_0 := aM hc0_0; clear hr0_0 hc0_0; have HR1_1 := aM hr0_1; have HC1_1 := aM hc0_1; clear hr0_1 hc0_1; have HR1_2 := aM hr0_2; have HC1_2 := aM hc0_2; clear hr0_2 hc0_2; have HR1_3 := aM hr0_3; have HC1_3 := aM hc0_3; clear hr0_3 hc0_3; have HR1_4 := aM hr0_4; have HC1_4 := aM hc0_4; clear hr0_4 hc0_4; have HB := aM (Below.refl w.heap.size w); have H : (net_cells.l0 k 0 l0_2 (l0_2.length : Int) 0 l0_0 l0_1 l0_2 l0_3 l0_4) = some r := h; clear h; have H' := aM H; clear H; go_enter Try.func33, Try.ntmps33
 go_wp2_with (first | ((with_reducible refine zgd 1 rfl ?_); refine zbox 1 #[.slice A0_0 l0_0.length c0_0, .slice A0_1 l0_1.length c0_1, .slice A0_2 l0_2.length c0_2, .slice A0_3 l0_3.length c0_3, .slice A0_4 l0_4.length c0_4] 27 ?_; intro gb1 hg w1 hbox hb; have BK1 := aM (hbox); have GW1 := aM ((q7z HB : w.heap.size ≤ gb1)); have GE1 := aM ((q7z HB : w.heap.size ≤ gb1)); replace HB := aM (ym (q4z HB) hb); clear hb hbox hg; obtain ⟨i1_0, i1_1, i1_2, i1_3, i1_4, j1_0, j1_1, j1_2, j1_3, j1_4⟩ := cells5_47 BK1.out))
 go_loopg [3, 10] k (fun kq v1 v2 w' => ∃ (x1_1 : Int) (x2_1 : Int), v1 = .int .i64 x1_1 ∧ v2 = .int .i64 x2_1 ∧ Aside0 (net_cells.l0 kq x1_1 l0_2 (l0_2.length : Int) x2_1 l0_0 l0_1 l0_2 l0_3 l0_4 = some r) ∧ Aside0 (kq ≤ k) ∧ Aside0 (w'.heap[gb1]? = some (.cells #[(.slice A0_0 l0_0.length c0_0), (.slice A0_1 l0_1.length c0_1), (.slice A0_2 l0_2.length c0_2), (.slice A0_3 l0_3.length c0_3), (.slice A0_4 l0_4.length c0_4)] 27 (0, 0))) ∧ Aside0 (Below w.heap.size w w'))
 case atStart => exact ⟨(0), (0), q13z, q13z, H', ⟨Nat.le_refl _⟩, ⟨q10z BK1⟩, ⟨q3z HB GE1⟩⟩
 case round =>
  clear H'; try clear p2
  try clear c3
  try clear i1_0 i1_1 i1_2 i1_3 i1_4 j1_0 j1_1 j1_2 j1_3 j1_4
  obtain ⟨x1_1, x2_1, rfl, rfl, HA, HK1, BK1, HB⟩ := hrel; cases gk with
  | zero => exact absurd HA.out (by simp [net_cells.l0])
  | succ k1 =>
   have H := HA.out; clear HA; simp only [net_cells.l0] at H; by_cases c2 : x2_1 < (l0_2.length : Int)
   ·rw [if_pos c2] at H; have c1b0 := decide_eq_true c2; clear c2; by_cases c4 : 0 ≤ x2_1
    ·rw [if_pos c4] at H; have c1b0 := decide_eq_true c4; clear c4; by_cases c5 : x2_1 < (l0_2.length : Int)
     ·rw [if_pos c5] at H; have c1b0 := decide_eq_true c5; clear c5; by_cases c6 : 0 ≤ ((rd_T43 l0_2 x2_1).f1)
      ·rw [if_pos c6] at H; have c1b0 := decide_eq_true c6; clear c6; by_cases c7 : ((rd_T43 l0_2 x2_1).f1) < (l0_0.length : Int)
       ·rw [if_pos c7] at H; have c1b0 := decide_eq_true c7; clear c7; have HC1 := aM H; clear H; have p1 : 0 ≤ (x2_1 : Int) := zod; have q1 : x2_1 < (l0_2.length : Int) := zod; obtain ⟨ad1, e1, hx1_0, hx1_1, hx1_2, hx1_3⟩ := at_T43 HR1_2.out x2_1 p1 q1; cases e1; replace hx1_0 := zx HB hx1_0; replace hx1_1 := zx HB hx1_1; replace hx1_2 := zx HB hx1_2; replace hx1_3 := zx HB hx1_3; replace p1 := eq_true p1; replace q1 := eq_true q1; go_upto_region 7 with (first | ((with_reducible refine zgd 5 rfl ?_); refine zbox 5 #[.string (⟨#[]⟩ : ByteArray), .int .i64 0, .int .i64 0, .int .i64 0] 43 ?_; intro gb2 hg w1 hbox hb; have BK2 := aM (hbox); have GW1 := aM ((q14z HB GE1 : w.heap.size ≤ gb2)); have GE2 := aM ((q14z HB GE1 : w.heap.size ≤ gb2)); replace HB := aM (ym (q3z HB GE1) hb); have NB1_167 := aM ((q38z BK1 : gb1 ≠ gb2)); have NB1_165 := aM ((q39z BK1 : gb2 ≠ gb1)); replace BK1 := aM (yi (zi BK1) hb); clear hb hbox hg; have hnb1 := NB1_165.out; have hnc1 := NB1_167.out; obtain ⟨i1_0, i1_1, i1_2, i1_3, j1_0, j1_1, j1_2, j1_3⟩ := cells4_47 BK2.out; obtain ⟨i2_0, i2_1, i2_2, i2_3, i1_4, j2_0, j2_1, j2_2, j2_3, j1_4⟩ := cells5_47 BK1.out; have p1 : 0 ≤ (((rd_T43 l0_2 x2_1).f1) : Int) := zod; have q1 : ((rd_T43 l0_2 x2_1).f1) < (l0_0.length : Int) := zod; obtain ⟨ad2, e1, hx1_0, hx1_1, hx1_2, hx1_3, hx1_4, hx1_5, hx1_6⟩ := at_T41 HR1_0.out ((rd_T43 l0_2 x2_1).f1) p1 q1; cases e1; have hn1_0 : ad2.block ≠ gb2 := Nat.ne_of_lt (Nat.lt_of_lt_of_le q49z GW1.out); have hn1_1 : ad2.block ≠ gb2 := Nat.ne_of_lt (Nat.lt_of_lt_of_le q49z GW1.out); have hn1_2 : ad2.block ≠ gb2 := Nat.ne_of_lt (Nat.lt_of_lt_of_le q49z GW1.out); have hn1_3 : ad2.block ≠ gb2 := Nat.ne_of_lt (Nat.lt_of_lt_of_le q49z GW1.out); replace hx1_0 := zx HB hx1_0; replace hx1_1 := zx HB hx1_1; replace hx1_2 := zx HB hx1_2; replace hx1_3 := zx HB hx1_3; replace hx1_4 := zx HB hx1_4; replace hx1_5 := zx HB hx1_5; replace hx1_6 := zx HB hx1_6; replace hx1_0 := (zf 0 hn1_0 (.string ((rd_T43 l0_2 x2_1).f0))).trans hx1_0; replace hx1_1 := (zf 0 hn1_0 (.string ((rd_T43 l0_2 x2_1).f0))).trans hx1_1; replace hx1_2 := (zf 0 hn1_0 (.string ((rd_T43 l0_2 x2_1).f0))).trans hx1_2; replace hx1_3 := (zf 0 hn1_0 (.string ((rd_T43 l0_2 x2_1).f0))).trans hx1_3; replace hx1_4 := (zf 0 hn1_0 (.string ((rd_T43 l0_2 x2_1).f0))).trans hx1_4; replace hx1_5 := (zf 0 hn1_0 (.string ((rd_T43 l0_2 x2_1).f0))).trans hx1_5; replace hx1_6 := (zf 0 hn1_0 (.string ((rd_T43 l0_2 x2_1).f0))).trans hx1_6; replace hx1_0 := (zf 1 hn1_1 (.int .i64 ((rd_T43 l0_2 x2_1).f1))).trans hx1_0; replace hx1_1 := (zf 1 hn1_1 (.int .i64 ((rd_T43 l0_2 x2_1).f1))).trans hx1_1; replace hx1_2 := (zf 1 hn1_1 (.int .i64 ((rd_T43 l0_2 x2_1).f1))).trans hx1_2; replace hx1_3 := (zf 1 hn1_1 (.int .i64 ((rd_T43 l0_2 x2_1).f1))).trans hx1_3; replace hx1_4 := (zf 1 hn1_1 (.int .i64 ((rd_T43 l0_2 x2_1).f1))).trans hx1_4; replace hx1_5 := (zf 1 hn1_1 (.int .i64 ((rd_T43 l0_2 x2_1).f1))).trans hx1_5; replace hx1_6 := (zf 1 hn1_1 (.int .i64 ((rd_T43 l0_2 x2_1).f1))).trans hx1_6; replace hx1_0 := (zf 2 hn1_2 (.int .i64 ((rd_T43 l0_2 x2_1).f2))).trans hx1_0; replace hx1_1 := (zf 2 hn1_2 (.int .i64 ((rd_T43 l0_2 x2_1).f2))).trans hx1_1; replace hx1_2 := (zf 2 hn1_2 (.int .i64 ((rd_T43 l0_2 x2_1).f2))).trans hx1_2; replace hx1_3 := (zf 2 hn1_2 (.int .i64 ((rd_T43 l0_2 x2_1).f2))).trans hx1_3; replace hx1_4 := (zf 2 hn1_2 (.int .i64 ((rd_T43 l0_2 x2_1).f2))).trans hx1_4; replace hx1_5 := (zf 2 hn1_2 (.int .i64 ((rd_T43 l0_2 x2_1).f2))).trans hx1_5; replace hx1_6 := (zf 2 hn1_2 (.int .i64 ((rd_T43 l0_2 x2_1).f2))).trans hx1_6; replace hx1_0 := (zf 3 hn1_3 (.int .i64 ((rd_T43 l0_2 x2_1).f3))).trans hx1_0; replace hx1_1 := (zf 3 hn1_3 (.int .i64 ((rd_T43 l0_2 x2_1).f3))).trans hx1_1; replace hx1_2 := (zf 3 hn1_3 (.int .i64 ((rd_T43 l0_2 x2_1).f3))).trans hx1_2; replace hx1_3 := (zf 3 hn1_3 (.int .i64 ((rd_T43 l0_2 x2_1).f3))).trans hx1_3; replace hx1_4 := (zf 3 hn1_3 (.int .i64 ((rd_T43 l0_2 x2_1).f3))).trans hx1_4; replace hx1_5 := (zf 3 hn1_3 (.int .i64 ((rd_T43 l0_2 x2_1).f3))).trans hx1_5; replace hx1_6 := (zf 3 hn1_3 (.int .i64 ((rd_T43 l0_2 x2_1).f3))).trans hx1_6; clear hn1_0 hn1_1 hn1_2 hn1_3; replace p1 := eq_true p1; replace q1 := eq_true q1))
        (try simp only [Act.put, yu, yv, yw])
        go_cut [44] (fun v1 wc => ∃ (kq : Nat) (x1_8 : Bool), v1 = .bool x1_8 ∧ Aside0 (net_cells.j1 kq (wrap64 (x1_1 + ((rd_T41 l0_0 ((rd_T43 l0_2 x2_1).f1)).f1))) l0_2 (l0_2.length : Int) x2_1 x1_8 l0_0 l0_1 l0_2 l0_3 l0_4 = some r) ∧ Aside0 (kq ≤ k1) ∧ Aside0 (wc.heap[gb1]? = some (.cells #[(.slice (some ad2) l0_0.length c0_0), (.slice A0_1 l0_1.length c0_1), (.slice (some ad1) l0_2.length c0_2), (.slice A0_3 l0_3.length c0_3), (.slice A0_4 l0_4.length c0_4)] 27 (0, 0))) ∧ Aside0 (wc.heap[gb2]? = some (.cells #[.string ((rd_T43 l0_2 x2_1).f0), .int .i64 ((rd_T43 l0_2 x2_1).f1), .int .i64 ((rd_T43 l0_2 x2_1).f2), .int .i64 ((rd_T43 l0_2 x2_1).f3)] 43 (0, 0))) ∧ Aside0 (Below w.heap.size w wc))
        case first =>
         have H := HC1.out; clear HC1; replace H := Option.bind_eq_some_iff.mp H; obtain ⟨t1, A1, H⟩ := H; have A2 := aM A1; clear A1; by_cases c8 : t1 = ((rd_T41 l0_0 ((rd_T43 l0_2 x2_1).f1)).f1)
         ·rw [if_pos c8] at H; obtain ⟨c1b0, c1b1⟩ := zeq c8; clear c8; (first | rw [c1b0] | (simp only [i64_w, i32_w]; rw [c1b0]) | skip)
          by_cases c9 : ((rd_T43 l0_2 x2_1).f3) < 0
          ·rw [if_pos c9] at H; have c1b0 := decide_eq_true c9; clear c9; have H' := aM H; clear H; try go_wp2
           have n1_ : Aside0 (((((w1.setCell ⟨gb2, 0, none⟩ (.string ((rd_T43 l0_2 x2_1).f0))).setCell ⟨gb2, 1, none⟩ (.int .i64 ((rd_T43 l0_2 x2_1).f1))).setCell ⟨gb2, 2, none⟩ (.int .i64 ((rd_T43 l0_2 x2_1).f2))).setCell ⟨gb2, 3, none⟩ (.int .i64 ((rd_T43 l0_2 x2_1).f3))).heap[gb1]? = some (.cells #[.slice (some ad2) l0_0.length c0_0, .slice A0_1 l0_1.length c0_1, .slice (some ad1) l0_2.length c0_2, .slice A0_3 l0_3.length c0_3, .slice A0_4 l0_4.length c0_4] 27 (0, 0))) := ⟨q20z NB1_167 BK1⟩; have n2_ : Aside0 (((((w1.setCell ⟨gb2, 0, none⟩ (.string ((rd_T43 l0_2 x2_1).f0))).setCell ⟨gb2, 1, none⟩ (.int .i64 ((rd_T43 l0_2 x2_1).f1))).setCell ⟨gb2, 2, none⟩ (.int .i64 ((rd_T43 l0_2 x2_1).f2))).setCell ⟨gb2, 3, none⟩ (.int .i64 ((rd_T43 l0_2 x2_1).f3))).heap[gb2]? = some (.cells #[.string ((rd_T43 l0_2 x2_1).f0), .int .i64 ((rd_T43 l0_2 x2_1).f1), .int .i64 ((rd_T43 l0_2 x2_1).f2), .int .i64 ((rd_T43 l0_2 x2_1).f3)] 43 (0, 0))) := ⟨q19z BK2⟩; have n3_ : Aside0 (Below w.heap.size w ((((w1.setCell ⟨gb2, 0, none⟩ (.string ((rd_T43 l0_2 x2_1).f0))).setCell ⟨gb2, 1, none⟩ (.int .i64 ((rd_T43 l0_2 x2_1).f1))).setCell ⟨gb2, 2, none⟩ (.int .i64 ((rd_T43 l0_2 x2_1).f2))).setCell ⟨gb2, 3, none⟩ (.int .i64 ((rd_T43 l0_2 x2_1).f3)))) := ⟨q5z HB GE1 GE2⟩; (try clear BK1)
           (try clear BK2)
           (try clear HB)
           generalize ((((w1.setCell ⟨gb2, 0, none⟩ (.string ((rd_T43 l0_2 x2_1).f0))).setCell ⟨gb2, 1, none⟩ (.int .i64 ((rd_T43 l0_2 x2_1).f1))).setCell ⟨gb2, 2, none⟩ (.int .i64 ((rd_T43 l0_2 x2_1).f2))).setCell ⟨gb2, 3, none⟩ (.int .i64 ((rd_T43 l0_2 x2_1).f3))) = w2 at n1_ n2_ n3_ ⊢; have BK1 := n1_; have BK2 := n2_; have HB := n3_; clear n1_ n2_ n3_; replace BK1 := aM (yc BK1.out); replace BK2 := aM (yc BK2.out); replace HB := aM (yk HB.out); refine start_ (n := 21) (S := fun w' => w'.cell? ⟨gb1, 0, none⟩ = some (.slice (some ad2) l0_0.length c0_0) ∧ w'.cell? ⟨gb1, 1, none⟩ = some (.slice A0_1 l0_1.length c0_1) ∧ w'.cell? ⟨gb1, 2, none⟩ = some (.slice (some ad1) l0_2.length c0_2) ∧ w'.cell? ⟨gb1, 3, none⟩ = some (.slice A0_3 l0_3.length c0_3) ∧ w'.cell? ⟨gb1, 4, none⟩ = some (.slice A0_4 l0_4.length c0_4) ∧ w'.cell? ⟨gb2, 0, none⟩ = some (.string ((rd_T43 l0_2 x2_1).f0)) ∧ w'.cell? ⟨gb2, 1, none⟩ = some (.int .i64 ((rd_T43 l0_2 x2_1).f1)) ∧ w'.cell? ⟨gb2, 2, none⟩ = some (.int .i64 ((rd_T43 l0_2 x2_1).f2)) ∧ w'.cell? ⟨gb2, 3, none⟩ = some (.int .i64 ((rd_T43 l0_2 x2_1).f3))) (ds := []) (zb 21 0) (by kernel_rfl) rfl rfl ⟨zc BK1 0, zc BK1 1, zc BK1 2, zc BK1 3, zc BK1 4, zc BK2 0, zc BK2 1, zc BK2 2, zc BK2 3⟩ (fun hHeld => ?_); refine with_tabW net_cells.tab7 net_cells.bits7 (fun HT_ HW_ => ?_); generalize w2.drew = w3 at BK1 BK2 HB hHeld ⊢; refine zpu 1 25 (zb 21 2) ?_; refine zpu 3 27 (zb 21 10) ?_; refine zpu 7 31 (zb 21 138) ?_; refine ztk9 0 24 (zb 21 139) hHeld ?_; refine ztk9 2 26 (zb 21 143) hHeld ?_; refine ztk9 4 28 (zb 21 159) hHeld ?_; refine zpu 5 29 (zb 21 191) ?_; refine zon 6 (some 30) (zb 21 255) fun K hK => ?_
           refine zgo Try.func34 #[.agg #[.slice (some ad2) l0_0.length c0_0, .slice A0_1 l0_1.length c0_1, .slice (some ad1) l0_2.length c0_2, .slice A0_3 l0_3.length c0_3, .slice A0_4 l0_4.length c0_4], .int .i64 ((rd_T43 l0_2 x2_1).f2), .int .i64 (l0_0.length : Int)] ?_; with_reducible refine (net_width.calls _ _ l0_0 _ _ l0_1 _ _ l0_2 _ _ l0_3 _ _ l0_4 ((rd_T43 l0_2 x2_1).f2) (l0_0.length : Int) t1 _ ?side1 ?side2 ?side3 ?side4 ?side5 ?side6 ?side7 ?side8 ?side9 ?side10 A2.out).mono ?_
           (case side1 => exact q1z HR1_0 HB)
           (case side2 => exact HC1_0.out)
           (case side3 => exact q1z HR1_1 HB)
           (case side4 => exact HC1_1.out)
           (case side5 => exact q1z HR1_2 HB)
           (case side6 => exact HC1_2.out)
           (case side7 => exact q1z HR1_3 HB)
           (case side8 => exact HC1_3.out)
           (case side9 => exact q1z HR1_4 HB)
           (case side10 => exact HC1_4.out)
           rintro e w2 ⟨rfl, hb⟩; refine ⟨_, rfl, ?_⟩; replace BK1 := aM (yi (zi BK1) hb); replace BK2 := aM (yi (zi BK2) hb); replace HB := aM (ym (q5z HB GE1 GE2) hb); (try clear hb)
           (try clear hb2)
           (try clear hk)
           (try clear hi)
           refine hK.out _ _ ⟨zc BK1 0, zc BK1 1, zc BK1 2, zc BK1 3, zc BK1 4, zc BK2 0, zc BK2 1, zc BK2 2, zc BK2 3⟩ (fun hHeld => ?_); clear hK K; refine zno 30 ?_; refine zpu 8 32 (zb 21 511) ?_; refine zpu 9 33 (zb 21 1023) ?_; refine zpu 10 34 (zb 21 2047) ?_; refine ztk9 11 35 (zb 21 4095) hHeld ?_; refine zpu 12 36 (zb 21 8191) ?_; exact z47_1
          ·rw [if_neg c9] at H; have c1b0 := decide_eq_false c9; clear c9; replace H := Option.bind_eq_some_iff.mp H; obtain ⟨t2, A1, H⟩ := H; have A3 := aM A1; clear A1; have H' := aM H; clear H; try go_wp2
           have n1_ : Aside0 (((((w1.setCell ⟨gb2, 0, none⟩ (.string ((rd_T43 l0_2 x2_1).f0))).setCell ⟨gb2, 1, none⟩ (.int .i64 ((rd_T43 l0_2 x2_1).f1))).setCell ⟨gb2, 2, none⟩ (.int .i64 ((rd_T43 l0_2 x2_1).f2))).setCell ⟨gb2, 3, none⟩ (.int .i64 ((rd_T43 l0_2 x2_1).f3))).heap[gb1]? = some (.cells #[.slice (some ad2) l0_0.length c0_0, .slice A0_1 l0_1.length c0_1, .slice (some ad1) l0_2.length c0_2, .slice A0_3 l0_3.length c0_3, .slice A0_4 l0_4.length c0_4] 27 (0, 0))) := ⟨q20z NB1_167 BK1⟩; have n2_ : Aside0 (((((w1.setCell ⟨gb2, 0, none⟩ (.string ((rd_T43 l0_2 x2_1).f0))).setCell ⟨gb2, 1, none⟩ (.int .i64 ((rd_T43 l0_2 x2_1).f1))).setCell ⟨gb2, 2, none⟩ (.int .i64 ((rd_T43 l0_2 x2_1).f2))).setCell ⟨gb2, 3, none⟩ (.int .i64 ((rd_T43 l0_2 x2_1).f3))).heap[gb2]? = some (.cells #[.string ((rd_T43 l0_2 x2_1).f0), .int .i64 ((rd_T43 l0_2 x2_1).f1), .int .i64 ((rd_T43 l0_2 x2_1).f2), .int .i64 ((rd_T43 l0_2 x2_1).f3)] 43 (0, 0))) := ⟨q19z BK2⟩; have n3_ : Aside0 (Below w.heap.size w ((((w1.setCell ⟨gb2, 0, none⟩ (.string ((rd_T43 l0_2 x2_1).f0))).setCell ⟨gb2, 1, none⟩ (.int .i64 ((rd_T43 l0_2 x2_1).f1))).setCell ⟨gb2, 2, none⟩ (.int .i64 ((rd_T43 l0_2 x2_1).f2))).setCell ⟨gb2, 3, none⟩ (.int .i64 ((rd_T43 l0_2 x2_1).f3)))) := ⟨q5z HB GE1 GE2⟩; (try clear BK1)
           (try clear BK2)
           (try clear HB)
           generalize ((((w1.setCell ⟨gb2, 0, none⟩ (.string ((rd_T43 l0_2 x2_1).f0))).setCell ⟨gb2, 1, none⟩ (.int .i64 ((rd_T43 l0_2 x2_1).f1))).setCell ⟨gb2, 2, none⟩ (.int .i64 ((rd_T43 l0_2 x2_1).f2))).setCell ⟨gb2, 3, none⟩ (.int .i64 ((rd_T43 l0_2 x2_1).f3))) = w2 at n1_ n2_ n3_ ⊢; have BK1 := n1_; have BK2 := n2_; have HB := n3_; clear n1_ n2_ n3_; replace BK1 := aM (yc BK1.out); replace BK2 := aM (yc BK2.out); replace HB := aM (yk HB.out); refine start_ (n := 21) (S := fun w' => w'.cell? ⟨gb1, 0, none⟩ = some (.slice (some ad2) l0_0.length c0_0) ∧ w'.cell? ⟨gb1, 1, none⟩ = some (.slice A0_1 l0_1.length c0_1) ∧ w'.cell? ⟨gb1, 2, none⟩ = some (.slice (some ad1) l0_2.length c0_2) ∧ w'.cell? ⟨gb1, 3, none⟩ = some (.slice A0_3 l0_3.length c0_3) ∧ w'.cell? ⟨gb1, 4, none⟩ = some (.slice A0_4 l0_4.length c0_4) ∧ w'.cell? ⟨gb2, 0, none⟩ = some (.string ((rd_T43 l0_2 x2_1).f0)) ∧ w'.cell? ⟨gb2, 1, none⟩ = some (.int .i64 ((rd_T43 l0_2 x2_1).f1)) ∧ w'.cell? ⟨gb2, 2, none⟩ = some (.int .i64 ((rd_T43 l0_2 x2_1).f2)) ∧ w'.cell? ⟨gb2, 3, none⟩ = some (.int .i64 ((rd_T43 l0_2 x2_1).f3))) (ds := []) (zb 21 0) (by kernel_rfl) rfl rfl ⟨zc BK1 0, zc BK1 1, zc BK1 2, zc BK1 3, zc BK1 4, zc BK2 0, zc BK2 1, zc BK2 2, zc BK2 3⟩ (fun hHeld => ?_); refine with_tabW net_cells.tab7 net_cells.bits7 (fun HT_ HW_ => ?_); generalize w2.drew = w3 at BK1 BK2 HB hHeld ⊢; refine zpu 1 25 (zb 21 2) ?_; refine zpu 3 27 (zb 21 10) ?_; refine zpu 7 31 (zb 21 138) ?_; refine ztk9 0 24 (zb 21 139) hHeld ?_; refine ztk9 2 26 (zb 21 143) hHeld ?_; refine ztk9 4 28 (zb 21 159) hHeld ?_; refine zpu 5 29 (zb 21 191) ?_; refine zon 6 (some 30) (zb 21 255) fun K hK => ?_
           refine zgo Try.func34 #[.agg #[.slice (some ad2) l0_0.length c0_0, .slice A0_1 l0_1.length c0_1, .slice (some ad1) l0_2.length c0_2, .slice A0_3 l0_3.length c0_3, .slice A0_4 l0_4.length c0_4], .int .i64 ((rd_T43 l0_2 x2_1).f2), .int .i64 (l0_0.length : Int)] ?_; with_reducible refine (net_width.calls _ _ l0_0 _ _ l0_1 _ _ l0_2 _ _ l0_3 _ _ l0_4 ((rd_T43 l0_2 x2_1).f2) (l0_0.length : Int) t1 _ ?side1 ?side2 ?side3 ?side4 ?side5 ?side6 ?side7 ?side8 ?side9 ?side10 A2.out).mono ?_
           (case side1 => exact q1z HR1_0 HB)
           (case side2 => exact HC1_0.out)
           (case side3 => exact q1z HR1_1 HB)
           (case side4 => exact HC1_1.out)
           (case side5 => exact q1z HR1_2 HB)
           (case side6 => exact HC1_2.out)
           (case side7 => exact q1z HR1_3 HB)
           (case side8 => exact HC1_3.out)
           (case side9 => exact q1z HR1_4 HB)
           (case side10 => exact HC1_4.out)
           rintro e w2 ⟨rfl, hb⟩; refine ⟨_, rfl, ?_⟩; replace BK1 := aM (yi (zi BK1) hb); replace BK2 := aM (yi (zi BK2) hb); replace HB := aM (ym (q5z HB GE1 GE2) hb); (try clear hb)
           (try clear hb2)
           (try clear hk)
           (try clear hi)
           refine hK.out _ _ ⟨zc BK1 0, zc BK1 1, zc BK1 2, zc BK1 3, zc BK1 4, zc BK2 0, zc BK2 1, zc BK2 2, zc BK2 3⟩ (fun hHeld => ?_); clear hK K; refine zno 30 ?_; refine zpu 8 32 (zb 21 511) ?_; refine zpu 9 33 (zb 21 1023) ?_; refine zpu 10 34 (zb 21 2047) ?_; refine ztk9 11 35 (zb 21 4095) hHeld ?_; refine zpu 12 36 (zb 21 8191) ?_; refine zpu 13 37 (zb 21 16383) ?_; refine zpu 14 38 (zb 21 32767) ?_; refine zpu 15 39 (zb 21 65535) ?_; refine zpu 17 41 (zb 21 196607) ?_; refine ztk9 16 40 (zb 21 262143) hHeld ?_; refine zon 18 (some 42) (zb 21 524287) fun K hK => ?_
           refine zgo Try.func49 #[.int .i64 ((rd_T41 l0_0 ((rd_T43 l0_2 x2_1).f1)).f1)] ?_; with_reducible refine (vec_Mask.calls ((rd_T41 l0_0 ((rd_T43 l0_2 x2_1).f1)).f1) t2 _ A3.out).mono ?_
           rintro e w' ⟨rfl, ⟨nd, rfl⟩⟩; refine ⟨_, rfl, ?_⟩; refine hK.out _ _ ⟨zc BK1 0, zc BK1 1, zc BK1 2, zc BK1 3, zc BK1 4, zc BK2 0, zc BK2 1, zc BK2 2, zc BK2 3⟩ (fun hHeld => ?_); clear hK K; refine zno 42 ?_; refine zpu 19 43 (zb 21 1048575) ?_; refine zpu 20 44 (zb 21 2097151) ?_; refine zdo ?_; try go_wp2
           go_meet
           case rel => exact ⟨_, (decide (((rd_T43 l0_2 x2_1).f3) > t2)), q13z, H', ⟨q55z HK1⟩, ⟨q10z BK1⟩, ⟨q10z BK2⟩, ⟨q5z HB GE1 GE2⟩⟩
         ·rw [if_neg c8] at H; obtain ⟨c1b0, c1b1⟩ := zne c8; (first | rw [c1b0] | (simp only [i64_w, i32_w]; rw [c1b0]) | skip)
          have H' := aM H; clear H; try go_wp2
          have n1_ : Aside0 (((((w1.setCell ⟨gb2, 0, none⟩ (.string ((rd_T43 l0_2 x2_1).f0))).setCell ⟨gb2, 1, none⟩ (.int .i64 ((rd_T43 l0_2 x2_1).f1))).setCell ⟨gb2, 2, none⟩ (.int .i64 ((rd_T43 l0_2 x2_1).f2))).setCell ⟨gb2, 3, none⟩ (.int .i64 ((rd_T43 l0_2 x2_1).f3))).heap[gb1]? = some (.cells #[.slice (some ad2) l0_0.length c0_0, .slice A0_1 l0_1.length c0_1, .slice (some ad1) l0_2.length c0_2, .slice A0_3 l0_3.length c0_3, .slice A0_4 l0_4.length c0_4] 27 (0, 0))) := ⟨q20z NB1_167 BK1⟩; have n2_ : Aside0 (((((w1.setCell ⟨gb2, 0, none⟩ (.string ((rd_T43 l0_2 x2_1).f0))).setCell ⟨gb2, 1, none⟩ (.int .i64 ((rd_T43 l0_2 x2_1).f1))).setCell ⟨gb2, 2, none⟩ (.int .i64 ((rd_T43 l0_2 x2_1).f2))).setCell ⟨gb2, 3, none⟩ (.int .i64 ((rd_T43 l0_2 x2_1).f3))).heap[gb2]? = some (.cells #[.string ((rd_T43 l0_2 x2_1).f0), .int .i64 ((rd_T43 l0_2 x2_1).f1), .int .i64 ((rd_T43 l0_2 x2_1).f2), .int .i64 ((rd_T43 l0_2 x2_1).f3)] 43 (0, 0))) := ⟨q19z BK2⟩; have n3_ : Aside0 (Below w.heap.size w ((((w1.setCell ⟨gb2, 0, none⟩ (.string ((rd_T43 l0_2 x2_1).f0))).setCell ⟨gb2, 1, none⟩ (.int .i64 ((rd_T43 l0_2 x2_1).f1))).setCell ⟨gb2, 2, none⟩ (.int .i64 ((rd_T43 l0_2 x2_1).f2))).setCell ⟨gb2, 3, none⟩ (.int .i64 ((rd_T43 l0_2 x2_1).f3)))) := ⟨q5z HB GE1 GE2⟩; (try clear BK1)
          (try clear BK2)
          (try clear HB)
          generalize ((((w1.setCell ⟨gb2, 0, none⟩ (.string ((rd_T43 l0_2 x2_1).f0))).setCell ⟨gb2, 1, none⟩ (.int .i64 ((rd_T43 l0_2 x2_1).f1))).setCell ⟨gb2, 2, none⟩ (.int .i64 ((rd_T43 l0_2 x2_1).f2))).setCell ⟨gb2, 3, none⟩ (.int .i64 ((rd_T43 l0_2 x2_1).f3))) = w2 at n1_ n2_ n3_ ⊢; have BK1 := n1_; have BK2 := n2_; have HB := n3_; clear n1_ n2_ n3_; replace BK1 := aM (yc BK1.out); replace BK2 := aM (yc BK2.out); replace HB := aM (yk HB.out); refine start_ (n := 21) (S := fun w' => w'.cell? ⟨gb1, 0, none⟩ = some (.slice (some ad2) l0_0.length c0_0) ∧ w'.cell? ⟨gb1, 1, none⟩ = some (.slice A0_1 l0_1.length c0_1) ∧ w'.cell? ⟨gb1, 2, none⟩ = some (.slice (some ad1) l0_2.length c0_2) ∧ w'.cell? ⟨gb1, 3, none⟩ = some (.slice A0_3 l0_3.length c0_3) ∧ w'.cell? ⟨gb1, 4, none⟩ = some (.slice A0_4 l0_4.length c0_4) ∧ w'.cell? ⟨gb2, 0, none⟩ = some (.string ((rd_T43 l0_2 x2_1).f0)) ∧ w'.cell? ⟨gb2, 1, none⟩ = some (.int .i64 ((rd_T43 l0_2 x2_1).f1)) ∧ w'.cell? ⟨gb2, 2, none⟩ = some (.int .i64 ((rd_T43 l0_2 x2_1).f2)) ∧ w'.cell? ⟨gb2, 3, none⟩ = some (.int .i64 ((rd_T43 l0_2 x2_1).f3))) (ds := []) (zb 21 0) (by kernel_rfl) rfl rfl ⟨zc BK1 0, zc BK1 1, zc BK1 2, zc BK1 3, zc BK1 4, zc BK2 0, zc BK2 1, zc BK2 2, zc BK2 3⟩ (fun hHeld => ?_); refine with_tabW net_cells.tab7 net_cells.bits7 (fun HT_ HW_ => ?_); generalize w2.drew = w1 at BK1 BK2 HB hHeld ⊢; refine zpu 1 25 (zb 21 2) ?_; refine zpu 3 27 (zb 21 10) ?_; refine zpu 7 31 (zb 21 138) ?_; refine ztk9 0 24 (zb 21 139) hHeld ?_; refine ztk9 2 26 (zb 21 143) hHeld ?_; refine ztk9 4 28 (zb 21 159) hHeld ?_; refine zpu 5 29 (zb 21 191) ?_; refine zon 6 (some 30) (zb 21 255) fun K hK => ?_
          refine zgo Try.func34 #[.agg #[.slice (some ad2) l0_0.length c0_0, .slice A0_1 l0_1.length c0_1, .slice (some ad1) l0_2.length c0_2, .slice A0_3 l0_3.length c0_3, .slice A0_4 l0_4.length c0_4], .int .i64 ((rd_T43 l0_2 x2_1).f2), .int .i64 (l0_0.length : Int)] ?_; with_reducible refine (net_width.calls _ _ l0_0 _ _ l0_1 _ _ l0_2 _ _ l0_3 _ _ l0_4 ((rd_T43 l0_2 x2_1).f2) (l0_0.length : Int) t1 _ ?side1 ?side2 ?side3 ?side4 ?side5 ?side6 ?side7 ?side8 ?side9 ?side10 A2.out).mono ?_
          (case side1 => exact q1z HR1_0 HB)
          (case side2 => exact HC1_0.out)
          (case side3 => exact q1z HR1_1 HB)
          (case side4 => exact HC1_1.out)
          (case side5 => exact q1z HR1_2 HB)
          (case side6 => exact HC1_2.out)
          (case side7 => exact q1z HR1_3 HB)
          (case side8 => exact HC1_3.out)
          (case side9 => exact q1z HR1_4 HB)
          (case side10 => exact HC1_4.out)
          rintro e w1 ⟨rfl, hb⟩; refine ⟨_, rfl, ?_⟩; replace BK1 := aM (yi (zi BK1) hb); replace BK2 := aM (yi (zi BK2) hb); replace HB := aM (ym (q5z HB GE1 GE2) hb); (try clear hb)
          (try clear hb2)
          (try clear hk)
          (try clear hi)
          refine hK.out _ _ ⟨zc BK1 0, zc BK1 1, zc BK1 2, zc BK1 3, zc BK1 4, zc BK2 0, zc BK2 1, zc BK2 2, zc BK2 3⟩ (fun hHeld => ?_); clear hK K; refine zno 30 ?_; refine zpu 8 32 (zb 21 511) ?_; refine zpu 9 33 (zb 21 1023) ?_; refine zpn 10 34 (zb 21 2047) ?_; refine zpn 11 35 (zb 21 4095) ?_; refine zpn 12 36 (zb 21 8191) ?_; exact z47_1
        case rest =>
         clear HC1; try clear c1
         try clear p2
         try clear c3
         try clear c2
         try clear p6
         try clear c8
         try clear c1b0
         try clear c1b1
         try clear c8
         try clear c1b0
         obtain ⟨kq, x1_8, rfl, HA, HJ1, BK1, BK2, HB⟩ := hcut; cases kq with
         | zero => exact absurd HA.out (by simp [net_cells.j1])
         | succ kj1 =>
          have H := HA.out; clear HA; simp only [net_cells.j1] at H; by_cases c8 : x1_8 = true
          ·subst c8; have H1 : (some false) = some r := by rw [if_pos rfl] at H; exact H
           clear H; have H := H1; clear H1; obtain rfl := Option.some.inj H; go_wp2
           go_ret
           exact ⟨q11z, q5z HB GE1 GE2⟩
          ·replace c8 := Bool.eq_false_iff.mpr c8; subst c8; have H1 : (net_cells.l0 kj1 (wrap64 (x1_1 + ((rd_T41 l0_0 ((rd_T43 l0_2 x2_1).f1)).f1))) l0_2 (l0_2.length : Int) (wrap64 (x2_1 + 1)) l0_0 l0_1 l0_2 l0_3 l0_4) = some r := by rw [if_neg (show ¬ (false = true) by decide)] at H; exact H
           clear H; have H := H1; clear H1; have H' := aM H; clear H; go_wp2
           go_roundg kj1
           case measure => have := HK1.out; have := HJ1.out; omega
           case rel => exact ⟨((wrap64 (x1_1 + ((rd_T41 l0_0 ((rd_T43 l0_2 x2_1).f1)).f1)))), (wrap64 (x2_1 + 1)), q13z, q13z, H', ⟨q92z HK1 HJ1⟩, ⟨q10z BK1⟩, ⟨q5z HB GE1 GE2⟩⟩
       ·rw [if_neg c7] at H; exact absurd H (by simp)
      ·rw [if_neg c6] at H; exact absurd H (by simp)
     ·rw [if_neg c5] at H; exact absurd H (by simp)
    ·rw [if_neg c4] at H; exact absurd H (by simp)
   ·rw [if_neg c2] at H; have c1b0 := decide_eq_false c2; clear c2; obtain rfl := Option.some.inj H; go_wp2
    go_ret
    exact ⟨q11z, q3z HB GE1⟩
end Go.Proofs.Yteblbknmikieoaa.Xb
