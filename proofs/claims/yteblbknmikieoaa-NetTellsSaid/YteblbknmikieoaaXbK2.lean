/- Slimmed by this session: what nothing names is struck out. -/
import Derived.Test.YteblbknmikieoaaXb0
import Derived.Test.YteblbknmikieoaaXbZ
import Derived.Test.YteblbknmikieoaaXbK1
namespace Go.Proofs.Yteblbknmikieoaa.Xb
open Go.RowKit Go.Proofs.YteblbknmikieoaaW.PrintWords Go.Proofs.YteblbknmikieoaaW.PrintLast Go.Proofs.YteblbknmikieoaaW.PrintMore
set_option maxHeartbeats 8000000
set_option maxRecDepth 100000
set_option linter.unusedVariables false
set_option linter.unusedSimpArgs false
attribute [local go_sem] max2_int min2_int max_two min_two max_three min_three max_four min_four
def api_Pin_int.l0 : Nat → List Int → List (S47) → Int → Int → Option (Bool)
 | 0, _, _, _, _ => none
 | k + 1, x1, x15, x16, x17 => if x17 < x16 then (if 0 ≤ x17 then (if x17 < (x15.length : Int) then (if x17 < (x1.length : Int) then ((net_Right_1.f ((rd_T47 x15 x17).f0) ((rd_T47 x15 x17).f1) (rd x1 x17)).bind fun t154 => (if t154 = true then (api_Pin_int.l0 k x1 x15 x16 (wrap64 (x17 + 1))) else (some false))) else (none)) else (none)) else (none)) else (some true)
def api_Pin_int.f (k : Nat) (l0 : List (S47)) (l1 : List Int) (a2 : Int) : Option (Bool) := if (l0.length : Int) = (l1.length : Int) then (api_Pin_int.l0 k l1 l0 (l0.length : Int) 0) else (some false)
theorem api_Pin_int.mono_l : ∀ k, (∀ y0 y1 y2 y3, LeO (api_Pin_int.l0 k y0 y1 y2 y3) (api_Pin_int.l0 (k + 1) y0 y1 y2 y3))
 | 0 => fun _ _ _ _ r h => by simp [api_Pin_int.l0] at h
 | k + 1 => by
  have ih0 := api_Pin_int.mono_l k
  ·intro y0 y1 y2 y3
   unfold api_Pin_int.l0
   repeat' first | (with_reducible first | apply ih0 | exact LeO.refl _ | exact LeO.none _ | refine LeO.ite ?_ ?_ | refine LeO.bind ?_ (fun _ => ?_)) | exact LeO.none _ | refine LeO.ite ?_ ?_ | refine LeO.bind ?_ (fun _ => ?_)
theorem api_Pin_int.mono : ∀ a0 a1 a2 k, LeO (api_Pin_int.f k a0 a1 a2) (api_Pin_int.f (k + 1) a0 a1 a2) := by
 intro a0 a1 a2 k
 have ih1 := api_Pin_int.mono_l k; unfold api_Pin_int.f
 repeat' first | (with_reducible first | apply ih1 | exact LeO.refl _ | exact LeO.none _ | refine LeO.ite ?_ ?_ | refine LeO.bind ?_ (fun _ => ?_)) | exact LeO.none _ | refine LeO.ite ?_ ?_ | refine LeO.bind ?_ (fun _ => ?_)
theorem api_Pin_int.calls (k : Nat) (A0 : Option Addr) (c0 : Nat) (l0 : List (S47)) (A1 : Option Addr) (c1 : Nat) (l1 : List Int) (a2 : Int) (r : Bool) (w : World) (hr0 : Kd.C k47 w A0 l0.length l0) (hc0 : l0.length ≤ c0) (hr1 : Kd.C (Kd.int .i64) w A1 l1.length l1) (hc1 : l1.length ≤ c1) (h : api_Pin_int.f k l0 l1 a2 = some r) :
  Calls Try.prog 30 #[.slice A0 l0.length c0, .slice A1 l1.length c1, .func (.func 28) #[] #[]] w fun e w' => e = .returned (.bool r) ∧ Below w.heap.size w w' := by
 have hu1 := Try.underlying47; have HR1 := aM hr0; have HC1 := aM hc0; clear hr0 hc0; have HR2 := aM hr1; have HC1 := aM hc1; clear hr1 hc1; have HB := aM (Below.refl w.heap.size w); have H : (if (l0.length : Int) = (l1.length : Int) then (api_Pin_int.l0 k l1 l0 (l0.length : Int) 0) else (some false)) = some r := h; clear h; by_cases c2 : (l0.length : Int) = (l1.length : Int)
 ·rw [if_pos c2] at H; obtain ⟨c1b0, c1b1⟩ := zeq c2; have c1b2 : (l0.length == l1.length) = true := by first | simpa using c2 | (simp at c2 ⊢; omega)
  clear c2; have H' := aM H; clear H; go_enter Try.func30, Try.ntmps30
  go_wp2
  go_loopg [17] k (fun kq v1 w' => ∃ (x1_1 : Int), v1 = .int .i64 x1_1 ∧ Aside0 (api_Pin_int.l0 kq l1 l0 (l0.length : Int) x1_1 = some r) ∧ Aside0 (kq ≤ k) ∧ Aside0 (Below w.heap.size w w'))
  case atStart => exact ⟨(0), q13z, H', ⟨Nat.le_refl _⟩, ⟨q5z HB⟩⟩
  case round =>
   clear H'; try clear c1
   try clear p2
   try clear c3
   try clear c2
   try clear c1b0
   try clear c1b1
   try clear c1b2
   obtain ⟨x1_1, rfl, HA, HK1, HB⟩ := hrel; cases gk with
   | zero => exact absurd HA.out (by simp [api_Pin_int.l0])
   | succ k1 =>
    have H := HA.out; clear HA; simp only [api_Pin_int.l0] at H; by_cases c4 : x1_1 < (l0.length : Int)
    ·rw [if_pos c4] at H; have c1b0 := decide_eq_true c4; clear c4; by_cases c5 : 0 ≤ x1_1
     ·rw [if_pos c5] at H; have c1b0 := decide_eq_true c5; clear c5; by_cases c6 : x1_1 < (l0.length : Int)
      ·rw [if_pos c6] at H; have c1b0 := decide_eq_true c6; clear c6; by_cases c7 : x1_1 < (l1.length : Int)
       ·rw [if_pos c7] at H; have c1b0 := decide_eq_true c7; clear c7; replace H := Option.bind_eq_some_iff.mp H; obtain ⟨t1, A2, H⟩ := H; have A3 := aM A2; clear A2; by_cases c8 : t1 = true
        ·subst c8; have H1 : (api_Pin_int.l0 k1 l1 l0 (l0.length : Int) (wrap64 (x1_1 + 1))) = some r := by rw [if_pos rfl] at H; exact H
         clear H; have H := H1; clear H1; have H' := aM H; clear H; have p1 : 0 ≤ (x1_1 : Int) := zod; have q1 : x1_1 < (l0.length : Int) := zod; obtain ⟨ad1, e1, hx1_0, hx1_1⟩ := at_T47 HR1.out x1_1 p1 q1; cases e1; replace hx1_0 := zx HB hx1_0; replace hx1_1 := zx HB hx1_1; replace p1 := eq_true p1; replace q1 := eq_true q1; go_wp2_with (first | ((with_reducible refine zgd 8 rfl ?_); refine zbox 8 #[.string (⟨#[]⟩ : ByteArray), .int .i64 0] 47 ?_; intro gb1 hg w1 hbox hb; have BK1 := aM (hbox); have GW1 := aM ((q7z HB : w.heap.size ≤ gb1)); have GE1 := aM ((q7z HB : w.heap.size ≤ gb1)); replace HB := aM (ym (q5z HB) hb); clear hb hbox hg; obtain ⟨i1_0, i1_1, j1_0, j1_1⟩ := cells2 BK1.out; have p1 : 0 ≤ (x1_1 : Int) := zod; have q1 : x1_1 < (l1.length : Int) := zod; obtain ⟨ad1, e1, hx1_0⟩ := Kd.at_int HR2.out x1_1 p1 q1; cases e1; have hn1_0 : ad1.block ≠ gb1 := Nat.ne_of_lt (Nat.lt_of_lt_of_le q26z GW1.out); have hn1_1 : ad1.block ≠ gb1 := Nat.ne_of_lt (Nat.lt_of_lt_of_le q26z GW1.out); replace hx1_0 := zx HB hx1_0; replace hx1_0 := (zf 0 hn1_0 (.string ((rd_T47 l0 x1_1).f0))).trans hx1_0; replace hx1_0 := (zf 1 hn1_1 (.int .i64 ((rd_T47 l0 x1_1).f1))).trans hx1_0; clear hn1_0 hn1_1; replace p1 := eq_true p1; replace q1 := eq_true q1) | (go_at_call 28; (with_reducible refine (net_Right_1.calls ((rd_T47 l0 x1_1).f0) ((rd_T47 l0 x1_1).f1) (rd l1 x1_1) true _ A3.out).mono ?_); rintro e w2 ⟨rfl, hb⟩; replace BK1 := aM (yi (g := gb1) (o := .cells #[.string ((rd_T47 l0 x1_1).f0), .int .i64 ((rd_T47 l0 x1_1).f1)] 47 (0, 0)) (q68z BK1) hb); replace HB := aM (ym (q4z HB GE1) hb); (try clear hb); (try clear hb2); (try clear hk); (try clear hi)))
         go_roundg k1
         case measure => have := HK1.out; omega
         case rel => exact ⟨(wrap64 (x1_1 + 1)), q13z, H', ⟨by have := HK1.out; omega⟩, ⟨q4z HB GE1⟩⟩
        ·replace c8 := Bool.eq_false_iff.mpr c8; subst c8; have H1 : (some false) = some r := by rw [if_neg (show ¬ (false = true) by decide)] at H; exact H
         clear H; have H := H1; clear H1; obtain rfl := Option.some.inj H; have p1 : 0 ≤ (x1_1 : Int) := zod; have q1 : x1_1 < (l0.length : Int) := zod; obtain ⟨ad1, e1, hx1_0, hx1_1⟩ := at_T47 HR1.out x1_1 p1 q1; cases e1; replace hx1_0 := zx HB hx1_0; replace hx1_1 := zx HB hx1_1; replace p1 := eq_true p1; replace q1 := eq_true q1; go_wp2_with (first | ((with_reducible refine zgd 8 rfl ?_); refine zbox 8 #[.string (⟨#[]⟩ : ByteArray), .int .i64 0] 47 ?_; intro gb1 hg w1 hbox hb; have BK1 := aM (hbox); have GW1 := aM ((q7z HB : w.heap.size ≤ gb1)); have GE1 := aM ((q7z HB : w.heap.size ≤ gb1)); replace HB := aM (ym (q5z HB) hb); clear hb hbox hg; obtain ⟨i1_0, i1_1, j1_0, j1_1⟩ := cells2 BK1.out; have p1 : 0 ≤ (x1_1 : Int) := zod; have q1 : x1_1 < (l1.length : Int) := zod; obtain ⟨ad1, e1, hx1_0⟩ := Kd.at_int HR2.out x1_1 p1 q1; cases e1; have hn1_0 : ad1.block ≠ gb1 := Nat.ne_of_lt (Nat.lt_of_lt_of_le q26z GW1.out); have hn1_1 : ad1.block ≠ gb1 := Nat.ne_of_lt (Nat.lt_of_lt_of_le q26z GW1.out); replace hx1_0 := zx HB hx1_0; replace hx1_0 := (zf 0 hn1_0 (.string ((rd_T47 l0 x1_1).f0))).trans hx1_0; replace hx1_0 := (zf 1 hn1_1 (.int .i64 ((rd_T47 l0 x1_1).f1))).trans hx1_0; clear hn1_0 hn1_1; replace p1 := eq_true p1; replace q1 := eq_true q1) | (go_at_call 28; (with_reducible refine (net_Right_1.calls ((rd_T47 l0 x1_1).f0) ((rd_T47 l0 x1_1).f1) (rd l1 x1_1) false _ A3.out).mono ?_); rintro e w2 ⟨rfl, hb⟩; replace BK1 := aM (yi (g := gb1) (o := .cells #[.string ((rd_T47 l0 x1_1).f0), .int .i64 ((rd_T47 l0 x1_1).f1)] 47 (0, 0)) (q68z BK1) hb); replace HB := aM (ym (q4z HB GE1) hb); (try clear hb); (try clear hb2); (try clear hk); (try clear hi)))
         go_ret
         exact ⟨q11z, q4z HB GE1⟩
       ·rw [if_neg c7] at H; exact absurd H (by simp)
      ·rw [if_neg c6] at H; exact absurd H (by simp)
     ·rw [if_neg c5] at H; exact absurd H (by simp)
    ·rw [if_neg c4] at H; have c1b0 := decide_eq_false c4; clear c4; obtain rfl := Option.some.inj H; go_wp2
     go_ret
     exact ⟨q11z, q5z HB⟩
 ·rw [if_neg c2] at H; obtain ⟨c1b0, c1b1⟩ := zne c2; have c1b2 : (l0.length == l1.length) = false := by first | simpa using c2 | (simp at c2 ⊢; omega)
  obtain rfl := Option.some.inj H; go_enter Try.func30, Try.ntmps30
  go_wp2
  go_ret
  exact ⟨q11z, q5z HB⟩
def net_places.l0 : Nat → Int → List Int → List (S41) → Int → Int → Option (List Int)
 | 0, _, _, _, _, _ => none
 | k + 1, x1, x5, x9, x10, x11 => if x11 < x10 then (if 0 ≤ x11 then (if x11 < (x9.length : Int) then (if ((rd_T41 x9 x11).f0) = x1 then (if x5.length < 17592186044416 then (net_places.l0 k x1 (x5 ++ [x11]) x9 x10 (wrap64 (x11 + 1))) else (none)) else (net_places.l0 k x1 x5 x9 x10 (wrap64 (x11 + 1)))) else (none)) else (none)) else (some x5)
def net_places.f (k : Nat) (l0_0 : List (S41)) (l0_1 : List (S47)) (l0_2 : List (S43)) (l0_3 : List (S61)) (l0_4 : List (S47)) (a1 : Int) : Option (List Int) := net_places.l0 k a1 ([] : List Int) l0_0 (l0_0.length : Int) 0
theorem net_places.mono_l : ∀ k, (∀ y0 y1 y2 y3 y4, LeO (net_places.l0 k y0 y1 y2 y3 y4) (net_places.l0 (k + 1) y0 y1 y2 y3 y4))
 | 0 => fun _ _ _ _ _ r h => by simp [net_places.l0] at h
 | k + 1 => by
  have ih0 := net_places.mono_l k
  ·intro y0 y1 y2 y3 y4
   unfold net_places.l0
   repeat' first | (with_reducible first | apply ih0 | exact LeO.refl _ | exact LeO.none _ | refine LeO.ite ?_ ?_ | refine LeO.bind ?_ (fun _ => ?_)) | exact LeO.none _ | refine LeO.ite ?_ ?_ | refine LeO.bind ?_ (fun _ => ?_)
theorem net_places.mono : ∀ a0 a1 a2 a3 a4 a5 k, LeO (net_places.f k a0 a1 a2 a3 a4 a5) (net_places.f (k + 1) a0 a1 a2 a3 a4 a5) := by
 intro a0 a1 a2 a3 a4 a5 k
 have ih1 := net_places.mono_l k; unfold net_places.f
 repeat' first | (with_reducible first | apply ih1 | exact LeO.refl _ | exact LeO.none _ | refine LeO.ite ?_ ?_ | refine LeO.bind ?_ (fun _ => ?_)) | exact LeO.none _ | refine LeO.ite ?_ ?_ | refine LeO.bind ?_ (fun _ => ?_)
theorem net_places.calls (k : Nat) (A0_0 : Option Addr) (c0_0 : Nat) (l0_0 : List (S41)) (A0_1 : Option Addr) (c0_1 : Nat) (l0_1 : List (S47)) (A0_2 : Option Addr) (c0_2 : Nat) (l0_2 : List (S43)) (A0_3 : Option Addr) (c0_3 : Nat) (l0_3 : List (S61)) (A0_4 : Option Addr) (c0_4 : Nat) (l0_4 : List (S47)) (a1 : Int) (r : List Int) (w : World) (hr0_0 : Kd.C k41 w A0_0 l0_0.length l0_0) (hc0_0 : l0_0.length ≤ c0_0) (hr0_1 : Kd.C k47 w A0_1 l0_1.length l0_1) (hc0_1 : l0_1.length ≤ c0_1) (hr0_2 : Kd.C k43 w A0_2 l0_2.length l0_2) (hc0_2 : l0_2.length ≤ c0_2) (hr0_3 : Kd.C k61 w A0_3 l0_3.length l0_3) (hc0_3 : l0_3.length ≤ c0_3) (hr0_4 : Kd.C k47 w A0_4 l0_4.length l0_4) (hc0_4 : l0_4.length ≤ c0_4) (h : net_places.f k l0_0 l0_1 l0_2 l0_3 l0_4 a1 = some r) :
  Calls Try.prog 31 #[.agg #[.slice A0_0 l0_0.length c0_0, .slice A0_1 l0_1.length c0_1, .slice A0_2 l0_2.length c0_2, .slice A0_3 l0_3.length c0_3, .slice A0_4 l0_4.length c0_4], .int .i64 a1] w fun e w' => ∃ v0_ : Value, e = .returned (v0_) ∧ Kd.R (Kd.int .i64) 3 w' w.heap.size (fun _ => True) v0_ r ∧ Below w.heap.size w w' := by
 have hu1 := Try.underlying27; have hu1 := Try.underlying41; have HR1_0 := aM hr0_0; have HC1_0 := aM hc0_0; clear hr0_0 hc0_0; have HR1_1 := aM hr0_1; have HC1_1 := aM hc0_1; clear hr0_1 hc0_1; have HR1_2 := aM hr0_2; have HC1_2 := aM hc0_2; clear hr0_2 hc0_2; have HR1_3 := aM hr0_3; have HC1_3 := aM hc0_3; clear hr0_3 hc0_3; have HR1_4 := aM hr0_4; have HC1_4 := aM hc0_4; clear hr0_4 hc0_4; have HB := aM (Below.refl w.heap.size w); have H : (net_places.l0 k a1 ([] : List Int) l0_0 (l0_0.length : Int) 0) = some r := h; clear h; have H' := aM H; clear H; go_enter Try.func31, Try.ntmps31
 go_wp2_with (first | ((with_reducible refine zgd 2 rfl ?_); refine zbox 2 #[.slice A0_0 l0_0.length c0_0, .slice A0_1 l0_1.length c0_1, .slice A0_2 l0_2.length c0_2, .slice A0_3 l0_3.length c0_3, .slice A0_4 l0_4.length c0_4] 27 ?_; intro gb1 hg w1 hbox hb; have BK1 := aM (hbox); have GW1 := aM ((q7z HB : w.heap.size ≤ gb1)); have GE1 := aM ((q7z HB : w.heap.size ≤ gb1)); replace HB := aM (ym (q5z HB) hb); clear hb hbox hg; obtain ⟨i1_0, i1_1, i1_2, i1_3, i1_4, j1_0, j1_1, j1_2, j1_3, j1_4⟩ := cells5 BK1.out))
 go_loopg [5, 11] k (fun kq v1 v2 w' => ∃ (x1_1 : List Int) (x2_1 : Int), v2 = .int .i64 x2_1 ∧ Aside0 (net_places.l0 kq a1 x1_1 l0_0 (l0_0.length : Int) x2_1 = some r) ∧ Aside0 (kq ≤ k) ∧ Aside0 (Kd.R (Kd.int .i64) 3 w' w.heap.size (fun _ => True) v1 x1_1) ∧ Aside0 (w'.heap[gb1]? = some (.cells #[(.slice A0_0 l0_0.length c0_0), (.slice A0_1 l0_1.length c0_1), (.slice A0_2 l0_2.length c0_2), (.slice A0_3 l0_3.length c0_3), (.slice A0_4 l0_4.length c0_4)] 27 (0, 0))) ∧ Aside0 (Below w.heap.size w w'))
 case atStart => exact ⟨(([] : List Int)), (0), q13z, H', ⟨Nat.le_refl _⟩, ⟨q57z⟩, ⟨q10z BK1⟩, ⟨q4z HB GE1⟩⟩
 case round =>
  clear H'; try clear p2
  try clear c3
  try clear i1_0 i1_1 i1_2 i1_3 i1_4 j1_0 j1_1 j1_2 j1_3 j1_4
  obtain ⟨x1_1, x2_1, rfl, HA, HK1, HO_1, BK1, HB⟩ := hrel; cases gk with
  | zero => exact absurd HA.out (by simp [net_places.l0])
  | succ k1 =>
   have H := HA.out; clear HA; simp only [net_places.l0] at H; by_cases c1 : x2_1 < (l0_0.length : Int)
   ·rw [if_pos c1] at H; have c1b0 := decide_eq_true c1; clear c1; by_cases c2 : 0 ≤ x2_1
    ·rw [if_pos c2] at H; have c1b0 := decide_eq_true c2; clear c2; by_cases c4 : x2_1 < (l0_0.length : Int)
     ·rw [if_pos c4] at H; have c1b0 := decide_eq_true c4; clear c4; by_cases c5 : ((rd_T41 l0_0 x2_1).f0) = a1
      ·rw [if_pos c5] at H; obtain ⟨c1b0, c1b1⟩ := zeq c5; clear c5; by_cases c6 : x1_1.length < 17592186044416
       ·rw [if_pos c6] at H; have LMc1 := aM c6; clear c6; obtain ⟨y1, hy1⟩ : ∃ y_ : List Int, y_ = (x1_1 ++ [x2_1]) := ⟨_, rfl⟩; replace H : (net_places.l0 k1 a1 y1 l0_0 (l0_0.length : Int) (wrap64 (x2_1 + 1))) = some r := by first | (rw [hy1]; with_reducible exact H) | (have H1_ := (Option.bind_some _ _).symm.trans H; rw [hy1]; with_reducible exact H1_) | (have H1_ := (Option.bind_some _ _).symm.trans H; with_reducible exact H1_) | with_reducible exact H | (rw [hy1]; exact H) | exact H
        have Ny1 := aM hy1; clear hy1; have H' := aM H; clear H; have p1 : 0 ≤ (x2_1 : Int) := zod; have q1 : x2_1 < (l0_0.length : Int) := zod; obtain ⟨ad1, e1, hx1_0, hx1_1, hx1_2, hx1_3, hx1_4, hx1_5, hx1_6⟩ := at_T41 HR1_0.out x2_1 p1 q1; cases e1; replace hx1_0 := zx HB hx1_0; replace hx1_1 := zx HB hx1_1; replace hx1_2 := zx HB hx1_2; replace hx1_3 := zx HB hx1_3; replace hx1_4 := zx HB hx1_4; replace hx1_5 := zx HB hx1_5; replace hx1_6 := zx HB hx1_6; replace p1 := eq_true p1; replace q1 := eq_true q1; go_wp2_with (first | ((with_reducible refine zgd 7 rfl ?_); refine zbox 7 #[.int .i64 0, .int .i64 0, .int .i64 0, .int .i64 0, .int .i64 0, .int .i64 0, .int .i64 0] 41 ?_; intro gb2 hg w1 hbox hb; replace HO_1 := aM (yr (q2z HO_1) hb); have BK2 := aM (hbox); have GW1 := aM ((q12z HB GE1 : w.heap.size ≤ gb2)); have GE2 := aM ((q12z HB GE1 : w.heap.size ≤ gb2)); replace HB := aM (ym (q4z HB GE1) hb); have NB1_157 := aM ((q34z BK1 : gb1 ≠ gb2)); have NB1_155 := aM ((q35z BK1 : gb2 ≠ gb1)); replace BK1 := aM (yi (zi BK1) hb); clear hb hbox hg; have hnb1 := NB1_155.out; have hnc1 := NB1_157.out; obtain ⟨i1_0, i1_1, i1_2, i1_3, i1_4, i1_5, i1_6, j1_0, j1_1, j1_2, j1_3, j1_4, j1_5, j1_6⟩ := cells7 BK2.out) | ((with_reducible refine gate_builtin (b := .append) (xs := #[.tmp 20, .tmp 22]) rfl ?_); at_builtin; refine Kd.R_append (Kd.int .i64) (w0 := w) w.heap.size rfl (.tmp 20) (.tmp 22) 32 3 (.int .i64 0) 8 rfl Try.underlying32 info3 rfl (by decide) (by omega) u5 x1_1 x2_1 [.int .i64 x2_1] (fun _ => True) (fun _ => False) rfl q30z ?aP (fun _ hk => hk.elim) ?aF ?aO ?aB ?aS ?aL ?_; (case aP => exact rfl); (case aB => exact q51z HB GE1 GE2); (case aF => exact q84z); (case aO => exact (q46z HO_1 BK2)); (case aS => exact q49z HB GE1 GE2); (case aL => have := LMc1.out; omega); intro v1 w2 ho hb hg hat; rw [← Ny1.out] at ho; replace BK1 := aM (blk_grown (g := gb1) (o := .cells #[.slice (some ad1) l0_0.length c0_0, .slice A0_1 l0_1.length c0_1, .slice A0_2 l0_2.length c0_2, .slice A0_3 l0_3.length c0_3, .slice A0_4 l0_4.length c0_4] 27 (0, 0)) (q8z NB1_157 BK1) hg (Kd.R_ne HO_1.out BK1.out (by decide))); replace BK2 := aM (blk_grown (g := gb2) (o := .cells #[.int .i64 ((rd_T41 l0_0 x2_1).f0), .int .i64 ((rd_T41 l0_0 x2_1).f1), .int .i64 ((rd_T41 l0_0 x2_1).f2), .int .i64 ((rd_T41 l0_0 x2_1).f3), .int .i64 ((rd_T41 l0_0 x2_1).f4), .int .i64 ((rd_T41 l0_0 x2_1).f5), .int .i64 ((rd_T41 l0_0 x2_1).f6)] 41 (0, 0)) (q98z BK2) hg (Kd.R_ne HO_1.out BK2.out (by decide))); replace HB := aM (hb); have HO1 := aM (ho); clear HO_1; clear ho hb hg hat))
        go_roundg k1
        case measure => have := HK1.out; omega
        case rel => exact ⟨(y1), (wrap64 (x2_1 + 1)), q13z, H', ⟨by have := HK1.out; omega⟩, ⟨q2z HO1⟩, ⟨q10z BK1⟩, ⟨q3z HB GE1 GE2⟩⟩
       ·rw [if_neg c6] at H; exact absurd H (by simp)
      ·rw [if_neg c5] at H; obtain ⟨c1b0, c1b1⟩ := zne c5; have H' := aM H; clear H; have p1 : 0 ≤ (x2_1 : Int) := zod; have q1 : x2_1 < (l0_0.length : Int) := zod; obtain ⟨ad1, e1, hx1_0, hx1_1, hx1_2, hx1_3, hx1_4, hx1_5, hx1_6⟩ := at_T41 HR1_0.out x2_1 p1 q1; cases e1; replace hx1_0 := zx HB hx1_0; replace hx1_1 := zx HB hx1_1; replace hx1_2 := zx HB hx1_2; replace hx1_3 := zx HB hx1_3; replace hx1_4 := zx HB hx1_4; replace hx1_5 := zx HB hx1_5; replace hx1_6 := zx HB hx1_6; replace p1 := eq_true p1; replace q1 := eq_true q1; go_wp2_with (first | ((with_reducible refine zgd 7 rfl ?_); refine zbox 7 #[.int .i64 0, .int .i64 0, .int .i64 0, .int .i64 0, .int .i64 0, .int .i64 0, .int .i64 0] 41 ?_; intro gb2 hg w1 hbox hb; replace HO_1 := aM (yr (q2z HO_1) hb); have BK2 := aM (hbox); have GW1 := aM ((q12z HB GE1 : w.heap.size ≤ gb2)); have GE2 := aM ((q12z HB GE1 : w.heap.size ≤ gb2)); replace HB := aM (ym (q4z HB GE1) hb); have NB1_157 := aM ((q34z BK1 : gb1 ≠ gb2)); have NB1_155 := aM ((q35z BK1 : gb2 ≠ gb1)); replace BK1 := aM (yi (zi BK1) hb); clear hb hbox hg; have hnb1 := NB1_155.out; have hnc1 := NB1_157.out; obtain ⟨i1_0, i1_1, i1_2, i1_3, i1_4, i1_5, i1_6, j1_0, j1_1, j1_2, j1_3, j1_4, j1_5, j1_6⟩ := cells7 BK2.out))
       go_roundg k1
       case measure => have := HK1.out; omega
       case rel => exact ⟨(x1_1), (wrap64 (x2_1 + 1)), q13z, H', ⟨by have := HK1.out; omega⟩, ⟨q46z HO_1 BK2⟩, ⟨q8z NB1_157 BK1⟩, ⟨q3z HB GE1 GE2⟩⟩
     ·rw [if_neg c4] at H; exact absurd H (by simp)
    ·rw [if_neg c2] at H; exact absurd H (by simp)
   ·rw [if_neg c1] at H; have c1b0 := decide_eq_false c1; clear c1; obtain rfl := Option.some.inj H; go_wp2
    go_ret
    exact ⟨_, q11z, q2z HO_1, q4z HB GE1⟩
def api_Cell_int.l0 : Nat → List Int → List (S43) → Int → Int → Option (Bool)
 | 0, _, _, _, _ => none
 | k + 1, x1, x15, x16, x17 => if x17 < x16 then (if 0 ≤ x17 then (if x17 < (x15.length : Int) then (if x17 < (x1.length : Int) then ((net_Right_2.f ((rd_T43 x15 x17).f0) ((rd_T43 x15 x17).f1) ((rd_T43 x15 x17).f2) ((rd_T43 x15 x17).f3) (rd x1 x17)).bind fun t164 => (if t164 = true then (api_Cell_int.l0 k x1 x15 x16 (wrap64 (x17 + 1))) else (some false))) else (none)) else (none)) else (none)) else (some true)
def api_Cell_int.f (k : Nat) (l0 : List (S43)) (l1 : List Int) (a2 : Int) : Option (Bool) := if (l0.length : Int) = (l1.length : Int) then (api_Cell_int.l0 k l1 l0 (l0.length : Int) 0) else (some false)
theorem api_Cell_int.mono_l : ∀ k, (∀ y0 y1 y2 y3, LeO (api_Cell_int.l0 k y0 y1 y2 y3) (api_Cell_int.l0 (k + 1) y0 y1 y2 y3))
 | 0 => fun _ _ _ _ r h => by simp [api_Cell_int.l0] at h
 | k + 1 => by
  have ih0 := api_Cell_int.mono_l k
  ·intro y0 y1 y2 y3
   unfold api_Cell_int.l0
   repeat' first | (with_reducible first | apply ih0 | exact LeO.refl _ | exact LeO.none _ | refine LeO.ite ?_ ?_ | refine LeO.bind ?_ (fun _ => ?_)) | exact LeO.none _ | refine LeO.ite ?_ ?_ | refine LeO.bind ?_ (fun _ => ?_)
theorem api_Cell_int.mono : ∀ a0 a1 a2 k, LeO (api_Cell_int.f k a0 a1 a2) (api_Cell_int.f (k + 1) a0 a1 a2) := by
 intro a0 a1 a2 k
 have ih1 := api_Cell_int.mono_l k; unfold api_Cell_int.f
 repeat' first | (with_reducible first | apply ih1 | exact LeO.refl _ | exact LeO.none _ | refine LeO.ite ?_ ?_ | refine LeO.bind ?_ (fun _ => ?_)) | exact LeO.none _ | refine LeO.ite ?_ ?_ | refine LeO.bind ?_ (fun _ => ?_)
theorem api_Cell_int.calls (k : Nat) (A0 : Option Addr) (c0 : Nat) (l0 : List (S43)) (A1 : Option Addr) (c1 : Nat) (l1 : List Int) (a2 : Int) (r : Bool) (w : World) (hr0 : Kd.C k43 w A0 l0.length l0) (hc0 : l0.length ≤ c0) (hr1 : Kd.C (Kd.int .i64) w A1 l1.length l1) (hc1 : l1.length ≤ c1) (h : api_Cell_int.f k l0 l1 a2 = some r) :
  Calls Try.prog 32 #[.slice A0 l0.length c0, .slice A1 l1.length c1, .func (.func 29) #[] #[]] w fun e w' => e = .returned (.bool r) ∧ Below w.heap.size w w' := by
 have hu1 := Try.underlying43; have HR1 := aM hr0; have HC1 := aM hc0; clear hr0 hc0; have HR2 := aM hr1; have HC1 := aM hc1; clear hr1 hc1; have HB := aM (Below.refl w.heap.size w); have H : (if (l0.length : Int) = (l1.length : Int) then (api_Cell_int.l0 k l1 l0 (l0.length : Int) 0) else (some false)) = some r := h; clear h; by_cases c2 : (l0.length : Int) = (l1.length : Int)
 ·rw [if_pos c2] at H; obtain ⟨c1b0, c1b1⟩ := zeq c2; have c1b2 : (l0.length == l1.length) = true := by first | simpa using c2 | (simp at c2 ⊢; omega)
  clear c2; have H' := aM H; clear H; go_enter Try.func32, Try.ntmps32
  go_wp2
  go_loopg [17] k (fun kq v1 w' => ∃ (x1_1 : Int), v1 = .int .i64 x1_1 ∧ Aside0 (api_Cell_int.l0 kq l1 l0 (l0.length : Int) x1_1 = some r) ∧ Aside0 (kq ≤ k) ∧ Aside0 (Below w.heap.size w w'))
  case atStart => exact ⟨(0), q13z, H', ⟨Nat.le_refl _⟩, ⟨q5z HB⟩⟩
  case round =>
   clear H'; try clear c1
   try clear p2
   try clear c3
   try clear c2
   try clear c1b0
   try clear c1b1
   try clear c1b2
   obtain ⟨x1_1, rfl, HA, HK1, HB⟩ := hrel; cases gk with
   | zero => exact absurd HA.out (by simp [api_Cell_int.l0])
   | succ k1 =>
    have H := HA.out; clear HA; simp only [api_Cell_int.l0] at H; by_cases c4 : x1_1 < (l0.length : Int)
    ·rw [if_pos c4] at H; have c1b0 := decide_eq_true c4; clear c4; by_cases c5 : 0 ≤ x1_1
     ·rw [if_pos c5] at H; have c1b0 := decide_eq_true c5; clear c5; by_cases c6 : x1_1 < (l0.length : Int)
      ·rw [if_pos c6] at H; have c1b0 := decide_eq_true c6; clear c6; by_cases c7 : x1_1 < (l1.length : Int)
       ·rw [if_pos c7] at H; have c1b0 := decide_eq_true c7; clear c7; replace H := Option.bind_eq_some_iff.mp H; obtain ⟨t1, A2, H⟩ := H; have A3 := aM A2; clear A2; by_cases c8 : t1 = true
        ·subst c8; have H1 : (api_Cell_int.l0 k1 l1 l0 (l0.length : Int) (wrap64 (x1_1 + 1))) = some r := by rw [if_pos rfl] at H; exact H
         clear H; have H := H1; clear H1; have H' := aM H; clear H; have p1 : 0 ≤ (x1_1 : Int) := zod; have q1 : x1_1 < (l0.length : Int) := zod; obtain ⟨ad1, e1, hx1_0, hx1_1, hx1_2, hx1_3⟩ := at_T43 HR1.out x1_1 p1 q1; cases e1; replace hx1_0 := zx HB hx1_0; replace hx1_1 := zx HB hx1_1; replace hx1_2 := zx HB hx1_2; replace hx1_3 := zx HB hx1_3; replace p1 := eq_true p1; replace q1 := eq_true q1; go_wp2_with (first | ((with_reducible refine zgd 8 rfl ?_); refine zbox 8 #[.string (⟨#[]⟩ : ByteArray), .int .i64 0, .int .i64 0, .int .i64 0] 43 ?_; intro gb1 hg w1 hbox hb; have BK1 := aM (hbox); have GW1 := aM ((q7z HB : w.heap.size ≤ gb1)); have GE1 := aM ((q7z HB : w.heap.size ≤ gb1)); replace HB := aM (ym (q5z HB) hb); clear hb hbox hg; obtain ⟨i1_0, i1_1, i1_2, i1_3, j1_0, j1_1, j1_2, j1_3⟩ := cells4 BK1.out; have p1 : 0 ≤ (x1_1 : Int) := zod; have q1 : x1_1 < (l1.length : Int) := zod; obtain ⟨ad1, e1, hx1_0⟩ := Kd.at_int HR2.out x1_1 p1 q1; cases e1; have hn1_0 : ad1.block ≠ gb1 := Nat.ne_of_lt (Nat.lt_of_lt_of_le q26z GW1.out); have hn1_1 : ad1.block ≠ gb1 := Nat.ne_of_lt (Nat.lt_of_lt_of_le q26z GW1.out); have hn1_2 : ad1.block ≠ gb1 := Nat.ne_of_lt (Nat.lt_of_lt_of_le q26z GW1.out); have hn1_3 : ad1.block ≠ gb1 := Nat.ne_of_lt (Nat.lt_of_lt_of_le q26z GW1.out); replace hx1_0 := zx HB hx1_0; replace hx1_0 := (zf 0 hn1_0 (.string ((rd_T43 l0 x1_1).f0))).trans hx1_0; replace hx1_0 := (zf 1 hn1_1 (.int .i64 ((rd_T43 l0 x1_1).f1))).trans hx1_0; replace hx1_0 := (zf 2 hn1_2 (.int .i64 ((rd_T43 l0 x1_1).f2))).trans hx1_0; replace hx1_0 := (zf 3 hn1_3 (.int .i64 ((rd_T43 l0 x1_1).f3))).trans hx1_0; clear hn1_0 hn1_1 hn1_2 hn1_3; replace p1 := eq_true p1; replace q1 := eq_true q1) | (go_at_call 29; (with_reducible refine (net_Right_2.calls ((rd_T43 l0 x1_1).f0) ((rd_T43 l0 x1_1).f1) ((rd_T43 l0 x1_1).f2) ((rd_T43 l0 x1_1).f3) (rd l1 x1_1) true _ A3.out).mono ?_); rintro e w2 ⟨rfl, hb⟩; replace BK1 := aM (yi (g := gb1) (o := .cells #[.string ((rd_T43 l0 x1_1).f0), .int .i64 ((rd_T43 l0 x1_1).f1), .int .i64 ((rd_T43 l0 x1_1).f2), .int .i64 ((rd_T43 l0 x1_1).f3)] 43 (0, 0)) (q39z BK1) hb); replace HB := aM (ym (q4z HB GE1) hb); (try clear hb); (try clear hb2); (try clear hk); (try clear hi)))
         go_roundg k1
         case measure => have := HK1.out; omega
         case rel => exact ⟨(wrap64 (x1_1 + 1)), q13z, H', ⟨by have := HK1.out; omega⟩, ⟨q4z HB GE1⟩⟩
        ·replace c8 := Bool.eq_false_iff.mpr c8; subst c8; have H1 : (some false) = some r := by rw [if_neg (show ¬ (false = true) by decide)] at H; exact H
         clear H; have H := H1; clear H1; obtain rfl := Option.some.inj H; have p1 : 0 ≤ (x1_1 : Int) := zod; have q1 : x1_1 < (l0.length : Int) := zod; obtain ⟨ad1, e1, hx1_0, hx1_1, hx1_2, hx1_3⟩ := at_T43 HR1.out x1_1 p1 q1; cases e1; replace hx1_0 := zx HB hx1_0; replace hx1_1 := zx HB hx1_1; replace hx1_2 := zx HB hx1_2; replace hx1_3 := zx HB hx1_3; replace p1 := eq_true p1; replace q1 := eq_true q1; go_wp2_with (first | ((with_reducible refine zgd 8 rfl ?_); refine zbox 8 #[.string (⟨#[]⟩ : ByteArray), .int .i64 0, .int .i64 0, .int .i64 0] 43 ?_; intro gb1 hg w1 hbox hb; have BK1 := aM (hbox); have GW1 := aM ((q7z HB : w.heap.size ≤ gb1)); have GE1 := aM ((q7z HB : w.heap.size ≤ gb1)); replace HB := aM (ym (q5z HB) hb); clear hb hbox hg; obtain ⟨i1_0, i1_1, i1_2, i1_3, j1_0, j1_1, j1_2, j1_3⟩ := cells4 BK1.out; have p1 : 0 ≤ (x1_1 : Int) := zod; have q1 : x1_1 < (l1.length : Int) := zod; obtain ⟨ad1, e1, hx1_0⟩ := Kd.at_int HR2.out x1_1 p1 q1; cases e1; have hn1_0 : ad1.block ≠ gb1 := Nat.ne_of_lt (Nat.lt_of_lt_of_le q26z GW1.out); have hn1_1 : ad1.block ≠ gb1 := Nat.ne_of_lt (Nat.lt_of_lt_of_le q26z GW1.out); have hn1_2 : ad1.block ≠ gb1 := Nat.ne_of_lt (Nat.lt_of_lt_of_le q26z GW1.out); have hn1_3 : ad1.block ≠ gb1 := Nat.ne_of_lt (Nat.lt_of_lt_of_le q26z GW1.out); replace hx1_0 := zx HB hx1_0; replace hx1_0 := (zf 0 hn1_0 (.string ((rd_T43 l0 x1_1).f0))).trans hx1_0; replace hx1_0 := (zf 1 hn1_1 (.int .i64 ((rd_T43 l0 x1_1).f1))).trans hx1_0; replace hx1_0 := (zf 2 hn1_2 (.int .i64 ((rd_T43 l0 x1_1).f2))).trans hx1_0; replace hx1_0 := (zf 3 hn1_3 (.int .i64 ((rd_T43 l0 x1_1).f3))).trans hx1_0; clear hn1_0 hn1_1 hn1_2 hn1_3; replace p1 := eq_true p1; replace q1 := eq_true q1) | (go_at_call 29; (with_reducible refine (net_Right_2.calls ((rd_T43 l0 x1_1).f0) ((rd_T43 l0 x1_1).f1) ((rd_T43 l0 x1_1).f2) ((rd_T43 l0 x1_1).f3) (rd l1 x1_1) false _ A3.out).mono ?_); rintro e w2 ⟨rfl, hb⟩; replace BK1 := aM (yi (g := gb1) (o := .cells #[.string ((rd_T43 l0 x1_1).f0), .int .i64 ((rd_T43 l0 x1_1).f1), .int .i64 ((rd_T43 l0 x1_1).f2), .int .i64 ((rd_T43 l0 x1_1).f3)] 43 (0, 0)) (q39z BK1) hb); replace HB := aM (ym (q4z HB GE1) hb); (try clear hb); (try clear hb2); (try clear hk); (try clear hi)))
         go_ret
         exact ⟨q11z, q4z HB GE1⟩
       ·rw [if_neg c7] at H; exact absurd H (by simp)
      ·rw [if_neg c6] at H; exact absurd H (by simp)
     ·rw [if_neg c5] at H; exact absurd H (by simp)
    ·rw [if_neg c4] at H; have c1b0 := decide_eq_false c4; clear c4; obtain rfl := Option.some.inj H; go_wp2
     go_ret
     exact ⟨q11z, q5z HB⟩
 ·rw [if_neg c2] at H; obtain ⟨c1b0, c1b1⟩ := zne c2; have c1b2 : (l0.length == l1.length) = false := by first | simpa using c2 | (simp at c2 ⊢; omega)
  obtain rfl := Option.some.inj H; go_enter Try.func32, Try.ntmps32
  go_wp2
  go_ret
  exact ⟨q11z, q5z HB⟩
mutual
def net_cells.l0 : Nat → Int → List (S43) → Int → Int → List (S41) → List (S47) → List (S43) → List (S61) → List (S47) → Option (Bool)
 | 0, _, _, _, _, _, _, _, _, _ => none
 | k + 1, x3, x8, x9, x10, x166000, x166001, x166002, x166003, x166004 => if x10 < x9 then (if 0 ≤ x10 then (if x10 < (x8.length : Int) then (if 0 ≤ ((rd_T43 x8 x10).f1) then (if ((rd_T43 x8 x10).f1) < (x166000.length : Int) then ((net_width.f x166000 x166001 x166002 x166003 x166004 ((rd_T43 x8 x10).f2) (x166000.length : Int)).bind fun t169 => (if t169 = ((rd_T41 x166000 ((rd_T43 x8 x10).f1)).f1) then (if ((rd_T43 x8 x10).f3) < 0 then (net_cells.j1 k (wrap64 (x3 + ((rd_T41 x166000 ((rd_T43 x8 x10).f1)).f1))) x8 x9 x10 true x166000 x166001 x166002 x166003 x166004) else ((vec_Mask.f ((rd_T41 x166000 ((rd_T43 x8 x10).f1)).f1)).bind fun t170 => (net_cells.j1 k (wrap64 (x3 + ((rd_T41 x166000 ((rd_T43 x8 x10).f1)).f1))) x8 x9 x10 (decide (((rd_T43 x8 x10).f3) > t170)) x166000 x166001 x166002 x166003 x166004))) else (net_cells.j1 k (wrap64 (x3 + ((rd_T41 x166000 ((rd_T43 x8 x10).f1)).f1))) x8 x9 x10 true x166000 x166001 x166002 x166003 x166004))) else (none)) else (none)) else (none)) else (none)) else (some (decide (x3 ≤ 256)))
def net_cells.j1 : Nat → Int → List (S43) → Int → Int → Bool → List (S41) → List (S47) → List (S43) → List (S61) → List (S47) → Option (Bool)
 | 0, _, _, _, _, _, _, _, _, _, _ => none
 | k + 1, x3, x8, x9, x10, x44, x166000, x166001, x166002, x166003, x166004 => if x44 = true then (some false) else (net_cells.l0 k x3 x8 x9 (wrap64 (x10 + 1)) x166000 x166001 x166002 x166003 x166004)
end
def net_cells.f (k : Nat) (l0_0 : List (S41)) (l0_1 : List (S47)) (l0_2 : List (S43)) (l0_3 : List (S61)) (l0_4 : List (S47)) : Option (Bool) := net_cells.l0 k 0 l0_2 (l0_2.length : Int) 0 l0_0 l0_1 l0_2 l0_3 l0_4
theorem net_cells.mono_l : ∀ k, (∀ y0 y1 y2 y3 y4 y5 y6 y7 y8, LeO (net_cells.l0 k y0 y1 y2 y3 y4 y5 y6 y7 y8) (net_cells.l0 (k + 1) y0 y1 y2 y3 y4 y5 y6 y7 y8)) ∧ (∀ y0 y1 y2 y3 y4 y5 y6 y7 y8 y9, LeO (net_cells.j1 k y0 y1 y2 y3 y4 y5 y6 y7 y8 y9) (net_cells.j1 (k + 1) y0 y1 y2 y3 y4 y5 y6 y7 y8 y9))
 | 0 => ⟨fun _ _ _ _ _ _ _ _ _ r h => by simp [net_cells.l0] at h, fun _ _ _ _ _ _ _ _ _ _ r h => by simp [net_cells.j1] at h⟩
 | k + 1 => by
  obtain ⟨ih0, ih1⟩ := net_cells.mono_l k; refine ⟨?_, ?_⟩ <;> intros <;> (first | unfold net_cells.l0 | unfold net_cells.j1) <;> repeat' first | (with_reducible first | apply ih0 | apply ih1 | exact LeO.refl _ | exact LeO.none _ | refine LeO.ite ?_ ?_ | refine LeO.bind ?_ (fun _ => ?_)) | exact LeO.none _ | refine LeO.ite ?_ ?_ | refine LeO.bind ?_ (fun _ => ?_)
theorem net_cells.mono : ∀ a0 a1 a2 a3 a4 k, LeO (net_cells.f k a0 a1 a2 a3 a4) (net_cells.f (k + 1) a0 a1 a2 a3 a4) := by
 intro a0 a1 a2 a3 a4 k
 obtain ⟨ih1, ih2⟩ := net_cells.mono_l k; unfold net_cells.f
 repeat' first | (with_reducible first | apply ih1 | apply ih2 | exact LeO.refl _ | exact LeO.none _ | refine LeO.ite ?_ ?_ | refine LeO.bind ?_ (fun _ => ?_)) | exact LeO.none _ | refine LeO.ite ?_ ?_ | refine LeO.bind ?_ (fun _ => ?_)
def net_cells.T7 : Bool × List (List Nat × List Nat) := (true, [([], []), ([], []), ([1], [1]), ([], []), ([3], [3]), ([4], [4]), ([0, 2, 5], [0, 2, 5]), ([], []), ([6, 7], [6, 7]), ([8, 6], [8]), ([9], [9]), ([10, 9], [9, 10]), ([11, 9], [9, 11]), ([9, 12], [9, 12]), ([13, 9], [13]), ([14], [14]), ([15, 14], [14, 15]), ([14], [14]), ([17, 14, 14], [14, 17]), ([16, 18, 14], [14, 16, 18]), ([14, 19], [14, 19])])
def net_cells.B7 : List Nat := [0, 0, 2, 0, 8, 24, 63, 0, 255, 511, 1023, 2047, 4095, 8191, 16383, 32767, 65535, 32767, 163839, 524287, 1048575]
theorem net_cells.tab7 : rtab .any (opsOf Try.f33 7) = net_cells.T7 := by kernel_rfl
theorem net_cells.bits7 : waitsOk net_cells.T7.2 net_cells.B7 = true := by kernel_rfl
theorem z47_1 {P : Prop} (h : P := by
 refine zpu 13 37 (zb 21 16383) ?_; refine zpu 14 38 (zb 21 32767) ?_; refine zpn 15 39 (zb 21 65535) ?_; refine zpn 16 40 (zb 21 131071) ?_; refine zpn 17 41 (zb 21 262143) ?_; refine zpn 18 42 (zb 21 524287) ?_; refine zpn 19 43 (zb 21 1048575) ?_; refine zpu 20 44 (zb 21 2097151) ?_; refine zdo ?_; try go_wp2
 go_meet
 case rel => exact ⟨_, (true), q13z, H', ⟨q55z HK1⟩, ⟨q10z BK1⟩, ⟨q10z BK2⟩, ⟨q3z HB GE1 GE2⟩⟩) : P := h
theorem net_cells.calls (k : Nat) (A0_0 : Option Addr) (c0_0 : Nat) (l0_0 : List (S41)) (A0_1 : Option Addr) (c0_1 : Nat) (l0_1 : List (S47)) (A0_2 : Option Addr) (c0_2 : Nat) (l0_2 : List (S43)) (A0_3 : Option Addr) (c0_3 : Nat) (l0_3 : List (S61)) (A0_4 : Option Addr) (c0_4 : Nat) (l0_4 : List (S47)) (r : Bool) (w : World) (hr0_0 : Kd.C k41 w A0_0 l0_0.length l0_0) (hc0_0 : l0_0.length ≤ c0_0) (hr0_1 : Kd.C k47 w A0_1 l0_1.length l0_1) (hc0_1 : l0_1.length ≤ c0_1) (hr0_2 : Kd.C k43 w A0_2 l0_2.length l0_2) (hc0_2 : l0_2.length ≤ c0_2) (hr0_3 : Kd.C k61 w A0_3 l0_3.length l0_3) (hc0_3 : l0_3.length ≤ c0_3) (hr0_4 : Kd.C k47 w A0_4 l0_4.length l0_4) (hc0_4 : l0_4.length ≤ c0_4) (h : net_cells.f k l0_0 l0_1 l0_2 l0_3 l0_4 = some r) :
  Calls Try.prog 33 #[.agg #[.slice A0_0 l0_0.length c0_0, .slice A0_1 l0_1.length c0_1, .slice A0_2 l0_2.length c0_2, .slice A0_3 l0_3.length c0_3, .slice A0_4 l0_4.length c0_4]] w fun e w' => e = .returned (.bool r) ∧ Below w.heap.size w w' := by
 have hu1 := Try.underlying27; have hu1 := Try.underlying43; have HR1_0 := aM hr0_0; have HC1_0 := aM hc0_0; clear hr0_0 hc0_0; have HR1_1 := aM hr0_1; have HC1_1 := aM hc0_1; clear hr0_1 hc0_1; have HR1_2 := aM hr0_2; have HC1_2 := aM hc0_2; clear hr0_2 hc0_2; have HR1_3 := aM hr0_3; have HC1_3 := aM hc0_3; clear hr0_3 hc0_3; have HR1_4 := aM hr0_4; have HC1_4 := aM hc0_4; clear hr0_4 hc0_4; have HB := aM (Below.refl w.heap.size w); have H : (net_cells.l0 k 0 l0_2 (l0_2.length : Int) 0 l0_0 l0_1 l0_2 l0_3 l0_4) = some r := h; clear h; have H' := aM H; clear H; go_enter Try.func33, Try.ntmps33
 go_wp2_with (first | ((with_reducible refine zgd 1 rfl ?_); refine zbox 1 #[.slice A0_0 l0_0.length c0_0, .slice A0_1 l0_1.length c0_1, .slice A0_2 l0_2.length c0_2, .slice A0_3 l0_3.length c0_3, .slice A0_4 l0_4.length c0_4] 27 ?_; intro gb1 hg w1 hbox hb; have BK1 := aM (hbox); have GW1 := aM ((q7z HB : w.heap.size ≤ gb1)); have GE1 := aM ((q7z HB : w.heap.size ≤ gb1)); replace HB := aM (ym (q5z HB) hb); clear hb hbox hg; obtain ⟨i1_0, i1_1, i1_2, i1_3, i1_4, j1_0, j1_1, j1_2, j1_3, j1_4⟩ := cells5 BK1.out))
 go_loopg [3, 10] k (fun kq v1 v2 w' => ∃ (x1_1 : Int) (x2_1 : Int), v1 = .int .i64 x1_1 ∧ v2 = .int .i64 x2_1 ∧ Aside0 (net_cells.l0 kq x1_1 l0_2 (l0_2.length : Int) x2_1 l0_0 l0_1 l0_2 l0_3 l0_4 = some r) ∧ Aside0 (kq ≤ k) ∧ Aside0 (w'.heap[gb1]? = some (.cells #[(.slice A0_0 l0_0.length c0_0), (.slice A0_1 l0_1.length c0_1), (.slice A0_2 l0_2.length c0_2), (.slice A0_3 l0_3.length c0_3), (.slice A0_4 l0_4.length c0_4)] 27 (0, 0))) ∧ Aside0 (Below w.heap.size w w'))
 case atStart => exact ⟨(0), (0), q13z, q13z, H', ⟨Nat.le_refl _⟩, ⟨q10z BK1⟩, ⟨q4z HB GE1⟩⟩
 case round =>
  clear H'; try clear p2
  try clear c3
  try clear i1_0 i1_1 i1_2 i1_3 i1_4 j1_0 j1_1 j1_2 j1_3 j1_4
  obtain ⟨x1_1, x2_1, rfl, rfl, HA, HK1, BK1, HB⟩ := hrel; cases gk with
  | zero => exact absurd HA.out (by simp [net_cells.l0])
  | succ k1 =>
   have H := HA.out; clear HA; simp only [net_cells.l0] at H; by_cases c2 : x2_1 < (l0_2.length : Int)
   ·rw [if_pos c2] at H; have c1b0 := decide_eq_true c2; clear c2; by_cases c4 : 0 ≤ x2_1
    ·rw [if_pos c4] at H; have c1b0 := decide_eq_true c4; clear c4; by_cases c5 : x2_1 < (l0_2.length : Int)
     ·rw [if_pos c5] at H; have c1b0 := decide_eq_true c5; clear c5; by_cases c6 : 0 ≤ ((rd_T43 l0_2 x2_1).f1)
      ·rw [if_pos c6] at H; have c1b0 := decide_eq_true c6; clear c6; by_cases c7 : ((rd_T43 l0_2 x2_1).f1) < (l0_0.length : Int)
       ·rw [if_pos c7] at H; have c1b0 := decide_eq_true c7; clear c7; have HC1 := aM H; clear H; have p1 : 0 ≤ (x2_1 : Int) := zod; have q1 : x2_1 < (l0_2.length : Int) := zod; obtain ⟨ad1, e1, hx1_0, hx1_1, hx1_2, hx1_3⟩ := at_T43 HR1_2.out x2_1 p1 q1; cases e1; replace hx1_0 := zx HB hx1_0; replace hx1_1 := zx HB hx1_1; replace hx1_2 := zx HB hx1_2; replace hx1_3 := zx HB hx1_3; replace p1 := eq_true p1; replace q1 := eq_true q1; go_upto_region 7 with (first | ((with_reducible refine zgd 5 rfl ?_); refine zbox 5 #[.string (⟨#[]⟩ : ByteArray), .int .i64 0, .int .i64 0, .int .i64 0] 43 ?_; intro gb2 hg w1 hbox hb; have BK2 := aM (hbox); have GW1 := aM ((q12z HB GE1 : w.heap.size ≤ gb2)); have GE2 := aM ((q12z HB GE1 : w.heap.size ≤ gb2)); replace HB := aM (ym (q4z HB GE1) hb); have NB1_167 := aM ((q34z BK1 : gb1 ≠ gb2)); have NB1_165 := aM ((q35z BK1 : gb2 ≠ gb1)); replace BK1 := aM (yi (zi BK1) hb); clear hb hbox hg; have hnb1 := NB1_165.out; have hnc1 := NB1_167.out; obtain ⟨i1_0, i1_1, i1_2, i1_3, j1_0, j1_1, j1_2, j1_3⟩ := cells4 BK2.out; obtain ⟨i2_0, i2_1, i2_2, i2_3, i1_4, j2_0, j2_1, j2_2, j2_3, j1_4⟩ := cells5 BK1.out; have p1 : 0 ≤ (((rd_T43 l0_2 x2_1).f1) : Int) := zod; have q1 : ((rd_T43 l0_2 x2_1).f1) < (l0_0.length : Int) := zod; obtain ⟨ad2, e1, hx1_0, hx1_1, hx1_2, hx1_3, hx1_4, hx1_5, hx1_6⟩ := at_T41 HR1_0.out ((rd_T43 l0_2 x2_1).f1) p1 q1; cases e1; have hn1_0 : ad2.block ≠ gb2 := Nat.ne_of_lt (Nat.lt_of_lt_of_le q26z GW1.out); have hn1_1 : ad2.block ≠ gb2 := Nat.ne_of_lt (Nat.lt_of_lt_of_le q26z GW1.out); have hn1_2 : ad2.block ≠ gb2 := Nat.ne_of_lt (Nat.lt_of_lt_of_le q26z GW1.out); have hn1_3 : ad2.block ≠ gb2 := Nat.ne_of_lt (Nat.lt_of_lt_of_le q26z GW1.out); replace hx1_0 := zx HB hx1_0; replace hx1_1 := zx HB hx1_1; replace hx1_2 := zx HB hx1_2; replace hx1_3 := zx HB hx1_3; replace hx1_4 := zx HB hx1_4; replace hx1_5 := zx HB hx1_5; replace hx1_6 := zx HB hx1_6; replace hx1_0 := (zf 0 hn1_0 (.string ((rd_T43 l0_2 x2_1).f0))).trans hx1_0; replace hx1_1 := (zf 0 hn1_0 (.string ((rd_T43 l0_2 x2_1).f0))).trans hx1_1; replace hx1_2 := (zf 0 hn1_0 (.string ((rd_T43 l0_2 x2_1).f0))).trans hx1_2; replace hx1_3 := (zf 0 hn1_0 (.string ((rd_T43 l0_2 x2_1).f0))).trans hx1_3; replace hx1_4 := (zf 0 hn1_0 (.string ((rd_T43 l0_2 x2_1).f0))).trans hx1_4; replace hx1_5 := (zf 0 hn1_0 (.string ((rd_T43 l0_2 x2_1).f0))).trans hx1_5; replace hx1_6 := (zf 0 hn1_0 (.string ((rd_T43 l0_2 x2_1).f0))).trans hx1_6; replace hx1_0 := (zf 1 hn1_1 (.int .i64 ((rd_T43 l0_2 x2_1).f1))).trans hx1_0; replace hx1_1 := (zf 1 hn1_1 (.int .i64 ((rd_T43 l0_2 x2_1).f1))).trans hx1_1; replace hx1_2 := (zf 1 hn1_1 (.int .i64 ((rd_T43 l0_2 x2_1).f1))).trans hx1_2; replace hx1_3 := (zf 1 hn1_1 (.int .i64 ((rd_T43 l0_2 x2_1).f1))).trans hx1_3; replace hx1_4 := (zf 1 hn1_1 (.int .i64 ((rd_T43 l0_2 x2_1).f1))).trans hx1_4; replace hx1_5 := (zf 1 hn1_1 (.int .i64 ((rd_T43 l0_2 x2_1).f1))).trans hx1_5; replace hx1_6 := (zf 1 hn1_1 (.int .i64 ((rd_T43 l0_2 x2_1).f1))).trans hx1_6; replace hx1_0 := (zf 2 hn1_2 (.int .i64 ((rd_T43 l0_2 x2_1).f2))).trans hx1_0; replace hx1_1 := (zf 2 hn1_2 (.int .i64 ((rd_T43 l0_2 x2_1).f2))).trans hx1_1; replace hx1_2 := (zf 2 hn1_2 (.int .i64 ((rd_T43 l0_2 x2_1).f2))).trans hx1_2; replace hx1_3 := (zf 2 hn1_2 (.int .i64 ((rd_T43 l0_2 x2_1).f2))).trans hx1_3; replace hx1_4 := (zf 2 hn1_2 (.int .i64 ((rd_T43 l0_2 x2_1).f2))).trans hx1_4; replace hx1_5 := (zf 2 hn1_2 (.int .i64 ((rd_T43 l0_2 x2_1).f2))).trans hx1_5; replace hx1_6 := (zf 2 hn1_2 (.int .i64 ((rd_T43 l0_2 x2_1).f2))).trans hx1_6; replace hx1_0 := (zf 3 hn1_3 (.int .i64 ((rd_T43 l0_2 x2_1).f3))).trans hx1_0; replace hx1_1 := (zf 3 hn1_3 (.int .i64 ((rd_T43 l0_2 x2_1).f3))).trans hx1_1; replace hx1_2 := (zf 3 hn1_3 (.int .i64 ((rd_T43 l0_2 x2_1).f3))).trans hx1_2; replace hx1_3 := (zf 3 hn1_3 (.int .i64 ((rd_T43 l0_2 x2_1).f3))).trans hx1_3; replace hx1_4 := (zf 3 hn1_3 (.int .i64 ((rd_T43 l0_2 x2_1).f3))).trans hx1_4; replace hx1_5 := (zf 3 hn1_3 (.int .i64 ((rd_T43 l0_2 x2_1).f3))).trans hx1_5; replace hx1_6 := (zf 3 hn1_3 (.int .i64 ((rd_T43 l0_2 x2_1).f3))).trans hx1_6; clear hn1_0 hn1_1 hn1_2 hn1_3; replace p1 := eq_true p1; replace q1 := eq_true q1))
        (try simp only [Act.put, yu, yv, yw])
        go_cut [44] (fun v1 wc => ∃ (kq : Nat) (x1_8 : Bool), v1 = .bool x1_8 ∧ Aside0 (net_cells.j1 kq (wrap64 (x1_1 + ((rd_T41 l0_0 ((rd_T43 l0_2 x2_1).f1)).f1))) l0_2 (l0_2.length : Int) x2_1 x1_8 l0_0 l0_1 l0_2 l0_3 l0_4 = some r) ∧ Aside0 (kq ≤ k1) ∧ Aside0 (wc.heap[gb1]? = some (.cells #[(.slice (some ad2) l0_0.length c0_0), (.slice A0_1 l0_1.length c0_1), (.slice (some ad1) l0_2.length c0_2), (.slice A0_3 l0_3.length c0_3), (.slice A0_4 l0_4.length c0_4)] 27 (0, 0))) ∧ Aside0 (wc.heap[gb2]? = some (.cells #[.string ((rd_T43 l0_2 x2_1).f0), .int .i64 ((rd_T43 l0_2 x2_1).f1), .int .i64 ((rd_T43 l0_2 x2_1).f2), .int .i64 ((rd_T43 l0_2 x2_1).f3)] 43 (0, 0))) ∧ Aside0 (Below w.heap.size w wc))
        case first =>
         have H := HC1.out; clear HC1; replace H := Option.bind_eq_some_iff.mp H; obtain ⟨t1, A1, H⟩ := H; have A2 := aM A1; clear A1; by_cases c8 : t1 = ((rd_T41 l0_0 ((rd_T43 l0_2 x2_1).f1)).f1)
         ·rw [if_pos c8] at H; obtain ⟨c1b0, c1b1⟩ := zeq c8; clear c8; (first | rw [c1b0] | (simp only [i64_w, i32_w]; rw [c1b0]) | skip)
          by_cases c9 : ((rd_T43 l0_2 x2_1).f3) < 0
          ·rw [if_pos c9] at H; have c1b0 := decide_eq_true c9; clear c9; have H' := aM H; clear H; try go_wp2
           have n1_ : Aside0 (((((w1.setCell ⟨gb2, 0, none⟩ (.string ((rd_T43 l0_2 x2_1).f0))).setCell ⟨gb2, 1, none⟩ (.int .i64 ((rd_T43 l0_2 x2_1).f1))).setCell ⟨gb2, 2, none⟩ (.int .i64 ((rd_T43 l0_2 x2_1).f2))).setCell ⟨gb2, 3, none⟩ (.int .i64 ((rd_T43 l0_2 x2_1).f3))).heap[gb1]? = some (.cells #[.slice (some ad2) l0_0.length c0_0, .slice A0_1 l0_1.length c0_1, .slice (some ad1) l0_2.length c0_2, .slice A0_3 l0_3.length c0_3, .slice A0_4 l0_4.length c0_4] 27 (0, 0))) := ⟨q20z NB1_167 BK1⟩; have n2_ : Aside0 (((((w1.setCell ⟨gb2, 0, none⟩ (.string ((rd_T43 l0_2 x2_1).f0))).setCell ⟨gb2, 1, none⟩ (.int .i64 ((rd_T43 l0_2 x2_1).f1))).setCell ⟨gb2, 2, none⟩ (.int .i64 ((rd_T43 l0_2 x2_1).f2))).setCell ⟨gb2, 3, none⟩ (.int .i64 ((rd_T43 l0_2 x2_1).f3))).heap[gb2]? = some (.cells #[.string ((rd_T43 l0_2 x2_1).f0), .int .i64 ((rd_T43 l0_2 x2_1).f1), .int .i64 ((rd_T43 l0_2 x2_1).f2), .int .i64 ((rd_T43 l0_2 x2_1).f3)] 43 (0, 0))) := ⟨q19z BK2⟩; have n3_ : Aside0 (Below w.heap.size w ((((w1.setCell ⟨gb2, 0, none⟩ (.string ((rd_T43 l0_2 x2_1).f0))).setCell ⟨gb2, 1, none⟩ (.int .i64 ((rd_T43 l0_2 x2_1).f1))).setCell ⟨gb2, 2, none⟩ (.int .i64 ((rd_T43 l0_2 x2_1).f2))).setCell ⟨gb2, 3, none⟩ (.int .i64 ((rd_T43 l0_2 x2_1).f3)))) := ⟨q3z HB GE1 GE2⟩; (try clear BK1)
           (try clear BK2)
           (try clear HB)
           generalize ((((w1.setCell ⟨gb2, 0, none⟩ (.string ((rd_T43 l0_2 x2_1).f0))).setCell ⟨gb2, 1, none⟩ (.int .i64 ((rd_T43 l0_2 x2_1).f1))).setCell ⟨gb2, 2, none⟩ (.int .i64 ((rd_T43 l0_2 x2_1).f2))).setCell ⟨gb2, 3, none⟩ (.int .i64 ((rd_T43 l0_2 x2_1).f3))) = w2 at n1_ n2_ n3_ ⊢; have BK1 := n1_; have BK2 := n2_; have HB := n3_; clear n1_ n2_ n3_; replace BK1 := aM (yc BK1.out); replace BK2 := aM (yc BK2.out); replace HB := aM (yk HB.out); refine start_ (n := 21) (S := fun w' => w'.cell? ⟨gb1, 0, none⟩ = some (.slice (some ad2) l0_0.length c0_0) ∧ w'.cell? ⟨gb1, 1, none⟩ = some (.slice A0_1 l0_1.length c0_1) ∧ w'.cell? ⟨gb1, 2, none⟩ = some (.slice (some ad1) l0_2.length c0_2) ∧ w'.cell? ⟨gb1, 3, none⟩ = some (.slice A0_3 l0_3.length c0_3) ∧ w'.cell? ⟨gb1, 4, none⟩ = some (.slice A0_4 l0_4.length c0_4) ∧ w'.cell? ⟨gb2, 0, none⟩ = some (.string ((rd_T43 l0_2 x2_1).f0)) ∧ w'.cell? ⟨gb2, 1, none⟩ = some (.int .i64 ((rd_T43 l0_2 x2_1).f1)) ∧ w'.cell? ⟨gb2, 2, none⟩ = some (.int .i64 ((rd_T43 l0_2 x2_1).f2)) ∧ w'.cell? ⟨gb2, 3, none⟩ = some (.int .i64 ((rd_T43 l0_2 x2_1).f3))) (ds := []) (zb 21 0) (by kernel_rfl) rfl rfl ⟨zc BK1 0, zc BK1 1, zc BK1 2, zc BK1 3, zc BK1 4, zc BK2 0, zc BK2 1, zc BK2 2, zc BK2 3⟩ (fun hHeld => ?_); refine with_tabW net_cells.tab7 net_cells.bits7 (fun HT_ HW_ => ?_); generalize w2.drew = w3 at BK1 BK2 HB hHeld ⊢; refine zpu 1 25 (zb 21 2) ?_; refine zpu 3 27 (zb 21 10) ?_; refine zpu 7 31 (zb 21 138) ?_; refine ztk9 0 24 (zb 21 139) hHeld ?_; refine ztk9 2 26 (zb 21 143) hHeld ?_; refine ztk9 4 28 (zb 21 159) hHeld ?_; refine zpu 5 29 (zb 21 191) ?_; refine zon 6 (some 30) (zb 21 255) fun K hK => ?_
           refine zgo Try.func34 #[.agg #[.slice (some ad2) l0_0.length c0_0, .slice A0_1 l0_1.length c0_1, .slice (some ad1) l0_2.length c0_2, .slice A0_3 l0_3.length c0_3, .slice A0_4 l0_4.length c0_4], .int .i64 ((rd_T43 l0_2 x2_1).f2), .int .i64 (l0_0.length : Int)] ?_; with_reducible refine (net_width.calls _ _ l0_0 _ _ l0_1 _ _ l0_2 _ _ l0_3 _ _ l0_4 ((rd_T43 l0_2 x2_1).f2) (l0_0.length : Int) t1 _ ?side1 ?side2 ?side3 ?side4 ?side5 ?side6 ?side7 ?side8 ?side9 ?side10 A2.out).mono ?_
           (case side1 => exact q1z HR1_0 HB)
           (case side2 => exact HC1_0.out)
           (case side3 => exact q1z HR1_1 HB)
           (case side4 => exact HC1_1.out)
           (case side5 => exact q1z HR1_2 HB)
           (case side6 => exact HC1_2.out)
           (case side7 => exact q1z HR1_3 HB)
           (case side8 => exact HC1_3.out)
           (case side9 => exact q1z HR1_4 HB)
           (case side10 => exact HC1_4.out)
           rintro e w2 ⟨rfl, hb⟩; refine ⟨_, rfl, ?_⟩; replace BK1 := aM (yi (zi BK1) hb); replace BK2 := aM (yi (zi BK2) hb); replace HB := aM (ym (q3z HB GE1 GE2) hb); (try clear hb)
           (try clear hb2)
           (try clear hk)
           (try clear hi)
           refine hK.out _ _ ⟨zc BK1 0, zc BK1 1, zc BK1 2, zc BK1 3, zc BK1 4, zc BK2 0, zc BK2 1, zc BK2 2, zc BK2 3⟩ (fun hHeld => ?_); clear hK K; refine zno 30 ?_; refine zpu 8 32 (zb 21 511) ?_; refine zpu 9 33 (zb 21 1023) ?_; refine zpu 10 34 (zb 21 2047) ?_; refine ztk9 11 35 (zb 21 4095) hHeld ?_; refine zpu 12 36 (zb 21 8191) ?_; exact z47_1
          ·rw [if_neg c9] at H; have c1b0 := decide_eq_false c9; clear c9; replace H := Option.bind_eq_some_iff.mp H; obtain ⟨t2, A1, H⟩ := H; have A3 := aM A1; clear A1; have H' := aM H; clear H; try go_wp2
           have n1_ : Aside0 (((((w1.setCell ⟨gb2, 0, none⟩ (.string ((rd_T43 l0_2 x2_1).f0))).setCell ⟨gb2, 1, none⟩ (.int .i64 ((rd_T43 l0_2 x2_1).f1))).setCell ⟨gb2, 2, none⟩ (.int .i64 ((rd_T43 l0_2 x2_1).f2))).setCell ⟨gb2, 3, none⟩ (.int .i64 ((rd_T43 l0_2 x2_1).f3))).heap[gb1]? = some (.cells #[.slice (some ad2) l0_0.length c0_0, .slice A0_1 l0_1.length c0_1, .slice (some ad1) l0_2.length c0_2, .slice A0_3 l0_3.length c0_3, .slice A0_4 l0_4.length c0_4] 27 (0, 0))) := ⟨q20z NB1_167 BK1⟩; have n2_ : Aside0 (((((w1.setCell ⟨gb2, 0, none⟩ (.string ((rd_T43 l0_2 x2_1).f0))).setCell ⟨gb2, 1, none⟩ (.int .i64 ((rd_T43 l0_2 x2_1).f1))).setCell ⟨gb2, 2, none⟩ (.int .i64 ((rd_T43 l0_2 x2_1).f2))).setCell ⟨gb2, 3, none⟩ (.int .i64 ((rd_T43 l0_2 x2_1).f3))).heap[gb2]? = some (.cells #[.string ((rd_T43 l0_2 x2_1).f0), .int .i64 ((rd_T43 l0_2 x2_1).f1), .int .i64 ((rd_T43 l0_2 x2_1).f2), .int .i64 ((rd_T43 l0_2 x2_1).f3)] 43 (0, 0))) := ⟨q19z BK2⟩; have n3_ : Aside0 (Below w.heap.size w ((((w1.setCell ⟨gb2, 0, none⟩ (.string ((rd_T43 l0_2 x2_1).f0))).setCell ⟨gb2, 1, none⟩ (.int .i64 ((rd_T43 l0_2 x2_1).f1))).setCell ⟨gb2, 2, none⟩ (.int .i64 ((rd_T43 l0_2 x2_1).f2))).setCell ⟨gb2, 3, none⟩ (.int .i64 ((rd_T43 l0_2 x2_1).f3)))) := ⟨q3z HB GE1 GE2⟩; (try clear BK1)
           (try clear BK2)
           (try clear HB)
           generalize ((((w1.setCell ⟨gb2, 0, none⟩ (.string ((rd_T43 l0_2 x2_1).f0))).setCell ⟨gb2, 1, none⟩ (.int .i64 ((rd_T43 l0_2 x2_1).f1))).setCell ⟨gb2, 2, none⟩ (.int .i64 ((rd_T43 l0_2 x2_1).f2))).setCell ⟨gb2, 3, none⟩ (.int .i64 ((rd_T43 l0_2 x2_1).f3))) = w2 at n1_ n2_ n3_ ⊢; have BK1 := n1_; have BK2 := n2_; have HB := n3_; clear n1_ n2_ n3_; replace BK1 := aM (yc BK1.out); replace BK2 := aM (yc BK2.out); replace HB := aM (yk HB.out); refine start_ (n := 21) (S := fun w' => w'.cell? ⟨gb1, 0, none⟩ = some (.slice (some ad2) l0_0.length c0_0) ∧ w'.cell? ⟨gb1, 1, none⟩ = some (.slice A0_1 l0_1.length c0_1) ∧ w'.cell? ⟨gb1, 2, none⟩ = some (.slice (some ad1) l0_2.length c0_2) ∧ w'.cell? ⟨gb1, 3, none⟩ = some (.slice A0_3 l0_3.length c0_3) ∧ w'.cell? ⟨gb1, 4, none⟩ = some (.slice A0_4 l0_4.length c0_4) ∧ w'.cell? ⟨gb2, 0, none⟩ = some (.string ((rd_T43 l0_2 x2_1).f0)) ∧ w'.cell? ⟨gb2, 1, none⟩ = some (.int .i64 ((rd_T43 l0_2 x2_1).f1)) ∧ w'.cell? ⟨gb2, 2, none⟩ = some (.int .i64 ((rd_T43 l0_2 x2_1).f2)) ∧ w'.cell? ⟨gb2, 3, none⟩ = some (.int .i64 ((rd_T43 l0_2 x2_1).f3))) (ds := []) (zb 21 0) (by kernel_rfl) rfl rfl ⟨zc BK1 0, zc BK1 1, zc BK1 2, zc BK1 3, zc BK1 4, zc BK2 0, zc BK2 1, zc BK2 2, zc BK2 3⟩ (fun hHeld => ?_); refine with_tabW net_cells.tab7 net_cells.bits7 (fun HT_ HW_ => ?_); generalize w2.drew = w3 at BK1 BK2 HB hHeld ⊢; refine zpu 1 25 (zb 21 2) ?_; refine zpu 3 27 (zb 21 10) ?_; refine zpu 7 31 (zb 21 138) ?_; refine ztk9 0 24 (zb 21 139) hHeld ?_; refine ztk9 2 26 (zb 21 143) hHeld ?_; refine ztk9 4 28 (zb 21 159) hHeld ?_; refine zpu 5 29 (zb 21 191) ?_; refine zon 6 (some 30) (zb 21 255) fun K hK => ?_
           refine zgo Try.func34 #[.agg #[.slice (some ad2) l0_0.length c0_0, .slice A0_1 l0_1.length c0_1, .slice (some ad1) l0_2.length c0_2, .slice A0_3 l0_3.length c0_3, .slice A0_4 l0_4.length c0_4], .int .i64 ((rd_T43 l0_2 x2_1).f2), .int .i64 (l0_0.length : Int)] ?_; with_reducible refine (net_width.calls _ _ l0_0 _ _ l0_1 _ _ l0_2 _ _ l0_3 _ _ l0_4 ((rd_T43 l0_2 x2_1).f2) (l0_0.length : Int) t1 _ ?side1 ?side2 ?side3 ?side4 ?side5 ?side6 ?side7 ?side8 ?side9 ?side10 A2.out).mono ?_
           (case side1 => exact q1z HR1_0 HB)
           (case side2 => exact HC1_0.out)
           (case side3 => exact q1z HR1_1 HB)
           (case side4 => exact HC1_1.out)
           (case side5 => exact q1z HR1_2 HB)
           (case side6 => exact HC1_2.out)
           (case side7 => exact q1z HR1_3 HB)
           (case side8 => exact HC1_3.out)
           (case side9 => exact q1z HR1_4 HB)
           (case side10 => exact HC1_4.out)
           rintro e w2 ⟨rfl, hb⟩; refine ⟨_, rfl, ?_⟩; replace BK1 := aM (yi (zi BK1) hb); replace BK2 := aM (yi (zi BK2) hb); replace HB := aM (ym (q3z HB GE1 GE2) hb); (try clear hb)
           (try clear hb2)
           (try clear hk)
           (try clear hi)
           refine hK.out _ _ ⟨zc BK1 0, zc BK1 1, zc BK1 2, zc BK1 3, zc BK1 4, zc BK2 0, zc BK2 1, zc BK2 2, zc BK2 3⟩ (fun hHeld => ?_); clear hK K; refine zno 30 ?_; refine zpu 8 32 (zb 21 511) ?_; refine zpu 9 33 (zb 21 1023) ?_; refine zpu 10 34 (zb 21 2047) ?_; refine ztk9 11 35 (zb 21 4095) hHeld ?_; refine zpu 12 36 (zb 21 8191) ?_; refine zpu 13 37 (zb 21 16383) ?_; refine zpu 14 38 (zb 21 32767) ?_; refine zpu 15 39 (zb 21 65535) ?_; refine zpu 17 41 (zb 21 196607) ?_; refine ztk9 16 40 (zb 21 262143) hHeld ?_; refine zon 18 (some 42) (zb 21 524287) fun K hK => ?_
           refine zgo Try.func49 #[.int .i64 ((rd_T41 l0_0 ((rd_T43 l0_2 x2_1).f1)).f1)] ?_; with_reducible refine (vec_Mask.calls ((rd_T41 l0_0 ((rd_T43 l0_2 x2_1).f1)).f1) t2 _ A3.out).mono ?_
           rintro e w' ⟨rfl, ⟨nd, rfl⟩⟩; refine ⟨_, rfl, ?_⟩; refine hK.out _ _ ⟨zc BK1 0, zc BK1 1, zc BK1 2, zc BK1 3, zc BK1 4, zc BK2 0, zc BK2 1, zc BK2 2, zc BK2 3⟩ (fun hHeld => ?_); clear hK K; refine zno 42 ?_; refine zpu 19 43 (zb 21 1048575) ?_; refine zpu 20 44 (zb 21 2097151) ?_; refine zdo ?_; try go_wp2
           go_meet
           case rel => exact ⟨_, (decide (((rd_T43 l0_2 x2_1).f3) > t2)), q13z, H', ⟨q55z HK1⟩, ⟨q10z BK1⟩, ⟨q10z BK2⟩, ⟨q3z HB GE1 GE2⟩⟩
         ·rw [if_neg c8] at H; obtain ⟨c1b0, c1b1⟩ := zne c8; (first | rw [c1b0] | (simp only [i64_w, i32_w]; rw [c1b0]) | skip)
          have H' := aM H; clear H; try go_wp2
          have n1_ : Aside0 (((((w1.setCell ⟨gb2, 0, none⟩ (.string ((rd_T43 l0_2 x2_1).f0))).setCell ⟨gb2, 1, none⟩ (.int .i64 ((rd_T43 l0_2 x2_1).f1))).setCell ⟨gb2, 2, none⟩ (.int .i64 ((rd_T43 l0_2 x2_1).f2))).setCell ⟨gb2, 3, none⟩ (.int .i64 ((rd_T43 l0_2 x2_1).f3))).heap[gb1]? = some (.cells #[.slice (some ad2) l0_0.length c0_0, .slice A0_1 l0_1.length c0_1, .slice (some ad1) l0_2.length c0_2, .slice A0_3 l0_3.length c0_3, .slice A0_4 l0_4.length c0_4] 27 (0, 0))) := ⟨q20z NB1_167 BK1⟩; have n2_ : Aside0 (((((w1.setCell ⟨gb2, 0, none⟩ (.string ((rd_T43 l0_2 x2_1).f0))).setCell ⟨gb2, 1, none⟩ (.int .i64 ((rd_T43 l0_2 x2_1).f1))).setCell ⟨gb2, 2, none⟩ (.int .i64 ((rd_T43 l0_2 x2_1).f2))).setCell ⟨gb2, 3, none⟩ (.int .i64 ((rd_T43 l0_2 x2_1).f3))).heap[gb2]? = some (.cells #[.string ((rd_T43 l0_2 x2_1).f0), .int .i64 ((rd_T43 l0_2 x2_1).f1), .int .i64 ((rd_T43 l0_2 x2_1).f2), .int .i64 ((rd_T43 l0_2 x2_1).f3)] 43 (0, 0))) := ⟨q19z BK2⟩; have n3_ : Aside0 (Below w.heap.size w ((((w1.setCell ⟨gb2, 0, none⟩ (.string ((rd_T43 l0_2 x2_1).f0))).setCell ⟨gb2, 1, none⟩ (.int .i64 ((rd_T43 l0_2 x2_1).f1))).setCell ⟨gb2, 2, none⟩ (.int .i64 ((rd_T43 l0_2 x2_1).f2))).setCell ⟨gb2, 3, none⟩ (.int .i64 ((rd_T43 l0_2 x2_1).f3)))) := ⟨q3z HB GE1 GE2⟩; (try clear BK1)
          (try clear BK2)
          (try clear HB)
          generalize ((((w1.setCell ⟨gb2, 0, none⟩ (.string ((rd_T43 l0_2 x2_1).f0))).setCell ⟨gb2, 1, none⟩ (.int .i64 ((rd_T43 l0_2 x2_1).f1))).setCell ⟨gb2, 2, none⟩ (.int .i64 ((rd_T43 l0_2 x2_1).f2))).setCell ⟨gb2, 3, none⟩ (.int .i64 ((rd_T43 l0_2 x2_1).f3))) = w2 at n1_ n2_ n3_ ⊢; have BK1 := n1_; have BK2 := n2_; have HB := n3_; clear n1_ n2_ n3_; replace BK1 := aM (yc BK1.out); replace BK2 := aM (yc BK2.out); replace HB := aM (yk HB.out); refine start_ (n := 21) (S := fun w' => w'.cell? ⟨gb1, 0, none⟩ = some (.slice (some ad2) l0_0.length c0_0) ∧ w'.cell? ⟨gb1, 1, none⟩ = some (.slice A0_1 l0_1.length c0_1) ∧ w'.cell? ⟨gb1, 2, none⟩ = some (.slice (some ad1) l0_2.length c0_2) ∧ w'.cell? ⟨gb1, 3, none⟩ = some (.slice A0_3 l0_3.length c0_3) ∧ w'.cell? ⟨gb1, 4, none⟩ = some (.slice A0_4 l0_4.length c0_4) ∧ w'.cell? ⟨gb2, 0, none⟩ = some (.string ((rd_T43 l0_2 x2_1).f0)) ∧ w'.cell? ⟨gb2, 1, none⟩ = some (.int .i64 ((rd_T43 l0_2 x2_1).f1)) ∧ w'.cell? ⟨gb2, 2, none⟩ = some (.int .i64 ((rd_T43 l0_2 x2_1).f2)) ∧ w'.cell? ⟨gb2, 3, none⟩ = some (.int .i64 ((rd_T43 l0_2 x2_1).f3))) (ds := []) (zb 21 0) (by kernel_rfl) rfl rfl ⟨zc BK1 0, zc BK1 1, zc BK1 2, zc BK1 3, zc BK1 4, zc BK2 0, zc BK2 1, zc BK2 2, zc BK2 3⟩ (fun hHeld => ?_); refine with_tabW net_cells.tab7 net_cells.bits7 (fun HT_ HW_ => ?_); generalize w2.drew = w1 at BK1 BK2 HB hHeld ⊢; refine zpu 1 25 (zb 21 2) ?_; refine zpu 3 27 (zb 21 10) ?_; refine zpu 7 31 (zb 21 138) ?_; refine ztk9 0 24 (zb 21 139) hHeld ?_; refine ztk9 2 26 (zb 21 143) hHeld ?_; refine ztk9 4 28 (zb 21 159) hHeld ?_; refine zpu 5 29 (zb 21 191) ?_; refine zon 6 (some 30) (zb 21 255) fun K hK => ?_
          refine zgo Try.func34 #[.agg #[.slice (some ad2) l0_0.length c0_0, .slice A0_1 l0_1.length c0_1, .slice (some ad1) l0_2.length c0_2, .slice A0_3 l0_3.length c0_3, .slice A0_4 l0_4.length c0_4], .int .i64 ((rd_T43 l0_2 x2_1).f2), .int .i64 (l0_0.length : Int)] ?_; with_reducible refine (net_width.calls _ _ l0_0 _ _ l0_1 _ _ l0_2 _ _ l0_3 _ _ l0_4 ((rd_T43 l0_2 x2_1).f2) (l0_0.length : Int) t1 _ ?side1 ?side2 ?side3 ?side4 ?side5 ?side6 ?side7 ?side8 ?side9 ?side10 A2.out).mono ?_
          (case side1 => exact q1z HR1_0 HB)
          (case side2 => exact HC1_0.out)
          (case side3 => exact q1z HR1_1 HB)
          (case side4 => exact HC1_1.out)
          (case side5 => exact q1z HR1_2 HB)
          (case side6 => exact HC1_2.out)
          (case side7 => exact q1z HR1_3 HB)
          (case side8 => exact HC1_3.out)
          (case side9 => exact q1z HR1_4 HB)
          (case side10 => exact HC1_4.out)
          rintro e w1 ⟨rfl, hb⟩; refine ⟨_, rfl, ?_⟩; replace BK1 := aM (yi (zi BK1) hb); replace BK2 := aM (yi (zi BK2) hb); replace HB := aM (ym (q3z HB GE1 GE2) hb); (try clear hb)
          (try clear hb2)
          (try clear hk)
          (try clear hi)
          refine hK.out _ _ ⟨zc BK1 0, zc BK1 1, zc BK1 2, zc BK1 3, zc BK1 4, zc BK2 0, zc BK2 1, zc BK2 2, zc BK2 3⟩ (fun hHeld => ?_); clear hK K; refine zno 30 ?_; refine zpu 8 32 (zb 21 511) ?_; refine zpu 9 33 (zb 21 1023) ?_; refine zpn 10 34 (zb 21 2047) ?_; refine zpn 11 35 (zb 21 4095) ?_; refine zpn 12 36 (zb 21 8191) ?_; exact z47_1
        case rest =>
         clear HC1; try clear c1
         try clear p2
         try clear c3
         try clear c2
         try clear p6
         try clear c8
         try clear c1b0
         try clear c1b1
         try clear c8
         try clear c1b0
         obtain ⟨kq, x1_8, rfl, HA, HJ1, BK1, BK2, HB⟩ := hcut; cases kq with
         | zero => exact absurd HA.out (by simp [net_cells.j1])
         | succ kj1 =>
          have H := HA.out; clear HA; simp only [net_cells.j1] at H; by_cases c8 : x1_8 = true
          ·subst c8; have H1 : (some false) = some r := by rw [if_pos rfl] at H; exact H
           clear H; have H := H1; clear H1; obtain rfl := Option.some.inj H; go_wp2
           go_ret
           exact ⟨q11z, q3z HB GE1 GE2⟩
          ·replace c8 := Bool.eq_false_iff.mpr c8; subst c8; have H1 : (net_cells.l0 kj1 (wrap64 (x1_1 + ((rd_T41 l0_0 ((rd_T43 l0_2 x2_1).f1)).f1))) l0_2 (l0_2.length : Int) (wrap64 (x2_1 + 1)) l0_0 l0_1 l0_2 l0_3 l0_4) = some r := by rw [if_neg (show ¬ (false = true) by decide)] at H; exact H
           clear H; have H := H1; clear H1; have H' := aM H; clear H; go_wp2
           go_roundg kj1
           case measure => have := HK1.out; have := HJ1.out; omega
           case rel => exact ⟨((wrap64 (x1_1 + ((rd_T41 l0_0 ((rd_T43 l0_2 x2_1).f1)).f1)))), (wrap64 (x2_1 + 1)), q13z, q13z, H', ⟨q87z HK1 HJ1⟩, ⟨q10z BK1⟩, ⟨q3z HB GE1 GE2⟩⟩
       ·rw [if_neg c7] at H; exact absurd H (by simp)
      ·rw [if_neg c6] at H; exact absurd H (by simp)
     ·rw [if_neg c5] at H; exact absurd H (by simp)
    ·rw [if_neg c4] at H; exact absurd H (by simp)
   ·rw [if_neg c2] at H; have c1b0 := decide_eq_false c2; clear c2; obtain rfl := Option.some.inj H; go_wp2
    go_ret
    exact ⟨q11z, q4z HB GE1⟩
def api_Pin_50.l0 : Nat → List (S47) → net_NL → Int → Int → Option (Int)
 | 0, _, _, _, _ => none
 | k + 1, x0, x1, x7, x8 => if x8 < x7 then (if 0 ≤ x8 then (if x8 < (x0.length : Int) then ((net_Right_3.f ((rd_T47 x0 x8).f0) ((rd_T47 x0 x8).f1) x1).bind fun t172 => (if t172 = true then (some x8) else (api_Pin_50.l0 k x0 x1 x7 (wrap64 (x8 + 1))))) else (none)) else (none)) else (some (-1))
def api_Pin_50.f (k : Nat) (l0 : List (S47)) (a1 : net_NL) : Option (Int) := api_Pin_50.l0 k l0 a1 (l0.length : Int) 0
theorem api_Pin_50.mono_l : ∀ k, (∀ y0 y1 y2 y3, LeO (api_Pin_50.l0 k y0 y1 y2 y3) (api_Pin_50.l0 (k + 1) y0 y1 y2 y3))
 | 0 => fun _ _ _ _ r h => by simp [api_Pin_50.l0] at h
 | k + 1 => by
  have ih0 := api_Pin_50.mono_l k
  ·intro y0 y1 y2 y3
   unfold api_Pin_50.l0
   repeat' first | (with_reducible first | apply ih0 | exact LeO.refl _ | exact LeO.none _ | refine LeO.ite ?_ ?_ | refine LeO.bind ?_ (fun _ => ?_)) | exact LeO.none _ | refine LeO.ite ?_ ?_ | refine LeO.bind ?_ (fun _ => ?_)
theorem api_Pin_50.mono : ∀ a0 a1 k, LeO (api_Pin_50.f k a0 a1) (api_Pin_50.f (k + 1) a0 a1) := by
 intro a0 a1 k
 have ih1 := api_Pin_50.mono_l k; unfold api_Pin_50.f
 repeat' first | (with_reducible first | apply ih1 | exact LeO.refl _ | exact LeO.none _ | refine LeO.ite ?_ ?_ | refine LeO.bind ?_ (fun _ => ?_)) | exact LeO.none _ | refine LeO.ite ?_ ?_ | refine LeO.bind ?_ (fun _ => ?_)
theorem api_Pin_50.calls (k : Nat) (A0 : Option Addr) (c0 : Nat) (l0 : List (S47)) (a1 : net_NL) (r : Int) (w : World) (hr0 : Kd.C k47 w A0 l0.length l0) (hc0 : l0.length ≤ c0) (h : api_Pin_50.f k l0 a1 = some r) (gk : Nat) (hk : net_Held w gk a1) :
  Calls Try.prog 50 #[.slice A0 l0.length c0, .func (.func 36) #[] #[.pointer (some ⟨gk, 0, none⟩)]] w fun e w' => e = .returned (.int .i64 r) ∧ Below w.heap.size w w' := by
 have HK := aM hk; clear hk; have hu1 := Try.underlying47; have HR1 := aM hr0; have HC1 := aM hc0; clear hr0 hc0; have HB := aM (Below.refl w.heap.size w); have H : (api_Pin_50.l0 k l0 a1 (l0.length : Int) 0) = some r := h; clear h; have H' := aM H; clear H; go_enter Try.func50, Try.ntmps50
 go_wp2
 go_loopg [8] k (fun kq v1 w' => ∃ (x1_1 : Int), v1 = .int .i64 x1_1 ∧ Aside0 (api_Pin_50.l0 kq l0 a1 (l0.length : Int) x1_1 = some r) ∧ Aside0 (kq ≤ k) ∧ Aside0 (Below w.heap.size w w'))
 case atStart => exact ⟨(0), q13z, H', ⟨Nat.le_refl _⟩, ⟨q5z HB⟩⟩
 case round =>
  clear H'; try clear p2
  obtain ⟨x1_1, rfl, HA, HK1, HB⟩ := hrel; cases gk with
  | zero => exact absurd HA.out (by simp [api_Pin_50.l0])
  | succ k1 =>
   have H := HA.out; clear HA; simp only [api_Pin_50.l0] at H; by_cases c1 : x1_1 < (l0.length : Int)
   ·rw [if_pos c1] at H; have c1b0 := decide_eq_true c1; clear c1; by_cases c2 : 0 ≤ x1_1
    ·rw [if_pos c2] at H; have c1b0 := decide_eq_true c2; clear c2; by_cases c3 : x1_1 < (l0.length : Int)
     ·rw [if_pos c3] at H; have c1b0 := decide_eq_true c3; clear c3; replace H := Option.bind_eq_some_iff.mp H; obtain ⟨t1, A1, H⟩ := H; have A2 := aM A1; clear A1; by_cases c4 : t1 = true
      ·subst c4; have H1 : (some x1_1) = some r := by rw [if_pos rfl] at H; exact H
       clear H; have H := H1; clear H1; obtain rfl := Option.some.inj H; have p1 : 0 ≤ (x1_1 : Int) := zod; have q1 : x1_1 < (l0.length : Int) := zod; obtain ⟨ad1, e1, hx1_0, hx1_1⟩ := at_T47 HR1.out x1_1 p1 q1; cases e1; replace hx1_0 := zx HB hx1_0; replace hx1_1 := zx HB hx1_1; replace p1 := eq_true p1; replace q1 := eq_true q1; go_wp2_with (first | (go_at_call 36; (refine (net_Right_3.calls ((rd_T47 l0 x1_1).f0) ((rd_T47 l0 x1_1).f1) a1 true _ A2.out gk ?hk9).mono ?_); (case hk9 => exact q78z HK HB); rintro e w1 ⟨rfl, hb⟩; replace HB := aM (ym (q5z HB) hb); (try clear hb); (try clear hb2); (try clear hk); (try clear hi)))
       go_ret
       exact ⟨q11z, q5z HB⟩
      ·replace c4 := Bool.eq_false_iff.mpr c4; subst c4; have H1 : (api_Pin_50.l0 k1 l0 a1 (l0.length : Int) (wrap64 (x1_1 + 1))) = some r := by rw [if_neg (show ¬ (false = true) by decide)] at H; exact H
       clear H; have H := H1; clear H1; have H' := aM H; clear H; have p1 : 0 ≤ (x1_1 : Int) := zod; have q1 : x1_1 < (l0.length : Int) := zod; obtain ⟨ad1, e1, hx1_0, hx1_1⟩ := at_T47 HR1.out x1_1 p1 q1; cases e1; replace hx1_0 := zx HB hx1_0; replace hx1_1 := zx HB hx1_1; replace p1 := eq_true p1; replace q1 := eq_true q1; go_wp2_with (first | (go_at_call 36; (refine (net_Right_3.calls ((rd_T47 l0 x1_1).f0) ((rd_T47 l0 x1_1).f1) a1 false _ A2.out gk ?hk9).mono ?_); (case hk9 => exact q78z HK HB); rintro e w1 ⟨rfl, hb⟩; replace HB := aM (ym (q5z HB) hb); (try clear hb); (try clear hb2); (try clear hk); (try clear hi)))
       go_roundg k1
       case measure => have := HK1.out; omega
       case rel => exact ⟨(wrap64 (x1_1 + 1)), q13z, H', ⟨by have := HK1.out; omega⟩, ⟨q5z HB⟩⟩
     ·rw [if_neg c3] at H; exact absurd H (by simp)
    ·rw [if_neg c2] at H; exact absurd H (by simp)
   ·rw [if_neg c1] at H; have c1b0 := decide_eq_false c1; clear c1; obtain rfl := Option.some.inj H; go_wp2
    go_ret
    exact ⟨q11z, q5z HB⟩
def api_Pin_35.f (k : Nat) (l0 : List (S47)) (a1 : net_NL) : Option (Bool) := (api_Pin_50.f k l0 a1).bind fun t173 => (some (decide (t173 ≥ 0)))
theorem api_Pin_35.mono : ∀ a0 a1 k, LeO (api_Pin_35.f k a0 a1) (api_Pin_35.f (k + 1) a0 a1) := by
 intro a0 a1 k
 unfold api_Pin_35.f
 repeat' first | (with_reducible first | apply api_Pin_50.mono | exact LeO.refl _ | exact LeO.none _ | refine LeO.ite ?_ ?_ | refine LeO.bind ?_ (fun _ => ?_)) | exact LeO.none _ | refine LeO.ite ?_ ?_ | refine LeO.bind ?_ (fun _ => ?_)
theorem api_Pin_35.calls (k : Nat) (A0 : Option Addr) (c0 : Nat) (l0 : List (S47)) (a1 : net_NL) (r : Bool) (w : World) (hr0 : Kd.C k47 w A0 l0.length l0) (hc0 : l0.length ≤ c0) (h : api_Pin_35.f k l0 a1 = some r) (gk : Nat) (hk : net_Held w gk a1) :
  Calls Try.prog 35 #[.slice A0 l0.length c0, .func (.func 36) #[] #[.pointer (some ⟨gk, 0, none⟩)]] w fun e w' => e = .returned (.bool r) ∧ Below w.heap.size w w' := by
 have HK := aM hk; clear hk; have HR1 := aM hr0; have HC1 := aM hc0; clear hr0 hc0; have HB := aM (Below.refl w.heap.size w); have H : ((api_Pin_50.f k l0 a1).bind fun t1 => (some (decide (t1 ≥ 0)))) = some r := h; clear h; replace H := Option.bind_eq_some_iff.mp H; obtain ⟨t1, A1, H⟩ := H; have A2 := aM A1; clear A1; obtain rfl := Option.some.inj H; go_enter Try.func35, Try.ntmps35
 go_wp2_with (first | ((with_reducible refine zgc 50 rfl ?_); refine zgl (some 7) Try.func50 #[.slice A0 l0.length c0, .func (.func 36) #[] #[.pointer (some ⟨gk, 0, none⟩)]] ?_; (refine (api_Pin_50.calls k _ _ l0 a1 t1 _ ?side1 ?side2 A2.out gk ?hk9).mono ?_); (case hk9 => exact q78z HK HB); (case side1 => exact q92z HR1); (case side2 => exact HC1.out); rintro e w1 ⟨rfl, hb⟩; refine ⟨_, rfl, ?_⟩; replace HB := aM (ym (q5z HB) hb); (try clear hb); (try clear hb2); (try clear hk); (try clear hi)))
 go_ret
 exact ⟨q11z, q5z HB⟩
mutual
def net_Right.j0 : Nat → Bool → List (S41) → List (S47) → List (S43) → List (S61) → List (S47) → Option (Bool)
 | 0, _, _, _, _, _, _ => none
 | k + 1, x33, x175000, x175001, x175002, x175003, x175004 => if x33 = true then (some false) else ((net_places.f k x175000 x175001 x175002 x175003 x175004 21).bind fun t176 => ((api_Pin_int.f k x175001 t176 0).bind fun t179 => (if t179 = true then ((net_places.f k x175000 x175001 x175002 x175003 x175004 22).bind fun t180 => ((api_Cell_int.f k x175002 t180 0).bind fun t183 => (if t183 = true then ((net_cells.f k x175000 x175001 x175002 x175003 x175004).bind fun t184 => (net_Right.j1 k (!t184) x175000 x175001 x175002 x175003 x175004)) else (net_Right.j1 k true x175000 x175001 x175002 x175003 x175004)))) else (net_Right.j1 k true x175000 x175001 x175002 x175003 x175004))))
def net_Right.j1 : Nat → Bool → List (S41) → List (S47) → List (S43) → List (S61) → List (S47) → Option (Bool)
 | 0, _, _, _, _, _, _ => none
 | k + 1, x54, x175000, x175001, x175002, x175003, x175004 => if x54 = true then (some false) else (net_Right.l0 k x175003 (x175003.length : Int) 0 x175000 x175001 x175002 x175003 x175004)
def net_Right.l0 : Nat → List (S61) → Int → Int → List (S41) → List (S47) → List (S43) → List (S61) → List (S47) → Option (Bool)
 | 0, _, _, _, _, _, _, _, _ => none
 | k + 1, x56, x57, x58, x175000, x175001, x175002, x175003, x175004 => if x58 < x57 then (if 0 ≤ x58 then (if x58 < (x56.length : Int) then (if ((rd_T61 x56 x58).f0) < 8 then (some false) else (if ((rd_T61 x56 x58).f0) > 10 then (some false) else ((net_width.f x175000 x175001 x175002 x175003 x175004 ((rd_T61 x56 x58).f2) (x175000.length : Int)).bind fun t187 => (if t187 = 1 then (net_Right.l0 k x56 x57 (wrap64 (x58 + 1)) x175000 x175001 x175002 x175003 x175004) else (some false))))) else (none)) else (none)) else ((api_Pin_35.f k x175004 ⟨x175000, x175001, x175002, x175003, x175004⟩).bind fun t188 => (some (!t188)))
end
def net_Right.f (k : Nat) (l0_0 : List (S41)) (l0_1 : List (S47)) (l0_2 : List (S43)) (l0_3 : List (S61)) (l0_4 : List (S47)) : Option (Bool) := if (l0_0.length : Int) > 4000 then (net_Right.j0 k true l0_0 l0_1 l0_2 l0_3 l0_4) else (if (l0_1.length : Int) > 64 then (net_Right.j0 k true l0_0 l0_1 l0_2 l0_3 l0_4) else (if (l0_2.length : Int) > 256 then (net_Right.j0 k true l0_0 l0_1 l0_2 l0_3 l0_4) else (if (l0_3.length : Int) > 16 then (net_Right.j0 k true l0_0 l0_1 l0_2 l0_3 l0_4) else ((net_nodes.f k l0_0 l0_1 l0_2 l0_3 l0_4).bind fun t175 => (net_Right.j0 k (!t175) l0_0 l0_1 l0_2 l0_3 l0_4)))))
theorem net_Right.mono_l : ∀ k, (∀ y0 y1 y2 y3 y4 y5, LeO (net_Right.j0 k y0 y1 y2 y3 y4 y5) (net_Right.j0 (k + 1) y0 y1 y2 y3 y4 y5)) ∧ (∀ y0 y1 y2 y3 y4 y5, LeO (net_Right.j1 k y0 y1 y2 y3 y4 y5) (net_Right.j1 (k + 1) y0 y1 y2 y3 y4 y5)) ∧ (∀ y0 y1 y2 y3 y4 y5 y6 y7, LeO (net_Right.l0 k y0 y1 y2 y3 y4 y5 y6 y7) (net_Right.l0 (k + 1) y0 y1 y2 y3 y4 y5 y6 y7))
 | 0 => ⟨fun _ _ _ _ _ _ r h => by simp [net_Right.j0] at h, fun _ _ _ _ _ _ r h => by simp [net_Right.j1] at h, fun _ _ _ _ _ _ _ _ r h => by simp [net_Right.l0] at h⟩
 | k + 1 => by
  obtain ⟨ih0, ih1, ih2⟩ := net_Right.mono_l k; refine ⟨?_, ?_, ?_⟩ <;> intros <;> (first | unfold net_Right.j0 | unfold net_Right.j1 | unfold net_Right.l0) <;> repeat' first | (with_reducible first | apply ih0 | apply ih1 | apply ih2 | apply api_Cell_int.mono | apply api_Pin_35.mono | apply api_Pin_int.mono | apply net_cells.mono | apply net_places.mono | exact LeO.refl _ | exact LeO.none _ | refine LeO.ite ?_ ?_ | refine LeO.bind ?_ (fun _ => ?_)) | exact LeO.none _ | refine LeO.ite ?_ ?_ | refine LeO.bind ?_ (fun _ => ?_)
theorem net_Right.mono : ∀ a0 a1 a2 a3 a4 k, LeO (net_Right.f k a0 a1 a2 a3 a4) (net_Right.f (k + 1) a0 a1 a2 a3 a4) := by
 intro a0 a1 a2 a3 a4 k
 obtain ⟨ih1, ih2, ih3⟩ := net_Right.mono_l k; unfold net_Right.f
 repeat' first | (with_reducible first | apply ih1 | apply ih2 | apply ih3 | apply net_nodes.mono | exact LeO.refl _ | exact LeO.none _ | refine LeO.ite ?_ ?_ | refine LeO.bind ?_ (fun _ => ?_)) | exact LeO.none _ | refine LeO.ite ?_ ?_ | refine LeO.bind ?_ (fun _ => ?_)
def net_Right.T5 : Bool × List (List Nat × List Nat) := (true, [([], []), ([0], [0]), ([], []), ([2], [2]), ([], []), ([1, 3, 4, 3], [1, 3, 4]), ([5], [5]), ([6, 5], [6]), ([7], [7]), ([8, 7], [7, 8]), ([7], [7]), ([10, 7, 7], [7, 10]), ([7], [7]), ([9, 11, 12, 11, 7], [7, 9, 11, 12]), ([13, 7], [7, 13]), ([7, 14], [7, 14]), ([15, 13], [15]), ([16], [16]), ([17, 16, 16], [16, 17]), ([18, 16], [16, 18]), ([16, 19], [16, 19])])
def net_Right.B5 : List Nat := [0, 1, 0, 4, 0, 31, 63, 127, 255, 511, 255, 1279, 255, 8191, 16383, 32767, 65535, 131071, 262143, 524287, 1048575]
theorem net_Right.tab5 : rtab .any (opsOf Try.f12 5) = net_Right.T5 := by kernel_rfl
theorem net_Right.bits5 : waitsOk net_Right.T5.2 net_Right.B5 = true := by kernel_rfl
theorem z50_5 {P : Prop} (h : P := by
 have H' := aM H; clear H; obtain ⟨i1_0, i1_1, i1_2, i1_3, i1_4, j1_0, j1_1, j1_2, j1_3, j1_4⟩ := cells5 BK1.out; go_wp2
 go_meet
 case rel => exact ⟨_, (true), q13z, H', ⟨q52z⟩, ⟨q10z BK1⟩, ⟨q4z HB GE1⟩⟩) : P := h
theorem z50_3 {P : Prop} (h : P := by
 clear c4; exact z50_5) : P := h
theorem z50_4 {P : Prop} (h : P := by
 have H1 : (some false) = some r := by rw [if_pos rfl] at H; exact H
 clear H; have H := H1; clear H1; obtain rfl := Option.some.inj H; go_wp2
 go_ret
 exact ⟨q11z, q4z HB GE1⟩) : P := h
theorem z50_2 {P : Prop} (h : P := by
 refine zpu 15 49 (zb 21 65535) ?_; refine zpu 16 50 (zb 21 131071) ?_; refine zpn 17 51 (zb 21 262143) ?_; refine zpn 18 52 (zb 21 524287) ?_; refine zpn 19 53 (zb 21 1048575) ?_; refine zpu 20 54 (zb 21 2097151) ?_; refine zdo ?_; try go_wp2
 go_meet
 case rel => exact ⟨_, (true), q13z, H', ⟨q55z HJ1⟩, ⟨q10z BK1⟩, ⟨q4z HB GE1⟩⟩) : P := h
theorem z50_1 {P : Prop} (h : P := by
 clear c7; obtain rfl := Option.some.inj H; have p1 : 0 ≤ (x1_3 : Int) := zod; have q1 : x1_3 < (l0_3.length : Int) := zod; obtain ⟨ad1, e1, hx1_0, hx1_1, hx1_2⟩ := at_T61 HR1_3.out x1_3 p1 q1; cases e1; replace hx1_0 := zx HB hx1_0; replace hx1_1 := zx HB hx1_1; replace hx1_2 := zx HB hx1_2; replace p1 := eq_true p1; replace q1 := eq_true q1; go_wp2_with (first | ((with_reducible refine gate_dst (N := 6) rfl ?_); (try (refine gate_guard (by rfl) ?_; dsimp only)); refine box_event ?hg (N := 6) ?hd (cs := #[.int .i64 0, .string (⟨#[]⟩ : ByteArray), .int .i64 0]) (t := 61) ?hr ?_; (case hd => rfl); (case hg => rfl); (case hr => exact q30z); intro gb2 hg w1 hbox hb; have BK2 := aM (hbox); have GW1 := aM ((q12z HB GE1 : w.heap.size ≤ gb2)); have GE2 := aM ((q12z HB GE1 : w.heap.size ≤ gb2)); replace HB := aM (ym (q4z HB GE1) hb); have NB1_186 := aM ((q34z BK1 : gb1 ≠ gb2)); have NB1_174 := aM ((q35z BK1 : gb2 ≠ gb1)); replace BK1 := aM (yi (zi BK1) hb); clear hb hbox hg; have hnb1 := NB1_174.out; have hnc1 := NB1_186.out; obtain ⟨i1_0, i1_1, i1_2, j1_0, j1_1, j1_2⟩ := cells3 BK2.out))
 go_ret
 exact ⟨q11z, q3z HB GE1 GE2⟩) : P := h
theorem net_Right.calls (k : Nat) (A0_0 : Option Addr) (c0_0 : Nat) (l0_0 : List (S41)) (A0_1 : Option Addr) (c0_1 : Nat) (l0_1 : List (S47)) (A0_2 : Option Addr) (c0_2 : Nat) (l0_2 : List (S43)) (A0_3 : Option Addr) (c0_3 : Nat) (l0_3 : List (S61)) (A0_4 : Option Addr) (c0_4 : Nat) (l0_4 : List (S47)) (r : Bool) (w : World) (hr0_0 : Kd.C k41 w A0_0 l0_0.length l0_0) (hc0_0 : l0_0.length ≤ c0_0) (hr0_1 : Kd.C k47 w A0_1 l0_1.length l0_1) (hc0_1 : l0_1.length ≤ c0_1) (hr0_2 : Kd.C k43 w A0_2 l0_2.length l0_2) (hc0_2 : l0_2.length ≤ c0_2) (hr0_3 : Kd.C k61 w A0_3 l0_3.length l0_3) (hc0_3 : l0_3.length ≤ c0_3) (hr0_4 : Kd.C k47 w A0_4 l0_4.length l0_4) (hc0_4 : l0_4.length ≤ c0_4) (h : net_Right.f k l0_0 l0_1 l0_2 l0_3 l0_4 = some r) :
  Calls Try.prog 12 #[.agg #[.slice A0_0 l0_0.length c0_0, .slice A0_1 l0_1.length c0_1, .slice A0_2 l0_2.length c0_2, .slice A0_3 l0_3.length c0_3, .slice A0_4 l0_4.length c0_4]] w fun e w' => e = .returned (.bool r) ∧ Below w.heap.size w w' := by
 have hu1 := Try.underlying27; have hu1 := Try.underlying61; have HR1_0 := aM hr0_0; have HC1_0 := aM hc0_0; clear hr0_0 hc0_0; have HR1_1 := aM hr0_1; have HC1_1 := aM hc0_1; clear hr0_1 hc0_1; have HR1_2 := aM hr0_2; have HC1_2 := aM hc0_2; clear hr0_2 hc0_2; have HR1_3 := aM hr0_3; have HC1_3 := aM hc0_3; clear hr0_3 hc0_3; have HR1_4 := aM hr0_4; have HC1_4 := aM hc0_4; clear hr0_4 hc0_4; have HB := aM (Below.refl w.heap.size w); have H : (if (l0_0.length : Int) > 4000 then (net_Right.j0 k true l0_0 l0_1 l0_2 l0_3 l0_4) else (if (l0_1.length : Int) > 64 then (net_Right.j0 k true l0_0 l0_1 l0_2 l0_3 l0_4) else (if (l0_2.length : Int) > 256 then (net_Right.j0 k true l0_0 l0_1 l0_2 l0_3 l0_4) else (if (l0_3.length : Int) > 16 then (net_Right.j0 k true l0_0 l0_1 l0_2 l0_3 l0_4) else ((net_nodes.f k l0_0 l0_1 l0_2 l0_3 l0_4).bind fun t1 => (net_Right.j0 k (!t1) l0_0 l0_1 l0_2 l0_3 l0_4)))))) = some r := h; clear h; have HC1 := aM H; clear H; have hmf : ∀ (fn : Fn) (first cap : Array Value) (w : World), (Instr.makeFunc fn first cap).run Try.prog w = .ok (.func fn first cap) w := fun _ _ _ _ => rfl
 go_enter Try.func12, Try.ntmps12
 go_upto_region 1 with (first | ((with_reducible refine gate_dst (N := 1) rfl ?_); (try (refine gate_guard (by rfl) ?_; dsimp only)); refine box_event ?hg (N := 1) ?hd (cs := #[.slice A0_0 l0_0.length c0_0, .slice A0_1 l0_1.length c0_1, .slice A0_2 l0_2.length c0_2, .slice A0_3 l0_3.length c0_3, .slice A0_4 l0_4.length c0_4]) (t := 27) ?hr ?_; (case hd => rfl); (case hg => rfl); (case hr => exact q30z); intro gb1 hg w1 hbox hb; have BK1 := aM (hbox); have GW1 := aM ((q7z HB : w.heap.size ≤ gb1)); have GE1 := aM ((q7z HB : w.heap.size ≤ gb1)); replace HB := aM (ym (q5z HB) hb); clear hb hbox hg))
 (try simp only [Act.put, yu, yv, yw])
 go_cut [33] (fun v1 wc => ∃ (kq : Nat) (x1_1 : Bool), v1 = .bool x1_1 ∧ Aside0 (net_Right.j0 kq x1_1 l0_0 l0_1 l0_2 l0_3 l0_4 = some r) ∧ Aside0 (kq ≤ k) ∧ Aside0 (wc.heap[gb1]? = some (.cells #[(.slice A0_0 l0_0.length c0_0), (.slice A0_1 l0_1.length c0_1), (.slice A0_2 l0_2.length c0_2), (.slice A0_3 l0_3.length c0_3), (.slice A0_4 l0_4.length c0_4)] 27 (0, 0))) ∧ Aside0 (Below w.heap.size w wc))
 case first =>
  have H := HC1.out; clear HC1; by_cases c4 : (l0_0.length : Int) > 4000
  ·rw [if_pos c4] at H; have c1b0 : decide (4000 < (l0_0.length : Int)) = true := decide_eq_true c4; have c1b1 : decide (4000 < l0_0.length) = true := decide_eq_true (by omega); clear c4; (first | rw [c1b0] | (simp only [i64_w, i32_w]; rw [c1b0]) | skip)
   exact z50_5
  ·rw [if_neg c4] at H; have c1b0 : decide (4000 < (l0_0.length : Int)) = false := decide_eq_false c4; have c1b1 : decide (4000 < l0_0.length) = false := decide_eq_false (by omega); clear c4; (first | rw [c1b0] | (simp only [i64_w, i32_w]; rw [c1b0]) | skip)
   by_cases c4 : (l0_1.length : Int) > 64
   ·rw [if_pos c4] at H; have c1b0 : decide (64 < (l0_1.length : Int)) = true := decide_eq_true c4; have c1b1 : decide (64 < l0_1.length) = true := decide_eq_true (by omega); exact z50_3
   ·rw [if_neg c4] at H; have c1b0 : decide (64 < (l0_1.length : Int)) = false := decide_eq_false c4; have c1b1 : decide (64 < l0_1.length) = false := decide_eq_false (by omega); clear c4; by_cases c4 : (l0_2.length : Int) > 256
    ·rw [if_pos c4] at H; have c1b0 : decide (256 < (l0_2.length : Int)) = true := decide_eq_true c4; have c1b1 : decide (256 < l0_2.length) = true := decide_eq_true (by omega); exact z50_3
    ·rw [if_neg c4] at H; have c1b0 : decide (256 < (l0_2.length : Int)) = false := decide_eq_false c4; have c1b1 : decide (256 < l0_2.length) = false := decide_eq_false (by omega); clear c4; by_cases c4 : (l0_3.length : Int) > 16
     ·rw [if_pos c4] at H; have c1b0 : decide (16 < (l0_3.length : Int)) = true := decide_eq_true c4; have c1b1 : decide (16 < l0_3.length) = true := decide_eq_true (by omega); exact z50_3
     ·rw [if_neg c4] at H; have c1b0 : decide (16 < (l0_3.length : Int)) = false := decide_eq_false c4; have c1b1 : decide (16 < l0_3.length) = false := decide_eq_false (by omega); clear c4; replace H := Option.bind_eq_some_iff.mp H; obtain ⟨t1, A1, H⟩ := H; have A2 := aM A1; clear A1; have H' := aM H; clear H; obtain ⟨i1_0, i1_1, i1_2, i1_3, i1_4, j1_0, j1_1, j1_2, j1_3, j1_4⟩ := cells5 BK1.out; go_wp2_with (first | (go_at_call 27; (with_reducible refine (net_nodes.calls k _ _ l0_0 _ _ l0_1 _ _ l0_2 _ _ l0_3 _ _ l0_4 t1 _ ?side1 ?side2 ?side3 ?side4 ?side5 ?side6 ?side7 ?side8 ?side9 ?side10 A2.out).mono ?_); (case side1 => exact q1z HR1_0 HB); (case side2 => exact HC1_0.out); (case side3 => exact q1z HR1_1 HB); (case side4 => exact HC1_1.out); (case side5 => exact q1z HR1_2 HB); (case side6 => exact HC1_2.out); (case side7 => exact q1z HR1_3 HB); (case side8 => exact HC1_3.out); (case side9 => exact q1z HR1_4 HB); (case side10 => exact HC1_4.out); rintro e w1 ⟨rfl, hb⟩; replace BK1 := aM (yi (zi BK1) hb); replace HB := aM (ym (q4z HB GE1) hb); (try clear hb); (try clear hb2); (try clear hk); (try clear hi)))
      go_meet
      case rel => exact ⟨_, (!t1), q13z, H', ⟨q52z⟩, ⟨q10z BK1⟩, ⟨q4z HB GE1⟩⟩
 case rest =>
  clear HC1; try clear c1
  try clear p2
  try clear c4
  try clear c1b0
  try clear c1b1
  try clear c5
  try clear c1b0
  try clear c1b1
  try clear c5
  try clear c1b0
  try clear c1b1
  try clear c5
  try clear c1b0
  try clear c1b1
  try clear c12
  try clear i1_0 i1_1 i1_2 i1_3 i1_4 i1_0 i1_1 i1_2 i1_3 i1_4 i1_0 i1_1 i1_2 i1_3 i1_4 i1_0 i1_1 i1_2 i1_3 i1_4 i1_0 i1_1 i1_2 i1_3 i1_4 j1_0 j1_1 j1_2 j1_3 j1_4 j1_0 j1_1 j1_2 j1_3 j1_4 j1_0 j1_1 j1_2 j1_3 j1_4 j1_0 j1_1 j1_2 j1_3 j1_4 j1_0 j1_1 j1_2 j1_3 j1_4
  obtain ⟨kq, x1_1, rfl, HA, HJ1, BK1, HB⟩ := hcut; cases kq with
  | zero => exact absurd HA.out (by simp [net_Right.j0])
  | succ kj1 =>
   have H := HA.out; clear HA; simp only [net_Right.j0] at H; by_cases c5 : x1_1 = true
   ·subst c5; exact z50_4
   ·replace c5 := Bool.eq_false_iff.mpr c5; subst c5; have H1 : ((net_places.f kj1 l0_0 l0_1 l0_2 l0_3 l0_4 21).bind fun t1 => ((api_Pin_int.f kj1 l0_1 t1 0).bind fun t2 => (if t2 = true then ((net_places.f kj1 l0_0 l0_1 l0_2 l0_3 l0_4 22).bind fun t3 => ((api_Cell_int.f kj1 l0_2 t3 0).bind fun t4 => (if t4 = true then ((net_cells.f kj1 l0_0 l0_1 l0_2 l0_3 l0_4).bind fun t5 => (net_Right.j1 kj1 (!t5) l0_0 l0_1 l0_2 l0_3 l0_4)) else (net_Right.j1 kj1 true l0_0 l0_1 l0_2 l0_3 l0_4)))) else (net_Right.j1 kj1 true l0_0 l0_1 l0_2 l0_3 l0_4)))) = some r := by rw [if_neg (show ¬ (false = true) by decide)] at H; exact H
    clear H; have H := H1; clear H1; have HC1 := aM H; clear H; go_upto_region 5 with (fail)
    go_cut [54] (fun v1 wc => ∃ (kq : Nat) (x1_15 : Bool), v1 = .bool x1_15 ∧ Aside0 (net_Right.j1 kq x1_15 l0_0 l0_1 l0_2 l0_3 l0_4 = some r) ∧ Aside0 (kq ≤ kj1) ∧ Aside0 (wc.heap[gb1]? = some (.cells #[(.slice A0_0 l0_0.length c0_0), (.slice A0_1 l0_1.length c0_1), (.slice A0_2 l0_2.length c0_2), (.slice A0_3 l0_3.length c0_3), (.slice A0_4 l0_4.length c0_4)] 27 (0, 0))) ∧ Aside0 (Below w.heap.size w wc))
    case first =>
     have H := HC1.out; clear HC1; replace H := Option.bind_eq_some_iff.mp H; obtain ⟨t1, A1, H⟩ := H; have A2 := aM A1; clear A1; replace H := Option.bind_eq_some_iff.mp H; obtain ⟨t2, A1, H⟩ := H; have A3 := aM A1; clear A1; by_cases c5 : t2 = true
     ·subst c5; have H1 : ((net_places.f kj1 l0_0 l0_1 l0_2 l0_3 l0_4 22).bind fun t3 => ((api_Cell_int.f kj1 l0_2 t3 0).bind fun t4 => (if t4 = true then ((net_cells.f kj1 l0_0 l0_1 l0_2 l0_3 l0_4).bind fun t5 => (net_Right.j1 kj1 (!t5) l0_0 l0_1 l0_2 l0_3 l0_4)) else (net_Right.j1 kj1 true l0_0 l0_1 l0_2 l0_3 l0_4)))) = some r := by rw [if_pos rfl] at H; exact H
      clear H; have H := H1; clear H1; replace H := Option.bind_eq_some_iff.mp H; obtain ⟨t3, A1, H⟩ := H; have A4 := aM A1; clear A1; replace H := Option.bind_eq_some_iff.mp H; obtain ⟨t4, A1, H⟩ := H; have A5 := aM A1; clear A1; by_cases c6 : t4 = true
      ·subst c6; have H1 : ((net_cells.f kj1 l0_0 l0_1 l0_2 l0_3 l0_4).bind fun t5 => (net_Right.j1 kj1 (!t5) l0_0 l0_1 l0_2 l0_3 l0_4)) = some r := by rw [if_pos rfl] at H; exact H
       clear H; have H := H1; clear H1; replace H := Option.bind_eq_some_iff.mp H; obtain ⟨t5, A1, H⟩ := H; have A6 := aM A1; clear A1; have H' := aM H; clear H; try go_wp2
       replace BK1 := aM (yc BK1.out); replace HB := aM (yk HB.out); refine start_ (n := 21) (S := fun w' => w'.cell? ⟨gb1, 0, none⟩ = some (.slice A0_0 l0_0.length c0_0) ∧ w'.cell? ⟨gb1, 1, none⟩ = some (.slice A0_1 l0_1.length c0_1) ∧ w'.cell? ⟨gb1, 2, none⟩ = some (.slice A0_2 l0_2.length c0_2) ∧ w'.cell? ⟨gb1, 3, none⟩ = some (.slice A0_3 l0_3.length c0_3) ∧ w'.cell? ⟨gb1, 4, none⟩ = some (.slice A0_4 l0_4.length c0_4)) (ds := []) (zb 21 0) (by kernel_rfl) rfl rfl ⟨zc BK1 0, zc BK1 1, zc BK1 2, zc BK1 3, zc BK1 4⟩ (fun hHeld => ?_); refine with_tabW net_Right.tab5 net_Right.bits5 (fun HT_ HW_ => ?_); generalize wc.drew = w1 at BK1 HB hHeld ⊢; refine zpu 0 34 (zb 21 1) ?_; refine zpu 4 38 (zb 21 17) ?_; refine ztk5 1 35 (zb 21 19) hHeld ?_; refine ztk5 2 36 (zb 21 23) hHeld ?_; refine zon 3 (some 37) (zb 21 31) fun K hK => ?_
       refine zgo Try.func31 #[.agg #[.slice A0_0 l0_0.length c0_0, .slice A0_1 l0_1.length c0_1, .slice A0_2 l0_2.length c0_2, .slice A0_3 l0_3.length c0_3, .slice A0_4 l0_4.length c0_4], .int .i64 21] ?_; with_reducible refine (net_places.calls kj1 _ _ l0_0 _ _ l0_1 _ _ l0_2 _ _ l0_3 _ _ l0_4 21 t1 _ ?side1 ?side2 ?side3 ?side4 ?side5 ?side6 ?side7 ?side8 ?side9 ?side10 A2.out).mono ?_
       (case side1 => exact q1z HR1_0 HB)
       (case side2 => exact HC1_0.out)
       (case side3 => exact q1z HR1_1 HB)
       (case side4 => exact HC1_1.out)
       (case side5 => exact q1z HR1_2 HB)
       (case side6 => exact HC1_2.out)
       (case side7 => exact q1z HR1_3 HB)
       (case side8 => exact HC1_3.out)
       (case side9 => exact q1z HR1_4 HB)
       (case side10 => exact HC1_4.out)
       rintro e w1 ⟨v1, rfl, ho1, hb⟩; refine ⟨_, rfl, ?_⟩; have HO1 := aM (Kd.R_lower ho1 (yn (q4z HB GE1))); replace BK1 := aM (yi (zi BK1) hb); replace HB := aM (ym (q4z HB GE1) hb); (try clear hb)
       (try clear hb2)
       (try clear hk)
       (try clear hi)
       (try clear ho1)
       obtain ⟨Ao1, co1, eo1⟩ := Kd.R_slice HO1.out; (first | subst eo1 | (injection eo1 with f1_ f2_ f3_; have f4_ := f1_.symm; have f5_ := f3_.symm; clear f1_ f2_ f3_; subst f4_; subst f5_))
       refine hK.out _ _ ⟨zc BK1 0, zc BK1 1, zc BK1 2, zc BK1 3, zc BK1 4⟩ (fun hHeld => ?_); clear hK K; refine zno 37 ?_; refine zon 5 (some 39) (zb 21 63) fun K hK => ?_
       refine zgo Try.func30 #[.slice A0_1 l0_1.length c0_1, .slice Ao1 t1.length co1, .func (.func 28) #[] #[]] ?_; with_reducible refine (api_Pin_int.calls kj1 _ _ l0_1 _ _ t1 0 true _ ?side1 ?side2 ?side3 ?side4 A3.out).mono ?_
       (case side1 => exact q1z HR1_1 HB)
       (case side2 => exact HC1_1.out)
       (case side3 => exact q9z HO1)
       (case side4 => exact q24z HO1)
       rintro e w1 ⟨rfl, hb⟩; refine ⟨_, rfl, ?_⟩; replace HO1 := aM (yr (q2z HO1) hb); replace BK1 := aM (yi (zi BK1) hb); replace HB := aM (ym (q4z HB GE1) hb); (try clear hb)
       (try clear hb2)
       (try clear hk)
       (try clear hi)
       refine hK.out _ _ ⟨zc BK1 0, zc BK1 1, zc BK1 2, zc BK1 3, zc BK1 4⟩ (fun hHeld => ?_); clear hK K; refine zno 39 ?_; refine zpu 6 40 (zb 21 127) ?_; refine zpu 7 41 (zb 21 255) ?_; refine zpu 8 42 (zb 21 511) ?_; refine zpu 12 46 (zb 21 4607) ?_; refine ztk5 9 43 (zb 21 5119) hHeld ?_; refine ztk5 10 44 (zb 21 6143) hHeld ?_; refine zon 11 (some 45) (zb 21 8191) fun K hK => ?_
       refine zgo Try.func31 #[.agg #[.slice A0_0 l0_0.length c0_0, .slice A0_1 l0_1.length c0_1, .slice A0_2 l0_2.length c0_2, .slice A0_3 l0_3.length c0_3, .slice A0_4 l0_4.length c0_4], .int .i64 22] ?_; with_reducible refine (net_places.calls kj1 _ _ l0_0 _ _ l0_1 _ _ l0_2 _ _ l0_3 _ _ l0_4 22 t3 _ ?side1 ?side2 ?side3 ?side4 ?side5 ?side6 ?side7 ?side8 ?side9 ?side10 A4.out).mono ?_
       (case side1 => exact q1z HR1_0 HB)
       (case side2 => exact HC1_0.out)
       (case side3 => exact q1z HR1_1 HB)
       (case side4 => exact HC1_1.out)
       (case side5 => exact q1z HR1_2 HB)
       (case side6 => exact HC1_2.out)
       (case side7 => exact q1z HR1_3 HB)
       (case side8 => exact HC1_3.out)
       (case side9 => exact q1z HR1_4 HB)
       (case side10 => exact HC1_4.out)
       rintro e w1 ⟨v1, rfl, ho1, hb⟩; refine ⟨_, rfl, ?_⟩; have HO2 := aM (Kd.R_lower (Kd.R_new' ho1 (Kd.R_lt (q2z HO1))) (yn (q4z HB GE1))); replace HO1 := aM (Kd.R_elder' (q2z HO1) (Kd.R_base ho1) hb); replace BK1 := aM (yi (zi BK1) hb); replace HB := aM (ym (q4z HB GE1) hb); (try clear hb)
       (try clear hb2)
       (try clear hk)
       (try clear hi)
       (try clear ho1)
       obtain ⟨Ao1, co1, eo1⟩ := Kd.R_slice HO2.out; (first | subst eo1 | (injection eo1 with f1_ f2_ f3_; have f4_ := f1_.symm; have f5_ := f3_.symm; clear f1_ f2_ f3_; subst f4_; subst f5_))
       refine hK.out _ _ ⟨zc BK1 0, zc BK1 1, zc BK1 2, zc BK1 3, zc BK1 4⟩ (fun hHeld => ?_); clear hK K; refine zno 45 ?_; refine zon 13 (some 47) (zb 21 16383) fun K hK => ?_
       refine zgo Try.func32 #[.slice A0_2 l0_2.length c0_2, .slice Ao1 t3.length co1, .func (.func 29) #[] #[]] ?_; with_reducible refine (api_Cell_int.calls kj1 _ _ l0_2 _ _ t3 0 true _ ?side1 ?side2 ?side3 ?side4 A5.out).mono ?_
       (case side1 => exact q1z HR1_2 HB)
       (case side2 => exact HC1_2.out)
       (case side3 => exact q9z HO2)
       (case side4 => exact q24z HO2)
       rintro e w1 ⟨rfl, hb⟩; refine ⟨_, rfl, ?_⟩; replace HO1 := aM (yr (q2z HO1) hb); replace HO2 := aM (yr (q2z HO2) hb); replace BK1 := aM (yi (zi BK1) hb); replace HB := aM (ym (q4z HB GE1) hb); (try clear hb)
       (try clear hb2)
       (try clear hk)
       (try clear hi)
       refine hK.out _ _ ⟨zc BK1 0, zc BK1 1, zc BK1 2, zc BK1 3, zc BK1 4⟩ (fun hHeld => ?_); clear hK K; refine zno 47 ?_; refine zpu 14 48 (zb 21 32767) ?_; refine zpu 15 49 (zb 21 65535) ?_; refine zpu 16 50 (zb 21 131071) ?_; refine ztk5 17 51 (zb 21 262143) hHeld ?_; refine zon 18 (some 52) (zb 21 524287) fun K hK => ?_
       refine zgo Try.func33 #[.agg #[.slice A0_0 l0_0.length c0_0, .slice A0_1 l0_1.length c0_1, .slice A0_2 l0_2.length c0_2, .slice A0_3 l0_3.length c0_3, .slice A0_4 l0_4.length c0_4]] ?_; with_reducible refine (net_cells.calls kj1 _ _ l0_0 _ _ l0_1 _ _ l0_2 _ _ l0_3 _ _ l0_4 t5 _ ?side1 ?side2 ?side3 ?side4 ?side5 ?side6 ?side7 ?side8 ?side9 ?side10 A6.out).mono ?_
       (case side1 => exact q1z HR1_0 HB)
       (case side2 => exact HC1_0.out)
       (case side3 => exact q1z HR1_1 HB)
       (case side4 => exact HC1_1.out)
       (case side5 => exact q1z HR1_2 HB)
       (case side6 => exact HC1_2.out)
       (case side7 => exact q1z HR1_3 HB)
       (case side8 => exact HC1_3.out)
       (case side9 => exact q1z HR1_4 HB)
       (case side10 => exact HC1_4.out)
       rintro e w1 ⟨rfl, hb⟩; refine ⟨_, rfl, ?_⟩; replace HO1 := aM (yr (q2z HO1) hb); replace HO2 := aM (yr (q2z HO2) hb); replace BK1 := aM (yi (zi BK1) hb); replace HB := aM (ym (q4z HB GE1) hb); (try clear hb)
       (try clear hb2)
       (try clear hk)
       (try clear hi)
       refine hK.out _ _ ⟨zc BK1 0, zc BK1 1, zc BK1 2, zc BK1 3, zc BK1 4⟩ (fun hHeld => ?_); clear hK K; refine zno 52 ?_; refine zpu 19 53 (zb 21 1048575) ?_; refine zpu 20 54 (zb 21 2097151) ?_; refine zdo ?_; try go_wp2
       go_meet
       case rel => exact ⟨_, (!t5), q13z, H', ⟨q55z HJ1⟩, ⟨q10z BK1⟩, ⟨q4z HB GE1⟩⟩
      ·replace c6 := Bool.eq_false_iff.mpr c6; subst c6; have H1 : (net_Right.j1 kj1 true l0_0 l0_1 l0_2 l0_3 l0_4) = some r := by rw [if_neg (show ¬ (false = true) by decide)] at H; exact H
       clear H; have H := H1; clear H1; have H' := aM H; clear H; try go_wp2
       replace BK1 := aM (yc BK1.out); replace HB := aM (yk HB.out); refine start_ (n := 21) (S := fun w' => w'.cell? ⟨gb1, 0, none⟩ = some (.slice A0_0 l0_0.length c0_0) ∧ w'.cell? ⟨gb1, 1, none⟩ = some (.slice A0_1 l0_1.length c0_1) ∧ w'.cell? ⟨gb1, 2, none⟩ = some (.slice A0_2 l0_2.length c0_2) ∧ w'.cell? ⟨gb1, 3, none⟩ = some (.slice A0_3 l0_3.length c0_3) ∧ w'.cell? ⟨gb1, 4, none⟩ = some (.slice A0_4 l0_4.length c0_4)) (ds := []) (zb 21 0) (by kernel_rfl) rfl rfl ⟨zc BK1 0, zc BK1 1, zc BK1 2, zc BK1 3, zc BK1 4⟩ (fun hHeld => ?_); refine with_tabW net_Right.tab5 net_Right.bits5 (fun HT_ HW_ => ?_); generalize wc.drew = w1 at BK1 HB hHeld ⊢; refine zpu 0 34 (zb 21 1) ?_; refine zpu 4 38 (zb 21 17) ?_; refine ztk5 1 35 (zb 21 19) hHeld ?_; refine ztk5 2 36 (zb 21 23) hHeld ?_; refine zon 3 (some 37) (zb 21 31) fun K hK => ?_
       refine zgo Try.func31 #[.agg #[.slice A0_0 l0_0.length c0_0, .slice A0_1 l0_1.length c0_1, .slice A0_2 l0_2.length c0_2, .slice A0_3 l0_3.length c0_3, .slice A0_4 l0_4.length c0_4], .int .i64 21] ?_; with_reducible refine (net_places.calls kj1 _ _ l0_0 _ _ l0_1 _ _ l0_2 _ _ l0_3 _ _ l0_4 21 t1 _ ?side1 ?side2 ?side3 ?side4 ?side5 ?side6 ?side7 ?side8 ?side9 ?side10 A2.out).mono ?_
       (case side1 => exact q1z HR1_0 HB)
       (case side2 => exact HC1_0.out)
       (case side3 => exact q1z HR1_1 HB)
       (case side4 => exact HC1_1.out)
       (case side5 => exact q1z HR1_2 HB)
       (case side6 => exact HC1_2.out)
       (case side7 => exact q1z HR1_3 HB)
       (case side8 => exact HC1_3.out)
       (case side9 => exact q1z HR1_4 HB)
       (case side10 => exact HC1_4.out)
       rintro e w1 ⟨v1, rfl, ho1, hb⟩; refine ⟨_, rfl, ?_⟩; have HO1 := aM (Kd.R_lower ho1 (yn (q4z HB GE1))); replace BK1 := aM (yi (zi BK1) hb); replace HB := aM (ym (q4z HB GE1) hb); (try clear hb)
       (try clear hb2)
       (try clear hk)
       (try clear hi)
       (try clear ho1)
       obtain ⟨Ao1, co1, eo1⟩ := Kd.R_slice HO1.out; (first | subst eo1 | (injection eo1 with f1_ f2_ f3_; have f4_ := f1_.symm; have f5_ := f3_.symm; clear f1_ f2_ f3_; subst f4_; subst f5_))
       refine hK.out _ _ ⟨zc BK1 0, zc BK1 1, zc BK1 2, zc BK1 3, zc BK1 4⟩ (fun hHeld => ?_); clear hK K; refine zno 37 ?_; refine zon 5 (some 39) (zb 21 63) fun K hK => ?_
       refine zgo Try.func30 #[.slice A0_1 l0_1.length c0_1, .slice Ao1 t1.length co1, .func (.func 28) #[] #[]] ?_; with_reducible refine (api_Pin_int.calls kj1 _ _ l0_1 _ _ t1 0 true _ ?side1 ?side2 ?side3 ?side4 A3.out).mono ?_
       (case side1 => exact q1z HR1_1 HB)
       (case side2 => exact HC1_1.out)
       (case side3 => exact q9z HO1)
       (case side4 => exact q24z HO1)
       rintro e w1 ⟨rfl, hb⟩; refine ⟨_, rfl, ?_⟩; replace HO1 := aM (yr (q2z HO1) hb); replace BK1 := aM (yi (zi BK1) hb); replace HB := aM (ym (q4z HB GE1) hb); (try clear hb)
       (try clear hb2)
       (try clear hk)
       (try clear hi)
       refine hK.out _ _ ⟨zc BK1 0, zc BK1 1, zc BK1 2, zc BK1 3, zc BK1 4⟩ (fun hHeld => ?_); clear hK K; refine zno 39 ?_; refine zpu 6 40 (zb 21 127) ?_; refine zpu 7 41 (zb 21 255) ?_; refine zpu 8 42 (zb 21 511) ?_; refine zpu 12 46 (zb 21 4607) ?_; refine ztk5 9 43 (zb 21 5119) hHeld ?_; refine ztk5 10 44 (zb 21 6143) hHeld ?_; refine zon 11 (some 45) (zb 21 8191) fun K hK => ?_
       refine zgo Try.func31 #[.agg #[.slice A0_0 l0_0.length c0_0, .slice A0_1 l0_1.length c0_1, .slice A0_2 l0_2.length c0_2, .slice A0_3 l0_3.length c0_3, .slice A0_4 l0_4.length c0_4], .int .i64 22] ?_; with_reducible refine (net_places.calls kj1 _ _ l0_0 _ _ l0_1 _ _ l0_2 _ _ l0_3 _ _ l0_4 22 t3 _ ?side1 ?side2 ?side3 ?side4 ?side5 ?side6 ?side7 ?side8 ?side9 ?side10 A4.out).mono ?_
       (case side1 => exact q1z HR1_0 HB)
       (case side2 => exact HC1_0.out)
       (case side3 => exact q1z HR1_1 HB)
       (case side4 => exact HC1_1.out)
       (case side5 => exact q1z HR1_2 HB)
       (case side6 => exact HC1_2.out)
       (case side7 => exact q1z HR1_3 HB)
       (case side8 => exact HC1_3.out)
       (case side9 => exact q1z HR1_4 HB)
       (case side10 => exact HC1_4.out)
       rintro e w1 ⟨v1, rfl, ho1, hb⟩; refine ⟨_, rfl, ?_⟩; have HO2 := aM (Kd.R_lower (Kd.R_new' ho1 (Kd.R_lt (q2z HO1))) (yn (q4z HB GE1))); replace HO1 := aM (Kd.R_elder' (q2z HO1) (Kd.R_base ho1) hb); replace BK1 := aM (yi (zi BK1) hb); replace HB := aM (ym (q4z HB GE1) hb); (try clear hb)
       (try clear hb2)
       (try clear hk)
       (try clear hi)
       (try clear ho1)
       obtain ⟨Ao1, co1, eo1⟩ := Kd.R_slice HO2.out; (first | subst eo1 | (injection eo1 with f1_ f2_ f3_; have f4_ := f1_.symm; have f5_ := f3_.symm; clear f1_ f2_ f3_; subst f4_; subst f5_))
       refine hK.out _ _ ⟨zc BK1 0, zc BK1 1, zc BK1 2, zc BK1 3, zc BK1 4⟩ (fun hHeld => ?_); clear hK K; refine zno 45 ?_; refine zon 13 (some 47) (zb 21 16383) fun K hK => ?_
       refine zgo Try.func32 #[.slice A0_2 l0_2.length c0_2, .slice Ao1 t3.length co1, .func (.func 29) #[] #[]] ?_; with_reducible refine (api_Cell_int.calls kj1 _ _ l0_2 _ _ t3 0 false _ ?side1 ?side2 ?side3 ?side4 A5.out).mono ?_
       (case side1 => exact q1z HR1_2 HB)
       (case side2 => exact HC1_2.out)
       (case side3 => exact q9z HO2)
       (case side4 => exact q24z HO2)
       rintro e w1 ⟨rfl, hb⟩; refine ⟨_, rfl, ?_⟩; replace HO1 := aM (yr (q2z HO1) hb); replace HO2 := aM (yr (q2z HO2) hb); replace BK1 := aM (yi (zi BK1) hb); replace HB := aM (ym (q4z HB GE1) hb); (try clear hb)
       (try clear hb2)
       (try clear hk)
       (try clear hi)
       refine hK.out _ _ ⟨zc BK1 0, zc BK1 1, zc BK1 2, zc BK1 3, zc BK1 4⟩ (fun hHeld => ?_); clear hK K; refine zno 47 ?_; refine zpu 14 48 (zb 21 32767) ?_; exact z50_2
     ·replace c5 := Bool.eq_false_iff.mpr c5; subst c5; have H1 : (net_Right.j1 kj1 true l0_0 l0_1 l0_2 l0_3 l0_4) = some r := by rw [if_neg (show ¬ (false = true) by decide)] at H; exact H
      clear H; have H := H1; clear H1; have H' := aM H; clear H; try go_wp2
      replace BK1 := aM (yc BK1.out); replace HB := aM (yk HB.out); refine start_ (n := 21) (S := fun w' => w'.cell? ⟨gb1, 0, none⟩ = some (.slice A0_0 l0_0.length c0_0) ∧ w'.cell? ⟨gb1, 1, none⟩ = some (.slice A0_1 l0_1.length c0_1) ∧ w'.cell? ⟨gb1, 2, none⟩ = some (.slice A0_2 l0_2.length c0_2) ∧ w'.cell? ⟨gb1, 3, none⟩ = some (.slice A0_3 l0_3.length c0_3) ∧ w'.cell? ⟨gb1, 4, none⟩ = some (.slice A0_4 l0_4.length c0_4)) (ds := []) (zb 21 0) (by kernel_rfl) rfl rfl ⟨zc BK1 0, zc BK1 1, zc BK1 2, zc BK1 3, zc BK1 4⟩ (fun hHeld => ?_); refine with_tabW net_Right.tab5 net_Right.bits5 (fun HT_ HW_ => ?_); generalize wc.drew = w1 at BK1 HB hHeld ⊢; refine zpu 0 34 (zb 21 1) ?_; refine zpu 4 38 (zb 21 17) ?_; refine ztk5 1 35 (zb 21 19) hHeld ?_; refine ztk5 2 36 (zb 21 23) hHeld ?_; refine zon 3 (some 37) (zb 21 31) fun K hK => ?_
      refine zgo Try.func31 #[.agg #[.slice A0_0 l0_0.length c0_0, .slice A0_1 l0_1.length c0_1, .slice A0_2 l0_2.length c0_2, .slice A0_3 l0_3.length c0_3, .slice A0_4 l0_4.length c0_4], .int .i64 21] ?_; with_reducible refine (net_places.calls kj1 _ _ l0_0 _ _ l0_1 _ _ l0_2 _ _ l0_3 _ _ l0_4 21 t1 _ ?side1 ?side2 ?side3 ?side4 ?side5 ?side6 ?side7 ?side8 ?side9 ?side10 A2.out).mono ?_
      (case side1 => exact q1z HR1_0 HB)
      (case side2 => exact HC1_0.out)
      (case side3 => exact q1z HR1_1 HB)
      (case side4 => exact HC1_1.out)
      (case side5 => exact q1z HR1_2 HB)
      (case side6 => exact HC1_2.out)
      (case side7 => exact q1z HR1_3 HB)
      (case side8 => exact HC1_3.out)
      (case side9 => exact q1z HR1_4 HB)
      (case side10 => exact HC1_4.out)
      rintro e w1 ⟨v1, rfl, ho1, hb⟩; refine ⟨_, rfl, ?_⟩; have HO1 := aM (Kd.R_lower ho1 (yn (q4z HB GE1))); replace BK1 := aM (yi (zi BK1) hb); replace HB := aM (ym (q4z HB GE1) hb); (try clear hb)
      (try clear hb2)
      (try clear hk)
      (try clear hi)
      (try clear ho1)
      obtain ⟨Ao1, co1, eo1⟩ := Kd.R_slice HO1.out; (first | subst eo1 | (injection eo1 with f1_ f2_ f3_; have f4_ := f1_.symm; have f5_ := f3_.symm; clear f1_ f2_ f3_; subst f4_; subst f5_))
      refine hK.out _ _ ⟨zc BK1 0, zc BK1 1, zc BK1 2, zc BK1 3, zc BK1 4⟩ (fun hHeld => ?_); clear hK K; refine zno 37 ?_; refine zon 5 (some 39) (zb 21 63) fun K hK => ?_
      refine zgo Try.func30 #[.slice A0_1 l0_1.length c0_1, .slice Ao1 t1.length co1, .func (.func 28) #[] #[]] ?_; with_reducible refine (api_Pin_int.calls kj1 _ _ l0_1 _ _ t1 0 false _ ?side1 ?side2 ?side3 ?side4 A3.out).mono ?_
      (case side1 => exact q1z HR1_1 HB)
      (case side2 => exact HC1_1.out)
      (case side3 => exact q9z HO1)
      (case side4 => exact q24z HO1)
      rintro e w1 ⟨rfl, hb⟩; refine ⟨_, rfl, ?_⟩; replace HO1 := aM (yr (q2z HO1) hb); replace BK1 := aM (yi (zi BK1) hb); replace HB := aM (ym (q4z HB GE1) hb); (try clear hb)
      (try clear hb2)
      (try clear hk)
      (try clear hi)
      refine hK.out _ _ ⟨zc BK1 0, zc BK1 1, zc BK1 2, zc BK1 3, zc BK1 4⟩ (fun hHeld => ?_); clear hK K; refine zno 39 ?_; refine zpu 6 40 (zb 21 127) ?_; refine zpu 7 41 (zb 21 255) ?_; refine zpn 8 42 (zb 21 511) ?_; refine zpn 9 43 (zb 21 1023) ?_; refine zpn 10 44 (zb 21 2047) ?_; refine zpn 11 45 (zb 21 4095) ?_; refine zpn 12 46 (zb 21 8191) ?_; refine zpn 13 47 (zb 21 16383) ?_; refine zpn 14 48 (zb 21 32767) ?_; exact z50_2
    case rest =>
     clear HC1; try clear c1
     try clear c2
     try clear p2
     try clear c3
     try clear c5
     try clear c6
     try clear c30
     try clear c31
     try clear c32
     try clear c33
     obtain ⟨kq, x1_15, rfl, HA, HJ2, BK1, HB⟩ := hcut; cases kq with
     | zero => exact absurd HA.out (by simp [net_Right.j1])
     | succ kj1 =>
      have H := HA.out; clear HA; simp only [net_Right.j1] at H; by_cases c7 : x1_15 = true
      ·subst c7; exact z50_4
      ·replace c7 := Bool.eq_false_iff.mpr c7; subst c7; have H1 : (net_Right.l0 kj1 l0_3 (l0_3.length : Int) 0 l0_0 l0_1 l0_2 l0_3 l0_4) = some r := by rw [if_neg (show ¬ (false = true) by decide)] at H; exact H
       clear H; have H := H1; clear H1; have H' := aM H; clear H; obtain ⟨i1_0, i1_1, i1_2, i1_3, i1_4, j1_0, j1_1, j1_2, j1_3, j1_4⟩ := cells5 BK1.out; go_wp2
       go_loopg [58] kj1 (fun kq v1 w' => ∃ (x1_3 : Int), v1 = .int .i64 x1_3 ∧ Aside0 (net_Right.l0 kq l0_3 (l0_3.length : Int) x1_3 l0_0 l0_1 l0_2 l0_3 l0_4 = some r) ∧ Aside0 (kq ≤ kj1) ∧ Aside0 (w'.heap[gb1]? = some (.cells #[(.slice A0_0 l0_0.length c0_0), (.slice A0_1 l0_1.length c0_1), (.slice A0_2 l0_2.length c0_2), (.slice A0_3 l0_3.length c0_3), (.slice A0_4 l0_4.length c0_4)] 27 (0, 0))) ∧ Aside0 (Below w.heap.size w w'))
       case atStart => exact ⟨(0), q13z, H', ⟨Nat.le_refl _⟩, ⟨q10z BK1⟩, ⟨q4z HB GE1⟩⟩
       case round =>
        clear H'; try clear c1
        try clear c2
        try clear p2
        try clear c3
        try clear c4
        try clear c5
        try clear c6
        try clear c30
        try clear c31
        try clear c32
        try clear c33
        try clear c7
        try clear i1_0 i1_1 i1_2 i1_3 i1_4 j1_0 j1_1 j1_2 j1_3 j1_4
        try clear p2
        obtain ⟨x1_3, rfl, HA, HK1, BK1, HB⟩ := hrel; cases gk with
        | zero => exact absurd HA.out (by simp [net_Right.l0])
        | succ k1 =>
         have H := HA.out; clear HA; simp only [net_Right.l0] at H; by_cases c4 : x1_3 < (l0_3.length : Int)
         ·rw [if_pos c4] at H; have c1b0 := decide_eq_true c4; clear c4; by_cases c5 : 0 ≤ x1_3
          ·rw [if_pos c5] at H; have c1b0 := decide_eq_true c5; clear c5; by_cases c6 : x1_3 < (l0_3.length : Int)
           ·rw [if_pos c6] at H; have c1b0 := decide_eq_true c6; clear c6; by_cases c7 : ((rd_T61 l0_3 x1_3).f0) < 8
            ·rw [if_pos c7] at H; have c1b0 := decide_eq_true c7; exact z50_1
            ·rw [if_neg c7] at H; have c1b0 := decide_eq_false c7; clear c7; by_cases c7 : ((rd_T61 l0_3 x1_3).f0) > 10
             ·rw [if_pos c7] at H; have c1b0 : decide (10 < ((rd_T61 l0_3 x1_3).f0)) = true := decide_eq_true c7; exact z50_1
             ·rw [if_neg c7] at H; have c1b0 : decide (10 < ((rd_T61 l0_3 x1_3).f0)) = false := decide_eq_false c7; clear c7; replace H := Option.bind_eq_some_iff.mp H; obtain ⟨t1, A1, H⟩ := H; have A2 := aM A1; clear A1; by_cases c7 : t1 = 1
              ·rw [if_pos c7] at H; obtain ⟨c1b0, c1b1⟩ := zeq c7; clear c7; have H' := aM H; clear H; have p1 : 0 ≤ (x1_3 : Int) := zod; have q1 : x1_3 < (l0_3.length : Int) := zod; obtain ⟨ad1, e1, hx1_0, hx1_1, hx1_2⟩ := at_T61 HR1_3.out x1_3 p1 q1; cases e1; replace hx1_0 := zx HB hx1_0; replace hx1_1 := zx HB hx1_1; replace hx1_2 := zx HB hx1_2; replace p1 := eq_true p1; replace q1 := eq_true q1; go_wp2_with (first | ((with_reducible refine gate_dst (N := 6) rfl ?_); (try (refine gate_guard (by rfl) ?_; dsimp only)); refine box_event ?hg (N := 6) ?hd (cs := #[.int .i64 0, .string (⟨#[]⟩ : ByteArray), .int .i64 0]) (t := 61) ?hr ?_; (case hd => rfl); (case hg => rfl); (case hr => exact q30z); intro gb2 hg w1 hbox hb; have BK2 := aM (hbox); have GW1 := aM ((q12z HB GE1 : w.heap.size ≤ gb2)); have GE2 := aM ((q12z HB GE1 : w.heap.size ≤ gb2)); replace HB := aM (ym (q4z HB GE1) hb); have NB1_186 := aM ((q34z BK1 : gb1 ≠ gb2)); have NB1_174 := aM ((q35z BK1 : gb2 ≠ gb1)); replace BK1 := aM (yi (zi BK1) hb); clear hb hbox hg; have hnb1 := NB1_174.out; have hnc1 := NB1_186.out; obtain ⟨i1_0, i1_1, i1_2, j1_0, j1_1, j1_2⟩ := cells3 BK2.out; obtain ⟨i2_0, i2_1, i2_2, i1_3, i1_4, j2_0, j2_1, j2_2, j1_3, j1_4⟩ := cells5 BK1.out) | (go_at_call 34; (with_reducible refine (net_width.calls _ _ l0_0 _ _ l0_1 _ _ l0_2 _ _ l0_3 _ _ l0_4 ((rd_T61 l0_3 x1_3).f2) (l0_0.length : Int) t1 _ ?side1 ?side2 ?side3 ?side4 ?side5 ?side6 ?side7 ?side8 ?side9 ?side10 A2.out).mono ?_); (case side1 => exact q18z HR1_0 HB GE1 GE2); (case side2 => exact HC1_0.out); (case side3 => exact q18z HR1_1 HB GE1 GE2); (case side4 => exact HC1_1.out); (case side5 => exact q18z HR1_2 HB GE1 GE2); (case side6 => exact HC1_2.out); (case side7 => exact q18z HR1_3 HB GE1 GE2); (case side8 => exact HC1_3.out); (case side9 => exact q18z HR1_4 HB GE1 GE2); (case side10 => exact HC1_4.out); rintro e w2 ⟨rfl, hb⟩; replace BK1 := aM (yi (g := gb1) (o := .cells #[.slice A0_0 l0_0.length c0_0, .slice A0_1 l0_1.length c0_1, .slice A0_2 l0_2.length c0_2, .slice (some ad1) l0_3.length c0_3, .slice A0_4 l0_4.length c0_4] 27 (0, 0)) (q32z NB1_186 BK1) hb); replace BK2 := aM (yi (g := gb2) (o := .cells #[.int .i64 ((rd_T61 l0_3 x1_3).f0), .string ((rd_T61 l0_3 x1_3).f1), .int .i64 ((rd_T61 l0_3 x1_3).f2)] 61 (0, 0)) (q50z BK2) hb); replace HB := aM (ym (q3z HB GE1 GE2) hb); (try clear hb); (try clear hb2); (try clear hk); (try clear hi)))
               go_roundg k1
               case measure => have := HJ1.out; have := HJ2.out; have := HK1.out; omega
               case rel => exact ⟨(wrap64 (x1_3 + 1)), q13z, H', ⟨q85z HJ1 HJ2 HK1⟩, ⟨q10z BK1⟩, ⟨q3z HB GE1 GE2⟩⟩
              ·rw [if_neg c7] at H; obtain ⟨c1b0, c1b1⟩ := zne c7; obtain rfl := Option.some.inj H; have p1 : 0 ≤ (x1_3 : Int) := zod; have q1 : x1_3 < (l0_3.length : Int) := zod; obtain ⟨ad1, e1, hx1_0, hx1_1, hx1_2⟩ := at_T61 HR1_3.out x1_3 p1 q1; cases e1; replace hx1_0 := zx HB hx1_0; replace hx1_1 := zx HB hx1_1; replace hx1_2 := zx HB hx1_2; replace p1 := eq_true p1; replace q1 := eq_true q1; go_wp2_with (first | ((with_reducible refine gate_dst (N := 6) rfl ?_); (try (refine gate_guard (by rfl) ?_; dsimp only)); refine box_event ?hg (N := 6) ?hd (cs := #[.int .i64 0, .string (⟨#[]⟩ : ByteArray), .int .i64 0]) (t := 61) ?hr ?_; (case hd => rfl); (case hg => rfl); (case hr => exact q30z); intro gb2 hg w1 hbox hb; have BK2 := aM (hbox); have GW1 := aM ((q12z HB GE1 : w.heap.size ≤ gb2)); have GE2 := aM ((q12z HB GE1 : w.heap.size ≤ gb2)); replace HB := aM (ym (q4z HB GE1) hb); have NB1_186 := aM ((q34z BK1 : gb1 ≠ gb2)); have NB1_174 := aM ((q35z BK1 : gb2 ≠ gb1)); replace BK1 := aM (yi (zi BK1) hb); clear hb hbox hg; have hnb1 := NB1_174.out; have hnc1 := NB1_186.out; obtain ⟨i1_0, i1_1, i1_2, j1_0, j1_1, j1_2⟩ := cells3 BK2.out; obtain ⟨i2_0, i2_1, i2_2, i1_3, i1_4, j2_0, j2_1, j2_2, j1_3, j1_4⟩ := cells5 BK1.out) | (go_at_call 34; (with_reducible refine (net_width.calls _ _ l0_0 _ _ l0_1 _ _ l0_2 _ _ l0_3 _ _ l0_4 ((rd_T61 l0_3 x1_3).f2) (l0_0.length : Int) t1 _ ?side1 ?side2 ?side3 ?side4 ?side5 ?side6 ?side7 ?side8 ?side9 ?side10 A2.out).mono ?_); (case side1 => exact q18z HR1_0 HB GE1 GE2); (case side2 => exact HC1_0.out); (case side3 => exact q18z HR1_1 HB GE1 GE2); (case side4 => exact HC1_1.out); (case side5 => exact q18z HR1_2 HB GE1 GE2); (case side6 => exact HC1_2.out); (case side7 => exact q18z HR1_3 HB GE1 GE2); (case side8 => exact HC1_3.out); (case side9 => exact q18z HR1_4 HB GE1 GE2); (case side10 => exact HC1_4.out); rintro e w2 ⟨rfl, hb⟩; replace BK1 := aM (yi (g := gb1) (o := .cells #[.slice A0_0 l0_0.length c0_0, .slice A0_1 l0_1.length c0_1, .slice A0_2 l0_2.length c0_2, .slice (some ad1) l0_3.length c0_3, .slice A0_4 l0_4.length c0_4] 27 (0, 0)) (q32z NB1_186 BK1) hb); replace BK2 := aM (yi (g := gb2) (o := .cells #[.int .i64 ((rd_T61 l0_3 x1_3).f0), .string ((rd_T61 l0_3 x1_3).f1), .int .i64 ((rd_T61 l0_3 x1_3).f2)] 61 (0, 0)) (q50z BK2) hb); replace HB := aM (ym (q3z HB GE1 GE2) hb); (try clear hb); (try clear hb2); (try clear hk); (try clear hi)))
               go_ret
               exact ⟨q11z, q3z HB GE1 GE2⟩
           ·rw [if_neg c6] at H; exact absurd H (by simp)
          ·rw [if_neg c5] at H; exact absurd H (by simp)
         ·rw [if_neg c4] at H; have c1b0 := decide_eq_false c4; clear c4; replace H := Option.bind_eq_some_iff.mp H; obtain ⟨t1, A1, H⟩ := H; have A2 := aM A1; clear A1; obtain rfl := Option.some.inj H; obtain ⟨i1_0, i1_1, i1_2, i1_3, i1_4, j1_0, j1_1, j1_2, j1_3, j1_4⟩ := cells5 BK1.out; go_wp2_with (first | ((with_reducible refine zgc 35 rfl ?_); refine zgl (some 84) Try.func35 #[.slice A0_4 l0_4.length c0_4, .func (.func 36) #[] #[.pointer (some ⟨gb1, 0, none⟩)]] ?_; (with_reducible refine (api_Pin_35.calls k1 _ _ l0_4 ⟨l0_0, l0_1, l0_2, l0_3, l0_4⟩ t1 _ ?side1 ?side2 A2.out gb1 ?hk9).mono ?_); (case hk9 => exact ⟨A0_0, c0_0, A0_1, c0_1, A0_2, c0_2, A0_3, c0_3, A0_4, c0_4, (zi BK1), ⟨Kd.C_below HR1_0.out HB.out, HC1_0.out⟩, ⟨Kd.C_below HR1_1.out HB.out, HC1_1.out⟩, ⟨Kd.C_below HR1_2.out HB.out, HC1_2.out⟩, ⟨Kd.C_below HR1_3.out HB.out, HC1_3.out⟩, Kd.C_below HR1_4.out HB.out, HC1_4.out⟩); (case side1 => exact q1z HR1_4 HB); (case side2 => exact HC1_4.out); rintro e w1 ⟨rfl, hb⟩; refine ⟨_, rfl, ?_⟩; replace BK1 := aM (yi (zi BK1) hb); replace HB := aM (ym (q4z HB GE1) hb); (try clear hb); (try clear hb2); (try clear hk); (try clear hi)))
          go_ret
          exact ⟨q11z, q4z HB GE1⟩
attribute [local go_sem high] eqA41
def api_Node.l0 : Nat → List (S41) → List (S41) → Int → Int → Option (Bool)
 | 0, _, _, _, _ => none
 | k + 1, x0, x1, x12, x13 => if x13 < x12 then (if 0 ≤ x13 then (if x13 < (x0.length : Int) then (if x13 < (x1.length : Int) then (if (!(((rd_T41 x0 x13).f0) == ((rd_T41 x1 x13).f0)) || (!(((rd_T41 x0 x13).f1) == ((rd_T41 x1 x13).f1)) || (!(((rd_T41 x0 x13).f2) == ((rd_T41 x1 x13).f2)) || (!(((rd_T41 x0 x13).f3) == ((rd_T41 x1 x13).f3)) || (!(((rd_T41 x0 x13).f4) == ((rd_T41 x1 x13).f4)) || (!(((rd_T41 x0 x13).f5) == ((rd_T41 x1 x13).f5)) || (!(((rd_T41 x0 x13).f6) == ((rd_T41 x1 x13).f6))))))))) = true then (some false) else (api_Node.l0 k x0 x1 x12 (wrap64 (x13 + 1)))) else (none)) else (none)) else (none)) else (some true)
def api_Node.f (k : Nat) (l0 : List (S41)) (l1 : List (S41)) : Option (Bool) := if (l0.length : Int) = (l1.length : Int) then (api_Node.l0 k l0 l1 (l0.length : Int) 0) else (some false)
theorem api_Node.mono_l : ∀ k, (∀ y0 y1 y2 y3, LeO (api_Node.l0 k y0 y1 y2 y3) (api_Node.l0 (k + 1) y0 y1 y2 y3))
 | 0 => fun _ _ _ _ r h => by simp [api_Node.l0] at h
 | k + 1 => by
  have ih0 := api_Node.mono_l k
  ·intro y0 y1 y2 y3
   unfold api_Node.l0
   repeat' first | (with_reducible first | apply ih0 | exact LeO.refl _ | exact LeO.none _ | refine LeO.ite ?_ ?_ | refine LeO.bind ?_ (fun _ => ?_)) | exact LeO.none _ | refine LeO.ite ?_ ?_ | refine LeO.bind ?_ (fun _ => ?_)
theorem api_Node.mono : ∀ a0 a1 k, LeO (api_Node.f k a0 a1) (api_Node.f (k + 1) a0 a1) := by
 intro a0 a1 k
 have ih1 := api_Node.mono_l k; unfold api_Node.f
 repeat' first | (with_reducible first | apply ih1 | exact LeO.refl _ | exact LeO.none _ | refine LeO.ite ?_ ?_ | refine LeO.bind ?_ (fun _ => ?_)) | exact LeO.none _ | refine LeO.ite ?_ ?_ | refine LeO.bind ?_ (fun _ => ?_)
theorem api_Node.calls (k : Nat) (A0 : Option Addr) (c0 : Nat) (l0 : List (S41)) (A1 : Option Addr) (c1 : Nat) (l1 : List (S41)) (r : Bool) (w : World) (hr0 : Kd.C k41 w A0 l0.length l0) (hc0 : l0.length ≤ c0) (hr1 : Kd.C k41 w A1 l1.length l1) (hc1 : l1.length ≤ c1) (h : api_Node.f k l0 l1 = some r) :
  Calls Try.prog 40 #[.slice A0 l0.length c0, .slice A1 l1.length c1] w fun e w' => e = .returned (.bool r) ∧ Drawn0 w w' := by
 have hu1 := Try.underlying41; have HR1 := aM hr0; have HC1 := aM hc0; clear hr0 hc0; have HR2 := aM hr1; have HC1 := aM hc1; clear hr1 hc1; have H : (if (l0.length : Int) = (l1.length : Int) then (api_Node.l0 k l0 l1 (l0.length : Int) 0) else (some false)) = some r := h; clear h; by_cases c2 : (l0.length : Int) = (l1.length : Int)
 ·rw [if_pos c2] at H; obtain ⟨c1b0, c1b1⟩ := zeq c2; have c1b2 : (l0.length == l1.length) = true := by first | simpa using c2 | (simp at c2 ⊢; omega)
  clear c2; have H' := aM H; clear H; go_enter Try.func40, Try.ntmps40
  go_wp2
  repeat (go_quiet (fail); try go_wp2)
  go_loopg [13] k (fun kq v1 w' => ∃ (x1_1 : Int), v1 = .int .i64 x1_1 ∧ Aside0 (api_Node.l0 kq l0 l1 (l0.length : Int) x1_1 = some r) ∧ Aside0 (kq ≤ k) ∧ Drawn0 w w')
  case atStart => exact ⟨(0), q13z, H', ⟨Nat.le_refl _⟩, q21z⟩
  case round =>
   clear H'; try clear c1
   try clear p2
   try clear c2
   try clear c1b0
   try clear c1b1
   try clear c1b2
   obtain ⟨x1_1, rfl, HA, HK1, ⟨m1, rfl⟩⟩ := hrel; cases gk with
   | zero => exact absurd HA.out (by simp [api_Node.l0])
   | succ k1 =>
    have H := HA.out; clear HA; simp only [api_Node.l0] at H; by_cases c3 : x1_1 < (l0.length : Int)
    ·rw [if_pos c3] at H; have c1b0 := decide_eq_true c3; clear c3; by_cases c4 : 0 ≤ x1_1
     ·rw [if_pos c4] at H; have c1b0 := decide_eq_true c4; clear c4; by_cases c5 : x1_1 < (l0.length : Int)
      ·rw [if_pos c5] at H; have c1b0 := decide_eq_true c5; clear c5; by_cases c6 : x1_1 < (l1.length : Int)
       ·rw [if_pos c6] at H; have c1b0 := decide_eq_true c6; clear c6; by_cases c7 : (!(((rd_T41 l0 x1_1).f0) == ((rd_T41 l1 x1_1).f0)) || (!(((rd_T41 l0 x1_1).f1) == ((rd_T41 l1 x1_1).f1)) || (!(((rd_T41 l0 x1_1).f2) == ((rd_T41 l1 x1_1).f2)) || (!(((rd_T41 l0 x1_1).f3) == ((rd_T41 l1 x1_1).f3)) || (!(((rd_T41 l0 x1_1).f4) == ((rd_T41 l1 x1_1).f4)) || (!(((rd_T41 l0 x1_1).f5) == ((rd_T41 l1 x1_1).f5)) || (!(((rd_T41 l0 x1_1).f6) == ((rd_T41 l1 x1_1).f6))))))))) = true
        ·rw [if_pos c7] at H; have c1b0 : (!(((rd_T41 l0 x1_1).f0) == ((rd_T41 l1 x1_1).f0)) || (!(((rd_T41 l0 x1_1).f1) == ((rd_T41 l1 x1_1).f1)) || (!(((rd_T41 l0 x1_1).f2) == ((rd_T41 l1 x1_1).f2)) || (!(((rd_T41 l0 x1_1).f3) == ((rd_T41 l1 x1_1).f3)) || (!(((rd_T41 l0 x1_1).f4) == ((rd_T41 l1 x1_1).f4)) || (!(((rd_T41 l0 x1_1).f5) == ((rd_T41 l1 x1_1).f5)) || (!(((rd_T41 l0 x1_1).f6) == ((rd_T41 l1 x1_1).f6))))))))) = true := c7; clear c7; obtain rfl := Option.some.inj H; have p1 : 0 ≤ (x1_1 : Int) := zod; have q1 : x1_1 < (l0.length : Int) := zod; obtain ⟨ad1, e1, hx1_0, hx1_1, hx1_2, hx1_3, hx1_4, hx1_5, hx1_6⟩ := at_T41 HR1.out x1_1 p1 q1; cases e1; replace p1 := eq_true p1; replace q1 := eq_true q1; have p1 : 0 ≤ (x1_1 : Int) := zod; have q1 : x1_1 < (l1.length : Int) := zod; obtain ⟨ad1, e1, hx1_0, hx1_1, hx1_2, hx1_3, hx1_4, hx1_5, hx1_6⟩ := at_T41 HR2.out x1_1 p1 q1; cases e1; replace p1 := eq_true p1; replace q1 := eq_true q1; go_wp2
         repeat (go_quiet (fail); try go_wp2)
         go_ret
         exact ⟨q13z, q21z⟩
        ·rw [if_neg c7] at H; have c1b0 : (!(((rd_T41 l0 x1_1).f0) == ((rd_T41 l1 x1_1).f0)) || (!(((rd_T41 l0 x1_1).f1) == ((rd_T41 l1 x1_1).f1)) || (!(((rd_T41 l0 x1_1).f2) == ((rd_T41 l1 x1_1).f2)) || (!(((rd_T41 l0 x1_1).f3) == ((rd_T41 l1 x1_1).f3)) || (!(((rd_T41 l0 x1_1).f4) == ((rd_T41 l1 x1_1).f4)) || (!(((rd_T41 l0 x1_1).f5) == ((rd_T41 l1 x1_1).f5)) || (!(((rd_T41 l0 x1_1).f6) == ((rd_T41 l1 x1_1).f6))))))))) = false := by simpa using c7
         clear c7; have H' := aM H; clear H; have p1 : 0 ≤ (x1_1 : Int) := zod; have q1 : x1_1 < (l0.length : Int) := zod; obtain ⟨ad1, e1, hx1_0, hx1_1, hx1_2, hx1_3, hx1_4, hx1_5, hx1_6⟩ := at_T41 HR1.out x1_1 p1 q1; cases e1; replace p1 := eq_true p1; replace q1 := eq_true q1; have p1 : 0 ≤ (x1_1 : Int) := zod; have q1 : x1_1 < (l1.length : Int) := zod; obtain ⟨ad1, e1, hx1_0, hx1_1, hx1_2, hx1_3, hx1_4, hx1_5, hx1_6⟩ := at_T41 HR2.out x1_1 p1 q1; cases e1; replace p1 := eq_true p1; replace q1 := eq_true q1; go_wp2
         repeat (go_quiet (fail); try go_wp2)
         go_roundg k1
         case measure => have := HK1.out; omega
         case rel => exact ⟨(wrap64 (x1_1 + 1)), q13z, H', ⟨by have := HK1.out; omega⟩, q21z⟩
       ·rw [if_neg c6] at H; exact absurd H (by simp)
      ·rw [if_neg c5] at H; exact absurd H (by simp)
     ·rw [if_neg c4] at H; exact absurd H (by simp)
    ·rw [if_neg c3] at H; have c1b0 := decide_eq_false c3; clear c3; obtain rfl := Option.some.inj H; go_wp2
     repeat (go_quiet (fail); try go_wp2)
     go_ret
     exact ⟨q13z, q21z⟩
 ·rw [if_neg c2] at H; obtain ⟨c1b0, c1b1⟩ := zne c2; have c1b2 : (l0.length == l1.length) = false := by first | simpa using c2 | (simp at c2 ⊢; omega)
  obtain rfl := Option.some.inj H; go_enter Try.func40, Try.ntmps40
  go_wp2
  repeat (go_quiet (fail); try go_wp2)
  go_ret
  exact ⟨q13z, q21z⟩
attribute [local go_sem high] eqA47
def api_Pin_41.l0 : Nat → List (S47) → List (S47) → Int → Int → Option (Bool)
 | 0, _, _, _, _ => none
 | k + 1, x0, x1, x12, x13 => if x13 < x12 then (if 0 ≤ x13 then (if x13 < (x0.length : Int) then (if x13 < (x1.length : Int) then (if (!((((rd_T47 x0 x13).f0).toList) == (((rd_T47 x1 x13).f0).toList)) || (!(((rd_T47 x0 x13).f1) == ((rd_T47 x1 x13).f1)))) = true then (some false) else (api_Pin_41.l0 k x0 x1 x12 (wrap64 (x13 + 1)))) else (none)) else (none)) else (none)) else (some true)
def api_Pin_41.f (k : Nat) (l0 : List (S47)) (l1 : List (S47)) : Option (Bool) := if (l0.length : Int) = (l1.length : Int) then (api_Pin_41.l0 k l0 l1 (l0.length : Int) 0) else (some false)
theorem api_Pin_41.mono_l : ∀ k, (∀ y0 y1 y2 y3, LeO (api_Pin_41.l0 k y0 y1 y2 y3) (api_Pin_41.l0 (k + 1) y0 y1 y2 y3))
 | 0 => fun _ _ _ _ r h => by simp [api_Pin_41.l0] at h
 | k + 1 => by
  have ih0 := api_Pin_41.mono_l k
  ·intro y0 y1 y2 y3
   unfold api_Pin_41.l0
   repeat' first | (with_reducible first | apply ih0 | exact LeO.refl _ | exact LeO.none _ | refine LeO.ite ?_ ?_ | refine LeO.bind ?_ (fun _ => ?_)) | exact LeO.none _ | refine LeO.ite ?_ ?_ | refine LeO.bind ?_ (fun _ => ?_)
theorem api_Pin_41.mono : ∀ a0 a1 k, LeO (api_Pin_41.f k a0 a1) (api_Pin_41.f (k + 1) a0 a1) := by
 intro a0 a1 k
 have ih1 := api_Pin_41.mono_l k; unfold api_Pin_41.f
 repeat' first | (with_reducible first | apply ih1 | exact LeO.refl _ | exact LeO.none _ | refine LeO.ite ?_ ?_ | refine LeO.bind ?_ (fun _ => ?_)) | exact LeO.none _ | refine LeO.ite ?_ ?_ | refine LeO.bind ?_ (fun _ => ?_)
theorem api_Pin_41.calls (k : Nat) (A0 : Option Addr) (c0 : Nat) (l0 : List (S47)) (A1 : Option Addr) (c1 : Nat) (l1 : List (S47)) (r : Bool) (w : World) (hr0 : Kd.C k47 w A0 l0.length l0) (hc0 : l0.length ≤ c0) (hr1 : Kd.C k47 w A1 l1.length l1) (hc1 : l1.length ≤ c1) (h : api_Pin_41.f k l0 l1 = some r) :
  Calls Try.prog 41 #[.slice A0 l0.length c0, .slice A1 l1.length c1] w fun e w' => e = .returned (.bool r) ∧ Drawn0 w w' := by
 have hu1 := Try.underlying47; have HR1 := aM hr0; have HC1 := aM hc0; clear hr0 hc0; have HR2 := aM hr1; have HC1 := aM hc1; clear hr1 hc1; have H : (if (l0.length : Int) = (l1.length : Int) then (api_Pin_41.l0 k l0 l1 (l0.length : Int) 0) else (some false)) = some r := h; clear h; by_cases c2 : (l0.length : Int) = (l1.length : Int)
 ·rw [if_pos c2] at H; obtain ⟨c1b0, c1b1⟩ := zeq c2; have c1b2 : (l0.length == l1.length) = true := by first | simpa using c2 | (simp at c2 ⊢; omega)
  clear c2; have H' := aM H; clear H; go_enter Try.func41, Try.ntmps41
  go_wp2
  repeat (go_quiet (fail); try go_wp2)
  go_loopg [13] k (fun kq v1 w' => ∃ (x1_1 : Int), v1 = .int .i64 x1_1 ∧ Aside0 (api_Pin_41.l0 kq l0 l1 (l0.length : Int) x1_1 = some r) ∧ Aside0 (kq ≤ k) ∧ Drawn0 w w')
  case atStart => exact ⟨(0), q13z, H', ⟨Nat.le_refl _⟩, q21z⟩
  case round =>
   clear H'; try clear c1
   try clear p2
   try clear c2
   try clear c1b0
   try clear c1b1
   try clear c1b2
   obtain ⟨x1_1, rfl, HA, HK1, ⟨m1, rfl⟩⟩ := hrel; cases gk with
   | zero => exact absurd HA.out (by simp [api_Pin_41.l0])
   | succ k1 =>
    have H := HA.out; clear HA; simp only [api_Pin_41.l0] at H; by_cases c3 : x1_1 < (l0.length : Int)
    ·rw [if_pos c3] at H; have c1b0 := decide_eq_true c3; clear c3; by_cases c4 : 0 ≤ x1_1
     ·rw [if_pos c4] at H; have c1b0 := decide_eq_true c4; clear c4; by_cases c5 : x1_1 < (l0.length : Int)
      ·rw [if_pos c5] at H; have c1b0 := decide_eq_true c5; clear c5; by_cases c6 : x1_1 < (l1.length : Int)
       ·rw [if_pos c6] at H; have c1b0 := decide_eq_true c6; clear c6; by_cases c7 : (!((((rd_T47 l0 x1_1).f0).toList) == (((rd_T47 l1 x1_1).f0).toList)) || (!(((rd_T47 l0 x1_1).f1) == ((rd_T47 l1 x1_1).f1)))) = true
        ·rw [if_pos c7] at H; have c1b0 : (!((((rd_T47 l0 x1_1).f0).toList) == (((rd_T47 l1 x1_1).f0).toList)) || (!(((rd_T47 l0 x1_1).f1) == ((rd_T47 l1 x1_1).f1)))) = true := c7; clear c7; obtain rfl := Option.some.inj H; have p1 : 0 ≤ (x1_1 : Int) := zod; have q1 : x1_1 < (l0.length : Int) := zod; obtain ⟨ad1, e1, hx1_0, hx1_1⟩ := at_T47 HR1.out x1_1 p1 q1; cases e1; replace p1 := eq_true p1; replace q1 := eq_true q1; have p1 : 0 ≤ (x1_1 : Int) := zod; have q1 : x1_1 < (l1.length : Int) := zod; obtain ⟨ad1, e1, hx1_0, hx1_1⟩ := at_T47 HR2.out x1_1 p1 q1; cases e1; replace p1 := eq_true p1; replace q1 := eq_true q1; go_wp2
         repeat (go_quiet (fail); try go_wp2)
         go_ret
         exact ⟨q13z, q21z⟩
        ·rw [if_neg c7] at H; have c1b0 : (!((((rd_T47 l0 x1_1).f0).toList) == (((rd_T47 l1 x1_1).f0).toList)) || (!(((rd_T47 l0 x1_1).f1) == ((rd_T47 l1 x1_1).f1)))) = false := by simpa using c7
         clear c7; have H' := aM H; clear H; have p1 : 0 ≤ (x1_1 : Int) := zod; have q1 : x1_1 < (l0.length : Int) := zod; obtain ⟨ad1, e1, hx1_0, hx1_1⟩ := at_T47 HR1.out x1_1 p1 q1; cases e1; replace p1 := eq_true p1; replace q1 := eq_true q1; have p1 : 0 ≤ (x1_1 : Int) := zod; have q1 : x1_1 < (l1.length : Int) := zod; obtain ⟨ad1, e1, hx1_0, hx1_1⟩ := at_T47 HR2.out x1_1 p1 q1; cases e1; replace p1 := eq_true p1; replace q1 := eq_true q1; go_wp2
         repeat (go_quiet (fail); try go_wp2)
         go_roundg k1
         case measure => have := HK1.out; omega
         case rel => exact ⟨(wrap64 (x1_1 + 1)), q13z, H', ⟨by have := HK1.out; omega⟩, q21z⟩
       ·rw [if_neg c6] at H; exact absurd H (by simp)
      ·rw [if_neg c5] at H; exact absurd H (by simp)
     ·rw [if_neg c4] at H; exact absurd H (by simp)
    ·rw [if_neg c3] at H; have c1b0 := decide_eq_false c3; clear c3; obtain rfl := Option.some.inj H; go_wp2
     repeat (go_quiet (fail); try go_wp2)
     go_ret
     exact ⟨q13z, q21z⟩
 ·rw [if_neg c2] at H; obtain ⟨c1b0, c1b1⟩ := zne c2; have c1b2 : (l0.length == l1.length) = false := by first | simpa using c2 | (simp at c2 ⊢; omega)
  obtain rfl := Option.some.inj H; go_enter Try.func41, Try.ntmps41
  go_wp2
  repeat (go_quiet (fail); try go_wp2)
  go_ret
  exact ⟨q13z, q21z⟩
attribute [local go_sem high] eqA43
def api_Cell.l0 : Nat → List (S43) → List (S43) → Int → Int → Option (Bool)
 | 0, _, _, _, _ => none
 | k + 1, x0, x1, x12, x13 => if x13 < x12 then (if 0 ≤ x13 then (if x13 < (x0.length : Int) then (if x13 < (x1.length : Int) then (if (!((((rd_T43 x0 x13).f0).toList) == (((rd_T43 x1 x13).f0).toList)) || (!(((rd_T43 x0 x13).f1) == ((rd_T43 x1 x13).f1)) || (!(((rd_T43 x0 x13).f2) == ((rd_T43 x1 x13).f2)) || (!(((rd_T43 x0 x13).f3) == ((rd_T43 x1 x13).f3)))))) = true then (some false) else (api_Cell.l0 k x0 x1 x12 (wrap64 (x13 + 1)))) else (none)) else (none)) else (none)) else (some true)
def api_Cell.f (k : Nat) (l0 : List (S43)) (l1 : List (S43)) : Option (Bool) := if (l0.length : Int) = (l1.length : Int) then (api_Cell.l0 k l0 l1 (l0.length : Int) 0) else (some false)
theorem api_Cell.mono_l : ∀ k, (∀ y0 y1 y2 y3, LeO (api_Cell.l0 k y0 y1 y2 y3) (api_Cell.l0 (k + 1) y0 y1 y2 y3))
 | 0 => fun _ _ _ _ r h => by simp [api_Cell.l0] at h
 | k + 1 => by
  have ih0 := api_Cell.mono_l k
  ·intro y0 y1 y2 y3
   unfold api_Cell.l0
   repeat' first | (with_reducible first | apply ih0 | exact LeO.refl _ | exact LeO.none _ | refine LeO.ite ?_ ?_ | refine LeO.bind ?_ (fun _ => ?_)) | exact LeO.none _ | refine LeO.ite ?_ ?_ | refine LeO.bind ?_ (fun _ => ?_)
theorem api_Cell.mono : ∀ a0 a1 k, LeO (api_Cell.f k a0 a1) (api_Cell.f (k + 1) a0 a1) := by
 intro a0 a1 k
 have ih1 := api_Cell.mono_l k; unfold api_Cell.f
 repeat' first | (with_reducible first | apply ih1 | exact LeO.refl _ | exact LeO.none _ | refine LeO.ite ?_ ?_ | refine LeO.bind ?_ (fun _ => ?_)) | exact LeO.none _ | refine LeO.ite ?_ ?_ | refine LeO.bind ?_ (fun _ => ?_)
theorem api_Cell.calls (k : Nat) (A0 : Option Addr) (c0 : Nat) (l0 : List (S43)) (A1 : Option Addr) (c1 : Nat) (l1 : List (S43)) (r : Bool) (w : World) (hr0 : Kd.C k43 w A0 l0.length l0) (hc0 : l0.length ≤ c0) (hr1 : Kd.C k43 w A1 l1.length l1) (hc1 : l1.length ≤ c1) (h : api_Cell.f k l0 l1 = some r) :
  Calls Try.prog 42 #[.slice A0 l0.length c0, .slice A1 l1.length c1] w fun e w' => e = .returned (.bool r) ∧ Drawn0 w w' := by
 have hu1 := Try.underlying43; have HR1 := aM hr0; have HC1 := aM hc0; clear hr0 hc0; have HR2 := aM hr1; have HC1 := aM hc1; clear hr1 hc1; have H : (if (l0.length : Int) = (l1.length : Int) then (api_Cell.l0 k l0 l1 (l0.length : Int) 0) else (some false)) = some r := h; clear h; by_cases c2 : (l0.length : Int) = (l1.length : Int)
 ·rw [if_pos c2] at H; obtain ⟨c1b0, c1b1⟩ := zeq c2; have c1b2 : (l0.length == l1.length) = true := by first | simpa using c2 | (simp at c2 ⊢; omega)
  clear c2; have H' := aM H; clear H; go_enter Try.func42, Try.ntmps42
  go_wp2
  repeat (go_quiet (fail); try go_wp2)
  go_loopg [13] k (fun kq v1 w' => ∃ (x1_1 : Int), v1 = .int .i64 x1_1 ∧ Aside0 (api_Cell.l0 kq l0 l1 (l0.length : Int) x1_1 = some r) ∧ Aside0 (kq ≤ k) ∧ Drawn0 w w')
  case atStart => exact ⟨(0), q13z, H', ⟨Nat.le_refl _⟩, q21z⟩
  case round =>
   clear H'; try clear c1
   try clear p2
   try clear c2
   try clear c1b0
   try clear c1b1
   try clear c1b2
   obtain ⟨x1_1, rfl, HA, HK1, ⟨m1, rfl⟩⟩ := hrel; cases gk with
   | zero => exact absurd HA.out (by simp [api_Cell.l0])
   | succ k1 =>
    have H := HA.out; clear HA; simp only [api_Cell.l0] at H; by_cases c3 : x1_1 < (l0.length : Int)
    ·rw [if_pos c3] at H; have c1b0 := decide_eq_true c3; clear c3; by_cases c4 : 0 ≤ x1_1
     ·rw [if_pos c4] at H; have c1b0 := decide_eq_true c4; clear c4; by_cases c5 : x1_1 < (l0.length : Int)
      ·rw [if_pos c5] at H; have c1b0 := decide_eq_true c5; clear c5; by_cases c6 : x1_1 < (l1.length : Int)
       ·rw [if_pos c6] at H; have c1b0 := decide_eq_true c6; clear c6; by_cases c7 : (!((((rd_T43 l0 x1_1).f0).toList) == (((rd_T43 l1 x1_1).f0).toList)) || (!(((rd_T43 l0 x1_1).f1) == ((rd_T43 l1 x1_1).f1)) || (!(((rd_T43 l0 x1_1).f2) == ((rd_T43 l1 x1_1).f2)) || (!(((rd_T43 l0 x1_1).f3) == ((rd_T43 l1 x1_1).f3)))))) = true
        ·rw [if_pos c7] at H; have c1b0 : (!((((rd_T43 l0 x1_1).f0).toList) == (((rd_T43 l1 x1_1).f0).toList)) || (!(((rd_T43 l0 x1_1).f1) == ((rd_T43 l1 x1_1).f1)) || (!(((rd_T43 l0 x1_1).f2) == ((rd_T43 l1 x1_1).f2)) || (!(((rd_T43 l0 x1_1).f3) == ((rd_T43 l1 x1_1).f3)))))) = true := c7; clear c7; obtain rfl := Option.some.inj H; have p1 : 0 ≤ (x1_1 : Int) := zod; have q1 : x1_1 < (l0.length : Int) := zod; obtain ⟨ad1, e1, hx1_0, hx1_1, hx1_2, hx1_3⟩ := at_T43 HR1.out x1_1 p1 q1; cases e1; replace p1 := eq_true p1; replace q1 := eq_true q1; have p1 : 0 ≤ (x1_1 : Int) := zod; have q1 : x1_1 < (l1.length : Int) := zod; obtain ⟨ad1, e1, hx1_0, hx1_1, hx1_2, hx1_3⟩ := at_T43 HR2.out x1_1 p1 q1; cases e1; replace p1 := eq_true p1; replace q1 := eq_true q1; go_wp2
         repeat (go_quiet (fail); try go_wp2)
         go_ret
         exact ⟨q13z, q21z⟩
        ·rw [if_neg c7] at H; have c1b0 : (!((((rd_T43 l0 x1_1).f0).toList) == (((rd_T43 l1 x1_1).f0).toList)) || (!(((rd_T43 l0 x1_1).f1) == ((rd_T43 l1 x1_1).f1)) || (!(((rd_T43 l0 x1_1).f2) == ((rd_T43 l1 x1_1).f2)) || (!(((rd_T43 l0 x1_1).f3) == ((rd_T43 l1 x1_1).f3)))))) = false := by simpa using c7
         clear c7; have H' := aM H; clear H; have p1 : 0 ≤ (x1_1 : Int) := zod; have q1 : x1_1 < (l0.length : Int) := zod; obtain ⟨ad1, e1, hx1_0, hx1_1, hx1_2, hx1_3⟩ := at_T43 HR1.out x1_1 p1 q1; cases e1; replace p1 := eq_true p1; replace q1 := eq_true q1; have p1 : 0 ≤ (x1_1 : Int) := zod; have q1 : x1_1 < (l1.length : Int) := zod; obtain ⟨ad1, e1, hx1_0, hx1_1, hx1_2, hx1_3⟩ := at_T43 HR2.out x1_1 p1 q1; cases e1; replace p1 := eq_true p1; replace q1 := eq_true q1; go_wp2
         repeat (go_quiet (fail); try go_wp2)
         go_roundg k1
         case measure => have := HK1.out; omega
         case rel => exact ⟨(wrap64 (x1_1 + 1)), q13z, H', ⟨by have := HK1.out; omega⟩, q21z⟩
       ·rw [if_neg c6] at H; exact absurd H (by simp)
      ·rw [if_neg c5] at H; exact absurd H (by simp)
     ·rw [if_neg c4] at H; exact absurd H (by simp)
    ·rw [if_neg c3] at H; have c1b0 := decide_eq_false c3; clear c3; obtain rfl := Option.some.inj H; go_wp2
     repeat (go_quiet (fail); try go_wp2)
     go_ret
     exact ⟨q13z, q21z⟩
 ·rw [if_neg c2] at H; obtain ⟨c1b0, c1b1⟩ := zne c2; have c1b2 : (l0.length == l1.length) = false := by first | simpa using c2 | (simp at c2 ⊢; omega)
  obtain rfl := Option.some.inj H; go_enter Try.func42, Try.ntmps42
  go_wp2
  repeat (go_quiet (fail); try go_wp2)
  go_ret
  exact ⟨q13z, q21z⟩
attribute [local go_sem high] eqA61
def api_Prop.l0 : Nat → List (S61) → List (S61) → Int → Int → Option (Bool)
 | 0, _, _, _, _ => none
 | k + 1, x0, x1, x12, x13 => if x13 < x12 then (if 0 ≤ x13 then (if x13 < (x0.length : Int) then (if x13 < (x1.length : Int) then (if (!(((rd_T61 x0 x13).f0) == ((rd_T61 x1 x13).f0)) || (!((((rd_T61 x0 x13).f1).toList) == (((rd_T61 x1 x13).f1).toList)) || (!(((rd_T61 x0 x13).f2) == ((rd_T61 x1 x13).f2))))) = true then (some false) else (api_Prop.l0 k x0 x1 x12 (wrap64 (x13 + 1)))) else (none)) else (none)) else (none)) else (some true)
def api_Prop.f (k : Nat) (l0 : List (S61)) (l1 : List (S61)) : Option (Bool) := if (l0.length : Int) = (l1.length : Int) then (api_Prop.l0 k l0 l1 (l0.length : Int) 0) else (some false)
theorem api_Prop.mono_l : ∀ k, (∀ y0 y1 y2 y3, LeO (api_Prop.l0 k y0 y1 y2 y3) (api_Prop.l0 (k + 1) y0 y1 y2 y3))
 | 0 => fun _ _ _ _ r h => by simp [api_Prop.l0] at h
 | k + 1 => by
  have ih0 := api_Prop.mono_l k
  ·intro y0 y1 y2 y3
   unfold api_Prop.l0
   repeat' first | (with_reducible first | apply ih0 | exact LeO.refl _ | exact LeO.none _ | refine LeO.ite ?_ ?_ | refine LeO.bind ?_ (fun _ => ?_)) | exact LeO.none _ | refine LeO.ite ?_ ?_ | refine LeO.bind ?_ (fun _ => ?_)
theorem api_Prop.mono : ∀ a0 a1 k, LeO (api_Prop.f k a0 a1) (api_Prop.f (k + 1) a0 a1) := by
 intro a0 a1 k
 have ih1 := api_Prop.mono_l k; unfold api_Prop.f
 repeat' first | (with_reducible first | apply ih1 | exact LeO.refl _ | exact LeO.none _ | refine LeO.ite ?_ ?_ | refine LeO.bind ?_ (fun _ => ?_)) | exact LeO.none _ | refine LeO.ite ?_ ?_ | refine LeO.bind ?_ (fun _ => ?_)
theorem api_Prop.calls (k : Nat) (A0 : Option Addr) (c0 : Nat) (l0 : List (S61)) (A1 : Option Addr) (c1 : Nat) (l1 : List (S61)) (r : Bool) (w : World) (hr0 : Kd.C k61 w A0 l0.length l0) (hc0 : l0.length ≤ c0) (hr1 : Kd.C k61 w A1 l1.length l1) (hc1 : l1.length ≤ c1) (h : api_Prop.f k l0 l1 = some r) :
  Calls Try.prog 43 #[.slice A0 l0.length c0, .slice A1 l1.length c1] w fun e w' => e = .returned (.bool r) ∧ Drawn0 w w' := by
 have hu1 := Try.underlying61; have HR1 := aM hr0; have HC1 := aM hc0; clear hr0 hc0; have HR2 := aM hr1; have HC1 := aM hc1; clear hr1 hc1; have H : (if (l0.length : Int) = (l1.length : Int) then (api_Prop.l0 k l0 l1 (l0.length : Int) 0) else (some false)) = some r := h; clear h; by_cases c2 : (l0.length : Int) = (l1.length : Int)
 ·rw [if_pos c2] at H; obtain ⟨c1b0, c1b1⟩ := zeq c2; have c1b2 : (l0.length == l1.length) = true := by first | simpa using c2 | (simp at c2 ⊢; omega)
  clear c2; have H' := aM H; clear H; go_enter Try.func43, Try.ntmps43
  go_wp2
  repeat (go_quiet (fail); try go_wp2)
  go_loopg [13] k (fun kq v1 w' => ∃ (x1_1 : Int), v1 = .int .i64 x1_1 ∧ Aside0 (api_Prop.l0 kq l0 l1 (l0.length : Int) x1_1 = some r) ∧ Aside0 (kq ≤ k) ∧ Drawn0 w w')
  case atStart => exact ⟨(0), q13z, H', ⟨Nat.le_refl _⟩, q21z⟩
  case round =>
   clear H'; try clear c1
   try clear p2
   try clear c2
   try clear c1b0
   try clear c1b1
   try clear c1b2
   obtain ⟨x1_1, rfl, HA, HK1, ⟨m1, rfl⟩⟩ := hrel; cases gk with
   | zero => exact absurd HA.out (by simp [api_Prop.l0])
   | succ k1 =>
    have H := HA.out; clear HA; simp only [api_Prop.l0] at H; by_cases c3 : x1_1 < (l0.length : Int)
    ·rw [if_pos c3] at H; have c1b0 := decide_eq_true c3; clear c3; by_cases c4 : 0 ≤ x1_1
     ·rw [if_pos c4] at H; have c1b0 := decide_eq_true c4; clear c4; by_cases c5 : x1_1 < (l0.length : Int)
      ·rw [if_pos c5] at H; have c1b0 := decide_eq_true c5; clear c5; by_cases c6 : x1_1 < (l1.length : Int)
       ·rw [if_pos c6] at H; have c1b0 := decide_eq_true c6; clear c6; by_cases c7 : (!(((rd_T61 l0 x1_1).f0) == ((rd_T61 l1 x1_1).f0)) || (!((((rd_T61 l0 x1_1).f1).toList) == (((rd_T61 l1 x1_1).f1).toList)) || (!(((rd_T61 l0 x1_1).f2) == ((rd_T61 l1 x1_1).f2))))) = true
        ·rw [if_pos c7] at H; have c1b0 : (!(((rd_T61 l0 x1_1).f0) == ((rd_T61 l1 x1_1).f0)) || (!((((rd_T61 l0 x1_1).f1).toList) == (((rd_T61 l1 x1_1).f1).toList)) || (!(((rd_T61 l0 x1_1).f2) == ((rd_T61 l1 x1_1).f2))))) = true := c7; clear c7; obtain rfl := Option.some.inj H; have p1 : 0 ≤ (x1_1 : Int) := zod; have q1 : x1_1 < (l0.length : Int) := zod; obtain ⟨ad1, e1, hx1_0, hx1_1, hx1_2⟩ := at_T61 HR1.out x1_1 p1 q1; cases e1; replace p1 := eq_true p1; replace q1 := eq_true q1; have p1 : 0 ≤ (x1_1 : Int) := zod; have q1 : x1_1 < (l1.length : Int) := zod; obtain ⟨ad1, e1, hx1_0, hx1_1, hx1_2⟩ := at_T61 HR2.out x1_1 p1 q1; cases e1; replace p1 := eq_true p1; replace q1 := eq_true q1; go_wp2
         repeat (go_quiet (fail); try go_wp2)
         go_ret
         exact ⟨q13z, q21z⟩
        ·rw [if_neg c7] at H; have c1b0 : (!(((rd_T61 l0 x1_1).f0) == ((rd_T61 l1 x1_1).f0)) || (!((((rd_T61 l0 x1_1).f1).toList) == (((rd_T61 l1 x1_1).f1).toList)) || (!(((rd_T61 l0 x1_1).f2) == ((rd_T61 l1 x1_1).f2))))) = false := by simpa using c7
         clear c7; have H' := aM H; clear H; have p1 : 0 ≤ (x1_1 : Int) := zod; have q1 : x1_1 < (l0.length : Int) := zod; obtain ⟨ad1, e1, hx1_0, hx1_1, hx1_2⟩ := at_T61 HR1.out x1_1 p1 q1; cases e1; replace p1 := eq_true p1; replace q1 := eq_true q1; have p1 : 0 ≤ (x1_1 : Int) := zod; have q1 : x1_1 < (l1.length : Int) := zod; obtain ⟨ad1, e1, hx1_0, hx1_1, hx1_2⟩ := at_T61 HR2.out x1_1 p1 q1; cases e1; replace p1 := eq_true p1; replace q1 := eq_true q1; go_wp2
         repeat (go_quiet (fail); try go_wp2)
         go_roundg k1
         case measure => have := HK1.out; omega
         case rel => exact ⟨(wrap64 (x1_1 + 1)), q13z, H', ⟨by have := HK1.out; omega⟩, q21z⟩
       ·rw [if_neg c6] at H; exact absurd H (by simp)
      ·rw [if_neg c5] at H; exact absurd H (by simp)
     ·rw [if_neg c4] at H; exact absurd H (by simp)
    ·rw [if_neg c3] at H; have c1b0 := decide_eq_false c3; clear c3; obtain rfl := Option.some.inj H; go_wp2
     repeat (go_quiet (fail); try go_wp2)
     go_ret
     exact ⟨q13z, q21z⟩
 ·rw [if_neg c2] at H; obtain ⟨c1b0, c1b1⟩ := zne c2; have c1b2 : (l0.length == l1.length) = false := by first | simpa using c2 | (simp at c2 ⊢; omega)
  obtain rfl := Option.some.inj H; go_enter Try.func43, Try.ntmps43
  go_wp2
  repeat (go_quiet (fail); try go_wp2)
  go_ret
  exact ⟨q13z, q21z⟩
def net_Same.f (k : Nat) (l0_0 : List (S41)) (l0_1 : List (S47)) (l0_2 : List (S43)) (l0_3 : List (S61)) (l0_4 : List (S47)) (l1_0 : List (S41)) (l1_1 : List (S47)) (l1_2 : List (S43)) (l1_3 : List (S61)) (l1_4 : List (S47)) : Option (Bool) := (api_Node.f k l0_0 l1_0).bind fun t199 => (if t199 = true then ((api_Pin_41.f k l0_1 l1_1).bind fun t200 => (if t200 = true then ((api_Cell.f k l0_2 l1_2).bind fun t201 => (if t201 = true then ((api_Prop.f k l0_3 l1_3).bind fun t202 => (if t202 = true then ((api_Pin_41.f k l0_4 l1_4).bind fun t203 => (some t203)) else (some false))) else (some false))) else (some false))) else (some false))
theorem net_Same.mono : ∀ a0 a1 a2 a3 a4 a5 a6 a7 a8 a9 k, LeO (net_Same.f k a0 a1 a2 a3 a4 a5 a6 a7 a8 a9) (net_Same.f (k + 1) a0 a1 a2 a3 a4 a5 a6 a7 a8 a9) := by
 intro a0 a1 a2 a3 a4 a5 a6 a7 a8 a9 k
 unfold net_Same.f
 repeat' first | (with_reducible first | apply api_Cell.mono | apply api_Node.mono | apply api_Pin_41.mono | apply api_Prop.mono | exact LeO.refl _ | exact LeO.none _ | refine LeO.ite ?_ ?_ | refine LeO.bind ?_ (fun _ => ?_)) | exact LeO.none _ | refine LeO.ite ?_ ?_ | refine LeO.bind ?_ (fun _ => ?_)
theorem net_Same.calls (k : Nat) (A0_0 : Option Addr) (c0_0 : Nat) (l0_0 : List (S41)) (A0_1 : Option Addr) (c0_1 : Nat) (l0_1 : List (S47)) (A0_2 : Option Addr) (c0_2 : Nat) (l0_2 : List (S43)) (A0_3 : Option Addr) (c0_3 : Nat) (l0_3 : List (S61)) (A0_4 : Option Addr) (c0_4 : Nat) (l0_4 : List (S47)) (A1_0 : Option Addr) (c1_0 : Nat) (l1_0 : List (S41)) (A1_1 : Option Addr) (c1_1 : Nat) (l1_1 : List (S47)) (A1_2 : Option Addr) (c1_2 : Nat) (l1_2 : List (S43)) (A1_3 : Option Addr) (c1_3 : Nat) (l1_3 : List (S61)) (A1_4 : Option Addr) (c1_4 : Nat) (l1_4 : List (S47)) (r : Bool) (w : World) (hr0_0 : Kd.C k41 w A0_0 l0_0.length l0_0) (hc0_0 : l0_0.length ≤ c0_0) (hr0_1 : Kd.C k47 w A0_1 l0_1.length l0_1) (hc0_1 : l0_1.length ≤ c0_1) (hr0_2 : Kd.C k43 w A0_2 l0_2.length l0_2) (hc0_2 : l0_2.length ≤ c0_2) (hr0_3 : Kd.C k61 w A0_3 l0_3.length l0_3) (hc0_3 : l0_3.length ≤ c0_3) (hr0_4 : Kd.C k47 w A0_4 l0_4.length l0_4) (hc0_4 : l0_4.length ≤ c0_4) (hr1_0 : Kd.C k41 w A1_0 l1_0.length l1_0) (hc1_0 : l1_0.length ≤ c1_0) (hr1_1 : Kd.C k47 w A1_1 l1_1.length l1_1) (hc1_1 : l1_1.length ≤ c1_1) (hr1_2 : Kd.C k43 w A1_2 l1_2.length l1_2) (hc1_2 : l1_2.length ≤ c1_2) (hr1_3 : Kd.C k61 w A1_3 l1_3.length l1_3) (hc1_3 : l1_3.length ≤ c1_3) (hr1_4 : Kd.C k47 w A1_4 l1_4.length l1_4) (hc1_4 : l1_4.length ≤ c1_4) (h : net_Same.f k l0_0 l0_1 l0_2 l0_3 l0_4 l1_0 l1_1 l1_2 l1_3 l1_4 = some r) :
  Calls Try.prog 14 #[.agg #[.slice A0_0 l0_0.length c0_0, .slice A0_1 l0_1.length c0_1, .slice A0_2 l0_2.length c0_2, .slice A0_3 l0_3.length c0_3, .slice A0_4 l0_4.length c0_4], .agg #[.slice A1_0 l1_0.length c1_0, .slice A1_1 l1_1.length c1_1, .slice A1_2 l1_2.length c1_2, .slice A1_3 l1_3.length c1_3, .slice A1_4 l1_4.length c1_4]] w fun e w' => e = .returned (.bool r) ∧ Below w.heap.size w w' := by
 have hu1 := Try.underlying27; have HR1_0 := aM hr0_0; have HC1_0 := aM hc0_0; clear hr0_0 hc0_0; have HR1_1 := aM hr0_1; have HC1_1 := aM hc0_1; clear hr0_1 hc0_1; have HR1_2 := aM hr0_2; have HC1_2 := aM hc0_2; clear hr0_2 hc0_2; have HR1_3 := aM hr0_3; have HC1_3 := aM hc0_3; clear hr0_3 hc0_3; have HR1_4 := aM hr0_4; have HC1_4 := aM hc0_4; clear hr0_4 hc0_4; have HR2_0 := aM hr1_0; have HC2_0 := aM hc1_0; clear hr1_0 hc1_0; have HR2_1 := aM hr1_1; have HC2_1 := aM hc1_1; clear hr1_1 hc1_1; have HR2_2 := aM hr1_2; have HC2_2 := aM hc1_2; clear hr1_2 hc1_2; have HR2_3 := aM hr1_3; have HC2_3 := aM hc1_3; clear hr1_3 hc1_3; have HR2_4 := aM hr1_4; have HC2_4 := aM hc1_4; clear hr1_4 hc1_4; have HB := aM (Below.refl w.heap.size w); have H : ((api_Node.f k l0_0 l1_0).bind fun t1 => (if t1 = true then ((api_Pin_41.f k l0_1 l1_1).bind fun t2 => (if t2 = true then ((api_Cell.f k l0_2 l1_2).bind fun t3 => (if t3 = true then ((api_Prop.f k l0_3 l1_3).bind fun t4 => (if t4 = true then ((api_Pin_41.f k l0_4 l1_4).bind fun t5 => (some t5)) else (some false))) else (some false))) else (some false))) else (some false))) = some r := h; clear h; replace H := Option.bind_eq_some_iff.mp H; obtain ⟨t1, A1, H⟩ := H; have A2 := aM A1; clear A1; by_cases c1 : t1 = true
 ·subst c1; have H1 : ((api_Pin_41.f k l0_1 l1_1).bind fun t2 => (if t2 = true then ((api_Cell.f k l0_2 l1_2).bind fun t3 => (if t3 = true then ((api_Prop.f k l0_3 l1_3).bind fun t4 => (if t4 = true then ((api_Pin_41.f k l0_4 l1_4).bind fun t5 => (some t5)) else (some false))) else (some false))) else (some false))) = some r := by rw [if_pos rfl] at H; exact H
  clear H; have H := H1; clear H1; replace H := Option.bind_eq_some_iff.mp H; obtain ⟨t2, A1, H⟩ := H; have A3 := aM A1; clear A1; by_cases c2 : t2 = true
  ·subst c2; have H1 : ((api_Cell.f k l0_2 l1_2).bind fun t3 => (if t3 = true then ((api_Prop.f k l0_3 l1_3).bind fun t4 => (if t4 = true then ((api_Pin_41.f k l0_4 l1_4).bind fun t5 => (some t5)) else (some false))) else (some false))) = some r := by rw [if_pos rfl] at H; exact H
   clear H; have H := H1; clear H1; replace H := Option.bind_eq_some_iff.mp H; obtain ⟨t3, A1, H⟩ := H; have A4 := aM A1; clear A1; by_cases c3 : t3 = true
   ·subst c3; have H1 : ((api_Prop.f k l0_3 l1_3).bind fun t4 => (if t4 = true then ((api_Pin_41.f k l0_4 l1_4).bind fun t5 => (some t5)) else (some false))) = some r := by rw [if_pos rfl] at H; exact H
    clear H; have H := H1; clear H1; replace H := Option.bind_eq_some_iff.mp H; obtain ⟨t4, A1, H⟩ := H; have A5 := aM A1; clear A1; by_cases c4 : t4 = true
    ·subst c4; have H1 : ((api_Pin_41.f k l0_4 l1_4).bind fun t5 => (some t5)) = some r := by rw [if_pos rfl] at H; exact H
     clear H; have H := H1; clear H1; replace H := Option.bind_eq_some_iff.mp H; obtain ⟨t5, A1, H⟩ := H; have A6 := aM A1; clear A1; obtain rfl := Option.some.inj H; go_enter Try.func14, Try.ntmps14
     go_wp2_with (first | ((with_reducible refine zgd 2 rfl ?_); refine zbox 2 #[.slice A0_0 l0_0.length c0_0, .slice A0_1 l0_1.length c0_1, .slice A0_2 l0_2.length c0_2, .slice A0_3 l0_3.length c0_3, .slice A0_4 l0_4.length c0_4] 27 ?_; intro gb1 hg w1 hbox hb; have BK1 := aM (hbox); have GW1 := aM ((q7z HB : w.heap.size ≤ gb1)); have GE1 := aM ((q7z HB : w.heap.size ≤ gb1)); replace HB := aM (ym (q5z HB) hb); clear hb hbox hg) | ((with_reducible refine zgd 3 rfl ?_); refine zbox 3 #[.slice A1_0 l1_0.length c1_0, .slice A1_1 l1_1.length c1_1, .slice A1_2 l1_2.length c1_2, .slice A1_3 l1_3.length c1_3, .slice A1_4 l1_4.length c1_4] 27 ?_; intro gb2 hg w2 hbox hb; have BK2 := aM (hbox); have GW2 := aM ((q12z HB GE1 : w.heap.size ≤ gb2)); have GE2 := aM ((q12z HB GE1 : w.heap.size ≤ gb2)); replace HB := aM (ym (q4z HB GE1) hb); have NB1_198 := aM ((q34z BK1 : gb1 ≠ gb2)); have NB1_197 := aM ((q35z BK1 : gb2 ≠ gb1)); replace BK1 := aM (yi (zi BK1) hb); clear hb hbox hg; have hnb1 := NB1_198.out; have hnc1 := NB1_197.out; obtain ⟨i1_0, i1_1, i1_2, i1_3, i1_4, j1_0, j1_1, j1_2, j1_3, j1_4⟩ := cells5 BK1.out; obtain ⟨i2_0, i2_1, i2_2, i2_3, i2_4, j2_0, j2_1, j2_2, j2_3, j2_4⟩ := cells5 BK2.out) | ((with_reducible refine zgc 40 rfl ?_); refine zgl (some 9) Try.func40 #[.slice A0_0 l0_0.length c0_0, .slice A1_0 l1_0.length c1_0] ?_; (with_reducible refine (api_Node.calls k _ _ l0_0 _ _ l1_0 true _ ?side1 ?side2 ?side3 ?side4 A2.out).mono ?_); (case side1 => exact q1z HR1_0 HB); (case side2 => exact HC1_0.out); (case side3 => exact q1z HR2_0 HB); (case side4 => exact HC2_0.out); rintro e w' ⟨rfl, ⟨nd, rfl⟩⟩; refine ⟨_, rfl, ?_⟩) | (go_at_call 41; (with_reducible refine (api_Pin_41.calls k _ _ l0_1 _ _ l1_1 true _ ?side1 ?side2 ?side3 ?side4 A3.out).mono ?_); (case side1 => exact q14z HR1_1 HB GE1 GE2); (case side2 => exact HC1_1.out); (case side3 => exact q14z HR2_1 HB GE1 GE2); (case side4 => exact HC2_1.out); rintro e w' ⟨rfl, ⟨nd, rfl⟩⟩) | (go_at_call 42; (with_reducible refine (api_Cell.calls k _ _ l0_2 _ _ l1_2 true _ ?side1 ?side2 ?side3 ?side4 A4.out).mono ?_); (case side1 => exact q14z HR1_2 HB GE1 GE2); (case side2 => exact HC1_2.out); (case side3 => exact q14z HR2_2 HB GE1 GE2); (case side4 => exact HC2_2.out); rintro e w' ⟨rfl, ⟨nd, rfl⟩⟩) | (go_at_call 43; (with_reducible refine (api_Prop.calls k _ _ l0_3 _ _ l1_3 true _ ?side1 ?side2 ?side3 ?side4 A5.out).mono ?_); (case side1 => exact q14z HR1_3 HB GE1 GE2); (case side2 => exact HC1_3.out); (case side3 => exact q14z HR2_3 HB GE1 GE2); (case side4 => exact HC2_3.out); rintro e w' ⟨rfl, ⟨nd, rfl⟩⟩) | (go_at_call 41; (with_reducible refine (api_Pin_41.calls k _ _ l0_4 _ _ l1_4 t5 _ ?side1 ?side2 ?side3 ?side4 A6.out).mono ?_); (case side1 => exact q14z HR1_4 HB GE1 GE2); (case side2 => exact HC1_4.out); (case side3 => exact q14z HR2_4 HB GE1 GE2); (case side4 => exact HC2_4.out); rintro e w' ⟨rfl, ⟨nd, rfl⟩⟩))
     go_ret
     exact ⟨q11z, q3z HB GE1 GE2⟩
    ·replace c4 := Bool.eq_false_iff.mpr c4; subst c4; have H1 : (some false) = some r := by rw [if_neg (show ¬ (false = true) by decide)] at H; exact H
     clear H; have H := H1; clear H1; obtain rfl := Option.some.inj H; go_enter Try.func14, Try.ntmps14
     go_wp2_with (first | ((with_reducible refine zgd 2 rfl ?_); refine zbox 2 #[.slice A0_0 l0_0.length c0_0, .slice A0_1 l0_1.length c0_1, .slice A0_2 l0_2.length c0_2, .slice A0_3 l0_3.length c0_3, .slice A0_4 l0_4.length c0_4] 27 ?_; intro gb1 hg w1 hbox hb; have BK1 := aM (hbox); have GW1 := aM ((q7z HB : w.heap.size ≤ gb1)); have GE1 := aM ((q7z HB : w.heap.size ≤ gb1)); replace HB := aM (ym (q5z HB) hb); clear hb hbox hg) | ((with_reducible refine zgd 3 rfl ?_); refine zbox 3 #[.slice A1_0 l1_0.length c1_0, .slice A1_1 l1_1.length c1_1, .slice A1_2 l1_2.length c1_2, .slice A1_3 l1_3.length c1_3, .slice A1_4 l1_4.length c1_4] 27 ?_; intro gb2 hg w2 hbox hb; have BK2 := aM (hbox); have GW2 := aM ((q12z HB GE1 : w.heap.size ≤ gb2)); have GE2 := aM ((q12z HB GE1 : w.heap.size ≤ gb2)); replace HB := aM (ym (q4z HB GE1) hb); have NB1_198 := aM ((q34z BK1 : gb1 ≠ gb2)); have NB1_197 := aM ((q35z BK1 : gb2 ≠ gb1)); replace BK1 := aM (yi (zi BK1) hb); clear hb hbox hg; have hnb1 := NB1_198.out; have hnc1 := NB1_197.out; obtain ⟨i1_0, i1_1, i1_2, i1_3, i1_4, j1_0, j1_1, j1_2, j1_3, j1_4⟩ := cells5 BK1.out; obtain ⟨i2_0, i2_1, i2_2, i2_3, i2_4, j2_0, j2_1, j2_2, j2_3, j2_4⟩ := cells5 BK2.out) | ((with_reducible refine zgc 40 rfl ?_); refine zgl (some 9) Try.func40 #[.slice A0_0 l0_0.length c0_0, .slice A1_0 l1_0.length c1_0] ?_; (with_reducible refine (api_Node.calls k _ _ l0_0 _ _ l1_0 true _ ?side1 ?side2 ?side3 ?side4 A2.out).mono ?_); (case side1 => exact q1z HR1_0 HB); (case side2 => exact HC1_0.out); (case side3 => exact q1z HR2_0 HB); (case side4 => exact HC2_0.out); rintro e w' ⟨rfl, ⟨nd, rfl⟩⟩; refine ⟨_, rfl, ?_⟩) | (go_at_call 41; (with_reducible refine (api_Pin_41.calls k _ _ l0_1 _ _ l1_1 true _ ?side1 ?side2 ?side3 ?side4 A3.out).mono ?_); (case side1 => exact q14z HR1_1 HB GE1 GE2); (case side2 => exact HC1_1.out); (case side3 => exact q14z HR2_1 HB GE1 GE2); (case side4 => exact HC2_1.out); rintro e w' ⟨rfl, ⟨nd, rfl⟩⟩) | (go_at_call 42; (with_reducible refine (api_Cell.calls k _ _ l0_2 _ _ l1_2 true _ ?side1 ?side2 ?side3 ?side4 A4.out).mono ?_); (case side1 => exact q14z HR1_2 HB GE1 GE2); (case side2 => exact HC1_2.out); (case side3 => exact q14z HR2_2 HB GE1 GE2); (case side4 => exact HC2_2.out); rintro e w' ⟨rfl, ⟨nd, rfl⟩⟩) | (go_at_call 43; (with_reducible refine (api_Prop.calls k _ _ l0_3 _ _ l1_3 false _ ?side1 ?side2 ?side3 ?side4 A5.out).mono ?_); (case side1 => exact q14z HR1_3 HB GE1 GE2); (case side2 => exact HC1_3.out); (case side3 => exact q14z HR2_3 HB GE1 GE2); (case side4 => exact HC2_3.out); rintro e w' ⟨rfl, ⟨nd, rfl⟩⟩))
     go_ret
     exact ⟨q11z, q3z HB GE1 GE2⟩
   ·replace c3 := Bool.eq_false_iff.mpr c3; subst c3; have H1 : (some false) = some r := by rw [if_neg (show ¬ (false = true) by decide)] at H; exact H
    clear H; have H := H1; clear H1; obtain rfl := Option.some.inj H; go_enter Try.func14, Try.ntmps14
    go_wp2_with (first | ((with_reducible refine zgd 2 rfl ?_); refine zbox 2 #[.slice A0_0 l0_0.length c0_0, .slice A0_1 l0_1.length c0_1, .slice A0_2 l0_2.length c0_2, .slice A0_3 l0_3.length c0_3, .slice A0_4 l0_4.length c0_4] 27 ?_; intro gb1 hg w1 hbox hb; have BK1 := aM (hbox); have GW1 := aM ((q7z HB : w.heap.size ≤ gb1)); have GE1 := aM ((q7z HB : w.heap.size ≤ gb1)); replace HB := aM (ym (q5z HB) hb); clear hb hbox hg) | ((with_reducible refine zgd 3 rfl ?_); refine zbox 3 #[.slice A1_0 l1_0.length c1_0, .slice A1_1 l1_1.length c1_1, .slice A1_2 l1_2.length c1_2, .slice A1_3 l1_3.length c1_3, .slice A1_4 l1_4.length c1_4] 27 ?_; intro gb2 hg w2 hbox hb; have BK2 := aM (hbox); have GW2 := aM ((q12z HB GE1 : w.heap.size ≤ gb2)); have GE2 := aM ((q12z HB GE1 : w.heap.size ≤ gb2)); replace HB := aM (ym (q4z HB GE1) hb); have NB1_198 := aM ((q34z BK1 : gb1 ≠ gb2)); have NB1_197 := aM ((q35z BK1 : gb2 ≠ gb1)); replace BK1 := aM (yi (zi BK1) hb); clear hb hbox hg; have hnb1 := NB1_198.out; have hnc1 := NB1_197.out; obtain ⟨i1_0, i1_1, i1_2, i1_3, i1_4, j1_0, j1_1, j1_2, j1_3, j1_4⟩ := cells5 BK1.out; obtain ⟨i2_0, i2_1, i2_2, i2_3, i2_4, j2_0, j2_1, j2_2, j2_3, j2_4⟩ := cells5 BK2.out) | ((with_reducible refine zgc 40 rfl ?_); refine zgl (some 9) Try.func40 #[.slice A0_0 l0_0.length c0_0, .slice A1_0 l1_0.length c1_0] ?_; (with_reducible refine (api_Node.calls k _ _ l0_0 _ _ l1_0 true _ ?side1 ?side2 ?side3 ?side4 A2.out).mono ?_); (case side1 => exact q1z HR1_0 HB); (case side2 => exact HC1_0.out); (case side3 => exact q1z HR2_0 HB); (case side4 => exact HC2_0.out); rintro e w' ⟨rfl, ⟨nd, rfl⟩⟩; refine ⟨_, rfl, ?_⟩) | (go_at_call 41; (with_reducible refine (api_Pin_41.calls k _ _ l0_1 _ _ l1_1 true _ ?side1 ?side2 ?side3 ?side4 A3.out).mono ?_); (case side1 => exact q14z HR1_1 HB GE1 GE2); (case side2 => exact HC1_1.out); (case side3 => exact q14z HR2_1 HB GE1 GE2); (case side4 => exact HC2_1.out); rintro e w' ⟨rfl, ⟨nd, rfl⟩⟩) | (go_at_call 42; (with_reducible refine (api_Cell.calls k _ _ l0_2 _ _ l1_2 false _ ?side1 ?side2 ?side3 ?side4 A4.out).mono ?_); (case side1 => exact q14z HR1_2 HB GE1 GE2); (case side2 => exact HC1_2.out); (case side3 => exact q14z HR2_2 HB GE1 GE2); (case side4 => exact HC2_2.out); rintro e w' ⟨rfl, ⟨nd, rfl⟩⟩))
    go_ret
    exact ⟨q11z, q3z HB GE1 GE2⟩
  ·replace c2 := Bool.eq_false_iff.mpr c2; subst c2; have H1 : (some false) = some r := by rw [if_neg (show ¬ (false = true) by decide)] at H; exact H
   clear H; have H := H1; clear H1; obtain rfl := Option.some.inj H; go_enter Try.func14, Try.ntmps14
   go_wp2_with (first | ((with_reducible refine zgd 2 rfl ?_); refine zbox 2 #[.slice A0_0 l0_0.length c0_0, .slice A0_1 l0_1.length c0_1, .slice A0_2 l0_2.length c0_2, .slice A0_3 l0_3.length c0_3, .slice A0_4 l0_4.length c0_4] 27 ?_; intro gb1 hg w1 hbox hb; have BK1 := aM (hbox); have GW1 := aM ((q7z HB : w.heap.size ≤ gb1)); have GE1 := aM ((q7z HB : w.heap.size ≤ gb1)); replace HB := aM (ym (q5z HB) hb); clear hb hbox hg) | ((with_reducible refine zgd 3 rfl ?_); refine zbox 3 #[.slice A1_0 l1_0.length c1_0, .slice A1_1 l1_1.length c1_1, .slice A1_2 l1_2.length c1_2, .slice A1_3 l1_3.length c1_3, .slice A1_4 l1_4.length c1_4] 27 ?_; intro gb2 hg w2 hbox hb; have BK2 := aM (hbox); have GW2 := aM ((q12z HB GE1 : w.heap.size ≤ gb2)); have GE2 := aM ((q12z HB GE1 : w.heap.size ≤ gb2)); replace HB := aM (ym (q4z HB GE1) hb); have NB1_198 := aM ((q34z BK1 : gb1 ≠ gb2)); have NB1_197 := aM ((q35z BK1 : gb2 ≠ gb1)); replace BK1 := aM (yi (zi BK1) hb); clear hb hbox hg; have hnb1 := NB1_198.out; have hnc1 := NB1_197.out; obtain ⟨i1_0, i1_1, i1_2, i1_3, i1_4, j1_0, j1_1, j1_2, j1_3, j1_4⟩ := cells5 BK1.out; obtain ⟨i2_0, i2_1, i2_2, i2_3, i2_4, j2_0, j2_1, j2_2, j2_3, j2_4⟩ := cells5 BK2.out) | ((with_reducible refine zgc 40 rfl ?_); refine zgl (some 9) Try.func40 #[.slice A0_0 l0_0.length c0_0, .slice A1_0 l1_0.length c1_0] ?_; (with_reducible refine (api_Node.calls k _ _ l0_0 _ _ l1_0 true _ ?side1 ?side2 ?side3 ?side4 A2.out).mono ?_); (case side1 => exact q1z HR1_0 HB); (case side2 => exact HC1_0.out); (case side3 => exact q1z HR2_0 HB); (case side4 => exact HC2_0.out); rintro e w' ⟨rfl, ⟨nd, rfl⟩⟩; refine ⟨_, rfl, ?_⟩) | (go_at_call 41; (with_reducible refine (api_Pin_41.calls k _ _ l0_1 _ _ l1_1 false _ ?side1 ?side2 ?side3 ?side4 A3.out).mono ?_); (case side1 => exact q14z HR1_1 HB GE1 GE2); (case side2 => exact HC1_1.out); (case side3 => exact q14z HR2_1 HB GE1 GE2); (case side4 => exact HC2_1.out); rintro e w' ⟨rfl, ⟨nd, rfl⟩⟩))
   go_ret
   exact ⟨q11z, q3z HB GE1 GE2⟩
 ·replace c1 := Bool.eq_false_iff.mpr c1; subst c1; have H1 : (some false) = some r := by rw [if_neg (show ¬ (false = true) by decide)] at H; exact H
  clear H; have H := H1; clear H1; obtain rfl := Option.some.inj H; go_enter Try.func14, Try.ntmps14
  go_wp2_with (first | ((with_reducible refine zgd 2 rfl ?_); refine zbox 2 #[.slice A0_0 l0_0.length c0_0, .slice A0_1 l0_1.length c0_1, .slice A0_2 l0_2.length c0_2, .slice A0_3 l0_3.length c0_3, .slice A0_4 l0_4.length c0_4] 27 ?_; intro gb1 hg w1 hbox hb; have BK1 := aM (hbox); have GW1 := aM ((q7z HB : w.heap.size ≤ gb1)); have GE1 := aM ((q7z HB : w.heap.size ≤ gb1)); replace HB := aM (ym (q5z HB) hb); clear hb hbox hg) | ((with_reducible refine zgd 3 rfl ?_); refine zbox 3 #[.slice A1_0 l1_0.length c1_0, .slice A1_1 l1_1.length c1_1, .slice A1_2 l1_2.length c1_2, .slice A1_3 l1_3.length c1_3, .slice A1_4 l1_4.length c1_4] 27 ?_; intro gb2 hg w2 hbox hb; have BK2 := aM (hbox); have GW2 := aM ((q12z HB GE1 : w.heap.size ≤ gb2)); have GE2 := aM ((q12z HB GE1 : w.heap.size ≤ gb2)); replace HB := aM (ym (q4z HB GE1) hb); have NB1_198 := aM ((q34z BK1 : gb1 ≠ gb2)); have NB1_197 := aM ((q35z BK1 : gb2 ≠ gb1)); replace BK1 := aM (yi (zi BK1) hb); clear hb hbox hg; have hnb1 := NB1_198.out; have hnc1 := NB1_197.out; obtain ⟨i1_0, i1_1, i1_2, i1_3, i1_4, j1_0, j1_1, j1_2, j1_3, j1_4⟩ := cells5 BK1.out; obtain ⟨i2_0, i2_1, i2_2, i2_3, i2_4, j2_0, j2_1, j2_2, j2_3, j2_4⟩ := cells5 BK2.out) | ((with_reducible refine zgc 40 rfl ?_); refine zgl (some 9) Try.func40 #[.slice A0_0 l0_0.length c0_0, .slice A1_0 l1_0.length c1_0] ?_; (with_reducible refine (api_Node.calls k _ _ l0_0 _ _ l1_0 false _ ?side1 ?side2 ?side3 ?side4 A2.out).mono ?_); (case side1 => exact q1z HR1_0 HB); (case side2 => exact HC1_0.out); (case side3 => exact q1z HR2_0 HB); (case side4 => exact HC2_0.out); rintro e w' ⟨rfl, ⟨nd, rfl⟩⟩; refine ⟨_, rfl, ?_⟩))
  go_ret
  exact ⟨q11z, q3z HB GE1 GE2⟩
def r4_SameInts.l0 : Nat → List Int → List Int → Int → Option (Bool)
 | 0, _, _, _ => none
 | k + 1, x0, x1, x5 => if x5 < (x0.length : Int) then (if 0 ≤ x5 then (if x5 < (x1.length : Int) then (if (rd x0 x5) = (rd x1 x5) then (r4_SameInts.l0 k x0 x1 (wrap64 (x5 + 1))) else (some false)) else (none)) else (none)) else (some true)
def r4_SameInts.f (k : Nat) (l0 : List Int) (l1 : List Int) : Option (Bool) := if (l0.length : Int) = (l1.length : Int) then (r4_SameInts.l0 k l0 l1 0) else (some false)
theorem r4_SameInts.mono_l : ∀ k, (∀ y0 y1 y2, LeO (r4_SameInts.l0 k y0 y1 y2) (r4_SameInts.l0 (k + 1) y0 y1 y2))
 | 0 => fun _ _ _ r h => by simp [r4_SameInts.l0] at h
 | k + 1 => by
  have ih0 := r4_SameInts.mono_l k
  ·intro y0 y1 y2
   unfold r4_SameInts.l0
   repeat' first | (with_reducible first | apply ih0 | exact LeO.refl _ | exact LeO.none _ | refine LeO.ite ?_ ?_ | refine LeO.bind ?_ (fun _ => ?_)) | exact LeO.none _ | refine LeO.ite ?_ ?_ | refine LeO.bind ?_ (fun _ => ?_)
theorem r4_SameInts.mono : ∀ a0 a1 k, LeO (r4_SameInts.f k a0 a1) (r4_SameInts.f (k + 1) a0 a1) := by
 intro a0 a1 k
 have ih1 := r4_SameInts.mono_l k; unfold r4_SameInts.f
 repeat' first | (with_reducible first | apply ih1 | exact LeO.refl _ | exact LeO.none _ | refine LeO.ite ?_ ?_ | refine LeO.bind ?_ (fun _ => ?_)) | exact LeO.none _ | refine LeO.ite ?_ ?_ | refine LeO.bind ?_ (fun _ => ?_)
theorem r4_SameInts.calls (k : Nat) (A0 : Option Addr) (c0 : Nat) (l0 : List Int) (A1 : Option Addr) (c1 : Nat) (l1 : List Int) (r : Bool) (w : World) (hr0 : Kd.C (Kd.int .i64) w A0 l0.length l0) (hc0 : l0.length ≤ c0) (hr1 : Kd.C (Kd.int .i64) w A1 l1.length l1) (hc1 : l1.length ≤ c1) (h : r4_SameInts.f k l0 l1 = some r) :
  Calls Try.prog 17 #[.slice A0 l0.length c0, .slice A1 l1.length c1] w fun e w' => e = .returned (.bool r) ∧ Drawn0 w w' := by
 have HR1 := aM hr0; have HC1 := aM hc0; clear hr0 hc0; have HR2 := aM hr1; have HC1 := aM hc1; clear hr1 hc1; have H : (if (l0.length : Int) = (l1.length : Int) then (r4_SameInts.l0 k l0 l1 0) else (some false)) = some r := h; clear h; by_cases c2 : (l0.length : Int) = (l1.length : Int)
 ·rw [if_pos c2] at H; obtain ⟨c1b0, c1b1⟩ := zeq c2; have c1b2 : (l0.length == l1.length) = true := by first | simpa using c2 | (simp at c2 ⊢; omega)
  clear c2; have H' := aM H; clear H; go_enter Try.func17, Try.ntmps17
  go_wp2
  repeat (go_quiet (fail); try go_wp2)
  go_loopg [5] k (fun kq v1 w' => ∃ (x1_1 : Int), v1 = .int .i64 x1_1 ∧ Aside0 (r4_SameInts.l0 kq l0 l1 x1_1 = some r) ∧ Aside0 (kq ≤ k) ∧ Drawn0 w w')
  case atStart => exact ⟨(0), q13z, H', ⟨Nat.le_refl _⟩, q21z⟩
  case round =>
   clear H'; try clear c1
   try clear p2
   try clear c2
   try clear c1b0
   try clear c1b1
   try clear c1b2
   obtain ⟨x1_1, rfl, HA, HK1, ⟨m1, rfl⟩⟩ := hrel; cases gk with
   | zero => exact absurd HA.out (by simp [r4_SameInts.l0])
   | succ k1 =>
    have H := HA.out; clear HA; simp only [r4_SameInts.l0] at H; by_cases c3 : x1_1 < (l0.length : Int)
    ·rw [if_pos c3] at H; have c1b0 := decide_eq_true c3; clear c3; by_cases c4 : 0 ≤ x1_1
     ·rw [if_pos c4] at H; have c1b0 := decide_eq_true c4; clear c4; by_cases c5 : x1_1 < (l1.length : Int)
      ·rw [if_pos c5] at H; have c1b0 := decide_eq_true c5; clear c5; by_cases c6 : (rd l0 x1_1) = (rd l1 x1_1)
       ·rw [if_pos c6] at H; obtain ⟨c1b0, c1b1⟩ := zeq c6; clear c6; have H' := aM H; clear H; have p1 : 0 ≤ (x1_1 : Int) := zod; have q1 : x1_1 < (l0.length : Int) := zod; obtain ⟨ad1, e1, hx1_0⟩ := Kd.at_int HR1.out x1_1 p1 q1; cases e1; replace p1 := eq_true p1; replace q1 := eq_true q1; have p1 : 0 ≤ (x1_1 : Int) := zod; have q1 : x1_1 < (l1.length : Int) := zod; obtain ⟨ad1, e1, hx1_0⟩ := Kd.at_int HR2.out x1_1 p1 q1; cases e1; replace p1 := eq_true p1; replace q1 := eq_true q1; go_wp2
        repeat (go_quiet (fail); try go_wp2)
        go_roundg k1
        case measure => have := HK1.out; omega
        case rel => exact ⟨(wrap64 (x1_1 + 1)), q13z, H', ⟨by have := HK1.out; omega⟩, q21z⟩
       ·rw [if_neg c6] at H; obtain ⟨c1b0, c1b1⟩ := zne c6; obtain rfl := Option.some.inj H; have p1 : 0 ≤ (x1_1 : Int) := zod; have q1 : x1_1 < (l0.length : Int) := zod; obtain ⟨ad1, e1, hx1_0⟩ := Kd.at_int HR1.out x1_1 p1 q1; cases e1; replace p1 := eq_true p1; replace q1 := eq_true q1; have p1 : 0 ≤ (x1_1 : Int) := zod; have q1 : x1_1 < (l1.length : Int) := zod; obtain ⟨ad1, e1, hx1_0⟩ := Kd.at_int HR2.out x1_1 p1 q1; cases e1; replace p1 := eq_true p1; replace q1 := eq_true q1; go_wp2
        repeat (go_quiet (fail); try go_wp2)
        go_ret
        exact ⟨q13z, q21z⟩
      ·rw [if_neg c5] at H; exact absurd H (by simp)
     ·rw [if_neg c4] at H; exact absurd H (by simp)
    ·rw [if_neg c3] at H; have c1b0 := decide_eq_false c3; clear c3; obtain rfl := Option.some.inj H; go_wp2
     repeat (go_quiet (fail); try go_wp2)
     go_ret
     exact ⟨q13z, q21z⟩
 ·rw [if_neg c2] at H; obtain ⟨c1b0, c1b1⟩ := zne c2; have c1b2 : (l0.length == l1.length) = false := by first | simpa using c2 | (simp at c2 ⊢; omega)
  obtain rfl := Option.some.inj H; go_enter Try.func17, Try.ntmps17
  go_wp2
  repeat (go_quiet (fail); try go_wp2)
  go_ret
  exact ⟨q13z, q21z⟩
def net_First.l0 : Nat → List Int → List (S43) → Int → Int → Option (List Int)
 | 0, _, _, _, _ => none
 | k + 1, x3, x11, x12, x13 => if x13 < x12 then (if 0 ≤ x13 then (if x13 < (x11.length : Int) then (if x13 < (x3.length : Int) then (net_First.l0 k (x3.set (x13 : Int).toNat ((rd_T43 x11 x13).f3)) x11 x12 (wrap64 (x13 + 1))) else (none)) else (none)) else (none)) else (some x3)
def net_First.f (k : Nat) (l0_0 : List (S41)) (l0_1 : List (S47)) (l0_2 : List (S43)) (l0_3 : List (S61)) (l0_4 : List (S47)) : Option (List Int) := if 0 ≤ (l0_2.length : Int) then (if ((l0_2.length : Int) : Int).toNat ≤ 35184372088832 then (net_First.l0 k (List.replicate ((l0_2.length : Int) : Int).toNat 0) l0_2 (l0_2.length : Int) 0) else (none)) else (none)
theorem net_First.mono_l : ∀ k, (∀ y0 y1 y2 y3, LeO (net_First.l0 k y0 y1 y2 y3) (net_First.l0 (k + 1) y0 y1 y2 y3))
 | 0 => fun _ _ _ _ r h => by simp [net_First.l0] at h
 | k + 1 => by
  have ih0 := net_First.mono_l k
  ·intro y0 y1 y2 y3
   unfold net_First.l0
   repeat' first | (with_reducible first | apply ih0 | exact LeO.refl _ | exact LeO.none _ | refine LeO.ite ?_ ?_ | refine LeO.bind ?_ (fun _ => ?_)) | exact LeO.none _ | refine LeO.ite ?_ ?_ | refine LeO.bind ?_ (fun _ => ?_)
theorem net_First.mono : ∀ a0 a1 a2 a3 a4 k, LeO (net_First.f k a0 a1 a2 a3 a4) (net_First.f (k + 1) a0 a1 a2 a3 a4) := by
 intro a0 a1 a2 a3 a4 k
 have ih1 := net_First.mono_l k; unfold net_First.f
 repeat' first | (with_reducible first | apply ih1 | exact LeO.refl _ | exact LeO.none _ | refine LeO.ite ?_ ?_ | refine LeO.bind ?_ (fun _ => ?_)) | exact LeO.none _ | refine LeO.ite ?_ ?_ | refine LeO.bind ?_ (fun _ => ?_)
theorem net_First.calls (k : Nat) (A0_0 : Option Addr) (c0_0 : Nat) (l0_0 : List (S41)) (A0_1 : Option Addr) (c0_1 : Nat) (l0_1 : List (S47)) (A0_2 : Option Addr) (c0_2 : Nat) (l0_2 : List (S43)) (A0_3 : Option Addr) (c0_3 : Nat) (l0_3 : List (S61)) (A0_4 : Option Addr) (c0_4 : Nat) (l0_4 : List (S47)) (r : List Int) (w : World) (hr0_0 : Kd.C k41 w A0_0 l0_0.length l0_0) (hc0_0 : l0_0.length ≤ c0_0) (hr0_1 : Kd.C k47 w A0_1 l0_1.length l0_1) (hc0_1 : l0_1.length ≤ c0_1) (hr0_2 : Kd.C k43 w A0_2 l0_2.length l0_2) (hc0_2 : l0_2.length ≤ c0_2) (hr0_3 : Kd.C k61 w A0_3 l0_3.length l0_3) (hc0_3 : l0_3.length ≤ c0_3) (hr0_4 : Kd.C k47 w A0_4 l0_4.length l0_4) (hc0_4 : l0_4.length ≤ c0_4) (h : net_First.f k l0_0 l0_1 l0_2 l0_3 l0_4 = some r) :
  Calls Try.prog 18 #[.agg #[.slice A0_0 l0_0.length c0_0, .slice A0_1 l0_1.length c0_1, .slice A0_2 l0_2.length c0_2, .slice A0_3 l0_3.length c0_3, .slice A0_4 l0_4.length c0_4]] w fun e w' => ∃ v0_ : Value, e = .returned (v0_) ∧ Kd.R (Kd.int .i64) 3 w' w.heap.size (fun _ => True) v0_ r ∧ Below w.heap.size w w' := by
 have hu1 := Try.underlying27; have hu1 := Try.underlying43; have HR1_0 := aM hr0_0; have HC1_0 := aM hc0_0; clear hr0_0 hc0_0; have HR1_1 := aM hr0_1; have HC1_1 := aM hc0_1; clear hr0_1 hc0_1; have HR1_2 := aM hr0_2; have HC1_2 := aM hc0_2; clear hr0_2 hc0_2; have HR1_3 := aM hr0_3; have HC1_3 := aM hc0_3; clear hr0_3 hc0_3; have HR1_4 := aM hr0_4; have HC1_4 := aM hc0_4; clear hr0_4 hc0_4; have HB := aM (Below.refl w.heap.size w); have H : (if 0 ≤ (l0_2.length : Int) then (if ((l0_2.length : Int) : Int).toNat ≤ 35184372088832 then (net_First.l0 k (List.replicate ((l0_2.length : Int) : Int).toNat 0) l0_2 (l0_2.length : Int) 0) else (none)) else (none)) = some r := h; clear h; by_cases c2 : 0 ≤ (l0_2.length : Int)
 ·rw [if_pos c2] at H; have c1b0 := eq_true c2; have c1b1 : decide (0 ≤ (l0_2.length : Int)) = true := decide_eq_true c2; clear c2; by_cases c3 : ((l0_2.length : Int) : Int).toNat ≤ 35184372088832
  ·rw [if_pos c3] at H; have c2b0 := eq_true c3; have c2b1 : decide (((l0_2.length : Int) : Int).toNat ≤ 35184372088832) = true := decide_eq_true c3; clear c3; obtain ⟨y1, hy1⟩ : ∃ y_ : List Int, y_ = (List.replicate ((l0_2.length : Int) : Int).toNat 0) := ⟨_, rfl⟩; replace H : (net_First.l0 k y1 l0_2 (l0_2.length : Int) 0) = some r := by first | (rw [hy1]; with_reducible exact H) | (have H1_ := (Option.bind_some _ _).symm.trans H; rw [hy1]; with_reducible exact H1_) | (have H1_ := (Option.bind_some _ _).symm.trans H; with_reducible exact H1_) | with_reducible exact H | (rw [hy1]; exact H) | exact H
   have Ny1 := aM hy1; clear hy1; have H' := aM H; clear H; go_enter Try.func18, Try.ntmps18
   go_wp2_with (first | ((with_reducible refine zgd 1 rfl ?_); refine zbox 1 #[.slice A0_0 l0_0.length c0_0, .slice A0_1 l0_1.length c0_1, .slice A0_2 l0_2.length c0_2, .slice A0_3 l0_3.length c0_3, .slice A0_4 l0_4.length c0_4] 27 ?_; intro gb1 hg w2 hbox hb; have BK1 := aM (hbox); have GW1 := aM ((q7z HB : w.heap.size ≤ gb1)); have GE1 := aM ((q7z HB : w.heap.size ≤ gb1)); replace HB := aM (ym (q5z HB) hb); clear hb hbox hg; obtain ⟨i1_0, i1_1, i1_2, i1_3, i1_4, j1_0, j1_1, j1_2, j1_3, j1_4⟩ := cells5 BK1.out) | ((with_reducible refine gate_dst (N := 9) rfl ?_); refine Kd.R_make (Kd.int .i64) _ 3 rfl (N := 9) rfl 32 _ _ rfl (l0_2.length : Int) rfl rfl Try.underlying32 (.int .i64 0) 8 info3 rfl (by decide) (by omega) 0 (ok := fun _ => True) (okp := fun _ => True) rfl (fun _ hk => hk) trivial (of_decide_eq_true q72z) (Nat.le_trans (Nat.mul_le_mul_right _ (of_decide_eq_true q72z : (l0_2.length : Int).toNat ≤ 35184372088832)) (by omega)) (Below.refl _ _) (Nat.le_refl _) ?_; intro v1 w3 ho1 hb hg_ hnew_; clear hg_ hnew_; (first | rw [← Ny1.out] at ho1 | (simp only [Int.reduceToNat] at ho1; rw [← Ny1.out] at ho1)); have HO1 := aM (Kd.R_lower ho1 (yn (q4z HB GE1))); replace BK1 := aM (yi (zi BK1) hb); replace HB := aM (ym (q4z HB GE1) hb); clear hb ho1; obtain ⟨i2_0, i2_1, i2_2, i2_3, i2_4, j2_0, j2_1, j2_2, j2_3, j2_4⟩ := cells5 BK1.out))
   go_loopg [13] k (fun kq v2 w' => ∃ (x1_1 : List Int) (x2_1 : Int), v2 = .int .i64 x2_1 ∧ Aside0 (net_First.l0 kq x1_1 l0_2 (l0_2.length : Int) x2_1 = some r) ∧ Aside0 (kq ≤ k) ∧ Aside0 (Kd.R (Kd.int .i64) 3 w' w.heap.size (fun _ => True) v1 x1_1) ∧ Aside0 (w'.heap[gb1]? = some (.cells #[(.slice A0_0 l0_0.length c0_0), (.slice A0_1 l0_1.length c0_1), (.slice A0_2 l0_2.length c0_2), (.slice A0_3 l0_3.length c0_3), (.slice A0_4 l0_4.length c0_4)] 27 (0, 0))) ∧ Aside0 (Below w.heap.size w w'))
   case atStart => exact ⟨(y1), (0), q13z, H', ⟨Nat.le_refl _⟩, ⟨q2z HO1⟩, ⟨q10z BK1⟩, ⟨q4z HB GE1⟩⟩
   case round =>
    clear H'; try clear c1
    try clear c2
    try clear c1b0
    try clear c1b1
    try clear p2
    try clear c3
    try clear c2b0
    try clear c2b1
    try clear i1_0 i1_1 i1_2 i1_3 i1_4
    try clear i2_0 i2_1 i2_2 i2_3 i2_4
    try clear j1_0 j1_1 j1_2 j1_3 j1_4
    try clear j2_0 j2_1 j2_2 j2_3 j2_4
    obtain ⟨x1_1, x2_1, rfl, HA, HK1, HO_1, BK1, HB⟩ := hrel; cases gk with
    | zero => exact absurd HA.out (by simp [net_First.l0])
    | succ k1 =>
     have H := HA.out; clear HA; simp only [net_First.l0] at H; by_cases c4 : x2_1 < (l0_2.length : Int)
     ·rw [if_pos c4] at H; have c1b0 := decide_eq_true c4; clear c4; by_cases c5 : 0 ≤ x2_1
      ·rw [if_pos c5] at H; have c1b0 := decide_eq_true c5; clear c5; by_cases c6 : x2_1 < (l0_2.length : Int)
       ·rw [if_pos c6] at H; have c1b0 := decide_eq_true c6; clear c6; by_cases c7 : x2_1 < (x1_1.length : Int)
        ·rw [if_pos c7] at H; have c1b0 := decide_eq_true c7; clear c7; obtain ⟨y1, hy1⟩ : ∃ y_ : List Int, y_ = (x1_1.set (x2_1 : Int).toNat ((rd_T43 l0_2 x2_1).f3)) := ⟨_, rfl⟩; replace H : (net_First.l0 k1 y1 l0_2 (l0_2.length : Int) (wrap64 (x2_1 + 1))) = some r := by first | (rw [hy1]; with_reducible exact H) | (have H1_ := (Option.bind_some _ _).symm.trans H; rw [hy1]; with_reducible exact H1_) | (have H1_ := (Option.bind_some _ _).symm.trans H; with_reducible exact H1_) | with_reducible exact H | (rw [hy1]; exact H) | exact H
         have Ny1 := aM hy1; clear hy1; have H' := aM H; clear H; have p1 : 0 ≤ (x2_1 : Int) := zod; have q1 : x2_1 < (l0_2.length : Int) := zod; obtain ⟨ad1, e1, hx1_0, hx1_1, hx1_2, hx1_3⟩ := at_T43 HR1_2.out x2_1 p1 q1; cases e1; replace hx1_0 := zx HB hx1_0; replace hx1_1 := zx HB hx1_1; replace hx1_2 := zx HB hx1_2; replace hx1_3 := zx HB hx1_3; replace p1 := eq_true p1; replace q1 := eq_true q1; go_wp2_with (first | ((with_reducible refine zgd 5 rfl ?_); refine zbox 5 #[.string (⟨#[]⟩ : ByteArray), .int .i64 0, .int .i64 0, .int .i64 0] 43 ?_; intro gb2 hg w2 hbox hb; replace HO_1 := aM (yr (q2z HO_1) hb); have BK2 := aM (hbox); have GW1 := aM ((q12z HB GE1 : w.heap.size ≤ gb2)); have GE2 := aM ((q12z HB GE1 : w.heap.size ≤ gb2)); replace HB := aM (ym (q4z HB GE1) hb); have NB1_211 := aM ((q34z BK1 : gb1 ≠ gb2)); have NB1_206 := aM ((q35z BK1 : gb2 ≠ gb1)); replace BK1 := aM (yi (zi BK1) hb); clear hb hbox hg; have hnb1 := NB1_206.out; have hnc1 := NB1_211.out; obtain ⟨i1_0, i1_1, i1_2, i1_3, j1_0, j1_1, j1_2, j1_3⟩ := cells4 BK2.out) | ((with_reducible refine gate_store (t := 43) (p := 5) rfl ?_); refine store_event (t := 43) (p := 5) (v := ?vo_w17) (w1 := ((((w2.setCell ⟨gb2, 0, none⟩ (.string ((rd_T43 l0_2 x2_1).f0))).setCell ⟨gb2, 1, none⟩ (.int .i64 ((rd_T43 l0_2 x2_1).f1))).setCell ⟨gb2, 2, none⟩ (.int .i64 ((rd_T43 l0_2 x2_1).f2))).setCell ⟨gb2, 3, none⟩ (.int .i64 ((rd_T43 l0_2 x2_1).f3)))) ?hg ?ho ?hn ?hr ?_; (case ho => rfl); (case hg => rfl); (case hn => rfl); (case hr => exact q30z); intro w3 hw; replace HO_1 : Aside0 (Kd.R (Kd.int .i64) 3 w3 w.heap.size (fun _ => True) v1 x1_1) := ⟨(by rw [hw]; exact (by (with_reducible repeat (first | apply yf | apply yg | apply yh)); exact Kd.R_mono (Kd.R_far (p := ⟨gb2, 3, none⟩) (Kd.R_far (p := ⟨gb2, 2, none⟩) (Kd.R_far (p := ⟨gb2, 1, none⟩) (Kd.R_far (p := ⟨gb2, 0, none⟩) (Kd.R_types HO_1.out BK2.out (by decide)) (fun _ hk => hk.2) (.string ((rd_T43 l0_2 x2_1).f0))) (fun _ hk => hk.2) (.int .i64 ((rd_T43 l0_2 x2_1).f1))) (fun _ hk => hk.2) (.int .i64 ((rd_T43 l0_2 x2_1).f2))) (fun _ hk => hk.2) (.int .i64 ((rd_T43 l0_2 x2_1).f3))) (fun _ hk => trivial)))⟩; replace BK1 : Aside0 (w3.heap[gb1]? = some (.cells #[.slice A0_0 l0_0.length c0_0, .slice A0_1 l0_1.length c0_1, .slice (some ad1) l0_2.length c0_2, .slice A0_3 l0_3.length c0_3, .slice A0_4 l0_4.length c0_4] 27 (0, 0))) := ⟨(q59z NB1_211 BK1)⟩; replace BK2 : Aside0 (w3.heap[gb2]? = some (.cells #[.string ((rd_T43 l0_2 x2_1).f0), .int .i64 ((rd_T43 l0_2 x2_1).f1), .int .i64 ((rd_T43 l0_2 x2_1).f2), .int .i64 ((rd_T43 l0_2 x2_1).f3)] 43 (0, 0))) := ⟨(q36z BK2)⟩; replace HB : Aside0 (Below w.heap.size w w3) := ⟨q125z⟩; clear hw; obtain ⟨i2_0, i2_1, i2_2, i2_3, j2_0, j2_1, j2_2, j2_3⟩ := cells4 BK2.out; have p1 : 0 ≤ (x2_1 : Int) := zod; have q1 : (x2_1 : Int) < ((x1_1.length : Int) : Int) := zod; obtain ⟨go1, co1, eo1, gb3, gl1, cl1, HG1⟩ := Kd.R_form HO_1.out (by omega); (first | cases eo1 | (injection eo1 with ea_ en_ ec_; (first | subst ea_ | (injection ea_ with ea_; subst ea_)); subst ec_; clear en_)); have GB1 := aM gb3; have GG1 := aM HG1; clear gb3 gl1 HG1; obtain ⟨hx1_0, hf1_0⟩ := Kd.R_celln 0 HO_1.out (x2_1 : Int) p1 q1; replace p1 := eq_true p1; replace q1 := eq_true q1; obtain ⟨hy1_, hz1_⟩ := Kd.R_celln 0 HO_1.out (x2_1 : Int) (of_decide_eq_true q72z) (of_decide_eq_true q72z); have HP1 := Kd.R_putg HO_1.out (x2_1 : Int) ((rd_T43 l0_2 x2_1).f3)) | ((with_reducible refine gate_store (t := 3) (p := 22) rfl ?_); refine store_event (t := 3) (p := 22) (v := ?vo_w20) (w1 := (w3.setCell ⟨go1, (x2_1 : Int).toNat, none⟩ (.int .i64 ((rd_T43 l0_2 x2_1).f3)))) ?hg ?ho ?hn ?hr ?_; (case ho => rfl); (case hg => rfl); (case hn => rfl); (case hr => exact q30z); intro w4 hw; have hg : w3.grownBy w4 (some go1) := q111z; have hp_ : Kd.R (Kd.int .i64) 3 w4 w.heap.size (fun _ => True) (.slice (some ⟨go1, 0, none⟩) x1_1.length co1) y1 := (q108z Ny1); clear HP1; replace BK1 := aM (blk_grown (g := gb1) (o := .cells #[.slice A0_0 l0_0.length c0_0, .slice A0_1 l0_1.length c0_1, .slice (some ad1) l0_2.length c0_2, .slice A0_3 l0_3.length c0_3, .slice A0_4 l0_4.length c0_4] 27 (0, 0)) (zi BK1) hg (Kd.R_ne HO_1.out BK1.out (by decide))); replace BK2 := aM (blk_grown (g := gb2) (o := .cells #[.string ((rd_T43 l0_2 x2_1).f0), .int .i64 ((rd_T43 l0_2 x2_1).f1), .int .i64 ((rd_T43 l0_2 x2_1).f2), .int .i64 ((rd_T43 l0_2 x2_1).f3)] 43 (0, 0)) (zi BK2) hg (Kd.R_ne HO_1.out BK2.out (by decide))); replace HO_1 := aM (hp_); replace HB := aM ((q107z HB GB1 : Below w.heap.size w w4)); clear hg hw hp_))
         go_roundg k1
         case measure => have := HK1.out; omega
         case rel => exact ⟨(y1), (wrap64 (x2_1 + 1)), q13z, H', ⟨by have := HK1.out; omega⟩, ⟨q2z HO_1⟩, ⟨q10z BK1⟩, ⟨q3z HB GE1 GE2⟩⟩
        ·rw [if_neg c7] at H; exact absurd H (by simp)
       ·rw [if_neg c6] at H; exact absurd H (by simp)
      ·rw [if_neg c5] at H; exact absurd H (by simp)
     ·rw [if_neg c4] at H; have c1b0 := decide_eq_false c4; clear c4; obtain rfl := Option.some.inj H; go_wp2
      go_ret
      exact ⟨_, q11z, q2z HO_1, q4z HB GE1⟩
  ·rw [if_neg c3] at H; exact absurd H (by simp)
 ·rw [if_neg c2] at H; exact absurd H (by simp)
end Go.Proofs.Yteblbknmikieoaa.Xb
