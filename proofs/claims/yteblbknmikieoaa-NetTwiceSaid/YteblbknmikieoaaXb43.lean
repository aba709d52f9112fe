/- Slimmed by this session: what nothing names is struck out. -/
import Derived.Test.YteblbknmikieoaaXb0
import Derived.Test.YteblbknmikieoaaXbZ
import Derived.Test.YteblbknmikieoaaXbB
namespace Go.Proofs.Yteblbknmikieoaa.Xb
open Go.RowKit Go.Proofs.YteblbknmikieoaaW.PrintWords Go.Proofs.YteblbknmikieoaaW.PrintLast Go.Proofs.YteblbknmikieoaaW.PrintMore
attribute [local go_sem] max2_int min2_int max_two min_two max_three min_three max_four min_four
set_option linter.unusedVariables false
set_option linter.unusedSimpArgs false
theorem cells2_43 {w : World} {g : Nat} {t : TypeId} {x0 x1 : Value} (h : w.heap[g]? = some (.cells #[x0, x1] t (0, 0))) : w.cell? ⟨g, 0, none⟩ = some x0 ∧ w.cell? ⟨g, 1, none⟩ = some x1 ∧ w.frozen? ⟨g, 0, none⟩ = false ∧ w.frozen? ⟨g, 1, none⟩ = false := ⟨(blk_cell h 0).trans rfl, (blk_cell h 1).trans rfl, blk_frozen h 0, blk_frozen h 1⟩
theorem cells5_43 {w : World} {g : Nat} {t : TypeId} {x0 x1 x2 x3 x4 : Value} (h : w.heap[g]? = some (.cells #[x0, x1, x2, x3, x4] t (0, 0))) : w.cell? ⟨g, 0, none⟩ = some x0 ∧ w.cell? ⟨g, 1, none⟩ = some x1 ∧ w.cell? ⟨g, 2, none⟩ = some x2 ∧ w.cell? ⟨g, 3, none⟩ = some x3 ∧ w.cell? ⟨g, 4, none⟩ = some x4 ∧ w.frozen? ⟨g, 0, none⟩ = false ∧ w.frozen? ⟨g, 1, none⟩ = false ∧ w.frozen? ⟨g, 2, none⟩ = false ∧ w.frozen? ⟨g, 3, none⟩ = false ∧ w.frozen? ⟨g, 4, none⟩ = false := ⟨(blk_cell h 0).trans rfl, (blk_cell h 1).trans rfl, (blk_cell h 2).trans rfl, (blk_cell h 3).trans rfl, (blk_cell h 4).trans rfl, blk_frozen h 0, blk_frozen h 1, blk_frozen h 2, blk_frozen h 3, blk_frozen h 4⟩
theorem cells7_43 {w : World} {g : Nat} {t : TypeId} {x0 x1 x2 x3 x4 x5 x6 : Value} (h : w.heap[g]? = some (.cells #[x0, x1, x2, x3, x4, x5, x6] t (0, 0))) : w.cell? ⟨g, 0, none⟩ = some x0 ∧ w.cell? ⟨g, 1, none⟩ = some x1 ∧ w.cell? ⟨g, 2, none⟩ = some x2 ∧ w.cell? ⟨g, 3, none⟩ = some x3 ∧ w.cell? ⟨g, 4, none⟩ = some x4 ∧ w.cell? ⟨g, 5, none⟩ = some x5 ∧ w.cell? ⟨g, 6, none⟩ = some x6 ∧ w.frozen? ⟨g, 0, none⟩ = false ∧ w.frozen? ⟨g, 1, none⟩ = false ∧ w.frozen? ⟨g, 2, none⟩ = false ∧ w.frozen? ⟨g, 3, none⟩ = false ∧ w.frozen? ⟨g, 4, none⟩ = false ∧ w.frozen? ⟨g, 5, none⟩ = false ∧ w.frozen? ⟨g, 6, none⟩ = false := ⟨(blk_cell h 0).trans rfl, (blk_cell h 1).trans rfl, (blk_cell h 2).trans rfl, (blk_cell h 3).trans rfl, (blk_cell h 4).trans rfl, (blk_cell h 5).trans rfl, (blk_cell h 6).trans rfl, blk_frozen h 0, blk_frozen h 1, blk_frozen h 2, blk_frozen h 3, blk_frozen h 4, blk_frozen h 5, blk_frozen h 6⟩
mutual
def net_nodes.l0 : Nat → List (S41) → Int → Int → List (S41) → List (S47) → List (S43) → List (S61) → List (S47) → Option (Bool)
 | 0, _, _, _, _, _, _, _, _ => none
 | k + 1, x11, x12, x13, x132000, x132001, x132002, x132003, x132004 => if x13 < x12 then (if 0 ≤ x13 then (if x13 < (x11.length : Int) then ((main_main.f ((rd_T41 x11 x13).f0)).bind fun bt135 => ((some (([(rd_T41 x11 x13).f2, (rd_T41 x11 x13).f3, (rd_T41 x11 x13).f4] : List Int) : List Int)).bind fun y139 => (if bt135.2.2 = true then (if ((rd_T41 x11 x13).f1) < 1 then (net_nodes.j1 k x13 x11 x12 x13 true x132000 x132001 x132002 x132003 x132004 ((rd_T41 x11 x13).f0) ((rd_T41 x11 x13).f1) ((rd_T41 x11 x13).f2) ((rd_T41 x11 x13).f3) ((rd_T41 x11 x13).f4) ((rd_T41 x11 x13).f5) ((rd_T41 x11 x13).f6) bt135.1 bt135.2.1) else (if ((rd_T41 x11 x13).f1) > 16 then (net_nodes.j1 k x13 x11 x12 x13 true x132000 x132001 x132002 x132003 x132004 ((rd_T41 x11 x13).f0) ((rd_T41 x11 x13).f1) ((rd_T41 x11 x13).f2) ((rd_T41 x11 x13).f3) ((rd_T41 x11 x13).f4) ((rd_T41 x11 x13).f5) ((rd_T41 x11 x13).f6) bt135.1 bt135.2.1) else (if 0 ≤ bt135.1 then (if bt135.1 ≤ (y139.length : Int) then ((slices_ContainsFunc_int_int.f k (y139.drop (bt135.1 : Int).toNat) 0).bind fun t146 => (net_nodes.j1 k x13 x11 x12 x13 t146 x132000 x132001 x132002 x132003 x132004 ((rd_T41 x11 x13).f0) ((rd_T41 x11 x13).f1) ((rd_T41 x11 x13).f2) ((rd_T41 x11 x13).f3) ((rd_T41 x11 x13).f4) ((rd_T41 x11 x13).f5) ((rd_T41 x11 x13).f6) bt135.1 bt135.2.1)) else (none)) else (none)))) else (net_nodes.j1 k x13 x11 x12 x13 true x132000 x132001 x132002 x132003 x132004 ((rd_T41 x11 x13).f0) ((rd_T41 x11 x13).f1) ((rd_T41 x11 x13).f2) ((rd_T41 x11 x13).f3) ((rd_T41 x11 x13).f4) ((rd_T41 x11 x13).f5) ((rd_T41 x11 x13).f6) bt135.1 bt135.2.1)))) else (none)) else (none)) else (some true)
def net_nodes.j1 : Nat → Int → List (S41) → Int → Int → Bool → List (S41) → List (S47) → List (S43) → List (S61) → List (S47) → Int → Int → Int → Int → Int → Int → Int → Int → Int → Option (Bool)
 | 0, _, _, _, _, _, _, _, _, _, _, _, _, _, _, _, _, _, _, _ => none
 | k + 1, x4, x11, x12, x13, x50, x132000, x132001, x132002, x132003, x132004, x135000, x135001, x135002, x135003, x135004, x135005, x135006, x139000, x139001 => if x50 = true then (some false) else ((net_width.f x132000 x132001 x132002 x132003 x132004 x135002 x4).bind fun t147 => ((net_width.f x132000 x132001 x132002 x132003 x132004 x135003 x4).bind fun t148 => ((net_width.f x132000 x132001 x132002 x132003 x132004 x135004 x4).bind fun t149 => ((gosem_cut.f x135000 x135001 x135002 x135003 x135004 x135005 x135006 t147 t148 t149 x139001).bind fun t150 => (if t150 = true then (net_nodes.l0 k x11 x12 (wrap64 (x13 + 1)) x132000 x132001 x132002 x132003 x132004) else (some false))))))
end
def net_nodes.f (k : Nat) (l0_0 : List (S41)) (l0_1 : List (S47)) (l0_2 : List (S43)) (l0_3 : List (S61)) (l0_4 : List (S47)) : Option (Bool) := net_nodes.l0 k l0_0 (l0_0.length : Int) 0 l0_0 l0_1 l0_2 l0_3 l0_4
theorem net_nodes.mono_l : ∀ k, (∀ y0 y1 y2 y3 y4 y5 y6 y7, LeO (net_nodes.l0 k y0 y1 y2 y3 y4 y5 y6 y7) (net_nodes.l0 (k + 1) y0 y1 y2 y3 y4 y5 y6 y7)) ∧ (∀ y0 y1 y2 y3 y4 y5 y6 y7 y8 y9 y10 y11 y12 y13 y14 y15 y16 y17 y18, LeO (net_nodes.j1 k y0 y1 y2 y3 y4 y5 y6 y7 y8 y9 y10 y11 y12 y13 y14 y15 y16 y17 y18) (net_nodes.j1 (k + 1) y0 y1 y2 y3 y4 y5 y6 y7 y8 y9 y10 y11 y12 y13 y14 y15 y16 y17 y18))
 | 0 => ⟨fun _ _ _ _ _ _ _ _ r h => by simp [net_nodes.l0] at h, fun _ _ _ _ _ _ _ _ _ _ _ _ _ _ _ _ _ _ _ r h => by simp [net_nodes.j1] at h⟩
 | k + 1 => by
  obtain ⟨ih0, ih1⟩ := net_nodes.mono_l k; refine ⟨?_, ?_⟩
  ·intro y0 y1 y2 y3 y4 y5 y6 y7
   unfold net_nodes.l0
   repeat' first
   | (with_reducible exact ih0 _ _ _ _ _ _ _ _)
   | (with_reducible exact ih1 _ _ _ _ _ _ _ _ _ _ _ _ _ _ _ _ _ _ _)
   | (with_reducible exact slices_ContainsFunc_int_int.mono _ _ _)
   | (with_reducible exact LeO.refl _)
   | (with_reducible exact LeO.none _)
   | (with_reducible refine LeO.ite ?_ ?_)
   | (with_reducible refine LeO.bind ?_ (fun _ => ?_))
   | exact ih0 _ _ _ _ _ _ _ _
   | exact ih1 _ _ _ _ _ _ _ _ _ _ _ _ _ _ _ _ _ _ _
   | exact slices_ContainsFunc_int_int.mono _ _ _
   | exact LeO.none _
   | refine LeO.ite ?_ ?_
   | refine LeO.bind ?_ (fun _ => ?_)
  ·intro y0 y1 y2 y3 y4 y5 y6 y7 y8 y9 y10 y11 y12 y13 y14 y15 y16 y17 y18
   unfold net_nodes.j1
   repeat' first
   | (with_reducible exact ih0 _ _ _ _ _ _ _ _)
   | (with_reducible exact ih1 _ _ _ _ _ _ _ _ _ _ _ _ _ _ _ _ _ _ _)
   | (with_reducible exact slices_ContainsFunc_int_int.mono _ _ _)
   | (with_reducible exact LeO.refl _)
   | (with_reducible exact LeO.none _)
   | (with_reducible refine LeO.ite ?_ ?_)
   | (with_reducible refine LeO.bind ?_ (fun _ => ?_))
   | exact ih0 _ _ _ _ _ _ _ _
   | exact ih1 _ _ _ _ _ _ _ _ _ _ _ _ _ _ _ _ _ _ _
   | exact slices_ContainsFunc_int_int.mono _ _ _
   | exact LeO.none _
   | refine LeO.ite ?_ ?_
   | refine LeO.bind ?_ (fun _ => ?_)
theorem net_nodes.mono : ∀ a0 a1 a2 a3 a4 k, LeO (net_nodes.f k a0 a1 a2 a3 a4) (net_nodes.f (k + 1) a0 a1 a2 a3 a4) := by
 intro a0 a1 a2 a3 a4 k
 obtain ⟨ih1, ih2⟩ := net_nodes.mono_l k; unfold net_nodes.f
 repeat' first
   | (with_reducible exact ih1 _ _ _ _ _ _ _ _)
   | (with_reducible exact ih2 _ _ _ _ _ _ _ _ _ _ _ _ _ _ _ _ _ _ _)
   | (with_reducible exact slices_ContainsFunc_int_int.mono _ _ _)
   | (with_reducible exact LeO.refl _)
   | (with_reducible exact LeO.none _)
   | (with_reducible refine LeO.ite ?_ ?_)
   | (with_reducible refine LeO.bind ?_ (fun _ => ?_))
   | exact ih1 _ _ _ _ _ _ _ _
   | exact ih2 _ _ _ _ _ _ _ _ _ _ _ _ _ _ _ _ _ _ _
   | exact slices_ContainsFunc_int_int.mono _ _ _
   | exact LeO.none _
   | refine LeO.ite ?_ ?_
   | refine LeO.bind ?_ (fun _ => ?_)
def net_nodes.T9 : Bool × List (List Nat × List Nat) := (true, [([], []), ([0], [0]), ([], []), ([], []), ([], []), ([4], [4]), ([], []), ([3, 5, 6], [3, 5, 6]), ([], []), ([], []), ([9], [9]), ([], []), ([8, 10, 11, 7], [8, 10, 11]), ([], []), ([], []), ([14], [14]), ([], []), ([13, 15, 16, 12], [13, 15, 16]), ([2, 7, 12, 17], [2, 7, 12, 17]), ([1, 18, 17], [1, 18]), ([19], [19])])
def net_nodes.B9 : List Nat := [0, 1, 0, 0, 0, 16, 0, 120, 0, 0, 512, 0, 4088, 0, 0, 16384, 0, 131064, 262140, 524287, 1048575]
theorem net_nodes.tab9 : rtab .any (opsOf Try.f27 9) = net_nodes.T9 := by kernel_rfl
theorem net_nodes.bits9 : waitsOk net_nodes.T9.2 net_nodes.B9 = true := by kernel_rfl
theorem z43_2 {P : Prop} (h : P := by
 go_wp2
 go_meet
 case rel => exact ⟨_, (true), q13z, H', ⟨q55z HK1⟩, ⟨q10z BK1⟩, ⟨q10z BK2⟩, ⟨q10z BK3⟩, ⟨q10z BK4⟩, ⟨q25z HB GE1 GE2 GE3 GE4⟩⟩) : P := h
theorem z43_1 {P : Prop} (h : P := by
 have H' := aM H; clear H; have hnb1 := NB1_131.out; have hnc1 := NB1_134.out; have hnb1 := NB1_132.out; have hnc1 := NB2_134.out; have hnb1 := NB3_138.out; have hnc1 := NB3_134.out; obtain ⟨i5_0, i5_1, i4_2, i4_3, i4_4, i3_5, i3_6, j5_0, j5_1, j4_2, j4_3, j4_4, j3_5, j3_6⟩ := cells7_43 BK3.out; exact z43_2) : P := h
set_option maxHeartbeats 8000000 in
set_option maxRecDepth 100000 in
theorem net_nodes.calls (k : Nat) (A0_0 : Option Addr) (c0_0 : Nat) (l0_0 : List (S41)) (A0_1 : Option Addr) (c0_1 : Nat) (l0_1 : List (S47)) (A0_2 : Option Addr) (c0_2 : Nat) (l0_2 : List (S43)) (A0_3 : Option Addr) (c0_3 : Nat) (l0_3 : List (S61)) (A0_4 : Option Addr) (c0_4 : Nat) (l0_4 : List (S47)) (r : Bool) (w : World) (hr0_0 : Kd.C k41 w A0_0 l0_0.length l0_0) (hc0_0 : l0_0.length ≤ c0_0) (hr0_1 : Kd.C k47 w A0_1 l0_1.length l0_1) (hc0_1 : l0_1.length ≤ c0_1) (hr0_2 : Kd.C k43 w A0_2 l0_2.length l0_2) (hc0_2 : l0_2.length ≤ c0_2) (hr0_3 : Kd.C k61 w A0_3 l0_3.length l0_3) (hc0_3 : l0_3.length ≤ c0_3) (hr0_4 : Kd.C k47 w A0_4 l0_4.length l0_4) (hc0_4 : l0_4.length ≤ c0_4) (h : net_nodes.f k l0_0 l0_1 l0_2 l0_3 l0_4 = some r) :
  Calls Try.prog 27 #[.agg #[.slice A0_0 l0_0.length c0_0, .slice A0_1 l0_1.length c0_1, .slice A0_2 l0_2.length c0_2, .slice A0_3 l0_3.length c0_3, .slice A0_4 l0_4.length c0_4]] w fun e w' => e = .returned (.bool r) ∧ Below w.heap.size w w' := by
 have hu1 := Try.underlying27; have hu1 := Try.underlying76; have hu1 := Try.underlying41; have hu1 := Try.underlying81; have HR1_0 := aM hr0_0; have HC1_0 := aM hc0_0; clear hr0_0 hc0_0; have HR1_1 := aM hr0_1; have HC1_1 := aM hc0_1; clear hr0_1 hc0_1; have HR1_2 := aM hr0_2; have HC1_2 := aM hc0_2; clear hr0_2 hc0_2; have HR1_3 := aM hr0_3; have HC1_3 := aM hc0_3; clear hr0_3 hc0_3; have HR1_4 := aM hr0_4; have HC1_4 := aM hc0_4; clear hr0_4 hc0_4; have HB := aM (Below.refl w.heap.size w); have H : (net_nodes.l0 k l0_0 (l0_0.length : Int) 0 l0_0 l0_1 l0_2 l0_3 l0_4) = some r := h; clear h; have H' := aM H; clear H; go_enter Try.func27, Try.ntmps27
 go_wp2_with (first | ((with_reducible refine zgd 1 rfl ?_); refine zbox 1 #[.slice A0_0 l0_0.length c0_0, .slice A0_1 l0_1.length c0_1, .slice A0_2 l0_2.length c0_2, .slice A0_3 l0_3.length c0_3, .slice A0_4 l0_4.length c0_4] 27 ?_; intro gb1 hg w1 hbox hb; have BK1 := aM (hbox); have GW1 := aM ((q7z HB : w.heap.size ≤ gb1)); have GE1 := aM ((q7z HB : w.heap.size ≤ gb1)); replace HB := aM (ym (q4z HB) hb); clear hb hbox hg) | (go_at_call 46; refine (net_rules.calls _).mono ?_; rintro e w2 ⟨gb2, rfl, hge_, htm_, hb⟩; obtain ⟨⟨om, clk, hbox, hkv_⟩, hky_⟩ := htm_; have HKV := aM hkv_; have HKY := aM hky_; clear hkv_ hky_; have BK2 := aM (hbox); have GW2 := aM ((Nat.le_trans (yn (q3z HB GE1)) hge_ : w.heap.size ≤ gb2)); have GE2 := aM ((Nat.le_trans (yn (q3z HB GE1)) hge_ : w.heap.size ≤ gb2)); replace HB := aM (ym (q3z HB GE1) hb); have NB1_132 := aM ((Nat.ne_of_lt (Nat.lt_of_lt_of_le (blk_lt (zi BK1)) hge_) : gb1 ≠ gb2)); have NB1_131 := aM ((Nat.ne_of_gt (Nat.lt_of_lt_of_le (blk_lt (zi BK1)) hge_) : gb2 ≠ gb1)); replace BK1 := aM (yi (zi BK1) hb); clear hb hbox hge_; have hnb1 := NB1_132.out; have hnc1 := NB1_131.out; obtain ⟨i1_0, i1_1, i1_2, i1_3, i1_4, j1_0, j1_1, j1_2, j1_3, j1_4⟩ := cells5_43 BK1.out))
 go_loopg [13] k (fun kq v1 w' => ∃ (x1_1 : Int), v1 = .int .i64 x1_1 ∧ Aside0 (net_nodes.l0 kq l0_0 (l0_0.length : Int) x1_1 l0_0 l0_1 l0_2 l0_3 l0_4 = some r) ∧ Aside0 (kq ≤ k) ∧ Aside0 (w'.heap[gb1]? = some (.cells #[(.slice A0_0 l0_0.length c0_0), (.slice A0_1 l0_1.length c0_1), (.slice A0_2 l0_2.length c0_2), (.slice A0_3 l0_3.length c0_3), (.slice A0_4 l0_4.length c0_4)] 27 (0, 0))) ∧ Aside0 (w'.heap[gb2]? = some (.map om clk)) ∧ Aside0 (Below w.heap.size w w'))
 case atStart => exact ⟨(0), q13z, H', ⟨Nat.le_refl _⟩, ⟨q10z BK1⟩, ⟨q10z BK2⟩, ⟨q5z HB GE1 GE2⟩⟩
 case round =>
  clear H'; try clear c2
  try clear p2
  try clear c4
  try clear i1_0 i1_1 i1_2 i1_3 i1_4 j1_0 j1_1 j1_2 j1_3 j1_4
  obtain ⟨x1_1, rfl, HA, HK1, BK1, BK2, HB⟩ := hrel; cases gk with
  | zero => exact absurd HA.out (by simp [net_nodes.l0])
  | succ k1 =>
   have H := HA.out; clear HA; simp only [net_nodes.l0] at H; by_cases c1 : x1_1 < (l0_0.length : Int)
   ·rw [if_pos c1] at H; have c1b0 := decide_eq_true c1; clear c1; by_cases c5 : 0 ≤ x1_1
    ·rw [if_pos c5] at H; have c2b0 := decide_eq_true c5; clear c5; by_cases c6 : x1_1 < (l0_0.length : Int)
     ·rw [if_pos c6] at H; have c3b0 := decide_eq_true c6; clear c6; replace H := Option.bind_eq_some_iff.mp H; obtain ⟨⟨t1, t2, t3⟩, A1, H⟩ := H; replace H : ((some (([(rd_T41 l0_0 x1_1).f2, (rd_T41 l0_0 x1_1).f3, (rd_T41 l0_0 x1_1).f4] : List Int) : List Int)).bind fun y1 => (if t3 = true then (if ((rd_T41 l0_0 x1_1).f1) < 1 then (net_nodes.j1 k1 x1_1 l0_0 (l0_0.length : Int) x1_1 true l0_0 l0_1 l0_2 l0_3 l0_4 ((rd_T41 l0_0 x1_1).f0) ((rd_T41 l0_0 x1_1).f1) ((rd_T41 l0_0 x1_1).f2) ((rd_T41 l0_0 x1_1).f3) ((rd_T41 l0_0 x1_1).f4) ((rd_T41 l0_0 x1_1).f5) ((rd_T41 l0_0 x1_1).f6) t1 t2) else (if ((rd_T41 l0_0 x1_1).f1) > 16 then (net_nodes.j1 k1 x1_1 l0_0 (l0_0.length : Int) x1_1 true l0_0 l0_1 l0_2 l0_3 l0_4 ((rd_T41 l0_0 x1_1).f0) ((rd_T41 l0_0 x1_1).f1) ((rd_T41 l0_0 x1_1).f2) ((rd_T41 l0_0 x1_1).f3) ((rd_T41 l0_0 x1_1).f4) ((rd_T41 l0_0 x1_1).f5) ((rd_T41 l0_0 x1_1).f6) t1 t2) else (if 0 ≤ t1 then (if t1 ≤ (y1.length : Int) then ((slices_ContainsFunc_int_int.f k1 (y1.drop (t1 : Int).toNat) 0).bind fun t4 => (net_nodes.j1 k1 x1_1 l0_0 (l0_0.length : Int) x1_1 t4 l0_0 l0_1 l0_2 l0_3 l0_4 ((rd_T41 l0_0 x1_1).f0) ((rd_T41 l0_0 x1_1).f1) ((rd_T41 l0_0 x1_1).f2) ((rd_T41 l0_0 x1_1).f3) ((rd_T41 l0_0 x1_1).f4) ((rd_T41 l0_0 x1_1).f5) ((rd_T41 l0_0 x1_1).f6) t1 t2)) else (none)) else (none)))) else (net_nodes.j1 k1 x1_1 l0_0 (l0_0.length : Int) x1_1 true l0_0 l0_1 l0_2 l0_3 l0_4 ((rd_T41 l0_0 x1_1).f0) ((rd_T41 l0_0 x1_1).f1) ((rd_T41 l0_0 x1_1).f2) ((rd_T41 l0_0 x1_1).f3) ((rd_T41 l0_0 x1_1).f4) ((rd_T41 l0_0 x1_1).f5) ((rd_T41 l0_0 x1_1).f6) t1 t2))) = some r := H; have A2 := aM A1; clear A1; obtain ⟨y1, hy1⟩ : ∃ y_ : List Int, y_ = (([(rd_T41 l0_0 x1_1).f2, (rd_T41 l0_0 x1_1).f3, (rd_T41 l0_0 x1_1).f4] : List Int)) := ⟨_, rfl⟩; replace H : (if t3 = true then (if ((rd_T41 l0_0 x1_1).f1) < 1 then (net_nodes.j1 k1 x1_1 l0_0 (l0_0.length : Int) x1_1 true l0_0 l0_1 l0_2 l0_3 l0_4 ((rd_T41 l0_0 x1_1).f0) ((rd_T41 l0_0 x1_1).f1) ((rd_T41 l0_0 x1_1).f2) ((rd_T41 l0_0 x1_1).f3) ((rd_T41 l0_0 x1_1).f4) ((rd_T41 l0_0 x1_1).f5) ((rd_T41 l0_0 x1_1).f6) t1 t2) else (if ((rd_T41 l0_0 x1_1).f1) > 16 then (net_nodes.j1 k1 x1_1 l0_0 (l0_0.length : Int) x1_1 true l0_0 l0_1 l0_2 l0_3 l0_4 ((rd_T41 l0_0 x1_1).f0) ((rd_T41 l0_0 x1_1).f1) ((rd_T41 l0_0 x1_1).f2) ((rd_T41 l0_0 x1_1).f3) ((rd_T41 l0_0 x1_1).f4) ((rd_T41 l0_0 x1_1).f5) ((rd_T41 l0_0 x1_1).f6) t1 t2) else (if 0 ≤ t1 then (if t1 ≤ (y1.length : Int) then ((slices_ContainsFunc_int_int.f k1 (y1.drop (t1 : Int).toNat) 0).bind fun t4 => (net_nodes.j1 k1 x1_1 l0_0 (l0_0.length : Int) x1_1 t4 l0_0 l0_1 l0_2 l0_3 l0_4 ((rd_T41 l0_0 x1_1).f0) ((rd_T41 l0_0 x1_1).f1) ((rd_T41 l0_0 x1_1).f2) ((rd_T41 l0_0 x1_1).f3) ((rd_T41 l0_0 x1_1).f4) ((rd_T41 l0_0 x1_1).f5) ((rd_T41 l0_0 x1_1).f6) t1 t2)) else (none)) else (none)))) else (net_nodes.j1 k1 x1_1 l0_0 (l0_0.length : Int) x1_1 true l0_0 l0_1 l0_2 l0_3 l0_4 ((rd_T41 l0_0 x1_1).f0) ((rd_T41 l0_0 x1_1).f1) ((rd_T41 l0_0 x1_1).f2) ((rd_T41 l0_0 x1_1).f3) ((rd_T41 l0_0 x1_1).f4) ((rd_T41 l0_0 x1_1).f5) ((rd_T41 l0_0 x1_1).f6) t1 t2)) = some r := by first | (rw [hy1]; with_reducible exact H) | (have H1_ := (Option.bind_some _ _).symm.trans H; rw [hy1]; with_reducible exact H1_) | (have H1_ := (Option.bind_some _ _).symm.trans H; with_reducible exact H1_) | with_reducible exact H | (rw [hy1]; exact H) | exact H
      have Ny1 := aM hy1; clear hy1; have HC1 := aM H; clear H; have p3 : 0 ≤ (x1_1 : Int) := zod; have q2 : x1_1 < (l0_0.length : Int) := zod; obtain ⟨ad1, e1, hx1_0, hx1_1, hx1_2, hx1_3, hx1_4, hx1_5, hx1_6⟩ := at_T41 HR1_0.out x1_1 p3 q2; cases e1; replace hx1_0 := zx HB hx1_0; replace hx1_1 := zx HB hx1_1; replace hx1_2 := zx HB hx1_2; replace hx1_3 := zx HB hx1_3; replace hx1_4 := zx HB hx1_4; replace hx1_5 := zx HB hx1_5; replace hx1_6 := zx HB hx1_6; replace p3 := eq_true p3; replace q2 := eq_true q2; go_upto_region 7 with (first | ((with_reducible refine zgd 5 rfl ?_); refine zbox 5 #[.int .i64 0, .int .i64 0, .int .i64 0, .int .i64 0, .int .i64 0, .int .i64 0, .int .i64 0] 41 ?_; intro gb3 hg w1 hbox hb; have BK3 := aM (hbox); have GW1 := aM ((q64z HB GE1 GE2 : w.heap.size ≤ gb3)); have GE3 := aM ((q64z HB GE1 GE2 : w.heap.size ≤ gb3)); replace HB := aM (ym (q5z HB GE1 GE2) hb); have NB1_134 := aM ((q38z BK1 : gb1 ≠ gb3)); have NB1_131 := aM ((q39z BK1 : gb3 ≠ gb1)); replace BK1 := aM (yi (zi BK1) hb); have NB2_134 := aM ((by rw [hg]; exact Nat.ne_of_lt (blk_lt (g := gb2) (o := .map om clk) (zi BK2)) : gb2 ≠ gb3)); have NB1_132 := aM ((by rw [hg]; exact Nat.ne_of_gt (blk_lt (g := gb2) (o := .map om clk) (zi BK2)) : gb3 ≠ gb2)); replace BK2 := aM (yi (g := gb2) (o := .map om clk) (zi BK2) hb); clear hb hbox hg; have hnb1 := NB1_131.out; have hnc1 := NB1_134.out; have hnb2 := NB1_132.out; have hnc2 := NB2_134.out; obtain ⟨i2_0, i2_1, i2_2, i2_3, i2_4, i1_5, i1_6, j2_0, j2_1, j2_2, j2_3, j2_4, j1_5, j1_6⟩ := cells7_43 BK3.out) | ((with_reducible refine net_rules.gate_look rfl ?_); refine net_rules.look_event (q36z NB2_134 BK2) HKV.out HKY.out A2.out rfl _ _ rfl rfl rfl ?_; intro w2 hw_; have hb := net_rules.eqb hw_; clear hw_; replace BK1 := aM (yi (g := gb1) (o := .cells #[.slice (some ad1) l0_0.length c0_0, .slice A0_1 l0_1.length c0_1, .slice A0_2 l0_2.length c0_2, .slice A0_3 l0_3.length c0_3, .slice A0_4 l0_4.length c0_4] 27 (0, 0)) (q8z NB1_134 BK1) hb); replace BK2 := aM (yi (g := gb2) (o := .map om clk) (q36z NB2_134 BK2) hb); replace BK3 := aM (yi (g := gb3) (o := .cells #[.int .i64 ((rd_T41 l0_0 x1_1).f0), .int .i64 ((rd_T41 l0_0 x1_1).f1), .int .i64 ((rd_T41 l0_0 x1_1).f2), .int .i64 ((rd_T41 l0_0 x1_1).f3), .int .i64 ((rd_T41 l0_0 x1_1).f4), .int .i64 ((rd_T41 l0_0 x1_1).f5), .int .i64 ((rd_T41 l0_0 x1_1).f6)] 41 (0, 0)) (by (with_reducible repeat (first | refine ya ?_ _ | refine yc ?_ | refine yb ?_ _)); refine ys (cs := #[.int .i64 ((rd_T41 l0_0 x1_1).f0), .int .i64 ((rd_T41 l0_0 x1_1).f1), .int .i64 ((rd_T41 l0_0 x1_1).f2), .int .i64 ((rd_T41 l0_0 x1_1).f3), .int .i64 ((rd_T41 l0_0 x1_1).f4), .int .i64 ((rd_T41 l0_0 x1_1).f5), .int .i64 0]) ?_ 6 _ rfl; (with_reducible repeat (first | refine ya ?_ _ | refine yc ?_ | refine yb ?_ _)); refine ys (cs := #[.int .i64 ((rd_T41 l0_0 x1_1).f0), .int .i64 ((rd_T41 l0_0 x1_1).f1), .int .i64 ((rd_T41 l0_0 x1_1).f2), .int .i64 ((rd_T41 l0_0 x1_1).f3), .int .i64 ((rd_T41 l0_0 x1_1).f4), .int .i64 0, .int .i64 0]) ?_ 5 _ rfl; (with_reducible repeat (first | refine ya ?_ _ | refine yc ?_ | refine yb ?_ _)); refine ys (cs := #[.int .i64 ((rd_T41 l0_0 x1_1).f0), .int .i64 ((rd_T41 l0_0 x1_1).f1), .int .i64 ((rd_T41 l0_0 x1_1).f2), .int .i64 ((rd_T41 l0_0 x1_1).f3), .int .i64 0, .int .i64 0, .int .i64 0]) ?_ 4 _ rfl; (with_reducible repeat (first | refine ya ?_ _ | refine yc ?_ | refine yb ?_ _)); refine ys (cs := #[.int .i64 ((rd_T41 l0_0 x1_1).f0), .int .i64 ((rd_T41 l0_0 x1_1).f1), .int .i64 ((rd_T41 l0_0 x1_1).f2), .int .i64 0, .int .i64 0, .int .i64 0, .int .i64 0]) ?_ 3 _ rfl; (with_reducible repeat (first | refine ya ?_ _ | refine yc ?_ | refine yb ?_ _)); refine ys (cs := #[.int .i64 ((rd_T41 l0_0 x1_1).f0), .int .i64 ((rd_T41 l0_0 x1_1).f1), .int .i64 0, .int .i64 0, .int .i64 0, .int .i64 0, .int .i64 0]) ?_ 2 _ rfl; (with_reducible repeat (first | refine ya ?_ _ | refine yc ?_ | refine yb ?_ _)); refine ys (cs := #[.int .i64 ((rd_T41 l0_0 x1_1).f0), .int .i64 0, .int .i64 0, .int .i64 0, .int .i64 0, .int .i64 0, .int .i64 0]) ?_ 1 _ rfl; (with_reducible repeat (first | refine ya ?_ _ | refine yc ?_ | refine yb ?_ _)); refine ys (cs := #[.int .i64 0, .int .i64 0, .int .i64 0, .int .i64 0, .int .i64 0, .int .i64 0, .int .i64 0]) ?_ 0 _ rfl; (with_reducible repeat (first | refine ya ?_ _ | refine yc ?_ | refine yb ?_ _)); exact BK3.out) hb); replace HB := aM (ym (q12z HB GE1 GE2 GE3) hb); (try clear hb); (try clear hb2); (try clear hk); (try clear hi)) | ((with_reducible refine zgd 6 rfl ?_); refine zbox 6 #[.int .i64 0, .nilFunc] 76 ?_; intro gb4 hg w3 hbox hb; have BK4 := aM (hbox); have GW2 := aM ((q89z HB GE1 GE2 GE3 : w.heap.size ≤ gb4)); have GE4 := aM ((q89z HB GE1 GE2 GE3 : w.heap.size ≤ gb4)); replace HB := aM (ym (q12z HB GE1 GE2 GE3) hb); have NB1_138 := aM ((q38z BK1 : gb1 ≠ gb4)); have NB2_131 := aM ((q39z BK1 : gb4 ≠ gb1)); replace BK1 := aM (yi (zi BK1) hb); have NB2_138 := aM ((by rw [hg]; exact Nat.ne_of_lt (blk_lt (g := gb2) (o := .map om clk) (zi BK2)) : gb2 ≠ gb4)); have NB2_132 := aM ((by rw [hg]; exact Nat.ne_of_gt (blk_lt (g := gb2) (o := .map om clk) (zi BK2)) : gb4 ≠ gb2)); replace BK2 := aM (yi (g := gb2) (o := .map om clk) (zi BK2) hb); have NB3_138 := aM ((q38z BK3 : gb3 ≠ gb4)); have NB3_134 := aM ((q39z BK3 : gb4 ≠ gb3)); replace BK3 := aM (yi (zi BK3) hb); clear hb hbox hg; have hnb3 := NB2_131.out; have hnc3 := NB1_138.out; have hnb4 := NB2_132.out; have hnc4 := NB2_138.out; have hnb5 := NB3_134.out; have hnc5 := NB3_138.out; obtain ⟨i3_0, i3_1, j3_0, j3_1⟩ := cells2_43 BK4.out; obtain ⟨i4_0, i4_1, i3_2, i3_3, i3_4, i2_5, i2_6, j4_0, j4_1, j3_2, j3_3, j3_4, j2_5, j2_6⟩ := cells7_43 BK3.out) | ((with_reducible refine gate_dst (N := 31) rfl ?_); refine Kd.R_lit (Kd.int .i64) _ 3 ?hg (N := 31) ?hd (xs := ([(rd_T41 l0_0 x1_1).f2, (rd_T41 l0_0 x1_1).f3, (rd_T41 l0_0 x1_1).f4] : List Int)) (inner := [.int .i64 ((rd_T41 l0_0 x1_1).f2), .int .i64 ((rd_T41 l0_0 x1_1).f3), .int .i64 ((rd_T41 l0_0 x1_1).f4)]) (ok := fun _ => True) (okp := fun _ => True) ?hr ?hp (fun _ hk => hk) trivial (Below.refl _ _) (Nat.le_refl _) (by simp) ?_; (case hd => rfl); (case hg => rfl); (case hr => exact q27z); (case hp => exact (Reps.one (show Kd.M (Kd.int .i64) _ _ _ ((rd_T41 l0_0 x1_1).f2) [.int .i64 ((rd_T41 l0_0 x1_1).f2)] from rfl) (Reps.one (show Kd.M (Kd.int .i64) _ _ _ ((rd_T41 l0_0 x1_1).f3) [.int .i64 ((rd_T41 l0_0 x1_1).f3)] from rfl) (Reps.one (show Kd.M (Kd.int .i64) _ _ _ ((rd_T41 l0_0 x1_1).f4) [.int .i64 ((rd_T41 l0_0 x1_1).f4)] from rfl) (Reps.none _ _))))); intro v1 w4 ho1 hb hg_ hnew_; clear hg_ hnew_; (first | rw [← Ny1.out] at ho1 | (simp only [Int.reduceToNat] at ho1; rw [← Ny1.out] at ho1)); have HO1 := aM (Kd.R_lower ho1 (yn (q25z HB GE1 GE2 GE3 GE4))); replace BK1 := aM (yi (g := gb1) (o := .cells #[.slice (some ad1) l0_0.length c0_0, .slice A0_1 l0_1.length c0_1, .slice A0_2 l0_2.length c0_2, .slice A0_3 l0_3.length c0_3, .slice A0_4 l0_4.length c0_4] 27 (0, 0)) (q66z NB1_138 BK1) hb); replace BK2 := aM (yi (g := gb2) (o := .map om clk) (by (with_reducible repeat (first | refine ya ?_ _ | refine yc ?_ | refine yb ?_ _)); refine net_rules.farc ?_ NB2_138.out _; (with_reducible repeat (first | refine ya ?_ _ | refine yc ?_ | refine yb ?_ _)); refine net_rules.farc ?_ NB2_138.out _; (with_reducible repeat (first | refine ya ?_ _ | refine yc ?_ | refine yb ?_ _)); exact BK2.out) hb); replace BK3 := aM (yi (g := gb3) (o := .cells #[.int .i64 ((rd_T41 l0_0 x1_1).f0), .int .i64 ((rd_T41 l0_0 x1_1).f1), .int .i64 ((rd_T41 l0_0 x1_1).f2), .int .i64 ((rd_T41 l0_0 x1_1).f3), .int .i64 ((rd_T41 l0_0 x1_1).f4), .int .i64 ((rd_T41 l0_0 x1_1).f5), .int .i64 ((rd_T41 l0_0 x1_1).f6)] 41 (0, 0)) (q66z NB3_138 BK3) hb); replace BK4 := aM (yi (g := gb4) (o := .cells #[.int .i64 t1, .func (.func (t2 : Int).toNat) #[] #[]] 76 (0, 0)) (by (with_reducible repeat (first | refine ya ?_ _ | refine yc ?_ | refine yb ?_ _)); refine ys (cs := #[.int .i64 t1, .nilFunc]) ?_ 1 _ rfl; (with_reducible repeat (first | refine ya ?_ _ | refine yc ?_ | refine yb ?_ _)); refine ys (cs := #[.int .i64 0, .nilFunc]) ?_ 0 _ rfl; (with_reducible repeat (first | refine ya ?_ _ | refine yc ?_ | refine yb ?_ _)); exact BK4.out) hb); replace HB := aM (ym (q25z HB GE1 GE2 GE3 GE4) hb); clear hb ho1))
      (try simp only [Act.put, yu, yv, yw])
      go_cut [50] (fun v1 wc => ∃ (kq : Nat) (x1_9 : Bool), v1 = .bool x1_9 ∧ Aside0 (net_nodes.j1 kq x1_1 l0_0 (l0_0.length : Int) x1_1 x1_9 l0_0 l0_1 l0_2 l0_3 l0_4 ((rd_T41 l0_0 x1_1).f0) ((rd_T41 l0_0 x1_1).f1) ((rd_T41 l0_0 x1_1).f2) ((rd_T41 l0_0 x1_1).f3) ((rd_T41 l0_0 x1_1).f4) ((rd_T41 l0_0 x1_1).f5) ((rd_T41 l0_0 x1_1).f6) t1 t2 = some r) ∧ Aside0 (kq ≤ k1) ∧ Aside0 (wc.heap[gb1]? = some (.cells #[(.slice (some ad1) l0_0.length c0_0), (.slice A0_1 l0_1.length c0_1), (.slice A0_2 l0_2.length c0_2), (.slice A0_3 l0_3.length c0_3), (.slice A0_4 l0_4.length c0_4)] 27 (0, 0))) ∧ Aside0 (wc.heap[gb2]? = some (.map om clk)) ∧ Aside0 (wc.heap[gb3]? = some (.cells #[.int .i64 ((rd_T41 l0_0 x1_1).f0), .int .i64 ((rd_T41 l0_0 x1_1).f1), .int .i64 ((rd_T41 l0_0 x1_1).f2), .int .i64 ((rd_T41 l0_0 x1_1).f3), .int .i64 ((rd_T41 l0_0 x1_1).f4), .int .i64 ((rd_T41 l0_0 x1_1).f5), .int .i64 ((rd_T41 l0_0 x1_1).f6)] 41 (0, 0))) ∧ Aside0 (wc.heap[gb4]? = some (.cells #[.int .i64 t1, .func (.func (t2 : Int).toNat) #[] #[]] 76 (0, 0))) ∧ Aside0 (Below w.heap.size w wc))
      case first =>
       have H := HC1.out; clear HC1; by_cases c7 : t3 = true
       ·subst c7; have H1 : (if ((rd_T41 l0_0 x1_1).f1) < 1 then (net_nodes.j1 k1 x1_1 l0_0 (l0_0.length : Int) x1_1 true l0_0 l0_1 l0_2 l0_3 l0_4 ((rd_T41 l0_0 x1_1).f0) ((rd_T41 l0_0 x1_1).f1) ((rd_T41 l0_0 x1_1).f2) ((rd_T41 l0_0 x1_1).f3) ((rd_T41 l0_0 x1_1).f4) ((rd_T41 l0_0 x1_1).f5) ((rd_T41 l0_0 x1_1).f6) t1 t2) else (if ((rd_T41 l0_0 x1_1).f1) > 16 then (net_nodes.j1 k1 x1_1 l0_0 (l0_0.length : Int) x1_1 true l0_0 l0_1 l0_2 l0_3 l0_4 ((rd_T41 l0_0 x1_1).f0) ((rd_T41 l0_0 x1_1).f1) ((rd_T41 l0_0 x1_1).f2) ((rd_T41 l0_0 x1_1).f3) ((rd_T41 l0_0 x1_1).f4) ((rd_T41 l0_0 x1_1).f5) ((rd_T41 l0_0 x1_1).f6) t1 t2) else (if 0 ≤ t1 then (if t1 ≤ (y1.length : Int) then ((slices_ContainsFunc_int_int.f k1 (y1.drop (t1 : Int).toNat) 0).bind fun t4 => (net_nodes.j1 k1 x1_1 l0_0 (l0_0.length : Int) x1_1 t4 l0_0 l0_1 l0_2 l0_3 l0_4 ((rd_T41 l0_0 x1_1).f0) ((rd_T41 l0_0 x1_1).f1) ((rd_T41 l0_0 x1_1).f2) ((rd_T41 l0_0 x1_1).f3) ((rd_T41 l0_0 x1_1).f4) ((rd_T41 l0_0 x1_1).f5) ((rd_T41 l0_0 x1_1).f6) t1 t2)) else (none)) else (none)))) = some r := by rw [if_pos rfl] at H; exact H
        clear H; have H := H1; clear H1; by_cases c8 : ((rd_T41 l0_0 x1_1).f1) < 1
        ·rw [if_pos c8] at H; have c4b0 := decide_eq_true c8; clear c8; (first | rw [c4b0] | (simp only [i64_w, i32_w]; rw [c4b0]) | skip)
         exact z43_1
        ·rw [if_neg c8] at H; have c4b0 := decide_eq_false c8; clear c8; (first | rw [c4b0] | (simp only [i64_w, i32_w]; rw [c4b0]) | skip)
         by_cases c8 : ((rd_T41 l0_0 x1_1).f1) > 16
         ·rw [if_pos c8] at H; have c4b0 : decide (16 < ((rd_T41 l0_0 x1_1).f1)) = true := decide_eq_true c8; clear c8; exact z43_1
         ·rw [if_neg c8] at H; have c4b0 : decide (16 < ((rd_T41 l0_0 x1_1).f1)) = false := decide_eq_false c8; clear c8; by_cases c8 : 0 ≤ t1
          ·rw [if_pos c8] at H; have c4b0 := eq_true c8; have c1b1 : decide (0 ≤ t1) = true := decide_eq_true c8; clear c8; by_cases c9 : t1 ≤ (y1.length : Int)
           ·rw [if_pos c9] at H; have c4b0 := eq_true c9; have c1b1 : decide (t1 ≤ (y1.length : Int)) = true := decide_eq_true c9; clear c9; obtain ⟨y2, hy1⟩ : ∃ y_ : List Int, y_ = (y1.drop (t1 : Int).toNat) := ⟨_, rfl⟩; replace H : ((slices_ContainsFunc_int_int.f k1 y2 0).bind fun t4 => (net_nodes.j1 k1 x1_1 l0_0 (l0_0.length : Int) x1_1 t4 l0_0 l0_1 l0_2 l0_3 l0_4 ((rd_T41 l0_0 x1_1).f0) ((rd_T41 l0_0 x1_1).f1) ((rd_T41 l0_0 x1_1).f2) ((rd_T41 l0_0 x1_1).f3) ((rd_T41 l0_0 x1_1).f4) ((rd_T41 l0_0 x1_1).f5) ((rd_T41 l0_0 x1_1).f6) t1 t2)) = some r := by first | (rw [hy1]; with_reducible exact H) | (have H1_ := (Option.bind_some _ _).symm.trans H; rw [hy1]; with_reducible exact H1_) | (have H1_ := (Option.bind_some _ _).symm.trans H; with_reducible exact H1_) | with_reducible exact H | (rw [hy1]; exact H) | exact H
            have Ny1 := aM hy1; clear hy1; replace H := Option.bind_eq_some_iff.mp H; obtain ⟨t4, A1, H⟩ := H; have A2 := aM A1; clear A1; have H' := aM H; clear H; have hnb1 := NB1_131.out; have hnc1 := NB1_134.out; have hnb1 := NB1_132.out; have hnc1 := NB2_134.out; have hnb1 := NB3_138.out; have hnc1 := NB3_134.out; obtain ⟨i5_0, i5_1, i4_2, i4_3, i4_4, i3_5, i3_6, j5_0, j5_1, j4_2, j4_3, j4_4, j3_5, j3_6⟩ := cells7_43 BK3.out; have hnb1 := NB2_131.out; have hnc1 := NB1_138.out; have hnb1 := NB2_132.out; have hnc1 := NB2_138.out; obtain ⟨i5_0, i5_1, j5_0, j5_1⟩ := cells2_43 BK4.out; obtain ⟨Ao1, co1, eo1⟩ := Kd.R_slice HO1.out; subst eo1; have q3 : (t1 : Int) ≤ ((y1.length : Int) : Int) := zod; obtain ⟨i1, hi1, _, hsz1, _⟩ := info_parts info3; have hroom1 : y1.length ≤ co1 := (Kd.R_reads' HO1.out).2.1; have hC1 : Kd.C (Kd.int .i64) _ Ao1 y1.length y1 := (Kd.R_reads' HO1.out).2.2; have q5 : (0 : Int) ≤ (t1 : Int) := zod; have hcut1 := cut_from (P := Try.prog) 32 3 .i64 Try.underlying32 hi1 1 hsz1 Ao1 y1.length co1 t1 q5 q3; have hr1 := Kd.C_drop (m := (t1 : Int).toNat) (c := co1) hC1 (by omega) hroom1; obtain ⟨A1, hA45⟩ : ∃ A3, A3 = (if co1 = (t1 : Int).toNat then Ao1 else (Ao1 : Option Addr).map (·.add ((t1 : Int).toNat * 1))) := ⟨_, rfl⟩; obtain ⟨c10, hc1⟩ : ∃ c11, c11 = co1 - (t1 : Int).toNat := ⟨_, rfl⟩; have hy1 : y2.length = y1.length - (t1 : Int).toNat := (by rw [Ny1.out, List.length_drop] <;> omega); rw [show (y1).drop (t1 : Int).toNat = y2 from Ny1.out.symm] at hr1; replace hr1 : Kd.C (Kd.int .i64) _ A1 y2.length y2 := (by rw [hA45]; exact hr1); rw [← hy1, ← hA45, ← hc1] at hcut1; have HR1 := aM hr1; have HC2 := aM (show y2.length ≤ c10 from by rw [hy1, hc1]; exact Nat.sub_le_sub_right hroom1 _); clear hr1 hC1 hroom1 hi1 hsz1 hc1; have KY1 := aM hy1; have KA1 := aM hA45; clear hy1 hA45; have KL1 := aM (show (t1 : Int).toNat ≤ y1.length from by omega); replace q3 := eq_true q3; go_wp2_with (first | (go_at_call 47; (with_reducible refine (slices_ContainsFunc_int_int.calls k1 _ _ y2 0 t4 _ ?side1 ?side2 A2.out).mono ?_); (case side1 => exact q47z HR1); (case side2 => exact HC2.out); rintro e w' ⟨rfl, ⟨nd, rfl⟩⟩))
            go_meet
            case rel => exact ⟨_, (t4), q13z, H', ⟨q55z HK1⟩, ⟨q10z BK1⟩, ⟨q10z BK2⟩, ⟨q10z BK3⟩, ⟨q10z BK4⟩, ⟨q25z HB GE1 GE2 GE3 GE4⟩⟩
           ·rw [if_neg c9] at H; exact absurd H (by simp)
          ·rw [if_neg c8] at H; exact absurd H (by simp)
       ·replace c7 := Bool.eq_false_iff.mpr c7; subst c7; have H1 : (net_nodes.j1 k1 x1_1 l0_0 (l0_0.length : Int) x1_1 true l0_0 l0_1 l0_2 l0_3 l0_4 ((rd_T41 l0_0 x1_1).f0) ((rd_T41 l0_0 x1_1).f1) ((rd_T41 l0_0 x1_1).f2) ((rd_T41 l0_0 x1_1).f3) ((rd_T41 l0_0 x1_1).f4) ((rd_T41 l0_0 x1_1).f5) ((rd_T41 l0_0 x1_1).f6) t1 t2) = some r := by rw [if_neg (show ¬ (false = true) by decide)] at H; exact H
        clear H; have H := H1; clear H1; have H' := aM H; clear H; exact z43_2
      case rest =>
       clear HC1; try clear c7
       try clear p1
       try clear q1
       try clear hx1
       try clear c2
       try clear p2
       try clear c3
       try clear c4
       try clear q4
       try clear c1
       try clear c1b0
       try clear c5
       try clear c2b0
       try clear c6
       try clear c3b0
       try clear c12
       try clear c13
       try clear p13
       try clear q13
       try clear hx13
       try clear c17
       try clear c18
       try clear c19
       try clear c7
       try clear c7
       try clear c1b0
       try clear c26
       try clear c27
       try clear c28
       try clear c7
       try clear c1b0
       try clear c31
       try clear c32
       try clear c33
       try clear c7
       try clear c1b0
       try clear c1b1
       try clear c7
       try clear c1b0
       try clear c1b1
       try clear c38
       try clear c39
       try clear c40
       try clear c42
       try clear c43
       try clear c7
       try clear q3
       try clear i2_0 i2_1 i2_2 i2_3 i2_4
       try clear i1_5 i1_6
       try clear i3_0 i3_1
       try clear i4_0 i4_1
       try clear i3_2 i3_3 i3_4
       try clear i2_5 i2_6 i2_0 i2_1 i2_2 i2_3 i2_4
       try clear i1_5 i1_6
       try clear i2_0 i2_1 i2_2 i2_3 i2_4
       try clear i1_5 i1_6
       try clear i2_0 i2_1 i2_2 i2_3 i2_4
       try clear i1_5 i1_6
       try clear i2_0 i2_1
       try clear i1_0 i1_1 i1_2 i1_3 i1_4
       try clear j2_0 j2_1 j2_2 j2_3 j2_4
       try clear j1_5 j1_6
       try clear j3_0 j3_1
       try clear j4_0 j4_1
       try clear j3_2 j3_3 j3_4
       try clear j2_5 j2_6 j2_0 j2_1 j2_2 j2_3 j2_4
       try clear j1_5 j1_6
       try clear j2_0 j2_1 j2_2 j2_3 j2_4
       try clear j1_5 j1_6
       try clear j2_0 j2_1 j2_2 j2_3 j2_4
       try clear j1_5 j1_6
       try clear j2_0 j2_1
       try clear j1_0 j1_1 j1_2 j1_3 j1_4
       try clear hx1_0
       try clear hx1_1
       try clear hx1_2
       try clear hx1_3
       try clear hx1_4
       try clear hx1_5
       try clear hx1_6
       try clear p3
       try clear p2
       try clear q5
       try clear q2
       try clear q3
       obtain ⟨kq, x1_9, rfl, HA, HJ1, BK1, BK2, BK3, BK4, HB⟩ := hcut; cases kq with
       | zero => exact absurd HA.out (by simp [net_nodes.j1])
       | succ kj1 =>
        have H := HA.out; clear HA; simp only [net_nodes.j1] at H; by_cases c7 : x1_9 = true
        ·subst c7; have H1 : (some false) = some r := by rw [if_pos rfl] at H; exact H
         clear H; have H := H1; clear H1; obtain rfl := Option.some.inj H; go_wp2
         go_ret
         exact ⟨q11z, q25z HB GE1 GE2 GE3 GE4⟩
        ·replace c7 := Bool.eq_false_iff.mpr c7; subst c7; have H1 : ((net_width.f l0_0 l0_1 l0_2 l0_3 l0_4 ((rd_T41 l0_0 x1_1).f2) x1_1).bind fun t3 => ((net_width.f l0_0 l0_1 l0_2 l0_3 l0_4 ((rd_T41 l0_0 x1_1).f3) x1_1).bind fun t4 => ((net_width.f l0_0 l0_1 l0_2 l0_3 l0_4 ((rd_T41 l0_0 x1_1).f4) x1_1).bind fun t5 => ((gosem_cut.f ((rd_T41 l0_0 x1_1).f0) ((rd_T41 l0_0 x1_1).f1) ((rd_T41 l0_0 x1_1).f2) ((rd_T41 l0_0 x1_1).f3) ((rd_T41 l0_0 x1_1).f4) ((rd_T41 l0_0 x1_1).f5) ((rd_T41 l0_0 x1_1).f6) t3 t4 t5 t2).bind fun t6 => (if t6 = true then (net_nodes.l0 kj1 l0_0 (l0_0.length : Int) (wrap64 (x1_1 + 1)) l0_0 l0_1 l0_2 l0_3 l0_4) else (some false)))))) = some r := by rw [if_neg (show ¬ (false = true) by decide)] at H; exact H
         clear H; have H := H1; clear H1; replace H := Option.bind_eq_some_iff.mp H; obtain ⟨t3, A1, H⟩ := H; have A2 := aM A1; clear A1; replace H := Option.bind_eq_some_iff.mp H; obtain ⟨t4, A1, H⟩ := H; have A3 := aM A1; clear A1; replace H := Option.bind_eq_some_iff.mp H; obtain ⟨t5, A1, H⟩ := H; have A4 := aM A1; clear A1; replace H := Option.bind_eq_some_iff.mp H; obtain ⟨t6, A1, H⟩ := H; have A5 := aM A1; clear A1; by_cases c7 : t6 = true
         ·subst c7; have H1 : (net_nodes.l0 kj1 l0_0 (l0_0.length : Int) (wrap64 (x1_1 + 1)) l0_0 l0_1 l0_2 l0_3 l0_4) = some r := by rw [if_pos rfl] at H; exact H
          clear H; have H := H1; clear H1; have H' := aM H; clear H; try go_wp2
          replace BK1 := aM (yc BK1.out); replace BK2 := aM (yc BK2.out); replace BK3 := aM (yc BK3.out); replace BK4 := aM (yc BK4.out); replace HB := aM (yk HB.out); refine start_ (n := 21) (S := fun w' => w'.cell? ⟨gb4, 0, none⟩ = some (.int .i64 t1) ∧ w'.cell? ⟨gb4, 1, none⟩ = some (.func (.func (t2 : Int).toNat) #[] #[]) ∧ w'.cell? ⟨gb3, 0, none⟩ = some (.int .i64 ((rd_T41 l0_0 x1_1).f0)) ∧ w'.cell? ⟨gb3, 1, none⟩ = some (.int .i64 ((rd_T41 l0_0 x1_1).f1)) ∧ w'.cell? ⟨gb3, 2, none⟩ = some (.int .i64 ((rd_T41 l0_0 x1_1).f2)) ∧ w'.cell? ⟨gb3, 3, none⟩ = some (.int .i64 ((rd_T41 l0_0 x1_1).f3)) ∧ w'.cell? ⟨gb3, 4, none⟩ = some (.int .i64 ((rd_T41 l0_0 x1_1).f4)) ∧ w'.cell? ⟨gb3, 5, none⟩ = some (.int .i64 ((rd_T41 l0_0 x1_1).f5)) ∧ w'.cell? ⟨gb3, 6, none⟩ = some (.int .i64 ((rd_T41 l0_0 x1_1).f6)) ∧ w'.cell? ⟨gb1, 0, none⟩ = some (.slice (some ad1) l0_0.length c0_0) ∧ w'.cell? ⟨gb1, 1, none⟩ = some (.slice A0_1 l0_1.length c0_1) ∧ w'.cell? ⟨gb1, 2, none⟩ = some (.slice A0_2 l0_2.length c0_2) ∧ w'.cell? ⟨gb1, 3, none⟩ = some (.slice A0_3 l0_3.length c0_3) ∧ w'.cell? ⟨gb1, 4, none⟩ = some (.slice A0_4 l0_4.length c0_4)) (ds := []) (zb 21 0) (by kernel_rfl) rfl rfl ⟨zc BK4 0, zc BK4 1, zc BK3 0, zc BK3 1, zc BK3 2, zc BK3 3, zc BK3 4, zc BK3 5, zc BK3 6, zc BK1 0, zc BK1 1, zc BK1 2, zc BK1 3, zc BK1 4⟩ (fun hHeld => ?_); refine with_tabW net_nodes.tab9 net_nodes.bits9 (fun HT_ HW_ => ?_); generalize wc.drew = w1 at BK1 BK2 BK3 BK4 HB hHeld ⊢; refine zpu 0 51 (zb 21 1) ?_; refine zpu 4 55 (zb 21 17) ?_; refine zpu 6 57 (zb 21 81) ?_; refine zpu 9 60 (zb 21 593) ?_; refine zpu 11 62 (zb 21 2641) ?_; refine zpu 14 65 (zb 21 19025) ?_; refine zpu 16 67 (zb 21 84561) ?_; refine ztk14 1 52 (zb 21 84563) hHeld ?_; refine ztk14 2 53 (zb 21 84567) hHeld ?_; refine ztk14 3 54 (zb 21 84575) hHeld ?_; refine ztk14 5 56 (zb 21 84607) hHeld ?_; refine ztk14 8 59 (zb 21 84863) hHeld ?_; refine ztk14 10 61 (zb 21 85887) hHeld ?_; refine ztk14 13 64 (zb 21 94079) hHeld ?_; refine ztk14 15 66 (zb 21 126847) hHeld ?_; refine zon 7 (some 58) (zb 21 126975) fun K hK => ?_
          refine zgo Try.func34 #[.agg #[.slice (some ad1) l0_0.length c0_0, .slice A0_1 l0_1.length c0_1, .slice A0_2 l0_2.length c0_2, .slice A0_3 l0_3.length c0_3, .slice A0_4 l0_4.length c0_4], .int .i64 ((rd_T41 l0_0 x1_1).f2), .int .i64 x1_1] ?_; with_reducible refine (net_width.calls _ _ l0_0 _ _ l0_1 _ _ l0_2 _ _ l0_3 _ _ l0_4 ((rd_T41 l0_0 x1_1).f2) x1_1 t3 _ ?side1 ?side2 ?side3 ?side4 ?side5 ?side6 ?side7 ?side8 ?side9 ?side10 A2.out).mono ?_
          (case side1 => exact q1z HR1_0 HB)
          (case side2 => exact HC1_0.out)
          (case side3 => exact q1z HR1_1 HB)
          (case side4 => exact HC1_1.out)
          (case side5 => exact q1z HR1_2 HB)
          (case side6 => exact HC1_2.out)
          (case side7 => exact q1z HR1_3 HB)
          (case side8 => exact HC1_3.out)
          (case side9 => exact q1z HR1_4 HB)
          (case side10 => exact HC1_4.out)
          rintro e w1 ⟨rfl, hb⟩; refine ⟨_, rfl, ?_⟩; replace BK1 := aM (yi (zi BK1) hb); replace BK2 := aM (yi (g := gb2) (o := .map om clk) (zi BK2) hb); replace BK3 := aM (yi (zi BK3) hb); replace BK4 := aM (yi (zi BK4) hb); replace HB := aM (ym (q25z HB GE1 GE2 GE3 GE4) hb); (try clear hb)
          (try clear hb2)
          (try clear hk)
          (try clear hi)
          refine hK.out _ _ ⟨zc BK4 0, zc BK4 1, zc BK3 0, zc BK3 1, zc BK3 2, zc BK3 3, zc BK3 4, zc BK3 5, zc BK3 6, zc BK1 0, zc BK1 1, zc BK1 2, zc BK1 3, zc BK1 4⟩ (fun hHeld => ?_); clear hK K; refine zno 58 ?_; refine zon 12 (some 63) (zb 21 131071) fun K hK => ?_
          refine zgo Try.func34 #[.agg #[.slice (some ad1) l0_0.length c0_0, .slice A0_1 l0_1.length c0_1, .slice A0_2 l0_2.length c0_2, .slice A0_3 l0_3.length c0_3, .slice A0_4 l0_4.length c0_4], .int .i64 ((rd_T41 l0_0 x1_1).f3), .int .i64 x1_1] ?_; with_reducible refine (net_width.calls _ _ l0_0 _ _ l0_1 _ _ l0_2 _ _ l0_3 _ _ l0_4 ((rd_T41 l0_0 x1_1).f3) x1_1 t4 _ ?side1 ?side2 ?side3 ?side4 ?side5 ?side6 ?side7 ?side8 ?side9 ?side10 A3.out).mono ?_
          (case side1 => exact q1z HR1_0 HB)
          (case side2 => exact HC1_0.out)
          (case side3 => exact q1z HR1_1 HB)
          (case side4 => exact HC1_1.out)
          (case side5 => exact q1z HR1_2 HB)
          (case side6 => exact HC1_2.out)
          (case side7 => exact q1z HR1_3 HB)
          (case side8 => exact HC1_3.out)
          (case side9 => exact q1z HR1_4 HB)
          (case side10 => exact HC1_4.out)
          rintro e w1 ⟨rfl, hb⟩; refine ⟨_, rfl, ?_⟩; replace BK1 := aM (yi (zi BK1) hb); replace BK2 := aM (yi (g := gb2) (o := .map om clk) (zi BK2) hb); replace BK3 := aM (yi (zi BK3) hb); replace BK4 := aM (yi (zi BK4) hb); replace HB := aM (ym (q25z HB GE1 GE2 GE3 GE4) hb); (try clear hb)
          (try clear hb2)
          (try clear hk)
          (try clear hi)
          refine hK.out _ _ ⟨zc BK4 0, zc BK4 1, zc BK3 0, zc BK3 1, zc BK3 2, zc BK3 3, zc BK3 4, zc BK3 5, zc BK3 6, zc BK1 0, zc BK1 1, zc BK1 2, zc BK1 3, zc BK1 4⟩ (fun hHeld => ?_); clear hK K; refine zno 63 ?_; refine zon 17 (some 68) (zb 21 262143) fun K hK => ?_
          refine zgo Try.func34 #[.agg #[.slice (some ad1) l0_0.length c0_0, .slice A0_1 l0_1.length c0_1, .slice A0_2 l0_2.length c0_2, .slice A0_3 l0_3.length c0_3, .slice A0_4 l0_4.length c0_4], .int .i64 ((rd_T41 l0_0 x1_1).f4), .int .i64 x1_1] ?_; with_reducible refine (net_width.calls _ _ l0_0 _ _ l0_1 _ _ l0_2 _ _ l0_3 _ _ l0_4 ((rd_T41 l0_0 x1_1).f4) x1_1 t5 _ ?side1 ?side2 ?side3 ?side4 ?side5 ?side6 ?side7 ?side8 ?side9 ?side10 A4.out).mono ?_
          (case side1 => exact q1z HR1_0 HB)
          (case side2 => exact HC1_0.out)
          (case side3 => exact q1z HR1_1 HB)
          (case side4 => exact HC1_1.out)
          (case side5 => exact q1z HR1_2 HB)
          (case side6 => exact HC1_2.out)
          (case side7 => exact q1z HR1_3 HB)
          (case side8 => exact HC1_3.out)
          (case side9 => exact q1z HR1_4 HB)
          (case side10 => exact HC1_4.out)
          rintro e w1 ⟨rfl, hb⟩; refine ⟨_, rfl, ?_⟩; replace BK1 := aM (yi (zi BK1) hb); replace BK2 := aM (yi (g := gb2) (o := .map om clk) (zi BK2) hb); replace BK3 := aM (yi (zi BK3) hb); replace BK4 := aM (yi (zi BK4) hb); replace HB := aM (ym (q25z HB GE1 GE2 GE3 GE4) hb); (try clear hb)
          (try clear hb2)
          (try clear hk)
          (try clear hi)
          refine hK.out _ _ ⟨zc BK4 0, zc BK4 1, zc BK3 0, zc BK3 1, zc BK3 2, zc BK3 3, zc BK3 4, zc BK3 5, zc BK3 6, zc BK1 0, zc BK1 1, zc BK1 2, zc BK1 3, zc BK1 4⟩ (fun hHeld => ?_); clear hK K; refine zno 68 ?_; refine zpu 18 69 (zb 21 524287) ?_; refine zon 19 (some 70) (zb 21 1048575) fun K hK => ?_
          obtain ⟨fn_, hfn_, hnm_, hbd_⟩ := net_fits.fn A5.out; refine net_fits.goes hfn_ hnm_ hbd_ #[.agg #[.int .i64 ((rd_T41 l0_0 x1_1).f0), .int .i64 ((rd_T41 l0_0 x1_1).f1), .int .i64 ((rd_T41 l0_0 x1_1).f2), .int .i64 ((rd_T41 l0_0 x1_1).f3), .int .i64 ((rd_T41 l0_0 x1_1).f4), .int .i64 ((rd_T41 l0_0 x1_1).f5), .int .i64 ((rd_T41 l0_0 x1_1).f6), .int .i64 t3, .int .i64 t4, .int .i64 t5]] (by rfl) rfl rfl (by rfl) q93z ?_; with_reducible refine (gosem_cut.calls ((rd_T41 l0_0 x1_1).f0) ((rd_T41 l0_0 x1_1).f1) ((rd_T41 l0_0 x1_1).f2) ((rd_T41 l0_0 x1_1).f3) ((rd_T41 l0_0 x1_1).f4) ((rd_T41 l0_0 x1_1).f5) ((rd_T41 l0_0 x1_1).f6) t3 t4 t5 t2 true _ A5.out).mono ?_
          rintro e w1 ⟨rfl, hb⟩; refine ⟨_, rfl, ?_⟩; replace BK1 := aM (yi (zi BK1) hb); replace BK2 := aM (yi (g := gb2) (o := .map om clk) (zi BK2) hb); replace BK3 := aM (yi (zi BK3) hb); replace BK4 := aM (yi (zi BK4) hb); replace HB := aM (ym (q25z HB GE1 GE2 GE3 GE4) hb); (try clear hb)
          (try clear hb2)
          (try clear hk)
          (try clear hi)
          refine hK.out _ _ ⟨zc BK4 0, zc BK4 1, zc BK3 0, zc BK3 1, zc BK3 2, zc BK3 3, zc BK3 4, zc BK3 5, zc BK3 6, zc BK1 0, zc BK1 1, zc BK1 2, zc BK1 3, zc BK1 4⟩ (fun hHeld => ?_); clear hK K; refine zno 70 ?_; refine zpu 20 71 (zb 21 2097151) ?_; refine zdo ?_; try go_wp2
          go_roundg kj1
          case measure => have := HK1.out; have := HJ1.out; omega
          case rel => exact ⟨(wrap64 (x1_1 + 1)), q13z, H', ⟨q92z HK1 HJ1⟩, ⟨q10z BK1⟩, ⟨q10z BK2⟩, ⟨q25z HB GE1 GE2 GE3 GE4⟩⟩
         ·replace c7 := Bool.eq_false_iff.mpr c7; subst c7; have H1 : (some false) = some r := by rw [if_neg (show ¬ (false = true) by decide)] at H; exact H
          clear H; have H := H1; clear H1; obtain rfl := Option.some.inj H; try go_wp2
          replace BK1 := aM (yc BK1.out); replace BK2 := aM (yc BK2.out); replace BK3 := aM (yc BK3.out); replace BK4 := aM (yc BK4.out); replace HB := aM (yk HB.out); refine start_ (n := 21) (S := fun w' => w'.cell? ⟨gb4, 0, none⟩ = some (.int .i64 t1) ∧ w'.cell? ⟨gb4, 1, none⟩ = some (.func (.func (t2 : Int).toNat) #[] #[]) ∧ w'.cell? ⟨gb3, 0, none⟩ = some (.int .i64 ((rd_T41 l0_0 x1_1).f0)) ∧ w'.cell? ⟨gb3, 1, none⟩ = some (.int .i64 ((rd_T41 l0_0 x1_1).f1)) ∧ w'.cell? ⟨gb3, 2, none⟩ = some (.int .i64 ((rd_T41 l0_0 x1_1).f2)) ∧ w'.cell? ⟨gb3, 3, none⟩ = some (.int .i64 ((rd_T41 l0_0 x1_1).f3)) ∧ w'.cell? ⟨gb3, 4, none⟩ = some (.int .i64 ((rd_T41 l0_0 x1_1).f4)) ∧ w'.cell? ⟨gb3, 5, none⟩ = some (.int .i64 ((rd_T41 l0_0 x1_1).f5)) ∧ w'.cell? ⟨gb3, 6, none⟩ = some (.int .i64 ((rd_T41 l0_0 x1_1).f6)) ∧ w'.cell? ⟨gb1, 0, none⟩ = some (.slice (some ad1) l0_0.length c0_0) ∧ w'.cell? ⟨gb1, 1, none⟩ = some (.slice A0_1 l0_1.length c0_1) ∧ w'.cell? ⟨gb1, 2, none⟩ = some (.slice A0_2 l0_2.length c0_2) ∧ w'.cell? ⟨gb1, 3, none⟩ = some (.slice A0_3 l0_3.length c0_3) ∧ w'.cell? ⟨gb1, 4, none⟩ = some (.slice A0_4 l0_4.length c0_4)) (ds := []) (zb 21 0) (by kernel_rfl) rfl rfl ⟨zc BK4 0, zc BK4 1, zc BK3 0, zc BK3 1, zc BK3 2, zc BK3 3, zc BK3 4, zc BK3 5, zc BK3 6, zc BK1 0, zc BK1 1, zc BK1 2, zc BK1 3, zc BK1 4⟩ (fun hHeld => ?_); refine with_tabW net_nodes.tab9 net_nodes.bits9 (fun HT_ HW_ => ?_); generalize wc.drew = w1 at BK1 BK2 BK3 BK4 HB hHeld ⊢; refine zpu 0 51 (zb 21 1) ?_; refine zpu 4 55 (zb 21 17) ?_; refine zpu 6 57 (zb 21 81) ?_; refine zpu 9 60 (zb 21 593) ?_; refine zpu 11 62 (zb 21 2641) ?_; refine zpu 14 65 (zb 21 19025) ?_; refine zpu 16 67 (zb 21 84561) ?_; refine ztk14 1 52 (zb 21 84563) hHeld ?_; refine ztk14 2 53 (zb 21 84567) hHeld ?_; refine ztk14 3 54 (zb 21 84575) hHeld ?_; refine ztk14 5 56 (zb 21 84607) hHeld ?_; refine ztk14 8 59 (zb 21 84863) hHeld ?_; refine ztk14 10 61 (zb 21 85887) hHeld ?_; refine ztk14 13 64 (zb 21 94079) hHeld ?_; refine ztk14 15 66 (zb 21 126847) hHeld ?_; refine zon 7 (some 58) (zb 21 126975) fun K hK => ?_
          refine zgo Try.func34 #[.agg #[.slice (some ad1) l0_0.length c0_0, .slice A0_1 l0_1.length c0_1, .slice A0_2 l0_2.length c0_2, .slice A0_3 l0_3.length c0_3, .slice A0_4 l0_4.length c0_4], .int .i64 ((rd_T41 l0_0 x1_1).f2), .int .i64 x1_1] ?_; with_reducible refine (net_width.calls _ _ l0_0 _ _ l0_1 _ _ l0_2 _ _ l0_3 _ _ l0_4 ((rd_T41 l0_0 x1_1).f2) x1_1 t3 _ ?side1 ?side2 ?side3 ?side4 ?side5 ?side6 ?side7 ?side8 ?side9 ?side10 A2.out).mono ?_
          (case side1 => exact q1z HR1_0 HB)
          (case side2 => exact HC1_0.out)
          (case side3 => exact q1z HR1_1 HB)
          (case side4 => exact HC1_1.out)
          (case side5 => exact q1z HR1_2 HB)
          (case side6 => exact HC1_2.out)
          (case side7 => exact q1z HR1_3 HB)
          (case side8 => exact HC1_3.out)
          (case side9 => exact q1z HR1_4 HB)
          (case side10 => exact HC1_4.out)
          rintro e w1 ⟨rfl, hb⟩; refine ⟨_, rfl, ?_⟩; replace BK1 := aM (yi (zi BK1) hb); replace BK2 := aM (yi (g := gb2) (o := .map om clk) (zi BK2) hb); replace BK3 := aM (yi (zi BK3) hb); replace BK4 := aM (yi (zi BK4) hb); replace HB := aM (ym (q25z HB GE1 GE2 GE3 GE4) hb); (try clear hb)
          (try clear hb2)
          (try clear hk)
          (try clear hi)
          refine hK.out _ _ ⟨zc BK4 0, zc BK4 1, zc BK3 0, zc BK3 1, zc BK3 2, zc BK3 3, zc BK3 4, zc BK3 5, zc BK3 6, zc BK1 0, zc BK1 1, zc BK1 2, zc BK1 3, zc BK1 4⟩ (fun hHeld => ?_); clear hK K; refine zno 58 ?_; refine zon 12 (some 63) (zb 21 131071) fun K hK => ?_
          refine zgo Try.func34 #[.agg #[.slice (some ad1) l0_0.length c0_0, .slice A0_1 l0_1.length c0_1, .slice A0_2 l0_2.length c0_2, .slice A0_3 l0_3.length c0_3, .slice A0_4 l0_4.length c0_4], .int .i64 ((rd_T41 l0_0 x1_1).f3), .int .i64 x1_1] ?_; with_reducible refine (net_width.calls _ _ l0_0 _ _ l0_1 _ _ l0_2 _ _ l0_3 _ _ l0_4 ((rd_T41 l0_0 x1_1).f3) x1_1 t4 _ ?side1 ?side2 ?side3 ?side4 ?side5 ?side6 ?side7 ?side8 ?side9 ?side10 A3.out).mono ?_
          (case side1 => exact q1z HR1_0 HB)
          (case side2 => exact HC1_0.out)
          (case side3 => exact q1z HR1_1 HB)
          (case side4 => exact HC1_1.out)
          (case side5 => exact q1z HR1_2 HB)
          (case side6 => exact HC1_2.out)
          (case side7 => exact q1z HR1_3 HB)
          (case side8 => exact HC1_3.out)
          (case side9 => exact q1z HR1_4 HB)
          (case side10 => exact HC1_4.out)
          rintro e w1 ⟨rfl, hb⟩; refine ⟨_, rfl, ?_⟩; replace BK1 := aM (yi (zi BK1) hb); replace BK2 := aM (yi (g := gb2) (o := .map om clk) (zi BK2) hb); replace BK3 := aM (yi (zi BK3) hb); replace BK4 := aM (yi (zi BK4) hb); replace HB := aM (ym (q25z HB GE1 GE2 GE3 GE4) hb); (try clear hb)
          (try clear hb2)
          (try clear hk)
          (try clear hi)
          refine hK.out _ _ ⟨zc BK4 0, zc BK4 1, zc BK3 0, zc BK3 1, zc BK3 2, zc BK3 3, zc BK3 4, zc BK3 5, zc BK3 6, zc BK1 0, zc BK1 1, zc BK1 2, zc BK1 3, zc BK1 4⟩ (fun hHeld => ?_); clear hK K; refine zno 63 ?_; refine zon 17 (some 68) (zb 21 262143) fun K hK => ?_
          refine zgo Try.func34 #[.agg #[.slice (some ad1) l0_0.length c0_0, .slice A0_1 l0_1.length c0_1, .slice A0_2 l0_2.length c0_2, .slice A0_3 l0_3.length c0_3, .slice A0_4 l0_4.length c0_4], .int .i64 ((rd_T41 l0_0 x1_1).f4), .int .i64 x1_1] ?_; with_reducible refine (net_width.calls _ _ l0_0 _ _ l0_1 _ _ l0_2 _ _ l0_3 _ _ l0_4 ((rd_T41 l0_0 x1_1).f4) x1_1 t5 _ ?side1 ?side2 ?side3 ?side4 ?side5 ?side6 ?side7 ?side8 ?side9 ?side10 A4.out).mono ?_
          (case side1 => exact q1z HR1_0 HB)
          (case side2 => exact HC1_0.out)
          (case side3 => exact q1z HR1_1 HB)
          (case side4 => exact HC1_1.out)
          (case side5 => exact q1z HR1_2 HB)
          (case side6 => exact HC1_2.out)
          (case side7 => exact q1z HR1_3 HB)
          (case side8 => exact HC1_3.out)
          (case side9 => exact q1z HR1_4 HB)
          (case side10 => exact HC1_4.out)
          rintro e w1 ⟨rfl, hb⟩; refine ⟨_, rfl, ?_⟩; replace BK1 := aM (yi (zi BK1) hb); replace BK2 := aM (yi (g := gb2) (o := .map om clk) (zi BK2) hb); replace BK3 := aM (yi (zi BK3) hb); replace BK4 := aM (yi (zi BK4) hb); replace HB := aM (ym (q25z HB GE1 GE2 GE3 GE4) hb); (try clear hb)
          (try clear hb2)
          (try clear hk)
          (try clear hi)
          refine hK.out _ _ ⟨zc BK4 0, zc BK4 1, zc BK3 0, zc BK3 1, zc BK3 2, zc BK3 3, zc BK3 4, zc BK3 5, zc BK3 6, zc BK1 0, zc BK1 1, zc BK1 2, zc BK1 3, zc BK1 4⟩ (fun hHeld => ?_); clear hK K; refine zno 68 ?_; refine zpu 18 69 (zb 21 524287) ?_; refine zon 19 (some 70) (zb 21 1048575) fun K hK => ?_
          obtain ⟨fn_, hfn_, hnm_, hbd_⟩ := net_fits.fn A5.out; refine net_fits.goes hfn_ hnm_ hbd_ #[.agg #[.int .i64 ((rd_T41 l0_0 x1_1).f0), .int .i64 ((rd_T41 l0_0 x1_1).f1), .int .i64 ((rd_T41 l0_0 x1_1).f2), .int .i64 ((rd_T41 l0_0 x1_1).f3), .int .i64 ((rd_T41 l0_0 x1_1).f4), .int .i64 ((rd_T41 l0_0 x1_1).f5), .int .i64 ((rd_T41 l0_0 x1_1).f6), .int .i64 t3, .int .i64 t4, .int .i64 t5]] (by rfl) rfl rfl (by rfl) q93z ?_; with_reducible refine (gosem_cut.calls ((rd_T41 l0_0 x1_1).f0) ((rd_T41 l0_0 x1_1).f1) ((rd_T41 l0_0 x1_1).f2) ((rd_T41 l0_0 x1_1).f3) ((rd_T41 l0_0 x1_1).f4) ((rd_T41 l0_0 x1_1).f5) ((rd_T41 l0_0 x1_1).f6) t3 t4 t5 t2 false _ A5.out).mono ?_
          rintro e w1 ⟨rfl, hb⟩; refine ⟨_, rfl, ?_⟩; replace BK1 := aM (yi (zi BK1) hb); replace BK2 := aM (yi (g := gb2) (o := .map om clk) (zi BK2) hb); replace BK3 := aM (yi (zi BK3) hb); replace BK4 := aM (yi (zi BK4) hb); replace HB := aM (ym (q25z HB GE1 GE2 GE3 GE4) hb); (try clear hb)
          (try clear hb2)
          (try clear hk)
          (try clear hi)
          refine hK.out _ _ ⟨zc BK4 0, zc BK4 1, zc BK3 0, zc BK3 1, zc BK3 2, zc BK3 3, zc BK3 4, zc BK3 5, zc BK3 6, zc BK1 0, zc BK1 1, zc BK1 2, zc BK1 3, zc BK1 4⟩ (fun hHeld => ?_); clear hK K; refine zno 70 ?_; refine zpu 20 71 (zb 21 2097151) ?_; refine zdo ?_; try go_wp2
          go_ret
          exact ⟨q11z, q25z HB GE1 GE2 GE3 GE4⟩
     ·rw [if_neg c6] at H; exact absurd H (by simp)
    ·rw [if_neg c5] at H; exact absurd H (by simp)
   ·rw [if_neg c1] at H; have c1b0 : decide (x1_1 < (l0_0.length : Int)) = false := decide_eq_false c1; clear c1; obtain rfl := Option.some.inj H; go_wp2
    go_ret
    exact ⟨q11z, q5z HB GE1 GE2⟩
end Go.Proofs.Yteblbknmikieoaa.Xb
