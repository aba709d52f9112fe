/- Slimmed by this session: what nothing names is struck out. -/
import Derived.Test.YteblbknmikieoaaXb0
import Derived.Test.YteblbknmikieoaaXbZ
import Derived.Test.YteblbknmikieoaaXbK1
import Derived.Test.YteblbknmikieoaaXbK3
namespace Go.Proofs.Yteblbknmikieoaa.Xb
open Go.RowKit Go.Proofs.YteblbknmikieoaaW.PrintWords Go.Proofs.YteblbknmikieoaaW.PrintLast Go.Proofs.YteblbknmikieoaaW.PrintMore
set_option maxHeartbeats 8000000
set_option maxRecDepth 100000
set_option linter.unusedVariables false
set_option linter.unusedSimpArgs false
attribute [local go_sem high] eqA41 eqA43 eqA47 eqA61
mutual
def r9_Same.j0 : Nat → Bool → List (S41) → List (S47) → List (S43) → List (S61) → List (S47) → List (S41) → List (S47) → List (S43) → List (S61) → List (S47) → Option (Bool)
 | 0, _, _, _, _, _, _, _, _, _, _, _ => none
 | k + 1, x52, x394000, x394001, x394002, x394003, x394004, x395000, x395001, x395002, x395003, x395004 => if x52 = true then (some false) else (r9_Same.l0 k 0 x394000 x394001 x394002 x394003 x394004 x395000 x395001 x395002 x395003 x395004)
def r9_Same.l0 : Nat → Int → List (S41) → List (S47) → List (S43) → List (S61) → List (S47) → List (S41) → List (S47) → List (S43) → List (S61) → List (S47) → Option (Bool)
 | 0, _, _, _, _, _, _, _, _, _, _, _ => none
 | k + 1, x5, x394000, x394001, x394002, x394003, x394004, x395000, x395001, x395002, x395003, x395004 => if x5 < (x394000.length : Int) then (if 0 ≤ x5 then (if x5 < (x395000.length : Int) then (if (!(((rd_T41 x394000 x5).f0) == ((rd_T41 x395000 x5).f0)) || (!(((rd_T41 x394000 x5).f1) == ((rd_T41 x395000 x5).f1)) || (!(((rd_T41 x394000 x5).f2) == ((rd_T41 x395000 x5).f2)) || (!(((rd_T41 x394000 x5).f3) == ((rd_T41 x395000 x5).f3)) || (!(((rd_T41 x394000 x5).f4) == ((rd_T41 x395000 x5).f4)) || (!(((rd_T41 x394000 x5).f5) == ((rd_T41 x395000 x5).f5)) || (!(((rd_T41 x394000 x5).f6) == ((rd_T41 x395000 x5).f6))))))))) = true then (some false) else (r9_Same.l0 k (wrap64 (x5 + 1)) x394000 x394001 x394002 x394003 x394004 x395000 x395001 x395002 x395003 x395004)) else (none)) else (none)) else (r9_Same.l1 k 0 x394000 x394001 x394002 x394003 x394004 x395000 x395001 x395002 x395003 x395004)
def r9_Same.l1 : Nat → Int → List (S41) → List (S47) → List (S43) → List (S61) → List (S47) → List (S41) → List (S47) → List (S43) → List (S61) → List (S47) → Option (Bool)
 | 0, _, _, _, _, _, _, _, _, _, _, _ => none
 | k + 1, x6, x394000, x394001, x394002, x394003, x394004, x395000, x395001, x395002, x395003, x395004 => if x6 < (x394001.length : Int) then (if 0 ≤ x6 then (if x6 < (x395001.length : Int) then (if (!((((rd_T47 x394001 x6).f0).toList) == (((rd_T47 x395001 x6).f0).toList)) || (!(((rd_T47 x394001 x6).f1) == ((rd_T47 x395001 x6).f1)))) = true then (some false) else (r9_Same.l1 k (wrap64 (x6 + 1)) x394000 x394001 x394002 x394003 x394004 x395000 x395001 x395002 x395003 x395004)) else (none)) else (none)) else (r9_Same.l2 k 0 x394000 x394001 x394002 x394003 x394004 x395000 x395001 x395002 x395003 x395004)
def r9_Same.l2 : Nat → Int → List (S41) → List (S47) → List (S43) → List (S61) → List (S47) → List (S41) → List (S47) → List (S43) → List (S61) → List (S47) → Option (Bool)
 | 0, _, _, _, _, _, _, _, _, _, _, _ => none
 | k + 1, x7, x394000, x394001, x394002, x394003, x394004, x395000, x395001, x395002, x395003, x395004 => if x7 < (x394002.length : Int) then (if 0 ≤ x7 then (if x7 < (x395002.length : Int) then (if (!((((rd_T43 x394002 x7).f0).toList) == (((rd_T43 x395002 x7).f0).toList)) || (!(((rd_T43 x394002 x7).f1) == ((rd_T43 x395002 x7).f1)) || (!(((rd_T43 x394002 x7).f2) == ((rd_T43 x395002 x7).f2)) || (!(((rd_T43 x394002 x7).f3) == ((rd_T43 x395002 x7).f3)))))) = true then (some false) else (r9_Same.l2 k (wrap64 (x7 + 1)) x394000 x394001 x394002 x394003 x394004 x395000 x395001 x395002 x395003 x395004)) else (none)) else (none)) else (r9_Same.l3 k 0 x394000 x394001 x394002 x394003 x394004 x395000 x395001 x395002 x395003 x395004)
def r9_Same.l3 : Nat → Int → List (S41) → List (S47) → List (S43) → List (S61) → List (S47) → List (S41) → List (S47) → List (S43) → List (S61) → List (S47) → Option (Bool)
 | 0, _, _, _, _, _, _, _, _, _, _, _ => none
 | k + 1, x8, x394000, x394001, x394002, x394003, x394004, x395000, x395001, x395002, x395003, x395004 => if x8 < (x394003.length : Int) then (if 0 ≤ x8 then (if x8 < (x395003.length : Int) then (if (!(((rd_T61 x394003 x8).f0) == ((rd_T61 x395003 x8).f0)) || (!((((rd_T61 x394003 x8).f1).toList) == (((rd_T61 x395003 x8).f1).toList)) || (!(((rd_T61 x394003 x8).f2) == ((rd_T61 x395003 x8).f2))))) = true then (some false) else (r9_Same.l3 k (wrap64 (x8 + 1)) x394000 x394001 x394002 x394003 x394004 x395000 x395001 x395002 x395003 x395004)) else (none)) else (none)) else (r9_Same.l4 k 0 x394000 x394001 x394002 x394003 x394004 x395000 x395001 x395002 x395003 x395004)
def r9_Same.l4 : Nat → Int → List (S41) → List (S47) → List (S43) → List (S61) → List (S47) → List (S41) → List (S47) → List (S43) → List (S61) → List (S47) → Option (Bool)
 | 0, _, _, _, _, _, _, _, _, _, _, _ => none
 | k + 1, x9, x394000, x394001, x394002, x394003, x394004, x395000, x395001, x395002, x395003, x395004 => if x9 < (x394004.length : Int) then (if 0 ≤ x9 then (if x9 < (x395004.length : Int) then (if (!((((rd_T47 x394004 x9).f0).toList) == (((rd_T47 x395004 x9).f0).toList)) || (!(((rd_T47 x394004 x9).f1) == ((rd_T47 x395004 x9).f1)))) = true then (some false) else (r9_Same.l4 k (wrap64 (x9 + 1)) x394000 x394001 x394002 x394003 x394004 x395000 x395001 x395002 x395003 x395004)) else (none)) else (none)) else (some true)
end
def r9_Same.f (k : Nat) (l0_0 : List (S41)) (l0_1 : List (S47)) (l0_2 : List (S43)) (l0_3 : List (S61)) (l0_4 : List (S47)) (l1_0 : List (S41)) (l1_1 : List (S47)) (l1_2 : List (S43)) (l1_3 : List (S61)) (l1_4 : List (S47)) : Option (Bool) := if (l0_0.length : Int) = (l1_0.length : Int) then (if (l0_1.length : Int) = (l1_1.length : Int) then (if (l0_2.length : Int) = (l1_2.length : Int) then (if (l0_3.length : Int) = (l1_3.length : Int) then (r9_Same.j0 k ((l0_4.length : Int) != (l1_4.length : Int)) l0_0 l0_1 l0_2 l0_3 l0_4 l1_0 l1_1 l1_2 l1_3 l1_4) else (r9_Same.j0 k true l0_0 l0_1 l0_2 l0_3 l0_4 l1_0 l1_1 l1_2 l1_3 l1_4)) else (r9_Same.j0 k true l0_0 l0_1 l0_2 l0_3 l0_4 l1_0 l1_1 l1_2 l1_3 l1_4)) else (r9_Same.j0 k true l0_0 l0_1 l0_2 l0_3 l0_4 l1_0 l1_1 l1_2 l1_3 l1_4)) else (r9_Same.j0 k true l0_0 l0_1 l0_2 l0_3 l0_4 l1_0 l1_1 l1_2 l1_3 l1_4)
theorem r9_Same.mono_l : ∀ k, (∀ y0 y1 y2 y3 y4 y5 y6 y7 y8 y9 y10, LeO (r9_Same.j0 k y0 y1 y2 y3 y4 y5 y6 y7 y8 y9 y10) (r9_Same.j0 (k + 1) y0 y1 y2 y3 y4 y5 y6 y7 y8 y9 y10)) ∧ (∀ y0 y1 y2 y3 y4 y5 y6 y7 y8 y9 y10, LeO (r9_Same.l0 k y0 y1 y2 y3 y4 y5 y6 y7 y8 y9 y10) (r9_Same.l0 (k + 1) y0 y1 y2 y3 y4 y5 y6 y7 y8 y9 y10)) ∧ (∀ y0 y1 y2 y3 y4 y5 y6 y7 y8 y9 y10, LeO (r9_Same.l1 k y0 y1 y2 y3 y4 y5 y6 y7 y8 y9 y10) (r9_Same.l1 (k + 1) y0 y1 y2 y3 y4 y5 y6 y7 y8 y9 y10)) ∧ (∀ y0 y1 y2 y3 y4 y5 y6 y7 y8 y9 y10, LeO (r9_Same.l2 k y0 y1 y2 y3 y4 y5 y6 y7 y8 y9 y10) (r9_Same.l2 (k + 1) y0 y1 y2 y3 y4 y5 y6 y7 y8 y9 y10)) ∧ (∀ y0 y1 y2 y3 y4 y5 y6 y7 y8 y9 y10, LeO (r9_Same.l3 k y0 y1 y2 y3 y4 y5 y6 y7 y8 y9 y10) (r9_Same.l3 (k + 1) y0 y1 y2 y3 y4 y5 y6 y7 y8 y9 y10)) ∧ (∀ y0 y1 y2 y3 y4 y5 y6 y7 y8 y9 y10, LeO (r9_Same.l4 k y0 y1 y2 y3 y4 y5 y6 y7 y8 y9 y10) (r9_Same.l4 (k + 1) y0 y1 y2 y3 y4 y5 y6 y7 y8 y9 y10))
 | 0 => ⟨fun _ _ _ _ _ _ _ _ _ _ _ r h => by simp [r9_Same.j0] at h, fun _ _ _ _ _ _ _ _ _ _ _ r h => by simp [r9_Same.l0] at h, fun _ _ _ _ _ _ _ _ _ _ _ r h => by simp [r9_Same.l1] at h, fun _ _ _ _ _ _ _ _ _ _ _ r h => by simp [r9_Same.l2] at h, fun _ _ _ _ _ _ _ _ _ _ _ r h => by simp [r9_Same.l3] at h, fun _ _ _ _ _ _ _ _ _ _ _ r h => by simp [r9_Same.l4] at h⟩
 | k + 1 => by
  obtain ⟨ih0, ih1, ih2, ih3, ih4, ih5⟩ := r9_Same.mono_l k; refine ⟨?_, ?_, ?_, ?_, ?_, ?_⟩ <;> intros <;> (first | unfold r9_Same.j0 | unfold r9_Same.l0 | unfold r9_Same.l1 | unfold r9_Same.l2 | unfold r9_Same.l3 | unfold r9_Same.l4) <;> repeat' first | (with_reducible first | apply ih0 | apply ih1 | apply ih2 | apply ih3 | apply ih4 | apply ih5 | exact LeO.refl _ | exact LeO.none _ | refine LeO.ite ?_ ?_ | refine LeO.bind ?_ (fun _ => ?_)) | exact LeO.none _ | refine LeO.ite ?_ ?_ | refine LeO.bind ?_ (fun _ => ?_)
theorem r9_Same.mono : ∀ a0 a1 a2 a3 a4 a5 a6 a7 a8 a9 k, LeO (r9_Same.f k a0 a1 a2 a3 a4 a5 a6 a7 a8 a9) (r9_Same.f (k + 1) a0 a1 a2 a3 a4 a5 a6 a7 a8 a9) := by
 intro a0 a1 a2 a3 a4 a5 a6 a7 a8 a9 k
 obtain ⟨ih1, ih2, ih3, ih4, ih5, ih6⟩ := r9_Same.mono_l k; unfold r9_Same.f
 repeat' first | (with_reducible first | apply ih1 | apply ih2 | apply ih3 | apply ih4 | apply ih5 | apply ih6 | exact LeO.refl _ | exact LeO.none _ | refine LeO.ite ?_ ?_ | refine LeO.bind ?_ (fun _ => ?_)) | exact LeO.none _ | refine LeO.ite ?_ ?_ | refine LeO.bind ?_ (fun _ => ?_)
theorem z75_1 {P : Prop} (h : P := by
 have H' := aM H; clear H; have hnb1 := NB1_394.out; have hnc1 := NB1_393.out; obtain ⟨i1_0, i1_1, i1_2, i1_3, i1_4, j1_0, j1_1, j1_2, j1_3, j1_4⟩ := cells5 BK1.out; obtain ⟨i1_0, i1_1, i1_2, i1_3, i1_4, j1_0, j1_1, j1_2, j1_3, j1_4⟩ := cells5 BK2.out; go_wp2
 repeat (go_quiet (fail); try go_wp2)
 go_meet
 case rel => exact ⟨_, (true), q13z, H', ⟨q52z⟩, ⟨q10z BK1⟩, ⟨q10z BK2⟩, ⟨q3z HB GE1 GE2⟩⟩) : P := h
theorem z75_2 {P : Prop} (h : P := by
 go_wp2
 repeat (go_quiet (fail); try go_wp2)
 go_ret
 exact ⟨q11z, q3z HB GE1 GE2⟩) : P := h
theorem r9_Same.calls (k : Nat) (A0_0 : Option Addr) (c0_0 : Nat) (l0_0 : List (S41)) (A0_1 : Option Addr) (c0_1 : Nat) (l0_1 : List (S47)) (A0_2 : Option Addr) (c0_2 : Nat) (l0_2 : List (S43)) (A0_3 : Option Addr) (c0_3 : Nat) (l0_3 : List (S61)) (A0_4 : Option Addr) (c0_4 : Nat) (l0_4 : List (S47)) (A1_0 : Option Addr) (c1_0 : Nat) (l1_0 : List (S41)) (A1_1 : Option Addr) (c1_1 : Nat) (l1_1 : List (S47)) (A1_2 : Option Addr) (c1_2 : Nat) (l1_2 : List (S43)) (A1_3 : Option Addr) (c1_3 : Nat) (l1_3 : List (S61)) (A1_4 : Option Addr) (c1_4 : Nat) (l1_4 : List (S47)) (r : Bool) (w : World) (hr0_0 : Kd.C k41 w A0_0 l0_0.length l0_0) (hc0_0 : l0_0.length ≤ c0_0) (hr0_1 : Kd.C k47 w A0_1 l0_1.length l0_1) (hc0_1 : l0_1.length ≤ c0_1) (hr0_2 : Kd.C k43 w A0_2 l0_2.length l0_2) (hc0_2 : l0_2.length ≤ c0_2) (hr0_3 : Kd.C k61 w A0_3 l0_3.length l0_3) (hc0_3 : l0_3.length ≤ c0_3) (hr0_4 : Kd.C k47 w A0_4 l0_4.length l0_4) (hc0_4 : l0_4.length ≤ c0_4) (hr1_0 : Kd.C k41 w A1_0 l1_0.length l1_0) (hc1_0 : l1_0.length ≤ c1_0) (hr1_1 : Kd.C k47 w A1_1 l1_1.length l1_1) (hc1_1 : l1_1.length ≤ c1_1) (hr1_2 : Kd.C k43 w A1_2 l1_2.length l1_2) (hc1_2 : l1_2.length ≤ c1_2) (hr1_3 : Kd.C k61 w A1_3 l1_3.length l1_3) (hc1_3 : l1_3.length ≤ c1_3) (hr1_4 : Kd.C k47 w A1_4 l1_4.length l1_4) (hc1_4 : l1_4.length ≤ c1_4) (h : r9_Same.f k l0_0 l0_1 l0_2 l0_3 l0_4 l1_0 l1_1 l1_2 l1_3 l1_4 = some r) :
  Calls Try.prog 15 #[.agg #[.slice A0_0 l0_0.length c0_0, .slice A0_1 l0_1.length c0_1, .slice A0_2 l0_2.length c0_2, .slice A0_3 l0_3.length c0_3, .slice A0_4 l0_4.length c0_4], .agg #[.slice A1_0 l1_0.length c1_0, .slice A1_1 l1_1.length c1_1, .slice A1_2 l1_2.length c1_2, .slice A1_3 l1_3.length c1_3, .slice A1_4 l1_4.length c1_4]] w fun e w' => e = .returned (.bool r) ∧ Below w.heap.size w w' := by
 have hu1 := Try.underlying27; have hu1 := Try.underlying41; have hu1 := Try.underlying47; have hu1 := Try.underlying43; have hu1 := Try.underlying61; have HR1_0 := aM hr0_0; have HC1_0 := aM hc0_0; clear hr0_0 hc0_0; have HR1_1 := aM hr0_1; have HC1_1 := aM hc0_1; clear hr0_1 hc0_1; have HR1_2 := aM hr0_2; have HC1_2 := aM hc0_2; clear hr0_2 hc0_2; have HR1_3 := aM hr0_3; have HC1_3 := aM hc0_3; clear hr0_3 hc0_3; have HR1_4 := aM hr0_4; have HC1_4 := aM hc0_4; clear hr0_4 hc0_4; have HR2_0 := aM hr1_0; have HC1_0 := aM hc1_0; clear hr1_0 hc1_0; have HR2_1 := aM hr1_1; have HC1_1 := aM hc1_1; clear hr1_1 hc1_1; have HR2_2 := aM hr1_2; have HC1_2 := aM hc1_2; clear hr1_2 hc1_2; have HR2_3 := aM hr1_3; have HC1_3 := aM hc1_3; clear hr1_3 hc1_3; have HR2_4 := aM hr1_4; have HC1_4 := aM hc1_4; clear hr1_4 hc1_4; have HB := aM (Below.refl w.heap.size w); have H : (if (l0_0.length : Int) = (l1_0.length : Int) then (if (l0_1.length : Int) = (l1_1.length : Int) then (if (l0_2.length : Int) = (l1_2.length : Int) then (if (l0_3.length : Int) = (l1_3.length : Int) then (r9_Same.j0 k ((l0_4.length : Int) != (l1_4.length : Int)) l0_0 l0_1 l0_2 l0_3 l0_4 l1_0 l1_1 l1_2 l1_3 l1_4) else (r9_Same.j0 k true l0_0 l0_1 l0_2 l0_3 l0_4 l1_0 l1_1 l1_2 l1_3 l1_4)) else (r9_Same.j0 k true l0_0 l0_1 l0_2 l0_3 l0_4 l1_0 l1_1 l1_2 l1_3 l1_4)) else (r9_Same.j0 k true l0_0 l0_1 l0_2 l0_3 l0_4 l1_0 l1_1 l1_2 l1_3 l1_4)) else (r9_Same.j0 k true l0_0 l0_1 l0_2 l0_3 l0_4 l1_0 l1_1 l1_2 l1_3 l1_4)) = some r := h; clear h; have HC1 := aM H; clear H; go_enter Try.func15, Try.ntmps15
 go_upto_region 1 with (first | ((with_reducible refine gate_dst (N := 2) rfl ?_); (try (refine gate_guard (by rfl) ?_; dsimp only)); refine box_event ?hg (N := 2) ?hd (cs := #[.slice A0_0 l0_0.length c0_0, .slice A0_1 l0_1.length c0_1, .slice A0_2 l0_2.length c0_2, .slice A0_3 l0_3.length c0_3, .slice A0_4 l0_4.length c0_4]) (t := 27) ?hr ?_; (case hd => rfl); (case hg => rfl); (case hr => exact q30z); intro gb1 hg w1 hbox hb; have BK1 := aM (hbox); have GW1 := aM ((q7z HB : w.heap.size ≤ gb1)); have GE1 := aM ((q7z HB : w.heap.size ≤ gb1)); replace HB := aM (ym (q5z HB) hb); clear hb hbox hg) | ((with_reducible refine gate_dst (N := 3) rfl ?_); (try (refine gate_guard (by rfl) ?_; dsimp only)); refine box_event ?hg (N := 3) ?hd (cs := #[.slice A1_0 l1_0.length c1_0, .slice A1_1 l1_1.length c1_1, .slice A1_2 l1_2.length c1_2, .slice A1_3 l1_3.length c1_3, .slice A1_4 l1_4.length c1_4]) (t := 27) ?hr ?_; (case hd => rfl); (case hg => rfl); (case hr => exact q30z); intro gb2 hg w2 hbox hb; have BK2 := aM (hbox); have GW2 := aM ((q12z HB GE1 : w.heap.size ≤ gb2)); have GE2 := aM ((q12z HB GE1 : w.heap.size ≤ gb2)); replace HB := aM (ym (q4z HB GE1) hb); have NB1_394 := aM ((q34z BK1 : gb1 ≠ gb2)); have NB1_393 := aM ((q35z BK1 : gb2 ≠ gb1)); replace BK1 := aM (yi (zi BK1) hb); clear hb hbox hg))
 repeat (go_quiet (first | ((with_reducible refine gate_dst (N := 2) rfl ?_); (try (refine gate_guard (by rfl) ?_; dsimp only)); refine box_event ?hg (N := 2) ?hd (cs := #[.slice A0_0 l0_0.length c0_0, .slice A0_1 l0_1.length c0_1, .slice A0_2 l0_2.length c0_2, .slice A0_3 l0_3.length c0_3, .slice A0_4 l0_4.length c0_4]) (t := 27) ?hr ?_; (case hd => rfl); (case hg => rfl); (case hr => exact q30z); intro gb1 hg w1 hbox hb; have BK1 := aM (hbox); have GW1 := aM ((q7z HB : w.heap.size ≤ gb1)); have GE1 := aM ((q7z HB : w.heap.size ≤ gb1)); replace HB := aM (ym (q5z HB) hb); clear hb hbox hg) | ((with_reducible refine gate_dst (N := 3) rfl ?_); (try (refine gate_guard (by rfl) ?_; dsimp only)); refine box_event ?hg (N := 3) ?hd (cs := #[.slice A1_0 l1_0.length c1_0, .slice A1_1 l1_1.length c1_1, .slice A1_2 l1_2.length c1_2, .slice A1_3 l1_3.length c1_3, .slice A1_4 l1_4.length c1_4]) (t := 27) ?hr ?_; (case hd => rfl); (case hg => rfl); (case hr => exact q30z); intro gb2 hg w2 hbox hb; have BK2 := aM (hbox); have GW2 := aM ((q12z HB GE1 : w.heap.size ≤ gb2)); have GE2 := aM ((q12z HB GE1 : w.heap.size ≤ gb2)); replace HB := aM (ym (q4z HB GE1) hb); have NB1_394 := aM ((q34z BK1 : gb1 ≠ gb2)); have NB1_393 := aM ((q35z BK1 : gb2 ≠ gb1)); replace BK1 := aM (yi (zi BK1) hb); clear hb hbox hg)); go_upto_region 1 with (first | ((with_reducible refine gate_dst (N := 2) rfl ?_); (try (refine gate_guard (by rfl) ?_; dsimp only)); refine box_event ?hg (N := 2) ?hd (cs := #[.slice A0_0 l0_0.length c0_0, .slice A0_1 l0_1.length c0_1, .slice A0_2 l0_2.length c0_2, .slice A0_3 l0_3.length c0_3, .slice A0_4 l0_4.length c0_4]) (t := 27) ?hr ?_; (case hd => rfl); (case hg => rfl); (case hr => exact q30z); intro gb1 hg w1 hbox hb; have BK1 := aM (hbox); have GW1 := aM ((q7z HB : w.heap.size ≤ gb1)); have GE1 := aM ((q7z HB : w.heap.size ≤ gb1)); replace HB := aM (ym (q5z HB) hb); clear hb hbox hg) | ((with_reducible refine gate_dst (N := 3) rfl ?_); (try (refine gate_guard (by rfl) ?_; dsimp only)); refine box_event ?hg (N := 3) ?hd (cs := #[.slice A1_0 l1_0.length c1_0, .slice A1_1 l1_1.length c1_1, .slice A1_2 l1_2.length c1_2, .slice A1_3 l1_3.length c1_3, .slice A1_4 l1_4.length c1_4]) (t := 27) ?hr ?_; (case hd => rfl); (case hg => rfl); (case hr => exact q30z); intro gb2 hg w2 hbox hb; have BK2 := aM (hbox); have GW2 := aM ((q12z HB GE1 : w.heap.size ≤ gb2)); have GE2 := aM ((q12z HB GE1 : w.heap.size ≤ gb2)); replace HB := aM (ym (q4z HB GE1) hb); have NB1_394 := aM ((q34z BK1 : gb1 ≠ gb2)); have NB1_393 := aM ((q35z BK1 : gb2 ≠ gb1)); replace BK1 := aM (yi (zi BK1) hb); clear hb hbox hg)))
 (try simp only [Act.put, yu, yv, yw])
 go_cut [52] (fun v1 wc => ∃ (kq : Nat) (x1_2 : Bool), v1 = .bool x1_2 ∧ Aside0 (r9_Same.j0 kq x1_2 l0_0 l0_1 l0_2 l0_3 l0_4 l1_0 l1_1 l1_2 l1_3 l1_4 = some r) ∧ Aside0 (kq ≤ k) ∧ Aside0 (wc.heap[gb1]? = some (.cells #[(.slice A0_0 l0_0.length c0_0), (.slice A0_1 l0_1.length c0_1), (.slice A0_2 l0_2.length c0_2), (.slice A0_3 l0_3.length c0_3), (.slice A0_4 l0_4.length c0_4)] 27 (0, 0))) ∧ Aside0 (wc.heap[gb2]? = some (.cells #[(.slice A1_0 l1_0.length c1_0), (.slice A1_1 l1_1.length c1_1), (.slice A1_2 l1_2.length c1_2), (.slice A1_3 l1_3.length c1_3), (.slice A1_4 l1_4.length c1_4)] 27 (0, 0))) ∧ Aside0 (Below w.heap.size w wc))
 case first =>
  have H := HC1.out; clear HC1; by_cases c6 : (l0_0.length : Int) = (l1_0.length : Int)
  ·rw [if_pos c6] at H; obtain ⟨c1b0, c1b1⟩ := zeq c6; have c1b2 : (l0_0.length == l1_0.length) = true := by first | simpa using c6 | (simp at c6 ⊢; omega)
   clear c6; (first | rw [c1b0] | (simp only [i64_w, i32_w]; rw [c1b0]) | skip)
   by_cases c7 : (l0_1.length : Int) = (l1_1.length : Int)
   ·rw [if_pos c7] at H; obtain ⟨c1b0, c1b1⟩ := zeq c7; have c1b2 : (l0_1.length == l1_1.length) = true := by first | simpa using c7 | (simp at c7 ⊢; omega)
    clear c7; by_cases c8 : (l0_2.length : Int) = (l1_2.length : Int)
    ·rw [if_pos c8] at H; obtain ⟨c1b0, c1b1⟩ := zeq c8; have c1b2 : (l0_2.length == l1_2.length) = true := by first | simpa using c8 | (simp at c8 ⊢; omega)
     clear c8; by_cases c9 : (l0_3.length : Int) = (l1_3.length : Int)
     ·rw [if_pos c9] at H; obtain ⟨c1b0, c1b1⟩ := zeq c9; have c1b2 : (l0_3.length == l1_3.length) = true := by first | simpa using c9 | (simp at c9 ⊢; omega)
      clear c9; have H' := aM H; clear H; have hnb1 := NB1_394.out; have hnc1 := NB1_393.out; obtain ⟨i1_0, i1_1, i1_2, i1_3, i1_4, j1_0, j1_1, j1_2, j1_3, j1_4⟩ := cells5 BK1.out; obtain ⟨i1_0, i1_1, i1_2, i1_3, i1_4, j1_0, j1_1, j1_2, j1_3, j1_4⟩ := cells5 BK2.out; go_wp2
      repeat (go_quiet (fail); try go_wp2)
      go_meet
      case rel => exact ⟨_, (((l0_4.length : Int) != (l1_4.length : Int))), q13z, H', ⟨q52z⟩, ⟨q10z BK1⟩, ⟨q10z BK2⟩, ⟨q3z HB GE1 GE2⟩⟩
     ·rw [if_neg c9] at H; obtain ⟨c1b0, c1b1⟩ := zne c9; have c1b2 : (l0_3.length == l1_3.length) = false := by first | simpa using c9 | (simp at c9 ⊢; omega)
      exact z75_1
    ·rw [if_neg c8] at H; obtain ⟨c1b0, c1b1⟩ := zne c8; have c1b2 : (l0_2.length == l1_2.length) = false := by first | simpa using c8 | (simp at c8 ⊢; omega)
     exact z75_1
   ·rw [if_neg c7] at H; obtain ⟨c1b0, c1b1⟩ := zne c7; have c1b2 : (l0_1.length == l1_1.length) = false := by first | simpa using c7 | (simp at c7 ⊢; omega)
    exact z75_1
  ·rw [if_neg c6] at H; obtain ⟨c1b0, c1b1⟩ := zne c6; have c1b2 : (l0_0.length == l1_0.length) = false := by first | simpa using c6 | (simp at c6 ⊢; omega)
   (first | rw [c1b0] | (simp only [i64_w, i32_w]; rw [c1b0]) | skip)
   exact z75_1
 case rest =>
  clear HC1; try clear c1
  try clear c2
  try clear p2
  try clear c6
  try clear c1b0
  try clear c1b1
  try clear c1b2
  try clear c7
  try clear c2b0
  try clear c2b1
  try clear c2b2
  try clear c8
  try clear c3b0
  try clear c3b1
  try clear c3b2
  try clear c9
  try clear c4b0
  try clear c4b1
  try clear c4b2
  try clear c10
  try clear c13
  try clear c15
  try clear c16
  try clear c19
  try clear c22
  try clear i1_0 i1_1 i1_2 i1_3 i1_4
  try clear i2_0 i2_1 i2_2 i2_3 i2_4
  try clear i3_0 i3_1 i3_2 i3_3 i3_4
  try clear i4_0 i4_1 i4_2 i4_3 i4_4
  try clear i5_0 i5_1 i5_2 i5_3 i5_4
  try clear i6_0 i6_1 i6_2 i6_3 i6_4
  try clear i7_0 i7_1 i7_2 i7_3 i7_4
  try clear i8_0 i8_1 i8_2 i8_3 i8_4
  try clear i9_0 i9_1 i9_2 i9_3 i9_4
  try clear i10_0 i10_1 i10_2 i10_3 i10_4
  try clear j1_0 j1_1 j1_2 j1_3 j1_4
  try clear j2_0 j2_1 j2_2 j2_3 j2_4
  try clear j3_0 j3_1 j3_2 j3_3 j3_4
  try clear j4_0 j4_1 j4_2 j4_3 j4_4
  try clear j5_0 j5_1 j5_2 j5_3 j5_4
  try clear j6_0 j6_1 j6_2 j6_3 j6_4
  try clear j7_0 j7_1 j7_2 j7_3 j7_4
  try clear j8_0 j8_1 j8_2 j8_3 j8_4
  try clear j9_0 j9_1 j9_2 j9_3 j9_4
  try clear j10_0 j10_1 j10_2 j10_3 j10_4
  obtain ⟨kq, x1_2, rfl, HA, HJ1, BK1, BK2, HB⟩ := hcut; cases kq with
  | zero => exact absurd HA.out (by simp [r9_Same.j0])
  | succ kj1 =>
   have H := HA.out; clear HA; simp only [r9_Same.j0] at H; by_cases c11 : x1_2 = true
   ·subst c11; have H1 : (some false) = some r := by rw [if_pos rfl] at H; exact H
    clear H; have H := H1; clear H1; obtain rfl := Option.some.inj H; exact z75_2
   ·replace c11 := Bool.eq_false_iff.mpr c11; subst c11; have H1 : (r9_Same.l0 kj1 0 l0_0 l0_1 l0_2 l0_3 l0_4 l1_0 l1_1 l1_2 l1_3 l1_4) = some r := by rw [if_neg (show ¬ (false = true) by decide)] at H; exact H
    clear H; have H := H1; clear H1; have H' := aM H; clear H; go_wp2
    repeat (go_quiet (fail); try go_wp2)
    go_loopg [5] kj1 (fun kq v1 w' => ∃ (x1_2 : Int), v1 = .int .i64 x1_2 ∧ Aside0 (r9_Same.l0 kq x1_2 l0_0 l0_1 l0_2 l0_3 l0_4 l1_0 l1_1 l1_2 l1_3 l1_4 = some r) ∧ Aside0 (kq ≤ kj1) ∧ Aside0 (w'.heap[gb1]? = some (.cells #[(.slice A0_0 l0_0.length c0_0), (.slice A0_1 l0_1.length c0_1), (.slice A0_2 l0_2.length c0_2), (.slice A0_3 l0_3.length c0_3), (.slice A0_4 l0_4.length c0_4)] 27 (0, 0))) ∧ Aside0 (w'.heap[gb2]? = some (.cells #[(.slice A1_0 l1_0.length c1_0), (.slice A1_1 l1_1.length c1_1), (.slice A1_2 l1_2.length c1_2), (.slice A1_3 l1_3.length c1_3), (.slice A1_4 l1_4.length c1_4)] 27 (0, 0))) ∧ Aside0 (Below w.heap.size w w'))
    case atStart => exact ⟨(0), q13z, H', ⟨Nat.le_refl _⟩, ⟨q10z BK1⟩, ⟨q10z BK2⟩, ⟨q3z HB GE1 GE2⟩⟩
    case round =>
     clear H'; try clear c1
     try clear c2
     try clear p2
     try clear c6
     try clear c1b0
     try clear c1b1
     try clear c1b2
     try clear c7
     try clear c2b0
     try clear c2b1
     try clear c2b2
     try clear c8
     try clear c3b0
     try clear c3b1
     try clear c3b2
     try clear c9
     try clear c4b0
     try clear c4b1
     try clear c4b2
     try clear c10
     try clear c13
     try clear c15
     try clear c16
     try clear c19
     try clear c22
     try clear c11
     try clear i1_0 i1_1 i1_2 i1_3 i1_4
     try clear i2_0 i2_1 i2_2 i2_3 i2_4
     try clear i3_0 i3_1 i3_2 i3_3 i3_4
     try clear i4_0 i4_1 i4_2 i4_3 i4_4
     try clear i5_0 i5_1 i5_2 i5_3 i5_4
     try clear i6_0 i6_1 i6_2 i6_3 i6_4
     try clear i7_0 i7_1 i7_2 i7_3 i7_4
     try clear i8_0 i8_1 i8_2 i8_3 i8_4
     try clear i9_0 i9_1 i9_2 i9_3 i9_4
     try clear i10_0 i10_1 i10_2 i10_3 i10_4
     try clear j1_0 j1_1 j1_2 j1_3 j1_4
     try clear j2_0 j2_1 j2_2 j2_3 j2_4
     try clear j3_0 j3_1 j3_2 j3_3 j3_4
     try clear j4_0 j4_1 j4_2 j4_3 j4_4
     try clear j5_0 j5_1 j5_2 j5_3 j5_4
     try clear j6_0 j6_1 j6_2 j6_3 j6_4
     try clear j7_0 j7_1 j7_2 j7_3 j7_4
     try clear j8_0 j8_1 j8_2 j8_3 j8_4
     try clear j9_0 j9_1 j9_2 j9_3 j9_4
     try clear j10_0 j10_1 j10_2 j10_3 j10_4
     try clear p2
     obtain ⟨x1_2, rfl, HA, HK1, BK1, BK2, HB⟩ := hrel; cases gk with
     | zero => exact absurd HA.out (by simp [r9_Same.l0])
     | succ k1 =>
      have H := HA.out; clear HA; simp only [r9_Same.l0] at H; by_cases c12 : x1_2 < (l0_0.length : Int)
      ·rw [if_pos c12] at H; have c5b0 := decide_eq_true c12; clear c12; by_cases c14 : 0 ≤ x1_2
       ·rw [if_pos c14] at H; have c5b0 := decide_eq_true c14; clear c14; by_cases c17 : x1_2 < (l1_0.length : Int)
        ·rw [if_pos c17] at H; have c5b0 := decide_eq_true c17; clear c17; by_cases c18 : (!(((rd_T41 l0_0 x1_2).f0) == ((rd_T41 l1_0 x1_2).f0)) || (!(((rd_T41 l0_0 x1_2).f1) == ((rd_T41 l1_0 x1_2).f1)) || (!(((rd_T41 l0_0 x1_2).f2) == ((rd_T41 l1_0 x1_2).f2)) || (!(((rd_T41 l0_0 x1_2).f3) == ((rd_T41 l1_0 x1_2).f3)) || (!(((rd_T41 l0_0 x1_2).f4) == ((rd_T41 l1_0 x1_2).f4)) || (!(((rd_T41 l0_0 x1_2).f5) == ((rd_T41 l1_0 x1_2).f5)) || (!(((rd_T41 l0_0 x1_2).f6) == ((rd_T41 l1_0 x1_2).f6))))))))) = true
         ·rw [if_pos c18] at H; have c5b0 : (!(((rd_T41 l0_0 x1_2).f0) == ((rd_T41 l1_0 x1_2).f0)) || (!(((rd_T41 l0_0 x1_2).f1) == ((rd_T41 l1_0 x1_2).f1)) || (!(((rd_T41 l0_0 x1_2).f2) == ((rd_T41 l1_0 x1_2).f2)) || (!(((rd_T41 l0_0 x1_2).f3) == ((rd_T41 l1_0 x1_2).f3)) || (!(((rd_T41 l0_0 x1_2).f4) == ((rd_T41 l1_0 x1_2).f4)) || (!(((rd_T41 l0_0 x1_2).f5) == ((rd_T41 l1_0 x1_2).f5)) || (!(((rd_T41 l0_0 x1_2).f6) == ((rd_T41 l1_0 x1_2).f6))))))))) = true := c18; clear c18; obtain rfl := Option.some.inj H; have hnb1 := NB1_394.out; have hnc1 := NB1_393.out; obtain ⟨i11_0, i11_1, i11_2, i11_3, i11_4, j11_0, j11_1, j11_2, j11_3, j11_4⟩ := cells5 BK1.out; have p1 : 0 ≤ (x1_2 : Int) := zod; have q1 : x1_2 < (l0_0.length : Int) := zod; obtain ⟨ad1, e1, hx1_0, hx1_1, hx1_2, hx1_3, hx1_4, hx1_5, hx1_6⟩ := at_T41 HR1_0.out x1_2 p1 q1; cases e1; replace hx1_0 := zx HB hx1_0; replace hx1_1 := zx HB hx1_1; replace hx1_2 := zx HB hx1_2; replace hx1_3 := zx HB hx1_3; replace hx1_4 := zx HB hx1_4; replace hx1_5 := zx HB hx1_5; replace hx1_6 := zx HB hx1_6; replace p1 := eq_true p1; replace q1 := eq_true q1; obtain ⟨i11_0, i11_1, i11_2, i11_3, i11_4, j11_0, j11_1, j11_2, j11_3, j11_4⟩ := cells5 BK2.out; have p1 : 0 ≤ (x1_2 : Int) := zod; have q1 : x1_2 < (l1_0.length : Int) := zod; obtain ⟨ad1, e1, hx1_0, hx1_1, hx1_2, hx1_3, hx1_4, hx1_5, hx1_6⟩ := at_T41 HR2_0.out x1_2 p1 q1; cases e1; replace hx1_0 := zx HB hx1_0; replace hx1_1 := zx HB hx1_1; replace hx1_2 := zx HB hx1_2; replace hx1_3 := zx HB hx1_3; replace hx1_4 := zx HB hx1_4; replace hx1_5 := zx HB hx1_5; replace hx1_6 := zx HB hx1_6; replace p1 := eq_true p1; replace q1 := eq_true q1; go_wp2
          repeat (go_quiet (fail); try go_wp2)
          go_ret
          exact ⟨q11z, q3z HB GE1 GE2⟩
         ·rw [if_neg c18] at H; have c5b0 : (!(((rd_T41 l0_0 x1_2).f0) == ((rd_T41 l1_0 x1_2).f0)) || (!(((rd_T41 l0_0 x1_2).f1) == ((rd_T41 l1_0 x1_2).f1)) || (!(((rd_T41 l0_0 x1_2).f2) == ((rd_T41 l1_0 x1_2).f2)) || (!(((rd_T41 l0_0 x1_2).f3) == ((rd_T41 l1_0 x1_2).f3)) || (!(((rd_T41 l0_0 x1_2).f4) == ((rd_T41 l1_0 x1_2).f4)) || (!(((rd_T41 l0_0 x1_2).f5) == ((rd_T41 l1_0 x1_2).f5)) || (!(((rd_T41 l0_0 x1_2).f6) == ((rd_T41 l1_0 x1_2).f6))))))))) = false := by simpa using c18
          clear c18; have H' := aM H; clear H; have hnb1 := NB1_394.out; have hnc1 := NB1_393.out; obtain ⟨i11_0, i11_1, i11_2, i11_3, i11_4, j11_0, j11_1, j11_2, j11_3, j11_4⟩ := cells5 BK1.out; have p1 : 0 ≤ (x1_2 : Int) := zod; have q1 : x1_2 < (l0_0.length : Int) := zod; obtain ⟨ad1, e1, hx1_0, hx1_1, hx1_2, hx1_3, hx1_4, hx1_5, hx1_6⟩ := at_T41 HR1_0.out x1_2 p1 q1; cases e1; replace hx1_0 := zx HB hx1_0; replace hx1_1 := zx HB hx1_1; replace hx1_2 := zx HB hx1_2; replace hx1_3 := zx HB hx1_3; replace hx1_4 := zx HB hx1_4; replace hx1_5 := zx HB hx1_5; replace hx1_6 := zx HB hx1_6; replace p1 := eq_true p1; replace q1 := eq_true q1; obtain ⟨i11_0, i11_1, i11_2, i11_3, i11_4, j11_0, j11_1, j11_2, j11_3, j11_4⟩ := cells5 BK2.out; have p1 : 0 ≤ (x1_2 : Int) := zod; have q1 : x1_2 < (l1_0.length : Int) := zod; obtain ⟨ad1, e1, hx1_0, hx1_1, hx1_2, hx1_3, hx1_4, hx1_5, hx1_6⟩ := at_T41 HR2_0.out x1_2 p1 q1; cases e1; replace hx1_0 := zx HB hx1_0; replace hx1_1 := zx HB hx1_1; replace hx1_2 := zx HB hx1_2; replace hx1_3 := zx HB hx1_3; replace hx1_4 := zx HB hx1_4; replace hx1_5 := zx HB hx1_5; replace hx1_6 := zx HB hx1_6; replace p1 := eq_true p1; replace q1 := eq_true q1; go_wp2
          repeat (go_quiet (fail); try go_wp2)
          go_roundg k1
          case measure => have := HJ1.out; have := HK1.out; omega
          case rel => exact ⟨(wrap64 (x1_2 + 1)), q13z, H', ⟨q87z HJ1 HK1⟩, ⟨q10z BK1⟩, ⟨q10z BK2⟩, ⟨q3z HB GE1 GE2⟩⟩
        ·rw [if_neg c17] at H; exact absurd H (by simp)
       ·rw [if_neg c14] at H; exact absurd H (by simp)
      ·rw [if_neg c12] at H; have c5b0 := decide_eq_false c12; clear c12; have H' := aM H; clear H; have hnb1 := NB1_394.out; have hnc1 := NB1_393.out; obtain ⟨i11_0, i11_1, i11_2, i11_3, i11_4, j11_0, j11_1, j11_2, j11_3, j11_4⟩ := cells5 BK1.out; go_wp2
       repeat (go_quiet (fail); try go_wp2)
       go_loopg [6] k1 (fun kq v1 w' => ∃ (x1_3 : Int), v1 = .int .i64 x1_3 ∧ Aside0 (r9_Same.l1 kq x1_3 l0_0 l0_1 l0_2 l0_3 l0_4 l1_0 l1_1 l1_2 l1_3 l1_4 = some r) ∧ Aside0 (kq ≤ k1) ∧ Aside0 (w'.heap[gb1]? = some (.cells #[(.slice A0_0 l0_0.length c0_0), (.slice A0_1 l0_1.length c0_1), (.slice A0_2 l0_2.length c0_2), (.slice A0_3 l0_3.length c0_3), (.slice A0_4 l0_4.length c0_4)] 27 (0, 0))) ∧ Aside0 (w'.heap[gb2]? = some (.cells #[(.slice A1_0 l1_0.length c1_0), (.slice A1_1 l1_1.length c1_1), (.slice A1_2 l1_2.length c1_2), (.slice A1_3 l1_3.length c1_3), (.slice A1_4 l1_4.length c1_4)] 27 (0, 0))) ∧ Aside0 (Below w.heap.size w w'))
       case atStart => exact ⟨(0), q13z, H', ⟨Nat.le_refl _⟩, ⟨q10z BK1⟩, ⟨q10z BK2⟩, ⟨q3z HB GE1 GE2⟩⟩
       case round =>
        clear H'; try clear c1
        try clear c2
        try clear p2
        try clear c3
        try clear p3
        try clear q3
        try clear hx3
        try clear c6
        try clear c1b0
        try clear c1b1
        try clear c1b2
        try clear p6
        try clear c7
        try clear c2b0
        try clear c2b1
        try clear c2b2
        try clear c8
        try clear c3b0
        try clear c3b1
        try clear c3b2
        try clear c9
        try clear c4b0
        try clear c4b1
        try clear c4b2
        try clear c10
        try clear c13
        try clear c15
        try clear c16
        try clear c19
        try clear c22
        try clear c11
        try clear c12
        try clear c5b0
        try clear c14
        try clear c6b0
        try clear c17
        try clear c7b0
        try clear c18
        try clear c8b0
        try clear c30
        try clear c33
        try clear c36
        try clear i1_0 i1_1 i1_2 i1_3 i1_4
        try clear i2_0 i2_1 i2_2 i2_3 i2_4
        try clear i3_0 i3_1 i3_2 i3_3 i3_4
        try clear i4_0 i4_1 i4_2 i4_3 i4_4
        try clear i5_0 i5_1 i5_2 i5_3 i5_4
        try clear i6_0 i6_1 i6_2 i6_3 i6_4
        try clear i7_0 i7_1 i7_2 i7_3 i7_4
        try clear i8_0 i8_1 i8_2 i8_3 i8_4
        try clear i9_0 i9_1 i9_2 i9_3 i9_4
        try clear i10_0 i10_1 i10_2 i10_3 i10_4
        try clear i12_0 i12_1 i12_2 i12_3 i12_4
        try clear i13_0 i13_1 i13_2 i13_3 i13_4
        try clear i14_0 i14_1 i14_2 i14_3 i14_4
        try clear i15_0 i15_1 i15_2 i15_3 i15_4
        try clear i11_0 i11_1 i11_2 i11_3 i11_4
        try clear j1_0 j1_1 j1_2 j1_3 j1_4
        try clear j2_0 j2_1 j2_2 j2_3 j2_4
        try clear j3_0 j3_1 j3_2 j3_3 j3_4
        try clear j4_0 j4_1 j4_2 j4_3 j4_4
        try clear j5_0 j5_1 j5_2 j5_3 j5_4
        try clear j6_0 j6_1 j6_2 j6_3 j6_4
        try clear j7_0 j7_1 j7_2 j7_3 j7_4
        try clear j8_0 j8_1 j8_2 j8_3 j8_4
        try clear j9_0 j9_1 j9_2 j9_3 j9_4
        try clear j10_0 j10_1 j10_2 j10_3 j10_4
        try clear j12_0 j12_1 j12_2 j12_3 j12_4
        try clear j13_0 j13_1 j13_2 j13_3 j13_4
        try clear j14_0 j14_1 j14_2 j14_3 j14_4
        try clear j15_0 j15_1 j15_2 j15_3 j15_4
        try clear j11_0 j11_1 j11_2 j11_3 j11_4
        try clear hx1_0
        try clear hx1_1
        try clear hx1_2
        try clear hx1_3
        try clear hx1_4
        try clear hx1_5
        try clear hx1_6
        try clear hx2_0
        try clear hx2_1
        try clear hx2_2
        try clear hx2_3
        try clear hx2_4
        try clear hx2_5
        try clear hx2_6
        try clear p2
        try clear p1
        try clear p5
        try clear q1
        try clear q2
        obtain ⟨x1_3, rfl, HA, HK2, BK1, BK2, HB⟩ := hrel; cases gk with
        | zero => exact absurd HA.out (by simp [r9_Same.l1])
        | succ k1 =>
         have H := HA.out; clear HA; simp only [r9_Same.l1] at H; by_cases c20 : x1_3 < (l0_1.length : Int)
         ·rw [if_pos c20] at H; have c9b0 := decide_eq_true c20; clear c20; by_cases c21 : 0 ≤ x1_3
          ·rw [if_pos c21] at H; have c9b0 := decide_eq_true c21; clear c21; by_cases c23 : x1_3 < (l1_1.length : Int)
           ·rw [if_pos c23] at H; have c9b0 := decide_eq_true c23; clear c23; by_cases c24 : (!((((rd_T47 l0_1 x1_3).f0).toList) == (((rd_T47 l1_1 x1_3).f0).toList)) || (!(((rd_T47 l0_1 x1_3).f1) == ((rd_T47 l1_1 x1_3).f1)))) = true
            ·rw [if_pos c24] at H; have c9b0 : (!((((rd_T47 l0_1 x1_3).f0).toList) == (((rd_T47 l1_1 x1_3).f0).toList)) || (!(((rd_T47 l0_1 x1_3).f1) == ((rd_T47 l1_1 x1_3).f1)))) = true := c24; clear c24; obtain rfl := Option.some.inj H; have hnb1 := NB1_394.out; have hnc1 := NB1_393.out; obtain ⟨i16_0, i16_1, i16_2, i16_3, i16_4, j16_0, j16_1, j16_2, j16_3, j16_4⟩ := cells5 BK1.out; have p7 : 0 ≤ (x1_3 : Int) := zod; have q5 : x1_3 < (l0_1.length : Int) := zod; obtain ⟨ad1, e1, hx3_0, hx3_1⟩ := at_T47 HR1_1.out x1_3 p7 q5; cases e1; replace hx3_0 := zx HB hx3_0; replace hx3_1 := zx HB hx3_1; replace p7 := eq_true p7; replace q5 := eq_true q5; obtain ⟨i16_0, i16_1, i16_2, i16_3, i16_4, j16_0, j16_1, j16_2, j16_3, j16_4⟩ := cells5 BK2.out; have p7 : 0 ≤ (x1_3 : Int) := zod; have q5 : x1_3 < (l1_1.length : Int) := zod; obtain ⟨ad1, e1, hx3_0, hx3_1⟩ := at_T47 HR2_1.out x1_3 p7 q5; cases e1; replace hx3_0 := zx HB hx3_0; replace hx3_1 := zx HB hx3_1; replace p7 := eq_true p7; replace q5 := eq_true q5; go_wp2
             repeat (go_quiet (fail); try go_wp2)
             go_ret
             exact ⟨q11z, q3z HB GE1 GE2⟩
            ·rw [if_neg c24] at H; have c9b0 : (!((((rd_T47 l0_1 x1_3).f0).toList) == (((rd_T47 l1_1 x1_3).f0).toList)) || (!(((rd_T47 l0_1 x1_3).f1) == ((rd_T47 l1_1 x1_3).f1)))) = false := by simpa using c24
             clear c24; have H' := aM H; clear H; have hnb1 := NB1_394.out; have hnc1 := NB1_393.out; obtain ⟨i16_0, i16_1, i16_2, i16_3, i16_4, j16_0, j16_1, j16_2, j16_3, j16_4⟩ := cells5 BK1.out; have p7 : 0 ≤ (x1_3 : Int) := zod; have q5 : x1_3 < (l0_1.length : Int) := zod; obtain ⟨ad1, e1, hx3_0, hx3_1⟩ := at_T47 HR1_1.out x1_3 p7 q5; cases e1; replace hx3_0 := zx HB hx3_0; replace hx3_1 := zx HB hx3_1; replace p7 := eq_true p7; replace q5 := eq_true q5; obtain ⟨i16_0, i16_1, i16_2, i16_3, i16_4, j16_0, j16_1, j16_2, j16_3, j16_4⟩ := cells5 BK2.out; have p7 : 0 ≤ (x1_3 : Int) := zod; have q5 : x1_3 < (l1_1.length : Int) := zod; obtain ⟨ad1, e1, hx3_0, hx3_1⟩ := at_T47 HR2_1.out x1_3 p7 q5; cases e1; replace hx3_0 := zx HB hx3_0; replace hx3_1 := zx HB hx3_1; replace p7 := eq_true p7; replace q5 := eq_true q5; go_wp2
             repeat (go_quiet (fail); try go_wp2)
             go_roundg k1
             case measure => have := HJ1.out; have := HK1.out; have := HK2.out; omega
             case rel => exact ⟨(wrap64 (x1_3 + 1)), q13z, H', ⟨q85z HJ1 HK1 HK2⟩, ⟨q10z BK1⟩, ⟨q10z BK2⟩, ⟨q3z HB GE1 GE2⟩⟩
           ·rw [if_neg c23] at H; exact absurd H (by simp)
          ·rw [if_neg c21] at H; exact absurd H (by simp)
         ·rw [if_neg c20] at H; have c9b0 := decide_eq_false c20; clear c20; have H' := aM H; clear H; have hnb1 := NB1_394.out; have hnc1 := NB1_393.out; obtain ⟨i16_0, i16_1, i16_2, i16_3, i16_4, j16_0, j16_1, j16_2, j16_3, j16_4⟩ := cells5 BK1.out; go_wp2
          repeat (go_quiet (fail); try go_wp2)
          go_loopg [7] k1 (fun kq v1 w' => ∃ (x1_4 : Int), v1 = .int .i64 x1_4 ∧ Aside0 (r9_Same.l2 kq x1_4 l0_0 l0_1 l0_2 l0_3 l0_4 l1_0 l1_1 l1_2 l1_3 l1_4 = some r) ∧ Aside0 (kq ≤ k1) ∧ Aside0 (w'.heap[gb1]? = some (.cells #[(.slice A0_0 l0_0.length c0_0), (.slice A0_1 l0_1.length c0_1), (.slice A0_2 l0_2.length c0_2), (.slice A0_3 l0_3.length c0_3), (.slice A0_4 l0_4.length c0_4)] 27 (0, 0))) ∧ Aside0 (w'.heap[gb2]? = some (.cells #[(.slice A1_0 l1_0.length c1_0), (.slice A1_1 l1_1.length c1_1), (.slice A1_2 l1_2.length c1_2), (.slice A1_3 l1_3.length c1_3), (.slice A1_4 l1_4.length c1_4)] 27 (0, 0))) ∧ Aside0 (Below w.heap.size w w'))
          case atStart => exact ⟨(0), q13z, H', ⟨Nat.le_refl _⟩, ⟨q10z BK1⟩, ⟨q10z BK2⟩, ⟨q3z HB GE1 GE2⟩⟩
          case round =>
           clear H'; try clear c1
           try clear c2
           try clear p2
           try clear c3
           try clear p3
           try clear q3
           try clear hx3
           try clear c4
           try clear c6
           try clear c1b0
           try clear c1b1
           try clear c1b2
           try clear p6
           try clear c7
           try clear c2b0
           try clear c2b1
           try clear c2b2
           try clear c8
           try clear c3b0
           try clear c3b1
           try clear c3b2
           try clear c9
           try clear c4b0
           try clear c4b1
           try clear c4b2
           try clear c10
           try clear c13
           try clear c15
           try clear c16
           try clear c19
           try clear c22
           try clear c11
           try clear c12
           try clear c5b0
           try clear c14
           try clear c6b0
           try clear c17
           try clear c7b0
           try clear c18
           try clear c8b0
           try clear c30
           try clear c33
           try clear c36
           try clear c20
           try clear c9b0
           try clear c21
           try clear c10b0
           try clear p39
           try clear q39
           try clear hx39
           try clear c23
           try clear c11b0
           try clear c24
           try clear c12b0
           try clear c42
           try clear c45
           try clear c48
           try clear i1_0 i1_1 i1_2 i1_3 i1_4
           try clear i2_0 i2_1 i2_2 i2_3 i2_4
           try clear i3_0 i3_1 i3_2 i3_3 i3_4
           try clear i4_0 i4_1 i4_2 i4_3 i4_4
           try clear i5_0 i5_1 i5_2 i5_3 i5_4
           try clear i6_0 i6_1 i6_2 i6_3 i6_4
           try clear i7_0 i7_1 i7_2 i7_3 i7_4
           try clear i8_0 i8_1 i8_2 i8_3 i8_4
           try clear i9_0 i9_1 i9_2 i9_3 i9_4
           try clear i10_0 i10_1 i10_2 i10_3 i10_4
           try clear i12_0 i12_1 i12_2 i12_3 i12_4
           try clear i13_0 i13_1 i13_2 i13_3 i13_4
           try clear i14_0 i14_1 i14_2 i14_3 i14_4
           try clear i15_0 i15_1 i15_2 i15_3 i15_4
           try clear i11_0 i11_1 i11_2 i11_3 i11_4
           try clear i17_0 i17_1 i17_2 i17_3 i17_4
           try clear i18_0 i18_1 i18_2 i18_3 i18_4
           try clear i19_0 i19_1 i19_2 i19_3 i19_4
           try clear i20_0 i20_1 i20_2 i20_3 i20_4
           try clear i16_0 i16_1 i16_2 i16_3 i16_4
           try clear j1_0 j1_1 j1_2 j1_3 j1_4
           try clear j2_0 j2_1 j2_2 j2_3 j2_4
           try clear j3_0 j3_1 j3_2 j3_3 j3_4
           try clear j4_0 j4_1 j4_2 j4_3 j4_4
           try clear j5_0 j5_1 j5_2 j5_3 j5_4
           try clear j6_0 j6_1 j6_2 j6_3 j6_4
           try clear j7_0 j7_1 j7_2 j7_3 j7_4
           try clear j8_0 j8_1 j8_2 j8_3 j8_4
           try clear j9_0 j9_1 j9_2 j9_3 j9_4
           try clear j10_0 j10_1 j10_2 j10_3 j10_4
           try clear j12_0 j12_1 j12_2 j12_3 j12_4
           try clear j13_0 j13_1 j13_2 j13_3 j13_4
           try clear j14_0 j14_1 j14_2 j14_3 j14_4
           try clear j15_0 j15_1 j15_2 j15_3 j15_4
           try clear j11_0 j11_1 j11_2 j11_3 j11_4
           try clear j17_0 j17_1 j17_2 j17_3 j17_4
           try clear j18_0 j18_1 j18_2 j18_3 j18_4
           try clear j19_0 j19_1 j19_2 j19_3 j19_4
           try clear j20_0 j20_1 j20_2 j20_3 j20_4
           try clear j16_0 j16_1 j16_2 j16_3 j16_4
           try clear hx1_0
           try clear hx1_1
           try clear hx1_2
           try clear hx1_3
           try clear hx1_4
           try clear hx1_5
           try clear hx1_6
           try clear hx2_0
           try clear hx2_1
           try clear hx2_2
           try clear hx2_3
           try clear hx2_4
           try clear hx2_5
           try clear hx2_6
           try clear hx3_0
           try clear hx3_1
           try clear hx4_0
           try clear hx4_1
           try clear p2
           try clear p3
           try clear p1
           try clear p5
           try clear p7
           try clear p8
           try clear p6
           try clear q3
           try clear q1
           try clear q2
           try clear q5
           try clear q6
           obtain ⟨x1_4, rfl, HA, HK3, BK1, BK2, HB⟩ := hrel; cases gk with
           | zero => exact absurd HA.out (by simp [r9_Same.l2])
           | succ k1 =>
            have H := HA.out; clear HA; simp only [r9_Same.l2] at H; by_cases c25 : x1_4 < (l0_2.length : Int)
            ·rw [if_pos c25] at H; have c13b0 := decide_eq_true c25; clear c25; by_cases c26 : 0 ≤ x1_4
             ·rw [if_pos c26] at H; have c13b0 := decide_eq_true c26; clear c26; by_cases c27 : x1_4 < (l1_2.length : Int)
              ·rw [if_pos c27] at H; have c13b0 := decide_eq_true c27; clear c27; by_cases c28 : (!((((rd_T43 l0_2 x1_4).f0).toList) == (((rd_T43 l1_2 x1_4).f0).toList)) || (!(((rd_T43 l0_2 x1_4).f1) == ((rd_T43 l1_2 x1_4).f1)) || (!(((rd_T43 l0_2 x1_4).f2) == ((rd_T43 l1_2 x1_4).f2)) || (!(((rd_T43 l0_2 x1_4).f3) == ((rd_T43 l1_2 x1_4).f3)))))) = true
               ·rw [if_pos c28] at H; have c13b0 : (!((((rd_T43 l0_2 x1_4).f0).toList) == (((rd_T43 l1_2 x1_4).f0).toList)) || (!(((rd_T43 l0_2 x1_4).f1) == ((rd_T43 l1_2 x1_4).f1)) || (!(((rd_T43 l0_2 x1_4).f2) == ((rd_T43 l1_2 x1_4).f2)) || (!(((rd_T43 l0_2 x1_4).f3) == ((rd_T43 l1_2 x1_4).f3)))))) = true := c28; clear c28; obtain rfl := Option.some.inj H; have hnb1 := NB1_394.out; have hnc1 := NB1_393.out; obtain ⟨i21_0, i21_1, i21_2, i21_3, i21_4, j21_0, j21_1, j21_2, j21_3, j21_4⟩ := cells5 BK1.out; have p9 : 0 ≤ (x1_4 : Int) := zod; have q7 : x1_4 < (l0_2.length : Int) := zod; obtain ⟨ad1, e1, hx5_0, hx5_1, hx3_2, hx3_3⟩ := at_T43 HR1_2.out x1_4 p9 q7; cases e1; replace hx5_0 := zx HB hx5_0; replace hx5_1 := zx HB hx5_1; replace hx3_2 := zx HB hx3_2; replace hx3_3 := zx HB hx3_3; replace p9 := eq_true p9; replace q7 := eq_true q7; obtain ⟨i21_0, i21_1, i21_2, i21_3, i21_4, j21_0, j21_1, j21_2, j21_3, j21_4⟩ := cells5 BK2.out; have p9 : 0 ≤ (x1_4 : Int) := zod; have q7 : x1_4 < (l1_2.length : Int) := zod; obtain ⟨ad1, e1, hx5_0, hx5_1, hx3_2, hx3_3⟩ := at_T43 HR2_2.out x1_4 p9 q7; cases e1; replace hx5_0 := zx HB hx5_0; replace hx5_1 := zx HB hx5_1; replace hx3_2 := zx HB hx3_2; replace hx3_3 := zx HB hx3_3; replace p9 := eq_true p9; replace q7 := eq_true q7; go_wp2
                repeat (go_quiet (fail); try go_wp2)
                go_ret
                exact ⟨q11z, q3z HB GE1 GE2⟩
               ·rw [if_neg c28] at H; have c13b0 : (!((((rd_T43 l0_2 x1_4).f0).toList) == (((rd_T43 l1_2 x1_4).f0).toList)) || (!(((rd_T43 l0_2 x1_4).f1) == ((rd_T43 l1_2 x1_4).f1)) || (!(((rd_T43 l0_2 x1_4).f2) == ((rd_T43 l1_2 x1_4).f2)) || (!(((rd_T43 l0_2 x1_4).f3) == ((rd_T43 l1_2 x1_4).f3)))))) = false := by simpa using c28
                clear c28; have H' := aM H; clear H; have hnb1 := NB1_394.out; have hnc1 := NB1_393.out; obtain ⟨i21_0, i21_1, i21_2, i21_3, i21_4, j21_0, j21_1, j21_2, j21_3, j21_4⟩ := cells5 BK1.out; have p9 : 0 ≤ (x1_4 : Int) := zod; have q7 : x1_4 < (l0_2.length : Int) := zod; obtain ⟨ad1, e1, hx5_0, hx5_1, hx3_2, hx3_3⟩ := at_T43 HR1_2.out x1_4 p9 q7; cases e1; replace hx5_0 := zx HB hx5_0; replace hx5_1 := zx HB hx5_1; replace hx3_2 := zx HB hx3_2; replace hx3_3 := zx HB hx3_3; replace p9 := eq_true p9; replace q7 := eq_true q7; obtain ⟨i21_0, i21_1, i21_2, i21_3, i21_4, j21_0, j21_1, j21_2, j21_3, j21_4⟩ := cells5 BK2.out; have p9 : 0 ≤ (x1_4 : Int) := zod; have q7 : x1_4 < (l1_2.length : Int) := zod; obtain ⟨ad1, e1, hx5_0, hx5_1, hx3_2, hx3_3⟩ := at_T43 HR2_2.out x1_4 p9 q7; cases e1; replace hx5_0 := zx HB hx5_0; replace hx5_1 := zx HB hx5_1; replace hx3_2 := zx HB hx3_2; replace hx3_3 := zx HB hx3_3; replace p9 := eq_true p9; replace q7 := eq_true q7; go_wp2
                repeat (go_quiet (fail); try go_wp2)
                go_roundg k1
                case measure => have := HJ1.out; have := HK1.out; have := HK2.out; have := HK3.out; omega
                case rel => exact ⟨(wrap64 (x1_4 + 1)), q13z, H', ⟨q123z HJ1 HK1 HK2 HK3⟩, ⟨q10z BK1⟩, ⟨q10z BK2⟩, ⟨q3z HB GE1 GE2⟩⟩
              ·rw [if_neg c27] at H; exact absurd H (by simp)
             ·rw [if_neg c26] at H; exact absurd H (by simp)
            ·rw [if_neg c25] at H; have c13b0 := decide_eq_false c25; clear c25; have H' := aM H; clear H; have hnb1 := NB1_394.out; have hnc1 := NB1_393.out; obtain ⟨i21_0, i21_1, i21_2, i21_3, i21_4, j21_0, j21_1, j21_2, j21_3, j21_4⟩ := cells5 BK1.out; go_wp2
             repeat (go_quiet (fail); try go_wp2)
             go_loopg [8] k1 (fun kq v1 w' => ∃ (x1_5 : Int), v1 = .int .i64 x1_5 ∧ Aside0 (r9_Same.l3 kq x1_5 l0_0 l0_1 l0_2 l0_3 l0_4 l1_0 l1_1 l1_2 l1_3 l1_4 = some r) ∧ Aside0 (kq ≤ k1) ∧ Aside0 (w'.heap[gb1]? = some (.cells #[(.slice A0_0 l0_0.length c0_0), (.slice A0_1 l0_1.length c0_1), (.slice A0_2 l0_2.length c0_2), (.slice A0_3 l0_3.length c0_3), (.slice A0_4 l0_4.length c0_4)] 27 (0, 0))) ∧ Aside0 (w'.heap[gb2]? = some (.cells #[(.slice A1_0 l1_0.length c1_0), (.slice A1_1 l1_1.length c1_1), (.slice A1_2 l1_2.length c1_2), (.slice A1_3 l1_3.length c1_3), (.slice A1_4 l1_4.length c1_4)] 27 (0, 0))) ∧ Aside0 (Below w.heap.size w w'))
             case atStart => exact ⟨(0), q13z, H', ⟨Nat.le_refl _⟩, ⟨q10z BK1⟩, ⟨q10z BK2⟩, ⟨q3z HB GE1 GE2⟩⟩
             case round =>
              clear H'; try clear c1
              try clear c2
              try clear p2
              try clear c3
              try clear p3
              try clear q3
              try clear hx3
              try clear c4
              try clear p4
              try clear q4
              try clear hx4
              try clear c5
              try clear c6
              try clear c1b0
              try clear c1b1
              try clear c1b2
              try clear p6
              try clear c7
              try clear c2b0
              try clear c2b1
              try clear c2b2
              try clear c8
              try clear c3b0
              try clear c3b1
              try clear c3b2
              try clear c9
              try clear c4b0
              try clear c4b1
              try clear c4b2
              try clear c10
              try clear c13
              try clear c15
              try clear c16
              try clear c19
              try clear c22
              try clear c11
              try clear c12
              try clear c5b0
              try clear c14
              try clear c6b0
              try clear c17
              try clear c7b0
              try clear c18
              try clear c8b0
              try clear c30
              try clear c33
              try clear c36
              try clear c20
              try clear c9b0
              try clear c21
              try clear c10b0
              try clear p39
              try clear q39
              try clear hx39
              try clear c23
              try clear c11b0
              try clear p40
              try clear q40
              try clear hx40
              try clear c24
              try clear c12b0
              try clear c42
              try clear c45
              try clear c48
              try clear c25
              try clear c13b0
              try clear c26
              try clear c14b0
              try clear c27
              try clear c15b0
              try clear c28
              try clear c16b0
              try clear c54
              try clear c57
              try clear c60
              try clear i1_0 i1_1 i1_2 i1_3 i1_4
              try clear i2_0 i2_1 i2_2 i2_3 i2_4
              try clear i3_0 i3_1 i3_2 i3_3 i3_4
              try clear i4_0 i4_1 i4_2 i4_3 i4_4
              try clear i5_0 i5_1 i5_2 i5_3 i5_4
              try clear i6_0 i6_1 i6_2 i6_3 i6_4
              try clear i7_0 i7_1 i7_2 i7_3 i7_4
              try clear i8_0 i8_1 i8_2 i8_3 i8_4
              try clear i9_0 i9_1 i9_2 i9_3 i9_4
              try clear i10_0 i10_1 i10_2 i10_3 i10_4
              try clear i12_0 i12_1 i12_2 i12_3 i12_4
              try clear i13_0 i13_1 i13_2 i13_3 i13_4
              try clear i14_0 i14_1 i14_2 i14_3 i14_4
              try clear i15_0 i15_1 i15_2 i15_3 i15_4
              try clear i11_0 i11_1 i11_2 i11_3 i11_4
              try clear i17_0 i17_1 i17_2 i17_3 i17_4
              try clear i18_0 i18_1 i18_2 i18_3 i18_4
              try clear i19_0 i19_1 i19_2 i19_3 i19_4
              try clear i20_0 i20_1 i20_2 i20_3 i20_4
              try clear i16_0 i16_1 i16_2 i16_3 i16_4
              try clear i22_0 i22_1 i22_2 i22_3 i22_4
              try clear i23_0 i23_1 i23_2 i23_3 i23_4
              try clear i24_0 i24_1 i24_2 i24_3 i24_4
              try clear i25_0 i25_1 i25_2 i25_3 i25_4
              try clear i21_0 i21_1 i21_2 i21_3 i21_4
              try clear j1_0 j1_1 j1_2 j1_3 j1_4
              try clear j2_0 j2_1 j2_2 j2_3 j2_4
              try clear j3_0 j3_1 j3_2 j3_3 j3_4
              try clear j4_0 j4_1 j4_2 j4_3 j4_4
              try clear j5_0 j5_1 j5_2 j5_3 j5_4
              try clear j6_0 j6_1 j6_2 j6_3 j6_4
              try clear j7_0 j7_1 j7_2 j7_3 j7_4
              try clear j8_0 j8_1 j8_2 j8_3 j8_4
              try clear j9_0 j9_1 j9_2 j9_3 j9_4
              try clear j10_0 j10_1 j10_2 j10_3 j10_4
              try clear j12_0 j12_1 j12_2 j12_3 j12_4
              try clear j13_0 j13_1 j13_2 j13_3 j13_4
              try clear j14_0 j14_1 j14_2 j14_3 j14_4
              try clear j15_0 j15_1 j15_2 j15_3 j15_4
              try clear j11_0 j11_1 j11_2 j11_3 j11_4
              try clear j17_0 j17_1 j17_2 j17_3 j17_4
              try clear j18_0 j18_1 j18_2 j18_3 j18_4
              try clear j19_0 j19_1 j19_2 j19_3 j19_4
              try clear j20_0 j20_1 j20_2 j20_3 j20_4
              try clear j16_0 j16_1 j16_2 j16_3 j16_4
              try clear j22_0 j22_1 j22_2 j22_3 j22_4
              try clear j23_0 j23_1 j23_2 j23_3 j23_4
              try clear j24_0 j24_1 j24_2 j24_3 j24_4
              try clear j25_0 j25_1 j25_2 j25_3 j25_4
              try clear j21_0 j21_1 j21_2 j21_3 j21_4
              try clear hx1_0
              try clear hx1_1
              try clear hx1_2
              try clear hx1_3
              try clear hx1_4
              try clear hx1_5
              try clear hx1_6
              try clear hx2_0
              try clear hx2_1
              try clear hx2_2
              try clear hx2_3
              try clear hx2_4
              try clear hx2_5
              try clear hx2_6
              try clear hx3_0
              try clear hx3_1
              try clear hx4_0
              try clear hx4_1
              try clear hx5_0
              try clear hx5_1
              try clear hx3_2
              try clear hx3_3
              try clear hx6_0
              try clear hx6_1
              try clear hx4_2
              try clear hx4_3
              try clear p2
              try clear p3
              try clear p39
              try clear p1
              try clear p5
              try clear p7
              try clear p8
              try clear p9
              try clear p10
              try clear p6
              try clear q3
              try clear q39
              try clear q1
              try clear q2
              try clear q5
              try clear q6
              try clear q7
              try clear q8
              obtain ⟨x1_5, rfl, HA, HK4, BK1, BK2, HB⟩ := hrel; cases gk with
              | zero => exact absurd HA.out (by simp [r9_Same.l3])
              | succ k1 =>
               have H := HA.out; clear HA; simp only [r9_Same.l3] at H; by_cases c29 : x1_5 < (l0_3.length : Int)
               ·rw [if_pos c29] at H; have c17b0 := decide_eq_true c29; clear c29; by_cases c31 : 0 ≤ x1_5
                ·rw [if_pos c31] at H; have c17b0 := decide_eq_true c31; clear c31; by_cases c32 : x1_5 < (l1_3.length : Int)
                 ·rw [if_pos c32] at H; have c17b0 := decide_eq_true c32; clear c32; by_cases c34 : (!(((rd_T61 l0_3 x1_5).f0) == ((rd_T61 l1_3 x1_5).f0)) || (!((((rd_T61 l0_3 x1_5).f1).toList) == (((rd_T61 l1_3 x1_5).f1).toList)) || (!(((rd_T61 l0_3 x1_5).f2) == ((rd_T61 l1_3 x1_5).f2))))) = true
                  ·rw [if_pos c34] at H; have c17b0 : (!(((rd_T61 l0_3 x1_5).f0) == ((rd_T61 l1_3 x1_5).f0)) || (!((((rd_T61 l0_3 x1_5).f1).toList) == (((rd_T61 l1_3 x1_5).f1).toList)) || (!(((rd_T61 l0_3 x1_5).f2) == ((rd_T61 l1_3 x1_5).f2))))) = true := c34; clear c34; obtain rfl := Option.some.inj H; have hnb1 := NB1_394.out; have hnc1 := NB1_393.out; obtain ⟨i26_0, i26_1, i26_2, i26_3, i26_4, j26_0, j26_1, j26_2, j26_3, j26_4⟩ := cells5 BK1.out; have p11 : 0 ≤ (x1_5 : Int) := zod; have q9 : x1_5 < (l0_3.length : Int) := zod; obtain ⟨ad1, e1, hx7_0, hx7_1, hx5_2⟩ := at_T61 HR1_3.out x1_5 p11 q9; cases e1; replace hx7_0 := zx HB hx7_0; replace hx7_1 := zx HB hx7_1; replace hx5_2 := zx HB hx5_2; replace p11 := eq_true p11; replace q9 := eq_true q9; obtain ⟨i26_0, i26_1, i26_2, i26_3, i26_4, j26_0, j26_1, j26_2, j26_3, j26_4⟩ := cells5 BK2.out; have p11 : 0 ≤ (x1_5 : Int) := zod; have q9 : x1_5 < (l1_3.length : Int) := zod; obtain ⟨ad1, e1, hx7_0, hx7_1, hx5_2⟩ := at_T61 HR2_3.out x1_5 p11 q9; cases e1; replace hx7_0 := zx HB hx7_0; replace hx7_1 := zx HB hx7_1; replace hx5_2 := zx HB hx5_2; replace p11 := eq_true p11; replace q9 := eq_true q9; go_wp2
                   repeat (go_quiet (fail); try go_wp2)
                   go_ret
                   exact ⟨q11z, q3z HB GE1 GE2⟩
                  ·rw [if_neg c34] at H; have c17b0 : (!(((rd_T61 l0_3 x1_5).f0) == ((rd_T61 l1_3 x1_5).f0)) || (!((((rd_T61 l0_3 x1_5).f1).toList) == (((rd_T61 l1_3 x1_5).f1).toList)) || (!(((rd_T61 l0_3 x1_5).f2) == ((rd_T61 l1_3 x1_5).f2))))) = false := by simpa using c34
                   clear c34; have H' := aM H; clear H; have hnb1 := NB1_394.out; have hnc1 := NB1_393.out; obtain ⟨i26_0, i26_1, i26_2, i26_3, i26_4, j26_0, j26_1, j26_2, j26_3, j26_4⟩ := cells5 BK1.out; have p11 : 0 ≤ (x1_5 : Int) := zod; have q9 : x1_5 < (l0_3.length : Int) := zod; obtain ⟨ad1, e1, hx7_0, hx7_1, hx5_2⟩ := at_T61 HR1_3.out x1_5 p11 q9; cases e1; replace hx7_0 := zx HB hx7_0; replace hx7_1 := zx HB hx7_1; replace hx5_2 := zx HB hx5_2; replace p11 := eq_true p11; replace q9 := eq_true q9; obtain ⟨i26_0, i26_1, i26_2, i26_3, i26_4, j26_0, j26_1, j26_2, j26_3, j26_4⟩ := cells5 BK2.out; have p11 : 0 ≤ (x1_5 : Int) := zod; have q9 : x1_5 < (l1_3.length : Int) := zod; obtain ⟨ad1, e1, hx7_0, hx7_1, hx5_2⟩ := at_T61 HR2_3.out x1_5 p11 q9; cases e1; replace hx7_0 := zx HB hx7_0; replace hx7_1 := zx HB hx7_1; replace hx5_2 := zx HB hx5_2; replace p11 := eq_true p11; replace q9 := eq_true q9; go_wp2
                   repeat (go_quiet (fail); try go_wp2)
                   go_roundg k1
                   case measure => have := HJ1.out; have := HK1.out; have := HK2.out; have := HK3.out; have := HK4.out; omega
                   case rel => exact ⟨(wrap64 (x1_5 + 1)), q13z, H', ⟨by have := HJ1.out; have := HK1.out; have := HK2.out; have := HK3.out; have := HK4.out; omega⟩, ⟨q10z BK1⟩, ⟨q10z BK2⟩, ⟨q3z HB GE1 GE2⟩⟩
                 ·rw [if_neg c32] at H; exact absurd H (by simp)
                ·rw [if_neg c31] at H; exact absurd H (by simp)
               ·rw [if_neg c29] at H; have c17b0 := decide_eq_false c29; clear c29; have H' := aM H; clear H; have hnb1 := NB1_394.out; have hnc1 := NB1_393.out; obtain ⟨i26_0, i26_1, i26_2, i26_3, i26_4, j26_0, j26_1, j26_2, j26_3, j26_4⟩ := cells5 BK1.out; go_wp2
                repeat (go_quiet (fail); try go_wp2)
                go_loopg [9] k1 (fun kq v1 w' => ∃ (x1_6 : Int), v1 = .int .i64 x1_6 ∧ Aside0 (r9_Same.l4 kq x1_6 l0_0 l0_1 l0_2 l0_3 l0_4 l1_0 l1_1 l1_2 l1_3 l1_4 = some r) ∧ Aside0 (kq ≤ k1) ∧ Aside0 (w'.heap[gb1]? = some (.cells #[(.slice A0_0 l0_0.length c0_0), (.slice A0_1 l0_1.length c0_1), (.slice A0_2 l0_2.length c0_2), (.slice A0_3 l0_3.length c0_3), (.slice A0_4 l0_4.length c0_4)] 27 (0, 0))) ∧ Aside0 (w'.heap[gb2]? = some (.cells #[(.slice A1_0 l1_0.length c1_0), (.slice A1_1 l1_1.length c1_1), (.slice A1_2 l1_2.length c1_2), (.slice A1_3 l1_3.length c1_3), (.slice A1_4 l1_4.length c1_4)] 27 (0, 0))) ∧ Aside0 (Below w.heap.size w w'))
                case atStart => exact ⟨(0), q13z, H', ⟨Nat.le_refl _⟩, ⟨q10z BK1⟩, ⟨q10z BK2⟩, ⟨q3z HB GE1 GE2⟩⟩
                case round =>
                 clear H'; try clear c1
                 try clear c2
                 try clear p2
                 try clear c3
                 try clear p3
                 try clear q3
                 try clear hx3
                 try clear c4
                 try clear p4
                 try clear q4
                 try clear hx4
                 try clear c5
                 try clear c6
                 try clear c1b0
                 try clear c1b1
                 try clear c1b2
                 try clear p6
                 try clear c7
                 try clear c2b0
                 try clear c2b1
                 try clear c2b2
                 try clear c8
                 try clear c3b0
                 try clear c3b1
                 try clear c3b2
                 try clear c9
                 try clear c4b0
                 try clear c4b1
                 try clear c4b2
                 try clear c10
                 try clear c13
                 try clear c15
                 try clear c16
                 try clear c19
                 try clear c22
                 try clear c11
                 try clear c12
                 try clear c5b0
                 try clear c14
                 try clear c6b0
                 try clear c17
                 try clear c7b0
                 try clear c18
                 try clear c8b0
                 try clear c30
                 try clear c33
                 try clear c36
                 try clear c20
                 try clear c9b0
                 try clear c21
                 try clear c10b0
                 try clear p39
                 try clear q39
                 try clear hx39
                 try clear c23
                 try clear c11b0
                 try clear p40
                 try clear q40
                 try clear hx40
                 try clear c24
                 try clear c12b0
                 try clear c42
                 try clear c45
                 try clear c48
                 try clear c25
                 try clear c13b0
                 try clear c26
                 try clear c14b0
                 try clear c27
                 try clear c15b0
                 try clear c28
                 try clear c16b0
                 try clear c54
                 try clear c57
                 try clear c60
                 try clear c29
                 try clear c17b0
                 try clear c6
                 try clear c1b0
                 try clear c6
                 try clear c1b0
                 try clear p64
                 try clear c6
                 try clear c1b0
                 try clear c66
                 try clear c69
                 try clear c72
                 try clear i1_0 i1_1 i1_2 i1_3 i1_4
                 try clear i2_0 i2_1 i2_2 i2_3 i2_4
                 try clear i3_0 i3_1 i3_2 i3_3 i3_4
                 try clear i4_0 i4_1 i4_2 i4_3 i4_4
                 try clear i5_0 i5_1 i5_2 i5_3 i5_4
                 try clear i6_0 i6_1 i6_2 i6_3 i6_4
                 try clear i7_0 i7_1 i7_2 i7_3 i7_4
                 try clear i8_0 i8_1 i8_2 i8_3 i8_4
                 try clear i9_0 i9_1 i9_2 i9_3 i9_4
                 try clear i10_0 i10_1 i10_2 i10_3 i10_4
                 try clear i12_0 i12_1 i12_2 i12_3 i12_4
                 try clear i13_0 i13_1 i13_2 i13_3 i13_4
                 try clear i14_0 i14_1 i14_2 i14_3 i14_4
                 try clear i15_0 i15_1 i15_2 i15_3 i15_4
                 try clear i11_0 i11_1 i11_2 i11_3 i11_4
                 try clear i17_0 i17_1 i17_2 i17_3 i17_4
                 try clear i18_0 i18_1 i18_2 i18_3 i18_4
                 try clear i19_0 i19_1 i19_2 i19_3 i19_4
                 try clear i20_0 i20_1 i20_2 i20_3 i20_4
                 try clear i16_0 i16_1 i16_2 i16_3 i16_4
                 try clear i22_0 i22_1 i22_2 i22_3 i22_4
                 try clear i23_0 i23_1 i23_2 i23_3 i23_4
                 try clear i24_0 i24_1 i24_2 i24_3 i24_4
                 try clear i25_0 i25_1 i25_2 i25_3 i25_4
                 try clear i21_0 i21_1 i21_2 i21_3 i21_4
                 try clear i1_0 i1_1 i1_2 i1_3 i1_4 i1_0 i1_1 i1_2 i1_3 i1_4 i1_0 i1_1 i1_2 i1_3 i1_4 i1_0 i1_1 i1_2 i1_3 i1_4
                 try clear i26_0 i26_1 i26_2 i26_3 i26_4
                 try clear j1_0 j1_1 j1_2 j1_3 j1_4
                 try clear j2_0 j2_1 j2_2 j2_3 j2_4
                 try clear j3_0 j3_1 j3_2 j3_3 j3_4
                 try clear j4_0 j4_1 j4_2 j4_3 j4_4
                 try clear j5_0 j5_1 j5_2 j5_3 j5_4
                 try clear j6_0 j6_1 j6_2 j6_3 j6_4
                 try clear j7_0 j7_1 j7_2 j7_3 j7_4
                 try clear j8_0 j8_1 j8_2 j8_3 j8_4
                 try clear j9_0 j9_1 j9_2 j9_3 j9_4
                 try clear j10_0 j10_1 j10_2 j10_3 j10_4
                 try clear j12_0 j12_1 j12_2 j12_3 j12_4
                 try clear j13_0 j13_1 j13_2 j13_3 j13_4
                 try clear j14_0 j14_1 j14_2 j14_3 j14_4
                 try clear j15_0 j15_1 j15_2 j15_3 j15_4
                 try clear j11_0 j11_1 j11_2 j11_3 j11_4
                 try clear j17_0 j17_1 j17_2 j17_3 j17_4
                 try clear j18_0 j18_1 j18_2 j18_3 j18_4
                 try clear j19_0 j19_1 j19_2 j19_3 j19_4
                 try clear j20_0 j20_1 j20_2 j20_3 j20_4
                 try clear j16_0 j16_1 j16_2 j16_3 j16_4
                 try clear j22_0 j22_1 j22_2 j22_3 j22_4
                 try clear j23_0 j23_1 j23_2 j23_3 j23_4
                 try clear j24_0 j24_1 j24_2 j24_3 j24_4
                 try clear j25_0 j25_1 j25_2 j25_3 j25_4
                 try clear j21_0 j21_1 j21_2 j21_3 j21_4
                 try clear j1_0 j1_1 j1_2 j1_3 j1_4 j1_0 j1_1 j1_2 j1_3 j1_4 j1_0 j1_1 j1_2 j1_3 j1_4 j1_0 j1_1 j1_2 j1_3 j1_4
                 try clear j26_0 j26_1 j26_2 j26_3 j26_4
                 try clear hx1_0
                 try clear hx1_1
                 try clear hx1_2
                 try clear hx1_3
                 try clear hx1_4
                 try clear hx1_5
                 try clear hx1_6
                 try clear hx2_0
                 try clear hx2_1
                 try clear hx2_2
                 try clear hx2_3
                 try clear hx2_4
                 try clear hx2_5
                 try clear hx2_6
                 try clear hx3_0
                 try clear hx3_1
                 try clear hx4_0
                 try clear hx4_1
                 try clear hx5_0
                 try clear hx5_1
                 try clear hx3_2
                 try clear hx3_3
                 try clear hx6_0
                 try clear hx6_1
                 try clear hx4_2
                 try clear hx4_3
                 try clear hx1_0
                 try clear hx1_1
                 try clear hx1_2
                 try clear hx1_0
                 try clear hx1_1
                 try clear hx1_2
                 try clear p2
                 try clear p3
                 try clear p39
                 try clear p1
                 try clear p5
                 try clear p7
                 try clear p8
                 try clear p9
                 try clear p4
                 try clear p40
                 try clear p10
                 try clear p1
                 try clear p1
                 try clear p6
                 try clear q3
                 try clear q39
                 try clear q1
                 try clear q2
                 try clear q5
                 try clear q6
                 try clear q7
                 try clear q4
                 try clear q40
                 try clear q8
                 try clear q1
                 try clear q1
                 obtain ⟨x1_6, rfl, HA, HK5, BK1, BK2, HB⟩ := hrel; cases gk with
                 | zero => exact absurd HA.out (by simp [r9_Same.l4])
                 | succ k1 =>
                  have H := HA.out; clear HA; simp only [r9_Same.l4] at H; by_cases c6 : x1_6 < (l0_4.length : Int)
                  ·rw [if_pos c6] at H; have c1b0 := decide_eq_true c6; clear c6; by_cases c7 : 0 ≤ x1_6
                   ·rw [if_pos c7] at H; have c1b0 := decide_eq_true c7; clear c7; by_cases c8 : x1_6 < (l1_4.length : Int)
                    ·rw [if_pos c8] at H; have c1b0 := decide_eq_true c8; clear c8; by_cases c9 : (!((((rd_T47 l0_4 x1_6).f0).toList) == (((rd_T47 l1_4 x1_6).f0).toList)) || (!(((rd_T47 l0_4 x1_6).f1) == ((rd_T47 l1_4 x1_6).f1)))) = true
                     ·rw [if_pos c9] at H; have c1b0 : (!((((rd_T47 l0_4 x1_6).f0).toList) == (((rd_T47 l1_4 x1_6).f0).toList)) || (!(((rd_T47 l0_4 x1_6).f1) == ((rd_T47 l1_4 x1_6).f1)))) = true := c9; clear c9; obtain rfl := Option.some.inj H; have hnb1 := NB1_394.out; have hnc1 := NB1_393.out; obtain ⟨i1_0, i1_1, i1_2, i1_3, i1_4, j1_0, j1_1, j1_2, j1_3, j1_4⟩ := cells5 BK1.out; have p1 : 0 ≤ (x1_6 : Int) := zod; have q1 : x1_6 < (l0_4.length : Int) := zod; obtain ⟨ad1, e1, hx1_0, hx1_1⟩ := at_T47 HR1_4.out x1_6 p1 q1; cases e1; replace hx1_0 := zx HB hx1_0; replace hx1_1 := zx HB hx1_1; replace p1 := eq_true p1; replace q1 := eq_true q1; obtain ⟨i1_0, i1_1, i1_2, i1_3, i1_4, j1_0, j1_1, j1_2, j1_3, j1_4⟩ := cells5 BK2.out; have p1 : 0 ≤ (x1_6 : Int) := zod; have q1 : x1_6 < (l1_4.length : Int) := zod; obtain ⟨ad1, e1, hx1_0, hx1_1⟩ := at_T47 HR2_4.out x1_6 p1 q1; cases e1; replace hx1_0 := zx HB hx1_0; replace hx1_1 := zx HB hx1_1; replace p1 := eq_true p1; replace q1 := eq_true q1; go_wp2
                      repeat (go_quiet (fail); try go_wp2)
                      go_ret
                      exact ⟨q11z, q3z HB GE1 GE2⟩
                     ·rw [if_neg c9] at H; have c1b0 : (!((((rd_T47 l0_4 x1_6).f0).toList) == (((rd_T47 l1_4 x1_6).f0).toList)) || (!(((rd_T47 l0_4 x1_6).f1) == ((rd_T47 l1_4 x1_6).f1)))) = false := by simpa using c9
                      clear c9; have H' := aM H; clear H; have hnb1 := NB1_394.out; have hnc1 := NB1_393.out; obtain ⟨i1_0, i1_1, i1_2, i1_3, i1_4, j1_0, j1_1, j1_2, j1_3, j1_4⟩ := cells5 BK1.out; have p1 : 0 ≤ (x1_6 : Int) := zod; have q1 : x1_6 < (l0_4.length : Int) := zod; obtain ⟨ad1, e1, hx1_0, hx1_1⟩ := at_T47 HR1_4.out x1_6 p1 q1; cases e1; replace hx1_0 := zx HB hx1_0; replace hx1_1 := zx HB hx1_1; replace p1 := eq_true p1; replace q1 := eq_true q1; obtain ⟨i1_0, i1_1, i1_2, i1_3, i1_4, j1_0, j1_1, j1_2, j1_3, j1_4⟩ := cells5 BK2.out; have p1 : 0 ≤ (x1_6 : Int) := zod; have q1 : x1_6 < (l1_4.length : Int) := zod; obtain ⟨ad1, e1, hx1_0, hx1_1⟩ := at_T47 HR2_4.out x1_6 p1 q1; cases e1; replace hx1_0 := zx HB hx1_0; replace hx1_1 := zx HB hx1_1; replace p1 := eq_true p1; replace q1 := eq_true q1; go_wp2
                      repeat (go_quiet (fail); try go_wp2)
                      go_roundg k1
                      case measure => have := HJ1.out; have := HK1.out; have := HK2.out; have := HK3.out; have := HK4.out; have := HK5.out; omega
                      case rel => exact ⟨(wrap64 (x1_6 + 1)), q13z, H', ⟨by have := HJ1.out; have := HK1.out; have := HK2.out; have := HK3.out; have := HK4.out; have := HK5.out; omega⟩, ⟨q10z BK1⟩, ⟨q10z BK2⟩, ⟨q3z HB GE1 GE2⟩⟩
                    ·rw [if_neg c8] at H; exact absurd H (by simp)
                   ·rw [if_neg c7] at H; exact absurd H (by simp)
                  ·rw [if_neg c6] at H; have c1b0 := decide_eq_false c6; clear c6; obtain rfl := Option.some.inj H; have hnb1 := NB1_394.out; have hnc1 := NB1_393.out; obtain ⟨i1_0, i1_1, i1_2, i1_3, i1_4, j1_0, j1_1, j1_2, j1_3, j1_4⟩ := cells5 BK1.out; exact z75_2
def r9_First.l0 : Nat → List Int → Int → List (S41) → List (S47) → List (S43) → List (S61) → List (S47) → Option (List Int)
 | 0, _, _, _, _, _, _, _ => none
 | k + 1, x3, x4, x427000, x427001, x427002, x427003, x427004 => if x4 < (x427002.length : Int) then (if 0 ≤ x4 then (if x3.length < 17592186044416 then (r9_First.l0 k (x3 ++ [(rd_T43 x427002 x4).f3]) (wrap64 (x4 + 1)) x427000 x427001 x427002 x427003 x427004) else (none)) else (none)) else (some x3)
def r9_First.f (k : Nat) (l0_0 : List (S41)) (l0_1 : List (S47)) (l0_2 : List (S43)) (l0_3 : List (S61)) (l0_4 : List (S47)) : Option (List Int) := r9_First.l0 k ([] : List Int) 0 l0_0 l0_1 l0_2 l0_3 l0_4
theorem r9_First.mono_l : ∀ k, (∀ y0 y1 y2 y3 y4 y5 y6, LeO (r9_First.l0 k y0 y1 y2 y3 y4 y5 y6) (r9_First.l0 (k + 1) y0 y1 y2 y3 y4 y5 y6))
 | 0 => fun _ _ _ _ _ _ _ r h => by simp [r9_First.l0] at h
 | k + 1 => by
  have ih0 := r9_First.mono_l k
  ·intro y0 y1 y2 y3 y4 y5 y6
   unfold r9_First.l0
   repeat' first | (with_reducible first | apply ih0 | exact LeO.refl _ | exact LeO.none _ | refine LeO.ite ?_ ?_ | refine LeO.bind ?_ (fun _ => ?_)) | exact LeO.none _ | refine LeO.ite ?_ ?_ | refine LeO.bind ?_ (fun _ => ?_)
theorem r9_First.mono : ∀ a0 a1 a2 a3 a4 k, LeO (r9_First.f k a0 a1 a2 a3 a4) (r9_First.f (k + 1) a0 a1 a2 a3 a4) := by
 intro a0 a1 a2 a3 a4 k
 have ih1 := r9_First.mono_l k; unfold r9_First.f
 repeat' first | (with_reducible first | apply ih1 | exact LeO.refl _ | exact LeO.none _ | refine LeO.ite ?_ ?_ | refine LeO.bind ?_ (fun _ => ?_)) | exact LeO.none _ | refine LeO.ite ?_ ?_ | refine LeO.bind ?_ (fun _ => ?_)
theorem r9_First.calls (k : Nat) (A0_0 : Option Addr) (c0_0 : Nat) (l0_0 : List (S41)) (A0_1 : Option Addr) (c0_1 : Nat) (l0_1 : List (S47)) (A0_2 : Option Addr) (c0_2 : Nat) (l0_2 : List (S43)) (A0_3 : Option Addr) (c0_3 : Nat) (l0_3 : List (S61)) (A0_4 : Option Addr) (c0_4 : Nat) (l0_4 : List (S47)) (r : List Int) (w : World) (hr0_0 : Kd.C k41 w A0_0 l0_0.length l0_0) (hc0_0 : l0_0.length ≤ c0_0) (hr0_1 : Kd.C k47 w A0_1 l0_1.length l0_1) (hc0_1 : l0_1.length ≤ c0_1) (hr0_2 : Kd.C k43 w A0_2 l0_2.length l0_2) (hc0_2 : l0_2.length ≤ c0_2) (hr0_3 : Kd.C k61 w A0_3 l0_3.length l0_3) (hc0_3 : l0_3.length ≤ c0_3) (hr0_4 : Kd.C k47 w A0_4 l0_4.length l0_4) (hc0_4 : l0_4.length ≤ c0_4) (h : r9_First.f k l0_0 l0_1 l0_2 l0_3 l0_4 = some r) :
  Calls Try.prog 19 #[.agg #[.slice A0_0 l0_0.length c0_0, .slice A0_1 l0_1.length c0_1, .slice A0_2 l0_2.length c0_2, .slice A0_3 l0_3.length c0_3, .slice A0_4 l0_4.length c0_4]] w fun e w' => ∃ v0_ : Value, e = .returned (v0_) ∧ Kd.R (Kd.int .i64) 3 w' w.heap.size (fun _ => True) v0_ r ∧ Below w.heap.size w w' := by
 have hu1 := Try.underlying27; have HR1_0 := aM hr0_0; have HC1_0 := aM hc0_0; clear hr0_0 hc0_0; have HR1_1 := aM hr0_1; have HC1_1 := aM hc0_1; clear hr0_1 hc0_1; have HR1_2 := aM hr0_2; have HC1_2 := aM hc0_2; clear hr0_2 hc0_2; have HR1_3 := aM hr0_3; have HC1_3 := aM hc0_3; clear hr0_3 hc0_3; have HR1_4 := aM hr0_4; have HC1_4 := aM hc0_4; clear hr0_4 hc0_4; have HB := aM (Below.refl w.heap.size w); have H : (r9_First.l0 k ([] : List Int) 0 l0_0 l0_1 l0_2 l0_3 l0_4) = some r := h; clear h; have H' := aM H; clear H; go_enter Try.func19, Try.ntmps19
 go_wp2_with (first | ((with_reducible refine zgd 1 rfl ?_); refine zbox 1 #[.slice A0_0 l0_0.length c0_0, .slice A0_1 l0_1.length c0_1, .slice A0_2 l0_2.length c0_2, .slice A0_3 l0_3.length c0_3, .slice A0_4 l0_4.length c0_4] 27 ?_; intro gb1 hg w1 hbox hb; have BK1 := aM (hbox); have GW1 := aM ((q7z HB : w.heap.size ≤ gb1)); have GE1 := aM ((q7z HB : w.heap.size ≤ gb1)); replace HB := aM (ym (q5z HB) hb); clear hb hbox hg))
 go_loopg [3, 4] k (fun kq v1 v2 w' => ∃ (x1_1 : List Int) (x2_1 : Int), v2 = .int .i64 x2_1 ∧ Aside0 (r9_First.l0 kq x1_1 x2_1 l0_0 l0_1 l0_2 l0_3 l0_4 = some r) ∧ Aside0 (kq ≤ k) ∧ Aside0 (Kd.R (Kd.int .i64) 3 w' w.heap.size (fun _ => True) v1 x1_1) ∧ Aside0 (w'.heap[gb1]? = some (.cells #[(.slice A0_0 l0_0.length c0_0), (.slice A0_1 l0_1.length c0_1), (.slice A0_2 l0_2.length c0_2), (.slice A0_3 l0_3.length c0_3), (.slice A0_4 l0_4.length c0_4)] 27 (0, 0))) ∧ Aside0 (Below w.heap.size w w'))
 case atStart => exact ⟨(([] : List Int)), (0), q13z, H', ⟨Nat.le_refl _⟩, ⟨q57z⟩, ⟨q10z BK1⟩, ⟨q4z HB GE1⟩⟩
 case round =>
  clear H'; try clear c1
  try clear p2
  obtain ⟨x1_1, x2_1, rfl, HA, HK1, HO_1, BK1, HB⟩ := hrel; cases gk with
  | zero => exact absurd HA.out (by simp [r9_First.l0])
  | succ k1 =>
   have H := HA.out; clear HA; simp only [r9_First.l0] at H; by_cases c2 : x2_1 < (l0_2.length : Int)
   ·rw [if_pos c2] at H; have c1b0 := decide_eq_true c2; clear c2; by_cases c3 : 0 ≤ x2_1
    ·rw [if_pos c3] at H; have c1b0 := decide_eq_true c3; clear c3; by_cases c4 : x1_1.length < 17592186044416
     ·rw [if_pos c4] at H; have LMc1 := aM c4; clear c4; obtain ⟨y1, hy1⟩ : ∃ y_ : List Int, y_ = (x1_1 ++ [(rd_T43 l0_2 x2_1).f3]) := ⟨_, rfl⟩; replace H : (r9_First.l0 k1 y1 (wrap64 (x2_1 + 1)) l0_0 l0_1 l0_2 l0_3 l0_4) = some r := by first | (rw [hy1]; with_reducible exact H) | (have H1_ := (Option.bind_some _ _).symm.trans H; rw [hy1]; with_reducible exact H1_) | (have H1_ := (Option.bind_some _ _).symm.trans H; with_reducible exact H1_) | with_reducible exact H | (rw [hy1]; exact H) | exact H
      have Ny1 := aM hy1; clear hy1; have H' := aM H; clear H; obtain ⟨i1_0, i1_1, i1_2, i1_3, i1_4, j1_0, j1_1, j1_2, j1_3, j1_4⟩ := cells5 BK1.out; have p1 : 0 ≤ (x2_1 : Int) := zod; have q1 : x2_1 < (l0_2.length : Int) := zod; obtain ⟨ad1, e1, hx1_0, hx1_1, hx1_2, hx1_3⟩ := at_T43 HR1_2.out x2_1 p1 q1; cases e1; replace hx1_0 := zx HB hx1_0; replace hx1_1 := zx HB hx1_1; replace hx1_2 := zx HB hx1_2; replace hx1_3 := zx HB hx1_3; replace p1 := eq_true p1; replace q1 := eq_true q1; go_wp2_with (first | ((with_reducible refine gate_builtin (b := .append) (xs := #[.tmp 12, .tmp 19]) rfl ?_); at_builtin; refine Kd.R_append (Kd.int .i64) (w0 := w) w.heap.size rfl (.tmp 12) (.tmp 19) 32 3 (.int .i64 0) 8 rfl Try.underlying32 info3 rfl (by decide) (by omega) u3 x1_1 ((rd_T43 l0_2 x2_1).f3) [.int .i64 ((rd_T43 l0_2 x2_1).f3)] (fun _ => True) (fun _ => False) rfl rfl ?aP (fun _ hk => hk.elim) ?aF ?aO ?aB ?aS ?aL ?_; (case aP => exact rfl); (case aB => exact q41z HB GE1); (case aF => exact q84z); (case aO => exact q44z HO_1); (case aS => exact q40z HB GE1); (case aL => have := LMc1.out; omega); intro v1 w1 ho hb hg hat; rw [← Ny1.out] at ho; replace BK1 := aM (blk_grown (g := gb1) (o := .cells #[.slice A0_0 l0_0.length c0_0, .slice A0_1 l0_1.length c0_1, .slice (some ad1) l0_2.length c0_2, .slice A0_3 l0_3.length c0_3, .slice A0_4 l0_4.length c0_4] 27 (0, 0)) (zi BK1) hg (Kd.R_ne HO_1.out BK1.out (by decide))); replace HB := aM (hb); have HO1 := aM (ho); clear HO_1; clear ho hb hg hat))
      go_roundg k1
      case measure => have := HK1.out; omega
      case rel => exact ⟨(y1), (wrap64 (x2_1 + 1)), q13z, H', ⟨by have := HK1.out; omega⟩, ⟨q2z HO1⟩, ⟨q10z BK1⟩, ⟨q4z HB GE1⟩⟩
     ·rw [if_neg c4] at H; exact absurd H (by simp)
    ·rw [if_neg c3] at H; exact absurd H (by simp)
   ·rw [if_neg c2] at H; have c1b0 := decide_eq_false c2; clear c2; obtain rfl := Option.some.inj H; obtain ⟨i1_0, i1_1, i1_2, i1_3, i1_4, j1_0, j1_1, j1_2, j1_3, j1_4⟩ := cells5 BK1.out; go_wp2
    go_ret
    exact ⟨_, q11z, q2z HO_1, q4z HB GE1⟩
def r8_one.f (a0 : Bool) : Option (Int) := if a0 = true then (some 1) else (some 0)
theorem z78_1 {P : Prop} (h : P := by
 clear H; have H := H1; clear H1; obtain rfl := Option.some.inj H; go_enter Try.func55, Try.ntmps55
 go_wp2
 go_ret
 exact ⟨q13z, q21z⟩) : P := h
theorem r8_one.calls (a0 : Bool) (r : Int) (w : World) (h : r8_one.f a0 = some r) :
  Calls Try.prog 55 #[.bool a0] w fun e w' => e = .returned (.int .i64 r) ∧ Drawn0 w w' := by
 have H : (if a0 = true then (some 1) else (some 0)) = some r := h; clear h; by_cases c1 : a0 = true
 ·subst c1; have H1 : (some 1) = some r := by rw [if_pos rfl] at H; exact H
  exact z78_1
 ·replace c1 := Bool.eq_false_iff.mpr c1; subst c1; have H1 : (some 0) = some r := by rw [if_neg (show ¬ (false = true) by decide)] at H; exact H
  exact z78_1
def r8_more.f (a0_0 : Int) (a0_1 : Int) (a0_2 : Int) (a0_3 : Int) (a0_4 : Int) (a0_5 : Int) (a0_6 : Int) (a1 : Int) (a2 : Int) (a3 : Int) (a4 : Int) : Option (Int) := if a0_0 = 12 then ((r8_one.f (a1 == a2)).bind fun t432 => (some t432)) else (if a0_0 = 13 then ((r8_one.f (a1 != a2)).bind fun t433 => (some t433)) else (if a0_0 = 14 then ((r8_one.f (decide (a1 < a2))).bind fun t434 => (some t434)) else (if a0_0 = 15 then ((r8_one.f (decide (a1 ≤ a2))).bind fun t435 => (some t435)) else (if a0_0 = 16 then (if a1 = 1 then (some a2) else (some a3)) else (if a0_0 = 17 then (if 0 ≤ a4 then (some (wrap64 ((shl .i64 a1 a4) + a2))) else (none)) else (if a0_0 = 18 then (if 0 ≤ a0_6 then ((r8_Mask.f (wrap64 ((wrap64 (a0_5 - a0_6)) + 1))).bind fun t436 => (some (Go.bits .and .i64 (shr .i64 a1 a0_6) t436))) else (none)) else (some 0)))))))
theorem z79_1 {P : Prop} (h : P := by
 obtain rfl := Option.some.inj H; go_enter Try.func56, Try.ntmps56
 go_wp2_with (first | ((with_reducible refine zgd 5 rfl ?_); refine zbox 5 #[.int .i64 a0_0, .int .i64 a0_1, .int .i64 a0_2, .int .i64 a0_3, .int .i64 a0_4, .int .i64 a0_5, .int .i64 a0_6] 41 ?_; intro gb1 hg w1 hbox hb; have BK1 := aM (hbox); have GW1 := aM ((q7z HB : w.heap.size ≤ gb1)); have GE1 := aM ((q7z HB : w.heap.size ≤ gb1)); replace HB := aM (ym (q5z HB) hb); clear hb hbox hg; obtain ⟨i1_0, i1_1, i1_2, i1_3, i1_4, i1_5, i1_6, j1_0, j1_1, j1_2, j1_3, j1_4, j1_5, j1_6⟩ := cells7 BK1.out))
 repeat (go_quiet (first | ((with_reducible refine zgd 5 rfl ?_); refine zbox 5 #[.int .i64 a0_0, .int .i64 a0_1, .int .i64 a0_2, .int .i64 a0_3, .int .i64 a0_4, .int .i64 a0_5, .int .i64 a0_6] 41 ?_; intro gb1 hg w1 hbox hb; have BK1 := aM (hbox); have GW1 := aM ((q7z HB : w.heap.size ≤ gb1)); have GE1 := aM ((q7z HB : w.heap.size ≤ gb1)); replace HB := aM (ym (q5z HB) hb); clear hb hbox hg; obtain ⟨i1_0, i1_1, i1_2, i1_3, i1_4, i1_5, i1_6, j1_0, j1_1, j1_2, j1_3, j1_4, j1_5, j1_6⟩ := cells7 BK1.out)); try go_wp2_with (first | ((with_reducible refine zgd 5 rfl ?_); refine zbox 5 #[.int .i64 a0_0, .int .i64 a0_1, .int .i64 a0_2, .int .i64 a0_3, .int .i64 a0_4, .int .i64 a0_5, .int .i64 a0_6] 41 ?_; intro gb1 hg w1 hbox hb; have BK1 := aM (hbox); have GW1 := aM ((q7z HB : w.heap.size ≤ gb1)); have GE1 := aM ((q7z HB : w.heap.size ≤ gb1)); replace HB := aM (ym (q5z HB) hb); clear hb hbox hg; obtain ⟨i1_0, i1_1, i1_2, i1_3, i1_4, i1_5, i1_6, j1_0, j1_1, j1_2, j1_3, j1_4, j1_5, j1_6⟩ := cells7 BK1.out)))
 go_ret
 exact ⟨q11z, q4z HB GE1⟩) : P := h
theorem r8_more.calls (a0_0 : Int) (a0_1 : Int) (a0_2 : Int) (a0_3 : Int) (a0_4 : Int) (a0_5 : Int) (a0_6 : Int) (a1 : Int) (a2 : Int) (a3 : Int) (a4 : Int) (r : Int) (w : World) (h : r8_more.f a0_0 a0_1 a0_2 a0_3 a0_4 a0_5 a0_6 a1 a2 a3 a4 = some r) :
  Calls Try.prog 56 #[.agg #[.int .i64 a0_0, .int .i64 a0_1, .int .i64 a0_2, .int .i64 a0_3, .int .i64 a0_4, .int .i64 a0_5, .int .i64 a0_6], .int .i64 a1, .int .i64 a2, .int .i64 a3, .int .i64 a4] w fun e w' => e = .returned (.int .i64 r) ∧ Below w.heap.size w w' := by
 have hu1 := Try.underlying41; have HB := aM (Below.refl w.heap.size w); have H : (if a0_0 = 12 then ((r8_one.f (a1 == a2)).bind fun t1 => (some t1)) else (if a0_0 = 13 then ((r8_one.f (a1 != a2)).bind fun t2 => (some t2)) else (if a0_0 = 14 then ((r8_one.f (decide (a1 < a2))).bind fun t3 => (some t3)) else (if a0_0 = 15 then ((r8_one.f (decide (a1 ≤ a2))).bind fun t4 => (some t4)) else (if a0_0 = 16 then (if a1 = 1 then (some a2) else (some a3)) else (if a0_0 = 17 then (if 0 ≤ a4 then (some (wrap64 ((shl .i64 a1 a4) + a2))) else (none)) else (if a0_0 = 18 then (if 0 ≤ a0_6 then ((r8_Mask.f (wrap64 ((wrap64 (a0_5 - a0_6)) + 1))).bind fun t5 => (some (Go.bits .and .i64 (shr .i64 a1 a0_6) t5))) else (none)) else (some 0)))))))) = some r := h; clear h; by_cases c1 : a0_0 = 12
 ·rw [if_pos c1] at H; obtain ⟨c1b0, c1b1⟩ := zeq c1; clear c1; replace H := Option.bind_eq_some_iff.mp H; obtain ⟨t1, A1, H⟩ := H; have A2 := aM A1; clear A1; obtain rfl := Option.some.inj H; go_enter Try.func56, Try.ntmps56
  go_wp2_with (first | ((with_reducible refine zgd 5 rfl ?_); refine zbox 5 #[.int .i64 a0_0, .int .i64 a0_1, .int .i64 a0_2, .int .i64 a0_3, .int .i64 a0_4, .int .i64 a0_5, .int .i64 a0_6] 41 ?_; intro gb1 hg w1 hbox hb; have BK1 := aM (hbox); have GW1 := aM ((q7z HB : w.heap.size ≤ gb1)); have GE1 := aM ((q7z HB : w.heap.size ≤ gb1)); replace HB := aM (ym (q5z HB) hb); clear hb hbox hg; obtain ⟨i1_0, i1_1, i1_2, i1_3, i1_4, i1_5, i1_6, j1_0, j1_1, j1_2, j1_3, j1_4, j1_5, j1_6⟩ := cells7 BK1.out) | (go_at_call 55; (with_reducible refine (r8_one.calls (a1 == a2) t1 _ A2.out).mono ?_); rintro e w' ⟨rfl, ⟨nd, rfl⟩⟩; (try first | exact ⟨rfl, _, World.drewN_drewN _ _ _⟩ | exact ⟨rfl, _, Eq.trans (World.drewN_drewN _ _ _) (congrArg (World.drewN _) (Nat.add_assoc _ _ _))⟩)))
  repeat (go_quiet (first | ((with_reducible refine zgd 5 rfl ?_); refine zbox 5 #[.int .i64 a0_0, .int .i64 a0_1, .int .i64 a0_2, .int .i64 a0_3, .int .i64 a0_4, .int .i64 a0_5, .int .i64 a0_6] 41 ?_; intro gb1 hg w1 hbox hb; have BK1 := aM (hbox); have GW1 := aM ((q7z HB : w.heap.size ≤ gb1)); have GE1 := aM ((q7z HB : w.heap.size ≤ gb1)); replace HB := aM (ym (q5z HB) hb); clear hb hbox hg; obtain ⟨i1_0, i1_1, i1_2, i1_3, i1_4, i1_5, i1_6, j1_0, j1_1, j1_2, j1_3, j1_4, j1_5, j1_6⟩ := cells7 BK1.out) | (go_at_call 55; (with_reducible refine (r8_one.calls (a1 == a2) t1 _ A2.out).mono ?_); rintro e w' ⟨rfl, ⟨nd, rfl⟩⟩; (try first | exact ⟨rfl, _, World.drewN_drewN _ _ _⟩ | exact ⟨rfl, _, Eq.trans (World.drewN_drewN _ _ _) (congrArg (World.drewN _) (Nat.add_assoc _ _ _))⟩))); try go_wp2_with (first | ((with_reducible refine zgd 5 rfl ?_); refine zbox 5 #[.int .i64 a0_0, .int .i64 a0_1, .int .i64 a0_2, .int .i64 a0_3, .int .i64 a0_4, .int .i64 a0_5, .int .i64 a0_6] 41 ?_; intro gb1 hg w1 hbox hb; have BK1 := aM (hbox); have GW1 := aM ((q7z HB : w.heap.size ≤ gb1)); have GE1 := aM ((q7z HB : w.heap.size ≤ gb1)); replace HB := aM (ym (q5z HB) hb); clear hb hbox hg; obtain ⟨i1_0, i1_1, i1_2, i1_3, i1_4, i1_5, i1_6, j1_0, j1_1, j1_2, j1_3, j1_4, j1_5, j1_6⟩ := cells7 BK1.out) | (go_at_call 55; (with_reducible refine (r8_one.calls (a1 == a2) t1 _ A2.out).mono ?_); rintro e w' ⟨rfl, ⟨nd, rfl⟩⟩; (try first | exact ⟨rfl, _, World.drewN_drewN _ _ _⟩ | exact ⟨rfl, _, Eq.trans (World.drewN_drewN _ _ _) (congrArg (World.drewN _) (Nat.add_assoc _ _ _))⟩))))
  go_ret
  exact ⟨q11z, q4z HB GE1⟩
 ·rw [if_neg c1] at H; obtain ⟨c1b0, c1b1⟩ := zne c1; by_cases c1 : a0_0 = 13
  ·rw [if_pos c1] at H; obtain ⟨c1b0, c1b1⟩ := zeq c1; clear c1; replace H := Option.bind_eq_some_iff.mp H; obtain ⟨t2, A1, H⟩ := H; have A2 := aM A1; clear A1; obtain rfl := Option.some.inj H; go_enter Try.func56, Try.ntmps56
   go_wp2_with (first | ((with_reducible refine zgd 5 rfl ?_); refine zbox 5 #[.int .i64 a0_0, .int .i64 a0_1, .int .i64 a0_2, .int .i64 a0_3, .int .i64 a0_4, .int .i64 a0_5, .int .i64 a0_6] 41 ?_; intro gb1 hg w1 hbox hb; have BK1 := aM (hbox); have GW1 := aM ((q7z HB : w.heap.size ≤ gb1)); have GE1 := aM ((q7z HB : w.heap.size ≤ gb1)); replace HB := aM (ym (q5z HB) hb); clear hb hbox hg; obtain ⟨i1_0, i1_1, i1_2, i1_3, i1_4, i1_5, i1_6, j1_0, j1_1, j1_2, j1_3, j1_4, j1_5, j1_6⟩ := cells7 BK1.out) | (go_at_call 55; (with_reducible refine (r8_one.calls (a1 != a2) t2 _ A2.out).mono ?_); rintro e w' ⟨rfl, ⟨nd, rfl⟩⟩; (try first | exact ⟨rfl, _, World.drewN_drewN _ _ _⟩ | exact ⟨rfl, _, Eq.trans (World.drewN_drewN _ _ _) (congrArg (World.drewN _) (Nat.add_assoc _ _ _))⟩)))
   repeat (go_quiet (first | ((with_reducible refine zgd 5 rfl ?_); refine zbox 5 #[.int .i64 a0_0, .int .i64 a0_1, .int .i64 a0_2, .int .i64 a0_3, .int .i64 a0_4, .int .i64 a0_5, .int .i64 a0_6] 41 ?_; intro gb1 hg w1 hbox hb; have BK1 := aM (hbox); have GW1 := aM ((q7z HB : w.heap.size ≤ gb1)); have GE1 := aM ((q7z HB : w.heap.size ≤ gb1)); replace HB := aM (ym (q5z HB) hb); clear hb hbox hg; obtain ⟨i1_0, i1_1, i1_2, i1_3, i1_4, i1_5, i1_6, j1_0, j1_1, j1_2, j1_3, j1_4, j1_5, j1_6⟩ := cells7 BK1.out) | (go_at_call 55; (with_reducible refine (r8_one.calls (a1 != a2) t2 _ A2.out).mono ?_); rintro e w' ⟨rfl, ⟨nd, rfl⟩⟩; (try first | exact ⟨rfl, _, World.drewN_drewN _ _ _⟩ | exact ⟨rfl, _, Eq.trans (World.drewN_drewN _ _ _) (congrArg (World.drewN _) (Nat.add_assoc _ _ _))⟩))); try go_wp2_with (first | ((with_reducible refine zgd 5 rfl ?_); refine zbox 5 #[.int .i64 a0_0, .int .i64 a0_1, .int .i64 a0_2, .int .i64 a0_3, .int .i64 a0_4, .int .i64 a0_5, .int .i64 a0_6] 41 ?_; intro gb1 hg w1 hbox hb; have BK1 := aM (hbox); have GW1 := aM ((q7z HB : w.heap.size ≤ gb1)); have GE1 := aM ((q7z HB : w.heap.size ≤ gb1)); replace HB := aM (ym (q5z HB) hb); clear hb hbox hg; obtain ⟨i1_0, i1_1, i1_2, i1_3, i1_4, i1_5, i1_6, j1_0, j1_1, j1_2, j1_3, j1_4, j1_5, j1_6⟩ := cells7 BK1.out) | (go_at_call 55; (with_reducible refine (r8_one.calls (a1 != a2) t2 _ A2.out).mono ?_); rintro e w' ⟨rfl, ⟨nd, rfl⟩⟩; (try first | exact ⟨rfl, _, World.drewN_drewN _ _ _⟩ | exact ⟨rfl, _, Eq.trans (World.drewN_drewN _ _ _) (congrArg (World.drewN _) (Nat.add_assoc _ _ _))⟩))))
   go_ret
   exact ⟨q11z, q4z HB GE1⟩
  ·rw [if_neg c1] at H; obtain ⟨c1b0, c1b1⟩ := zne c1; by_cases c1 : a0_0 = 14
   ·rw [if_pos c1] at H; obtain ⟨c1b0, c1b1⟩ := zeq c1; clear c1; replace H := Option.bind_eq_some_iff.mp H; obtain ⟨t3, A1, H⟩ := H; have A2 := aM A1; clear A1; obtain rfl := Option.some.inj H; go_enter Try.func56, Try.ntmps56
    go_wp2_with (first | ((with_reducible refine zgd 5 rfl ?_); refine zbox 5 #[.int .i64 a0_0, .int .i64 a0_1, .int .i64 a0_2, .int .i64 a0_3, .int .i64 a0_4, .int .i64 a0_5, .int .i64 a0_6] 41 ?_; intro gb1 hg w1 hbox hb; have BK1 := aM (hbox); have GW1 := aM ((q7z HB : w.heap.size ≤ gb1)); have GE1 := aM ((q7z HB : w.heap.size ≤ gb1)); replace HB := aM (ym (q5z HB) hb); clear hb hbox hg; obtain ⟨i1_0, i1_1, i1_2, i1_3, i1_4, i1_5, i1_6, j1_0, j1_1, j1_2, j1_3, j1_4, j1_5, j1_6⟩ := cells7 BK1.out) | (go_at_call 55; (with_reducible refine (r8_one.calls (decide (a1 < a2)) t3 _ A2.out).mono ?_); rintro e w' ⟨rfl, ⟨nd, rfl⟩⟩; (try first | exact ⟨rfl, _, World.drewN_drewN _ _ _⟩ | exact ⟨rfl, _, Eq.trans (World.drewN_drewN _ _ _) (congrArg (World.drewN _) (Nat.add_assoc _ _ _))⟩)))
    repeat (go_quiet (first | ((with_reducible refine zgd 5 rfl ?_); refine zbox 5 #[.int .i64 a0_0, .int .i64 a0_1, .int .i64 a0_2, .int .i64 a0_3, .int .i64 a0_4, .int .i64 a0_5, .int .i64 a0_6] 41 ?_; intro gb1 hg w1 hbox hb; have BK1 := aM (hbox); have GW1 := aM ((q7z HB : w.heap.size ≤ gb1)); have GE1 := aM ((q7z HB : w.heap.size ≤ gb1)); replace HB := aM (ym (q5z HB) hb); clear hb hbox hg; obtain ⟨i1_0, i1_1, i1_2, i1_3, i1_4, i1_5, i1_6, j1_0, j1_1, j1_2, j1_3, j1_4, j1_5, j1_6⟩ := cells7 BK1.out) | (go_at_call 55; (with_reducible refine (r8_one.calls (decide (a1 < a2)) t3 _ A2.out).mono ?_); rintro e w' ⟨rfl, ⟨nd, rfl⟩⟩; (try first | exact ⟨rfl, _, World.drewN_drewN _ _ _⟩ | exact ⟨rfl, _, Eq.trans (World.drewN_drewN _ _ _) (congrArg (World.drewN _) (Nat.add_assoc _ _ _))⟩))); try go_wp2_with (first | ((with_reducible refine zgd 5 rfl ?_); refine zbox 5 #[.int .i64 a0_0, .int .i64 a0_1, .int .i64 a0_2, .int .i64 a0_3, .int .i64 a0_4, .int .i64 a0_5, .int .i64 a0_6] 41 ?_; intro gb1 hg w1 hbox hb; have BK1 := aM (hbox); have GW1 := aM ((q7z HB : w.heap.size ≤ gb1)); have GE1 := aM ((q7z HB : w.heap.size ≤ gb1)); replace HB := aM (ym (q5z HB) hb); clear hb hbox hg; obtain ⟨i1_0, i1_1, i1_2, i1_3, i1_4, i1_5, i1_6, j1_0, j1_1, j1_2, j1_3, j1_4, j1_5, j1_6⟩ := cells7 BK1.out) | (go_at_call 55; (with_reducible refine (r8_one.calls (decide (a1 < a2)) t3 _ A2.out).mono ?_); rintro e w' ⟨rfl, ⟨nd, rfl⟩⟩; (try first | exact ⟨rfl, _, World.drewN_drewN _ _ _⟩ | exact ⟨rfl, _, Eq.trans (World.drewN_drewN _ _ _) (congrArg (World.drewN _) (Nat.add_assoc _ _ _))⟩))))
    go_ret
    exact ⟨q11z, q4z HB GE1⟩
   ·rw [if_neg c1] at H; obtain ⟨c1b0, c1b1⟩ := zne c1; by_cases c1 : a0_0 = 15
    ·rw [if_pos c1] at H; obtain ⟨c1b0, c1b1⟩ := zeq c1; clear c1; replace H := Option.bind_eq_some_iff.mp H; obtain ⟨t4, A1, H⟩ := H; have A2 := aM A1; clear A1; obtain rfl := Option.some.inj H; go_enter Try.func56, Try.ntmps56
     go_wp2_with (first | ((with_reducible refine zgd 5 rfl ?_); refine zbox 5 #[.int .i64 a0_0, .int .i64 a0_1, .int .i64 a0_2, .int .i64 a0_3, .int .i64 a0_4, .int .i64 a0_5, .int .i64 a0_6] 41 ?_; intro gb1 hg w1 hbox hb; have BK1 := aM (hbox); have GW1 := aM ((q7z HB : w.heap.size ≤ gb1)); have GE1 := aM ((q7z HB : w.heap.size ≤ gb1)); replace HB := aM (ym (q5z HB) hb); clear hb hbox hg; obtain ⟨i1_0, i1_1, i1_2, i1_3, i1_4, i1_5, i1_6, j1_0, j1_1, j1_2, j1_3, j1_4, j1_5, j1_6⟩ := cells7 BK1.out) | (go_at_call 55; (with_reducible refine (r8_one.calls (decide (a1 ≤ a2)) t4 _ A2.out).mono ?_); rintro e w' ⟨rfl, ⟨nd, rfl⟩⟩; (try first | exact ⟨rfl, _, World.drewN_drewN _ _ _⟩ | exact ⟨rfl, _, Eq.trans (World.drewN_drewN _ _ _) (congrArg (World.drewN _) (Nat.add_assoc _ _ _))⟩)))
     repeat (go_quiet (first | ((with_reducible refine zgd 5 rfl ?_); refine zbox 5 #[.int .i64 a0_0, .int .i64 a0_1, .int .i64 a0_2, .int .i64 a0_3, .int .i64 a0_4, .int .i64 a0_5, .int .i64 a0_6] 41 ?_; intro gb1 hg w1 hbox hb; have BK1 := aM (hbox); have GW1 := aM ((q7z HB : w.heap.size ≤ gb1)); have GE1 := aM ((q7z HB : w.heap.size ≤ gb1)); replace HB := aM (ym (q5z HB) hb); clear hb hbox hg; obtain ⟨i1_0, i1_1, i1_2, i1_3, i1_4, i1_5, i1_6, j1_0, j1_1, j1_2, j1_3, j1_4, j1_5, j1_6⟩ := cells7 BK1.out) | (go_at_call 55; (with_reducible refine (r8_one.calls (decide (a1 ≤ a2)) t4 _ A2.out).mono ?_); rintro e w' ⟨rfl, ⟨nd, rfl⟩⟩; (try first | exact ⟨rfl, _, World.drewN_drewN _ _ _⟩ | exact ⟨rfl, _, Eq.trans (World.drewN_drewN _ _ _) (congrArg (World.drewN _) (Nat.add_assoc _ _ _))⟩))); try go_wp2_with (first | ((with_reducible refine zgd 5 rfl ?_); refine zbox 5 #[.int .i64 a0_0, .int .i64 a0_1, .int .i64 a0_2, .int .i64 a0_3, .int .i64 a0_4, .int .i64 a0_5, .int .i64 a0_6] 41 ?_; intro gb1 hg w1 hbox hb; have BK1 := aM (hbox); have GW1 := aM ((q7z HB : w.heap.size ≤ gb1)); have GE1 := aM ((q7z HB : w.heap.size ≤ gb1)); replace HB := aM (ym (q5z HB) hb); clear hb hbox hg; obtain ⟨i1_0, i1_1, i1_2, i1_3, i1_4, i1_5, i1_6, j1_0, j1_1, j1_2, j1_3, j1_4, j1_5, j1_6⟩ := cells7 BK1.out) | (go_at_call 55; (with_reducible refine (r8_one.calls (decide (a1 ≤ a2)) t4 _ A2.out).mono ?_); rintro e w' ⟨rfl, ⟨nd, rfl⟩⟩; (try first | exact ⟨rfl, _, World.drewN_drewN _ _ _⟩ | exact ⟨rfl, _, Eq.trans (World.drewN_drewN _ _ _) (congrArg (World.drewN _) (Nat.add_assoc _ _ _))⟩))))
     go_ret
     exact ⟨q11z, q4z HB GE1⟩
    ·rw [if_neg c1] at H; obtain ⟨c1b0, c1b1⟩ := zne c1; by_cases c1 : a0_0 = 16
     ·rw [if_pos c1] at H; obtain ⟨c1b0, c1b1⟩ := zeq c1; clear c1; by_cases c2 : a1 = 1
      ·rw [if_pos c2] at H; obtain ⟨c1b0, c1b1⟩ := zeq c2; clear c2; exact z79_1
      ·rw [if_neg c2] at H; obtain ⟨c1b0, c1b1⟩ := zne c2; exact z79_1
     ·rw [if_neg c1] at H; obtain ⟨c1b0, c1b1⟩ := zne c1; by_cases c1 : a0_0 = 17
      ·rw [if_pos c1] at H; obtain ⟨c1b0, c1b1⟩ := zeq c1; clear c1; by_cases c2 : 0 ≤ a4
       ·rw [if_pos c2] at H; have c1b0 := eq_true c2; have c1b1 : decide (0 ≤ a4) = true := decide_eq_true c2; clear c2; obtain ⟨ji1, hji1⟩ : ∃ j_ : Int, (shl .i64 a1 a4) = j_ := ⟨_, rfl⟩; replace H : (some (wrap64 ((ji1) + a2))) = some r := by first | (rw [hji1] at H; exact H) | (simp only [hji1] at H ⊢; exact H)
        have hji1_ : (IntKind.i64.wrap (a1 * 2 ^ min a4.toNat 64)) = ji1 := hji1; have hji1z : a4 ≤ 64 → (IntKind.i64.wrap (a1 * 2 ^ a4.toNat)) = ji1 := shl_small hji1; have hji1y : (wrap64 (a1 * 2 ^ min a4.toNat 64)) = ji1 := (i64_w _).symm.trans hji1_; have hji1x : a4 ≤ 64 → (wrap64 (a1 * 2 ^ a4.toNat)) = ji1 := fun h_ => (i64_w _).symm.trans (hji1z h_)
        obtain rfl := Option.some.inj H; go_enter Try.func56, Try.ntmps56
        go_wp2_with (first | ((with_reducible refine zgd 5 rfl ?_); refine zbox 5 #[.int .i64 a0_0, .int .i64 a0_1, .int .i64 a0_2, .int .i64 a0_3, .int .i64 a0_4, .int .i64 a0_5, .int .i64 a0_6] 41 ?_; intro gb1 hg w1 hbox hb; have BK1 := aM (hbox); have GW1 := aM ((q7z HB : w.heap.size ≤ gb1)); have GE1 := aM ((q7z HB : w.heap.size ≤ gb1)); replace HB := aM (ym (q5z HB) hb); clear hb hbox hg; obtain ⟨i1_0, i1_1, i1_2, i1_3, i1_4, i1_5, i1_6, j1_0, j1_1, j1_2, j1_3, j1_4, j1_5, j1_6⟩ := cells7 BK1.out))
        repeat (go_quiet (first | ((with_reducible refine zgd 5 rfl ?_); refine zbox 5 #[.int .i64 a0_0, .int .i64 a0_1, .int .i64 a0_2, .int .i64 a0_3, .int .i64 a0_4, .int .i64 a0_5, .int .i64 a0_6] 41 ?_; intro gb1 hg w1 hbox hb; have BK1 := aM (hbox); have GW1 := aM ((q7z HB : w.heap.size ≤ gb1)); have GE1 := aM ((q7z HB : w.heap.size ≤ gb1)); replace HB := aM (ym (q5z HB) hb); clear hb hbox hg; obtain ⟨i1_0, i1_1, i1_2, i1_3, i1_4, i1_5, i1_6, j1_0, j1_1, j1_2, j1_3, j1_4, j1_5, j1_6⟩ := cells7 BK1.out)); try go_wp2_with (first | ((with_reducible refine zgd 5 rfl ?_); refine zbox 5 #[.int .i64 a0_0, .int .i64 a0_1, .int .i64 a0_2, .int .i64 a0_3, .int .i64 a0_4, .int .i64 a0_5, .int .i64 a0_6] 41 ?_; intro gb1 hg w1 hbox hb; have BK1 := aM (hbox); have GW1 := aM ((q7z HB : w.heap.size ≤ gb1)); have GE1 := aM ((q7z HB : w.heap.size ≤ gb1)); replace HB := aM (ym (q5z HB) hb); clear hb hbox hg; obtain ⟨i1_0, i1_1, i1_2, i1_3, i1_4, i1_5, i1_6, j1_0, j1_1, j1_2, j1_3, j1_4, j1_5, j1_6⟩ := cells7 BK1.out)))
        go_ret
        exact ⟨q66z, q4z HB GE1⟩
       ·rw [if_neg c2] at H; exact absurd H (by simp)
      ·rw [if_neg c1] at H; obtain ⟨c1b0, c1b1⟩ := zne c1; by_cases c1 : a0_0 = 18
       ·rw [if_pos c1] at H; obtain ⟨c1b0, c1b1⟩ := zeq c1; clear c1; by_cases c2 : 0 ≤ a0_6
        ·rw [if_pos c2] at H; have c1b0 := eq_true c2; have c1b1 : decide (0 ≤ a0_6) = true := decide_eq_true c2; clear c2; obtain ⟨ji1, hji1⟩ : ∃ j_ : Int, (shr .i64 a1 a0_6) = j_ := ⟨_, rfl⟩; replace H : ((r8_Mask.f (wrap64 ((wrap64 (a0_5 - a0_6)) + 1))).bind fun t5 => (some (Go.bits .and .i64 (ji1) t5))) = some r := by first | (rw [hji1] at H; exact H) | (simp only [hji1] at H ⊢; exact H)
         have hji1_ : (a1 / 2 ^ min a0_6.toNat 64) = ji1 := hji1; have hji1z : a0_6 ≤ 64 → (a1 / 2 ^ a0_6.toNat) = ji1 := shr_small hji1; replace H := Option.bind_eq_some_iff.mp H; obtain ⟨t5, A1, H⟩ := H; have A2 := aM A1; clear A1; obtain rfl := Option.some.inj H; go_enter Try.func56, Try.ntmps56
         go_wp2_with (first | ((with_reducible refine zgd 5 rfl ?_); refine zbox 5 #[.int .i64 a0_0, .int .i64 a0_1, .int .i64 a0_2, .int .i64 a0_3, .int .i64 a0_4, .int .i64 a0_5, .int .i64 a0_6] 41 ?_; intro gb1 hg w1 hbox hb; have BK1 := aM (hbox); have GW1 := aM ((q7z HB : w.heap.size ≤ gb1)); have GE1 := aM ((q7z HB : w.heap.size ≤ gb1)); replace HB := aM (ym (q5z HB) hb); clear hb hbox hg; obtain ⟨i1_0, i1_1, i1_2, i1_3, i1_4, i1_5, i1_6, j1_0, j1_1, j1_2, j1_3, j1_4, j1_5, j1_6⟩ := cells7 BK1.out) | (go_at_call 24; (with_reducible refine (r8_Mask.calls (wrap64 ((wrap64 (a0_5 - a0_6)) + 1)) t5 _ A2.out).mono ?_); rintro e w' ⟨rfl, ⟨nd, rfl⟩⟩; (try first | exact ⟨rfl, _, World.drewN_drewN _ _ _⟩ | exact ⟨rfl, _, Eq.trans (World.drewN_drewN _ _ _) (congrArg (World.drewN _) (Nat.add_assoc _ _ _))⟩)))
         repeat (go_quiet (first | ((with_reducible refine zgd 5 rfl ?_); refine zbox 5 #[.int .i64 a0_0, .int .i64 a0_1, .int .i64 a0_2, .int .i64 a0_3, .int .i64 a0_4, .int .i64 a0_5, .int .i64 a0_6] 41 ?_; intro gb1 hg w1 hbox hb; have BK1 := aM (hbox); have GW1 := aM ((q7z HB : w.heap.size ≤ gb1)); have GE1 := aM ((q7z HB : w.heap.size ≤ gb1)); replace HB := aM (ym (q5z HB) hb); clear hb hbox hg; obtain ⟨i1_0, i1_1, i1_2, i1_3, i1_4, i1_5, i1_6, j1_0, j1_1, j1_2, j1_3, j1_4, j1_5, j1_6⟩ := cells7 BK1.out) | (go_at_call 24; (with_reducible refine (r8_Mask.calls (wrap64 ((wrap64 (a0_5 - a0_6)) + 1)) t5 _ A2.out).mono ?_); rintro e w' ⟨rfl, ⟨nd, rfl⟩⟩; (try first | exact ⟨rfl, _, World.drewN_drewN _ _ _⟩ | exact ⟨rfl, _, Eq.trans (World.drewN_drewN _ _ _) (congrArg (World.drewN _) (Nat.add_assoc _ _ _))⟩))); try go_wp2_with (first | ((with_reducible refine zgd 5 rfl ?_); refine zbox 5 #[.int .i64 a0_0, .int .i64 a0_1, .int .i64 a0_2, .int .i64 a0_3, .int .i64 a0_4, .int .i64 a0_5, .int .i64 a0_6] 41 ?_; intro gb1 hg w1 hbox hb; have BK1 := aM (hbox); have GW1 := aM ((q7z HB : w.heap.size ≤ gb1)); have GE1 := aM ((q7z HB : w.heap.size ≤ gb1)); replace HB := aM (ym (q5z HB) hb); clear hb hbox hg; obtain ⟨i1_0, i1_1, i1_2, i1_3, i1_4, i1_5, i1_6, j1_0, j1_1, j1_2, j1_3, j1_4, j1_5, j1_6⟩ := cells7 BK1.out) | (go_at_call 24; (with_reducible refine (r8_Mask.calls (wrap64 ((wrap64 (a0_5 - a0_6)) + 1)) t5 _ A2.out).mono ?_); rintro e w' ⟨rfl, ⟨nd, rfl⟩⟩; (try first | exact ⟨rfl, _, World.drewN_drewN _ _ _⟩ | exact ⟨rfl, _, Eq.trans (World.drewN_drewN _ _ _) (congrArg (World.drewN _) (Nat.add_assoc _ _ _))⟩))))
         go_ret
         exact ⟨q66z, q4z HB GE1⟩
        ·rw [if_neg c2] at H; exact absurd H (by simp)
       ·rw [if_neg c1] at H; obtain ⟨c1b0, c1b1⟩ := zne c1; exact z79_1
def r8_Do.f (a0_0 : Int) (a0_1 : Int) (a0_2 : Int) (a0_3 : Int) (a0_4 : Int) (a0_5 : Int) (a0_6 : Int) (a1 : Int) (a2 : Int) (a3 : Int) (a4 : Int) : Option (Int) := if a0_0 = 1 then (some a0_5) else (if a0_0 = 3 then ((r8_Mask.f a0_1).bind fun t438 => (some (wrap64 (t438 - a1)))) else (if a0_0 = 4 then ((r8_one.f (a1 != 0)).bind fun t439 => (some t439)) else (if a0_0 = 5 then ((r8_Mask.f a0_6).bind fun t440 => ((r8_one.f (a1 == t440)).bind fun t441 => (some t441))) else (if a0_0 = 6 then (some (Go.bits .and .i64 a1 a2)) else (if a0_0 = 7 then (some (Go.bits .or .i64 a1 a2)) else (if a0_0 = 8 then (some (Go.bits .xor .i64 a1 a2)) else (if a0_0 = 9 then ((r8_Mask.f a0_1).bind fun t442 => (some (Go.bits .and .i64 (wrap64 (a1 + a2)) t442))) else (if a0_0 = 10 then ((r8_Mask.f a0_1).bind fun t443 => (some (Go.bits .and .i64 (wrap64 (a1 - a2)) t443))) else (if a0_0 = 11 then ((r8_Mask.f a0_1).bind fun t444 => (some (Go.bits .and .i64 (wrap64 (a1 * a2)) t444))) else ((r8_more.f a0_0 a0_1 a0_2 a0_3 a0_4 a0_5 a0_6 a1 a2 a3 a4).bind fun t445 => (some t445)))))))))))
theorem z80_1 {P : Prop} (h : P := by
 rw [if_pos c1] at H; obtain ⟨c1b0, c1b1⟩ := zeq c1; clear c1; obtain rfl := Option.some.inj H; go_enter Try.func45, Try.ntmps45
 go_wp2_with (first | ((with_reducible refine zgd 5 rfl ?_); refine zbox 5 #[.int .i64 a0_0, .int .i64 a0_1, .int .i64 a0_2, .int .i64 a0_3, .int .i64 a0_4, .int .i64 a0_5, .int .i64 a0_6] 41 ?_; intro gb1 hg w1 hbox hb; have BK1 := aM (hbox); have GW1 := aM ((q7z HB : w.heap.size ≤ gb1)); have GE1 := aM ((q7z HB : w.heap.size ≤ gb1)); replace HB := aM (ym (q5z HB) hb); clear hb hbox hg; obtain ⟨i1_0, i1_1, i1_2, i1_3, i1_4, i1_5, i1_6, j1_0, j1_1, j1_2, j1_3, j1_4, j1_5, j1_6⟩ := cells7 BK1.out))
 go_ret
 exact ⟨q11z, q4z HB GE1⟩) : P := h
theorem r8_Do.calls (a0_0 : Int) (a0_1 : Int) (a0_2 : Int) (a0_3 : Int) (a0_4 : Int) (a0_5 : Int) (a0_6 : Int) (a1 : Int) (a2 : Int) (a3 : Int) (a4 : Int) (r : Int) (w : World) (h : r8_Do.f a0_0 a0_1 a0_2 a0_3 a0_4 a0_5 a0_6 a1 a2 a3 a4 = some r) :
  Calls Try.prog 45 #[.agg #[.int .i64 a0_0, .int .i64 a0_1, .int .i64 a0_2, .int .i64 a0_3, .int .i64 a0_4, .int .i64 a0_5, .int .i64 a0_6], .int .i64 a1, .int .i64 a2, .int .i64 a3, .int .i64 a4] w fun e w' => e = .returned (.int .i64 r) ∧ Below w.heap.size w w' := by
 have hu1 := Try.underlying41; have HB := aM (Below.refl w.heap.size w); have H : (if a0_0 = 1 then (some a0_5) else (if a0_0 = 3 then ((r8_Mask.f a0_1).bind fun t1 => (some (wrap64 (t1 - a1)))) else (if a0_0 = 4 then ((r8_one.f (a1 != 0)).bind fun t2 => (some t2)) else (if a0_0 = 5 then ((r8_Mask.f a0_6).bind fun t3 => ((r8_one.f (a1 == t3)).bind fun t4 => (some t4))) else (if a0_0 = 6 then (some (Go.bits .and .i64 a1 a2)) else (if a0_0 = 7 then (some (Go.bits .or .i64 a1 a2)) else (if a0_0 = 8 then (some (Go.bits .xor .i64 a1 a2)) else (if a0_0 = 9 then ((r8_Mask.f a0_1).bind fun t5 => (some (Go.bits .and .i64 (wrap64 (a1 + a2)) t5))) else (if a0_0 = 10 then ((r8_Mask.f a0_1).bind fun t6 => (some (Go.bits .and .i64 (wrap64 (a1 - a2)) t6))) else (if a0_0 = 11 then ((r8_Mask.f a0_1).bind fun t7 => (some (Go.bits .and .i64 (wrap64 (a1 * a2)) t7))) else ((r8_more.f a0_0 a0_1 a0_2 a0_3 a0_4 a0_5 a0_6 a1 a2 a3 a4).bind fun t8 => (some t8)))))))))))) = some r := h; clear h; by_cases c1 : a0_0 = 1
 ·exact z80_1
 ·rw [if_neg c1] at H; obtain ⟨c1b0, c1b1⟩ := zne c1; by_cases c1 : a0_0 = 3
  ·rw [if_pos c1] at H; obtain ⟨c1b0, c1b1⟩ := zeq c1; clear c1; replace H := Option.bind_eq_some_iff.mp H; obtain ⟨t1, A1, H⟩ := H; have A2 := aM A1; clear A1; obtain rfl := Option.some.inj H; go_enter Try.func45, Try.ntmps45
   go_wp2_with (first | ((with_reducible refine zgd 5 rfl ?_); refine zbox 5 #[.int .i64 a0_0, .int .i64 a0_1, .int .i64 a0_2, .int .i64 a0_3, .int .i64 a0_4, .int .i64 a0_5, .int .i64 a0_6] 41 ?_; intro gb1 hg w1 hbox hb; have BK1 := aM (hbox); have GW1 := aM ((q7z HB : w.heap.size ≤ gb1)); have GE1 := aM ((q7z HB : w.heap.size ≤ gb1)); replace HB := aM (ym (q5z HB) hb); clear hb hbox hg; obtain ⟨i1_0, i1_1, i1_2, i1_3, i1_4, i1_5, i1_6, j1_0, j1_1, j1_2, j1_3, j1_4, j1_5, j1_6⟩ := cells7 BK1.out) | ((with_reducible refine zgc 24 rfl ?_); refine zgl (some 21) Try.func24 #[.int .i64 a0_1] ?_; (with_reducible refine (r8_Mask.calls a0_1 t1 _ A2.out).mono ?_); rintro e w' ⟨rfl, ⟨nd, rfl⟩⟩; refine ⟨_, rfl, ?_⟩))
   go_ret
   exact ⟨q11z, q4z HB GE1⟩
  ·rw [if_neg c1] at H; obtain ⟨c1b0, c1b1⟩ := zne c1; by_cases c1 : a0_0 = 4
   ·rw [if_pos c1] at H; obtain ⟨c1b0, c1b1⟩ := zeq c1; clear c1; replace H := Option.bind_eq_some_iff.mp H; obtain ⟨t2, A1, H⟩ := H; have A2 := aM A1; clear A1; obtain rfl := Option.some.inj H; go_enter Try.func45, Try.ntmps45
    go_wp2_with (first | ((with_reducible refine zgd 5 rfl ?_); refine zbox 5 #[.int .i64 a0_0, .int .i64 a0_1, .int .i64 a0_2, .int .i64 a0_3, .int .i64 a0_4, .int .i64 a0_5, .int .i64 a0_6] 41 ?_; intro gb1 hg w1 hbox hb; have BK1 := aM (hbox); have GW1 := aM ((q7z HB : w.heap.size ≤ gb1)); have GE1 := aM ((q7z HB : w.heap.size ≤ gb1)); replace HB := aM (ym (q5z HB) hb); clear hb hbox hg; obtain ⟨i1_0, i1_1, i1_2, i1_3, i1_4, i1_5, i1_6, j1_0, j1_1, j1_2, j1_3, j1_4, j1_5, j1_6⟩ := cells7 BK1.out) | ((with_reducible refine zgc 55 rfl ?_); refine zgl (some 28) Try.func55 #[.bool (a1 != 0)] ?_; (with_reducible refine (r8_one.calls (a1 != 0) t2 _ A2.out).mono ?_); rintro e w' ⟨rfl, ⟨nd, rfl⟩⟩; refine ⟨_, rfl, ?_⟩))
    go_ret
    exact ⟨q11z, q4z HB GE1⟩
   ·rw [if_neg c1] at H; obtain ⟨c1b0, c1b1⟩ := zne c1; by_cases c1 : a0_0 = 5
    ·rw [if_pos c1] at H; obtain ⟨c1b0, c1b1⟩ := zeq c1; clear c1; replace H := Option.bind_eq_some_iff.mp H; obtain ⟨t3, A1, H⟩ := H; have A2 := aM A1; clear A1; replace H := Option.bind_eq_some_iff.mp H; obtain ⟨t4, A1, H⟩ := H; have A3 := aM A1; clear A1; obtain rfl := Option.some.inj H; go_enter Try.func45, Try.ntmps45
     go_wp2_with (first | ((with_reducible refine zgd 5 rfl ?_); refine zbox 5 #[.int .i64 a0_0, .int .i64 a0_1, .int .i64 a0_2, .int .i64 a0_3, .int .i64 a0_4, .int .i64 a0_5, .int .i64 a0_6] 41 ?_; intro gb1 hg w1 hbox hb; have BK1 := aM (hbox); have GW1 := aM ((q7z HB : w.heap.size ≤ gb1)); have GE1 := aM ((q7z HB : w.heap.size ≤ gb1)); replace HB := aM (ym (q5z HB) hb); clear hb hbox hg; obtain ⟨i1_0, i1_1, i1_2, i1_3, i1_4, i1_5, i1_6, j1_0, j1_1, j1_2, j1_3, j1_4, j1_5, j1_6⟩ := cells7 BK1.out) | ((with_reducible refine zgc 24 rfl ?_); refine zgl (some 34) Try.func24 #[.int .i64 a0_6] ?_; (with_reducible refine (r8_Mask.calls a0_6 t3 _ A2.out).mono ?_); rintro e w' ⟨rfl, ⟨nd, rfl⟩⟩; refine ⟨_, rfl, ?_⟩) | ((with_reducible refine zgc 55 rfl ?_); refine zgl (some 36) Try.func55 #[.bool (a1 == t3)] ?_; (with_reducible refine (r8_one.calls (a1 == t3) t4 _ A3.out).mono ?_); rintro e w' ⟨rfl, ⟨nd, rfl⟩⟩; refine ⟨_, rfl, ?_⟩))
     go_ret
     exact ⟨q11z, q4z HB GE1⟩
    ·rw [if_neg c1] at H; obtain ⟨c1b0, c1b1⟩ := zne c1; by_cases c1 : a0_0 = 6
     ·exact z80_1
     ·rw [if_neg c1] at H; obtain ⟨c1b0, c1b1⟩ := zne c1; by_cases c1 : a0_0 = 7
      ·exact z80_1
      ·rw [if_neg c1] at H; obtain ⟨c1b0, c1b1⟩ := zne c1; by_cases c1 : a0_0 = 8
       ·exact z80_1
       ·rw [if_neg c1] at H; obtain ⟨c1b0, c1b1⟩ := zne c1; by_cases c1 : a0_0 = 9
        ·rw [if_pos c1] at H; obtain ⟨c1b0, c1b1⟩ := zeq c1; clear c1; replace H := Option.bind_eq_some_iff.mp H; obtain ⟨t5, A1, H⟩ := H; have A2 := aM A1; clear A1; obtain rfl := Option.some.inj H; go_enter Try.func45, Try.ntmps45
         go_wp2_with (first | ((with_reducible refine zgd 5 rfl ?_); refine zbox 5 #[.int .i64 a0_0, .int .i64 a0_1, .int .i64 a0_2, .int .i64 a0_3, .int .i64 a0_4, .int .i64 a0_5, .int .i64 a0_6] 41 ?_; intro gb1 hg w1 hbox hb; have BK1 := aM (hbox); have GW1 := aM ((q7z HB : w.heap.size ≤ gb1)); have GE1 := aM ((q7z HB : w.heap.size ≤ gb1)); replace HB := aM (ym (q5z HB) hb); clear hb hbox hg; obtain ⟨i1_0, i1_1, i1_2, i1_3, i1_4, i1_5, i1_6, j1_0, j1_1, j1_2, j1_3, j1_4, j1_5, j1_6⟩ := cells7 BK1.out) | ((with_reducible refine zgc 24 rfl ?_); refine zgl (some 59) Try.func24 #[.int .i64 a0_1] ?_; (with_reducible refine (r8_Mask.calls a0_1 t5 _ A2.out).mono ?_); rintro e w' ⟨rfl, ⟨nd, rfl⟩⟩; refine ⟨_, rfl, ?_⟩))
         go_ret
         exact ⟨q11z, q4z HB GE1⟩
        ·rw [if_neg c1] at H; obtain ⟨c1b0, c1b1⟩ := zne c1; by_cases c1 : a0_0 = 10
         ·rw [if_pos c1] at H; obtain ⟨c1b0, c1b1⟩ := zeq c1; clear c1; replace H := Option.bind_eq_some_iff.mp H; obtain ⟨t6, A1, H⟩ := H; have A2 := aM A1; clear A1; obtain rfl := Option.some.inj H; go_enter Try.func45, Try.ntmps45
          go_wp2_with (first | ((with_reducible refine zgd 5 rfl ?_); refine zbox 5 #[.int .i64 a0_0, .int .i64 a0_1, .int .i64 a0_2, .int .i64 a0_3, .int .i64 a0_4, .int .i64 a0_5, .int .i64 a0_6] 41 ?_; intro gb1 hg w1 hbox hb; have BK1 := aM (hbox); have GW1 := aM ((q7z HB : w.heap.size ≤ gb1)); have GE1 := aM ((q7z HB : w.heap.size ≤ gb1)); replace HB := aM (ym (q5z HB) hb); clear hb hbox hg; obtain ⟨i1_0, i1_1, i1_2, i1_3, i1_4, i1_5, i1_6, j1_0, j1_1, j1_2, j1_3, j1_4, j1_5, j1_6⟩ := cells7 BK1.out) | ((with_reducible refine zgc 24 rfl ?_); refine zgl (some 68) Try.func24 #[.int .i64 a0_1] ?_; (with_reducible refine (r8_Mask.calls a0_1 t6 _ A2.out).mono ?_); rintro e w' ⟨rfl, ⟨nd, rfl⟩⟩; refine ⟨_, rfl, ?_⟩))
          go_ret
          exact ⟨q11z, q4z HB GE1⟩
         ·rw [if_neg c1] at H; obtain ⟨c1b0, c1b1⟩ := zne c1; by_cases c1 : a0_0 = 11
          ·rw [if_pos c1] at H; obtain ⟨c1b0, c1b1⟩ := zeq c1; clear c1; replace H := Option.bind_eq_some_iff.mp H; obtain ⟨t7, A1, H⟩ := H; have A2 := aM A1; clear A1; obtain rfl := Option.some.inj H; go_enter Try.func45, Try.ntmps45
           go_wp2_with (first | ((with_reducible refine zgd 5 rfl ?_); refine zbox 5 #[.int .i64 a0_0, .int .i64 a0_1, .int .i64 a0_2, .int .i64 a0_3, .int .i64 a0_4, .int .i64 a0_5, .int .i64 a0_6] 41 ?_; intro gb1 hg w1 hbox hb; have BK1 := aM (hbox); have GW1 := aM ((q7z HB : w.heap.size ≤ gb1)); have GE1 := aM ((q7z HB : w.heap.size ≤ gb1)); replace HB := aM (ym (q5z HB) hb); clear hb hbox hg; obtain ⟨i1_0, i1_1, i1_2, i1_3, i1_4, i1_5, i1_6, j1_0, j1_1, j1_2, j1_3, j1_4, j1_5, j1_6⟩ := cells7 BK1.out) | ((with_reducible refine zgc 24 rfl ?_); refine zgl (some 77) Try.func24 #[.int .i64 a0_1] ?_; (with_reducible refine (r8_Mask.calls a0_1 t7 _ A2.out).mono ?_); rintro e w' ⟨rfl, ⟨nd, rfl⟩⟩; refine ⟨_, rfl, ?_⟩))
           go_ret
           exact ⟨q11z, q4z HB GE1⟩
          ·rw [if_neg c1] at H; obtain ⟨c1b0, c1b1⟩ := zne c1; replace H := Option.bind_eq_some_iff.mp H; obtain ⟨t8, A1, H⟩ := H; have A2 := aM A1; clear A1; obtain rfl := Option.some.inj H; go_enter Try.func45, Try.ntmps45
           go_wp2_with (first | ((with_reducible refine zgd 5 rfl ?_); refine zbox 5 #[.int .i64 a0_0, .int .i64 a0_1, .int .i64 a0_2, .int .i64 a0_3, .int .i64 a0_4, .int .i64 a0_5, .int .i64 a0_6] 41 ?_; intro gb1 hg w1 hbox hb; have BK1 := aM (hbox); have GW1 := aM ((q7z HB : w.heap.size ≤ gb1)); have GE1 := aM ((q7z HB : w.heap.size ≤ gb1)); replace HB := aM (ym (q5z HB) hb); clear hb hbox hg; obtain ⟨i1_0, i1_1, i1_2, i1_3, i1_4, i1_5, i1_6, j1_0, j1_1, j1_2, j1_3, j1_4, j1_5, j1_6⟩ := cells7 BK1.out) | ((with_reducible refine zgc 56 rfl ?_); refine zgl (some 84) Try.func56 #[.agg #[.int .i64 a0_0, .int .i64 a0_1, .int .i64 a0_2, .int .i64 a0_3, .int .i64 a0_4, .int .i64 a0_5, .int .i64 a0_6], .int .i64 a1, .int .i64 a2, .int .i64 a3, .int .i64 a4] ?_; (with_reducible refine (r8_more.calls a0_0 a0_1 a0_2 a0_3 a0_4 a0_5 a0_6 a1 a2 a3 a4 t8 _ A2.out).mono ?_); rintro e w2 ⟨rfl, hb⟩; refine ⟨_, rfl, ?_⟩; replace BK1 := aM (yi (zi BK1) hb); replace HB := aM (ym (q4z HB GE1) hb); (try clear hb); (try clear hb2); (try clear hk); (try clear hi)))
           go_ret
           exact ⟨q11z, q4z HB GE1⟩
def r9_Eval.l0 : Nat → List Int → List Int → List Int → Int → Int → Int → List (S41) → List (S47) → List (S43) → List (S61) → List (S47) → Option (List Int)
 | 0, _, _, _, _, _, _, _, _, _, _, _ => none
 | k + 1, x1, x2, x7, x8, x9, x10, x447000, x447001, x447002, x447003, x447004 => if x10 < (x447000.length : Int) then (if 0 ≤ x10 then (if ((rd_T41 x447000 x10).f0) = 21 then (if 0 ≤ x8 then (if x8 < (x2.length : Int) then (if x7.length < 17592186044416 then (r9_Eval.l0 k x1 x2 (x7 ++ [rd x2 x8]) (wrap64 (x8 + 1)) x9 (wrap64 (x10 + 1)) x447000 x447001 x447002 x447003 x447004) else (none)) else (none)) else (none)) else (if ((rd_T41 x447000 x10).f0) = 22 then (if 0 ≤ x9 then (if x9 < (x1.length : Int) then (if x7.length < 17592186044416 then (r9_Eval.l0 k x1 x2 (x7 ++ [rd x1 x9]) x8 (wrap64 (x9 + 1)) (wrap64 (x10 + 1)) x447000 x447001 x447002 x447003 x447004) else (none)) else (none)) else (none)) else (if ((rd_T41 x447000 x10).f0) = 1 then (if x7.length < 17592186044416 then (r9_Eval.l0 k x1 x2 (x7 ++ [(rd_T41 x447000 x10).f5]) x8 x9 (wrap64 (x10 + 1)) x447000 x447001 x447002 x447003 x447004) else (none)) else (if 0 ≤ ((rd_T41 x447000 x10).f2) then (if ((rd_T41 x447000 x10).f2) < (x7.length : Int) then (if 0 ≤ ((rd_T41 x447000 x10).f3) then (if ((rd_T41 x447000 x10).f3) < (x7.length : Int) then (if 0 ≤ ((rd_T41 x447000 x10).f4) then (if ((rd_T41 x447000 x10).f4) < (x7.length : Int) then (if ((rd_T41 x447000 x10).f3) < (x447000.length : Int) then ((r8_Do.f ((rd_T41 x447000 x10).f0) ((rd_T41 x447000 x10).f1) ((rd_T41 x447000 x10).f2) ((rd_T41 x447000 x10).f3) ((rd_T41 x447000 x10).f4) ((rd_T41 x447000 x10).f5) ((rd_T41 x447000 x10).f6) (rd x7 ((rd_T41 x447000 x10).f2)) (rd x7 ((rd_T41 x447000 x10).f3)) (rd x7 ((rd_T41 x447000 x10).f4)) ((rd_T41 x447000 ((rd_T41 x447000 x10).f3)).f1)).bind fun t464 => (if x7.length < 17592186044416 then (r9_Eval.l0 k x1 x2 (x7 ++ [t464]) x8 x9 (wrap64 (x10 + 1)) x447000 x447001 x447002 x447003 x447004) else (none))) else (none)) else (none)) else (none)) else (none)) else (none)) else (none)) else (none))))) else (none)) else (some x7)
def r9_Eval.f (k : Nat) (l0_0 : List (S41)) (l0_1 : List (S47)) (l0_2 : List (S43)) (l0_3 : List (S61)) (l0_4 : List (S47)) (l1 : List Int) (l2 : List Int) : Option (List Int) := r9_Eval.l0 k l1 l2 ([] : List Int) 0 0 0 l0_0 l0_1 l0_2 l0_3 l0_4
theorem r9_Eval.mono_l : ∀ k, (∀ y0 y1 y2 y3 y4 y5 y6 y7 y8 y9 y10, LeO (r9_Eval.l0 k y0 y1 y2 y3 y4 y5 y6 y7 y8 y9 y10) (r9_Eval.l0 (k + 1) y0 y1 y2 y3 y4 y5 y6 y7 y8 y9 y10))
 | 0 => fun _ _ _ _ _ _ _ _ _ _ _ r h => by simp [r9_Eval.l0] at h
 | k + 1 => by
  have ih0 := r9_Eval.mono_l k
  ·intro y0 y1 y2 y3 y4 y5 y6 y7 y8 y9 y10
   unfold r9_Eval.l0
   repeat' first | (with_reducible first | apply ih0 | exact LeO.refl _ | exact LeO.none _ | refine LeO.ite ?_ ?_ | refine LeO.bind ?_ (fun _ => ?_)) | exact LeO.none _ | refine LeO.ite ?_ ?_ | refine LeO.bind ?_ (fun _ => ?_)
theorem r9_Eval.mono : ∀ a0 a1 a2 a3 a4 a5 a6 k, LeO (r9_Eval.f k a0 a1 a2 a3 a4 a5 a6) (r9_Eval.f (k + 1) a0 a1 a2 a3 a4 a5 a6) := by
 intro a0 a1 a2 a3 a4 a5 a6 k
 have ih1 := r9_Eval.mono_l k; unfold r9_Eval.f
 repeat' first | (with_reducible first | apply ih1 | exact LeO.refl _ | exact LeO.none _ | refine LeO.ite ?_ ?_ | refine LeO.bind ?_ (fun _ => ?_)) | exact LeO.none _ | refine LeO.ite ?_ ?_ | refine LeO.bind ?_ (fun _ => ?_)
def r9_Eval.T9 : Bool × List (List Nat × List Nat) := (true, [([], []), ([], []), ([], []), ([], []), ([3], [3]), ([2, 4], [2, 4]), ([5], [5]), ([], []), ([], []), ([8], [8]), ([7, 9], [7, 9]), ([10], [10]), ([], []), ([], []), ([13], [13]), ([12, 14], [12, 14]), ([15], [15]), ([], []), ([17], [17]), ([], []), ([19], [19]), ([18, 20], [18, 20]), ([21], [21]), ([22], [22]), ([1, 6, 11, 16, 23], [1, 6, 11, 16, 23]), ([24], [24]), ([0, 25, 24], [0, 25]), ([26, 26, 0, 1, 2, 3, 4, 5, 6, 7, 8, 9, 10, 11, 12, 13, 14, 15, 16, 17, 18, 19, 20, 21, 22, 23, 24, 25, 26], [0, 2, 7, 12, 26])])
def r9_Eval.B9 : List Nat := [0, 0, 0, 0, 8, 28, 60, 0, 0, 256, 896, 1920, 0, 0, 8192, 28672, 61440, 0, 131072, 0, 524288, 1966080, 4063232, 8257536, 16777214, 33554430, 67108863, 134217727]
theorem r9_Eval.tab9 : rtab .any (opsOf Try.f21 9) = r9_Eval.T9 := by kernel_rfl
theorem r9_Eval.bits9 : waitsOk r9_Eval.T9.2 r9_Eval.B9 = true := by kernel_rfl
theorem r9_Eval.calls (k : Nat) (A0_0 : Option Addr) (c0_0 : Nat) (l0_0 : List (S41)) (A0_1 : Option Addr) (c0_1 : Nat) (l0_1 : List (S47)) (A0_2 : Option Addr) (c0_2 : Nat) (l0_2 : List (S43)) (A0_3 : Option Addr) (c0_3 : Nat) (l0_3 : List (S61)) (A0_4 : Option Addr) (c0_4 : Nat) (l0_4 : List (S47)) (A1 : Option Addr) (c1 : Nat) (l1 : List Int) (A2 : Option Addr) (c2 : Nat) (l2 : List Int) (r : List Int) (w : World) (hr0_0 : Kd.C k41 w A0_0 l0_0.length l0_0) (hc0_0 : l0_0.length ≤ c0_0) (hr0_1 : Kd.C k47 w A0_1 l0_1.length l0_1) (hc0_1 : l0_1.length ≤ c0_1) (hr0_2 : Kd.C k43 w A0_2 l0_2.length l0_2) (hc0_2 : l0_2.length ≤ c0_2) (hr0_3 : Kd.C k61 w A0_3 l0_3.length l0_3) (hc0_3 : l0_3.length ≤ c0_3) (hr0_4 : Kd.C k47 w A0_4 l0_4.length l0_4) (hc0_4 : l0_4.length ≤ c0_4) (hr1 : Kd.C (Kd.int .i64) w A1 l1.length l1) (hc1 : l1.length ≤ c1) (hr2 : Kd.C (Kd.int .i64) w A2 l2.length l2) (hc2 : l2.length ≤ c2) (h : r9_Eval.f k l0_0 l0_1 l0_2 l0_3 l0_4 l1 l2 = some r) :
  Calls Try.prog 21 #[.agg #[.slice A0_0 l0_0.length c0_0, .slice A0_1 l0_1.length c0_1, .slice A0_2 l0_2.length c0_2, .slice A0_3 l0_3.length c0_3, .slice A0_4 l0_4.length c0_4], .slice A1 l1.length c1, .slice A2 l2.length c2] w fun e w' => ∃ v0_ : Value, e = .returned (v0_) ∧ Kd.R (Kd.int .i64) 3 w' w.heap.size (fun _ => True) v0_ r ∧ Below w.heap.size w w' := by
 have hu1 := Try.underlying27; have hu1 := Try.underlying41; have HR1_0 := aM hr0_0; have HC1_0 := aM hc0_0; clear hr0_0 hc0_0; have HR1_1 := aM hr0_1; have HC1_1 := aM hc0_1; clear hr0_1 hc0_1; have HR1_2 := aM hr0_2; have HC1_2 := aM hc0_2; clear hr0_2 hc0_2; have HR1_3 := aM hr0_3; have HC1_3 := aM hc0_3; clear hr0_3 hc0_3; have HR1_4 := aM hr0_4; have HC1_4 := aM hc0_4; clear hr0_4 hc0_4; have HR1 := aM hr1; have HC1 := aM hc1; clear hr1 hc1; have HR2 := aM hr2; have HC1 := aM hc2; clear hr2 hc2; have HB := aM (Below.refl w.heap.size w); have H : (r9_Eval.l0 k l1 l2 ([] : List Int) 0 0 0 l0_0 l0_1 l0_2 l0_3 l0_4) = some r := h; clear h; have H' := aM H; clear H; go_enter Try.func21, Try.ntmps21
 go_wp2_with (first | ((with_reducible refine zgd 3 rfl ?_); refine zbox 3 #[.slice A0_0 l0_0.length c0_0, .slice A0_1 l0_1.length c0_1, .slice A0_2 l0_2.length c0_2, .slice A0_3 l0_3.length c0_3, .slice A0_4 l0_4.length c0_4] 27 ?_; intro gb1 hg w2 hbox hb; have BK1 := aM (hbox); have GW1 := aM ((q7z HB : w.heap.size ≤ gb1)); have GE1 := aM ((q7z HB : w.heap.size ≤ gb1)); replace HB := aM (ym (q5z HB) hb); clear hb hbox hg))
 go_loopg [7, 8, 9, 10] k (fun kq v1 v2 v3 v4 w' => ∃ (x1_1 : List Int) (x2_1 : Int) (x3_1 : Int) (x4_1 : Int), v2 = .int .i64 x2_1 ∧ v3 = .int .i64 x3_1 ∧ v4 = .int .i64 x4_1 ∧ Aside0 (r9_Eval.l0 kq l1 l2 x1_1 x2_1 x3_1 x4_1 l0_0 l0_1 l0_2 l0_3 l0_4 = some r) ∧ Aside0 (kq ≤ k) ∧ Aside0 (Kd.R (Kd.int .i64) 3 w' w.heap.size (fun _ => True) v1 x1_1) ∧ Aside0 (w'.heap[gb1]? = some (.cells #[(.slice A0_0 l0_0.length c0_0), (.slice A0_1 l0_1.length c0_1), (.slice A0_2 l0_2.length c0_2), (.slice A0_3 l0_3.length c0_3), (.slice A0_4 l0_4.length c0_4)] 27 (0, 0))) ∧ Aside0 (Below w.heap.size w w'))
 case atStart => exact ⟨(([] : List Int)), (0), (0), (0), q13z, q13z, q13z, H', ⟨Nat.le_refl _⟩, ⟨q57z⟩, ⟨q10z BK1⟩, ⟨q4z HB GE1⟩⟩
 case round =>
  clear H'; try clear c1
  try clear c2
  try clear p2
  obtain ⟨x1_1, x2_1, x3_1, x4_1, rfl, rfl, rfl, HA, HK1, HO_1, BK1, HB⟩ := hrel; cases gk with
  | zero => exact absurd HA.out (by simp [r9_Eval.l0])
  | succ k1 =>
   have H := HA.out; clear HA; simp only [r9_Eval.l0] at H; by_cases c3 : x4_1 < (l0_0.length : Int)
   ·rw [if_pos c3] at H; have c1b0 := decide_eq_true c3; clear c3; by_cases c4 : 0 ≤ x4_1
    ·rw [if_pos c4] at H; have c1b0 := decide_eq_true c4; clear c4; by_cases c5 : ((rd_T41 l0_0 x4_1).f0) = 21
     ·rw [if_pos c5] at H; obtain ⟨c1b0, c1b1⟩ := zeq c5; clear c5; by_cases c6 : 0 ≤ x2_1
      ·rw [if_pos c6] at H; have c1b0 := decide_eq_true c6; clear c6; by_cases c7 : x2_1 < (l2.length : Int)
       ·rw [if_pos c7] at H; have c1b0 := decide_eq_true c7; clear c7; by_cases c8 : x1_1.length < 17592186044416
        ·rw [if_pos c8] at H; have LMc1 := aM c8; clear c8; obtain ⟨y1, hy1⟩ : ∃ y_ : List Int, y_ = (x1_1 ++ [rd l2 x2_1]) := ⟨_, rfl⟩; replace H : (r9_Eval.l0 k1 l1 l2 y1 (wrap64 (x2_1 + 1)) x3_1 (wrap64 (x4_1 + 1)) l0_0 l0_1 l0_2 l0_3 l0_4) = some r := by first | (rw [hy1]; with_reducible exact H) | (have H1_ := (Option.bind_some _ _).symm.trans H; rw [hy1]; with_reducible exact H1_) | (have H1_ := (Option.bind_some _ _).symm.trans H; with_reducible exact H1_) | with_reducible exact H | (rw [hy1]; exact H) | exact H
         have Ny1 := aM hy1; clear hy1; have H' := aM H; clear H; obtain ⟨i1_0, i1_1, i1_2, i1_3, i1_4, j1_0, j1_1, j1_2, j1_3, j1_4⟩ := cells5 BK1.out; have p1 : 0 ≤ (x4_1 : Int) := zod; have q1 : x4_1 < (l0_0.length : Int) := zod; obtain ⟨ad1, e1, hx1_0, hx1_1, hx1_2, hx1_3, hx1_4, hx1_5, hx1_6⟩ := at_T41 HR1_0.out x4_1 p1 q1; cases e1; replace hx1_0 := zx HB hx1_0; replace hx1_1 := zx HB hx1_1; replace hx1_2 := zx HB hx1_2; replace hx1_3 := zx HB hx1_3; replace hx1_4 := zx HB hx1_4; replace hx1_5 := zx HB hx1_5; replace hx1_6 := zx HB hx1_6; replace p1 := eq_true p1; replace q1 := eq_true q1; go_wp2_with (first | ((with_reducible refine zgd 11 rfl ?_); refine zbox 11 #[.int .i64 0, .int .i64 0, .int .i64 0, .int .i64 0, .int .i64 0, .int .i64 0, .int .i64 0] 41 ?_; intro gb2 hg w2 hbox hb; replace HO_1 := aM (yr (q2z HO_1) hb); have BK2 := aM (hbox); have GW1 := aM ((q12z HB GE1 : w.heap.size ≤ gb2)); have GE2 := aM ((q12z HB GE1 : w.heap.size ≤ gb2)); replace HB := aM (ym (q4z HB GE1) hb); have NB1_448 := aM ((q34z BK1 : gb1 ≠ gb2)); have NB1_446 := aM ((q35z BK1 : gb2 ≠ gb1)); replace BK1 := aM (yi (zi BK1) hb); clear hb hbox hg; have hnb1 := NB1_446.out; have hnc1 := NB1_448.out; obtain ⟨i1_0, i1_1, i1_2, i1_3, i1_4, i1_5, i1_6, j1_0, j1_1, j1_2, j1_3, j1_4, j1_5, j1_6⟩ := cells7 BK2.out; have p1 : 0 ≤ (x2_1 : Int) := zod; have q1 : x2_1 < (l2.length : Int) := zod; obtain ⟨ad2, e1, hx1_0⟩ := Kd.at_int HR2.out x2_1 p1 q1; cases e1; have hn1_0 : ad2.block ≠ gb2 := Nat.ne_of_lt (Nat.lt_of_lt_of_le q26z GW1.out); have hn1_1 : ad2.block ≠ gb2 := Nat.ne_of_lt (Nat.lt_of_lt_of_le q26z GW1.out); have hn1_2 : ad2.block ≠ gb2 := Nat.ne_of_lt (Nat.lt_of_lt_of_le q26z GW1.out); have hn1_3 : ad2.block ≠ gb2 := Nat.ne_of_lt (Nat.lt_of_lt_of_le q26z GW1.out); have hn1_4 : ad2.block ≠ gb2 := Nat.ne_of_lt (Nat.lt_of_lt_of_le q26z GW1.out); have hn1_5 : ad2.block ≠ gb2 := Nat.ne_of_lt (Nat.lt_of_lt_of_le q26z GW1.out); have hn1_6 : ad2.block ≠ gb2 := Nat.ne_of_lt (Nat.lt_of_lt_of_le q26z GW1.out); replace hx1_0 := zx HB hx1_0; replace hx1_0 := (zf 0 hn1_0 (.int .i64 ((rd_T41 l0_0 x4_1).f0))).trans hx1_0; replace hx1_0 := (zf 1 hn1_1 (.int .i64 ((rd_T41 l0_0 x4_1).f1))).trans hx1_0; replace hx1_0 := (zf 2 hn1_2 (.int .i64 ((rd_T41 l0_0 x4_1).f2))).trans hx1_0; replace hx1_0 := (zf 3 hn1_3 (.int .i64 ((rd_T41 l0_0 x4_1).f3))).trans hx1_0; replace hx1_0 := (zf 4 hn1_4 (.int .i64 ((rd_T41 l0_0 x4_1).f4))).trans hx1_0; replace hx1_0 := (zf 5 hn1_5 (.int .i64 ((rd_T41 l0_0 x4_1).f5))).trans hx1_0; replace hx1_0 := (zf 6 hn1_6 (.int .i64 ((rd_T41 l0_0 x4_1).f6))).trans hx1_0; clear hn1_0 hn1_1 hn1_2 hn1_3 hn1_4 hn1_5 hn1_6; replace p1 := eq_true p1; replace q1 := eq_true q1) | ((with_reducible refine gate_builtin (b := .append) (xs := #[.tmp 55, .tmp 60]) rfl ?_); at_builtin; refine Kd.R_append (Kd.int .i64) (w0 := w) w.heap.size rfl (.tmp 55) (.tmp 60) 32 3 (.int .i64 0) 8 rfl Try.underlying32 info3 rfl (by decide) (by omega) u7 x1_1 (rd l2 x2_1) [.int .i64 (rd l2 x2_1)] (fun _ => True) (fun _ => False) rfl q30z ?aP (fun _ hk => hk.elim) ?aF ?aO ?aB ?aS ?aL ?_; (case aP => exact rfl); (case aB => exact q51z HB GE1 GE2); (case aF => exact q84z); (case aO => exact q29z HO_1 BK2); (case aS => exact q49z HB GE1 GE2); (case aL => have := LMc1.out; omega); intro v1 w3 ho hb hg hat; rw [← Ny1.out] at ho; replace BK1 := aM (blk_grown (g := gb1) (o := .cells #[.slice (some ad1) l0_0.length c0_0, .slice A0_1 l0_1.length c0_1, .slice A0_2 l0_2.length c0_2, .slice A0_3 l0_3.length c0_3, .slice A0_4 l0_4.length c0_4] 27 (0, 0)) (q8z NB1_448 BK1) hg (Kd.R_ne HO_1.out BK1.out (by decide))); replace BK2 := aM (blk_grown (g := gb2) (o := .cells #[.int .i64 ((rd_T41 l0_0 x4_1).f0), .int .i64 ((rd_T41 l0_0 x4_1).f1), .int .i64 ((rd_T41 l0_0 x4_1).f2), .int .i64 ((rd_T41 l0_0 x4_1).f3), .int .i64 ((rd_T41 l0_0 x4_1).f4), .int .i64 ((rd_T41 l0_0 x4_1).f5), .int .i64 ((rd_T41 l0_0 x4_1).f6)] 41 (0, 0)) (q15z BK2) hg (Kd.R_ne HO_1.out BK2.out (by decide))); replace HB := aM (hb); have HO1 := aM (ho); clear HO_1; clear ho hb hg hat))
         go_roundg k1
         case measure => have := HK1.out; omega
         case rel => exact ⟨(y1), (wrap64 (x2_1 + 1)), (x3_1), (wrap64 (x4_1 + 1)), q13z, q13z, q13z, H', ⟨by have := HK1.out; omega⟩, ⟨q2z HO1⟩, ⟨q10z BK1⟩, ⟨q3z HB GE1 GE2⟩⟩
        ·rw [if_neg c8] at H; exact absurd H (by simp)
       ·rw [if_neg c7] at H; exact absurd H (by simp)
      ·rw [if_neg c6] at H; exact absurd H (by simp)
     ·rw [if_neg c5] at H; obtain ⟨c1b0, c1b1⟩ := zne c5; by_cases c5 : ((rd_T41 l0_0 x4_1).f0) = 22
      ·rw [if_pos c5] at H; obtain ⟨c1b0, c1b1⟩ := zeq c5; clear c5; by_cases c6 : 0 ≤ x3_1
       ·rw [if_pos c6] at H; have c1b0 := decide_eq_true c6; clear c6; by_cases c7 : x3_1 < (l1.length : Int)
        ·rw [if_pos c7] at H; have c1b0 := decide_eq_true c7; clear c7; by_cases c8 : x1_1.length < 17592186044416
         ·rw [if_pos c8] at H; have LMc1 := aM c8; clear c8; obtain ⟨y1, hy1⟩ : ∃ y_ : List Int, y_ = (x1_1 ++ [rd l1 x3_1]) := ⟨_, rfl⟩; replace H : (r9_Eval.l0 k1 l1 l2 y1 x2_1 (wrap64 (x3_1 + 1)) (wrap64 (x4_1 + 1)) l0_0 l0_1 l0_2 l0_3 l0_4) = some r := by first | (rw [hy1]; with_reducible exact H) | (have H1_ := (Option.bind_some _ _).symm.trans H; rw [hy1]; with_reducible exact H1_) | (have H1_ := (Option.bind_some _ _).symm.trans H; with_reducible exact H1_) | with_reducible exact H | (rw [hy1]; exact H) | exact H
          have Ny1 := aM hy1; clear hy1; have H' := aM H; clear H; obtain ⟨i1_0, i1_1, i1_2, i1_3, i1_4, j1_0, j1_1, j1_2, j1_3, j1_4⟩ := cells5 BK1.out; have p1 : 0 ≤ (x4_1 : Int) := zod; have q1 : x4_1 < (l0_0.length : Int) := zod; obtain ⟨ad1, e1, hx1_0, hx1_1, hx1_2, hx1_3, hx1_4, hx1_5, hx1_6⟩ := at_T41 HR1_0.out x4_1 p1 q1; cases e1; replace hx1_0 := zx HB hx1_0; replace hx1_1 := zx HB hx1_1; replace hx1_2 := zx HB hx1_2; replace hx1_3 := zx HB hx1_3; replace hx1_4 := zx HB hx1_4; replace hx1_5 := zx HB hx1_5; replace hx1_6 := zx HB hx1_6; replace p1 := eq_true p1; replace q1 := eq_true q1; go_wp2_with (first | ((with_reducible refine zgd 11 rfl ?_); refine zbox 11 #[.int .i64 0, .int .i64 0, .int .i64 0, .int .i64 0, .int .i64 0, .int .i64 0, .int .i64 0] 41 ?_; intro gb2 hg w2 hbox hb; replace HO_1 := aM (yr (q2z HO_1) hb); have BK2 := aM (hbox); have GW1 := aM ((q12z HB GE1 : w.heap.size ≤ gb2)); have GE2 := aM ((q12z HB GE1 : w.heap.size ≤ gb2)); replace HB := aM (ym (q4z HB GE1) hb); have NB1_448 := aM ((q34z BK1 : gb1 ≠ gb2)); have NB1_446 := aM ((q35z BK1 : gb2 ≠ gb1)); replace BK1 := aM (yi (zi BK1) hb); clear hb hbox hg; have hnb1 := NB1_446.out; have hnc1 := NB1_448.out; obtain ⟨i1_0, i1_1, i1_2, i1_3, i1_4, i1_5, i1_6, j1_0, j1_1, j1_2, j1_3, j1_4, j1_5, j1_6⟩ := cells7 BK2.out; have p1 : 0 ≤ (x3_1 : Int) := zod; have q1 : x3_1 < (l1.length : Int) := zod; obtain ⟨ad2, e1, hx1_0⟩ := Kd.at_int HR1.out x3_1 p1 q1; cases e1; have hn1_0 : ad2.block ≠ gb2 := Nat.ne_of_lt (Nat.lt_of_lt_of_le q26z GW1.out); have hn1_1 : ad2.block ≠ gb2 := Nat.ne_of_lt (Nat.lt_of_lt_of_le q26z GW1.out); have hn1_2 : ad2.block ≠ gb2 := Nat.ne_of_lt (Nat.lt_of_lt_of_le q26z GW1.out); have hn1_3 : ad2.block ≠ gb2 := Nat.ne_of_lt (Nat.lt_of_lt_of_le q26z GW1.out); have hn1_4 : ad2.block ≠ gb2 := Nat.ne_of_lt (Nat.lt_of_lt_of_le q26z GW1.out); have hn1_5 : ad2.block ≠ gb2 := Nat.ne_of_lt (Nat.lt_of_lt_of_le q26z GW1.out); have hn1_6 : ad2.block ≠ gb2 := Nat.ne_of_lt (Nat.lt_of_lt_of_le q26z GW1.out); replace hx1_0 := zx HB hx1_0; replace hx1_0 := (zf 0 hn1_0 (.int .i64 ((rd_T41 l0_0 x4_1).f0))).trans hx1_0; replace hx1_0 := (zf 1 hn1_1 (.int .i64 ((rd_T41 l0_0 x4_1).f1))).trans hx1_0; replace hx1_0 := (zf 2 hn1_2 (.int .i64 ((rd_T41 l0_0 x4_1).f2))).trans hx1_0; replace hx1_0 := (zf 3 hn1_3 (.int .i64 ((rd_T41 l0_0 x4_1).f3))).trans hx1_0; replace hx1_0 := (zf 4 hn1_4 (.int .i64 ((rd_T41 l0_0 x4_1).f4))).trans hx1_0; replace hx1_0 := (zf 5 hn1_5 (.int .i64 ((rd_T41 l0_0 x4_1).f5))).trans hx1_0; replace hx1_0 := (zf 6 hn1_6 (.int .i64 ((rd_T41 l0_0 x4_1).f6))).trans hx1_0; clear hn1_0 hn1_1 hn1_2 hn1_3 hn1_4 hn1_5 hn1_6; replace p1 := eq_true p1; replace q1 := eq_true q1) | ((with_reducible refine gate_builtin (b := .append) (xs := #[.tmp 66, .tmp 71]) rfl ?_); at_builtin; refine Kd.R_append (Kd.int .i64) (w0 := w) w.heap.size rfl (.tmp 66) (.tmp 71) 32 3 (.int .i64 0) 8 rfl Try.underlying32 info3 rfl (by decide) (by omega) u7 x1_1 (rd l1 x3_1) [.int .i64 (rd l1 x3_1)] (fun _ => True) (fun _ => False) rfl q30z ?aP (fun _ hk => hk.elim) ?aF ?aO ?aB ?aS ?aL ?_; (case aP => exact rfl); (case aB => exact q51z HB GE1 GE2); (case aF => exact q84z); (case aO => exact q29z HO_1 BK2); (case aS => exact q49z HB GE1 GE2); (case aL => have := LMc1.out; omega); intro v1 w3 ho hb hg hat; rw [← Ny1.out] at ho; replace BK1 := aM (blk_grown (g := gb1) (o := .cells #[.slice (some ad1) l0_0.length c0_0, .slice A0_1 l0_1.length c0_1, .slice A0_2 l0_2.length c0_2, .slice A0_3 l0_3.length c0_3, .slice A0_4 l0_4.length c0_4] 27 (0, 0)) (q8z NB1_448 BK1) hg (Kd.R_ne HO_1.out BK1.out (by decide))); replace BK2 := aM (blk_grown (g := gb2) (o := .cells #[.int .i64 ((rd_T41 l0_0 x4_1).f0), .int .i64 ((rd_T41 l0_0 x4_1).f1), .int .i64 ((rd_T41 l0_0 x4_1).f2), .int .i64 ((rd_T41 l0_0 x4_1).f3), .int .i64 ((rd_T41 l0_0 x4_1).f4), .int .i64 ((rd_T41 l0_0 x4_1).f5), .int .i64 ((rd_T41 l0_0 x4_1).f6)] 41 (0, 0)) (q15z BK2) hg (Kd.R_ne HO_1.out BK2.out (by decide))); replace HB := aM (hb); have HO1 := aM (ho); clear HO_1; clear ho hb hg hat))
          go_roundg k1
          case measure => have := HK1.out; omega
          case rel => exact ⟨(y1), (x2_1), (wrap64 (x3_1 + 1)), (wrap64 (x4_1 + 1)), q13z, q13z, q13z, H', ⟨by have := HK1.out; omega⟩, ⟨q2z HO1⟩, ⟨q10z BK1⟩, ⟨q3z HB GE1 GE2⟩⟩
         ·rw [if_neg c8] at H; exact absurd H (by simp)
        ·rw [if_neg c7] at H; exact absurd H (by simp)
       ·rw [if_neg c6] at H; exact absurd H (by simp)
      ·rw [if_neg c5] at H; obtain ⟨c1b0, c1b1⟩ := zne c5; by_cases c5 : ((rd_T41 l0_0 x4_1).f0) = 1
       ·rw [if_pos c5] at H; obtain ⟨c1b0, c1b1⟩ := zeq c5; clear c5; by_cases c6 : x1_1.length < 17592186044416
        ·rw [if_pos c6] at H; have LMc1 := aM c6; clear c6; obtain ⟨y1, hy1⟩ : ∃ y_ : List Int, y_ = (x1_1 ++ [(rd_T41 l0_0 x4_1).f5]) := ⟨_, rfl⟩; replace H : (r9_Eval.l0 k1 l1 l2 y1 x2_1 x3_1 (wrap64 (x4_1 + 1)) l0_0 l0_1 l0_2 l0_3 l0_4) = some r := by first | (rw [hy1]; with_reducible exact H) | (have H1_ := (Option.bind_some _ _).symm.trans H; rw [hy1]; with_reducible exact H1_) | (have H1_ := (Option.bind_some _ _).symm.trans H; with_reducible exact H1_) | with_reducible exact H | (rw [hy1]; exact H) | exact H
         have Ny1 := aM hy1; clear hy1; have H' := aM H; clear H; obtain ⟨i1_0, i1_1, i1_2, i1_3, i1_4, j1_0, j1_1, j1_2, j1_3, j1_4⟩ := cells5 BK1.out; have p1 : 0 ≤ (x4_1 : Int) := zod; have q1 : x4_1 < (l0_0.length : Int) := zod; obtain ⟨ad1, e1, hx1_0, hx1_1, hx1_2, hx1_3, hx1_4, hx1_5, hx1_6⟩ := at_T41 HR1_0.out x4_1 p1 q1; cases e1; replace hx1_0 := zx HB hx1_0; replace hx1_1 := zx HB hx1_1; replace hx1_2 := zx HB hx1_2; replace hx1_3 := zx HB hx1_3; replace hx1_4 := zx HB hx1_4; replace hx1_5 := zx HB hx1_5; replace hx1_6 := zx HB hx1_6; replace p1 := eq_true p1; replace q1 := eq_true q1; go_wp2_with (first | ((with_reducible refine zgd 11 rfl ?_); refine zbox 11 #[.int .i64 0, .int .i64 0, .int .i64 0, .int .i64 0, .int .i64 0, .int .i64 0, .int .i64 0] 41 ?_; intro gb2 hg w2 hbox hb; replace HO_1 := aM (yr (q2z HO_1) hb); have BK2 := aM (hbox); have GW1 := aM ((q12z HB GE1 : w.heap.size ≤ gb2)); have GE2 := aM ((q12z HB GE1 : w.heap.size ≤ gb2)); replace HB := aM (ym (q4z HB GE1) hb); have NB1_448 := aM ((q34z BK1 : gb1 ≠ gb2)); have NB1_446 := aM ((q35z BK1 : gb2 ≠ gb1)); replace BK1 := aM (yi (zi BK1) hb); clear hb hbox hg; have hnb1 := NB1_446.out; have hnc1 := NB1_448.out; obtain ⟨i1_0, i1_1, i1_2, i1_3, i1_4, i1_5, i1_6, j1_0, j1_1, j1_2, j1_3, j1_4, j1_5, j1_6⟩ := cells7 BK2.out) | ((with_reducible refine gate_builtin (b := .append) (xs := #[.tmp 77, .tmp 80]) rfl ?_); at_builtin; refine Kd.R_append (Kd.int .i64) (w0 := w) w.heap.size rfl (.tmp 77) (.tmp 80) 32 3 (.int .i64 0) 8 rfl Try.underlying32 info3 rfl (by decide) (by omega) u7 x1_1 ((rd_T41 l0_0 x4_1).f5) [.int .i64 ((rd_T41 l0_0 x4_1).f5)] (fun _ => True) (fun _ => False) rfl q30z ?aP (fun _ hk => hk.elim) ?aF ?aO ?aB ?aS ?aL ?_; (case aP => exact rfl); (case aB => exact q51z HB GE1 GE2); (case aF => exact q84z); (case aO => exact q29z HO_1 BK2); (case aS => exact q49z HB GE1 GE2); (case aL => have := LMc1.out; omega); intro v1 w3 ho hb hg hat; rw [← Ny1.out] at ho; replace BK1 := aM (blk_grown (g := gb1) (o := .cells #[.slice (some ad1) l0_0.length c0_0, .slice A0_1 l0_1.length c0_1, .slice A0_2 l0_2.length c0_2, .slice A0_3 l0_3.length c0_3, .slice A0_4 l0_4.length c0_4] 27 (0, 0)) (q8z NB1_448 BK1) hg (Kd.R_ne HO_1.out BK1.out (by decide))); replace BK2 := aM (blk_grown (g := gb2) (o := .cells #[.int .i64 ((rd_T41 l0_0 x4_1).f0), .int .i64 ((rd_T41 l0_0 x4_1).f1), .int .i64 ((rd_T41 l0_0 x4_1).f2), .int .i64 ((rd_T41 l0_0 x4_1).f3), .int .i64 ((rd_T41 l0_0 x4_1).f4), .int .i64 ((rd_T41 l0_0 x4_1).f5), .int .i64 ((rd_T41 l0_0 x4_1).f6)] 41 (0, 0)) (q15z BK2) hg (Kd.R_ne HO_1.out BK2.out (by decide))); replace HB := aM (hb); have HO1 := aM (ho); clear HO_1; clear ho hb hg hat))
         go_roundg k1
         case measure => have := HK1.out; omega
         case rel => exact ⟨(y1), (x2_1), (x3_1), (wrap64 (x4_1 + 1)), q13z, q13z, q13z, H', ⟨by have := HK1.out; omega⟩, ⟨q2z HO1⟩, ⟨q10z BK1⟩, ⟨q3z HB GE1 GE2⟩⟩
        ·rw [if_neg c6] at H; exact absurd H (by simp)
       ·rw [if_neg c5] at H; obtain ⟨c1b0, c1b1⟩ := zne c5; by_cases c5 : 0 ≤ ((rd_T41 l0_0 x4_1).f2)
        ·rw [if_pos c5] at H; have c1b0 := decide_eq_true c5; clear c5; by_cases c6 : ((rd_T41 l0_0 x4_1).f2) < (x1_1.length : Int)
         ·rw [if_pos c6] at H; have c1b0 := decide_eq_true c6; clear c6; by_cases c7 : 0 ≤ ((rd_T41 l0_0 x4_1).f3)
          ·rw [if_pos c7] at H; have c1b0 := decide_eq_true c7; clear c7; by_cases c8 : ((rd_T41 l0_0 x4_1).f3) < (x1_1.length : Int)
           ·rw [if_pos c8] at H; have c1b0 := decide_eq_true c8; clear c8; by_cases c9 : 0 ≤ ((rd_T41 l0_0 x4_1).f4)
            ·rw [if_pos c9] at H; have c1b0 := decide_eq_true c9; clear c9; by_cases c10 : ((rd_T41 l0_0 x4_1).f4) < (x1_1.length : Int)
             ·rw [if_pos c10] at H; have c1b0 := decide_eq_true c10; clear c10; by_cases c11 : ((rd_T41 l0_0 x4_1).f3) < (l0_0.length : Int)
              ·rw [if_pos c11] at H; have c1b0 := decide_eq_true c11; clear c11; replace H := Option.bind_eq_some_iff.mp H; obtain ⟨t1, A3, H⟩ := H; have A4 := aM A3; clear A3; by_cases c12 : x1_1.length < 17592186044416
               ·rw [if_pos c12] at H; have LMc1 := aM c12; clear c12; obtain ⟨y1, hy1⟩ : ∃ y_ : List Int, y_ = (x1_1 ++ [t1]) := ⟨_, rfl⟩; replace H : (r9_Eval.l0 k1 l1 l2 y1 x2_1 x3_1 (wrap64 (x4_1 + 1)) l0_0 l0_1 l0_2 l0_3 l0_4) = some r := by first | (rw [hy1]; with_reducible exact H) | (have H1_ := (Option.bind_some _ _).symm.trans H; rw [hy1]; with_reducible exact H1_) | (have H1_ := (Option.bind_some _ _).symm.trans H; with_reducible exact H1_) | with_reducible exact H | (rw [hy1]; exact H) | exact H
                have Ny1 := aM hy1; clear hy1; have H' := aM H; clear H; obtain ⟨i1_0, i1_1, i1_2, i1_3, i1_4, j1_0, j1_1, j1_2, j1_3, j1_4⟩ := cells5 BK1.out; have p1 : 0 ≤ (x4_1 : Int) := zod; have q1 : x4_1 < (l0_0.length : Int) := zod; obtain ⟨ad1, e1, hx1_0, hx1_1, hx1_2, hx1_3, hx1_4, hx1_5, hx1_6⟩ := at_T41 HR1_0.out x4_1 p1 q1; cases e1; replace hx1_0 := zx HB hx1_0; replace hx1_1 := zx HB hx1_1; replace hx1_2 := zx HB hx1_2; replace hx1_3 := zx HB hx1_3; replace hx1_4 := zx HB hx1_4; replace hx1_5 := zx HB hx1_5; replace hx1_6 := zx HB hx1_6; replace p1 := eq_true p1; replace q1 := eq_true q1; try go_wp2_with (first | ((with_reducible refine zgd 11 rfl ?_); refine zbox 11 #[.int .i64 0, .int .i64 0, .int .i64 0, .int .i64 0, .int .i64 0, .int .i64 0, .int .i64 0] 41 ?_; intro gb2 hg w2 hbox hb; replace HO_1 := aM (yr (q2z HO_1) hb); have BK2 := aM (hbox); have GW1 := aM ((q12z HB GE1 : w.heap.size ≤ gb2)); have GE2 := aM ((q12z HB GE1 : w.heap.size ≤ gb2)); replace HB := aM (ym (q4z HB GE1) hb); have NB1_448 := aM ((q34z BK1 : gb1 ≠ gb2)); have NB1_446 := aM ((q35z BK1 : gb2 ≠ gb1)); replace BK1 := aM (yi (zi BK1) hb); clear hb hbox hg; have hnb1 := NB1_446.out; have hnc1 := NB1_448.out; obtain ⟨i1_0, i1_1, i1_2, i1_3, i1_4, i1_5, i1_6, j1_0, j1_1, j1_2, j1_3, j1_4, j1_5, j1_6⟩ := cells7 BK2.out))
                have n1_ : Aside0 (Kd.R (Kd.int .i64) 3 (((((((w2.setCell ⟨gb2, 0, none⟩ (.int .i64 ((rd_T41 l0_0 x4_1).f0))).setCell ⟨gb2, 1, none⟩ (.int .i64 ((rd_T41 l0_0 x4_1).f1))).setCell ⟨gb2, 2, none⟩ (.int .i64 ((rd_T41 l0_0 x4_1).f2))).setCell ⟨gb2, 3, none⟩ (.int .i64 ((rd_T41 l0_0 x4_1).f3))).setCell ⟨gb2, 4, none⟩ (.int .i64 ((rd_T41 l0_0 x4_1).f4))).setCell ⟨gb2, 5, none⟩ (.int .i64 ((rd_T41 l0_0 x4_1).f5))).setCell ⟨gb2, 6, none⟩ (.int .i64 ((rd_T41 l0_0 x4_1).f6))) w.heap.size (fun _ => True) u7 x1_1) := ⟨q22z HO_1 BK2⟩; have n2_ : Aside0 ((((((((w2.setCell ⟨gb2, 0, none⟩ (.int .i64 ((rd_T41 l0_0 x4_1).f0))).setCell ⟨gb2, 1, none⟩ (.int .i64 ((rd_T41 l0_0 x4_1).f1))).setCell ⟨gb2, 2, none⟩ (.int .i64 ((rd_T41 l0_0 x4_1).f2))).setCell ⟨gb2, 3, none⟩ (.int .i64 ((rd_T41 l0_0 x4_1).f3))).setCell ⟨gb2, 4, none⟩ (.int .i64 ((rd_T41 l0_0 x4_1).f4))).setCell ⟨gb2, 5, none⟩ (.int .i64 ((rd_T41 l0_0 x4_1).f5))).setCell ⟨gb2, 6, none⟩ (.int .i64 ((rd_T41 l0_0 x4_1).f6))).heap[gb1]? = some (.cells #[.slice (some ad1) l0_0.length c0_0, .slice A0_1 l0_1.length c0_1, .slice A0_2 l0_2.length c0_2, .slice A0_3 l0_3.length c0_3, .slice A0_4 l0_4.length c0_4] 27 (0, 0))) := ⟨q8z NB1_448 BK1⟩; have n3_ : Aside0 ((((((((w2.setCell ⟨gb2, 0, none⟩ (.int .i64 ((rd_T41 l0_0 x4_1).f0))).setCell ⟨gb2, 1, none⟩ (.int .i64 ((rd_T41 l0_0 x4_1).f1))).setCell ⟨gb2, 2, none⟩ (.int .i64 ((rd_T41 l0_0 x4_1).f2))).setCell ⟨gb2, 3, none⟩ (.int .i64 ((rd_T41 l0_0 x4_1).f3))).setCell ⟨gb2, 4, none⟩ (.int .i64 ((rd_T41 l0_0 x4_1).f4))).setCell ⟨gb2, 5, none⟩ (.int .i64 ((rd_T41 l0_0 x4_1).f5))).setCell ⟨gb2, 6, none⟩ (.int .i64 ((rd_T41 l0_0 x4_1).f6))).heap[gb2]? = some (.cells #[.int .i64 ((rd_T41 l0_0 x4_1).f0), .int .i64 ((rd_T41 l0_0 x4_1).f1), .int .i64 ((rd_T41 l0_0 x4_1).f2), .int .i64 ((rd_T41 l0_0 x4_1).f3), .int .i64 ((rd_T41 l0_0 x4_1).f4), .int .i64 ((rd_T41 l0_0 x4_1).f5), .int .i64 ((rd_T41 l0_0 x4_1).f6)] 41 (0, 0))) := ⟨q15z BK2⟩; have n4_ : Aside0 (Below w.heap.size w (((((((w2.setCell ⟨gb2, 0, none⟩ (.int .i64 ((rd_T41 l0_0 x4_1).f0))).setCell ⟨gb2, 1, none⟩ (.int .i64 ((rd_T41 l0_0 x4_1).f1))).setCell ⟨gb2, 2, none⟩ (.int .i64 ((rd_T41 l0_0 x4_1).f2))).setCell ⟨gb2, 3, none⟩ (.int .i64 ((rd_T41 l0_0 x4_1).f3))).setCell ⟨gb2, 4, none⟩ (.int .i64 ((rd_T41 l0_0 x4_1).f4))).setCell ⟨gb2, 5, none⟩ (.int .i64 ((rd_T41 l0_0 x4_1).f5))).setCell ⟨gb2, 6, none⟩ (.int .i64 ((rd_T41 l0_0 x4_1).f6)))) := ⟨q3z HB GE1 GE2⟩; (try clear HO_1)
                (try clear BK1)
                (try clear BK2)
                (try clear HB)
                generalize (((((((w2.setCell ⟨gb2, 0, none⟩ (.int .i64 ((rd_T41 l0_0 x4_1).f0))).setCell ⟨gb2, 1, none⟩ (.int .i64 ((rd_T41 l0_0 x4_1).f1))).setCell ⟨gb2, 2, none⟩ (.int .i64 ((rd_T41 l0_0 x4_1).f2))).setCell ⟨gb2, 3, none⟩ (.int .i64 ((rd_T41 l0_0 x4_1).f3))).setCell ⟨gb2, 4, none⟩ (.int .i64 ((rd_T41 l0_0 x4_1).f4))).setCell ⟨gb2, 5, none⟩ (.int .i64 ((rd_T41 l0_0 x4_1).f5))).setCell ⟨gb2, 6, none⟩ (.int .i64 ((rd_T41 l0_0 x4_1).f6))) = w3 at n1_ n2_ n3_ n4_ ⊢; have HO_1 := n1_; have BK1 := n2_; have BK2 := n3_; have HB := n4_; clear n1_ n2_ n3_ n4_; replace HO_1 := aM (yh HO_1.out); replace BK1 := aM (yc BK1.out); replace BK2 := aM (yc BK2.out); replace HB := aM (yk HB.out); obtain ⟨Ao1, co1, eo1⟩ := Kd.R_slice HO_1.out; (first | subst eo1 | (injection eo1 with f1_ f2_ f3_; have f4_ := f1_.symm; have f5_ := f3_.symm; clear f1_ f2_ f3_; subst f4_; subst f5_))
                have p1 : 0 ≤ (((rd_T41 l0_0 x4_1).f2) : Int) := zod; have q1 : ((rd_T41 l0_0 x4_1).f2) < (x1_1.length : Int) := zod; obtain ⟨ad2, e1, hx1_0⟩ := Kd.at_int (Kd.R_reads' HO_1.out).2.2 ((rd_T41 l0_0 x4_1).f2) p1 q1; cases e1; replace p1 := eq_true p1; replace q1 := eq_true q1; have p1 : 0 ≤ (((rd_T41 l0_0 x4_1).f3) : Int) := zod; have q1 : ((rd_T41 l0_0 x4_1).f3) < (x1_1.length : Int) := zod; obtain ⟨ad3, e1, hx2_0⟩ := Kd.at_int (Kd.R_reads' HO_1.out).2.2 ((rd_T41 l0_0 x4_1).f3) p1 q1; obtain rfl : ad2 = ad3 := (by injection e1); replace p1 := eq_true p1; replace q1 := eq_true q1; have p1 : 0 ≤ (((rd_T41 l0_0 x4_1).f4) : Int) := zod; have q1 : ((rd_T41 l0_0 x4_1).f4) < (x1_1.length : Int) := zod; obtain ⟨ad3, e1, hx3_0⟩ := Kd.at_int (Kd.R_reads' HO_1.out).2.2 ((rd_T41 l0_0 x4_1).f4) p1 q1; obtain rfl : ad2 = ad3 := (by injection e1); replace p1 := eq_true p1; replace q1 := eq_true q1; have p1 : 0 ≤ (((rd_T41 l0_0 x4_1).f3) : Int) := zod; have q1 : ((rd_T41 l0_0 x4_1).f3) < (l0_0.length : Int) := zod; obtain ⟨ad3, e1, hx4_0, hx1_1, hx1_2, hx1_3, hx1_4, hx1_5, hx1_6⟩ := at_T41 HR1_0.out ((rd_T41 l0_0 x4_1).f3) p1 q1; have hw1_6 := hx1_6; have hw1_5 := hx1_5; have hw1_4 := hx1_4; have hw1_3 := hx1_3; have hw1_2 := hx1_2; have hw1_1 := hx1_1; have hw1_0 := hx4_0; obtain rfl : ad1 = ad3 := (by injection e1); replace hx4_0 := zx HB hx4_0; replace hx1_1 := zx HB hx1_1; replace hx1_2 := zx HB hx1_2; replace hx1_3 := zx HB hx1_3; replace hx1_4 := zx HB hx1_4; replace hx1_5 := zx HB hx1_5; replace hx1_6 := zx HB hx1_6; replace p1 := eq_true p1; replace q1 := eq_true q1; refine start_ (n := 28) (S := fun w' => w'.cell? ⟨gb2, 0, none⟩ = some (.int .i64 ((rd_T41 l0_0 x4_1).f0)) ∧ w'.cell? ⟨gb2, 1, none⟩ = some (.int .i64 ((rd_T41 l0_0 x4_1).f1)) ∧ w'.cell? ⟨gb2, 2, none⟩ = some (.int .i64 ((rd_T41 l0_0 x4_1).f2)) ∧ w'.cell? ⟨gb2, 3, none⟩ = some (.int .i64 ((rd_T41 l0_0 x4_1).f3)) ∧ w'.cell? ⟨gb2, 4, none⟩ = some (.int .i64 ((rd_T41 l0_0 x4_1).f4)) ∧ w'.cell? ⟨gb2, 5, none⟩ = some (.int .i64 ((rd_T41 l0_0 x4_1).f5)) ∧ w'.cell? ⟨gb2, 6, none⟩ = some (.int .i64 ((rd_T41 l0_0 x4_1).f6)) ∧ w'.cell? ⟨gb1, 0, none⟩ = some (.slice (some ad1) l0_0.length c0_0) ∧ w'.cell? ⟨gb1, 1, none⟩ = some (.slice A0_1 l0_1.length c0_1) ∧ w'.cell? ⟨gb1, 2, none⟩ = some (.slice A0_2 l0_2.length c0_2) ∧ w'.cell? ⟨gb1, 3, none⟩ = some (.slice A0_3 l0_3.length c0_3) ∧ w'.cell? ⟨gb1, 4, none⟩ = some (.slice A0_4 l0_4.length c0_4) ∧ w'.cell? (ad2.add (((rd_T41 l0_0 x4_1).f2)).toNat) = some (.int .i64 (rd x1_1 ((rd_T41 l0_0 x4_1).f2))) ∧ w'.cell? (ad2.add (((rd_T41 l0_0 x4_1).f3)).toNat) = some (.int .i64 (rd x1_1 ((rd_T41 l0_0 x4_1).f3))) ∧ w'.cell? (ad2.add (((rd_T41 l0_0 x4_1).f4)).toNat) = some (.int .i64 (rd x1_1 ((rd_T41 l0_0 x4_1).f4))) ∧ w'.cell? (ad1.add ((((rd_T41 l0_0 x4_1).f3)).toNat * 7)) = some (.int .i64 ((rd_T41 l0_0 ((rd_T41 l0_0 x4_1).f3)).f0)) ∧ w'.cell? ⟨(ad1.add ((((rd_T41 l0_0 x4_1).f3)).toNat * 7)).block, (ad1.add ((((rd_T41 l0_0 x4_1).f3)).toNat * 7)).off + 1, none⟩ = some (.int .i64 ((rd_T41 l0_0 ((rd_T41 l0_0 x4_1).f3)).f1)) ∧ w'.cell? ⟨(ad1.add ((((rd_T41 l0_0 x4_1).f3)).toNat * 7)).block, (ad1.add ((((rd_T41 l0_0 x4_1).f3)).toNat * 7)).off + 2, none⟩ = some (.int .i64 ((rd_T41 l0_0 ((rd_T41 l0_0 x4_1).f3)).f2)) ∧ w'.cell? ⟨(ad1.add ((((rd_T41 l0_0 x4_1).f3)).toNat * 7)).block, (ad1.add ((((rd_T41 l0_0 x4_1).f3)).toNat * 7)).off + 3, none⟩ = some (.int .i64 ((rd_T41 l0_0 ((rd_T41 l0_0 x4_1).f3)).f3)) ∧ w'.cell? ⟨(ad1.add ((((rd_T41 l0_0 x4_1).f3)).toNat * 7)).block, (ad1.add ((((rd_T41 l0_0 x4_1).f3)).toNat * 7)).off + 4, none⟩ = some (.int .i64 ((rd_T41 l0_0 ((rd_T41 l0_0 x4_1).f3)).f4)) ∧ w'.cell? ⟨(ad1.add ((((rd_T41 l0_0 x4_1).f3)).toNat * 7)).block, (ad1.add ((((rd_T41 l0_0 x4_1).f3)).toNat * 7)).off + 5, none⟩ = some (.int .i64 ((rd_T41 l0_0 ((rd_T41 l0_0 x4_1).f3)).f5)) ∧ w'.cell? ⟨(ad1.add ((((rd_T41 l0_0 x4_1).f3)).toNat * 7)).block, (ad1.add ((((rd_T41 l0_0 x4_1).f3)).toNat * 7)).off + 6, none⟩ = some (.int .i64 ((rd_T41 l0_0 ((rd_T41 l0_0 x4_1).f3)).f6))) (ds := [25, 26]) (zb 28 0) (by kernel_rfl) rfl rfl ⟨zc BK2 0, zc BK2 1, zc BK2 2, zc BK2 3, zc BK2 4, zc BK2 5, zc BK2 6, zc BK1 0, zc BK1 1, zc BK1 2, zc BK1 3, zc BK1 4, hx1_0, hx2_0, hx3_0, (zx HB hw1_0), (zx HB hw1_1), (zx HB hw1_2), (zx HB hw1_3), (zx HB hw1_4), (zx HB hw1_5), (zx HB hw1_6)⟩ (fun hHeld => ?_); refine with_tabW r9_Eval.tab9 r9_Eval.bits9 (fun HT_ HW_ => ?_)
                generalize w3.drew = w2 at HO_1 BK1 BK2 HB hx1_0 hx2_0 hx3_0 hx4_0 hx1_1 hx1_2 hx1_3 hx1_4 hx1_5 hx1_6 hHeld ⊢; refine zpu 0 26 (zb 28 1) ?_; refine zpu 2 28 (zb 28 5) ?_; refine zpu 3 29 (zb 28 13) ?_; refine zpu 7 33 (zb 28 141) ?_; refine zpu 8 34 (zb 28 397) ?_; refine zpu 12 38 (zb 28 4493) ?_; refine zpu 13 39 (zb 28 12685) ?_; refine zpu 17 43 (zb 28 143757) ?_; refine zpu 19 45 (zb 28 668045) ?_; refine ztk22 1 27 (zb 28 668047) hHeld ?_; refine ztk22 4 30 (zb 28 668063) hHeld ?_; refine zpu 5 31 (zb 28 668095) ?_; refine ztk22 6 32 (zb 28 668159) hHeld ?_; refine ztk22 9 35 (zb 28 668671) hHeld ?_; refine zpu 10 36 (zb 28 669695) ?_; refine ztk22 11 37 (zb 28 671743) hHeld ?_; refine ztk22 14 40 (zb 28 688127) hHeld ?_; refine zpu 15 41 (zb 28 720895) ?_; refine ztk22 16 42 (zb 28 786431) hHeld ?_; refine ztk22 18 44 (zb 28 1048575) hHeld ?_; refine ztk22 20 46 (zb 28 2097151) hHeld ?_; refine zpu 21 47 (zb 28 4194303) ?_; refine zpu 22 48 (zb 28 8388607) ?_; refine ztk22 23 49 (zb 28 16777215) hHeld ?_; refine zon 24 (some 50) (zb 28 33554431) fun K hK => ?_
                refine zgo Try.func45 #[.agg #[.int .i64 ((rd_T41 l0_0 x4_1).f0), .int .i64 ((rd_T41 l0_0 x4_1).f1), .int .i64 ((rd_T41 l0_0 x4_1).f2), .int .i64 ((rd_T41 l0_0 x4_1).f3), .int .i64 ((rd_T41 l0_0 x4_1).f4), .int .i64 ((rd_T41 l0_0 x4_1).f5), .int .i64 ((rd_T41 l0_0 x4_1).f6)], .int .i64 (rd x1_1 ((rd_T41 l0_0 x4_1).f2)), .int .i64 (rd x1_1 ((rd_T41 l0_0 x4_1).f3)), .int .i64 (rd x1_1 ((rd_T41 l0_0 x4_1).f4)), .int .i64 ((rd_T41 l0_0 ((rd_T41 l0_0 x4_1).f3)).f1)] ?_; with_reducible refine (r8_Do.calls ((rd_T41 l0_0 x4_1).f0) ((rd_T41 l0_0 x4_1).f1) ((rd_T41 l0_0 x4_1).f2) ((rd_T41 l0_0 x4_1).f3) ((rd_T41 l0_0 x4_1).f4) ((rd_T41 l0_0 x4_1).f5) ((rd_T41 l0_0 x4_1).f6) (rd x1_1 ((rd_T41 l0_0 x4_1).f2)) (rd x1_1 ((rd_T41 l0_0 x4_1).f3)) (rd x1_1 ((rd_T41 l0_0 x4_1).f4)) ((rd_T41 l0_0 ((rd_T41 l0_0 x4_1).f3)).f1) t1 _ A4.out).mono ?_
                rintro e w2 ⟨rfl, hb⟩; have HS1_ := (hb.cell (World.block_lt_of_cell? _ _ (hHeld.2.2.2.2.2.2.2.2.2.2.2.2.1))).trans (hHeld.2.2.2.2.2.2.2.2.2.2.2.2.1); have HS2_ := (hb.cell (World.block_lt_of_cell? _ _ (hHeld.2.2.2.2.2.2.2.2.2.2.2.2.2.1))).trans (hHeld.2.2.2.2.2.2.2.2.2.2.2.2.2.1); have HS3_ := (hb.cell (World.block_lt_of_cell? _ _ (hHeld.2.2.2.2.2.2.2.2.2.2.2.2.2.2.1))).trans (hHeld.2.2.2.2.2.2.2.2.2.2.2.2.2.2.1); refine ⟨_, rfl, ?_⟩; replace HO_1 := aM (yr (q2z HO_1) hb); replace BK1 := aM (yi (zi BK1) hb); replace BK2 := aM (yi (zi BK2) hb); replace HB := aM (ym (q3z HB GE1 GE2) hb); (try clear hb)
                (try clear hb2)
                (try clear hk)
                (try clear hi)
                refine hK.out _ _ ⟨zc BK2 0, zc BK2 1, zc BK2 2, zc BK2 3, zc BK2 4, zc BK2 5, zc BK2 6, zc BK1 0, zc BK1 1, zc BK1 2, zc BK1 3, zc BK1 4, HS1_, HS2_, HS3_, (zx HB hw1_0), (zx HB hw1_1), (zx HB hw1_2), (zx HB hw1_3), (zx HB hw1_4), (zx HB hw1_5), (zx HB hw1_6)⟩ (fun hHeld => ?_); clear hK K; refine zno 50 ?_; refine zla 25 (some 51) (zb 28 67108863) fun K hK => ?_
                refine value_ (w1 := ?_) (v := ?_) (by rfl) rfl ?_ ?_
                rotate_left 2
                ·go_simp
                 constructor
                 ·rfl
                 ·rfl
                refine hK.out _ _ ?_; clear hK K; refine zno 51 ?_; refine zla 26 (some 52) (zb 28 134217727) fun K hK => ?_
                refine Kd.R_append_step (Kd.int .i64) (w0 := w) w.heap.size (by rfl) (.tmp 26) (.tmp 51) 32 3 (.int .i64 0) 8 rfl Try.underlying32 info3 rfl (by decide) (by omega) (.slice (some ad2) x1_1.length co1) x1_1 t1 [.int .i64 t1] (fun _ => True) (fun _ => False) rfl rfl ?aP (fun _ hk => hk.elim) ?aF ?aO ?aB ?aS ?aL ?_; (case aP => exact rfl)
                (case aB => exact q51z HB GE1 GE2)
                (case aF => exact q84z)
                (case aO => exact q44z HO_1)
                (case aS => exact q49z HB GE1 GE2)
                (case aL => have := LMc1.out; omega)
                intro v1 w2 ho hb hg hat
                rw [← Ny1.out] at ho; replace BK1 := aM (blk_grown (g := gb1) (o := .cells #[.slice (some ad1) l0_0.length c0_0, .slice A0_1 l0_1.length c0_1, .slice A0_2 l0_2.length c0_2, .slice A0_3 l0_3.length c0_3, .slice A0_4 l0_4.length c0_4] 27 (0, 0)) (zi BK1) hg (Kd.R_ne HO_1.out BK1.out (by decide))); replace BK2 := aM (blk_grown (g := gb2) (o := .cells #[.int .i64 ((rd_T41 l0_0 x4_1).f0), .int .i64 ((rd_T41 l0_0 x4_1).f1), .int .i64 ((rd_T41 l0_0 x4_1).f2), .int .i64 ((rd_T41 l0_0 x4_1).f3), .int .i64 ((rd_T41 l0_0 x4_1).f4), .int .i64 ((rd_T41 l0_0 x4_1).f5), .int .i64 ((rd_T41 l0_0 x4_1).f6)] 41 (0, 0)) (zi BK2) hg (Kd.R_ne HO_1.out BK2.out (by decide))); replace HB := aM (hb); have HO1 := aM (ho); clear HO_1; clear ho hb hg hat; refine hK.out _ _ ?_; clear hK K; refine zno 52 ?_; refine zpu 27 7 (zb 28 268435455) ?_; refine zdo ?_; try go_wp2
                go_roundg k1
                case measure => have := HK1.out; omega
                case rel => exact ⟨(y1), (x2_1), (x3_1), (wrap64 (x4_1 + 1)), q13z, q13z, q13z, H', ⟨by have := HK1.out; omega⟩, ⟨q2z HO1⟩, ⟨q10z BK1⟩, ⟨q3z HB GE1 GE2⟩⟩
               ·rw [if_neg c12] at H; exact absurd H (by simp)
              ·rw [if_neg c11] at H; exact absurd H (by simp)
             ·rw [if_neg c10] at H; exact absurd H (by simp)
            ·rw [if_neg c9] at H; exact absurd H (by simp)
           ·rw [if_neg c8] at H; exact absurd H (by simp)
          ·rw [if_neg c7] at H; exact absurd H (by simp)
         ·rw [if_neg c6] at H; exact absurd H (by simp)
        ·rw [if_neg c5] at H; exact absurd H (by simp)
    ·rw [if_neg c4] at H; exact absurd H (by simp)
   ·rw [if_neg c3] at H; have c1b0 := decide_eq_false c3; clear c3; obtain rfl := Option.some.inj H; obtain ⟨i1_0, i1_1, i1_2, i1_3, i1_4, j1_0, j1_1, j1_2, j1_3, j1_4⟩ := cells5 BK1.out; go_wp2
    go_ret
    exact ⟨_, q11z, q2z HO_1, q4z HB GE1⟩
def r9_After.l0 : Nat → List Int → List Int → Int → List (S41) → List (S47) → List (S43) → List (S61) → List (S47) → Option (List Int)
 | 0, _, _, _, _, _, _, _, _ => none
 | k + 1, x7, x8, x9, x469000, x469001, x469002, x469003, x469004 => if x9 < (x469002.length : Int) then (if 0 ≤ x9 then (if 0 ≤ ((rd_T43 x469002 x9).f2) then (if ((rd_T43 x469002 x9).f2) < (x7.length : Int) then (if x8.length < 17592186044416 then (r9_After.l0 k x7 (x8 ++ [rd x7 ((rd_T43 x469002 x9).f2)]) (wrap64 (x9 + 1)) x469000 x469001 x469002 x469003 x469004) else (none)) else (none)) else (none)) else (none)) else (some x8)
def r9_After.f (k : Nat) (l0_0 : List (S41)) (l0_1 : List (S47)) (l0_2 : List (S43)) (l0_3 : List (S61)) (l0_4 : List (S47)) (l1 : List Int) (l2 : List Int) : Option (List Int) := (r9_Eval.f k l0_0 l0_1 l0_2 l0_3 l0_4 l1 l2).bind fun t469 => (r9_After.l0 k t469 ([] : List Int) 0 l0_0 l0_1 l0_2 l0_3 l0_4)
theorem r9_After.mono_l : ∀ k, (∀ y0 y1 y2 y3 y4 y5 y6 y7, LeO (r9_After.l0 k y0 y1 y2 y3 y4 y5 y6 y7) (r9_After.l0 (k + 1) y0 y1 y2 y3 y4 y5 y6 y7))
 | 0 => fun _ _ _ _ _ _ _ _ r h => by simp [r9_After.l0] at h
 | k + 1 => by
  have ih0 := r9_After.mono_l k
  ·intro y0 y1 y2 y3 y4 y5 y6 y7
   unfold r9_After.l0
   repeat' first | (with_reducible first | apply ih0 | exact LeO.refl _ | exact LeO.none _ | refine LeO.ite ?_ ?_ | refine LeO.bind ?_ (fun _ => ?_)) | exact LeO.none _ | refine LeO.ite ?_ ?_ | refine LeO.bind ?_ (fun _ => ?_)
theorem r9_After.mono : ∀ a0 a1 a2 a3 a4 a5 a6 k, LeO (r9_After.f k a0 a1 a2 a3 a4 a5 a6) (r9_After.f (k + 1) a0 a1 a2 a3 a4 a5 a6) := by
 intro a0 a1 a2 a3 a4 a5 a6 k
 have ih1 := r9_After.mono_l k; unfold r9_After.f
 repeat' first | (with_reducible first | apply ih1 | apply r9_Eval.mono | exact LeO.refl _ | exact LeO.none _ | refine LeO.ite ?_ ?_ | refine LeO.bind ?_ (fun _ => ?_)) | exact LeO.none _ | refine LeO.ite ?_ ?_ | refine LeO.bind ?_ (fun _ => ?_)
theorem r9_After.calls (k : Nat) (A0_0 : Option Addr) (c0_0 : Nat) (l0_0 : List (S41)) (A0_1 : Option Addr) (c0_1 : Nat) (l0_1 : List (S47)) (A0_2 : Option Addr) (c0_2 : Nat) (l0_2 : List (S43)) (A0_3 : Option Addr) (c0_3 : Nat) (l0_3 : List (S61)) (A0_4 : Option Addr) (c0_4 : Nat) (l0_4 : List (S47)) (A1 : Option Addr) (c1 : Nat) (l1 : List Int) (A2 : Option Addr) (c2 : Nat) (l2 : List Int) (r : List Int) (w : World) (hr0_0 : Kd.C k41 w A0_0 l0_0.length l0_0) (hc0_0 : l0_0.length ≤ c0_0) (hr0_1 : Kd.C k47 w A0_1 l0_1.length l0_1) (hc0_1 : l0_1.length ≤ c0_1) (hr0_2 : Kd.C k43 w A0_2 l0_2.length l0_2) (hc0_2 : l0_2.length ≤ c0_2) (hr0_3 : Kd.C k61 w A0_3 l0_3.length l0_3) (hc0_3 : l0_3.length ≤ c0_3) (hr0_4 : Kd.C k47 w A0_4 l0_4.length l0_4) (hc0_4 : l0_4.length ≤ c0_4) (hr1 : Kd.C (Kd.int .i64) w A1 l1.length l1) (hc1 : l1.length ≤ c1) (hr2 : Kd.C (Kd.int .i64) w A2 l2.length l2) (hc2 : l2.length ≤ c2) (h : r9_After.f k l0_0 l0_1 l0_2 l0_3 l0_4 l1 l2 = some r) :
  Calls Try.prog 23 #[.agg #[.slice A0_0 l0_0.length c0_0, .slice A0_1 l0_1.length c0_1, .slice A0_2 l0_2.length c0_2, .slice A0_3 l0_3.length c0_3, .slice A0_4 l0_4.length c0_4], .slice A1 l1.length c1, .slice A2 l2.length c2] w fun e w' => ∃ v0_ : Value, e = .returned (v0_) ∧ Kd.R (Kd.int .i64) 3 w' w.heap.size (fun _ => True) v0_ r ∧ Below w.heap.size w w' := by
 have hu1 := Try.underlying27; have HR1_0 := aM hr0_0; have HC1_0 := aM hc0_0; clear hr0_0 hc0_0; have HR1_1 := aM hr0_1; have HC1_1 := aM hc0_1; clear hr0_1 hc0_1; have HR1_2 := aM hr0_2; have HC1_2 := aM hc0_2; clear hr0_2 hc0_2; have HR1_3 := aM hr0_3; have HC1_3 := aM hc0_3; clear hr0_3 hc0_3; have HR1_4 := aM hr0_4; have HC1_4 := aM hc0_4; clear hr0_4 hc0_4; have HR1 := aM hr1; have HC1 := aM hc1; clear hr1 hc1; have HR2 := aM hr2; have HC2 := aM hc2; clear hr2 hc2; have HB := aM (Below.refl w.heap.size w); have H : ((r9_Eval.f k l0_0 l0_1 l0_2 l0_3 l0_4 l1 l2).bind fun t1 => (r9_After.l0 k t1 ([] : List Int) 0 l0_0 l0_1 l0_2 l0_3 l0_4)) = some r := h; clear h; replace H := Option.bind_eq_some_iff.mp H; obtain ⟨t1, A3, H⟩ := H; have A4 := aM A3; clear A3; have H' := aM H; clear H; go_enter Try.func23, Try.ntmps23
 go_wp2_with (first | ((with_reducible refine zgd 3 rfl ?_); refine zbox 3 #[.slice A0_0 l0_0.length c0_0, .slice A0_1 l0_1.length c0_1, .slice A0_2 l0_2.length c0_2, .slice A0_3 l0_3.length c0_3, .slice A0_4 l0_4.length c0_4] 27 ?_; intro gb1 hg w1 hbox hb; have BK1 := aM (hbox); have GW1 := aM ((q7z HB : w.heap.size ≤ gb1)); have GE1 := aM ((q7z HB : w.heap.size ≤ gb1)); replace HB := aM (ym (q5z HB) hb); clear hb hbox hg; obtain ⟨i1_0, i1_1, i1_2, i1_3, i1_4, j1_0, j1_1, j1_2, j1_3, j1_4⟩ := cells5 BK1.out) | ((with_reducible refine zgc 21 rfl ?_); refine zgl (some 13) Try.func21 #[.agg #[.slice A0_0 l0_0.length c0_0, .slice A0_1 l0_1.length c0_1, .slice A0_2 l0_2.length c0_2, .slice A0_3 l0_3.length c0_3, .slice A0_4 l0_4.length c0_4], .slice A1 l1.length c1, .slice A2 l2.length c2] ?_; (with_reducible refine (r9_Eval.calls k _ _ l0_0 _ _ l0_1 _ _ l0_2 _ _ l0_3 _ _ l0_4 _ _ l1 _ _ l2 t1 _ ?side1 ?side2 ?side3 ?side4 ?side5 ?side6 ?side7 ?side8 ?side9 ?side10 ?side11 ?side12 ?side13 ?side14 A4.out).mono ?_); (case side1 => exact q1z HR1_0 HB); (case side2 => exact HC1_0.out); (case side3 => exact q1z HR1_1 HB); (case side4 => exact HC1_1.out); (case side5 => exact q1z HR1_2 HB); (case side6 => exact HC1_2.out); (case side7 => exact q1z HR1_3 HB); (case side8 => exact HC1_3.out); (case side9 => exact q1z HR1_4 HB); (case side10 => exact HC1_4.out); (case side11 => exact q1z HR1 HB); (case side12 => exact HC1.out); (case side13 => exact q1z HR2 HB); (case side14 => exact HC2.out); rintro e w2 ⟨v1, rfl, ho1, hb⟩; refine ⟨_, rfl, ?_⟩; have HO1 := aM (Kd.R_lower ho1 (yn (q4z HB GE1))); replace BK1 := aM (yi (zi BK1) hb); replace HB := aM (ym (q4z HB GE1) hb); (try clear hb); (try clear hb2); (try clear hk); (try clear hi); (try clear ho1)))
 go_loopg [8, 9] k (fun kq v2 v3 w' => ∃ (x1_1 : List Int) (x2_1 : Int), v3 = .int .i64 x2_1 ∧ Aside0 (r9_After.l0 kq t1 x1_1 x2_1 l0_0 l0_1 l0_2 l0_3 l0_4 = some r) ∧ Aside0 (kq ≤ k) ∧ Aside0 (Kd.R (Kd.int .i64) 3 w' w.heap.size (fun k_ => some k_ ≠ (v2 : Value).ownBlock) v1 t1) ∧ Aside0 (Kd.R (Kd.int .i64) 3 w' w.heap.size (fun k_ => some k_ ≠ (v1 : Value).ownBlock) v2 x1_1) ∧ Aside0 (w'.heap[gb1]? = some (.cells #[(.slice A0_0 l0_0.length c0_0), (.slice A0_1 l0_1.length c0_1), (.slice A0_2 l0_2.length c0_2), (.slice A0_3 l0_3.length c0_3), (.slice A0_4 l0_4.length c0_4)] 27 (0, 0))) ∧ Aside0 (Below w.heap.size w w'))
 case atStart => exact ⟨(([] : List Int)), (0), q13z, H', ⟨Nat.le_refl _⟩, ⟨q93z HO1⟩, ⟨q57z⟩, ⟨q10z BK1⟩, ⟨q4z HB GE1⟩⟩
 case round =>
  clear H'; try clear c1
  try clear c2
  try clear p2
  try clear i1_0 i1_1 i1_2 i1_3 i1_4 j1_0 j1_1 j1_2 j1_3 j1_4
  obtain ⟨x1_1, x2_1, rfl, HA, HK1, HO_1, HO_2, BK1, HB⟩ := hrel; cases gk with
  | zero => exact absurd HA.out (by simp [r9_After.l0])
  | succ k1 =>
   have H := HA.out; clear HA; simp only [r9_After.l0] at H; by_cases c3 : x2_1 < (l0_2.length : Int)
   ·rw [if_pos c3] at H; have c1b0 := decide_eq_true c3; clear c3; by_cases c4 : 0 ≤ x2_1
    ·rw [if_pos c4] at H; have c1b0 := decide_eq_true c4; clear c4; by_cases c5 : 0 ≤ ((rd_T43 l0_2 x2_1).f2)
     ·rw [if_pos c5] at H; have c1b0 := decide_eq_true c5; clear c5; by_cases c6 : ((rd_T43 l0_2 x2_1).f2) < (t1.length : Int)
      ·rw [if_pos c6] at H; have c1b0 := decide_eq_true c6; clear c6; by_cases c7 : x1_1.length < 17592186044416
       ·rw [if_pos c7] at H; have LMc1 := aM c7; clear c7; obtain ⟨y1, hy1⟩ : ∃ y_ : List Int, y_ = (x1_1 ++ [rd t1 ((rd_T43 l0_2 x2_1).f2)]) := ⟨_, rfl⟩; replace H : (r9_After.l0 k1 t1 y1 (wrap64 (x2_1 + 1)) l0_0 l0_1 l0_2 l0_3 l0_4) = some r := by first | (rw [hy1]; with_reducible exact H) | (have H1_ := (Option.bind_some _ _).symm.trans H; rw [hy1]; with_reducible exact H1_) | (have H1_ := (Option.bind_some _ _).symm.trans H; with_reducible exact H1_) | with_reducible exact H | (rw [hy1]; exact H) | exact H
        have Ny1 := aM hy1; clear hy1; have H' := aM H; clear H; obtain ⟨i1_0, i1_1, i1_2, i1_3, i1_4, j1_0, j1_1, j1_2, j1_3, j1_4⟩ := cells5 BK1.out; have p1 : 0 ≤ (x2_1 : Int) := zod; have q1 : x2_1 < (l0_2.length : Int) := zod; obtain ⟨ad1, e1, hx1_0, hx1_1, hx1_2, hx1_3⟩ := at_T43 HR1_2.out x2_1 p1 q1; cases e1; replace hx1_0 := zx HB hx1_0; replace hx1_1 := zx HB hx1_1; replace hx1_2 := zx HB hx1_2; replace hx1_3 := zx HB hx1_3; replace p1 := eq_true p1; replace q1 := eq_true q1; obtain ⟨Ao1, co1, eo1⟩ := Kd.R_slice HO_1.out; subst eo1; have p1 : 0 ≤ (((rd_T43 l0_2 x2_1).f2) : Int) := zod; have q1 : ((rd_T43 l0_2 x2_1).f2) < (t1.length : Int) := zod; obtain ⟨ad2, e1, hx1_0⟩ := Kd.at_int (Kd.R_reads' HO_1.out).2.2 ((rd_T43 l0_2 x2_1).f2) p1 q1; cases e1; replace p1 := eq_true p1; replace q1 := eq_true q1; go_wp2_with (first | ((with_reducible refine gate_builtin (b := .append) (xs := #[.tmp 21, .tmp 31]) rfl ?_); at_builtin; refine Kd.R_append (Kd.int .i64) (w0 := w) w.heap.size rfl (.tmp 21) (.tmp 31) 32 3 (.int .i64 0) 8 rfl Try.underlying32 info3 rfl (by decide) (by omega) u8 x1_1 (rd t1 ((rd_T43 l0_2 x2_1).f2)) [.int .i64 (rd t1 ((rd_T43 l0_2 x2_1).f2))] (fun k_ => some k_ ≠ (.slice (some ad2) t1.length co1 : Value).ownBlock) (fun _ => False) rfl rfl ?aP (fun _ hk => hk.elim) ?aF ?aO ?aB ?aS ?aL ?_; (case aP => exact rfl); (case aB => exact q41z HB GE1); (case aF => exact q65z HO_1); (case aO => exact q44z HO_2); (case aS => exact q40z HB GE1); (case aL => have := LMc1.out; omega); intro v1 w1 ho hb hg hat; rw [← Ny1.out] at ho; replace HO_1 := aM (Kd.R_after (ok := (fun _ => True)) (q64z HO_1) hg hat); replace BK1 := aM (blk_grown (g := gb1) (o := .cells #[.slice A0_0 l0_0.length c0_0, .slice A0_1 l0_1.length c0_1, .slice (some ad1) l0_2.length c0_2, .slice A0_3 l0_3.length c0_3, .slice A0_4 l0_4.length c0_4] 27 (0, 0)) (zi BK1) hg (Kd.R_ne HO_2.out BK1.out (by decide))); replace HB := aM (hb); have HO1 := aM (ho); clear HO_2; clear ho hb hg hat))
        go_roundg k1
        case measure => have := HK1.out; omega
        case rel => exact ⟨(y1), (wrap64 (x2_1 + 1)), q13z, H', ⟨by have := HK1.out; omega⟩, ⟨q75z HO_1⟩, ⟨q2z HO1⟩, ⟨q10z BK1⟩, ⟨q4z HB GE1⟩⟩
       ·rw [if_neg c7] at H; exact absurd H (by simp)
      ·rw [if_neg c6] at H; exact absurd H (by simp)
     ·rw [if_neg c5] at H; exact absurd H (by simp)
    ·rw [if_neg c4] at H; exact absurd H (by simp)
   ·rw [if_neg c3] at H; have c1b0 := decide_eq_false c3; clear c3; obtain rfl := Option.some.inj H; obtain ⟨i1_0, i1_1, i1_2, i1_3, i1_4, j1_0, j1_1, j1_2, j1_3, j1_4⟩ := cells5 BK1.out; go_wp2
    go_ret
    exact ⟨_, q11z, by (with_reducible repeat (first | apply yf | apply yg | apply yh)); exact Kd.R_mono HO_2.out (fun _ hk => trivial), q4z HB GE1⟩
end Go.Proofs.Yteblbknmikieoaa.Xb
