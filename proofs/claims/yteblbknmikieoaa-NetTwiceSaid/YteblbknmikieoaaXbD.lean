/- Slimmed by this session: what nothing names is struck out. -/
import Derived.Test.YteblbknmikieoaaXb0
import Derived.Test.YteblbknmikieoaaXbZ
import Derived.Test.YteblbknmikieoaaXbB
import Derived.Test.YteblbknmikieoaaXb43
import Derived.Test.YteblbknmikieoaaXbC
namespace Go.Proofs.Yteblbknmikieoaa.Xb
open Go.RowKit Go.Proofs.YteblbknmikieoaaW.PrintWords Go.Proofs.YteblbknmikieoaaW.PrintLast Go.Proofs.YteblbknmikieoaaW.PrintMore
attribute [local go_sem] max2_int min2_int max_two min_two max_three min_three max_four min_four
set_option linter.unusedVariables false
set_option linter.unusedSimpArgs false
def api_Pin_50.l0 : Nat → List (S47) → net_NL → Int → Int → Option (Int)
 | 0, _, _, _, _ => none
 | k + 1, x0, x1, x7, x8 => if x8 < x7 then (if 0 ≤ x8 then (if x8 < (x0.length : Int) then ((net_Right_3.f ((rd_T47 x0 x8).f0) ((rd_T47 x0 x8).f1) x1).bind fun t172 => (if t172 = true then (some x8) else (api_Pin_50.l0 k x0 x1 x7 (wrap64 (x8 + 1))))) else (none)) else (none)) else (some (-1))
def api_Pin_50.f (k : Nat) (l0 : List (S47)) (a1 : net_NL) : Option (Int) := api_Pin_50.l0 k l0 a1 (l0.length : Int) 0
theorem api_Pin_50.mono_l : ∀ k, (∀ y0 y1 y2 y3, LeO (api_Pin_50.l0 k y0 y1 y2 y3) (api_Pin_50.l0 (k + 1) y0 y1 y2 y3))
 | 0 => fun _ _ _ _ r h => by simp [api_Pin_50.l0] at h
 | k + 1 => by
  have ih0 := api_Pin_50.mono_l k
  ·intro y0 y1 y2 y3
   unfold api_Pin_50.l0
   repeat' first
   | (with_reducible exact ih0 _ _ _ _)
   | (with_reducible exact LeO.refl _)
   | (with_reducible exact LeO.none _)
   | (with_reducible refine LeO.ite ?_ ?_)
   | (with_reducible refine LeO.bind ?_ (fun _ => ?_))
   | exact ih0 _ _ _ _
   | exact LeO.none _
   | refine LeO.ite ?_ ?_
   | refine LeO.bind ?_ (fun _ => ?_)
theorem api_Pin_50.mono : ∀ a0 a1 k, LeO (api_Pin_50.f k a0 a1) (api_Pin_50.f (k + 1) a0 a1) := by
 intro a0 a1 k
 have ih1 := api_Pin_50.mono_l k; unfold api_Pin_50.f
 repeat' first
   | (with_reducible exact ih1 _ _ _ _)
   | (with_reducible exact LeO.refl _)
   | (with_reducible exact LeO.none _)
   | (with_reducible refine LeO.ite ?_ ?_)
   | (with_reducible refine LeO.bind ?_ (fun _ => ?_))
   | exact ih1 _ _ _ _
   | exact LeO.none _
   | refine LeO.ite ?_ ?_
   | refine LeO.bind ?_ (fun _ => ?_)
set_option maxHeartbeats 8000000 in
set_option maxRecDepth 100000 in
theorem api_Pin_50.calls (k : Nat) (A0 : Option Addr) (c0 : Nat) (l0 : List (S47)) (a1 : net_NL) (r : Int) (w : World) (hr0 : Kd.C k47 w A0 l0.length l0) (hc0 : l0.length ≤ c0) (h : api_Pin_50.f k l0 a1 = some r) (gk : Nat) (hk : net_Held w gk a1) :
  Calls Try.prog 50 #[.slice A0 l0.length c0, .func (.func 36) #[] #[.pointer (some ⟨gk, 0, none⟩)]] w fun e w' => e = .returned (.int .i64 r) ∧ Below w.heap.size w w' := by
 have HK := aM hk; clear hk; have hu1 := Try.underlying47; have HR1 := aM hr0; have HC1 := aM hc0; clear hr0 hc0; have HB := aM (Below.refl w.heap.size w); have H : (api_Pin_50.l0 k l0 a1 (l0.length : Int) 0) = some r := h; clear h; have H' := aM H; clear H; go_enter Try.func50, Try.ntmps50
 go_wp2
 go_loopg [8] k (fun kq v1 w' => ∃ (x1_1 : Int), v1 = .int .i64 x1_1 ∧ Aside0 (api_Pin_50.l0 kq l0 a1 (l0.length : Int) x1_1 = some r) ∧ Aside0 (kq ≤ k) ∧ Aside0 (Below w.heap.size w w'))
 case atStart => exact ⟨(0), q13z, H', ⟨Nat.le_refl _⟩, ⟨q4z HB⟩⟩
 case round =>
  clear H'; try clear p2
  obtain ⟨x1_1, rfl, HA, HK1, HB⟩ := hrel; cases gk with
  | zero => exact absurd HA.out (by simp [api_Pin_50.l0])
  | succ k1 =>
   have H := HA.out; clear HA; simp only [api_Pin_50.l0] at H; by_cases c1 : x1_1 < (l0.length : Int)
   ·rw [if_pos c1] at H; have c1b0 := decide_eq_true c1; clear c1; by_cases c2 : 0 ≤ x1_1
    ·rw [if_pos c2] at H; have c1b0 := decide_eq_true c2; clear c2; by_cases c3 : x1_1 < (l0.length : Int)
     ·rw [if_pos c3] at H; have c1b0 := decide_eq_true c3; clear c3; replace H := Option.bind_eq_some_iff.mp H; obtain ⟨t1, A1, H⟩ := H; have A2 := aM A1; clear A1; by_cases c4 : t1 = true
      ·subst c4; have H1 : (some x1_1) = some r := by rw [if_pos rfl] at H; exact H
       clear H; have H := H1; clear H1; obtain rfl := Option.some.inj H; have p1 : 0 ≤ (x1_1 : Int) := zod; have q1 : x1_1 < (l0.length : Int) := zod; obtain ⟨ad1, e1, hx1_0, hx1_1⟩ := at_T47 HR1.out x1_1 p1 q1; cases e1; replace hx1_0 := zx HB hx1_0; replace hx1_1 := zx HB hx1_1; replace p1 := eq_true p1; replace q1 := eq_true q1; go_wp2_with (first | (go_at_call 36; (refine (net_Right_3.calls ((rd_T47 l0 x1_1).f0) ((rd_T47 l0 x1_1).f1) a1 true _ A2.out gk ?hk9).mono ?_); (case hk9 => exact q83z HK HB); rintro e w1 ⟨rfl, hb⟩; replace HB := aM (ym (q4z HB) hb); (try clear hb); (try clear hb2); (try clear hk); (try clear hi)))
       go_ret
       exact ⟨q11z, q4z HB⟩
      ·replace c4 := Bool.eq_false_iff.mpr c4; subst c4; have H1 : (api_Pin_50.l0 k1 l0 a1 (l0.length : Int) (wrap64 (x1_1 + 1))) = some r := by rw [if_neg (show ¬ (false = true) by decide)] at H; exact H
       clear H; have H := H1; clear H1; have H' := aM H; clear H; have p1 : 0 ≤ (x1_1 : Int) := zod; have q1 : x1_1 < (l0.length : Int) := zod; obtain ⟨ad1, e1, hx1_0, hx1_1⟩ := at_T47 HR1.out x1_1 p1 q1; cases e1; replace hx1_0 := zx HB hx1_0; replace hx1_1 := zx HB hx1_1; replace p1 := eq_true p1; replace q1 := eq_true q1; go_wp2_with (first | (go_at_call 36; (refine (net_Right_3.calls ((rd_T47 l0 x1_1).f0) ((rd_T47 l0 x1_1).f1) a1 false _ A2.out gk ?hk9).mono ?_); (case hk9 => exact q83z HK HB); rintro e w1 ⟨rfl, hb⟩; replace HB := aM (ym (q4z HB) hb); (try clear hb); (try clear hb2); (try clear hk); (try clear hi)))
       go_roundg k1
       case measure => have := HK1.out; omega
       case rel => exact ⟨(wrap64 (x1_1 + 1)), q13z, H', ⟨by have := HK1.out; omega⟩, ⟨q4z HB⟩⟩
     ·rw [if_neg c3] at H; exact absurd H (by simp)
    ·rw [if_neg c2] at H; exact absurd H (by simp)
   ·rw [if_neg c1] at H; have c1b0 := decide_eq_false c1; clear c1; obtain rfl := Option.some.inj H; go_wp2
    go_ret
    exact ⟨q11z, q4z HB⟩
end Go.Proofs.Yteblbknmikieoaa.Xb
namespace Go.Proofs.Yteblbknmikieoaa.Xb
open Go.RowKit Go.Proofs.YteblbknmikieoaaW.PrintWords Go.Proofs.YteblbknmikieoaaW.PrintLast Go.Proofs.YteblbknmikieoaaW.PrintMore
attribute [local go_sem] max2_int min2_int max_two min_two max_three min_three max_four min_four
set_option linter.unusedVariables false
set_option linter.unusedSimpArgs false
def api_Pin_35.f (k : Nat) (l0 : List (S47)) (a1 : net_NL) : Option (Bool) := (api_Pin_50.f k l0 a1).bind fun t173 => (some (decide (t173 ≥ 0)))
theorem api_Pin_35.mono : ∀ a0 a1 k, LeO (api_Pin_35.f k a0 a1) (api_Pin_35.f (k + 1) a0 a1) := by
 intro a0 a1 k
 unfold api_Pin_35.f
 repeat' first
   | (with_reducible exact api_Pin_50.mono _ _ _)
   | (with_reducible exact LeO.refl _)
   | (with_reducible exact LeO.none _)
   | (with_reducible refine LeO.ite ?_ ?_)
   | (with_reducible refine LeO.bind ?_ (fun _ => ?_))
   | exact api_Pin_50.mono _ _ _
   | exact LeO.none _
   | refine LeO.ite ?_ ?_
   | refine LeO.bind ?_ (fun _ => ?_)
set_option maxHeartbeats 8000000 in
set_option maxRecDepth 100000 in
theorem api_Pin_35.calls (k : Nat) (A0 : Option Addr) (c0 : Nat) (l0 : List (S47)) (a1 : net_NL) (r : Bool) (w : World) (hr0 : Kd.C k47 w A0 l0.length l0) (hc0 : l0.length ≤ c0) (h : api_Pin_35.f k l0 a1 = some r) (gk : Nat) (hk : net_Held w gk a1) :
  Calls Try.prog 35 #[.slice A0 l0.length c0, .func (.func 36) #[] #[.pointer (some ⟨gk, 0, none⟩)]] w fun e w' => e = .returned (.bool r) ∧ Below w.heap.size w w' := by
 have HK := aM hk; clear hk; have HR1 := aM hr0; have HC1 := aM hc0; clear hr0 hc0; have HB := aM (Below.refl w.heap.size w); have H : ((api_Pin_50.f k l0 a1).bind fun t1 => (some (decide (t1 ≥ 0)))) = some r := h; clear h; replace H := Option.bind_eq_some_iff.mp H; obtain ⟨t1, A1, H⟩ := H; have A2 := aM A1; clear A1; obtain rfl := Option.some.inj H; go_enter Try.func35, Try.ntmps35
 go_wp2_with (first | ((with_reducible refine zgc 50 rfl ?_); refine zgl (some 7) Try.func50 #[.slice A0 l0.length c0, .func (.func 36) #[] #[.pointer (some ⟨gk, 0, none⟩)]] ?_; (refine (api_Pin_50.calls k _ _ l0 a1 t1 _ ?side1 ?side2 A2.out gk ?hk9).mono ?_); (case hk9 => exact q83z HK HB); (case side1 => exact q98z HR1); (case side2 => exact HC1.out); rintro e w1 ⟨rfl, hb⟩; refine ⟨_, rfl, ?_⟩; replace HB := aM (ym (q4z HB) hb); (try clear hb); (try clear hb2); (try clear hk); (try clear hi)))
 go_ret
 exact ⟨q11z, q4z HB⟩
end Go.Proofs.Yteblbknmikieoaa.Xb
namespace Go.Proofs.Yteblbknmikieoaa.Xb
open Go.RowKit Go.Proofs.YteblbknmikieoaaW.PrintWords Go.Proofs.YteblbknmikieoaaW.PrintLast Go.Proofs.YteblbknmikieoaaW.PrintMore
attribute [local go_sem] max2_int min2_int max_two min_two max_three min_three max_four min_four
set_option linter.unusedVariables false
set_option linter.unusedSimpArgs false
theorem cells3_50 {w : World} {g : Nat} {t : TypeId} {x0 x1 x2 : Value} (h : w.heap[g]? = some (.cells #[x0, x1, x2] t (0, 0))) : w.cell? ⟨g, 0, none⟩ = some x0 ∧ w.cell? ⟨g, 1, none⟩ = some x1 ∧ w.cell? ⟨g, 2, none⟩ = some x2 ∧ w.frozen? ⟨g, 0, none⟩ = false ∧ w.frozen? ⟨g, 1, none⟩ = false ∧ w.frozen? ⟨g, 2, none⟩ = false := ⟨(blk_cell h 0).trans rfl, (blk_cell h 1).trans rfl, (blk_cell h 2).trans rfl, blk_frozen h 0, blk_frozen h 1, blk_frozen h 2⟩
theorem cells5_50 {w : World} {g : Nat} {t : TypeId} {x0 x1 x2 x3 x4 : Value} (h : w.heap[g]? = some (.cells #[x0, x1, x2, x3, x4] t (0, 0))) : w.cell? ⟨g, 0, none⟩ = some x0 ∧ w.cell? ⟨g, 1, none⟩ = some x1 ∧ w.cell? ⟨g, 2, none⟩ = some x2 ∧ w.cell? ⟨g, 3, none⟩ = some x3 ∧ w.cell? ⟨g, 4, none⟩ = some x4 ∧ w.frozen? ⟨g, 0, none⟩ = false ∧ w.frozen? ⟨g, 1, none⟩ = false ∧ w.frozen? ⟨g, 2, none⟩ = false ∧ w.frozen? ⟨g, 3, none⟩ = false ∧ w.frozen? ⟨g, 4, none⟩ = false := ⟨(blk_cell h 0).trans rfl, (blk_cell h 1).trans rfl, (blk_cell h 2).trans rfl, (blk_cell h 3).trans rfl, (blk_cell h 4).trans rfl, blk_frozen h 0, blk_frozen h 1, blk_frozen h 2, blk_frozen h 3, blk_frozen h 4⟩
mutual
def net_Right.j0 : Nat → Bool → List (S41) → List (S47) → List (S43) → List (S61) → List (S47) → Option (Bool)
 | 0, _, _, _, _, _, _ => none
 | k + 1, x33, x175000, x175001, x175002, x175003, x175004 => if x33 = true then (some false) else ((net_places.f k x175000 x175001 x175002 x175003 x175004 21).bind fun t176 => ((api_Pin_int.f k x175001 t176 0).bind fun t179 => (if t179 = true then ((net_places.f k x175000 x175001 x175002 x175003 x175004 22).bind fun t180 => ((api_Cell_int.f k x175002 t180 0).bind fun t183 => (if t183 = true then ((net_cells.f k x175000 x175001 x175002 x175003 x175004).bind fun t184 => (net_Right.j1 k (!t184) x175000 x175001 x175002 x175003 x175004)) else (net_Right.j1 k true x175000 x175001 x175002 x175003 x175004)))) else (net_Right.j1 k true x175000 x175001 x175002 x175003 x175004))))
def net_Right.j1 : Nat → Bool → List (S41) → List (S47) → List (S43) → List (S61) → List (S47) → Option (Bool)
 | 0, _, _, _, _, _, _ => none
 | k + 1, x54, x175000, x175001, x175002, x175003, x175004 => if x54 = true then (some false) else (net_Right.l0 k x175003 (x175003.length : Int) 0 x175000 x175001 x175002 x175003 x175004)
def net_Right.l0 : Nat → List (S61) → Int → Int → List (S41) → List (S47) → List (S43) → List (S61) → List (S47) → Option (Bool)
 | 0, _, _, _, _, _, _, _, _ => none
 | k + 1, x56, x57, x58, x175000, x175001, x175002, x175003, x175004 => if x58 < x57 then (if 0 ≤ x58 then (if x58 < (x56.length : Int) then (if ((rd_T61 x56 x58).f0) < 8 then (some false) else (if ((rd_T61 x56 x58).f0) > 10 then (some false) else ((net_width.f x175000 x175001 x175002 x175003 x175004 ((rd_T61 x56 x58).f2) (x175000.length : Int)).bind fun t187 => (if t187 = 1 then (net_Right.l0 k x56 x57 (wrap64 (x58 + 1)) x175000 x175001 x175002 x175003 x175004) else (some false))))) else (none)) else (none)) else ((api_Pin_35.f k x175004 ⟨x175000, x175001, x175002, x175003, x175004⟩).bind fun t188 => (some (!t188)))
end
def net_Right.f (k : Nat) (l0_0 : List (S41)) (l0_1 : List (S47)) (l0_2 : List (S43)) (l0_3 : List (S61)) (l0_4 : List (S47)) : Option (Bool) := if (l0_0.length : Int) > 4000 then (net_Right.j0 k true l0_0 l0_1 l0_2 l0_3 l0_4) else (if (l0_1.length : Int) > 64 then (net_Right.j0 k true l0_0 l0_1 l0_2 l0_3 l0_4) else (if (l0_2.length : Int) > 256 then (net_Right.j0 k true l0_0 l0_1 l0_2 l0_3 l0_4) else (if (l0_3.length : Int) > 16 then (net_Right.j0 k true l0_0 l0_1 l0_2 l0_3 l0_4) else ((net_nodes.f k l0_0 l0_1 l0_2 l0_3 l0_4).bind fun t175 => (net_Right.j0 k (!t175) l0_0 l0_1 l0_2 l0_3 l0_4)))))
theorem net_Right.mono_l : ∀ k, (∀ y0 y1 y2 y3 y4 y5, LeO (net_Right.j0 k y0 y1 y2 y3 y4 y5) (net_Right.j0 (k + 1) y0 y1 y2 y3 y4 y5)) ∧ (∀ y0 y1 y2 y3 y4 y5, LeO (net_Right.j1 k y0 y1 y2 y3 y4 y5) (net_Right.j1 (k + 1) y0 y1 y2 y3 y4 y5)) ∧ (∀ y0 y1 y2 y3 y4 y5 y6 y7, LeO (net_Right.l0 k y0 y1 y2 y3 y4 y5 y6 y7) (net_Right.l0 (k + 1) y0 y1 y2 y3 y4 y5 y6 y7))
 | 0 => ⟨fun _ _ _ _ _ _ r h => by simp [net_Right.j0] at h, fun _ _ _ _ _ _ r h => by simp [net_Right.j1] at h, fun _ _ _ _ _ _ _ _ r h => by simp [net_Right.l0] at h⟩
 | k + 1 => by
  obtain ⟨ih0, ih1, ih2⟩ := net_Right.mono_l k; refine ⟨?_, ?_, ?_⟩
  ·intro y0 y1 y2 y3 y4 y5
   unfold net_Right.j0
   repeat' first
   | (with_reducible exact ih0 _ _ _ _ _ _)
   | (with_reducible exact ih1 _ _ _ _ _ _)
   | (with_reducible exact ih2 _ _ _ _ _ _ _ _)
   | (with_reducible exact api_Cell_int.mono _ _ _ _)
   | (with_reducible exact api_Pin_35.mono _ _ _)
   | (with_reducible exact api_Pin_int.mono _ _ _ _)
   | (with_reducible exact net_cells.mono _ _ _ _ _ _)
   | (with_reducible exact net_nodes.mono _ _ _ _ _ _)
   | (with_reducible exact net_places.mono _ _ _ _ _ _ _)
   | (with_reducible exact LeO.refl _)
   | (with_reducible exact LeO.none _)
   | (with_reducible refine LeO.ite ?_ ?_)
   | (with_reducible refine LeO.bind ?_ (fun _ => ?_))
   | exact ih0 _ _ _ _ _ _
   | exact ih1 _ _ _ _ _ _
   | exact ih2 _ _ _ _ _ _ _ _
   | exact api_Cell_int.mono _ _ _ _
   | exact api_Pin_35.mono _ _ _
   | exact api_Pin_int.mono _ _ _ _
   | exact net_cells.mono _ _ _ _ _ _
   | exact net_nodes.mono _ _ _ _ _ _
   | exact net_places.mono _ _ _ _ _ _ _
   | exact LeO.none _
   | refine LeO.ite ?_ ?_
   | refine LeO.bind ?_ (fun _ => ?_)
  ·intro y0 y1 y2 y3 y4 y5
   unfold net_Right.j1
   repeat' first
   | (with_reducible exact ih0 _ _ _ _ _ _)
   | (with_reducible exact ih1 _ _ _ _ _ _)
   | (with_reducible exact ih2 _ _ _ _ _ _ _ _)
   | (with_reducible exact api_Cell_int.mono _ _ _ _)
   | (with_reducible exact api_Pin_35.mono _ _ _)
   | (with_reducible exact api_Pin_int.mono _ _ _ _)
   | (with_reducible exact net_cells.mono _ _ _ _ _ _)
   | (with_reducible exact net_nodes.mono _ _ _ _ _ _)
   | (with_reducible exact net_places.mono _ _ _ _ _ _ _)
   | (with_reducible exact LeO.refl _)
   | (with_reducible exact LeO.none _)
   | (with_reducible refine LeO.ite ?_ ?_)
   | (with_reducible refine LeO.bind ?_ (fun _ => ?_))
   | exact ih0 _ _ _ _ _ _
   | exact ih1 _ _ _ _ _ _
   | exact ih2 _ _ _ _ _ _ _ _
   | exact api_Cell_int.mono _ _ _ _
   | exact api_Pin_35.mono _ _ _
   | exact api_Pin_int.mono _ _ _ _
   | exact net_cells.mono _ _ _ _ _ _
   | exact net_nodes.mono _ _ _ _ _ _
   | exact net_places.mono _ _ _ _ _ _ _
   | exact LeO.none _
   | refine LeO.ite ?_ ?_
   | refine LeO.bind ?_ (fun _ => ?_)
  ·intro y0 y1 y2 y3 y4 y5 y6 y7
   unfold net_Right.l0
   repeat' first
   | (with_reducible exact ih0 _ _ _ _ _ _)
   | (with_reducible exact ih1 _ _ _ _ _ _)
   | (with_reducible exact ih2 _ _ _ _ _ _ _ _)
   | (with_reducible exact api_Cell_int.mono _ _ _ _)
   | (with_reducible exact api_Pin_35.mono _ _ _)
   | (with_reducible exact api_Pin_int.mono _ _ _ _)
   | (with_reducible exact net_cells.mono _ _ _ _ _ _)
   | (with_reducible exact net_nodes.mono _ _ _ _ _ _)
   | (with_reducible exact net_places.mono _ _ _ _ _ _ _)
   | (with_reducible exact LeO.refl _)
   | (with_reducible exact LeO.none _)
   | (with_reducible refine LeO.ite ?_ ?_)
   | (with_reducible refine LeO.bind ?_ (fun _ => ?_))
   | exact ih0 _ _ _ _ _ _
   | exact ih1 _ _ _ _ _ _
   | exact ih2 _ _ _ _ _ _ _ _
   | exact api_Cell_int.mono _ _ _ _
   | exact api_Pin_35.mono _ _ _
   | exact api_Pin_int.mono _ _ _ _
   | exact net_cells.mono _ _ _ _ _ _
   | exact net_nodes.mono _ _ _ _ _ _
   | exact net_places.mono _ _ _ _ _ _ _
   | exact LeO.none _
   | refine LeO.ite ?_ ?_
   | refine LeO.bind ?_ (fun _ => ?_)
theorem net_Right.mono : ∀ a0 a1 a2 a3 a4 k, LeO (net_Right.f k a0 a1 a2 a3 a4) (net_Right.f (k + 1) a0 a1 a2 a3 a4) := by
 intro a0 a1 a2 a3 a4 k
 obtain ⟨ih1, ih2, ih3⟩ := net_Right.mono_l k; unfold net_Right.f
 repeat' first
   | (with_reducible exact ih1 _ _ _ _ _ _)
   | (with_reducible exact ih2 _ _ _ _ _ _)
   | (with_reducible exact ih3 _ _ _ _ _ _ _ _)
   | (with_reducible exact api_Cell_int.mono _ _ _ _)
   | (with_reducible exact api_Pin_35.mono _ _ _)
   | (with_reducible exact api_Pin_int.mono _ _ _ _)
   | (with_reducible exact net_cells.mono _ _ _ _ _ _)
   | (with_reducible exact net_nodes.mono _ _ _ _ _ _)
   | (with_reducible exact net_places.mono _ _ _ _ _ _ _)
   | (with_reducible exact LeO.refl _)
   | (with_reducible exact LeO.none _)
   | (with_reducible refine LeO.ite ?_ ?_)
   | (with_reducible refine LeO.bind ?_ (fun _ => ?_))
   | exact ih1 _ _ _ _ _ _
   | exact ih2 _ _ _ _ _ _
   | exact ih3 _ _ _ _ _ _ _ _
   | exact api_Cell_int.mono _ _ _ _
   | exact api_Pin_35.mono _ _ _
   | exact api_Pin_int.mono _ _ _ _
   | exact net_cells.mono _ _ _ _ _ _
   | exact net_nodes.mono _ _ _ _ _ _
   | exact net_places.mono _ _ _ _ _ _ _
   | exact LeO.none _
   | refine LeO.ite ?_ ?_
   | refine LeO.bind ?_ (fun _ => ?_)
def net_Right.T5 : Bool × List (List Nat × List Nat) := (true, [([], []), ([0], [0]), ([], []), ([2], [2]), ([], []), ([1, 3, 4, 3], [1, 3, 4]), ([5], [5]), ([6, 5], [6]), ([7], [7]), ([8, 7], [7, 8]), ([7], [7]), ([10, 7, 7], [7, 10]), ([7], [7]), ([9, 11, 12, 11, 7], [7, 9, 11, 12]), ([13, 7], [7, 13]), ([7, 14], [7, 14]), ([15, 13], [15]), ([16], [16]), ([17, 16, 16], [16, 17]), ([18, 16], [16, 18]), ([16, 19], [16, 19])])
def net_Right.B5 : List Nat := [0, 1, 0, 4, 0, 31, 63, 127, 255, 511, 255, 1279, 255, 8191, 16383, 32767, 65535, 131071, 262143, 524287, 1048575]
theorem net_Right.tab5 : rtab .any (opsOf Try.f12 5) = net_Right.T5 := by kernel_rfl
theorem net_Right.bits5 : waitsOk net_Right.T5.2 net_Right.B5 = true := by kernel_rfl
theorem z50_5 {P : Prop} (h : P := by
 have H' := aM H; clear H; obtain ⟨i1_0, i1_1, i1_2, i1_3, i1_4, j1_0, j1_1, j1_2, j1_3, j1_4⟩ := cells5_50 BK1.out; go_wp2
 go_meet
 case rel => exact ⟨_, (true), q13z, H', ⟨q51z⟩, ⟨q10z BK1⟩, ⟨q3z HB GE1⟩⟩) : P := h
theorem z50_3 {P : Prop} (h : P := by
 clear c4; exact z50_5) : P := h
theorem z50_4 {P : Prop} (h : P := by
 have H1 : (some false) = some r := by rw [if_pos rfl] at H; exact H
 clear H; have H := H1; clear H1; obtain rfl := Option.some.inj H; go_wp2
 go_ret
 exact ⟨q11z, q3z HB GE1⟩) : P := h
theorem z50_2 {P : Prop} (h : P := by
 refine zpu 15 49 (zb 21 65535) ?_; refine zpu 16 50 (zb 21 131071) ?_; refine zpn 17 51 (zb 21 262143) ?_; refine zpn 18 52 (zb 21 524287) ?_; refine zpn 19 53 (zb 21 1048575) ?_; refine zpu 20 54 (zb 21 2097151) ?_; refine zdo ?_; try go_wp2
 go_meet
 case rel => exact ⟨_, (true), q13z, H', ⟨q55z HJ1⟩, ⟨q10z BK1⟩, ⟨q3z HB GE1⟩⟩) : P := h
theorem z50_1 {P : Prop} (h : P := by
 clear c7; obtain rfl := Option.some.inj H; have p1 : 0 ≤ (x1_3 : Int) := zod; have q1 : x1_3 < (l0_3.length : Int) := zod; obtain ⟨ad1, e1, hx1_0, hx1_1, hx1_2⟩ := at_T61 HR1_3.out x1_3 p1 q1; cases e1; replace hx1_0 := zx HB hx1_0; replace hx1_1 := zx HB hx1_1; replace hx1_2 := zx HB hx1_2; replace p1 := eq_true p1; replace q1 := eq_true q1; go_wp2_with (first | ((with_reducible refine gate_dst (N := 6) rfl ?_); (try (refine gate_guard (by rfl) ?_; dsimp only)); refine box_event ?hg (N := 6) ?hd (cs := #[.int .i64 0, .string (⟨#[]⟩ : ByteArray), .int .i64 0]) (t := 61) ?hr ?_; (case hd => rfl); (case hg => rfl); (case hr => exact q27z); intro gb2 hg w1 hbox hb; have BK2 := aM (hbox); have GW1 := aM ((q14z HB GE1 : w.heap.size ≤ gb2)); have GE2 := aM ((q14z HB GE1 : w.heap.size ≤ gb2)); replace HB := aM (ym (q3z HB GE1) hb); have NB1_186 := aM ((q38z BK1 : gb1 ≠ gb2)); have NB1_174 := aM ((q39z BK1 : gb2 ≠ gb1)); replace BK1 := aM (yi (zi BK1) hb); clear hb hbox hg; have hnb1 := NB1_174.out; have hnc1 := NB1_186.out; obtain ⟨i1_0, i1_1, i1_2, j1_0, j1_1, j1_2⟩ := cells3_50 BK2.out))
 go_ret
 exact ⟨q11z, q5z HB GE1 GE2⟩) : P := h
set_option maxHeartbeats 8000000 in
set_option maxRecDepth 100000 in
theorem net_Right.calls (k : Nat) (A0_0 : Option Addr) (c0_0 : Nat) (l0_0 : List (S41)) (A0_1 : Option Addr) (c0_1 : Nat) (l0_1 : List (S47)) (A0_2 : Option Addr) (c0_2 : Nat) (l0_2 : List (S43)) (A0_3 : Option Addr) (c0_3 : Nat) (l0_3 : List (S61)) (A0_4 : Option Addr) (c0_4 : Nat) (l0_4 : List (S47)) (r : Bool) (w : World) (hr0_0 : Kd.C k41 w A0_0 l0_0.length l0_0) (hc0_0 : l0_0.length ≤ c0_0) (hr0_1 : Kd.C k47 w A0_1 l0_1.length l0_1) (hc0_1 : l0_1.length ≤ c0_1) (hr0_2 : Kd.C k43 w A0_2 l0_2.length l0_2) (hc0_2 : l0_2.length ≤ c0_2) (hr0_3 : Kd.C k61 w A0_3 l0_3.length l0_3) (hc0_3 : l0_3.length ≤ c0_3) (hr0_4 : Kd.C k47 w A0_4 l0_4.length l0_4) (hc0_4 : l0_4.length ≤ c0_4) (h : net_Right.f k l0_0 l0_1 l0_2 l0_3 l0_4 = some r) :
  Calls Try.prog 12 #[.agg #[.slice A0_0 l0_0.length c0_0, .slice A0_1 l0_1.length c0_1, .slice A0_2 l0_2.length c0_2, .slice A0_3 l0_3.length c0_3, .slice A0_4 l0_4.length c0_4]] w fun e w' => e = .returned (.bool r) ∧ Below w.heap.size w w' := by
 have hu1 := Try.underlying27; have hu1 := Try.underlying61; have HR1_0 := aM hr0_0; have HC1_0 := aM hc0_0; clear hr0_0 hc0_0; have HR1_1 := aM hr0_1; have HC1_1 := aM hc0_1; clear hr0_1 hc0_1; have HR1_2 := aM hr0_2; have HC1_2 := aM hc0_2; clear hr0_2 hc0_2; have HR1_3 := aM hr0_3; have HC1_3 := aM hc0_3; clear hr0_3 hc0_3; have HR1_4 := aM hr0_4; have HC1_4 := aM hc0_4; clear hr0_4 hc0_4; have HB := aM (Below.refl w.heap.size w); have H : (if (l0_0.length : Int) > 4000 then (net_Right.j0 k true l0_0 l0_1 l0_2 l0_3 l0_4) else (if (l0_1.length : Int) > 64 then (net_Right.j0 k true l0_0 l0_1 l0_2 l0_3 l0_4) else (if (l0_2.length : Int) > 256 then (net_Right.j0 k true l0_0 l0_1 l0_2 l0_3 l0_4) else (if (l0_3.length : Int) > 16 then (net_Right.j0 k true l0_0 l0_1 l0_2 l0_3 l0_4) else ((net_nodes.f k l0_0 l0_1 l0_2 l0_3 l0_4).bind fun t1 => (net_Right.j0 k (!t1) l0_0 l0_1 l0_2 l0_3 l0_4)))))) = some r := h; clear h; have HC1 := aM H; clear H; have hmf : ∀ (fn : Fn) (first cap : Array Value) (w : World), (Instr.makeFunc fn first cap).run Try.prog w = .ok (.func fn first cap) w := fun _ _ _ _ => rfl
 go_enter Try.func12, Try.ntmps12
 go_upto_region 1 with (first | ((with_reducible refine gate_dst (N := 1) rfl ?_); (try (refine gate_guard (by rfl) ?_; dsimp only)); refine box_event ?hg (N := 1) ?hd (cs := #[.slice A0_0 l0_0.length c0_0, .slice A0_1 l0_1.length c0_1, .slice A0_2 l0_2.length c0_2, .slice A0_3 l0_3.length c0_3, .slice A0_4 l0_4.length c0_4]) (t := 27) ?hr ?_; (case hd => rfl); (case hg => rfl); (case hr => exact q27z); intro gb1 hg w1 hbox hb; have BK1 := aM (hbox); have GW1 := aM ((q7z HB : w.heap.size ≤ gb1)); have GE1 := aM ((q7z HB : w.heap.size ≤ gb1)); replace HB := aM (ym (q4z HB) hb); clear hb hbox hg))
 (try simp only [Act.put, yu, yv, yw])
 go_cut [33] (fun v1 wc => ∃ (kq : Nat) (x1_1 : Bool), v1 = .bool x1_1 ∧ Aside0 (net_Right.j0 kq x1_1 l0_0 l0_1 l0_2 l0_3 l0_4 = some r) ∧ Aside0 (kq ≤ k) ∧ Aside0 (wc.heap[gb1]? = some (.cells #[(.slice A0_0 l0_0.length c0_0), (.slice A0_1 l0_1.length c0_1), (.slice A0_2 l0_2.length c0_2), (.slice A0_3 l0_3.length c0_3), (.slice A0_4 l0_4.length c0_4)] 27 (0, 0))) ∧ Aside0 (Below w.heap.size w wc))
 case first =>
  have H := HC1.out; clear HC1; by_cases c4 : (l0_0.length : Int) > 4000
  ·rw [if_pos c4] at H; have c1b0 : decide (4000 < (l0_0.length : Int)) = true := decide_eq_true c4; have c1b1 : decide (4000 < l0_0.length) = true := decide_eq_true (by omega); clear c4; (first | rw [c1b0] | (simp only [i64_w, i32_w]; rw [c1b0]) | skip)
   exact z50_5
  ·rw [if_neg c4] at H; have c1b0 : decide (4000 < (l0_0.length : Int)) = false := decide_eq_false c4; have c1b1 : decide (4000 < l0_0.length) = false := decide_eq_false (by omega); clear c4; (first | rw [c1b0] | (simp only [i64_w, i32_w]; rw [c1b0]) | skip)
   by_cases c4 : (l0_1.length : Int) > 64
   ·rw [if_pos c4] at H; have c1b0 : decide (64 < (l0_1.length : Int)) = true := decide_eq_true c4; have c1b1 : decide (64 < l0_1.length) = true := decide_eq_true (by omega); exact z50_3
   ·rw [if_neg c4] at H; have c1b0 : decide (64 < (l0_1.length : Int)) = false := decide_eq_false c4; have c1b1 : decide (64 < l0_1.length) = false := decide_eq_false (by omega); clear c4; by_cases c4 : (l0_2.length : Int) > 256
    ·rw [if_pos c4] at H; have c1b0 : decide (256 < (l0_2.length : Int)) = true := decide_eq_true c4; have c1b1 : decide (256 < l0_2.length) = true := decide_eq_true (by omega); exact z50_3
    ·rw [if_neg c4] at H; have c1b0 : decide (256 < (l0_2.length : Int)) = false := decide_eq_false c4; have c1b1 : decide (256 < l0_2.length) = false := decide_eq_false (by omega); clear c4; by_cases c4 : (l0_3.length : Int) > 16
     ·rw [if_pos c4] at H; have c1b0 : decide (16 < (l0_3.length : Int)) = true := decide_eq_true c4; have c1b1 : decide (16 < l0_3.length) = true := decide_eq_true (by omega); exact z50_3
     ·rw [if_neg c4] at H; have c1b0 : decide (16 < (l0_3.length : Int)) = false := decide_eq_false c4; have c1b1 : decide (16 < l0_3.length) = false := decide_eq_false (by omega); clear c4; replace H := Option.bind_eq_some_iff.mp H; obtain ⟨t1, A1, H⟩ := H; have A2 := aM A1; clear A1; have H' := aM H; clear H; obtain ⟨i1_0, i1_1, i1_2, i1_3, i1_4, j1_0, j1_1, j1_2, j1_3, j1_4⟩ := cells5_50 BK1.out; go_wp2_with (first | (go_at_call 27; (with_reducible refine (net_nodes.calls k _ _ l0_0 _ _ l0_1 _ _ l0_2 _ _ l0_3 _ _ l0_4 t1 _ ?side1 ?side2 ?side3 ?side4 ?side5 ?side6 ?side7 ?side8 ?side9 ?side10 A2.out).mono ?_); (case side1 => exact q1z HR1_0 HB); (case side2 => exact HC1_0.out); (case side3 => exact q1z HR1_1 HB); (case side4 => exact HC1_1.out); (case side5 => exact q1z HR1_2 HB); (case side6 => exact HC1_2.out); (case side7 => exact q1z HR1_3 HB); (case side8 => exact HC1_3.out); (case side9 => exact q1z HR1_4 HB); (case side10 => exact HC1_4.out); rintro e w1 ⟨rfl, hb⟩; replace BK1 := aM (yi (zi BK1) hb); replace HB := aM (ym (q3z HB GE1) hb); (try clear hb); (try clear hb2); (try clear hk); (try clear hi)))
      go_meet
      case rel => exact ⟨_, (!t1), q13z, H', ⟨q51z⟩, ⟨q10z BK1⟩, ⟨q3z HB GE1⟩⟩
 case rest =>
  clear HC1; try clear c1
  try clear p2
  try clear c4
  try clear c1b0
  try clear c1b1
  try clear c5
  try clear c1b0
  try clear c1b1
  try clear c5
  try clear c1b0
  try clear c1b1
  try clear c5
  try clear c1b0
  try clear c1b1
  try clear c12
  try clear i1_0 i1_1 i1_2 i1_3 i1_4 i1_0 i1_1 i1_2 i1_3 i1_4 i1_0 i1_1 i1_2 i1_3 i1_4 i1_0 i1_1 i1_2 i1_3 i1_4 i1_0 i1_1 i1_2 i1_3 i1_4 j1_0 j1_1 j1_2 j1_3 j1_4 j1_0 j1_1 j1_2 j1_3 j1_4 j1_0 j1_1 j1_2 j1_3 j1_4 j1_0 j1_1 j1_2 j1_3 j1_4 j1_0 j1_1 j1_2 j1_3 j1_4
  obtain ⟨kq, x1_1, rfl, HA, HJ1, BK1, HB⟩ := hcut; cases kq with
  | zero => exact absurd HA.out (by simp [net_Right.j0])
  | succ kj1 =>
   have H := HA.out; clear HA; simp only [net_Right.j0] at H; by_cases c5 : x1_1 = true
   ·subst c5; exact z50_4
   ·replace c5 := Bool.eq_false_iff.mpr c5; subst c5; have H1 : ((net_places.f kj1 l0_0 l0_1 l0_2 l0_3 l0_4 21).bind fun t1 => ((api_Pin_int.f kj1 l0_1 t1 0).bind fun t2 => (if t2 = true then ((net_places.f kj1 l0_0 l0_1 l0_2 l0_3 l0_4 22).bind fun t3 => ((api_Cell_int.f kj1 l0_2 t3 0).bind fun t4 => (if t4 = true then ((net_cells.f kj1 l0_0 l0_1 l0_2 l0_3 l0_4).bind fun t5 => (net_Right.j1 kj1 (!t5) l0_0 l0_1 l0_2 l0_3 l0_4)) else (net_Right.j1 kj1 true l0_0 l0_1 l0_2 l0_3 l0_4)))) else (net_Right.j1 kj1 true l0_0 l0_1 l0_2 l0_3 l0_4)))) = some r := by rw [if_neg (show ¬ (false = true) by decide)] at H; exact H
    clear H; have H := H1; clear H1; have HC1 := aM H; clear H; go_upto_region 5 with (fail)
    go_cut [54] (fun v1 wc => ∃ (kq : Nat) (x1_15 : Bool), v1 = .bool x1_15 ∧ Aside0 (net_Right.j1 kq x1_15 l0_0 l0_1 l0_2 l0_3 l0_4 = some r) ∧ Aside0 (kq ≤ kj1) ∧ Aside0 (wc.heap[gb1]? = some (.cells #[(.slice A0_0 l0_0.length c0_0), (.slice A0_1 l0_1.length c0_1), (.slice A0_2 l0_2.length c0_2), (.slice A0_3 l0_3.length c0_3), (.slice A0_4 l0_4.length c0_4)] 27 (0, 0))) ∧ Aside0 (Below w.heap.size w wc))
    case first =>
     have H := HC1.out; clear HC1; replace H := Option.bind_eq_some_iff.mp H; obtain ⟨t1, A1, H⟩ := H; have A2 := aM A1; clear A1; replace H := Option.bind_eq_some_iff.mp H; obtain ⟨t2, A1, H⟩ := H; have A3 := aM A1; clear A1; by_cases c5 : t2 = true
     ·subst c5; have H1 : ((net_places.f kj1 l0_0 l0_1 l0_2 l0_3 l0_4 22).bind fun t3 => ((api_Cell_int.f kj1 l0_2 t3 0).bind fun t4 => (if t4 = true then ((net_cells.f kj1 l0_0 l0_1 l0_2 l0_3 l0_4).bind fun t5 => (net_Right.j1 kj1 (!t5) l0_0 l0_1 l0_2 l0_3 l0_4)) else (net_Right.j1 kj1 true l0_0 l0_1 l0_2 l0_3 l0_4)))) = some r := by rw [if_pos rfl] at H; exact H
      clear H; have H := H1; clear H1; replace H := Option.bind_eq_some_iff.mp H; obtain ⟨t3, A1, H⟩ := H; have A4 := aM A1; clear A1; replace H := Option.bind_eq_some_iff.mp H; obtain ⟨t4, A1, H⟩ := H; have A5 := aM A1; clear A1; by_cases c6 : t4 = true
      ·subst c6; have H1 : ((net_cells.f kj1 l0_0 l0_1 l0_2 l0_3 l0_4).bind fun t5 => (net_Right.j1 kj1 (!t5) l0_0 l0_1 l0_2 l0_3 l0_4)) = some r := by rw [if_pos rfl] at H; exact H
       clear H; have H := H1; clear H1; replace H := Option.bind_eq_some_iff.mp H; obtain ⟨t5, A1, H⟩ := H; have A6 := aM A1; clear A1; have H' := aM H; clear H; try go_wp2
       replace BK1 := aM (yc BK1.out); replace HB := aM (yk HB.out); refine start_ (n := 21) (S := fun w' => w'.cell? ⟨gb1, 0, none⟩ = some (.slice A0_0 l0_0.length c0_0) ∧ w'.cell? ⟨gb1, 1, none⟩ = some (.slice A0_1 l0_1.length c0_1) ∧ w'.cell? ⟨gb1, 2, none⟩ = some (.slice A0_2 l0_2.length c0_2) ∧ w'.cell? ⟨gb1, 3, none⟩ = some (.slice A0_3 l0_3.length c0_3) ∧ w'.cell? ⟨gb1, 4, none⟩ = some (.slice A0_4 l0_4.length c0_4)) (ds := []) (zb 21 0) (by kernel_rfl) rfl rfl ⟨zc BK1 0, zc BK1 1, zc BK1 2, zc BK1 3, zc BK1 4⟩ (fun hHeld => ?_); refine with_tabW net_Right.tab5 net_Right.bits5 (fun HT_ HW_ => ?_); generalize wc.drew = w1 at BK1 HB hHeld ⊢; refine zpu 0 34 (zb 21 1) ?_; refine zpu 4 38 (zb 21 17) ?_; refine ztk5 1 35 (zb 21 19) hHeld ?_; refine ztk5 2 36 (zb 21 23) hHeld ?_; refine zon 3 (some 37) (zb 21 31) fun K hK => ?_
       refine zgo Try.func31 #[.agg #[.slice A0_0 l0_0.length c0_0, .slice A0_1 l0_1.length c0_1, .slice A0_2 l0_2.length c0_2, .slice A0_3 l0_3.length c0_3, .slice A0_4 l0_4.length c0_4], .int .i64 21] ?_; with_reducible refine (net_places.calls kj1 _ _ l0_0 _ _ l0_1 _ _ l0_2 _ _ l0_3 _ _ l0_4 21 t1 _ ?side1 ?side2 ?side3 ?side4 ?side5 ?side6 ?side7 ?side8 ?side9 ?side10 A2.out).mono ?_
       (case side1 => exact q1z HR1_0 HB)
       (case side2 => exact HC1_0.out)
       (case side3 => exact q1z HR1_1 HB)
       (case side4 => exact HC1_1.out)
       (case side5 => exact q1z HR1_2 HB)
       (case side6 => exact HC1_2.out)
       (case side7 => exact q1z HR1_3 HB)
       (case side8 => exact HC1_3.out)
       (case side9 => exact q1z HR1_4 HB)
       (case side10 => exact HC1_4.out)
       rintro e w1 ⟨v1, rfl, ho1, hb⟩; refine ⟨_, rfl, ?_⟩; have HO1 := aM (Kd.R_lower ho1 (yn (q3z HB GE1))); replace BK1 := aM (yi (zi BK1) hb); replace HB := aM (ym (q3z HB GE1) hb); (try clear hb)
       (try clear hb2)
       (try clear hk)
       (try clear hi)
       (try clear ho1)
       obtain ⟨Ao1, co1, eo1⟩ := Kd.R_slice HO1.out; (first | subst eo1 | (injection eo1 with f1_ f2_ f3_; have f4_ := f1_.symm; have f5_ := f3_.symm; clear f1_ f2_ f3_; subst f4_; subst f5_))
       refine hK.out _ _ ⟨zc BK1 0, zc BK1 1, zc BK1 2, zc BK1 3, zc BK1 4⟩ (fun hHeld => ?_); clear hK K; refine zno 37 ?_; refine zon 5 (some 39) (zb 21 63) fun K hK => ?_
       refine zgo Try.func30 #[.slice A0_1 l0_1.length c0_1, .slice Ao1 t1.length co1, .func (.func 28) #[] #[]] ?_; with_reducible refine (api_Pin_int.calls kj1 _ _ l0_1 _ _ t1 0 true _ ?side1 ?side2 ?side3 ?side4 A3.out).mono ?_
       (case side1 => exact q1z HR1_1 HB)
       (case side2 => exact HC1_1.out)
       (case side3 => exact q9z HO1)
       (case side4 => exact q24z HO1)
       rintro e w1 ⟨rfl, hb⟩; refine ⟨_, rfl, ?_⟩; replace HO1 := aM (yr (q2z HO1) hb); replace BK1 := aM (yi (zi BK1) hb); replace HB := aM (ym (q3z HB GE1) hb); (try clear hb)
       (try clear hb2)
       (try clear hk)
       (try clear hi)
       refine hK.out _ _ ⟨zc BK1 0, zc BK1 1, zc BK1 2, zc BK1 3, zc BK1 4⟩ (fun hHeld => ?_); clear hK K; refine zno 39 ?_; refine zpu 6 40 (zb 21 127) ?_; refine zpu 7 41 (zb 21 255) ?_; refine zpu 8 42 (zb 21 511) ?_; refine zpu 12 46 (zb 21 4607) ?_; refine ztk5 9 43 (zb 21 5119) hHeld ?_; refine ztk5 10 44 (zb 21 6143) hHeld ?_; refine zon 11 (some 45) (zb 21 8191) fun K hK => ?_
       refine zgo Try.func31 #[.agg #[.slice A0_0 l0_0.length c0_0, .slice A0_1 l0_1.length c0_1, .slice A0_2 l0_2.length c0_2, .slice A0_3 l0_3.length c0_3, .slice A0_4 l0_4.length c0_4], .int .i64 22] ?_; with_reducible refine (net_places.calls kj1 _ _ l0_0 _ _ l0_1 _ _ l0_2 _ _ l0_3 _ _ l0_4 22 t3 _ ?side1 ?side2 ?side3 ?side4 ?side5 ?side6 ?side7 ?side8 ?side9 ?side10 A4.out).mono ?_
       (case side1 => exact q1z HR1_0 HB)
       (case side2 => exact HC1_0.out)
       (case side3 => exact q1z HR1_1 HB)
       (case side4 => exact HC1_1.out)
       (case side5 => exact q1z HR1_2 HB)
       (case side6 => exact HC1_2.out)
       (case side7 => exact q1z HR1_3 HB)
       (case side8 => exact HC1_3.out)
       (case side9 => exact q1z HR1_4 HB)
       (case side10 => exact HC1_4.out)
       rintro e w1 ⟨v1, rfl, ho1, hb⟩; refine ⟨_, rfl, ?_⟩; have HO2 := aM (Kd.R_lower (Kd.R_new' ho1 (Kd.R_lt (q2z HO1))) (yn (q3z HB GE1))); replace HO1 := aM (Kd.R_elder' (q2z HO1) (Kd.R_base ho1) hb); replace BK1 := aM (yi (zi BK1) hb); replace HB := aM (ym (q3z HB GE1) hb); (try clear hb)
       (try clear hb2)
       (try clear hk)
       (try clear hi)
       (try clear ho1)
       obtain ⟨Ao1, co1, eo1⟩ := Kd.R_slice HO2.out; (first | subst eo1 | (injection eo1 with f1_ f2_ f3_; have f4_ := f1_.symm; have f5_ := f3_.symm; clear f1_ f2_ f3_; subst f4_; subst f5_))
       refine hK.out _ _ ⟨zc BK1 0, zc BK1 1, zc BK1 2, zc BK1 3, zc BK1 4⟩ (fun hHeld => ?_); clear hK K; refine zno 45 ?_; refine zon 13 (some 47) (zb 21 16383) fun K hK => ?_
       refine zgo Try.func32 #[.slice A0_2 l0_2.length c0_2, .slice Ao1 t3.length co1, .func (.func 29) #[] #[]] ?_; with_reducible refine (api_Cell_int.calls kj1 _ _ l0_2 _ _ t3 0 true _ ?side1 ?side2 ?side3 ?side4 A5.out).mono ?_
       (case side1 => exact q1z HR1_2 HB)
       (case side2 => exact HC1_2.out)
       (case side3 => exact q9z HO2)
       (case side4 => exact q24z HO2)
       rintro e w1 ⟨rfl, hb⟩; refine ⟨_, rfl, ?_⟩; replace HO1 := aM (yr (q2z HO1) hb); replace HO2 := aM (yr (q2z HO2) hb); replace BK1 := aM (yi (zi BK1) hb); replace HB := aM (ym (q3z HB GE1) hb); (try clear hb)
       (try clear hb2)
       (try clear hk)
       (try clear hi)
       refine hK.out _ _ ⟨zc BK1 0, zc BK1 1, zc BK1 2, zc BK1 3, zc BK1 4⟩ (fun hHeld => ?_); clear hK K; refine zno 47 ?_; refine zpu 14 48 (zb 21 32767) ?_; refine zpu 15 49 (zb 21 65535) ?_; refine zpu 16 50 (zb 21 131071) ?_; refine ztk5 17 51 (zb 21 262143) hHeld ?_; refine zon 18 (some 52) (zb 21 524287) fun K hK => ?_
       refine zgo Try.func33 #[.agg #[.slice A0_0 l0_0.length c0_0, .slice A0_1 l0_1.length c0_1, .slice A0_2 l0_2.length c0_2, .slice A0_3 l0_3.length c0_3, .slice A0_4 l0_4.length c0_4]] ?_; with_reducible refine (net_cells.calls kj1 _ _ l0_0 _ _ l0_1 _ _ l0_2 _ _ l0_3 _ _ l0_4 t5 _ ?side1 ?side2 ?side3 ?side4 ?side5 ?side6 ?side7 ?side8 ?side9 ?side10 A6.out).mono ?_
       (case side1 => exact q1z HR1_0 HB)
       (case side2 => exact HC1_0.out)
       (case side3 => exact q1z HR1_1 HB)
       (case side4 => exact HC1_1.out)
       (case side5 => exact q1z HR1_2 HB)
       (case side6 => exact HC1_2.out)
       (case side7 => exact q1z HR1_3 HB)
       (case side8 => exact HC1_3.out)
       (case side9 => exact q1z HR1_4 HB)
       (case side10 => exact HC1_4.out)
       rintro e w1 ⟨rfl, hb⟩; refine ⟨_, rfl, ?_⟩; replace HO1 := aM (yr (q2z HO1) hb); replace HO2 := aM (yr (q2z HO2) hb); replace BK1 := aM (yi (zi BK1) hb); replace HB := aM (ym (q3z HB GE1) hb); (try clear hb)
       (try clear hb2)
       (try clear hk)
       (try clear hi)
       refine hK.out _ _ ⟨zc BK1 0, zc BK1 1, zc BK1 2, zc BK1 3, zc BK1 4⟩ (fun hHeld => ?_); clear hK K; refine zno 52 ?_; refine zpu 19 53 (zb 21 1048575) ?_; refine zpu 20 54 (zb 21 2097151) ?_; refine zdo ?_; try go_wp2
       go_meet
       case rel => exact ⟨_, (!t5), q13z, H', ⟨q55z HJ1⟩, ⟨q10z BK1⟩, ⟨q3z HB GE1⟩⟩
      ·replace c6 := Bool.eq_false_iff.mpr c6; subst c6; have H1 : (net_Right.j1 kj1 true l0_0 l0_1 l0_2 l0_3 l0_4) = some r := by rw [if_neg (show ¬ (false = true) by decide)] at H; exact H
       clear H; have H := H1; clear H1; have H' := aM H; clear H; try go_wp2
       replace BK1 := aM (yc BK1.out); replace HB := aM (yk HB.out); refine start_ (n := 21) (S := fun w' => w'.cell? ⟨gb1, 0, none⟩ = some (.slice A0_0 l0_0.length c0_0) ∧ w'.cell? ⟨gb1, 1, none⟩ = some (.slice A0_1 l0_1.length c0_1) ∧ w'.cell? ⟨gb1, 2, none⟩ = some (.slice A0_2 l0_2.length c0_2) ∧ w'.cell? ⟨gb1, 3, none⟩ = some (.slice A0_3 l0_3.length c0_3) ∧ w'.cell? ⟨gb1, 4, none⟩ = some (.slice A0_4 l0_4.length c0_4)) (ds := []) (zb 21 0) (by kernel_rfl) rfl rfl ⟨zc BK1 0, zc BK1 1, zc BK1 2, zc BK1 3, zc BK1 4⟩ (fun hHeld => ?_); refine with_tabW net_Right.tab5 net_Right.bits5 (fun HT_ HW_ => ?_); generalize wc.drew = w1 at BK1 HB hHeld ⊢; refine zpu 0 34 (zb 21 1) ?_; refine zpu 4 38 (zb 21 17) ?_; refine ztk5 1 35 (zb 21 19) hHeld ?_; refine ztk5 2 36 (zb 21 23) hHeld ?_; refine zon 3 (some 37) (zb 21 31) fun K hK => ?_
       refine zgo Try.func31 #[.agg #[.slice A0_0 l0_0.length c0_0, .slice A0_1 l0_1.length c0_1, .slice A0_2 l0_2.length c0_2, .slice A0_3 l0_3.length c0_3, .slice A0_4 l0_4.length c0_4], .int .i64 21] ?_; with_reducible refine (net_places.calls kj1 _ _ l0_0 _ _ l0_1 _ _ l0_2 _ _ l0_3 _ _ l0_4 21 t1 _ ?side1 ?side2 ?side3 ?side4 ?side5 ?side6 ?side7 ?side8 ?side9 ?side10 A2.out).mono ?_
       (case side1 => exact q1z HR1_0 HB)
       (case side2 => exact HC1_0.out)
       (case side3 => exact q1z HR1_1 HB)
       (case side4 => exact HC1_1.out)
       (case side5 => exact q1z HR1_2 HB)
       (case side6 => exact HC1_2.out)
       (case side7 => exact q1z HR1_3 HB)
       (case side8 => exact HC1_3.out)
       (case side9 => exact q1z HR1_4 HB)
       (case side10 => exact HC1_4.out)
       rintro e w1 ⟨v1, rfl, ho1, hb⟩; refine ⟨_, rfl, ?_⟩; have HO1 := aM (Kd.R_lower ho1 (yn (q3z HB GE1))); replace BK1 := aM (yi (zi BK1) hb); replace HB := aM (ym (q3z HB GE1) hb); (try clear hb)
       (try clear hb2)
       (try clear hk)
       (try clear hi)
       (try clear ho1)
       obtain ⟨Ao1, co1, eo1⟩ := Kd.R_slice HO1.out; (first | subst eo1 | (injection eo1 with f1_ f2_ f3_; have f4_ := f1_.symm; have f5_ := f3_.symm; clear f1_ f2_ f3_; subst f4_; subst f5_))
       refine hK.out _ _ ⟨zc BK1 0, zc BK1 1, zc BK1 2, zc BK1 3, zc BK1 4⟩ (fun hHeld => ?_); clear hK K; refine zno 37 ?_; refine zon 5 (some 39) (zb 21 63) fun K hK => ?_
       refine zgo Try.func30 #[.slice A0_1 l0_1.length c0_1, .slice Ao1 t1.length co1, .func (.func 28) #[] #[]] ?_; with_reducible refine (api_Pin_int.calls kj1 _ _ l0_1 _ _ t1 0 true _ ?side1 ?side2 ?side3 ?side4 A3.out).mono ?_
       (case side1 => exact q1z HR1_1 HB)
       (case side2 => exact HC1_1.out)
       (case side3 => exact q9z HO1)
       (case side4 => exact q24z HO1)
       rintro e w1 ⟨rfl, hb⟩; refine ⟨_, rfl, ?_⟩; replace HO1 := aM (yr (q2z HO1) hb); replace BK1 := aM (yi (zi BK1) hb); replace HB := aM (ym (q3z HB GE1) hb); (try clear hb)
       (try clear hb2)
       (try clear hk)
       (try clear hi)
       refine hK.out _ _ ⟨zc BK1 0, zc BK1 1, zc BK1 2, zc BK1 3, zc BK1 4⟩ (fun hHeld => ?_); clear hK K; refine zno 39 ?_; refine zpu 6 40 (zb 21 127) ?_; refine zpu 7 41 (zb 21 255) ?_; refine zpu 8 42 (zb 21 511) ?_; refine zpu 12 46 (zb 21 4607) ?_; refine ztk5 9 43 (zb 21 5119) hHeld ?_; refine ztk5 10 44 (zb 21 6143) hHeld ?_; refine zon 11 (some 45) (zb 21 8191) fun K hK => ?_
       refine zgo Try.func31 #[.agg #[.slice A0_0 l0_0.length c0_0, .slice A0_1 l0_1.length c0_1, .slice A0_2 l0_2.length c0_2, .slice A0_3 l0_3.length c0_3, .slice A0_4 l0_4.length c0_4], .int .i64 22] ?_; with_reducible refine (net_places.calls kj1 _ _ l0_0 _ _ l0_1 _ _ l0_2 _ _ l0_3 _ _ l0_4 22 t3 _ ?side1 ?side2 ?side3 ?side4 ?side5 ?side6 ?side7 ?side8 ?side9 ?side10 A4.out).mono ?_
       (case side1 => exact q1z HR1_0 HB)
       (case side2 => exact HC1_0.out)
       (case side3 => exact q1z HR1_1 HB)
       (case side4 => exact HC1_1.out)
       (case side5 => exact q1z HR1_2 HB)
       (case side6 => exact HC1_2.out)
       (case side7 => exact q1z HR1_3 HB)
       (case side8 => exact HC1_3.out)
       (case side9 => exact q1z HR1_4 HB)
       (case side10 => exact HC1_4.out)
       rintro e w1 ⟨v1, rfl, ho1, hb⟩; refine ⟨_, rfl, ?_⟩; have HO2 := aM (Kd.R_lower (Kd.R_new' ho1 (Kd.R_lt (q2z HO1))) (yn (q3z HB GE1))); replace HO1 := aM (Kd.R_elder' (q2z HO1) (Kd.R_base ho1) hb); replace BK1 := aM (yi (zi BK1) hb); replace HB := aM (ym (q3z HB GE1) hb); (try clear hb)
       (try clear hb2)
       (try clear hk)
       (try clear hi)
       (try clear ho1)
       obtain ⟨Ao1, co1, eo1⟩ := Kd.R_slice HO2.out; (first | subst eo1 | (injection eo1 with f1_ f2_ f3_; have f4_ := f1_.symm; have f5_ := f3_.symm; clear f1_ f2_ f3_; subst f4_; subst f5_))
       refine hK.out _ _ ⟨zc BK1 0, zc BK1 1, zc BK1 2, zc BK1 3, zc BK1 4⟩ (fun hHeld => ?_); clear hK K; refine zno 45 ?_; refine zon 13 (some 47) (zb 21 16383) fun K hK => ?_
       refine zgo Try.func32 #[.slice A0_2 l0_2.length c0_2, .slice Ao1 t3.length co1, .func (.func 29) #[] #[]] ?_; with_reducible refine (api_Cell_int.calls kj1 _ _ l0_2 _ _ t3 0 false _ ?side1 ?side2 ?side3 ?side4 A5.out).mono ?_
       (case side1 => exact q1z HR1_2 HB)
       (case side2 => exact HC1_2.out)
       (case side3 => exact q9z HO2)
       (case side4 => exact q24z HO2)
       rintro e w1 ⟨rfl, hb⟩; refine ⟨_, rfl, ?_⟩; replace HO1 := aM (yr (q2z HO1) hb); replace HO2 := aM (yr (q2z HO2) hb); replace BK1 := aM (yi (zi BK1) hb); replace HB := aM (ym (q3z HB GE1) hb); (try clear hb)
       (try clear hb2)
       (try clear hk)
       (try clear hi)
       refine hK.out _ _ ⟨zc BK1 0, zc BK1 1, zc BK1 2, zc BK1 3, zc BK1 4⟩ (fun hHeld => ?_); clear hK K; refine zno 47 ?_; refine zpu 14 48 (zb 21 32767) ?_; exact z50_2
     ·replace c5 := Bool.eq_false_iff.mpr c5; subst c5; have H1 : (net_Right.j1 kj1 true l0_0 l0_1 l0_2 l0_3 l0_4) = some r := by rw [if_neg (show ¬ (false = true) by decide)] at H; exact H
      clear H; have H := H1; clear H1; have H' := aM H; clear H; try go_wp2
      replace BK1 := aM (yc BK1.out); replace HB := aM (yk HB.out); refine start_ (n := 21) (S := fun w' => w'.cell? ⟨gb1, 0, none⟩ = some (.slice A0_0 l0_0.length c0_0) ∧ w'.cell? ⟨gb1, 1, none⟩ = some (.slice A0_1 l0_1.length c0_1) ∧ w'.cell? ⟨gb1, 2, none⟩ = some (.slice A0_2 l0_2.length c0_2) ∧ w'.cell? ⟨gb1, 3, none⟩ = some (.slice A0_3 l0_3.length c0_3) ∧ w'.cell? ⟨gb1, 4, none⟩ = some (.slice A0_4 l0_4.length c0_4)) (ds := []) (zb 21 0) (by kernel_rfl) rfl rfl ⟨zc BK1 0, zc BK1 1, zc BK1 2, zc BK1 3, zc BK1 4⟩ (fun hHeld => ?_); refine with_tabW net_Right.tab5 net_Right.bits5 (fun HT_ HW_ => ?_); generalize wc.drew = w1 at BK1 HB hHeld ⊢; refine zpu 0 34 (zb 21 1) ?_; refine zpu 4 38 (zb 21 17) ?_; refine ztk5 1 35 (zb 21 19) hHeld ?_; refine ztk5 2 36 (zb 21 23) hHeld ?_; refine zon 3 (some 37) (zb 21 31) fun K hK => ?_
      refine zgo Try.func31 #[.agg #[.slice A0_0 l0_0.length c0_0, .slice A0_1 l0_1.length c0_1, .slice A0_2 l0_2.length c0_2, .slice A0_3 l0_3.length c0_3, .slice A0_4 l0_4.length c0_4], .int .i64 21] ?_; with_reducible refine (net_places.calls kj1 _ _ l0_0 _ _ l0_1 _ _ l0_2 _ _ l0_3 _ _ l0_4 21 t1 _ ?side1 ?side2 ?side3 ?side4 ?side5 ?side6 ?side7 ?side8 ?side9 ?side10 A2.out).mono ?_
      (case side1 => exact q1z HR1_0 HB)
      (case side2 => exact HC1_0.out)
      (case side3 => exact q1z HR1_1 HB)
      (case side4 => exact HC1_1.out)
      (case side5 => exact q1z HR1_2 HB)
      (case side6 => exact HC1_2.out)
      (case side7 => exact q1z HR1_3 HB)
      (case side8 => exact HC1_3.out)
      (case side9 => exact q1z HR1_4 HB)
      (case side10 => exact HC1_4.out)
      rintro e w1 ⟨v1, rfl, ho1, hb⟩; refine ⟨_, rfl, ?_⟩; have HO1 := aM (Kd.R_lower ho1 (yn (q3z HB GE1))); replace BK1 := aM (yi (zi BK1) hb); replace HB := aM (ym (q3z HB GE1) hb); (try clear hb)
      (try clear hb2)
      (try clear hk)
      (try clear hi)
      (try clear ho1)
      obtain ⟨Ao1, co1, eo1⟩ := Kd.R_slice HO1.out; (first | subst eo1 | (injection eo1 with f1_ f2_ f3_; have f4_ := f1_.symm; have f5_ := f3_.symm; clear f1_ f2_ f3_; subst f4_; subst f5_))
      refine hK.out _ _ ⟨zc BK1 0, zc BK1 1, zc BK1 2, zc BK1 3, zc BK1 4⟩ (fun hHeld => ?_); clear hK K; refine zno 37 ?_; refine zon 5 (some 39) (zb 21 63) fun K hK => ?_
      refine zgo Try.func30 #[.slice A0_1 l0_1.length c0_1, .slice Ao1 t1.length co1, .func (.func 28) #[] #[]] ?_; with_reducible refine (api_Pin_int.calls kj1 _ _ l0_1 _ _ t1 0 false _ ?side1 ?side2 ?side3 ?side4 A3.out).mono ?_
      (case side1 => exact q1z HR1_1 HB)
      (case side2 => exact HC1_1.out)
      (case side3 => exact q9z HO1)
      (case side4 => exact q24z HO1)
      rintro e w1 ⟨rfl, hb⟩; refine ⟨_, rfl, ?_⟩; replace HO1 := aM (yr (q2z HO1) hb); replace BK1 := aM (yi (zi BK1) hb); replace HB := aM (ym (q3z HB GE1) hb); (try clear hb)
      (try clear hb2)
      (try clear hk)
      (try clear hi)
      refine hK.out _ _ ⟨zc BK1 0, zc BK1 1, zc BK1 2, zc BK1 3, zc BK1 4⟩ (fun hHeld => ?_); clear hK K; refine zno 39 ?_; refine zpu 6 40 (zb 21 127) ?_; refine zpu 7 41 (zb 21 255) ?_; refine zpn 8 42 (zb 21 511) ?_; refine zpn 9 43 (zb 21 1023) ?_; refine zpn 10 44 (zb 21 2047) ?_; refine zpn 11 45 (zb 21 4095) ?_; refine zpn 12 46 (zb 21 8191) ?_; refine zpn 13 47 (zb 21 16383) ?_; refine zpn 14 48 (zb 21 32767) ?_; exact z50_2
    case rest =>
     clear HC1; try clear c1
     try clear c2
     try clear p2
     try clear c3
     try clear c5
     try clear c6
     try clear c30
     try clear c31
     try clear c32
     try clear c33
     obtain ⟨kq, x1_15, rfl, HA, HJ2, BK1, HB⟩ := hcut; cases kq with
     | zero => exact absurd HA.out (by simp [net_Right.j1])
     | succ kj1 =>
      have H := HA.out; clear HA; simp only [net_Right.j1] at H; by_cases c7 : x1_15 = true
      ·subst c7; exact z50_4
      ·replace c7 := Bool.eq_false_iff.mpr c7; subst c7; have H1 : (net_Right.l0 kj1 l0_3 (l0_3.length : Int) 0 l0_0 l0_1 l0_2 l0_3 l0_4) = some r := by rw [if_neg (show ¬ (false = true) by decide)] at H; exact H
       clear H; have H := H1; clear H1; have H' := aM H; clear H; obtain ⟨i1_0, i1_1, i1_2, i1_3, i1_4, j1_0, j1_1, j1_2, j1_3, j1_4⟩ := cells5_50 BK1.out; go_wp2
       go_loopg [58] kj1 (fun kq v1 w' => ∃ (x1_3 : Int), v1 = .int .i64 x1_3 ∧ Aside0 (net_Right.l0 kq l0_3 (l0_3.length : Int) x1_3 l0_0 l0_1 l0_2 l0_3 l0_4 = some r) ∧ Aside0 (kq ≤ kj1) ∧ Aside0 (w'.heap[gb1]? = some (.cells #[(.slice A0_0 l0_0.length c0_0), (.slice A0_1 l0_1.length c0_1), (.slice A0_2 l0_2.length c0_2), (.slice A0_3 l0_3.length c0_3), (.slice A0_4 l0_4.length c0_4)] 27 (0, 0))) ∧ Aside0 (Below w.heap.size w w'))
       case atStart => exact ⟨(0), q13z, H', ⟨Nat.le_refl _⟩, ⟨q10z BK1⟩, ⟨q3z HB GE1⟩⟩
       case round =>
        clear H'; try clear c1
        try clear c2
        try clear p2
        try clear c3
        try clear c4
        try clear c5
        try clear c6
        try clear c30
        try clear c31
        try clear c32
        try clear c33
        try clear c7
        try clear i1_0 i1_1 i1_2 i1_3 i1_4 j1_0 j1_1 j1_2 j1_3 j1_4
        try clear p2
        obtain ⟨x1_3, rfl, HA, HK1, BK1, HB⟩ := hrel; cases gk with
        | zero => exact absurd HA.out (by simp [net_Right.l0])
        | succ k1 =>
         have H := HA.out; clear HA; simp only [net_Right.l0] at H; by_cases c4 : x1_3 < (l0_3.length : Int)
         ·rw [if_pos c4] at H; have c1b0 := decide_eq_true c4; clear c4; by_cases c5 : 0 ≤ x1_3
          ·rw [if_pos c5] at H; have c1b0 := decide_eq_true c5; clear c5; by_cases c6 : x1_3 < (l0_3.length : Int)
           ·rw [if_pos c6] at H; have c1b0 := decide_eq_true c6; clear c6; by_cases c7 : ((rd_T61 l0_3 x1_3).f0) < 8
            ·rw [if_pos c7] at H; have c1b0 := decide_eq_true c7; exact z50_1
            ·rw [if_neg c7] at H; have c1b0 := decide_eq_false c7; clear c7; by_cases c7 : ((rd_T61 l0_3 x1_3).f0) > 10
             ·rw [if_pos c7] at H; have c1b0 : decide (10 < ((rd_T61 l0_3 x1_3).f0)) = true := decide_eq_true c7; exact z50_1
             ·rw [if_neg c7] at H; have c1b0 : decide (10 < ((rd_T61 l0_3 x1_3).f0)) = false := decide_eq_false c7; clear c7; replace H := Option.bind_eq_some_iff.mp H; obtain ⟨t1, A1, H⟩ := H; have A2 := aM A1; clear A1; by_cases c7 : t1 = 1
              ·rw [if_pos c7] at H; obtain ⟨c1b0, c1b1⟩ := zeq c7; clear c7; have H' := aM H; clear H; have p1 : 0 ≤ (x1_3 : Int) := zod; have q1 : x1_3 < (l0_3.length : Int) := zod; obtain ⟨ad1, e1, hx1_0, hx1_1, hx1_2⟩ := at_T61 HR1_3.out x1_3 p1 q1; cases e1; replace hx1_0 := zx HB hx1_0; replace hx1_1 := zx HB hx1_1; replace hx1_2 := zx HB hx1_2; replace p1 := eq_true p1; replace q1 := eq_true q1; go_wp2_with (first | ((with_reducible refine gate_dst (N := 6) rfl ?_); (try (refine gate_guard (by rfl) ?_; dsimp only)); refine box_event ?hg (N := 6) ?hd (cs := #[.int .i64 0, .string (⟨#[]⟩ : ByteArray), .int .i64 0]) (t := 61) ?hr ?_; (case hd => rfl); (case hg => rfl); (case hr => exact q27z); intro gb2 hg w1 hbox hb; have BK2 := aM (hbox); have GW1 := aM ((q14z HB GE1 : w.heap.size ≤ gb2)); have GE2 := aM ((q14z HB GE1 : w.heap.size ≤ gb2)); replace HB := aM (ym (q3z HB GE1) hb); have NB1_186 := aM ((q38z BK1 : gb1 ≠ gb2)); have NB1_174 := aM ((q39z BK1 : gb2 ≠ gb1)); replace BK1 := aM (yi (zi BK1) hb); clear hb hbox hg; have hnb1 := NB1_174.out; have hnc1 := NB1_186.out; obtain ⟨i1_0, i1_1, i1_2, j1_0, j1_1, j1_2⟩ := cells3_50 BK2.out; obtain ⟨i2_0, i2_1, i2_2, i1_3, i1_4, j2_0, j2_1, j2_2, j1_3, j1_4⟩ := cells5_50 BK1.out) | (go_at_call 34; (with_reducible refine (net_width.calls _ _ l0_0 _ _ l0_1 _ _ l0_2 _ _ l0_3 _ _ l0_4 ((rd_T61 l0_3 x1_3).f2) (l0_0.length : Int) t1 _ ?side1 ?side2 ?side3 ?side4 ?side5 ?side6 ?side7 ?side8 ?side9 ?side10 A2.out).mono ?_); (case side1 => exact q18z HR1_0 HB GE1 GE2); (case side2 => exact HC1_0.out); (case side3 => exact q18z HR1_1 HB GE1 GE2); (case side4 => exact HC1_1.out); (case side5 => exact q18z HR1_2 HB GE1 GE2); (case side6 => exact HC1_2.out); (case side7 => exact q18z HR1_3 HB GE1 GE2); (case side8 => exact HC1_3.out); (case side9 => exact q18z HR1_4 HB GE1 GE2); (case side10 => exact HC1_4.out); rintro e w2 ⟨rfl, hb⟩; replace BK1 := aM (yi (g := gb1) (o := .cells #[.slice A0_0 l0_0.length c0_0, .slice A0_1 l0_1.length c0_1, .slice A0_2 l0_2.length c0_2, .slice (some ad1) l0_3.length c0_3, .slice A0_4 l0_4.length c0_4] 27 (0, 0)) (q32z NB1_186 BK1) hb); replace BK2 := aM (yi (g := gb2) (o := .cells #[.int .i64 ((rd_T61 l0_3 x1_3).f0), .string ((rd_T61 l0_3 x1_3).f1), .int .i64 ((rd_T61 l0_3 x1_3).f2)] 61 (0, 0)) (q50z BK2) hb); replace HB := aM (ym (q5z HB GE1 GE2) hb); (try clear hb); (try clear hb2); (try clear hk); (try clear hi)))
               go_roundg k1
               case measure => have := HJ1.out; have := HJ2.out; have := HK1.out; omega
               case rel => exact ⟨(wrap64 (x1_3 + 1)), q13z, H', ⟨q87z HJ1 HJ2 HK1⟩, ⟨q10z BK1⟩, ⟨q5z HB GE1 GE2⟩⟩
              ·rw [if_neg c7] at H; obtain ⟨c1b0, c1b1⟩ := zne c7; obtain rfl := Option.some.inj H; have p1 : 0 ≤ (x1_3 : Int) := zod; have q1 : x1_3 < (l0_3.length : Int) := zod; obtain ⟨ad1, e1, hx1_0, hx1_1, hx1_2⟩ := at_T61 HR1_3.out x1_3 p1 q1; cases e1; replace hx1_0 := zx HB hx1_0; replace hx1_1 := zx HB hx1_1; replace hx1_2 := zx HB hx1_2; replace p1 := eq_true p1; replace q1 := eq_true q1; go_wp2_with (first | ((with_reducible refine gate_dst (N := 6) rfl ?_); (try (refine gate_guard (by rfl) ?_; dsimp only)); refine box_event ?hg (N := 6) ?hd (cs := #[.int .i64 0, .string (⟨#[]⟩ : ByteArray), .int .i64 0]) (t := 61) ?hr ?_; (case hd => rfl); (case hg => rfl); (case hr => exact q27z); intro gb2 hg w1 hbox hb; have BK2 := aM (hbox); have GW1 := aM ((q14z HB GE1 : w.heap.size ≤ gb2)); have GE2 := aM ((q14z HB GE1 : w.heap.size ≤ gb2)); replace HB := aM (ym (q3z HB GE1) hb); have NB1_186 := aM ((q38z BK1 : gb1 ≠ gb2)); have NB1_174 := aM ((q39z BK1 : gb2 ≠ gb1)); replace BK1 := aM (yi (zi BK1) hb); clear hb hbox hg; have hnb1 := NB1_174.out; have hnc1 := NB1_186.out; obtain ⟨i1_0, i1_1, i1_2, j1_0, j1_1, j1_2⟩ := cells3_50 BK2.out; obtain ⟨i2_0, i2_1, i2_2, i1_3, i1_4, j2_0, j2_1, j2_2, j1_3, j1_4⟩ := cells5_50 BK1.out) | (go_at_call 34; (with_reducible refine (net_width.calls _ _ l0_0 _ _ l0_1 _ _ l0_2 _ _ l0_3 _ _ l0_4 ((rd_T61 l0_3 x1_3).f2) (l0_0.length : Int) t1 _ ?side1 ?side2 ?side3 ?side4 ?side5 ?side6 ?side7 ?side8 ?side9 ?side10 A2.out).mono ?_); (case side1 => exact q18z HR1_0 HB GE1 GE2); (case side2 => exact HC1_0.out); (case side3 => exact q18z HR1_1 HB GE1 GE2); (case side4 => exact HC1_1.out); (case side5 => exact q18z HR1_2 HB GE1 GE2); (case side6 => exact HC1_2.out); (case side7 => exact q18z HR1_3 HB GE1 GE2); (case side8 => exact HC1_3.out); (case side9 => exact q18z HR1_4 HB GE1 GE2); (case side10 => exact HC1_4.out); rintro e w2 ⟨rfl, hb⟩; replace BK1 := aM (yi (g := gb1) (o := .cells #[.slice A0_0 l0_0.length c0_0, .slice A0_1 l0_1.length c0_1, .slice A0_2 l0_2.length c0_2, .slice (some ad1) l0_3.length c0_3, .slice A0_4 l0_4.length c0_4] 27 (0, 0)) (q32z NB1_186 BK1) hb); replace BK2 := aM (yi (g := gb2) (o := .cells #[.int .i64 ((rd_T61 l0_3 x1_3).f0), .string ((rd_T61 l0_3 x1_3).f1), .int .i64 ((rd_T61 l0_3 x1_3).f2)] 61 (0, 0)) (q50z BK2) hb); replace HB := aM (ym (q5z HB GE1 GE2) hb); (try clear hb); (try clear hb2); (try clear hk); (try clear hi)))
               go_ret
               exact ⟨q11z, q5z HB GE1 GE2⟩
           ·rw [if_neg c6] at H; exact absurd H (by simp)
          ·rw [if_neg c5] at H; exact absurd H (by simp)
         ·rw [if_neg c4] at H; have c1b0 := decide_eq_false c4; clear c4; replace H := Option.bind_eq_some_iff.mp H; obtain ⟨t1, A1, H⟩ := H; have A2 := aM A1; clear A1; obtain rfl := Option.some.inj H; obtain ⟨i1_0, i1_1, i1_2, i1_3, i1_4, j1_0, j1_1, j1_2, j1_3, j1_4⟩ := cells5_50 BK1.out; go_wp2_with (first | ((with_reducible refine zgc 35 rfl ?_); refine zgl (some 84) Try.func35 #[.slice A0_4 l0_4.length c0_4, .func (.func 36) #[] #[.pointer (some ⟨gb1, 0, none⟩)]] ?_; (with_reducible refine (api_Pin_35.calls k1 _ _ l0_4 ⟨l0_0, l0_1, l0_2, l0_3, l0_4⟩ t1 _ ?side1 ?side2 A2.out gb1 ?hk9).mono ?_); (case hk9 => exact ⟨A0_0, c0_0, A0_1, c0_1, A0_2, c0_2, A0_3, c0_3, A0_4, c0_4, (zi BK1), ⟨Kd.C_below HR1_0.out HB.out, HC1_0.out⟩, ⟨Kd.C_below HR1_1.out HB.out, HC1_1.out⟩, ⟨Kd.C_below HR1_2.out HB.out, HC1_2.out⟩, ⟨Kd.C_below HR1_3.out HB.out, HC1_3.out⟩, Kd.C_below HR1_4.out HB.out, HC1_4.out⟩); (case side1 => exact q1z HR1_4 HB); (case side2 => exact HC1_4.out); rintro e w1 ⟨rfl, hb⟩; refine ⟨_, rfl, ?_⟩; replace BK1 := aM (yi (zi BK1) hb); replace HB := aM (ym (q3z HB GE1) hb); (try clear hb); (try clear hb2); (try clear hk); (try clear hi)))
          go_ret
          exact ⟨q11z, q3z HB GE1⟩
end Go.Proofs.Yteblbknmikieoaa.Xb
