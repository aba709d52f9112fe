/- Nets, cycle by cycle: states, values, properties, hits; traces of raw rows. -/
import Derived.Test.YtieocmcjecpgpaaPlEval
namespace Go.Proofs.Ytieocmcjecpgpaa.Am
set_option linter.unusedVariables false
set_option linter.unusedSimpArgs false
abbrev Tr := List (List Int)
/-- A net's state ahead of each cycle, what all nodes are in it. -/
noncomputable def sV (N : List Nd) (I : List Pn) (C : List Cl) (t : Tr) : Nat → List Int
  | 0 => firstV C
  | k + 1 => afterV C (evalV N I C (sV N I C t k) (KLi_at t (k : Int)))
noncomputable def vV (N : List Nd) (I : List Pn) (C : List Cl) (t : Tr) (k : Nat) : List Int := evalV N I C (sV N I C t k) (KLi_at t (k : Int))
def bitsV (P : List Pw) (v : List Int) : List Bool := (List.range P.length).map fun j : Nat => decide (Ki_at v (Kisi_at P (j : Int)).2.2 = 1)
/-- Rows of numbers that fit the inputs. -/
def FitT (N : List Nd) (I : List Pn) (t : Tr) : Prop := t.length ≤ 200 ∧ ∀ k : Nat, k < t.length → FitI N I (KLi_at t (k : Int))
section
variable {N : List Nd} {I : List Pn} {C : List Cl} {P : List Pw} {Q : List Pn} {t u : Tr}
theorem sV_fit (r : RightP N I C P Q) (ft : FitT N I t) : ∀ k, k ≤ t.length → FitC N C (sV N I C t k)
  | 0, _ => fit_first r
  | k + 1, h => fit_after r (nums_evalV r (ft.2 k (by omega)) (sV_fit r ft k (by omega)))
theorem vV_nums (r : RightP N I C P Q) (ft : FitT N I t) {k : Nat} (h : k < t.length) : Nums N (vV N I C t k) := nums_evalV r (ft.2 k h) (sV_fit r ft k (by omega))
theorem sV_len : ∀ k, (sV N I C t k).length = C.length
  | 0 => by simp [sV, firstV]
  | k + 1 => by simp [sV, afterV]
theorem vV_len {k : Nat} : (vV N I C t k).length = N.length := evalV_len _ _ _ _ _
theorem bitsV_len {v : List Int} : (bitsV P v).length = P.length := by simp [bitsV]
theorem bitsV_at {v : List Int} {j : Nat} (h : j < P.length) : Kb_at (bitsV P v) (j : Int) = decide (Ki_at v (Kisi_at P (j : Int)).2.2 = 1) := at_range (t := b_) h
theorem sV_congr : ∀ k, (∀ i : Nat, i < k → KLi_at t (i : Int) = KLi_at u (i : Int)) → sV N I C t k = sV N I C u k
  | 0, _ => rfl
  | k + 1, h => by rw [sV, sV, sV_congr k (fun i hi => h i (by omega)), h k (by omega)]
theorem vV_congr {k : Nat} (h : ∀ i : Nat, i ≤ k → KLi_at t (i : Int) = KLi_at u (i : Int)) : vV N I C t k = vV N I C u k := by
  rw [vV, vV, sV_congr k (fun i hi => h i (by omega)), h k (Nat.le_refl _)]
theorem prop_node (r : RightP N I C P Q) {j : Nat} (h : j < P.length) : 0 ≤ (Kisi_at P (j : Int)).2.2 ∧ (Kisi_at P (j : Int)).2.2 < N.length ∧ (Kiiiiiii_at N (Kisi_at P (j : Int)).2.2).2.1 = 1 := by
  have hp := (r.prop j h).2.2
  obtain ⟨q0, q1, q2⟩ := wid_pos (N := N) (a := (Kisi_at P (j : Int)).2.2) (i := N.length) (by omega)
  exact ⟨q0, q1, by omega⟩
/-- A property's node is 0 or 1. -/
theorem prop_bit (r : RightP N I C P Q) {v : List Int} (hv : Nums N v) {j : Nat} (h : j < P.length) : Ki_at v (Kisi_at P (j : Int)).2.2 = 0 ∨ Ki_at v (Kisi_at P (j : Int)).2.2 = 1 := by
  obtain ⟨q0, q1, q2⟩ := prop_node r h
  have := hv.2 (Kisi_at P (j : Int)).2.2.toNat (by omega)
  rw [show (((Kisi_at P (j : Int)).2.2.toNat : Nat) : Int) = (Kisi_at P (j : Int)).2.2 by omega, q2] at this
  have h2 := this.2
  rw [p2_one] at h2
  have := this.1
  omega
end
theorem clone_f {n : Nat} {l : List Int} (h : l.length ≤ 1000) : slices_Clone_int_int n l = some (l, ()) := by
  unfold slices_Clone_int_int
  rw [ask_of (by simp; omega)]
theorem states_f {n : Nat} {N I C P Q t} (s : Small N I C P Q) (r : RightP N I C P Q) (ft : FitT N I t) (hn : 1000 < n) : sim_States n N I C P Q t = some ((List.range (t.length + 1)).map (sV N I C t), ()) := by
  have s3 := s.c
  have ft1 := ft.1
  have l1 := iter_up (F := sim_cycles_1__sim_States_o_l1b n N I C P Q t) (fun j => (sV N I C t j, (j : Int), 0, (List.range j).map (sV N I C t), ())) (.inr (0, (List.range t.length).map (sV N I C t), ())) (len := t.length) (m := n)
    (fun self j hj => by
      have hl := sV_len (N := N) (I := I) (C := C) (t := t) j
      unfold sim_cycles_1__sim_States_o_l1b sim_States_y_i2
      simp only [cond_dec]
      rw [if_pos (by omega), ask_of (by omega), eval_f s r (ft.2 j hj) (sV_fit r ft j (by omega)) hn, bindS, ask_of trivial, clone_f (by omega), bindS, ask_of (by simp; omega), bindS]
      simp only [Bool.not_true, cond_false]
      rw [show net_After n N I C P Q (sV N I C t j) (KLi_at t (j : Int)) = _ from after_f s r (ft.2 j hj) (sV_fit r ft j (by omega)) hn, bindS, succ64 (by omega), range_app (g := sV N I C t)]
      rfl)
    (fun self => by
      unfold sim_cycles_1__sim_States_o_l1b
      simp only [cond_dec]
      rw [if_neg (by omega)]) (by omega)
  unfold sim_States sim_cycles sim_cycles_1__sim_States_o
  simp only [first_f s hn, bindS]
  rw [show sim_cycles_1__sim_States_o_l1 n N I C P Q t (firstV C, 0, 0, [], ()) = _ from l1]
  simp only [bindS, Sum.elim_inr]
  rw [ask_of (by omega)]
  simp only [cond_dec]
  rw [if_pos trivial]
  have j1 : sim_States_j1 n (firstV C, ()) (0, N, I, C, P, Q, t, (List.range t.length).map (sV N I C t), ()) N I C P Q t = some (sV N I C t t.length, ()) := by
    unfold sim_States_j1
    simp only [cond_dec]
    by_cases h : 0 < t.length
    · obtain ⟨k, hk⟩ : ∃ k, t.length = k + 1 := ⟨t.length - 1, by omega⟩
      have e : IntKind.wrap .i64 ((t.length : Int) - 1) = (k : Int) := by rw [w64 (by omega) (by omega)]; omega
      rw [if_pos (by omega), e, ask_of (by simp; omega), ask_of (by omega), show KLi_at ((List.range t.length).map (sV N I C t)) (k : Int) = sV N I C t k from at_range (t := KLi_) (by omega), show net_After n N I C P Q (sV N I C t k) (KLi_at t (k : Int)) = _ from after_f s r (ft.2 k (by omega)) (sV_fit r ft k (by omega)) hn, bindS, hk]
      rfl
    · have e : t.length = 0 := by omega
      rw [if_neg (by omega), e]
      rfl
  rw [j1, bindS, ask_of (by simp; omega), range_app (g := sV N I C t)]
theorem props_f {n : Nat} {N I C P Q} {v : List Int} (s : Small N I C P Q) (r : RightP N I C P Q) (hv : v.length = N.length) (hn : 1000 < n) : sim_props n N I C P Q v = some (bitsV P v, ()) := by
  have s4 := s.p
  have l1 := iter_up (F := sim_props_l1b n P v) (fun j => ((j : Int), fillN P.length (fun j => decide (Ki_at v (Kisi_at P (j : Int)).2.2 = 1)) false j, ())) (bitsV P v, ()) (len := P.length) (m := n)
    (fun self j hj => by
      have hl := fillN_len (g := fun j : Nat => decide (Ki_at v (Kisi_at P (j : Int)).2.2 = 1)) (z := false) (Nat.le_of_lt hj)
      obtain ⟨q0, q1, -⟩ := prop_node r hj
      unfold sim_props_l1b
      simp only [cond_dec]
      rw [if_pos (by omega), ask_of (by omega), ask_of (by omega), ask_of (by omega), succ64 (by omega), Int.toNat_natCast, ← fillN_set hj])
    (fun self => by
      unfold sim_props_l1b
      simp only [cond_dec]
      rw [if_neg (by omega), fillN_n]
      rfl) (by omega)
  rw [fillN_0] at l1
  unfold sim_props
  rw [ask_of (by omega), Int.toNat_natCast, show sim_props_l1 n P v (0, List.replicate P.length false, ()) = _ from l1]
  rfl
theorem run_f {n : Nat} {N I C P Q t} (s : Small N I C P Q) (r : RightP N I C P Q) (ft : FitT N I t) (hn : 1000 < n) : sim_Run n N I C P Q t = some ((List.range t.length).map (fun k => bitsV P (vV N I C t k)), ()) := by
  have ft1 := ft.1
  have l1 := iter_up (F := sim_cycles_1__sim_Run_o_l1b n N I C P Q t) (fun j => (sV N I C t j, (j : Int), 0, N, I, C, P, Q, (List.range j).map (fun k => bitsV P (vV N I C t k)), ())) (.inr (0, N, I, C, P, Q, (List.range t.length).map (fun k => bitsV P (vV N I C t k)), ())) (len := t.length) (m := n)
    (fun self j hj => by
      unfold sim_cycles_1__sim_Run_o_l1b sim_Run_y_i2
      simp only [cond_dec]
      rw [if_pos (by omega), ask_of (by omega), eval_f s r (ft.2 j hj) (sV_fit r ft j (by omega)) hn, bindS, ask_of trivial, props_f s r (evalV_len _ _ _ _ _) hn, bindS, ask_of (by simp; omega), bindS]
      simp only [Bool.not_true, cond_false]
      rw [show net_After n N I C P Q (sV N I C t j) (KLi_at t (j : Int)) = _ from after_f s r (ft.2 j hj) (sV_fit r ft j (by omega)) hn, bindS, succ64 (by omega)]
      have := range_app (g := fun k => bitsV P (vV N I C t k)) (j := j)
      rw [← this]
      rfl)
    (fun self => by
      unfold sim_cycles_1__sim_Run_o_l1b
      simp only [cond_dec]
      rw [if_neg (by omega)]) (by omega)
  unfold sim_Run sim_cycles sim_cycles_1__sim_Run_o
  simp only [first_f s hn, bindS]
  rw [show sim_cycles_1__sim_Run_o_l1 n N I C P Q t (firstV C, 0, 0, N, I, C, P, Q, [], ()) = _ from l1]
  simp only [bindS, Sum.elim_inr]
  rw [ask_of (by omega)]
  rfl
end Go.Proofs.Ytieocmcjecpgpaa.Am
