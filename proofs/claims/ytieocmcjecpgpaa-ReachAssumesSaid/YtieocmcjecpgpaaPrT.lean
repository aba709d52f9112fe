/- Traces of a small net, and the search. -/
import Derived.Test.YtieocmcjecpgpaaPrF
namespace Go.Proofs.Ytieocmcjecpgpaa.Am
set_option linter.unusedVariables false
set_option linter.unusedSimpArgs false
noncomputable def numI (N : List Nd) (I : List Pn) (x : List Int) : Nat := open Classical in if h : FitI N I x then Classical.choose (row_of h) else 0
noncomputable def idx (N : List Nd) (I : List Pn) (t : Tr) (k : Nat) : List Nat := (List.range k).map fun j : Nat => numI N I (KLi_at t (j : Int))
section
variable {N : List Nd} {I : List Pn} {C : List Cl} {P : List Pw} {Q : List Pn} {n : Nat} {p : Int} {t : Tr} {l : List (List Int × List Nat)}
theorem numI_of {x : List Int} (h : FitI N I x) : numI N I x < tot (wI N I) I.length ∧ rowV N I (numI N I x) = x := by
  unfold numI
  rw [dif_pos h]
  exact Classical.choose_spec (row_of h)
theorem idx_len {k : Nat} : (idx N I t k).length = k := by simp [idx]
theorem idx_succ {k : Nat} : idx N I t (k + 1) = idx N I t k ++ [numI N I (KLi_at t (k : Int))] := by simp [idx, List.range_succ]
theorem L_at (ft : FitT N I t) {k : Nat} (hk : k < t.length) : (sysN N I C P p).L (sV N I C t k) (numI N I (KLi_at t (k : Int))) = legalB P (vV N I C t k) := by
  show legalB P (evalV N I C (sV N I C t k) (rowV N I (numI N I (KLi_at t (k : Int))))) = _
  rw [(numI_of (ft.2 k hk)).2]
  rfl
theorem H_at (ft : FitT N I t) {k q : Nat} (hk : k < t.length) : (sysN N I C P (q : Int)).H (sV N I C t k) (numI N I (KLi_at t (k : Int))) = hitB P q (vV N I C t k) := by
  show (if (q : Int) < 0 then false else hitB P (q : Int).toNat (evalV N I C (sV N I C t k) (rowV N I (numI N I (KLi_at t (k : Int)))))) = _
  rw [if_neg (by omega), (numI_of (ft.2 k hk)).2, Int.toNat_natCast]
  rfl
theorem A_at (ft : FitT N I t) {k : Nat} (hk : k < t.length) : (sysN N I C P p).A (sV N I C t k) (numI N I (KLi_at t (k : Int))) = sV N I C t (k + 1) := by
  show afterV C (evalV N I C (sV N I C t k) (rowV N I (numI N I (KLi_at t (k : Int))))) = _
  rw [(numI_of (ft.2 k hk)).2]
  rfl
theorem run_idx (ft : FitT N I t) : ∀ k, k ≤ t.length → (∀ j, j < k → legalB P (vV N I C t j) = true) → run (sysN N I C P p) (firstV C) (idx N I t k) = some (sV N I C t k)
  | 0, _, _ => rfl
  | k + 1, hk, h => by
    rw [idx_succ]
    refine run_snoc.2 ⟨_, run_idx ft k (by omega) fun j hj => h j (by omega), (numI_of (ft.2 k (by omega))).1, ?_, ?_⟩
    · rw [L_at ft (by omega)]; exact h k (by omega)
    · rw [A_at ft (by omega)]
/-- What isn't found is hit by no trace. -/
theorem no_hit (ft : FitT N I t) {q : Nat} (h : Found (sysN N I C P (q : Int)) (none, l)) : (hitV N I C P t q).2 = false := by
  unfold hitV
  split
  · rfl
  · rw [hitS_no fun j hj h1 h2 => ?_]
    have hr := run_idx (p := (q : Int)) ft j (by omega) fun i hi => (h1 i hi).1
    have := h.no hr (numI_of (ft.2 j hj)).1 (by rw [L_at ft hj]; exact h2)
    rw [H_at ft hj] at this
    exact this
/-- What is found is ahead of all hits. -/
theorem hit_le (ft : FitT N I t) {q i k : Nat} {e : List Int × List Nat} (h : Found (sysN N I C P (q : Int)) (some (i, k), l)) (he : l[i]? = some e) {j : Nat} (hj : j < t.length) (h1 : ∀ i, i < j → legalB P (vV N I C t i) = true) (h2 : legalB P (vV N I C t j) = true) (h3 : hitB P q (vV N I C t j) = true) : tle (e.2 ++ [k]) (idx N I t (j + 1)) := by
  have hr := run_idx (p := (q : Int)) ft j (by omega) h1
  rw [idx_succ]
  exact h.hit he hr (numI_of (ft.2 j hj)).1 (by rw [L_at ft hj]; exact h2) (by rw [H_at ft hj]; exact h3)
theorem far_hit (ft : FitT N I t) (ht : t.length ≤ 64) {q i k : Nat} {e : List Int × List Nat} (h : Found (sysN N I C P (q : Int)) (some (i, k), l)) (he : l[i]? = some e) (hl : 64 ≤ e.2.length) : (hitV N I C P t q).2 = false := by
  unfold hitV
  split
  · rfl
  · rw [hitS_no fun j hj h1 h2 => ?_]
    cases h3 : hitB P q (vV N I C t j) with
    | false => rfl
    | true =>
      have := tle_len (hit_le ft h he hj (fun i hi => (h1 i hi).1) h2 h3)
      rw [idx_len] at this
      simp at this
      omega
end
end Go.Proofs.Ytieocmcjecpgpaa.Am
