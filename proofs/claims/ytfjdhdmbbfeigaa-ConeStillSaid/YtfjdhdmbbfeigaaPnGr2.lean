/- Right graphs, and what the laws make of them. -/
import Derived.Test.YtfjdhdmbbfeigaaPnGr
import Derived.Test.YtfjdhdmbbfeigaaAmY
namespace Go.Proofs.Ytfjdhdmbbfeigaa.Am
set_option linter.unusedVariables false
set_option linter.unusedSimpArgs false
theorem get_put {l : List (Kii × Bool)} {k x : Kii} {v : Bool} : Mii_b_get (Mii_b_put l k v) x false = if x = k then v else Mii_b_get l x false := by
  have eqk : ∀ a b : Kii, eqD Kii_ a b = true ↔ a = b := fun a b => by
    obtain ⟨a1, a2⟩ := a
    obtain ⟨b1, b2⟩ := b
    simp [eqD]
  unfold Mii_b_get Mii_b_put
  induction l with
  | nil =>
    unfold mput mget mget
    by_cases h : x = k
    · rw [(eqk x k).2 h, if_pos h]
    · rw [Bool.eq_false_iff.2 fun q => h ((eqk x k).1 q), if_neg h]
  | cons p l ih =>
    unfold mput
    cases c : eqD Kii_ k p.1 with
    | true =>
      have c := (eqk k p.1).1 c
      unfold mget
      by_cases h : x = k
      · rw [(eqk x k).2 h, if_pos h]
      · have h2 : eqD Kii_ x p.1 = false := Bool.eq_false_iff.2 fun q => h (((eqk x p.1).1 q).trans c.symm)
        simp only
        rw [Bool.eq_false_iff.2 fun q => h ((eqk x k).1 q), if_neg h, h2]
    | false =>
      have c : k ≠ p.1 := fun q => by rw [(eqk k p.1).2 q] at c; cases c
      simp only
      unfold mget
      cases h : eqD Kii_ x p.1 with
      | true =>
        have h := (eqk x p.1).1 h
        rw [if_neg fun q => c (q.symm.trans h)]
      | false => exact ih
/-- The pairs met so far. -/
def met (g : List Kii) : Nat → List (Kii × Bool)
  | 0 => []
  | j + 1 => Mii_b_put (met g j) (Kii_at g (j : Int)) true
theorem met_get {g : List Kii} {x : Kii} : ∀ j, (∀ i : Nat, i < j → Kii_at g (i : Int) ≠ x) → Mii_b_get (met g j) x false = false
  | 0, _ => rfl
  | j + 1, h => by
    rw [met, get_put, if_neg (Ne.symm (h j (by omega)))]
    exact met_get j fun i hi => h i (by omega)
end Go.Proofs.Ytfjdhdmbbfeigaa.Am
