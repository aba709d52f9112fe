/- What the document's maker of bits makes: graphs stay right, and grow by so much. -/
import Derived.Test.YtfjdhdmbbfeigaaPnC6
namespace Go.Proofs.Ytfjdhdmbbfeigaa.Am
set_option linter.unusedVariables false
set_option linter.unusedSimpArgs false
def GX (k : Nat) (ins : Int) (g : List Kii) (R : Option (Int × List Kii × Int × Unit)) : Prop := ∃ t x, R = some (ins, g ++ t, x, ()) ∧ t.length ≤ k ∧ RG ins (g ++ t) ∧ LitG ins (g ++ t) x
def GL (k W : Nat) (ins : Int) (g : List Kii) (R : Option (Int × List Kii × List Int × Unit)) : Prop := ∃ t l, R = some (ins, g ++ t, l, ()) ∧ t.length ≤ k ∧ RG ins (g ++ t) ∧ l.length = W ∧ Lits ins (g ++ t) l
theorem StepG.gx {k : Nat} {ins : Int} {g : List Kii} {R : Option (Int × List Kii × Int × Unit)} {φ : List Bool → Bool} (h : StepG k ins g R φ) : GX k ins g R := by
  obtain ⟨t, x, e, ht, hr, hx, -⟩ := h
  exact ⟨t, x, e, ht, hr, hx⟩
theorem GL.le {k k' W : Nat} {ins : Int} {g : List Kii} {R : Option (Int × List Kii × List Int × Unit)} (h : GL k W ins g R) (hk : k ≤ k') : GL k' W ins g R := by
  obtain ⟨t, x, e, ht, rest⟩ := h
  exact ⟨t, x, e, by omega, rest⟩
section
variable {n : Nat} {ins : Int} {g : List Kii} {c : Int} {a b : List Int}
theorem lit01 (r : RG ins g) {x : Int} (h : x = 0 ∨ x = 1) : LitG ins g x := by
  have := r.i0
  rcases h with rfl | rfl <;> simp [LitG] <;> omega
theorem one_l {t : List Kii} {x : Int} (h : LitG ins t x) : Lits ins t [x] := fun y hy => by rw [List.mem_singleton.1 hy]; exact h
theorem turned_l {l : List Int} (r : RG ins g) (h : Lits ins g l) : Lits ins g (l.map turn) := turn_lits r h
end
end Go.Proofs.Ytfjdhdmbbfeigaa.Am
