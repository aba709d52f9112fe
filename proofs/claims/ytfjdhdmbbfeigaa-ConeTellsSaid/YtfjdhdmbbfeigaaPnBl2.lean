/- What the maker of bits makes. -/
import Derived.Test.YtfjdhdmbbfeigaaPnBl
namespace Go.Proofs.Ytfjdhdmbbfeigaa.Am
set_option linter.unusedVariables false
set_option linter.unusedSimpArgs false
abbrev MTail := Int × Int × Int × Int × Int × Int × Int × List Int × List Int × List Int × Unit
/-- What a step of the maker comes to: so many ands more, what was made, and all else as it was. -/
def MS {Y : Type} (k : Nat) (ins : Int) (g : List Kii) (τ : MTail) (R : Option (Y × Int × List Kii × MTail)) (P : List Kii → Y → Prop) : Prop := ∃ t y, R = some (y, ins, g ++ t, τ) ∧ t.length ≤ k ∧ RG ins (g ++ t) ∧ P (g ++ t) y
/-- A literal that means as told. -/
def LP (ins : Int) (φ : List Bool → Bool) (G : List Kii) (y : Int) : Prop := LitG ins G y ∧ ∀ V, Mod ins G V → lv V y = φ V
/-- Bits that mean as told. -/
def BP (ins : Int) (w : Nat) (ψ : List Bool → List Bool) (G : List Kii) (l : List Int) : Prop := l.length = w ∧ Lits ins G l ∧ ∀ V, Mod ins G V → bv V l = ψ V
/-- Bits whose number is as told. -/
def NP (ins : Int) (w : Nat) (N : List Bool → Nat) (G : List Kii) (l : List Int) : Prop := l.length = w ∧ Lits ins G l ∧ ∀ V, Mod ins G V → nb (bv V l) = N V
section
variable {n : Nat} {ins : Int} {g : List Kii} {o w p q s u lo a b c : Int} {A B C : List Int}
end
end Go.Proofs.Ytfjdhdmbbfeigaa.Am
