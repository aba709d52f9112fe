/- Sums, orders, choices, products. -/
import Derived.Test.YtfjdhdmbbfeigaaPnBl2
namespace Go.Proofs.Ytfjdhdmbbfeigaa.Am
set_option linter.unusedVariables false
set_option linter.unusedSimpArgs false
theorem nb_step (l : List Bool) (b : Bool) {P : Nat} (h : 2 ^ l.length = P) : nb (l ++ [b]) = nb l + P * b.toNat := by rw [nb_snoc, h]
theorem full_add (a b c : Bool) : (((a != b) != c).toNat) + 2 * (bif (a != b) then c else a).toNat = a.toNat + b.toNat + c.toNat := by cases a <;> cases b <;> cases c <;> rfl
section
variable {n : Nat} {ins : Int} {g : List Kii} {o w p q s u lo c : Int} {A B C a b : List Int}
/-- The order of two numbers, with one bit more. -/
theorem ord_step {x y P : Nat} (a b z : Bool) (hx : x < P) (hy : y < P) : (bif (a != b) then b else (if x < y then true else if y < x then false else z)) = (if x + P * a.toNat < y + P * b.toNat then true else if y + P * b.toNat < x + P * a.toNat then false else z) := by
  cases a <;> cases b <;> simp <;> (try omega) <;> (repeat' split) <;> (try omega) <;> rfl
end
end Go.Proofs.Ytfjdhdmbbfeigaa.Am
