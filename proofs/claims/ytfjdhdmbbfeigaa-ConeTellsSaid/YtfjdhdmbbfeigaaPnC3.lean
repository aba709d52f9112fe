/- A net's circuit, whole; it is right. -/
import Derived.Test.YtfjdhdmbbfeigaaPnC2
namespace Go.Proofs.Ytfjdhdmbbfeigaa.Am
set_option linter.unusedVariables false
set_option linter.unusedSimpArgs false
/-- A bit of a number. -/
def bitB (x : Int) (k : Nat) : Bool := decide (bits .and .i64 (shrI .i64 x (k : Int)) 1 = 1)
/-- Latches, in their order. -/
def latL (N : List Nd) (C : List Cl) (B : Int → List Int) (nI : Nat) : Nat → List Kiibii
  | 0 => []
  | j + 1 => latL N C B nI j ++ (List.range (wN N (Ksiii_at C (j : Int)).2.1)).map fun k => (((nI + (latL N C B nI j).length + k + 1 : Nat) : Int), Ki_at (B (Ksiii_at C (j : Int)).2.2.1) (k : Int), bitB (Ksiii_at C (j : Int)).2.2.2 k, (j : Int), (k : Int))
theorem latL_len {N : List Nd} {C : List Cl} {B : Int → List Int} {nI : Nat} : ∀ {j : Nat}, j ≤ C.length → (latL N C B nI j).length = wl N ((celN C).take j)
  | 0, _ => by simp [latL, wl]
  | j + 1, h => by
    rw [latL, List.length_append, latL_len (by omega), wl_take (l := celN C) (by simp [celN]; omega), celN_at (by omega)]
    simp
def outL (P : List Pw) (B : Int → List Int) : List Kiii := (List.range P.length).map fun i : Nat => ((Kisi_at P (i : Int)).1, Ki_at (B (Kisi_at P (i : Int)).2.2) 0, (i : Int))
section
variable {n : Nat} {N : List Nd} {I : List Pn} {C : List Cl} {P : List Pw} {Q : List Pn}
end
end Go.Proofs.Ytfjdhdmbbfeigaa.Am
