/- A net's circuit: its inputs, and how its bits are numbered. -/
import Derived.Test.YtfjdhdmbbfeigaaPnC0
namespace Go.Proofs.Ytfjdhdmbbfeigaa.Am
set_option linter.unusedVariables false
set_option linter.unusedSimpArgs false
/-- How wide a node is. -/
def wN (N : List Nd) (x : Int) : Nat := (Kiiiiiii_at N x).2.1.toNat
/-- The bits of some nodes, in all. -/
def wl (N : List Nd) : List Int → Nat
  | [] => 0
  | x :: r => wN N x + wl N r
theorem wl_app (N : List Nd) : ∀ (l m : List Int), wl N (l ++ m) = wl N l + wl N m
  | [], m => by simp [wl]
  | x :: r, m => by rw [List.cons_append, wl, wl, wl_app N r m]; omega
theorem wl_take {N : List Nd} {l : List Int} {j : Nat} (h : j < l.length) : wl N (l.take (j + 1)) = wl N (l.take j) + wN N (Ki_at l (j : Int)) := by
  rw [take_at (t := i_) h, wl_app]; simp [wl]; rfl
theorem wl_le {N : List Nd} {l : List Int} (h : ∀ x ∈ l, wN N x ≤ 16) : wl N l ≤ 16 * l.length := by
  induction l with
  | nil => simp [wl]
  | cons x r ih =>
    have h1 := h x (by simp)
    have h2 := ih fun y hy => h y (by simp [hy])
    simp only [wl, List.length_cons]
    omega
def pinN (I : List Pn) : List Int := I.map (·.2)
def celN (C : List Cl) : List Int := C.map (·.2.1)
theorem pinN_at {I : List Pn} {j : Nat} (h : j < I.length) : Ki_at (pinN I) (j : Int) = (Ksi_at I (j : Int)).2 := by
  show at_ i_ (I.map (·.2)) _ = (at_ Ksi_ I _).2
  rw [at_nat (t := i_) (by simpa using h), at_nat (t := Ksi_) h]; simp
theorem celN_at {C : List Cl} {j : Nat} (h : j < C.length) : Ki_at (celN C) (j : Int) = (Ksiii_at C (j : Int)).2.1 := by
  show at_ i_ (C.map (·.2.1)) _ = (at_ Ksiii_ C _).2.1
  rw [at_nat (t := i_) (by simpa using h), at_nat (t := Ksiii_) h]; simp
/-- The inputs' bits, in their order. -/
def pinL (N : List Nd) (I : List Pn) : Nat → List Kiii
  | 0 => []
  | j + 1 => pinL N I j ++ (List.range (wN N (Ksi_at I (j : Int)).2)).map fun k => ((((pinL N I j).length + k + 1 : Nat) : Int), ((j : Int), (k : Int)))
theorem pinL_len {N : List Nd} {I : List Pn} : ∀ {j : Nat}, j ≤ I.length → (pinL N I j).length = wl N ((pinN I).take j)
  | 0, _ => by simp [pinL, wl]
  | j + 1, h => by
    rw [pinL, List.length_append, pinL_len (by omega), wl_take (l := pinN I) (by simp [pinN]; omega), pinN_at (by omega)]
    simp
def varB (first w : Nat) : List Int := (List.range w).map fun k => ((2 * (first + k) : Nat) : Int)
section
variable {n : Nat} {N : List Nd} {I : List Pn} {C : List Cl} {P : List Pw} {Q : List Pn}
/-- Nodes that are there. -/
def There (N : List Nd) (l : List Int) : Prop := l.length ≤ 1000 ∧ ∀ x ∈ l, 0 ≤ x ∧ x < N.length ∧ 0 ≤ (Kiiiiiii_at N x).2.1 ∧ (Kiiiiiii_at N x).2.1 ≤ 16
theorem There.at {l : List Int} (h : There N l) {j : Nat} (hj : j < l.length) : 0 ≤ Ki_at l (j : Int) ∧ Ki_at l (j : Int) < N.length ∧ 0 ≤ (Kiiiiiii_at N (Ki_at l (j : Int))).2.1 ∧ (Kiiiiiii_at N (Ki_at l (j : Int))).2.1 ≤ 16 := h.2 _ (at_mem (t := i_) hj)
theorem There.w {l : List Int} (h : There N l) (j : Nat) : wl N (l.take j) ≤ 16000 := by
  have h1 := wl_le (N := N) (l := l.take j) fun x hx => by
    have := h.2 x (List.mem_of_mem_take hx)
    unfold wN; omega
  have := h.1
  simp at h1
  omega
end
theorem li_get {M : List (Int × List Int)} {k x : Int} {v : List Int} : Mi_Li_get (Mi_Li_put M k v) x [] = if x = k then v else Mi_Li_get M x [] := by
  have eqk : ∀ a b : Int, eqD i_ a b = true ↔ a = b := fun a b => by simp [eqD]
  unfold Mi_Li_get Mi_Li_put
  induction M with
  | nil =>
    unfold mput mget mget
    by_cases h : x = k
    · rw [(eqk x k).2 h, if_pos h]
    · rw [Bool.eq_false_iff.2 fun q => h ((eqk x k).1 q), if_neg h]
  | cons p l ih =>
    unfold mput
    cases c : eqD i_ k p.1 with
    | true =>
      have c := (eqk k p.1).1 c
      unfold mget
      by_cases h : x = k
      · rw [(eqk x k).2 h, if_pos h]
      · have h2 : eqD i_ x p.1 = false := Bool.eq_false_iff.2 fun q => h (((eqk x p.1).1 q).trans c.symm)
        simp only
        rw [Bool.eq_false_iff.2 fun q => h ((eqk x k).1 q), if_neg h, h2]
    | false =>
      have c : k ≠ p.1 := fun q => by rw [(eqk k p.1).2 q] at c; cases c
      simp only
      unfold mget
      cases h : eqD i_ x p.1 with
      | true =>
        have h := (eqk x p.1).1 h
        rw [if_neg fun q => c (q.symm.trans h)]
      | false => exact ih
theorem li_has {M : List (Int × List Int)} {k x : Int} {v : List Int} : Mi_Li_has (Mi_Li_put M k v) x = true ↔ x = k ∨ Mi_Li_has M x = true := by
  have eqk : ∀ a b : Int, eqD i_ a b = true ↔ a = b := fun a b => by simp [eqD]
  unfold Mi_Li_has Mi_Li_put
  induction M with
  | nil => unfold mput mhas mhas; simp [eqk, mhas]
  | cons p l ih =>
    unfold mput
    cases c : eqD i_ k p.1 with
    | true =>
      have c := (eqk k p.1).1 c
      simp only [mhas, Bool.or_eq_true, eqk]
      rw [← c]
      constructor
      · rintro (h | h)
        · exact .inl h
        · exact .inr (.inr h)
      · rintro (h | h | h)
        · exact .inl h
        · exact .inl h
        · exact .inr h
    | false =>
      simp only [mhas, Bool.or_eq_true, eqk]
      refine Iff.trans (or_congr Iff.rfl ih) ?_
      constructor
      · rintro (h | h | h)
        · exact .inr (.inl h)
        · exact .inl h
        · exact .inr (.inr h)
      · rintro (h | h | h)
        · exact .inr (.inl h)
        · exact .inl h
        · exact .inr (.inr h)
section
variable {n : Nat} {N : List Nd} {I : List Pn} {C : List Cl} {P : List Pw} {Q : List Pn}
/-- Variables for the bits of these nodes, one behind the other. -/
def VarsOK (N : List Nd) (LL : List Int) (M : List (Int × List Int)) (j : Nat) : Prop := (∀ i : Nat, i < j → Mi_Li_get M (Ki_at LL (i : Int)) [] = varB (1 + wl N (LL.take i)) (wN N (Ki_at LL (i : Int)))) ∧ ∀ x, Mi_Li_has M x = true ↔ x ∈ LL.take j
end
end Go.Proofs.Ytfjdhdmbbfeigaa.Am
