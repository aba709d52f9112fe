/- Right graphs, and what the laws make of them. -/
import Derived.Test.YtfjdhdmbbfeigaaPnGr
import Derived.Test.YtfjdhdmbbfeigaaAmY
namespace Go.Proofs.Ytfjdhdmbbfeigaa.Am
set_option linter.unusedVariables false
set_option linter.unusedSimpArgs false
theorem get_put {l : List (Kii × Bool)} {k x : Kii} {v : Bool} : Mii_b_get (Mii_b_put l k v) x false = if x = k then v else Mii_b_get l x false := by
  have eqk : ∀ a b : Kii, eqD Kii_ a b = true ↔ a = b := fun a b => by
    obtain ⟨a1, a2⟩ := a
    obtain ⟨b1, b2⟩ := b
    simp [eqD]
  unfold Mii_b_get Mii_b_put
  induction l with
  | nil =>
    unfold mput mget mget
    by_cases h : x = k
    · rw [(eqk x k).2 h, if_pos h]
    · rw [Bool.eq_false_iff.2 fun q => h ((eqk x k).1 q), if_neg h]
  | cons p l ih =>
    unfold mput
    cases c : eqD Kii_ k p.1 with
    | true =>
      have c := (eqk k p.1).1 c
      unfold mget
      by_cases h : x = k
      · rw [(eqk x k).2 h, if_pos h]
      · have h2 : eqD Kii_ x p.1 = false := Bool.eq_false_iff.2 fun q => h (((eqk x p.1).1 q).trans c.symm)
        simp only
        rw [Bool.eq_false_iff.2 fun q => h ((eqk x k).1 q), if_neg h, h2]
    | false =>
      have c : k ≠ p.1 := fun q => by rw [(eqk k p.1).2 q] at c; cases c
      simp only
      unfold mget
      cases h : eqD Kii_ x p.1 with
      | true =>
        have h := (eqk x p.1).1 h
        rw [if_neg fun q => c (q.symm.trans h)]
      | false => exact ih
/-- The pairs met so far. -/
def met (g : List Kii) : Nat → List (Kii × Bool)
  | 0 => []
  | j + 1 => Mii_b_put (met g j) (Kii_at g (j : Int)) true
theorem met_get {g : List Kii} {x : Kii} : ∀ j, (∀ i : Nat, i < j → Kii_at g (i : Int) ≠ x) → Mii_b_get (met g j) x false = false
  | 0, _ => rfl
  | j + 1, h => by
    rw [met, get_put, if_neg (Ne.symm (h j (by omega)))]
    exact met_get j fun i hi => h i (by omega)
theorem aigRight_f {n : Nat} {ins : Int} {g : List Kii} (r : RG ins g) (hn : 30000 < n) : aig_Right n ins g = some (true, ()) := by
  have i0 := r.i0
  have i1 := r.i1
  have hl := r.len
  have l1 := iter_up (F := aig_Right_l1b n ins g) (fun j => ((j : Int), met g j, ())) (.inr ()) (len := g.length) (m := n)
    (fun self j hj => by
      obtain ⟨a1, a2, a3, a4⟩ := r.a j hj
      have hm := met_get (g := g) (x := Kii_at g (j : Int)) j fun i hi => r.nd i j hi hj
      rw [met]
      generalize met g j = M at *
      obtain ⟨a, b, hx⟩ : ∃ a b, Kii_at g (j : Int) = (a, b) := ⟨_, _, rfl⟩
      rw [hx] at a1 a2 a3 a4 hm ⊢
      simp only at a1 a2 a3 a4
      have nt : turn a ≠ b := by unfold turn; split <;> omega
      unfold aig_Right_l1b
      simp only [cond_dec, hx]
      rw [if_pos (by omega), ask_of (by omega), ask_of (by omega), ask_of (by omega), of_f, bindS, show min a b = a by omega, show max a b = b by omega]
      simp only
      rw [plain_f (by omega) (by omega), bindS]
      simp only [if_neg (show ¬ a = 0 by omega), if_neg nt, if_neg (show ¬ (a = 1 ∨ a = b) by omega), cond_false]
      have sh : shrI .i64 b 1 = b / 2 := shr_p2 (by omega)
      simp only [beq_self_eq_true, Bool.and_self, Bool.not_true, cond_false, hm, sh]
      rw [ask_of (by omega), if_neg (by omega), ask_of (by omega), ask_of (by omega), wrap_small (x := ins + (j : Int)) (by omega) (by omega), if_neg (by omega), ask_of trivial, succ64 (by omega)])
    (fun self => by
      unfold aig_Right_l1b
      simp only [cond_dec]
      rw [if_neg (by omega)]) (by omega)
  unfold aig_Right
  simp only [cond_dec]
  rw [if_neg (by omega), if_neg (by omega), wrap_def, if_neg (by omega), show aig_Right_l1 n ins g (0, [], ()) = _ from l1]
  rfl
end Go.Proofs.Ytfjdhdmbbfeigaa.Am
