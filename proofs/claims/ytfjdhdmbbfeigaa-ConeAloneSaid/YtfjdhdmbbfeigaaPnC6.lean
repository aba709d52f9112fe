/- Circuits' states. -/
import Derived.Test.YtfjdhdmbbfeigaaPnC5
namespace Go.Proofs.Ytfjdhdmbbfeigaa.Am
set_option linter.unusedVariables false
set_option linter.unusedSimpArgs false
theorem same_f {n : Nat} {x : List Bool} (hx : x.length ≤ 6000) (hn : 30000 < n) : ref08_Same n x x = some (true, ()) := by
  have h := iter_up (F := ref08_Same_l1b n x x) (fun j => ((j : Int), ())) (.inr ()) (len := x.length) (m := n)
    (fun self j hj => by
      unfold ref08_Same_l1b
      simp only [cond_dec]
      rw [if_pos (by omega), ask_of (by omega), ask_of (by omega), succ64 (by omega)]
      simp)
    (fun self => by
      unfold ref08_Same_l1b
      simp only [cond_dec]
      rw [if_neg (by omega)]) (by omega)
  unfold ref08_Same ref08_Same_l1
  simp only [cond_dec]
  rw [if_neg (by simp), show iter (ref08_Same_l1b n x x) n (0, ()) = _ from h]
  rfl
/-- Latches of cells that are there. -/
def LatOK (L : List Kiibii) (m : Nat) : Prop := L.length ≤ 256 ∧ ∀ j : Nat, j < L.length → 0 ≤ (Kiibii_at L (j : Int)).2.2.2.1 ∧ (Kiibii_at L (j : Int)).2.2.2.1 < m ∧ 0 ≤ (Kiibii_at L (j : Int)).2.2.2.2 ∧ (Kiibii_at L (j : Int)).2.2.2.2 < 16
def stB (L : List Kiibii) (x : List Int) (j : Nat) : Bool := bitB (Ki_at x (Kiibii_at L (j : Int)).2.2.2.1) (Kiibii_at L (j : Int)).2.2.2.2.toNat
def stL (L : List Kiibii) (x : List Int) : List Bool := (List.range L.length).map (stB L x)
section
variable {n : Nat} {ins : Int} {G : List Kii} {iL oL : List Kiii} {lL : List Kiibii}
end
section
variable {n : Nat} {N : List Nd} {I : List Pn} {C : List Cl} {P : List Pw} {Q : List Pn}
theorem latL_ok {B : Int → List Int} {nI : Nat} (r : RightP N I C P Q) : LatOK (latL N C B nI C.length) C.length := by
  have hll : (latL N C B nI C.length).length = wl N (celN C) := by rw [latL_len (Nat.le_refl _), List.take_of_length_le (by simp [celN])]
  have hcw := wl_cells r
  refine ⟨by omega, fun j hj => ?_⟩
  obtain ⟨c, k, h1, h2, rfl⟩ := latL_of (N := N) (C := C) (B := B) (nI := nI) (m := C.length) hj
  rw [(latL_at h1 h2).1]
  have h16 : wN N (Ksiii_at C (c : Int)).2.1 ≤ 16 := by
    obtain ⟨c0, c1, c2⟩ := cell_node r.cells h1
    have := (node_at r.nodes c0 c1).w16
    unfold wN; omega
  exact ⟨by simp only; omega, by simp only; omega, by simp only; omega, by simp only; omega⟩
theorem latL_st {B : Int → List Int} {nI : Nat} {x : List Int} {t : Nat} {j k : Nat} (h1 : j < C.length) (h2 : k < wN N (Ksiii_at C (j : Int)).2.1) (ht : t = (latL N C B nI j).length + k) : stB (latL N C B nI C.length) x t = bitB (Ki_at x (j : Int)) k := by
  subst ht
  unfold stB
  rw [(latL_at h1 h2).1]
  simp
theorem first_st {B : Int → List Int} {nI : Nat} : (List.range (latL N C B nI C.length).length).map (fun j : Nat => (Kiibii_at (latL N C B nI C.length) (j : Int)).2.2.1) = stL (latL N C B nI C.length) (firstV C) := by
  unfold stL
  refine List.map_congr_left fun t ht => ?_
  obtain ⟨j, k, h1, h2, ht2⟩ := latL_of (N := N) (C := C) (B := B) (nI := nI) (m := C.length) (List.mem_range.1 ht)
  rw [latL_st h1 h2 ht2]
  subst ht2
  rw [(latL_at h1 h2).1]
  have e : Ki_at (firstV C) (j : Int) = (Ksiii_at C (j : Int)).2.2.2 := at_range (t := i_) h1
  rw [e]
end
end Go.Proofs.Ytfjdhdmbbfeigaa.Am
