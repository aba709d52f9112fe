/- Slimmed by this session: what nothing names is struck out. -/
import Derived.Test.YteblbknmikieoaaP9Eval
namespace Go.Proofs.Yteblbknmikieoaa.P9
open Go.RowKit Go.Proofs.YteblbknmikieoaaW.PrintWords Go.Proofs.YteblbknmikieoaaW.PrintMore Go.Proofs.Yteblbknmikieoaa.PBits Go.Proofs.Yteblbknmikieoaa.PVec Go.Proofs.Yteblbknmikieoaa.Xb
set_option linter.unusedVariables false
set_option linter.unusedSimpArgs false
theorem nd_app {N : List Nd} {y : Nd} {a : Int} (h0 : 0 ≤ a) (h : a < N.length) : nd (N ++ [y]) a = nd N a := by
  unfold nd rd_T41
  simp only [List.getD_eq_getElem?_getD, List.getElem?_append_left (show a.toNat < N.length by omega)]
theorem nd_last {N : List Nd} {y : Nd} : nd (N ++ [y]) (N.length : Int) = y := by
  unfold nd rd_T41
  simp [List.getD_eq_getElem?_getD]
theorem wid_app {N : List Nd} {y : Nd} {a b : Int} (h : b ≤ N.length) : wid (N ++ [y]) a b = wid N a b := by
  unfold wid
  split
  · rfl
  · rw [nd_app (by omega) (by omega)]
theorem frm_app {N : List Nd} {y : Nd} {op : Int} : ∀ d i, i + d ≤ N.length → frm (N ++ [y]) op i d = frm N op i d
  | 0, _, _ => rfl
  | d + 1, i, h => by
    rw [frm, frm, nd_app (by omega) (by omega), frm_app d (i + 1) (by omega)]
theorem frm_snoc {N : List Nd} {op : Int} : ∀ d i, frm N op i (d + 1) = frm N op i d ++ (if (nd N ((i + d : Nat) : Int)).f0 = op then [((i + d : Nat) : Int)] else [])
  | 0, i => by
    simp only [frm, Nat.add_zero, List.nil_append]
  | d + 1, i => by
    rw [frm, frm_snoc d (i + 1), frm]
    have e : i + 1 + d = i + (d + 1) := by omega
    rw [e]
    split <;> rfl
theorem node_app {N : List Nd} {y : Nd} {j : Nat} (h : NodeP N j) (hj : j < N.length) : NodeP (N ++ [y]) j := by
  have e : nd (N ++ [y]) (j : Int) = nd N (j : Int) := nd_app (by omega) (by omega)
  refine ⟨?_, ?_, ?_, ?_, ?_, ?_, ?_⟩ <;> rw [e]
  · exact h.w1
  · exact h.w16
  · exact h.op
  · exact h.a0
  · exact h.b0
  · exact h.c0
  · rw [wid_app (by omega), wid_app (by omega), wid_app (by omega)]
    exact h.fit
theorem rd_left {v : List Int} {x : Int} {a : Int} (h0 : 0 ≤ a) (h : a < v.length) : rd (v ++ [x]) a = rd v a := by
  unfold rd
  simp only [List.getD_eq_getElem?_getD, List.getElem?_append_left (show a.toNat < v.length by omega)]
theorem set_left {v : List Int} {x z : Int} {i : Nat} (h : i < v.length) : (v ++ [x]).set i z = v.set i z ++ [x] := by
  rw [List.set_append_left _ _ h]
theorem setS_app {l ps xs : List Int} {x : Int} (h : ∀ p ∈ ps, 0 ≤ p ∧ p < l.length) : ∀ i, i ≤ ps.length → setS (l ++ [x]) ps xs i = setS l ps xs i ++ [x]
  | 0, _ => rfl
  | i + 1, hi => by
    have hp := h _ (rd_mem (l := ps) (j := i) (by omega))
    rw [setS, setS_app h i (by omega), setS, set_left (by rw [setS_len]; omega)]
theorem rep_succ (n : Nat) : List.replicate (n + 1) (0 : Int) = List.replicate n 0 ++ [0] := List.replicate_succ'
theorem frm_one {N : List Nd} {y : Nd} {op : Int} (h : y.f0 ≠ op) : frm (N ++ [y]) op 0 (N ++ [y]).length = frm N op 0 N.length := by
  have e : (N ++ [y]).length = N.length + 1 := by simp
  rw [e, frm_snoc, frm_app _ _ (by omega), Nat.zero_add, nd_last, if_neg h, List.append_nil]
theorem stV_app {N : List Nd} {y : Nd} {st ins : List Int} (h1 : y.f0 ≠ 21) (h2 : y.f0 ≠ 22) : stV (N ++ [y]) st ins = stV N st ins ++ [0] := by
  have e : (N ++ [y]).length = N.length + 1 := by simp
  have m : ∀ op, ∀ p ∈ frm N op 0 N.length, 0 ≤ p ∧ p < (N.length : Int) := fun op p hp => by
    obtain ⟨q0, q1, -⟩ := frm_mem _ _ _ hp
    omega
  unfold stV insV
  rw [frm_one h1, frm_one h2, e, rep_succ, setS_app (by simpa using m 21) _ (Nat.le_refl _), setS_app (by rw [setS_len, List.length_replicate]; exact m 22) _ (Nat.le_refl _)]
theorem doV_app {N : List Nd} {y : Nd} {v : List Int} {x : Int} (hv : v.length = N.length) {i : Nat} (hi : i < N.length) (h : NodeP N i) : doV (N ++ [y]) (v ++ [x]) (nd N (i : Int)) = doV N v (nd N (i : Int)) := by
  obtain ⟨⟨a0, a1⟩, ⟨b0, b1⟩, ⟨c0, c1⟩⟩ := opnds hi h
  unfold doV
  rw [rd_left a0 (by omega), rd_left b0 (by omega), rd_left c0 (by omega), nd_app b0 b1]
theorem evN_app {N : List Nd} {y : Nd} {l : List Int} {x : Int} (hl : l.length = N.length) (hall : ∀ j : Nat, j < N.length → NodeP N j) : ∀ i, i ≤ N.length → evN (N ++ [y]) (l ++ [x]) i = evN N l i ++ [x]
  | 0, _ => rfl
  | i + 1, hi => by
    rw [evN, evN, nd_app (by omega) (by omega), evN_app hl hall i (by omega)]
    split
    · rfl
    · rw [doV_app (by rw [evN_len]; exact hl) (by omega) (hall i (by omega)), set_left (by rw [evN_len]; omega)]
theorem evalV_app {N : List Nd} {y : Nd} {st ins : List Int} (hall : ∀ j : Nat, j < N.length → NodeP N j) (h1 : y.f0 ≠ 21) (h2 : y.f0 ≠ 22) : evalV (N ++ [y]) st ins = evalV N st ins ++ [doV (N ++ [y]) (evalV N st ins ++ [0]) y] := by
  have e : (N ++ [y]).length = N.length + 1 := by simp
  have hl : (stV N st ins).length = N.length := by unfold stV insV; rw [setS_len, setS_len, List.length_replicate]
  have hv := evalV_len N st ins
  unfold evalV
  rw [e, evN, stV_app h1 h2, evN_app hl hall _ (Nat.le_refl _), nd_last, if_neg (by omega)]
  have hv' : (evN N (stV N st ins) N.length).length = N.length := hv
  generalize evN N (stV N st ins) N.length = v at *
  rw [← hv', List.set_append_right _ _ (Nat.le_refl _), Nat.sub_self]
  rfl
theorem cellP_app {N : List Nd} {y : Nd} {c : Cl} (h : CellP N c) (h0 : 0 ≤ c.f1) (h1 : c.f1 < N.length) (h2 : 0 ≤ c.f2) (h3 : c.f2 < N.length) : CellP (N ++ [y]) c := by
  obtain ⟨q1, q2, q3⟩ := h
  have e : (N ++ [y]).length = N.length + 1 := by simp
  refine ⟨?_, q2, by rw [nd_app h0 h1]; exact q3⟩
  rw [nd_app h0 h1, ← q1]
  unfold wid
  rw [if_neg (by omega), if_neg (by omega), nd_app h2 h3]
theorem cell_in {N I C P Q} (r : RightP N I C P Q) {c : Cl} (hc : c ∈ C) : CellP N c ∧ 0 ≤ c.f1 ∧ c.f1 < N.length ∧ 0 ≤ c.f2 ∧ c.f2 < N.length := by
  obtain ⟨j, hj, rfl⟩ := List.getElem_of_mem hc
  have := next_pos r hj
  have e : cl C (j : Int) = C[j] := by
    unfold cl rd_T43
    simp [List.getD_eq_getElem?_getD, hj]
  rw [e] at this
  exact ⟨this.2.2.2.1, this.2.2.2.2.1, this.2.2.2.2.2.1, this.1, this.2.1⟩
theorem wsum_congr {N M : List Nd} {C D : List Cl} (h : C.map (fun c => (nd N c.f1).f1) = D.map (fun c => (nd M c.f1).f1)) : wsum N C = wsum M D := by
  unfold wsum
  rw [h]
theorem right_app {N I C P Q} {y : Nd} {D : List Cl} {P2' : List Pp} {Q2 : List Pn} (r : RightP N I C P Q) (hn : N.length < 4000) (hy : NodeP (N ++ [y]) N.length) (h1 : y.f0 ≠ 21) (h2 : y.f0 ≠ 22) (hD : D.map (·.f1) = C.map (·.f1)) (hc : ∀ d ∈ D, CellP (N ++ [y]) d) (hP : ∀ p ∈ P2', p ∈ P) (hQ : ∀ q ∈ Q2, q ∈ Q) (lP : P2'.length ≤ 16) : RightP (N ++ [y]) I D P2' Q2 := by
  have e : (N ++ [y]).length = N.length + 1 := by simp
  have lD : D.length = C.length := by have := congrArg List.length hD; simpa using this
  have rn := r.nodes
  have wl : ∀ a : Int, wid N a N.length ≠ 0 → wid (N ++ [y]) a (N ++ [y]).length = wid N a N.length := fun a ha => by
    unfold wid at ha ⊢
    split at ha
    · omega
    · rw [if_neg (by omega), if_neg (by omega), nd_app (by omega) (by omega)]
  refine ⟨by omega, r.i, by have := r.c; omega, lP, ?_, ?_, ?_, hc, ?_, ?_, ?_⟩
  · intro j hj
    rcases Nat.lt_or_ge j N.length with q | q
    · exact node_app (rn j q) q
    · obtain rfl : j = N.length := by omega
      exact hy
  · rw [frm_one h1]
    exact r.ins
  · rw [frm_one h2, hD]
    exact r.cells
  · intro p hp
    obtain ⟨q0, q1, q2⟩ := r.prop p (hP p hp)
    exact ⟨q0, q1, by rw [wl _ (by omega)]; exact q2⟩
  · intro q hq
    have := r.name q (hQ q hq)
    rw [wl _ this]
    exact this
  · have : wsum (N ++ [y]) D = wsum N C := by
      refine wsum_congr ?_
      have e1 : ∀ (X : List Cl) (M : List Nd), X.map (fun c => (nd M c.f1).f1) = (X.map (·.f1)).map (fun a => (nd M a).f1) := fun X M => by rw [List.map_map]; rfl
      rw [e1, e1, hD]
      refine List.map_congr_left fun a ha => ?_
      rw [r.cells] at ha
      obtain ⟨q0, q1, -⟩ := frm_mem _ _ _ ha
      rw [nd_app (by omega) (by omega)]
    rw [this]
    exact r.bits
theorem fillS_congr {l : List Int} {g h : Nat → Int} : ∀ i, (∀ j, j < i → g j = h j) → fillS l g i = fillS l h i
  | 0, _ => rfl
  | i + 1, q => by rw [fillS, fillS, fillS_congr i (fun j hj => q j (by omega)), q i (by omega)]
end Go.Proofs.Yteblbknmikieoaa.P9
