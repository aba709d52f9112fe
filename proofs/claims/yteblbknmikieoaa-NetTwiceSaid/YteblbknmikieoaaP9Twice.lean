/- Slimmed by this session: what nothing names is struck out. -/
import Derived.Test.YteblbknmikieoaaP9App
namespace Go.Proofs.Yteblbknmikieoaa.P9
open Go.RowKit Go.Proofs.YteblbknmikieoaaW.PrintWords Go.Proofs.YteblbknmikieoaaW.PrintMore Go.Proofs.Yteblbknmikieoaa.PBits Go.Proofs.Yteblbknmikieoaa.PVec Go.Proofs.Yteblbknmikieoaa.Xb
set_option linter.unusedVariables false
set_option linter.unusedSimpArgs false
theorem fit_mono {x : Nd} {a b c a' b' c' : Int} (h : FitP x a b c) (w1 : 1 ≤ x.f1) (ha : 0 < a → a' = a) (hb : 0 < b → b' = b) (hc : 0 < c → c' = c) : FitP x a' b' c' := by
  unfold FitP at h ⊢
  rcases h with ⟨o, f1, f2, f3⟩ | ⟨o, f1, f2⟩ | ⟨o, f1, f2, f3⟩ | ⟨o, f1, f2, f3, f4⟩ | ⟨o, f1, f2, f3, f4⟩ | ⟨o, f1, f2, f3, f4, f5⟩ | ⟨o, f1, f2, f3, f4, f5⟩ | ⟨o, f1, f2, f3, f4, f5⟩ | ⟨o, f1, f2, f3, f4⟩
  · exact Or.inl ⟨o, f1, f2, f3⟩
  · exact Or.inr (Or.inl ⟨o, f1, f2⟩)
  · exact Or.inr (Or.inr (Or.inl ⟨o, f1, f2, by omega⟩))
  · exact Or.inr (Or.inr (Or.inr (Or.inl ⟨o, f1, f2, by omega, by omega⟩)))
  · exact Or.inr (Or.inr (Or.inr (Or.inr (Or.inl ⟨o, f1, f2, by omega, by omega⟩))))
  · exact Or.inr (Or.inr (Or.inr (Or.inr (Or.inr (Or.inl ⟨o, f1, f2, by omega, by omega, by omega⟩)))))
  · exact Or.inr (Or.inr (Or.inr (Or.inr (Or.inr (Or.inr (Or.inl ⟨o, f1, f2, by omega, by omega, by omega⟩))))))
  · exact Or.inr (Or.inr (Or.inr (Or.inr (Or.inr (Or.inr (Or.inr (Or.inl ⟨o, f1, f2, by omega, by omega, by omega⟩)))))))
  · exact Or.inr (Or.inr (Or.inr (Or.inr (Or.inr (Or.inr (Or.inr (Or.inr ⟨o, f1, f2, by omega, by omega⟩)))))))
theorem node_twice {N : List Nd} {i : Nat} (hi : i < N.length) (h : NodeP N i) : NodeP (N ++ [nd N (i : Int)]) N.length := by
  have w1 := h.w1
  have q : ∀ a : Int, 0 < wid N a i → wid (N ++ [nd N (i : Int)]) a N.length = wid N a i := fun a p => by
    obtain ⟨p0, p1, p2⟩ := wid_pos p
    rw [wid_app (by omega), p2]
    unfold wid
    rw [if_neg (by omega)]
  refine ⟨?_, ?_, ?_, ?_, ?_, ?_, ?_⟩ <;> rw [nd_last]
  · exact h.w1
  · exact h.w16
  · exact h.op
  · exact h.a0
  · exact h.b0
  · exact h.c0
  · exact fit_mono h.fit w1 (q _) (q _) (q _)
theorem opnds_lt {N : List Nd} {i : Nat} (h : NodeP N i) (o : ¬ ((nd N (i : Int)).f0 = 1 ∨ (nd N (i : Int)).f0 = 21 ∨ (nd N (i : Int)).f0 = 22)) : (0 ≤ (nd N i).f2 ∧ (nd N i).f2 < i) ∧ (0 ≤ (nd N i).f3 ∧ (nd N i).f3 < i) ∧ (0 ≤ (nd N i).f4 ∧ (nd N i).f4 < i) := by
  have w1 := h.w1
  have hf := h.fit
  have a1 : 0 < wid N (nd N i).f2 i := by
    unfold FitP at hf
    omega
  obtain ⟨p0, p1, -⟩ := wid_pos a1
  have pos : ∀ a : Int, a = 0 ∨ 0 < wid N a i → 0 ≤ a ∧ a < i := fun a q => by
    rcases q with q | q
    · omega
    · have := wid_pos q
      omega
  have k : ((nd N i).f3 = 0 ∨ 0 < wid N (nd N i).f3 i) ∧ ((nd N i).f4 = 0 ∨ 0 < wid N (nd N i).f4 i) := by
    have b0 := h.b0
    have c0 := h.c0
    unfold opk at b0 c0
    unfold FitP at hf
    generalize (nd N i).f0 = op at *
    refine ⟨?_, ?_⟩
    · by_cases q2 : op = 3 ∨ op = 4 ∨ op = 5 ∨ op = 18
      · rw [if_neg o, if_pos q2] at b0
        exact Or.inl (b0 (by omega))
      · right
        omega
    · by_cases q : op = 16
      · right
        omega
      · left
        refine c0 ?_
        (repeat' split) <;> omega
  exact ⟨⟨p0, p1⟩, pos _ k.1, pos _ k.2⟩
theorem rd_set_ne {l : List Int} {i j : Nat} {x : Int} (h : i ≠ j) : rd (l.set i x) (j : Int) = rd l (j : Int) := by
  unfold rd
  simp only [Int.toNat_natCast, List.getD_eq_getElem?_getD, List.getElem?_set, if_neg h]
theorem evN_stable {N : List Nd} {l : List Int} {j : Nat} : ∀ d i, j < i → rd (evN N l (i + d)) (j : Int) = rd (evN N l i) (j : Int)
  | 0, _, _ => rfl
  | d + 1, i, h => by
    rw [← Nat.add_assoc, evN]
    split
    · exact evN_stable d i h
    · rw [rd_set_ne (by omega)]
      exact evN_stable d i h
theorem evalV_at {N : List Nd} {st ins : List Int} {i : Nat} (hi : i < N.length) (o : ¬ ((nd N (i : Int)).f0 = 21 ∨ (nd N (i : Int)).f0 = 22)) : rd (evalV N st ins) (i : Int) = doV N (evN N (stV N st ins) i) (nd N (i : Int)) := by
  have e : N.length = (i + 1) + (N.length - (i + 1)) := by omega
  have hl : (stV N st ins).length = N.length := by unfold stV insV; rw [setS_len, setS_len, List.length_replicate]
  unfold evalV
  rw [e, evN_stable _ _ (by omega), evN, if_neg o, rd_set (by rw [evN_len]; omega), if_pos rfl]
theorem doV_twice {N : List Nd} {st ins : List Int} {i : Nat} (hi : i < N.length) (h : NodeP N i) (o : ¬ ((nd N (i : Int)).f0 = 21 ∨ (nd N (i : Int)).f0 = 22)) : doV (N ++ [nd N (i : Int)]) (evalV N st ins ++ [0]) (nd N (i : Int)) = rd (evalV N st ins) (i : Int) := by
  have hv := evalV_len N st ins
  rw [evalV_at hi o]
  by_cases o1 : (nd N (i : Int)).f0 = 1
  · unfold doV
    rw [o1, do_lit, do_lit]
  · obtain ⟨⟨a0, a1⟩, ⟨b0, b1⟩, ⟨c0, c1⟩⟩ := opnds_lt h (by omega)
    have st' : ∀ a : Int, 0 ≤ a → a < i → rd (evalV N st ins) a = rd (evN N (stV N st ins) i) a := fun a h0 h1 => by
      have e : N.length = i + (N.length - i) := by omega
      have e0 : ((a.toNat : Nat) : Int) = a := by omega
      unfold evalV
      rw [e, ← e0, evN_stable _ _ (by omega)]
    unfold doV
    rw [rd_left a0 (by omega), rd_left b0 (by omega), rd_left c0 (by omega), nd_app b0 (by omega), st' _ a0 a1, st' _ b0 b1, st' _ c0 c1]
end Go.Proofs.Yteblbknmikieoaa.P9
