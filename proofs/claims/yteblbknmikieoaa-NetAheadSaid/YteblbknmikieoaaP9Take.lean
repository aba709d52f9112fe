/- Slimmed by this session: what nothing names is struck out. -/
import Derived.Test.YteblbknmikieoaaP9App
namespace Go.Proofs.Yteblbknmikieoaa.P9
open Go.RowKit Go.Proofs.YteblbknmikieoaaW.PrintWords Go.Proofs.YteblbknmikieoaaW.PrintMore Go.Proofs.Yteblbknmikieoaa.PBits Go.Proofs.Yteblbknmikieoaa.PVec Go.Proofs.Yteblbknmikieoaa.Xb
set_option linter.unusedVariables false
set_option linter.unusedSimpArgs false
theorem nd_take {N : List Nd} {k : Nat} {a : Int} (h0 : 0 ≤ a) (h : a < k) : nd (N.take k) a = nd N a := by
  unfold nd rd_T41
  simp only [List.getD_eq_getElem?_getD, List.getElem?_take, if_pos (show a.toNat < k by omega)]
theorem rd_take {l : List Int} {k : Nat} {a : Int} (h0 : 0 ≤ a) (h : a < k) : rd (l.take k) a = rd l a := by
  unfold rd
  simp only [List.getD_eq_getElem?_getD, List.getElem?_take, if_pos (show a.toNat < k by omega)]
theorem wid_take {N : List Nd} {k : Nat} {a b : Int} (h : b ≤ k) : wid (N.take k) a b = wid N a b := by
  unfold wid
  split
  · rfl
  · rw [nd_take (by omega) (by omega)]
theorem node_take {N : List Nd} {k j : Nat} (h : NodeP N j) (hj : j < k) : NodeP (N.take k) j := by
  have e : nd (N.take k) (j : Int) = nd N (j : Int) := nd_take (by omega) (by omega)
  refine ⟨?_, ?_, ?_, ?_, ?_, ?_, ?_⟩ <;> rw [e]
  · exact h.w1
  · exact h.w16
  · exact h.op
  · exact h.a0
  · exact h.b0
  · exact h.c0
  · rw [wid_take (by omega), wid_take (by omega), wid_take (by omega)]
    exact h.fit
theorem frm_take {N : List Nd} {k : Nat} {op : Int} : ∀ d i, i + d ≤ k → frm (N.take k) op i d = frm N op i d
  | 0, _, _ => rfl
  | d + 1, i, h => by
    rw [frm, frm, nd_take (by omega) (by omega), frm_take d (i + 1) (by omega)]
theorem frm_split {N : List Nd} {op : Int} (e : Nat) : ∀ d i, frm N op i (d + e) = frm N op i d ++ frm N op (i + d) e
  | 0, i => by simp [frm]
  | d + 1, i => by
    have h := frm_split (N := N) (op := op) e d (i + 1)
    have e1 : d + 1 + e = (d + e) + 1 := by omega
    have e2 : i + (d + 1) = i + 1 + d := by omega
    rw [e1, frm, frm, h, e2]
    split <;> rfl
theorem frm_filter {N : List Nd} {op : Int} {k : Nat} (h : k ≤ N.length) : (frm N op 0 N.length).filter (fun p => decide (p < (k : Int))) = frm N op 0 k := by
  have e : N.length = k + (N.length - k) := by omega
  rw [e, frm_split, List.filter_append, List.filter_eq_self.2, List.filter_eq_nil_iff.2, List.append_nil]
  · intro a ha
    obtain ⟨q0, -⟩ := frm_mem _ _ _ ha
    simp
    omega
  · intro a ha
    obtain ⟨-, q1, -⟩ := frm_mem _ _ _ ha
    simp
    omega
def Agree (k : Nat) (l m : List Int) : Prop := ∀ j : Nat, j < k → rd l (j : Int) = rd m (j : Int)
theorem agree_set {k : Nat} {l m : List Int} (h : Agree k l m) (hl : k ≤ l.length) (hm : k ≤ m.length) {i : Nat} {x : Int} : Agree k (l.set i x) (m.set i x) := by
  intro j hj
  by_cases c : i = j
  · subst c
    rw [rd_set (by omega), rd_set (by omega), if_pos rfl, if_pos rfl]
  · rw [rd_set_ne' c, rd_set_ne' c]
    exact h j hj
where
  rd_set_ne' {l : List Int} {i j : Nat} {x : Int} (h : ¬ i = j) : rd (l.set i x) (j : Int) = rd l (j : Int) := by
    unfold rd
    simp only [Int.toNat_natCast, List.getD_eq_getElem?_getD, List.getElem?_set, if_neg h]
theorem agree_far {k : Nat} {l m : List Int} (h : Agree k l m) {i : Nat} {x : Int} (hi : k ≤ i) : Agree k l (m.set i x) := by
  intro j hj
  rw [h j hj]
  unfold rd
  simp only [Int.toNat_natCast, List.getD_eq_getElem?_getD, List.getElem?_set, if_neg (show ¬ i = j by omega)]
theorem rd_app_l {A B : List Int} {j : Nat} (h : j < A.length) : rd (A ++ B) (j : Int) = rd A (j : Int) := by
  unfold rd
  simp only [Int.toNat_natCast, List.getD_eq_getElem?_getD, List.getElem?_append_left h]
theorem rd_app_r {A B : List Int} {j : Nat} (h : A.length ≤ j) (h2 : j < (A ++ B).length) : rd (A ++ B) (j : Int) ∈ B := by
  unfold rd
  rw [Int.toNat_natCast, List.getD_eq_getElem?_getD, List.getElem?_append_right h]
  rw [List.length_append] at h2
  rw [List.getElem?_eq_getElem (by omega)]
  exact List.getElem_mem _
theorem agree_setS {k : Nat} {l m A B xs : List Int} (h : Agree k l m) (hl : k ≤ l.length) (hm : k ≤ m.length) (hB : ∀ p ∈ B, (k : Int) ≤ p) : Agree k (setS l A (xs.take A.length) A.length) (setS m (A ++ B) xs (A ++ B).length) := by
  have h1 : ∀ i, i ≤ A.length → Agree k (setS l A (xs.take A.length) i) (setS m (A ++ B) xs i) := by
    intro i
    induction i with
    | zero => exact fun _ => h
    | succ i ih =>
      intro hi
      rw [setS, setS, rd_app_l (by omega), rd_take (by omega) (by omega)]
      exact agree_set (ih (by omega)) (by rw [setS_len]; omega) (by rw [setS_len]; omega)
  have h2 : ∀ d, A.length + d ≤ (A ++ B).length → Agree k (setS l A (xs.take A.length) A.length) (setS m (A ++ B) xs (A.length + d)) := by
    intro d
    induction d with
    | zero => exact fun _ => h1 _ (Nat.le_refl _)
    | succ d ih =>
      intro hd
      rw [← Nat.add_assoc, setS]
      have := hB _ (rd_app_r (A := A) (B := B) (j := A.length + d) (by omega) (by omega))
      exact agree_far (ih (by omega)) (by omega)
  have e : (A ++ B).length = A.length + ((A ++ B).length - A.length) := by rw [List.length_append]; omega
  have := h2 ((A ++ B).length - A.length) (by omega)
  rw [← e] at this
  exact this
theorem agree_evN {N : List Nd} {k : Nat} (hk : k ≤ N.length) (hall : ∀ j : Nat, j < N.length → NodeP N j) {l m : List Int} (h : Agree k l m) (hl : l.length = k) (hm : m.length = N.length) : ∀ i, i ≤ k → Agree k (evN (N.take k) l i) (evN N m i)
  | 0, _ => h
  | i + 1, hi => by
    have ih := agree_evN hk hall h hl hm i (by omega)
    have lk : (N.take k).length = k := by rw [List.length_take]; omega
    rw [evN, evN, nd_take (by omega) (by omega)]
    split
    · exact ih
    · have hn := node_take (k := k) (hall i (by omega)) (by omega)
      obtain ⟨⟨a0, a1⟩, ⟨b0, b1⟩, ⟨c0, c1⟩⟩ := opnds (by omega) hn
      rw [nd_take (by omega) (by omega)] at a0 a1 b0 b1 c0 c1
      have ag : ∀ a : Int, 0 ≤ a → a < k → rd (evN (N.take k) l i) a = rd (evN N m i) a := fun a h0 h1 => by
        have := ih a.toNat (by omega)
        have e0 : ((a.toNat : Nat) : Int) = a := by omega
        rw [e0] at this
        exact this
      have ed : doV (N.take k) (evN (N.take k) l i) (nd N (i : Int)) = doV N (evN N m i) (nd N (i : Int)) := by
        unfold doV
        rw [ag _ a0 (by omega), ag _ b0 (by omega), ag _ c0 (by omega), nd_take b0 (by omega)]
      rw [ed]
      exact agree_set ih (by rw [evN_len]; omega) (by rw [evN_len]; omega)
theorem list_eq {l m : List Int} (hl : l.length = m.length) (h : Agree l.length l m) : l = m := by
  refine List.ext_getElem hl fun i h1 h2 => ?_
  have := h i h1
  unfold rd at this
  simpa [List.getD_eq_getElem?_getD, h1, h2] using this
theorem evN_far {N : List Nd} {l : List Int} {k : Nat} : ∀ d, Agree k (evN N l k) (evN N l (k + d))
  | 0 => fun _ _ => rfl
  | d + 1 => by
    rw [← Nat.add_assoc, evN]
    split
    · exact evN_far d
    · exact agree_far (evN_far d) (by omega)
theorem evalV_take {N : List Nd} {k : Nat} {st ins : List Int} (hk : k ≤ N.length) (hall : ∀ j : Nat, j < N.length → NodeP N j) : evalV (N.take k) (st.take (frm N 22 0 k).length) (ins.take (frm N 21 0 k).length) = (evalV N st ins).take k := by
  have lk : (N.take k).length = k := by rw [List.length_take]; omega
  have e : N.length = k + (N.length - k) := by omega
  have far : ∀ op, ∀ p ∈ frm N op k (N.length - k), (k : Int) ≤ p := fun op p hp => by
    obtain ⟨q0, -⟩ := frm_mem _ _ _ hp
    exact q0
  have sp : ∀ op, frm N op 0 N.length = frm N op 0 k ++ frm N op k (N.length - k) := fun op => by
    have := frm_split (N := N) (op := op) (N.length - k) k 0
    rw [← e, Nat.zero_add] at this
    exact this
  have a0 : Agree k (List.replicate k 0) (List.replicate N.length 0) := fun j hj => by
    unfold rd
    simp [List.getD_eq_getElem?_getD, List.getElem?_replicate, hj, show j < N.length by omega]
  have a1 : Agree k (insV (N.take k) (ins.take (frm N 21 0 k).length)) (insV N ins) := by
    unfold insV
    rw [lk, frm_take k 0 (by omega), sp]
    exact agree_setS a0 (by simp) (by simp; omega) (far _)
  have a2 : Agree k (stV (N.take k) (st.take (frm N 22 0 k).length) (ins.take (frm N 21 0 k).length)) (stV N st ins) := by
    unfold stV
    rw [lk, frm_take k 0 (by omega), sp 22]
    exact agree_setS a1 (by unfold insV; rw [setS_len, List.length_replicate]; omega) (by unfold insV; rw [setS_len, List.length_replicate]; omega) (far _)
  have l1 : (stV (N.take k) (st.take (frm N 22 0 k).length) (ins.take (frm N 21 0 k).length)).length = k := by unfold stV insV; rw [setS_len, setS_len, List.length_replicate, lk]
  have l2 : (stV N st ins).length = N.length := by unfold stV insV; rw [setS_len, setS_len, List.length_replicate]
  have a3 := agree_evN hk hall a2 l1 l2 k (Nat.le_refl _)
  have lv := evalV_len N st ins
  refine list_eq (by rw [evalV_len, lk, List.length_take, lv]; omega) ?_
  rw [evalV_len, lk]
  intro j hj
  rw [rd_take (by omega) (by omega)]
  unfold evalV
  rw [lk, a3 j hj]
  have := evN_far (N := N) (l := stV N st ins) (k := k) (N.length - k) j hj
  rw [← e] at this
  exact this
theorem sum_nonneg : ∀ {l : List Int}, (∀ x ∈ l, 0 ≤ x) → 0 ≤ l.sum
  | [], _ => by simp
  | a :: l, h => by
    have h1 := h a (by simp)
    have h2 := sum_nonneg (l := l) (fun x hx => h x (by simp [hx]))
    simp only [List.sum_cons]
    omega
theorem right_take {N I C P Q} {k : Nat} {J : List Pn} {D : List Cl} (r : RightP N I C P Q) (hk : k ≤ N.length) (hJ : J.map (·.f1) = frm N 21 0 k) (hD : D.map (·.f1) = frm N 22 0 k) (hJl : J.length ≤ I.length) (hDl : D.length ≤ C.length) (hd : ∀ d ∈ D, d.f2 = d.f1 ∧ ∃ c ∈ C, c.f1 = d.f1 ∧ c.f3 = d.f3) : RightP (N.take k) J D [] [] := by
  have lk : (N.take k).length = k := by rw [List.length_take]; omega
  refine ⟨by have := r.n; omega, by have := r.i; omega, by have := r.c; omega, by simp, ?_, ?_, ?_, ?_, by simp, by simp, ?_⟩
  · intro j hj
    exact node_take (r.nodes j (by omega)) (by omega)
  · rw [lk, frm_take k 0 (by omega)]
    exact hJ
  · rw [lk, frm_take k 0 (by omega)]
    exact hD
  · intro d hd'
    obtain ⟨e1, c, hc, e2, e3⟩ := hd d hd'
    obtain ⟨q1, q2, q3, -⟩ := cell_in r hc
    have hm : d.f1 ∈ frm N 22 0 k := by rw [← hD]; exact List.mem_map.2 ⟨_, hd', rfl⟩
    obtain ⟨m0, m1, -⟩ := frm_mem _ _ _ hm
    refine ⟨?_, by rw [← e3]; exact q1.2.1, ?_⟩
    · rw [lk, e1]
      unfold wid
      rw [if_neg (by omega)]
    · rw [nd_take (by omega) (by omega), ← e3, ← e2]
      exact q1.2.2
  · have e : N.length = k + (N.length - k) := by omega
    have e1 : ∀ (X : List Cl) (M : List Nd), wsum M X = ((X.map (·.f1)).map (fun a => (nd M a).f1)).sum := fun X M => by unfold wsum; rw [List.map_map]; rfl
    have hb := r.bits
    rw [e1, r.cells, e, frm_split, List.map_append, List.sum_append] at hb
    have pos : 0 ≤ ((frm N 22 (0 + k) (N.length - k)).map (fun a => (nd N a).f1)).sum := by
      refine sum_nonneg fun x hx => ?_
      obtain ⟨a, ha, rfl⟩ := List.mem_map.1 hx
      obtain ⟨m0, m1, -⟩ := frm_mem _ _ _ ha
      have := r.nodes a.toNat (by omega)
      have e0 : ((a.toNat : Nat) : Int) = a := by omega
      rw [e0] at this
      have := this.w1
      omega
    have eq : ((D.map (·.f1)).map (fun a => (nd (N.take k) a).f1)) = (frm N 22 0 k).map (fun a => (nd N a).f1) := by
      rw [hD]
      refine List.map_congr_left fun a ha => ?_
      obtain ⟨m0, m1, -⟩ := frm_mem _ _ _ ha
      rw [nd_take (by omega) (by omega)]
    rw [e1, eq]
    omega
end Go.Proofs.Yteblbknmikieoaa.P9
