/- The document's circuit of a net is right. -/
import Derived.Test.YtfjdhdmbbfeigaaPnW
namespace Go.Proofs.Ytfjdhdmbbfeigaa.Am
set_option linter.unusedVariables false
set_option linter.unusedSimpArgs false
section
variable {n : Nat} {N : List Nd} {I : List Pn} {C : List Cl} {P : List Pw} {Q : List Pn} {ins : Int} {G : List Kii}
theorem wNw (r : RightP N I C P Q) {j : Nat} (hj : j < N.length) : ((wN N (j : Int) : Nat) : Int) = (Kiiiiiii_at N (j : Int)).2.1 ∧ wN N (j : Int) ≤ 16 := by
  have h := r.nodes j hj
  have h1 := h.w1
  have h2 := h.w16
  unfold wN
  omega
theorem frmw_bnd (r : RightP N I C P Q) (op : Int) : ∀ j : Nat, j ≤ N.length → wl N (frm N op 0 j) ≤ 16 * j
  | 0, _ => by simp [frm, wl]
  | j + 1, hj => by
    have := frmw_bnd r op j (by omega)
    have h16 := (wNw r (j := j) (by omega)).2
    rw [frm_snoc, wl_app, Nat.zero_add]
    split
    · simp only [wl]; omega
    · simp only [wl]; omega
theorem frmw_succ {op : Int} {j : Nat} : wl N (frm N op 0 (j + 1)) = wl N (frm N op 0 j) + if (Kiiiiiii_at N (j : Int)).1 = op then wN N (j : Int) else 0 := by
  rw [frm_snoc, wl_app, Nat.zero_add]
  split
  · simp only [wl]; omega
  · simp only [wl]
theorem frmw_mono {op : Int} {i j : Nat} (h : i ≤ j) : wl N (frm N op 0 i) ≤ wl N (frm N op 0 j) := by
  induction j with
  | zero => have : i = 0 := by omega
            subst this; exact Nat.le_refl _
  | succ j ih =>
    by_cases c : i = j + 1
    · subst c; exact Nat.le_refl _
    · have := ih (by omega); rw [frmw_succ]; omega
/-- A node's operands' places stand ahead of it, if it has one. -/
theorem opABC {i : Nat} (h : NodeP N i) (o1 : (Kiiiiiii_at N (i : Int)).1 ≠ 21) (o2 : (Kiiiiiii_at N (i : Int)).1 ≠ 22) (o3 : (Kiiiiiii_at N (i : Int)).1 ≠ 1) : (0 ≤ (Kiiiiiii_at N i).2.2.1 ∧ (Kiiiiiii_at N i).2.2.1 < i) ∧ (0 ≤ (Kiiiiiii_at N i).2.2.2.1 ∧ (Kiiiiiii_at N i).2.2.2.1 < i) ∧ (0 ≤ (Kiiiiiii_at N i).2.2.2.2.1 ∧ (Kiiiiiii_at N i).2.2.2.2.1 < i) := by
  have w1 := h.w1
  have a0 := h.a0
  have b0 := h.b0
  have c0 := h.c0
  have pos : ∀ a : Int, 0 < wid N a i → 0 ≤ a ∧ a < i := fun a q => ⟨(wid_pos q).1, (wid_pos q).2.1⟩
  have ho := opk_cases h.op
  have pa := pos (Kiiiiiii_at N i).2.2.1
  have pb := pos (Kiiiiiii_at N i).2.2.2.1
  have pc := pos (Kiiiiiii_at N i).2.2.2.2.1
  have hf := h.fit
  unfold FitP at hf
  generalize wid N (Kiiiiiii_at N i).2.2.1 i = wa at *
  generalize wid N (Kiiiiiii_at N i).2.2.2.1 i = wb at *
  generalize wid N (Kiiiiiii_at N i).2.2.2.2.1 i = wc at *
  generalize Kiiiiiii_at N i = x at *
  unfold opk at a0 b0 c0
  rcases ho with o | o | o | o | o | o | o | o | o | o | o | o | o | o | o | o | o | o | o <;> simp only [o] at a0 b0 c0 hf o1 o2 o3 ⊢ <;> simp at a0 b0 c0 hf o1 o2 o3 ⊢ <;> omega
theorem NodeOK.lit_zero {op w u lo : Int} {wa wb wc W K : Nat} (h : NodeOK op w u lo wa wb wc W K) (ho : op = 1) : wa = 0 ∧ wb = 0 ∧ wc = 0 := by
  cases h <;> first | exact ⟨rfl, rfl, rfl⟩ | omega
/-- Bits of all nodes. -/
def BitsL (N : List Nd) (ins : Int) (G : List Kii) (L : List (List Int)) : Prop := RG ins G ∧ ∀ i : Nat, i < L.length → Lits ins G (KLi_at L (i : Int)) ∧ (KLi_at L (i : Int)).length = wN N (i : Int)
theorem BitsL.snoc {t : List Kii} {L : List (List Int)} {l : List Int} (h : BitsL N ins G L) (hr : RG ins (G ++ t)) (hl : Lits ins (G ++ t) l) (hw : l.length = wN N (L.length : Int)) : BitsL N ins (G ++ t) (L ++ [l]) := by
  refine ⟨hr, fun i hi => ?_⟩
  by_cases c : i < L.length
  · rw [show KLi_at (L ++ [l]) (i : Int) = KLi_at L (i : Int) from at_app1 (t := KLi_) c]
    obtain ⟨h1, h2⟩ := h.2 i c
    exact ⟨h1.more, h2⟩
  · have : i = L.length := by simp at hi; omega
    subst this
    rw [show KLi_at (L ++ [l]) (L.length : Int) = l from at_app2 (t := KLi_)]
    exact ⟨hl, hw⟩
/-- The document's circuit of a net. -/
theorem comp_right2 {B : Int → List Int} (r : RightP N I C P Q) (hr : RG (wl N (LLof I C)) G) (hok : ∀ x : Int, 0 ≤ x → x < N.length → Lits (wl N (LLof I C)) G (B x) ∧ (B x).length = wN N x) : CircR (wl N (LLof I C)) G (pinL N I I.length) (latL N C B (pinL N I I.length).length C.length) (outL P B) := by
  have hpl : (pinL N I I.length).length = wl N (pinN I) := by rw [pinL_len (Nat.le_refl _), List.take_of_length_le (by simp [pinN])]
  have hll : (latL N C B (pinL N I I.length).length C.length).length = wl N (celN C) := by rw [latL_len (Nat.le_refl _), List.take_of_length_le (by simp [celN])]
  have hsum : wl N (LLof I C) = wl N (pinN I) + wl N (celN C) := by rw [LLof, wl_app]
  have hcw := wl_cells r
  have hp := r.p
  refine ⟨hr, by rw [hll]; omega, by omega, by simp [outL]; omega, fun t ht => ?_, fun t ht => ?_, fun t ht => ?_, fun t ht => ?_, fun j hj => ?_⟩
  · obtain ⟨j, k, h1, h2, rfl⟩ := pinL_of ht
    rw [(pinL_at h1 h2).1]
    exact ⟨by simp only; omega, by simp only; omega, by simp only; omega⟩
  · obtain ⟨j, k, h1, h2, rfl⟩ := pinL_of (N := N) (I := I) (m := I.length) (t := t) (by omega)
    obtain ⟨j2, k2, h3, h4, h5⟩ := pinL_of ht
    rw [(pinL_at h1 h2).1, h5, (pinL_at h3 h4).1]
    unfold lex
    simp only
    rcases Nat.lt_trichotomy j j2 with c | c | c
    · exact .inl (by omega)
    · subst c; exact .inr ⟨rfl, by omega⟩
    · have := pinL_mono (N := N) (I := I) (show j2 + 1 ≤ j from c)
      rw [pinL_succ] at this
      omega
  · obtain ⟨j, k, h1, h2, rfl⟩ := latL_of ht
    rw [(latL_at h1 h2).1]
    obtain ⟨n0, n1, n2⟩ := next_pos r h1
    obtain ⟨b1, b2⟩ := hok (Ksiii_at C (j : Int)).2.2.1 n0 n1
    refine ⟨by simp only; omega, by simp only; omega, by simp only; omega, ?_⟩
    exact b1.at (j := k) (by rw [b2]; unfold wN at h2 ⊢; omega)
  · obtain ⟨j, k, h1, h2, rfl⟩ := latL_of (N := N) (C := C) (B := B) (nI := (pinL N I I.length).length) (m := C.length) (t := t) (by omega)
    obtain ⟨j2, k2, h3, h4, h5⟩ := latL_of ht
    rw [(latL_at h1 h2).1, h5, (latL_at h3 h4).1]
    unfold lex
    simp only
    rcases Nat.lt_trichotomy j j2 with c | c | c
    · exact .inl (by omega)
    · subst c; exact .inr ⟨rfl, by omega⟩
    · have := latL_mono (N := N) (C := C) (B := B) (nI := (pinL N I I.length).length) (show j2 + 1 ≤ j from c)
      rw [latL_succ] at this
      omega
  · have hj' : j < P.length := by simpa [outL] using hj
    obtain ⟨k1, k2, k3⟩ := r.prop j hj'
    obtain ⟨w0, w1, w2⟩ := wid_pos (N := N) (a := (Kisi_at P (j : Int)).2.2) (i := N.length) (by omega)
    obtain ⟨b1, b2⟩ := hok (Kisi_at P (j : Int)).2.2 w0 w1
    have e : Kiii_at (outL P B) (j : Int) = ((Kisi_at P (j : Int)).1, Ki_at (B (Kisi_at P (j : Int)).2.2) 0, (j : Int)) := at_range (t := Kiii_) hj'
    rw [e]
    exact ⟨k1, k2, by simp only; omega, b1.at (j := 0) (by rw [b2]; unfold wN; omega)⟩
theorem BitsL.ok {L : List (List Int)} (h : BitsL N ins G L) (hL : L.length = N.length) (x : Int) (h0 : 0 ≤ x) (h1 : x < N.length) : Lits ins G (KLi_at L x) ∧ (KLi_at L x).length = wN N x := by
  obtain ⟨k, rfl⟩ := Int.eq_ofNat_of_zero_le h0
  exact h.2 k (by omega)
end
end Go.Proofs.Ytfjdhdmbbfeigaa.Am
