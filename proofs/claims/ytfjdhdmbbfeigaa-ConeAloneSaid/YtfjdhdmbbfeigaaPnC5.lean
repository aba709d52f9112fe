/- A net's circuit is right, with all its bits. -/
import Derived.Test.YtfjdhdmbbfeigaaPnC4
namespace Go.Proofs.Ytfjdhdmbbfeigaa.Am
set_option linter.unusedVariables false
set_option linter.unusedSimpArgs false
theorem app_l {t : Ty} {l m : List t.D} {j : Nat} (h : j < l.length) : at_ t (l ++ m) (j : Int) = at_ t l (j : Int) := at_app1 h
theorem app_r {t : Ty} {l : List t.D} {f : Nat → t.D} {w k : Nat} (h : k < w) : at_ t (l ++ (List.range w).map f) ((l.length + k : Nat) : Int) = f k := by
  unfold at_
  rw [Int.toNat_natCast, List.getD_eq_getElem?_getD, List.getElem?_append_right (by omega), show l.length + k - l.length = k by omega]
  simp [h]
section
variable {n : Nat} {N : List Nd} {I : List Pn} {C : List Cl} {P : List Pw} {Q : List Pn}
/-- An input's bit, at its place. -/
theorem pinL_at {j k : Nat} : ∀ {m : Nat}, j < m → k < wN N (Ksi_at I (j : Int)).2 → Kiii_at (pinL N I m) (((pinL N I j).length + k : Nat) : Int) = ((((pinL N I j).length + k + 1 : Nat) : Int), (j : Int), (k : Int)) ∧ (pinL N I j).length + k < (pinL N I m).length
  | 0, h, _ => by omega
  | m + 1, h, hk => by
    by_cases c : j = m
    · subst c
      refine ⟨?_, by rw [pinL]; simp; exact hk⟩
      show at_ Kiii_ (pinL N I (j + 1)) _ = _
      rw [pinL]
      exact app_r (t := Kiii_) hk
    · obtain ⟨h1, h2⟩ := pinL_at (j := j) (k := k) (m := m) (by omega) hk
      refine ⟨?_, by rw [pinL]; simp; omega⟩
      show at_ Kiii_ (pinL N I (m + 1)) _ = _
      rw [pinL, app_l (t := Kiii_) h2]
      exact h1
/-- Every place is an input's bit. -/
theorem pinL_of {m t : Nat} (ht : t < (pinL N I m).length) : ∃ j k : Nat, j < m ∧ k < wN N (Ksi_at I (j : Int)).2 ∧ t = (pinL N I j).length + k := by
  induction m with
  | zero => simp [pinL] at ht
  | succ m ih =>
    by_cases c : t < (pinL N I m).length
    · obtain ⟨j, k, h1, h2, h3⟩ := ih c
      exact ⟨j, k, by omega, h2, h3⟩
    · rw [pinL] at ht
      simp at ht
      exact ⟨m, t - (pinL N I m).length, by omega, by omega, by omega⟩
theorem pinL_succ {j : Nat} : (pinL N I (j + 1)).length = (pinL N I j).length + wN N (Ksi_at I (j : Int)).2 := by rw [pinL]; simp
theorem pinL_mono {i j : Nat} (h : i ≤ j) : (pinL N I i).length ≤ (pinL N I j).length := by
  induction j with
  | zero => have : i = 0 := by omega
            subst this; exact Nat.le_refl _
  | succ j ih =>
    by_cases c : i = j + 1
    · subst c; exact Nat.le_refl _
    · have := ih (by omega); rw [pinL_succ]; omega
theorem latL_at {B : Int → List Int} {nI j k : Nat} : ∀ {m : Nat}, j < m → k < wN N (Ksiii_at C (j : Int)).2.1 → Kiibii_at (latL N C B nI m) (((latL N C B nI j).length + k : Nat) : Int) = (((nI + (latL N C B nI j).length + k + 1 : Nat) : Int), Ki_at (B (Ksiii_at C (j : Int)).2.2.1) (k : Int), bitB (Ksiii_at C (j : Int)).2.2.2 k, (j : Int), (k : Int)) ∧ (latL N C B nI j).length + k < (latL N C B nI m).length
  | 0, h, _ => by omega
  | m + 1, h, hk => by
    by_cases c : j = m
    · subst c
      refine ⟨?_, by rw [latL]; simp; exact hk⟩
      show at_ Kiibii_ (latL N C B nI (j + 1)) _ = _
      rw [latL]
      exact app_r (t := Kiibii_) hk
    · obtain ⟨h1, h2⟩ := latL_at (B := B) (nI := nI) (j := j) (k := k) (m := m) (by omega) hk
      refine ⟨?_, by rw [latL]; simp; omega⟩
      show at_ Kiibii_ (latL N C B nI (m + 1)) _ = _
      rw [latL, app_l (t := Kiibii_) h2]
      exact h1
theorem latL_of {B : Int → List Int} {nI m t : Nat} (ht : t < (latL N C B nI m).length) : ∃ j k : Nat, j < m ∧ k < wN N (Ksiii_at C (j : Int)).2.1 ∧ t = (latL N C B nI j).length + k := by
  induction m with
  | zero => simp [latL] at ht
  | succ m ih =>
    by_cases c : t < (latL N C B nI m).length
    · obtain ⟨j, k, h1, h2, h3⟩ := ih c
      exact ⟨j, k, by omega, h2, h3⟩
    · rw [latL] at ht
      simp at ht
      exact ⟨m, t - (latL N C B nI m).length, by omega, by omega, by omega⟩
theorem latL_succ {B : Int → List Int} {nI j : Nat} : (latL N C B nI (j + 1)).length = (latL N C B nI j).length + wN N (Ksiii_at C (j : Int)).2.1 := by rw [latL]; simp
theorem latL_mono {B : Int → List Int} {nI i j : Nat} (h : i ≤ j) : (latL N C B nI i).length ≤ (latL N C B nI j).length := by
  induction j with
  | zero => have : i = 0 := by omega
            subst this; exact Nat.le_refl _
  | succ j ih =>
    by_cases c : i = j + 1
    · subst c; exact Nat.le_refl _
    · have := ih (by omega); rw [latL_succ]; omega
theorem comp_right {G : List Kii} {M : List (Int × List Int)} (r : RightP N I C P Q) (hB : BitsOK N (LLof I C) (wl N (LLof I C)) G M N.length) : CircR (wl N (LLof I C)) G (pinL N I I.length) (latL N C (fun x => Mi_Li_get M x []) (pinL N I I.length).length C.length) (outL P (fun x => Mi_Li_get M x [])) := by
  have hpl : (pinL N I I.length).length = wl N (pinN I) := by rw [pinL_len (Nat.le_refl _), List.take_of_length_le (by simp [pinN])]
  have hll : (latL N C (fun x => Mi_Li_get M x []) (pinL N I I.length).length C.length).length = wl N (celN C) := by rw [latL_len (Nat.le_refl _), List.take_of_length_le (by simp [celN])]
  have hsum : wl N (LLof I C) = wl N (pinN I) + wl N (celN C) := by rw [LLof, wl_app]
  have hcw := wl_cells r
  have hp := r.p
  refine ⟨hB.r, by rw [hll]; omega, by omega, by simp [outL]; omega, fun t ht => ?_, fun t ht => ?_, fun t ht => ?_, fun t ht => ?_, fun j hj => ?_⟩
  · obtain ⟨j, k, h1, h2, rfl⟩ := pinL_of ht
    rw [(pinL_at h1 h2).1]
    exact ⟨by simp only; omega, by simp only; omega, by simp only; omega⟩
  · obtain ⟨j, k, h1, h2, rfl⟩ := pinL_of (N := N) (I := I) (m := I.length) (t := t) (by omega)
    obtain ⟨j2, k2, h3, h4, h5⟩ := pinL_of ht
    rw [(pinL_at h1 h2).1, h5, (pinL_at h3 h4).1]
    unfold lex
    simp only
    rcases Nat.lt_trichotomy j j2 with c | c | c
    · exact .inl (by omega)
    · subst c; exact .inr ⟨rfl, by omega⟩
    · have := pinL_mono (N := N) (I := I) (show j2 + 1 ≤ j from c)
      rw [pinL_succ] at this
      omega
  · obtain ⟨j, k, h1, h2, rfl⟩ := latL_of ht
    rw [(latL_at h1 h2).1]
    obtain ⟨n0, n1, n2⟩ := next_pos r h1
    obtain ⟨b1, b2⟩ := hB.ok (Ksiii_at C (j : Int)).2.2.1 (.inr ⟨n0, n1⟩)
    refine ⟨by simp only; omega, by simp only; omega, by simp only; omega, ?_⟩
    exact b1.at (j := k) (by rw [b2]; unfold wN at h2 ⊢; omega)
  · obtain ⟨j, k, h1, h2, rfl⟩ := latL_of (N := N) (C := C) (B := fun x => Mi_Li_get M x []) (nI := (pinL N I I.length).length) (m := C.length) (t := t) (by omega)
    obtain ⟨j2, k2, h3, h4, h5⟩ := latL_of ht
    rw [(latL_at h1 h2).1, h5, (latL_at h3 h4).1]
    unfold lex
    simp only
    rcases Nat.lt_trichotomy j j2 with c | c | c
    · exact .inl (by omega)
    · subst c; exact .inr ⟨rfl, by omega⟩
    · have := latL_mono (N := N) (C := C) (B := fun x => Mi_Li_get M x []) (nI := (pinL N I I.length).length) (show j2 + 1 ≤ j from c)
      rw [latL_succ] at this
      omega
  · have hj' : j < P.length := by simpa [outL] using hj
    obtain ⟨k1, k2, k3⟩ := r.prop j hj'
    obtain ⟨w0, w1, w2⟩ := wid_pos (N := N) (a := (Kisi_at P (j : Int)).2.2) (i := N.length) (by omega)
    obtain ⟨b1, b2⟩ := hB.ok (Kisi_at P (j : Int)).2.2 (.inr ⟨w0, w1⟩)
    have e : Kiii_at (outL P (fun x => Mi_Li_get M x [])) (j : Int) = ((Kisi_at P (j : Int)).1, Ki_at (Mi_Li_get M (Kisi_at P (j : Int)).2.2 []) 0, (j : Int)) := at_range (t := Kiii_) hj'
    rw [e]
    exact ⟨k1, k2, by simp only; omega, b1.at (j := 0) (by rw [b2]; unfold wN; omega)⟩
theorem frm_snoc {N : List Nd} {op : Int} : ∀ (d i : Nat), frm N op i (d + 1) = frm N op i d ++ (if (Kiiiiiii_at N ((i + d : Nat) : Int)).1 = op then [((i + d : Nat) : Int)] else [])
  | 0, i => by simp [frm]
  | d + 1, i => by
    rw [frm, frm_snoc d (i + 1), show frm N op i (d + 1) = if (Kiiiiiii_at N (i : Int)).1 = op then (i : Int) :: frm N op (i + 1) d else frm N op (i + 1) d from rfl, show i + 1 + d = i + (d + 1) by omega]
    split <;> simp
end
end Go.Proofs.Ytfjdhdmbbfeigaa.Am
