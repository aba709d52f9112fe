/- CircRows, in plain Lean. -/
import Derived.Test.YtnjoiokbeknopaaPnR
import Derived.Test.YtnjoiokbeknopaaAmY
namespace Go.Proofs.Ytnjoiokbeknopaa.Am
set_option linter.unusedVariables false
set_option linter.unusedSimpArgs false
theorem rows15 {N I C P Q} {b : List Int} {l : List Bool} (hu : U16s b) : law15_CircRows big N I C P Q b l = some (true, ()) := by
  have hn : 30000 < big := by decide
  unfold law15_CircRows
  rw [head15, bindS]
  obtain ⟨g, hg, hs⟩ := great_f (n := big) (N := N) (I := I) (C := C) (P := P) (Q := Q)
  rw [hg, bindS]
  cases g with
  | true => rfl
  | false =>
  have s := hs rfl
  obtain ⟨b1, hb, hr⟩ := right_f s (n := big) (by omega)
  simp only [cond_false, hb, bindS]
  cases b1 with
  | false => rfl
  | true =>
  have r := hr.1 rfl
  have hi := r.i
  have hT := pinL_len2 r
  rw [weight15_f s r hn]
  simp only [Bool.not_true, cond_false, cond_dec, bindS]
  by_cases hw : (6000 : Int) < wts N N.length
  · rw [if_pos hw]
  rw [if_neg hw]
  obtain ⟨G, M, e1, hB, hG⟩ := compile_f s r (by omega) hn
  rw [e1, bindS]
  simp only
  rw [fits_f15 s r hB hn, bindS]
  simp only [Bool.not_true, cond_false]
  have fI := fit_rowI r hu
  have hX : (bits15 l (pinL N I I.length).length).length = (pinL N I I.length).length := by simp [bits15]
  rw [rows_f s r (by omega), bindS, bits15_f (by omega) hn, bindS]
  simp only
  rw [row15_f r hX hn, bindS]
  simp only [cond_true]
  have hR : ∀ X : List Bool, (rowS N I X (pinL N I I.length).length).length = I.length := fun X => by simp [rowS]
  rw [ins15_f r fI.1 hn, bindS]
  simp only
  rw [row15_f r (by simp [insL]) hn, bindS]
  simp only
  rw [row_ins r fI, sameInts_f (by rw [fI.1]; omega) hn, bindS]
  simp only [cond_true]
  rw [if_pos (by rw [hR]), ins15_f r (hR _) hn, bindS]
  simp only
  rw [ins_row r hX, same_f (by omega) hn, bindS]
end Go.Proofs.Ytnjoiokbeknopaa.Am
namespace Go.Proofs.Ytnjoiokbeknopaa.Pure
open Go.Proofs.Ytnjoiokbeknopaa.Am
theorem CircRows (d : law15_CircRows_s.I) (h : BAs law15_CircRows_s.ar d fun _ => True) : ∃ n, law15_CircRows n d.1 d.2.1 d.2.2.1 d.2.2.2.1 d.2.2.2.2.1 d.2.2.2.2.2.1 d.2.2.2.2.2.2.1 = some (true, ()) := by
  obtain ⟨-, -, -, -, -, h2, -⟩ := h
  exact ⟨big, rows15 (fun x hx => h2.2 x hx)⟩
end Go.Proofs.Ytnjoiokbeknopaa.Pure
