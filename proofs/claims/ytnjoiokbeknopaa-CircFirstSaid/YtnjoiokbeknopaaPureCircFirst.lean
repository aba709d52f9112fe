/- CircFirst, in plain Lean. -/
import Derived.Test.YtnjoiokbeknopaaPnC6
import Derived.Test.YtnjoiokbeknopaaAmY
namespace Go.Proofs.Ytnjoiokbeknopaa.Am
set_option linter.unusedVariables false
set_option linter.unusedSimpArgs false
theorem firsts {N I C P Q} : law15_CircFirst big N I C P Q = some (true, ()) := by
  have hn : 30000 < big := by decide
  unfold law15_CircFirst
  rw [head15, bindS]
  obtain ⟨g, hg, hs⟩ := great_f (n := big) (N := N) (I := I) (C := C) (P := P) (Q := Q)
  rw [hg, bindS]
  cases g with
  | true => rfl
  | false =>
  have s := hs rfl
  obtain ⟨b, hb, hr⟩ := right_f s (n := big) (by omega)
  simp only [cond_false, hb, bindS]
  cases b with
  | false => rfl
  | true =>
  have r := hr.1 rfl
  have hc := r.c
  rw [weight15_f s r hn]
  simp only [Bool.not_true, cond_false, cond_dec, bindS]
  by_cases hw : (6000 : Int) < wts N N.length
  · rw [if_pos hw]
  rw [if_neg hw]
  obtain ⟨G, M, e1, hB, hG⟩ := compile_f s r (by omega) hn
  have ok := latL_ok (B := fun x => Mi_Li_get M x []) (nI := (pinL N I I.length).length) r
  have fl : (firstV C).length = C.length := by simp [firstV]
  rw [e1, bindS, first_f s (by omega), bindS]
  simp only [cond_true]
  rw [fits_f15 s r hB hn, bindS]
  simp only [cond_true]
  rw [if_pos (by omega), first15_f ok.1 hn, bindS, state15_f (by rw [fl]; exact ok) hn, bindS]
  simp only
  rw [first_st, same_f (by have := ok.1; simp [stL]; omega) hn, bindS]
end Go.Proofs.Ytnjoiokbeknopaa.Am
namespace Go.Proofs.Ytnjoiokbeknopaa.Pure
open Go.Proofs.Ytnjoiokbeknopaa.Am
theorem CircFirst (d : law15_CircFirst_s.I) (h : BAs law15_CircFirst_s.ar d fun _ => True) : ∃ n, law15_CircFirst n d.1 d.2.1 d.2.2.1 d.2.2.2.1 d.2.2.2.2.1 = some (true, ()) := ⟨big, firsts⟩
end Go.Proofs.Ytnjoiokbeknopaa.Pure
