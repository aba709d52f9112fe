/- CircStep, in plain Lean. -/
import Derived.Test.YtnjoiokbeknopaaGreatPgMean
import Derived.Test.YtnjoiokbeknopaaGreatAmY
namespace Go.Proofs.YtnjoiokbeknopaaGreat.Am
set_option linter.unusedVariables false
set_option linter.unusedSimpArgs false
theorem steps15 {N I C P Q} {a b : List Int} (ha : U16s a) (hb : U16s b) : law15_CircStep big N I C P Q a b = some (true, ()) := by
  have hn : 30000 < big := by decide
  unfold law15_CircStep
  rw [head15, bindS]
  obtain ⟨g, hg, hs⟩ := great_f (n := big) (N := N) (I := I) (C := C) (P := P) (Q := Q)
  rw [hg, bindS]
  cases g with
  | true => rfl
  | false =>
  have s := hs rfl
  obtain ⟨b1, hb1, hr⟩ := right_f s (n := big) (by omega)
  simp only [cond_false, hb1, bindS]
  cases b1 with
  | false => rfl
  | true =>
  have r := hr.1 rfl
  have hi := r.i
  have hT := pinL_len2 r
  rw [weight15_f s r hn]
  simp only [Bool.not_true, cond_false, cond_dec, bindS]
  by_cases hw : (6000 : Int) < wts N N.length
  · rw [if_pos hw]
  rw [if_neg hw]
  obtain ⟨G, M, e1, hB, hG⟩ := compile_f s r (by omega) hn
  rw [e1, bindS]
  simp only
  rw [fits_f15 s r hB hn, bindS]
  simp only [Bool.not_true, cond_false]
  have fI := fit_rowI r hb
  have fC := fit_rowC r ha
  have ok : LatOK (latM N I C M) C.length := latL_ok r
  rw [rows_f s r (by omega), bindS]
  simp only
  generalize rowC N C a = st at fC ⊢
  generalize rowI N I b = x at fI ⊢
  have hal : (afterV C (evalV N I C st x)).length = C.length := by simp [afterV]
  have hp := r.p
  rw [state15_f (by rw [fC.1]; exact ok) hn, bindS, ins15_f r fI.1 hn, bindS]
  simp only
  rw [stepN_f r hB fI fC hn, bindS, after_f s r fI fC (by omega), bindS, eval_f s r fI fC (by omega), bindS]
  simp only
  rw [if_neg (by rw [hal]; simp), if_neg (by rw [evalV_len]; simp), if_neg (by simp)]
  have el := evalV_len N I C st x
  have l1 := iter_up (F := law15_CircStep_l1b big (stL (latM N I C M) (afterV C (evalV N I C st x)), (List.range P.length).map (fun j : Nat => decide (Ki_at (evalV N I C st x) (Kisi_at P (j : Int)).2.2 = 1)), ()) (evalV N I C st x, ()) P) (fun j => ((j : Int), ())) (.inr ()) (len := P.length) (m := big)
    (fun self j hj => by
      obtain ⟨k1, k2, k3⟩ := r.prop j hj
      obtain ⟨w0, w1, w2⟩ := wid_pos (N := N) (a := (Kisi_at P (j : Int)).2.2) (i := N.length) (by omega)
      have e : Kb_at ((List.range P.length).map (fun j : Nat => decide (Ki_at (evalV N I C st x) (Kisi_at P (j : Int)).2.2 = 1))) (j : Int) = decide (Ki_at (evalV N I C st x) (Kisi_at P (j : Int)).2.2 = 1) := at_range (t := b_) hj
      unfold law15_CircStep_l1b
      simp only [cond_dec, e]
      rw [if_pos (by simp; omega), ask_of (by simp; omega), ask_of (by omega), ask_of (by omega), succ64 (by omega)]
      simp)
    (fun self => by
      unfold law15_CircStep_l1b
      simp only [cond_dec]
      rw [if_neg (by simp)]) (by unfold big; omega)
  rw [show law15_CircStep_l1 big _ (evalV N I C st x, ()) P (0, ()) = _ from l1, bindS, Sum.elim_inr]
  simp only [cond_true]
  rw [state15_f (by rw [hal]; exact ok) hn, bindS]
  simp only
  rw [same_f (by have := ok.1; simp [stL]; omega) hn, bindS]
end Go.Proofs.YtnjoiokbeknopaaGreat.Am
namespace Go.Proofs.YtnjoiokbeknopaaGreat.Pure
open Go.Proofs.YtnjoiokbeknopaaGreat.Am
theorem CircStep (d : law15_CircStep_s.I) (h : BAs law15_CircStep_s.ar d fun _ => True) : ∃ n, law15_CircStep n d.1 d.2.1 d.2.2.1 d.2.2.2.1 d.2.2.2.2.1 d.2.2.2.2.2.1 d.2.2.2.2.2.2.1 = some (true, ()) := by
  obtain ⟨-, -, -, -, -, h2, h3, -⟩ := h
  exact ⟨big, steps15 (fun x hx => h2.2 x hx) (fun x hx => h3.2 x hx)⟩
end Go.Proofs.YtnjoiokbeknopaaGreat.Pure
