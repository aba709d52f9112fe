/- CircRuns, in plain Lean. -/
import Derived.Test.YtnjoiokbeknopaaGreatPgMean
import Derived.Test.YtnjoiokbeknopaaGreatAmY
namespace Go.Proofs.YtnjoiokbeknopaaGreat.Am
set_option linter.unusedVariables false
set_option linter.unusedSimpArgs false
theorem runs15 {N I C P Q} {l : Tr} (hu : U16r l) : law15_CircRuns big N I C P Q l = some (true, ()) := by
  have hn : 30000 < big := by decide
  unfold law15_CircRuns
  rw [head15, bindS]
  obtain ⟨g, hg, hs⟩ := great_f (n := big) (N := N) (I := I) (C := C) (P := P) (Q := Q)
  rw [hg, bindS]
  cases g with
  | true => rfl
  | false =>
  have s := hs rfl
  obtain ⟨b1, hb1, hr⟩ := right_f s (n := big) (by omega)
  simp only [cond_false, hb1, bindS]
  cases b1 with
  | false => rfl
  | true =>
  have r := hr.1 rfl
  have hi := r.i
  have hp := r.p
  have hT := pinL_len2 r
  rw [weight15_f s r hn]
  simp only [Bool.not_true, cond_false, cond_dec, bindS]
  by_cases hw : (6000 : Int) < wts N N.length
  · rw [if_pos hw]
  rw [if_neg hw]
  by_cases h64 : (64 : Int) < (l.length : Int)
  · rw [if_pos h64]
  rw [if_neg h64]
  obtain ⟨G, M, e1, hB, hG⟩ := compile_f s r (by omega) hn
  rw [e1, bindS]
  simp only
  rw [fits_f15 s r hB hn, bindS]
  simp only [Bool.not_true, cond_false]
  have ft := trace_fit (N := N) (I := I) (C := C) (P := P) (Q := Q) r hu
  have tl : (traceV N I l).length ≤ 64 := by rw [trace_len]; omega
  rw [trace_f s r (by omega), bindS]
  simp only
  generalize traceV N I l = t at ft tl ⊢
  have ok : LatOK (latM N I C M) C.length := latL_ok r
  rw [states_f s r ft (by omega), bindS, run_f s r ft (by omega), bindS]
  simp only
  rw [if_neg (by rw [w64 (by omega) (by omega)]; simp), if_neg (by simp), first15_f ok.1 hn, bindS]
  simp only
  rw [first_st]
  have hst : ∀ k : Nat, k ≤ t.length → KLi_at ((List.range (t.length + 1)).map (sV N I C t)) (k : Int) = sV N I C t k := fun k hk => at_range (t := KLi_) (by omega)
  have hpr : ∀ k : Nat, k < t.length → KLb_at ((List.range t.length).map (fun k => bitsV P (vV N I C t k))) (k : Int) = bitsV P (vV N I C t k) := fun k hk => at_range (t := KLb_) hk
  have hss : ∀ v : List Int, (stL (latM N I C M) v).length ≤ 6000 := fun v => by have := ok.1; simp [stL]; omega
  have l1 := iter_up (F := law15_CircRuns_l1b big (((wl N (LLof I C) : Nat) : Int), G, pinL N I I.length, latM N I C M, outM P M, ()) (t, ()) ((List.range (t.length + 1)).map (sV N I C t), ()) ((List.range t.length).map (fun k => bitsV P (vV N I C t k)), ()) C) (fun k => (stL (latM N I C M) (sV N I C t k), (k : Int), ())) (.inr (stL (latM N I C M) (sV N I C t t.length), ())) (len := t.length) (m := big)
    (fun self k hk => by
      have hl := sV_len (N := N) (I := I) (C := C) (t := t) k
      unfold law15_CircRuns_l1b
      simp only [cond_dec, hst k (by omega), hpr k hk]
      rw [if_pos (by omega), if_neg (by simp [stL]), ask_of (by simp; omega), if_neg (by omega), ask_of (by simp; omega), state15_f (by rw [hl]; exact ok) hn, bindS]
      simp only
      rw [same_f (hss _) hn, bindS]
      simp only [Bool.not_true, cond_false]
      rw [ask_of (by omega), ins15_f r (ft.2 k hk).1 hn, bindS]
      simp only
      rw [stepN_f r hB (ft.2 k hk) (sV_fit r ft k (by omega)) hn, bindS, ask_of (by simp; omega)]
      rw [show (List.range P.length).map (fun j : Nat => decide (Ki_at (evalV N I C (sV N I C t k) (KLi_at t (k : Int))) (Kisi_at P (j : Int)).2.2 = 1)) = bitsV P (vV N I C t k) from rfl]
      simp only
      rw [same_f (by rw [bitsV_len]; omega) hn, bindS]
      simp only [Bool.not_true, cond_false]
      rw [succ64 (by omega)]
      rfl)
    (fun self => by
      unfold law15_CircRuns_l1b
      simp only [cond_dec]
      rw [if_neg (by omega)]) (by unfold big; omega)
  have l1' : law15_CircRuns_l1 big (((wl N (LLof I C) : Nat) : Int), G, pinL N I I.length, latM N I C M, outM P M, ()) (t, ()) ((List.range (t.length + 1)).map (sV N I C t), ()) ((List.range t.length).map (fun k => bitsV P (vV N I C t k)), ()) C (stL (latM N I C M) (firstV C), 0, ()) = _ := l1
  rw [l1', bindS, Sum.elim_inr]
  have hl := sV_len (N := N) (I := I) (C := C) (t := t) t.length
  simp only [cond_true, hst t.length (Nat.le_refl _)]
  rw [ask_of (by simp; omega), if_pos (by omega), ask_of (by simp; omega), state15_f (by rw [hl]; exact ok) hn, bindS]
  simp only
  rw [same_f (hss _) hn, bindS]
end Go.Proofs.YtnjoiokbeknopaaGreat.Am
namespace Go.Proofs.YtnjoiokbeknopaaGreat.Pure
open Go.Proofs.YtnjoiokbeknopaaGreat.Am
theorem CircRuns (d : law15_CircRuns_s.I) (h : BAs law15_CircRuns_s.ar d fun _ => True) : ∃ n, law15_CircRuns n d.1 d.2.1 d.2.2.1 d.2.2.2.1 d.2.2.2.2.1 d.2.2.2.2.2.1 = some (true, ()) := by
  obtain ⟨-, -, -, -, -, h2, -⟩ := h
  exact ⟨big, runs15 (fun x hx y hy => (h2.2 x hx).2 y hy)⟩
end Go.Proofs.YtnjoiokbeknopaaGreat.Pure
