/- SimSteps, in plain Lean. -/
import Derived.Test.YtackhenokkolhaaPlSim3
import Derived.Test.YtackhenokkolhaaAmY
namespace Go.Proofs.Ytackhenokkolhaa.Am
set_option linter.unusedVariables false
set_option linter.unusedSimpArgs false
theorem steps {N I C P Q} {l : Tr} (hl : U16r l) : law11_SimSteps big N I C P Q l = some (true, ()) := by
  have hn : 1000 < big := by decide
  unfold law11_SimSteps
  rw [head11, bindS]
  obtain ⟨g, hg, hs⟩ := great_f (n := big) (N := N) (I := I) (C := C) (P := P) (Q := Q)
  rw [hg, bindS]
  cases g with
  | true => rfl
  | false =>
  have s := hs rfl
  have s3 := s.c
  have s4 := s.p
  obtain ⟨b, hb, hr⟩ := right_f s hn
  simp only [cond_false, hb, bindS]
  cases b with
  | false => rfl
  | true =>
  have r := hr.1 rfl
  simp only [Bool.not_true, cond_false]
  rw [trace_f s r hn, bindS]
  have ft := trace_fit r hl
  have tl : (traceV N I l).length ≤ 64 := by rw [trace_len]; omega
  generalize traceV N I l = t at *
  simp only [succ64 (show t.length < 4611686018427387904 by omega)]
  rw [states_f s r ft hn, bindS, run_f s r ft hn, bindS]
  simp only [cond_dec]
  rw [if_neg (by simp), if_neg (by simp), ask_of (by simp)]
  have S : ∀ k : Nat, k ≤ t.length → KLi_at ((List.range (t.length + 1)).map (sV N I C t)) (k : Int) = sV N I C t k := fun k hk => at_range (t := KLi_) (by omega)
  have B : ∀ k : Nat, k < t.length → KLb_at ((List.range t.length).map fun k => bitsV P (vV N I C t k)) (k : Int) = bitsV P (vV N I C t k) := fun k hk => at_range (t := KLb_) hk
  have S0 : KLi_at ((List.range (t.length + 1)).map (sV N I C t)) 0 = firstV C := S 0 (by omega)
  have hSl : ((List.range (t.length + 1)).map (sV N I C t)).length = t.length + 1 := by simp
  have hBl : ((List.range t.length).map fun k => bitsV P (vV N I C t k)).length = t.length := by simp
  have fl : (firstV C).length = C.length := by simp [firstV]
  generalize (List.range (t.length + 1)).map (sV N I C t) = X at *
  generalize ((List.range t.length).map fun k => bitsV P (vV N I C t k)) = Y at *
  rw [S0, if_neg (by omega), first_f s hn, bindS]
  have l1 := iter_up (F := law11_SimSteps_l1b big (X, ()) (firstV C, ())) (fun j => ((j : Int), ())) (.inr ()) (len := C.length) (m := big)
    (fun self j hj => by
      unfold law11_SimSteps_l1b
      simp only [cond_dec, S0]
      rw [if_pos (by omega), ask_of (by omega), ask_of (by omega), ask_of (by omega), if_neg (by simp), succ64 (by omega)])
    (fun self => by
      unfold law11_SimSteps_l1b
      simp only [cond_dec]
      rw [if_neg (by omega)]) (by omega)
  rw [show law11_SimSteps_l1 big (X, ()) (firstV C, ()) (0, ()) = _ from l1, bindS, Sum.elim_inr]
  have l2 : ∀ k : Nat, k < t.length → law11_SimSteps_l2 big ((k : Int), ()) (Y, ()) (vV N I C t k, ()) N P (0, ()) = some (.inr ()) := fun k hk => by
    have hv := vV_len (N := N) (I := I) (C := C) (t := t) (k := k)
    have bl := bitsV_len (P := P) (v := vV N I C t k)
    exact iter_up (F := law11_SimSteps_l2b big ((k : Int), ()) (Y, ()) (vV N I C t k, ()) N P) (fun j => ((j : Int), ())) (.inr ()) (len := P.length) (m := big)
      (fun self j hj => by
        obtain ⟨q0, q1, -⟩ := prop_node r hj
        unfold law11_SimSteps_l2b
        simp only [cond_dec, B k hk, bitsV_at hj]
        rw [if_pos (by omega), if_neg (by omega), ask_of (by omega), ask_of (by omega), ask_of (by omega), ask_of (by omega), succ64 (by omega)]
        simp)
      (fun self => by
        unfold law11_SimSteps_l2b
        simp only [cond_dec]
        rw [if_neg (by omega)]) (by omega)
  have l3 := iter_up (F := law11_SimSteps_l3b big (t, ()) (X, ()) (Y, ()) N I C P Q) (fun j => ((j : Int), ())) (.inr ()) (len := t.length) (m := big)
    (fun self j hj => by
      have h1 := sV_len (N := N) (I := I) (C := C) (t := t) j
      have h2 := sV_len (N := N) (I := I) (C := C) (t := t) (j + 1)
      have bl := bitsV_len (P := P) (v := vV N I C t j)
      have e : KLi_at X (((j + 1 : Nat)) : Int) = sV N I C t (j + 1) := S (j + 1) (by omega)
      unfold law11_SimSteps_l3b
      simp only [cond_dec, succ64 (show j < 4611686018427387904 by omega), S j (by omega), B j hj, e]
      rw [if_pos (by omega), ask_of (by omega), if_neg (by omega), ask_of (by omega), if_neg (by omega), ask_of (by omega), ask_of (by omega), ask_of (by omega), show net_After big N I C P Q (sV N I C t j) (KLi_at t (j : Int)) = _ from after_f s r (ft.2 j hj) (sV_fit r ft j (by omega)) hn, bindS]
      have e2 : afterV C (evalV N I C (sV N I C t j) (KLi_at t (j : Int))) = sV N I C t (j + 1) := rfl
      simp only [e2]
      rw [sameRows_f (by simp) (fun k hk => by
        obtain rfl : k = 0 := by simpa using hk
        show (sV N I C t (j + 1)).length ≤ 1000
        omega) hn, bindS]
      simp only [Bool.not_true, cond_false]
      rw [ask_of (by omega), ask_of (by omega), eval_f s r (ft.2 j hj) (sV_fit r ft j (by omega)) hn, bindS]
      rw [show law11_SimSteps_l2 big ((j : Int), ()) (Y, ()) (evalV N I C (sV N I C t j) (KLi_at t (j : Int)), ()) N P (0, ()) = _ from l2 j hj]
      rfl)
    (fun self => by
      unfold law11_SimSteps_l3b
      simp only [cond_dec]
      rw [if_neg (by omega)]) (by omega)
  rw [show law11_SimSteps_l3 big (t, ()) (X, ()) (Y, ()) N I C P Q (0, ()) = _ from l3]
  rfl
end Go.Proofs.Ytackhenokkolhaa.Am
namespace Go.Proofs.Ytackhenokkolhaa.Pure
open Go.Proofs.Ytackhenokkolhaa.Am
theorem SimSteps (d : law11_SimSteps_s.I) (h : BAs law11_SimSteps_s.ar d fun _ => True) : ∃ n, law11_SimSteps n d.1 d.2.1 d.2.2.1 d.2.2.2.1 d.2.2.2.2.1 d.2.2.2.2.2.1 = some (true, ()) := by
  obtain ⟨-, -, -, -, -, h1, -⟩ := h
  exact ⟨big, steps (fun x hx => (h1.2 x hx).2)⟩
end Go.Proofs.Ytackhenokkolhaa.Pure
