/- Slimmed by this session: what nothing names is struck out. -/
import Derived.Test.YteblbknmikieoaaXbSNetOdd
import Derived.Test.YteblbknmikieoaaP9A
namespace Go.Proofs.Yteblbknmikieoaa.Pure
open Go.RowKit Go.Proofs.YteblbknmikieoaaW.PrintWords Go.Proofs.YteblbknmikieoaaW.PrintMore Go.Proofs.Yteblbknmikieoaa.PBits Go.Proofs.Yteblbknmikieoaa.PVec Go.Proofs.Yteblbknmikieoaa.P9 Go.Proofs.Yteblbknmikieoaa.Xb
set_option linter.unusedVariables false
set_option linter.unusedSimpArgs false
theorem nd_mem {N : List Nd} {j : Nat} (h : j < N.length) : nd N (j : Int) ∈ N := by
  have : nd N (j : Int) = N[j] := by
    unfold nd rd_T41
    rw [Int.toNat_natCast, List.getD_eq_getElem?_getD, List.getElem?_eq_getElem h]
    rfl
  rw [this]
  exact List.getElem_mem h
theorem nd_set {N : List Nd} {y : Nd} {i j : Nat} (hi : i < N.length) : nd (N.set i y) (j : Int) = if i = j then y else nd N (j : Int) := by
  unfold nd rd_T41
  simp only [Int.toNat_natCast, List.getD_eq_getElem?_getD, List.getElem?_set]
  split
  · rename_i h
    subst h
    simp [hi]
  · rfl
theorem mod_in {x : Int} {n : Nat} (hx : 0 ≤ x ∧ x ≤ 65535) (hn : n ≠ 0) : 0 ≤ Int.tmod (wrap64 x) (n : Int) ∧ Int.tmod (wrap64 x) (n : Int) < n := by
  rw [w64 (by omega) (by omega), Int.tmod_eq_emod_of_nonneg hx.1]
  exact ⟨Int.emod_nonneg _ (by omega), Int.emod_lt_of_pos _ (by omega)⟩
theorem fit_lo {x : Nd} {a b c : Int} (h : FitP x a b c) (hl : x.f6 = -1) : False := by
  unfold FitP at h
  omega
theorem NetOdd : w9_NetOdd.Pure := by
  intro n x a hx hx3 ha
  have hx' := lit_u16 hx3
  have ha' := lit_u8 ha
  have wf : ∀ j : Nat, j < n.f0.length → (Lit.int .i64 (nd n.f0 (j : Int)).f0).wf = true := fun j hj => (hx.1.2 _ (nd_mem hj)).1
  clear hx ha hx3
  generalize n.f0 = N at *
  generalize n.f1 = I
  generalize n.f2 = C
  generalize n.f3 = P
  generalize n.f4 = Q
  refine Ev.rounds (r := true) ?_
  unfold w9_NetOdd.f
  obtain ⟨g, hg, hs⟩ := great_f (N := N) (I := I) (C := C) (P := P) (Q := Q)
  refine Ev.bind (f := fun k t => _) head09 ?_
  simp only [hg, Option.bind_some]
  have j0 : Ev (fun k => w9_NetOdd.j0 k x a true true N I C P Q) true := Ev.step (fun k => by simp only [w9_NetOdd.j0]; rw [if_pos trivial]) (Ev.now _)
  cases g with
  | true => exact Ev.ite_pos rfl j0
  | false =>
    obtain ⟨s, hn⟩ := hs rfl
    refine Ev.ite_neg (by decide) ?_
    obtain ⟨q, hq, hr⟩ := right_ev s
    refine Ev.bind (f := fun k t => _) hq ?_
    cases q with
    | false => exact Ev.ite_neg (by decide) j0
    | true =>
      have r := hr.1 rfl
      refine Ev.ite_pos rfl ?_
      by_cases hz : (N.length : Int) = 0
      · rw [beq_iff_eq.mpr hz]
        exact j0
      rw [beq_eq_false_iff_ne.mpr hz]
      have s1 := s.n
      have s3 := s.c
      have nr := nright_ev s r
      have fin : ∀ (M : List Nd) (D : List Cl), Small M I D P Q → (∀ j : Nat, j < M.length → (Lit.int .i64 (nd M (j : Int)).f0).wf = true) → ¬ RightP M I D P Q → Ev (fun k => (net_Right.f k M I D P Q).bind fun t => if t = true then none else ((net_Right.f k N I C P Q).bind fun t2 => some t2)) true := by
        intro M D s' wf' no
        obtain ⟨b, hb, hf⟩ := nright_iff s' wf'
        refine Ev.bind (f := fun k t => if t = true then none else ((net_Right.f k N I C P Q).bind fun t2 => some t2)) hb ?_
        cases b with
        | true => exact absurd (hf.1 rfl) no
        | false => exact Ev.ite_neg (by decide) (Ev.bind (f := fun k t2 => some t2) nr (Ev.now _))
      obtain ⟨m0, m1⟩ := mod_in (n := N.length) hx' (by omega)
      refine Ev.step (fun k => rfl) ?_
      simp only [w9_NetOdd.j0, Bool.false_eq_true, if_false, Option.bind_some, List.nil_append, List.length_nil, Nat.zero_add]
      refine Ev.ite_pos (by omega) (Ev.ite_pos (by omega) (Ev.ite_neg hz ?_))
      have node : ∀ (i : Nat) (y : Nd), i < N.length → (Lit.int .i64 y.f0).wf = true → (NodeP (N.set i y) (i : Int) → False) → Ev (fun k => (net_Right.f k (N.set i y) I C P Q).bind fun t => if t = true then none else ((net_Right.f k N I C P Q).bind fun t2 => some t2)) true := by
        intro i y hi hw no
        refine fin _ _ ⟨by simpa using s.n, s.i, s.c, s.p, s.q⟩ (fun j hj => ?_) (fun h => no (h.nodes i (by simpa using hi)))
        rw [nd_set hi]
        split
        · exact hw
        · exact wf j (by simpa using hj)
      generalize Int.tmod (wrap64 x) (N.length : Int) = kk at *
      obtain ⟨i, rfl⟩ : ∃ i : Nat, kk = (i : Int) := ⟨kk.toNat, by omega⟩
      have hiN : i < N.length := by omega
      have e0 : ∀ y : Nd, nd (N.set i y) (i : Int) = y := fun y => by rw [nd_set hiN, if_pos rfl]
      have wfi := wf i hiN
      have m5 : Int.tmod a 6 = a % 6 := Int.tmod_eq_emod_of_nonneg ha'.1
      rw [m5]
      simp only [Int.toNat_natCast]
      by_cases c0 : a % 6 = 0
      · exact Ev.ite_pos c0 (Ev.ite_pos m0 (Ev.ite_pos m1 (Ev.ite_pos trivial (node i _ hiN wfi fun h => by have := h.w16; rw [e0] at this; exact absurd this (by show ¬ ((17 : Int) ≤ 16); decide)))))
      refine Ev.ite_neg c0 ?_
      by_cases c1 : a % 6 = 1
      · exact Ev.ite_pos c1 (Ev.ite_pos m0 (Ev.ite_pos m1 (Ev.ite_pos trivial (node i _ hiN wfi fun h => by have := h.w1; rw [e0] at this; exact absurd this (by show ¬ ((1 : Int) ≤ 0); decide)))))
      refine Ev.ite_neg c1 ?_
      by_cases c2 : a % 6 = 2
      · exact Ev.ite_pos c2 (Ev.ite_pos m0 (Ev.ite_pos m1 (Ev.ite_pos trivial (node i _ hiN (by show (Lit.int .i64 19).wf = true; decide) fun h => by have := h.op; rw [e0] at this; exact absurd this (by show ¬ ((0 : Int) ≤ opk 19); decide)))))
      refine Ev.ite_neg c2 ?_
      by_cases c3 : a % 6 = 3
      · refine Ev.ite_pos c3 (Ev.ite_pos m0 (Ev.ite_pos m1 (Ev.ite_pos trivial (node i _ hiN wfi fun h => ?_))))
        have h1 := h.c0
        have h2 := h.fit
        have h3 := h.w1
        rw [e0] at h1 h2 h3
        have hw : wrap64 ((N.length : Int) + 5) = (N.length : Int) + 5 := w64 (by omega) (by omega)
        rw [hw] at h1 h2
        have hwid : ∀ M : List Nd, wid M ((N.length : Int) + 5) (i : Int) = 0 := fun M => by
          unfold wid
          exact if_pos (Or.inr (by omega))
        have h4 : ¬ (opk (nd N (i : Int)).f0 < 3) := fun z => by have : (N.length : Int) + 5 = 0 := h1 z; omega
        have hop : (nd N (i : Int)).f0 = 16 := by
          unfold opk at h4
          split at h4
          · omega
          split at h4
          · omega
          split at h4
          · omega
          split at h4
          · assumption
          · omega
        unfold FitP at h2
        simp only [hop] at h2
        have h5 : (1 : Int) ≤ (nd N (i : Int)).f1 := h3
        rcases h2 with h | h | h | h | h | h | h | h | h <;> first | omega | (exact absurd h.1 (by decide)) | skip
        have h6 := h.2.2.2.2.2
        have h7 : (0 : Int) = (nd N (i : Int)).f1 := (hwid _).symm.trans h6
        omega
      refine Ev.ite_neg c3 ?_
      by_cases c4 : a % 6 = 4
      · exact Ev.ite_pos c4 (Ev.ite_pos m0 (Ev.ite_pos m1 (Ev.ite_pos trivial (node i _ hiN wfi fun h => by have := h.fit; rw [e0] at this; exact fit_lo this rfl))))
      refine Ev.ite_neg c4 ?_
      have c5 : a % 6 = 5 := by omega
      refine Ev.ite_pos c5 ?_
      by_cases hc : (C.length : Int) = 0
      · exact Ev.ite_pos hc (Ev.now _)
      refine Ev.ite_neg hc ?_
      obtain ⟨k0, k1⟩ := mod_in (n := C.length) hx' (by omega)
      generalize Int.tmod (wrap64 x) (C.length : Int) = kk at *
      obtain ⟨j, rfl⟩ : ∃ j : Nat, kk = (j : Int) := ⟨kk.toNat, by omega⟩
      have hjC : j < C.length := by omega
      simp only [Int.toNat_natCast]
      refine Ev.ite_pos k0 (Ev.ite_pos k1 (Ev.ite_pos trivial (fin _ _ ⟨s.n, s.i, by simpa using s.c, s.p, s.q⟩ wf fun h => ?_)))
      obtain ⟨q0, q1, q2, q3, q4, q5, q6, q7⟩ := next_pos r hjC
      have hm := h.cell _ (List.mem_set hjC _)
      obtain ⟨z, -, -⟩ := hm
      have z' : (0 : Int) = (nd N (cl C (j : Int)).f1).f1 := by
        have : wid N (-1) N.length = 0 := by unfold wid; exact if_pos (Or.inl (by decide))
        exact this.symm.trans z
      omega
end Go.Proofs.Yteblbknmikieoaa.Pure
