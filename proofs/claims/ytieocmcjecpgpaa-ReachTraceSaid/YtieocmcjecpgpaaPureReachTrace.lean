/- ReachTrace, in plain Lean. -/
import Derived.Test.YtieocmcjecpgpaaPrT
import Derived.Test.YtieocmcjecpgpaaPrH
import Derived.Test.YtieocmcjecpgpaaAmY
namespace Go.Proofs.Ytieocmcjecpgpaa.Am
set_option linter.unusedVariables false
set_option linter.unusedSimpArgs false
section
variable {N : List Nd} {I : List Pn} {C : List Cl} {P : List Pw} {Q : List Pn} {n : Nat} {p : Int} {t : Tr}
theorem li_map {a b : List Nat} {x : Nat} : KLi_at ((a ++ x :: b).map (rowV N I)) (a.length : Int) = rowV N I x := by
  rw [List.map_append, List.map_cons]
  exact at_mid (t := KLi_) (by simp)
/-- Legal rows, as a trace. -/
theorem run_T : ∀ (n : Nat) (a b : List Nat) (u : List Int), a.length = n → run (sysN N I C P p) (firstV C) a = some u → sV N I C ((a ++ b).map (rowV N I)) a.length = u ∧ ∀ j : Nat, j < a.length → legalB P (vV N I C ((a ++ b).map (rowV N I)) j) = true := by
  intro n
  induction n with
  | zero =>
    intro a b u ha hr
    cases List.eq_nil_of_length_eq_zero ha
    cases hr
    exact ⟨rfl, fun j hj => by simp at hj⟩
  | succ n ih =>
    intro a b u ha hr
    obtain ⟨a0, x, rfl⟩ : ∃ a0 x, a = a0 ++ [x] := ⟨a.dropLast, a.getLast (by intro c; subst c; simp at ha), (List.dropLast_concat_getLast _).symm⟩
    simp only [List.length_append, List.length_cons, List.length_nil] at ha
    obtain ⟨v, hv, hx, hL, rfl⟩ := run_snoc.1 hr
    obtain ⟨h1, h2⟩ := ih a0 (x :: b) v (by omega) hv
    have e : a0 ++ [x] ++ b = a0 ++ x :: b := by simp
    have eL : legalB P (vV N I C ((a0 ++ x :: b).map (rowV N I)) a0.length) = true := by
      unfold vV
      rw [h1, li_map]
      exact hL
    rw [e]
    refine ⟨?_, fun j hj => ?_⟩
    · rw [show (a0 ++ [x]).length = a0.length + 1 by simp, sV, h1, li_map]
      rfl
    · rw [show (a0 ++ [x]).length = a0.length + 1 by simp] at hj
      by_cases c : j = a0.length
      · rw [c]; exact eL
      · exact h2 j (by omega)
theorem fit_map (r : RightP N I C P Q) {a : List Nat} (h : a.length ≤ 200) : FitT N I (a.map (rowV N I)) := ⟨by simpa using h, fun j hj => by
  rw [show KLi_at (a.map (rowV N I)) (j : Int) = _ from at_nat (t := KLi_) hj, List.getElem_map]
  exact fit_row r _⟩
/-- The trace that is found hits at its last cycle, and nowhere ahead. -/
theorem found_hit (r : RightP N I C P Q) {q i k : Nat} {l : List (List Int × List Nat)} {e : List Int × List Nat} (h : Found (sysN N I C P (q : Int)) (some (i, k), l)) (he : l[i]? = some e) (hl : e.2.length < 64) (h9 : (Kisi_at P (q : Int)).1 ≠ 9) : hitV N I C P ((e.2 ++ [k]).map (rowV N I)) q = ((e.2.length : Int), true) := by
  have ft : FitT N I ((e.2 ++ [k]).map (rowV N I)) := fit_map r (by simp; omega)
  obtain ⟨h0, hk, e', he', hL, hH⟩ := id h
  rw [he] at he'
  cases he'
  obtain ⟨h1, h2⟩ := run_T _ e.2 [k] e.1 rfl (h0.path i e he)
  have hv : vV N I C ((e.2 ++ [k]).map (rowV N I)) e.2.length = evalV N I C e.1 (rowV N I k) := by
    unfold vV
    rw [h1, li_map]
  have hL' : legalB P (vV N I C ((e.2 ++ [k]).map (rowV N I)) e.2.length) = true := by rw [hv]; exact hL
  have hH' : hitB P q (vV N I C ((e.2 ++ [k]).map (rowV N I)) e.2.length) = true := by
    rw [hv]
    have : (if (q : Int) < 0 then false else hitB P (q : Int).toNat (evalV N I C e.1 (rowV N I k))) = true := hH
    rw [if_neg (by omega)] at this
    exact this
  unfold hitV
  rw [if_neg h9]
  refine hitS_at (by simp) (fun j hj => ⟨h2 j hj, ?_⟩) hL' hH'
  cases hj2 : hitB P q (vV N I C ((e.2 ++ [k]).map (rowV N I)) j) with
  | false => rfl
  | true =>
    have := tle_len (hit_le ft h he (j := j) (by simp; omega) (fun i hi => h2 i (by omega)) (h2 j hj) hj2)
    rw [idx_len] at this
    simp at this
    omega
theorem llt_at : ∀ {b a : List Nat} (i : Nat), llt b a → (∀ j, j < i → b[j]? = a[j]?) → i < b.length → i < a.length → b[i]? ≠ a[i]? → ∃ x y, b[i]? = some x ∧ a[i]? = some y ∧ x < y
  | [], _, _, h, _, _, _, _ => h.elim
  | _ :: _, [], _, h, _, _, _, _ => h.elim
  | x :: b, y :: a, 0, h, _, _, _, hn => by
    rcases h with h | h
    · exact ⟨x, y, rfl, rfl, h⟩
    · rw [h.1] at hn; exact absurd rfl hn
  | x :: b, y :: a, i + 1, h, hp, h1, h2, hn => by
    have h0 := hp 0 (by omega)
    simp only [List.getElem?_cons_zero, Option.some.injEq] at h0
    rcases h with h | h
    · omega
    · obtain ⟨u, v, q1, q2, q3⟩ := llt_at i h.2 (fun j hj => by simpa using hp (j + 1) (by omega)) (by simpa using h1) (by simpa using h2) (by simpa using hn)
      exact ⟨u, v, by simpa using q1, by simpa using q2, q3⟩
theorem ahead_l {x y : Tr} {d : Nat} (hd : d < x.length ∧ d < y.length) (hl : (KLi_at x (d : Int)).length = I.length ∧ (KLi_at y (d : Int)).length = I.length) (hI : I.length ≤ 64) (hn : 1000 < n) (h : KLi_at x (d : Int) = KLi_at y (d : Int) ∨ rlt (KLi_at y (d : Int)) (KLi_at x (d : Int))) : law12_ahead_l1 n ((d : Int), ()) x y (0, ()) = if KLi_at x (d : Int) = KLi_at y (d : Int) then some (.inr ()) else some (.inl (false, ())) := by
  have l1 := iter_all (F := law12_ahead_l1b n ((d : Int), ()) x y) (fun j => ((j : Int), ())) (fun j => Ki_at (KLi_at x (d : Int)) (j : Int) = Ki_at (KLi_at y (d : Int)) (j : Int)) (fun j => (decide (Ki_at (KLi_at x (d : Int)) (j : Int) < Ki_at (KLi_at y (d : Int)) (j : Int)), ())) () (len := I.length) (m := n)
    (fun self j hj hall hk => by
      unfold law12_ahead_l1b
      simp only [cond_dec]
      rw [ask_of (by omega), if_pos (by omega), ask_of (by omega), if_pos (by omega), ask_of (by omega), ask_of (by omega), ask_of (by omega), ask_of (by omega), if_neg (by simpa using hk), succ64 (by omega)])
    (fun self j hj hall hk => by
      unfold law12_ahead_l1b
      simp only [cond_dec]
      rw [ask_of (by omega), if_pos (by omega), ask_of (by omega), if_pos (by omega), ask_of (by omega), ask_of (by omega), ask_of (by omega), ask_of (by omega), if_pos hk, ask_of (by omega), ask_of (by omega), ask_of (by omega), ask_of (by omega)])
    (fun _ self => by
      unfold law12_ahead_l1b
      simp only [cond_dec]
      rw [ask_of (by omega), if_neg (by omega)]) (by omega)
  rcases l1 with ⟨ha, e⟩ | ⟨j, hj, ha, hk, e⟩
  · have : KLi_at x (d : Int) = KLi_at y (d : Int) := ext_at (t := i_) (by rw [hl.1, hl.2]) fun j hj => ha j (by omega)
    rw [if_pos this]
    exact e
  · have hne : KLi_at x (d : Int) ≠ KLi_at y (d : Int) := fun q => hk (by rw [q])
    rw [if_neg hne]
    rcases h with h | ⟨c, h1, h2, h3⟩
    · exact absurd h hne
    · have hcj : c = j := by
        rcases Nat.lt_trichotomy c j with q | q | q
        · have := ha c q; omega
        · exact q
        · exact absurd (h2 j q).symm hk
      subst hcj
      rw [decide_eq_false (by omega)] at e
      exact e
theorem ahead_f {b : List Nat} (r : RightP N I C P Q) (ft : FitT N I t) (hb : ∀ x ∈ b, x < tot (wI N I) I.length) (hl : b.length ≤ t.length) (hl2 : b.length ≤ 64) (h0 : 0 < b.length) (hn : 1000 < n) (h : tle b (idx N I t b.length)) : law12_ahead n t (b.map (rowV N I)) ((b.length - 1 : Nat) : Int) = some (false, ()) := by
  have hI := r.i
  have bl : (b.map (rowV N I)).length = b.length := by simp
  have il : (idx N I t b.length).length = b.length := idx_len
  have bat : ∀ (d : Nat) (hd : d < b.length), KLi_at (b.map (rowV N I)) (d : Int) = rowV N I b[d] := fun d hd => by
    rw [show KLi_at (b.map (rowV N I)) (d : Int) = _ from at_nat (t := KLi_) (by omega), List.getElem_map]
  have tat : ∀ (d : Nat), d < b.length → KLi_at t (d : Int) = rowV N I (numI N I (KLi_at t (d : Int))) := fun d hd => (numI_of (ft.2 d (by omega))).2.symm
  have iat : ∀ (d : Nat), d < b.length → (idx N I t b.length)[d]? = some (numI N I (KLi_at t (d : Int))) := fun d hd => by simp [idx, hd]
  -- where rows are unlike first, the trace's is greater
  have key : ∀ d : Nat, d < b.length → (∀ j : Nat, j < d → KLi_at t (j : Int) = KLi_at (b.map (rowV N I)) (j : Int)) → KLi_at t (d : Int) = KLi_at (b.map (rowV N I)) (d : Int) ∨ rlt (KLi_at (b.map (rowV N I)) (d : Int)) (KLi_at t (d : Int)) := fun d hd hall => by
    by_cases c : KLi_at t (d : Int) = KLi_at (b.map (rowV N I)) (d : Int)
    · exact .inl c
    · refine .inr ?_
      have hne : b[d]? ≠ (idx N I t b.length)[d]? := fun q => c (by
        rw [iat d hd, List.getElem?_eq_getElem hd] at q
        rw [bat d hd, tat d hd, ← Option.some.inj q])
      have hpre : ∀ j, j < d → b[j]? = (idx N I t b.length)[j]? := fun j hj => by
        have q := hall j hj
        rw [bat j (by omega), tat j (by omega)] at q
        rw [iat j (by omega), List.getElem?_eq_getElem (show j < b.length by omega)]
        exact congrArg some (row_inj (hb _ (List.getElem_mem _)) (numI_of (ft.2 j (by omega))).1 q.symm)
      rcases h with h | h | h
      · exact absurd (by rw [← h]) hne
      · omega
      · obtain ⟨x, y, q1, q2, q3⟩ := llt_at d h.2 hpre hd (by omega) hne
        rw [iat d hd] at q2
        rw [List.getElem?_eq_getElem hd] at q1
        cases q1
        cases q2
        rw [bat d hd, tat d hd]
        exact dg_lt I.length _ _ (hb _ (List.getElem_mem _)) (numI_of (ft.2 d (by omega))).1 q3
  have rl : ∀ d : Nat, d < b.length → (KLi_at t (d : Int)).length = I.length ∧ (KLi_at (b.map (rowV N I)) (d : Int)).length = I.length := fun d hd => ⟨(ft.2 d (by omega)).1, by rw [bat d hd]; exact row_len _⟩
  have l2 := iter_all (F := law12_ahead_l2b n t (b.map (rowV N I)) ((b.length - 1 : Nat) : Int)) (fun j => ((j : Int), ())) (fun j => KLi_at t (j : Int) = KLi_at (b.map (rowV N I)) (j : Int)) (fun j => (false, ())) () (len := b.length) (m := n)
    (fun self j hj hall hk => by
      unfold law12_ahead_l2b
      simp only [cond_dec]
      rw [if_pos (by omega), if_pos (by omega), if_pos (by omega), ahead_l (by omega) (rl j hj) hI hn (key j hj hall), if_pos hk, succ64 (by omega)]
      rfl)
    (fun self j hj hall hk => by
      unfold law12_ahead_l2b
      simp only [cond_dec]
      rw [if_pos (by omega), if_pos (by omega), if_pos (by omega), ahead_l (by omega) (rl j hj) hI hn (key j hj hall), if_neg hk]
      rfl)
    (fun _ self => by
      unfold law12_ahead_l2b
      simp only [cond_dec]
      rw [if_neg (by omega)]) (by omega)
  unfold law12_ahead law12_ahead_l2
  rcases l2 with ⟨-, e⟩ | ⟨j, -, -, -, e⟩
  · rw [show iter (law12_ahead_l2b n t (b.map (rowV N I)) ((b.length - 1 : Nat) : Int)) n (0, ()) = _ from e]
    rfl
  · rw [show iter (law12_ahead_l2b n t (b.map (rowV N I)) ((b.length - 1 : Nat) : Int)) n (0, ()) = _ from e]
    rfl
end
theorem traces {N I C P Q} {l : Tr} {a : Int} (hl : U16r l) (ha : (Lit.int .u8 a).wf = true) : law12_ReachTrace big N I C P Q a l = some (true, ()) := by
  have hn : 20000 < big := by decide
  have hn2 : 1000 < big := by decide
  unfold law12_ReachTrace
  rw [head12, bindS]
  obtain ⟨g, hg, hs⟩ := great12_f (n := big) (N := N) (I := I) (C := C) (P := P) (Q := Q) (by decide)
  rw [hg, bindS]
  cases g with
  | true => rfl
  | false =>
    obtain ⟨s, r, -⟩ := hs rfl
    simp only [cond_false, cond_dec]
    by_cases hP : (P.length : Int) = 0
    · rw [if_pos hP]
    rw [if_neg hP, ask_of hP]
    obtain ⟨q, hq, e⟩ := lit_mod8 (m := P.length) ha (by omega) (by have := r.p; omega)
    rw [e, tell_f s r hn, bindS]
    have ft := trace_fit (l := l) r hl
    have tl := trace_len (N := N) (I := I) (l := l)
    unfold tellV
    cases hb : badP P (q : Int) with
    | true => rfl
    | false =>
      obtain ⟨-, -, h9⟩ := badP_no hb
      cases hsm : smB N with
      | false => rfl
      | true =>
        obtain ⟨-, hf⟩ := res_f (p := (q : Int)) r (sm_of r hsm)
        generalize resN N I C P (q : Int) = x at hf
        obtain ⟨x1, ls⟩ := x
        cases x1 with
        | none => rfl
        | some ik =>
          obtain ⟨i, k⟩ := ik
          have hf2 := hf
          obtain ⟨h0, hk, e, he, hL, hH⟩ := hf2
          simp only [tellR, he, Option.getD_some]
          by_cases c : e.2.length < 64
          · rw [if_pos c]
            have hfh := found_hit r hf he c h9
            have ftf : FitT N I ((e.2 ++ [k]).map (rowV N I)) := fit_map r (by simp; omega)
            obtain ⟨b, hbr, hbi⟩ := simRight_f (n := big) (t := (e.2 ++ [k]).map (rowV N I)) s r (by simp; omega) hn2
            have hb1 : b = true := hbi.2 ⟨by simp; omega, ftf.2⟩
            subst hb1
            have ml : ((e.2 ++ [k]).map (rowV N I)).length = e.2.length + 1 := by simp
            simp only [bindS, ne_eq, not_true_eq_false, decide_false, if_false, Bool.false_eq_true, ml]
            rw [if_neg (by omega), cond_false, hbr, bindS]
            simp only [Bool.not_true, cond_false]
            rw [simHit_f s r ftf hn2 hq, bindS, hfh]
            simp only [Bool.not_true, cond_false]
            rw [if_neg (by rw [w64 (by omega) (by omega)]; omega), trace_f s r hn2, bindS, simHit_f s r ft hn2 hq, bindS]
            -- the other trace
            cases ht : (hitV N I C P (traceV N I l) q).2 with
            | false => rfl
            | true =>
              have hj : ∃ j : Nat, j < (traceV N I l).length ∧ legalB P (vV N I C (traceV N I l) j) = true ∧ hitB P q (vV N I C (traceV N I l) j) = true ∧ (∀ i, i < j → legalB P (vV N I C (traceV N I l) i) = true) ∧ hitV N I C P (traceV N I l) q = ((j : Int), true) := by
                have hx := ht
                unfold hitV at hx ⊢
                rw [if_neg h9] at hx ⊢
                rcases hitS_spec (L := fun k => legalB P (vV N I C (traceV N I l) k)) (H := fun k => hitB P q (vV N I C (traceV N I l) k)) (traceV N I l).length 0 with ⟨j, -, h2, h3, h4, h5, h6⟩ | ⟨h1, -⟩
                · exact ⟨j, by omega, h3, h4, fun i hi => (h5 i (by omega) hi).1, h6⟩
                · rw [h1] at hx; cases hx
              obtain ⟨j, hj, j1, j2, j3, j4⟩ := hj
              have hle := hit_le ft hf he hj j3 j1 j2
              have hlen := tle_len hle
              rw [idx_len] at hlen
              simp only [List.length_append, List.length_cons, List.length_nil] at hlen
              rw [j4]
              simp only [Bool.not_true, cond_false]
              rw [if_neg (by omega), if_neg (by omega)]
              by_cases d : (e.2.length : Int) < (j : Int)
              · rw [if_pos d]
              · rw [if_neg d]
                have ej : j = e.2.length := by omega
                have ea : (e.2 ++ [k]).length = e.2.length + 1 := by simp
                have := ahead_f (n := big) (t := traceV N I l) (b := e.2 ++ [k]) r ft (fun x hx => by
                  rcases List.mem_append.1 hx with hx | hx
                  · exact h0.rows he x hx
                  · cases List.mem_singleton.1 hx; exact hk) (by omega) (by omega) (by omega) hn2 (by rw [ea, ← ej]; exact hle)
                rw [ea, Nat.add_sub_cancel] at this
                simp only [cond_true]
                rw [this, bindS]
                rfl
          · rw [if_neg c]
            rfl
end Go.Proofs.Ytieocmcjecpgpaa.Am
namespace Go.Proofs.Ytieocmcjecpgpaa.Pure
open Go.Proofs.Ytieocmcjecpgpaa.Am
theorem ReachTrace (d : law12_ReachTrace_s.I) (h : BAs law12_ReachTrace_s.ar d fun _ => True) : ∃ n, law12_ReachTrace n d.1 d.2.1 d.2.2.1 d.2.2.2.1 d.2.2.2.2.1 d.2.2.2.2.2.1 d.2.2.2.2.2.2.1 = some (true, ()) := by
  obtain ⟨-, -, -, -, -, h1, h2, -⟩ := h
  exact ⟨big, traces (fun x hx => (h2.2 x hx).2) h1⟩
end Go.Proofs.Ytieocmcjecpgpaa.Pure
