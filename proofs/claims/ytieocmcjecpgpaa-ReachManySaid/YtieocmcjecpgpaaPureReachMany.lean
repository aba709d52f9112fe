/- ReachMany, in plain Lean. -/
import Derived.Test.YtieocmcjecpgpaaPrR
import Derived.Test.YtieocmcjecpgpaaPrH
import Derived.Test.YtieocmcjecpgpaaAmY
namespace Go.Proofs.Ytieocmcjecpgpaa.Am
set_option linter.unusedVariables false
set_option linter.unusedSimpArgs false
section
variable {N : List Nd} {I : List Pn} {C : List Cl} {P : List Pw} {Q : List Pn} {n : Nat} {p : Int} {t : Tr} {l l' : List (List Int × List Nat)}
theorem in_f {M : Tr} {x : List Int} (hM : M.length ≤ 1000) (hl : ∀ y ∈ M, y.length ≤ 1000) (hn : 1000 < n) : law12_in n M x = some (decide (x ∈ M), ()) := by
  have mem : ∀ j : Nat, j < M.length → KLi_at M (j : Int) ∈ M := fun j hj => mem_at (t := KLi_) hj
  have l1 := iter_all (F := law12_in_l1b n M x) (fun j => ((j : Int), ())) (fun j => KLi_at M (j : Int) ≠ x) (fun j => (true, ())) () (len := M.length) (m := n)
    (fun self j hj hall hk => by
      unfold law12_in_l1b
      simp only [cond_dec]
      rw [if_pos (by omega), ask_of (by omega), sameOne_f (hl _ (mem j hj)) hn, bindS]
      simp only
      rw [decide_eq_false hk, succ64 (by omega)]
      rfl)
    (fun self j hj hall hk => by
      unfold law12_in_l1b
      simp only [cond_dec]
      rw [if_pos (by omega), ask_of (by omega), sameOne_f (hl _ (mem j hj)) hn, bindS]
      simp only
      rw [decide_eq_true (Classical.not_not.1 hk)]
      rfl)
    (fun _ self => by
      unfold law12_in_l1b
      simp only [cond_dec]
      rw [if_neg (by omega)]) (by omega)
  unfold law12_in law12_in_l1
  rcases l1 with ⟨ha, e⟩ | ⟨j, hj, -, hk, e⟩
  · rw [show iter (law12_in_l1b n M x) n (0, ()) = _ from e, bindS, Sum.elim_inr, decide_eq_false (fun q => ?_)]
    obtain ⟨j, hj, rfl⟩ := List.getElem_of_mem q
    exact ha j hj (at_nat (t := KLi_) hj)
  · rw [show iter (law12_in_l1b n M x) n (0, ()) = _ from e, bindS, Sum.elim_inl, decide_eq_true (by rw [← Classical.not_not.1 hk]; exact mem j hj)]
theorem few_in {M : List (List Int)} (nd : ∀ (a b : Nat) x y, M[a]? = some x → M[b]? = some y → x = y → a = b) (h : ∀ x ∈ M, ∃ (b : Nat) (e : List Int × List Nat), l[b]? = some e ∧ e.1 = x) : M.length ≤ l.length := by
  let f : List Int → Nat := fun x => open Classical in if h : ∃ (b : Nat) (e : List Int × List Nat), l[b]? = some e ∧ e.1 = x then Classical.choose h else 0
  have hf : ∀ x ∈ M, ∃ e : List Int × List Nat, l[f x]? = some e ∧ e.1 = x := fun x hx => by
    have h := h x hx
    simp only [f, dif_pos h]
    exact Classical.choose_spec h
  refine few_of (f := f) (fun a b x y ha hb e => nd a b x y ha hb ?_) fun x hx => ?_
  · obtain ⟨e1, q1, q2⟩ := hf x (List.mem_of_getElem? ha)
    obtain ⟨e2, q3, q4⟩ := hf y (List.mem_of_getElem? hb)
    rw [e, q3] at q1
    cases q1
    rw [← q2, ← q4]
  · obtain ⟨e, q1, -⟩ := hf x hx
    exact (List.getElem?_eq_some_iff.1 q1).1
theorem run_same {σ : Type} {S S' : Sys σ} (hm : S.m = S'.m) (hL : S.L = S'.L) (hA : S.A = S'.A) : ∀ (t : List Nat) (s : σ), run S s t = run S' s t
  | [], _ => rfl
  | k :: t, s => by
    unfold run
    rw [hm, hL, hA, run_same hm hL hA t]
/-- All that is found, with any property or none, is found with none. -/
theorem count_le {p : Int} {i k : Nat} (h : Inv (sysN N I C P p) i k l) (h' : Found (sysN N I C P (-1)) (none, l')) : l.length ≤ l'.length := by
  have := few_in (l := l') (M := l.map (·.1)) (fun a b x y ha hb e => by
    rw [List.getElem?_map] at ha hb
    cases qa : l[a]? with
    | none => rw [qa] at ha; cases ha
    | some ea =>
      cases qb : l[b]? with
      | none => rw [qb] at hb; cases hb
      | some eb =>
        rw [qa] at ha
        rw [qb] at hb
        cases ha
        cases hb
        exact h.nd a b ea eb qa qb e) (fun x hx => by
    obtain ⟨e, he, rfl⟩ := List.mem_map.1 hx
    obtain ⟨b, hb⟩ := List.getElem?_of_mem he
    have this : run (sysN N I C P (-1)) (firstV C) e.2 = some e.1 := (run_same (S := sysN N I C P (-1)) (S' := sysN N I C P p) rfl rfl rfl e.2 (firstV C)).trans (h.path b e hb)
    obtain ⟨b', e', q1, q2, -⟩ := h'.all this
    exact ⟨b', e', q1, q2⟩)
  simpa using this
theorem met_l (s : Small N I C P Q) (r : RightP N I C P Q) (ft : FitT N I t) (ht : t.length ≤ 64) (hn : 1000 < n) (h : Found (sysN N I C P (-1)) (none, l)) : ∀ (d i m : Nat) (M : Tr), i + d = t.length + 1 → d < m → M.length ≤ i → (∀ x ∈ M, ∃ (b : Nat) (e : List Int × List Nat), l[b]? = some e ∧ e.1 = x) → (∀ (a b : Nat) x y, M[a]? = some x → M[b]? = some y → x = y → a = b) → (∀ x ∈ M, x.length = C.length) → (∀ j, j + 1 < i → legalB P (vV N I C t j) = true) →
    ∃ M' : Tr, iter (law12_ReachMany_l1b n ((List.range (t.length + 1)).map (sV N I C t), ()) ((List.range t.length).map (fun k => bitsV P (vV N I C t k)), ()) N I C P Q) m ((i : Int), M, ()) = some (M', ()) ∧ M'.length ≤ l.length := by
  have s3 := s.c
  have hS : ∀ k : Nat, k < t.length + 1 → KLi_at ((List.range (t.length + 1)).map (sV N I C t)) (k : Int) = sV N I C t k := fun k hk => at_range (t := KLi_) hk
  have hB : ∀ k : Nat, k < t.length → KLb_at ((List.range t.length).map (fun k => bitsV P (vV N I C t k))) (k : Int) = bitsV P (vV N I C t k) := fun k hk => at_range (t := KLb_) (g := fun k => bitsV P (vV N I C t k)) hk
  have lS : ((List.range (t.length + 1)).map (sV N I C t)).length = t.length + 1 := by simp
  have lB : ((List.range t.length).map (fun k => bitsV P (vV N I C t k))).length = t.length := by simp
  generalize (List.range (t.length + 1)).map (sV N I C t) = X at *
  generalize (List.range t.length).map (fun k => bitsV P (vV N I C t k)) = Y at *
  intro d
  induction d with
  | zero =>
    intro i m M hi hm hl hall hnd hlen hleg
    obtain ⟨m, rfl⟩ : ∃ k, m = k + 1 := ⟨m - 1, by omega⟩
    rw [iter_s]
    unfold law12_ReachMany_l1b
    simp only [cond_dec]
    rw [if_neg (by omega)]
    exact ⟨M, rfl, few_in hnd hall⟩
  | succ d ih =>
    intro i m M hi hm hl hall hnd hlen hleg
    obtain ⟨m, rfl⟩ : ∃ k, m = k + 1 := ⟨m - 1, by omega⟩
    have hx := sV_len (N := N) (I := I) (C := C) (t := t) i
    -- a state that is met
    have go : (∀ j, j < i → legalB P (vV N I C t j) = true) → ∃ M' : Tr, (ask (0 ≤ (i : Int) ∧ (i : Int) < (X.length : Int)) ((law12_in n M (sV N I C t i)).bind (fun r18 => cond (!r18.1) (ask (0 ≤ (i : Int) ∧ (i : Int) < (X.length : Int)) (ask (True ∧ (M.length + (([sV N I C t i] : List (List Int))).length) * 24 ≤ 140737488355328) (iter (law12_ReachMany_l1b n (X, ()) (Y, ()) N I C P Q) m (IntKind.wrap .i64 ((i : Int) + 1), M ++ ([sV N I C t i] : List (List Int)), ())))) (iter (law12_ReachMany_l1b n (X, ()) (Y, ()) N I C P Q) m (IntKind.wrap .i64 ((i : Int) + 1), M, ()))))) = some (M', ()) ∧ M'.length ≤ l.length := by
      intro hl2
      obtain ⟨b, e, q1, q2, -⟩ := h.all (run_idx (p := -1) ft i (by omega) hl2)
      rw [ask_of (by omega), in_f (by omega) (fun y hy => by rw [hlen y hy]; omega) hn, bindS, succ64 (by omega)]
      simp only
      by_cases c : sV N I C t i ∈ M
      · rw [decide_eq_true c]
        exact ih (i + 1) m M (by omega) (by omega) (by omega) hall hnd hlen (fun j hj => hl2 j (by omega))
      · rw [decide_eq_false c]
        simp only [Bool.not_false, cond_true]
        rw [ask_of (by omega), ask_of ⟨trivial, by simp; omega⟩]
        refine ih (i + 1) m _ (by omega) (by omega) (by simp; omega) (fun x hx => ?_) (fun a b x y ha hb e => ?_) (fun x hx => ?_) (fun j hj => hl2 j (by omega))
        · rcases List.mem_append.1 hx with hx | hx
          · exact hall x hx
          · cases List.mem_singleton.1 hx; exact ⟨_, _, q1, q2⟩
        · rcases getE_snoc ha with ha | ⟨rfl, rfl⟩ <;> rcases getE_snoc hb with hb | ⟨rfl, rfl⟩
          · exact hnd a b x y ha hb e
          · exact absurd (e ▸ List.mem_of_getElem? ha) c
          · exact absurd (e ▸ List.mem_of_getElem? hb) c
          · rfl
        · rcases List.mem_append.1 hx with hx | hx
          · exact hlen x hx
          · cases List.mem_singleton.1 hx; exact sV_len _
    rw [iter_s]
    have ei := hS i (by omega)
    generalize iter (law12_ReachMany_l1b n (X, ()) (Y, ()) N I C P Q) m = self at ih go ⊢
    unfold law12_ReachMany_l1b
    simp only [cond_dec]
    rw [if_pos (by omega)]
    by_cases c0 : (0 : Int) < (i : Int)
    · obtain ⟨j, rfl⟩ : ∃ j, i = j + 1 := ⟨i - 1, by omega⟩
      have ej : IntKind.wrap .i64 (((j + 1 : Nat) : Int) - 1) = (j : Int) := by rw [w64 (by omega) (by omega)]; omega
      have bl := bitsV_len (P := P) (v := vV N I C t j)
      rw [if_pos c0, ej, ask_of (by omega), hB j (by omega), if_neg (by omega), ask_of (by omega), rLegal_f s r (vV_nums r ft (by omega)) hn, bindS]
      simp only
      cases hL : legalB P (vV N I C t j) with
      | false => exact ⟨M, rfl, few_in hnd hall⟩
      | true =>
        simp only [Bool.not_true, cond_false, ei]
        refine go fun k hk => ?_
        by_cases e : k = j
        · rw [e]; exact hL
        · exact hleg k (by omega)
    · rw [if_neg c0]
      simp only [ei]
      exact go fun k hk => by omega
end
theorem manies {N I C P Q} {l : Tr} {a : Int} (hl : U16r l) (ha : (Lit.int .u8 a).wf = true) : law12_ReachMany big N I C P Q a l = some (true, ()) := by
  have hn : 20000 < big := by decide
  have hn2 : 1000 < big := by decide
  unfold law12_ReachMany
  rw [head12, bindS]
  obtain ⟨g, hg, hs⟩ := great12_f (n := big) (N := N) (I := I) (C := C) (P := P) (Q := Q) (by decide)
  rw [hg, bindS]
  cases g with
  | true => rfl
  | false =>
    obtain ⟨s, r, -⟩ := hs rfl
    simp only [cond_false, cond_dec]
    by_cases hP : (P.length : Int) = 0
    · rw [if_pos hP]
    obtain ⟨q, hq, e⟩ := lit_mod8 (m := P.length) ha (by omega) (by have := r.p; omega)
    obtain ⟨hm, hmn⟩ := many_f (n := big) s r hn
    rw [if_neg hP, hm, bindS, e]
    have ft := trace_fit (l := l) r hl
    have tl := trace_len (N := N) (I := I) (l := l)
    unfold manyV
    cases hsm : smB N with
    | false => rfl
    | true =>
      obtain ⟨-, hf⟩ := res_f (p := -1) r (sm_of r hsm)
      have hx := hmn hsm
      generalize resN N I C P (-1) = x at hf hx
      obtain ⟨x1, lm⟩ := x
      have hx : x1 = none := hx
      subst hx
      have hinv : Inv (sysN N I C P (-1)) lm.length 0 lm := hf
      have h1 : 0 < lm.length := (List.getElem?_eq_some_iff.1 hinv.z).1
      have h2 : lm.length ≤ 4096 := Nat.le_trans (inv_few r hinv) (sm_of r hsm).s
      simp only [ne_eq, not_true_eq_false, if_false]
      rw [trace_f s r hn2, bindS, states_f s r ft hn2, bindS, run_f s r ft hn2, bindS]
      have e1 : IntKind.wrap .i64 (((traceV N I l).length : Int) + 1) = (((traceV N I l).length + 1 : Nat) : Int) := succ64 (by omega)
      simp only [List.length_map, List.length_range, e1, ne_eq, not_true_eq_false, if_false]
      obtain ⟨M, hM, hMl⟩ := met_l (n := big) (t := traceV N I l) s r ft (by omega) hn2 hf ((traceV N I l).length + 1) 0 big [] (by omega) (by have : (big : Nat) = 18446744073709551616 := rfl; omega) (by simp) (by simp) (fun a b x y ha => by simp at ha) (by simp) (fun j hj => by omega)
      unfold law12_ReachMany_l1
      rw [show iter (law12_ReachMany_l1b big ((List.range ((traceV N I l).length + 1)).map (sV N I C (traceV N I l)), ()) ((List.range (traceV N I l).length).map (fun k => bitsV P (vV N I C (traceV N I l) k)), ()) N I C P Q) big (0, [], ()) = _ from hM, bindS, ask_of hP, tell_f s r hn, bindS]
      have last : (if (1 : Int) ≤ (lm.length : Int) then some (decide ((M.length : Int) ≤ (lm.length : Int)), ()) else some (false, ())) = some (true, ()) := by
        rw [if_pos (by omega), decide_eq_true (by omega)]
      simp only [cond_true, last]
      -- what is told of the property
      unfold tellV
      cases hb : badP P (q : Int) with
      | true => rfl
      | false =>
        rw [hsm]
        obtain ⟨-, hf2⟩ := res_f (p := (q : Int)) r (sm_of r hsm)
        generalize resN N I C P (q : Int) = y at hf2
        obtain ⟨y1, ly⟩ := y
        cases y1 with
        | none =>
          have hi2 : Inv (sysN N I C P (q : Int)) ly.length 0 ly := hf2
          have hc := count_le hi2 hf
          have h3 : 0 < ly.length := (List.getElem?_eq_some_iff.1 hi2.z).1
          have hk := hi2.len (ly.length - 1) ly[ly.length - 1] (List.getElem?_eq_getElem (by omega))
          simp only [tellR, List.getElem?_eq_getElem (show ly.length - 1 < ly.length by omega), Option.getD_some]
          rw [if_pos trivial, if_pos trivial, if_neg (by omega), if_neg (by omega)]
        | some ik =>
          obtain ⟨i, k⟩ := ik
          by_cases c : ((ly[i]?).getD ([], [])).2.length < 64
          · simp only [tellR, if_pos c]
            rfl
          · simp only [tellR, if_neg c]
            rfl
end Go.Proofs.Ytieocmcjecpgpaa.Am
namespace Go.Proofs.Ytieocmcjecpgpaa.Pure
open Go.Proofs.Ytieocmcjecpgpaa.Am
theorem ReachMany (d : law12_ReachMany_s.I) (h : BAs law12_ReachMany_s.ar d fun _ => True) : ∃ n, law12_ReachMany n d.1 d.2.1 d.2.2.1 d.2.2.2.1 d.2.2.2.2.1 d.2.2.2.2.2.1 d.2.2.2.2.2.2.1 = some (true, ()) := by
  obtain ⟨-, -, -, -, -, h1, h2, -⟩ := h
  exact ⟨big, manies (fun x hx => (h2.2 x hx).2) h1⟩
end Go.Proofs.Ytieocmcjecpgpaa.Pure
