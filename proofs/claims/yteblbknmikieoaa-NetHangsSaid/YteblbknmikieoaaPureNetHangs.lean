/- NetHangs, plainly: with another number for one input, or one cell, only nodes that reach it are others. -/
import Derived.Test.YteblbknmikieoaaPlEval
import Derived.Test.YteblbknmikieoaaAmY
namespace Go.Proofs.Yteblbknmikieoaa.Am
set_option linter.unusedVariables false
set_option linter.unusedSimpArgs false
set_option maxRecDepth 100000 in
/-- What a node makes hangs on its operands alone. -/
theorem do_cong {N : List Nd} {v v' : List Int} {x : Nd} (ho : 0 ≤ opk x.1) (ha : 0 < opk x.1 → Ki_at v x.2.2.1 = Ki_at v' x.2.2.1) (hb : 1 < opk x.1 → Ki_at v x.2.2.2.1 = Ki_at v' x.2.2.2.1) (hc : 2 < opk x.1 → Ki_at v x.2.2.2.2.1 = Ki_at v' x.2.2.2.2.1) : doV N v x = doV N v' x := by
  unfold doV
  generalize Ki_at v x.2.2.1 = a at *
  generalize Ki_at v' x.2.2.1 = a' at *
  generalize Ki_at v x.2.2.2.1 = b at *
  generalize Ki_at v' x.2.2.2.1 = b' at *
  generalize Ki_at v x.2.2.2.2.1 = c at *
  generalize Ki_at v' x.2.2.2.2.1 = c' at *
  rcases opk_cases ho with o | o | o | o | o | o | o | o | o | o | o | o | o | o | o | o | o | o | o <;> rw [o] at ha hb hc ⊢ <;> (try have ha := ha (by decide)) <;> (try have hb := hb (by decide)) <;> (try have hc := hc (by decide)) <;> (try subst ha) <;> (try subst hb) <;> (try subst hc) <;> simp [vec_Do, vec_works, vec_two__vec_works_2, vec_asked__vec_works_3, vec_two__vec_works_5, vec_two__vec_works_6, vec_two__vec_works_7, vec_two__vec_works_8, vec_two__vec_works_9, vec_two__vec_works_10, vec_asked__vec_works_11, vec_asked__vec_works_12, vec_asked__vec_works_13, vec_asked__vec_works_14, vec_works_1, vec_works_2, vec_works_3, vec_works_4, vec_works_5, vec_works_6, vec_works_7, vec_works_8, vec_works_9, vec_works_10, vec_works_11, vec_works_12, vec_works_13, vec_works_14, vec_works_15, vec_works_16, vec_works_17, vec_two_1__vec_works_2, vec_two_1__vec_works_5, vec_two_1__vec_works_6, vec_two_1__vec_works_7, vec_two_1__vec_works_8, vec_two_1__vec_works_9, vec_two_1__vec_works_10, vec_asked_1__vec_works_3, vec_asked_1__vec_works_11, vec_asked_1__vec_works_12, vec_asked_1__vec_works_13, vec_asked_1__vec_works_14]
/-- Is a node one that reaches a place, of what those ahead do? -/
def rv (N : List Nd) (at_ : Int) (v : List Bool) (i : Nat) : Bool :=
  decide ((i : Int) = at_) || (decide (0 < opk (Kiiiiiii_at N i).1) && Kb_at v (Kiiiiiii_at N i).2.2.1) || (decide (1 < opk (Kiiiiiii_at N i).1) && Kb_at v (Kiiiiiii_at N i).2.2.2.1) || (decide (2 < opk (Kiiiiiii_at N i).1) && Kb_at v (Kiiiiiii_at N i).2.2.2.2.1)
def reS (N : List Nd) (at_ : Int) : Nat → List Bool
  | 0 => List.replicate N.length false
  | i + 1 => (reS N at_ i).set i (rv N at_ (reS N at_ i) i)
theorem reS_len (N : List Nd) (at_ : Int) : ∀ i, (reS N at_ i).length = N.length
  | 0 => List.length_replicate
  | i + 1 => by rw [reS, List.length_set, reS_len N at_ i]
theorem reaches_j1_f {n : Nat} {N : List Nd} {d : Int × List Bool × Unit} (h : 0 ≤ opk (Kiiiiiii_at N d.1).1) : law09_reaches_j1 n d N = some (opk (Kiiiiiii_at N d.1).1, ()) := by
  unfold law09_reaches_j1
  rcases opk_cases h with o | o | o | o | o | o | o | o | o | o | o | o | o | o | o | o | o | o | o <;> rw [o] <;> rfl
theorem reaches_f {n : Nat} {N I C P Q} {at_ : Int} (s : Small N I C P Q) (r : RightP N I C P Q) (hn : 1000 < n) : law09_reaches n N I C P Q at_ = some (reS N at_ N.length, ()) := by
  have s1 := s.n
  have l2 := iter_up (F := law09_reaches_l2b n N at_) (fun j => ((j : Int), reS N at_ j, ())) (reS N at_ N.length, ()) (len := N.length) (m := n)
    (fun self j hj => by
      have hi' := r.nodes j hj
      obtain ⟨⟨a0, a1, -⟩, ⟨b0, b1, -⟩, ⟨c0, c1, -⟩⟩ := opnds hj hi'
      have hl := reS_len N at_ j
      rw [reS]
      generalize reS N at_ j = v at *
      unfold law09_reaches_l2b
      rw [reaches_j1_f hi'.op]
      unfold rv
      have ho := opk_cases hi'.op
      simp only [bindS, cond_dec, cond_if, decide_eq_true_eq, succ64 (show j < 4611686018427387904 by omega), Int.toNat_natCast]
      rw [if_pos (show (j : Int) < (N.length : Int) by omega), ask_of (show 0 ≤ (j : Int) ∧ (j : Int) < (N.length : Int) by omega)]
      simp only [ask_if]
      by_cases e1 : (j : Int) = at_ <;> by_cases e2 : 0 < opk (Kiiiiiii_at N j).1 <;> by_cases e3 : 1 < opk (Kiiiiiii_at N j).1 <;> by_cases e4 : 2 < opk (Kiiiiiii_at N j).1 <;> cases e5 : Kb_at v (Kiiiiiii_at N j).2.2.1 <;> cases e6 : Kb_at v (Kiiiiiii_at N j).2.2.2.1 <;> simp [e1, e2, e3, e4, e5, e6] <;> (try omega) <;> grind)
    (fun self => by
      unfold law09_reaches_l2b
      simp only [cond_dec]
      rw [if_neg (by omega)]) (by omega)
  unfold law09_reaches
  rw [ask_of (by omega), Int.toNat_natCast, show law09_reaches_l2 n N at_ (0, List.replicate N.length false, ()) = _ from l2]
  rfl
theorem setS_diff {l l' : List Int} {p x x' : Nat → Int} {k n : Nat} (hp : ∀ j, j < n → 0 ≤ p j) (hx : ∀ j, j < n → j ≠ k → x j = x' j) (hl : l.length = l'.length) : ∀ i, i ≤ n → ∀ m : Nat, Ki_at (setS l p x i) (m : Int) ≠ Ki_at (setS l' p x' i) (m : Int) → (k < i ∧ (m : Int) = p k) ∨ Ki_at l (m : Int) ≠ Ki_at l' (m : Int)
  | 0, _, m, h => .inr h
  | i + 1, hi, m, h => by
    have ih := setS_diff hp hx hl i (by omega) m
    have h1 := setS_len l p x i
    have h2 := setS_len l' p x' i
    have hpi := hp i (by omega)
    have hxi := hx i (by omega)
    rw [setS, setS] at h
    generalize setS l p x i = a at *
    generalize setS l' p x' i = a' at *
    by_cases c : (p i).toNat < a.length
    · rw [show Ki_at (a.set (p i).toNat (x i)) (m : Int) = _ from at_set (t := i_) c, show Ki_at (a'.set (p i).toNat (x' i)) (m : Int) = _ from at_set (t := i_) (by omega)] at h
      by_cases e : (p i).toNat = m
      · rw [if_pos e, if_pos e] at h
        by_cases e2 : i = k
        · subst e2; exact .inl ⟨by omega, by omega⟩
        · exact absurd (hxi e2) h
      · rw [if_neg e, if_neg e] at h
        rcases ih h with q | q
        · exact .inl ⟨by omega, q.2⟩
        · exact .inr q
    · rw [List.set_eq_of_length_le (by omega), List.set_eq_of_length_le (by omega)] at h
      rcases ih h with q | q
      · exact .inl ⟨by omega, q.2⟩
      · exact .inr q
/-- Nodes that are others reach the place. -/
theorem hang {N : List Nd} (hall : ∀ j : Nat, j < N.length → NodeP N j) {at_ : Int} {l l' : List Int} (hl : l.length = N.length) (hl' : l'.length = N.length) (h0 : ∀ m : Nat, Ki_at l (m : Int) ≠ Ki_at l' (m : Int) → (m : Int) = at_) : ∀ i, i ≤ N.length → ∀ m : Nat, m < N.length → Ki_at (evN N l i) (m : Int) ≠ Ki_at (evN N l' i) (m : Int) → if m < i then Kb_at (reS N at_ i) (m : Int) = true else (m : Int) = at_
  | 0, _, m, hm, h => by simpa using h0 m h
  | i + 1, hi, m, hm, h => by
    have ih := hang hall hl hl' h0 i (by omega)
    have k1 := evN_len N l i
    have k2 := evN_len N l' i
    have k3 := reS_len N at_ i
    have hi' := hall i (by omega)
    obtain ⟨⟨a0, a1, a2⟩, ⟨b0, b1, b2⟩, ⟨c0, c1, c2⟩⟩ := opnds (by omega) hi'
    have look : ∀ x : Int, 0 ≤ x → x < i → Ki_at (evN N l i) x ≠ Ki_at (evN N l' i) x → Kb_at (reS N at_ i) x = true := fun x x0 x1 hx => by
      have := ih x.toNat (by omega)
      rw [show ((x.toNat : Nat) : Int) = x by omega] at this
      have := this hx
      rwa [if_pos (by omega)] at this
    rw [reS]
    have hR : Kb_at ((reS N at_ i).set i (rv N at_ (reS N at_ i) i)) (m : Int) = if i = m then rv N at_ (reS N at_ i) i else Kb_at (reS N at_ i) (m : Int) := at_set (t := b_) (by omega)
    rw [hR]
    by_cases e : i = m
    · subst e
      rw [if_pos rfl, if_pos (by omega)]
      have ihm := ih i (by omega)
      rw [if_neg (by omega)] at ihm
      by_cases o : (Kiiiiiii_at N (i : Int)).1 = 21 ∨ (Kiiiiiii_at N (i : Int)).1 = 22
      · rw [evN, evN, if_pos o, if_pos o] at h
        have := ihm h
        simp [rv, this]
      · rw [evN, evN, if_neg o, if_neg o, show Ki_at ((evN N l i).set i (doV N (evN N l i) (Kiiiiiii_at N i))) (i : Int) = _ from at_set (t := i_) (by omega), show Ki_at ((evN N l' i).set i (doV N (evN N l' i) (Kiiiiiii_at N i))) (i : Int) = _ from at_set (t := i_) (by omega), if_pos rfl, if_pos rfl] at h
        by_cases q : rv N at_ (reS N at_ i) i = true
        · exact q
        · exfalso
          apply h
          have q : rv N at_ (reS N at_ i) i = false := by simpa using q
          simp only [rv, Bool.or_eq_false_iff, Bool.and_eq_false_iff, decide_eq_false_iff_not] at q
          obtain ⟨⟨⟨-, qa⟩, qb⟩, qc⟩ := q
          refine do_cong hi'.op (fun z => ?_) (fun z => ?_) (fun z => ?_)
          · by_cases t : Ki_at (evN N l i) (Kiiiiiii_at N i).2.2.1 = Ki_at (evN N l' i) (Kiiiiiii_at N i).2.2.1
            · exact t
            · have := look _ a0 (a2 z) t
              rcases qa with qa | qa
              · exact absurd z qa
              · rw [this] at qa; cases qa
          · by_cases t : Ki_at (evN N l i) (Kiiiiiii_at N i).2.2.2.1 = Ki_at (evN N l' i) (Kiiiiiii_at N i).2.2.2.1
            · exact t
            · have := look _ b0 (b2 z) t
              rcases qb with qb | qb
              · exact absurd z qb
              · rw [this] at qb; cases qb
          · by_cases t : Ki_at (evN N l i) (Kiiiiiii_at N i).2.2.2.2.1 = Ki_at (evN N l' i) (Kiiiiiii_at N i).2.2.2.2.1
            · exact t
            · have := look _ c0 (c2 z) t
              rcases qc with qc | qc
              · exact absurd z qc
              · rw [this] at qc; cases qc
    · rw [if_neg e]
      have hs : Ki_at (evN N l (i + 1)) (m : Int) = Ki_at (evN N l i) (m : Int) ∧ Ki_at (evN N l' (i + 1)) (m : Int) = Ki_at (evN N l' i) (m : Int) := by
        rw [evN, evN]
        split
        · exact ⟨rfl, rfl⟩
        · exact ⟨(at_set (t := i_) (by omega)).trans (if_neg e), (at_set (t := i_) (by omega)).trans (if_neg e)⟩
      rw [hs.1, hs.2] at h
      have := ih m hm h
      by_cases e2 : m < i
      · rw [if_pos e2] at this
        rwa [if_pos (by omega)]
      · rw [if_neg e2] at this
        rwa [if_neg (by omega)]
theorem head09 : law09_head big = some (true, ()) := by kernel_rfl
theorem hangs {N I C P Q} {which by_ : Int} {a b : List Int} (hw : (Lit.int .u16 which).wf = true) (ha : U16s a) (hb : U16s b) (hy : (Lit.int .u16 by_).wf = true) : law09_NetHangs big N I C P Q which a b by_ = some (true, ()) := by
  have hn : 1000 < big := by decide
  unfold law09_NetHangs
  rw [head09, bindS]
  obtain ⟨g, hg, hs⟩ := great_f (n := big) (N := N) (I := I) (C := C) (P := P) (Q := Q)
  rw [hg, bindS]
  cases g with
  | true => rfl
  | false =>
  have s := hs rfl
  have s1 := s.n
  have s2 := s.i
  have s3 := s.c
  obtain ⟨t, ht, hr⟩ := right_f s hn
  simp only [cond_false, ht, bindS]
  cases t with
  | false => rfl
  | true =>
  have r := hr.1 rfl
  simp only [Bool.not_true, cond_false, cond_dec]
  have hsum : IntKind.wrap .i64 ((I.length : Int) + (C.length : Int)) = ((I.length + C.length : Nat) : Int) := by rw [w64 (by omega) (by omega)]; push_cast; rfl
  rw [hsum]
  by_cases hz : ((I.length + C.length : Nat) : Int) = 0
  · rw [if_pos hz]
  rw [if_neg hz, rows_f s r hn, bindS]
  have fC := fit_rowC r ha
  have fI := fit_rowI r hb
  simp only
  have lC := fC.1
  have lI := fI.1
  rw [ask_of (by simp; omega), ask_of (by simp; omega), ask_of hz]
  -- which one
  have hw' := lit_u16 hw
  have hy' := lit_u16 hy
  have hk : Int.tmod (IntKind.wrap .i64 which) ((I.length + C.length : Nat) : Int) = which % ((I.length + C.length : Nat) : Int) := by rw [w64 (by omega) (by omega), tmodn (by omega)]
  have hk0 : 0 ≤ which % ((I.length + C.length : Nat) : Int) := Int.emod_nonneg _ hz
  have hk1 : which % ((I.length + C.length : Nat) : Int) < ((I.length + C.length : Nat) : Int) := Int.emod_lt_of_pos _ (by omega)
  obtain ⟨at_, st', ins', hj, fC', fI', hd⟩ : ∃ at_ st' ins', law09_NetHangs_j1 big (rowC N C a, rowI N I b, ()) N I C which by_ = some (at_, st', ins', ()) ∧ FitC N C st' ∧ FitI N I ins' ∧ ∀ m : Nat, Ki_at (stV N I C (rowC N C a) (rowI N I b)) (m : Int) ≠ Ki_at (stV N I C st' ins') (m : Int) → (m : Int) = at_ := by
    unfold law09_NetHangs_j1
    simp only [cond_dec, hsum, hk, List.nil_append]
    generalize hkk : which % ((I.length + C.length : Nat) : Int) = k at *
    by_cases c : k < (I.length : Int)
    · rw [if_pos c]
      obtain ⟨m, rfl⟩ := Int.eq_ofNat_of_zero_le hk0
      obtain ⟨p0, p1, -⟩ := pin_node r.ins (j := m) (by omega)
      have hnd := node_at r.nodes p0 p1
      have w1 := hnd.w1
      have w16 := hnd.w16
      rw [ask_of (by omega), ask_of (by omega), rmask_f (by omega) (by omega), bindS, ask_of (by omega), Int.toNat_natCast]
      refine ⟨_, _, _, rfl, fC, ⟨by rw [List.length_set]; exact lI, fun j hj => ?_⟩, fun x hx => ?_⟩
      · rw [show Ki_at ((rowI N I b).set m (bits .and .i64 (IntKind.wrap .i64 by_) (P2 (Kiiiiiii_at N (Ksi_at I (m : Int)).2).2.1 - 1))) (j : Int) = _ from at_set (t := i_) (by omega)]
        split
        · rename_i e
          subst e
          exact num_and hy' w1 w16
        · exact fI.2 j hj
      · rcases setS_diff (k := C.length) (n := C.length) (fun j hj => (cell_node r.cells hj).1) (fun j _ _ => rfl) (by rw [insV, insV, setS_len, setS_len]) C.length (Nat.le_refl _) x hx with q | q
        · omega
        · rcases setS_diff (k := m) (n := I.length) (fun j hj => (pin_node r.ins hj).1) (fun j hj hne => by
            show _ = Ki_at ((rowI N I b).set m _) (j : Int)
            rw [show Ki_at ((rowI N I b).set m (bits .and .i64 (IntKind.wrap .i64 by_) (P2 (Kiiiiiii_at N (Ksi_at I (m : Int)).2).2.1 - 1))) (j : Int) = _ from at_set (t := i_) (by omega), if_neg (Ne.symm hne)]; rfl) rfl I.length (Nat.le_refl _) x q with q | q
          · exact q.2
          · exact absurd rfl q
    · rw [if_neg c]
      obtain ⟨m, hm⟩ := Int.eq_ofNat_of_zero_le (a := k - (I.length : Int)) (by omega)
      rw [w64 (n := k - (I.length : Int)) (by omega) (by omega), hm]
      obtain ⟨p0, p1, -⟩ := cell_node r.cells (j := m) (by omega)
      have hnd := node_at r.nodes p0 p1
      have w1 := hnd.w1
      have w16 := hnd.w16
      rw [ask_of (by omega), ask_of (by omega), rmask_f (by omega) (by omega), bindS, ask_of (by omega), Int.toNat_natCast]
      refine ⟨_, _, _, rfl, ⟨by rw [List.length_set]; exact lC, fun j hj => ?_⟩, fI, fun x hx => ?_⟩
      · rw [show Ki_at ((rowC N C a).set m (bits .and .i64 (IntKind.wrap .i64 by_) (P2 (Kiiiiiii_at N (Ksiii_at C (m : Int)).2.1).2.1 - 1))) (j : Int) = _ from at_set (t := i_) (by omega)]
        split
        · rename_i e
          subst e
          exact num_and hy' w1 w16
        · exact fC.2 j hj
      · rcases setS_diff (k := m) (n := C.length) (fun j hj => (cell_node r.cells hj).1) (fun j hj hne => by
            show _ = Ki_at ((rowC N C a).set m _) (j : Int)
            rw [show Ki_at ((rowC N C a).set m (bits .and .i64 (IntKind.wrap .i64 by_) (P2 (Kiiiiiii_at N (Ksiii_at C (m : Int)).2.1).2.1 - 1))) (j : Int) = _ from at_set (t := i_) (by omega), if_neg (Ne.symm hne)]; rfl) rfl C.length (Nat.le_refl _) x hx with q | q
        · exact q.2
        · exact absurd rfl q
  rw [hj, bindS, eval_f s r fI fC hn, bindS]
  simp only
  rw [eval_f s r fI' fC' hn, bindS, reaches_f s r hn, bindS]
  simp only
  have e1 := evalV_len N I C (rowC N C a) (rowI N I b)
  have e2 := evalV_len N I C st' ins'
  have e3 := reS_len N at_ N.length
  rw [if_neg (by omega), if_neg (by omega)]
  have hh := hang r.nodes (stV_len N I C (rowC N C a) (rowI N I b)) (stV_len N I C st' ins') hd N.length (Nat.le_refl _)
  change ∀ m : Nat, m < N.length → Ki_at (evalV N I C (rowC N C a) (rowI N I b)) (m : Int) ≠ Ki_at (evalV N I C st' ins') (m : Int) → _ at hh
  generalize evalV N I C (rowC N C a) (rowI N I b) = x at *
  generalize evalV N I C st' ins' = y at *
  generalize reS N at_ N.length = z at *
  have l2 := iter_up (F := law09_NetHangs_l2b big (x, ()) (y, ()) (z, ())) (fun j => ((j : Int), ())) (.inr ()) (len := N.length) (m := big)
    (fun self j hj => by
      unfold law09_NetHangs_l2b
      simp only [cond_dec]
      rw [if_pos (by omega), ask_of (by omega), ask_of (by omega), succ64 (by omega)]
      by_cases e : Ki_at x (j : Int) = Ki_at y (j : Int)
      · rw [if_neg (by simpa using e)]
      · rw [if_pos e, ask_of (by omega)]
        have := hh j hj e
        rw [if_pos hj] at this
        rw [this]
        rfl)
    (fun self => by
      unfold law09_NetHangs_l2b
      simp only [cond_dec]
      rw [if_neg (by omega)]) (by omega)
  rw [show law09_NetHangs_l2 big (x, ()) (y, ()) (z, ()) (0, ()) = _ from l2]
  rfl
end Go.Proofs.Yteblbknmikieoaa.Am
namespace Go.Proofs.Yteblbknmikieoaa.Pure
open Go.Proofs.Yteblbknmikieoaa.Am
theorem NetHangs (d : law09_NetHangs_s.I) (h : BAs law09_NetHangs_s.as d fun _ => True) : ∃ n, law09_NetHangs n d.1 d.2.1 d.2.2.1 d.2.2.2.1 d.2.2.2.2.1 d.2.2.2.2.2.1 d.2.2.2.2.2.2.1 d.2.2.2.2.2.2.2.1 d.2.2.2.2.2.2.2.2.1 = some (true, ()) := by
  obtain ⟨-, -, -, -, -, h1, h2, h3, h4, -⟩ := h
  exact ⟨big, hangs h1 h2.2 h3.2 h4⟩
end Go.Proofs.Yteblbknmikieoaa.Pure
