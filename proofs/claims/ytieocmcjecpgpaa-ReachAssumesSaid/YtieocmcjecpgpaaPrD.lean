/- The program's search is the search. -/
import Derived.Test.YtieocmcjecpgpaaPrC
namespace Go.Proofs.Ytieocmcjecpgpaa.Am
set_option linter.unusedVariables false
set_option linter.unusedSimpArgs false
abbrev KOne := KLiiLii
/-- What the program keeps of what is found. -/
structure PRel (N : List Nd) (I : List Pn) (C : List Cl) (l : List (List Int × List Nat)) (ll : List KOne) (met : List (K12 × Bool)) : Prop where
  len : ll.length = l.length
  el : ∀ (b : Nat) e, l[b]? = some e → ∃ x : KOne, ll[b]? = some x ∧ x.1 = e.1 ∧ x.2.2.2 = (e.2.length : Int) ∧ ((e.2 = [] ∧ x.2.1 = -1) ∨ ∃ (a : Nat) (ea : List Int × List Nat) (k' : Nat), a < b ∧ l[a]? = some ea ∧ e.2 = ea.2 ++ [k'] ∧ x.2.1 = (a : Int) ∧ x.2.2.1 = rowV N I k')
  met : ∀ s, FitC N C s → Miiiiiiiiiiii_b_get met (keyO s) false = mem1 s l
section
variable {N : List Nd} {I : List Pn} {C : List Cl} {P : List Pw} {Q : List Pn} {n : Nat} {p : Int} {i k : Nat} {l : List (List Int × List Nat)} {ll : List KOne} {met : List (K12 × Bool)}
theorem mem1_app {s u : List Int} {t : List Nat} : mem1 s (l ++ [(u, t)]) = (mem1 s l || decide (u = s)) := by simp [mem1]
theorem PRel.app (R : PRel N I C l ll met) (hc : C.length ≤ 12) {e : List Int × List Nat} (he : l[i]? = some e) {u : List Int} (hu : FitC N C u) : PRel N I C (l ++ [(u, e.2 ++ [k])]) (ll ++ [(u, (i : Int), rowV N I k, ((e.2.length + 1 : Nat) : Int))]) (Miiiiiiiiiiii_b_put met (keyO u) true) := by
  have hi := (List.getElem?_eq_some_iff.1 he).1
  refine ⟨by simp [R.len], fun b eb hb => ?_, fun s hs => ?_⟩
  · rcases getE_snoc hb with hb | ⟨rfl, rfl⟩
    · obtain ⟨x, h1, h2, h3, h4⟩ := R.el b eb hb
      refine ⟨x, getE_app h1, h2, h3, ?_⟩
      rcases h4 with h4 | ⟨a, ea, k', q1, q2, q3⟩
      · exact .inl h4
      · exact .inr ⟨a, ea, k', q1, getE_app q2, q3⟩
    · exact ⟨(u, (i : Int), rowV N I k, ((e.2.length + 1 : Nat) : Int)), by rw [← R.len]; simp, rfl, by simp, .inr ⟨i, e, k, hi, getE_app he, rfl, rfl, rfl⟩⟩
  · rw [mem1_app]
    by_cases c : u = s
    · subst c
      rw [get_same]; simp
    · rw [get_other (fun e => c (keyO_inj (hs.1.trans hu.1.symm) (by rw [hs.1]; exact hc) e).symm), R.met s hs]
      simp [c]
theorem add_f {n : Nat} (R : PRel N I C l ll met) (hc : C.length ≤ 12) (hl : l.length ≤ 4096) {e : List Int × List Nat} (he : l[i]? = some e) {u : List Int} (hu : FitC N C u) : ∃ ll' met', reach_search_add_o_i3 n (i : Int) ((e.2.length + 1 : Nat) : Int) N I C P Q u (rowV N I k) ll met = some (N, I, C, P, Q, met', ll', ()) ∧ PRel N I C (add1 u (e.2 ++ [k]) l) ll' met' := by
  have e0 : reach_search_add_o_i3 n (i : Int) ((e.2.length + 1 : Nat) : Int) N I C P Q u (rowV N I k) ll met = ask True (cond (!(Miiiiiiiiiiii_b_get met (keyO u) false)) (ask (True ∧ (ll.length + 1) * 64 ≤ 140737488355328) (some (N, I, C, P, Q, Miiiiiiiiiiii_b_put met (keyO u) true, ll ++ [(u, (i : Int), rowV N I k, ((e.2.length + 1 : Nat) : Int))], ()))) (some (N, I, C, P, Q, met, ll, ()))) := rfl
  rw [e0, ask_of trivial, R.met u hu]
  unfold add1
  have := R.len
  cases mem1 u l with
  | true => exact ⟨ll, met, rfl, R⟩
  | false => exact ⟨_, _, by simp only [Bool.not_false, cond_true]; rw [ask_of ⟨trivial, by omega⟩], R.app hc he hu⟩
theorem stepy_f {e : List Int × List Nat} {fl : Bool} {fr : Int} {rw_ ret : List Int} (s : Small N I C P Q) (r : RightP N I C P Q) (R : PRel N I C l ll met) (hc : C.length ≤ 12) (hl : l.length ≤ 4096) (he : l[i]? = some e) (hs : FitC N C e.1) (hlen : e.2.length ≤ 4096) (hn : 1000 < n) (hp : p < P.length) :
    match (sysN N I C P p).L e.1 k with
    | false => reach_search_step_y_i25 n 0 (rowV N I k) (i : Int) p fl e.1 fr rw_ (e.2.length : Int) N I C P Q ret ll met = some (true, 0, (i : Int), p, fl, e.1, fr, rw_, (e.2.length : Int), N, I, C, P, Q, met, ret, ll, ())
    | true => match (sysN N I C P p).H e.1 k with
      | true => reach_search_step_y_i25 n 0 (rowV N I k) (i : Int) p fl e.1 fr rw_ (e.2.length : Int) N I C P Q ret ll met = some (false, 1, (i : Int), p, true, e.1, fr, rw_, (e.2.length : Int), N, I, C, P, Q, met, rowV N I k, ll, ())
      | false => ∃ ll' met', reach_search_step_y_i25 n 0 (rowV N I k) (i : Int) p fl e.1 fr rw_ (e.2.length : Int) N I C P Q ret ll met = some (true, 0, (i : Int), p, fl, e.1, fr, rw_, (e.2.length : Int), N, I, C, P, Q, met', ret, ll', ()) ∧ PRel N I C (add1 ((sysN N I C P p).A e.1 k) (e.2 ++ [k]) l) ll' met' := by
  have hf := fit_row r k (N := N) (I := I)
  have hcy := cycle_f (x9 := ll) (x10 := met) s r hf hs hn hp
  have hA := nums_evalV r hf hs
  rw [show (sysN N I C P p).L e.1 k = legalB P (evalV N I C e.1 (rowV N I k)) from rfl, show (sysN N I C P p).H e.1 k = (if p < 0 then false else hitB P p.toNat (evalV N I C e.1 (rowV N I k))) from rfl]
  cases hLe : legalB P (evalV N I C e.1 (rowV N I k)) with
  | false =>
    rw [hLe] at hcy
    simp only
    unfold reach_search_step_y_i25
    rw [ask_of rfl, hcy, bindS]
    rfl
  | true =>
    rw [hLe] at hcy
    simp only
    cases hHe : (if p < 0 then false else hitB P p.toNat (evalV N I C e.1 (rowV N I k))) with
    | true =>
      rw [hHe] at hcy
      simp only
      unfold reach_search_step_y_i25
      rw [ask_of rfl, hcy, bindS]
      rfl
    | false =>
      rw [hHe] at hcy
      simp only
      obtain ⟨ll', met', h1, h2⟩ := add_f (n := n) (P := P) (Q := Q) (k := k) R hc hl he (fit_after r hA)
      refine ⟨ll', met', ?_, h2⟩
      unfold reach_search_step_y_i25
      rw [ask_of rfl, hcy, bindS]
      simp only [cond_false, cond_true]
      rw [afo_f s r hf hs hn, bindS]
      simp only
      rw [succ64 (by omega), h1]
      rfl
/-- The program's way through all rows of a state. -/
theorem rows_f {e : List Int × List Nat} {fr : Int} {rw_ : List Int} (s : Small N I C P Q) (r : RightP N I C P Q) (sm : Sm N I C) (hn : 1000 < n) (hp : p < P.length) : ∀ (d : Nat) {k m : Nat} {l : List (List Int × List Nat)} {ll : List KOne} {met : List (K12 × Bool)} {ret : List Int}, k + d = tot (wI N I) I.length → 0 < d → d ≤ m → Inv (sysN N I C P p) i k l → l[i]? = some e → PRel N I C l ll met →
    ∃ st fl ret' ll' met', iter (reach_rows_1__reach_search_step_o_l2b n N I) m (0, (i : Int), p, false, e.1, fr, rw_, (e.2.length : Int), N, I, C, P, Q, met, rowV N I k, ret, ll, ()) = some (st, (i : Int), p, fl, e.1, fr, rw_, (e.2.length : Int), N, I, C, P, Q, met', ret', ll', ()) ∧ PRel N I C (rowsX (sysN N I C P p) e d k l).2 ll' met' ∧ (match (rowsX (sysN N I C P p) e d k l).1 with | none => st = 0 | some k' => st = 1 ∧ fl = true ∧ ret' = rowV N I k') := by
  intro d
  induction d with
  | zero => intro k m l ll met ret hk h0; omega
  | succ d ih =>
    intro k m l ll met ret hk h0 hm hinv he R
    obtain ⟨m, rfl⟩ : ∃ k, m = k + 1 := ⟨m - 1, by omega⟩
    have hl : l.length ≤ 4096 := Nat.le_trans (inv_few r hinv) sm.s
    have hi := (List.getElem?_eq_some_iff.1 he).1
    have hlen := hinv.len i e he
    have hs := inv_fit r hinv i e he
    have hI := r.i
    have hrl := row_len (N := N) (I := I) k
    have sy := stepy_f (k := k) (fl := false) (fr := fr) (rw_ := rw_) (ret := ret) s r R sm.c hl he hs (by omega) hn hp
    obtain ⟨o1, o2⟩ := odo_f r I.length k [] n (by simp) (by omega) (by omega)
    simp only [List.append_nil] at o1 o2
    have ol : reach_rows_1__reach_search_step_o_l1 n N I (IntKind.wrap .i64 (((rowV N I k).length : Int) - 1), rowV N I k, ()) = iter (reach_rows_1__reach_search_step_o_l1b n N I) n ((I.length : Int) - 1, dgs (wI N I) I.length k, ()) := by
      rw [hrl, w64 (by omega) (by omega)]; rfl
    rw [iter_s]
    -- a round that isn't the last, or that is
    have go : ∀ {l' : List (List Int × List Nat)} {ll' : List KOne} {met' : List (K12 × Bool)}, Inv (sysN N I C P p) i (k + 1) l' → l'[i]? = some e → PRel N I C l' ll' met' → reach_search_step_y_i25 n 0 (rowV N I k) (i : Int) p false e.1 fr rw_ (e.2.length : Int) N I C P Q ret ll met = some (true, 0, (i : Int), p, false, e.1, fr, rw_, (e.2.length : Int), N, I, C, P, Q, met', ret, ll', ()) → rowsX (sysN N I C P p) e (d + 1) k l = rowsX (sysN N I C P p) e d (k + 1) l' →
        ∃ st fl ret' ll2 met2, reach_rows_1__reach_search_step_o_l2b n N I (iter (reach_rows_1__reach_search_step_o_l2b n N I) m) (0, (i : Int), p, false, e.1, fr, rw_, (e.2.length : Int), N, I, C, P, Q, met, rowV N I k, ret, ll, ()) = some (st, (i : Int), p, fl, e.1, fr, rw_, (e.2.length : Int), N, I, C, P, Q, met2, ret', ll2, ()) ∧ PRel N I C (rowsX (sysN N I C P p) e (d + 1) k l).2 ll2 met2 ∧ (match (rowsX (sysN N I C P p) e (d + 1) k l).1 with | none => st = 0 | some k' => st = 1 ∧ fl = true ∧ ret' = rowV N I k') := by
      intro l' ll' met' hinv' he' R' hy hx
      rw [hx]
      have ih' := fun h => ih (k := k + 1) (m := m) (ret := ret) (by omega) h (by omega) hinv' he' R'
      generalize iter (reach_rows_1__reach_search_step_o_l2b n N I) m = self at ih' ⊢
      unfold reach_rows_1__reach_search_step_o_l2b slices_Clone_int_int_o
      simp only
      rw [ask_of (by simp; omega), bindS]
      simp only
      rw [hy, bindS]
      simp only [Bool.not_true, cond_false]
      rw [ol]
      by_cases c : k + 1 < tot (wI N I) I.length
      · obtain ⟨i', q1, q2⟩ := o1 c
        rw [q2, bindS]
        simp only [cond_dec]
        rw [if_neg (by omega)]
        exact ih' (by omega)
      · obtain ⟨row, q⟩ := o2 c
        rw [q, bindS]
        simp only [cond_dec]
        rw [if_pos (by omega)]
        have hd : d = 0 := by omega
        subst hd
        exact ⟨_, _, _, _, _, rfl, R', rfl⟩
    have eX : rowsX (sysN N I C P p) e (d + 1) k l = match (sysN N I C P p).L e.1 k with
      | false => rowsX (sysN N I C P p) e d (k + 1) l
      | true => match (sysN N I C P p).H e.1 k with
        | true => (some k, l)
        | false => rowsX (sysN N I C P p) e d (k + 1) (add1 ((sysN N I C P p).A e.1 k) (e.2 ++ [k]) l) := rfl
    cases hL : (sysN N I C P p).L e.1 k with
    | false =>
      rw [hL] at sy eX
      exact go (hinv.skip he hL) he R sy eX
    | true =>
      rw [hL] at sy eX
      cases hH : (sysN N I C P p).H e.1 k with
      | true =>
        rw [hH] at sy eX
        simp only at sy eX
        rw [eX]
        generalize iter (reach_rows_1__reach_search_step_o_l2b n N I) m = self
        unfold reach_rows_1__reach_search_step_o_l2b slices_Clone_int_int_o
        simp only
        rw [ask_of (by simp; omega), bindS]
        simp only
        rw [sy, bindS]
        exact ⟨_, _, _, _, _, rfl, R, rfl, rfl, rfl⟩
      | false =>
        rw [hH] at sy eX
        simp only at sy eX
        obtain ⟨ll', met', sy, R'⟩ := sy
        obtain ⟨r2, hr2⟩ := add1_pre (l := l) (s := (sysN N I C P p).A e.1 k) (t := e.2 ++ [k])
        exact go (hinv.go he (show k < tot (wI N I) I.length by omega) hL hH) (by rw [hr2]; exact getE_app he) R' sy eX
end
end Go.Proofs.Ytieocmcjecpgpaa.Am
