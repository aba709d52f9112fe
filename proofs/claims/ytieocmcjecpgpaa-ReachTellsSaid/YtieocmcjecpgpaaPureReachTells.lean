/- ReachTells, in plain Lean. -/
import Derived.Test.YtieocmcjecpgpaaPrG
import Derived.Test.YtieocmcjecpgpaaPrH
import Derived.Test.YtieocmcjecpgpaaAmY
namespace Go.Proofs.Ytieocmcjecpgpaa.Am
set_option linter.unusedVariables false
set_option linter.unusedSimpArgs false
set_option linter.unusedSectionVars false
section
variable {σ : Type} [DecidableEq σ] {S : Sys σ}
/-- The same search, with no hits. -/
def Sys.off (S : Sys σ) : Sys σ := ⟨S.m, S.L, fun _ _ => false, S.A, S.s0⟩
theorem rowsX_pre (S : Sys σ) (e : σ × List Nat) : ∀ (d k : Nat) (l : List (σ × List Nat)), ∃ r, (rowsX S e d k l).2 = l ++ r
  | 0, _, l => ⟨[], by simp [rowsX]⟩
  | d + 1, k, l => by
    unfold rowsX
    cases S.L e.1 k with
    | false => exact rowsX_pre S e d (k + 1) l
    | true =>
      cases S.H e.1 k with
      | true => exact ⟨[], by simp⟩
      | false =>
        obtain ⟨r, hr⟩ := add1_pre (l := l) (s := S.A e.1 k) (t := e.2 ++ [k])
        obtain ⟨r2, h⟩ := rowsX_pre S e d (k + 1) (add1 (S.A e.1 k) (e.2 ++ [k]) l)
        exact ⟨r ++ r2, h.trans (by rw [hr, List.append_assoc])⟩
theorem srch_pre (S : Sys σ) : ∀ (f i : Nat) (l : List (σ × List Nat)) {y}, srch S f i l = some y → ∃ r, y.2 = l ++ r
  | 0, _, _, _, h => by cases h
  | f + 1, i, l, y, h => by
    unfold srch at h
    split at h
    · cases h; exact ⟨[], by simp⟩
    · rename_i e he
      obtain ⟨r, hr⟩ := rowsX_pre S e S.m 0 l
      split at h
      · rename_i k l' hx
        cases h
        rw [hx] at hr
        exact ⟨r, hr⟩
      · rename_i l' hx
        rw [hx] at hr
        obtain ⟨r2, h2⟩ := srch_pre S f (i + 1) l' h
        have hr : l' = l ++ r := hr
        exact ⟨r ++ r2, by rw [h2, hr, List.append_assoc]⟩
theorem rowsX_off (e : σ × List Nat) : ∀ (d k : Nat) (l : List (σ × List Nat)), ((rowsX S e d k l).1 = none → rowsX S.off e d k l = rowsX S e d k l) ∧ (rowsX S.off e d k l).1 = none ∧ ∃ r, (rowsX S.off e d k l).2 = (rowsX S e d k l).2 ++ r
  | 0, _, l => ⟨fun _ => rfl, rfl, [], by simp [rowsX]⟩
  | d + 1, k, l => by
    have eo : rowsX S.off e (d + 1) k l = match S.L e.1 k with
      | false => rowsX S.off e d (k + 1) l
      | true => rowsX S.off e d (k + 1) (add1 (S.A e.1 k) (e.2 ++ [k]) l) := rfl
    have es : rowsX S e (d + 1) k l = match S.L e.1 k with
      | false => rowsX S e d (k + 1) l
      | true => match S.H e.1 k with
        | true => (some k, l)
        | false => rowsX S e d (k + 1) (add1 (S.A e.1 k) (e.2 ++ [k]) l) := rfl
    rw [eo, es]
    cases S.L e.1 k with
    | false => exact rowsX_off e d (k + 1) l
    | true =>
      cases S.H e.1 k with
      | false => exact rowsX_off e d (k + 1) _
      | true =>
        refine ⟨fun h => by simp at h, (rowsX_off e d (k + 1) _).2.1, ?_⟩
        obtain ⟨r, hr⟩ := add1_pre (l := l) (s := S.A e.1 k) (t := e.2 ++ [k])
        obtain ⟨r2, h⟩ := rowsX_pre S.off e d (k + 1) (add1 (S.A e.1 k) (e.2 ++ [k]) l)
        exact ⟨r ++ r2, h.trans (by rw [hr, List.append_assoc])⟩
theorem srch_off : ∀ (f i : Nat) (l : List (σ × List Nat)) {x y}, srch S f i l = some x → srch S.off f i l = some y → (x.1 = none → y.2 = x.2) ∧ ∃ r, y.2 = x.2 ++ r
  | 0, _, _, _, _, h, _ => by cases h
  | f + 1, i, l, x, y, h, h' => by
    unfold srch at h h'
    cases he : l[i]? with
    | none =>
      rw [he] at h h'
      cases h; cases h'
      exact ⟨fun _ => rfl, [], by simp⟩
    | some e =>
      rw [he] at h h'
      obtain ⟨q1, q2, r, q3⟩ := rowsX_off (S := S) e S.m 0 l
      have em : S.off.m = S.m := rfl
      simp only [em] at h h'
      cases hx : rowsX S e S.m 0 l with
      | mk a l' =>
        cases ho : rowsX S.off e S.m 0 l with
        | mk b lo =>
          rw [hx] at h q1 q3
          rw [ho] at h' q1 q2 q3
          have q2 : b = none := q2
          subst q2
          have q4 : lo = l' ++ r := q3
          cases a with
          | none =>
            have q1 := q1 rfl
            cases q1
            exact srch_off f (i + 1) _ h h'
          | some k =>
            cases h
            obtain ⟨r2, h2⟩ := srch_pre S.off f (i + 1) lo h'
            exact ⟨fun q => by simp at q, r ++ r2, by rw [h2, q4, List.append_assoc]⟩
end
section
variable {N : List Nd} {I : List Pn} {C : List Cl} {P : List Pw} {Q : List Pn} {n : Nat} {l : List (List Int × List Nat)}
/-- What the document tells of a hit. -/
def hitD (N : List Nd) (I : List Pn) (e : List Int × List Nat) (k : Nat) : Int × Int × Int × Tr × Unit := if e.2.length < 64 then (0, 1, ((e.2.length + 1 : Nat) : Int), (e.2 ++ [k]).map (rowV N I), ()) else (0, 3, 64, [], ())
theorem dhit_l (s : Small N I C P Q) (r : RightP N I C P Q) (sm : Sm N I C) (hn : 100000 < n) {i q : Nat} {e : List Int × List Nat} (he : l[i]? = some e) (hs : FitC N C e.1) (hel : e.2.length ≤ 5000) (hq : q < P.length) (h9 : (Kisi_at P (q : Int)).1 ≠ 9) :
    ((∀ k, k < tot (wI N I) I.length → ¬ ((sysN N I C P (q : Int)).L e.1 k = true ∧ (sysN N I C P (q : Int)).H e.1 k = true)) ∧ ref12_Tell_l1 n ((i : Int), 0, 0, ()) (dl N I l, ()) ((List.range (tot (wI N I) I.length)).map (rowV N I), ()) N I C P Q (q : Int) (0, 0, 0, ()) = some (.inr (0, 0, ()))) ∨
    ∃ k, k < tot (wI N I) I.length ∧ (∀ k', k' < k → ¬ ((sysN N I C P (q : Int)).L e.1 k' = true ∧ (sysN N I C P (q : Int)).H e.1 k' = true)) ∧ ((sysN N I C P (q : Int)).L e.1 k = true ∧ (sysN N I C P (q : Int)).H e.1 k = true) ∧ ref12_Tell_l1 n ((i : Int), 0, 0, ()) (dl N I l, ()) ((List.range (tot (wI N I) I.length)).map (rowV N I), ()) N I C P Q (q : Int) (0, 0, 0, ()) = some (.inl (hitD N I e k)) := by
  have R : ∀ k : Nat, k < tot (wI N I) I.length → KLi_at ((List.range (tot (wI N I) I.length)).map (rowV N I)) (k : Int) = rowV N I k := fun k hk => at_range (t := KLi_) hk
  have hR : ((List.range (tot (wI N I) I.length)).map (rowV N I)).length = tot (wI N I) I.length := by simp
  generalize (List.range (tot (wI N I) I.length)).map (rowV N I) = RR at *
  have hi := (List.getElem?_eq_some_iff.1 he).1
  have ll : (dl N I l).length = l.length := by simp [dl]
  have hm := sm.m
  have key : ∀ (self : Int × Int × Int × Unit → Option ((Int × Int × Int × List (List Int) × Unit) ⊕ (Int × Int × Unit))) (j : Nat), j < tot (wI N I) I.length → ref12_Tell_l1b n ((i : Int), 0, 0, ()) (dl N I l, ()) (RR, ()) N I C P Q (q : Int) self ((j : Int), 0, 0, ()) = if (sysN N I C P (q : Int)).L e.1 j = true ∧ (sysN N I C P (q : Int)).H e.1 j = true then some (.inl (hitD N I e j)) else self (((j + 1 : Nat) : Int), 0, 0, ()) := by
    intro self j hj
    have hf := fit_row r j (N := N) (I := I)
    have hA := nums_evalV r hf hs
    have eL : (sysN N I C P (q : Int)).L e.1 j = legalB P (evalV N I C e.1 (rowV N I j)) := rfl
    have eH : (sysN N I C P (q : Int)).H e.1 j = hitB P q (evalV N I C e.1 (rowV N I j)) := by
      show (if (q : Int) < 0 then false else hitB P (q : Int).toNat (evalV N I C e.1 (rowV N I j))) = _
      rw [if_neg (by omega), Int.toNat_natCast]
    unfold ref12_Tell_l1b
    simp only [cond_dec]
    rw [if_pos (by omega), ask_of (by omega), ask_of (by omega), dl_at he, R j hj, reval_f s r hf hs (by omega), bindS]
    simp only
    rw [rProps_f s r (evalV_len _ _ _ _ _) (by omega), bindS]
    simp only
    rw [rLegal_f s r hA (by omega), bindS, eL, eH, succ64 (by omega)]
    simp only
    cases legalB P (evalV N I C e.1 (rowV N I j)) with
    | false => simp
    | true =>
      simp only [Bool.not_true, cond_false, true_and]
      rw [rHits_f r hq, bindS, decide_eq_true h9]
      simp only [Bool.true_and]
      cases hitB P q (evalV N I C e.1 (rowV N I j)) with
      | false => simp
      | true =>
        simp only [Bool.not_true, cond_false, if_true, List.nil_append]
        rw [ask_of (by omega), ask_of (by simp; omega), ask_of (by omega), ask_of (by simp; omega)]
        unfold hitD
        by_cases c : e.2.length < 64
        · rw [if_pos c, if_neg (by simp; omega)]
          simp
        · rw [if_neg c, if_pos (by simp; omega)]
  have l1 := iter_all (F := ref12_Tell_l1b n ((i : Int), 0, 0, ()) (dl N I l, ()) (RR, ()) N I C P Q (q : Int)) (fun j => ((j : Int), 0, 0, ())) (fun j => ¬ ((sysN N I C P (q : Int)).L e.1 j = true ∧ (sysN N I C P (q : Int)).H e.1 j = true)) (fun j => hitD N I e j) (0, 0, ()) (len := tot (wI N I) I.length) (m := n)
    (fun self j hj hall hk => by rw [key self j hj, if_neg hk])
    (fun self j hj hall hk => by rw [key self j hj, if_pos (Classical.not_not.1 hk)])
    (fun _ self => by
      unfold ref12_Tell_l1b
      simp only [cond_dec]
      rw [if_neg (by omega)]) (by omega)
  rcases l1 with ⟨h, e⟩ | ⟨j, hj, h1, h2, e⟩
  · exact .inl ⟨h, e⟩
  · exact .inr ⟨j, hj, h1, Classical.not_not.1 h2, e⟩
/-- The document's Tell is the search's. -/
theorem rtell_f (s : Small N I C P Q) (r : RightP N I C P Q) (hn : 100000 < n) {p : Int} : ref12_Tell n N I C P Q p = some ((tellV N I C P p).1, (tellV N I C P p).2.1, (tellV N I C P p).2.2.1, (tellV N I C P p).2.2.2, ()) := by
  unfold ref12_Tell tellV badP
  simp only [cond_dec]
  by_cases h1 : p < 0
  · rw [if_pos h1, if_pos h1]
  rw [if_neg h1, if_neg h1]
  by_cases h2 : (P.length : Int) ≤ p
  · rw [if_pos h2, if_pos h2]
  rw [if_neg h2, if_neg h2, ask_of (by omega)]
  by_cases h9 : (Kisi_at P p).1 = 9
  · rw [if_pos h9, decide_eq_true h9]
  rw [if_neg h9, decide_eq_false h9, (small_f (n := n) r (by omega)).2, bindS]
  cases hsm : smB N with
  | false => rfl
  | true =>
    have sm := sm_of r hsm
    simp only [Bool.not_true, cond_false]
    obtain ⟨q, rfl⟩ := Int.eq_ofNat_of_zero_le (show 0 ≤ p by omega)
    have hq : q < P.length := by omega
    rw [reached_f s r sm hn, bindS, rrows_f r sm hn, bindS]
    obtain ⟨g1, g2⟩ := res_f (p := (q : Int)) r sm
    obtain ⟨f1, f2⟩ := res_f (p := -1) r sm
    have eoff : (sysN N I C P (q : Int)).off = sysN N I C P (-1) := rfl
    obtain ⟨o1, rr, o2⟩ := srch_off (S := sysN N I C P (q : Int)) 5000 0 _ g1 f1
    have f3 : (resN N I C P (-1)).1 = none := (many_f (n := 100000) (Q := Q) s r (by omega)).2 hsm
    generalize resN N I C P (q : Int) = x at *
    generalize resN N I C P (-1) = y at *
    obtain ⟨y1, lF⟩ := y
    have f3 : y1 = none := f3
    subst f3
    have hF : Inv (sysN N I C P (-1)) lF.length 0 lF := f2
    have hF4 : lF.length ≤ 4096 := Nat.le_trans (inv_few r hF) sm.s
    have hF0 : 0 < lF.length := (List.getElem?_eq_some_iff.1 hF.z).1
    have dll : (dl N I lF).length = lF.length := by simp [dl]
    have at_l : ∀ (i : Nat), i < lF.length → ∃ e, lF[i]? = some e ∧ FitC N C e.1 ∧ e.2.length ≤ 5000 := fun i hi => ⟨_, List.getElem?_eq_getElem hi, inv_fit r hF i _ (List.getElem?_eq_getElem hi), by have := hF.len i _ (List.getElem?_eq_getElem hi); omega⟩
    have nohit : ∀ (self : Int × Int × Int × Unit → Option ((Int × Int × Int × List (List Int) × Unit) ⊕ (Int × Int × Unit))) (i : Nat) (e : List Int × List Nat), lF[i]? = some e → (∀ k, k < tot (wI N I) I.length → ¬ ((sysN N I C P (q : Int)).L e.1 k = true ∧ (sysN N I C P (q : Int)).H e.1 k = true)) → ref12_Tell_l2b n (dl N I lF, ()) ((List.range (tot (wI N I) I.length)).map (rowV N I), ()) N I C P Q (q : Int) self ((i : Int), 0, 0, ()) = self (((i + 1 : Nat) : Int), 0, 0, ()) := by
      intro self i e he hno
      have hi := (List.getElem?_eq_some_iff.1 he).1
      obtain ⟨e', he', hs, hel⟩ := at_l i hi
      rw [he] at he'
      cases he'
      unfold ref12_Tell_l2b
      simp only [cond_dec]
      rw [if_pos (by omega)]
      rcases dhit_l (n := n) (q := q) s r sm hn he hs hel hq h9 with ⟨-, h⟩ | ⟨k, hk, -, h, -⟩
      · rw [h, bindS, Sum.elim_inr, succ64 (by omega)]
      · exact absurd h (hno k hk)
    obtain ⟨x1, lx⟩ := x
    unfold ref12_Tell_l2
    cases x1 with
    | none =>
      have o1 : lF = lx := o1 rfl
      subst o1
      have hx : Inv (sysN N I C P (q : Int)) lF.length 0 lF := g2
      have hl := iter_up (F := ref12_Tell_l2b n (dl N I lF, ()) ((List.range (tot (wI N I) I.length)).map (rowV N I), ()) N I C P Q (q : Int)) (fun j => ((j : Int), 0, 0, ())) (.inr (0, 0, ())) (len := lF.length) (m := n)
        (fun self j hj => nohit self j _ (List.getElem?_eq_getElem hj) fun k hk ⟨a, b⟩ => by
          have := (hx.cl j _ k (.inl hj) (List.getElem?_eq_getElem hj) hk a).1
          rw [b] at this; cases this)
        (fun self => by
          unfold ref12_Tell_l2b
          simp only [cond_dec]
          rw [if_neg (by omega)]) (by omega)
      rw [show iter (ref12_Tell_l2b n (dl N I lF, ()) ((List.range (tot (wI N I) I.length)).map (rowV N I), ()) N I C P Q (q : Int)) n (0, 0, 0, ()) = _ from hl, bindS, Sum.elim_inr]
      have ei : IntKind.wrap .i64 (((dl N I lF).length : Int) - 1) = ((lF.length - 1 : Nat) : Int) := by rw [w64 (by omega) (by omega)]; omega
      have hlast := List.getElem?_eq_getElem (show lF.length - 1 < lF.length by omega)
      simp only
      rw [ei, ask_of (by omega), dl_at hlast]
      simp [tellR, hlast]
    | some ik =>
      obtain ⟨i, k⟩ := ik
      obtain ⟨hx, hk, e, he, hL, hH⟩ := g2
      have o2 : lF = lx ++ rr := o2
      have pre : ∀ (a : Nat) (ea : List Int × List Nat), a ≤ i → lF[a]? = some ea → lx[a]? = some ea := fun a ea ha hea => by
        have hi := (List.getElem?_eq_some_iff.1 he).1
        rw [o2, List.getElem?_append_left (by omega)] at hea
        exact hea
      have heF : lF[i]? = some e := by rw [o2]; exact getE_app he
      have hiF := (List.getElem?_eq_some_iff.1 heF).1
      have hl : ∀ (d a m : Nat), a + d = i → d < m → iter (ref12_Tell_l2b n (dl N I lF, ()) ((List.range (tot (wI N I) I.length)).map (rowV N I), ()) N I C P Q (q : Int)) m ((a : Int), 0, 0, ()) = some (.inl (hitD N I e k)) := by
        intro d
        induction d with
        | zero =>
          intro a m ha hm
          obtain ⟨m, rfl⟩ : ∃ k, m = k + 1 := ⟨m - 1, by omega⟩
          have : a = i := by omega
          subst this
          obtain ⟨e', he', hs, hel⟩ := at_l a hiF
          rw [heF] at he'
          cases he'
          rw [iter_s]
          generalize iter (ref12_Tell_l2b n (dl N I lF, ()) ((List.range (tot (wI N I) I.length)).map (rowV N I), ()) N I C P Q (q : Int)) m = self
          unfold ref12_Tell_l2b
          simp only [cond_dec]
          rw [if_pos (by omega)]
          rcases dhit_l (n := n) (q := q) s r sm hn heF hs hel hq h9 with ⟨h, -⟩ | ⟨k', hk', hno, hyes, h⟩
          · exact absurd ⟨hL, hH⟩ (h k hk)
          · have : k' = k := by
              rcases Nat.lt_trichotomy k' k with c | c | c
              · have := (hx.cl a e k' (.inr ⟨rfl, c⟩) he hk' hyes.1).1
                rw [hyes.2] at this; cases this
              · exact c
              · exact absurd ⟨hL, hH⟩ (hno k c)
            subst this
            rw [h, bindS]
            rfl
        | succ d ih =>
          intro a m ha hm
          obtain ⟨m, rfl⟩ : ∃ k, m = k + 1 := ⟨m - 1, by omega⟩
          have ih := ih (a + 1) m (by omega) (by omega)
          rw [iter_s]
          generalize iter (ref12_Tell_l2b n (dl N I lF, ()) ((List.range (tot (wI N I) I.length)).map (rowV N I), ()) N I C P Q (q : Int)) m = self at ih ⊢
          have hea := List.getElem?_eq_getElem (show a < lF.length by omega)
          rw [nohit self a _ hea fun k' hk' ⟨q1, q2⟩ => ?_]
          · exact ih
          · have := (hx.cl a _ k' (.inl (by omega)) (pre a _ (by omega) hea) hk' q1).1
            rw [q2] at this; cases this
      rw [show iter (ref12_Tell_l2b n (dl N I lF, ()) ((List.range (tot (wI N I) I.length)).map (rowV N I), ()) N I C P Q (q : Int)) n (0, 0, 0, ()) = _ from hl i 0 n (by omega) (by omega), bindS, Sum.elim_inl]
      simp only [tellR, he, Option.getD_some, hitD]
      by_cases c : e.2.length < 64
      · rw [if_pos c, if_pos c]
      · rw [if_neg c, if_neg c]
theorem rmany_f (s : Small N I C P Q) (r : RightP N I C P Q) (hn : 100000 < n) : ref12_Many n N I C P Q = some ((manyV N I C P).1, (manyV N I C P).2, ()) := by
  unfold ref12_Many
  rw [(small_f (n := n) r (by omega)).2, bindS]
  unfold manyV
  cases hs : smB N with
  | false => rfl
  | true =>
    simp only [Bool.not_true, cond_false]
    rw [reached_f s r (sm_of r hs) hn, bindS]
    simp [dl]
/-- Verdicts alike. -/
theorem sameV_f {a b : Int} {t : Tr} (ht : t.length ≤ 1000) (hr : ∀ k : Nat, k < t.length → (KLi_at t (k : Int)).length ≤ 1000) (hn : 1000 < n) : ref12_Same n a b t [] a b t [] = some (true, ()) := by
  unfold ref12_Same
  simp only [cond_dec]
  rw [if_pos trivial, if_pos trivial, sameRows_f ht hr hn, bindS]
  simp only [cond_true]
  rw [sameRows_f (x := []) (by simp) (fun k hk => by simp at hk) hn, bindS]
theorem tellV_ok (r : RightP N I C P Q) {p : Int} : (tellV N I C P p).2.2.1.length ≤ 1000 ∧ ∀ k : Nat, k < (tellV N I C P p).2.2.1.length → (KLi_at (tellV N I C P p).2.2.1 (k : Int)).length ≤ 1000 := by
  have hI := r.i
  unfold tellV
  cases badP P p with
  | true => exact ⟨by simp, fun k hk => by simp at hk⟩
  | false =>
    cases smB N with
    | false => exact ⟨by simp, fun k hk => by simp at hk⟩
    | true =>
      simp only
      generalize resN N I C P p = x
      obtain ⟨x1, l⟩ := x
      cases x1 with
      | none => exact ⟨by simp [tellR], fun k hk => by simp [tellR] at hk⟩
      | some ik =>
        obtain ⟨i, k⟩ := ik
        simp only [tellR]
        by_cases c : ((l[i]?).getD ([], [])).2.length < 64
        · rw [if_pos c]
          refine ⟨by simp; omega, fun j hj => ?_⟩
          rw [show KLi_at ((((l[i]?).getD ([], [])).2 ++ [k]).map (rowV N I)) (j : Int) = _ from at_nat (t := KLi_) hj, List.getElem_map, row_len]
          omega
        · rw [if_neg c]
          exact ⟨by simp, fun k hk => by simp at hk⟩
end
theorem tells {N I C P Q} {p : Int} : law12_ReachTells big N I C P Q p = some (true, ()) := by
  have hn : 100000 < big := by decide
  unfold law12_ReachTells
  rw [head12, bindS]
  obtain ⟨g, hg, hs⟩ := great12_f (n := big) (N := N) (I := I) (C := C) (P := P) (Q := Q) (by decide)
  rw [hg, bindS]
  cases g with
  | true => rfl
  | false =>
    obtain ⟨s, r, -⟩ := hs rfl
    simp only [cond_false, cond_true, cond_dec]
    obtain ⟨t1, t2⟩ := tellV_ok (p := p) r
    rw [tell_f s r (by omega), bindS, rtell_f s r hn, bindS, (many_f (n := big) s r (by omega)).1, bindS, rmany_f s r hn, bindS, (small_f (n := big) r (by omega)).1, bindS, (small_f (n := big) r (by omega)).2, bindS]
    simp only [beq_self_eq_true, cond_true, if_true]
    rw [sameV_f t1 t2 (by omega), bindS]
    simp
end Go.Proofs.Ytieocmcjecpgpaa.Am
namespace Go.Proofs.Ytieocmcjecpgpaa.Pure
open Go.Proofs.Ytieocmcjecpgpaa.Am
theorem ReachTells (d : law12_ReachTells_s.I) (_ : BAs law12_ReachTells_s.ar d fun _ => True) : ∃ n, law12_ReachTells n d.1 d.2.1 d.2.2.1 d.2.2.2.1 d.2.2.2.2.1 d.2.2.2.2.2.1 = some (true, ()) := ⟨big, tells⟩
end Go.Proofs.Ytieocmcjecpgpaa.Pure
