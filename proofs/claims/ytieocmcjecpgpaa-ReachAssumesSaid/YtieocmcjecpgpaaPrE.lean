/- What the program tells of a small net. -/
import Derived.Test.YtieocmcjecpgpaaPrD
namespace Go.Proofs.Ytieocmcjecpgpaa.Am
set_option linter.unusedVariables false
set_option linter.unusedSimpArgs false
/-- What a search's end means. -/
def tellR (N : List Nd) (I : List Pn) : Option (Nat × Nat) × List (List Int × List Nat) → Int × Int × Tr
  | (none, l) => (2, (((l[l.length - 1]?).getD ([], [])).2.length : Int), [])
  | (some (i, k), l) => if ((l[i]?).getD ([], [])).2.length < 64 then (1, ((((l[i]?).getD ([], [])).2.length + 1 : Nat) : Int), (((l[i]?).getD ([], [])).2 ++ [k]).map (rowV N I)) else (3, 64, [])
noncomputable def resN (N : List Nd) (I : List Pn) (C : List Cl) (P : List Pw) (p : Int) : Option (Nat × Nat) × List (List Int × List Nat) := (srch (sysN N I C P p) 5000 0 [(firstV C, [])]).getD (none, [])
section
variable {N : List Nd} {I : List Pn} {C : List Cl} {P : List Pw} {Q : List Pn} {n : Nat} {p : Int} {i k : Nat} {l : List (List Int × List Nat)} {ll : List KOne} {met : List (K12 × Bool)}
theorem res_f (r : RightP N I C P Q) (sm : Sm N I C) : srch (sysN N I C P p) 5000 0 [(firstV C, [])] = some (resN N I C P p) ∧ Found (sysN N I C P p) (resN N I C P p) := by
  obtain ⟨x, hx⟩ := srch_ends (S := sysN N I C P p) (M := 4096) (fun i k l h => Nat.le_trans (inv_few r h) sm.s) 5000 (i := 0) Inv.start (by omega) (by simp)
  have hx : srch (sysN N I C P p) 5000 0 [(firstV C, [])] = some x := hx
  have e : resN N I C P p = x := by unfold resN; rw [hx]; rfl
  rw [e]
  exact ⟨hx, srch_inv 5000 Inv.start (by simp) hx⟩
theorem step_f {e : List Int × List Nat} (s : Small N I C P Q) (r : RightP N I C P Q) (sm : Sm N I C) (hn : 1000 < n) (hp : p < P.length) (hinv : Inv (sysN N I C P p) i 0 l) (he : l[i]? = some e) (R : PRel N I C l ll met) :
    ∃ ll' met', PRel N I C (rowsX (sysN N I C P p) e (sysN N I C P p).m 0 l).2 ll' met' ∧ reach_search_step_o_i2 n (i : Int) p N I C P Q ll met = (match (rowsX (sysN N I C P p) e (sysN N I C P p).m 0 l).1 with
      | none => some (false, N, I, C, P, Q, met', [], ll', ())
      | some k' => some (true, N, I, C, P, Q, met', rowV N I k', ll', ())) := by
  have hi := (List.getElem?_eq_some_iff.1 he).1
  have hI := r.i
  obtain ⟨x, hx, x1, x2, -⟩ := R.el i e he
  have hxa : KLiiLii_at ll (i : Int) = x := by
    unfold KLiiLii_at at_
    simp [List.getD_eq_getElem?_getD, hx]
  obtain ⟨st, fl, ret', ll', met', h1, h2, h3⟩ := rows_f (i := i) (e := e) (fr := x.2.1) (rw_ := x.2.2.1) s r sm hn hp (tot (wI N I) I.length) (k := 0) (m := n) (ret := []) (by omega) (tot_pos _) (by have := sm.m; omega) hinv he R
  refine ⟨ll', met', h2, ?_⟩
  unfold reach_search_step_o_i2 reach_rows reach_rows_1__reach_search_step_o reach_rows_1__reach_search_step_o_l2
  rw [ask_of (by rw [R.len]; omega), bindS]
  simp only [hxa, x1, x2]
  rw [ask_of (by omega), show List.replicate (I.length : Int).toNat (0 : Int) = rowV N I 0 from by rw [Int.toNat_natCast]; exact (dg_zero _).symm, h1]
  simp only [bindS]
  have e0 : (sysN N I C P p).m = tot (wI N I) I.length := rfl
  rw [e0]
  cases hr : (rowsX (sysN N I C P p) e (tot (wI N I) I.length) 0 l).1 with
  | none =>
    rw [hr] at h3
    have h3 : st = 0 := h3
    subst h3
    rfl
  | some k' =>
    rw [hr] at h3
    obtain ⟨rfl, rfl, rfl⟩ := h3
    rfl
theorem step4_f {e : List Int × List Nat} (s : Small N I C P Q) (r : RightP N I C P Q) (sm : Sm N I C) (hn : 1000 < n) (hp : p < P.length) (hinv : Inv (sysN N I C P p) i 0 l) (he : l[i]? = some e) (R : PRel N I C l ll met) :
    ∃ ll' met', PRel N I C (rowsX (sysN N I C P p) e (sysN N I C P p).m 0 l).2 ll' met' ∧ reach_search_step_o_i4 n (i : Int) p N I C P Q ll met = (match (rowsX (sysN N I C P p) e (sysN N I C P p).m 0 l).1 with
      | none => some (false, N, I, C, P, Q, met', [], ll', ())
      | some k' => some (true, N, I, C, P, Q, met', rowV N I k', ll', ())) := step_f s r sm hn hp hinv he R
/-- The rows that lead to a state, last first. -/
theorem trace_l (R : PRel N I C l ll met) : ∀ (b : Nat) (e : List Int × List Nat) (out : Tr) (m : Nat), l[b]? = some e → b < m → out.length + b ≤ 10000 → iter (reach_search_trace_i4_l1b n ll) m ((b : Int), out, ()) = some (out ++ e.2.reverse.map (rowV N I), ()) := by
  intro b
  induction b using Nat.strongRecOn with
  | _ b ih =>
    intro e out m hb hm hl
    obtain ⟨m, rfl⟩ : ∃ k, m = k + 1 := ⟨m - 1, by omega⟩
    obtain ⟨x, hx, x1, x2, x3⟩ := R.el b e hb
    have hi := (List.getElem?_eq_some_iff.1 hx).1
    have hxa : KLiiLii_at ll (b : Int) = x := by
      unfold KLiiLii_at at_
      simp [List.getD_eq_getElem?_getD, hx]
    rw [iter_s]
    rcases x3 with ⟨h1, h2⟩ | ⟨a, ea, k', h1, h2, h3, h4, h5⟩
    · unfold reach_search_trace_i4_l1b
      simp only [cond_dec, hxa]
      rw [ask_of (by omega), if_neg (by omega), h1]
      simp
    · have ih := ih a h1 ea (out ++ [rowV N I k']) m h2 (by omega) (by simp; omega)
      generalize iter (reach_search_trace_i4_l1b n ll) m = self at ih ⊢
      unfold reach_search_trace_i4_l1b
      simp only [cond_dec, hxa]
      rw [ask_of (by omega), if_pos (by omega), ask_of (by omega), ask_of ⟨trivial, by simp; omega⟩, ask_of (by omega), h4, h5]
      rw [show (self ((a : Int), out ++ ([rowV N I k'] : List (List Int)), ())) = _ from ih, h3]
      simp
theorem rev_l : ∀ (d : Nat) (A M B : Tr) (m : Nat), M.length = d → d < m → A.length + M.length + B.length ≤ 10000 → iter (slices_Reverse_int_int_l1b n) m ((A.length : Int), (A.length : Int) + (M.length : Int) - 1, A ++ M ++ B, ()) = some (A ++ M.reverse ++ B, ()) := by
  intro d
  induction d using Nat.strongRecOn with
  | _ d ih =>
    intro A M B m hM hm hl
    obtain ⟨m, rfl⟩ : ∃ k, m = k + 1 := ⟨m - 1, by omega⟩
    rw [iter_s]
    match M, hM with
    | [], _ =>
      unfold slices_Reverse_int_int_l1b
      simp only [cond_dec]
      rw [if_neg (by simp; omega)]
      rfl
    | [x], _ =>
      unfold slices_Reverse_int_int_l1b
      simp only [cond_dec]
      rw [if_neg (by simp)]
      rfl
    | x :: y :: M', hM =>
      obtain ⟨M2, z, hz⟩ : ∃ M2 z, y :: M' = M2 ++ [z] := ⟨(y :: M').dropLast, (y :: M').getLast (by simp), (List.dropLast_concat_getLast _).symm⟩
      rw [hz] at hM hl ⊢
      have hlM : (x :: (M2 ++ [z])).length = M2.length + 2 := by simp
      have ih := ih M2.length (by omega) (A ++ [z]) M2 (x :: B) m rfl (by omega) (by simp at hl ⊢; omega)
      generalize iter (slices_Reverse_int_int_l1b n) m = self at ih ⊢
      have e1 : A ++ x :: (M2 ++ [z]) ++ B = A ++ x :: (M2 ++ z :: B) := by simp
      have e2 : A ++ x :: (M2 ++ z :: B) = (A ++ x :: M2) ++ z :: B := by simp
      have hA2 : (A ++ x :: M2).length = A.length + M2.length + 1 := by simp; omega
      have a1 : KLi_at (A ++ x :: (M2 ++ z :: B)) (A.length : Int) = x := at_mid (t := KLi_) rfl
      have a2 : KLi_at (A ++ x :: (M2 ++ z :: B)) ((A.length + M2.length + 1 : Nat) : Int) = z := by rw [e2]; exact at_mid (t := KLi_) hA2
      have s1 : (A ++ x :: (M2 ++ z :: B)).set A.length z = A ++ z :: (M2 ++ z :: B) := set_mid rfl
      have s2 : (A ++ z :: (M2 ++ z :: B)).set (A.length + M2.length + 1) x = (A ++ z :: M2) ++ x :: B := by
        rw [show A ++ z :: (M2 ++ z :: B) = (A ++ z :: M2) ++ z :: B from by simp]
        exact set_mid (by simp; omega)
      have j : (A.length : Int) + ((x :: (M2 ++ [z])).length : Int) - 1 = ((A.length + M2.length + 1 : Nat) : Int) := by rw [hlM]; omega
      have ll : (A ++ x :: (M2 ++ z :: B)).length = A.length + M2.length + B.length + 2 := by simp; omega
      have ll2 : (A ++ z :: (M2 ++ z :: B)).length = A.length + M2.length + B.length + 2 := by simp; omega
      rw [j, e1]
      unfold slices_Reverse_int_int_l1b
      simp only [cond_dec, Int.toNat_natCast, a1, a2, s1, s2, ll, ll2]
      rw [hlM] at hl
      rw [if_pos (by omega), ask_of (by omega), ask_of (by omega), ask_of (by omega), ask_of (by omega), succ64 (by omega), w64 (n := ((A.length + M2.length + 1 : Nat) : Int) - 1) (by omega) (by omega)]
      have e3 : (((A ++ [z]).length : Nat) : Int) = ((A.length + 1 : Nat) : Int) := by simp
      have e4 : (((A ++ [z]).length : Nat) : Int) + (M2.length : Int) - 1 = ((A.length + M2.length + 1 : Nat) : Int) - 1 := by simp; omega
      rw [e4, e3] at ih
      rw [show (A ++ z :: M2) ++ x :: B = A ++ [z] ++ M2 ++ x :: B from by simp]
      rw [show self (((A.length + 1 : Nat) : Int), ((A.length + M2.length + 1 : Nat) : Int) - 1, A ++ [z] ++ M2 ++ x :: B, ()) = _ from ih]
      simp
theorem rev_f {x : Tr} (h : x.length ≤ 10000) (hn : 20000 < n) : slices_Reverse_int_int n x = some (x.reverse, ()) := by
  unfold slices_Reverse_int_int slices_Reverse_int_int_l1
  have := rev_l (n := n) x.length [] x [] n rfl (by omega) (by simp; omega)
  simp only [List.length_nil, List.nil_append, List.append_nil] at this
  rw [w64 (by omega) (by omega), show ((x.length : Int) - 1) = ((0 : Nat) : Int) + (x.length : Int) - 1 by omega, show (0 : Int) = ((0 : Nat) : Int) from rfl, this]
  rfl
theorem traceP_f {e : List Int × List Nat} (R : PRel N I C l ll met) (he : l[i]? = some e) (hi : i ≤ 5000) (hel : e.2.length ≤ 5000) (hn : 20000 < n) : reach_search_trace_i4 n (i : Int) (rowV N I k) N I C P Q ll met = some ((e.2 ++ [k]).map (rowV N I), N, I, C, P, Q, ll, met, ()) := by
  unfold reach_search_trace_i4 reach_search_trace_i4_l1
  rw [trace_l R i e [rowV N I k] n he (by omega) (by simp; omega), bindS, rev_f (by simp; omega) hn, bindS]
  simp
/-- The program's search. -/
theorem tell_l (s : Small N I C P Q) (r : RightP N I C P Q) (sm : Sm N I C) (hn : 20000 < n) (hp : p < P.length) : ∀ (f : Nat) {i m : Nat} {l : List (List Int × List Nat)} {ll : List KOne} {met : List (K12 × Bool)} {x}, srch (sysN N I C P p) f i l = some x → Inv (sysN N I C P p) i 0 l → PRel N I C l ll met → f ≤ m →
    ∃ ll' met', PRel N I C x.2 ll' met' ∧ iter (reach_Tell_l2b n N I C P Q p) m ((i : Int), 0, 0, N, I, C, P, Q, ll, met, ()) = some (match x.1 with | none => .inr (0, 0, N, I, C, P, Q, ll', met', ()) | some _ => .inl (0, (tellR N I x).1, (tellR N I x).2.1, (tellR N I x).2.2, ())) := by
  intro f
  induction f with
  | zero => intro i m l ll met x h; cases h
  | succ f ih =>
    intro i m l ll met x h hinv R hm
    obtain ⟨m, rfl⟩ : ∃ k, m = k + 1 := ⟨m - 1, by omega⟩
    have hll := R.len
    have hl : l.length ≤ 4096 := Nat.le_trans (inv_few r hinv) sm.s
    rw [iter_s]
    unfold srch at h
    split at h
    · rename_i hx
      cases h
      have := List.getElem?_eq_none_iff.1 hx
      refine ⟨ll, met, R, ?_⟩
      unfold reach_Tell_l2b
      simp only [cond_dec]
      rw [if_neg (by omega)]
    · rename_i e he
      have hi := (List.getElem?_eq_some_iff.1 he).1
      obtain ⟨ll', met', R', hst⟩ := step_f (n := n) s r sm (by omega) hp hinv he R
      obtain ⟨r2, h1, h2⟩ := rowsX_inv (sysN N I C P p).m (by omega) hinv he
      split at h
      · rename_i k' l' hr
        rw [hr] at R' hst h1 h2
        cases h
        rcases h2 with ⟨q, -⟩ | ⟨k2, q, hk2, hinv', -⟩
        · cases q
        cases q
        have h1 : l' = l ++ r2 := h1
        have he' : l'[i]? = some e := by rw [h1]; exact getE_app he
        have hel := hinv'.len i e he'
        refine ⟨ll', met', R', ?_⟩
        generalize iter (reach_Tell_l2b n N I C P Q p) m = self
        unfold reach_Tell_l2b
        simp only [cond_dec]
        rw [if_pos (by omega)]
        simp only at hst
        rw [hst, bindS]
        simp only [Bool.not_true, cond_false]
        rw [traceP_f R' he' (by omega) (by omega) hn, bindS]
        have fit : ∀ j : Nat, j < ((e.2 ++ [k']).map (rowV N I)).length → FitI N I (KLi_at ((e.2 ++ [k']).map (rowV N I)) (j : Int)) := fun j hj => by
          rw [show KLi_at ((e.2 ++ [k']).map (rowV N I)) (j : Int) = _ from at_nat (t := KLi_) hj, List.getElem_map]
          exact fit_row r _
        have tl : ((e.2 ++ [k']).map (rowV N I)).length = e.2.length + 1 := by simp
        have hid : iter (sim_Right_l2b n N I C P Q ((e.2 ++ [k']).map (rowV N I))) n (0, ()) = some (.inr ()) := iter_up (F := sim_Right_l2b n N I C P Q ((e.2 ++ [k']).map (rowV N I))) (fun j => ((j : Int), ())) (.inr ()) (len := ((e.2 ++ [k']).map (rowV N I)).length) (m := n)
          (fun self j hj => by
            have hf := fit j hj
            have h0 := hf.1
            unfold sim_Right_l2b
            simp only [cond_dec]
            rw [if_pos (by omega), ask_of (by omega), if_neg (by omega)]
            rcases rightRow_f (n := n) (t := (e.2 ++ [k']).map (rowV N I)) (k := j) s r (by omega) h0 with ⟨-, e⟩ | ⟨q, -⟩
            · rw [e, bindS, succ64 (by omega)]; rfl
            · exact absurd hf q)
          (fun self => by
            unfold sim_Right_l2b
            simp only [cond_dec]
            rw [if_neg (by omega)]) (by omega)
        have hR : sim_Right n N I C P Q ((e.2 ++ [k']).map (rowV N I)) = some (decide (((e.2 ++ [k']).map (rowV N I)).length ≤ 64), ()) := by
          unfold sim_Right sim_Right_l2
          rw [hid, bindS, Sum.elim_inr]
          congr 2
          exact decide_eq_decide.2 (by omega)
        simp only
        rw [hR, bindS]
        simp only [tellR, he', Option.getD_some]
        by_cases c : e.2.length < 64
        · rw [if_pos c, decide_eq_true (by omega)]
          simp
        · rw [if_neg c, decide_eq_false (by omega)]
          rfl
      · rename_i l' hr
        rw [hr] at R' hst h1 h2
        rcases h2 with ⟨-, hinv'⟩ | ⟨k2, q, -⟩
        · have ih := ih (i := i + 1) (m := m) h hinv'.next R' (by omega)
          generalize iter (reach_Tell_l2b n N I C P Q p) m = self at ih ⊢
          unfold reach_Tell_l2b
          simp only [cond_dec]
          rw [if_pos (by omega)]
          simp only at hst
          rw [hst, bindS]
          simp only [Bool.not_false, cond_true]
          rw [succ64 (by omega)]
          exact ih
        · cases q
theorem many_l (s : Small N I C P Q) (r : RightP N I C P Q) (sm : Sm N I C) (hn : 20000 < n) : ∀ (f : Nat) {i m : Nat} {l : List (List Int × List Nat)} {ll : List KOne} {met : List (K12 × Bool)} {x}, srch (sysN N I C P (-1)) f i l = some x → Inv (sysN N I C P (-1)) i 0 l → PRel N I C l ll met → f ≤ m →
    ∃ ll' met', x.1 = none ∧ PRel N I C x.2 ll' met' ∧ iter (reach_Many_l1b n) m ((i : Int), N, I, C, P, Q, ll, met, ()) = some (N, I, C, P, Q, ll', met', ()) := by
  intro f
  induction f with
  | zero => intro i m l ll met x h; cases h
  | succ f ih =>
    intro i m l ll met x h hinv R hm
    obtain ⟨m, rfl⟩ : ∃ k, m = k + 1 := ⟨m - 1, by omega⟩
    have hll := R.len
    have hl : l.length ≤ 4096 := Nat.le_trans (inv_few r hinv) sm.s
    rw [iter_s]
    unfold srch at h
    split at h
    · rename_i hx
      cases h
      have := List.getElem?_eq_none_iff.1 hx
      refine ⟨ll, met, rfl, R, ?_⟩
      unfold reach_Many_l1b
      simp only [cond_dec]
      rw [if_neg (by omega)]
    · rename_i e he
      have hi := (List.getElem?_eq_some_iff.1 he).1
      obtain ⟨ll', met', R', hst⟩ := step4_f (n := n) s r sm (by omega) (by omega) hinv he R
      obtain ⟨r2, h1, h2⟩ := rowsX_inv (sysN N I C P (-1)).m (by omega) hinv he
      split at h
      · rename_i k' l' hr
        rw [hr] at h2
        rcases h2 with ⟨q, -⟩ | ⟨k2, q, -, -, -, q2⟩
        · cases q
        · have : (sysN N I C P (-1)).H e.1 k2 = false := rfl
          rw [this] at q2
          cases q2
      · rename_i l' hr
        rw [hr] at R' hst h1 h2
        rcases h2 with ⟨-, hinv'⟩ | ⟨k2, q, -⟩
        · have ih := ih (i := i + 1) (m := m) h hinv'.next R' (by omega)
          generalize iter (reach_Many_l1b n) m = self at ih ⊢
          unfold reach_Many_l1b
          simp only [cond_dec]
          rw [if_pos (by omega)]
          simp only at hst
          rw [hst, bindS]
          simp only
          rw [succ64 (by omega)]
          exact ih
        · cases q
/-- The beginning. -/
theorem begin_f (s : Small N I C P Q) (r : RightP N I C P Q) (hc : C.length ≤ 12) (hn : 1000 < n) : ∃ ll met, reach_begin_o n N I C P Q = some (N, I, C, P, Q, ll, met, ()) ∧ PRel N I C [(firstV C, [])] ll met := by
  have e0 : reach_search_add_o n (firstV C) (-1) [] 0 N I C P Q [] = some (N, I, C, P, Q, Miiiiiiiiiiii_b_put [] (keyO (firstV C)) true, [(firstV C, -1, [], 0)], ()) := rfl
  refine ⟨[(firstV C, -1, [], 0)], Miiiiiiiiiiii_b_put [] (keyO (firstV C)) true, ?_, rfl, fun b e hb => ?_, fun u hu => ?_⟩
  · unfold reach_begin_o
    rw [first_f s hn, bindS]
    simp only
    rw [e0]
    rfl
  · cases b with
    | zero =>
      cases hb
      exact ⟨_, rfl, rfl, rfl, .inl ⟨rfl, rfl⟩⟩
    | succ b => simp at hb
  · by_cases c : u = firstV C
    · rw [c, get_same]; simp [mem1]
    · have hf := fit_first r
      rw [get_other (fun e => c (keyO_inj (hu.1.trans hf.1.symm) (by rw [hu.1]; exact hc) e)), get_nil]
      simp [mem1, Ne.symm c]
end
end Go.Proofs.Ytieocmcjecpgpaa.Am
