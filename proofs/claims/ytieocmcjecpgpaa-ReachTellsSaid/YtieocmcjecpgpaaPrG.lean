/- The document's search is the search. -/
import Derived.Test.YtieocmcjecpgpaaPrR
namespace Go.Proofs.Ytieocmcjecpgpaa.Am
set_option linter.unusedVariables false
set_option linter.unusedSimpArgs false
theorem tot_mono {w : Nat → Nat} : ∀ {j k : Nat}, j ≤ k → tot w j ≤ tot w k := fun {j k} h => by
  induction h with
  | refl => exact Nat.le_refl _
  | step _ ih => exact Nat.le_trans ih (by rw [tot]; exact Nat.le_mul_of_pos_right _ (p2n_pos _))
section
variable {N : List Nd} {I : List Pn} {C : List Cl} {P : List Pw} {Q : List Pn} {n : Nat} {p : Int} {l : List (List Int × List Nat)}
theorem rows1_f (r : RightP N I C P Q) (hn : 100000 < n) {i k : Nat} (hi : i < I.length) {out next nx : Tr} (hk : k < out.length) (hl : (KLi_at out (k : Int)).length = i) (hx : next.length + 2 ^ wI N I i ≤ 70000) : ref12_Rows_l1 n ((i : Int), out, ()) ((k : Int), nx, ()) N I (0, next, ()) = some (next ++ (List.range (2 ^ wI N I i)).map (fun y : Nat => KLi_at out (k : Int) ++ [(y : Int)]), ()) := by
  obtain ⟨m0, m1, -⟩ := pin_node r.ins hi
  have hw := node_at r.nodes m0 m1
  have w1 := hw.w1
  have w16 := hw.w16
  have hi2 := r.i
  have hp3 := p2_16 w16
  have hp2 : P2 (Kiiiiiii_at N (Ksi_at I (i : Int)).2).2.1 = ((2 ^ wI N I i : Nat) : Int) := rfl
  have h := iter_up (F := ref12_Rows_l1b n ((i : Int), out, ()) ((k : Int), nx, ()) N I) (fun j => ((j : Int), next ++ (List.range j).map (fun y : Nat => KLi_at out (k : Int) ++ [(y : Int)]), ())) (next ++ (List.range (2 ^ wI N I i)).map (fun y : Nat => KLi_at out (k : Int) ++ [(y : Int)]), ()) (len := 2 ^ wI N I i) (m := n)
    (fun self j hj => by
      unfold ref12_Rows_l1b
      simp only [cond_dec]
      rw [ask_of (by omega), ask_of (by omega), rmask_f (by omega) (by omega), bindS]
      simp only
      rw [if_pos (by omega), ask_of (by omega), ask_of ⟨trivial, by simp; omega⟩, ask_of ⟨trivial, by simp; omega⟩, ask_of ⟨trivial, by simp; omega⟩, succ64 (by omega), List.nil_append, List.append_assoc, range_app (g := fun y : Nat => KLi_at out (k : Int) ++ [(y : Int)])])
    (fun self => by
      unfold ref12_Rows_l1b
      simp only [cond_dec]
      rw [ask_of (by omega), ask_of (by omega), rmask_f (by omega) (by omega), bindS]
      simp only
      rw [if_neg (by omega)]) (by omega)
  unfold ref12_Rows_l1
  simp only [List.range_zero, List.map_nil, List.append_nil] at h
  exact h
theorem rrows_f (r : RightP N I C P Q) (sm : Sm N I C) (hn : 100000 < n) : ref12_Rows n N I C P Q = some ((List.range (tot (wI N I) I.length)).map (rowV N I), ()) := by
  have hi2 := r.i
  have h3 := iter_up (F := ref12_Rows_l3b n N I) (fun j => ((j : Int), (List.range (tot (wI N I) j)).map (dgs (wI N I) j), ())) ((List.range (tot (wI N I) I.length)).map (dgs (wI N I) I.length), ()) (len := I.length) (m := n)
    (fun self j hj => by
      have ht1 : tot (wI N I) (j + 1) ≤ 256 := Nat.le_trans (tot_mono (by omega)) sm.m
      have htt : tot (wI N I) (j + 1) = tot (wI N I) j * 2 ^ wI N I j := rfl
      have hpp := p2n_pos (wI N I j)
      have hle : tot (wI N I) j ≤ tot (wI N I) (j + 1) := tot_mono (by omega)
      have h2 := iter_up (F := ref12_Rows_l2b n ((j : Int), (List.range (tot (wI N I) j)).map (dgs (wI N I) j), ()) N I) (fun k => ((k : Int), (List.range (k * 2 ^ wI N I j)).map (dgs (wI N I) (j + 1)), ())) ((List.range (tot (wI N I) (j + 1))).map (dgs (wI N I) (j + 1)), ()) (len := tot (wI N I) j) (m := n)
        (fun self k hk => by
          have ek : KLi_at ((List.range (tot (wI N I) j)).map (dgs (wI N I) j)) (k : Int) = dgs (wI N I) j k := at_range (t := KLi_) hk
          have hkm : (k + 1) * 2 ^ wI N I j ≤ tot (wI N I) j * 2 ^ wI N I j := Nat.mul_le_mul_right _ hk
          rw [Nat.add_mul, Nat.one_mul] at hkm
          unfold ref12_Rows_l2b
          simp only [cond_dec]
          rw [if_pos (by simp; omega), rows1_f r hn hj (by simp; omega) (by rw [ek, dg_len]) (by simp; omega), bindS, succ64 (by omega), ek]
          simp only
          have e : (List.range (k * 2 ^ wI N I j)).map (dgs (wI N I) (j + 1)) ++ (List.range (2 ^ wI N I j)).map (fun y : Nat => dgs (wI N I) j k ++ [(y : Int)]) = (List.range ((k + 1) * 2 ^ wI N I j)).map (dgs (wI N I) (j + 1)) := by
            rw [Nat.add_mul, Nat.one_mul, List.range_add, List.map_append, List.map_map]
            congr 1
            refine List.map_congr_left fun y hy => ?_
            exact (dg_mul j k y (List.mem_range.1 hy)).symm
          rw [e])
        (fun self => by
          unfold ref12_Rows_l2b
          simp only [cond_dec]
          rw [if_neg (by simp)]
          rfl) (by omega)
      unfold ref12_Rows_l3b ref12_Rows_l2
      simp only [cond_dec]
      simp only [Nat.zero_mul, List.range_zero, List.map_nil] at h2
      rw [if_pos (by omega), show iter (ref12_Rows_l2b n ((j : Int), (List.range (tot (wI N I) j)).map (dgs (wI N I) j), ()) N I) n (0, [], ()) = _ from h2, bindS, succ64 (by omega)])
    (fun self => by
      unfold ref12_Rows_l3b
      simp only [cond_dec]
      rw [if_neg (by omega)]) (by omega)
  unfold ref12_Rows ref12_Rows_l3
  rw [show iter (ref12_Rows_l3b n N I) n (0, ([([] : List Int)] : List (List Int)), ()) = _ from h3]
  rfl
theorem rsame_f {x y : List Int} (hl : x.length = y.length) (hx : x.length ≤ 1000) (hn : 1000 < n) : ref12_same n x y = some (decide (x = y), ()) := by
  have l1 := iter_all (F := ref12_same_l1b n x y) (fun j => ((j : Int), ())) (fun j => Ki_at x (j : Int) = Ki_at y (j : Int)) (fun j => (false, ())) () (len := x.length) (m := n)
    (fun self j hj hall hk => by
      unfold ref12_same_l1b
      simp only [cond_dec]
      rw [if_pos (by omega), ask_of (by omega), ask_of (by omega), if_neg (by simpa using hk), succ64 (by omega)])
    (fun self j hj hall hk => by
      unfold ref12_same_l1b
      simp only [cond_dec]
      rw [if_pos (by omega), ask_of (by omega), ask_of (by omega), if_pos hk])
    (fun _ self => by
      unfold ref12_same_l1b
      simp only [cond_dec]
      rw [if_neg (by omega)]) (by omega)
  unfold ref12_same ref12_same_l1
  rcases l1 with ⟨ha, e⟩ | ⟨j, hj, -, hk, e⟩
  · have : x = y := ext_at (t := i_) hl fun j hj => ha j hj
    rw [show iter (ref12_same_l1b n x y) n (0, ()) = _ from e, bindS, Sum.elim_inr, decide_eq_true this, decide_eq_true (by omega)]
  · rw [show iter (ref12_same_l1b n x y) n (0, ()) = _ from e, bindS, Sum.elim_inl, decide_eq_false (fun q => hk (by rw [q]))]
/-- What is found, as the document keeps it. -/
def dl (N : List Nd) (I : List Pn) (l : List (List Int × List Nat)) : List KLiLLi := l.map fun e => (e.1, e.2.map (rowV N I))
theorem dl_at {b : Nat} {e : List Int × List Nat} (h : l[b]? = some e) : KLiLLi_at (dl N I l) (b : Int) = (e.1, e.2.map (rowV N I)) := by
  unfold KLiLLi_at at_ dl
  simp [List.getD_eq_getElem?_getD, h]
theorem find_f {u : List Int} (hf : ∀ (b : Nat) e, l[b]? = some e → e.1.length = u.length) (hu : u.length ≤ 1000) (hl : l.length ≤ 5000) (hn : 20000 < n) : ∃ z : Int, ref12_find n (dl N I l) u = some (z, ()) ∧ (z < 0 ↔ mem1 u l = false) := by
  have ll : (dl N I l).length = l.length := by simp [dl]
  have l1 := iter_all (F := ref12_find_l1b n (dl N I l) u) (fun j => ((j : Int), ())) (fun j => ∀ e, l[j]? = some e → e.1 ≠ u) (fun j => ((j : Int), ())) () (len := l.length) (m := n)
    (fun self j hj hall hk => by
      have hj' := List.getElem?_eq_getElem hj
      unfold ref12_find_l1b
      simp only [cond_dec]
      rw [if_pos (by omega), ask_of (by omega), dl_at hj', rsame_f (hf j _ hj') (by rw [hf j _ hj']; omega) (by omega), bindS]
      simp only
      rw [decide_eq_false (hk _ hj'), succ64 (by omega)]
      rfl)
    (fun self j hj hall hk => by
      have hj' := List.getElem?_eq_getElem hj
      have : l[j].1 = u := Classical.not_not.1 fun q => hk fun e he => by rw [hj'] at he; cases he; exact q
      unfold ref12_find_l1b
      simp only [cond_dec]
      rw [if_pos (by omega), ask_of (by omega), dl_at hj', rsame_f (hf j _ hj') (by rw [hf j _ hj']; omega) (by omega), bindS]
      simp only
      rw [decide_eq_true this]
      rfl)
    (fun _ self => by
      unfold ref12_find_l1b
      simp only [cond_dec]
      rw [if_neg (by omega)]) (by omega)
  unfold ref12_find ref12_find_l1
  rcases l1 with ⟨ha, e⟩ | ⟨j, hj, -, hk, e⟩
  · rw [show iter (ref12_find_l1b n (dl N I l) u) n (0, ()) = _ from e]
    refine ⟨-1, rfl, ⟨fun _ => ?_, fun _ => by omega⟩⟩
    cases hm : mem1 u l with
    | false => rfl
    | true =>
      obtain ⟨b, eb, q1, q2⟩ := mem1_iff.1 hm
      exact absurd q2 (ha b (List.getElem?_eq_some_iff.1 q1).1 eb q1)
  · rw [show iter (ref12_find_l1b n (dl N I l) u) n (0, ()) = _ from e]
    refine ⟨(j : Int), rfl, ⟨fun q => by omega, fun q => ?_⟩⟩
    have hj' := List.getElem?_eq_getElem hj
    have : l[j].1 = u := Classical.not_not.1 fun q => hk fun e he => by rw [hj'] at he; cases he; exact q
    rw [mem1_iff.2 ⟨j, _, hj', this⟩] at q
    cases q
theorem dl_snoc {e : List Int × List Nat} : dl N I (l ++ [e]) = dl N I l ++ [(e.1, e.2.map (rowV N I))] := by simp [dl]
/-- The document's way through all rows of a state. -/
theorem drows_l (s : Small N I C P Q) (r : RightP N I C P Q) (sm : Sm N I C) (hn : 100000 < n) {i : Nat} {e : List Int × List Nat} {x : List KLiLLi} : ∀ (d : Nat) {k m : Nat} {l : List (List Int × List Nat)}, k + d = tot (wI N I) I.length → d < m → Inv (sysN N I C P (-1)) i k l → l[i]? = some e →
    iter (ref12_Reached_l2b n ((i : Int), x, ()) ((List.range (tot (wI N I) I.length)).map (rowV N I), ()) N I C P Q) m ((k : Int), dl N I l, ()) = some (dl N I (rowsX (sysN N I C P (-1)) e d k l).2, ()) := by
  have R : ∀ k : Nat, k < tot (wI N I) I.length → KLi_at ((List.range (tot (wI N I) I.length)).map (rowV N I)) (k : Int) = rowV N I k := fun k hk => at_range (t := KLi_) hk
  have hR : ((List.range (tot (wI N I) I.length)).map (rowV N I)).length = tot (wI N I) I.length := by simp
  generalize (List.range (tot (wI N I) I.length)).map (rowV N I) = RR at *
  have s3 := s.c
  have hm := sm.m
  intro d
  induction d with
  | zero =>
    intro k m l hk hmm hinv he
    obtain ⟨m, rfl⟩ : ∃ k, m = k + 1 := ⟨m - 1, by omega⟩
    rw [iter_s]
    unfold ref12_Reached_l2b
    simp only [cond_dec]
    rw [if_neg (by omega)]
    rfl
  | succ d ih =>
    intro k m l hk hmm hinv he
    obtain ⟨m, rfl⟩ : ∃ k, m = k + 1 := ⟨m - 1, by omega⟩
    have hi := (List.getElem?_eq_some_iff.1 he).1
    have hl : l.length ≤ 4096 := Nat.le_trans (inv_few r hinv) sm.s
    have ll : (dl N I l).length = l.length := by simp [dl]
    have hs := inv_fit r hinv i e he
    have hf := fit_row r k (N := N) (I := I)
    have hA := nums_evalV r hf hs
    have hfa := fit_after r hA
    have hlen := hinv.len i e he
    have hL : (sysN N I C P (-1)).L e.1 k = legalB P (evalV N I C e.1 (rowV N I k)) := rfl
    have hH : (sysN N I C P (-1)).H e.1 k = false := rfl
    have eX : rowsX (sysN N I C P (-1)) e (d + 1) k l = match (sysN N I C P (-1)).L e.1 k with
      | false => rowsX (sysN N I C P (-1)) e d (k + 1) l
      | true => match (sysN N I C P (-1)).H e.1 k with
        | true => (some k, l)
        | false => rowsX (sysN N I C P (-1)) e d (k + 1) (add1 ((sysN N I C P (-1)).A e.1 k) (e.2 ++ [k]) l) := rfl
    rw [iter_s]
    have ih' := fun {l'} h1 h2 => ih (k := k + 1) (m := m) (l := l') (by omega) (by omega) h1 h2
    generalize iter (ref12_Reached_l2b n ((i : Int), x, ()) (RR, ()) N I C P Q) m = self at ih' ⊢
    obtain ⟨z, hz, hz2⟩ := find_f (n := n) (N := N) (I := I) (l := l) (u := afterV C (evalV N I C e.1 (rowV N I k))) (fun b eb hb => by rw [(inv_fit r hinv b eb hb).1, hfa.1]) (by rw [hfa.1]; omega) (by omega) (by omega)
    have j1 : ref12_Reached_j1 n ((k : Int), dl N I l, ()) (evalV N I C e.1 (rowV N I k), ()) (afterV C (evalV N I C e.1 (rowV N I k)), ()) N I C P Q = some (legalB P (evalV N I C e.1 (rowV N I k)) && decide (z < 0), ()) := by
      unfold ref12_Reached_j1
      simp only
      rw [rProps_f s r (evalV_len _ _ _ _ _) (by omega), bindS]
      simp only
      rw [rLegal_f s r hA (by omega), bindS]
      simp only
      cases legalB P (evalV N I C e.1 (rowV N I k)) with
      | false => rfl
      | true =>
        simp only [cond_true]
        rw [hz]
        rfl
    unfold ref12_Reached_l2b
    simp only [cond_dec]
    rw [if_pos (by omega), ask_of (by omega), ask_of (by omega), dl_at he, R k (by omega), reval_f s r hf hs (by omega), bindS, ask_of (by omega), ask_of (by omega), rafter_f s r hf hs (by omega), bindS, j1, bindS]
    simp only
    rw [eX, hL, succ64 (by omega)]
    cases hLe : legalB P (evalV N I C e.1 (rowV N I k)) with
    | false =>
      simp only [Bool.false_and, cond_false]
      exact ih' (hinv.skip he (by rw [hL]; exact hLe)) he
    | true =>
      have hgo := hinv.go he (show k < tot (wI N I) I.length by omega) (by rw [hL]; exact hLe) hH
      have eA : (sysN N I C P (-1)).A e.1 k = afterV C (evalV N I C e.1 (rowV N I k)) := rfl
      simp only [hH]
      rw [eA] at hgo ⊢
      unfold add1 at hgo ⊢
      cases hmm2 : mem1 (afterV C (evalV N I C e.1 (rowV N I k))) l with
      | true =>
        rw [hmm2] at hgo
        have : ¬ z < 0 := fun q => by rw [hz2.1 q] at hmm2; cases hmm2
        rw [decide_eq_false this]
        simp only [Bool.and_false, cond_false]
        exact ih' hgo he
      | false =>
        rw [hmm2] at hgo
        rw [decide_eq_true (hz2.2 hmm2)]
        simp only [Bool.and_true, cond_true, List.nil_append]
        rw [ask_of (by omega), ask_of ⟨trivial, by simp; omega⟩, ask_of (by omega), ask_of ⟨trivial, by simp; omega⟩, ask_of ⟨trivial, by simp; omega⟩]
        have := ih' hgo (getE_app he)
        rw [dl_snoc] at this
        simp only [List.map_append, List.map_cons, List.map_nil] at this
        exact this
theorem dsrch_l (s : Small N I C P Q) (r : RightP N I C P Q) (sm : Sm N I C) (hn : 100000 < n) : ∀ (f : Nat) {i m : Nat} {l : List (List Int × List Nat)} {x}, srch (sysN N I C P (-1)) f i l = some x → Inv (sysN N I C P (-1)) i 0 l → f ≤ m →
    iter (ref12_Reached_l3b n ((List.range (tot (wI N I) I.length)).map (rowV N I), ()) N I C P Q) m ((i : Int), dl N I l, ()) = some (dl N I x.2, ()) := by
  intro f
  induction f with
  | zero => intro i m l x h; cases h
  | succ f ih =>
    intro i m l x h hinv hm
    obtain ⟨m, rfl⟩ : ∃ k, m = k + 1 := ⟨m - 1, by omega⟩
    have hl : l.length ≤ 4096 := Nat.le_trans (inv_few r hinv) sm.s
    have ll : (dl N I l).length = l.length := by simp [dl]
    rw [iter_s]
    unfold srch at h
    split at h
    · rename_i hx
      cases h
      have := List.getElem?_eq_none_iff.1 hx
      unfold ref12_Reached_l3b
      simp only [cond_dec]
      rw [if_neg (by omega)]
    · rename_i e he
      have hi := (List.getElem?_eq_some_iff.1 he).1
      have hd := drows_l (n := n) (x := dl N I l) s r sm hn (tot (wI N I) I.length) (k := 0) (m := n) (by omega) (by have := sm.m; omega) hinv he
      obtain ⟨r2, h1, h2⟩ := rowsX_inv (sysN N I C P (-1)).m (by omega) hinv he
      split at h
      · rename_i k' l' hr
        rw [hr] at h2
        rcases h2 with ⟨q, -⟩ | ⟨k2, q, -, -, -, q2⟩
        · cases q
        · have : (sysN N I C P (-1)).H e.1 k2 = false := rfl
          rw [this] at q2
          cases q2
      · rename_i l' hr
        have hr' : rowsX (sysN N I C P (-1)) e (tot (wI N I) I.length) 0 l = (none, l') := hr
        rw [hr'] at hd
        rw [hr] at h1 h2
        rcases h2 with ⟨-, hinv'⟩ | ⟨k2, q, -⟩
        · have ih := ih (i := i + 1) (m := m) h hinv'.next (by omega)
          generalize iter (ref12_Reached_l3b n ((List.range (tot (wI N I) I.length)).map (rowV N I), ()) N I C P Q) m = self at ih ⊢
          unfold ref12_Reached_l3b ref12_Reached_l2
          simp only [cond_dec]
          rw [if_pos (by omega)]
          rw [show iter (ref12_Reached_l2b n ((i : Int), dl N I l, ()) ((List.range (tot (wI N I) I.length)).map (rowV N I), ()) N I C P Q) n (0, dl N I l, ()) = _ from hd, bindS, succ64 (by omega)]
          exact ih
        · cases q
theorem reached_f (s : Small N I C P Q) (r : RightP N I C P Q) (sm : Sm N I C) (hn : 100000 < n) : ref12_Reached n N I C P Q = some (dl N I (resN N I C P (-1)).2, ()) := by
  obtain ⟨h1, h2⟩ := res_f (p := -1) r sm
  have := dsrch_l (n := n) s r sm hn 5000 (i := 0) (m := n) h1 Inv.start (by omega)
  unfold ref12_Reached ref12_Reached_l3
  rw [rfirst_f s (by omega), bindS, rrows_f r sm hn, bindS]
  simp only
  rw [show iter (ref12_Reached_l3b n ((List.range (tot (wI N I) I.length)).map (rowV N I), ()) N I C P Q) n (0, [(firstV C, [])], ()) = _ from this]
  rfl
end
end Go.Proofs.Ytieocmcjecpgpaa.Am
