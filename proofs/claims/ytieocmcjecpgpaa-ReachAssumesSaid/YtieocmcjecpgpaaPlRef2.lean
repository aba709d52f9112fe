/- What all nodes are, first, after, by the document: the same. -/
import Derived.Test.YtieocmcjecpgpaaPlRef
namespace Go.Proofs.Ytieocmcjecpgpaa.Am
set_option linter.unusedVariables false
set_option linter.unusedSimpArgs false
theorem i_set {l : List Int} {i j : Nat} {x : Int} (hi : i < l.length) : Ki_at (l.set i x) (j : Int) = if i = j then x else Ki_at l (j : Int) := at_set (t := i_) hi
theorem setS_other {l : List Int} {p x : Nat → Int} : ∀ {k m : Nat}, (∀ j, j < k → 0 ≤ p j ∧ p j ≠ (m : Int)) → Ki_at (setS l p x k) (m : Int) = Ki_at l (m : Int)
  | 0, m, _ => rfl
  | k + 1, m, h => by
    rw [setS]
    have ih := setS_other (l := l) (p := p) (x := x) (k := k) (m := m) fun j hj => h j (by omega)
    have hk := h k (by omega)
    by_cases c : (p k).toNat < (setS l p x k).length
    · rw [i_set c, if_neg (by omega)]; exact ih
    · rw [List.set_eq_of_length_le (by omega)]; exact ih
theorem setS_at {l : List Int} {p x : Nat → Int} : ∀ {k j : Nat}, j < k → (∀ j, j < k → 0 ≤ p j ∧ p j < l.length) → (∀ i j, i < k → j < k → p i = p j → i = j) → Ki_at (setS l p x k) (p j) = x j
  | 0, j, h, _, _ => by omega
  | k + 1, j, h, hp, inj => by
    rw [setS]
    have hl := setS_len l p x k
    have hk := hp k (by omega)
    have hj := hp j h
    obtain ⟨m, hm⟩ := Int.eq_ofNat_of_zero_le hj.1
    by_cases c : j = k
    · subst c
      rw [show (p j).toNat = m by omega, hm, i_set (by rw [hl]; omega), if_pos rfl]
    · have ih := setS_at (l := l) (p := p) (x := x) (k := k) (j := j) (by omega) (fun i hi => hp i (by omega)) fun a b ha hb => inj a b (by omega) (by omega)
      rw [hm, i_set (by rw [hl]; omega), if_neg fun q => c (inj j k (by omega) (by omega) (by omega)), ← hm]
      exact ih
theorem frm_nodup {N : List Nd} {op : Int} : ∀ (d i : Nat), (frm N op i d).Nodup
  | 0, i => by simp [frm]
  | d + 1, i => by
    rw [frm]
    split
    · refine List.nodup_cons.2 ⟨fun h => ?_, frm_nodup d (i + 1)⟩
      have := (frm_mem _ _ _ h).1
      omega
    · exact frm_nodup d (i + 1)
theorem inj_of {α : Type} {l : List α} {f : α → Int} (h : (l.map f).Nodup) {i j : Nat} (hi : i < l.length) (hj : j < l.length) (e : f l[i] = f l[j]) : i = j := by
  have hi' : i < (l.map f).length := by simpa using hi
  have hj' : j < (l.map f).length := by simpa using hj
  have hp := List.pairwise_iff_getElem.1 h
  rcases Nat.lt_trichotomy i j with q | q | q
  · exact absurd (by simpa using e) (hp i j hi' hj' q)
  · exact q
  · exact absurd (by simpa using e.symm) (hp j i hj' hi' q)
section
variable {N : List Nd} {I : List Pn} {C : List Cl} {P : List Pw} {Q : List Pn} {st ins : List Int}
theorem pin_inj (r : RightP N I C P Q) {i j : Nat} (hi : i < I.length) (hj : j < I.length) (e : (Ksi_at I (i : Int)).2 = (Ksi_at I (j : Int)).2) : i = j := by
  refine inj_of (l := I) (f := (·.2)) (by rw [r.ins]; exact frm_nodup _ _) hi hj ?_
  have a : Ksi_at I (i : Int) = I[i] := at_nat (t := Ksi_) hi
  have b : Ksi_at I (j : Int) = I[j] := at_nat (t := Ksi_) hj
  rw [a, b] at e
  exact e
theorem cell_inj (r : RightP N I C P Q) {i j : Nat} (hi : i < C.length) (hj : j < C.length) (e : (Ksiii_at C (i : Int)).2.1 = (Ksiii_at C (j : Int)).2.1) : i = j := by
  refine inj_of (l := C) (f := (·.2.1)) (by rw [r.cells]; exact frm_nodup _ _) hi hj ?_
  have a : Ksiii_at C (i : Int) = C[i] := at_nat (t := Ksiii_) hi
  have b : Ksiii_at C (j : Int) = C[j] := at_nat (t := Ksiii_) hj
  rw [a, b] at e
  exact e
theorem stV_cell (r : RightP N I C P Q) {j : Nat} (hj : j < C.length) : Ki_at (stV N I C st ins) (Ksiii_at C (j : Int)).2.1 = Ki_at st (j : Int) := by
  have hl : (insV N I ins).length = N.length := by rw [insV, setS_len, List.length_replicate]
  unfold stV
  refine setS_at (p := fun j : Nat => (Ksiii_at C (j : Int)).2.1) (x := fun j : Nat => Ki_at st (j : Int)) hj (fun k hk => ?_) fun a b ha hb e => cell_inj r ha hb e
  obtain ⟨m0, m1, -⟩ := cell_node r.cells hk
  exact ⟨m0, by omega⟩
theorem stV_pin (r : RightP N I C P Q) {j : Nat} (hj : j < I.length) : Ki_at (stV N I C st ins) (Ksi_at I (j : Int)).2 = Ki_at ins (j : Int) := by
  obtain ⟨p0, p1, p2⟩ := pin_node r.ins hj
  have e : (Ksi_at I (j : Int)).2 = ((Ksi_at I (j : Int)).2.toNat : Int) := by omega
  unfold stV
  rw [e, setS_other (fun k hk => ?_), ← e]
  · unfold insV
    refine setS_at (p := fun j : Nat => (Ksi_at I (j : Int)).2) (x := fun j : Nat => Ki_at ins (j : Int)) hj (fun k hk => ?_) fun a b ha hb e => pin_inj r ha hb e
    obtain ⟨m0, m1, -⟩ := pin_node r.ins hk
    exact ⟨m0, by rw [List.length_replicate]; exact m1⟩
  · obtain ⟨m0, m1, m2⟩ := cell_node r.cells hk
    refine ⟨m0, fun q => ?_⟩
    rw [← e] at q
    rw [q, p2] at m2
    cases m2
end
theorem evN_high {N : List Nd} {l : List Int} : ∀ {i m : Nat}, i ≤ m → Ki_at (evN N l i) (m : Int) = Ki_at l (m : Int)
  | 0, m, _ => rfl
  | i + 1, m, h => by
    have ih := evN_high (N := N) (l := l) (i := i) (m := m) (by omega)
    rw [evN]
    split
    · exact ih
    · by_cases c : i < (evN N l i).length
      · rw [i_set c, if_neg (by omega)]; exact ih
      · rw [List.set_eq_of_length_le (by omega)]; exact ih
theorem evN_low {N : List Nd} {l : List Int} {m i : Nat} (h : m < i) : ∀ d, Ki_at (evN N l (i + d)) (m : Int) = Ki_at (evN N l i) (m : Int)
  | 0 => rfl
  | d + 1 => by
    have ih := evN_low (N := N) (l := l) h d
    show Ki_at (evN N l (i + d + 1)) (m : Int) = _
    rw [evN]
    split
    · exact ih
    · by_cases c : i + d < (evN N l (i + d)).length
      · rw [i_set c, if_neg (by omega)]; exact ih
      · rw [List.set_eq_of_length_le (by omega)]; exact ih
theorem evN_at {N : List Nd} {l : List Int} {i n : Nat} (h : i < n) (hl : i < l.length) : Ki_at (evN N l n) (i : Int) = if (Kiiiiiii_at N (i : Int)).1 = 21 ∨ (Kiiiiiii_at N (i : Int)).1 = 22 then Ki_at l (i : Int) else doV N (evN N l i) (Kiiiiiii_at N (i : Int)) := by
  obtain ⟨d, rfl⟩ : ∃ d, n = i + 1 + d := ⟨n - (i + 1), by omega⟩
  rw [evN_low (by omega), evN]
  split
  · exact evN_high (Nat.le_refl _)
  · rw [i_set (by rw [evN_len]; exact hl), if_pos rfl]
theorem take_snoc {t : Ty} {l : List t.D} {i : Nat} (h : i < l.length) : l.take (i + 1) = l.take i ++ [at_ t l (i : Int)] := by
  rw [List.take_add_one, List.getElem?_eq_getElem h, at_nat h]
  rfl
theorem at_take_ {t : Ty} {l : List t.D} {k j : Nat} (h : j < k) : at_ t (l.take k) (j : Int) = at_ t l (j : Int) := by
  unfold at_
  simp [List.getD_eq_getElem?_getD, List.getElem?_take, h]
theorem drop_head {α : Type} {l : List α} {f : α → Int} {a : Nat} {x : Int} {r : List Int} (h : (l.drop a).map f = x :: r) : ∃ ha : a < l.length, f l[a] = x ∧ (l.drop (a + 1)).map f = r := by
  have ha : a < l.length := by
    rcases Nat.lt_or_ge a l.length with q | q
    · exact q
    · rw [List.drop_eq_nil_of_le q] at h; cases h
  rw [List.drop_eq_getElem_cons ha, List.map_cons, List.cons.injEq] at h
  exact ⟨ha, h.1, h.2⟩
theorem reval_f {n : Nat} {N I C P Q} {st ins : List Int} (s : Small N I C P Q) (r : RightP N I C P Q) (hi : FitI N I ins) (hs : FitC N C st) (hn : 1000 < n) : ref09_Eval n N I C P Q st ins = some (evalV N I C st ins, ()) := by
  have s1 := s.n
  have s2 := s.i
  have s3 := s.c
  have hi1 := hi.1
  have hs1 := hs.1
  have hV := evalV_len N I C st ins
  have hS := stV_len N I C st ins
  have nums := nums_stV r hi hs
  have key : ∀ (d i a c m : Nat), i + d = N.length → (I.drop a).map (·.2) = frm N 21 i d → (C.drop c).map (·.2.1) = frm N 22 i d → a ≤ I.length → c ≤ C.length → d < m → iter (ref09_Eval_l1b n N st ins) m ((a : Int), (c : Int), (i : Int), (evalV N I C st ins).take i, ()) = some (evalV N I C st ins, ()) := by
    intro d
    induction d with
    | zero =>
      intro i a c m hd _ _ _ _ hm
      obtain ⟨m, rfl⟩ : ∃ k, m = k + 1 := ⟨m - 1, by omega⟩
      rw [iter_s]
      unfold ref09_Eval_l1b
      simp only [cond_dec]
      rw [if_neg (by omega), List.take_of_length_le (by omega)]
    | succ d ih =>
      intro i a c m hd hI hC ha hc hm
      obtain ⟨m, rfl⟩ : ∃ k, m = k + 1 := ⟨m - 1, by omega⟩
      have ih' := fun a c q1 q2 q3 q4 q5 => ih (i + 1) a c m q1 q2 q3 q4 q5 (by omega)
      rw [iter_s]
      generalize iter (ref09_Eval_l1b n N st ins) m = self at ih' ⊢
      have tl : ((evalV N I C st ins).take i).length = i := by rw [List.length_take]; omega
      have tn : (evalV N I C st ins).take (i + 1) = (evalV N I C st ins).take i ++ [Ki_at (evalV N I C st ins) (i : Int)] := take_snoc (t := i_) (by omega)
      have val : Ki_at (evalV N I C st ins) (i : Int) = _ := evN_at (N := N) (l := stV N I C st ins) (n := N.length) (i := i) (by omega) (by omega)
      unfold ref09_Eval_l1b
      simp only [cond_dec]
      rw [if_pos (by omega), ask_of (by omega)]
      rw [frm] at hI hC
      by_cases o1 : (Kiiiiiii_at N (i : Int)).1 = 21
      · rw [if_pos o1] at hI
        rw [if_neg (by omega)] at hC
        obtain ⟨ha', e1, e2⟩ := drop_head hI
        have e3 : Ksi_at I (a : Int) = I[a] := at_nat (t := Ksi_) ha'
        have v : Ki_at (evalV N I C st ins) (i : Int) = Ki_at ins (a : Int) := by
          rw [val, if_pos (.inl o1), ← stV_pin (st := st) (ins := ins) r ha', e3, e1]
        rw [if_pos o1, ask_of (by omega), ask_of (by simp; omega), succ64 (by omega), succ64 (by omega), ← v, ← tn]
        exact ih' (a + 1) c (by omega) e2 hC (by omega) hc
      · rw [if_neg o1] at hI ⊢
        by_cases o2 : (Kiiiiiii_at N (i : Int)).1 = 22
        · rw [if_pos o2] at hC
          obtain ⟨hc', e1, e2⟩ := drop_head hC
          have e3 : Ksiii_at C (c : Int) = C[c] := at_nat (t := Ksiii_) hc'
          have v : Ki_at (evalV N I C st ins) (i : Int) = Ki_at st (c : Int) := by
            rw [val, if_pos (.inr o2), ← stV_cell (I := I) (st := st) (ins := ins) r hc', e3, e1]
          rw [if_pos o2, ask_of (by omega), ask_of (by simp; omega), succ64 (by omega), succ64 (by omega), ← v, ← tn]
          exact ih' a (c + 1) (by omega) hI e2 ha (by omega)
        · rw [if_neg o2] at hC ⊢
          have hi' := r.nodes i (by omega)
          have go := ih' a c (by omega) hI hC ha hc
          rw [if_neg (by omega)] at val
          by_cases o3 : (Kiiiiiii_at N (i : Int)).1 = 1
          · rw [if_pos o3]
            have v : (Kiiiiiii_at N (i : Int)).2.2.2.2.2.1 = Ki_at (evalV N I C st ins) (i : Int) := by
              rw [val]
              unfold doV
              rw [o3, do_lit]
            rw [ask_of (by simp; omega), succ64 (by omega), v, ← tn]
            exact go
          · rw [if_neg o3]
            obtain ⟨⟨a0, a1, a2⟩, ⟨b0, b1, b2⟩, ⟨c0, c1, c2⟩⟩ := opnds (by omega) hi'
            have ho := opk_cases hi'.op
            have k1 : 0 < opk (Kiiiiiii_at N (i : Int)).1 := by
              unfold opk
              rcases ho with o | o | o | o | o | o | o | o | o | o | o | o | o | o | o | o | o | o | o <;> simp [o] <;> omega
            have a3 := a2 k1
            have b3 : (Kiiiiiii_at N (i : Int)).2.2.2.1 < i := by
              by_cases q : 1 < opk (Kiiiiiii_at N (i : Int)).1
              · exact b2 q
              · have := hi'.b0 (by omega); omega
            have c3 : (Kiiiiiii_at N (i : Int)).2.2.2.2.1 < i := by
              by_cases q : 2 < opk (Kiiiiiii_at N (i : Int)).1
              · exact c2 q
              · have := hi'.c0 (by omega); omega
            have look : ∀ x : Int, 0 ≤ x → x < i → Ki_at ((evalV N I C st ins).take i) x = Ki_at (evN N (stV N I C st ins) i) x := fun x x0 x1 => by
              obtain ⟨m, rfl⟩ := Int.eq_ofNat_of_zero_le x0
              have e1 : Ki_at ((evalV N I C st ins).take i) (m : Int) = Ki_at (evalV N I C st ins) (m : Int) := at_take_ (t := i_) (by omega)
              rw [e1]
              unfold evalV
              obtain ⟨d', hd'⟩ : ∃ d', N.length = i + d' := ⟨d + 1, by omega⟩
              rw [hd', evN_low (by omega)]
            have hnu := nums_evN r.nodes nums i (by omega)
            have rd := rdo_ok (n := n) (N := N) (i := i) (fun j hj => r.nodes j (by omega)) hi' (by omega) (v := (evalV N I C st ins).take i) (fun j h0 h1 => by
              rw [look j h0 h1]
              have := hnu.2 j.toNat (by omega)
              rwa [show ((j.toNat : Nat) : Int) = j by omega] at this)
            have dv : doV N ((evalV N I C st ins).take i) (Kiiiiiii_at N (i : Int)) = Ki_at (evalV N I C st ins) (i : Int) := by
              rw [val]
              unfold doV
              rw [look _ a0 a3, look _ b0 b3, look _ c0 c3]
            rw [ask_of (by omega), ask_of (by omega), ask_of (by omega), ask_of (by omega), rd, bindS, ask_of (by simp; omega), succ64 (by omega), dv, ← tn]
            exact go
  unfold ref09_Eval
  rw [show ref09_Eval_l1 n N st ins (0, 0, 0, [], ()) = _ from key N.length 0 0 0 n (by omega) r.ins r.cells (by omega) (by omega) (by omega)]
  rfl
theorem rfirst_f {n : Nat} {N I C P Q} (s : Small N I C P Q) (hn : 1000 < n) : ref09_First n N I C P Q = some (firstV C, ()) := by
  have s3 := s.c
  have h := iter_up (F := ref09_First_l1b n C) (fun j => ((j : Int), (List.range j).map (fun j : Nat => (Ksiii_at C (j : Int)).2.2.2), ())) (firstV C, ()) (len := C.length) (m := n)
    (fun self j hj => by
      unfold ref09_First_l1b
      simp only [cond_dec]
      rw [if_pos (by omega), ask_of (by omega), ask_of (by simp; omega), succ64 (by omega), range_app (g := fun j : Nat => (Ksiii_at C (j : Int)).2.2.2)])
    (fun self => by
      unfold ref09_First_l1b
      simp only [cond_dec]
      rw [if_neg (by omega)]
      rfl) (by omega)
  unfold ref09_First
  rw [show ref09_First_l1 n C (0, [], ()) = _ from h]
  rfl
theorem rafter_f {n : Nat} {N I C P Q} {st ins : List Int} (s : Small N I C P Q) (r : RightP N I C P Q) (hi : FitI N I ins) (hs : FitC N C st) (hn : 1000 < n) : ref09_After n N I C P Q st ins = some (afterV C (evalV N I C st ins), ()) := by
  have s3 := s.c
  have hlen := evalV_len N I C st ins
  unfold ref09_After
  rw [reval_f s r hi hs hn, bindS]
  generalize evalV N I C st ins = v at *
  have h := iter_up (F := ref09_After_l1b n (v, ()) C) (fun j => ((j : Int), (List.range j).map (fun j : Nat => Ki_at v (Ksiii_at C (j : Int)).2.2.1), ())) (afterV C v, ()) (len := C.length) (m := n)
    (fun self j hj => by
      obtain ⟨q0, q1, -⟩ := next_pos r hj
      unfold ref09_After_l1b
      simp only [cond_dec]
      rw [if_pos (by omega), ask_of (by omega), ask_of (by omega), ask_of (by simp; omega), succ64 (by omega), range_app (g := fun j : Nat => Ki_at v (Ksiii_at C (j : Int)).2.2.1)])
    (fun self => by
      unfold ref09_After_l1b
      simp only [cond_dec]
      rw [if_neg (by omega)]
      rfl) (by omega)
  rw [show ref09_After_l1 n (v, ()) C (0, [], ()) = _ from h]
  rfl
end Go.Proofs.Ytieocmcjecpgpaa.Am
