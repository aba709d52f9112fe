/- Regions whose order is drawn: any order comes to what the text's order comes to. -/
import Derived.Test.YtfjdhdmbbfeigaaAmU
namespace Go.Proofs.Ytfjdhdmbbfeigaa.Am
set_option linter.unusedVariables false
set_option linter.unusedSimpArgs false
theorem app_e (st : St) (d : Option Nat) (o : Out) (t : Nat) : (st.app d o).e t = if d = some t then o.v else st.e t := by
  unfold St.app
  cases d with
  | none =>
    have : ((st.setbs o.ub).put none o.v).e t = (st.setbs o.ub).e t := by cases o.v <;> rfl
    rw [this, setbs_e, if_neg (by simp)]
  | some d =>
    rw [St.put_e, setbs_e]
    by_cases h : d = t
    · subst h; simp
    · simp [h]
theorem app_b (st : St) (d : Option Nat) (o : Out) (b : Nat) : (st.app d o).b b = match lk o.ub.reverse b with | some B => B | none => st.b b := by
  unfold St.app
  rw [St.put_b, setbs_b]
  cases lk o.ub.reverse b <;> rfl
def ubKeys (o : Out) : List Nat := o.ub.map (·.1)
theorem lk_rev_no {o : Out} {b : Nat} (h : b ∉ ubKeys o) : lk o.ub.reverse b = none := lk_no fun hk => h (by
  obtain ⟨p, hp, e⟩ := List.mem_map.1 hk
  exact List.mem_map.2 ⟨p, List.mem_reverse.1 hp, e⟩)
abbrev X_ := TrX × List Nat
/-- What the operations of a set come to, in the order of the text. -/
def stD (D : Nat → Bool) : Nat → List Oper → List X_ → St → St
  | i, o :: r, x :: tr, st => stD D (i + 1) r tr (match D i with | true => st.app o.dst x.1.out | false => st)
  | _, _, _, st => st
theorem agree_e {D1 D2 : Nat → Bool} {t : Nat} : ∀ {l : List Oper} {tr : List X_} {i : Nat} {st1 st2 : St}, (∀ (k : Nat) o x, l[k]? = some o → tr[k]? = some x → D1 (i + k) ≠ D2 (i + k) → o.dst ≠ some t) → st1.e t = st2.e t → (stD D1 i l tr st1).e t = (stD D2 i l tr st2).e t
  | [], tr, i, st1, st2, h, hs => by unfold stD; exact hs
  | o :: l, [], i, st1, st2, h, hs => by unfold stD; exact hs
  | o :: l, x :: tr, i, st1, st2, h, hs => by
    unfold stD
    refine agree_e (fun k o' x' h1 h2 h3 => h (k + 1) o' x' h1 h2 (by rwa [show i + (k + 1) = i + 1 + k by omega])) ?_
    have h0 := h 0 o x rfl rfl
    simp only [Nat.add_zero] at h0
    cases e1 : D1 i <;> cases e2 : D2 i <;> simp only [app_e]
    · exact hs
    · rw [if_neg (h0 (by rw [e1, e2]; decide))]; exact hs
    · rw [if_neg (h0 (by rw [e1, e2]; decide))]; exact hs
    · split
      · rfl
      · exact hs
theorem agree_b {D1 D2 : Nat → Bool} {b : Nat} : ∀ {l : List Oper} {tr : List X_} {i : Nat} {st1 st2 : St}, (∀ (k : Nat) (o : Oper) x, l[k]? = some o → tr[k]? = some x → D1 (i + k) ≠ D2 (i + k) → b ∉ ubKeys x.1.out) → st1.b b = st2.b b → (stD D1 i l tr st1).b b = (stD D2 i l tr st2).b b
  | [], tr, i, st1, st2, h, hs => by unfold stD; exact hs
  | o :: l, [], i, st1, st2, h, hs => by unfold stD; exact hs
  | o :: l, x :: tr, i, st1, st2, h, hs => by
    unfold stD
    refine agree_b (fun k o' x' h1 h2 h3 => h (k + 1) o' x' h1 h2 (by rwa [show i + (k + 1) = i + 1 + k by omega])) ?_
    have h0 := h 0 o x rfl rfl
    simp only [Nat.add_zero] at h0
    cases e1 : D1 i <;> cases e2 : D2 i <;> simp only [app_b]
    · exact hs
    · rw [lk_rev_no (h0 (by rw [e1, e2]; decide))]; exact hs
    · rw [lk_rev_no (h0 (by rw [e1, e2]; decide))]; exact hs
    · split
      · rfl
      · exact hs
theorem keep_e {D : Nat → Bool} {t : Nat} {l : List Oper} {tr : List X_} {i : Nat} {st : St} (h : ∀ (k : Nat) o x, l[k]? = some o → tr[k]? = some x → D (i + k) = true → o.dst ≠ some t) : (stD D i l tr st).e t = st.e t := by
  have none_ : ∀ (l : List Oper) (tr : List X_) (i : Nat) (st : St), stD (fun _ => false) i l tr st = st := by
    intro l
    induction l with
    | nil => intro tr i st; unfold stD; rfl
    | cons o l ih =>
      intro tr i st
      cases tr with
      | nil => unfold stD; rfl
      | cons x tr => unfold stD; exact ih tr (i + 1) st
  rw [← none_ l tr i st]
  rw [agree_e (D2 := fun _ => false) (fun k o x h1 h2 h3 => h k o x h1 h2 (by cases e : D (i + k) with | true => rfl | false => exact absurd e h3)) rfl]
  rw [none_]
theorem keep_b {D : Nat → Bool} {b : Nat} {l : List Oper} {tr : List X_} {i : Nat} {st : St} (h : ∀ (k : Nat) (o : Oper) x, l[k]? = some o → tr[k]? = some x → D (i + k) = true → b ∉ ubKeys x.1.out) : (stD D i l tr st).b b = st.b b := by
  have none_ : ∀ (l : List Oper) (tr : List X_) (i : Nat) (st : St), stD (fun _ => false) i l tr st = st := by
    intro l
    induction l with
    | nil => intro tr i st; unfold stD; rfl
    | cons o l ih =>
      intro tr i st
      cases tr with
      | nil => unfold stD; rfl
      | cons x tr => unfold stD; exact ih tr (i + 1) st
  rw [agree_b (D2 := fun _ => false) (fun k o x h1 h2 h3 => h k o x h1 h2 (by cases e : D (i + k) with | true => rfl | false => exact absurd e h3)) (rfl : st.b b = st.b b)]
  rw [none_]
theorem last_e {D : Nat → Bool} {t : Nat} : ∀ {l : List Oper} {tr : List X_} {i k : Nat} {st : St} {o : Oper} {x : X_}, l[k]? = some o → tr[k]? = some x → D (i + k) = true → o.dst = some t → (∀ (k' : Nat) o' x', k < k' → l[k']? = some o' → tr[k']? = some x' → D (i + k') = true → o'.dst ≠ some t) → (stD D i l tr st).e t = x.1.out.v
  | [], _, _, _, _, _, _, h, _, _, _, _ => by simp at h
  | _ :: _, [], _, _, _, _, _, _, h, _, _, _ => by simp at h
  | o0 :: l, x0 :: tr, i, 0, st, o, x, h1, h2, h3, h4, h5 => by
    cases h1; cases h2
    unfold stD
    simp only [Nat.add_zero] at h3
    rw [h3]
    rw [keep_e fun k o' x' q1 q2 q3 => h5 (k + 1) o' x' (by omega) q1 q2 (by rwa [show i + (k + 1) = i + 1 + k by omega])]
    rw [app_e, if_pos h4]
  | o0 :: l, x0 :: tr, i, k + 1, st, o, x, h1, h2, h3, h4, h5 => by
    unfold stD
    exact last_e (k := k) h1 h2 (by rwa [show i + 1 + k = i + (k + 1) by omega]) h4 fun k' o' x' q0 q1 q2 q3 => h5 (k' + 1) o' x' (by omega) q1 q2 (by rwa [show i + (k' + 1) = i + 1 + k' by omega])
theorem last_b {D : Nat → Bool} {b : Nat} {B : Option Blk} : ∀ {l : List Oper} {tr : List X_} {i k : Nat} {st : St} {o : Oper} {x : X_}, l[k]? = some o → tr[k]? = some x → D (i + k) = true → lk x.1.out.ub.reverse b = some B → (∀ (k' : Nat) (o' : Oper) x', k < k' → l[k']? = some o' → tr[k']? = some x' → D (i + k') = true → b ∉ ubKeys x'.1.out) → (stD D i l tr st).b b = B
  | [], _, _, _, _, _, _, h, _, _, _, _ => by simp at h
  | _ :: _, [], _, _, _, _, _, _, h, _, _, _ => by simp at h
  | o0 :: l, x0 :: tr, i, 0, st, o, x, h1, h2, h3, h4, h5 => by
    cases h1; cases h2
    unfold stD
    simp only [Nat.add_zero] at h3
    rw [h3]
    rw [keep_b fun k o' x' q1 q2 q3 => h5 (k + 1) o' x' (by omega) q1 q2 (by rwa [show i + (k + 1) = i + 1 + k by omega])]
    rw [app_b, h4]
  | o0 :: l, x0 :: tr, i, k + 1, st, o, x, h1, h2, h3, h4, h5 => by
    unfold stD
    exact last_b (k := k) h1 h2 (by rwa [show i + 1 + k = i + (k + 1) by omega]) h4 fun k' o' x' q0 q1 q2 q3 => h5 (k' + 1) o' x' (by omega) q1 q2 (by rwa [show i + (k' + 1) = i + 1 + k' by omega])
def addD (D : Nat → Bool) (j : Nat) : Nat → Bool := fun i => Nat.beq j i || D i
/-- One operation more. -/
theorem stD_add {D : Nat → Bool} {l : List Oper} {tr : List X_} {st : St} {j : Nat} {o : Oper} {x : X_} (h1 : l[j]? = some o) (h2 : tr[j]? = some x) (hj : D j = false) (hT : ∀ (k : Nat) o' x', j < k → l[k]? = some o' → tr[k]? = some x' → D k = true → (∀ t, o.dst = some t → o'.dst ≠ some t) ∧ ∀ b ∈ ubKeys x.1.out, b ∉ ubKeys x'.1.out) :
    (∀ t, (stD (addD D j) 0 l tr st).e t = ((stD D 0 l tr st).app o.dst x.1.out).e t) ∧ ∀ b, (stD (addD D j) 0 l tr st).b b = ((stD D 0 l tr st).app o.dst x.1.out).b b := by
  have hne : ∀ k, addD D j (0 + k) ≠ D (0 + k) → k = j := fun k h => by
    simp only [addD, Nat.zero_add] at h
    by_cases e : j = k
    · exact e.symm
    · rw [beq_f e] at h; exact absurd rfl h
  have hD' : ∀ k, j < k → addD D j (0 + k) = true → D k = true := fun k hk h => by
    simp only [addD, Nat.zero_add, beq_f (Nat.ne_of_lt hk), Bool.false_or] at h
    exact h
  refine ⟨fun t => ?_, fun b => ?_⟩
  · rw [app_e]
    split
    · rename_i hd
      exact last_e h1 h2 (by simp [addD]) hd fun k o' x' hk q1 q2 q3 => (hT k o' x' hk q1 q2 (hD' k hk q3)).1 t hd
    · rename_i hd
      exact agree_e (fun k o' x' q1 q2 q3 => by
        have := hne k q3
        subst this
        rw [h1] at q1
        cases q1
        exact hd) rfl
  · rw [app_b]
    cases hl : lk x.1.out.ub.reverse b with
    | some B =>
      have hb : b ∈ ubKeys x.1.out := by
        have := lk_mem hl
        exact List.mem_map.2 ⟨_, List.mem_reverse.1 this, rfl⟩
      exact last_b h1 h2 (by simp [addD]) hl fun k o' x' hk q1 q2 q3 => (hT k o' x' hk q1 q2 (hD' k hk q3)).2 b hb
    | none =>
      exact agree_b (fun k o' x' q1 q2 q3 => by
        have := hne k q3
        subst this
        rw [h2] at q2
        cases q2
        intro hb
        obtain ⟨p, hp, e⟩ := List.mem_map.1 hb
        have : b ∈ keyN x.1.out.ub.reverse := List.mem_map.2 ⟨p, List.mem_reverse.2 hp, e⟩
        have none_of : ∀ (l : List (Nat × Option Blk)), lk l b = none → b ∉ keyN l := by
          intro l
          induction l with
          | nil => intro _ h; cases h
          | cons q l ih =>
            intro h1 h2
            rw [lk_cons] at h1
            split at h1
            · cases h1
            · rename_i hne
              rcases List.mem_cons.1 h2 with e | e
              · exact hne e.symm
              · exact ih h1 e
        exact none_of _ hl this) rfl
/-- Where the text stands ahead of its j-th operation. -/
theorem Good.at_ {P : Program} {N : Nat} {ops : Array Oper} {bs : Nat} : ∀ {l : List Oper} {i : Nat} {st st' : St} {tr : List X_}, Good P N ops false bs i l st tr st' → l.length = tr.length ∧ st' = stD (fun _ => true) i l tr st ∧ ∀ (k : Nat) o x, l[k]? = some o → tr[k]? = some x → (∀ d, o.dst = some d → d < N) ∧ step1 P ops x.1.an (bs + 64 * (i + k)) o (resT (rTs ops o) (stD (fun n => Nat.blt n (i + k)) i l tr st).e) (resB x.2 (stD (fun n => Nat.blt n (i + k)) i l tr st).b) = some x.1.out ∧ x.1.out.c
  | [], i, st, st', tr, h => by
    obtain ⟨rfl, rfl⟩ := h
    exact ⟨rfl, rfl, fun k o x h => by simp at h⟩
  | o :: l, i, st, st', [], h => h.elim
  | o :: l, i, st, st', x :: tr, h => by
    obtain ⟨st1, hst, h1, h2, h3, h4, h5⟩ := h
    have hst : st1 = st := hst.resolve_right fun q => by cases q.1
    subst hst
    obtain ⟨q1, q2, q3⟩ := Good.at_ h5
    refine ⟨by simp [q1], by rw [q2]; rfl, fun k o' x' e1 e2 => ?_⟩
    have base : ∀ (l : List Oper) (tr : List X_) (i n : Nat) (st : St), n ≤ i → stD (fun m => Nat.blt m n) i l tr st = st := by
      intro l
      induction l with
      | nil => intro tr i n st _; unfold stD; rfl
      | cons o l ih =>
        intro tr i n st hn
        cases tr with
        | nil => unfold stD; rfl
        | cons x tr =>
          unfold stD
          have : Nat.blt i n = false := by
            cases e : Nat.blt i n with
            | false => rfl
            | true => have := blt_of e; omega
          simp only [this]
          exact ih tr (i + 1) n st (by omega)
    cases k with
    | zero =>
      cases e1; cases e2
      rw [Nat.add_zero, base _ _ _ _ _ (Nat.le_refl i)]
      exact ⟨h1, h2, h3⟩
    | succ k =>
      have := q3 k o' x' e1 e2
      rw [show i + (k + 1) = i + 1 + k by omega]
      unfold stD
      have hb : Nat.blt i (i + 1 + k) = true := by rw [Nat.blt_eq]; omega
      simp only [hb]
      exact this
/-- What comes ahead of each operation. -/
def insN (b : Nat) (l : List Nat) : List Nat := match memN b l with | true => l | false => b :: l
def uniN (l k : List Nat) : List Nat := l.foldl (fun k b => insN b k) k
def predsOf (acc : List (Nat × List Nat)) : List Edge → List Nat
  | [] => []
  | e :: r => match Region.binds .any e with
    | true => insN e.on (match lk acc e.on with | some l => uniN l (predsOf acc r) | none => predsOf acc r)
    | false => predsOf acc r
def preds : Nat → List Oper → List (Nat × List Nat) → List (Nat × List Nat)
  | _, [], acc => acc
  | i, o :: r, acc => preds (i + 1) r ((i, predsOf acc o.after.toList) :: acc)
theorem insN_mem {b k : Nat} {l : List Nat} (h : k ∈ insN b l) : k = b ∨ k ∈ l := by
  unfold insN at h
  split at h
  · exact .inr h
  · exact (List.mem_cons.1 h)
theorem uniN_mem {k : Nat} : ∀ {l m : List Nat}, k ∈ uniN l m → k ∈ l ∨ k ∈ m
  | [], m, h => .inr h
  | b :: l, m, h => by
    rcases uniN_mem (l := l) (m := insN b m) h with h | h
    · exact .inl (List.mem_cons_of_mem _ h)
    · rcases insN_mem h with h | h
      · exact .inl (h ▸ List.mem_cons_self)
      · exact .inr h
def Closed (l : List Oper) (D : Nat → Bool) : Prop := ∀ j o, l[j]? = some o → D j = true → ∀ e ∈ o.after.toList, Region.binds .any e = true → D e.on = true
def Sound (l : List Oper) (acc : List (Nat × List Nat)) : Prop := ∀ D, Closed l D → ∀ j o ks, lk acc j = some ks → l[j]? = some o → (∀ e ∈ o.after.toList, Region.binds .any e = true → D e.on = true) → ∀ k ∈ ks, D k = true
theorem predsOf_mem {acc : List (Nat × List Nat)} {k : Nat} : ∀ {es : List Edge}, k ∈ predsOf acc es → ∃ e ∈ es, Region.binds .any e = true ∧ (k = e.on ∨ ∃ l, lk acc e.on = some l ∧ k ∈ l)
  | [], h => by cases h
  | e :: r, h => by
    unfold predsOf at h
    split at h
    · rename_i hb
      rcases insN_mem h with h | h
      · exact ⟨e, List.mem_cons_self, hb, .inl h⟩
      · split at h
        · rename_i l hl
          rcases uniN_mem h with h | h
          · exact ⟨e, List.mem_cons_self, hb, .inr ⟨l, hl, h⟩⟩
          · obtain ⟨e', h1, h2⟩ := predsOf_mem h
            exact ⟨e', List.mem_cons_of_mem _ h1, h2⟩
        · obtain ⟨e', h1, h2⟩ := predsOf_mem h
          exact ⟨e', List.mem_cons_of_mem _ h1, h2⟩
    · obtain ⟨e', h1, h2⟩ := predsOf_mem h
      exact ⟨e', List.mem_cons_of_mem _ h1, h2⟩
/-- Edges lead back. -/
def backOk : Nat → List Oper → Bool
  | _, [] => true
  | i, o :: r => (o.after.toList.all fun e => Nat.blt e.on i || !(Region.binds .any e)) && backOk (i + 1) r
theorem backOk_of : ∀ {l : List Oper} {i k : Nat} {o : Oper}, backOk i l = true → l[k]? = some o → ∀ e ∈ o.after.toList, Region.binds .any e = true → e.on < i + k
  | [], i, k, o, h, h1 => by simp at h1
  | o0 :: l, i, 0, o, h, h1 => by
    cases h1
    simp only [backOk, Bool.and_eq_true] at h
    intro e he hb
    have := List.all_eq_true.1 h.1 e he
    rw [hb] at this
    exact blt_of (by simpa using this)
  | o0 :: l, i, k + 1, o, h, h1 => by
    simp only [backOk, Bool.and_eq_true] at h
    intro e he hb
    have := backOk_of h.2 h1 e he hb
    omega
theorem preds_sound {all : List Oper} (hb : backOk 0 all = true) : ∀ {l : List Oper} {i : Nat} {acc : List (Nat × List Nat)}, (∀ k o, l[k]? = some o → all[i + k]? = some o) → Sound all acc → (∀ j ks, lk acc j = some ks → j < i) → Sound all (preds i l acc)
  | [], i, acc, hl, h, hk => h
  | o :: l, i, acc, hl, h, hk => by
    show Sound all (preds (i + 1) l ((i, predsOf acc o.after.toList) :: acc))
    refine preds_sound (l := l) hb (fun k o' h' => by rw [show i + 1 + k = i + (k + 1) by omega]; exact hl (k + 1) o' h') (fun D hD j o' ks hj ho' hr k hkk => ?_) (fun j ks hj => ?_)
    · rw [lk_cons] at hj
      split at hj
      · rename_i e
        subst e
        cases hj
        have h0 := hl 0 o rfl
        rw [Nat.add_zero] at h0
        rw [h0] at ho'
        cases ho'
        obtain ⟨e, h1, h2, h3⟩ := predsOf_mem hkk
        rcases h3 with rfl | ⟨l', h3, h4⟩
        · exact hr e h1 h2
        · have hon := hr e h1 h2
          have hlt := backOk_of hb h0 e h1 h2
          have hlen : e.on < all.length := by
            have : i < all.length := by
              rcases Nat.lt_or_ge i all.length with q | q
              · exact q
              · rw [List.getElem?_eq_none q] at h0; cases h0
            omega
          exact h D hD e.on _ l' h3 (List.getElem?_eq_getElem hlen) (hD e.on _ (List.getElem?_eq_getElem hlen) hon) k h4
      · exact h D hD j o' ks hj ho' hr k hkk
    · rw [lk_cons] at hj
      split at hj
      · omega
      · have := hk j ks hj; omega
/-- Do two operations come in each other's way? -/
def hit (l k : List Nat) : Bool := l.any fun b => memN b k
theorem hit_no {l k : List Nat} (h : hit l k = false) {b : Nat} (h1 : b ∈ l) (h2 : b ∈ k) : False := by
  have := List.any_eq_false.1 h b h1
  exact this (memN_iff.2 h2)
def confX (ops : Array Oper) (o1 : Oper) (x1 : X_) (o2 : Oper) (x2 : X_) : Bool :=
  hit o1.dst.toList (rTs ops o2 ++ o2.dst.toList) || hit o2.dst.toList (rTs ops o1) || hit (ubKeys x1.1.out) (x2.2 ++ ubKeys x2.1.out) || hit (ubKeys x2.1.out) x1.2
def confY (ops : Array Oper) (o1 : Oper) (x1 : X_) (o2 : Oper) (x2 : X_) : Bool :=
  hit o1.dst.toList (rTs ops o2 ++ o2.dst.toList) || hit o2.dst.toList (rTs ops o1) || hit (ubKeys x1.1.out) (ubKeys x2.1.out) || hit (ubKeys x2.1.out) x1.2
def memP (q : Nat × Nat) (l : List (Nat × Nat)) : Bool := l.any fun p => Nat.beq p.1 q.1 && Nat.beq p.2 q.2
theorem memP_of {q : Nat × Nat} {l : List (Nat × Nat)} (h : memP q l = true) : q ∈ l := by
  obtain ⟨p, hp, e⟩ := List.any_eq_true.1 h
  simp only [Bool.and_eq_true] at e
  have e1 := Nat.eq_of_beq_eq_true e.1
  have e2 := Nat.eq_of_beq_eq_true e.2
  obtain ⟨a, b⟩ := p
  obtain ⟨c, d⟩ := q
  simp only at e1 e2
  subst e1; subst e2
  exact hp
def drawGo (ops : Array Oper) (PL : List (Nat × List Nat)) (bs : Nat) (XS : List (Nat × Nat)) : Nat → List Oper → List X_ → List (Nat × Oper × X_) → Bool
  | _, [], _, _ => true
  | i, o :: r, x :: tr, prev => match lk PL i with
    | some p => (prev.all fun q => memN q.1 p || !(confX ops q.2.1 q.2.2 o x) || (memP (q.1, i) XS && !(confY ops q.2.1 q.2.2 o x))) && ((outNs x.1.out).all fun n => Nat.blt n bs || (Nat.ble (bs + 64 * i) n && Nat.blt n (bs + 64 * (i + 1))) || memN ((n - bs) / 64) p) && drawGo ops PL bs XS (i + 1) r tr ((i, o, x) :: prev)
    | none => false
  | _, _ :: _, [], _ => false
/-- Pairs that come in each other's way, of operations that may be turned. -/
def exGo (ops : Array Oper) (PL : List (Nat × List Nat)) : Nat → List Oper → List X_ → List (Nat × Oper × X_) → List (Nat × Nat)
  | i, o :: r, x :: tr, prev => match lk PL i with
    | some p => ((prev.filter fun q => !(memN q.1 p) && confX ops q.2.1 q.2.2 o x).map fun q => (q.1, i)) ++ exGo ops PL (i + 1) r tr ((i, o, x) :: prev)
    | none => []
  | _, _, _, _ => []
def exPairs (ops : Array Oper) (tr : List X_) : List (Nat × Nat) := exGo ops (preds 0 ops.toList []) 0 ops.toList tr []
/-- The state ahead of an operation, but for one. -/
def altS (ops : Array Oper) (tr : List X_) (st : St) (q : Nat × Nat) : St := stD (fun n => Nat.blt n q.2 && !(Nat.beq n q.1)) 0 ops.toList tr st
/-- An operation does there what it does behind that one. -/
def AltOk (P : Program) (ops : Array Oper) (bs : Nat) (st : St) (tr : List X_) (q : Nat × Nat) : Prop :=
  ∃ o x out, ops.toList[q.2]? = some o ∧ tr[q.2]? = some x ∧ step1 P ops x.1.an (bs + 64 * q.2) o (resT (rTs ops o) (altS ops tr st q).e) (resB x.2 (altS ops tr st q).b) = some out ∧ out.c ∧ out.ub = x.1.out.ub ∧ out.v = x.1.out.v
def eqO (x y : Option AV) : Bool :=
  match x, y with
  | some (.c ⟨false, [.row t l]⟩), some (.c ⟨false, [.row t' l']⟩) => match Ty.eq t t' with
    | some ⟨h⟩ => eqT (.sl t') (Ty.cast h l) l'
    | none => false
  | some (.c ⟨false, [.int k n]⟩), some (.c ⟨false, [.int k' n']⟩) => decide (k = k') && decide (n = n')
  | _, _ => false
theorem eqO_ok {x y : Option AV} (h : eqO x y = true) : x = y := by
  unfold eqO at h
  split at h
  · split at h <;> (try cases h)
    rename_i t l t' l' _ hh e
    subst hh
    have := eqT_ok (.sl t) h
    rw [← this]
    rfl
  · simp only [Bool.and_eq_true, decide_eq_true_eq] at h
    rw [h.1, h.2]
  · cases h
theorem eqO_ints (k : IntKind) (l : List Int) : eqO (some (V (.row (.int k) l))) (some (V (.row (.int k) l))) = true := by
  have : eqT (.sl (.int k)) l l = true := eqL_self (f := eqT (.int k)) (fun a => decide_eq_true rfl) l
  cases k <;> exact this
noncomputable def altB (P : Program) (ops : Array Oper) (bs : Nat) (st : St) (tr : List X_) (q : Nat × Nat) : Option Cd :=
  match ops.toList[q.2]?, tr[q.2]? with
  | some o, some x => match step1 P ops x.1.an (bs + 64 * q.2) o (resT (rTs ops o) (altS ops tr st q).e) (resB x.2 (altS ops tr st q).b) with
    | some out => match out.ub, x.1.out.ub with
      | [], [] => some ⟨out.c ∧ eqO out.v x.1.out.v = true⟩
      | _, _ => none
    | none => none
  | _, _ => none
noncomputable def altAll (P : Program) (ops : Array Oper) (bs : Nat) (st : St) (tr : List X_) : List (Nat × Nat) → Option Cd
  | [] => some ⟨True⟩
  | q :: r => match altB P ops bs st tr q, altAll P ops bs st tr r with
    | some a, some b => some ⟨a.p ∧ b.p⟩
    | _, _ => none
theorem altAll_ok {P : Program} {ops : Array Oper} {bs : Nat} {st : St} {tr : List X_} : ∀ {l : List (Nat × Nat)} {c : Cd}, altAll P ops bs st tr l = some c → c.p → ∀ q ∈ l, AltOk P ops bs st tr q
  | [], _, _, _, q, hq => by cases hq
  | q0 :: r, c, h, hc, q, hq => by
    simp only [altAll] at h
    split at h <;> cases h
    rename_i a b h1 h2
    rcases List.mem_cons.1 hq with rfl | hq
    · have ha := hc.1
      unfold altB at h1
      split at h1 <;> (try cases h1)
      rename_i o x ho hx
      split at h1 <;> (try cases h1)
      rename_i out hst
      split at h1 <;> cases h1
      rename_i e1 e2
      exact ⟨o, x, out, ho, hx, hst, ha.1, e1.trans e2.symm, eqO_ok ha.2⟩
    · exact altAll_ok h2 hc.2 q hq
def drawOk (P : Program) (ops : Array Oper) (bs : Nat) (tr : List X_) (XS : List (Nat × Nat)) : Bool :=
  P.follows .mixedOrders && backOk 0 ops.toList && drawGo ops (preds 0 ops.toList []) bs XS 0 ops.toList tr [] && nodupN (XS.map (·.2))
theorem drawGo_of {ops : Array Oper} {PL : List (Nat × List Nat)} {bs : Nat} {XS : List (Nat × Nat)} : ∀ {l : List Oper} {i : Nat} {tr : List X_} {prev : List (Nat × Oper × X_)}, drawGo ops PL bs XS i l tr prev = true → ∀ (k : Nat) o x, l[k]? = some o → tr[k]? = some x → ∃ p, lk PL (i + k) = some p ∧ (∀ n ∈ outNs x.1.out, n < bs ∨ (bs + 64 * (i + k) ≤ n ∧ n < bs + 64 * (i + k + 1)) ∨ (n - bs) / 64 ∈ p) ∧ (∀ q ∈ prev, q.1 ∈ p ∨ confX ops q.2.1 q.2.2 o x = false ∨ ((q.1, i + k) ∈ XS ∧ confY ops q.2.1 q.2.2 o x = false)) ∧ ∀ (k' : Nat) o' x', k' < k → l[k']? = some o' → tr[k']? = some x' → (i + k' ∈ p ∨ confX ops o' x' o x = false ∨ ((i + k', i + k) ∈ XS ∧ confY ops o' x' o x = false))
  | [], i, tr, prev, h, k, o, x, h1, _ => by simp at h1
  | o0 :: l, i, [], prev, h, k, o, x, _, h2 => by simp at h2
  | o0 :: l, i, x0 :: tr, prev, h, k, o, x, h1, h2 => by
    simp only [drawGo] at h
    split at h
    · rename_i p hp
      simp only [Bool.and_eq_true] at h
      obtain ⟨⟨q1, q2⟩, q3⟩ := h
      cases k with
      | zero =>
        cases h1; cases h2
        refine ⟨p, hp, fun n hn => ?_, fun q hq => ?_, fun k' o' x' hk => by omega⟩
        · have := List.all_eq_true.1 q2 n hn
          simp only [Bool.or_eq_true, Bool.and_eq_true] at this
          rcases this with (h | h) | h
          · exact .inl (blt_of h)
          · exact .inr (.inl ⟨Nat.le_of_ble_eq_true h.1, blt_of h.2⟩)
          · exact .inr (.inr (memN_iff.1 h))
        · have := List.all_eq_true.1 q1 q hq
          simp only [Bool.or_eq_true, Bool.and_eq_true, Bool.not_eq_true'] at this
          rcases this with (h | h) | h
          · exact .inl (memN_iff.1 h)
          · exact .inr (.inl h)
          · exact .inr (.inr ⟨memP_of h.1, h.2⟩)
      | succ k =>
        obtain ⟨p', e1, e2, e3, e4⟩ := drawGo_of q3 k o x h1 h2
        rw [show i + (k + 1) = i + 1 + k by omega]
        refine ⟨p', e1, e2, fun q hq => e3 q (List.mem_cons_of_mem _ hq), fun k' o' x' hk h3 h4 => ?_⟩
        cases k' with
        | zero =>
          cases h3; cases h4
          exact e3 _ List.mem_cons_self
        | succ k' =>
          rw [show i + (k' + 1) = i + 1 + k' by omega]
          exact e4 k' o' x' (by omega) h3 h4
    · cases h
theorem few : ∀ (n : Nat) (T : List Nat), T.Nodup → (∀ i ∈ T, i < n) → T.length ≤ n
  | 0, T, _, h => by
    cases T with
    | nil => exact Nat.le_refl _
    | cons a T => have := h a List.mem_cons_self; omega
  | n + 1, T, hT, h => by
    by_cases hn : n ∈ T
    · have h1 := few n (T.erase n) (hT.erase n) (fun i hi => by
        have := (List.Nodup.mem_erase_iff hT).1 hi
        have := h i this.2
        omega)
      rw [List.length_erase_of_mem hn] at h1
      omega
    · have := few n T hT (fun i hi => by
        have := h i hi
        have : i ≠ n := fun e => hn (e ▸ hi)
        omega)
      omega
theorem names_D {D : Nat → Bool} {b : Nat} : ∀ {l : List Oper} {tr : List X_} {i : Nat} {st : St}, (stD D i l tr st).has b → st.has b ∨ ∃ (k : Nat) (o : Oper) (x : X_), l[k]? = some o ∧ tr[k]? = some x ∧ D (i + k) = true ∧ b ∈ outNs x.1.out
  | [], tr, i, st, h => by unfold stD at h; exact .inl h
  | o :: l, [], i, st, h => by unfold stD at h; exact .inl h
  | o :: l, x :: tr, i, st, h => by
    unfold stD at h
    rcases names_D h with h | ⟨k, o', x', h1, h2, h3, h4⟩
    · split at h
      · rename_i hD
        rcases app_has h with h | h
        · exact .inl h
        · exact .inr ⟨0, o, x, rfl, rfl, hD, h⟩
      · exact .inl h
    · exact .inr ⟨k + 1, o', x', h1, h2, by rwa [show i + (k + 1) = i + 1 + k by omega], h4⟩
theorem OK.ext {E : Ent} {st st' : St} {m : Mp} {a : Act} {w : World} (ok : OK E st m a w) (he : ∀ t, st'.e t = st.e t) (hb : ∀ b, st'.b b = st.b b) : OK E st' m a w :=
  ⟨ok.defers.go rfl fun r p => ⟨p.is, p.own, p.noS, fun b B hB => p.no b B (by rw [← hb]; exact hB)⟩, ok.tmps, fun t v hv => ok.env t v (by rw [← he]; exact hv), fun b B hB => ok.blk b B (by rw [← hb]; exact hB), fun b B hB => ok.own b B (by rw [← hb]; exact hB), fun b c B C hB hC => ok.inj b c B C (by rw [← hb]; exact hB) (by rw [← hb]; exact hC), ok.lt, ok.le, ok.frame, ok.sup, ok.new, ok.fix, ok.io⟩
theorem nodupN_snd : ∀ {l : List (Nat × Nat)}, nodupN (l.map (·.2)) = true → ∀ {p q : Nat × Nat}, p ∈ l → q ∈ l → p.2 = q.2 → p = q
  | [], _, _, _, hp, _, _ => by cases hp
  | a :: l, h, p, q, hp, hq, e => by
    simp only [List.map_cons, nodupN, Bool.and_eq_true, Bool.not_eq_true'] at h
    have no : ∀ r ∈ l, r.2 ≠ a.2 := fun r hr e => by
      have : memN a.2 (l.map (·.2)) = true := memN_iff.2 (List.mem_map.2 ⟨r, hr, e⟩)
      rw [this] at h
      exact absurd h.1 (by decide)
    rcases List.mem_cons.1 hp with rfl | hp2 <;> rcases List.mem_cons.1 hq with rfl | hq2
    · rfl
    · exact absurd e.symm (no q hq2)
    · exact absurd e (no p hp2)
    · exact nodupN_snd h.2 hp2 hq2 e
theorem AW.drawn {ρ : Option Nat} {P : Program} {N : Nat} {ops : Array Oper} {id : Nat} {st st' : St} {tr : List X_} {Q : Exit → St → Prop} (h : Good P N ops false (newN st) 0 ops.toList st tr st') {XS : List (Nat × Nat)} (hd : drawOk P ops (newN st) tr XS = true) (hxs : ∀ q ∈ XS, AltOk P ops (newN st) st tr q) (hq : Q .normal st') : AW ρ P N (.region id ops true) st Q := by
  intro E m a w hN ok
  generalize hbs : newN st = bs at h hd hxs
  have h100 : 100 ≤ bs := by rw [← hbs]; exact (newN_of st).1
  have hlt : ∀ b, st.has b → b < bs := by rw [← hbs]; exact (newN_of st).2
  simp only [drawOk, Bool.and_eq_true] at hd
  obtain ⟨⟨⟨hm, hback⟩, hgo⟩, hxn⟩ := hd
  obtain ⟨hlen, hst', hat⟩ := h.at_
  have hsz : ops.toList.length = ops.size := by simp
  have hpre : Sound ops.toList (preds 0 ops.toList []) := preds_sound hback (fun k o h => by simpa using h) (fun D _ j o ks hj => by cases hj) (fun j ks hj => by cases hj)
  have hck := drawGo_of hgo
  simp only [Nat.zero_add] at hck hat
  have trk : ∀ k o, ops.toList[k]? = some o → ∃ x, tr[k]? = some x := fun k o hk => by
    have : k < tr.length := by
      rw [← hlen]
      rcases Nat.lt_or_ge k ops.toList.length with q | q
      · exact q
      · rw [List.getElem?_eq_none q] at hk; cases hk
    exact ⟨_, List.getElem?_eq_getElem this⟩
  let R : Exit → Act → World → Prop := fun e a' w' => ∃ st' m', Q e st' ∧ OK E st' m' a' w'
  let dn : Array Bool → Nat → Bool := fun L i => L.getD i false
  have rd : ∀ (L : Array Bool) (j : Nat), L.size = ops.size → (j ∈ Region.ready .any ops L ↔ ∃ o, ops.toList[j]? = some o ∧ dn L j = false ∧ ∀ e ∈ o.after.toList, Region.binds .any e = true → dn L e.on = true) := fun L j hL => by
    unfold Region.ready
    simp only [List.mem_filter, List.mem_range, Bool.and_eq_true, Bool.not_eq_true', dn]
    constructor
    · rintro ⟨h1, h2, h3⟩
      have ho : ops.toList[j]? = some ops[j] := by simp [h1]
      refine ⟨_, ho, ?_, fun e he hb => ?_⟩
      · simp [Array.getD, hL, h1] at h2 ⊢; exact h2
      · simp [h1] at h3
        obtain ⟨i, hi, e'⟩ := List.getElem_of_mem he
        have := h3 i (by simpa using hi)
        rcases this with h | h
        · have he' : (ops[j].after)[i]'(by simpa using hi) = e := by simpa using e'
          rw [he', hb] at h; cases h
        · have he' : (ops[j].after)[i]'(by simpa using hi) = e := by simpa using e'
          rw [he'] at h
          simpa using h
    · rintro ⟨o, ho, h2, h3⟩
      have h1 : j < ops.size := by
        rw [← hsz]
        rcases Nat.lt_or_ge j ops.toList.length with q | q
        · exact q
        · rw [List.getElem?_eq_none q] at ho; cases ho
      have hoj : ops[j] = o := by simpa [h1] using ho
      refine ⟨h1, ?_, ?_⟩
      · simp [Array.getD, hL, h1] at h2 ⊢; exact h2
      · simp [h1, hoj]
        intro i hi
        have := h3 (o.after[i]) (by simp)
        by_cases hb : Region.binds .any o.after[i] = true
        · exact .inr (by simpa using this hb)
        · exact .inl (by simpa using hb)
  -- any order, from a set of operations that are done
  have main : ∀ (fuel : Nat) (L : Array Bool) (m : Mp) (a : Act) (w : World), L.size = ops.size → Closed ops.toList (dn L) → (∀ (T : List Nat), T.Nodup → (∀ j ∈ T, j < ops.size ∧ dn L j = false) → T.length ≤ fuel) → OK E (stD (dn L) 0 ops.toList tr st) m a w → wpAnyIn (Fz ρ) 0 P .any ops R fuel L a w := by
    have fin : ∀ (L : Array Bool) (m : Mp) (a : Act) (w : World), L.size = ops.size → OK E (stD (dn L) 0 ops.toList tr st) m a w → Region.ready .any ops L = [] → R .normal a w := fun L m a w hL ok hr => by
      have all : ∀ n, ∀ j, j < n → j < ops.size → dn L j = true := by
        intro n
        induction n with
        | zero => intro j h; omega
        | succ n ih =>
          intro j hj hs
          cases e : dn L j with
          | true => rfl
          | false =>
            have ho : ops.toList[j]? = some ops[j] := by simp [hs]
            have : j ∈ Region.ready .any ops L := (rd L j hL).2 ⟨_, ho, e, fun e' he hb' => ih e'.on (by have := backOk_of hback ho e' he hb'; omega) (by have := backOk_of hback ho e' he hb'; omega)⟩
            rw [hr] at this
            cases this
      refine ⟨st', m, hq, ok.ext (fun t => ?_) (fun b => ?_)⟩
      · rw [hst']
        exact agree_e (fun k o x h1 h2 h3 => by
          have hk : k < ops.size := by
            rw [← hsz]
            rcases Nat.lt_or_ge k ops.toList.length with q | q
            · exact q
            · rw [List.getElem?_eq_none q] at h1; cases h1
          rw [Nat.zero_add, all (k + 1) k (by omega) hk] at h3
          exact absurd rfl h3) rfl
      · rw [hst']
        exact agree_b (fun k o x h1 h2 h3 => by
          have hk : k < ops.size := by
            rw [← hsz]
            rcases Nat.lt_or_ge k ops.toList.length with q | q
            · exact q
            · rw [List.getElem?_eq_none q] at h1; cases h1
          rw [Nat.zero_add, all (k + 1) k (by omega) hk] at h3
          exact absurd rfl h3) rfl
    intro fuel
    induction fuel with
    | zero =>
      intro L m a w hL hcl hf ok
      have hr : Region.ready .any ops L = [] := by
        cases hr : Region.ready .any ops L with
        | nil => rfl
        | cons j r =>
          obtain ⟨o, h1, h2, -⟩ := (rd L j hL).1 (by rw [hr]; exact List.mem_cons_self)
          have hj : j < ops.size := by
            rw [← hsz]
            rcases Nat.lt_or_ge j ops.toList.length with q | q
            · exact q
            · rw [List.getElem?_eq_none q] at h1; cases h1
          have := hf [j] (by simp) (fun i hi => by simp at hi; subst hi; exact ⟨hj, h2⟩)
          simp at this
      exact ⟨hr, fin L m a w hL ok hr⟩
    | succ fuel ih =>
      intro L m a w hL hcl hf ok
      refine ⟨fin L m a w hL ok, fun j hj => ?_⟩
      obtain ⟨o, ho, hnd, hrd⟩ := (rd L j hL).1 hj
      obtain ⟨x, hx⟩ := trk j o ho
      have hjs : j < ops.size := by
        rw [← hsz]
        rcases Nat.lt_or_ge j ops.toList.length with q | q
        · exact q
        · rw [List.getElem?_eq_none q] at ho; cases ho
      obtain ⟨hdst, hstep, hc⟩ := hat j o x ho hx
      obtain ⟨p, hp, hnm, -, hcf⟩ := hck j o x ho hx
      have hpD : ∀ k ∈ p, dn L k = true := hpre _ hcl j o p hp ho hrd
      -- no other operation in the way is done out of turn
      have key : ∀ (k : Nat) o' x', ops.toList[k]? = some o' → tr[k]? = some x' → dn L k ≠ Nat.blt k j → ((∀ t ∈ rTs ops o, o'.dst ≠ some t) ∧ (∀ b ∈ x.2, b ∉ ubKeys x'.1.out)) ∨ ((k, j) ∈ XS ∧ k < j ∧ dn L k = false) := fun k o' x' h1 h2 h3 => by
        rcases Nat.lt_trichotomy k j with hk | hk | hk
        · have hb : Nat.blt k j = true := by rw [Nat.blt_eq]; exact hk
          rw [hb] at h3
          have hkd : dn L k = false := by cases e : dn L k with | false => rfl | true => exact absurd e h3
          rcases hcf k o' x' hk h1 h2 with h | h | h
          · rw [hpD k h] at hkd; cases hkd
          · simp only [confX, Bool.or_eq_false_iff] at h
            obtain ⟨⟨⟨c1, c2⟩, c3⟩, c4⟩ := h
            refine .inl ⟨fun t ht e => hit_no c1 (b := t) (by rw [e]; simp) (List.mem_append_left _ ht), fun b hb he => hit_no c3 he (List.mem_append_left _ hb)⟩
          · exact .inr ⟨h.1, hk, hkd⟩
        · subst hk
          have : Nat.blt k k = false := by cases e : Nat.blt k k with | false => rfl | true => have := blt_of e; omega
          rw [this, hnd] at h3
          exact absurd rfl h3
        · have hb : Nat.blt k j = false := by cases e : Nat.blt k j with | false => rfl | true => have := blt_of e; omega
          rw [hb] at h3
          have hkd : dn L k = true := by cases e : dn L k with | true => rfl | false => exact absurd e h3
          obtain ⟨p', hp', -, -, hcf'⟩ := hck k o' x' h1 h2
          rcases hcf' j o x hk ho hx with h | h | h
          · have := hpre _ hcl k o' p' hp' h1 (hcl k o' h1 hkd) j h
            rw [hnd] at this; cases this
          · simp only [confX, Bool.or_eq_false_iff] at h
            obtain ⟨⟨⟨c1, c2⟩, c3⟩, c4⟩ := h
            refine .inl ⟨fun t ht e => hit_no c2 (b := t) (by rw [e]; simp) ht, fun b hb he => hit_no c4 he hb⟩
          · have h := h.2
            simp only [confY, Bool.or_eq_false_iff] at h
            obtain ⟨⟨⟨c1, c2⟩, c3⟩, c4⟩ := h
            refine .inl ⟨fun t ht e => hit_no c2 (b := t) (by rw [e]; simp) ht, fun b hb he => hit_no c4 he hb⟩
      have later : ∀ (k : Nat) o' x', j < k → ops.toList[k]? = some o' → tr[k]? = some x' → dn L k = true → (∀ t, o.dst = some t → o'.dst ≠ some t) ∧ ∀ b ∈ ubKeys x.1.out, b ∉ ubKeys x'.1.out := fun k o' x' hk h1 h2 hkd => by
        obtain ⟨p', hp', -, -, hcf'⟩ := hck k o' x' h1 h2
        rcases hcf' j o x hk ho hx with h | h | h
        · have := hpre _ hcl k o' p' hp' h1 (hcl k o' h1 hkd) j h
          rw [hnd] at this; cases this
        · simp only [confX, Bool.or_eq_false_iff] at h
          obtain ⟨⟨⟨c1, c2⟩, c3⟩, c4⟩ := h
          refine ⟨fun t ht e => hit_no c1 (b := t) (by rw [ht]; simp) (List.mem_append_right _ (by rw [e]; simp)), fun b hb he => hit_no c3 hb (List.mem_append_right _ he)⟩
        · have h := h.2
          simp only [confY, Bool.or_eq_false_iff] at h
          obtain ⟨⟨⟨c1, c2⟩, c3⟩, c4⟩ := h
          refine ⟨fun t ht e => hit_no c1 (b := t) (by rw [ht]; simp) (List.mem_append_right _ (by rw [e]; simp)), fun b hb he => hit_no c3 hb he⟩
      obtain ⟨e1, e2⟩ := stD_add (st := st) ho hx hnd later
      have hL' : (L.setIfInBounds j true).size = ops.size := by simp [hL]
      have hdn : ∀ i, dn (L.setIfInBounds j true) i = addD (dn L) j i := fun i => by
        simp only [dn, addD, Array.getD_eq_getD_getElem?, Array.getElem?_setIfInBounds]
        by_cases e : j = i
        · subst e; simp [hL, hjs]
        · rw [if_neg e, beq_f e]; simp
      have hdn' : dn (L.setIfInBounds j true) = addD (dn L) j := funext hdn
      have hcl' : Closed ops.toList (dn (L.setIfInBounds j true)) := fun i o' hi hdi e' he' hb' => by
        rw [hdn] at hdi ⊢
        simp only [addD, Bool.or_eq_true] at hdi ⊢
        rcases hdi with h | h
        · have := Nat.eq_of_beq_eq_true h
          subst this
          rw [ho] at hi
          cases hi
          exact .inr (hrd e' he' hb')
        · exact .inr (hcl i o' hi h e' he' hb')
      have hf' : ∀ (T : List Nat), T.Nodup → (∀ i ∈ T, i < ops.size ∧ dn (L.setIfInBounds j true) i = false) → T.length ≤ fuel := fun T hT hTi => by
        have := hf (j :: T) (List.nodup_cons.2 ⟨fun hjT => by
          have := (hTi j hjT).2
          rw [hdn] at this
          simp [addD] at this, hT⟩) (fun i hi => by
          rcases List.mem_cons.1 hi with rfl | hi
          · exact ⟨hjs, hnd⟩
          · obtain ⟨q1, q2⟩ := hTi i hi
            rw [hdn] at q2
            simp only [addD, Bool.or_eq_false_iff] at q2
            exact ⟨q1, q2.2⟩)
        simp at this
        omega
      have nxt : ∀ a' w' m', OK E ((stD (dn L) 0 ops.toList tr st).app o.dst x.1.out) m' a' w' → wpAnyIn (Fz ρ) 0 P .any ops R fuel (L.setIfInBounds j true) a' w' := fun a' w' m' ok' => ih _ m' a' w' hL' hcl' hf' (by rw [hdn']; exact ok'.ext e1 e2)
      have fresh : ∀ n ∈ nws (bs + 64 * j), ¬ (stD (dn L) 0 ops.toList tr st).has n ∧ 100 ≤ n := fun n hn => by
        rw [mem_nws] at hn
        refine ⟨fun hh => ?_, by omega⟩
        rcases names_D hh with h | ⟨k, o', x', h1, h2, h3, h4⟩
        · have := hlt n h; omega
        · rw [Nat.zero_add] at h3
          obtain ⟨p', hp', hnm', -, -⟩ := hck k o' x' h1 h2
          rcases hnm' n h4 with h | h | h
          · omega
          · have : k = j := by omega
            subst this
            rw [hnd] at h3; cases h3
          · have : (n - bs) / 64 = j := by omega
            rw [this] at h
            have := hpre _ hcl k o' p' hp' h1 (hcl k o' h1 h3) j h
            rw [hnd] at this; cases this
      have go : ∀ (D2 : Nat → Bool) (out : Out), (∀ (k : Nat) o' x', ops.toList[k]? = some o' → tr[k]? = some x' → dn L k ≠ D2 k → ((∀ t ∈ rTs ops o, o'.dst ≠ some t) ∧ (∀ b ∈ x.2, b ∉ ubKeys x'.1.out))) → step1 P ops x.1.an (bs + 64 * j) o (resT (rTs ops o) (stD D2 0 ops.toList tr st).e) (resB x.2 (stD D2 0 ops.toList tr st).b) = some out → out.c → out.ub = x.1.out.ub → out.v = x.1.out.v → _ := fun D2 out key2 hstep2 hc2 hub hv => by
        have he : ∀ t, memN t (rTs ops o) = true → (stD (dn L) 0 ops.toList tr st).e t = (stD D2 0 ops.toList tr st).e t := fun t ht => agree_e (fun k o' x' h1 h2 h3 => (key2 k o' x' h1 h2 (by rwa [Nat.zero_add] at h3)).1 t (memN_iff.1 ht)) rfl
        have hb : ∀ b, memN b x.2 = true → (stD (dn L) 0 ops.toList tr st).b b = (stD D2 0 ops.toList tr st).b b := fun b ht => agree_b (fun k o' x' h1 h2 h3 => (key2 k o' x' h1 h2 (by rwa [Nat.zero_add] at h3)).2 b (memN_iff.1 ht)) rfl
        exact step1_wp (ρ := ρ) hstep2 ok (fun t v ht => by
          unfold resT at ht
          split at ht
          · rename_i hm
            rw [he t hm]; exact ht
          · cases ht) (fun b B ht => by
          unfold resB at ht
          split at ht
          · rename_i hm
            rw [hb b hm]; exact ht
          · cases ht) fresh (fun d hd => Nat.lt_of_lt_of_le (hdst d hd) hN) hc2 (wpAnyIn (Fz ρ) 0 P .any ops R fuel (L.setIfInBounds j true)) R (fun a' w' m' ok' => nxt a' w' m' (by
            have e : (stD (dn L) 0 ops.toList tr st).app o.dst out = (stD (dn L) 0 ops.toList tr st).app o.dst x.1.out := by unfold St.app; rw [hub, hv]
            rw [← e]; exact ok'))
      have hst : if Region.wanted o (yielded ops a.tmps) = true then o.wpIn (Fz ρ) 0 P a w (wpAnyIn (Fz ρ) 0 P .any ops R fuel (L.setIfInBounds j true)) R else (∀ f, o.about P w a.eval = some f → (Fz ρ).fn f) ∧ wpAnyIn (Fz ρ) 0 P .any ops R fuel (L.setIfInBounds j true) (a.put o.dst undef) w := by
        by_cases hex : ∃ q, q ∈ XS ∧ q.2 = j ∧ dn L q.1 = false
        · obtain ⟨q, hq1, hq2, hq3⟩ := hex
          obtain ⟨o2, x2, out, a1, a2, a3, a4, a5, a6⟩ := hxs q hq1
          rw [hq2] at a1 a2 a3
          rw [ho] at a1
          rw [hx] at a2
          cases a1; cases a2
          refine go (fun n => Nat.blt n q.2 && !(Nat.beq n q.1)) out (fun k o' x' h1 h2 h3 => ?_) a3 a4 a5 a6
          by_cases hkq : k = q.1
          · subst hkq
            rw [hq3] at h3
            have : Nat.beq q.1 q.1 = true := by simp
            simp [this] at h3
          · have hb : (Nat.blt k q.2 && !(Nat.beq k q.1)) = Nat.blt k j := by rw [beq_f hkq, hq2]; simp
            simp only [hb] at h3
            rcases key k o' x' h1 h2 h3 with h | ⟨h, -, -⟩
            · exact h
            · have hnd2 := nodupN_snd hxn h hq1 hq2.symm
              exact absurd (congrArg Prod.fst hnd2) hkq
        · refine go (fun n => Nat.blt n j) x.1.out (fun k o' x' h1 h2 h3 => ?_) hstep hc rfl rfl
          rcases key k o' x' h1 h2 h3 with h | ⟨h, -, h4⟩
          · exact h
          · exact absurd ⟨(k, j), h, rfl, h4⟩ hex
      unfold wpOpIn
      have hoj : ops[j]? = some o := by simpa using ho
      rw [hoj]
      simp only
      split at hst <;> rename_i hw
      · rw [if_pos hw]; exact hst
      · rw [if_neg hw]; exact hst
  refine wpIn_region_any hm (main ops.size _ m a { w with drawn := w.drawn + 1 } (by simp) (fun j o _ h => ?_) (fun T hT hTi => ?_) ?_)
  · simp only [dn, Array.getD_eq_getD_getElem?, Array.getElem?_replicate] at h
    split at h <;> simp at h
  · exact few _ T hT fun i hi => (hTi i hi).1
  · have e : stD (dn (Array.replicate ops.size false)) 0 ops.toList tr st = stD (fun _ => false) 0 ops.toList tr st := by
      congr 1
      funext i
      simp only [dn, Array.getD_eq_getD_getElem?, Array.getElem?_replicate]
      split <;> rfl
    rw [e]
    refine (ok.heap (w' := { w with drawn := w.drawn + 1 }) rfl ⟨rfl, rfl, rfl⟩).ext (fun t => keep_e fun k o x _ _ h => by cases h) (fun b => keep_b fun k o x _ _ h => by cases h)
end Go.Proofs.Ytfjdhdmbbfeigaa.Am
