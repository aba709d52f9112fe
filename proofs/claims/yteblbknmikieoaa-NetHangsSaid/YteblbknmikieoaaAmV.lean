/- A function's code, executed. -/
import Derived.Test.YteblbknmikieoaaAmX
namespace Go.Proofs.Yteblbknmikieoaa.Am
set_option linter.unusedVariables false
set_option linter.unusedSimpArgs false
def eqE : Exit → Exit → Bool
  | .normal, .normal | .ret, .ret => true
  | .exit a, .exit b => Nat.beq a b
  | _, _ => false
theorem eqE_of {a b : Exit} (h : eqE a b = true) : a = b := by
  cases a <;> cases b <;> simp only [eqE, Bool.false_eq_true] at h <;> (try rfl)
  rw [Nat.eq_of_beq_eq_true h]
/-- Ways out of a piece of code, each with its template. -/
def AltD : List (Exit × TSt) → Type
  | [] => Empty
  | [p] => p.2.D Unit
  | p :: q :: r => Sum (p.2.D Unit) (AltD (q :: r))
def toAlt : (alts : List (Exit × TSt)) → Exit → St → St → Option (AltD alts)
  | [], _, _, _ => none
  | [p], e, ov, base => match eqE e p.1 with | true => tell p.2 ov base () | false => none
  | p :: q :: r, e, ov, base => match eqE e p.1 with
    | true => (match tell p.2 ov base () with | some d => some (.inl d) | none => none)
    | false => (match toAlt (q :: r) e ov base with | some d => some (.inr d) | none => none)
def fromAlt {R : Type} (K : Exit → St → Option R) (rest : St) : (alts : List (Exit × TSt)) → AltD alts → Option R
  | [], d => nomatch d
  | [p], d => K p.1 ((p.2.mk' d).ap rest)
  | p :: q :: r, d => Sum.elim (fun d => K p.1 ((p.2.mk' d).ap rest)) (fun d => fromAlt K rest (q :: r) d) d
theorem alt_ok {R : Type} {K : Exit → St → Option R} {rest : St} {r : R} : ∀ {alts : List (Exit × TSt)} {e : Exit} {ov base : St} {d : AltD alts}, toAlt alts e ov base = some d → fromAlt K rest alts d = some r → ∃ s : St, Sub (ov.ap base) (s.ap base) ∧ K e (s.ap rest) = some r
  | [], e, ov, base, d, h, _ => by cases h
  | [p], e, ov, base, d, h, hf => by
    simp only [toAlt] at h
    split at h <;> (try cases h)
    rename_i he
    rw [eqE_of he]
    exact ⟨_, tell_sub h, hf⟩
  | p :: q :: l, e, ov, base, d, h, hf => by
    simp only [toAlt] at h
    split at h
    · rename_i he
      split at h <;> cases h
      rename_i d' hd
      rw [eqE_of he]
      exact ⟨_, tell_sub hd, hf⟩
    · split at h <;> cases h
      rename_i d' hd
      exact alt_ok (alts := q :: l) hd hf
/-- What is told of a function's code ahead: templates where ways meet. -/
inductive Ann where
  | d
  | s (a b : Ann)
  | b (a : Ann)
  | l (ks bs : List Nat) (T : TSt) (alts : List (Exit × TSt)) (a : Ann)
  | j (ks bs : List Nat) (alts : List (Exit × TSt)) (a b : Ann)
def Ann.fst : Ann → Ann
  | .s x _ | .b x => x
  | _ => .d
def Ann.snd : Ann → Ann
  | .s _ y => y
  | _ => .d
/-- What of a state is looked at; what stays beside. -/
def selL {α : Type} (ks : List Nat) (l : List (Nat × α)) : List (Nat × α) := l.filter fun p => memN p.1 ks
def resL {α : Type} (ks : List Nat) (l : List (Nat × α)) : List (Nat × α) := l.filter fun p => !(memN p.1 ks)
def St.sel (st : St) (ks bs : List Nat) : St := ⟨selL ks st.env, selL bs st.blk⟩
def St.rest (st : St) (ks bs : List Nat) : St := ⟨resL ks st.env, resL bs st.blk⟩
theorem lk_sel {α : Type} {ks : List Nat} {n : Nat} : ∀ {l : List (Nat × α)}, lk (selL ks l) n = if memN n ks = true then lk l n else none
  | [] => by split <;> rfl
  | (a, x) :: l => by
    unfold selL
    by_cases h : memN a ks = true
    · rw [List.filter_cons_of_pos (p := fun p : Nat × α => memN p.1 ks) (a := (a, x)) (l := l) h, lk_cons, lk_cons]
      have := lk_sel (ks := ks) (n := n) (l := l)
      unfold selL at this
      rw [this]
      by_cases e : a = n
      · subst e; rw [if_pos rfl, if_pos rfl, if_pos h]
      · rw [if_neg e, if_neg e]
    · rw [List.filter_cons_of_neg (p := fun p : Nat × α => memN p.1 ks) (a := (a, x)) (l := l) h, lk_cons]
      have := lk_sel (ks := ks) (n := n) (l := l)
      unfold selL at this
      rw [this]
      by_cases e : a = n
      · subst e; rw [if_neg h, if_neg h]
      · rw [if_neg e]
theorem lk_res {α : Type} {ks : List Nat} {n : Nat} : ∀ {l : List (Nat × α)}, lk (resL ks l) n = if memN n ks = true then none else lk l n
  | [] => by split <;> rfl
  | (a, x) :: l => by
    unfold resL
    by_cases h : memN a ks = true
    · rw [List.filter_cons_of_neg (by rw [h]; decide), lk_cons]
      have := lk_res (ks := ks) (n := n) (l := l)
      unfold resL at this
      rw [this]
      by_cases e : a = n
      · subst e; rw [if_pos h, if_pos h]
      · rw [if_neg e]
    · have hf : memN a ks = false := by cases q : memN a ks with | true => exact absurd q h | false => rfl
      rw [List.filter_cons_of_pos (by rw [hf]; rfl), lk_cons, lk_cons]
      have := lk_res (ks := ks) (n := n) (l := l)
      unfold resL at this
      rw [this]
      by_cases e : a = n
      · subst e; rw [if_pos rfl, if_pos rfl, if_neg h]
      · rw [if_neg e, if_neg e]
theorem St.ext_sub {st st' : St} (he : ∀ t, st'.e t = st.e t) (hb : ∀ b, st'.b b = st.b b) : Sub st st' := fun E m a w ok =>
  ⟨m, ok.defers, ok.tmps, fun t v hv => ok.env t v (by rw [← he]; exact hv), fun b B hB => ok.blk b B (by rw [← hb]; exact hB), fun b B hB => ok.own b B (by rw [← hb]; exact hB), fun b c B C hB hC => ok.inj b c B C (by rw [← hb]; exact hB) (by rw [← hb]; exact hC), ok.lt, ok.le, ok.frame, ok.sup, ok.new, ok.fix, ok.io⟩
theorem ap_e (o b : St) (t : Nat) : (o.ap b).e t = match lk o.env t with | some x => some x | none => b.e t := by
  unfold St.e St.ap
  simp only [lk_app]
  cases lk o.env t <;> rfl
theorem ap_b (o b : St) (t : Nat) : (o.ap b).b t = match lk o.blk t with | some x => x | none => b.b t := by
  unfold St.b St.ap
  simp only [lk_app]
  split <;> simp_all
theorem split_sub (st base : St) (ks bs : List Nat) : Sub (st.ap base) ((st.sel ks bs).ap ((st.rest ks bs).ap base)) := by
  refine St.ext_sub (fun t => ?_) (fun b => ?_)
  · rw [ap_e, ap_e, ap_e]
    unfold St.sel St.rest
    simp only [lk_sel, lk_res]
    by_cases h : memN t ks = true
    · rw [if_pos h, if_pos h]
    · rw [if_neg h, if_neg h]
  · rw [ap_b, ap_b, ap_b]
    unfold St.sel St.rest
    simp only [lk_sel, lk_res]
    by_cases h : memN b bs = true
    · rw [if_pos h, if_pos h]
    · rw [if_neg h, if_neg h]
theorem ap_assoc (a b c : St) : a.ap (b.ap c) = (a.ap b).ap c := by
  unfold St.ap
  simp only [List.append_assoc]
/-- The code, executed: what it comes to is a function of the data. -/
noncomputable def ex (P : Program) (N : Nat) (n : Nat) (Γ : List (Ctr P)) : Code → Ann → {R : Type} → St → St → (Exit → St → Option R) → Option R
  | .skip, _, _, ov, _, K => K .normal ov
  | .ret, _, _, ov, _, K => K .ret ov
  | .exit id, _, _, ov, _, K => K (.exit id) ov
  | .region _ ops dr, _, _, ov, base, K => runX P N Γ ops dr base (newN (ov.ap base)) (fun acc ov' => match dr with
    | false => K .normal ov'
    | true => match drawOk P ops (newN (ov.ap base)) acc.reverse with | true => K .normal ov' | false => none) 0 ops.toList ov []
  | .seq x y, an, _, ov, base, K => match an with
    | .j ks bs alts a b => (ex P N n Γ x a (ov.sel ks bs) ((ov.rest ks bs).ap base) fun e ov' => toAlt alts e ov' ((ov.rest ks bs).ap base)).bind fun d =>
      fromAlt (fun e ov' => match e with | .normal => ex P N n Γ y b ov' base K | e => K e ov') (ov.rest ks bs) alts d
    | an => ex P N n Γ x an.fst ov base fun e ov' => match e with | .normal => ex P N n Γ y an.snd ov' base K | e => K e ov'
  | .cond c x y, an, _, ov, base, K => match c with
    | .tmp t => match sv ((ov.ap base).e t) with
      | some (.bool b) => cond b (ex P N n Γ x an.fst ov base K) (ex P N n Γ y an.snd ov base K)
      | _ => none
    | _ => none
  | .block id x, an, _, ov, base, K => ex P N n Γ x an.fst ov base fun e ov' => match e with
    | .exit id' => match Nat.beq id' id with | true => K .normal ov' | false => K (.exit id') ov'
    | e => K e ov'
  | .loop x, an, _, ov, base, K => match an with
    | .l ks bs T alts a => match tell T (ov.sel ks bs) ((ov.rest ks bs).ap base) () with
      | some d => (iter (fun self d => ex P N n Γ x a (T.mk' d) ((ov.rest ks bs).ap base) fun e ov' => match e with
          | .normal => match tell T ov' ((ov.rest ks bs).ap base) () with | some d' => self d' | none => none
          | e => toAlt alts e ov' ((ov.rest ks bs).ap base)) n d).bind fun d => fromAlt K (ov.rest ks bs) alts d
      | none => none
    | _ => none
  | _, _, _, _, _, _ => none
section
variable {P : Program} {N : Nat} {st : St}
theorem AW.post_sub {c : Code} {Q : Exit → St → Prop} (h : AW P N c st fun e s => ∃ s', Sub s s' ∧ Q e s') : AW P N c st Q := fun E m a w hN ho => wp_mono (h E m a w hN ho) fun e a' w' ⟨s, m', ⟨s', hs, q⟩, o⟩ => by
  obtain ⟨m2, o2⟩ := hs E m' a' w' o
  exact ⟨s', m2, q, o2⟩
theorem ex_ok {n : Nat} {Γ : List (Ctr P)} : ∀ {c : Code} {an : Ann} {R : Type} {ov base : St} {K : Exit → St → Option R} {r : R} {Q : Exit → St → Prop}, ex P N n Γ c an ov base K = some r → (∀ e ov', K e ov' = some r → Q e (ov'.ap base)) → AW P N c (ov.ap base) Q
  | .skip, an, R, ov, base, K, r, Q, h, hK => by
    simp only [ex] at h
    exact .skip (hK _ _ h)
  | .ret, an, R, ov, base, K, r, Q, h, hK => by
    simp only [ex] at h
    exact .ret (hK _ _ h)
  | .exit id, an, R, ov, base, K, r, Q, h, hK => by
    simp only [ex] at h
    exact .exit (hK _ _ h)
  | .region id ops dr, an, R, ov, base, K, r, Q, h, hK => by
    simp only [ex] at h
    obtain ⟨tr, ov', h1, h2⟩ := runX_ok h
    cases dr with
    | false => exact .good h2 (hK _ _ h1)
    | true =>
      simp only [List.append_nil, List.reverse_reverse] at h1
      split at h1 <;> (try cases h1)
      rename_i hd
      exact .drawn h2 hd (hK _ _ h1)
  | .seq x y, an, R, ov, base, K, r, Q, h, hK => by
    simp only [ex] at h
    split at h
    · rename_i ks bs alts a b
      rw [Option.bind_eq_some_iff] at h
      obtain ⟨d, h1, h2⟩ := h
      refine AW.sub (split_sub ov base ks bs) (.seq (AW.post_sub (ex_ok h1 fun e ov' he => ?_)))
      obtain ⟨s, hs, hk⟩ := alt_ok he h2
      rw [ap_assoc s] at hs
      refine ⟨_, hs, ?_⟩
      cases e
      case normal => exact ex_ok hk hK
      all_goals exact hK _ _ hk
    · refine .seq (ex_ok h fun e ov' he => ?_)
      cases e
      case normal => exact ex_ok he hK
      all_goals exact hK _ _ he
  | .cond c x y, an, R, ov, base, K, r, Q, h, hK => by
    simp only [ex] at h
    split at h <;> (try cases h)
    rename_i t
    split at h <;> (try cases h)
    rename_i b hb
    have hv : (ov.ap base).e t = some (V (.bool b)) := by
      unfold sv at hb
      split at hb <;> simp_all
    refine .cond rfl hv (fun e => ?_) (fun e => ?_)
    · subst e; exact ex_ok h hK
    · subst e; exact ex_ok h hK
  | .block id x, an, R, ov, base, K, r, Q, h, hK => by
    simp only [ex] at h
    refine .block (ex_ok h fun e ov' he => ?_)
    cases e
    case exit id' =>
      simp only at he
      simp only [Bl]
      split at he
      · rename_i hi; rw [hi]; exact hK _ _ he
      · rename_i hi; rw [hi]; exact hK _ _ he
    all_goals exact hK _ _ he
  | .loop x, an, R, ov, base, K, r, Q, h, hK => by
    simp only [ex] at h
    split at h <;> (try cases h)
    rename_i ks bs T alts a
    split at h <;> (try cases h)
    rename_i d hd
    rw [Option.bind_eq_some_iff] at h
    obtain ⟨r1, h1, h2⟩ := h
    generalize hF : (fun (self : T.D Unit → Option (AltD alts)) (d : T.D Unit) => ex P N n Γ x a (T.mk' d) ((ov.rest ks bs).ap base) fun e ov' => match e with
          | .normal => match tell T ov' ((ov.rest ks bs).ap base) () with | some d' => self d' | none => none
          | e => toAlt alts e ov' ((ov.rest ks bs).ap base)) = F at h1
    refine AW.sub ((split_sub ov base ks bs).trans (tell_sub hd)) (AW.post_sub (.loop (fun k s => ∃ d, s = (T.mk' d).ap ((ov.rest ks bs).ap base) ∧ iter F k d = some r1) (fun k s ⟨d, hs, hi⟩ => ?_) n ⟨d, rfl, h1⟩))
    subst hs
    cases k with
    | zero => cases hi
    | succ k =>
      have hi : F (iter F k) d = some r1 := hi
      rw [← congrFun (congrFun hF (iter F k)) d] at hi
      refine AW.post_sub (ex_ok hi fun e ov' he => ?_)
      cases e
      case normal =>
        simp only at he
        split at he <;> (try cases he)
        rename_i d' hd'
        exact ⟨_, tell_sub hd', k, Nat.lt_succ_self k, d', rfl, he⟩
      all_goals
        obtain ⟨s, hs, hk⟩ := alt_ok he h2
        rw [ap_assoc s] at hs
        exact ⟨_, .refl _, _, hs, hK _ _ hk⟩
  | .rangeFunc .., an, R, ov, base, K, r, Q, h, hK => by simp [ex] at h
  | .scope .., an, R, ov, base, K, r, Q, h, hK => by simp [ex] at h
  | .label .., an, R, ov, base, K, r, Q, h, hK => by simp [ex] at h
  | .goto .., an, R, ov, base, K, r, Q, h, hK => by simp [ex] at h
  | .refuse .., an, R, ov, base, K, r, Q, h, hK => by simp [ex] at h
end
end Go.Proofs.Yteblbknmikieoaa.Am
