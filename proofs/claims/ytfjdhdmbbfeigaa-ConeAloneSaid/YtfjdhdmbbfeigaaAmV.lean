/- A function's code, executed. -/
import Derived.Test.YtfjdhdmbbfeigaaAmZ
namespace Go.Proofs.Ytfjdhdmbbfeigaa.Am
set_option linter.unusedVariables false
set_option linter.unusedSimpArgs false
def eqE : Exit → Exit → Bool
  | .normal, .normal | .ret, .ret => true
  | .exit a, .exit b => Nat.beq a b
  | _, _ => false
theorem eqE_of {a b : Exit} (h : eqE a b = true) : a = b := by
  cases a <;> cases b <;> simp only [eqE, Bool.false_eq_true] at h <;> (try rfl)
  rw [Nat.eq_of_beq_eq_true h]
/-- Ways out of a piece of code, each with its template. -/
def AltD : List (Exit × TSt) → Type
  | [] => Empty
  | [p] => p.2.D Unit
  | p :: q :: r => Sum (p.2.D Unit) (AltD (q :: r))
def toAlt : (alts : List (Exit × TSt)) → Exit → St → St → Option (AltD alts)
  | [], _, _, _ => none
  | [p], e, ov, base => match eqE e p.1 with | true => tell p.2 ov base () | false => none
  | p :: q :: r, e, ov, base => match eqE e p.1 with
    | true => (match tell p.2 ov base () with | some d => some (.inl d) | none => none)
    | false => (match toAlt (q :: r) e ov base with | some d => some (.inr d) | none => none)
def fromAlt {R : Type} (K : Exit → St → Option R) (rest : St) : (alts : List (Exit × TSt)) → AltD alts → Option R
  | [], d => nomatch d
  | [p], d => K p.1 ((p.2.mk' d).ap rest)
  | p :: q :: r, d => Sum.elim (fun d => K p.1 ((p.2.mk' d).ap rest)) (fun d => fromAlt K rest (q :: r) d) d
theorem alt_ok {R : Type} {K : Exit → St → Option R} {rest : St} {r : R} : ∀ {alts : List (Exit × TSt)} {e : Exit} {ov base : St} {d : AltD alts}, toAlt alts e ov base = some d → fromAlt K rest alts d = some r → ∃ s : St, Sub (ov.ap base) (s.ap base) ∧ K e (s.ap rest) = some r
  | [], e, ov, base, d, h, _ => by cases h
  | [p], e, ov, base, d, h, hf => by
    simp only [toAlt] at h
    split at h <;> (try cases h)
    rename_i he
    rw [eqE_of he]
    exact ⟨_, tell_sub h, hf⟩
  | p :: q :: l, e, ov, base, d, h, hf => by
    simp only [toAlt] at h
    split at h
    · rename_i he
      split at h <;> cases h
      rename_i d' hd
      rw [eqE_of he]
      exact ⟨_, tell_sub hd, hf⟩
    · split at h <;> cases h
      rename_i d' hd
      exact alt_ok (alts := q :: l) hd hf
/-- What is told of a function's code ahead: templates where ways meet. -/
inductive Ann where
  | d
  | s (a b : Ann)
  | b (a : Ann)
  | l (ks bs : List Nat) (T : TSt) (alts : List (Exit × TSt)) (a : Ann)
  | j (ks bs : List Nat) (alts : List (Exit × TSt)) (a b : Ann)
  | r (k : Nat) (ts cs : List Nat) (xs : List Exit)
  | z (vw : List Nat)
  | q (vw : List Nat)
  | u (rs : List Ann)
def Ann.fst : Ann → Ann
  | .s x _ | .b x => x
  | _ => .d
def Ann.snd : Ann → Ann
  | .s _ y => y
  | _ => .d
/-- What of a state is looked at; what stays beside. -/
def selL {α : Type} (ks : List Nat) (l : List (Nat × α)) : List (Nat × α) := l.filter fun p => memN p.1 ks
def resL {α : Type} (ks : List Nat) (l : List (Nat × α)) : List (Nat × α) := l.filter fun p => !(memN p.1 ks)
def St.sel (st : St) (ks bs : List Nat) : St := ⟨selL ks st.env, selL bs st.blk⟩
def St.rest (st : St) (ks bs : List Nat) : St := ⟨resL ks st.env, resL bs st.blk⟩
theorem lk_sel {α : Type} {ks : List Nat} {n : Nat} : ∀ {l : List (Nat × α)}, lk (selL ks l) n = if memN n ks = true then lk l n else none
  | [] => by split <;> rfl
  | (a, x) :: l => by
    unfold selL
    by_cases h : memN a ks = true
    · rw [List.filter_cons_of_pos (p := fun p : Nat × α => memN p.1 ks) (a := (a, x)) (l := l) h, lk_cons, lk_cons]
      have := lk_sel (ks := ks) (n := n) (l := l)
      unfold selL at this
      rw [this]
      by_cases e : a = n
      · subst e; rw [if_pos rfl, if_pos rfl, if_pos h]
      · rw [if_neg e, if_neg e]
    · rw [List.filter_cons_of_neg (p := fun p : Nat × α => memN p.1 ks) (a := (a, x)) (l := l) h, lk_cons]
      have := lk_sel (ks := ks) (n := n) (l := l)
      unfold selL at this
      rw [this]
      by_cases e : a = n
      · subst e; rw [if_neg h, if_neg h]
      · rw [if_neg e]
theorem lk_res {α : Type} {ks : List Nat} {n : Nat} : ∀ {l : List (Nat × α)}, lk (resL ks l) n = if memN n ks = true then none else lk l n
  | [] => by split <;> rfl
  | (a, x) :: l => by
    unfold resL
    by_cases h : memN a ks = true
    · rw [List.filter_cons_of_neg (by rw [h]; decide), lk_cons]
      have := lk_res (ks := ks) (n := n) (l := l)
      unfold resL at this
      rw [this]
      by_cases e : a = n
      · subst e; rw [if_pos h, if_pos h]
      · rw [if_neg e]
    · have hf : memN a ks = false := by cases q : memN a ks with | true => exact absurd q h | false => rfl
      rw [List.filter_cons_of_pos (by rw [hf]; rfl), lk_cons, lk_cons]
      have := lk_res (ks := ks) (n := n) (l := l)
      unfold resL at this
      rw [this]
      by_cases e : a = n
      · subst e; rw [if_pos rfl, if_pos rfl, if_neg h]
      · rw [if_neg e, if_neg e]
theorem St.ext_sub {st st' : St} (he : ∀ t, st'.e t = st.e t) (hb : ∀ b, st'.b b = st.b b) : Sub st st' := fun E m a w ok =>
  ⟨m, ok.defers.go rfl fun r p => ⟨p.is, p.own, p.noS, fun b B hB => p.no b B (by rw [← hb]; exact hB)⟩, ok.tmps, fun t v hv => ok.env t v (by rw [← he]; exact hv), fun b B hB => ok.blk b B (by rw [← hb]; exact hB), fun b B hB => ok.own b B (by rw [← hb]; exact hB), fun b c B C hB hC => ok.inj b c B C (by rw [← hb]; exact hB) (by rw [← hb]; exact hC), ok.lt, ok.le, ok.frame, ok.sup, ok.new, ok.fix, ok.io⟩
theorem ap_e (o b : St) (t : Nat) : (o.ap b).e t = match lk o.env t with | some x => some x | none => b.e t := by
  unfold St.e St.ap
  simp only [lk_app]
  cases lk o.env t <;> rfl
theorem ap_b (o b : St) (t : Nat) : (o.ap b).b t = match lk o.blk t with | some x => x | none => b.b t := by
  unfold St.b St.ap
  simp only [lk_app]
  split <;> simp_all
theorem split_sub (st base : St) (ks bs : List Nat) : Sub (st.ap base) ((st.sel ks bs).ap ((st.rest ks bs).ap base)) := by
  refine St.ext_sub (fun t => ?_) (fun b => ?_)
  · rw [ap_e, ap_e, ap_e]
    unfold St.sel St.rest
    simp only [lk_sel, lk_res]
    by_cases h : memN t ks = true
    · rw [if_pos h, if_pos h]
    · rw [if_neg h, if_neg h]
  · rw [ap_b, ap_b, ap_b]
    unfold St.sel St.rest
    simp only [lk_sel, lk_res]
    by_cases h : memN b bs = true
    · rw [if_pos h, if_pos h]
    · rw [if_neg h, if_neg h]
theorem ap_assoc (a b c : St) : a.ap (b.ap c) = (a.ap b).ap c := by
  unfold St.ap
  simp only [List.append_assoc]
def codeE : Exit → Int
  | .normal => 0 | .ret => 1 | .exit id => 2 + id | _ => -1
/-- Behind a range: on, or out of it. -/
def wayX {R : Type} (j : Int) (K : Exit → Option R) : List Exit → Option R
  | [] => none
  | e :: r => cond (decide (j = codeE e)) (K e) (wayX j K r)
theorem wayX_ok {R : Type} {j : Int} {K : Exit → Option R} {r : R} : ∀ {xs : List Exit}, wayX j K xs = some r → ∃ e, j = codeE e ∧ K e = some r
  | [], h => by cases h
  | e :: xs, h => by
    unfold wayX at h
    by_cases he : j = codeE e
    · rw [decide_eq_true he] at h; exact ⟨e, he, h⟩
    · rw [decide_eq_false he] at h; exact wayX_ok h
def envs (e : Nat → Option AV) (ts : List Nat) : Option (List (Nat × AV)) := mapO (fun t => match e t with | some v => some (t, v) | none => none) ts
/-- A range over a function, executed. -/
noncomputable def rangeX {R : Type} (P : Program) (Γ : List (Ctr P)) (g : Operand) (k : Nat) (ts cs : List Nat) (xs : List Exit) (ov base : St) (K : Exit → St → Option R) : Option R :=
  match sv (evO (ov.ap base).e g), envs (ov.ap base).e ts with
  | some (.fn f cap), some tm => match P.funcs[f]? with
    | some fn => match fn.name == "runtime.NumGoroutine", fn.body.isSome with
      | false, true => tryC (.fn f) (V (.yld (newN (ov.ap base)) cs) :: caps cap) (newN ((ov.setb (newN (ov.ap base)) (some (.lop k tm 0))).ap base)) ((ov.setb (newN (ov.ap base)) (some (.lop k tm 0))).ap base).b (fun an => match an with
        | .co vw hs res cbl2 => match mapO (blOf ((ov.setb (newN (ov.ap base)) (some (.lop k tm 0))).ap base).b) hs with
          | some cbl => match callOk vw cbl cbl2 res (nws (newN ((ov.setb (newN (ov.ap base)) (some (.lop k tm 0))).ap base))) with
            | true => match (((ov.setb (newN (ov.ap base)) (some (.lop k tm 0))).setbs (callUb cbl cbl2)).ap base).b (newN (ov.ap base)) with
              | some (.lop _ _ j) => ask (0 ≤ j) (wayX j (fun e => K e (((ov.setb (newN (ov.ap base)) (some (.lop k tm 0))).setbs (callUb cbl cbl2)).setb (newN (ov.ap base)) none)) xs)
              | _ => none
            | false => none
          | none => none
        | _ => none) Γ
      | _, _ => none
    | none => none
  | _, _ => none
theorem rangeX_ok {R : Type} {P : Program} {Γ : List (Ctr P)} {N : Nat} {g : Operand} {ps : Array Tmp} {x y : Code} {k : Nat} {ts cs : List Nat} {xs : List Exit} {ov base : St} {K : Exit → St → Option R} {r : R} (hk : lt k = ⟨ps.toList, x, y, N⟩) (h : rangeX P Γ g k ts cs xs ov base K = some r) :
    AW none P N (.rangeFunc g ps x y) (ov.ap base) fun e s => ∃ ov', s = ov'.ap base ∧ K e ov' = some r := by
  unfold rangeX at h
  split at h <;> (try cases h)
  rename_i f cap tm hg htm
  split at h <;> (try cases h)
  rename_i fn hfn
  split at h <;> (try cases h)
  rename_i hnm hbd
  obtain ⟨vw, hs, res, cbl2, h, hsp⟩ := tryC_ok h
  simp only at h
  split at h <;> (try cases h)
  rename_i cbl hcb
  split at h <;> (try cases h)
  rename_i hok
  split at h <;> (try cases h)
  rename_i k' tm' j hj
  rw [ask_some] at h
  obtain ⟨h0, h⟩ := h
  obtain ⟨e0, he0, hK⟩ := wayX_ok h
  have nb := newN_of (ov.ap base)
  have nm := newN_of ((ov.setb (newN (ov.ap base)) (some (.lop k tm 0))).ap base)
  have hsp := hsp cbl hcb
  rw [setbs_ap] at hj
  have fin : ((((ov.setb (newN (ov.ap base)) (some (.lop k tm 0))).setbs (callUb cbl cbl2)).setb (newN (ov.ap base)) none).ap base) = (((ov.ap base).setb (newN (ov.ap base)) (some (.lop k tm 0))).setbs (callUb cbl cbl2)).setb (newN (ov.ap base)) none := by
    show (((ov.setb (newN (ov.ap base)) (some (.lop k tm 0))).setbs (callUb cbl cbl2)).ap base).setb _ none = _
    rw [setbs_ap]; rfl
  refine AW.range (f := f) (fn := fn) (cap := cap) (cs := cs) (nw := nws (newN ((ov.setb (newN (ov.ap base)) (some (.lop k tm 0))).ap base))) hg (fun p hp => ?_) hk ⟨fun hh => Nat.lt_irrefl _ (nb.2 _ hh), nb.1⟩ hfn hnm hbd (fun n hn => ?_) (fun p hp => ?_) hok hsp hj h0 (fun e => ?_) (fun e => ?_) (fun id e => ?_)
  · obtain ⟨t, ht, e⟩ := mapO_mem htm p hp
    split at e <;> cases e
    assumption
  · obtain ⟨n1, n2⟩ := mem_nws.1 hn
    exact ⟨fun hh => by have := nm.2 n hh; omega, by have := nm.1; omega⟩
  · obtain ⟨b, hb, e⟩ := mapO_mem hcb p hp
    unfold blOf at e
    split at e <;> cases e
    assumption
  · refine ⟨_, fin.symm, ?_⟩
    rw [e] at he0
    cases e0 <;> simp only [codeE] at he0 <;> first | omega | exact hK
  · refine ⟨_, fin.symm, ?_⟩
    rw [e] at he0
    cases e0 <;> simp only [codeE] at he0 <;> first | omega | exact hK
  · refine ⟨_, fin.symm, ?_⟩
    rw [e] at he0
    cases e0 <;> simp only [codeE] at he0 <;> (try omega)
    rename_i id'
    have : id = id' := by omega
    rw [this]; exact hK
def labsU {α β : Type} (f : α → List β) : List α → List β
  | [] => []
  | a :: r => f a ++ labsU f r
/-- The labels that are told of ranges, and their code. -/
noncomputable def labs (n : Nat) : Code → Ann → List (LI × LI)
  | .seq x y, an => match an with
    | .j _ _ _ a b => labs n x a ++ labs n y b
    | an => labs n x an.fst ++ labs n y an.snd
  | .cond _ x y, an => labs n x an.fst ++ labs n y an.snd
  | .block _ x, an => labs n x an.fst
  | .scope x, an => labs n x an.fst
  | .loop x, an => match an with
    | .l _ _ _ _ a => labs n x a
    | .u rs => labsU (labs n x) rs
    | _ => []
  | .rangeFunc _ ps x y, an => match an with
    | .r k _ _ _ => [(lt k, ⟨ps.toList, x, y, n⟩)]
    | _ => []
  | _, _ => []
def Labs (n : Nat) (c : Code) (an : Ann) : Prop := ∀ p ∈ labs n c an, p.1 = p.2
theorem Labs.of {n : Nat} {c : Code} {an : Ann} (h : (labs n c an).map (·.1) = (labs n c an).map (·.2)) : Labs n c an := by
  have : ∀ {l : List (LI × LI)}, l.map (·.1) = l.map (·.2) → ∀ p ∈ l, p.1 = p.2 := by
    intro l
    induction l with
    | nil => intro _ p hp; cases hp
    | cons q l ih =>
      intro h p hp
      simp only [List.map_cons, List.cons.injEq] at h
      rcases List.mem_cons.1 hp with rfl | hp
      · exact h.1
      · exact ih h.2 p hp
  exact this h
/-- Rounds told one by one. -/
def unr {R : Type} (f : Ann → St → (Exit → St → Option R) → Option R) : List Ann → St → (Exit → St → Option R) → Option R
  | [], _, _ => none
  | a :: r, ov, K => f a ov fun e ov' => match e with | .normal => unr f r ov' K | e => K e ov'
/-- A region. -/
noncomputable def regX {R : Type} (P : Program) (N : Nat) (Γ : List (Ctr P)) (qt : Bool) (ops : Array Oper) (dr : Bool) (ov base : St) (K : Exit → St → Option R) : Option R :=
  runX P N Γ qt ops dr base (newN (ov.ap base)) (fun acc ov' => match dr with
    | false => K .normal ov'
    | true => match exPairs ops acc.reverse with
      | [] => (match drawOk P ops (newN (ov.ap base)) acc.reverse [] with | true => K .normal ov' | false => none)
      | XS => match drawOk P ops (newN (ov.ap base)) acc.reverse XS, altAll P ops (newN (ov.ap base)) (ov.ap base) acc.reverse XS with
        | true, some c => ask c.p (K .normal ov')
        | _, _ => none) 0 ops.toList ov []
theorem regX_ok {R : Type} {ρ : Option Nat} {P : Program} {N : Nat} {Γ : List (Ctr P)} {qt : Bool} {id : Nat} {ops : Array Oper} {dr : Bool} {ov base : St} {K : Exit → St → Option R} {r : R} {Q : Exit → St → Prop} (h : regX P N Γ qt ops dr ov base K = some r) (hK : ∀ e ov', K e ov' = some r → Q e (ov'.ap base)) : AW ρ P N (.region id ops dr) (ov.ap base) Q := by
  unfold regX at h
  obtain ⟨tr, ov', h1, h2⟩ := runX_ok h
  cases dr with
  | false => exact .good h2 (hK _ _ h1)
  | true =>
    simp only [List.append_nil, List.reverse_reverse] at h1
    split at h1
    · split at h1 <;> (try cases h1)
      rename_i hd
      exact .drawn h2 hd (fun q hq => by cases hq) (hK _ _ h1)
    · split at h1 <;> (try cases h1)
      rename_i c hd hal
      obtain ⟨hc, h1⟩ := ask_some.1 h1
      exact .drawn h2 hd (altAll_ok hal hc) (hK _ _ h1)
/-- The code, executed: what it comes to is a function of the data. -/
noncomputable def ex (P : Program) (N : Nat) (n : Nat) (Γ : List (Ctr P)) (top : Bool) : Code → Ann → {R : Type} → St → St → (Exit → St → Option R) → Option R
  | .label _, _, _, ov, _, K => K .normal ov
  | .scope x, an, _, ov, base, K => ex P N n Γ top x an.fst ov base fun e ov' => match isGoto e with | false => K e ov' | true => none
  | .rangeFunc g _ _ _, an, _, ov, base, K => match top, an with
    | true, .r k ts cs xs => rangeX P Γ g k ts cs xs ov base K
    | _, _ => none
  | .skip, _, _, ov, _, K => K .normal ov
  | .ret, _, _, ov, _, K => K .ret ov
  | .exit id, _, _, ov, _, K => K (.exit id) ov
  | .region _ ops dr, an, _, ov, base, K => match an with
    | .z vw => match disN (keyN base.blk) vw with
      | true => regX P N Γ false ops dr (frzO vw ov base) base K
      | false => none
    | .q vw => match disN (keyN base.blk) vw with
      | true => regX P N Γ true ops dr (frzO vw ov base) base K
      | false => none
    | _ => regX P N Γ false ops dr ov base K
  | .seq x y, an, _, ov, base, K => match an with
    | .j ks bs alts a b => (ex P N n Γ top x a (ov.sel ks bs) ((ov.rest ks bs).ap base) fun e ov' => toAlt alts e ov' ((ov.rest ks bs).ap base)).bind fun d =>
      fromAlt (fun e ov' => match e with | .normal => ex P N n Γ top y b ov' base K | e => K e ov') (ov.rest ks bs) alts d
    | an => ex P N n Γ top x an.fst ov base fun e ov' => match e with | .normal => ex P N n Γ top y an.snd ov' base K | e => K e ov'
  | .cond c x y, an, _, ov, base, K => match c with
    | .tmp t => match sv ((ov.ap base).e t) with
      | some (.bool b) => cond b (ex P N n Γ top x an.fst ov base K) (ex P N n Γ top y an.snd ov base K)
      | _ => none
    | _ => none
  | .block id x, an, _, ov, base, K => ex P N n Γ top x an.fst ov base fun e ov' => match e with
    | .exit id' => match Nat.beq id' id with | true => K .normal ov' | false => K (.exit id') ov'
    | e => K e ov'
  | .loop x, an, _, ov, base, K => match an with
    | .l ks bs T alts a => match tell T (ov.sel ks bs) ((ov.rest ks bs).ap base) () with
      | some d => (iter (fun self d => ex P N n Γ top x a (T.mk' d) ((ov.rest ks bs).ap base) fun e ov' => match e with
          | .normal => match tell T ov' ((ov.rest ks bs).ap base) () with | some d' => self d' | none => none
          | e => toAlt alts e ov' ((ov.rest ks bs).ap base)) n d).bind fun d => fromAlt K (ov.rest ks bs) alts d
      | none => none
    | .u rs => unr (fun a ov K => ex P N n Γ top x a ov base K) rs ov K
    | _ => none
  | _, _, _, _, _, _ => none
section
variable {ρ : Option Nat} {P : Program} {N : Nat} {st : St}
theorem AW.post_sub {c : Code} {Q : Exit → St → Prop} (h : AW ρ P N c st fun e s => ∃ s', Sub s s' ∧ Q e s') : AW ρ P N c st Q := fun E m a w hN ho => wpIn_mono (h E m a w hN ho) fun e a' w' ⟨s, m', ⟨s', hs, q⟩, o⟩ => by
  obtain ⟨m2, o2⟩ := hs E m' a' w' o
  exact ⟨s', m2, q, o2⟩
theorem ex_ok {n : Nat} {Γ : List (Ctr P)} {top : Bool} (ht : top = true → ρ = none) : ∀ {c : Code} {an : Ann} {R : Type} {ov base : St} {K : Exit → St → Option R} {r : R} {Q : Exit → St → Prop}, Labs N c an → ex P N n Γ top c an ov base K = some r → (∀ e ov', K e ov' = some r → Q e (ov'.ap base)) → AW ρ P N c (ov.ap base) Q
  | .skip, an, R, ov, base, K, r, Q, hl, h, hK => by
    simp only [ex] at h
    exact .skip (hK _ _ h)
  | .ret, an, R, ov, base, K, r, Q, hl, h, hK => by
    simp only [ex] at h
    exact .ret (hK _ _ h)
  | .exit id, an, R, ov, base, K, r, Q, hl, h, hK => by
    simp only [ex] at h
    exact .exit (hK _ _ h)
  | .region id ops dr, an, R, ov, base, K, r, Q, hl, h, hK => by
    simp only [ex] at h
    split at h
    · split at h <;> (try cases h)
      rename_i hd
      exact AW.sub (frzO_sub hd) (regX_ok h hK)
    · rename_i vw
      split at h <;> (try cases h)
      rename_i hd
      exact AW.sub (frzO_sub hd) (regX_ok h hK)
    · exact regX_ok h hK
  | .seq x y, an, R, ov, base, K, r, Q, hl, h, hK => by
    simp only [ex] at h
    split at h
    · rename_i ks bs alts a b
      rw [Option.bind_eq_some_iff] at h
      obtain ⟨d, h1, h2⟩ := h
      refine AW.sub (split_sub ov base ks bs) (.seq (AW.post_sub (ex_ok ht (fun p hp => hl p (by simp only [labs]; exact List.mem_append_left _ hp)) h1 fun e ov' he => ?_)))
      obtain ⟨s, hs, hk⟩ := alt_ok he h2
      rw [ap_assoc s] at hs
      refine ⟨_, hs, ?_⟩
      cases e
      case normal => exact ex_ok ht (fun p hp => hl p (by simp only [labs]; exact List.mem_append_right _ hp)) hk hK
      all_goals exact hK _ _ hk
    · rename_i hnj
      have hla : labs N (.seq x y) an = labs N x an.fst ++ labs N y an.snd := by
        cases an <;> first | rfl | exact absurd rfl (hnj _ _ _ _ _)
      refine .seq (ex_ok ht (fun p hp => hl p (by rw [hla]; exact List.mem_append_left _ hp)) h fun e ov' he => ?_)
      cases e
      case normal => exact ex_ok ht (fun p hp => hl p (by rw [hla]; exact List.mem_append_right _ hp)) he hK
      all_goals exact hK _ _ he
  | .cond c x y, an, R, ov, base, K, r, Q, hl, h, hK => by
    simp only [ex] at h
    split at h <;> (try cases h)
    rename_i t
    split at h <;> (try cases h)
    rename_i b hb
    have hv : (ov.ap base).e t = some (V (.bool b)) := by
      unfold sv at hb
      split at hb <;> simp_all
    refine .cond rfl hv (fun e => ?_) (fun e => ?_)
    · subst e; exact ex_ok ht (fun p hp => hl p (by simp only [labs]; exact List.mem_append_left _ hp)) h hK
    · subst e; exact ex_ok ht (fun p hp => hl p (by simp only [labs]; exact List.mem_append_right _ hp)) h hK
  | .block id x, an, R, ov, base, K, r, Q, hl, h, hK => by
    simp only [ex] at h
    refine .block (ex_ok ht (fun p hp => hl p (by simp only [labs]; exact hp)) h fun e ov' he => ?_)
    cases e
    case exit id' =>
      simp only at he
      simp only [Bl]
      split at he
      · rename_i hi; rw [hi]; exact hK _ _ he
      · rename_i hi; rw [hi]; exact hK _ _ he
    all_goals exact hK _ _ he
  | .loop x, an, R, ov, base, K, r, Q, hl, h, hK => by
    simp only [ex] at h
    split at h <;> (try cases h)
    rotate_left
    · rename_i rs
      have hl : ∀ p ∈ labsU (labs N x) rs, p.1 = p.2 := fun p hp => hl p (by simp only [labs]; exact hp)
      refine .loop (fun k s => ∃ rs ov, rs.length = k ∧ s = ov.ap base ∧ (∀ p ∈ labsU (labs N x) rs, p.1 = p.2) ∧ unr (fun a ov K => ex P N n Γ top x a ov base K) rs ov K = some r) (fun k s ⟨rs, ov, hk, hs, hl, h⟩ => ?_) rs.length ⟨rs, ov, rfl, rfl, hl, h⟩
      subst hs
      cases rs with
      | nil => cases h
      | cons a rs =>
        simp only [unr] at h
        refine ex_ok ht (fun p hp => hl p (by simp only [labsU]; exact List.mem_append_left _ hp)) h fun e ov' he => ?_
        cases e
        case normal => exact ⟨rs.length, by rw [← hk]; exact Nat.lt_succ_self _, rs, ov', rfl, rfl, fun p hp => hl p (by simp only [labsU]; exact List.mem_append_right _ hp), he⟩
        all_goals exact hK _ _ he
    rename_i ks bs T alts a
    split at h <;> (try cases h)
    rename_i d hd
    rw [Option.bind_eq_some_iff] at h
    obtain ⟨r1, h1, h2⟩ := h
    generalize hF : (fun (self : T.D Unit → Option (AltD alts)) (d : T.D Unit) => ex P N n Γ top x a (T.mk' d) ((ov.rest ks bs).ap base) fun e ov' => match e with
          | .normal => match tell T ov' ((ov.rest ks bs).ap base) () with | some d' => self d' | none => none
          | e => toAlt alts e ov' ((ov.rest ks bs).ap base)) = F at h1
    refine AW.sub ((split_sub ov base ks bs).trans (tell_sub hd)) (AW.post_sub (.loop (fun k s => ∃ d, s = (T.mk' d).ap ((ov.rest ks bs).ap base) ∧ iter F k d = some r1) (fun k s ⟨d, hs, hi⟩ => ?_) n ⟨d, rfl, h1⟩))
    subst hs
    cases k with
    | zero => cases hi
    | succ k =>
      have hi : F (iter F k) d = some r1 := hi
      rw [← congrFun (congrFun hF (iter F k)) d] at hi
      refine AW.post_sub (ex_ok ht (fun p hp => hl p (by simp only [labs]; exact hp)) hi fun e ov' he => ?_)
      cases e
      case normal =>
        simp only at he
        split at he <;> (try cases he)
        rename_i d' hd'
        exact ⟨_, tell_sub hd', k, Nat.lt_succ_self k, d', rfl, he⟩
      all_goals
        obtain ⟨s, hs, hk⟩ := alt_ok he h2
        rw [ap_assoc s] at hs
        exact ⟨_, .refl _, _, hs, hK _ _ hk⟩
  | .rangeFunc g ps x y, an, R, ov, base, K, r, Q, hl, h, hK => by
    simp only [ex] at h
    split at h <;> (try cases h)
    rename_i k ts cs xs
    rw [ht rfl]
    have hmem : (lt k, (⟨ps.toList, x, y, N⟩ : LI)) ∈ labs N (.rangeFunc g ps x y) (.r k ts cs xs) := by
      simp only [labs]
      exact List.mem_cons_self
    have hq := hl _ hmem
    dsimp only at hq
    exact AW.mono (rangeX_ok hq h) fun e s ⟨ov', hs, hk⟩ => hs ▸ hK _ _ hk
  | .scope x, an, R, ov, base, K, r, Q, hl, h, hK => by
    simp only [ex] at h
    have := ex_ok (Q := fun e s => isGoto e = false ∧ Q e s) ht (fun p hp => hl p (by simp only [labs]; exact hp)) h fun e ov' he => by
      split at he <;> (try cases he)
      rename_i hg
      exact ⟨hg, hK _ _ he⟩
    exact fun E m a w hN ho => wpIn_scope (wpIn_mono (this E m a w hN ho) fun e a' w' ⟨s, m', ⟨hg, q⟩, o⟩ => ⟨hg, s, m', q, o⟩)
  | .label _, an, R, ov, base, K, r, Q, hl, h, hK => by
    simp only [ex] at h
    exact fun E m a w hN ho => wpIn_label ⟨_, m, hK _ _ h, ho⟩
  | .goto .., an, R, ov, base, K, r, Q, hl, h, hK => by simp [ex] at h
  | .refuse .., an, R, ov, base, K, r, Q, hl, h, hK => by simp [ex] at h
end
end Go.Proofs.Ytfjdhdmbbfeigaa.Am
