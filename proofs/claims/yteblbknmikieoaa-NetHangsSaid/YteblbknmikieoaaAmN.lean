/- States told in another way: less, by other names, own slices as slices that are read, nil slices as own ones. -/
import Derived.Test.YteblbknmikieoaaAmM
namespace Go.Proofs.Yteblbknmikieoaa.Am
set_option linter.unusedVariables false
set_option linter.unusedSimpArgs false
/-- What is as one state says is as the other one says. -/
def Sub (st st' : St) : Prop := ∀ (E : Ent) (m : Mp) (a : Act) (w : World), OK E st m a w → ∃ m', OK E st' m' a w
theorem Sub.refl (st : St) : Sub st st := fun E m a w h => ⟨m, h⟩
theorem Sub.trans {a b c : St} (h : Sub a b) (k : Sub b c) : Sub a c := fun E m ac w o => by
  obtain ⟨m', o'⟩ := h E m ac w o
  exact k E m' ac w o'
theorem AW.sub {P : Program} {N : Nat} {c : Code} {st st' : St} {Q : Exit → St → Prop} (hs : Sub st st') (h : AW P N c st' Q) : AW P N c st Q := fun E m a w hN ho => by
  obtain ⟨m', o'⟩ := hs E m a w ho
  exact h E m' a w hN o'
/-- Names told anew. -/
def reL (mp : List (Nat × Nat)) : List Nat → Option (List Nat)
  | [] => some []
  | b :: r => match lk mp b, reL mp r with | some c, some l => some (c :: l) | _, _ => none
def reCap (mp : List (Nat × Nat)) : List (Nat × Nat) → Option (List (Nat × Nat))
  | [] => some []
  | (b, o) :: r => match lk mp b, reCap mp r with | some c, some l => some ((c, o) :: l) | _, _ => none
def reSV (mp : List (Nat × Nat)) : SV → Option SV
  | .own b sz => match lk mp b with | some c => some (.own c sz) | none => none
  | .sub b sz off len => match lk mp b with | some c => some (.sub c sz off len) | none => none
  | .ptr b off => match lk mp b with | some c => some (.ptr c off) | none => none
  | .ep b sz i fo => match lk mp b with | some c => some (.ep c sz i fo) | none => none
  | .map b => match lk mp b with | some c => some (.map c) | none => none
  | .fn f cap => match reCap mp cap with | some l => some (.fn f l) | none => none
  | x => some x
def reCV (mp : List (Nat × Nat)) (x : CV) : Option CV := match mapO (reSV mp) x.l with | some l => some ⟨x.g, l⟩ | none => none
def reAV (mp : List (Nat × Nat)) : AV → Option AV
  | .c x => match reCV mp x with | some y => some (.c y) | none => none
  | .t xs => match mapO (reCV mp) xs with | some ys => some (.t ys) | none => none
def reBlk (mp : List (Nat × Nat)) : Blk → Option Blk
  | .row ty t l => some (.row ty t l)
  | .var ty cs => match mapO (reSV mp) cs with | some l => some (.var ty l) | none => none
  | .map a b c d l => some (.map a b c d l)
  | .tab l => match mapO (fun p => match reSV mp p.1, reCV mp p.2 with | some x, some y => some (x, y) | _, _ => none) l with | some r => some (.tab r) | none => none
/-- The map of names behind: a new name lies where the old one lay. -/
def inv (mp : List (Nat × Nat)) : List (Nat × Nat) := mp.map fun p => (p.2, p.1)
def Mp.re (m : Mp) (mp : List (Nat × Nat)) : Mp :=
  let o := fun c => (lk (inv mp) c).getD c
  { m with mu := fun c => m.mu (o c), ka := fun c => m.ka (o c), le := fun c => m.le (o c), nl := fun c => m.nl (o c) }
/-- Old names, and new ones, are all unlike. -/
def mpOk (mp : List (Nat × Nat)) : Bool := nodupN (mp.map (·.1)) && (nodupN (mp.map (·.2)) && mp.all fun p => Nat.beq p.1 p.2 || Nat.ble 100 p.2)
theorem re_at {mp : List (Nat × Nat)} (hok : mpOk mp = true) {b c : Nat} (h : lk mp b = some c) (m : Mp) : (m.re mp).mu c = m.mu b ∧ (m.re mp).ka c = m.ka b ∧ (m.re mp).le c = m.le b ∧ (m.re mp).nl c = m.nl b := by
  simp only [mpOk, Bool.and_eq_true] at hok
  have hm : (c, b) ∈ inv mp := List.mem_map.2 ⟨(b, c), lk_mem h, rfl⟩
  have hk : nodupN ((inv mp).map (·.1)) = true := by
    have : (inv mp).map (·.1) = mp.map (·.2) := by simp [inv]
    rw [this]; exact hok.2.1
  have := lk_of_mem hk hm
  simp [Mp.re, this]
section
variable {mp : List (Nat × Nat)} (hok : mpOk mp = true) {w : World} {m : Mp}
include hok
theorem reCap_eq : ∀ {cap l : List (Nat × Nat)}, reCap mp cap = some l → (l.map fun p => Value.pointer (some ⟨(m.re mp).mu p.1, p.2, none⟩)) = cap.map fun p => Value.pointer (some ⟨m.mu p.1, p.2, none⟩)
  | [], l, h => by cases h; rfl
  | (b, o) :: r, l, h => by
    simp only [reCap] at h
    split at h <;> cases h
    rename_i c l' h1 h2
    simp only [List.map_cons, (re_at hok h1 m).1, reCap_eq h2]
theorem reSV_R {x y : SV} {v : Value} (h : reSV mp x = some y) (hr : x.R w m v) : y.R w (m.re mp) v := by
  cases x <;> simp only [reSV] at h
  case own b sz => split at h <;> cases h; rename_i c hc; have := re_at hok hc m; simp only [SV.R, this.1, this.2.1, this.2.2.1, this.2.2.2]; exact hr
  case sub b sz off len => split at h <;> cases h; rename_i c hc; have := re_at hok hc m; simp only [SV.R, this.1, this.2.1, this.2.2.1, this.2.2.2]; exact hr
  case ptr b off => split at h <;> cases h; rename_i c hc; have := re_at hok hc m; simp only [SV.R, this.1]; exact hr
  case ep b sz i fo => split at h <;> cases h; rename_i c hc; have := re_at hok hc m; simp only [SV.R, this.1, this.2.2.1]; exact hr
  case map b => split at h <;> cases h; rename_i c hc; have := re_at hok hc m; simp only [SV.R, this.1]; exact hr
  case fn f cap => split at h <;> cases h; rename_i l hl; simp only [SV.R, reCap_eq hok hl]; exact hr
  all_goals (cases h; exact hr)
theorem reL_R {l l' : List SV} {vs : List Value} (h : mapO (reSV mp) l = some l') (hr : F2 (SV.R w m) l vs) : F2 (SV.R w (m.re mp)) l' vs := by
  induction l generalizing l' vs with
  | nil =>
    cases h
    match vs, hr with
    | [], _ => trivial
  | cons x l ih =>
    simp only [mapO] at h
    split at h <;> cases h
    rename_i y l'' h1 h2
    match vs, hr with
    | v :: vs, hr => exact ⟨reSV_R hok h1 hr.1, ih h2 hr.2⟩
theorem reCV_R {x y : CV} {v : Value} (h : reCV mp x = some y) (hr : x.R w m v) : y.R w (m.re mp) v := by
  obtain ⟨g, l⟩ := x
  unfold reCV at h
  split at h <;> cases h
  rename_i l' hl
  cases g with
  | true =>
    simp only [CV.R] at hr
    obtain ⟨vs, rfl, hf⟩ := hr
    exact CV.R_agg (reL_R hok hl hf)
  | false =>
    simp only [CV.R] at hr
    obtain ⟨z, rfl, hz⟩ := hr
    simp only [mapO] at hl
    split at hl <;> cases hl
    rename_i y' l'' h1 h2
    cases h2
    exact CV.R_one (reSV_R hok h1 hz)
theorem reAV_R {x y : AV} {v : Value} (h : reAV mp x = some y) (hr : x.R w m v) : y.R w (m.re mp) v := by
  cases x with
  | c x =>
    simp only [reAV] at h
    split at h <;> cases h
    rename_i y hy
    exact reCV_R hok hy hr
  | t xs =>
    simp only [reAV] at h
    split at h <;> cases h
    rename_i ys hy
    obtain ⟨vs, e, hf⟩ := hr
    refine ⟨vs, e, ?_⟩
    have : ∀ {l : List CV} {l' : List CV} {vs : List Value}, mapO (reCV mp) l = some l' → F2 (CV.R w m) l vs → F2 (CV.R w (m.re mp)) l' vs := by
      intro l
      induction l with
      | nil =>
        intro l' vs h hr
        cases h
        match vs, hr with
        | [], _ => trivial
      | cons x l ih =>
        intro l' vs h hr
        simp only [mapO] at h
        split at h <;> cases h
        rename_i y l'' h1 h2
        match vs, hr with
        | v :: vs, hr => exact ⟨reCV_R hok h1 hr.1, ih h2 hr.2⟩
    exact this hy hf
theorem reBlk_R {B C : Blk} {b c : Nat} (h : reBlk mp B = some C) (hb : lk mp b = some c) (hr : B.R w m b) : C.R w (m.re mp) c := by
  have ha := re_at hok hb m
  cases B <;> simp only [reBlk] at h
  case row ty t l => cases h; simp only [Blk.R] at hr ⊢; rw [ha.1, ha.2.1, ha.2.2.1, ha.2.2.2]; exact hr
  case map => cases h; simp only [Blk.R] at hr ⊢; rw [ha.1, ha.2.2.2]; exact hr
  case var ty cs =>
    split at h <;> cases h
    rename_i l hl
    simp only [Blk.R] at hr ⊢
    rw [ha.1, ha.2.1, ha.2.2.2]
    obtain ⟨h0, cells, h1, h2, h3⟩ := hr
    exact ⟨h0, cells, h1, h2, reL_R hok hl h3⟩
  case tab l =>
    split at h <;> cases h
    rename_i l' hl
    simp only [Blk.R] at hr ⊢
    rw [ha.1, ha.2.2.2]
    obtain ⟨h0, es, cl, h1, h2⟩ := hr
    refine ⟨h0, es, cl, h1, ?_⟩
    have : ∀ {l l' : List (SV × CV)} {es : List MapEntry}, mapO (fun p => match reSV mp p.1, reCV mp p.2 with | some x, some y => some (x, y) | _, _ => none) l = some l' → F2 (fun (p : SV × CV) (e : MapEntry) => p.1.R w m e.key ∧ p.2.R w m e.val) l es → F2 (fun (p : SV × CV) (e : MapEntry) => p.1.R w (m.re mp) e.key ∧ p.2.R w (m.re mp) e.val) l' es := by
      intro l
      induction l with
      | nil =>
        intro l' es h hr
        cases h
        match es, hr with
        | [], _ => trivial
      | cons x l ih =>
        intro l' es h hr
        simp only [mapO] at h
        split at h <;> cases h
        rename_i y l'' h1 h2
        split at h1 <;> cases h1
        rename_i x' y' h3 h4
        match es, hr with
        | e :: es, hr => exact ⟨⟨reSV_R hok h3 hr.1.1, reCV_R hok h4 hr.1.2⟩, ih h2 hr.2⟩
    exact this hl h2
end
/-- The temporaries, and the blocks, that are kept, under other names. -/
def pull (ts : List Nat) (mp : List (Nat × Nat)) (st : St) : Option St :=
  match mpOk mp, mapO (fun t => match st.e t with | some v => (match reAV mp v with | some u => some (t, u) | none => none) | none => none) ts, mapO (fun p => match st.b p.1 with | some B => (match reBlk mp B with | some C => some (p.2, some C) | none => none) | none => none) mp with
  | true, some e, some b => some ⟨e, b⟩
  | _, _, _ => none
theorem mapO_lk {α : Type} {l : List Nat} {f : Nat → Option (Nat × α)} (hf : ∀ t p, f t = some p → p.1 = t) : ∀ {r : List (Nat × α)} {t : Nat} {x : α}, mapO f l = some r → lk r t = some x → f t = some (t, x) := by
  induction l with
  | nil => intro r t x h1 h2; cases h1; cases h2
  | cons n l ih =>
    intro r t x h1 h2
    simp only [mapO] at h1
    split at h1 <;> cases h1
    rename_i p l' h3 h4
    obtain ⟨q, y⟩ := p
    have := hf n _ h3
    simp only at this
    subst this
    rw [lk_cons] at h2
    split at h2
    · rename_i e; subst e; cases h2; exact h3
    · exact ih h4 h2
theorem pull_sub {ts : List Nat} {mp : List (Nat × Nat)} {st st' : St} (h : pull ts mp st = some st') : Sub st st' := by
  intro E m a w ok
  unfold pull at h
  split at h <;> cases h
  rename_i e b hok he hb
  have blks : ∀ c C, (lk b c).join = some C → ∃ p B, p ∈ mp ∧ p.2 = c ∧ st.b p.1 = some B ∧ reBlk mp B = some C := fun c C hC => by
    cases hl : lk b c with
    | none => rw [hl] at hC; cases hC
    | some x =>
      rw [hl] at hC
      simp only [Option.join_some] at hC
      subst hC
      obtain ⟨p, hp, e⟩ := mapO_mem hb _ (lk_mem hl)
      split at e <;> (try cases e)
      rename_i B hB
      split at e <;> cases e
      rename_i hr
      exact ⟨p, B, hp, rfl, hB, hr⟩
  have hok' := hok
  simp only [mpOk, Bool.and_eq_true] at hok'
  -- a pair of the map is what the map says: new names are unlike, so the old ones are told by them
  have inv_of : ∀ p ∈ mp, (lk (inv mp) p.2) = some p.1 := fun p hp => lk_of_mem (by
    have : (inv mp).map (·.1) = mp.map (·.2) := by simp [inv]
    rw [this]; exact hok'.2.1) (List.mem_map.2 ⟨p, hp, rfl⟩)
  have at_ : ∀ p ∈ mp, (m.re mp).mu p.2 = m.mu p.1 ∧ (m.re mp).ka p.2 = m.ka p.1 ∧ (m.re mp).le p.2 = m.le p.1 ∧ (m.re mp).nl p.2 = m.nl p.1 := fun p hp => by
    have := inv_of p hp
    simp [Mp.re, this]
  refine ⟨m.re mp, ok.defers, ok.tmps, fun t v hv => ?_, fun c C hC => ?_, fun c C hC hn => ?_, fun c d C D hC hD hn hn' hmu => ?_, ok.lt, ok.le, ok.frame, ok.sup, ok.new, fun c hc => ?_, ok.io⟩
  · have := mapO_lk (f := fun t => match st.e t with | some v => (match reAV mp v with | some u => some (t, u) | none => none) | none => none) (fun t p hp => by
      split at hp <;> (try cases hp)
      split at hp <;> cases hp
      rfl) he hv
    split at this <;> (try cases this)
    rename_i u hu
    split at this <;> cases this
    rename_i hr
    exact reAV_R hok hr (ok.env t u hu)
  · obtain ⟨p, B, hp, rfl, hB, hr⟩ := blks c C hC
    have ha := at_ p hp
    exact reBlk_R hok hr (lk_of_mem hok'.1 hp) (ok.blk _ _ hB)
  · obtain ⟨p, B, hp, rfl, hB, hr⟩ := blks c C hC
    have ha := at_ p hp
    rw [ha.2.2.2] at hn
    rw [ha.1]
    exact ok.own _ _ hB hn
  · obtain ⟨p, B, hp, rfl, hB, -⟩ := blks c C hC
    obtain ⟨q, B', hq, rfl, hB', -⟩ := blks d D hD
    have ha := at_ p hp
    have hb := at_ q hq
    rw [ha.2.2.2] at hn
    rw [hb.2.2.2] at hn'
    rw [ha.1, hb.1] at hmu
    have e := ok.inj _ _ _ _ hB hB' hn hn' hmu
    have i1 : lk mp p.1 = some p.2 := lk_of_mem hok'.1 hp
    have i2 : lk mp q.1 = some q.2 := lk_of_mem hok'.1 hq
    rw [e, i2] at i1
    exact (Option.some.inj i1).symm
  · rw [← ok.fix c hc]
    by_cases hm : ∃ p ∈ mp, p.2 = c
    · obtain ⟨p, hp, rfl⟩ := hm
      have ha := at_ p hp
      have := List.all_eq_true.1 hok'.2.2 p hp
      simp only [Bool.or_eq_true] at this
      have hpe : p.1 = p.2 := by
        rcases this with h | h
        · exact Nat.eq_of_beq_eq_true h
        · have := Nat.le_of_ble_eq_true h; omega
      simp only [Mp.at_, ha.1, ha.2.1, ha.2.2.1, ha.2.2.2, hpe]
    · have : lk (inv mp) c = none := by
        cases h : lk (inv mp) c with
        | none => rfl
        | some x =>
          obtain ⟨p, hp, e⟩ := List.mem_map.1 (lk_mem h)
          cases e
          exact absurd ⟨p, hp, rfl⟩ hm
      simp [Mp.at_, Mp.re, this]
end Go.Proofs.Yteblbknmikieoaa.Am
