/- Templates: what of a state is told ahead; the rest is data. -/
import Derived.Test.YtfjdhdmbbfeigaaAmQ
namespace Go.Proofs.Ytfjdhdmbbfeigaa.Am
set_option linter.unusedVariables false
set_option linter.unusedSimpArgs false
/-- Names go over into names. -/
structure Tl (m m' : Mp) (mp : List (Nat × Nat)) (nls : List Nat) : Prop where
  sup : ∀ k, m.S k → m'.S k
  at_ : ∀ b c, lk mp b = some c → m'.mu c = m.mu b ∧ m'.ka c = m.ka b ∧ m'.le c = m.le b ∧ m'.nl c = m.nl b
  nil : ∀ c ∈ nls, m'.nl c = true ∧ m'.le c = 0
theorem still_refl {S : Nat → Prop} {w : World} : Still S w w := fun _ _ => rfl
section
variable {mp : List (Nat × Nat)} {nls : List Nat} {w : World} {m m' : Mp} (T : Tl m m' mp nls)
include T
theorem reCap_T : ∀ {cap l : List (Nat × Nat)}, reCap mp cap = some l → (l.map fun p => Value.pointer (some ⟨m'.mu p.1, p.2, none⟩)) = cap.map fun p => Value.pointer (some ⟨m.mu p.1, p.2, none⟩)
  | [], l, h => by cases h; rfl
  | (b, o) :: r, l, h => by
    simp only [reCap] at h
    split at h <;> cases h
    rename_i c l' h1 h2
    simp only [List.map_cons, (T.at_ _ _ h1).1, reCap_T h2]
theorem reSV_T {x y : SV} {v : Value} (h : reSV mp x = some y) (hr : x.R w m v) : y.R w m' v := by
  cases x <;> simp only [reSV] at h
  case own b sz => split at h <;> cases h; rename_i c hc; have := T.at_ _ _ hc; simp only [SV.R, this.1, this.2.1, this.2.2.1, this.2.2.2]; exact hr
  case sub b sz off len => split at h <;> cases h; rename_i c hc; have := T.at_ _ _ hc; simp only [SV.R, this.1, this.2.1, this.2.2.1, this.2.2.2]; exact hr
  case ptr b off => split at h <;> cases h; rename_i c hc; have := T.at_ _ _ hc; simp only [SV.R, this.1]; exact hr
  case ep b sz i fo => split at h <;> cases h; rename_i c hc; have := T.at_ _ _ hc; simp only [SV.R, this.1, this.2.2.1]; exact hr
  case map b => split at h <;> cases h; rename_i c hc; have := T.at_ _ _ hc; simp only [SV.R, this.1]; exact hr
  case fn f cap => split at h <;> cases h; rename_i l hl; simp only [SV.R, reCap_T T hl]; exact hr
  case bm f b o => split at h <;> cases h; rename_i c hc; have := T.at_ _ _ hc; simp only [SV.R, this.1]; exact hr
  case yld b cap => split at h <;> cases h; rename_i c l hc hl; have := T.at_ _ _ hc; simp only [SV.R, this.1]; exact hr
  case row t l => cases h; obtain ⟨A, c, e, hr⟩ := hr; exact ⟨A, c, e, hr.still still_refl T.sup fun _ _ hk => Ty.K_still still_refl T.sup t hk⟩
  case rp t l i fo => cases h; obtain ⟨h0, h1, A, c, e, hr⟩ := hr; exact ⟨h0, h1, A, c, e, hr.still still_refl T.sup fun _ _ hk => Ty.K_still still_refl T.sup t hk⟩
  all_goals (cases h; exact hr)
end
/-- One cell's template. -/
inductive TS where
  | int (k : IntKind) | bool | str | row (t : Ty) | con (x : SV) | rp (t : Ty) (fo : Nat) | ep (b sz fo : Nat)
@[reducible] def TS.D : TS → Type → Type
  | .int _, X => Int × X
  | .bool, X => Bool × X
  | .str, X => ByteArray × X
  | .row t, X => List t.D × X
  | .con _, X => X
  | .rp t _, X => List t.D × Int × X
  | .ep _ _ _, X => Int × X
def TS.mk : (T : TS) → {X : Type} → T.D X → SV × X
  | .int k, _, d => (.int k d.1, d.2)
  | .bool, _, d => (.bool d.1, d.2)
  | .str, _, d => (.str d.1, d.2)
  | .row t, _, d => (.row t d.1, d.2)
  | .con x, _, d => (x, d)
  | .rp t fo, _, d => (.rp t d.1 d.2.1 fo, d.2.2)
  | .ep b sz fo, _, d => (.ep b sz d.1 fo, d.2)
def eqCap : List (Nat × Nat) → List (Nat × Nat) → Bool
  | [], [] => true
  | (a, b) :: r, (c, d) :: s => Nat.beq a c && (Nat.beq b d && eqCap r s)
  | _, _ => false
theorem eqCap_of : ∀ {l k : List (Nat × Nat)}, eqCap l k = true → l = k
  | [], [], _ => rfl
  | (a, b) :: r, (c, d) :: s, h => by
    simp only [eqCap, Bool.and_eq_true] at h
    rw [Nat.eq_of_beq_eq_true h.1, Nat.eq_of_beq_eq_true h.2.1, eqCap_of h.2.2]
  | [], _ :: _, h | _ :: _, [], h => by cases h
def eqNs : List Nat → List Nat → Bool
  | [], [] => true
  | a :: r, b :: s => Nat.beq a b && eqNs r s
  | _, _ => false
theorem eqNs_of : ∀ {l k : List Nat}, eqNs l k = true → l = k
  | [], [], _ => rfl
  | a :: r, b :: s, h => by
    simp only [eqNs, Bool.and_eq_true] at h
    rw [Nat.eq_of_beq_eq_true h.1, eqNs_of h.2]
  | [], _ :: _, h | _ :: _, [], h => by cases h
/-- Are two values that hold no data one? -/
def eqC : SV → SV → Bool
  | .nilsl, .nilsl | .nilptr, .nilptr | .nilmap, .nilmap | .nilfn, .nilfn => true
  | .own b s, .own c z => Nat.beq b c && Nat.beq s z
  | .sub b s o n, .sub c z o' n' => Nat.beq b c && (Nat.beq s z && (Nat.beq o o' && Nat.beq n n'))
  | .ptr b s, .ptr c z => Nat.beq b c && Nat.beq s z
  | .map b, .map c => Nat.beq b c
  | .fn f l, .fn g k => Nat.beq f g && eqCap l k
  | .yld b l, .yld c k => Nat.beq b c && eqNs l k
  | .bm f b o, .bm g c p => Nat.beq f g && (Nat.beq b c && Nat.beq o p)
  | _, _ => false
theorem eqC_of {x y : SV} (h : eqC x y = true) : x = y := by
  cases x <;> cases y <;> simp only [eqC, Bool.and_eq_true, Bool.false_eq_true] at h <;> (try rfl)
  · rw [Nat.eq_of_beq_eq_true h.1, Nat.eq_of_beq_eq_true h.2]
  · rw [Nat.eq_of_beq_eq_true h.1, Nat.eq_of_beq_eq_true h.2.1, Nat.eq_of_beq_eq_true h.2.2.1, Nat.eq_of_beq_eq_true h.2.2.2]
  · rw [Nat.eq_of_beq_eq_true h.1, Nat.eq_of_beq_eq_true h.2]
  · rw [Nat.eq_of_beq_eq_true h]
  · rw [Nat.eq_of_beq_eq_true h.1, eqCap_of h.2]
  · rw [Nat.eq_of_beq_eq_true h.1, eqNs_of h.2]
  · rw [Nat.eq_of_beq_eq_true h.1, Nat.eq_of_beq_eq_true h.2.1, Nat.eq_of_beq_eq_true h.2.2]
def conOk (mp : List (Nat × Nat)) (nls : List Nat) (y x : SV) : Bool :=
  match reSV mp x with
  | some x' => match eqC x' y with
    | true => true
    | false => match x, y with | .nilsl, .own c _ => memN c nls | _, _ => false
  | none => false
def getS (mp : List (Nat × Nat)) (nls : List Nat) : (T : TS) → SV → {X : Type} → X → Option (T.D X)
  | .int k, .int k' n, _, d => match decide (k' = k) with | true => some (n, d) | false => none
  | .bool, .bool b, _, d => some (b, d)
  | .str, .str s, _, d => some (s, d)
  | .row t, .row t' l, _, d => match Ty.eq t' t with | some ⟨h⟩ => some (Ty.cast h l, d) | none => none
  | .row t, .nilsl, _, d => some (([] : List t.D), d)
  | .con y, x, _, d => match conOk mp nls y x with | true => some d | false => none
  | .rp t fo, .rp t' l i fo', _, d => match Ty.eq t' t, Nat.beq fo' fo with | some ⟨h⟩, true => some (Ty.cast h l, i, d) | _, _ => none
  | .ep c sz fo, .ep b sz' i fo', _, d => match lk mp b, Nat.beq sz' sz, Nat.beq fo' fo with
    | some c', true, true => (match Nat.beq c' c with | true => some (i, d) | false => none)
    | _, _, _ => none
  | _, _, _, _ => none
theorem getS_R {mp : List (Nat × Nat)} {nls : List Nat} {T : TS} {x : SV} {X : Type} {d0 : X} {d : T.D X} (h : getS mp nls T x d0 = some d) : (T.mk d).2 = d0 ∧ ∀ {w : World} {m m' : Mp} {v : Value}, Tl m m' mp nls → x.R w m v → (T.mk d).1.R w m' v := by
  unfold getS at h
  split at h
  · split at h <;> cases h
    rename_i hk
    have hk := of_decide_eq_true hk
    subst hk
    exact ⟨rfl, fun _ hr => hr⟩
  · cases h; exact ⟨rfl, fun _ hr => hr⟩
  · cases h; exact ⟨rfl, fun _ hr => hr⟩
  · split at h <;> cases h
    rename_i he _
    subst he
    exact ⟨rfl, fun H hr => reSV_T H (x := .row _ _) (y := .row _ _) rfl hr⟩
  · cases h
    exact ⟨rfl, fun H hr => by
      rw [show _ = _ from hr]
      exact ⟨none, 0, rfl, Nat.le_refl _, Nat.zero_le _, fun h => absurd h (Nat.lt_irrefl _)⟩⟩
  · split at h <;> cases h
    rename_i hc
    refine ⟨rfl, fun H hr => ?_⟩
    unfold conOk at hc
    split at hc
    · rename_i x' hx'
      split at hc
      · rename_i he
        rw [← eqC_of he]
        exact reSV_T H hx' hr
      · split at hc
        · have hr : _ = _ := hr
          have := H.nil _ (memN_iff.1 hc)
          simp only [TS.mk, SV.R, this.1]
          exact hr
        · cases hc
    · cases hc
  · split at h <;> cases h
    rename_i he _ hf
    subst he
    have hf := Nat.eq_of_beq_eq_true hf
    subst hf
    exact ⟨rfl, fun H hr => reSV_T H (x := .rp _ _ _ _) (y := .rp _ _ _ _) rfl hr⟩
  · split at h <;> (try cases h)
    rename_i c' hc h1 h2
    split at h <;> cases h
    rename_i h3
    have h1 := Nat.eq_of_beq_eq_true h1
    have h2 := Nat.eq_of_beq_eq_true h2
    have h3 := Nat.eq_of_beq_eq_true h3
    subst h1; subst h2; subst h3
    exact ⟨rfl, fun H hr => reSV_T H (x := .ep _ _ _ _) (by simp [reSV, hc, TS.mk]) hr⟩
  · cases h
/-- Cells' templates. -/
@[reducible] def TL : List TS → Type → Type
  | [], X => X
  | T :: r, X => T.D (TL r X)
def mkL : (l : List TS) → {X : Type} → TL l X → List SV × X
  | [], _, d => ([], d)
  | T :: r, _, d => ((T.mk d).1 :: (mkL r (T.mk d).2).1, (mkL r (T.mk d).2).2)
def getL (mp : List (Nat × Nat)) (nls : List Nat) : (l : List TS) → List SV → {X : Type} → X → Option (TL l X)
  | [], [], _, d => some d
  | T :: r, x :: xs, _, d => match getL mp nls r xs d with | some d' => getS mp nls T x d' | none => none
  | _, _, _, _ => none
theorem getL_R {mp : List (Nat × Nat)} {nls : List Nat} : ∀ {l : List TS} {xs : List SV} {X : Type} {d0 : X} {d : TL l X}, getL mp nls l xs d0 = some d → (mkL l d).2 = d0 ∧ ∀ {w : World} {m m' : Mp} {vs : List Value}, Tl m m' mp nls → F2 (SV.R w m) xs vs → F2 (SV.R w m') (mkL l d).1 vs
  | [], [], X, d0, d, h => by
    cases h
    refine ⟨rfl, fun {w m m' vs} _ hf => ?_⟩
    match vs, hf with
    | [], _ => trivial
  | T :: r, x :: xs, X, d0, d, h => by
    simp only [getL] at h
    split at h <;> (try cases h)
    rename_i d' h1
    obtain ⟨e1, r1⟩ := getL_R h1
    obtain ⟨e2, r2⟩ := getS_R h
    simp only [mkL]
    rw [e2]
    refine ⟨e1, fun {w m m' vs} H hf => ?_⟩
    match vs, hf with
    | v :: vs, hf => exact ⟨r2 H hf.1, r1 H hf.2⟩
  | [], _ :: _, _, _, _, h => by cases h
  | _ :: _, [], _, _, _, h => by cases h
def eqB : Bool → Bool → Bool
  | true, true | false, false => true
  | _, _ => false
theorem eqB_of {a b : Bool} (h : eqB a b = true) : a = b := by cases a <;> cases b <;> simp [eqB] at h <;> rfl
/-- A value's template. -/
inductive TA where
  | c (g : Bool) (l : List TS) | t (xs : List (Bool × List TS))
@[reducible] def TT : List (Bool × List TS) → Type → Type
  | [], X => X
  | p :: r, X => TL p.2 (TT r X)
@[reducible] def TA.D : TA → Type → Type
  | .c _ l, X => TL l X
  | .t xs, X => TT xs X
def mkT : (xs : List (Bool × List TS)) → {X : Type} → TT xs X → List CV × X
  | [], _, d => ([], d)
  | p :: r, _, d => (⟨p.1, (mkL p.2 d).1⟩ :: (mkT r (mkL p.2 d).2).1, (mkT r (mkL p.2 d).2).2)
def TA.mk : (T : TA) → {X : Type} → T.D X → AV × X
  | .c g l, _, d => (.c ⟨g, (mkL l d).1⟩, (mkL l d).2)
  | .t xs, _, d => (.t (mkT xs d).1, (mkT xs d).2)
def getT (mp : List (Nat × Nat)) (nls : List Nat) : (xs : List (Bool × List TS)) → List CV → {X : Type} → X → Option (TT xs X)
  | [], [], _, d => some d
  | p :: r, x :: xs, _, d => match getT mp nls r xs d, eqB p.1 x.g with | some d', true => getL mp nls p.2 x.l d' | _, _ => none
  | _, _, _, _ => none
def getA (mp : List (Nat × Nat)) (nls : List Nat) : (T : TA) → AV → {X : Type} → X → Option (T.D X)
  | .c g l, .c x, _, d => match eqB g x.g with | true => getL mp nls l x.l d | false => none
  | .t xs, .t ys, _, d => getT mp nls xs ys d
  | _, _, _, _ => none
theorem CV_of {w : World} {m m' : Mp} {g : Bool} {l l' : List SV} {v : Value} (hl : ∀ vs, F2 (SV.R w m) l vs → F2 (SV.R w m') l' vs) (h : CV.R w m ⟨g, l⟩ v) : CV.R w m' ⟨g, l'⟩ v := by
  cases g with
  | true =>
    simp only [CV.R] at h
    obtain ⟨vs, rfl, hf⟩ := h
    exact CV.R_agg (hl _ hf)
  | false =>
    simp only [CV.R] at h
    obtain ⟨z, rfl, hz⟩ := h
    have := hl [v] ⟨hz, trivial⟩
    match l', this with
    | [y], this => exact CV.R_one this.1
theorem getT_R {mp : List (Nat × Nat)} {nls : List Nat} : ∀ {l : List (Bool × List TS)} {xs : List CV} {X : Type} {d0 : X} {d : TT l X}, getT mp nls l xs d0 = some d → (mkT l d).2 = d0 ∧ ∀ {w : World} {m m' : Mp} {vs : List Value}, Tl m m' mp nls → F2 (CV.R w m) xs vs → F2 (CV.R w m') (mkT l d).1 vs
  | [], [], X, d0, d, h => by
    cases h
    refine ⟨rfl, fun {w m m' vs} _ hf => ?_⟩
    match vs, hf with
    | [], _ => trivial
  | T :: r, x :: xs, X, d0, d, h => by
    simp only [getT] at h
    split at h <;> (try cases h)
    rename_i d' h1 hg
    obtain ⟨e1, r1⟩ := getT_R h1
    obtain ⟨e2, r2⟩ := getL_R h
    simp only [mkT]
    rw [e2]
    refine ⟨e1, fun {w m m' vs} H hf => ?_⟩
    match vs, hf with
    | v :: vs, hf =>
      refine ⟨?_, r1 H hf.2⟩
      rw [eqB_of hg]
      exact CV_of (fun vs => r2 H) hf.1
  | [], _ :: _, _, _, _, h => by cases h
  | _ :: _, [], _, _, _, h => by cases h
theorem getA_R {mp : List (Nat × Nat)} {nls : List Nat} {T : TA} {x : AV} {X : Type} {d0 : X} {d : T.D X} (h : getA mp nls T x d0 = some d) : (T.mk d).2 = d0 ∧ ∀ {w : World} {m m' : Mp} {v : Value}, Tl m m' mp nls → x.R w m v → (T.mk d).1.R w m' v := by
  unfold getA at h
  split at h
  · split at h <;> (try cases h)
    rename_i g l x X' d0' hg
    obtain ⟨e, r⟩ := getL_R h
    refine ⟨e, fun H hr => ?_⟩
    have hg := eqB_of hg
    subst hg
    exact CV_of (fun vs => r H) hr
  · obtain ⟨e, r⟩ := getT_R h
    exact ⟨e, fun H ⟨vs, e', hf⟩ => ⟨vs, e', r H hf⟩⟩
  · cases h
/-- Temporaries' templates. -/
@[reducible] def TE : List (Nat × TA) → Type → Type
  | [], X => X
  | p :: r, X => p.2.D (TE r X)
def mkE : (l : List (Nat × TA)) → {X : Type} → TE l X → List (Nat × AV) × X
  | [], _, d => ([], d)
  | p :: r, _, d => ((p.1, (p.2.mk d).1) :: (mkE r (p.2.mk d).2).1, (mkE r (p.2.mk d).2).2)
def getE (mp : List (Nat × Nat)) (nls : List Nat) (e : Nat → Option AV) : (l : List (Nat × TA)) → {X : Type} → X → Option (TE l X)
  | [], _, d => some d
  | p :: r, _, d => match getE mp nls e r d, e p.1 with | some d', some v => getA mp nls p.2 v d' | _, _ => none
theorem getE_R {mp : List (Nat × Nat)} {nls : List Nat} {e : Nat → Option AV} : ∀ {l : List (Nat × TA)} {X : Type} {d0 : X} {d : TE l X}, getE mp nls e l d0 = some d → (mkE l d).2 = d0 ∧ (mkE l d).1.map (·.1) = l.map (·.1) ∧ ∀ t v, (t, v) ∈ (mkE l d).1 → ∃ u, e t = some u ∧ ∀ {w : World} {m m' : Mp} {x : Value}, Tl m m' mp nls → u.R w m x → v.R w m' x
  | [], X, d0, d, h => by cases h; exact ⟨rfl, rfl, fun t v h => by cases h⟩
  | p :: r, X, d0, d, h => by
    simp only [getE] at h
    split at h <;> (try cases h)
    rename_i d' v h1 h2
    obtain ⟨e1, k1, r1⟩ := getE_R h1
    obtain ⟨e2, r2⟩ := getA_R h
    simp only [mkE]
    rw [e2]
    refine ⟨e1, by simp [k1], fun t u hu => ?_⟩
    rcases List.mem_cons.1 hu with hu | hu
    · cases hu; exact ⟨v, h2, r2⟩
    · exact r1 t u hu
/-- Blocks' templates. -/
inductive TB where
  | row (ty : TypeId) (t : Ty) | var (ty : TypeId) (l : List TS) | map (ka : Bool) (kt : Ty) (va : Bool) (vt : Ty) | tab (ks : List (IntKind × Int)) (vs : List (Bool × List TS)) | lop (k : Nat) (es : List (Nat × TA))
@[reducible] def TB.D : TB → Type → Type
  | .row _ t, X => List t.D × X
  | .var _ l, X => TL l X
  | .map _ kt _ vt, X => List (kt.D × vt.D) × X
  | .tab _ vs, X => TT vs X
  | .lop _ es, X => TE es (Int × X)
def TB.mk : (T : TB) → {X : Type} → T.D X → Blk × X
  | .row ty t, _, d => (.row ty t d.1, d.2)
  | .var ty l, _, d => (.var ty (mkL l d).1, (mkL l d).2)
  | .map ka kt va vt, _, d => (.map ka kt va vt d.1, d.2)
  | .tab ks vs, _, d => (.tab ((ks.map fun p => SV.int p.1 p.2).zip (mkT vs d).1), (mkT vs d).2)
  | .lop k es, _, d => (.lop k (mkE es d).1 (mkE es d).2.1, (mkE es d).2.2)
def Ty.cast2 {a b c d : Ty} (h : a = b) (h' : c = d) (l : List (a.D × c.D)) : List (b.D × d.D) := h ▸ h' ▸ l
/-- Are these the keys? -/
def eqKs : List (IntKind × Int) → List (SV × CV) → Bool
  | [], [] => true
  | p :: ks, (.int k n, _) :: l => decide (p.1 = k) && (decide (p.2 = n) && eqKs ks l)
  | _, _ => false
def getB (mp : List (Nat × Nat)) (nls : List Nat) : (T : TB) → Blk → {X : Type} → X → Option (T.D X)
  | .row ty t, .row ty' t' l, _, d => match Nat.beq ty' ty, Ty.eq t' t with | true, some ⟨h⟩ => some (Ty.cast h l, d) | _, _ => none
  | .var ty l, .var ty' cs, _, d => match Nat.beq ty' ty with | true => getL mp nls l cs d | false => none
  | .map ka kt va vt, .map ka' kt' va' vt' l, _, d => match eqB ka' ka && eqB va' va, Ty.eq kt' kt, Ty.eq vt' vt with | true, some ⟨h⟩, some ⟨h'⟩ => some (Ty.cast2 h h' l, d) | _, _, _ => none
  | .lop k es, .lop k' tm j, _, d => match Nat.beq k' k with | true => getE mp nls (lk tm) es (j, d) | false => none
  | .tab ks vs, .tab l, _, d => match eqKs ks l with | true => getT mp nls vs (l.map (·.2)) d | false => none
  | _, _, _, _ => none
theorem F2.mapr {α β γ : Type} {R : α → β → Prop} (f : γ → β) : ∀ {ar : List α} {cs : List γ}, F2 (fun a c => R a (f c)) ar cs → F2 R ar (cs.map f)
  | [], [], _ => trivial
  | _ :: _, _ :: _, h => ⟨h.1, mapr f h.2⟩
  | [], _ :: _, h => h.elim
  | _ :: _, [], h => h.elim
theorem F2.of_mapr {α β γ : Type} {R : α → β → Prop} (f : γ → β) : ∀ {ar : List α} {cs : List γ}, F2 R ar (cs.map f) → F2 (fun a c => R a (f c)) ar cs
  | [], [], _ => trivial
  | _ :: _, _ :: _, h => ⟨h.1, of_mapr f h.2⟩
  | [], _ :: _, h => h.elim
  | _ :: _, [], h => h.elim
theorem zipR {w : World} {m : Mp} : ∀ {ks : List SV} {vs : List CV} {es : List MapEntry}, F2 (fun k e => k.R w m e.key) ks es → F2 (fun (v : CV) (e : MapEntry) => v.R w m e.val) vs es → F2 (EntR w m) (ks.zip vs) es
  | [], [], [], _, _ => trivial
  | _ :: _, _ :: _, _ :: _, h, h' => ⟨⟨h.1, h'.1⟩, zipR h.2 h'.2⟩
  | [], _, _ :: _, h, _ => h.elim
  | _ :: _, _, [], h, _ => h.elim
  | [], _ :: _, [], _, h' => h'.elim
  | _ :: _, [], _ :: _, _, h' => h'.elim
theorem keysR {w w' : World} {m m' : Mp} : ∀ {ks : List (IntKind × Int)} {l : List (SV × CV)} {es : List MapEntry}, eqKs ks l = true → F2 (EntR w m) l es → F2 (fun (k : SV) (e : MapEntry) => k.R w' m' e.key) (ks.map fun p => SV.int p.1 p.2) es
  | [], [], [], _, _ => trivial
  | p :: ks, x :: l, e :: es, h, hf => by
    obtain ⟨x, v⟩ := x
    cases x <;> simp only [eqKs, Bool.and_eq_true, decide_eq_true_eq, Bool.false_eq_true] at h
    obtain ⟨h1, h2, h3⟩ := h
    refine ⟨?_, keysR h3 hf.2⟩
    subst h1; subst h2
    exact hf.1.1
  | [], [], _ :: _, _, h => h.elim
  | [], _ :: _, _, h, _ => by simp [eqKs] at h
  | _ :: _, [], _, h, _ => by simp [eqKs] at h
  | _ :: _, _ :: _, [], _, h => h.elim
theorem getB_R {mp : List (Nat × Nat)} {nls : List Nat} {T : TB} {B : Blk} {X : Type} {d0 : X} {d : T.D X} (h : getB mp nls T B d0 = some d) : (T.mk d).2 = d0 ∧ ∀ {w : World} {m m' : Mp} {b c : Nat}, Tl m m' mp nls → lk mp b = some c → B.R w m b → (T.mk d).1.R w m' c := by
  unfold getB at h
  split at h
  · split at h <;> cases h
    rename_i he hty _
    subst he
    have hty := Nat.eq_of_beq_eq_true hty
    subst hty
    refine ⟨rfl, fun H hb hr => ?_⟩
    have ha := H.at_ _ _ hb
    simp only [TB.mk, Ty.cast, Blk.R] at hr ⊢
    rw [ha.1, ha.2.1, ha.2.2.1, ha.2.2.2]
    obtain ⟨h0, hr⟩ := hr
    refine ⟨h0, ?_⟩
    split at hr
    · exact hr
    · obtain ⟨cells, h1, h2, h3, h5⟩ := hr
      refine ⟨cells, h1, h2, h3, fun j p hp => ?_⟩
      obtain ⟨cs, hk, hc⟩ := h5 j p hp
      exact ⟨cs, Ty.K_still still_refl H.sup _ hk, hc⟩
  · split at h <;> (try cases h)
    rename_i hty
    have hty := Nat.eq_of_beq_eq_true hty
    subst hty
    obtain ⟨e, r⟩ := getL_R h
    refine ⟨e, fun H hb hr => ?_⟩
    have ha := H.at_ _ _ hb
    simp only [TB.mk, Blk.R] at hr ⊢
    rw [ha.1, ha.2.1, ha.2.2.2]
    obtain ⟨h0, cells, h1, h2, h3⟩ := hr
    exact ⟨h0, cells, h1, h2, r H h3⟩
  · split at h <;> cases h
    rename_i he he' hb _ _
    subst he; subst he'
    simp only [Bool.and_eq_true] at hb
    have h1 := eqB_of hb.1
    have h2 := eqB_of hb.2
    subst h1; subst h2
    refine ⟨rfl, fun H hb hr => ?_⟩
    have ha := H.at_ _ _ hb
    simp only [TB.mk, Ty.cast2, Blk.R] at hr ⊢
    rw [ha.1, ha.2.2.2]
    obtain ⟨h0, es, cl, h1, h2⟩ := hr
    refine ⟨h0, es, cl, h1, h2.imp fun p e he => ?_⟩
    obtain ⟨⟨c1, k1, p1⟩, ⟨c2, k2, p2⟩⟩ := he
    exact ⟨⟨c1, Ty.K_still still_refl H.sup _ k1, p1⟩, ⟨c2, Ty.K_still still_refl H.sup _ k2, p2⟩⟩
  · split at h <;> (try cases h)
    rename_i k es k' tm j X' d0' hk
    have hk := Nat.eq_of_beq_eq_true hk
    subst hk
    obtain ⟨e, -, r⟩ := getE_R h
    refine ⟨by simp only [TB.mk, e], fun H hb hr => ?_⟩
    have ha := H.at_ _ _ hb
    simp only [TB.mk, Blk.R, e] at hr ⊢
    rw [ha.1, ha.2.2.2]
    obtain ⟨h0, fn, tmps, df, h1, h2, h3⟩ := hr
    refine ⟨h0, fn, tmps, df, h1, h2, fun p hp => ?_⟩
    obtain ⟨u, hu, hr⟩ := r p.1 p.2 hp
    exact hr H (h3 _ (lk_mem hu))
  · split at h <;> (try cases h)
    rename_i hks
    obtain ⟨e, r⟩ := getT_R h
    refine ⟨e, fun H hb hr => ?_⟩
    have ha := H.at_ _ _ hb
    simp only [TB.mk, Blk.R] at hr ⊢
    rw [ha.1, ha.2.2.2]
    obtain ⟨h0, es, cl, h1, h2⟩ := hr
    exact ⟨h0, es, cl, h1, zipR (keysR hks h2) (F2.of_mapr _ (r H (F2.mapr _ ((F2.map (fun p : _ × CV => p.2) (h2.imp fun p e he => he.2))))))⟩
  · cases h
@[reducible] def TBs : List (Nat × TB) → Type → Type
  | [], X => X
  | p :: r, X => p.2.D (TBs r X)
def mkB : (l : List (Nat × TB)) → {X : Type} → TBs l X → List (Nat × Blk) × X
  | [], _, d => ([], d)
  | p :: r, _, d => ((p.1, (p.2.mk d).1) :: (mkB r (p.2.mk d).2).1, (mkB r (p.2.mk d).2).2)
def getN : (T : TB) → {X : Type} → X → Option (T.D X)
  | .row _ t, _, d => some (([] : List t.D), d)
  | _, _, _ => none
def getBs (mp : List (Nat × Nat)) (nls : List Nat) (bl : Nat → Option Blk) : (l : List (Nat × TB)) → {X : Type} → X → Option (TBs l X)
  | [], _, d => some d
  | p :: r, _, d => match getBs mp nls bl r d with
    | some d' => match memN p.1 nls with
      | true => getN p.2 d'
      | false => match lk (inv mp) p.1 with
        | some b => match bl b with | some B => getB mp nls p.2 B d' | none => none
        | none => none
    | none => none
theorem getN_R {T : TB} {X : Type} {d0 : X} {d : T.D X} (h : getN T d0 = some d) : (T.mk d).2 = d0 ∧ ∀ {w : World} {m : Mp} {c : Nat}, m.nl c = true → m.le c = 0 → (T.mk d).1.R w m c := by
  cases T <;> simp only [getN] at h <;> cases h
  refine ⟨rfl, fun h1 h2 => ?_⟩
  simp only [TB.mk, Blk.R]
  rw [h1, h2]
  exact ⟨rfl, trivial⟩
theorem getBs_R {mp : List (Nat × Nat)} {nls : List Nat} {bl : Nat → Option Blk} (hmp : nodupN (mp.map (·.1)) = true) : ∀ {l : List (Nat × TB)} {X : Type} {d0 : X} {d : TBs l X}, getBs mp nls bl l d0 = some d → (mkB l d).2 = d0 ∧ (mkB l d).1.map (·.1) = l.map (·.1) ∧ ∀ c C, (c, C) ∈ (mkB l d).1 → (c ∈ nls ∧ ∀ {w : World} {m m' : Mp}, Tl m m' mp nls → C.R w m' c) ∨ ∃ b B, c ∉ nls ∧ lk (inv mp) c = some b ∧ lk mp b = some c ∧ bl b = some B ∧ ∀ {w : World} {m m' : Mp}, Tl m m' mp nls → B.R w m b → C.R w m' c
  | [], X, d0, d, h => by cases h; exact ⟨rfl, rfl, fun t v h => by cases h⟩
  | p :: r, X, d0, d, h => by
    simp only [getBs] at h
    split at h <;> (try cases h)
    rename_i d' h1
    obtain ⟨e1, k1, r1⟩ := getBs_R hmp h1
    split at h
    · rename_i hm
      have : ((p.2.mk d).2 = d') ∧ ∀ {w : World} {m m' : Mp}, Tl m m' mp nls → (p.2.mk d).1.R w m' p.1 := by
        obtain ⟨e, r⟩ := getN_R h
        exact ⟨e, fun H => r (H.nil _ (memN_iff.1 hm)).1 (H.nil _ (memN_iff.1 hm)).2⟩
      simp only [mkB]
      rw [this.1]
      refine ⟨e1, by simp [k1], fun t u hu => ?_⟩
      rcases List.mem_cons.1 hu with hu | hu
      · cases hu; exact .inl ⟨memN_iff.1 hm, this.2⟩
      · exact r1 t u hu
    · rename_i hm
      split at h <;> (try cases h)
      rename_i b hb
      split at h <;> (try cases h)
      rename_i B hB
      obtain ⟨e2, r2⟩ := getB_R h
      simp only [mkB]
      rw [e2]
      refine ⟨e1, by simp [k1], fun t u hu => ?_⟩
      rcases List.mem_cons.1 hu with hu | hu
      · cases hu
        have hk : lk mp b = some p.1 := lk_of_mem hmp (by
          obtain ⟨⟨q1, q2⟩, hq, e⟩ := List.mem_map.1 (lk_mem hb)
          simp only [Prod.mk.injEq] at e
          rw [← e.1, ← e.2]
          exact hq)
        exact .inr ⟨b, B, (fun h => by rw [memN_iff.2 h] at hm; cases hm), hb, hk, hB, fun H => r2 H hk⟩
      · exact r1 t u hu
/-- A state's template. -/
structure TSt where
  es : List (Nat × TA)
  bs : List (Nat × TB)
@[reducible] def TSt.D (T : TSt) (X : Type) : Type := TE T.es (TBs T.bs X)
def TSt.env (T : TSt) {X : Type} (d : T.D X) : List (Nat × AV) := (mkE T.es d).1
def TSt.blk (T : TSt) {X : Type} (d : T.D X) : List (Nat × Blk) := (mkB T.bs (mkE T.es d).2).1
def TSt.mk' (T : TSt) {X : Type} (d : T.D X) : St := ⟨T.env d, somes (T.blk d)⟩
def getSt (mp : List (Nat × Nat)) (nls : List Nat) (T : TSt) (e : Nat → Option AV) (bl : Nat → Option Blk) {X : Type} (x : X) : Option (T.D X) :=
  match getBs mp nls bl T.bs x with | some d => getE mp nls e T.es d | none => none
end Go.Proofs.Ytfjdhdmbbfeigaa.Am
