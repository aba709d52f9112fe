/- Contracts, and calls by them. -/
import Derived.Test.YtfjdhdmbbfeigaaAmS
namespace Go.Proofs.Ytfjdhdmbbfeigaa.Am
set_option linter.unusedVariables false
set_option linter.unusedSimpArgs false
/-- Arguments' templates. -/
@[reducible] def TAs : List TA → Type → Type
  | [], X => X
  | p :: r, X => p.D (TAs r X)
def mkAs : (l : List TA) → {X : Type} → TAs l X → List AV × X
  | [], _, d => ([], d)
  | p :: r, _, d => ((p.mk d).1 :: (mkAs r (p.mk d).2).1, (mkAs r (p.mk d).2).2)
def getAs (mp : List (Nat × Nat)) (nls : List Nat) : (l : List TA) → List AV → {X : Type} → X → Option (TAs l X)
  | [], [], _, d => some d
  | T :: r, x :: xs, _, d => match getAs mp nls r xs d with | some d' => getA mp nls T x d' | none => none
  | _, _, _, _ => none
theorem getAs_R {mp : List (Nat × Nat)} {nls : List Nat} : ∀ {l : List TA} {xs : List AV} {X : Type} {d0 : X} {d : TAs l X}, getAs mp nls l xs d0 = some d → (mkAs l d).2 = d0 ∧ ∀ {w : World} {m m' : Mp} {vs : List Value}, Tl m m' mp nls → F2 (AV.R w m) xs vs → F2 (AV.R w m') (mkAs l d).1 vs
  | [], [], X, d0, d, h => by
    cases h
    refine ⟨rfl, fun {w m m' vs} _ hf => ?_⟩
    match vs, hf with
    | [], _ => trivial
  | T :: r, x :: xs, X, d0, d, h => by
    simp only [getAs] at h
    split at h <;> (try cases h)
    rename_i d' h1
    obtain ⟨e1, r1⟩ := getAs_R h1
    obtain ⟨e2, r2⟩ := getA_R h
    simp only [mkAs]
    rw [e2]
    refine ⟨e1, fun {w m m' vs} H hf => ?_⟩
    match vs, hf with
    | v :: vs, hf => exact ⟨r2 H hf.1, r1 H hf.2⟩
  | [], _ :: _, _, _, _, h => by cases h
  | _ :: _, [], _, _, _, h => by cases h
def Key.beq : Key → Key → Bool
  | .fn a, .fn b => Nat.beq a b
  | .yl a, .yl b => Nat.beq a b
  | _, _ => false
theorem Key.of_beq {a b : Key} (h : Key.beq a b = true) : a = b := by
  cases a <;> cases b <;> simp only [Key.beq, Bool.false_eq_true] at h <;> rw [Nat.eq_of_beq_eq_true h]
/-- What a contract is of: arguments, blocks handed over; the result, blocks handed back. -/
structure Sig where
  ar : List TA
  bs : List (Nat × TB)
  o : TA
  ob : List (Nat × TB)
@[reducible] def Sig.I (s : Sig) : Type := TAs s.ar (TBs s.bs Unit)
@[reducible] def Sig.O (s : Sig) : Type := s.o.D (TBs s.ob Unit)
def Sig.args (s : Sig) (d : s.I) : List AV := (mkAs s.ar d).1
def Sig.bl (s : Sig) (d : s.I) : List (Nat × Blk) := (mkB s.bs (mkAs s.ar d).2).1
def Sig.res (s : Sig) (r : s.O) : AV := (s.o.mk r).1
def Sig.bl' (s : Sig) (r : s.O) : List (Nat × Blk) := (mkB s.ob (s.o.mk r).2).1
structure Ctr (P : Program) where
  f : Key
  s : Sig
  run : s.I → Option s.O
  ok : ∀ d r, run d = some r → Spec P f (s.args d) (s.bl d) (s.res r) (s.bl' r)
theorem reL_T {mp : List (Nat × Nat)} {nls : List Nat} {w : World} {m m' : Mp} (T : Tl m m' mp nls) {l l' : List SV} {vs : List Value} (h : mapO (reSV mp) l = some l') (hr : F2 (SV.R w m) l vs) : F2 (SV.R w m') l' vs := by
  induction l generalizing l' vs with
  | nil =>
    cases h
    match vs, hr with
    | [], _ => trivial
  | cons x l ih =>
    simp only [mapO] at h
    split at h <;> cases h
    rename_i y l'' h1 h2
    match vs, hr with
    | v :: vs, hr => exact ⟨reSV_T T h1 hr.1, ih h2 hr.2⟩
theorem reCV_T {mp : List (Nat × Nat)} {nls : List Nat} {w : World} {m m' : Mp} (T : Tl m m' mp nls) {x y : CV} {v : Value} (h : reCV mp x = some y) (hr : x.R w m v) : y.R w m' v := by
  obtain ⟨g, l⟩ := x
  unfold reCV at h
  split at h <;> cases h
  rename_i l' hl
  exact CV_of (fun vs => reL_T T hl) hr
theorem reAV_T {mp : List (Nat × Nat)} {nls : List Nat} {w : World} {m m' : Mp} (T : Tl m m' mp nls) {x y : AV} {v : Value} (h : reAV mp x = some y) (hr : x.R w m v) : y.R w m' v := by
  cases x with
  | c x =>
    simp only [reAV] at h
    split at h <;> cases h
    rename_i y hy
    exact reCV_T T hy hr
  | t xs =>
    simp only [reAV] at h
    split at h <;> cases h
    rename_i ys hy
    obtain ⟨vs, e, hf⟩ := hr
    refine ⟨vs, e, ?_⟩
    have : ∀ {l : List CV} {l' : List CV} {vs : List Value}, mapO (reCV mp) l = some l' → F2 (CV.R w m) l vs → F2 (CV.R w m') l' vs := by
      intro l
      induction l with
      | nil =>
        intro l' vs h hr
        cases h
        match vs, hr with
        | [], _ => trivial
      | cons x l ih =>
        intro l' vs h hr
        simp only [mapO] at h
        split at h <;> cases h
        rename_i y l'' h1 h2
        match vs, hr with
        | v :: vs, hr => exact ⟨reCV_T T h1 hr.1, ih h2 hr.2⟩
    exact this hy hf
theorem reBlk_T {mp : List (Nat × Nat)} {nls : List Nat} {w : World} {m m' : Mp} (T : Tl m m' mp nls) {B C : Blk} {b c : Nat} (h : reBlk mp B = some C) (hb : lk mp b = some c) (hr : B.R w m b) : C.R w m' c := by
  have ha := T.at_ b c hb
  cases B <;> simp only [reBlk] at h
  case row ty t l =>
    cases h
    simp only [Blk.R] at hr ⊢
    rw [ha.1, ha.2.1, ha.2.2.1, ha.2.2.2]
    obtain ⟨h0, hr⟩ := hr
    refine ⟨h0, ?_⟩
    split at hr
    · exact hr
    · obtain ⟨cells, h1, h2, h3, h5⟩ := hr
      refine ⟨cells, h1, h2, h3, fun j p hp => ?_⟩
      obtain ⟨cs, hk, hc⟩ := h5 j p hp
      exact ⟨cs, Ty.K_still still_refl T.sup _ hk, hc⟩
  case map =>
    cases h
    simp only [Blk.R] at hr ⊢
    rw [ha.1, ha.2.2.2]
    obtain ⟨h0, es, cl, h1, h2⟩ := hr
    refine ⟨h0, es, cl, h1, h2.imp fun p e he => ?_⟩
    obtain ⟨⟨c1, k1, p1⟩, ⟨c2, k2, p2⟩⟩ := he
    exact ⟨⟨c1, Ty.K_still still_refl T.sup _ k1, p1⟩, ⟨c2, Ty.K_still still_refl T.sup _ k2, p2⟩⟩
  case var ty cs =>
    split at h <;> cases h
    rename_i l hl
    simp only [Blk.R] at hr ⊢
    rw [ha.1, ha.2.1, ha.2.2.2]
    obtain ⟨h0, cells, h1, h2, h3⟩ := hr
    exact ⟨h0, cells, h1, h2, reL_T T hl h3⟩
  case tab l =>
    split at h <;> cases h
    rename_i l' hl
    simp only [Blk.R] at hr ⊢
    rw [ha.1, ha.2.2.2]
    obtain ⟨h0, es, cl, h1, h2⟩ := hr
    refine ⟨h0, es, cl, h1, ?_⟩
    have : ∀ {l l' : List (SV × CV)} {es : List MapEntry}, mapO (fun p => match reSV mp p.1, reCV mp p.2 with | some x, some y => some (x, y) | _, _ => none) l = some l' → F2 (fun (p : SV × CV) (e : MapEntry) => p.1.R w m e.key ∧ p.2.R w m e.val) l es → F2 (fun (p : SV × CV) (e : MapEntry) => p.1.R w m' e.key ∧ p.2.R w m' e.val) l' es := by
      intro l
      induction l with
      | nil =>
        intro l' es h hr
        cases h
        match es, hr with
        | [], _ => trivial
      | cons x l ih =>
        intro l' es h hr
        simp only [mapO] at h
        split at h <;> cases h
        rename_i y l'' h1 h2
        split at h1 <;> cases h1
        rename_i x' y' h3 h4
        match es, hr with
        | e :: es, hr => exact ⟨⟨reSV_T T h3 hr.1.1, reCV_T T h4 hr.1.2⟩, ih h2 hr.2⟩
    exact this hl h2
  case lop k tm j =>
    split at h <;> cases h
    rename_i l hl
    simp only [Blk.R] at hr ⊢
    rw [ha.1, ha.2.2.2]
    obtain ⟨h0, fn, tmps, df, h1, h2, h3⟩ := hr
    refine ⟨h0, fn, tmps, df, h1, h2, fun p hp => ?_⟩
    obtain ⟨q, hq, e⟩ := mapO_mem hl p hp
    split at e <;> cases e
    rename_i hv
    exact reAV_T T hv (h3 q hq)
def reBs (mp : List (Nat × Nat)) (l : List (Nat × Blk)) : Option (List (Nat × Blk)) := mapO (fun p => match lk mp p.1, reBlk mp p.2 with | some c, some C => some (c, C) | _, _ => none) l
def mpN (mp : List (Nat × Nat)) : Bool := nodupN (mp.map (·.1)) && nodupN (mp.map (·.2))
theorem Tl.re {mp : List (Nat × Nat)} (h : mpN mp = true) (m : Mp) : Tl m (m.re mp) mp [] := by
  simp only [mpN, Bool.and_eq_true] at h
  refine ⟨fun _ h => h, fun b c hb => ?_, fun c hc => by cases hc⟩
  have : lk (inv mp) c = some b := lk_of_mem (by
    have : (inv mp).map (·.1) = mp.map (·.2) := by simp [inv]
    rw [this]; exact h.2) (List.mem_map.2 ⟨(b, c), lk_mem hb, rfl⟩)
  simp [Mp.re, this]
/-- A contract, by the caller's names. -/
theorem Ctr.conv {P : Program} (C : Ctr P) {us : List AV} {cbl cbl2 : List (Nat × Blk)} {res2 : AV} {mp mo : List (Nat × Nat)} {d : C.s.I} {d' : TBs C.s.bs Unit} {r : C.s.O} (hmp : mpN mp = true) (hmo : mpN mo = true) (hb : getBs mp [] (lk cbl) C.s.bs () = some d') (hd : getAs mp [] C.s.ar us d' = some d)
    (hcb : (keyN cbl).all (fun b => match lk mp b with | some c => memN c (keyN C.s.bs) && (match lk mo c with | some x => Nat.beq x b | none => false) | none => false) = true)
    (hr : C.run d = some r) (h1 : reAV mo (C.s.res r) = some res2) (h2 : reBs mo (C.s.bl' r) = some cbl2) : Spec P C.f us cbl res2 cbl2 := by
  intro w m vs hargs hblk hS hinj hlt
  have T := Tl.re hmp m
  have hmp' := hmp
  simp only [mpN, Bool.and_eq_true] at hmp'
  obtain ⟨-, kb, rb⟩ := getBs_R hmp'.1 hb
  obtain ⟨ea, ra⟩ := getAs_R hd
  have hbl : C.s.bl d = (mkB C.s.bs d').1 := by unfold Sig.bl; rw [ea]
  have src : ∀ c B, (c, B) ∈ C.s.bl d → ∃ b B0, lk mp b = some c ∧ (b, B0) ∈ cbl ∧ B.R w (m.re mp) c := fun c B hc => by
    rw [hbl] at hc
    rcases rb c B hc with ⟨h, -⟩ | ⟨b, B0, -, -, h3, h4, h5⟩
    · cases h
    · exact ⟨b, B0, h3, lk_mem h4, h5 T (hblk _ (lk_mem h4))⟩
  have inO : ∀ k, InO (m.re mp) (C.s.bl d) k → InO m cbl k := fun k ⟨p, hp, hn, e⟩ => by
    obtain ⟨b, B0, h3, h4, -⟩ := src p.1 p.2 hp
    have ha := T.at_ _ _ h3
    exact ⟨_, h4, by rw [ha.2.2.2] at hn; exact hn, by rw [ha.1] at e; exact e⟩
  refine (C.ok d r hr w (m.re mp) vs (ra T hargs) (fun p hp => ?_) (fun p hp hn => ?_) (fun p hp q hq hn hn' e => ?_) hlt).mono fun e w' ⟨v, m', he, hres, b1, b2, b3, l1, l2, l3, l4, l5, l6, hio⟩ => ?_
  · obtain ⟨b, B0, -, -, h⟩ := src p.1 p.2 hp
    exact h
  · obtain ⟨b, B0, h3, h4, -⟩ := src p.1 p.2 hp
    have ha := T.at_ _ _ h3
    rw [ha.2.2.2] at hn
    rw [ha.1]
    exact hS _ h4 hn
  · obtain ⟨b, B0, h3, h4, -⟩ := src p.1 p.2 hp
    obtain ⟨c, C0, h5, h6, -⟩ := src q.1 q.2 hq
    have ha := T.at_ _ _ h3
    have hb := T.at_ _ _ h5
    rw [ha.2.2.2] at hn
    rw [hb.2.2.2] at hn'
    rw [ha.1, hb.1] at e
    have := hinj _ h4 _ h6 hn hn' e
    simp only at this
    rw [this, h5] at h3
    exact (Option.some.inj h3).symm
  have T' := Tl.re hmo m'
  have src' : ∀ c B, (c, B) ∈ cbl2 → ∃ c0 B0, lk mo c0 = some c ∧ (c0, B0) ∈ C.s.bl' r ∧ reBlk mo B0 = some B := fun c B hc => by
    obtain ⟨p, hp, e⟩ := mapO_mem h2 _ hc
    split at e <;> cases e
    rename_i h3 h4
    exact ⟨p.1, p.2, h3, hp, h4⟩
  refine ⟨v, m'.re mo, he, reAV_T T' h1 hres, fun p hp => ?_, fun p hp hn => ?_, fun p hp q hq hn hn' e => ?_, l1, l2, fun k hk hO => l3 k hk fun h => hO (inO k h), l4, fun k hk => ?_, fun p hp => ?_, hio⟩
  · obtain ⟨c0, B0, h3, h4, h5⟩ := src' p.1 p.2 hp
    exact reBlk_T T' h5 h3 (b1 _ h4)
  · obtain ⟨c0, B0, h3, h4, h5⟩ := src' p.1 p.2 hp
    have ha := T'.at_ _ _ h3
    rw [ha.2.2.2] at hn
    rw [ha.1]
    obtain ⟨q1, q2⟩ := b2 _ h4 hn
    exact ⟨q1, q2.imp id (inO _)⟩
  · obtain ⟨c0, B0, h3, h4, h5⟩ := src' p.1 p.2 hp
    obtain ⟨d0, D0, h6, h7, h8⟩ := src' q.1 q.2 hq
    have ha := T'.at_ _ _ h3
    have hb := T'.at_ _ _ h6
    rw [ha.2.2.2] at hn
    rw [hb.2.2.2] at hn'
    rw [ha.1, hb.1] at e
    have := b3 _ h4 _ h7 hn hn' e
    simp only at this
    rw [this, h6] at h3
    exact (Option.some.inj h3).symm
  · exact (l5 k hk).imp id fun h => h.imp id (inO k)
  · have hk := List.all_eq_true.1 hcb p.1 (List.mem_map.2 ⟨p, hp, rfl⟩)
    split at hk
    · rename_i c hc
      simp only [Bool.and_eq_true] at hk
      obtain ⟨hk1, hk2⟩ := hk
      split at hk2
      · rename_i x hx
        have hxe := Nat.eq_of_beq_eq_true hk2
        subst hxe
        have hm := memN_iff.1 hk1
        rw [show keyN C.s.bs = C.s.bs.map (·.1) from rfl, ← kb, ← hbl] at hm
        obtain ⟨q, hq, eq⟩ := List.mem_map.1 hm
        have h6 := l6 q hq
        rw [eq] at h6
        have ha := T'.at_ _ _ hx
        have hb := T.at_ _ _ hc
        simp only [Mp.at_] at h6 ⊢
        rw [ha.1, ha.2.1, ha.2.2.1, ha.2.2.2, h6, hb.1, hb.2.1, hb.2.2.1, hb.2.2.2]
      · cases hk2
    · cases hk
end Go.Proofs.Ytfjdhdmbbfeigaa.Am
