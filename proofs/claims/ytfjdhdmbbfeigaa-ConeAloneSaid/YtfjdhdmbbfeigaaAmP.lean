/- Regions, in the order of their text. -/
import Derived.Test.YtfjdhdmbbfeigaaAmO
namespace Go.Proofs.Ytfjdhdmbbfeigaa.Am
set_option linter.unusedVariables false
set_option linter.unusedSimpArgs false
/-- Temporaries that an operation looks at. -/
def rTs (ops : Array Oper) (o : Oper) : List Nat :=
  (o.op.operands.toList.filterMap fun | .tmp t => some t | _ => none) ++ (match o.guard with | some (g, _) => (match ops[g]? with | some og => og.dst.toList | none => []) | none => [])
/-- Blocks that an operation may look at: what its operands name, and what these blocks name. -/
def rBs0 (ops : Array Oper) (st : St) (o : Oper) : List Nat :=
  let a := (rTs ops o).flatMap fun t => match st.e t with | some v => v.ns | none => []
  let b := a.flatMap fun b => match st.b b with | some B => B.ns | none => []
  let c := b.flatMap fun b => match st.b b with | some B => B.ns | none => []
  let d := c.flatMap fun b => match st.b b with | some B => B.ns | none => []
  let e := d.flatMap fun b => match st.b b with | some B => B.ns | none => []
  a ++ b ++ c ++ d ++ e
def noLook : Op → Bool
  | .move _ | .assign _ | .nilCheck _ | .fieldAddr .. => true
  | _ => false
def rBs (ops : Array Oper) (st : St) (o : Oper) : List Nat :=
  match noLook o.op with
  | true => []
  | false => rBs0 ops st o
def resT (l : List Nat) (f : Nat → Option AV) (t : Nat) : Option AV := match memN t l with | true => f t | false => none
def resB (l : List Nat) (f : Nat → Option Blk) (b : Nat) : Option Blk := match memN b l with | true => f b | false => none
/-- Does an operator ask for nothing? -/
def nz : BinOp → Bool
  | .shl | .shr | .quo | .rem => false | _ => true
def trivO : Op → Bool
  | .move _ | .assign _ | .pick .. | .alloc _ | .box .. | .build .. | .buildSlice .. | .load .. | .store .. | .nilCheck _ | .unOp .. | .convert .. | .makeFunc .. | .fieldAddr .. | .field .. | .extract .. | .makeMap .. | .insert .. | .mapUpdate .. => true
  | .binOp op .. => nz op
  | .call ⟨.builtin .len, _, _⟩ => true
  | _ => false
/-- Does an operation ask for nothing, by its make? -/
def triv (an : An) (o : Oper) : Bool := match an with | .is _ => false | .fz => false | .cq .. => false | _ => trivO o.op
theorem outS_triv {an : An} {c : Prop} [Decidable c] {x : SV} (hc : c) (h : ∀ b, an ≠ .is b) : (outS an c x).c := by
  unfold outS
  split
  · rename_i b b'
    exact absurd rfl (h b)
  · exact hc
theorem fInt_triv {op : BinOp} {k : IntKind} {a b : Int} {c : Cd} {z : SV} (h : fInt op k a b = some (c, z)) (ho : nz op = true) : c.p := by
  cases op <;> simp only [fInt, nz, Option.some.injEq, Prod.mk.injEq, reduceCtorEq, Bool.false_eq_true] at h ho <;> (obtain ⟨rfl, -⟩ := h; trivial)
theorem fBin_triv {op : BinOp} {x y : SV} {c : Cd} {z : SV} (h : fBin op x y = some (c, z)) (ho : nz op = true) : c.p := by
  cases x <;> cases y <;> simp only [fBin] at h <;> (try cases h)
  case int.int k a k' b =>
    have key : (match decide (k = k') with | false => none | true => fInt op k a b) = some (c, z) → c.p := fun h => by
      split at h
      · cases h
      · exact fInt_triv h ho
    cases op <;> first | (simp [nz] at ho; done) | exact key h
  all_goals (cases op <;> simp only [Option.some.injEq, Prod.mk.injEq, reduceCtorEq] at h <;> (obtain ⟨rfl, -⟩ := h; trivial))
theorem stp_triv {P : Program} {an : An} {nm : Nat} {o : Oper} {ev : Operand → Option AV} {bl : Nat → Option Blk} {out : Out} (h : stp P an nm o ev bl = some out) (ht : triv an o = true) : out.c := by
  have hi : ∀ b, an ≠ .is b := fun b e => by subst e; simp [triv] at ht
  have hz : quX P an nm o ev bl = stp0 P an nm o ev bl := by cases an <;> first | rfl | (cases ht; done)
  have ht' : trivO o.op = true := by
    unfold triv at ht
    split at ht
    · cases ht
    · cases ht
    · cases ht
    · exact ht
  clear ht
  have hy : yldOf o ev = none := by
    unfold yldOf
    split
    · rename_i ho
      rw [ho] at ht'
      cases ht'
    · rfl
  unfold stp at h
  rw [hy] at h
  simp only at h
  rw [hz] at h
  unfold stp0 at h
  clear hy
  generalize o.op = q at h ht'
  cases q <;> simp only [trivO, Bool.false_eq_true] at ht' <;> simp only at h
  case binOp op t x y t' =>
    split at h
    · split at h <;> (try cases h)
      rename_i c z h3
      have hc := fBin_triv h3 ht'
      split at h <;> cases h <;> exact outS_triv hc hi
    · split at h <;> (try cases h)
      split at h <;> (try cases h)
      split at h <;> cases h <;> exact outS_triv trivial hi
  case call c =>
    split at ht' <;> (try cases ht')
    repeat' split at h
    all_goals (first | (cases h; trivial) | (cases h; simp_all; done) | cases h)
  all_goals (repeat' split at h)
  all_goals (first | (cases h; trivial) | (cases h; exact outS_triv trivial hi) | (cases h; done) | cases h)
/-- A guard's value: a bool, or nothing. -/
def gOf : Option AV → Option (Option Bool)
  | some (.c ⟨false, [.bool b]⟩) => some (some b)
  | some (.t []) => some none
  | _ => none
theorem gOf_b {o : Option AV} {b : Bool} (h : gOf o = some (some b)) : sv o = some (.bool b) := by
  unfold gOf at h
  split at h <;> cases h
  rfl
theorem gOf_u {o : Option AV} (h : gOf o = some none) : o = some (.t []) := by
  unfold gOf at h
  split at h <;> cases h
  rfl
/-- One operation, if it is wanted. -/
noncomputable def step1 (P : Program) (ops : Array Oper) (an : An) (nm : Nat) (o : Oper) (env : Nat → Option AV) (bl : Nat → Option Blk) : Option Out :=
  match o.guard with
  | none => stp P an nm o (evO env) bl
  | some (j, want) => match ops[j]? with
    | some oj => match oj.dst with
      | some t => match gOf (env t) with
        | some (some b) => match b, want with
          | true, true => stp P an nm o (evO env) bl
          | false, false => stp P an nm o (evO env) bl
          | _, _ => some ⟨True, some (.t []), []⟩
        | some none => some ⟨True, some (.t []), []⟩
        | none => none
      | none => none
    | none => none
/-- Is an operation's value told of a guard that is met? (else it asks for nothing.) -/
def wantedIs (ops : Array Oper) (o : Oper) (env : Nat → Option AV) : Bool :=
  match o.guard with
  | none => true
  | some (j, want) => match ops[j]? with
    | some oj => match oj.dst with
      | some t => match gOf (env t) with
        | some (some b) => match b, want with | true, true => true | false, false => true | _, _ => false
        | some none => false
        | none => true
      | none => true
    | none => true
theorem evO_ns {env : Nat → Option AV} {st : St} (h : ∀ t v, env t = some v → st.e t = some v) (x : Operand) (u : AV) (hx : evO env x = some u) : ∀ b ∈ u.ns, st.has b := by
  intro b hb
  cases x <;> simp only [evO] at hx
  case tmp t => exact .inl ⟨t, u, h t u hx, hb⟩
  case const v =>
    split at hx <;> cases hx
    rename_i y hy
    have none_ : ∀ {v : Value} {x : SV}, dcSV v = some x → x.ns = [] := fun h => by unfold dcSV at h; split at h <;> cases h <;> rfl
    exfalso
    have : y.ns = [] := by
      unfold dcCV at hy
      split at hy
      · split at hy <;> cases hy
        rename_i cs l hl
        simp only [CV.ns, List.flatMap_eq_nil_iff]
        intro z hz
        obtain ⟨v, _, e⟩ := mapO_mem hl z hz
        exact none_ e
      · split at hy <;> cases hy
        rename_i z hz
        simp [CV.ns, none_ hz]
    rw [show AV.ns (.c y) = y.ns from rfl, this] at hb
    cases hb
  case func f => cases hx; simp [AV.ns, CV.ns, SV.ns] at hb
  case global => cases hx
theorem step1_wp {ρ : Option Nat} {P : Program} {ops : Array Oper} {an : An} {nm : Nat} {o : Oper} {env : Nat → Option AV} {bl : Nat → Option Blk} {out : Out} (h : step1 P ops an nm o env bl = some out) {E : Ent} {st : St} {m : Mp} {a : Act} {w : World} (ok : OK E st m a w) (henv : ∀ t v, env t = some v → st.e t = some v) (hbl : ∀ b B, bl b = some B → st.b b = some B) (hnw : ∀ n ∈ nws nm, ¬ st.has n ∧ 100 ≤ n) (hd : ∀ d, o.dst = some d → d < E.n) (hc : out.c) (K : Act → World → Prop) (Q : Exit → Act → World → Prop) (hK : ∀ a' w' m', OK E (st.app o.dst out) m' a' w' → K a' w') :
    if Region.wanted o (yielded ops a.tmps) = true then o.wpIn (Fz ρ) 0 P a w K Q else (∀ f, o.about P w a.eval = some f → (Fz ρ).fn f) ∧ K (a.put o.dst undef) w := by
  have run : stp P an nm o (evO env) bl = some out → o.wpIn (Fz ρ) 0 P a w K Q := fun h => (stp_does h ρ E st m a w ok (fun x u hx => evO_R (fun t v ht => ok.env t v (henv t v ht)) x u hx) hbl hnw (evO_ns henv) hd hc K Q hK)
  unfold step1 at h
  split at h
  · rename_i hg
    simp only [Region.wanted, hg, if_true]
    exact run h
  · rename_i j want hg
    split at h <;> (try cases h)
    rename_i oj hj
    split at h <;> (try cases h)
    rename_i t ht
    have skip : ∀ v : Option Bool, yielded ops a.tmps j = v → v ≠ some want → out = ⟨True, some (.t []), []⟩ → if Region.wanted o (yielded ops a.tmps) = true then o.wpIn (Fz ρ) 0 P a w K Q else (∀ f, o.about P w a.eval = some f → (Fz ρ).fn f) ∧ K (a.put o.dst undef) w := fun v hy hne e => by
      subst e
      have hf : Region.wanted o (yielded ops a.tmps) = false := by
        simp only [Region.wanted, hg, hy]
        cases v with
        | none => rfl
        | some b => cases b <;> cases want <;> first | rfl | exact absurd rfl hne
      rw [hf, if_neg (by decide)]
      exact ⟨fun f _ => Fz_fn ρ f, hK _ _ m (ok.put o.dst (some (.t [])) undef hd fun x hx => by cases hx; exact ⟨#[], rfl, trivial⟩)⟩
    split at h
    · rename_i b hb
      have hv : a.tmps.getD t undef = .bool b := sv_R (w := w) (m := m) (gOf_b hb) (fun u hu => ok.env t u (henv t u hu))
      have hy : yielded ops a.tmps j = some b := by
        have : a.tmps[t]? = some (.bool b) := by
          cases hq : a.tmps[t]? with
          | none => rw [Array.getD_eq_getD_getElem?, hq] at hv; simp [undef] at hv
          | some v => rw [Array.getD_eq_getD_getElem?, hq] at hv; simp at hv; rw [hv]
        simp [yielded, hj, ht, this]
      have go : b = want → stp P an nm o (evO env) bl = some out → if Region.wanted o (yielded ops a.tmps) = true then o.wpIn (Fz ρ) 0 P a w K Q else (∀ f, o.about P w a.eval = some f → (Fz ρ).fn f) ∧ K (a.put o.dst undef) w := fun e h => by
        have ht : Region.wanted o (yielded ops a.tmps) = true := by
          simp only [Region.wanted, hg, hy, e]
          cases want <;> rfl
        rw [ht, if_pos rfl]
        exact run h
      cases b <;> cases want <;> simp only at h
      · exact go rfl h
      · cases h; exact skip _ hy (by decide) rfl
      · cases h; exact skip _ hy (by decide) rfl
      · exact go rfl h
    · rename_i hb
      cases h
      have hv := ok.env t _ (henv t _ (gOf_u hb))
      obtain ⟨vs, e, hf⟩ := hv
      have hvs : vs = #[] := by
        cases hl : vs.toList with
        | nil => rw [← Array.toArray_toList (xs := vs), hl]
        | cons x r => rw [hl] at hf; exact hf.elim
      subst hvs
      refine skip none ?_ (by simp) rfl
      cases hq : a.tmps[t]? with
      | none => simp [yielded, hj, ht, hq]
      | some v =>
        rw [Array.getD_eq_getD_getElem?, hq] at e
        simp at e
        subst e
        simp [yielded, hj, ht, hq]
    · cases h
def outNs (o : Out) : List Nat := (match o.v with | some v => v.ns | none => []) ++ o.ub.flatMap fun p => p.1 :: match p.2 with | some B => B.ns | none => []
end Go.Proofs.Ytfjdhdmbbfeigaa.Am
