/- slices.Clone: its contract. -/
import Derived.Test.YtfjdhdmbbfeigaaAm1
import Derived.Lib.LazyBuf
namespace Go.Proofs.Ytfjdhdmbbfeigaa.Am
set_option linter.unusedVariables false
set_option linter.unusedSimpArgs false
/-- Is a slice that is read nil? Both may be. -/
theorem AW.nilq {P : Program} {N : Nat} {id x d1 d2 : Nat} {st : St} {o1 o2 : Oper} {T T' E' : TypeId} {t : Ty} {l : List t.D} {Q : Exit → St → Prop}
    (h1 : o1.op = .move (.tmp x)) (g1 : o1.guard = none) (e1 : o1.dst = some d1) (h2 : o2.op = .binOp .eql T (.tmp d1) (.const (.slice none 0 0)) T') (g2 : o2.guard = none) (e2 : o2.dst = some d2) (n1 : d1 < N) (n2 : d2 < N)
    (hx : st.e x = some (V (.row t l))) (hT : P.underlying T = some (.slice E'))
    (q : ∀ b, (b = true → l = []) → Q .normal ((st.put (some d1) (some (V (.row t l)))).put (some d2) (some (V (.bool b))))) : AW none P N (.region id #[o1, o2] false) st Q := by
  intro E m a w hN ok
  refine wpIn_region_list ?_
  have w1 : ∀ o : Oper, o.guard = none → ∀ y, Region.wanted o y := fun o h y => by simp [Region.wanted, h]
  have row := ok.env x _ hx
  have row2 := sv_R (w := w) (m := m) (y := .row t l) (o := some (V (.row t l))) (v := a.tmps.getD x undef) rfl (fun u hu => by cases hu; exact row)
  obtain ⟨A, c, e, hr⟩ := (show ∃ A c, a.tmps.getD x undef = .slice A l.length c ∧ Row t.sz (t.K w m.S) w m.S A c l from row2)
  have run1 : (execOp a.eval o1).run P w = .ok (.value (a.tmps.getD x undef)) w := by simp [execOp, h1, Act.eval]
  show wpListIn _ _ _ _ _ [o1, o2] a w
  unfold wpListIn
  rw [if_pos (w1 o1 g1 _)]
  refine wpIn_of_wp (ρ := none) (by rw [h1]; intro c e; cases e) ?_
  unfold Oper.wp
  rw [run1, Oper.upon_value, e1]
  have ok1 := ok.put (some d1) (some (V (.row t l))) (a.tmps.getD x undef) (fun k hk => by cases hk; omega) (fun y hy => by cases hy; exact row)
  have ev1 : (a.put (some d1) (a.tmps.getD x undef)).eval (.tmp d1) = .slice A l.length c := by
    show (a.put (some d1) (a.tmps.getD x undef)).tmps.getD d1 undef = _
    rw [put_get (by rw [ok.tmps]; omega), if_pos rfl, e]
  have run2 : (execOp (a.put (some d1) (a.tmps.getD x undef)).eval o2).run P w = .ok (.value (.bool A.isNone)) w := by
    have hg := eqGuard_run (x := .row t l) (y := .nilsl) (P := P) (op := .eql) (t := T) (ox := .tmp d1) (oy := .const (.slice none 0 0)) (w := w) (m := m) (u := .slice A l.length c) (v := .slice none 0 0) ⟨A, c, rfl, hr⟩
    have ec : (a.put (some d1) (a.tmps.getD x undef)).eval (.const (.slice none 0 0)) = .slice none 0 0 := rfl
    generalize a.put (some d1) (a.tmps.getD x undef) = a2 at ev1 ec ⊢
    simp [execOp, h2, ev1, ec, hg, run_eql_slice_nil w T E' A l.length c hT]
  show wpListIn _ _ _ _ _ [o2] _ w
  unfold wpListIn
  rw [if_pos (w1 o2 g2 _)]
  refine wpIn_of_wp (ρ := none) (by rw [h2]; intro c e; cases e) ?_
  unfold Oper.wp
  rw [run2, Oper.upon_value, e2]
  have ok2 := ok1.put (some d2) (some (V (.bool A.isNone))) (.bool A.isNone) (fun k hk => by cases hk; omega) (fun y hy => by cases hy; exact CV.R_one (by simp only [SV.R]))
  refine ⟨_, m, q A.isNone (fun hb => ?_), ok2⟩
  cases A with
  | some ad => cases hb
  | none =>
    rcases Nat.eq_zero_or_pos l.length with h0 | h0
    · exact List.eq_nil_of_length_eq_zero h0
    · obtain ⟨ad, e, -⟩ := hr.2.2 h0
      cases e
def keepK (P : Program) (fn : Func) (s : Sig) (e : Exit) (ov : St) : Option s.O :=
  match isEnd e with
  | true => (match resOf P (ov.ap ⟨[], []⟩) fn.results.toList with
    | some v => tell (X := Unit) s.ot ⟨[(0, v)], (ov.ap ⟨[], []⟩).blk⟩ ⟨[], []⟩ ()
    | none => none)
  | false => none
theorem keepK_ok {P : Program} {fn : Func} {s : Sig} {e : Exit} {ov : St} {r : s.O} (h : keepK P fn s e ov = some r) : QX P fn s r e (ov.ap ⟨[], []⟩) := by
  unfold keepK at h
  split at h <;> (try cases h)
  rename_i hend
  split at h <;> (try cases h)
  rename_i v hv
  exact ⟨hend, v, hv, h⟩
@[reducible] def cloneS (t : Ty) (o : TA) (ob : List (Nat × TB)) : Sig := ⟨[.c false [.row t]], [], o, ob⟩
/-- The state behind the test. -/
def cloneT (t : Ty) (l : List t.D) (b : Bool) : St := ⟨[(4, V (.bool b)), (3, V (.row t l)), (2, V .nilsl), (0, V (.row t l))], []⟩
/-- A function of the form of slices.Clone. -/
theorem Spec.clone {P : Program} {f : FuncId} {fn : Func} {t : Ty} {T T' E' : TypeId} {i1 : Nat} {r0 cnd r3 : Code} {o1 o2 : Oper} {o : TA} {ob : List (Nat × TB)} {c : List t.D → Prop} [∀ l, Decidable (c l)] {g : List t.D → (cloneS t o ob).O} (hob : nodupN (keyN ob) = true)
    (hf : P.funcs[f]? = some fn) (hb : fn.body = some (.seq r0 (.seq (.seq (.region i1 #[o1, o2] false) cnd) r3))) (hn : fn.ntmps = 8)
    (h1 : o1.op = .move (.tmp 0)) (g1 : o1.guard = none) (e1 : o1.dst = some 3) (h2 : o2.op = .binOp .eql T (.tmp 3) (.const (.slice none 0 0)) T') (g2 : o2.guard = none) (e2 : o2.dst = some 4) (hT : P.underlying T = some (.slice E'))
    (l0 : (labs 8 r0 .d).map (·.1) = (labs 8 r0 .d).map (·.2)) (l1 : (labs 8 cnd .d).map (·.1) = (labs 8 cnd .d).map (·.2)) (l3 : (labs 8 r3 .d).map (·.1) = (labs 8 r3 .d).map (·.2))
    (k0 : ∀ l : List t.D, ex P 8 0 [] true r0 .d ⟨[(0, V (.row t l))], []⟩ ⟨[], []⟩ (fun e ov => some (e, ov)) = some (.normal, ⟨[(2, V .nilsl), (0, V (.row t l))], []⟩))
    (k1 : ∀ l : List t.D, ex P 8 0 [] true cnd .d (cloneT t l true) ⟨[], []⟩ (fun e ov => match e with | .normal => none | e => keepK P fn (cloneS t o ob) e ov) = some (g []))
    (k2 : ∀ l : List t.D, ex P 8 0 [] true cnd .d (cloneT t l false) ⟨[], []⟩ (fun e ov => some (e, ov)) = some (.normal, cloneT t l false))
    (k3 : ∀ l : List t.D, ex P 8 0 [] true r3 .d (cloneT t l false) ⟨[], []⟩ (keepK P fn (cloneS t o ob)) = ask (c l) (some (g l)))
    {d : (cloneS t o ob).I} {r : (cloneS t o ob).O} (h : ask (c d.1) (some (g d.1)) = some r) : Spec P (.fn f) ((cloneS t o ob).args d) ((cloneS t o ob).bl d) ((cloneS t o ob).res r) ((cloneS t o ob).bl' r) := by
  obtain ⟨l, u⟩ := d
  have h' := h
  rw [ask_some] at h'
  obtain ⟨hc, hr⟩ := h'
  cases hr
  refine Spec.ofAW hf hb rfl hob ?_
  rw [hn]
  have e0 : ((⟨num 0 ((cloneS t o ob).args (l, u)), somes ((cloneS t o ob).bl (l, u))⟩ : St).ap ⟨[], []⟩) = (⟨[(0, V (.row t l))], []⟩ : St).ap ⟨[], []⟩ := rfl
  rw [e0]
  refine .seq (ex_ok (fun _ => rfl) (Labs.of l0) (k0 l) fun e ov he => ?_)
  cases he
  refine .seq (.seq ?_)
  have ea : ∀ (x : List (Nat × AV)), (⟨x, []⟩ : St).ap ⟨[], []⟩ = ⟨x, []⟩ := fun x => by unfold St.ap; simp
  rw [ea]
  refine AW.nilq h1 g1 e1 h2 g2 e2 (by omega) (by omega) rfl hT fun b hb => ?_
  show AW none P 8 cnd (cloneT t l b) _
  have eb : cloneT t l b = (cloneT t l b).ap ⟨[], []⟩ := (ea _).symm
  rw [eb]
  cases b with
  | true =>
    refine ex_ok (fun _ => rfl) (Labs.of l1) (k1 l) fun e ov he => ?_
    have hl := hb rfl
    subst hl
    cases e
    case normal => cases he
    all_goals exact keepK_ok he
  | false =>
    refine ex_ok (fun _ => rfl) (Labs.of l1) (k2 l) fun e ov he => ?_
    cases he
    refine ex_ok (fun _ => rfl) (Labs.of l3) ((k3 l).trans h) fun e ov he => ?_
    exact keepK_ok he
end Go.Proofs.Ytfjdhdmbbfeigaa.Am
