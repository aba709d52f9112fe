/- '==' of structs; maps with literal keys. -/
import Derived.Test.YtfjdhdmbbfeigaaAmI
import Derived.Laws.StructEq
import Derived.MapKept
import Derived.ChangeKeysEq
namespace Go.Proofs.Ytfjdhdmbbfeigaa.Am
set_option linter.unusedVariables false
set_option linter.unusedSimpArgs false
def fEqFs (P : Program) (fE : TypeId → AV → AV → Option Bool) (x y : AV) : List Field → Option Bool
  | [] => some true
  | [f] => match f.name == "_", fPart P x f.type f.offset, fPart P y f.type f.offset with | false, some a, some b => fE f.type a b | _, _, _ => none
  | f :: g :: r => match f.name == "_", fPart P x f.type f.offset, fPart P y f.type f.offset, fEqFs P fE x y (g :: r) with
    | false, some a, some b, some s => (match fE f.type a b with | some r => some (r && s) | none => none)
    | _, _, _, _ => none
def fEqIs (P : Program) (fE : TypeId → AV → AV → Option Bool) (e : TypeId) (sz : Nat) (x y : AV) : List Nat → Option Bool
  | [] => some true
  | [i] => match fPart P x e (i * sz), fPart P y e (i * sz) with | some a, some b => fE e a b | _, _ => none
  | i :: j :: r => match fPart P x e (i * sz), fPart P y e (i * sz), fEqIs P fE e sz x y (j :: r) with
    | some a, some b, some s => (match fE e a b with | some r => some (r && s) | none => none)
    | _, _, _ => none
def fEq (P : Program) : Nat → TypeId → AV → AV → Option Bool
  | 0, _, _, _ => none
  | d + 1, t, x, y => match P.underlying t with
    | some (.int _) => match sv (some x), sv (some y) with | some (.int k a), some (.int k' b) => (match decide (k = k') with | true => some (a == b) | false => none) | _, _ => none
    | some .bool => match sv (some x), sv (some y) with | some (.bool a), some (.bool b) => some (a == b) | _, _ => none
    | some .string => match sv (some x), sv (some y) with | some (.str a), some (.str b) => some (a.toList == b.toList) | _, _ => none
    | some (.struct fs) => match P.stoodInHeld t, x, y with | false, .c ⟨true, _⟩, .c ⟨true, _⟩ => fEqFs P (fEq P d) x y fs.toList | _, _, _ => none
    | some (.array n e) => match P.info? e, x, y with | some _, .c ⟨true, _⟩, .c ⟨true, _⟩ => fEqIs P (fEq P d) e (P.cellsOf e) x y (List.range n) | _, _, _ => none
    | _ => none
theorem eqf_cons {P : Program} {d : Nat} {xs ys : Array Value} {f : Field} {fs : List Field} {a b : Value} {r s : Bool} {w : World} (hn : (f.name == "_") = false) (ha : (part f.type xs f.offset).run P w = .ok a w) (hb : (part f.type ys f.offset).run P w = .ok b w) (he : (Op.equalIn d f.type a b).run P w = .ok r w) (hr : (Op.eqFields d xs ys fs).run P w = .ok s w) : (Op.eqFields d xs ys (f :: fs)).run P w = .ok (r && s) w := by
  have hn' : f.name ≠ "_" := by simpa using hn
  rw [Op.eqFields]
  simp only [if_pos hn', Sem.run_bind, ha, hb, he, Result.andThen_ok]
  cases r
  · simp
  · simpa using hr
theorem fEqFs_run {P : Program} {d : Nat} {fE : TypeId → AV → AV → Option Bool} {w : World} {m : Mp} (hE : ∀ t a b r u v, fE t a b = some r → a.R w m u → b.R w m v → (Op.equalIn d t u v).run P w = .ok r w) {x y : AV} {xs ys : Array Value} (hx : x.R w m (.agg xs)) (hy : y.R w m (.agg ys)) : ∀ {fs : List Field} {r : Bool}, fEqFs P fE x y fs = some r → (Op.eqFields d xs ys fs).run P w = .ok r w
  | [], r, h => by cases h; simp [Op.eqFields]
  | [f], r, h => by
    simp only [fEqFs] at h
    split at h <;> (try cases h)
    rename_i a b hn ha hb
    obtain ⟨cs, e, u, h1, h2⟩ := fPart_run ha hx
    cases e
    obtain ⟨cs, e, v, h3, h4⟩ := fPart_run hb hy
    cases e
    have := eqf_cons (fs := []) (s := true) hn h1 h3 (hE _ _ _ _ _ _ h h2 h4) (by simp [Op.eqFields])
    rwa [Bool.and_true] at this
  | f :: g :: l, r, h => by
    simp only [fEqFs] at h
    split at h <;> (try cases h)
    rename_i a b s hn ha hb hs
    split at h <;> cases h
    rename_i r1 hr
    obtain ⟨cs, e, u, h1, h2⟩ := fPart_run ha hx
    cases e
    obtain ⟨cs, e, v, h3, h4⟩ := fPart_run hb hy
    cases e
    exact eqf_cons hn h1 h3 (hE _ _ _ _ _ _ hr h2 h4) (fEqFs_run hE hx hy hs)
theorem eqi_cons {P : Program} {d : Nat} {e : TypeId} {sz : Nat} {xs ys : Array Value} {i : Nat} {is : List Nat} {a b : Value} {r s : Bool} {w : World} (ha : (part e xs (i * sz)).run P w = .ok a w) (hb : (part e ys (i * sz)).run P w = .ok b w) (he : (Op.equalIn d e a b).run P w = .ok r w) (hr : (Op.eqItems d e sz xs ys is).run P w = .ok s w) : (Op.eqItems d e sz xs ys (i :: is)).run P w = .ok (r && s) w := by
  simp only [Op.eqItems, Sem.run_bind, ha, hb, he, Result.andThen_ok]
  cases r
  · simp
  · simpa using hr
theorem fEqIs_run {P : Program} {d : Nat} {fE : TypeId → AV → AV → Option Bool} {w : World} {m : Mp} (hE : ∀ t a b r u v, fE t a b = some r → a.R w m u → b.R w m v → (Op.equalIn d t u v).run P w = .ok r w) {e : TypeId} {sz : Nat} {x y : AV} {xs ys : Array Value} (hx : x.R w m (.agg xs)) (hy : y.R w m (.agg ys)) : ∀ {is : List Nat} {r : Bool}, fEqIs P fE e sz x y is = some r → (Op.eqItems d e sz xs ys is).run P w = .ok r w
  | [], r, h => by cases h; simp [Op.eqItems]
  | [i], r, h => by
    simp only [fEqIs] at h
    split at h <;> (try cases h)
    rename_i a b ha hb
    obtain ⟨cs, e, u, h1, h2⟩ := fPart_run ha hx
    cases e
    obtain ⟨cs, e, v, h3, h4⟩ := fPart_run hb hy
    cases e
    have := eqi_cons (is := []) (s := true) h1 h3 (hE _ _ _ _ _ _ h h2 h4) (by simp [Op.eqItems])
    rwa [Bool.and_true] at this
  | i :: j :: l, r, h => by
    simp only [fEqIs] at h
    split at h <;> (try cases h)
    rename_i a b s ha hb hs
    split at h <;> cases h
    rename_i r1 hr
    obtain ⟨cs, e, u, h1, h2⟩ := fPart_run ha hx
    cases e
    obtain ⟨cs, e, v, h3, h4⟩ := fPart_run hb hy
    cases e
    exact eqi_cons h1 h3 (hE _ _ _ _ _ _ hr h2 h4) (fEqIs_run hE hx hy hs)
theorem fEq_run {P : Program} {w : World} {m : Mp} (k : Nat) : ∀ (d : Nat) (t : TypeId) (x y : AV) (r : Bool) (u v : Value), fEq P d t x y = some r → x.R w m u → y.R w m v → (Op.equalIn (d + k) t u v).run P w = .ok r w
  | 0, t, x, y, r, u, v, h, hx, hy => by cases h
  | d + 1, t, x, y, r, u, v, h, hx, hy => by
    have one : ∀ {x : AV} {z : SV} {u : Value}, sv (some x) = some z → x.R w m u → z.R w m u := fun h hr => sv_R h fun _ e => by cases e; exact hr
    rw [show d + 1 + k = d + k + 1 by omega]
    simp only [fEq] at h
    split at h
    · rename_i q hu
      split at h <;> (try cases h)
      rename_i k1 a k2 b h1 h2
      split at h <;> cases h
      rename_i hk
      have hk := of_decide_eq_true hk
      subst hk
      have e1 : _ = _ := one h1 hx
      have e2 : _ = _ := one h2 hy
      rw [e1, e2, run_equalIn_int w _ _ _ _ _ _ hu]
    · rename_i hu
      split at h <;> cases h
      rename_i a b h1 h2
      have e1 : _ = _ := one h1 hx
      have e2 : _ = _ := one h2 hy
      rw [e1, e2, run_equalIn_bool' w _ _ _ _ hu]
    · rename_i hu
      split at h <;> cases h
      rename_i a b h1 h2
      have e1 : _ = _ := one h1 hx
      have e2 : _ = _ := one h2 hy
      rw [e1, e2, run_equalIn_string w _ _ _ _ hu]
    · rename_i fs hu
      split at h <;> (try cases h)
      rename_i l l' hp
      have hxa : ∃ xs, u = .agg xs := by obtain ⟨xs, e, _⟩ := hx; exact ⟨xs, e⟩
      have hya : ∃ ys, v = .agg ys := by obtain ⟨ys, e, _⟩ := hy; exact ⟨ys, e⟩
      obtain ⟨xs, rfl⟩ := hxa
      obtain ⟨ys, rfl⟩ := hya
      have hf : P.fieldsOf t = fs := by simp [Program.fieldsOf, hu]
      rw [run_equalIn_struct (P := P) w (d + k) t xs ys (by rw [hf]; exact hu) hp, hf]
      exact fEqFs_run (fun t a b r u v h h1 h2 => fEq_run k d t a b r u v h h1 h2) hx hy h
    · rename_i n e hu
      split at h <;> (try cases h)
      rename_i l l' hi
      have hxa : ∃ xs, u = .agg xs := by obtain ⟨xs, e, _⟩ := hx; exact ⟨xs, e⟩
      have hya : ∃ ys, v = .agg ys := by obtain ⟨ys, e, _⟩ := hy; exact ⟨ys, e⟩
      obtain ⟨xs, rfl⟩ := hxa
      obtain ⟨ys, rfl⟩ := hya
      rw [run_equalIn_array w (d + k) xs ys hu hi]
      exact fEqIs_run (fun t a b r u v h h1 h2 => fEq_run k d t a b r u v h h1 h2) hx hy h
    · cases h
/-- A new map. -/
theorem does_makeMap {P : Program} {o : Oper} {ev : Operand → Option AV} {bl : Nat → Option Blk} {nw : List Nat} {t : TypeId} {nb : Nat} (ho : o.op = .makeMap t none) (hnb : nb ∈ nw) : Does P o ev bl nw ⟨True, some (V (.map nb)), [(nb, some (.tab []))]⟩ := .new hnb fun _ w m a hev _ =>
  ⟨.map #[] 0, 0, 0, .map (some w.heap.size), by simp [execOp, ho, Instr.makeMap], ⟨nl_set .., #[], 0, by rw [mu_set]; exact alloc_new w _, trivial⟩, CV.R_one (by simp only [SV.R, mu_set])⟩
/-- A key that no entry has. -/
def tabNo (kk : IntKind) (n : Int) : List (SV × CV) → Bool
  | [] => true
  | (.int k m, _) :: r => decide (k = kk) && (!decide (n = m) && tabNo kk n r)
  | _ :: _ => false
/-- The entry at a place: what is so if a key is found there; its value. -/
def tabAt (kk : IntKind) (n : Int) : List (SV × CV) → Nat → Option (Cd × CV)
  | (.int k m, v) :: _, 0 => match decide (k = kk) with | true => some (⟨n = m⟩, v) | false => none
  | (.int k m, _) :: r, j + 1 => match decide (k = kk), tabAt kk n r j with | true, some (c, y) => some (⟨n ≠ m ∧ c.p⟩, y) | _, _ => none
  | _, _ => none
/-- What is so if no entry has a key. -/
def tabMiss (kk : IntKind) (n : Int) : List (SV × CV) → Option Cd
  | [] => some ⟨True⟩
  | (.int k m, _) :: r => match decide (k = kk), tabMiss kk n r with | true, some c => some ⟨n ≠ m ∧ c.p⟩ | _, _ => none
  | _ :: _ => none
abbrev EntR (w : World) (m : Mp) (p : SV × CV) (e : MapEntry) : Prop := p.1.R w m e.key ∧ p.2.R w m e.val
theorem same_int {kk : IntKind} {n m : Int} : Instr.sameNow (.int kk) (.int kk n) (.int kk m) = some (n == m) := by simp [Instr.sameNow]
theorem tabMiss_run {kk : IntKind} {n : Int} {w : World} {mm : Mp} : ∀ {l : List (SV × CV)} {es : List MapEntry} {c : Cd}, tabMiss kk n l = some c → c.p → F2 (EntR w mm) l es → ∀ i, Instr.findNow (.int kk) (.int kk n) es i = some none
  | [], [], _, _, _, _, i => rfl
  | p :: r, e :: es, c, h, hc, hf, i => by
    obtain ⟨x, v⟩ := p
    cases x <;> simp only [tabMiss] at h <;> (try cases h)
    rename_i k m
    split at h <;> cases h
    rename_i c' hk hm
    have hk := of_decide_eq_true hk
    subst hk
    have hk1 : e.key = .int k m := hf.1.1
    simp only [Instr.findNow, hk1, same_int, beq_false_of_ne hc.1]
    exact tabMiss_run hm hc.2 hf.2 (i + 1)
  | [], _ :: _, _, _, _, hf, _ => hf.elim
  | _ :: _, [], _, _, _, hf, _ => hf.elim
theorem tabAt_run {kk : IntKind} {n : Int} {w : World} {mm : Mp} : ∀ {l : List (SV × CV)} {es : List MapEntry} {j : Nat} {c : Cd} {y : CV}, tabAt kk n l j = some (c, y) → c.p → F2 (EntR w mm) l es → ∀ i, ∃ val, Instr.findNow (.int kk) (.int kk n) es i = some (some (i + j, val)) ∧ y.R w mm val
  | p :: r, e :: es, 0, c, y, h, hc, hf, i => by
    obtain ⟨x, v⟩ := p
    cases x <;> simp only [tabAt] at h <;> (try cases h)
    rename_i k m
    split at h <;> cases h
    rename_i hk
    have hk := of_decide_eq_true hk
    subst hk
    have hk1 : e.key = .int k m := hf.1.1
    refine ⟨e.val, ?_, hf.1.2⟩
    have hc : n = m := hc
    simp [Instr.findNow, hk1, same_int, hc]
  | p :: r, e :: es, j + 1, c, y, h, hc, hf, i => by
    obtain ⟨x, v⟩ := p
    cases x <;> simp only [tabAt] at h <;> (try cases h)
    rename_i k m
    split at h <;> cases h
    rename_i c' hk hm
    have hk := of_decide_eq_true hk
    subst hk
    have hk1 : e.key = .int k m := hf.1.1
    obtain ⟨val, q1, q2⟩ := tabAt_run hm hc.2 hf.2 (i + 1)
    refine ⟨val, ?_, q2⟩
    simp only [Instr.findNow, hk1, same_int, beq_false_of_ne hc.1]
    rw [q1]
    rw [show i + 1 + j = i + (j + 1) by omega]
  | [], _, _, _, _, h, _, _, _ => by simp [tabAt] at h
  | _ :: _, [], _, _, _, _, _, hf, _ => hf.elim
theorem tabNo_miss {kk : IntKind} {n : Int} : ∀ {l : List (SV × CV)}, tabNo kk n l = true → ∃ c, tabMiss kk n l = some c ∧ c.p
  | [], _ => ⟨⟨True⟩, rfl, trivial⟩
  | p :: r, h => by
    obtain ⟨x, v⟩ := p
    cases x <;> simp only [tabNo, Bool.and_eq_true, Bool.not_eq_true', Bool.false_eq_true, decide_eq_true_eq, decide_eq_false_iff_not] at h
    obtain ⟨c, h1, h2⟩ := tabNo_miss h.2.2
    refine ⟨⟨_ ∧ c.p⟩, ?_, h.2.1, h2⟩
    simp only [tabMiss, h1, decide_eq_true h.1]
def lookV (ok : Bool) (y : CV) (b : Bool) : AV := match ok with | true => .t [y, ⟨false, [.bool b]⟩] | false => .c y
/-- A look-up in a map, at a place, or at none. -/
def fLook (P : Program) (bl : Nat → Option Blk) (t : TypeId) (x i : SV) (ok : Bool) (j : Nat) : Option (Cd × AV) :=
  match P.underlying t, x, i with
  | some (.map kt et), .map b, .int kk n => match P.underlying kt, bl b with
    | some (.int kk'), some (.tab l) => match decide (kk' = kk), Nat.blt j l.length with
      | true, true => match tabAt kk n l j with | some (c, y) => some (c, lookV ok y true) | none => none
      | true, false => match P.info? et with
        | some inf => match inf.zero with
          | some z => match dcCV z, tabMiss kk n l with | some y, some c => some (c, lookV ok y false) | _, _ => none
          | none => none
        | none => none
      | _, _ => none
    | _, _ => none
  | _, _, _ => none
theorem lookV_R {w : World} {m : Mp} {ok : Bool} {y : CV} {b : Bool} {v : Value} (h : y.R w m v) : (lookV ok y b).R w m (if ok = true then .tuple #[v, .bool b] else v) := by
  cases ok with
  | true => exact ⟨_, rfl, h, CV.R_one rfl, trivial⟩
  | false => exact h
section
variable {P : Program} {o : Oper} {ev : Operand → Option AV} {bl : Nat → Option Blk} {nw : List Nat}
theorem does_lookup {t : TypeId} {x i : Operand} {ok : Bool} {y k : SV} {j : Nat} {c : Cd} {v : AV} (ho : o.op = .lookup t x i ok) (hx : sv (ev x) = some y) (hi : sv (ev i) = some k) (h : fLook P bl t y k ok j = some (c, v)) : Does P o ev bl nw ⟨c.p, some v, []⟩ := .val fun hc w m a hev hb => by
  have hxv := sv_R (w := w) (m := m) hx (fun u hu => hev x u hu)
  have hiv := sv_R (w := w) (m := m) hi (fun u hu => hev i u hu)
  unfold fLook at h
  split at h <;> (try cases h)
  rename_i kt et b kk n hu
  split at h <;> (try cases h)
  rename_i kk' l hk hB
  obtain ⟨hnl, es, cl, h1, h2⟩ := hb b _ hB
  have hxv : a.eval x = .map (some (m.mu b)) := hxv
  have hiv : a.eval i = .int kk n := hiv
  have hgo := MapKept.run_getObj_map (P := P) h1
  split at h <;> (try cases h)
  · rename_i hd hj
    have hd := of_decide_eq_true hd
    subst hd
    split at h <;> cases h
    rename_i y' ha
    obtain ⟨val, q1, q2⟩ := tabAt_run ha hc h2 0
    refine ⟨_, ?_, lookV_R q2⟩
    simp [execOp, ho, Instr.lookup, run_underlying hu, hxv, hiv, hgo, MapKept.run_checkKey hk (show MapKept.IsKey (.int kk') (.int kk' n) from rfl), MapKept.run_findKey hk q1]
  · rename_i hd hj
    have hd := of_decide_eq_true hd
    subst hd
    split at h <;> (try cases h)
    rename_i inf hinf
    split at h <;> (try cases h)
    rename_i z hz
    split at h <;> cases h
    rename_i y' c' hy hm
    have q1 := tabMiss_run hm hc h2 0
    refine ⟨_, ?_, lookV_R (dcCV_R hy w m)⟩
    simp [execOp, ho, Instr.lookup, run_underlying hu, hxv, hiv, hgo, MapKept.run_checkKey hk (show MapKept.IsKey (.int kk') (.int kk' n) from rfl), MapKept.run_findKey hk q1, zeroValue, typeInfo, hinf, hz]
/-- An entry more. -/
def fInsert (P : Program) (bl : Nat → Option Blk) (t : TypeId) (x i : SV) (y : CV) : Option (Nat × Blk) :=
  match P.underlying t, x, i with
  | some (.map kt _), .map b, .int kk n => match P.underlying kt, bl b with
    | some (.int kk'), some (.tab l) => match decide (kk' = kk) && tabNo kk n l with | true => some (b, .tab (l ++ [(.int kk n, y)])) | false => none
    | _, _ => none
  | _, _, _ => none
theorem does_insert {t : TypeId} {a1 a2 a3 : Operand} {x i : SV} {y : CV} {b : Nat} {B' : Blk} (ho : o.op = .insert t a1 a2 a3 ∨ o.op = .mapUpdate t a1 a2 a3) (h1 : sv (ev a1) = some x) (h2 : sv (ev a2) = some i) (h3 : ev a3 = some (.c y)) (h : fInsert P bl t x i y = some (b, B')) : Does P o ev bl nw ⟨True, none, [(b, some B')]⟩ := by
  intro E st m a w ok hev hbl hnw hns hd hc K Q hK
  have hx := sv_R h1 (fun u hu => hev a1 u hu)
  have hi := sv_R h2 (fun u hu => hev a2 u hu)
  have hy := hev a3 _ h3
  unfold fInsert at h
  split at h <;> (try cases h)
  rename_i kt et b' kk n hu
  split at h <;> (try cases h)
  rename_i kk' l hk hB
  split at h <;> cases h
  rename_i hcond
  simp only [Bool.and_eq_true, decide_eq_true_eq] at hcond
  obtain ⟨rfl, hno⟩ := hcond
  have hst := hbl b _ hB
  obtain ⟨hnl, es, cl, q1, q2⟩ := ok.blk b _ hst
  obtain ⟨c, m1, m2⟩ := tabNo_miss hno
  have q3 := tabMiss_run m1 m2 q2 0
  have hx : a.eval a1 = .map (some (m.mu b)) := hx
  have hi : a.eval a2 = .int kk' n := hi
  let w' : World := { w with heap := w.heap.setIfInBounds (m.mu b) (.map (es.push { key := .int kk' n, val := a.eval a3, born := cl }) (cl + 1)) }
  have hset := MapKept.run_setObj_map (P := P) (.map (es.push { key := .int kk' n, val := a.eval a3, born := cl }) (cl + 1)) q1
  have hrun : (execOp a.eval o).run P w = .ok .skip w' := by
    rcases ho with ho | ho <;>
    simp [execOp, ho, Instr.mapUpdate, run_underlying hu, hx, hi, MapKept.run_getObj_map q1, MapKept.run_checkKey hk (show MapKept.IsKey (.int kk') (.int kk' n) from rfl), MapKept.run_findKey hk q3, hset, w']
  have hh := MapKept.heap_set (o' := .map (es.push { key := .int kk' n, val := a.eval a3, born := cl }) (cl + 1)) q1
  have g : Goes w w' m m (fun _ => True) := ⟨fun k hk => hh.2 k fun e => (ok.own b _ hst hnl).1 (e ▸ hk), fun _ h => h, fun _ _ => rfl, fun _ _ => rfl, fun _ _ => rfl, fun _ _ => rfl⟩
  unfold Oper.wp
  rw [hrun, Oper.upon_skip]
  have hB' : Blk.R w' m b (.tab (l ++ [(.int kk' n, y)])) := by
    refine ⟨hnl, _, _, hh.1, ?_⟩
    rw [Array.toList_push]
    exact F2.app (q2.imp fun p e he => ⟨SV.R_goes g (fun _ _ => trivial) he.1, CV.R_goes g (fun _ _ => trivial) he.2⟩) ⟨⟨rfl, CV.R_goes g (fun _ _ => trivial) hy⟩, trivial⟩
  exact hK _ _ m ((ok.write hst hnl (by simp [w']) hh.2 hB' ⟨rfl, rfl, rfl⟩).put o.dst none undef hd fun x hx => by cases hx)
end
end Go.Proofs.Ytfjdhdmbbfeigaa.Am
