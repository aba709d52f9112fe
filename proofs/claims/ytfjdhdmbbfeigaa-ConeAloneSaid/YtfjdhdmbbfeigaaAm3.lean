/- Maps whose keys and values are data. -/
import Derived.Test.YtfjdhdmbbfeigaaAmJ
namespace Go.Proofs.Ytfjdhdmbbfeigaa.Am
set_option linter.unusedVariables false
set_option linter.unusedSimpArgs false
/-- A kind of data, of a type. -/
def tyO (P : Program) : Nat → TypeId → Option Ty
  | 0, _ => none
  | n + 1, t => match P.underlying t with
    | some (.int k) => some (.int k)
    | some .bool => some .bool
    | some .string => some .str
    | some (.slice e) => match tyO P n e with | some t => some (.sl t) | none => none
    | some (.struct fs) => tyF (tyO P n) (fs.toList.map (·.type))
    | some (.array len e) => tyF (tyO P n) (List.replicate len e)
    | _ => none
where tyF (f : TypeId → Option Ty) : List TypeId → Option Ty
  | [] => none
  | [t] => f t
  | t :: r => match f t, tyF f r with | some a, some b => some (.pr a b) | _, _ => none
/-- Are two data alike? -/
def eqD : (t : Ty) → t.D → t.D → Bool
  | .int _, a, b => decide ((a : Int) = b)
  | .bool, a, b => (a : Bool) == b
  | .pr s t, x, y => eqD s x.1 y.1 && eqD t x.2 y.2
  | _, _, _ => false
def mhas {kt vt : Ty} : List (kt.D × vt.D) → kt.D → Bool
  | [], _ => false
  | p :: r, k => eqD kt k p.1 || mhas r k
def mget {kt vt : Ty} : List (kt.D × vt.D) → kt.D → vt.D → vt.D
  | [], _, z => z
  | p :: r, k, z => match eqD kt k p.1 with | true => p.2 | false => mget r k z
def mput {kt vt : Ty} : List (kt.D × vt.D) → kt.D → vt.D → List (kt.D × vt.D)
  | [], k, v => [(k, v)]
  | p :: r, k, v => match eqD kt k p.1 with | true => (k, v) :: r | false => p :: mput r k v
/-- Where a key stands. -/
def mat {kt vt : Ty} : List (kt.D × vt.D) → kt.D → Nat → Option Nat
  | [], _, _ => none
  | p :: r, k, i => match eqD kt k p.1 with | true => some i | false => mat r k (i + 1)
/-- So many ints of a kind, side by side. -/
def repN (k : IntKind) : Ty → Option Nat
  | .int k' => match decide (k' = k) with | true => some 1 | false => none
  | .pr (.int k') r => match decide (k' = k), repN k r with | true, some m => some (m + 1) | _, _ => none
  | _ => none
def keyL : (t : Ty) → t.D → List Int
  | .int _, (n : Int) => [n]
  | .pr (.int _) r, x => (x.1 : Int) :: keyL r x.2
  | _, _ => []
def keyK : Ty → IntKind
  | .int k => k
  | .pr (.int k) _ => k
  | _ => .i64
/-- Kinds of keys: an int; an array of ints. -/
def keyD (P : Program) (t : TypeId) (ka : Bool) (kt : Ty) : Bool :=
  match ka with
  | false => match kt with
    | .int k => match P.underlying t with | some (.int k') => decide (k' = k) | _ => false
    | _ => false
  | true => match P.underlying t with
    | some (.array n e) => match P.underlying e, P.info? e, repN (keyK kt) kt with | some (.int k), some i, some m => decide (k = keyK kt) && Nat.beq i.size 1 && Nat.beq m n | _, _, _ => false
    | _ => false
def keyV : Bool → (kt : Ty) → kt.D → Value
  | false, .int k, (n : Int) => .int k n
  | true, kt, x => .agg ((keyL kt x).map (Value.int (keyK kt))).toArray
  | _, _, _ => undef
theorem keyV_true (kt : Ty) (x : kt.D) : keyV true kt x = .agg ((keyL kt x).map (Value.int (keyK kt))).toArray := by
  cases kt <;> rfl
theorem repN_len {k : IntKind} : ∀ {kt : Ty} {m : Nat}, repN k kt = some m → ∀ x : kt.D, (keyL kt x).length = m
  | .int k', m, h, x => by
    simp only [repN] at h
    split at h <;> cases h
    rfl
  | .pr (.int k') r, m, h, x => by
    simp only [repN] at h
    split at h <;> cases h
    rename_i m' _ h2
    show (keyL r x.2).length + 1 = _
    rw [repN_len h2]
theorem repN_K {k : IntKind} {w : World} {S : Nat → Prop} : ∀ {kt : Ty} {m : Nat}, repN k kt = some m → ∀ {x : kt.D} {cs : List Value}, kt.K w S x cs → cs = (keyL kt x).map (Value.int k)
  | .int k', m, h, x, cs, hk => by
    simp only [repN] at h
    split at h <;> cases h
    rename_i hd
    have := of_decide_eq_true hd
    subst this
    exact hk
  | .pr (.int k') r, m, h, x, cs, hk => by
    simp only [repN] at h
    split at h <;> cases h
    rename_i m' hd h2
    have := of_decide_eq_true hd
    subst this
    obtain ⟨c1, c2, rfl, h3, h4⟩ := hk
    rw [show c1 = [Value.int k' x.1] from h3, repN_K h2 h4]
    rfl
theorem repN_eq {k : IntKind} : ∀ {kt : Ty} {m : Nat}, repN k kt = some m → ∀ (x y : kt.D), eqD kt x y = decide (keyL kt x = keyL kt y)
  | .int k', m, h, x, y => by simp [eqD, keyL]
  | .pr (.int k') r, m, h, x, y => by
    simp only [repN] at h
    split at h <;> cases h
    rename_i m' _ h2
    have ih := repN_eq h2 x.2 y.2
    show (decide ((x.1 : Int) = y.1) && eqD r x.2 y.2) = decide ((x.1 : Int) :: keyL r x.2 = y.1 :: keyL r y.2)
    rw [ih, ← Bool.decide_and]
    simp
theorem keyD_arr {P : Program} {t : TypeId} {kt : Ty} (h : keyD P t true kt = true) : ∃ n e i, P.underlying t = some (.array n e) ∧ P.underlying e = some (.int (keyK kt)) ∧ P.info? e = some i ∧ i.size = 1 ∧ repN (keyK kt) kt = some n := by
  simp only [keyD] at h
  split at h <;> (try cases h)
  rename_i n e hu
  split at h <;> (try cases h)
  rename_i k i m he hi hr
  simp only [Bool.and_eq_true, decide_eq_true_eq] at h
  obtain ⟨⟨rfl, h1⟩, h2⟩ := h
  have h2 := Nat.eq_of_beq_eq_true h2
  subst h2
  exact ⟨m, e, i, hu, he, hi, Nat.eq_of_beq_eq_true h1, hr⟩
theorem keyD_int {P : Program} {t : TypeId} {kt : Ty} (h : keyD P t false kt = true) : ∃ k, kt = .int k ∧ P.underlying t = some (.int k) := by
  simp only [keyD] at h
  split at h <;> (try cases h)
  rename_i k
  split at h <;> (try cases h)
  rename_i k' hu
  have := of_decide_eq_true h
  subst this
  exact ⟨_, rfl, hu⟩
theorem key_val {P : Program} {t : TypeId} {ka : Bool} {kt : Ty} (h : keyD P t ka kt = true) {w : World} {S : Nat → Prop} {x : kt.D} {u : Value} (hx : ∃ cs, kt.K w S x cs ∧ pack ka cs u) : u = keyV ka kt x := by
  obtain ⟨cs, hk, hp⟩ := hx
  cases ka with
  | false =>
    obtain ⟨k, rfl, -⟩ := keyD_int h
    rw [show cs = _ from hk] at hp
    have : [Value.int k x] = [u] := hp
    simp only [List.cons.injEq, and_true] at this
    exact this.symm
  | true =>
    obtain ⟨n, e, i, -, -, -, -, hr⟩ := keyD_arr h
    rw [repN_K hr hk] at hp
    rw [keyV_true]
    exact hp
theorem run_part {P : Program} {e : TypeId} {k : IntKind} {w : World} (he : P.underlying e = some (.int k)) {l : List Int} {j : Nat} (hj : j < l.length) : (part e (l.map (Value.int k)).toArray j).run P w = .ok (.int k l[j]) w := by
  simp [part, isAgg, run_underlying he, hj]
theorem check_run {P : Program} {t : TypeId} {ka : Bool} {kt : Ty} (h : keyD P t ka kt = true) {w : World} (x : kt.D) (em : Bool) : (Instr.checkKey em 10000 t (keyV ka kt x)).run P w = .ok () w := by
  cases ka with
  | false =>
    obtain ⟨k, rfl, hu⟩ := keyD_int h
    exact MapKept.run_checkKey hu (show MapKept.IsKey (.int k) (.int k x) from rfl) em 9999
  | true =>
    obtain ⟨n, e, i, hu, he, hi, hs, hr⟩ := keyD_arr h
    have hl := repN_len hr x
    rw [keyV_true]
    have hc : P.cellsOf e = 1 := by simp [Program.cellsOf, hi, hs]
    have el : ∀ (y : Int), (Instr.checkKey em 9999 e (.int (keyK kt) y)).run P w = .ok () w := fun y => MapKept.run_checkKey he (show MapKept.IsKey (.int (keyK kt)) (.int (keyK kt) y) from rfl) em 9998
    show (Instr.checkKey em (9999 + 1) t _).run P w = _
    rw [Instr.checkKey]
    simp only [Sem.run_bind, run_underlying hu, Result.andThen_ok, run_sizeOf w hi, hc]
    simp only [Std.Legacy.Range.forIn_eq_forIn_range', Std.Legacy.Range.size, Nat.sub_zero, Nat.add_one_sub_one, Nat.div_one]
    have hall : ∀ j ∈ List.range' 0 n, j < (keyL kt x).length := fun j hj => by
      rw [List.mem_range'] at hj
      obtain ⟨q, hq, rfl⟩ := hj
      omega
    generalize List.range' 0 n = is at hall ⊢
    induction is with
    | nil => simp
    | cons j is ih =>
      have hj := hall j List.mem_cons_self
      have ih := ih fun q hq => hall q (List.mem_cons_of_mem _ hq)
      simp [List.forIn_cons, run_sizeOf w hi, hc, run_part he hj, el] at ih ⊢
      exact ih
/-- An entry's key and value. -/
def EntD (w : World) (S : Nat → Prop) (ka : Bool) (kt : Ty) (va : Bool) (vt : Ty) (p : kt.D × vt.D) (e : MapEntry) : Prop := (∃ cs, kt.K w S p.1 cs ∧ pack ka cs e.key) ∧ ∃ cs, vt.K w S p.2 cs ∧ pack va cs e.val
/-- What a key's place tells. -/
def foundAt (es : List MapEntry) (i0 : Nat) (o : Option Nat) : Option (Nat × Value) := match o with | some j => (match es[j - i0]? with | some e => some (j, e.val) | none => none) | none => none
theorem mat_ge {kt vt : Ty} : ∀ {l : List (kt.D × vt.D)} {x : kt.D} {i j : Nat}, mat l x i = some j → i ≤ j ∧ j < i + l.length
  | [], _, _, _, h => by cases h
  | p :: r, x, i, j, h => by
    unfold mat at h
    split at h
    · cases h; simp
    · have := mat_ge h; simp; omega
theorem findNow_run {P : Program} {t : TypeId} {k : IntKind} (hu : P.underlying t = some (.int k)) {va : Bool} {vt : Ty} {w : World} {S : Nat → Prop} {x : Int} : ∀ {l : List (Int × vt.D)} {es : List MapEntry} (i : Nat), F2 (EntD w S false (.int k) va vt) l es → Instr.findNow (.int k) (.int k x) es i = some (foundAt es i (mat (kt := .int k) l x i))
  | [], [], i, _ => rfl
  | p :: l, e :: es, i, hf => by
    have hk : e.key = .int k p.1 := key_val (P := P) (t := t) (ka := false) (kt := .int k) (by simp [keyD, hu]) hf.1.1
    unfold Instr.findNow
    rw [hk]
    by_cases c : x = p.1
    · have e1 : eqD (.int k) x p.1 = true := decide_eq_true c
      have m1 : mat (kt := .int k) (p :: l) x i = some i := by unfold mat; rw [e1]
      rw [m1]
      simp [foundAt, Instr.sameNow, c]
    · have e1 : eqD (.int k) x p.1 = false := decide_eq_false c
      have ih := findNow_run hu (i + 1) hf.2 (x := x)
      simp only [Instr.sameNow, if_true, mat, e1, show (x == p.1) = false from beq_false_of_ne c]
      rw [ih]
      unfold foundAt
      cases hm : mat (kt := .int k) l x (i + 1) with
      | none => rfl
      | some j =>
        have := (mat_ge hm).1
        simp only
        rw [show j - i = (j - (i + 1)) + 1 by omega, List.getElem?_cons_succ]
  | [], _ :: _, _, hf => hf.elim
  | _ :: _, [], _, hf => hf.elim
theorem eqItems_run {P : Program} {e : TypeId} {k : IntKind} {w : World} (he : P.underlying e = some (.int k)) {l l' : List Int} : ∀ (is : List Nat), (∀ j ∈ is, j < l.length ∧ j < l'.length) → (Op.eqItems 9999 e 1 (l.map (Value.int k)).toArray (l'.map (Value.int k)).toArray is).run P w = .ok (is.all fun j => l[j]? == l'[j]?) w
  | [], _ => by simp [Op.eqItems]
  | j :: is, h => by
    obtain ⟨h1, h2⟩ := h j List.mem_cons_self
    have ih := eqItems_run he (w := w) is fun q hq => h q (List.mem_cons_of_mem _ hq)
    have el : ∀ y z : Int, (Op.equalIn 9999 e (.int k y) (.int k z)).run P w = .ok (y == z) w := fun y z => run_equalIn_int w _ _ _ _ _ _ he
    simp only [Op.eqItems, Sem.run_bind, Nat.mul_one, run_part he h1, run_part he h2, Result.andThen_ok, el]
    rw [List.all_cons, List.getElem?_eq_getElem h1, List.getElem?_eq_getElem h2]
    by_cases c : l[j] = l'[j]
    · simp [c, ih]
    · simp [c]
theorem equal_arr {P : Program} {t e : TypeId} {n : Nat} {k : IntKind} {i : TypeInfo} {w : World} (hu : P.underlying t = some (.array n e)) (he : P.underlying e = some (.int k)) (hi : P.info? e = some i) (hs : i.size = 1) {l l' : List Int} (h1 : l.length = n) (h2 : l'.length = n) : (Op.equal t (.agg (l.map (Value.int k)).toArray) (.agg (l'.map (Value.int k)).toArray)).run P w = .ok (decide (l = l')) w := by
  have hc : P.cellsOf e = 1 := by simp [Program.cellsOf, hi, hs]
  show (Op.equalIn (9999 + 1) t _ _).run P w = _
  rw [run_equalIn_array w 9999 _ _ hu hi, hc, eqItems_run he _ fun j hj => by have := List.mem_range.1 hj; omega]
  congr 1
  rw [Bool.eq_iff_iff, decide_eq_true_eq, List.all_eq_true]
  constructor
  · intro q
    refine List.ext_getElem? fun j => ?_
    by_cases c : j < n
    · exact eq_of_beq (q j (List.mem_range.2 c))
    · rw [List.getElem?_eq_none (by omega), List.getElem?_eq_none (by omega)]
  · rintro rfl j _
    exact beq_self_eq_true _
theorem asking_run {P : Program} {t : TypeId} {kt : Ty} (h : keyD P t true kt = true) {va : Bool} {vt : Ty} {w : World} {S : Nat → Prop} {x : kt.D} : ∀ {l : List (kt.D × vt.D)} {es : List MapEntry} (j : Nat), F2 (EntD w S true kt va vt) l es → (Instr.findAsking t (keyV true kt x) es j).run P w = .ok (foundAt es j (mat (kt := kt) l x j)) w
  | [], [], j, _ => by simp [Instr.findAsking, foundAt, mat]
  | p :: l, en :: es, j, hf => by
    obtain ⟨n, e, i, hu, he, hi, hs, hr⟩ := keyD_arr h
    have hk : en.key = keyV true kt p.1 := key_val h hf.1.1
    have ih := asking_run h (x := x) (j + 1) hf.2
    have heq := equal_arr (w := w) hu he hi hs (repN_len hr x) (repN_len hr p.1)
    rw [← repN_eq hr] at heq
    unfold Instr.findAsking
    rw [hk]
    rw [keyV_true] at ih ⊢
    rw [keyV_true]
    simp only [Sem.run_bind, heq, Result.andThen_ok]
    cases c : eqD kt x p.1 with
    | true =>
      have m1 : mat (kt := kt) (p :: l) x j = some j := by unfold mat; rw [c]
      rw [m1]
      simp [foundAt]
    | false =>
      have m1 : mat (kt := kt) (p :: l) x j = mat (kt := kt) l x (j + 1) := by conv => lhs; unfold mat; rw [c]
      rw [m1]
      simp only [Bool.false_eq_true, if_false]
      rw [ih]
      unfold foundAt
      cases hm : mat (kt := kt) l x (j + 1) with
      | none => rfl
      | some q =>
        have := (mat_ge hm).1
        simp only
        rw [show q - j = (q - (j + 1)) + 1 by omega, List.getElem?_cons_succ]
  | [], _ :: _, _, hf => hf.elim
  | _ :: _, [], _, hf => hf.elim
theorem find_run {P : Program} {t : TypeId} {ka : Bool} {kt : Ty} (h : keyD P t ka kt = true) {va : Bool} {vt : Ty} {w : World} {S : Nat → Prop} {x : kt.D} {l : List (kt.D × vt.D)} {es : List MapEntry} (hf : F2 (EntD w S ka kt va vt) l es) : (Instr.findKey t (keyV ka kt x) es).run P w = .ok (foundAt es 0 (mat l x 0)) w := by
  cases ka with
  | false =>
    obtain ⟨k, rfl, hu⟩ := keyD_int h
    exact MapKept.run_findKey hu (findNow_run hu 0 hf)
  | true =>
    obtain ⟨n, e, i, hu, he, hi, hs, hr⟩ := keyD_arr h
    have ha := asking_run h (x := x) 0 hf
    unfold Instr.findKey
    simp only [Sem.run_bind, run_underlying hu, Result.andThen_ok]
    cases es with
    | nil =>
      cases l with
      | nil => simp [Instr.findNow, foundAt, mat]
      | cons p l => exact hf.elim
    | cons en es =>
      have : Instr.findNow (.array n e) (keyV true kt x) (en :: es) 0 = none := by
        rw [keyV_true]
        simp [Instr.findNow, Instr.sameNow]
      rw [this]
      exact ha
/-- A value as data. -/
def datC (g : Bool) (t : Ty) (y : CV) : Option t.D := match decide (y.g = g), dec t y.l with | true, some (x, []) => some x | _, _ => none
theorem datC_R {w : World} {m : Mp} {g : Bool} {t : Ty} {y : CV} {x : t.D} {u : Value} (h : datC g t y = some x) (hr : y.R w m u) : ∃ cs, t.K w m.S x cs ∧ pack g cs u := by
  unfold datC at h
  split at h <;> cases h
  rename_i hg hd
  have hg := of_decide_eq_true hg
  unfold CV.R at hr
  cases g with
  | true =>
    rw [if_pos hg] at hr
    obtain ⟨vs, rfl, hf⟩ := hr
    obtain ⟨v1, v2, e, hk, h2⟩ := dec_R t hd hf
    match v2, h2 with
    | [], _ =>
      refine ⟨v1, hk, ?_⟩
      show Value.agg vs = .agg v1.toArray
      rw [List.append_nil] at e
      rw [← e, Array.toArray_toList]
  | false =>
    rw [if_neg (by rw [hg]; decide)] at hr
    obtain ⟨z, e, hz⟩ := hr
    rw [e] at hd
    obtain ⟨v1, v2, e2, hk, h2⟩ := dec_R (vs := [u]) t hd ⟨hz, trivial⟩
    match v2, h2 with
    | [], _ => exact ⟨v1, hk, by rw [List.append_nil] at e2; exact e2.symm⟩
theorem encC_R {w : World} {m : Mp} {g : Bool} {t : Ty} {x : t.D} {u : Value} (h : ∃ cs, t.K w m.S x cs ∧ pack g cs u) : (⟨g, enc t x⟩ : CV).R w m u := by
  obtain ⟨cs, hk, hp⟩ := h
  have hf := enc_R t hk
  unfold CV.R
  cases g with
  | true =>
    rw [if_pos rfl]
    exact ⟨cs.toArray, hp, hf⟩
  | false =>
    rw [if_neg (by simp)]
    have hp : cs = [u] := hp
    subst hp
    revert hf
    generalize enc t x = l
    intro hf
    match l, hf with
    | [y], hf => exact ⟨y, rfl, hf.1⟩
    | [], hf => exact hf.elim
    | _ :: _ :: _, hf => exact hf.2.elim
theorem mat_some {kt vt : Ty} {x : kt.D} {z : vt.D} : ∀ {l : List (kt.D × vt.D)} {i j : Nat}, mat l x i = some j → ∃ p, l[j - i]? = some p ∧ mget l x z = p.2 ∧ mhas l x = true ∧ eqD kt x p.1 = true
  | [], _, _, h => by cases h
  | p :: l, i, j, h => by
    unfold mat at h
    unfold mget mhas
    cases c : eqD kt x p.1 with
    | true =>
      rw [c] at h
      cases h
      exact ⟨p, by simp, rfl, rfl, c⟩
    | false =>
      rw [c] at h
      obtain ⟨q, h1, h2, h3, h4⟩ := mat_some (z := z) h
      have := (mat_ge h).1
      refine ⟨q, ?_, h2, by simpa using h3, h4⟩
      rw [show j - i = (j - (i + 1)) + 1 by omega, List.getElem?_cons_succ]
      exact h1
theorem mat_none {kt vt : Ty} {x : kt.D} {z v : vt.D} : ∀ {l : List (kt.D × vt.D)} {i : Nat}, mat l x i = none → mget l x z = z ∧ mhas l x = false ∧ mput l x v = l ++ [(x, v)]
  | [], _, h => ⟨rfl, rfl, rfl⟩
  | p :: l, i, h => by
    unfold mat at h
    unfold mget mhas mput
    cases c : eqD kt x p.1 with
    | true => rw [c] at h; cases h
    | false =>
      rw [c] at h
      obtain ⟨h1, h2, h3⟩ := mat_none (z := z) (v := v) h
      exact ⟨h1, by simpa using h2, by simp [h3]⟩
theorem F2_get {α β : Type} {R : α → β → Prop} : ∀ {l : List α} {k : List β} {j : Nat} {a : α}, F2 R l k → l[j]? = some a → ∃ b, k[j]? = some b ∧ R a b
  | x :: l, y :: k, 0, a, hf, h => by cases h; exact ⟨y, rfl, hf.1⟩
  | x :: l, y :: k, j + 1, a, hf, h => by
    simp only [List.getElem?_cons_succ] at h ⊢
    exact F2_get hf.2 h
  | [], [], _, _, _, h => by cases h
  | [], _ :: _, _, _, hf, _ => hf.elim
  | _ :: _, [], _, _, hf, _ => hf.elim
theorem mput_F2 {kt vt : Ty} {R : kt.D × vt.D → MapEntry → Prop} {x : kt.D} {v : vt.D} {f : MapEntry → MapEntry} : ∀ {l : List (kt.D × vt.D)} {es : List MapEntry} {i j : Nat}, mat l x i = some j → F2 R l es → (∀ p e, p ∈ l → R p e → eqD kt x p.1 = true → R (x, v) (f e)) → F2 R (mput l x v) (es.modify (j - i) f)
  | p :: l, e :: es, i, j, h, hf, hR => by
    unfold mat at h
    unfold mput
    cases c : eqD kt x p.1 with
    | true =>
      rw [c] at h
      cases h
      rw [Nat.sub_self]
      exact ⟨hR p e List.mem_cons_self hf.1 c, hf.2⟩
    | false =>
      rw [c] at h
      have := (mat_ge h).1
      rw [show j - i = (j - (i + 1)) + 1 by omega, List.modify_succ_cons]
      exact ⟨hf.1, mput_F2 h hf.2 fun p e hp => hR p e (List.mem_cons_of_mem _ hp)⟩
  | [], _, _, _, h, _, _ => by cases h
  | _ :: _, [], _, _, _, hf, _ => hf.elim
theorem eqD_key {P : Program} {t : TypeId} {ka : Bool} {kt : Ty} (h : keyD P t ka kt = true) {x y : kt.D} (e : eqD kt x y = true) : keyV ka kt x = keyV ka kt y ∧ ∀ n, Instr.sameBits (n + 1) (keyV ka kt x) (keyV ka kt y) = true := by
  cases ka with
  | false =>
    obtain ⟨k, rfl, hu⟩ := keyD_int h
    have e : x = y := of_decide_eq_true e
    subst e
    exact ⟨rfl, fun n => by simp [keyV, Instr.sameBits]⟩
  | true =>
    obtain ⟨m, e', i, hu, he, hi, hs, hr⟩ := keyD_arr h
    rw [repN_eq hr] at e
    have e := of_decide_eq_true e
    rw [keyV_true, keyV_true, e]
    refine ⟨rfl, fun n => ?_⟩
    have all : ∀ l : List Int, ((l.map (Value.int (keyK kt))).zip (l.map (Value.int (keyK kt)))).all (fun p => Instr.sameBits n p.1 p.2) = true := fun l => by
      induction l with
      | nil => rfl
      | cons a l ih =>
        simp only [List.map_cons, List.zip_cons_cons, List.all_cons, ih, Bool.and_true]
        cases n <;> simp [Instr.sameBits]
    simp only [Instr.sameBits, beq_self_eq_true, Bool.true_and]
    exact all _
theorem eqD_self {P : Program} {t : TypeId} {ka : Bool} {kt : Ty} (h : keyD P t ka kt = true) (x : kt.D) : eqD kt x x = true := by
  cases ka with
  | false =>
    obtain ⟨k, rfl, hu⟩ := keyD_int h
    exact decide_eq_true rfl
  | true =>
    obtain ⟨m, e', i, hu, he, hi, hs, hr⟩ := keyD_arr h
    rw [repN_eq hr]
    exact decide_eq_true rfl
def zeroD (P : Program) (t : TypeId) (va : Bool) (vt : Ty) : Option vt.D := match P.info? t with
  | some inf => match inf.zero with
    | some z => match dcCV z with | some y => datC va vt y | none => none
    | none => none
  | none => none
theorem zeroD_run {P : Program} {t : TypeId} {va : Bool} {vt : Ty} {d : vt.D} {w : World} (m : Mp) (h : zeroD P t va vt = some d) : ∃ z, (zeroValue t).run P w = .ok z w ∧ ∃ cs, vt.K w m.S d cs ∧ pack va cs z := by
  unfold zeroD at h
  split at h <;> (try cases h)
  rename_i inf hinf
  split at h <;> (try cases h)
  rename_i z hz
  split at h <;> (try cases h)
  rename_i y hy
  exact ⟨z, by simp [zeroValue, typeInfo, hinf, hz], datC_R h (dcCV_R hy w m)⟩
/-- A look-up in a map of data. -/
def fLookD (P : Program) (bl : Nat → Option Blk) (t : TypeId) (x : SV) (i : CV) (ok : Bool) : Option AV :=
  match P.underlying t, x with
  | some (.map k0 et), .map b => match bl b with
    | some (.map ka kt va vt l) => match keyD P k0 ka kt, datC ka kt i, zeroD P et va vt with
      | true, some k, some z => some (lookV ok ⟨va, enc vt (mget l k z)⟩ (mhas l k))
      | _, _, _ => none
    | _ => none
  | _, _ => none
/-- An entry more, or anew. -/
def fInsD (P : Program) (bl : Nat → Option Blk) (t : TypeId) (x : SV) (i y : CV) : Option (Nat × Blk) :=
  match P.underlying t, x with
  | some (.map k0 _), .map b => match bl b with
    | some (.map ka kt va vt l) => match keyD P k0 ka kt, datC ka kt i, datC va vt y with
      | true, some k, some v => some (b, .map ka kt va vt (mput l k v))
      | _, _, _ => none
    | _ => none
  | _, _ => none
/-- A map's kinds, if it is of data. -/
def mapD (P : Program) (t : TypeId) : Option (Bool × Ty × Bool × Ty) := match P.underlying t with
  | some (.map k e) => match tyO P 20 k, tyO P 20 e, isAggT P k, isAggT P e with
    | some kt, some vt, some ka, some va => match keyD P k ka kt with | true => some (ka, kt, va, vt) | false => none
    | _, _, _, _ => none
  | _ => none
section
variable {P : Program} {o : Oper} {ev : Operand → Option AV} {bl : Nat → Option Blk} {nw : List Nat}
theorem does_makeMapD {t : TypeId} {nb : Nat} {ka va : Bool} {kt vt : Ty} (ho : o.op = .makeMap t none) (hnb : nb ∈ nw) : Does P o ev bl nw ⟨True, some (V (.map nb)), [(nb, some (.map ka kt va vt []))]⟩ := .new hnb fun _ w m a hev _ =>
  ⟨.map #[] 0, 0, 0, .map (some w.heap.size), by simp [execOp, ho, Instr.makeMap], ⟨nl_set .., #[], 0, by rw [mu_set]; exact alloc_new w _, trivial⟩, CV.R_one (by simp only [SV.R, mu_set])⟩
theorem does_lookD {t : TypeId} {x i : Operand} {ok : Bool} {y : SV} {k : CV} {v : AV} (ho : o.op = .lookup t x i ok) (hx : sv (ev x) = some y) (hi : ev i = some (.c k)) (h : fLookD P bl t y k ok = some v) : Does P o ev bl nw ⟨True, some v, []⟩ := .val fun hc w m a hev hb => by
  have hxv := sv_R (w := w) (m := m) hx (fun u hu => hev x u hu)
  have hiv := hev i _ hi
  unfold fLookD at h
  split at h <;> (try cases h)
  rename_i k0 et b hu
  split at h <;> (try cases h)
  rename_i ka kt va vt l hB
  split at h <;> cases h
  rename_i kd z hk hd hz
  obtain ⟨hnl, es, cl, h1, h2⟩ := hb b _ hB
  have hxv : a.eval x = .map (some (m.mu b)) := hxv
  have hiv : a.eval i = keyV ka kt kd := key_val hk (datC_R hd hiv)
  have hgo := MapKept.run_getObj_map (P := P) h1
  have hf := find_run (P := P) (w := w) hk (x := kd) (va := va) (vt := vt) h2
  obtain ⟨zv, hz1, hz2⟩ := zeroD_run (w := w) m hz
  cases hm : mat l kd 0 with
  | none =>
    obtain ⟨g1, g2, -⟩ := mat_none (z := z) (v := z) hm
    rw [hm] at hf
    rw [g1, g2]
    refine ⟨_, ?_, lookV_R (encC_R hz2)⟩
    simp [execOp, ho, Instr.lookup, run_underlying hu, hxv, hiv, hgo, check_run hk, hf, foundAt, hz1]
  | some j =>
    obtain ⟨p, g0, g1, g2, -⟩ := mat_some (z := z) hm
    obtain ⟨e, q1, q2⟩ := F2_get h2 g0
    rw [hm] at hf
    rw [g1, g2]
    refine ⟨_, ?_, lookV_R (encC_R q2.2)⟩
    have q1 : es.toList[j]? = some e := by simpa using q1
    have q1' : es[j]? = some e := by simpa using q1
    simp [execOp, ho, Instr.lookup, run_underlying hu, hxv, hiv, hgo, check_run hk, hf, foundAt, q1']
theorem does_insD {t : TypeId} {a1 a2 a3 : Operand} {x : SV} {i y : CV} {b : Nat} {B' : Blk} (ho : o.op = .insert t a1 a2 a3 ∨ o.op = .mapUpdate t a1 a2 a3) (h1 : sv (ev a1) = some x) (h2 : ev a2 = some (.c i)) (h3 : ev a3 = some (.c y)) (h : fInsD P bl t x i y = some (b, B')) : Does P o ev bl nw ⟨True, none, [(b, some B')]⟩ := by
  intro E st m a w ok hev hbl hnw hns hd hc K Q hK
  have hx := sv_R h1 (fun u hu => hev a1 u hu)
  have hi := hev a2 _ h2
  have hy := hev a3 _ h3
  unfold fInsD at h
  split at h <;> (try cases h)
  rename_i k0 et b' hu
  split at h <;> (try cases h)
  rename_i ka kt va vt l hB
  split at h <;> cases h
  rename_i kd vd hk hdk hdv
  have hst := hbl b _ hB
  obtain ⟨hnl, es, cl, q1, q2⟩ := ok.blk b _ hst
  have hx : a.eval a1 = .map (some (m.mu b)) := hx
  have kk := datC_R hdk hi
  have vv := datC_R hdv hy
  have hi : a.eval a2 = keyV ka kt kd := key_val hk kk
  have hf := find_run (P := P) (w := w) hk (x := kd) (va := va) (vt := vt) q2
  have done : ∀ (es' : Array MapEntry) (cl' : Nat), (execOp a.eval o).run P w = .ok .skip { w with heap := w.heap.setIfInBounds (m.mu b) (.map es' cl') } → F2 (EntD w m.S ka kt va vt) (mput l kd vd) es'.toList → o.wp P a w K Q := fun es' cl' hrun hF => by
    have hh := MapKept.heap_set (o' := .map es' cl') q1
    have g : Goes w { w with heap := w.heap.setIfInBounds (m.mu b) (.map es' cl') } m m (fun _ => True) := ⟨fun k hk => hh.2 k fun e => (ok.own b _ hst hnl).1 (e ▸ hk), fun _ h => h, fun _ _ => rfl, fun _ _ => rfl, fun _ _ => rfl, fun _ _ => rfl⟩
    unfold Oper.wp
    rw [hrun, Oper.upon_skip]
    have hB' : Blk.R { w with heap := w.heap.setIfInBounds (m.mu b) (.map es' cl') } m b (.map ka kt va vt (mput l kd vd)) := by
      refine ⟨hnl, _, _, hh.1, hF.imp fun p e he => ?_⟩
      obtain ⟨⟨c1, k1, p1⟩, ⟨c2, k2, p2⟩⟩ := he
      exact ⟨⟨c1, Ty.K_still g.still g.sup kt k1, p1⟩, ⟨c2, Ty.K_still g.still g.sup vt k2, p2⟩⟩
    exact hK _ _ m ((ok.write hst hnl (by simp) hh.2 hB' ⟨rfl, rfl, rfl⟩).put o.dst none undef hd fun x hx => by cases hx)
  cases hm : mat l kd 0 with
  | none =>
    obtain ⟨-, -, g3⟩ := mat_none (z := vd) (v := vd) hm
    rw [hm] at hf
    have hset := MapKept.run_setObj_map (P := P) (.map (es.push { key := keyV ka kt kd, val := a.eval a3, born := cl }) (cl + 1)) q1
    refine done (es.push { key := keyV ka kt kd, val := a.eval a3, born := cl }) (cl + 1) ?_ ?_
    · rcases ho with ho | ho <;>
      simp [execOp, ho, Instr.mapUpdate, run_underlying hu, hx, hi, MapKept.run_getObj_map q1, check_run hk, hf, foundAt, hset]
    · rw [g3, Array.toList_push]
      exact F2.app q2 ⟨⟨by rw [← hi]; exact kk, vv⟩, trivial⟩
  | some j =>
    obtain ⟨p, g0, -, -, ge⟩ := mat_some (z := vd) hm
    obtain ⟨e, r1, r2⟩ := F2_get q2 g0
    rw [hm] at hf
    have r1 : es[j]? = some e := by simpa using r1
    have hkey : e.key = keyV ka kt p.1 := key_val hk r2.1
    have hsame := (eqD_key hk ge).1
    have hsb : Instr.sameBits 10000 e.key (keyV ka kt kd) = true := by
      rw [hkey, ← hsame]
      exact (eqD_key hk (eqD_self hk kd)).2 9999
    have hset := MapKept.run_setObj_map (P := P) (.map (es.modify j fun e => { e with key := keyV ka kt kd, val := a.eval a3 }) cl) q1
    refine done (es.modify j fun e => { e with key := keyV ka kt kd, val := a.eval a3 }) cl ?_ ?_
    · rcases ho with ho | ho <;>
      simp [execOp, ho, Instr.mapUpdate, run_underlying hu, hx, hi, MapKept.run_getObj_map q1, check_run hk, hf, foundAt, r1, Instr.keyThatStays, hsb, hset]
    · rw [Array.toList_modify]
      exact mput_F2 (j := j) hm q2 fun p' e' _ _ _ => ⟨by rw [← hi]; exact kk, vv⟩
end
end Go.Proofs.Ytfjdhdmbbfeigaa.Am
