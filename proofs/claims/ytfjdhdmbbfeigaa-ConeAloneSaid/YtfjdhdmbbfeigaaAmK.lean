/- What a function makes of its arguments, whatever the world; calls. -/
import Derived.Test.YtfjdhdmbbfeigaaAm4
namespace Go.Proofs.Ytfjdhdmbbfeigaa.Am
set_option linter.unusedVariables false
set_option linter.unusedSimpArgs false
/-- What blocks a call is handed lie where. -/
def InO (m : Mp) (bl : List (Nat × Blk)) (k : Nat) : Prop := ∃ p ∈ bl, m.nl p.1 = false ∧ m.mu p.1 = k
/-- What is called: a function; the rounds of a range over a function. -/
inductive Key where
  | fn (f : FuncId) | yl (k : Nat)
def KRun (P : Program) : Key → List Value → World → (Ending → World → Prop) → Prop
  | .fn f, vs, w, R => Calls P f vs.toArray w R
  | .yl _, vs, w, R => ∃ l args f tmps x y, vs = Value.func (.yield l) #[] #[] :: args ∧ (Instr.yield l args.toArray).run P w = .ok (.round l f tmps x y) w ∧ RoundIn Fence.wide 0 P l f tmps x y w R
theorem KRun.mono {P : Program} {κ : Key} {vs : List Value} {w : World} {R R' : Ending → World → Prop} (h : KRun P κ vs w R) (hr : ∀ e w', R e w' → R' e w') : KRun P κ vs w R' := by
  cases κ with
  | fn f => exact Calls.mono h hr
  | yl k =>
    obtain ⟨l, args, f, tmps, x, y, h1, h2, h3⟩ := h
    exact ⟨l, args, f, tmps, x, y, h1, h2, h3.mono hr⟩
/-- A function's contract: of these arguments, with these blocks handed over, it comes to this result, with these blocks handed back. -/
def Spec (P : Program) (f : Key) (args : List AV) (bl : List (Nat × Blk)) (res : AV) (bl' : List (Nat × Blk)) : Prop :=
  ∀ (w : World) (m : Mp) (vs : List Value), F2 (AV.R w m) args vs → (∀ p ∈ bl, p.2.R w m p.1) → (∀ p ∈ bl, m.nl p.1 = false → ¬ m.S (m.mu p.1)) → (∀ p ∈ bl, ∀ q ∈ bl, m.nl p.1 = false → m.nl q.1 = false → m.mu p.1 = m.mu q.1 → p.1 = q.1) → (∀ k, m.S k → k < w.heap.size) →
    KRun P f vs w fun e w' => ∃ v m', e = .returned v ∧ res.R w' m' v ∧ (∀ p ∈ bl', p.2.R w' m' p.1) ∧ (∀ p ∈ bl', m'.nl p.1 = false → ¬ m'.S (m'.mu p.1) ∧ (w.heap.size ≤ m'.mu p.1 ∨ InO m bl (m'.mu p.1))) ∧ (∀ p ∈ bl', ∀ q ∈ bl', m'.nl p.1 = false → m'.nl q.1 = false → m'.mu p.1 = m'.mu q.1 → p.1 = q.1) ∧
      (∀ k, m'.S k → k < w'.heap.size) ∧ w.heap.size ≤ w'.heap.size ∧ (∀ k, k < w.heap.size → ¬ InO m bl k → w'.heap[k]? = w.heap[k]?) ∧ (∀ k, m.S k → m'.S k) ∧ (∀ k, m'.S k → m.S k ∨ w.heap.size ≤ k ∨ InO m bl k) ∧ (∀ p ∈ bl, m'.at_ p.1 = m.at_ p.1) ∧ Io w w'
/-- The state that a function begins in. -/
def num {α : Type} : Nat → List α → List (Nat × α)
  | _, [] => []
  | n, a :: r => (n, a) :: num (n + 1) r
theorem lk_num {α : Type} : ∀ {l : List α} {n t : Nat} {x : α}, lk (num n l) t = some x → n ≤ t ∧ l[t - n]? = some x
  | [], n, t, x, h => by simp [num, lk] at h
  | a :: r, n, t, x, h => by
    simp only [num] at h
    rw [lk_cons] at h
    split at h
    · rename_i e; subst e; cases h; exact ⟨Nat.le_refl _, by simp⟩
    · rename_i e
      obtain ⟨h1, h2⟩ := lk_num h
      refine ⟨by omega, ?_⟩
      rw [← h2, show t - n = (t - (n + 1)) + 1 by omega]
      rfl
def somes {α : Type} (bl : List (Nat × α)) : List (Nat × Option α) := bl.map fun p => (p.1, some p.2)
theorem lk_somes {α : Type} : ∀ {bl : List (Nat × α)} {b : Nat} {x : α}, (lk (somes bl) b).join = some x → (b, x) ∈ bl
  | [], b, x, h => by simp [somes, lk] at h
  | (c, y) :: r, b, x, h => by
    simp only [somes, List.map_cons] at h
    rw [lk_cons] at h
    split at h
    · rename_i e; subst e; cases h; exact List.mem_cons_self
    · exact List.mem_cons_of_mem _ (lk_somes h)
def st0 (args : List AV) (bl : List (Nat × Blk)) : St := ⟨num 0 args, somes bl⟩
/-- What a function's results are, in a state. -/
def resO (P : Program) (st : St) : List ResultVar → Option (List CV)
  | [] => some []
  | .tmp t :: r => match st.e t, resO P st r with | some (.c x), some l => some (x :: l) | _, _ => none
  | .cell t ty :: r => match sv (st.e t), resO P st r with
    | some x, some l => match fLoad P st.b ty x with | some (.c y) => some (y :: l) | _ => none
    | _, _ => none
def resOf (P : Program) (st : St) (rs : List ResultVar) : Option AV :=
  match resO P st rs with | some [x] => some (.c x) | some l => some (.t l) | none => none
def resF (tmps : Array Value) : ResultVar → Sem Value
  | .tmp t => pure (tmps.getD t undef)
  | .cell b t => do loadVar t (← asAddr (tmps.getD b undef))
theorem results_eq (fn : Func) (tmps : Array Value) : results fn tmps = (do let vs ← fn.results.mapM (resF tmps); pure (if h : vs.size = 1 then vs[0] else .tuple vs)) := rfl
theorem resO_run {P : Program} {E : Ent} {st : St} {m : Mp} {a : Act} {w : World} (ok : OK E st m a w) : ∀ {rs : List ResultVar} {l : List CV}, resO P st rs = some l → ∃ vs : List Value, (rs.mapM (m := Sem) (resF a.tmps)).run P w = .ok vs w ∧ F2 (CV.R w m) l vs
  | [], l, h => by cases h; exact ⟨[], by simp, trivial⟩
  | .tmp t :: r, l, h => by
    simp only [resO] at h
    split at h <;> cases h
    rename_i x l' hx hl
    obtain ⟨vs, h1, h2⟩ := resO_run ok hl
    refine ⟨a.tmps.getD t undef :: vs, ?_, ok.env t _ hx, h2⟩
    simp only [List.mapM_cons, resF, Sem.run_bind, Sem.run_pure, Result.andThen_ok, h1]
  | .cell t ty :: r, l, h => by
    simp only [resO] at h
    split at h <;> (try cases h)
    rename_i x l' hx hl
    split at h <;> cases h
    rename_i y hy
    obtain ⟨vs, h1, h2⟩ := resO_run ok hl
    have hxr := sv_R hx (fun u hu => ok.env t u hu)
    obtain ⟨val, h3, h4⟩ := fLoad_run hy hxr ok.blk
    have ha : ∃ ad, a.tmps.getD t undef = .pointer (some ad) := by
      unfold fLoad at hy
      split at hy <;> (try cases hy)
      split at hy <;> (try cases hy)
      rename_i n hn l hl
      obtain ⟨ad, _, e, _⟩ := cellsAt_R hl hxr ok.blk
      exact ⟨ad, e⟩
    obtain ⟨ad, e⟩ := ha
    rw [e] at h3
    have h3' : (loadVar ty ad).run P w = .ok val w := by simpa [Instr.loadAt, Instr.sureAddr] using h3
    refine ⟨val :: vs, ?_, h4, h2⟩
    simp only [List.mapM_cons, resF, Sem.run_bind, e, asAddr, Sem.run_pure, h3', Result.andThen_ok, h1]
theorem resOf_run {P : Program} {E : Ent} {st : St} {m : Mp} {a : Act} {w : World} (ok : OK E st m a w) {fn : Func} {v : AV} (h : resOf P st fn.results.toList = some v) : ∃ val, (results fn a.tmps).run P w = .ok val w ∧ v.R w m val := by
  unfold resOf at h
  have key : ∀ l, resO P st fn.results.toList = some l → ∃ vs : List Value, (results fn a.tmps).run P w = .ok (if h : vs.toArray.size = 1 then vs.toArray[0] else .tuple vs.toArray) w ∧ F2 (CV.R w m) l vs := fun l hl => by
    obtain ⟨vs, h1, h2⟩ := resO_run ok hl
    refine ⟨vs, ?_, h2⟩
    have hm : (fn.results.mapM (m := Sem) (resF a.tmps)).run P w = .ok vs.toArray w := by
      rw [← Array.toArray_toList (xs := fn.results), List.mapM_toArray]
      simp only [Sem.run_map, h1, Result.andThen_ok]
    rw [results_eq]
    simp only [Sem.run_bind, hm, Result.andThen_ok, Sem.run_pure]
  split at h <;> cases h
  · rename_i x hx
    obtain ⟨vs, h1, h2⟩ := key _ hx
    match vs, h2 with
    | [u], h2 => exact ⟨u, by simpa using h1, h2.1⟩
  · rename_i l hne hl
    obtain ⟨vs, h1, h2⟩ := key _ hl
    have hlen := h2.len
    have : vs.toArray.size ≠ 1 := fun e => by
      match l, hlen with
      | [x], _ => exact hne x rfl
      | [], q => simp at q e; omega
      | _ :: _ :: _, q => simp at q e; omega
    rw [dif_neg this] at h1
    exact ⟨_, h1, vs.toArray, rfl, by simpa using h2⟩
theorem F2_lt {α β : Type} {R : α → β → Prop} {ar : List α} {bs : List β} (h : F2 R ar bs) {i : Nat} {a : α} (e : ar[i]? = some a) : i < bs.length := by
  rw [← h.len]
  rcases Nat.lt_or_ge i ar.length with q | q
  · exact q
  · rw [List.getElem?_eq_none q] at e; cases e
/-- Is a name one of some? -/
def memN (b : Nat) : List Nat → Bool
  | [] => false
  | c :: r => match Nat.beq c b with | true => true | false => memN b r
theorem memN_iff {b : Nat} : ∀ {l : List Nat}, memN b l = true ↔ b ∈ l
  | [] => by simp [memN]
  | c :: r => by
    simp only [memN]
    by_cases h : c = b
    · subst h; simp
    · rw [beq_f h]
      simp only [memN_iff (l := r), List.mem_cons]
      exact ⟨.inr, fun q => q.resolve_left (Ne.symm h)⟩
/-- What kind of data some cells are. -/
def inferS : SV → Option Ty
  | .int k _ => some (.int k) | .bool _ => some .bool | .str _ => some .str | .row t _ => some (.sl t) | _ => none
def inferT : List SV → Option Ty
  | [] => none
  | [x] => inferS x
  | x :: r => match inferS x, inferT r with | some a, some b => some (.pr a b) | _, _ => none
/-- A variable's one datum, if it holds plain data alone. -/
def datOf (cs : List SV) : Option ((t : Ty) × t.D) := match inferT cs with
  | some t => match dec t cs with | some (x, []) => some ⟨t, x⟩ | _ => none
  | none => none
/-- A value, with own slices that a call may read told as slices that are read. -/
def vwSV (bl : Nat → Option Blk) (vw : List Nat) : SV → SV
  | .own b sz => match memN b vw, bl b with
    | true, some (.row _ t l) => (match Nat.beq sz t.sz with | true => .row t l | false => .own b sz)
    | _, _ => .own b sz
  | .sub b sz off len => match memN b vw, bl b with
    | true, some (.row _ t l) => (match Nat.beq sz t.sz with | true => .row t ((l.drop off).take len) | false => .sub b sz off len)
    | _, _ => .sub b sz off len
  | .ptr b off => match memN b vw, bl b with
    | true, some (.var _ cs) => (match datOf cs with | some ⟨t, x⟩ => .rp t [x] 0 off | none => .ptr b off)
    | _, _ => .ptr b off
  | x => x
def vwCV (bl : Nat → Option Blk) (vw : List Nat) (x : CV) : CV := ⟨x.g, x.l.map (vwSV bl vw)⟩
def vwAV (bl : Nat → Option Blk) (vw : List Nat) : AV → AV
  | .c x => .c (vwCV bl vw x)
  | .t xs => .t (xs.map (vwCV bl vw))
def VwS (m : Mp) (bl : Nat → Option Blk) (vw : List Nat) (k : Nat) : Prop := ∃ b ∈ vw, (∃ B, bl b = some B) ∧ m.nl b = false ∧ m.mu b = k
def Mp.vw (m : Mp) (bl : Nat → Option Blk) (vw : List Nat) : Mp := { m with S := fun k => m.S k ∨ VwS m bl vw k }
theorem goes_vw (w : World) (m : Mp) (bl : Nat → Option Blk) (vw : List Nat) : Goes w w m (m.vw bl vw) (fun _ => True) := ⟨fun _ _ => rfl, fun _ h => .inl h, fun _ _ => rfl, fun _ _ => rfl, fun _ _ => rfl, fun _ _ => rfl⟩
theorem row_cells {w : World} {S : Nat → Prop} {t : Ty} {l : List t.D} {A : Addr} {c : Nat} (h1 : l.length ≤ c) (h2 : c ≤ maxLen) (hS : 0 < l.length → S A.block) (h : 0 < l.length → ∀ j p, l[j]? = some p → ∃ cs, t.K w S p cs ∧ ∀ i u, cs[i]? = some u → w.cell? (A.add (j * t.sz + i)) = some u) : Row t.sz (t.K w S) w S (some A) c l :=
  ⟨h1, by simp only [maxLen] at h2; omega, fun h0 => ⟨A, rfl, hS h0, h h0⟩⟩
theorem vwPtr_R {w : World} {m : Mp} {S : Nat → Prop} {b off : Nat} {ty : TypeId} {cs : List SV} {t : Ty} {x : t.D} (hd : datOf cs = some ⟨t, x⟩) (hB : Blk.R w m b (.var ty cs)) (hS : ∀ k, m.S k → S k) (hb : S (m.mu b)) : SV.R w { m with S := S } (.rp t [x] 0 off) (.pointer (some ⟨m.mu b, off, none⟩)) := by
  obtain ⟨h0, cells, q1, q2, q3⟩ := hB
  unfold datOf at hd
  split at hd <;> (try cases hd)
  rename_i t' ht
  split at hd <;> (try cases hd)
  rename_i x' hx
  obtain ⟨v1, v2, e, hk, hf⟩ := dec_R _ hx q3
  have hv2 : v2 = [] := by
    match v2, hf with
    | [], _ => rfl
  subst hv2
  rw [List.append_nil] at e
  refine ⟨Int.le_refl 0, by simp, ⟨m.mu b, 0, none⟩, 1, ?_, row_cells (by simp) (by simp [maxLen]) (fun _ => hb) fun _ j p hj => ?_⟩
  · rw [add_plain]; simp
  · have : j = 0 := by
      cases j with
      | zero => rfl
      | succ j => simp at hj
    subst this
    simp only [List.getElem?_cons_zero, Option.some.injEq] at hj
    subst hj
    refine ⟨v1, Ty.K_still (fun _ _ => rfl) hS _ hk, fun i u hi => ?_⟩
    rw [add_plain]
    simp only [World.cell?, q1]
    rw [← e] at hi
    simpa using hi
theorem vwSV_R {bl : Nat → Option Blk} {vw : List Nat} {w : World} {m : Mp} (hb : ∀ b B, bl b = some B → B.R w m b) {x : SV} {v : Value} (h : x.R w m v) : (vwSV bl vw x).R w (m.vw bl vw) v := by
  have same := SV.R_goes (goes_vw w m bl vw) (fun _ _ => trivial) h
  cases x <;> simp only [vwSV] <;> (try exact same)
  case own b sz =>
    split <;> (try exact same)
    rename_i ty t l hm hB
    split <;> (try exact same)
    rename_i hs
    have hs := Nat.eq_of_beq_eq_true hs
    subst hs
    have hm := memN_iff.1 hm
    obtain ⟨p0, p1⟩ := hb b _ hB
    simp only [SV.R] at h
    split at h <;> rename_i hnl <;> rw [hnl] at p1
    · subst p1; subst h
      exact ⟨none, 0, rfl, Nat.le_refl _, Nat.zero_le _, fun h => absurd h (Nat.lt_irrefl _)⟩
    · obtain ⟨cap, rfl, hle, hk, hmx⟩ := h
      obtain ⟨cells, q1, q2, q3, q5⟩ := p1
      refine ⟨_, cap, by rw [p0], row_cells (by omega) hmx (fun _ => .inr ⟨b, hm, ⟨_, hB⟩, hnl, rfl⟩) fun _ j p hj => ?_⟩
      obtain ⟨cs, hK, hc⟩ := q5 j p hj
      refine ⟨cs, Ty.K_still (goes_vw w m bl vw).still (goes_vw w m bl vw).sup t hK, fun i u hi => ?_⟩
      rw [add_plain, Nat.zero_add]
      simp only [World.cell?, q1]
      simpa using hc i u hi
  case ptr b off =>
    split <;> (try exact same)
    rename_i ty cs hm hB
    split <;> (try exact same)
    rename_i t x hd
    have h : _ = _ := h
    rw [h]
    by_cases hn : m.nl b = false
    · exact vwPtr_R hd (hb b _ hB) (fun _ h => .inl h) (.inr ⟨b, memN_iff.1 hm, ⟨_, hB⟩, hn, rfl⟩)
    · exact absurd (hb b _ hB).1 hn
  case sub b sz off len =>
    split <;> (try exact same)
    rename_i ty t l hm hB
    split <;> (try exact same)
    rename_i hs
    have hs := Nat.eq_of_beq_eq_true hs
    subst hs
    have hm := memN_iff.1 hm
    obtain ⟨p0, p1⟩ := hb b _ hB
    simp only [SV.R] at h
    split at h <;> rename_i hnl <;> rw [hnl] at p1
    · subst p1
      obtain ⟨rfl, rfl⟩ := h
      exact ⟨none, 0, by simp, by simp, by simp, fun h => by simp at h⟩
    · obtain ⟨o, cap, rfl, ⟨hle, hmx, hol⟩, hk⟩ := h
      obtain ⟨cells, q1, q2, q3, q5⟩ := p1
      have hll : ((l.drop off).take len).length = len := by simp; omega
      refine ⟨_, cap, by rw [hll], row_cells (by rw [hll]; exact hle) hmx (fun _ => .inr ⟨b, hm, ⟨_, hB⟩, hnl, rfl⟩) fun h0 j p hj => ?_⟩
      obtain ⟨rfl, hk⟩ := hk (by omega)
      rw [List.getElem?_take] at hj
      split at hj
      · rw [List.getElem?_drop] at hj
        obtain ⟨cs, hK, hc⟩ := q5 _ p hj
        refine ⟨cs, Ty.K_still (goes_vw w m bl vw).still (goes_vw w m bl vw).sup t hK, fun i u hi => ?_⟩
        rw [add_plain]
        simp only [World.cell?, q1]
        rw [← hc i u hi, Nat.add_mul]
        simp [Nat.add_assoc]
      · cases hj
theorem vwCV_R {bl : Nat → Option Blk} {vw : List Nat} {w : World} {m : Mp} (hb : ∀ b B, bl b = some B → B.R w m b) {x : CV} {v : Value} (h : x.R w m v) : (vwCV bl vw x).R w (m.vw bl vw) v := by
  obtain ⟨g, l⟩ := x
  cases g with
  | true =>
    simp only [CV.R] at h
    obtain ⟨vs, rfl, hf⟩ := h
    exact CV.R_agg (F2.map _ (hf.imp fun a b r => vwSV_R hb r))
  | false =>
    simp only [CV.R] at h
    obtain ⟨y, rfl, hy⟩ := h
    exact CV.R_one (vwSV_R hb hy)
theorem vwAV_R {bl : Nat → Option Blk} {vw : List Nat} {w : World} {m : Mp} (hb : ∀ b B, bl b = some B → B.R w m b) {x : AV} {v : Value} (h : x.R w m v) : (vwAV bl vw x).R w (m.vw bl vw) v := by
  cases x with
  | c x => exact vwCV_R hb h
  | t xs =>
    obtain ⟨vs, e, hf⟩ := h
    exact ⟨vs, e, F2.map _ (hf.imp fun a b r => vwCV_R hb r)⟩
/-- What speaks of no slice that is read. -/
def SV.nr : SV → Bool
  | .row _ _ => false | .rp _ _ _ _ => false | _ => true
def Ty.nr : Ty → Bool
  | .sl _ => false | .pr a b => a.nr && b.nr | _ => true
def CV.nr (x : CV) : Bool := x.l.all SV.nr
def AV.nr : AV → Bool
  | .c x => x.nr | .t xs => xs.all CV.nr
def Blk.nr : Blk → Bool
  | .lop _ tm _ => tm.all fun p => p.2.nr
  | .row _ t _ => t.nr | .var _ cs => cs.all SV.nr | .map _ kt _ vt _ => kt.nr && vt.nr | .tab l => l.all fun p => p.1.nr && p.2.nr
theorem SV.R_S {w : World} {m : Mp} (S' : Nat → Prop) {x : SV} {v : Value} (hn : x.nr = true) (h : x.R w m v) : x.R w { m with S := S' } v := by
  cases x <;> simp only [SV.nr, Bool.false_eq_true] at hn <;> exact h
theorem Ty.K_S {w : World} {S S' : Nat → Prop} : ∀ {t : Ty} {x : t.D} {cs : List Value}, t.nr = true → t.K w S x cs → t.K w S' x cs
  | .int _, _, _, _, h | .bool, _, _, _, h | .str, _, _, _, h => h
  | .sl _, _, _, hn, _ => by cases hn
  | .pr a b, _, _, hn, ⟨c1, c2, e, h1, h2⟩ => by
    simp only [Ty.nr, Bool.and_eq_true] at hn
    exact ⟨c1, c2, e, K_S hn.1 h1, K_S hn.2 h2⟩
theorem CV.R_S {w : World} {m : Mp} (S' : Nat → Prop) {x : CV} {v : Value} (hn : x.nr = true) (h : x.R w m v) : x.R w { m with S := S' } v := by
  have hn' : ∀ y ∈ x.l, y.nr = true := List.all_eq_true.1 hn
  unfold CV.R at *
  split at h <;> rename_i hg
  · rw [if_pos hg]
    obtain ⟨vs, e, hf⟩ := h
    exact ⟨vs, e, hf.imp_mem fun a ha b r => SV.R_S S' (hn' a ha) r⟩
  · rw [if_neg hg]
    obtain ⟨y, e, hy⟩ := h
    exact ⟨y, e, SV.R_S S' (hn' y (by rw [e]; simp)) hy⟩
theorem AV.R_S {w : World} {m : Mp} (S' : Nat → Prop) {x : AV} {v : Value} (hn : x.nr = true) (h : x.R w m v) : x.R w { m with S := S' } v := by
  cases x with
  | c x => exact CV.R_S S' hn h
  | t xs =>
    obtain ⟨vs, e, hf⟩ := h
    exact ⟨vs, e, hf.imp_mem fun a ha b r => CV.R_S S' (List.all_eq_true.1 hn a ha) r⟩
theorem Blk.R_S {w : World} {m : Mp} (S' : Nat → Prop) {b : Nat} {B : Blk} (hn : B.nr = true) (h : B.R w m b) : B.R w { m with S := S' } b := by
  cases B <;> simp only [Blk.R] at h ⊢ <;> simp only [Blk.nr] at hn
  case row ty t l =>
    obtain ⟨h0, h⟩ := h
    refine ⟨h0, ?_⟩
    cases hnl : m.nl b with
    | true => rw [hnl] at h; exact h
    | false =>
      rw [hnl] at h
      obtain ⟨cells, h1, h2, h3, h5⟩ := h
      refine ⟨cells, h1, h2, h3, fun j p hj => ?_⟩
      obtain ⟨cs, hk, hc⟩ := h5 j p hj
      exact ⟨cs, Ty.K_S hn hk, hc⟩
  case var ty cs =>
    obtain ⟨h0, cells, h1, h2, h3⟩ := h
    exact ⟨h0, cells, h1, h2, h3.imp_mem fun a ha b r => SV.R_S S' (List.all_eq_true.1 hn a ha) r⟩
  case map ka kt va vt l =>
    simp only [Bool.and_eq_true] at hn
    obtain ⟨h0, es, cl, h1, h2⟩ := h
    refine ⟨h0, es, cl, h1, h2.imp fun p e he => ?_⟩
    obtain ⟨⟨c1, k1, p1⟩, ⟨c2, k2, p2⟩⟩ := he
    exact ⟨⟨c1, Ty.K_S hn.1 k1, p1⟩, ⟨c2, Ty.K_S hn.2 k2, p2⟩⟩
  case tab l =>
    obtain ⟨h0, es, cl, h1, h2⟩ := h
    refine ⟨h0, es, cl, h1, h2.imp_mem fun p hp e he => ?_⟩
    have := List.all_eq_true.1 hn p hp
    simp only [Bool.and_eq_true] at this
    exact ⟨SV.R_S S' this.1 he.1, CV.R_S S' this.2 he.2⟩
  case lop k tm j =>
    obtain ⟨h0, fn, tmps, df, h1, h2, h3⟩ := h
    exact ⟨h0, fn, tmps, df, h1, h2, fun p hp => AV.R_S S' (List.all_eq_true.1 hn p hp) (h3 p hp)⟩
end Go.Proofs.Ytfjdhdmbbfeigaa.Am
