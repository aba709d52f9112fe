/- One operation's step. -/
import Derived.Test.YtfjdhdmbbfeigaaAmL
namespace Go.Proofs.Ytfjdhdmbbfeigaa.Am
set_option linter.unusedVariables false
set_option linter.unusedSimpArgs false
/-- What is told of an operation ahead: nothing; the kind of elements; what a call reads, is handed, and comes to; that a bool is so. -/
inductive An where
  | d
  | ty (t : Ty)
  | co (vw hs : List Nat) (res : AV) (bl : List (Nat × Blk))
  | is (b : Bool)
  | mp (g : Bool) (kt : Ty) (h : Bool) (vt : Ty)
  | hit (j : Nat)
  | fz
  | cq (vw hs qs : List Nat) (res : AV) (bl : List (Nat × Blk))
def An.ty? : An → Option Ty
  | .ty t => some t | _ => none
/-- A value of one cell; a bool of which it is told what it is. -/
def outS (an : An) (c : Prop) [Decidable c] (x : SV) : Out :=
  match an, x with
  | .is b, .bool b' => ⟨c ∧ b' = b, some (V (.bool b)), []⟩
  | _, x => ⟨c, some (V x), []⟩
section
variable {P : Program} {o : Oper} {ev : Operand → Option AV} {bl : Nat → Option Blk} {nw : List Nat}
theorem does_outS {an : An} {c : Prop} [Decidable c] {x : SV} (h : c → ∀ (w : World) (m : Mp) (a : Act), (∀ x u, ev x = some u → u.R w m (a.eval x)) → (∀ b B, bl b = some B → B.R w m b) → ∃ val, (execOp a.eval o).run P w = .ok (.value val) w ∧ x.R w m val) : Does P o ev bl nw (outS an c x) := by
  have base : Does P o ev bl nw ⟨c, some (V x), []⟩ := .val fun hc w m a hev hb => by
    obtain ⟨val, h1, h2⟩ := h hc w m a hev hb
    exact ⟨val, h1, CV.R_one h2⟩
  unfold outS
  split
  · rename_i b b'
    exact .val fun hc w m a hev hb => by
      obtain ⟨val, h1, h2⟩ := h hc.1 w m a hev hb
      refine ⟨val, h1, CV.R_one ?_⟩
      rw [← hc.2]
      exact h2
  · exact base
theorem does_move {x : Operand} {v : AV} (ho : o.op = .move x ∨ o.op = .assign x) (h : ev x = some v) : Does P o ev bl nw ⟨True, some v, []⟩ := .val fun _ w m a hev _ => by
  refine ⟨a.eval x, ?_, hev x v h⟩
  rcases ho with ho | ho <;> simp [execOp, ho]
theorem does_pick {c x y z : Operand} {b : Bool} {v : AV} (ho : o.op = .pick c x y) (hc : sv (ev c) = some (.bool b)) (hz : z = if b then x else y) (h : ev z = some v) : Does P o ev bl nw ⟨True, some v, []⟩ := .val fun _ w m a hev _ => by
  have hb : a.eval c = .bool b := sv_R (w := w) (m := m) hc (fun u hu => hev c u hu)
  refine ⟨a.eval z, ?_, hev z v h⟩
  subst hz
  cases b <;> simp [execOp, ho, hb, asBool]
theorem does_load {t : TypeId} {x : Operand} {y : SV} {v : AV} (ho : o.op = .load t x) (hx : sv (ev x) = some y) (h : fLoad P bl t y = some v) : Does P o ev bl nw ⟨True, some v, []⟩ := .val fun _ w m a hev hb => by
  obtain ⟨val, h1, h2⟩ := fLoad_run h (sv_R hx (fun u hu => hev x u hu)) hb
  exact ⟨val, by simp [execOp, ho, h1], h2⟩
theorem does_loadS {an : An} {t : TypeId} {x : Operand} {y z : SV} (ho : o.op = .load t x) (hx : sv (ev x) = some y) (h : fLoad P bl t y = some (V z)) : Does P o ev bl nw (outS an True z) := does_outS fun _ w m a hev hb => by
  obtain ⟨val, h1, h2⟩ := fLoad_run h (sv_R hx (fun u hu => hev x u hu)) hb
  refine ⟨val, by simp [execOp, ho, h1], ?_⟩
  exact sv_R (o := some (V z)) rfl (fun u hu => by cases hu; exact h2)
theorem does_nilCheck {x : Operand} {y : SV} (ho : o.op = .nilCheck x) (hx : sv (ev x) = some y) (hy : (match y with | .ptr _ _ | .ep _ _ _ _ | .rp _ _ _ _ | .fn _ _ => true | _ => false) = true) : Does P o ev bl nw ⟨True, some (V y), []⟩ := .val fun _ w m a hev hb => by
  have hr := sv_R (w := w) (m := m) hx (fun u hu => hev x u hu)
  refine ⟨a.eval x, ?_, CV.R_one hr⟩
  cases y <;> simp at hy <;> simp only [SV.R] at hr
  case ptr => simp [execOp, ho, hr]
  case rp => obtain ⟨_, _, _, _, e, _⟩ := hr; simp [execOp, ho, e]
  case ep => obtain ⟨_, _, e⟩ := hr; simp [execOp, ho, e]
  case fn => simp [execOp, ho, hr]
theorem does_bin {an : An} {op : BinOp} {t t' : TypeId} {x y : Operand} {u v z : SV} {c : Cd} (ho : o.op = .binOp op t x y t') (hx : sv (ev x) = some u) (hy : sv (ev y) = some v) (hb : (∃ a b, u = .bool a ∧ v = .bool b) → P.underlying t = some .bool) (h : fBin op u v = some (c, z)) : Does P o ev bl nw (outS an c.p z) := does_outS fun hc w m a hev hbl => by
  have hu := sv_R (w := w) (m := m) hx (fun u hu => hev x u hu)
  have hv := sv_R (w := w) (m := m) hy (fun u hu => hev y u hu)
  obtain ⟨val, h1, h2⟩ := fBin_run (P := P) (t := t) h hc hb hu hv
  have hg := eqGuard_run (y := u) (P := P) (op := op) (t := t) (ox := x) (oy := y) (v := a.eval y) hu
  exact ⟨val, by simp [execOp, ho, hg, h1], h2⟩
theorem does_eqA {an : An} {op : BinOp} {t t' : TypeId} {x y : Operand} {l l' : List SV} {r z : Bool} (ho : o.op = .binOp op t x y t') (hx : ev x = some (.c ⟨true, l⟩)) (hy : ev y = some (.c ⟨true, l'⟩)) (h : fEq P 20 t (.c ⟨true, l⟩) (.c ⟨true, l'⟩) = some r) (hg : P.eqGuardType P.depth t = false) (hz : op = .eql ∧ z = r ∨ op = .neq ∧ z = !r) : Does P o ev bl nw (outS an True (.bool z)) := does_outS fun hc w m a hev hbl => by
  have h1 := hev x _ hx
  have h2 := hev y _ hy
  have hr := fEq_run (w := w) (m := m) 9980 20 t _ _ r _ _ h h1 h2
  obtain ⟨xs, e1, -⟩ := h1
  obtain ⟨ys, e2, -⟩ := h2
  rw [e1, e2] at hr
  have hgr := run_eqGuard_agg (P := P) w op t x y xs ys hg
  refine ⟨.bool z, ?_, rfl⟩
  rcases hz with ⟨rfl, rfl⟩ | ⟨rfl, rfl⟩
  · simp only [execOp, ho, e1, e2, Sem.run_bind, hgr, Result.andThen_ok, run_eql_struct w, hr, Sem.run_pure]
  · simp only [execOp, ho, e1, e2, Sem.run_bind, hgr, Result.andThen_ok, run_neq_struct w, hr, Sem.run_pure]
/-- An operator of one value. -/
def fUn (op : UnOp) : SV → Option SV
  | .bool b => match op with | .not => some (.bool (!b)) | _ => none
  | .int k n => match op with | .neg => some (.int k (k.wrap (0 - n))) | .xor => some (.int k (bits .xor k (if k.signed then -1 else k.max) n)) | _ => none
  | _ => none
theorem does_un {an : An} {op : UnOp} {t : TypeId} {x : Operand} {u z : SV} (ho : o.op = .unOp op t x) (hx : sv (ev x) = some u) (h : fUn op u = some z) : Does P o ev bl nw (outS an True z) := does_outS fun _ w m a hev hb => by
  have hu := sv_R (w := w) (m := m) hx (fun u hu => hev x u hu)
  cases u <;> simp only [fUn] at h <;> (try cases h)
  case bool b =>
    split at h <;> cases h
    exact ⟨_, by simp [execOp, ho, show a.eval x = _ from hu, Op.unary], rfl⟩
  case int k n =>
    split at h <;> cases h
    · exact ⟨_, by simp [execOp, ho, show a.eval x = _ from hu, Op.unary, Op.intArith], rfl⟩
    · exact ⟨_, by simp [execOp, ho, show a.eval x = _ from hu, Op.unary, intBits_xor], rfl⟩
/-- A conversion of numbers; of strings. -/
def fConv (P : Program) (s d : TypeId) : SV → Option SV
  | .int _ n => match P.underlying s, P.underlying d with | some _, some (.int k) => some (.int k (k.wrap n)) | _, _ => none
  | .str x => match P.underlying s, P.underlying d with | some _, some .string => some (.str x) | _, _ => none
  | _ => none
theorem does_conv {an : An} {s d : TypeId} {x : Operand} {u z : SV} (ho : o.op = .convert s d x) (hx : sv (ev x) = some u) (h : fConv P s d u = some z) : Does P o ev bl nw (outS an True z) := does_outS fun _ w m a hev hb => by
  have hu := sv_R (w := w) (m := m) hx (fun u hu => hev x u hu)
  cases u <;> simp only [fConv] at h <;> (try cases h)
  case int k n =>
    split at h <;> cases h
    rename_i q k' h1 h2
    exact ⟨_, by simp [execOp, ho, show a.eval x = _ from hu, convert, run_underlying h1, run_underlying h2, Conv.intToInt], rfl⟩
  case str n =>
    split at h <;> cases h
    rename_i q h1 h2
    exact ⟨_, by simp [execOp, ho, show a.eval x = _ from hu, convert, run_underlying h1, run_underlying h2], rfl⟩
/-- Captured variables. -/
def capOf (ev : Operand → Option AV) : List Operand → Option (List (Nat × Nat))
  | [] => some []
  | x :: r => match sv (ev x), capOf ev r with | some (.ptr b off), some l => some ((b, off) :: l) | _, _ => none
theorem capOf_R {w : World} {m : Mp} {a : Act} (hev : ∀ x u, ev x = some u → u.R w m (a.eval x)) : ∀ {xs : List Operand} {l : List (Nat × Nat)}, capOf ev xs = some l → xs.map a.eval = l.map fun p => Value.pointer (some ⟨m.mu p.1, p.2, none⟩)
  | [], l, h => by cases h; rfl
  | x :: r, l, h => by
    simp only [capOf] at h
    split at h <;> cases h
    rename_i b off l' h1 h2
    have := sv_R (w := w) (m := m) h1 (fun u hu => hev x u hu)
    simp only [List.map_cons, capOf_R hev h2, show a.eval x = _ from this]
theorem does_makeFuncB {f : FuncId} {x : Operand} {b off : Nat} (ho : o.op = .makeFunc (.func f) #[x] #[]) (hx : sv (ev x) = some (.ptr b off)) : Does P o ev bl nw ⟨True, some (V (.bm f b off)), []⟩ := .val fun _ w m a hev hb => by
  have hr : a.eval x = .pointer (some ⟨m.mu b, off, none⟩) := sv_R (w := w) (m := m) hx (fun u hu => hev x u hu)
  exact ⟨_, by simp [execOp, ho, Instr.makeFunc, hr], CV.R_one rfl⟩
theorem does_makeFunc {f : FuncId} {cs : Array Operand} {l : List (Nat × Nat)} (ho : o.op = .makeFunc (.func f) #[] cs) (h : capOf ev cs.toList = some l) : Does P o ev bl nw ⟨True, some (V (.fn f l)), []⟩ := .val fun _ w m a hev hb => by
  refine ⟨.func (.func f) #[] (cs.map a.eval), by simp [execOp, ho, Instr.makeFunc], CV.R_one ?_⟩
  have := capOf_R hev h
  simp only [SV.R]
  congr 1
  apply Array.ext'
  simpa using this
theorem does_field {s : TypeId} {x : Operand} {f : Nat} {y z : SV} (ho : o.op = .fieldAddr s x f) (hx : sv (ev x) = some y) (h : fField P s f y = some z) : Does P o ev bl nw ⟨True, some (V z), []⟩ := .val fun _ w m a hev hb => by
  obtain ⟨val, h1, h2⟩ := fField_run h (sv_R hx (fun u hu => hev x u hu))
  exact ⟨val, by simp [execOp, ho, h1], CV.R_one h2⟩
def fFieldV (P : Program) (s : TypeId) (f : Nat) (x : AV) : Option AV :=
  match P.underlying s with
  | some (.struct fs) => match fs[f]? with | some fd => fPart P x fd.type fd.offset | none => none
  | _ => none
theorem does_fieldV {s : TypeId} {x : Operand} {f : Nat} {y z : AV} (ho : o.op = .field s x f) (hx : ev x = some y) (h : fFieldV P s f y = some z) : Does P o ev bl nw ⟨True, some z, []⟩ := .val fun _ w m a hev hb => by
  unfold fFieldV at h
  split at h <;> (try cases h)
  rename_i fs hu
  split at h <;> (try cases h)
  rename_i fd hf
  obtain ⟨cs, e, val, h1, h2⟩ := fPart_run h (hev x _ hx)
  exact ⟨val, by simp [execOp, ho, Instr.field, run_underlying hu, hf, e, asAgg, h1], h2⟩
def fIndexV (P : Program) (t : TypeId) (i : SV) (x : AV) : Option (Cd × AV) :=
  match P.underlying t, i with
  | some (.array len e), .int _ (.ofNat k) => match szOf P e with
    | some n => match fPart P x e (k * n) with | some y => some (⟨k < len⟩, y) | none => none
    | none => none
  | _, _ => none
theorem does_indexV {t : TypeId} {x i : Operand} {j : SV} {y z : AV} {c : Cd} (ho : o.op = .index t x i) (hx : ev x = some y) (hi : sv (ev i) = some j) (h : fIndexV P t j y = some (c, z)) : Does P o ev bl nw ⟨c.p, some z, []⟩ := .val fun hc w m a hev hb => by
  unfold fIndexV at h
  split at h <;> (try cases h)
  rename_i len e k' k hu
  split at h <;> (try cases h)
  rename_i n hn
  split at h <;> cases h
  rename_i q hq
  have hiv := sv_R (w := w) (m := m) hi (fun u hu => hev i u hu)
  have hc : k < len := hc
  obtain ⟨cs, e, val, h1, h2⟩ := fPart_run hq (hev x _ hx)
  exact ⟨val, by simp [execOp, ho, Instr.index, show a.eval i = _ from hiv, asIntOf, run_underlying hu, e, run_szOf hn, hc, h1], h2⟩
theorem does_index {t : TypeId} {x i : Operand} {y j z : SV} {c : Cd} (ho : o.op = .indexAddr t x i) (hx : sv (ev x) = some y) (hi : sv (ev i) = some j) (h : fIndex P bl t y j = some (c, z)) : Does P o ev bl nw ⟨c.p, some (V z), []⟩ := .val fun hc w m a hev hb => by
  obtain ⟨val, h1, h2⟩ := fIndex_run h hc (sv_R hx (fun u hu => hev x u hu)) (sv_R hi (fun u hu => hev i u hu)) hb
  exact ⟨val, by simp [execOp, ho, h1], CV.R_one h2⟩
/-- An end of a part, of an operand. -/
def endOf (ev : Operand → Option AV) : Option Operand → Option (Option SV)
  | none => some none
  | some x => match sv (ev x) with | some y => some (some y) | none => none
theorem endOf_R {w : World} {m : Mp} {a : Act} (hev : ∀ x u, ev x = some u → u.R w m (a.eval x)) {x : Option Operand} {y : Option SV} (h : endOf ev x = some y) : EndR w m y (x.map a.eval) := by
  cases x with
  | none => cases h; exact .inl ⟨rfl, rfl⟩
  | some x =>
    simp only [endOf] at h
    split at h <;> cases h
    rename_i z hz
    exact .inr ⟨z, _, rfl, rfl, sv_R hz (fun u hu => hev x u hu)⟩
theorem does_slice {t : TypeId} {x : Operand} {lo hi : Option Operand} {y z : SV} {l k : Option SV} {c : Cd} (ho : o.op = .slice t x lo hi none) (hx : sv (ev x) = some y) (hl : endOf ev lo = some l) (hk : endOf ev hi = some k) (h : fSlice P bl t y l k = some (c, z)) : Does P o ev bl nw ⟨c.p, some (V z), []⟩ := .val fun hc w m a hev hb => by
  obtain ⟨val, h1, h2⟩ := fSlice_run h hc (sv_R hx (fun u hu => hev x u hu)) (endOf_R hev hl) (endOf_R hev hk) hb
  exact ⟨val, by simp [execOp, ho, h1], CV.R_one h2⟩
def nilO (b : Nat) (h : Bool) : Option Nat := match h with | true => none | false => some b
/-- A slice of one's own, cut to its first elements: it goes on under a new name. -/
def fCut (P : Program) (bl : Nat → Option Blk) (t : TypeId) (x : SV) (lo hi : Option SV) (nb : Nat) : Option (Cd × AV × List (Nat × Option Blk)) :=
  match P.underlying t, x, lo, hi with
  | some (.slice e), .own b sz, none, some (.int _ j) => match szOf P e, bl b with
    | some n, some (.row ty t' l) => match Nat.beq n t'.sz, Nat.beq sz t'.sz with
      | true, true => some (⟨0 ≤ j ∧ j ≤ l.length⟩, V (.own nb sz), [(b, none), (nb, some (.row ty t' (l.take j.toNat)))])
      | _, _ => none
    | _, _ => none
  | _, _, _, _ => none
theorem does_cut {t : TypeId} {x : Operand} {lo hi : Option Operand} {y : SV} {l k : Option SV} {nb : Nat} {c : Cd} {v : AV} {ub : List (Nat × Option Blk)} (ho : o.op = .slice t x lo hi none) (hx : sv (ev x) = some y) (hl : endOf ev lo = some l) (hk : endOf ev hi = some k) (hnb : nb ∈ nw) (h : fCut P bl t y l k nb = some (c, v, ub)) : Does P o ev bl nw ⟨c.p, some v, ub⟩ := by
  intro E st m a w ok hev hbl hnw hns hd hc K Q hK
  have hxv := sv_R (w := w) (m := m) hx (fun u hu => hev x u hu)
  have hlo := endOf_R (w := w) (m := m) hev hl
  have hhi := endOf_R (w := w) (m := m) hev hk
  unfold fCut at h
  split at h <;> (try cases h)
  rename_i e b sz kd j hu
  split at h <;> (try cases h)
  rename_i n ty t' r hn hB
  split at h <;> cases h
  rename_i hs1 hs2
  have hs1 := Nat.eq_of_beq_eq_true hs1
  have hs2 := Nat.eq_of_beq_eq_true hs2
  subst hs1; subst hs2
  obtain ⟨hc0, hc1⟩ := hc
  have hst := hbl b _ hB
  obtain ⟨p0, p1⟩ := ok.blk b _ hst
  have e1 := hlo.non 0
  have e2 := fun d => hhi.int hc0 d
  have hlen : (r.take j.toNat).length = j.toNat := by simp; omega
  have fin : ∀ val, (execOp a.eval o).run P w = .ok (.value val) w → Blk.R w (m.set nb (m.mu b) (m.ka b) (r.take j.toNat).length (m.nl b)) nb (.row ty t' (r.take j.toNat)) → SV.R w (m.set nb (m.mu b) (m.ka b) (r.take j.toNat).length (m.nl b)) (.own nb t'.sz) val → o.wp P a w K Q := by
    intro val hrun b1 b2
    unfold Oper.wp
    rw [hrun, Oper.upon_value]
    have hren := ok.renew (nilO b (m.nl b)) (fun b' hb' => by
      cases hnl : m.nl b <;> rw [hnl] at hb' <;> cases hb'
      exact ⟨⟨_, hst⟩, hnl⟩) (hnw nb hnb) (nb := nb) (g := m.mu b) (ka := m.ka b) (le := (r.take j.toNat).length) (nl := m.nl b) (B' := .row ty t' (r.take j.toNat)) (Io.refl w) (Nat.le_refl _) (fun k hk hne => rfl) (fun hnl => .inl ⟨b, by rw [hnl]; rfl, rfl⟩) (st.setbs [(b, none), (nb, some (.row ty t' (r.take j.toNat)))]) rfl (fun c C hC => by
        simp only [St.setbs, List.foldl_cons, List.foldl_nil] at hC
        rw [St.setb_b] at hC
        split at hC
        · rename_i e; exact .inl ⟨e.symm, (Option.some.inj hC).symm⟩
        · rename_i e1
          rw [St.setb_b] at hC
          split at hC
          · cases hC
          · rename_i e2
            refine .inr ⟨Ne.symm e1, ?_, hC⟩
            cases m.nl b
            · exact fun h => e2 (Option.some.inj h).symm
            · exact fun h => by cases h) b1
    exact hK _ _ _ (hren.put o.dst (some (V (.own nb t'.sz))) val hd fun q hq => by cases hq; exact CV.R_one b2)
  simp only [SV.R] at hxv
  split at hxv <;> rename_i hnl <;> rw [hnl] at p1
  · subst p1
    have hj : j.toNat = 0 := by simpa using hc1
    refine fin (.slice none 0 0) (by simp [execOp, ho, hxv, run_slice_s (A := none) (len := 0) (cap := 0) hu hn _ _ 0 0 e1 (by have := e2 0; rw [hj] at this; exact this) (Nat.le_refl _) (Nat.le_refl _) w]) ⟨(le_set ..).symm, ?_⟩ ?_
    · rw [nl_set, hnl]; simp
    · simp only [SV.R, nl_set, hnl]
  · obtain ⟨cap, hv, hle, hk', hmx⟩ := hxv
    obtain ⟨cells, q1, q2, q3, q5⟩ := p1
    refine fin (.slice (if cap = 0 then some ⟨m.mu b, 0, none⟩ else (some (⟨m.mu b, 0, none⟩ : Addr)).map (·.add (0 * t'.sz))) (j.toNat - 0) (cap - 0)) (by simp only [execOp, ho, hv, Option.map_none, Sem.run_bind, run_slice_s (A := some ⟨m.mu b, 0, none⟩) (len := m.le b) (cap := cap) hu hn _ _ 0 j.toNat e1 (e2 _) (Nat.zero_le _) (by omega) w, Result.andThen_ok, Sem.run_pure]) ⟨(le_set ..).symm, ?_⟩ ?_
    · rw [nl_set, hnl]
      refine ⟨cells, by rw [mu_set]; exact q1, by rw [ka_set]; exact q2, Nat.le_trans (Nat.mul_le_mul_right _ (by omega)) q3, fun i p hp => ?_⟩
      rw [List.getElem?_take] at hp
      split at hp
      · exact q5 i p hp
      · cases hp
    · simp only [SV.R, nl_set, hnl, mu_set, ka_set, le_set]
      refine ⟨cap, ?_, by omega, hk', hmx⟩
      rw [hlen]
      simp [Addr.add]
theorem does_cap0 {x : Operand} {t e : TypeId} (ho : o.op = .call ⟨.builtin .cap, #[x], #[t]⟩) (hu : P.underlying t = some (.slice e)) (hx : sv (ev x) = some .nilsl) : Does P o ev bl nw ⟨True, some (V (.int .i64 0)), []⟩ := .val fun _ w m a hev hb => by
  have hr : a.eval x = .slice none 0 0 := sv_R (w := w) (m := m) hx (fun u hu => hev x u hu)
  exact ⟨_, by simp [execOp, ho, resolve, invoke, builtin, Builtin.cap_, run_underlying hu, hr, goInt], CV.R_one rfl⟩
/-- A made row behind nil. -/
def fAppZ (P : Program) (ty : Option Ty) (tys : List TypeId) (x y : SV) (nb : Nat) : Option (Cd × AV × List (Nat × Option Blk)) :=
  match tys, ty, x, y with
  | [t, t'], some ty, .nilsl, .int _ n => match P.underlying t, P.underlying t' with
    | some (.slice e), some (.int _) => match P.info? e with
      | some i => match i.zero, Nat.beq i.size ty.sz with
        | some z, true => match isZ ty z.cells.toList with
          | some [] => some (⟨1 ≤ n ∧ n * (i.bytes : Int) ≤ 281474976710656 ∧ n ≤ 281474976710656⟩, V (.own nb ty.sz), [(nb, some (.row e ty (List.replicate n.toNat ty.d0)))])
          | _ => none
        | _, _ => none
      | none => none
    | _, _ => none
  | _, _, _, _ => none
theorem does_appZ {tys : Array TypeId} {a1 a2 : Operand} {x y : SV} {ty : Option Ty} {nb : Nat} {c : Cd} {v : AV} {ub : List (Nat × Option Blk)} (ho : o.op = .call ⟨.builtin .append, #[a1, a2], tys⟩) (h1 : sv (ev a1) = some x) (h2 : sv (ev a2) = some y) (hnb : nb ∈ nw) (h : fAppZ P ty tys.toList x y nb = some (c, v, ub)) : Does P o ev bl nw ⟨c.p, some v, ub⟩ := by
  intro E st m a w ok hev hbl hnw hns hd hc K Q hK
  have hx := sv_R (w := w) (m := m) h1 (fun u hu => hev a1 u hu)
  have hy := sv_R (w := w) (m := m) h2 (fun u hu => hev a2 u hu)
  unfold fAppZ at h
  split at h <;> (try cases h)
  rename_i t t' ty k n htys
  split at h <;> (try cases h)
  rename_i e kn hu hu'
  split at h <;> (try cases h)
  rename_i i hi
  split at h <;> (try cases h)
  rename_i z hz hs
  have hs := Nat.eq_of_beq_eq_true hs
  split at h <;> cases h
  rename_i hzz
  obtain ⟨q0, q1, q2⟩ := hc
  have htys : tys = #[t, t'] := by rw [← Array.toArray_toList (xs := tys), htys]
  subst htys
  have hsp := Ty.sz_pos ty
  have hn : ((n.toNat : Nat) : Int) = n := by omega
  have hb : n.toNat * i.bytes ≤ 281474976710656 := by
    have : ((n.toNat * i.bytes : Nat) : Int) ≤ 281474976710656 := by rw [Int.natCast_mul, hn]; exact q1
    omega
  have hr := Lib.run_append_nil_zeros (P := P) w t t' o.type e i z k kn hu hu' hi hz n.toNat (by omega) (by rw [hs]; omega) (by omega) hb
  rw [hn] at hr
  have hx' : a.eval a1 = .slice none 0 0 := hx
  have hy' : a.eval a2 = .int k n := hy
  have hexec : (execOp a.eval o).run P w = .ok (.value (.slice (some ⟨w.heap.size, 0, none⟩) n.toNat (grownCap w n.toNat 0 e))) (w.drew.alloc (.cells (Builtin.zeroCells z.cells n.toNat ++ Builtin.zeroCells z.cells (grownCap w n.toNat 0 e - n.toNat)) e)) := by
    simp [execOp, ho, resolve, invoke, builtin, hx', hy', hr]
  have hge := grownCap_ge w n.toNat 0 e
  have hle := grownCap_le_maxLen w n.toNat 0 e (by simp only [maxLen]; omega)
  have zlen : z.cells.size = ty.sz := by
    obtain ⟨c1, e1, k1⟩ := isZ_K (w := w) (S := m.S) hzz
    rw [List.append_nil] at e1
    rw [← Ty.K_len ty k1, ← e1]; simp
  have zsz : ∀ n, (Builtin.zeroCells z.cells n).size = n * ty.sz := fun n => by simp [Builtin.zeroCells, zlen]
  unfold Oper.wp
  rw [hexec, Oper.upon_value]
  generalize hw' : w.drew.alloc (.cells (Builtin.zeroCells z.cells n.toNat ++ Builtin.zeroCells z.cells (grownCap w n.toNat 0 e - n.toNat)) e) = w'
  have hhp : w'.heap = w.heap.push (.cells (Builtin.zeroCells z.cells n.toNat ++ Builtin.zeroCells z.cells (grownCap w n.toNat 0 e - n.toNat)) e (0, 0)) := by rw [← hw']; rfl
  have hnew : w'.heap[w.heap.size]? = some (.cells (Builtin.zeroCells z.cells n.toNat ++ Builtin.zeroCells z.cells (grownCap w n.toNat 0 e - n.toNat)) e (0, 0)) := by rw [hhp]; simp
  have hsize : (Builtin.zeroCells z.cells n.toNat ++ Builtin.zeroCells z.cells (grownCap w n.toNat 0 e - n.toNat)).size = grownCap w n.toNat 0 e * ty.sz := by
    rw [Array.size_append, zsz, zsz, ← Nat.add_mul]
    congr 1
    omega
  have b1 : Blk.R w' (m.set nb w.heap.size (grownCap w n.toNat 0 e * ty.sz) (List.replicate n.toNat ty.d0).length false) nb (.row e ty (List.replicate n.toNat ty.d0)) := by
    refine ⟨(le_set ..).symm, ?_⟩
    rw [nl_set]
    refine ⟨_, by rw [mu_set]; exact hnew, by rw [ka_set]; exact hsize, by rw [hsize, List.length_replicate]; exact Nat.mul_le_mul_right _ hge, fun j p hj => ?_⟩
    obtain ⟨c1, e1, k1⟩ := isZ_K (w := w') (S := m.S) hzz
    rw [List.append_nil] at e1
    have hj' : j < n.toNat ∧ p = ty.d0 := by
      rw [List.getElem?_replicate] at hj
      split at hj
      · cases hj; exact ⟨by assumption, rfl⟩
      · cases hj
    obtain ⟨hj1, rfl⟩ := hj'
    have hlen := Ty.K_len ty k1
    refine ⟨c1, k1, fun q uq hq => ?_⟩
    have hq1 : q < c1.length := by
      rcases Nat.lt_or_ge q c1.length with r | r
      · exact r
      · rw [List.getElem?_eq_none r] at hq; cases hq
    have hlt : j * ty.sz + q < n.toNat * ty.sz := by
      have : (j + 1) * ty.sz ≤ n.toNat * ty.sz := Nat.mul_le_mul_right _ (by omega)
      rw [Nat.add_mul] at this
      omega
    rw [Array.getElem?_append_left (by rw [zsz]; exact hlt)]
    have hm : (Builtin.zeroCells z.cells n.toNat)[j * ty.sz + q]? = some z.cells[(j * ty.sz + q) % z.cells.size]! := by
      simp only [Builtin.zeroCells, Array.getElem?_map]
      rw [Array.getElem?_range, if_pos (by rw [zlen]; exact hlt)]
      rfl
    rw [hm, zlen, show (j * ty.sz + q) % ty.sz = q by rw [Nat.mul_comm, Nat.mul_add_mod, Nat.mod_eq_of_lt (by omega)]]
    rw [← e1] at hq
    have hq2 : z.cells[q]? = some uq := by simpa using hq
    simp [getElem!_def, hq2]
  have b2 : SV.R w' (m.set nb w.heap.size (grownCap w n.toNat 0 e * ty.sz) (List.replicate n.toNat ty.d0).length false) (.own nb ty.sz) (.slice (some ⟨w.heap.size, 0, none⟩) n.toNat (grownCap w n.toNat 0 e)) := by
    simp only [SV.R, nl_set, mu_set, ka_set, le_set, List.length_replicate]
    exact ⟨_, rfl, hge, by trivial, hle⟩
  have hren := ok.renew none (fun b' hb' => by cases hb') (hnw nb hnb) (nb := nb) (g := w.heap.size) (ka := grownCap w n.toNat 0 e * ty.sz) (le := (List.replicate n.toNat ty.d0).length) (nl := false) (B' := .row e ty (List.replicate n.toNat ty.d0)) (w' := w') ⟨by rw [← hw']; rfl, by rw [← hw']; rfl, by rw [← hw']; rfl⟩ (by rw [hhp]; simp) (fun k hk _ => by rw [hhp]; rw [Array.getElem?_push_lt hk, Array.getElem?_eq_getElem hk]) (fun hnl => .inr (Nat.le_refl _)) (st.setbs [(nb, some (.row e ty (List.replicate n.toNat ty.d0)))]) rfl (fun c C hC => by
      simp only [St.setbs, List.foldl_cons, List.foldl_nil] at hC
      rw [St.setb_b] at hC
      split at hC
      · rename_i e; exact .inl ⟨e.symm, (Option.some.inj hC).symm⟩
      · rename_i e1
        exact .inr ⟨Ne.symm e1, (fun h => by cases h), hC⟩) b1
  exact hK _ _ _ (hren.put o.dst (some (V (.own nb ty.sz))) _ hd fun q hq => by cases hq; exact CV.R_one b2)
theorem does_extract {x : Operand} {i : Nat} {xs : List CV} {y : CV} (ho : o.op = .extract x i) (hx : ev x = some (.t xs)) (h : xs[i]? = some y) : Does P o ev bl nw ⟨True, some (.c y), []⟩ := .val fun _ w m a hev hb => by
  obtain ⟨vs, e, hf⟩ := hev x _ hx
  obtain ⟨v, h1, h2⟩ := hf.get i h
  exact ⟨v, by simp [execOp, ho, Instr.extract, e, show vs[i]? = some v by simpa using h1], h2⟩
theorem does_extractS {an : An} {x : Operand} {i : Nat} {xs : List CV} {y : SV} (ho : o.op = .extract x i) (hx : ev x = some (.t xs)) (h : xs[i]? = some ⟨false, [y]⟩) : Does P o ev bl nw (outS an True y) := does_outS fun _ w m a hev hb => by
  obtain ⟨vs, e, hf⟩ := hev x _ hx
  obtain ⟨v, h1, h2⟩ := hf.get i h
  refine ⟨v, by simp [execOp, ho, Instr.extract, e, show vs[i]? = some v by simpa using h1], ?_⟩
  exact sv_R (o := some (V y)) rfl (fun u hu => by cases hu; exact h2)
theorem does_len {x : Operand} {t e : TypeId} {y : SV} {n : Nat} (ho : o.op = .call ⟨.builtin .len, #[x], #[t]⟩) (hu : P.underlying t = some (.slice e)) (hx : sv (ev x) = some y) (h : lenOf bl y = some n) : Does P o ev bl nw ⟨True, some (V (.int .i64 n)), []⟩ := .val fun _ w m a hev hb => by
  obtain ⟨A, c, e⟩ := lenOf_R h (sv_R hx (fun u hu => hev x u hu)) hb
  exact ⟨_, by simp [execOp, ho, resolve, invoke, builtin, Builtin.len_, run_underlying hu, e, goInt], CV.R_one rfl⟩
theorem does_lenS {x : Operand} {t : TypeId} {s : ByteArray} (ho : o.op = .call ⟨.builtin .len, #[x], #[t]⟩) (hu : P.underlying t = some .string) (hx : sv (ev x) = some (.str s)) : Does P o ev bl nw ⟨True, some (V (.int .i64 s.size)), []⟩ := .val fun _ w m a hev hb => by
  have hr := sv_R (w := w) (m := m) hx (fun u hu => hev x u hu)
  exact ⟨_, by simp [execOp, ho, resolve, invoke, builtin, Builtin.len_, run_underlying hu, show a.eval x = _ from hr, goInt], CV.R_one rfl⟩
theorem does_lenM {x : Operand} {t k e : TypeId} {b : Nat} {ka va : Bool} {kt vt : Ty} {l : List (kt.D × vt.D)} (ho : o.op = .call ⟨.builtin .len, #[x], #[t]⟩) (hu : P.underlying t = some (.map k e)) (hx : sv (ev x) = some (.map b)) (hB : bl b = some (.map ka kt va vt l)) : Does P o ev bl nw ⟨True, some (V (.int .i64 l.length)), []⟩ := .val fun _ w m a hev hb => by
  have hr : a.eval x = .map (some (m.mu b)) := sv_R (w := w) (m := m) hx (fun u hu => hev x u hu)
  obtain ⟨hnl, es, cl, h1, h2⟩ := hb b _ hB
  have hlen : ∀ {α β : Type} {R : α → β → Prop} {l : List α} {k : List β}, F2 R l k → l.length = k.length := by
    intro α β R l
    induction l with
    | nil => intro k h; match k, h with | [], _ => rfl
    | cons x l ih => intro k h; match k, h with | y :: k, h => simp [ih h.2]
  have hl := hlen h2
  refine ⟨.int .i64 l.length, ?_, CV.R_one rfl⟩
  rw [hl]
  simp [execOp, ho, resolve, invoke, builtin, Builtin.len_, run_underlying hu, hr, MapKept.run_getObj_map h1, goInt]
theorem does_min {x y : Operand} {ts : Array TypeId} {k k' : IntKind} {c d : Int} (ho : o.op = .call ⟨.builtin .min, #[x, y], ts⟩) (hx : sv (ev x) = some (.int k c)) (hy : sv (ev y) = some (.int k' d)) : Does P o ev bl nw ⟨True, some (V (.int k (if d < c then d else c))), []⟩ := .val fun _ w m a hev hb => by
  have h1 : a.eval x = .int k c := sv_R (w := w) (m := m) hx (fun u hu => hev x u hu)
  have h2 : a.eval y = .int k' d := sv_R (w := w) (m := m) hy (fun u hu => hev y u hu)
  exact ⟨_, by simp [execOp, ho, resolve, invoke, builtin, Builtin.min_, Builtin.min2, h1, h2], CV.R_one rfl⟩
theorem does_max {x y : Operand} {ts : Array TypeId} {k k' : IntKind} {c d : Int} (ho : o.op = .call ⟨.builtin .max, #[x, y], ts⟩) (hx : sv (ev x) = some (.int k c)) (hy : sv (ev y) = some (.int k' d)) : Does P o ev bl nw ⟨True, some (V (.int k (if d > c then d else c))), []⟩ := .val fun _ w m a hev hb => by
  have h1 : a.eval x = .int k c := sv_R (w := w) (m := m) hx (fun u hu => hev x u hu)
  have h2 : a.eval y = .int k' d := sv_R (w := w) (m := m) hy (fun u hu => hev y u hu)
  exact ⟨_, by simp [execOp, ho, resolve, invoke, builtin, Builtin.max_, Builtin.max2, h1, h2], CV.R_one rfl⟩
theorem does_build {t : TypeId} {ps : Array (Nat × Operand)} {v : AV} (ho : o.op = .build t ps) (h : fBuild P ev t ps.toList = some v) : Does P o ev bl nw ⟨True, some v, []⟩ := .val fun _ w m a hev hb => by
  obtain ⟨val, h1, h2⟩ := fBuild_run h hev
  exact ⟨val, by simp [execOp, ho, h1], h2⟩
theorem does_buildSlice {t : TypeId} {len nb : Nat} {ps : Array (Nat × Operand)} {ty : Option Ty} {v : AV} {B : Blk} (ho : o.op = .buildSlice t len ps) (hnb : nb ∈ nw) (h : fBuildSlice P ev t len ps.toList ty nb = some (v, B)) : Does P o ev bl nw ⟨True, some v, [(nb, some B)]⟩ := .new hnb fun _ w m a hev _ => by
  obtain ⟨o', ka, le, val, h1, h2, h3⟩ := fBuildSlice_run h hev
  exact ⟨o', ka, le, val, by simp [execOp, ho, h1], h2, h3⟩
theorem does_makeSlice {t : TypeId} {l c : Operand} {x y : SV} {ty : Ty} {nb : Nat} {v : AV} {B : Blk} {q : Cd} (ho : o.op = .makeSlice t l c) (hnb : nb ∈ nw) (hx : sv (ev l) = some x) (hy : sv (ev c) = some y) (h : fMake P t x y ty nb = some (q, v, B)) : Does P o ev bl nw ⟨q.p, some v, [(nb, some B)]⟩ := .new hnb fun hq w m a hev _ => by
  have hx' := fun o' ka le => sv_R (w := w.alloc o') (m := m.set nb w.heap.size ka le false) hx (fun u hu => hev o' ka le l u hu)
  have hy' := fun o' ka le => sv_R (w := w.alloc o') (m := m.set nb w.heap.size ka le false) hy (fun u hu => hev o' ka le c u hu)
  have int_of : ∀ {x : SV} {u : Value}, (∃ k n, x = .int k n) → (∀ o' ka le, x.R (w.alloc o') (m.set nb w.heap.size ka le false) u) → x.R w m u := fun ⟨k, n, e⟩ h => by subst e; exact h default 0 0
  have hxi : ∃ k n, x = .int k n := by
    unfold fMake at h
    split at h <;> (try cases h)
    split at h <;> (try cases h)
    split at h <;> (try cases h)
    exact ⟨_, _, rfl⟩
  have hyi : ∃ k n, y = .int k n := by
    unfold fMake at h
    split at h <;> (try cases h)
    split at h <;> (try cases h)
    split at h <;> (try cases h)
    exact ⟨_, _, rfl⟩
  obtain ⟨o', ka, le, val, h1, h2, h3⟩ := fMake_run (P := P) h hq (int_of hxi hx') (int_of hyi hy')
  exact ⟨o', ka, le, val, by simp [execOp, ho, h1], h2, h3⟩
end
/-- New names that an operation may give. -/
def nws (nm : Nat) : List Nat := (List.range 64).map fun k => nm + k
theorem mem_nws {nm n : Nat} : n ∈ nws nm ↔ nm ≤ n ∧ n < nm + 64 := by
  unfold nws
  simp only [List.mem_map, List.mem_range]
  exact ⟨fun ⟨k, h, e⟩ => by omega, fun h => ⟨n - nm, by omega, by omega⟩⟩
/-- What one operation does, of what is told of it. -/
noncomputable def stp0 (P : Program) (an : An) (nm : Nat) (o : Oper) (ev : Operand → Option AV) (bl : Nat → Option Blk) : Option Out :=
  match o.op with
  | .move x => match ev x with | some v => some ⟨True, some v, []⟩ | none => none
  | .assign x => match ev x with | some v => some ⟨True, some v, []⟩ | none => none
  | .pick c x y => match sv (ev c) with
    | some (.bool b) => match ev (match b with | true => x | false => y) with | some v => some ⟨True, some v, []⟩ | none => none
    | _ => none
  | .alloc t => match P.info? t with
    | some i => match i.zero with
      | some z => match dcCV z with | some y => some ⟨True, some (V (.ptr nm 0)), [(nm, some (.var t y.l))]⟩ | none => none
      | none => none
    | none => none
  | .box t x => match ev x with | some (.c y) => some ⟨True, some (V (.ptr nm 0)), [(nm, some (.var t y.l))]⟩ | _ => none
  | .build t ps => match fBuild P ev t ps.toList with | some v => some ⟨True, some v, []⟩ | none => none
  | .buildSlice t len ps => match fBuildSlice P ev t len ps.toList an.ty? nm with | some (v, B) => some ⟨True, some v, [(nm, some B)]⟩ | none => none
  | .load t x => match sv (ev x) with
    | some y => match fLoad P bl t y with
      | some (.c ⟨false, [z]⟩) => some (outS an True z)
      | some v => some ⟨True, some v, []⟩
      | none => none
    | none => none
  | .store t x y => match sv (ev x), ev y with
    | some u, some (.c v) => match fStore P bl t u v with | some (b, B) => some ⟨True, none, [(b, some B)]⟩ | none => none
    | _, _ => none
  | .nilCheck x => match sv (ev x) with
    | some y => match y with | .ptr _ _ | .ep _ _ _ _ | .rp _ _ _ _ | .fn _ _ => some ⟨True, some (V y), []⟩ | _ => none
    | none => none
  | .binOp op t x y _ => match sv (ev x), sv (ev y) with
    | some u, some v => match fBin op u v with
      | some (c, z) => match u, P.underlying t with
        | .bool _, some .bool => some (outS an c.p z)
        | .bool _, _ => none
        | _, _ => some (outS an c.p z)
      | none => none
    | _, _ => match ev x, ev y with
      | some (.c ⟨true, l⟩), some (.c ⟨true, l'⟩) => match fEq P 20 t (.c ⟨true, l⟩) (.c ⟨true, l'⟩), P.eqGuardType P.depth t with
        | some r, false => match op with | .eql => some (outS an True (.bool r)) | .neq => some (outS an True (.bool (!r))) | _ => none
        | _, _ => none
      | _, _ => none
  | .unOp op _ x => match sv (ev x) with | some u => (match fUn op u with | some z => some (outS an True z) | none => none) | none => none
  | .convert s d x => match sv (ev x) with | some u => (match fConv P s d u with | some z => some (outS an True z) | none => none) | none => none
  | .makeFunc (.func f) fs cs => match fs.toList, cs.toList, capOf ev cs.toList with
    | [], _, some l => some ⟨True, some (V (.fn f l)), []⟩
    | [x], [], _ => match sv (ev x) with | some (.ptr b off) => some ⟨True, some (V (.bm f b off)), []⟩ | _ => none
    | _, _, _ => none
  | .makeSlice t l c => match sv (ev l), sv (ev c), an.ty? with
    | some x, some y, some ty => match fMake P t x y ty nm with | some (q, v, B) => some ⟨q.p, some v, [(nm, some B)]⟩ | none => none
    | _, _, _ => none
  | .slice t x lo hi none => match sv (ev x), endOf ev lo, endOf ev hi with
    | some y, some l, some k => match an with
      | .hit _ => match fCut P bl t y l k nm with | some (c, r, ub) => some ⟨c.p, some r, ub⟩ | none => none
      | _ => match fSlice P bl t y l k with | some (c, z) => some ⟨c.p, some (V z), []⟩ | none => none
    | _, _, _ => none
  | .fieldAddr s x f => match sv (ev x) with | some y => (match fField P s f y with | some z => some ⟨True, some (V z), []⟩ | none => none) | none => none
  | .field s x f => match ev x with | some y => (match fFieldV P s f y with | some z => some ⟨True, some z, []⟩ | none => none) | none => none
  | .indexAddr t x i => match sv (ev x), sv (ev i) with | some y, some j => (match fIndex P bl t y j with | some (c, z) => some ⟨c.p, some (V z), []⟩ | none => none) | _, _ => none
  | .index t x i => match ev x, sv (ev i) with | some y, some j => (match fIndexV P t j y with | some (c, z) => some ⟨c.p, some z, []⟩ | none => none) | _, _ => none
  | .extract x i => match ev x with
    | some (.t xs) => match xs[i]? with
      | some ⟨false, [z]⟩ => some (outS an True z)
      | some y => some ⟨True, some (.c y), []⟩
      | none => none
    | _ => none
  | .makeMap t none => match mapD P t with
    | some (ka, kt, va, vt) => some ⟨True, some (V (.map nm)), [(nm, some (.map ka kt va vt []))]⟩
    | none => some ⟨True, some (V (.map nm)), [(nm, some (.tab []))]⟩
  | .insert t x i y => match sv (ev x), ev i, ev y with
    | some u, some (.c k), some (.c v) => match fInsD P bl t u k v with
      | some (b, B) => some ⟨True, none, [(b, some B)]⟩
      | none => match sv (ev i) with
        | some k' => match fInsert P bl t u k' v with | some (b, B) => some ⟨True, none, [(b, some B)]⟩ | none => none
        | none => none
    | _, _, _ => none
  | .mapUpdate t x i y => match sv (ev x), ev i, ev y with
    | some u, some (.c k), some (.c v) => match fInsD P bl t u k v with
      | some (b, B) => some ⟨True, none, [(b, some B)]⟩
      | none => match sv (ev i) with
        | some k' => match fInsert P bl t u k' v with | some (b, B) => some ⟨True, none, [(b, some B)]⟩ | none => none
        | none => none
    | _, _, _ => none
  | .lookup t x i ok => match an with
    | .hit j => match sv (ev x), sv (ev i) with
      | some y, some k => match fLook P bl t y k ok j with | some (c, v) => some ⟨c.p, some v, []⟩ | none => none
      | _, _ => none
    | _ => match sv (ev x), ev i with
      | some y, some (.c k) => match fLookD P bl t y k ok with | some v => some ⟨True, some v, []⟩ | none => none
      | _, _ => none
  | .call ⟨.builtin .len, xs, ts⟩ => match xs.toList, ts.toList with
    | [x], [t] => match sv (ev x), P.underlying t with
      | some (.str s), some .string => some ⟨True, some (V (.int .i64 s.size)), []⟩
      | some y, some (.slice _) => match lenOf bl y with | some n => some ⟨True, some (V (.int .i64 n)), []⟩ | none => none
      | some (.map b), some (.map _ _) => match bl b with | some (.map _ _ _ _ l) => some ⟨True, some (V (.int .i64 l.length)), []⟩ | _ => none
      | _, _ => none
    | _, _ => none
  | .call ⟨.builtin .cap, xs, ts⟩ => match xs.toList, ts.toList with
    | [x], [t] => match sv (ev x), P.underlying t with
      | some .nilsl, some (.slice _) => some ⟨True, some (V (.int .i64 0)), []⟩
      | _, _ => none
    | _, _ => none
  | .call ⟨.builtin .copy, xs, ts⟩ => match xs.toList with
    | [x, y] => match sv (ev x), sv (ev y) with
      | some u, some v => match fCopy P bl ts.toList u v with | some (b, B, n) => some ⟨True, some (V (.int .i64 n)), [(b, some B)]⟩ | none => none
      | _, _ => none
    | _ => none
  | .call ⟨.builtin .min, xs, _⟩ => match xs.toList with
    | [x, y] => match sv (ev x), sv (ev y) with
      | some (.int k a), some (.int _ b) => some ⟨True, some (V (.int k (if b < a then b else a))), []⟩
      | _, _ => none
    | _ => none
  | .call ⟨.builtin .max, xs, _⟩ => match xs.toList with
    | [x, y] => match sv (ev x), sv (ev y) with
      | some (.int k a), some (.int _ b) => some ⟨True, some (V (.int k (if b > a then b else a))), []⟩
      | _, _ => none
    | _ => none
  | .call ⟨.builtin .append, xs, ts⟩ => match xs.toList with
    | [x, y] => match sv (ev x), sv (ev y) with
      | some u, some v => match fApp P bl ts.toList u v nm with
        | some (c, r, ub) => some ⟨c.p, some r, ub⟩
        | none => match fAppZ P an.ty? ts.toList u v nm with | some (c, r, ub) => some ⟨c.p, some r, ub⟩ | none => none
      | _, _ => none
    | _ => none
  | .call ⟨.value fo, xs, _⟩ => match an, sv (ev fo), mapO ev xs.toList with
    | .co vw hs res cbl', some (.fn f cap), some us => match P.funcs[f]?, mapO (fun b => match bl b with | some B => some (b, B) | none => none) hs with
      | some fn, some cbl => match fn.name == "runtime.NumGoroutine", fn.body.isSome, callOk vw cbl cbl' res (nws nm) with
        | false, true, true => some (@Out.mk (Spec P (.fn f) ((us ++ caps cap).map (vwAV bl vw)) cbl res cbl') (some res) (callUb cbl cbl') (Classical.propDecidable _))
        | _, _, _ => none
      | _, _ => none
    | .co vw hs res cbl', some (.bm f b off), some us => match P.funcs[f]?, mapO (fun b => match bl b with | some B => some (b, B) | none => none) hs with
      | some fn, some cbl => match fn.name == "runtime.NumGoroutine", fn.body.isSome, callOk vw cbl cbl' res (nws nm) with
        | false, true, true => some (@Out.mk (Spec P (.fn f) ((V (.ptr b off) :: us).map (vwAV bl vw)) cbl res cbl') (some res) (callUb cbl cbl') (Classical.propDecidable _))
        | _, _, _ => none
      | _, _ => none
    | _, _, _ => none
  | _ => none
theorem mapO_mem {α β : Type} {f : α → Option β} : ∀ {l : List α} {r : List β}, mapO f l = some r → ∀ y ∈ r, ∃ x ∈ l, f x = some y
  | [], r, h, y, hy => by cases h; cases hy
  | a :: l, r, h, y, hy => by
    simp only [mapO] at h
    split at h <;> cases h
    rename_i b l' h1 h2
    rcases List.mem_cons.1 hy with rfl | hy
    · exact ⟨a, List.mem_cons_self, h1⟩
    · obtain ⟨x, hx, e⟩ := mapO_mem h2 y hy
      exact ⟨x, List.mem_cons_of_mem _ hx, e⟩
theorem arr1 {α : Type} {xs : Array α} {x : α} (h : xs.toList = [x]) : xs = #[x] := by rw [← Array.toArray_toList (xs := xs), h]
theorem arr2 {α : Type} {xs : Array α} {x y : α} (h : xs.toList = [x, y]) : xs = #[x, y] := by rw [← Array.toArray_toList (xs := xs), h]
theorem arr0 {α : Type} {xs : Array α} (h : xs.toList = []) : xs = #[] := by rw [← Array.toArray_toList (xs := xs), h]
theorem stp0_does {P : Program} {an : An} {nm : Nat} {o : Oper} {ev : Operand → Option AV} {bl : Nat → Option Blk} {out : Out} (h : stp0 P an nm o ev bl = some out) : Does P o ev bl (nws nm) out := by
  have hnm : nm ∈ nws nm := mem_nws.2 ⟨Nat.le_refl _, by omega⟩
  unfold stp0 at h
  split at h
  · rename_i x ho
    split at h <;> cases h
    exact does_move (.inl ho) (by assumption)
  · rename_i x ho
    split at h <;> cases h
    exact does_move (.inr ho) (by assumption)
  · rename_i c x y ho
    split at h <;> (try cases h)
    rename_i b hc
    split at h <;> cases h
    rename_i v hv
    exact does_pick ho hc (by cases b <;> rfl) hv
  · rename_i t ho
    split at h <;> (try cases h)
    split at h <;> (try cases h)
    split at h <;> cases h
    exact does_alloc ho (by assumption) (by assumption) (by assumption) hnm
  · rename_i t x ho
    split at h <;> cases h
    exact does_box ho (by assumption) hnm
  · rename_i t ps ho
    split at h <;> cases h
    exact does_build ho (by assumption)
  · rename_i t len ps ho
    split at h <;> cases h
    exact does_buildSlice ho hnm (by assumption)
  · rename_i t x ho
    split at h <;> (try cases h)
    rename_i y hy
    split at h <;> cases h
    · exact does_loadS ho hy (by assumption)
    · exact does_load ho hy (by assumption)
  · rename_i t x y ho
    split at h <;> (try cases h)
    rename_i u v h1 h2
    split at h <;> cases h
    exact does_store ho h1 h2 (by assumption)
  · rename_i x ho
    split at h <;> (try cases h)
    rename_i y hy
    split at h <;> cases h <;> exact does_nilCheck ho hy rfl
  · rename_i op t x y t' ho
    split at h
    · rename_i u v h1 h2
      split at h <;> (try cases h)
      rename_i c z h3
      split at h <;> cases h
      · exact does_bin ho h1 h2 (fun _ => by assumption) h3
      · rename_i hne
        exact does_bin ho h1 h2 (fun ⟨a, b, e, _⟩ => by subst e; rename_i q _; exact absurd rfl (q a)) h3
    · split at h <;> (try cases h)
      rename_i l l' h1 h2
      split at h <;> (try cases h)
      rename_i r h3 h4
      split at h <;> cases h
      · exact does_eqA ho h1 h2 h3 h4 (.inl ⟨rfl, rfl⟩)
      · exact does_eqA ho h1 h2 h3 h4 (.inr ⟨rfl, rfl⟩)
  · rename_i op t x ho
    split at h <;> (try cases h)
    split at h <;> cases h
    exact does_un ho (by assumption) (by assumption)
  · rename_i s d x ho
    split at h <;> (try cases h)
    split at h <;> cases h
    exact does_conv ho (by assumption) (by assumption)
  · rename_i f fs cs ho
    split at h <;> (try cases h)
    · rename_i l h1 h2
      rw [arr0 h1] at ho
      exact does_makeFunc ho h2
    · split at h <;> cases h
      have h1 : fs = #[_] := arr1 (by assumption)
      have h2 : cs = #[] := arr0 (by assumption)
      rw [h1, h2] at ho
      exact does_makeFuncB ho (by assumption)
  · rename_i t l c ho
    split at h <;> (try cases h)
    split at h <;> cases h
    exact does_makeSlice ho hnm (by assumption) (by assumption) (by assumption)
  · rename_i t x lo hi ho
    split at h <;> (try cases h)
    split at h
    · split at h <;> cases h
      exact does_cut ho (by assumption) (by assumption) (by assumption) hnm (by assumption)
    · split at h <;> cases h
      exact does_slice ho (by assumption) (by assumption) (by assumption) (by assumption)
  · rename_i s x f ho
    split at h <;> (try cases h)
    split at h <;> cases h
    exact does_field ho (by assumption) (by assumption)
  · rename_i s x f ho
    split at h <;> (try cases h)
    split at h <;> cases h
    exact does_fieldV ho (by assumption) (by assumption)
  · rename_i t x i ho
    split at h <;> (try cases h)
    split at h <;> cases h
    exact does_index ho (by assumption) (by assumption) (by assumption)
  · rename_i t x i ho
    split at h <;> (try cases h)
    split at h <;> cases h
    exact does_indexV ho (by assumption) (by assumption) (by assumption)
  · rename_i x i ho
    split at h <;> (try cases h)
    rename_i xs hx
    split at h <;> cases h
    · exact does_extractS ho hx (by assumption)
    · exact does_extract ho hx (by assumption)
  · rename_i t ho
    split at h <;> cases h
    · exact does_makeMapD ho hnm
    · exact does_makeMap ho hnm
  · rename_i t x i y ho
    split at h <;> (try cases h)
    split at h <;> (try cases h)
    · exact does_insD (.inl ho) (by assumption) (by assumption) (by assumption) (by assumption)
    · split at h <;> (try cases h)
      split at h <;> cases h
      exact does_insert (.inl ho) (by assumption) (by assumption) (by assumption) (by assumption)
  · rename_i t x i y ho
    split at h <;> (try cases h)
    split at h <;> (try cases h)
    · exact does_insD (.inr ho) (by assumption) (by assumption) (by assumption) (by assumption)
    · split at h <;> (try cases h)
      split at h <;> cases h
      exact does_insert (.inr ho) (by assumption) (by assumption) (by assumption) (by assumption)
  · rename_i t x i ok ho
    split at h
    · split at h <;> (try cases h)
      split at h <;> cases h
      exact does_lookup ho (by assumption) (by assumption) (by assumption)
    · split at h <;> (try cases h)
      split at h <;> cases h
      exact does_lookD ho (by assumption) (by assumption) (by assumption)
  · rename_i xs ts ho
    split at h <;> (try cases h)
    rename_i x t h1 h2
    rw [arr1 h1, arr1 h2] at ho
    split at h <;> (try cases h)
    · exact does_lenS ho (by assumption) (by assumption)
    · split at h <;> cases h
      exact does_len ho (by assumption) (by assumption) (by assumption)
    · split at h <;> cases h
      exact does_lenM ho (by assumption) (by assumption) (by assumption)
  · rename_i xs ts ho
    split at h <;> (try cases h)
    rename_i x t h1 h2
    rw [arr1 h1, arr1 h2] at ho
    split at h <;> cases h
    exact does_cap0 ho (by assumption) (by assumption)
  · rename_i xs ts ho
    split at h <;> (try cases h)
    rename_i x y h1
    rw [arr2 h1] at ho
    split at h <;> (try cases h)
    split at h <;> cases h
    exact does_copy ho (by assumption) (by assumption) (by assumption)
  · rename_i xs ts ho
    split at h <;> (try cases h)
    rename_i x y h1
    rw [arr2 h1] at ho
    split at h <;> cases h
    exact does_min ho (by assumption) (by assumption)
  · rename_i xs ts ho
    split at h <;> (try cases h)
    rename_i x y h1
    rw [arr2 h1] at ho
    split at h <;> cases h
    exact does_max ho (by assumption) (by assumption)
  · rename_i xs ts ho
    split at h <;> (try cases h)
    rename_i x y h1
    rw [arr2 h1] at ho
    split at h <;> (try cases h)
    split at h
    · cases h
      exact does_app ho (by assumption) (by assumption) hnm (by assumption)
    · split at h <;> cases h
      exact does_appZ ho (by assumption) (by assumption) hnm (by assumption)
  · rename_i fo xs ts ho
    split at h <;> (try cases h)
    · rename_i vw hs res cbl' f cap us h1 h2
      split at h <;> (try cases h)
      rename_i fn cbl h3 h4
      split at h <;> cases h
      rename_i h5 h6 h7
      refine does_call ho h1 h3 h5 h6 h2 (fun p hp => ?_) h7
      obtain ⟨b, hb, e⟩ := mapO_mem h4 p hp
      split at e <;> cases e
      assumption
    · rename_i vw hs res cbl' f b off us h1 h2
      split at h <;> (try cases h)
      rename_i fn cbl h3 h4
      split at h <;> cases h
      rename_i h5 h6 h7
      refine does_callB ho h1 h3 h5 h6 h2 (fun p hp => ?_) h7
      obtain ⟨b, hb, e⟩ := mapO_mem h4 p hp
      split at e <;> cases e
      assumption
  · cases h
theorem stp0_nodefer {P : Program} {an : An} {nm : Nat} {o : Oper} {ev : Operand → Option AV} {bl : Nat → Option Blk} {out : Out} (h : stp0 P an nm o ev bl = some out) : ∀ c, o.op ≠ .defer c := by
  intro c e
  unfold stp0 at h
  rw [e] at h
  cases h
theorem Fz_fn (ρ : Option Nat) (f : FuncId) : (Fz ρ).fn f := by cases ρ <;> trivial
theorem Fz_depth (ρ : Option Nat) : (Fz ρ).depth.isSome = true → 1 ≤ 0 := by cases ρ <;> (intro h; cases h)
theorem callsIn_Fz {ρ : Option Nat} {n : Nat} {P : Program} {f : FuncId} {args : Array Value} {w : World} {R : Ending → World → Prop} (h : Calls P f args w R) : CallsIn (Fz ρ) n P f args w R := by
  cases ρ with
  | none => exact callsIn_wide.2 h
  | some l => exact callsIn_wide.2 h
theorem rowsIn_Fz {ρ : Option Nat} {n : Nat} {P : Program} {row : String} {args : Array Value} {w : World} {R : Value → World → Prop} (h : Rows P row args w R) : RowsIn (Fz ρ) n P row args w R := by
  intro c cs _
  obtain ⟨v, w', r, s⟩ := h c cs
  refine ⟨v, w', r, ?_⟩
  cases ρ with
  | none => exact stepsIn_wide.2 s
  | some l => exact stepsIn_wide.2 s
/-- In a round an operation is carried out as everywhere. -/
theorem wpIn_of_wp {P : Program} {ρ : Option Nat} {o : Oper} {a : Act} {w : World} {K : Act → World → Prop} {Q : Exit → Act → World → Prop} (hd : ∀ c, o.op ≠ .defer c) (h : o.wp P a w K Q) : o.wpIn (Fz ρ) 0 P a w K Q := by
  refine ⟨fun f _ => Fz_fn ρ f, ?_⟩
  rw [Oper.semAt_eq _ _ _ hd]
  unfold Oper.wp at h
  generalize (execOp a.eval o).run P w = r at h ⊢
  cases r with
  | ok x w' =>
    cases x with
    | value v => exact h
    | skip => exact h
    | defer d => exact h
    | enter f args => exact ⟨Fz_depth ρ, callsIn_Fz (h.mono fun e w'' he => by cases e <;> exact he)⟩
    | row row args => exact ⟨Fz_depth ρ, rowsIn_Fz h⟩
    | _ => exact h.elim
  | halt x w' => cases x <;> exact h
/-- As 'Does', in a function's frame and in a round's. -/
def DoesI (P : Program) (o : Oper) (ev : Operand → Option AV) (bl : Nat → Option Blk) (nw : List Nat) (out : Out) : Prop :=
  ∀ (ρ : Option Nat) (E : Ent) (st : St) (m : Mp) (a : Act) (w : World), OK E st m a w → (∀ x u, ev x = some u → u.R w m (a.eval x)) → (∀ b B, bl b = some B → st.b b = some B) → (∀ n ∈ nw, ¬ st.has n ∧ 100 ≤ n) → (∀ x u, ev x = some u → ∀ b ∈ u.ns, st.has b) → (∀ d, o.dst = some d → d < E.n) → out.c →
    ∀ K Q, (∀ a' w' m', OK E (st.app o.dst out) m' a' w' → K a' w') → o.wpIn (Fz ρ) 0 P a w K Q
theorem Does.i {P : Program} {o : Oper} {ev : Operand → Option AV} {bl : Nat → Option Blk} {nw : List Nat} {out : Out} (h : Does P o ev bl nw out) (hd : ∀ c, o.op ≠ .defer c) : DoesI P o ev bl nw out :=
  fun ρ E st m a w ok h1 h2 h3 h4 h5 hc K Q hK => wpIn_of_wp hd (h E st m a w ok h1 h2 h3 h4 h5 hc K Q hK)
theorem roundIn_Fz {ρ : Option Nat} {P : Program} {l : Nat} {f : FuncId} {tmps : Array Value} {x y : Code} {w : World} {R : Ending → World → Prop} (h : RoundIn Fence.wide 0 P l f tmps x y w R) : RoundIn (Fz ρ) 0 P l f tmps x y w R := by
  cases ρ <;> exact h
/-- A call of yield. -/
theorem does_yield {P : Program} {o : Oper} {ev : Operand → Option AV} {bl : Nat → Option Blk} {nw : List Nat} {fo : Operand} {ops : Array Operand} {tys : Array TypeId} {b k : Nat} {cap : List Nat} {us : List AV} {vw : List Nat} {cbl cbl' : List (Nat × Blk)} {res : AV}
    (ho : o.op = .call ⟨.value fo, ops, tys⟩) (hf : sv (ev fo) = some (.yld b cap)) (hus : mapO ev ops.toList = some us) (hbl : ∀ p ∈ cbl, bl p.1 = some p.2) (hok : callOk vw cbl cbl' res nw = true) :
    DoesI P o ev bl nw (@Out.mk (Spec P (.yl k) ((V (.yld b cap) :: us).map (vwAV bl vw)) cbl res cbl') (some res) (callUb cbl cbl') (Classical.propDecidable _)) := by
  intro ρ E st m a w ok hev hblk hnw hns hd hc K Q hK
  have hfv := sv_R hf (fun u hu => hev fo u hu)
  have hcall := call_ok (vs := a.eval fo :: ops.toList.map a.eval) (us := V (.yld b cap) :: us) ok hblk hnw hbl hok ⟨CV.R_one hfv, mapO_R hev hus⟩ hc
  obtain ⟨l, args, f, tmps, x, y, h1, h2, h3⟩ := hcall
  simp only [List.cons.injEq] at h1
  obtain ⟨e1, e2⟩ := h1
  subst e2
  refine ⟨fun f _ => Fz_fn ρ f, ?_⟩
  have hrun : (execOp a.eval o).run P w = .ok (.round l f tmps x y) w := by
    have e3 : (ops.toList.map a.eval).toArray = ops.map a.eval := by apply Array.ext'; simp
    rw [e3] at h2
    simp only [execOp, ho, resolve, e1, Deferred.ofValue, Sem.run_bind, Sem.run_pure, Result.andThen_ok, invoke, Array.empty_append, h2]
  rw [Oper.semAt_eq _ _ _ (by rw [ho]; intro c e; cases e), hrun, Oper.uponIn_round]
  refine ⟨Fz_depth ρ, RoundIn.mono (roundIn_Fz h3) fun e w' ⟨v, m2, he, ok2, hres2, _⟩ => ?_⟩
  subst he
  exact hK _ _ m2 (ok2.put o.dst (some res) v hd fun q hq => by cases hq; exact hres2)
/-- What is called: its key, and its arguments. -/
def calOf (bl : Nat → Option Blk) (x : SV) (us : List AV) : Option (Key × List AV) :=
  match x with
  | .fn f cap => some (.fn f, us ++ caps cap)
  | .bm f b off => some (.fn f, V (.ptr b off) :: us)
  | .yld b cap => match bl b with | some (.lop k _ _) => some (.yl k, V (.yld b cap) :: us) | _ => none
  | _ => none
def yldOf (o : Oper) (ev : Operand → Option AV) : Option (Nat × List Nat × List Operand) :=
  match o.op with
  | .call ⟨.value fo, xs, _⟩ => match sv (ev fo) with | some (.yld b cap) => some (b, cap, xs.toList) | _ => none
  | _ => none
def hsOf (bl : Nat → Option Blk) (hs : List Nat) : Option (List (Nat × Blk)) := mapO (fun b => match bl b with | some B => some (b, B) | none => none) hs
theorem app_e0 (st : St) (d : Option Nat) (o : Out) (t : Nat) : (st.app d o).e t = if d = some t then o.v else st.e t := by
  unfold St.app
  cases d with
  | none =>
    have : ((st.setbs o.ub).put none o.v).e t = (st.setbs o.ub).e t := by cases o.v <;> rfl
    rw [this, setbs_e, if_neg (by simp)]
  | some d =>
    rw [St.put_e, setbs_e]
    by_cases h : d = t
    · subst h; simp
    · simp [h]
theorem app_b0 (st : St) (d : Option Nat) (o : Out) (b : Nat) : (st.app d o).b b = match lk o.ub.reverse b with | some B => B | none => st.b b := by
  unfold St.app
  rw [St.put_b, setbs_b]
  cases lk o.ub.reverse b <;> rfl
/-- Own slices told as slices that are read, in a state told anew. -/
theorem OK.vw {E : Ent} {st st2 : St} {m : Mp} {a : Act} {w : World} (ok : OK E st m a w) {vw : List Nat} (he : ∀ t v, st2.e t = some v → ∃ u, st.e t = some u ∧ (v = vwAV st.b vw u ∨ v = u)) (hbl : ∀ b B, st2.b b = some B → st.b b = some B ∧ b ∉ vw) : OK E st2 (m.vw st.b vw) a w := by
  have hb : ∀ b B, st.b b = some B → B.R w m b := ok.blk
  have g := goes_vw w m st.b vw
  refine ⟨ok.defers.go rfl fun r p => ⟨p.is, p.own, fun hs => by
      rcases hs with hs | ⟨c, hc, ⟨D, hD⟩, hnc, e⟩
      · exact p.noS hs
      · exact p.no c D hD hnc e, fun b B hB hn => p.no b B (hbl b B hB).1 hn⟩, ok.tmps, fun t v hv => ?_, fun b B hB => ?_, fun b B hB hn => ?_, fun b c B C hB hC hn hn' e => ok.inj b c B C (hbl b B hB).1 (hbl c C hC).1 hn hn' e, fun k hk => ?_, ok.le, ok.frame, fun k hk => .inl (ok.sup k hk), fun k hk => ?_, ok.fix, ok.io⟩
  · obtain ⟨u, hu, rfl | rfl⟩ := he t v hv
    · exact vwAV_R hb (ok.env t u hu)
    · exact AV.R_goes g (fun _ _ => trivial) (ok.env t v hu)
  · exact Blk.R_goes g trivial (fun _ => rfl) (fun _ _ => trivial) (ok.blk b B (hbl b B hB).1)
  · obtain ⟨hB, hno⟩ := hbl b B hB
    obtain ⟨q1, q2⟩ := ok.own b B hB hn
    refine ⟨fun hs => ?_, q2⟩
    rcases hs with hs | ⟨c, hc, ⟨D, hD⟩, hnc, e⟩
    · exact q1 hs
    · exact hno (by rw [← ok.inj c b D B hD hB hnc hn e]; exact hc)
  · rcases hk with hk | ⟨c, hc, ⟨D, hD⟩, hnc, e⟩
    · exact ok.lt k hk
    · rw [← e]; exact Blk.R_lt (ok.blk c D hD) hnc
  · rcases hk with hk | ⟨c, hc, ⟨D, hD⟩, hnc, e⟩
    · exact ok.new k hk
    · rw [← e]; exact .inr ((ok.own c D hD hnc).2)
/-- A slice that was made just now, told as one that is read from here on. -/
def fzOut (x : Out) : Option Out :=
  match x.v with
  | some (.c ⟨false, [.own b sz]⟩) => match lk x.ub.reverse b with
    | some (some (.row ty t l)) => (match Nat.beq sz t.sz with | true => some (@Out.mk x.c (some (V (.row t l))) (x.ub ++ [(b, none)]) x.d) | false => none)
    | _ => none
  | _ => none
theorem DoesI.fz {P : Program} {o : Oper} {ev : Operand → Option AV} {bl : Nat → Option Blk} {nw : List Nat} {x out : Out} (h : DoesI P o ev bl nw x) (hx : fzOut x = some out) : DoesI P o ev bl nw out := by
  unfold fzOut at hx
  split at hx <;> (try cases hx)
  rename_i b sz hv
  split at hx <;> (try cases hx)
  rename_i ty t l hl
  split at hx <;> cases hx
  rename_i hsz
  intro ρ E st m a w ok h1 h2 h3 h4 h5 hc K Q hK
  refine h ρ E st m a w ok h1 h2 h3 h4 h5 hc K Q fun a' w' m' ok' => ?_
  have hb : (st.app o.dst x).b b = some (.row ty t l) := by rw [app_b0, hl]
  refine hK a' w' _ (ok'.vw (vw := [b]) (fun t' v hv' => ?_) fun c B hB => ?_)
  · rw [app_e0] at hv' ⊢
    split at hv'
    · rename_i hd
      rw [if_pos hd]
      cases hv'
      refine ⟨_, hv, .inl ?_⟩
      have hm : memN b [b] = true := memN_iff.2 List.mem_cons_self
      show V (.row t l) = V (vwSV (st.app o.dst x).b [b] (.own b sz))
      simp only [vwSV, hb, hm, hsz]
    · rename_i hd
      rw [if_neg hd]
      exact ⟨v, hv', .inr rfl⟩
  · rw [app_b0] at hB ⊢
    rw [List.reverse_append] at hB
    have e : lk (([(b, none)] : List (Nat × Option Blk)).reverse ++ x.ub.reverse) c = if b = c then some none else lk x.ub.reverse c := by
      show lk ((b, none) :: x.ub.reverse) c = _
      rw [lk_cons]
    rw [e] at hB
    split at hB
    · rename_i h; split at h
      · cases h; cases hB
      · rename_i hbc
        rw [h]
        exact ⟨hB, fun hm => hbc (List.mem_singleton.1 hm).symm⟩
    · rename_i h; split at h
      · cases h
      · rename_i hbc
        rw [h]
        exact ⟨hB, fun hm => hbc (List.mem_singleton.1 hm).symm⟩
def frzU (an : An) (x : Option Out) : Option Out := match an with
  | .fz => match x with | some y => fzOut y | none => none
  | _ => x
/-- Blocks that come back from a call as they were. -/
def repl (bl : Nat → Option Blk) (qs : List Nat) (l : List (Nat × Blk)) : List (Nat × Blk) := l.map fun p => match memN p.1 qs, bl p.1 with | true, some B => (p.1, B) | _, _ => p
def keyQ {α : Type} (l : List (Nat × α)) : List Nat := l.map (·.1)
def quOk (bl : Nat → Option Blk) (qs : List Nat) (l : List (Nat × Blk)) : Bool := qs.all fun q => memN q (keyQ l) && (bl q).isSome
theorem repl_keys {bl : Nat → Option Blk} {qs : List Nat} : ∀ {l : List (Nat × Blk)}, keyQ (repl bl qs l) = keyQ l
  | [] => rfl
  | p :: r => by
    have ih := repl_keys (bl := bl) (qs := qs) (l := r)
    show (match memN p.1 qs, bl p.1 with | true, some B => (p.1, B) | _, _ => p).1 :: keyQ (repl bl qs r) = p.1 :: keyQ r
    rw [ih]
    split <;> rfl
theorem repl_at {bl : Nat → Option Blk} {qs : List Nat} {l : List (Nat × Blk)} {p : Nat × Blk} {B : Blk} (h : p ∈ repl bl qs l) (hq : p.1 ∈ qs) (hB : bl p.1 = some B) : p.2 = B := by
  obtain ⟨q, -, e⟩ := List.mem_map.1 h
  have e1 : q.1 = p.1 := by rw [← e]; split <;> rfl
  have hm : memN q.1 qs = true := memN_iff.2 (by rw [e1]; exact hq)
  rw [hm, show bl q.1 = some B from by rw [e1]; exact hB] at e
  rw [← e]
theorem lk_all {α : Type} {c : Nat} {v : α} : ∀ {l : List (Nat × α)}, c ∈ keyQ l → (∀ p ∈ l, p.1 = c → p.2 = v) → lk l c = some v
  | [], h, _ => by cases h
  | (n, x) :: r, h, ha => by
    rw [lk_cons]
    by_cases e : n = c
    · rw [if_pos e]; exact congrArg some (ha (n, x) List.mem_cons_self e)
    · rw [if_neg e]
      exact lk_all (by rcases List.mem_cons.1 h with q | q; · exact absurd q.symm e
                       · exact q) fun p hp => ha p (List.mem_cons_of_mem _ hp)
theorem lk_filtQ {α : Type} {qs : List Nat} {c : Nat} : ∀ {l : List (Nat × α)}, lk (l.filter fun p => !(memN p.1 qs)) c = if memN c qs = true then none else lk l c
  | [] => by split <;> rfl
  | (n, x) :: r => by
    have ih := lk_filtQ (qs := qs) (c := c) (l := r)
    by_cases h : memN n qs = true
    · rw [List.filter_cons_of_neg (by simp [h]), ih, lk_cons]
      by_cases e : n = c
      · subst e; rw [if_pos h, if_pos h]
      · rw [if_neg e]
    · rw [List.filter_cons_of_pos (by simp [h]), lk_cons, ih, lk_cons]
      by_cases e : n = c
      · subst e; rw [if_pos rfl, if_neg h, if_pos rfl]
      · rw [if_neg e, if_neg e]
theorem lk_app_some {α : Type} {c : Nat} {v : α} : ∀ {l r : List (Nat × α)}, lk l c = some v → lk (l ++ r) c = some v
  | [], _, h => by cases h
  | (n, x) :: l, r, h => by
    rw [List.cons_append, lk_cons]
    rw [lk_cons] at h
    split at h
    · rename_i e; rw [if_pos e]; exact h
    · rename_i e; rw [if_neg e]; exact lk_app_some h
def quO (qs : List Nat) (x : Out) : Out := @Out.mk x.c x.v (x.ub.filter fun p => !(memN p.1 qs)) x.d
theorem DoesI.qu {P : Program} {o : Oper} {ev : Operand → Option AV} {bl : Nat → Option Blk} {nw qs : List Nat} {x : Out} {cbl cbl2 : List (Nat × Blk)} (h : DoesI P o ev bl nw x) (hub : x.ub = callUb cbl (repl bl qs cbl2)) (hq : quOk bl qs cbl2 = true) : DoesI P o ev bl nw (quO qs x) := by
  intro ρ E st m a w ok h1 h2 h3 h4 h5 hc K Q hK
  refine h ρ E st m a w ok h1 h2 h3 h4 h5 hc K Q fun a' w' m' ok' => hK a' w' m' ?_
  have he : ∀ t, (st.app o.dst (quO qs x)).e t = (st.app o.dst x).e t := fun t => by rw [app_e0, app_e0]; rfl
  have hb : ∀ c, (st.app o.dst (quO qs x)).b c = (st.app o.dst x).b c := fun c => by
    rw [app_b0, app_b0]
    show (match lk (x.ub.filter fun p => !(memN p.1 qs)).reverse c with | some B => B | none => st.b c) = _
    rw [← List.filter_reverse, lk_filtQ]
    cases hm : memN c qs with
    | false => rw [if_neg (by simp)]
    | true =>
      rw [if_pos rfl]
      have hcq := memN_iff.1 hm
      have := List.all_eq_true.1 hq c hcq
      simp only [Bool.and_eq_true] at this
      obtain ⟨hk, hs⟩ := this
      obtain ⟨B, hB⟩ := Option.isSome_iff_exists.1 hs
      have hl : lk x.ub.reverse c = some (some B) := by
        rw [hub]
        unfold callUb
        rw [List.reverse_append]
        refine lk_app_some (lk_all ?_ fun p hp e => ?_)
        · have : c ∈ keyQ (repl bl qs cbl2) := by rw [repl_keys]; exact memN_iff.1 hk
          obtain ⟨p, hp, rfl⟩ := List.mem_map.1 this
          exact List.mem_map.2 ⟨(p.1, some p.2), List.mem_reverse.2 (List.mem_map.2 ⟨p, hp, rfl⟩), rfl⟩
        · obtain ⟨q, hq', rfl⟩ := List.mem_map.1 (List.mem_reverse.1 hp)
          have e : q.1 = c := e
          show some q.2 = some B
          rw [repl_at hq' (by rw [e]; exact hcq) (by rw [e]; exact hB)]
      rw [hl]
      exact h2 c B hB
  exact ⟨ok'.defers.go rfl fun r p => ⟨p.is, p.own, p.noS, fun b B hB hn => p.no b B (by rw [← hb]; exact hB) hn⟩, ok'.tmps, fun t v hv => ok'.env t v (by rw [← he]; exact hv), fun b B hB => ok'.blk b B (by rw [← hb]; exact hB), fun b B hB => ok'.own b B (by rw [← hb]; exact hB), fun b c B C hB hC => ok'.inj b c B C (by rw [← hb]; exact hB) (by rw [← hb]; exact hC), ok'.lt, ok'.le, ok'.frame, ok'.sup, ok'.new, ok'.fix, ok'.io⟩
theorem stp0_co {P : Program} {vw hs : List Nat} {res : AV} {cbl2 : List (Nat × Blk)} {nm : Nat} {o : Oper} {ev : Operand → Option AV} {bl : Nat → Option Blk} {out : Out} {fo : Operand} {ar : Array Operand} {ts : Array TypeId} (ho : o.op = .call ⟨.value fo, ar, ts⟩) (h : stp0 P (.co vw hs res cbl2) nm o ev bl = some out) : ∃ cbl, out.ub = callUb cbl cbl2 := by
  unfold stp0 at h
  rw [ho] at h
  simp only at h
  split at h <;> (try cases h)
  all_goals
    split at h <;> (try cases h)
    split at h <;> cases h
    cases ‹An.co vw hs res cbl2 = _›
    exact ⟨_, rfl⟩
def isVal (o : Oper) : Bool := match o.op with | .call ⟨.value _, _, _⟩ => true | _ => false
noncomputable def quX (P : Program) (an : An) (nm : Nat) (o : Oper) (ev : Operand → Option AV) (bl : Nat → Option Blk) : Option Out := match an with
  | .cq vw hs qs res cbl2 => match isVal o, quOk bl qs cbl2 with
    | true, true => (match stp0 P (.co vw hs res (repl bl qs cbl2)) nm o ev bl with | some x => some (quO qs x) | none => none)
    | _, _ => none
  | an => frzU an (stp0 P an nm o ev bl)
/-- What one operation does, of what is told of it; a call of yield, too. -/
noncomputable def stp (P : Program) (an : An) (nm : Nat) (o : Oper) (ev : Operand → Option AV) (bl : Nat → Option Blk) : Option Out :=
  match yldOf o ev with
  | some (b, cap, xs) => match an, mapO ev xs, bl b with
    | .co vw hs res cbl', some us, some (.lop k _ _) => match hsOf bl hs with
      | some cbl => match callOk vw cbl cbl' res (nws nm) with
        | true => some (@Out.mk (Spec P (.yl k) ((V (.yld b cap) :: us).map (vwAV bl vw)) cbl res cbl') (some res) (callUb cbl cbl') (Classical.propDecidable _))
        | false => none
      | none => none
    | _, _, _ => none
  | none => quX P an nm o ev bl
theorem stp_does {P : Program} {an : An} {nm : Nat} {o : Oper} {ev : Operand → Option AV} {bl : Nat → Option Blk} {out : Out} (h : stp P an nm o ev bl = some out) : DoesI P o ev bl (nws nm) out := by
  unfold stp at h
  split at h
  · rename_i b cap xs hy
    split at h <;> (try cases h)
    rename_i vw hs res cbl' us k _ _ hus hb
    split at h <;> (try cases h)
    rename_i cbl hcb
    split at h <;> cases h
    rename_i hok
    unfold yldOf at hy
    split at hy <;> (try cases hy)
    rename_i fo ar ts ho
    split at hy <;> cases hy
    rename_i hf
    refine does_yield ho hf hus (fun p hp => ?_) hok
    obtain ⟨b, hb, e⟩ := mapO_mem hcb p hp
    split at e <;> cases e
    assumption
  · unfold quX at h
    split at h
    · split at h <;> (try cases h)
      rename_i hv hq
      split at h <;> cases h
      rename_i x hx
      unfold isVal at hv
      split at hv <;> (try cases hv)
      rename_i ho
      obtain ⟨cbl, hub⟩ := stp0_co ho hx
      exact ((stp0_does hx).i (stp0_nodefer hx)).qu hub hq
    unfold frzU at h
    split at h
    · cases hs : stp0 P .fz nm o ev bl with
      | none => rw [hs] at h; cases h
      | some x =>
        rw [hs] at h
        exact ((stp0_does hs).i (stp0_nodefer hs)).fz h
    · exact (stp0_does h).i (stp0_nodefer h)
end Go.Proofs.Ytfjdhdmbbfeigaa.Am
