/- What operations make of a state: those that look at no memory. -/
import Derived.Test.YtfjdhdmbbfeigaaAmB
import Derived.Laws.Cells
import Derived.Laws.CopyRow
import Derived.Laws.Tables
import Derived.Laws.Small
import Derived.Laws.Cover3
namespace Go.Proofs.Ytfjdhdmbbfeigaa.Am
set_option linter.unusedVariables false
set_option linter.unusedSimpArgs false
/-- A condition that can be decided. -/
structure Cd where
  p : Prop
  [d : Decidable p]
instance (c : Cd) : Decidable c.p := c.d
/-- What an operation does: what must be so, what its temporary is then, which blocks are told anew. -/
structure Out where
  c : Prop
  v : Option AV
  ub : List (Nat × Option Blk)
  [d : Decidable c]
instance (o : Out) : Decidable o.c := o.d
def St.setbs (st : St) (ub : List (Nat × Option Blk)) : St := ub.foldl (fun s p => s.setb p.1 p.2) st
def St.app (st : St) (d : Option Nat) (o : Out) : St := (st.setbs o.ub).put d o.v
def Does (P : Program) (o : Oper) (ev : Operand → Option AV) (bl : Nat → Option Blk) (nw : List Nat) (out : Out) : Prop :=
  ∀ (E : Ent) (st : St) (m : Mp) (a : Act) (w : World), OK E st m a w → (∀ x u, ev x = some u → u.R w m (a.eval x)) → (∀ b B, bl b = some B → st.b b = some B) → (∀ n ∈ nw, ¬ st.has n ∧ 100 ≤ n) → (∀ x u, ev x = some u → ∀ b ∈ u.ns, st.has b) → (∀ d, o.dst = some d → d < E.n) → out.c →
    ∀ K Q, (∀ a' w' m', OK E (st.app o.dst out) m' a' w' → K a' w') → o.wp P a w K Q
/-- An operation that yields a value, and leaves the world as it is. -/
theorem Does.val {P : Program} {o : Oper} {ev : Operand → Option AV} {bl : Nat → Option Blk} {nw : List Nat} {c : Prop} [Decidable c] {v : AV}
    (h : c → ∀ (w : World) (m : Mp) (a : Act), (∀ x u, ev x = some u → u.R w m (a.eval x)) → (∀ b B, bl b = some B → B.R w m b) → ∃ val, (execOp a.eval o).run P w = .ok (.value val) w ∧ v.R w m val) : Does P o ev bl nw ⟨c, some v, []⟩ := by
  intro E st m a w ok hev hbl hnw hns hd hc K Q hK
  obtain ⟨val, hr, hv⟩ := h hc w m a hev fun b B hB => ok.blk b B (hbl b B hB)
  unfold Oper.wp
  rw [hr, Oper.upon_value]
  exact hK _ _ m (ok.put o.dst (some v) val hd fun x hx => by cases hx; exact hv)
/-- What a fixed value is. -/
def dcSV : Value → Option SV
  | .int k n => some (.int k n) | .bool b => some (.bool b) | .string s => some (.str s) | .pointer none => some .nilptr
  | .slice none 0 0 => some .nilsl | .map none => some .nilmap | .nilFunc => some .nilfn | _ => none
theorem dcSV_R {v : Value} {x : SV} (h : dcSV v = some x) (w : World) (m : Mp) : x.R w m v := by
  unfold dcSV at h
  split at h <;> first | (cases h; rfl) | cases h
def mapO {α β : Type} (f : α → Option β) : List α → Option (List β)
  | [] => some []
  | a :: r => match f a, mapO f r with | some b, some l => some (b :: l) | _, _ => none
theorem mapO_F2 {α β : Type} {f : α → Option β} {R : β → α → Prop} (hR : ∀ a b, f a = some b → R b a) : ∀ {l : List α} {l' : List β}, mapO f l = some l' → F2 R l' l
  | [], _, h => by cases h; trivial
  | a :: r, l', h => by
    simp only [mapO] at h
    split at h
    · rename_i b l'' h1 h2
      cases h
      exact ⟨hR a b h1, mapO_F2 hR h2⟩
    · cases h
def dcCV : Value → Option CV
  | .agg cs => match mapO dcSV cs.toList with | some l => some ⟨true, l⟩ | none => none
  | v => match dcSV v with | some x => some ⟨false, [x]⟩ | none => none
theorem CV.R_one {w : World} {m : Mp} {x : SV} {v : Value} (h : x.R w m v) : CV.R w m ⟨false, [x]⟩ v := by
  unfold CV.R
  exact ⟨x, rfl, h⟩
theorem CV.R_agg {w : World} {m : Mp} {l : List SV} {vs : Array Value} (h : F2 (SV.R w m) l vs.toList) : CV.R w m ⟨true, l⟩ (.agg vs) := by
  unfold CV.R
  exact ⟨vs, rfl, h⟩
theorem dcCV_R {v : Value} {x : CV} (h : dcCV v = some x) (w : World) (m : Mp) : x.R w m v := by
  unfold dcCV at h
  split at h
  · split at h
    · rename_i cs l hl
      cases h
      exact CV.R_agg (mapO_F2 (fun a b hb => dcSV_R hb w m) hl)
    · cases h
  · split at h
    · rename_i y hy
      cases h
      exact CV.R_one (dcSV_R hy w m)
    · cases h
/-- Operands. -/
def evO (env : Nat → Option AV) : Operand → Option AV
  | .tmp t => env t
  | .const v => match dcCV v with | some x => some (.c x) | none => none
  | .func f => some (V (.fn f []))
  | .global _ => none
theorem evO_R {env : Nat → Option AV} {w : World} {m : Mp} {a : Act} (h : ∀ t v, env t = some v → v.R w m (a.tmps.getD t undef)) (x : Operand) (u : AV) (hx : evO env x = some u) : u.R w m (a.eval x) := by
  cases x <;> simp only [evO] at hx
  case tmp t => exact h t u hx
  case const v =>
    split at hx
    · rename_i y hy
      cases hx
      exact dcCV_R hy w m
    · cases hx
  case func f => cases hx; exact CV.R_one rfl
  case global => cases hx
/-- A value of one cell. -/
def sv : Option AV → Option SV
  | some (.c ⟨false, [y]⟩) => some y
  | _ => none
theorem sv_R {w : World} {m : Mp} {o : Option AV} {y : SV} {v : Value} (h : sv o = some y) (hr : ∀ u, o = some u → u.R w m v) : y.R w m v := by
  unfold sv at h
  split at h
  · rename_i z
    cases h
    have := hr _ rfl
    simp only [AV.R, CV.R] at this
    obtain ⟨y, hy, hr⟩ := this
    simp only [List.cons.injEq, and_true] at hy
    subst hy
    exact hr
  · cases h
def shlI (k : IntKind) (a b : Int) : Int := k.wrap (a * 2 ^ (min b.toNat k.bits))
def shrI (k : IntKind) (a b : Int) : Int := a.fdiv (2 ^ (min b.toNat k.bits))
/-- Two numbers of a kind, and an operator. -/
def fInt (op : BinOp) (k : IntKind) (a b : Int) : Option (Cd × SV) :=
  match op with
  | .shl => some (⟨0 ≤ b⟩, .int k (shlI k a b))
  | .shr => some (⟨0 ≤ b⟩, .int k (shrI k a b))
  | .add => some (⟨True⟩, .int k (k.wrap (a + b)))
  | .sub => some (⟨True⟩, .int k (k.wrap (a - b)))
  | .mul => some (⟨True⟩, .int k (k.wrap (a * b)))
  | .quo => some (⟨b ≠ 0⟩, .int k (k.wrap (a.tdiv b)))
  | .rem => some (⟨b ≠ 0⟩, .int k (a.tmod b))
  | .and => some (⟨True⟩, .int k (bits .and k a b))
  | .or => some (⟨True⟩, .int k (bits .or k a b))
  | .xor => some (⟨True⟩, .int k (bits .xor k a b))
  | .eql => some (⟨True⟩, .bool (decide (a = b)))
  | .neq => some (⟨True⟩, .bool (decide (a ≠ b)))
  | .lss => some (⟨True⟩, .bool (decide (a < b)))
  | .leq => some (⟨True⟩, .bool (decide (a ≤ b)))
  | .gtr => some (⟨True⟩, .bool (decide (b < a)))
  | .geq => some (⟨True⟩, .bool (decide (b ≤ a)))
  | _ => none
theorem fInt_run {P : Program} {op : BinOp} {t : TypeId} {k : IntKind} {a b : Int} {c : Cd} {z : SV} (h : fInt op k a b = some (c, z)) (hc : c.p) {w : World} {m : Mp} :
    ∃ val, (binOp op t (.int k a) (.int k b)).run P w = .ok val w ∧ z.R w m val := by
  cases op <;> simp only [fInt, Option.some.injEq, Prod.mk.injEq, reduceCtorEq] at h <;> obtain ⟨rfl, rfl⟩ := h <;> (try dsimp only at hc) <;> simp only [SV.R, exists_eq_right]
  case shl => have : ¬ b < 0 := by omega
              simp [binOp, Op.shift, shlI, this]
  case shr => have : ¬ b < 0 := by omega
              simp [binOp, Op.shift, shrI, this]
  case quo => simp [binOp, Op.intDiv, hc]
  case rem => simp [binOp, Op.intDiv, hc]
  case and => simp [binOp, intBits_and]
  case or => simp [binOp, intBits_or]
  case xor => simp [binOp, intBits_xor]
  case eql => simp [binOp, Op.intCmp]; rfl
  case neq => simp [binOp, Op.intCmp]
              by_cases h : a = b <;> simp [h]
  all_goals simp [binOp, Op.intArith, Op.intCmp]
/-- Two values of one cell, and an operator. -/
def fBin (op : BinOp) : SV → SV → Option (Cd × SV)
  | .int k a, .int k' b =>
    match op with
    | .shl => some (⟨0 ≤ b⟩, .int k (shlI k a b))
    | .shr => some (⟨0 ≤ b⟩, .int k (shrI k a b))
    | _ =>
      match decide (k = k') with
      | false => none
      | true => fInt op k a b
  | .bool a, .bool b =>
    match op with
    | .eql => some (⟨True⟩, .bool (a == b))
    | .neq => some (⟨True⟩, .bool (a != b))
    | _ => none
  | .str a, .str b =>
    match op with
    | .eql => some (⟨True⟩, .bool (a.toList == b.toList))
    | .neq => some (⟨True⟩, .bool (!(a.toList == b.toList)))
    | _ => none
  | _, _ => none
/-- The guard of '==' asks nothing of values of one cell that are no interfaces. -/
theorem eqGuard_run {P : Program} {op : BinOp} {t : TypeId} {ox oy : Operand} {x y : SV} {w : World} {m : Mp} {u v : Value} (hx : x.R w m u) : (eqGuard op t ox oy u v).run P w = .ok () w := by
  have key : ∀ u : Value, (u matches .nilIface | .agg _) = false → (eqGuard op t ox oy u v).run P w = .ok () w := by
    intro u hu
    cases u <;> simp at hu <;> cases op <;> simp [eqGuard]
  refine key u ?_
  cases x <;> simp only [SV.R] at hx
  case row => obtain ⟨_, _, rfl, _⟩ := hx; rfl
  case own => split at hx; (subst hx; rfl); (obtain ⟨_, rfl, _⟩ := hx; rfl)
  case sub => split at hx; (obtain ⟨rfl, _⟩ := hx; rfl); (obtain ⟨_, _, rfl, _⟩ := hx; rfl)
  case rp => obtain ⟨_, _, _, _, rfl, _⟩ := hx; rfl
  case ep => obtain ⟨_, _, rfl⟩ := hx; rfl
  all_goals (subst hx; rfl)
theorem fBin_run {P : Program} {op : BinOp} {t : TypeId} {x y : SV} {c : Cd} {z : SV} (h : fBin op x y = some (c, z)) (hc : c.p) (hb : (∃ a b, x = .bool a ∧ y = .bool b) → P.underlying t = some .bool) {w : World} {m : Mp} {u v : Value} (hx : x.R w m u) (hy : y.R w m v) :
    ∃ val, (binOp op t u v).run P w = .ok val w ∧ z.R w m val := by
  cases x <;> cases y <;> simp only [fBin] at h <;> (try cases h)
  case int.int k a k' b =>
    simp only [SV.R] at hx hy
    subst hx; subst hy
    have key : ∀ op, (match decide (k = k') with | false => none | true => fInt op k a b) = some (c, z) → ∃ val, (binOp op t (.int k a) (.int k' b)).run P w = .ok val w ∧ z.R w m val := by
      intro op h
      by_cases hk : k = k'
      · subst hk
        rw [decide_eq_true rfl] at h
        exact fInt_run h hc
      · rw [decide_eq_false hk] at h
        cases h
    cases op
    case shl =>
      simp only [Option.some.injEq, Prod.mk.injEq] at h
      obtain ⟨rfl, rfl⟩ := h
      dsimp only at hc
      have : ¬ b < 0 := by omega
      simp [binOp, Op.shift, shlI, this, SV.R]
    case shr =>
      simp only [Option.some.injEq, Prod.mk.injEq] at h
      obtain ⟨rfl, rfl⟩ := h
      dsimp only at hc
      have : ¬ b < 0 := by omega
      simp [binOp, Op.shift, shrI, this, SV.R]
    all_goals exact key _ h
  case bool.bool a b =>
    simp only [SV.R] at hx hy
    subst hx; subst hy
    have hb := hb ⟨a, b, rfl, rfl⟩
    have he := run_equal_bool w t a b hb
    cases op <;> simp only [Option.some.injEq, Prod.mk.injEq, reduceCtorEq] at h <;> obtain ⟨rfl, rfl⟩ := h <;> simp [binOp, he, SV.R, bne]
  case str.str a b =>
    simp only [SV.R] at hx hy
    subst hx; subst hy
    cases op <;> simp only [Option.some.injEq, Prod.mk.injEq, reduceCtorEq] at h <;> obtain ⟨rfl, rfl⟩ := h <;> simp [binOp, Op.stringOp, SV.R]
end Go.Proofs.Ytfjdhdmbbfeigaa.Am
